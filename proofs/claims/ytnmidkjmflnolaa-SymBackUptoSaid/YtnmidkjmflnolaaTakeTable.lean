/- dragnetref06.TakeTable, in the printer's own form. -/
import Derived.Test.YtnmidkjmflnolaaReader
import Derived.Test.YtnmidkjmflnolaaP1
namespace Go.Proofs.Ytnmidkjmflnolaa.P
open Go.RowKit Go.Proofs.YtnmidkjmflnolaaW.PrintWords Go.Proofs.YtnmidkjmflnolaaW.PrintLast Go.Proofs.YtnmidkjmflnolaaW.PrintMore Go.Proofs.Ytnmidkjmflnolaa.Maps
attribute [local go_sem] max2_int min2_int max_two min_two max_three min_three max_four min_four
set_option linter.unusedVariables false
set_option linter.unusedSimpArgs false

theorem R_grown {α : Type} {enc : α → Value} {h1 : ∀ x, (enc x).oneCell' = true} {W W1 : World} {e base : Nat} {v : Value} {xs : List α} {row : Option Nat} (h : (Kd.scalar enc h1).R e W base (fun _ => True) v xs) (hg : W.grownBy W1 row) (hne : ∀ k, v.ownBlock = some k → some k ≠ row) : (Kd.scalar enc h1).R e W1 base (fun _ => True) v xs := by
  have ho := Kd.own_of_R h
  refine Kd.R_of_own ⟨ho.1, ?_⟩ (fun _ _ => trivial)
  rcases ho.2 with hn | ⟨b, cap, cur, he, hb, hh, hr⟩
  · exact .inl hn
  · exact .inr ⟨b, cap, cur, he, hb, (hg.block b (Array.getElem?_eq_some_iff.1 hh).1 (hne b (by rw [he]; rfl))).trans hh, hr⟩
theorem IsReader.ne {α : Type} {d : Kd α} {W : World} {g : Nat} {A : Option Addr} {c : Nat} {l : List Int} {at_ : Int} {bad : Bool} (h : IsReader W g A c l at_ bad) {e base : Nat} {ok : Nat → Prop} {v : Value} {xs : List α} (hr : d.R e W base ok v xs) (ht : e ≠ 69) : some g ≠ v.ownBlock := Kd.R_ne hr h ht
theorem IsReader.new (W : World) (A : Option Addr) (c : Nat) (l : List Int) : IsReader (W.alloc (.cells #[.slice A l.length c, .int .i64 0, .bool false] 69)) W.heap.size A c l 0 false := by
  unfold IsReader
  simpa using heap_alloc_new W _
theorem info_str : (Try.prog.info? 9).map (fun i => (i.zero, i.size, i.bytes)) = some (some (.string ⟨#[]⟩), 1, 16) := by kernel_rfl

def takeRows (k : Nat) (l : List Int) : Nat → Int → Bool → List ByteArray → Option (List ByteArray × Int × Bool)
  | 0, at_, bad, t => some (t, at_, bad)
  | n + 1, at_, bad, t => if bad = true then some (t, at_, bad) else (dragnetref02_Reader_Row.f k l at_ false 8).bind fun q => if t.length < 1000000 then takeRows k l n q.2.1 q.2.2 (t ++ [strOfNums q.1]) else none
def dragnetref06_TakeTable.f (k : Nat) (l : List Int) : Option (List ByteArray × Int × Int) :=
  (dragnetref02_Reader_Count.f k l 0 false 32).bind fun q => if 0 ≤ q.1 ∧ q.1 ≤ 1000000 then (takeRows k l q.1.toNat q.2.1 q.2.2 []).bind fun s =>
    if s.2.2 = true then some ([], 0, 2) else (dragnetref06_Formed.f k s.1).bind fun ok => if ok = true then some (s.1, s.2.1, 0) else some ([], 0, 2)
  else none

theorem Row.mono : ∀ a0 a1 a2 a3 k, LeO (dragnetref02_Reader_Row.f k a0 a1 a2 a3) (dragnetref02_Reader_Row.f (k + 1) a0 a1 a2 a3) := by
  intro a0 a1 a2 a3 k
  unfold dragnetref02_Reader_Row.f
  exact LeO.ite (LeO.refl _) (LeO.ite (LeO.bind (dragnetref02_TakeRow.mono _ _ _) fun _ => LeO.refl _) (LeO.none _))
theorem Number.mono : ∀ a0 a1 a2 a3 k, LeO (dragnetref02_Reader_Number.f k a0 a1 a2 a3) (dragnetref02_Reader_Number.f (k + 1) a0 a1 a2 a3) := by
  intro a0 a1 a2 a3 k
  unfold dragnetref02_Reader_Number.f
  exact LeO.ite (LeO.refl _) (LeO.ite (LeO.bind (dragnetref02_Take.mono _ _) fun _ => LeO.refl _) (LeO.none _))
theorem Count.mono : ∀ a0 a1 a2 a3 k, LeO (dragnetref02_Reader_Count.f k a0 a1 a2 a3) (dragnetref02_Reader_Count.f (k + 1) a0 a1 a2 a3) := by
  intro a0 a1 a2 a3 k
  unfold dragnetref02_Reader_Count.f
  exact LeO.ite (LeO.bind (Number.mono _ _ _ _ _) fun _ => LeO.refl _) (LeO.none _)
theorem takeRows.mono (k : Nat) (l : List Int) : ∀ n at_ bad t, LeO (takeRows k l n at_ bad t) (takeRows (k + 1) l n at_ bad t)
  | 0, _, _, _ => LeO.refl _
  | n + 1, at_, bad, t => by
    unfold takeRows
    exact LeO.ite (LeO.refl _) (LeO.bind (Row.mono _ _ _ _ _) fun q => LeO.ite (takeRows.mono k l n _ _ _) (LeO.none _))
theorem dragnetref06_TakeTable.mono : ∀ a0 k, LeO (dragnetref06_TakeTable.f k a0) (dragnetref06_TakeTable.f (k + 1) a0) := by
  intro a0 k
  unfold dragnetref06_TakeTable.f
  exact LeO.bind (Count.mono _ _ _ _ _) fun q => LeO.ite (LeO.bind (takeRows.mono _ _ _ _ _ _) fun s => LeO.ite (LeO.refl _) (LeO.bind (dragnetref06_Formed.mono _ _) fun _ => LeO.refl _)) (LeO.none _)

set_option maxHeartbeats 1000000 in
set_option maxRecDepth 100000 in
theorem dragnetref06_TakeTable.calls (k : Nat) (A0 : Option Addr) (c0 : Nat) (l0 : List Int) (r1 : List ByteArray) (r2 : Int) (r3 : Int) (w : World) (hr0 : Kd.C (Kd.int .u8) w A0 l0.length l0) (hc0 : l0.length ≤ c0) (h : dragnetref06_TakeTable.f k l0 = some (r1, r2, r3)) :
    Calls Try.prog 27 #[.slice A0 l0.length c0] w fun e w' => ∃ v0_ : Value, e = .returned (.tuple #[v0_, .int .i64 r2, .int .i64 r3]) ∧ Kd.R Kd.string 9 w' w.heap.size (fun _ => True) v0_ r1 ∧ Below w.heap.size w w' := by
  have HR := Aside0.mk hr0
  have HC := Aside0.mk hc0
  clear hr0 hc0
  unfold dragnetref06_TakeTable.f at h
  obtain ⟨⟨n, at1, bad1⟩, hcnt, h2⟩ := Option.bind_eq_some_iff.1 h
  clear h
  have hn : 0 ≤ n ∧ n ≤ 1000000 := by split at h2; assumption; cases h2
  rw [if_pos hn] at h2
  obtain ⟨⟨T, AT, BAD⟩, hrows, h3⟩ := Option.bind_eq_some_iff.1 h2
  clear h2
  have HE := Aside0.mk h3
  clear h3
  obtain ⟨N, rfl⟩ := Int.eq_ofNat_of_zero_le hn.1
  simp only [Int.toNat_natCast] at hrows
  have HN := Aside0.mk hcnt
  have HRW := Aside0.mk hrows
  have hn1 := hn.2
  clear hcnt hrows hn
  go_enter Try.func27, Try.ntmps27
  go_wp2_with (go_at_call 45; refine (dragnetref02_Reader_Count.calls k w.heap.size A0 c0 l0 0 false 32 (N : Int) at1 bad1 _ (IsReader.new w A0 c0 l0) (Kd.C_alloc HR.out _) HC.out HN.out).mono ?_; rintro e w1 ⟨rfl, hg1, hw1⟩; have HG1 := Aside0.mk hg1; have HB1 := Aside0.mk ((below_alloc (Below.refl w.heap.size w) _).grown hw1 (by simp) (fun k hk => by cases hk; exact Nat.le_refl _)); clear hg1 hw1)
  go_loopg [6, 7] N (fun kq x6 x7 wq => ∃ (t : List ByteArray) (at_ : Int) (bad : Bool), x7 = .int .i64 (kq : Int) ∧ (kq : Int) ≤ 1000000 ∧ Aside0 (Kd.R Kd.string 9 wq w.heap.size (fun _ => True) x6 t) ∧ Aside0 (IsReader wq w.heap.size A0 c0 l0 at_ bad) ∧ Aside0 (takeRows k l0 kq at_ bad t = some (T, AT, BAD)) ∧ Aside0 (Below w.heap.size w wq))
  case atStart => exact ⟨[], at1, bad1, rfl, hn1, ⟨Kd.R_nil _ _ _ _ _⟩, HG1, HRW, HB1⟩
  case round =>
    clear HN HRW HG1 HB1
    obtain ⟨t, at_, bad, rfl, hk1, HO, HG, HA, HB⟩ := hrel
    obtain ⟨hx0, hx1, hx2, hgl⟩ := HG.out.cells
    by_cases hgo : 0 < gk ∧ bad = false
    · obtain ⟨hgk, rfl⟩ := hgo
      obtain ⟨k1, rfl⟩ : ∃ k1, gk = k1 + 1 := ⟨gk - 1, by omega⟩
      have e0 : decide ((0 : Int) < ((k1 + 1 : Nat) : Int)) = true := decide_eq_true (by omega)
      have e1 : decide ((0 : Int) < (k1 : Int) + 1) = true := decide_eq_true (by omega)
      have H := HA.out
      unfold takeRows at H
      rw [if_neg (by simp)] at H
      obtain ⟨⟨b, at2, bad2⟩, hrow, H⟩ := Option.bind_eq_some_iff.1 H
      have HLM := Aside0.mk (show t.length < 1000000 by split at H; assumption; cases H)
      have HA2 := Aside0.mk (show takeRows k l0 k1 at2 bad2 (t ++ [strOfNums b]) = some (T, AT, BAD) by rw [if_pos HLM.out] at H; exact H)
      have HRow := Aside0.mk hrow
      clear H hrow HA
      go_wp2_with (first | (go_at_call 46; refine (dragnetref02_Reader_Row.calls k w.heap.size A0 c0 l0 at_ false 8 b at2 bad2 _ HG.out (Kd.C_below HR.out HB.out) HC.out HRow.out).mono ?_; rintro e w1 ⟨v1, rfl, hr, hg1, hw1⟩; have HO1 := Aside0.mk (R_grown HO.out hw1 (fun q hq => by have := HG.out.ne HO.out (by decide); intro he; rw [he] at hq; exact this hq.symm)); have HG1 := Aside0.mk hg1; have HB1 := Aside0.mk (HB.out.grown hw1 (below_size HB.out) (fun q hq => by cases hq; exact Nat.le_refl _)); have hcv := own_string (P := Try.prog) Try.underlying23 Try.underlying5 Try.underlying9 (Kd.own_of_R hr); clear hg1 hw1 hr) | (at_builtin; refine Kd.R_append Kd.string (w0 := w) w.heap.size rfl (.tmp 24) (.tmp 28) 22 9 (.string ⟨#[]⟩) 16 rfl Try.underlying22 info_str rfl (by decide) (by omega) _ t (strOfNums b) [.string (strOfNums b)] (fun _ => True) (fun _ => False) rfl rfl rfl (fun _ hk => hk.elim) (fun _ _ => trivial) HO1.out HB1.out (below_size HB1.out) (by have := HLM.out; omega) ?_; intro v3 w3 ho hb hg hat; have HO3 := Aside0.mk ho; have HG3 := Aside0.mk (HG1.out.grown hg (HG1.out.ne HO1.out (by decide))); have HB3 := Aside0.mk hb; clear ho hb hg hat))
      go_roundg k1
      case measure => omega
      case rel => exact ⟨t ++ [strOfNums b], at2, bad2, by congr 1, by omega, HO3, HG3, HA2, HB3⟩
    · obtain ⟨rfl, rfl, rfl⟩ : t = T ∧ at_ = AT ∧ bad = BAD := by
        have h := HA.out
        cases gk with
        | zero => simpa [takeRows] using h
        | succ k1 =>
          have hbt : bad = true := by cases bad with | true => rfl | false => exact absurd ⟨by omega, rfl⟩ hgo
          unfold takeRows at h
          rw [if_pos hbt] at h
          simpa using h
      clear HA
      cases bad with
      | true =>
        obtain ⟨rfl, rfl, rfl⟩ : r1 = [] ∧ r2 = 0 ∧ r3 = 2 := by
          have h := HE.out
          rw [if_pos rfl] at h
          have h := Option.some.inj h
          simp only [Prod.mk.injEq] at h
          exact ⟨h.1.symm, h.2.1.symm, h.2.2.symm⟩
        clear HE
        by_cases hz : gk = 0
        · subst hz
          go_wp2
          go_ret3
          exact ⟨_, rfl, Kd.R_nil _ _ _ _ _, HB.out⟩
        · have e0 : decide ((0 : Int) < (gk : Int)) = true := decide_eq_true (by omega)
          go_wp2
          go_ret3
          exact ⟨_, rfl, Kd.R_nil _ _ _ _ _, HB.out⟩
      | false =>
        obtain rfl : gk = 0 := by
          cases gk with
          | zero => rfl
          | succ k1 => exact absurd ⟨by omega, rfl⟩ hgo
        obtain ⟨A6, c6, ho6, hc6, hC6⟩ := Kd.R_reads HO.out
        subst ho6
        have HC6 := Aside0.mk hC6
        clear hC6
        have H := HE.out
        rw [if_neg (by simp)] at H
        obtain ⟨ok, hf, H⟩ := Option.bind_eq_some_iff.1 H
        have HF := Aside0.mk hf
        clear hf HE
        cases ok with
        | true =>
          obtain ⟨rfl, rfl, rfl⟩ : r1 = t ∧ r2 = at_ ∧ r3 = 0 := by simpa [eq_comm] using H
          go_wp2_with (go_at_call 20; refine (dragnetref06_Formed.calls k A6 c6 r1 true _ HC6.out hc6 HF.out).mono ?_; rintro e w2 ⟨rfl, ⟨nd, rfl⟩⟩)
          go_quiet (fail)
          go_wp2
          go_ret3
          exact ⟨_, rfl, Kd.R_drewN (Kd.R_drewN HO.out _) _, pw_below_drewN (pw_below_drewN HB.out _) _⟩
        | false =>
          obtain ⟨rfl, rfl, rfl⟩ : r1 = [] ∧ r2 = 0 ∧ r3 = 2 := by simpa [eq_comm] using H
          go_wp2_with (go_at_call 20; refine (dragnetref06_Formed.calls k A6 c6 t false _ HC6.out hc6 HF.out).mono ?_; rintro e w2 ⟨rfl, ⟨nd, rfl⟩⟩)
          go_ret3
          exact ⟨_, rfl, Kd.R_nil _ _ _ _ _, pw_below_drewN HB.out _⟩
end Go.Proofs.Ytnmidkjmflnolaa.P
