/- sym.PutTable and dragnetref06.Table, in the printer's own form. -/
import Derived.Test.YtnmidkjmflnolaaP10
import Derived.Test.YtnmidkjmflnolaaP2
import Derived.Test.YtnmidkjmflnolaaSymFormed
namespace Go.Proofs.Ytnmidkjmflnolaa.P
open Go.RowKit Go.Proofs.YtnmidkjmflnolaaW.PrintWords Go.Proofs.YtnmidkjmflnolaaW.PrintLast Go.Proofs.YtnmidkjmflnolaaW.PrintMore Go.Proofs.Ytnmidkjmflnolaa.Maps
attribute [local go_sem] max2_int min2_int max_two min_two max_three min_three max_four min_four
set_option linter.unusedVariables false
set_option linter.unusedSimpArgs false

theorem bytes_C (W : World) (s : ByteArray) (hs : s.size ≤ 9223372036854775807) : Kd.C (Kd.int .u8) (Lib.bytesWorld W 5 s) (some ⟨W.heap.size, 0, none⟩) (bytesOf s).length (bytesOf s) := by
  have h := bytes_reads W 5 s hs
  rw [← bytesOf_length s] at h
  exact Kd.C_of_reads (h1 := fun _ => rfl) h
theorem bytes_cap (W : World) (e : TypeId) (s : ByteArray) : s.size ≤ grownCap W s.size 0 e := grownCap_ge _ _ _ _
theorem bytes_conv (s : ByteArray) (W : World) : (convert 9 23 (.string s)).run Try.prog W = .ok (.slice (some ⟨W.heap.size, 0, none⟩) (bytesOf s).length (grownCap W s.size 0 5)) (Lib.bytesWorld W 5 s) := by
  rw [bytesOf_length]
  exact print_bytes (P := Try.prog) 9 23 5 Try.underlying9 Try.underlying23 Try.underlying5 s W

def putRows : List ByteArray → List Int → Option (List Int)
  | [], out => some out
  | s :: t, out => if s.size ≤ 9223372036854775807 then (num_PutRow.f out (bytesOf s)).bind fun o => putRows t o else none
def sym_PutTable.f (l0 : List Int) (l1 : List ByteArray) : Option (List Int × Int) :=
  if formedB l1 = true then (num_Put.f l0 (l1.length : Int)).bind fun o => (putRows l1 o).bind fun r => some (r, 0) else some ([], 1)

set_option maxHeartbeats 1000000 in
set_option maxRecDepth 100000 in
theorem sym_PutTable.calls (A0 : Option Addr) (c0 : Nat) (l0 : List Int) (A1 : Option Addr) (c1 : Nat) (l1 : List ByteArray) (r1 : List Int) (r2 : Int) (w : World) (hr0 : Kd.C (Kd.int .u8) w A0 l0.length l0) (hc0 : l0.length ≤ c0) (hr1 : Kd.C Kd.string w A1 l1.length l1) (hc1 : l1.length ≤ c1) (h : sym_PutTable.f l0 l1 = some (r1, r2)) :
    Calls Try.prog 24 #[.slice A0 l0.length c0, .slice A1 l1.length c1] w fun e w' => ∃ v0_ : Value, e = .returned (.tuple #[v0_, .int .i64 r2]) ∧ Kd.R (Kd.int .u8) 5 w' w.heap.size (fun _ => True) v0_ r1 ∧ Below w.heap.size w w' := by
  have HR0 := Aside0.mk hr0
  have HC0 := Aside0.mk hc0
  have HR1 := Aside0.mk hr1
  have HC1 := Aside0.mk hc1
  clear hr0 hc0 hr1 hc1
  cases hf : formedB l1 with
  | false =>
    obtain ⟨rfl, rfl⟩ : r1 = [] ∧ r2 = 1 := by unfold sym_PutTable.f at h; rw [hf] at h; simpa [eq_comm] using h
    have HF := Aside0.mk hf
    clear h hf
    go_enter Try.func24, Try.ntmps24
    go_wp2_with (go_at_call 19; (with_reducible refine (sym_Formed.calls _ _ l1 false _ HR1.out HC1.out (by unfold sym_Formed.f; rw [HF.out])).mono ?_); rintro e w1 ⟨rfl, hb1⟩; have HB1 := Aside0.mk hb1; clear hb1)
    go_ret2
    exact ⟨_, rfl, Kd.R_nil _ _ _ _ _, HB1.out⟩
  | true =>
    have HF := Aside0.mk hf
    have hlen : l1.length ≤ 32 := by unfold formedB at hf; simp at hf; exact hf.1
    have hlen' : (l1.length : Int) ≤ 32 := by omega
    have hlen0 : (0 : Int) ≤ (l1.length : Int) := by omega
    unfold sym_PutTable.f at h
    rw [hf, if_pos rfl] at h
    obtain ⟨o1, ho1, h⟩ := Option.bind_eq_some_iff.1 h
    obtain ⟨o2, ho2, h⟩ := Option.bind_eq_some_iff.1 h
    obtain ⟨rfl, rfl⟩ : r1 = o2 ∧ r2 = 0 := by simpa [eq_comm] using h
    have HP := Aside0.mk ho1
    have HQ := Aside0.mk ho2
    clear h hf ho1 ho2
    go_enter Try.func24, Try.ntmps24
    go_wp2_with (first | (go_at_call 19; (with_reducible refine (sym_Formed.calls _ _ l1 true _ HR1.out HC1.out (by unfold sym_Formed.f; rw [HF.out])).mono ?_); rintro e w1 ⟨rfl, hb1⟩; have HB1 := Aside0.mk hb1; clear hb1) | (go_at_call 39; refine (num_Put.calls A0 c0 l0 (l1.length : Int) o1 w1 (Kd.C_below HR0.out HB1.out) HC0.out HP.out).mono ?_; rintro e w2 ⟨v6, rfl, hr, hb2⟩; have HO2 := Aside0.mk (Kd.R_lower hr HB1.out.size); have HB2 := Aside0.mk (below_step HB1.out hb2); clear hr hb2))
    go_loopg [6, 8, 19] l1.length (fun kq x6 x8 x19 wq => ∃ (out : List Int) (i : Nat), x19 = .int .i64 (i : Int) ∧ i + kq = l1.length ∧ Aside0 (Kd.R (Kd.int .u8) 5 wq w.heap.size (fun _ => True) x6 out) ∧ Aside0 (putRows (l1.drop i) out = some r1) ∧ Aside0 (Below w.heap.size w wq))
    case atStart => exact ⟨_, 0, rfl, by omega, HO2, HQ, HB2⟩
    case round =>
      clear HO2 HB1 HB2 HQ HP
      obtain ⟨out, i, rfl, hi, HO, HA, HB⟩ := hrel
      cases gk with
      | zero =>
        obtain rfl : i = l1.length := by omega
        have e0 : decide ((l1.length : Int) < (l1.length : Int)) = false := decide_eq_false (by omega)
        obtain rfl : out = r1 := by have h := HA.out; rw [List.drop_length] at h; exact Option.some.inj h
        clear HA
        go_wp2
        go_ret2
        exact ⟨_, rfl, HO.out, HB.out⟩
      | succ k1 =>
        have e0 : decide ((i : Int) < (l1.length : Int)) = true := decide_eq_true (by omega)
        have hi0 : (0 : Int) ≤ (i : Int) := by omega
        have hi1 : (i : Int) < (l1.length : Int) := by omega
        have hi2 : (i : Int) ≤ 32 := by omega
        obtain ⟨ad, ha, hx⟩ := Kd.at_string HR1.out (i : Int) hi0 hi1
        subst ha
        replace hx := (HB.out.cell (World.block_lt_of_cell? w _ hx)).trans hx
        simp only [Int.toNat_natCast] at hx
        have HA2 := Aside0.mk (by have h := HA.out; rw [List.drop_eq_getElem_cons (by omega : i < l1.length), show l1[i] = rdOf ByteArray.empty l1 (i : Int) by simp [rdOf, List.getD, (by omega : i < l1.length)], putRows] at h; exact h)
        clear HA
        generalize rdOf ByteArray.empty l1 (i : Int) = s at hx HA2
        have HS := Aside0.mk (show s.size ≤ 9223372036854775807 by have h := HA2.out; split at h; assumption; cases h)
        obtain ⟨o3, ho3, hrest⟩ := Option.bind_eq_some_iff.1 (by have h := HA2.out; rw [if_pos HS.out] at h; exact h)
        have HP3 := Aside0.mk ho3
        have HA3 := Aside0.mk hrest
        clear HA2 ho3 hrest
        obtain ⟨Ao, co, ho, hco, hCo⟩ := Kd.R_reads HO.out
        subst ho
        have HCo := Aside0.mk hCo
        clear hCo
        have hconv := bytes_conv s
        go_wp2_with (go_at_call 40; refine (num_PutRow.calls Ao co out (some ⟨wr.heap.size, 0, none⟩) _ (bytesOf s) o3 _ (Kd.C_below HCo.out (bytes_below (Below.refl _ _) (Nat.le_refl _) 5 s)) hco (bytes_C wr s HS.out) (by rw [bytesOf_length]; exact bytes_cap _ _ _) HP3.out).mono ?_; rintro e w3 ⟨v7, rfl, hr, hb3⟩; have HO3 := Aside0.mk (Kd.R_lower hr (Nat.le_trans (below_size HB.out) (by rw [Lib.bytesWorld_size]; omega))); have HB3 := Aside0.mk (below_step (bytes_below HB.out (below_size HB.out) 5 s) hb3); clear hr hb3)
        go_roundg k1
        case measure => omega
        case rel => exact ⟨o3, i + 1, rfl, by omega, HO3, HA3, HB3⟩

def tableRows (k : Nat) : List ByteArray → List Int → Option (List Int)
  | [], out => some out
  | s :: t, out => if s.size ≤ 9223372036854775807 then (dragnetref02_Row.f k (bytesOf s)).bind fun r => if out.length + r.length < 140737488355328 then tableRows k t (out ++ r) else none else none
theorem tableRows.mono (k : Nat) : ∀ (t : List ByteArray) (out : List Int), LeO (tableRows k t out) (tableRows (k + 1) t out)
  | [], out => LeO.refl _
  | s :: t, out => by
    unfold tableRows
    refine LeO.ite ?_ (LeO.none _)
    refine LeO.bind (dragnetref02_Row.mono _ _) fun r => ?_
    exact LeO.ite (tableRows.mono k t _) (LeO.none _)
def dragnetref06_Table.f (k : Nat) (l0 : List ByteArray) : Option (List Int) := (dragnetref02_Bytes.f k (l0.length : Int)).bind fun o => tableRows k l0 o
theorem dragnetref06_Table.mono : ∀ a0 k, LeO (dragnetref06_Table.f k a0) (dragnetref06_Table.f (k + 1) a0) := by
  intro a0 k
  unfold dragnetref06_Table.f
  exact LeO.bind (dragnetref02_Bytes.mono _ _) fun o => tableRows.mono k a0 o

set_option maxHeartbeats 1000000 in
set_option maxRecDepth 100000 in
theorem dragnetref06_Table.calls (k : Nat) (A0 : Option Addr) (c0 : Nat) (l0 : List ByteArray) (r : List Int) (w : World) (hr0 : Kd.C Kd.string w A0 l0.length l0) (hc0 : l0.length ≤ c0) (h : dragnetref06_Table.f k l0 = some r) :
    Calls Try.prog 25 #[.slice A0 l0.length c0] w fun e w' => ∃ v0_ : Value, e = .returned (v0_) ∧ Kd.R (Kd.int .u8) 5 w' w.heap.size (fun _ => True) v0_ r ∧ Below w.heap.size w w' := by
  have hmax : (l0.length : Int) ≤ 9223372036854775807 := by have := hr0.2.1; omega
  have hlen0 : (0 : Int) ≤ (l0.length : Int) := by omega
  have HR0 := Aside0.mk hr0
  have HC0 := Aside0.mk hc0
  clear hr0 hc0
  unfold dragnetref06_Table.f at h
  obtain ⟨o1, ho1, h⟩ := Option.bind_eq_some_iff.1 h
  have HP := Aside0.mk ho1
  have HQ := Aside0.mk h
  clear h ho1
  go_enter Try.func25, Try.ntmps25
  go_wp2_with (go_at_call 41; refine (dragnetref02_Bytes.calls k (l0.length : Int) o1 _ HP.out).mono ?_; rintro e w2 ⟨v6, rfl, hr, hb2⟩; have HO2 := Aside0.mk hr; have HB2 := Aside0.mk hb2; clear hr hb2)
  go_loopg [3, 4] l0.length (fun kq x3 x4 wq => ∃ (out : List Int) (i : Nat), x4 = .int .i64 (i : Int) ∧ i + kq = l0.length ∧ Aside0 (Kd.R (Kd.int .u8) 5 wq w.heap.size (fun _ => True) x3 out) ∧ Aside0 (tableRows k (l0.drop i) out = some r) ∧ Aside0 (Below w.heap.size w wq))
  case atStart => exact ⟨_, 0, rfl, by omega, HO2, HQ, HB2⟩
  case round =>
    clear HO2 HB2 HQ HP
    obtain ⟨out, i, rfl, hi, HO, HA, HB⟩ := hrel
    cases gk with
    | zero =>
      obtain rfl : i = l0.length := by omega
      have e0 : decide ((l0.length : Int) < (l0.length : Int)) = false := decide_eq_false (by omega)
      obtain rfl : out = r := by have h := HA.out; rw [List.drop_length] at h; exact Option.some.inj h
      clear HA
      go_wp2
      go_ret
      exact ⟨_, rfl, HO.out, HB.out⟩
    | succ k1 =>
      have e0 : decide ((i : Int) < (l0.length : Int)) = true := decide_eq_true (by omega)
      have hi0 : (0 : Int) ≤ (i : Int) := by omega
      have hi1 : (i : Int) < (l0.length : Int) := by omega
      obtain ⟨ad, ha, hx⟩ := Kd.at_string HR0.out (i : Int) hi0 hi1
      subst ha
      replace hx := (HB.out.cell (World.block_lt_of_cell? w _ hx)).trans hx
      simp only [Int.toNat_natCast] at hx
      have HA2 := Aside0.mk (by have h := HA.out; rw [List.drop_eq_getElem_cons (by omega : i < l0.length), show l0[i] = rdOf ByteArray.empty l0 (i : Int) by simp [rdOf, List.getD, (by omega : i < l0.length)], tableRows] at h; exact h)
      clear HA
      generalize rdOf ByteArray.empty l0 (i : Int) = s at hx HA2
      have HS := Aside0.mk (show s.size ≤ 9223372036854775807 by have h := HA2.out; split at h; assumption; cases h)
      obtain ⟨o3, ho3, hrest⟩ := Option.bind_eq_some_iff.1 (by have h := HA2.out; rw [if_pos HS.out] at h; exact h)
      have HP3 := Aside0.mk ho3
      have HLM := Aside0.mk (show out.length + o3.length < 140737488355328 by split at hrest; assumption; cases hrest)
      have HA3 := Aside0.mk (by rw [if_pos HLM.out] at hrest; exact hrest)
      clear HA2 ho3 hrest
      obtain ⟨Ao, co, ho⟩ := Kd.R_slice HO.out
      subst ho
      have hconv := bytes_conv s
      go_wp2_with (first | (go_at_call 42; refine (dragnetref02_Row.calls k (some ⟨wr.heap.size, 0, none⟩) _ (bytesOf s) o3 _ (bytes_C wr s HS.out) (by rw [bytesOf_length]; exact bytes_cap _ _ _) HP3.out).mono ?_; rintro e w3 ⟨v7, rfl, hr, hb3⟩; have hbw := below_step (bytes_below (Below.refl wr.heap.size wr) (Nat.le_refl _) 5 s) hb3; have HO4 := Aside0.mk (Kd.R_below HO.out hbw); have HB3 := Aside0.mk (below_step HB.out hbw); obtain ⟨A7, c7, ho7, hc7, hC7⟩ := Kd.R_reads hr; subst ho7; have HC7 := Aside0.mk hC7; clear hr hb3 hbw hC7) | (at_builtin; refine Kd.R_append_rows (Kd.int .u8) (w0 := w) w.heap.size rfl (.tmp 15) (.tmp 21) 23 5 (.int .u8 0) 1 rfl Try.underlying23 info_u8 rfl (by decide) (by omega) _ out o3 A7 o3.length c7 (fun _ => True) (fun _ => False) rfl rfl ?aO ?aR (fun _ _ h => h) (fun _ h => h.elim) (fun _ _ => trivial) ?aB ?aS ?aL ?_; (case aO => exact HO4.out); (case aR => exact HC7.out); (case aB => exact HB3.out); (case aS => exact below_size HB3.out); (case aL => have := HLM.out; omega); intro v1 w2 ho hb hg hat; have HO5 := Aside0.mk ho; have HB5 := Aside0.mk hb; clear ho hb hg hat))
      go_roundg k1
      case measure => omega
      case rel => exact ⟨out ++ o3, i + 1, rfl, by omega, HO5, HA3, HB5⟩
end Go.Proofs.Ytnmidkjmflnolaa.P
