/- sym.Encode: by a formed table, from the front on, the longest symbol, or else the next byte by itself. -/
import Derived.Test.YtnmidkjmflnolaaSymFormed
import Derived.Deep.RegionLaw
namespace Go.Proofs.Ytnmidkjmflnolaa.P
open Go.RowKit Go.Proofs.YtnmidkjmflnolaaW.PrintWords Go.Proofs.YtnmidkjmflnolaaW.PrintLast Go.Proofs.YtnmidkjmflnolaaW.PrintMore Go.Proofs.Ytnmidkjmflnolaa.Maps
attribute [local go_sem] max2_int min2_int max_two min_two max_three min_three max_four min_four
set_option linter.unusedVariables false
set_option linter.unusedSimpArgs false

/-- The codes of the first k symbols. -/
def codesF (l : List ByteArray) : Nat → ByteArray → Option Int
  | 0 => fun _ => none
  | k + 1 => upd (codesF l k) (rdOf ByteArray.empty l k) (k : Int)
/-- The longest of the first n bytes of s that is a symbol. -/
def tryN (l : List ByteArray) (s : ByteArray) : Nat → Option (Nat × Int)
  | 0 => none
  | n + 1 => if n + 1 < 2 then none else match codesF l l.length (s.extract 0 (n + 1)) with
    | some c => some (n + 1, c)
    | none => tryN l s n
theorem tryN_some {l : List ByteArray} {s : ByteArray} {n : Nat} {c : Int} (hn : 2 ≤ n) (h : codesF l l.length (s.extract 0 n) = some c) : tryN l s n = some (n, c) := by
  obtain ⟨m, rfl⟩ : ∃ m, n = m + 1 := ⟨n - 1, by omega⟩
  simp only [tryN]
  rw [if_neg (by omega), h]
theorem tryN_none {l : List ByteArray} {s : ByteArray} {n : Nat} (hn : 2 ≤ n) (h : codesF l l.length (s.extract 0 n) = none) : tryN l s n = tryN l s (n - 1) := by
  obtain ⟨m, rfl⟩ : ∃ m, n = m + 1 := ⟨n - 1, by omega⟩
  simp only [tryN]
  rw [if_neg (by omega), h]
  rfl
theorem tryN_low {l : List ByteArray} {s : ByteArray} {n : Nat} (hn : n < 2) : tryN l s n = none := by
  cases n with
  | zero => rfl
  | succ m => simp only [tryN]; rw [if_pos (by omega)]
def sym_Encode.l0 : Nat → List ByteArray → List Int → ByteArray → Option (List Int × Int)
  | 0, _, _, _ => none
  | k + 1, l, out, s => if 0 < s.size then
      (match tryN l s (min 8 s.size) with
        | some (n, c) => if out.length + 1 < 140737488355328 then sym_Encode.l0 k l (out ++ [c % 256]) (s.extract n s.size) else none
        | none => if out.length + 2 < 140737488355328 then sym_Encode.l0 k l (out ++ [255, bt s 0]) (s.extract 1 s.size) else none)
    else some (out, 0)
def afterTry (k : Nat) (l : List ByteArray) (out : List Int) (s : ByteArray) : Option (Nat × Int) → Option (List Int × Int)
  | some (n, c) => if out.length + 1 < 140737488355328 then sym_Encode.l0 k l (out ++ [c % 256]) (s.extract n s.size) else none
  | none => if out.length + 2 < 140737488355328 then sym_Encode.l0 k l (out ++ [255, bt s 0]) (s.extract 1 s.size) else none
theorem sym_Encode.step (k : Nat) (l : List ByteArray) (out : List Int) (s : ByteArray) : sym_Encode.l0 (k + 1) l out s = if 0 < s.size then afterTry k l out s (tryN l s (min 8 s.size)) else some (out, 0) := by
  simp only [sym_Encode.l0]
  congr 1
def sym_Encode.f (k : Nat) (l0 : List ByteArray) (l1 : List Int) : Option (List Int × Int) := if formedB l0 = true then sym_Encode.l0 k l0 [] (strOfNums l1) else some ([], 1)

theorem sym_Encode.mono_l : ∀ k, (∀ y0 y1 y2, LeO (sym_Encode.l0 k y0 y1 y2) (sym_Encode.l0 (k + 1) y0 y1 y2))
  | 0 => fun _ _ _ r h => by simp [sym_Encode.l0] at h
  | k + 1 => by
    intro y0 y1 y2
    unfold sym_Encode.l0
    refine LeO.ite ?_ (LeO.refl _)
    split
    · exact LeO.ite (sym_Encode.mono_l k _ _ _) (LeO.refl _)
    · exact LeO.ite (sym_Encode.mono_l k _ _ _) (LeO.refl _)
theorem sym_Encode.mono : ∀ a0 a1 k, LeO (sym_Encode.f k a0 a1) (sym_Encode.f (k + 1) a0 a1) := by
  intro a0 a1 k
  unfold sym_Encode.f
  exact LeO.ite (sym_Encode.mono_l k _ _ _) (LeO.refl _)

theorem sized_of_fresh : ∀ (seen l : List ByteArray), freshIn seen l = true → ∀ k : Nat, k < l.length → 2 ≤ (rdOf ByteArray.empty l (k : Int)).size ∧ (rdOf ByteArray.empty l (k : Int)).size ≤ 8
  | _, [], _, k, hk => absurd hk (Nat.not_lt_zero _)
  | seen, s :: r, h, k, hk => by
    simp only [freshIn, Bool.and_eq_true, okSym, decide_eq_true_eq] at h
    cases k with
    | zero => exact h.1.1
    | succ k =>
      have := sized_of_fresh (seen ++ [s]) r h.2 k (by simpa using hk)
      simpa [rdOf] using this
theorem sized_of_formed {l : List ByteArray} (h : formedB l = true) (k : Nat) (hk : k < l.length) : 2 ≤ (rdOf ByteArray.empty l (k : Int)).size ∧ (rdOf ByteArray.empty l (k : Int)).size ≤ 8 := by
  simp only [formedB, Bool.and_eq_true] at h
  exact sized_of_fresh [] l h.2 k hk
theorem zero_int (w : World) : (zeroValue 3).run Try.prog w = .ok (.int .i64 0) w := by kernel_rfl
theorem info5e : (Try.prog.info? 5).map (fun i => (i.zero, i.size, i.bytes)) = some (some (.int .u8 0), 1, 1) := by kernel_rfl

set_option maxHeartbeats 4000000 in
set_option maxRecDepth 100000 in
theorem sym_Encode.calls (k : Nat) (A0 : Option Addr) (c0 : Nat) (l0 : List ByteArray) (A1 : Option Addr) (c1 : Nat) (l1 : List Int) (r1 : List Int) (r2 : Int) (w : World) (hr0 : Kd.C Kd.string w A0 l0.length l0) (hc0 : l0.length ≤ c0) (hr1 : Kd.C (Kd.int .u8) w A1 l1.length l1) (hc1 : l1.length ≤ c1) (h : sym_Encode.f k l0 l1 = some (r1, r2)) :
    Calls Try.prog 16 #[.slice A0 l0.length c0, .slice A1 l1.length c1] w fun e w' => ∃ v0_ : Value, e = .returned (.tuple #[v0_, .int .i64 r2]) ∧ Kd.R (Kd.int .u8) 5 w' w.heap.size (fun _ => True) v0_ r1 ∧ Below w.heap.size w w' := by
  have HR0 := Aside0.mk hr0
  have HC0 := Aside0.mk hc0
  have HR1 := Aside0.mk hr1
  have HC1 := Aside0.mk hc1
  clear hr0 hc0 hr1 hc1
  have H := Aside0.mk h
  clear h
  by_cases hf : formedB l0 = true
  · have HF := Aside0.mk hf
    have HE := Aside0.mk (show sym_Encode.l0 k l0 [] (strOfNums l1) = some (r1, r2) by have := H.out; unfold sym_Encode.f at this; rw [if_pos hf] at this; exact this)
    have HL := Aside0.mk (show l0.length ≤ 32 by unfold formedB at hf; simp at hf; exact hf.1)
    clear H hf
    have hmm := @run_makeMap Try.prog
    go_enter Try.func16, Try.ntmps16
    go_wp2
    go_step3
    go_wp2_with (go_at_call 19; (with_reducible refine (sym_Formed.calls _ _ l0 true _ HR0.out HC0.out (by unfold sym_Formed.f; rw [HF.out])).mono ?_); rintro e w1 ⟨rfl, hb1⟩; have HB1 := Aside0.mk hb1; clear hb1)
    go_loopg [20] l0.length (fun kq v20 wr => ∃ k : Nat, v20 = .int .i64 (k : Int) ∧ Aside0 (k ≤ l0.length) ∧ Aside0 (kq = l0.length - k) ∧ Aside0 (MapIs Try.prog 9 3 (.int .i64) wr w1.heap.size k (codesF l0 k)) ∧ Aside0 (Below w1.heap.size w1 wr))
    case atStart => exact ⟨0, rfl, ⟨Nat.zero_le _⟩, ⟨by omega⟩, ⟨MapIs.made _ _ _ _ _⟩, ⟨(Below.refl _ _).alloc (Nat.le_refl _) _⟩⟩
    case round =>
      obtain ⟨k0, rfl, HK, HN, HM, HB⟩ := hrel
      clear hmm
      have hkb : (k0 : Int) ≤ 32 := by have := HK.out; have := HL.out; omega
      by_cases hk : k0 < l0.length
      · have hk0 : decide ((k0 : Int) < (l0.length : Int)) = true := decide_eq_true (by omega)
        have hk1 : decide (k0 < l0.length) = true := decide_eq_true (by omega)
        have p1 : 0 ≤ (k0 : Int) := by omega
        have q1 : (k0 : Int) < (l0.length : Int) := by omega
        obtain ⟨ad, e1, hx⟩ := Kd.at_string HR0.out (k0 : Int) p1 q1
        cases e1
        replace hx := (HB1.out.cell (World.block_lt_of_cell? w _ hx)).trans hx
        replace hx := (HB.out.cell (World.block_lt_of_cell? w1 _ hx)).trans hx
        simp only [Int.toNat_natCast] at hx
        have HS := Aside0.mk (sized_of_formed HF.out k0 hk)
        have HC := Aside0.mk (show codesF l0 (k0 + 1) = upd (codesF l0 k0) (rdOf ByteArray.empty l0 k0) (k0 : Int) from rfl)
        generalize hs : rdOf ByteArray.empty l0 (k0 : Int) = s at hx HS HC
        clear hs
        have HL2 := Aside0.mk hk
        clear hk
        have HM2 := HM
        go_wp2_with (at_mapUpdate; refine wpList_store rfl _ _ _ 55 rfl Try.underlying9 (show El.fits _ _ (.int .i64) from Try.underlying3) Try.underlying55 rfl HM2.out (by have := HL2.out; have := HL.out; unfold maxLen; omega) s rfl (by have := HS.out; unfold maxLen; omega) (k0 : Int) rfl (by have := HL2.out; have := HL.out; exact WalkArith.wf_i64 (by omega)) ?_; intro w2 hm1 hg1; have HM3 := Aside0.mk hm1; have HB3 := Aside0.mk (HB.out.grown hg1 HB.out.size (fun j hj => by cases hj; exact Nat.le_refl _)); clear hm1 hg1)
        go_roundg (l0.length - (k0 + 1))
        case measure => have := HL2.out; have := HN.out; omega
        case rel => exact ⟨k0 + 1, by go_num, ⟨HL2.out⟩, ⟨rfl⟩, ⟨by rw [HC.out]; exact HM3.out⟩, HB3⟩
      · have hk0 : decide ((k0 : Int) < (l0.length : Int)) = false := decide_eq_false (by omega)
        have hk1 : decide (k0 < l0.length) = false := decide_eq_false (by omega)
        have HM2 := Aside0.mk (show MapIs Try.prog 9 3 (.int .i64) wr w1.heap.size 32 (codesF l0 l0.length) from (by have := HK.out; rw [show l0.length = k0 by omega]; exact HM.out.mono (by have := HL.out; omega)))
        have HB2 := Aside0.mk (below_step HB1.out HB.out)
        have HB1L := Aside0.mk (show w1.heap.size < wr.heap.size from HM.out.lt)
        clear HM HB HK HN hk
        have hcv := Kd.C_string (P := Try.prog) (A := A1) (c := c1) Try.underlying23 Try.underlying5 Try.underlying9 (Kd.C_below HR1.out HB2.out)
        go_wp2
        go_step3
        go_wp2
        go_loopg [9, 10] k (fun kq v9 v10 wq => ∃ (out : List Int) (s : ByteArray), v10 = .string s ∧ Aside0 (sym_Encode.l0 kq l0 out s = some (r1, r2)) ∧ Aside0 (kq ≤ k) ∧ Aside0 (Kd.R (Kd.int .u8) 5 wq w.heap.size (fun _ => True) v9 out) ∧ Aside0 (MapIs Try.prog 9 3 (.int .i64) wq w1.heap.size 32 (codesF l0 l0.length)) ∧ Aside0 (Below w.heap.size w wq))
        case atStart => exact ⟨[], strOfNums l1, rfl, HE, ⟨Nat.le_refl _⟩, ⟨Kd.R_nil _ _ _ _ _⟩, HM2, HB2⟩
        case round =>
          clear hcv HE hk0 hk1 hkb
          obtain ⟨out, s, rfl, HA, HKq, HO, HM, HB⟩ := hrel
          cases gk with
          | zero => exact absurd HA.out (by simp [sym_Encode.l0])
          | succ k1 =>
            have H := HA.out
            clear HA HM2 HB2
            rw [sym_Encode.step] at H
            by_cases hs : 0 < s.size
            · rw [if_pos hs] at H
              have d0 : decide ((0 : Int) < (s.size : Int)) = true := decide_eq_true (by omega)
              have d1 : decide (0 < s.size) = true := decide_eq_true hs
              have HP := Aside0.mk hs
              clear hs
              have HT := Aside0.mk H
              clear H
              obtain ⟨m, hmd⟩ : ∃ m : Nat, m = min 8 s.size := ⟨_, rfl⟩
              have hmin : (if (s.size : Int) < 8 then (s.size : Int) else 8) = (m : Int) := by subst hmd; split <;> omega
              have hm8 : (m : Int) ≤ 8 := by subst hmd; omega
              have hms : (m : Int) ≤ (s.size : Int) := by subst hmd; omega
              have HT := Aside0.mk (by have := HT.out; rw [← hmd] at this; exact this)
              clear hmd
              go_wp2
              obtain ⟨wo, rfl⟩ : ∃ wo : World, wo = wr := ⟨_, rfl⟩
              have hm0 : 0 ≤ (m : Int) := by omega
              clear hmin
              go_loopg [9, 10, 11] (m + 1) (fun kq v9 v10 v11 wx => ∃ n : Nat, v11 = .int .i64 (n : Int) ∧ v10 = .string s ∧ Aside0 (Kd.R (Kd.int .u8) 5 wo w.heap.size (fun _ => True) v9 out) ∧ (n : Int) ≤ 8 ∧ (n : Int) ≤ (s.size : Int) ∧ Aside0 (kq = n + 1) ∧ Aside0 (afterTry k1 l0 out s (tryN l0 s n) = some (r1, r2)) ∧ wx = wo)
              case atStart => exact ⟨m, rfl, rfl, HO, hm8, hms, ⟨rfl⟩, HT, rfl⟩
              case round =>
                clear HO
                obtain ⟨n, rfl, rfl, HO, hn8, hns, HN, HT2, rfl⟩ := hrel
                clear hm8 hms hm0 HT
                by_cases hn : 2 ≤ n
                · have e0 : decide ((2 : Int) ≤ (n : Int)) = true := decide_eq_true (by omega)
                  have e1 : decide ((n : Int) ≤ (s.size : Int)) = true := decide_eq_true (by omega)
                  have e2 : (0 : Int) ≤ (n : Int) := by omega
                  have e3 : (2 : Int) ≤ (n : Int) := by omega
                  have hm := HM.out.look_ok (s := s.extract 0 n) Try.underlying9 Try.underlying3 Try.underlying55 (zero_int wr) (by rw [ByteArray.size_extract]; unfold maxLen; omega)
                  cases hc : codesF l0 l0.length (s.extract 0 n) with
                  | some c =>
                    rw [hc] at hm
                    simp only [Option.getD_some, Option.isSome_some, El.val] at hm
                    have HT3 := Aside0.mk (by have := HT2.out; rw [tryN_some hn hc] at this; exact this)
                    clear hc HT2
                    go_wp2
                    have HLM := Aside0.mk (show out.length + 1 < 140737488355328 by have := HT3.out; simp only [afterTry] at this; split at this; assumption; cases this)
                    have HT4 := Aside0.mk (show sym_Encode.l0 k1 l0 (out ++ [c % 256]) (s.extract n s.size) = some (r1, r2) by have := HT3.out; simp only [afterTry] at this; rw [if_pos HLM.out] at this; exact this)
                    clear HT3
                    go_region_law (refine Kd.R_append_step (Kd.int .u8) (w0 := w) w.heap.size (by rfl) (.tmp 50) (.tmp 53) 23 5 (.int .u8 0) 1 rfl Try.underlying23 info5e rfl (by decide) (by omega) u9 out (c % 256) [.int .u8 (c % 256)] (fun _ => True) (fun _ => False) rfl rfl rfl (fun _ hk => hk.elim) (fun _ _ => trivial) (Kd.R_drew HO.out) (below_drew1 HB.out) (below_size (below_drew1 HB.out)) (by have := HLM.out; omega) ?_; intro v1 w2 ho hb hg hat; have HO2 := Aside0.mk ho; have HM3 := Aside0.mk (MapIs.grown HM.out.drew (Kd.R_drew HO.out) hg); have HB3 := Aside0.mk hb; clear ho hb hg hat)
                    go_wp2
                    go_roundg k1
                    case measure => omega
                    case rel => exact ⟨out ++ [c % 256], s.extract n s.size, rfl, HT4, ⟨by have := HKq.out; omega⟩, HO2, HM3, HB3⟩
                  | none =>
                    rw [hc] at hm
                    simp only [Option.getD_none, Option.isSome_none, El.val, El.zero] at hm
                    have HT3 := Aside0.mk (by have := HT2.out; rw [tryN_none hn hc] at this; exact this)
                    clear hc HT2
                    have HN2 := Aside0.mk hn
                    clear hn
                    go_wp2
                    go_roundg n
                    case measure => have := HN.out; omega
                    case rel => exact ⟨n - 1, by have := HN2.out; rw [show ((n - 1 : Nat) : Int) = (n : Int) - 1 by omega], rfl, HO, by omega, by omega, ⟨by have := HN2.out; omega⟩, HT3, rfl⟩
                · have e0 : decide ((2 : Int) ≤ (n : Int)) = false := decide_eq_false (by omega)
                  have e3 : (n : Int) < 2 := by omega
                  have HT3 := Aside0.mk (by have := HT2.out; rw [tryN_low (by omega)] at this; exact this)
                  clear HT2 hn
                  have HLM := Aside0.mk (show out.length + 2 < 140737488355328 by have := HT3.out; simp only [afterTry] at this; split at this; assumption; cases this)
                  have HT4 := Aside0.mk (show sym_Encode.l0 k1 l0 (out ++ [255, bt s 0]) (s.extract 1 s.size) = some (r1, r2) by have := HT3.out; simp only [afterTry] at this; rw [if_pos HLM.out] at this; exact this)
                  clear HT3
                  go_wp2
                  have e5 : decide ((0 : Int) < (s.size : Int)) = true := d0
                  have e6 : (1 : Int) ≤ (s.size : Int) := by have := HP.out; omega
                  have e7 : 0 < s.size := HP.out
                  have hbt : ((s[0]'e7).toNat : Int) = bt s 0 := bt_at s 0 e7
                  go_region_law (refine Kd.R_append_rows_step (Kd.int .u8) (w0 := w) w.heap.size (by rfl) (.tmp 58) (.tmp 61) 23 5 (.int .u8 0) 1 rfl Try.underlying23 info5e rfl (by decide) (by omega) u9 out [255, bt s 0] (some ⟨wr.heap.size, 0, none⟩) 2 2 (fun _ => True) (fun _ => False) rfl rfl (Kd.R_alloc (Kd.R_drew HO.out) _) (C_new wr.drew .u8 _ [255, bt s 0] (by simp)) (fun _ _ h => h) (fun _ hk => hk.elim) (fun _ _ => trivial) (below_alloc (below_drew1 HB.out) _) (below_size (below_alloc (below_drew1 HB.out) _)) (by have := HLM.out; omega) ?_; intro v1 w2 ho hb hg hat; have HO2 := Aside0.mk ho; have HM3 := Aside0.mk (MapIs.grown (HM.out.drew.alloc _) (Kd.R_alloc (Kd.R_drew HO.out) _) hg); have HB3 := Aside0.mk hb; clear ho hb hg hat)
                  go_wp2
                  go_roundg k1
                  case measure => omega
                  case rel => exact ⟨out ++ [255, bt s 0], s.extract 1 s.size, rfl, HT4, ⟨by have := HKq.out; omega⟩, HO2, HM3, HB3⟩
            · rw [if_neg hs] at H
              have d0 : decide ((0 : Int) < (s.size : Int)) = false := decide_eq_false (by omega)
              have d1 : decide (0 < s.size) = false := decide_eq_false hs
              simp only [Option.some.injEq, Prod.mk.injEq] at H
              obtain ⟨rfl, rfl⟩ := H
              go_wp2
              (try rw [Exit.noGoto_ret])
              go_ret2
              exact ⟨_, rfl, HO.out, HB.out⟩
  · obtain ⟨rfl, rfl⟩ : r1 = [] ∧ r2 = 1 := by have := H.out; unfold sym_Encode.f at this; rw [if_neg hf] at this; simpa [eq_comm] using this
    have HF := Aside0.mk (Bool.eq_false_iff.2 hf)
    clear H hf
    go_enter Try.func16, Try.ntmps16
    go_wp2
    go_step3
    go_wp2_with (go_at_call 19; (with_reducible refine (sym_Formed.calls _ _ l0 false _ HR0.out HC0.out (by unfold sym_Formed.f; rw [HF.out])).mono ?_); rintro e w1 ⟨rfl, hb1⟩; have HB1 := Aside0.mk hb1; clear hb1)
    (try rw [Exit.noGoto_ret])
    go_ret2
    exact ⟨_, rfl, Kd.R_nil _ _ _ _ _, HB1.out⟩
end Go.Proofs.Ytnmidkjmflnolaa.P
