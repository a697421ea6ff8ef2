/- The reference's Granules, Has, and how many rows a set has. -/
import Derived.Test.YtiaaicmkpjlplaaDoorPureList
import Derived.Test.YtiaaicmkpjlplaaDoorPureCount
import Derived.Test.YtiaaicmkpjlplaaDoorP5
import Derived.Test.YtiaaicmkpjlplaaDoorP1
namespace Go.Proofs.YtiaaicmkpjlplaaDoor.Pure
open Go Go.RowKit Go.Proofs.YtiaaicmkpjlplaaDoorW.PrintWords Go.Proofs.YtiaaicmkpjlplaaDoorW.PrintLast Go.Proofs.YtiaaicmkpjlplaaDoorW.PrintMore Go.Proofs.YtiaaicmkpjlplaaDoor.P
set_option linter.unusedVariables false

theorem gSt_last (pre : List (Fin 4096)) : ((gSt pre).1 = [] ∧ (gSt pre).2 = -1) ∨ ∃ h : (gSt pre).1 ≠ [], (gSt pre).1.getLast h = (gSt pre).2 := by
  suffices k : ∀ (l : List (Fin 4096)) (st : List Int × Int), ((st.1 = [] ∧ st.2 = -1) ∨ ∃ h : st.1 ≠ [], st.1.getLast h = st.2) → (((l.foldl gStep st).1 = [] ∧ (l.foldl gStep st).2 = -1) ∨ ∃ h : (l.foldl gStep st).1 ≠ [], (l.foldl gStep st).1.getLast h = (l.foldl gStep st).2) from
    k pre ([], -1) (.inl ⟨rfl, rfl⟩)
  intro l
  induction l with
  | nil => intro st h; exact h
  | cons x l ih =>
    intro st h
    rw [List.foldl_cons]
    apply ih
    unfold gStep
    split
    · exact h
    · exact .inr ⟨by simp, by simp⟩
theorem gran_loop (T : List (Fin 4096)) (hT : T.length ≤ 4096) : ∀ (d i : Nat), i + d = T.length → Ev (fun k => dragnetref09_Granules.l0 k (gSt (T.take i)).1 (T.map (fun x => ((x.val : Nat) : Int))) (i : Int)) (gSt T).1
  | 0, i, hi => by
    rw [List.take_of_length_le (by omega)]
    refine Ev.step (f := fun _ => some _) (fun k => ?_) (Ev.now _)
    simp only [dragnetref09_Granules.l0]
    rw [if_neg (by rw [List.length_map]; omega)]
  | d + 1, i, hi => by
    have hil : i < T.length := by omega
    have ih := gran_loop T hT d (i + 1) (by omega)
    have hl := gSt_len (T.take i)
    rw [List.length_take] at hl
    have hr : rd (T.map (fun x => ((x.val : Nat) : Int))) (i : Int) = ((T[i].val : Nat) : Int) := by simp [rd, List.getD, hil]
    have hx := T[i].isLt
    have hq : wrap64 (Int.tdiv ((T[i].val : Nat) : Int) 16) = ((T[i].val / 16 : Nat) : Int) := by
      rw [Int.tdiv_eq_ediv_of_nonneg (by omega), wrap_in (by omega) (by omega)]
      omega
    rw [List.take_add_one, List.getElem?_eq_getElem hil, Option.toList_some, gSt_snoc] at ih
    have hlast := gSt_last (T.take i)
    generalize gSt (T.take i) = st at *
    refine Ev.step (fun k => ?_) ih
    simp only [dragnetref09_Granules.l0]
    rw [if_pos (by rw [List.length_map]; omega), hr, hq, wrap_in (x := (i : Int) + 1) (by omega) (by omega)]
    unfold gStep
    rcases hlast with ⟨h1, h2⟩ | ⟨h1, h2⟩
    · rw [if_pos (by rw [h1]; rfl), if_pos (by omega), if_pos (by omega), if_neg (by rw [h2]; omega)]
      rfl
    · have hp : 0 < st.1.length := List.length_pos_iff.2 h1
      have he : rd st.1 (wrap64 ((st.1.length : Int) - 1)) = st.2 := by
        rw [wrap_in (by omega) (by omega), show (st.1.length : Int) - 1 = ((st.1.length - 1 : Nat) : Int) by omega, rd_getD, ← h2, List.getLast_eq_getElem, List.getD_eq_getElem?_getD, List.getElem?_eq_getElem (by omega)]
        rfl
      rw [if_neg (by omega), wrap_in (x := (st.1.length : Int) - 1) (by omega) (by omega), if_pos (by omega), if_pos (by omega), if_pos (by omega)]
      rw [wrap_in (by omega) (by omega)] at he
      rw [he]
      by_cases hg : st.2 = ((T[i].val / 16 : Nat) : Int)
      · rw [if_pos hg, if_pos hg.symm]
        rfl
      · rw [if_neg hg, if_pos (by omega), if_neg (fun e => hg e.symm)]
        rfl
theorem granR_ev (N : Int) (Ws : List Int) (ok : okws Ws) (hl : Ws.length ≤ 100000000) : Ev (fun k => dragnetref09_Granules.f k N Ws) (gSt (told N Ws)).1 := by
  have h := gran_loop (told N Ws) (told_len N Ws ok) (told N Ws).length 0 (by omega)
  refine Ev.call0 (list_ev N Ws ok hl) h (fun k hk => ?_)
  unfold dragnetref09_Granules.f
  rw [hk, Option.bind_some]
  rfl
theorem granP_f (N : Int) (Ws : List Int) (ok : okws Ws) (hl : Ws.length ≤ 100000000) : rowset_Granules.f N Ws = some (gSt (told N Ws)).1 := by
  unfold rowset_Granules.f
  rw [if_pos ⟨okB_iff.2 ok, hl⟩, toldB_eq ok hl]
theorem has_bit {x : Int} (hx : okw x) {j : Nat} (hj : j < 64) : (Go.bits .and .u64 (shr .u64 x (j : Int)) 1 == 1) = x.toNat.testBit j := by
  have hlt := nat_lt hx
  have hle : x.toNat / 2 ^ j < 2 ^ 64 := Nat.lt_of_le_of_lt (Nat.div_le_self _ _) hlt
  rw [shr_nat hx hj]
  have h := st_and (x := x.toNat / 2 ^ j) (m := 1) hle (by omega)
  rw [show ((1 : Nat) : Int) = 1 from rfl] at h
  rw [h, Nat.and_one_is_mod, Nat.testBit_eq_decide_div_mod_eq]
  generalize x.toNat / 2 ^ j = q
  rw [Bool.eq_iff_iff]
  simp only [beq_iff_eq, decide_eq_true_eq]
  omega
theorem has_f (N : Int) (Ws : List Int) (i : Int) (ok : okws Ws) (hl : Ws.length ≤ 100000000) : rowset_Has.f N Ws i = some (decide (i ∈ tl N Ws)) := by
  unfold rowset_Has.f
  by_cases h0 : i ≥ 0
  · rw [if_pos h0]
    by_cases h1 : i < N
    · rw [if_pos h1, formed_f N Ws ok hl, Option.bind_some]
      by_cases h : fm N Ws = true
      · rw [if_pos h]
        have s := fm_iff.1 h
        obtain ⟨j, rfl⟩ := Int.eq_ofNat_of_zero_le h0
        obtain ⟨n, rfl⟩ := Int.eq_ofNat_of_zero_le s.1
        have l1 : Ws.length = (n + 63) / 64 := s.2.2.1
        have hn : n ≤ 4096 := by have := s.2.1; omega
        have hw : okw (Ws.getD (j / 64) 0) := by
          rw [List.getD_eq_getElem?_getD, List.getElem?_eq_getElem (show j / 64 < Ws.length by omega)]
          exact ok _ (List.getElem_mem _)
        rw [div64 j (by omega), mod64, if_pos (by omega), if_pos (by omega), if_pos (by omega), rd_getD, has_bit hw (by omega)]
        congr 1
        rw [Bool.eq_iff_iff, decide_eq_true_eq, tl_set h, List.mem_map]
        constructor
        · intro hb
          refine ⟨j, ?_, rfl⟩
          unfold rng
          rw [List.mem_filter, List.mem_range, Int.toNat_natCast]
          exact ⟨by omega, hb⟩
        · rintro ⟨x, hx, e⟩
          obtain rfl : x = j := by omega
          exact (rng_lt hx).2
      · rw [if_neg h]
        rw [Bool.not_eq_true] at h
        rw [tl_not h]
        simp
    · rw [if_neg h1]
      congr 1
      symm
      apply decide_eq_false
      intro hm
      by_cases h : fm N Ws = true
      · rw [tl_set h, List.mem_map] at hm
        obtain ⟨x, hx, e⟩ := hm
        have := (rng_lt hx).1
        omega
      · rw [Bool.not_eq_true] at h
        rw [tl_not h] at hm
        simp at hm
  · rw [if_neg h0]
    congr 1
    symm
    apply decide_eq_false
    intro hm
    unfold tl at hm
    rw [List.mem_map] at hm
    obtain ⟨x, hx, e⟩ := hm
    omega
theorem pb_bits : ∀ b : Fin 256, pb b.val = ((List.range 8).filter b.val.testBit).length := by decide +kernel
theorem popc_bits (x : Nat) : popc x = ((List.range 64).filter x.testBit).length := by
  have step : ∀ m, ((List.range (8 * m + 8)).filter x.testBit).length = ((List.range (8 * m)).filter x.testBit).length + pb (by8 x m) := fun m => by
    rw [List.range_add, List.filter_append, List.length_append, pb_bits ⟨by8 x m, by8_lt x m⟩, List.filter_map, List.length_map]
    congr 2
    refine List.filter_congr (fun i hi => ?_)
    rw [List.mem_range] at hi
    show x.testBit (8 * m + i) = (by8 x m).testBit i
    unfold by8
    rw [show (256 : Nat) ^ m = 2 ^ (8 * m) by rw [Nat.pow_mul], show (256 : Nat) = 2 ^ 8 from rfl, Nat.testBit_mod_two_pow, Nat.testBit_div_two_pow, decide_eq_true hi, Bool.true_and]
    congr 1
    omega
  have s0 := step 0
  have s1 := step 1
  have s2 := step 2
  have s3 := step 3
  have s4 := step 4
  have s5 := step 5
  have s6 := step 6
  have s7 := step 7
  simp only [Nat.mul_zero, Nat.zero_add, Nat.reduceMul, Nat.reduceAdd, Nat.mul_one] at s0 s1 s2 s3 s4 s5 s6 s7
  rw [s7, s6, s5, s4, s3, s2, s1, s0]
  unfold popc
  simp
theorem cnt_rng (Ws : List Int) : ∀ j, j ≤ Ws.length → (rng Ws (64 * j)).length = cnt (Ws.take j)
  | 0, _ => rfl
  | j + 1, hj => by
    have ih := cnt_rng Ws j (by omega)
    have hc : ∀ l : List Int, ∀ x, cnt (l ++ [x]) = cnt l + popc x.toNat := fun l x => by
      induction l with
      | nil => simp [cnt]
      | cons y l ihl => simp only [List.cons_append, cnt, ihl]; omega
    rw [List.take_add_one, List.getElem?_eq_getElem (show j < Ws.length by omega), Option.toList_some, hc, ← ih, popc_bits]
    unfold rng
    rw [show 64 * (j + 1) = 64 * j + 64 by omega, List.range_add, List.filter_append, List.length_append, List.filter_map, List.length_map]
    congr 2
    refine List.filter_congr (fun i hi => ?_)
    rw [List.mem_range] at hi
    show bitAt Ws (64 * j + i) = Ws[j].toNat.testBit i
    unfold bitAt
    rw [show (64 * j + i) / 64 = j by omega, show (64 * j + i) % 64 = i by omega]
    simp [List.getD, show j < Ws.length by omega]
theorem countT_ev (N : Int) (Ws : List Int) (ok : okws Ws) (hl : Ws.length ≤ 100000000) : Ev (fun k => rowset_Count.f k N Ws) ((tl N Ws).length : Int) := by
  by_cases h : fm N Ws = true
  · have c := count_ev N Ws ok hl h
    have e : (tl N Ws).length = cnt Ws := by
      have k := cnt_rng Ws Ws.length (Nat.le_refl _)
      rw [List.take_length] at k
      rw [← k]
      unfold tl told lst
      rw [if_pos h, List.length_map, List.length_map]
    rw [e]
    exact c
  · rw [Bool.not_eq_true] at h
    rw [tl_not h]
    refine Ev.congr (f := fun _ => some 0) (fun k => ?_) (Ev.now _)
    unfold rowset_Count.f
    rw [formed_f N Ws ok hl, Option.bind_some, h, if_neg (by simp)]
end Go.Proofs.YtiaaicmkpjlplaaDoor.Pure
