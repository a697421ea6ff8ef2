/- The reference's Set and Bits: a row of booleans as words, and back. -/
import Derived.Test.YtiaaicmkpjlplaaDoorPureOf
import Derived.Test.YtiaaicmkpjlplaaDoorP3
namespace Go.Proofs.YtiaaicmkpjlplaaDoor.Pure
open Go Go.RowKit Go.Proofs.YtiaaicmkpjlplaaDoorW.PrintWords Go.Proofs.YtiaaicmkpjlplaaDoorW.PrintLast Go.Proofs.YtiaaicmkpjlplaaDoorW.PrintMore Go.Proofs.YtiaaicmkpjlplaaDoor.P
set_option linter.unusedVariables false

theorem append_okws {l : List Int} (h : okws l) {x : Int} (hx : okw x) : okws (l ++ [x]) := fun y hy => by
  rcases List.mem_append.1 hy with h1 | h1
  · exact h y h1
  · simp at h1; exact h1 ▸ hx
theorem bitAt_app0 (l : List Int) (j : Nat) : bitAt (l ++ [0]) j = bitAt l j := by
  unfold bitAt
  rcases Nat.lt_trichotomy (j / 64) l.length with h | h | h
  · rw [List.getD_eq_getElem?_getD, List.getElem?_append_left h, ← List.getD_eq_getElem?_getD]
  · rw [show (l ++ [(0 : Int)]).getD (j / 64) (0 : Int) = (0 : Int) by simp [List.getD, h], show l.getD (j / 64) (0 : Int) = (0 : Int) by simp [List.getD, h]]
  · rw [show (l ++ [(0 : Int)]).getD (j / 64) (0 : Int) = (0 : Int) by simp [List.getD, List.getElem?_eq_none (show (l ++ [(0 : Int)]).length ≤ j / 64 by simp; omega)], show l.getD (j / 64) (0 : Int) = (0 : Int) by simp [List.getD, List.getElem?_eq_none (show l.length ≤ j / 64 by omega)]]
/-- What is laid above all that was: the sum is the join. -/
theorem add_or {w : Int} (hw : okw w) {j : Nat} (hj : j < 64) (hz : ∀ k, j ≤ k → w.toNat.testBit k = false) : IntKind.u64.wrap (w + shl .u64 1 (j : Int)) = Go.bits .or .u64 w (shl .u64 1 (j : Int)) := by
  obtain ⟨e1, o1⟩ := one_shl hj
  rw [e1]
  obtain ⟨e2, o2⟩ := or_nat hw o1
  rw [Int.toNat_natCast] at e2
  have hlt : w.toNat < 2 ^ j := Nat.lt_pow_two_of_testBit _ hz
  have h := Nat.two_pow_add_eq_or_of_lt hlt 1
  rw [Nat.mul_one] at h
  have hsum : w + ((2 ^ j : Nat) : Int) = Go.bits .or .u64 w ((2 ^ j : Nat) : Int) := by
    rw [e2, Nat.or_comm, ← h]
    have := hw.1
    omega
  rw [hsum, wrapU o2]

/-- The words of the first i of l. -/
def SetAt (l : List Bool) (i : Nat) (W : List Int) : Prop := okws W ∧ W.length = (i + 63) / 64 ∧ ∀ j, bitAt W j = (decide (j < i) && l.getD j false)
theorem set_loop (l : List Bool) (hl : l.length ≤ 1000000) : ∀ (d i : Nat) (W : List Int), i + d = l.length → SetAt l i W → ∃ R, SetAt l l.length R ∧ Ev (fun k => dragnetref09_Set.l0 k l (i : Int) (l.length : Int) W) ((l.length : Int), R)
  | 0, i, W, hi, hW => by
    obtain rfl : i = l.length := by omega
    refine ⟨W, hW, Ev.step (f := fun _ => some ((l.length : Int), W)) (fun k => ?_) (Ev.now _)⟩
    simp only [dragnetref09_Set.l0]
    rw [if_neg (by omega)]
  | d + 1, i, W, hi, hW => by
    have hil : i < l.length := by omega
    -- the words with room for bit i
    have room : ∃ V, okws V ∧ V.length = (i + 64) / 64 ∧ (∀ j, bitAt V j = (decide (j < i) && l.getD j false)) ∧ (V = if i % 64 = 0 then W ++ [0] else W) := by
      by_cases h0 : i % 64 = 0
      · exact ⟨W ++ [0], append_okws hW.1 ⟨by omega, by omega⟩, by rw [List.length_append, hW.2.1, List.length_singleton]; omega, fun j => by rw [bitAt_app0, hW.2.2], by rw [if_pos h0]⟩
      · exact ⟨W, hW.1, by rw [hW.2.1]; omega, hW.2.2, by rw [if_neg h0]⟩
    obtain ⟨V, hV1, hV2, hV3, hVe⟩ := room
    have hq : i / 64 < V.length := by omega
    have hbig : V.length ≤ 100000 := by omega
    have hWl : W.length ≤ 100000 := by rw [hW.2.1]; omega
    have hb : rdOf false l (i : Int) = l[i] := by simp [rdOf, List.getD, hil]
    cases hbit : l[i] with
    | false =>
      have hn : SetAt l (i + 1) V := ⟨hV1, by omega, fun j => by
        rw [hV3]
        by_cases e : j = i
        · subst e; simp [List.getD, hil, hbit]
        · congr 1; rw [decide_eq_decide]; omega⟩
      obtain ⟨R, h1, h2⟩ := set_loop l hl d (i + 1) V (by omega) hn
      refine ⟨R, h1, Ev.step (fun k => ?_) h2⟩
      simp only [dragnetref09_Set.l0, div64 i (by omega), mod64, hb, hbit]
      rw [if_pos (by omega)]
      by_cases h0 : i % 64 = 0
      · rw [if_pos h0] at hVe
        rw [if_pos (by omega), if_pos (by omega), Option.bind_some, if_pos (by omega), if_neg (by simp), ← hVe, wrap_in (by omega) (by omega)]
        rfl
      · rw [if_neg h0] at hVe
        rw [if_neg (by omega), if_pos (by omega), if_neg (by simp), ← hVe, wrap_in (by omega) (by omega)]
        rfl
    | true =>
      have hw : okw (V.getD (i / 64) 0) := by
        rw [List.getD_eq_getElem?_getD, List.getElem?_eq_getElem hq]
        exact hV1 _ (List.getElem_mem hq)
      have hz : ∀ k, i % 64 ≤ k → (V.getD (i / 64) 0).toNat.testBit k = false := fun k hk => by
        rcases Nat.lt_or_ge k 64 with h | h
        · have := hV3 (64 * (i / 64) + k)
          unfold bitAt at this
          rw [show (64 * (i / 64) + k) / 64 = i / 64 by omega, show (64 * (i / 64) + k) % 64 = k by omega, decide_eq_false (by omega : ¬ 64 * (i / 64) + k < i)] at this
          simpa using this
        · exact Nat.testBit_lt_two_pow (Nat.lt_of_lt_of_le (nat_lt hw) (Nat.pow_le_pow_right (by omega) h))
      have hadd := add_or hw (show i % 64 < 64 by omega) hz
      have hs : okws (setBit V i) := set_okws hV1 (or_nat hw (by rw [(one_shl (show i % 64 < 64 by omega)).1]; exact (one_shl (show i % 64 < 64 by omega)).2)).2 _
      have hn : SetAt l (i + 1) (setBit V i) := ⟨hs, by rw [setBit_len]; omega, fun j => by
        rw [setBit, bitAt_or hV1 hq, hV3]
        by_cases e : j = i
        · subst e; simp [List.getD, hil, hbit]
        · rw [show decide (i = j) = false from decide_eq_false (fun h => e h.symm), Bool.or_false]; congr 1; rw [decide_eq_decide]; omega⟩
      obtain ⟨R, h1, h2⟩ := set_loop l hl d (i + 1) (setBit V i) (by omega) hn
      refine ⟨R, h1, Ev.step (fun k => ?_) h2⟩
      simp only [dragnetref09_Set.l0, div64 i (by omega), mod64, hb, hbit]
      rw [if_pos (by omega)]
      by_cases h0 : i % 64 = 0
      · rw [if_pos h0] at hVe
        rw [if_pos (by omega), if_pos (by omega), Option.bind_some, if_pos (by omega), if_pos trivial, if_pos (by omega), if_pos (by rw [← hVe]; omega), if_pos (by omega), ← hVe, wrap_in (by omega) (by omega), Int.toNat_natCast, rd_getD, hadd]
        rfl
      · rw [if_neg h0] at hVe
        rw [if_neg (by omega), if_pos (by omega), if_pos trivial, if_pos (by omega), if_pos (by rw [← hVe]; omega), if_pos (by omega), ← hVe, wrap_in (by omega) (by omega), Int.toNat_natCast, rd_getD, hadd]
        rfl
theorem set_ev (l : List Bool) (hl : l.length ≤ 1000000) : ∃ R, SetAt l l.length R ∧ Ev (fun k => dragnetref09_Set.f k l) ((l.length : Int), R) := by
  obtain ⟨R, h1, h2⟩ := set_loop l hl l.length 0 [] (by omega) ⟨fun x hx => by simp at hx, rfl, fun j => by simp [bitAt]⟩
  refine ⟨R, h1, Ev.congr (fun k => ?_) h2⟩
  unfold dragnetref09_Set.f
  rfl
theorem setAt_same {l : List Bool} {R S : List Int} (h1 : SetAt l l.length R) (h2 : SetAt l l.length S) : R = S :=
  words_ext h1.1 h2.1 (by rw [h1.2.1, h2.2.1]) (fun i _ => by rw [h1.2.2, h2.2.2])
theorem setAt_zero (n : Nat) : SetAt (List.replicate n false) (List.replicate n false).length (List.replicate ((n + 63) / 64) 0) := by
  refine ⟨fun x hx => ?_, by simp, fun j => ?_⟩
  · rw [List.mem_replicate] at hx
    rw [hx.2]
    exact ⟨by omega, by omega⟩
  · unfold bitAt
    simp only [List.getD_eq_getElem?_getD, List.getElem?_replicate]
    split <;> split <;> simp
theorem setBit_at {L : List Bool} {W : List Int} (hW : SetAt L L.length W) {x : Nat} (hx : x < L.length) : SetAt (L.set x true) (L.set x true).length (setBit W x) := by
  have hq : x / 64 < W.length := by rw [hW.2.1]; omega
  refine ⟨set_okws hW.1 ?_ _, by rw [setBit_len, List.length_set]; exact hW.2.1, fun j => ?_⟩
  · obtain ⟨e1, o1⟩ := one_shl (show x % 64 < 64 by omega)
    rw [e1]
    refine (or_nat ?_ o1).2
    rw [List.getD_eq_getElem?_getD, List.getElem?_eq_getElem hq]
    exact hW.1 _ (List.getElem_mem hq)
  · rw [setBit, bitAt_or hW.1 hq, hW.2.2, List.length_set]
    by_cases e : x = j
    · subst e
      simp [List.getD, hx]
    · simp [List.getD, List.getElem?_set_ne e, e]
end Go.Proofs.YtiaaicmkpjlplaaDoor.Pure
