/- Formed, both sides: a set's words, of n rows, with nothing beyond. -/
import Derived.Test.YtiaaicmkpjlplaaDoorPureOf
import Derived.Test.YtiaaicmkpjlplaaDoorP1
namespace Go.Proofs.YtiaaicmkpjlplaaDoor.Pure
open Go Go.RowKit Go.Proofs.YtiaaicmkpjlplaaDoorW.PrintWords Go.Proofs.YtiaaicmkpjlplaaDoorW.PrintLast Go.Proofs.YtiaaicmkpjlplaaDoorW.PrintMore Go.Proofs.YtiaaicmkpjlplaaDoor.P
set_option linter.unusedVariables false

/-- A set of n rows. -/
def IsSet (n : Int) (W : List Int) : Prop := 0 ≤ n ∧ n ≤ 4096 ∧ W.length = (n.toNat + 63) / 64 ∧ ∀ j, n.toNat ≤ j → bitAt W j = false
noncomputable def fm (n : Int) (W : List Int) : Bool := @decide (IsSet n W) (Classical.propDecidable _)
theorem fm_iff {n : Int} {W : List Int} : fm n W = true ↔ IsSet n W := by unfold fm; exact @decide_eq_true_iff _ (Classical.propDecidable _)
theorem fm_not {n : Int} {W : List Int} (h : ¬ IsSet n W) : fm n W = false := by
  cases e : fm n W
  · rfl
  · exact absurd (fm_iff.1 e) h
theorem wf_okws {l : List Int} (h : ∀ x ∈ l, (fun n => (Lit.int .u64 n).wf = true) x) : okws l := fun x hx => by
  have := h x hx
  simp only [Lit.wf, IntKind.min, IntKind.max, IntKind.signed, IntKind.bits, Bool.and_eq_true] at this
  unfold okw
  simp at this
  omega
theorem shr_nat {x : Int} (hx : okw x) {j : Nat} (hj : j < 64) : shr .u64 x (j : Int) = ((x.toNat / 2 ^ j : Nat) : Int) := by
  obtain ⟨a, rfl⟩ := Int.eq_ofNat_of_zero_le hx.1
  unfold shr
  rw [Int.toNat_natCast, Int.toNat_natCast, Nat.min_eq_left (by simp [IntKind.bits]; omega), show (2 : Int) ^ j = ((2 ^ j : Nat) : Int) by rw [Int.natCast_pow]; rfl, ← Int.natCast_ediv]
/-- The last word has nothing beyond. -/
theorem last_iff {n : Nat} {W : List Int} (hW : okws W) (hl : W.length = (n + 63) / 64) (hn : n % 64 ≠ 0) : (shr .u64 (W.getD (W.length - 1) 0) ((n % 64 : Nat) : Int) == 0) = true ↔ ∀ j, n ≤ j → bitAt W j = false := by
  have hq : W.length - 1 < W.length := by omega
  have hw : okw (W.getD (W.length - 1) 0) := by
    rw [List.getD_eq_getElem?_getD, List.getElem?_eq_getElem hq]
    exact hW _ (List.getElem_mem hq)
  rw [shr_nat hw (by omega), beq_iff_eq]
  have e : (W.getD (W.length - 1) 0).toNat / 2 ^ (n % 64) = 0 ↔ (W.getD (W.length - 1) 0).toNat < 2 ^ (n % 64) := by
    rw [Nat.div_eq_zero_iff]
    have := Nat.two_pow_pos (n % 64)
    omega
  constructor
  · intro h j hj
    have h1 := e.1 (by omega)
    unfold bitAt
    rcases Nat.lt_or_ge (j / 64) (W.length) with h2 | h2
    · have h3 : j / 64 = W.length - 1 := by omega
      rw [h3]
      exact Nat.testBit_lt_two_pow (Nat.lt_of_lt_of_le h1 (Nat.pow_le_pow_right (by omega) (by omega)))
    · rw [show W.getD (j / 64) (0 : Int) = (0 : Int) by simp [List.getD, List.getElem?_eq_none h2]]
      simp
  · intro h
    have h1 : (W.getD (W.length - 1) 0).toNat < 2 ^ (n % 64) := by
      refine Nat.lt_pow_two_of_testBit _ (fun i hi => ?_)
      rcases Nat.lt_or_ge i 64 with h2 | h2
      · have := h (64 * (W.length - 1) + i) (by omega)
        unfold bitAt at this
        rwa [show (64 * (W.length - 1) + i) / 64 = W.length - 1 by omega, show (64 * (W.length - 1) + i) % 64 = i by omega] at this
      · exact Nat.testBit_lt_two_pow (Nat.lt_of_lt_of_le (nat_lt hw) (Nat.pow_le_pow_right (by omega) h2))
    have := e.2 h1
    omega
theorem beyond {n : Nat} {W : List Int} (hl : W.length = (n + 63) / 64) (hn : n % 64 = 0) (j : Nat) (hj : n ≤ j) : bitAt W j = false := by
  unfold bitAt
  rw [show W.getD (j / 64) (0 : Int) = (0 : Int) by simp [List.getD, List.getElem?_eq_none (show W.length ≤ j / 64 by omega)]]
  simp
theorem formed_f (n : Int) (W : List Int) (hW : okws W) (hlen : W.length ≤ 100000000) : rowset_Formed.f n W = some (fm n W) := by
  unfold rowset_Formed.f
  by_cases h0 : n < 0
  · rw [if_pos h0, fm_not (fun h => by have := h.1; omega)]
  · rw [if_neg h0]
    by_cases h1 : n > 4096
    · rw [if_pos h1, fm_not (fun h => by have := h.2.1; omega)]
    · obtain ⟨m, rfl⟩ := Int.eq_ofNat_of_zero_le (show 0 ≤ n by omega)
      rw [if_neg h1, words_f (by omega) (by omega), Option.bind_some, Int.toNat_natCast]
      by_cases h2 : (W.length : Int) = (((m + 63) / 64 : Nat) : Int)
      · rw [if_pos h2, mod64]
        by_cases h3 : m % 64 = 0
        · rw [if_pos (by omega), fm_iff.2 ⟨by omega, by omega, by rw [Int.toNat_natCast]; omega, fun j hj => beyond (by omega) h3 j (by rw [Int.toNat_natCast] at hj; exact hj)⟩]
        · have hp : 0 < W.length := by omega
          rw [if_neg (by omega), wrap_in (x := (W.length : Int) - 1) (by omega) (by omega), if_pos (by omega), if_pos (by omega), if_pos (by omega), show (W.length : Int) - 1 = ((W.length - 1 : Nat) : Int) by omega, rd_getD]
          congr 1
          rw [Bool.eq_iff_iff, last_iff hW (by omega) h3, fm_iff]
          unfold IsSet
          rw [Int.toNat_natCast]
          constructor
          · intro h; exact ⟨by omega, by omega, by omega, h⟩
          · intro h; exact h.2.2.2
      · rw [if_neg h2, fm_not (fun h => by have := h.2.2.1; rw [Int.toNat_natCast] at this; omega)]
end Go.Proofs.YtiaaicmkpjlplaaDoor.Pure
