/- math/bits.TrailingZeros64, where the table lies as its initialiser lays it. -/
import Derived.Test.YtiaaicmkpjlplaaDoorProg
import Derived.Test.YtiaaicmkpjlplaaDoorWWords
import Derived.Test.YtiaaicmkpjlplaaDoorWLast
import Derived.WalkKit
import Derived.Lib.LaidTab
namespace Go.Proofs.YtiaaicmkpjlplaaDoor.P
open Go Go.RowKit Go.Proofs.YtiaaicmkpjlplaaDoorW.PrintWords Go.Proofs.YtiaaicmkpjlplaaDoorW.PrintLast
set_option linter.unusedVariables false

def deB : List Int := [0, 1, 56, 2, 57, 49, 28, 3, 61, 58, 42, 50, 38, 29, 17, 4, 62, 47, 59, 36, 45, 43, 51, 22, 53, 39, 33, 30, 24, 18, 12, 5, 63, 55, 48, 27, 60, 41, 37, 16, 46, 35, 44, 21, 52, 32, 23, 11, 54, 26, 40, 15, 34, 20, 31, 10, 25, 14, 19, 9, 13, 8, 7, 6]
/-- The table lies as it was laid. -/
def TzLaid (w : World) : Prop := ∀ i : Nat, i < 64 → w.cell? ⟨0, i, none⟩ = some (.int .u8 (deB.getD i 0))
theorem low_bit : ∀ x : Nat, 0 < x → ∃ t m, x = 2 ^ t * (2 * m + 1)
  | x, h => by
    by_cases h2 : x % 2 = 1
    · exact ⟨0, x / 2, by omega⟩
    · obtain ⟨t, m, e⟩ := low_bit (x / 2) (by omega)
      exact ⟨t + 1, m, by rw [Nat.pow_succ, Nat.mul_right_comm, ← e]; omega⟩
theorem x_bits (t m i : Nat) : (2 ^ t * (2 * m + 1)).testBit i = (decide (t ≤ i) && (2 * m + 1).testBit (i - t)) := Nat.testBit_two_pow_mul
theorem odd_bit (m k : Nat) : (2 * m + 1).testBit k = if k = 0 then true else m.testBit (k - 1) := by
  cases k with
  | zero => rw [if_pos rfl, Nat.testBit_zero]; exact decide_eq_true (by omega)
  | succ k => rw [if_neg (by omega), Nat.testBit_succ, show (2 * m + 1) / 2 = m by omega]; rfl
theorem even_bit (m k : Nat) : (2 * m).testBit k = if k = 0 then false else m.testBit (k - 1) := by
  cases k with
  | zero => rw [if_pos rfl, Nat.testBit_zero]; exact decide_eq_false (by omega)
  | succ k => rw [if_neg (by omega), Nat.testBit_succ, show 2 * m / 2 = m by omega]; rfl
theorem sub_bits (t m i : Nat) : (2 ^ t * (2 * m + 1) - 1).testBit i = if i < t then true else if i = t then false else (2 ^ t * (2 * m + 1)).testBit i := by
  have hp := Nat.two_pow_pos t
  have e : 2 ^ t * (2 * m + 1) - 1 = 2 ^ t * (2 * m) + (2 ^ t - 1) := by rw [Nat.mul_add, Nat.mul_one]; omega
  rw [e, Nat.testBit_two_pow_mul_add _ (by omega)]
  by_cases h : i < t
  · rw [if_pos h, if_pos h, Nat.testBit_two_pow_sub_one, decide_eq_true h]
  · rw [if_neg h, if_neg h, even_bit]
    by_cases h2 : i = t
    · rw [if_pos h2, if_pos (by omega)]
    · rw [if_neg h2, if_neg (by omega), x_bits, decide_eq_true (by omega), Bool.true_and, odd_bit, if_neg (by omega)]
theorem x_low {t m i : Nat} (h : i < t) : (2 ^ t * (2 * m + 1)).testBit i = false := by rw [x_bits, decide_eq_false (by omega), Bool.false_and]
theorem x_at (t m : Nat) : (2 ^ t * (2 * m + 1)).testBit t = true := by rw [x_bits, decide_eq_true (Nat.le_refl _), Bool.true_and, Nat.sub_self, odd_bit, if_pos rfl]
theorem t_lt {t m : Nat} (h : 2 ^ t * (2 * m + 1) < 2 ^ 64) : t < 64 := by
  rcases Nat.lt_or_ge t 64 with h1 | h1
  · exact h1
  · have h2 : 2 ^ 64 ≤ 2 ^ t := Nat.pow_le_pow_right (by omega) h1
    have h3 : 2 ^ t * 1 ≤ 2 ^ t * (2 * m + 1) := Nat.mul_le_mul_left _ (by omega)
    omega
theorem and_neg {t m : Nat} (h : 2 ^ t * (2 * m + 1) < 2 ^ 64) : 2 ^ t * (2 * m + 1) &&& (2 ^ 64 - 2 ^ t * (2 * m + 1)) = 2 ^ t := by
  have hp := Nat.two_pow_pos t
  have h3 : 2 ^ t * 1 ≤ 2 ^ t * (2 * m + 1) := Nat.mul_le_mul_left _ (by omega)
  apply Nat.eq_of_testBit_eq
  intro i
  rw [Nat.testBit_and, show 2 ^ 64 - 2 ^ t * (2 * m + 1) = 2 ^ 64 - ((2 ^ t * (2 * m + 1) - 1) + 1) by omega, Nat.testBit_two_pow_sub_succ (by omega), sub_bits, Nat.testBit_two_pow]
  by_cases a : i < t
  · rw [x_low a, Bool.false_and, decide_eq_false (by omega)]
  · by_cases b : i = t
    · subst b
      rw [x_at, if_neg a, if_pos rfl, decide_eq_true (t_lt h), decide_eq_true rfl]
      rfl
    · rw [if_neg a, if_neg b, show decide (t = i) = false from decide_eq_false (fun e => b e.symm)]
      cases (2 ^ t * (2 * m + 1)).testBit i <;> simp
theorem clear_low (t m i : Nat) : (2 ^ t * (2 * m + 1) &&& (2 ^ t * (2 * m + 1) - 1)).testBit i = ((2 ^ t * (2 * m + 1)).testBit i && decide (i ≠ t)) := by
  rw [Nat.testBit_and, sub_bits]
  by_cases a : i < t
  · rw [x_low a, Bool.false_and, Bool.false_and]
  · by_cases b : i = t
    · subst b
      rw [if_neg a, if_pos rfl]
      simp
    · rw [if_neg a, if_neg b, decide_eq_true b, Bool.and_true, Bool.and_self]
/-- The index of the lowest bit's multiple, and what stands there. -/
theorem deB_at : ∀ t : Fin 64, (2 ^ t.val * 285870213051353865 % 2 ^ 64) / 2 ^ 58 < 64 ∧ deB.getD ((2 ^ t.val * 285870213051353865 % 2 ^ 64) / 2 ^ 58) 0 = (t.val : Int) := by decide +kernel
set_option maxRecDepth 100000 in
theorem tz_walk (x : Int) (j : Nat) (t : Int) (w : World) (hx : (x == 0) = false) (he : IntKind.u64.wrap (Go.bits .and .u64 x (IntKind.u64.wrap (-x)) * 285870213051353865) / 288230376151711744 = (j : Int)) (hj : j < 64) (hc : w.cell? ⟨0, j, none⟩ = some (.int .u8 t)) :
    Calls Tryd.prog 23 #[.int .u64 x] w fun e w' => e = .returned (.int .i64 (wrap64 t)) ∧ w' = w := by
  have h1 : 0 ≤ (j : Int) := by omega
  have h2 : (j : Int) < 64 := by omega
  have h3 : (j : Int).toNat = j := Int.toNat_natCast j
  go_enter Tryd.func23, Tryd.ntmps23
  go_wp2
  go_ret
  exact ⟨rfl, rfl⟩
theorem tz_calls (t m : Nat) (h : 2 ^ t * (2 * m + 1) < 2 ^ 64) (w : World) (hT : TzLaid w) :
    Calls Tryd.prog 23 #[.int .u64 ((2 ^ t * (2 * m + 1) : Nat) : Int)] w fun e w' => e = .returned (.int .i64 (t : Int)) ∧ w' = w := by
  have ht := t_lt h
  have hd := deB_at ⟨t, ht⟩
  simp only at hd
  have hc := hT _ hd.1
  rw [hd.2] at hc
  have hp := Nat.two_pow_pos t
  have h3 : 2 ^ t * 1 ≤ 2 ^ t * (2 * m + 1) := Nat.mul_le_mul_left _ (by omega)
  have ha := and_neg h
  have hpl : 2 ^ t < 2 ^ 64 := Nat.pow_lt_pow_right (by omega) ht
  have hw : ∀ n : Int, 0 ≤ n → n < 18446744073709551616 → IntKind.u64.wrap n = n := fun n h0 h1 => by
    simp [IntKind.wrap, IntKind.bits, IntKind.signed]
    omega
  generalize 2 ^ t * (2 * m + 1) = x at *
  generalize (2 : Nat) ^ t = p at *
  have e1 : IntKind.u64.wrap (-(x : Int)) = ((2 ^ 64 - x : Nat) : Int) := by
    simp [IntKind.wrap, IntKind.bits, IntKind.signed]
    omega
  have e2 : Go.bits .and .u64 (x : Int) (((2 ^ 64 - x : Nat) : Int)) = (p : Int) := by
    rw [(bits_nat .u64 64 (by decide) (fun n h0 h1 => hw n h0 (by omega)) x (2 ^ 64 - x) h (by omega)).1, ha]
  have e3 : IntKind.u64.wrap ((p : Int) * 285870213051353865) = ((p * 285870213051353865 % 2 ^ 64 : Nat) : Int) := by
    simp [IntKind.wrap, IntKind.bits, IntKind.signed]
  have hw2 : wrap64 (t : Int) = (t : Int) := by unfold wrap64; omega
  have := tz_walk (x : Int) (p * 285870213051353865 % 2 ^ 64 / 2 ^ 58) (t : Int) w (by simp; omega) (by rw [e1, e2, e3]; omega) hd.1 hc
  rwa [hw2] at this
end Go.Proofs.YtiaaicmkpjlplaaDoor.P
