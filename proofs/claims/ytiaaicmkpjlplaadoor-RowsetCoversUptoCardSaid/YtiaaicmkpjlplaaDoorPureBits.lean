/- Words of bits: plain Lean. -/
import Derived.Test.YtiaaicmkpjlplaaDoorP0
namespace Go.Proofs.YtiaaicmkpjlplaaDoor.Pure
open Go Go.RowKit Go.Proofs.YtiaaicmkpjlplaaDoorW.PrintWords Go.Proofs.YtiaaicmkpjlplaaDoorW.PrintLast Go.Proofs.YtiaaicmkpjlplaaDoorW.PrintMore
set_option linter.unusedVariables false

def okw (x : Int) : Prop := 0 ≤ x ∧ x < 18446744073709551616
def okws (l : List Int) : Prop := ∀ x ∈ l, okw x
/-- Bit i of a row of words. -/
def bitAt (l : List Int) (i : Nat) : Bool := ((l.getD (i / 64) 0).toNat).testBit (i % 64)
theorem nat_lt {x : Int} (h : okw x) : x.toNat < 2 ^ 64 := by
  have := h.1
  have := h.2
  omega
theorem words_ext {l r : List Int} (hl : okws l) (hr : okws r) (hlen : l.length = r.length) (h : ∀ i, i < 64 * l.length → bitAt l i = bitAt r i) : l = r := by
  refine List.ext_getElem hlen (fun j h1 h2 => ?_)
  have a := hl _ (List.getElem_mem h1)
  have b := hr _ (List.getElem_mem h2)
  have e : l[j].toNat = r[j].toNat := by
    apply Nat.eq_of_testBit_eq
    intro k
    rcases Nat.lt_or_ge k 64 with hk | hk
    · have := h (64 * j + k) (by omega)
      unfold bitAt at this
      rw [show (64 * j + k) / 64 = j by omega, show (64 * j + k) % 64 = k by omega] at this
      simpa [List.getD, h1, h2] using this
    · rw [Nat.testBit_lt_two_pow (Nat.lt_of_lt_of_le (nat_lt a) (Nat.pow_le_pow_right (by omega) hk)), Nat.testBit_lt_two_pow (Nat.lt_of_lt_of_le (nat_lt b) (Nat.pow_le_pow_right (by omega) hk))]
  have := a.1
  have := b.1
  omega
theorem wrapU {x : Int} (h : okw x) : IntKind.u64.wrap x = x := by
  have := h.1
  have := h.2
  simp [IntKind.wrap, IntKind.bits, IntKind.signed]
  omega
theorem one_shl {j : Nat} (h : j < 64) : shl .u64 1 (j : Int) = ((2 ^ j : Nat) : Int) ∧ okw ((2 ^ j : Nat) : Int) := by
  have hp : (2 : Nat) ^ j < 2 ^ 64 := Nat.pow_lt_pow_right (by omega) h
  have ho : okw ((2 ^ j : Nat) : Int) := by
    unfold okw
    generalize (2 : Nat) ^ j = p at hp ⊢
    omega
  refine ⟨?_, ho⟩
  unfold shl
  rw [Int.one_mul, Int.toNat_natCast, Nat.min_eq_left (by simp [IntKind.bits]; omega)]
  have : ((2 : Int) ^ j) = ((2 ^ j : Nat) : Int) := by rw [Int.natCast_pow]; rfl
  rw [this, wrapU ho]
theorem or_nat {x y : Int} (hx : okw x) (hy : okw y) : Go.bits .or .u64 x y = ((x.toNat ||| y.toNat : Nat) : Int) ∧ okw (Go.bits .or .u64 x y) := by
  obtain ⟨a, rfl⟩ := Int.eq_ofNat_of_zero_le hx.1
  obtain ⟨b, rfl⟩ := Int.eq_ofNat_of_zero_le hy.1
  have ha := nat_lt hx
  have hb := nat_lt hy
  rw [Int.toNat_natCast] at ha hb
  have h := (bits_nat .u64 64 (by decide) (fun m h0 h1 => wrapU ⟨h0, by omega⟩) a b ha hb).2
  rw [Int.toNat_natCast, Int.toNat_natCast]
  refine ⟨h, ?_⟩
  rw [h]
  have := Nat.or_lt_two_pow ha hb
  exact ⟨by omega, by omega⟩
theorem set_okws {l : List Int} (h : okws l) {x : Int} (hx : okw x) (i : Nat) : okws (l.set i x) := fun y hy => by
  rcases List.mem_or_eq_of_mem_set hy with h1 | h1
  · exact h y h1
  · exact h1 ▸ hx
/-- A bit is laid. -/
theorem bitAt_or {l : List Int} (h : okws l) {i : Nat} (hi : i / 64 < l.length) (j : Nat) :
    bitAt (l.set (i / 64) (Go.bits .or .u64 (l.getD (i / 64) 0) (shl .u64 1 ((i % 64 : Nat) : Int)))) j = (bitAt l j || decide (i = j)) := by
  have hw : okw (l.getD (i / 64) 0) := by
    rw [List.getD_eq_getElem?_getD, List.getElem?_eq_getElem hi]
    exact h _ (List.getElem_mem hi)
  obtain ⟨e1, o1⟩ := one_shl (j := i % 64) (by omega)
  rw [e1]
  obtain ⟨e2, _⟩ := or_nat hw o1
  rw [e2, Int.toNat_natCast]
  unfold bitAt
  by_cases hj : j / 64 = i / 64
  · rw [hj, show (l.set (i / 64) (((l.getD (i / 64) 0).toNat ||| 2 ^ (i % 64) : Nat) : Int)).getD (i / 64) 0 = (((l.getD (i / 64) 0).toNat ||| 2 ^ (i % 64) : Nat) : Int) by simp [List.getD, hi], Int.toNat_natCast, Nat.testBit_or, Nat.testBit_two_pow]
    congr 1
    rw [decide_eq_decide]
    omega
  · rw [show (l.set (i / 64) (((l.getD (i / 64) 0).toNat ||| 2 ^ (i % 64) : Nat) : Int)).getD (j / 64) 0 = l.getD (j / 64) 0 by simp [List.getD, List.getElem?_set_ne (fun e => hj e.symm)], show decide (i = j) = false from decide_eq_false (fun e => hj (by rw [e]))]
    simp
end Go.Proofs.YtiaaicmkpjlplaaDoor.Pure
