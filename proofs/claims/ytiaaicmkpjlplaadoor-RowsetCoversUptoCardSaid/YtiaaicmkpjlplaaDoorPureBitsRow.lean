/- Bits of the reference: a set as booleans. -/
import Derived.Test.YtiaaicmkpjlplaaDoorPureBitsOf
import Derived.Test.YtiaaicmkpjlplaaDoorPureSet
import Derived.Test.YtiaaicmkpjlplaaDoorP3
namespace Go.Proofs.YtiaaicmkpjlplaaDoor.Pure
open Go Go.RowKit Go.Proofs.YtiaaicmkpjlplaaDoorW.PrintWords Go.Proofs.YtiaaicmkpjlplaaDoorW.PrintLast Go.Proofs.YtiaaicmkpjlplaaDoorW.PrintMore Go.Proofs.YtiaaicmkpjlplaaDoor.P
set_option linter.unusedVariables false

theorem shr_bit {x : Int} (hx : okw x) {j : Nat} (hj : j < 64) : (Int.tmod (shr .u64 x (j : Int)) 2 == 1) = x.toNat.testBit j := by
  obtain ⟨a, rfl⟩ := Int.eq_ofNat_of_zero_le hx.1
  unfold shr
  rw [Int.toNat_natCast, Int.toNat_natCast, Nat.min_eq_left (by simp [IntKind.bits]; omega), show (2 : Int) ^ j = ((2 ^ j : Nat) : Int) by rw [Int.natCast_pow]; rfl, ← Int.natCast_ediv, Int.tmod_eq_emod_of_nonneg (Int.natCast_nonneg _), Nat.testBit_eq_decide_div_mod_eq]
  generalize a / 2 ^ j = q
  rw [Bool.eq_iff_iff]
  simp only [beq_iff_eq, decide_eq_true_eq]
  omega
def BitsAt (W : List Int) (i : Nat) (l : List Bool) : Prop := ∀ j, j < i → l.getD j false = bitAt W j
theorem bits_loop (W : List Int) (hW : okws W) (n : Nat) (hn : n ≤ 1000000) (hr : n ≤ 64 * W.length) : ∀ (d i : Nat) (l : List Bool), i + d = n → l.length = n → BitsAt W i l → ∃ R, R.length = n ∧ BitsAt W n R ∧ Ev (fun k => dragnetref09_Bits.l0 k l (i : Int) (n : Int) W) R
  | 0, i, l, hi, hl, hb => by
    obtain rfl : i = n := by omega
    refine ⟨l, hl, hb, Ev.step (f := fun _ => some l) (fun k => ?_) (Ev.now _)⟩
    simp only [dragnetref09_Bits.l0]
    rw [if_neg (by omega)]
  | d + 1, i, l, hi, hl, hb => by
    have hq : i / 64 < W.length := by omega
    have hbig : W.length ≤ 9000000000000000000 ∨ True := Or.inr trivial
    have hw : okw (W.getD (i / 64) 0) := by
      rw [List.getD_eq_getElem?_getD, List.getElem?_eq_getElem hq]
      exact hW _ (List.getElem_mem hq)
    obtain ⟨R, h1, h2, h3⟩ := bits_loop W hW n hn hr d (i + 1) (l.set i (bitAt W i)) (by omega) (by rw [List.length_set]; exact hl) (fun j hj => by
      by_cases e : j = i
      · subst e; simp [List.getD, show j < l.length by omega]
      · rw [← hb j (by omega)]
        simp [List.getD, List.getElem?_set_ne (fun h => e h.symm)])
    refine ⟨R, h1, h2, Ev.step (fun k => ?_) h3⟩
    simp only [dragnetref09_Bits.l0, div64 i (by omega), mod64]
    rw [if_pos (by omega), if_pos (by omega), if_pos (by omega), if_pos (by omega), if_pos (by omega), if_pos (by omega), rd_getD, shr_bit hw (by omega), wrap_in (by omega) (by omega), Int.toNat_natCast]
    rfl
theorem bits_ev (W : List Int) (hW : okws W) (n : Nat) (hn : n ≤ 1000000) (hr : n ≤ 64 * W.length) : ∃ R, R.length = n ∧ BitsAt W n R ∧ Ev (fun k => dragnetref09_Bits.f k (n : Int) W) R := by
  obtain ⟨R, h1, h2, h3⟩ := bits_loop W hW n hn hr n 0 (List.replicate n false) (by omega) (by simp) (fun j hj => by omega)
  refine ⟨R, h1, h2, Ev.congr (fun k => ?_) h3⟩
  unfold dragnetref09_Bits.f
  rw [if_pos (by omega), Int.toNat_natCast, if_pos (by omega)]
  rfl
end Go.Proofs.YtiaaicmkpjlplaaDoor.Pure
