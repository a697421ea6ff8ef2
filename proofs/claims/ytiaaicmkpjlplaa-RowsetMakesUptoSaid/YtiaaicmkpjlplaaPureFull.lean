/- rowset.Full. -/
import Derived.Test.YtiaaicmkpjlplaaPureFullRef
namespace Go.Proofs.Ytiaaicmkpjlplaa.Pure
open Go Go.RowKit Go.Proofs.YtiaaicmkpjlplaaW.PrintWords Go.Proofs.YtiaaicmkpjlplaaW.PrintLast Go.Proofs.YtiaaicmkpjlplaaW.PrintMore Go.Proofs.Ytiaaicmkpjlplaa.P
set_option linter.unusedVariables false

def ones : Int := 18446744073709551615
theorem ones_nat : ones.toNat = 2 ^ 64 - 1 := rfl
/-- The last word's bits beyond n are struck. -/
def maskC (n : Nat) (W : List Int) : List Int := if n % 64 = 0 then W else W.set (W.length - 1) (((2 ^ (n % 64) - 1 : Nat) : Int))
theorem full_loop (n : Nat) (hn : n ≤ 4096) : ∀ (d i : Nat) (W : List Int), i + d = W.length → W.length = (n + 63) / 64 → (∀ j, j < i → W.getD j 0 = ones) →
    Ev (fun k => rowset_Full.l0 k (n : Int) (W.length : Int) (i : Int) (n : Int) W) ((n : Int), maskC n (List.replicate W.length ones), 0)
  | 0, i, W, hi, hl, hb => by
    have he : W = List.replicate W.length ones := by
      refine List.ext_getElem (by simp) (fun j h1 h2 => ?_)
      have := hb j (by omega)
      simpa [List.getD, h1] using this
    rw [← he]
    refine Ev.step (f := fun _ => some ((n : Int), maskC n W, 0)) (fun k => ?_) (Ev.now _)
    simp only [rowset_Full.l0, mod64]
    rw [if_neg (by omega)]
    unfold maskC
    by_cases h : n % 64 = 0
    · rw [if_neg (by omega), if_pos h]
    · obtain ⟨e1, o1⟩ := one_shl (show n % 64 < 64 by omega)
      have hp : 0 < 2 ^ (n % 64) := Nat.two_pow_pos _
      have ho : okw (((2 ^ (n % 64) : Nat) : Int) - 1) := by
        have := o1.2
        unfold okw
        generalize (2 : Nat) ^ (n % 64) = p at *
        omega
      rw [if_pos (by omega), if_pos (by omega), wrap_in (by omega) (by omega), if_pos (by omega), if_pos (by omega), if_neg h, e1, wrapU ho, show ((W.length : Int) - 1).toNat = W.length - 1 by omega]
      congr 4
      generalize (2 : Nat) ^ (n % 64) = p at *
      omega
  | d + 1, i, W, hi, hl, hb => by
    have ih := full_loop n hn d (i + 1) (W.set i ones) (by rw [List.length_set]; omega) (by rw [List.length_set]; exact hl) (fun j hj => by
      by_cases e : j = i
      · subst e; simp [List.getD, show j < W.length by omega]
      · rw [← hb j (by omega)]
        simp [List.getD, List.getElem?_set_ne (fun h => e h.symm)])
    rw [List.length_set] at ih
    refine Ev.step (fun k => ?_) ih
    simp only [rowset_Full.l0]
    rw [if_pos (by omega), if_pos (by omega), if_pos (by omega), wrap_in (by omega) (by omega), Int.toNat_natCast]
    rfl
theorem ones_ok : okw ones := ⟨by unfold ones; omega, by unfold ones; omega⟩
theorem mask_set (n : Nat) : SetAt (List.replicate n true) n (maskC n (List.replicate ((n + 63) / 64) ones)) := by
  have hbit : ∀ j, (List.replicate n true).getD j false = decide (j < n) := fun j => by
    rw [List.getD_eq_getElem?_getD, List.getElem?_replicate]
    by_cases h : j < n
    · rw [if_pos h, decide_eq_true h]; rfl
    · rw [if_neg h, decide_eq_false h]; rfl
  have hr : ∀ q, (List.replicate ((n + 63) / 64) ones).getD q 0 = if q < (n + 63) / 64 then ones else 0 := fun q => by
    rw [List.getD_eq_getElem?_getD, List.getElem?_replicate]
    split <;> rfl
  have hok : okws (List.replicate ((n + 63) / 64) ones) := fun x hx => by rw [List.mem_replicate] at hx; exact hx.2 ▸ ones_ok
  unfold maskC
  by_cases h0 : n % 64 = 0
  · rw [if_pos h0]
    refine ⟨hok, by simp, fun j => ?_⟩
    rw [hbit, Bool.and_self]
    unfold bitAt
    rw [hr]
    by_cases hj : j / 64 < (n + 63) / 64
    · rw [if_pos hj, ones_nat, Nat.testBit_two_pow_sub_one, decide_eq_true (by omega), decide_eq_true (by omega)]
    · rw [if_neg hj, decide_eq_false (by omega)]
      simp
  · rw [if_neg h0]
    have hp : (2 : Nat) ^ (n % 64) < 2 ^ 64 := Nat.pow_lt_pow_right (by omega) (by omega)
    have hp0 : 0 < (2 : Nat) ^ (n % 64) := Nat.two_pow_pos _
    refine ⟨set_okws hok (by unfold okw; generalize (2 : Nat) ^ (n % 64) = p at *; omega) _, by simp, fun j => ?_⟩
    rw [hbit, Bool.and_self]
    unfold bitAt
    rw [List.length_replicate]
    by_cases hj : j / 64 = (n + 63) / 64 - 1
    · rw [hj, show ((List.replicate ((n + 63) / 64) ones).set ((n + 63) / 64 - 1) ((2 ^ (n % 64) - 1 : Nat) : Int)).getD ((n + 63) / 64 - 1) (0 : Int) = ((2 ^ (n % 64) - 1 : Nat) : Int) by simp [List.getD, show (n + 63) / 64 - 1 < (n + 63) / 64 by omega], Int.toNat_natCast, Nat.testBit_two_pow_sub_one, decide_eq_decide]
      omega
    · rw [show ((List.replicate ((n + 63) / 64) ones).set ((n + 63) / 64 - 1) ((2 ^ (n % 64) - 1 : Nat) : Int)).getD (j / 64) (0 : Int) = (List.replicate ((n + 63) / 64) ones).getD (j / 64) 0 by simp only [List.getD_eq_getElem?_getD]; rw [List.getElem?_set_ne (fun e => hj e.symm)], hr]
      by_cases hq : j / 64 < (n + 63) / 64
      · rw [if_pos hq, ones_nat, Nat.testBit_two_pow_sub_one, decide_eq_true (by omega), decide_eq_true (by omega)]
      · rw [if_neg hq, decide_eq_false (by omega)]
        simp
theorem full_ev (n : Nat) (hn : n ≤ 4096) : ∃ R, SetAt (List.replicate n true) n R ∧ Ev (fun k => rowset_Full.f k (n : Int)) ((n : Int), R, 0) := by
  refine ⟨_, mask_set n, ?_⟩
  have h := full_loop n hn ((n + 63) / 64) 0 (List.replicate ((n + 63) / 64) 0) (by simp) (by simp) (fun j hj => by omega)
  rw [List.length_replicate] at h
  refine Ev.congr (fun k => ?_) h
  unfold rowset_Full.f
  rw [empty_f, if_neg (by omega), Int.toNat_natCast, Option.bind_some, if_pos rfl, List.length_replicate]
  rfl
end Go.Proofs.Ytiaaicmkpjlplaa.Pure
