/- How many rows a set has: word by word. -/
import Derived.Test.YtiaaicmkpjlplaaPureJoinW
import Derived.Test.YtiaaicmkpjlplaaPurePop
import Derived.Test.YtiaaicmkpjlplaaP1
namespace Go.Proofs.Ytiaaicmkpjlplaa.Pure
open Go Go.RowKit Go.Proofs.YtiaaicmkpjlplaaW.PrintWords Go.Proofs.YtiaaicmkpjlplaaW.PrintLast Go.Proofs.YtiaaicmkpjlplaaW.PrintMore Go.Proofs.Ytiaaicmkpjlplaa.P
set_option linter.unusedVariables false

def cnt : List Int → Nat
  | [] => 0
  | x :: l => popc x.toNat + cnt l
theorem cnt_le : ∀ l : List Int, cnt l ≤ 64 * l.length
  | [] => Nat.le_refl _
  | x :: l => by
    rw [cnt, List.length_cons]
    have := cnt_le l
    have := popc_le x.toNat
    omega
theorem count_loop (W : List Int) (hW : okws W) (hl : W.length ≤ 100000000) : ∀ (d i : Nat) (acc : Nat), i + d = W.length → acc ≤ 64 * i → Ev (fun k => rowset_Count.l0 k (acc : Int) W (W.length : Int) (i : Int)) ((acc + cnt (W.drop i) : Nat) : Int)
  | 0, i, acc, hi, ha => by
    rw [List.drop_of_length_le (by omega)]
    refine Ev.step (f := fun _ => some (acc : Int)) (fun k => ?_) (Ev.now _)
    simp only [rowset_Count.l0]
    rw [if_neg (by omega)]
  | d + 1, i, acc, hi, ha => by
    have hil : i < W.length := by omega
    have hr : rd W (i : Int) = W[i] := by simp [rd, List.getD, hil]
    have hw := hW _ (List.getElem_mem hil)
    have hp := popc_le W[i].toNat
    have ih := count_loop W hW hl d (i + 1) (acc + popc W[i].toNat) (by omega) (by omega)
    rw [List.drop_eq_getElem_cons hil, cnt, ← Nat.add_assoc]
    refine Ev.step (fun k => ?_) ih
    simp only [rowset_Count.l0]
    have ho : bits_OnesCount64.f W[i] = some ((popc W[i].toNat : Nat) : Int) := by
      have := ones_f (nat_lt hw)
      rwa [Int.toNat_of_nonneg hw.1] at this
    rw [if_pos (by omega), if_pos (by omega), if_pos (by omega), hr, ho, Option.bind_some, wrap_in (by omega) (by omega), wrap_in (by omega) (by omega)]
    rfl
theorem count_ev (n : Int) (W : List Int) (hW : okws W) (hl : W.length ≤ 100000000) (hf : fm n W = true) : Ev (fun k => rowset_Count.f k n W) ((cnt W : Nat) : Int) := by
  have h := count_loop W hW hl W.length 0 0 (by omega) (by omega)
  rw [List.drop_zero, Nat.zero_add] at h
  refine Ev.congr (fun k => ?_) h
  unfold rowset_Count.f
  rw [formed_f n W hW hl, Option.bind_some, if_pos hf]
  rfl
theorem and_toNat {x y : Int} (hx : okw x) (hy : okw y) : (Go.bits .and .u64 x y).toNat = x.toNat &&& y.toNat := by
  apply Nat.eq_of_testBit_eq
  intro i
  rw [Nat.testBit_and]
  rcases Nat.lt_or_ge i 64 with h | h
  · exact joins_and.bit x y hx hy i h
  · rw [Nat.testBit_lt_two_pow (Nat.lt_of_lt_of_le (nat_lt (joins_and.ok x y hx hy)) (Nat.pow_le_pow_right (by omega) h)), Nat.testBit_lt_two_pow (Nat.lt_of_lt_of_le (nat_lt hx) (Nat.pow_le_pow_right (by omega) h))]
    rfl
theorem or_toNat {x y : Int} (hx : okw x) (hy : okw y) : (Go.bits .or .u64 x y).toNat = x.toNat ||| y.toNat := by
  apply Nat.eq_of_testBit_eq
  intro i
  rw [Nat.testBit_or]
  rcases Nat.lt_or_ge i 64 with h | h
  · exact joins_or.bit x y hx hy i h
  · rw [Nat.testBit_lt_two_pow (Nat.lt_of_lt_of_le (nat_lt (joins_or.ok x y hx hy)) (Nat.pow_le_pow_right (by omega) h)), Nat.testBit_lt_two_pow (Nat.lt_of_lt_of_le (nat_lt hx) (Nat.pow_le_pow_right (by omega) h)), Nat.testBit_lt_two_pow (Nat.lt_of_lt_of_le (nat_lt hy) (Nat.pow_le_pow_right (by omega) h))]
    rfl
theorem cnt_add : ∀ {W V : List Int}, okws W → okws V → W.length = V.length → cnt (joinW .and W V) + cnt (joinW .or W V) = cnt W + cnt V
  | [], [], _, _, _ => rfl
  | [], _ :: _, _, _, h => by simp at h
  | _ :: _, [], _, _, h => by simp at h
  | w :: W, v :: V, hW, hV, h => by
    have ih := cnt_add (W := W) (V := V) (fun y hy => hW y (by simp [hy])) (fun y hy => hV y (by simp [hy])) (by simpa using h)
    have e1 : joinW .and (w :: W) (v :: V) = Go.bits .and .u64 w v :: joinW .and W V := rfl
    have e2 : joinW .or (w :: W) (v :: V) = Go.bits .or .u64 w v :: joinW .or W V := rfl
    have hw := hW w (by simp)
    have hv := hV v (by simp)
    have p := popc_add w.toNat v.toNat
    rw [e1, e2, cnt, cnt, cnt, cnt, and_toNat hw hv, or_toNat hw hv]
    omega
end Go.Proofs.Ytiaaicmkpjlplaa.Pure
