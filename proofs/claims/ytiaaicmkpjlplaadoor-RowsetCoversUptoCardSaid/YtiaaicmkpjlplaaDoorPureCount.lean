/- How many rows a set has: word by word. -/
import Derived.Test.YtiaaicmkpjlplaaDoorPureFormed
import Derived.Test.YtiaaicmkpjlplaaDoorPurePop
import Derived.Test.YtiaaicmkpjlplaaDoorP1
namespace Go.Proofs.YtiaaicmkpjlplaaDoor.Pure
open Go Go.RowKit Go.Proofs.YtiaaicmkpjlplaaDoorW.PrintWords Go.Proofs.YtiaaicmkpjlplaaDoorW.PrintLast Go.Proofs.YtiaaicmkpjlplaaDoorW.PrintMore Go.Proofs.YtiaaicmkpjlplaaDoor.P
set_option linter.unusedVariables false

def cnt : List Int → Nat
  | [] => 0
  | x :: l => popc x.toNat + cnt l
theorem cnt_le : ∀ l : List Int, cnt l ≤ 64 * l.length
  | [] => Nat.le_refl _
  | x :: l => by
    rw [cnt, List.length_cons]
    have := cnt_le l
    have := popc_le x.toNat
    omega
theorem count_loop (W : List Int) (hW : okws W) (hl : W.length ≤ 100000000) : ∀ (d i : Nat) (acc : Nat), i + d = W.length → acc ≤ 64 * i → Ev (fun k => rowset_Count.l0 k (acc : Int) W (W.length : Int) (i : Int)) ((acc + cnt (W.drop i) : Nat) : Int)
  | 0, i, acc, hi, ha => by
    rw [List.drop_of_length_le (by omega)]
    refine Ev.step (f := fun _ => some (acc : Int)) (fun k => ?_) (Ev.now _)
    simp only [rowset_Count.l0]
    rw [if_neg (by omega)]
  | d + 1, i, acc, hi, ha => by
    have hil : i < W.length := by omega
    have hr : rd W (i : Int) = W[i] := by simp [rd, List.getD, hil]
    have hw := hW _ (List.getElem_mem hil)
    have hp := popc_le W[i].toNat
    have ih := count_loop W hW hl d (i + 1) (acc + popc W[i].toNat) (by omega) (by omega)
    rw [List.drop_eq_getElem_cons hil, cnt, ← Nat.add_assoc]
    refine Ev.step (fun k => ?_) ih
    simp only [rowset_Count.l0]
    have ho : bits_OnesCount64.f W[i] = some ((popc W[i].toNat : Nat) : Int) := by
      have := ones_f (nat_lt hw)
      rwa [Int.toNat_of_nonneg hw.1] at this
    rw [if_pos (by omega), if_pos (by omega), if_pos (by omega), hr, ho, Option.bind_some, wrap_in (by omega) (by omega), wrap_in (by omega) (by omega)]
    rfl
theorem count_ev (n : Int) (W : List Int) (hW : okws W) (hl : W.length ≤ 100000000) (hf : fm n W = true) : Ev (fun k => rowset_Count.f k n W) ((cnt W : Nat) : Int) := by
  have h := count_loop W hW hl W.length 0 0 (by omega) (by omega)
  rw [List.drop_zero, Nat.zero_add] at h
  refine Ev.congr (fun k => ?_) h
  unfold rowset_Count.f
  rw [formed_f n W hW hl, Option.bind_some, if_pos hf]
  rfl
end Go.Proofs.YtiaaicmkpjlplaaDoor.Pure
