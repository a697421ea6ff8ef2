/- Sets joined word by word, both sides. -/
import Derived.Test.YtiaaicmkpjlplaaDoorPureFormed
namespace Go.Proofs.YtiaaicmkpjlplaaDoor.Pure
open Go Go.RowKit Go.Proofs.YtiaaicmkpjlplaaDoorW.PrintWords Go.Proofs.YtiaaicmkpjlplaaDoorW.PrintLast Go.Proofs.YtiaaicmkpjlplaaDoorW.PrintMore Go.Proofs.YtiaaicmkpjlplaaDoor.P
set_option linter.unusedVariables false

/-- op joins words as f joins bits. -/
structure Joins (op : BinOp) (f : Bool → Bool → Bool) : Prop where
  ok : ∀ x y, okw x → okw y → okw (Go.bits op .u64 x y)
  bit : ∀ x y, okw x → okw y → ∀ j, j < 64 → (Go.bits op .u64 x y).toNat.testBit j = f (x.toNat.testBit j) (y.toNat.testBit j)
  none : f false false = false
theorem ofInt_nat (a : Nat) : BitVec.ofInt 64 (a : Int) = BitVec.ofNat 64 a := BitVec.ofInt_natCast 64 a
theorem wrapV (v : BitVec 64) : IntKind.u64.wrap (v.toNat : Int) = (v.toNat : Int) ∧ okw (v.toNat : Int) := by
  have := v.isLt
  have h : okw (v.toNat : Int) := ⟨by omega, by omega⟩
  exact ⟨wrapU h, h⟩
theorem bitV {a : Nat} (ha : a < 2 ^ 64) (j : Nat) (hj : j < 64) : (BitVec.ofNat 64 a).getLsbD j = a.testBit j := by
  rw [BitVec.getLsbD_ofNat, decide_eq_true hj, Bool.true_and]
theorem joins_and : Joins .and (fun a b => a && b) := by
  refine ⟨fun x y hx hy => ?_, fun x y hx hy j hj => ?_, rfl⟩
  · exact ((wrapV (BitVec.ofInt 64 x &&& BitVec.ofInt 64 y)).1.symm ▸ (wrapV (BitVec.ofInt 64 x &&& BitVec.ofInt 64 y)).2 : okw (IntKind.u64.wrap _))
  · obtain ⟨a, rfl⟩ := Int.eq_ofNat_of_zero_le hx.1
    obtain ⟨b, rfl⟩ := Int.eq_ofNat_of_zero_le hy.1
    have ha := nat_lt hx
    have hb := nat_lt hy
    rw [Int.toNat_natCast] at ha hb
    show (IntKind.u64.wrap ((BitVec.ofInt 64 (a : Int) &&& BitVec.ofInt 64 (b : Int)).toNat : Int)).toNat.testBit j = _
    rw [(wrapV _).1, Int.toNat_natCast, BitVec.testBit_toNat, ofInt_nat, ofInt_nat, BitVec.getLsbD_and, bitV ha j hj, bitV hb j hj, Int.toNat_natCast, Int.toNat_natCast]
theorem joins_or : Joins .or (fun a b => a || b) := by
  refine ⟨fun x y hx hy => ?_, fun x y hx hy j hj => ?_, rfl⟩
  · exact ((wrapV (BitVec.ofInt 64 x ||| BitVec.ofInt 64 y)).1.symm ▸ (wrapV (BitVec.ofInt 64 x ||| BitVec.ofInt 64 y)).2 : okw (IntKind.u64.wrap _))
  · obtain ⟨a, rfl⟩ := Int.eq_ofNat_of_zero_le hx.1
    obtain ⟨b, rfl⟩ := Int.eq_ofNat_of_zero_le hy.1
    have ha := nat_lt hx
    have hb := nat_lt hy
    rw [Int.toNat_natCast] at ha hb
    show (IntKind.u64.wrap ((BitVec.ofInt 64 (a : Int) ||| BitVec.ofInt 64 (b : Int)).toNat : Int)).toNat.testBit j = _
    rw [(wrapV _).1, Int.toNat_natCast, BitVec.testBit_toNat, ofInt_nat, ofInt_nat, BitVec.getLsbD_or, bitV ha j hj, bitV hb j hj, Int.toNat_natCast, Int.toNat_natCast]
theorem joins_minus : Joins .andNot (fun a b => a && !b) := by
  refine ⟨fun x y hx hy => ?_, fun x y hx hy j hj => ?_, rfl⟩
  · exact ((wrapV (BitVec.ofInt 64 x &&& ~~~BitVec.ofInt 64 y)).1.symm ▸ (wrapV (BitVec.ofInt 64 x &&& ~~~BitVec.ofInt 64 y)).2 : okw (IntKind.u64.wrap _))
  · obtain ⟨a, rfl⟩ := Int.eq_ofNat_of_zero_le hx.1
    obtain ⟨b, rfl⟩ := Int.eq_ofNat_of_zero_le hy.1
    have ha := nat_lt hx
    have hb := nat_lt hy
    rw [Int.toNat_natCast] at ha hb
    show (IntKind.u64.wrap ((BitVec.ofInt 64 (a : Int) &&& ~~~BitVec.ofInt 64 (b : Int)).toNat : Int)).toNat.testBit j = _
    rw [(wrapV _).1, Int.toNat_natCast, BitVec.testBit_toNat, ofInt_nat, ofInt_nat, BitVec.getLsbD_and, BitVec.getLsbD_not, bitV ha j hj, bitV hb j hj, Int.toNat_natCast, Int.toNat_natCast, decide_eq_true hj, Bool.true_and]
def joinW (op : BinOp) (W V : List Int) : List Int := List.zipWith (fun x y => Go.bits op .u64 x y) W V
theorem joinW_len {op : BinOp} {W V : List Int} (h : W.length = V.length) : (joinW op W V).length = W.length := by unfold joinW; rw [List.length_zipWith, ← h, Nat.min_self]
theorem joinW_at {op : BinOp} {W V : List Int} (h : W.length = V.length) {i : Nat} (hi : i < W.length) : (joinW op W V).getD i 0 = Go.bits op .u64 (W.getD i 0) (V.getD i 0) := by
  unfold joinW
  simp [List.getD, List.getElem?_zipWith, hi, show i < V.length by omega]
theorem joinW_ok {op : BinOp} {f : Bool → Bool → Bool} (J : Joins op f) : ∀ {W V : List Int}, okws W → okws V → okws (joinW op W V)
  | [], _, _, _ => fun x hx => by simp [joinW] at hx
  | _ :: _, [], _, _ => fun x hx => by simp [joinW] at hx
  | w :: W, v :: V, hW, hV => fun x hx => by
    rcases List.mem_cons.1 (show x ∈ Go.bits op .u64 w v :: joinW op W V from hx) with h | h
    · exact h ▸ J.ok w v (hW w (by simp)) (hV v (by simp))
    · exact joinW_ok J (fun y hy => hW y (by simp [hy])) (fun y hy => hV y (by simp [hy])) x h
theorem getD_ok {W : List Int} (h : okws W) (i : Nat) : okw (W.getD i 0) := by
  rcases Nat.lt_or_ge i W.length with hi | hi
  · rw [List.getD_eq_getElem?_getD, List.getElem?_eq_getElem hi]
    exact h _ (List.getElem_mem hi)
  · rw [List.getD_eq_getElem?_getD, List.getElem?_eq_none hi]
    exact ⟨by decide, by decide⟩
theorem joinW_bit {op : BinOp} {f : Bool → Bool → Bool} (J : Joins op f) {W V : List Int} (hW : okws W) (hV : okws V) (h : W.length = V.length) (j : Nat) : bitAt (joinW op W V) j = f (bitAt W j) (bitAt V j) := by
  unfold bitAt
  rcases Nat.lt_or_ge (j / 64) W.length with hi | hi
  · rw [joinW_at h hi, J.bit _ _ (getD_ok hW _) (getD_ok hV _) _ (by omega)]
  · rw [show (joinW op W V).getD (j / 64) (0 : Int) = (0 : Int) by simp [List.getD, List.getElem?_eq_none (show (joinW op W V).length ≤ j / 64 by rw [joinW_len h]; exact hi)], show W.getD (j / 64) (0 : Int) = (0 : Int) by simp [List.getD, List.getElem?_eq_none hi], show V.getD (j / 64) (0 : Int) = (0 : Int) by simp [List.getD, List.getElem?_eq_none (show V.length ≤ j / 64 by omega)]]
    simp [J.none]
/-- What both sides compute. -/
noncomputable def joinC (op : BinOp) (n : Int) (W : List Int) (m : Int) (V : List Int) : Int × List Int × Int := if fm n W = true ∧ fm m V = true ∧ n = m then (n, joinW op W V, 0) else (0, [], 1)
theorem joinC_no {op : BinOp} {n : Int} {W : List Int} {m : Int} {V : List Int} (h : ¬ (fm n W = true ∧ fm m V = true ∧ n = m)) : joinC op n W m V = (0, [], 1) := by unfold joinC; rw [if_neg h]
theorem set_is {op : BinOp} {f : Bool → Bool → Bool} (J : Joins op f) {n : Int} {W V : List Int} (hW : okws W) (hV : okws V) (h1 : IsSet n W) (h2 : IsSet n V) : IsSet n (joinW op W V) :=
  have hl : W.length = V.length := by rw [h1.2.2.1, h2.2.2.1]
  ⟨h1.1, h1.2.1, by rw [joinW_len hl]; exact h1.2.2.1, fun j hj => by rw [joinW_bit J hW hV hl, h1.2.2.2 j hj, h2.2.2.2 j hj, J.none]⟩
end Go.Proofs.YtiaaicmkpjlplaaDoor.Pure
