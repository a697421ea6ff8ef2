/- Sets joined word by word, both sides. -/
import Derived.Test.YtiaaicmkpjlplaaPureFormed
import Derived.Test.YtiaaicmkpjlplaaP3
import Derived.Test.YtiaaicmkpjlplaaP4
import Derived.Test.YtiaaicmkpjlplaaP5
import Derived.Test.YtiaaicmkpjlplaaP8
namespace Go.Proofs.Ytiaaicmkpjlplaa.Pure
open Go Go.RowKit Go.Proofs.YtiaaicmkpjlplaaW.PrintWords Go.Proofs.YtiaaicmkpjlplaaW.PrintLast Go.Proofs.YtiaaicmkpjlplaaW.PrintMore Go.Proofs.Ytiaaicmkpjlplaa.P
set_option linter.unusedVariables false

/-- op joins words as f joins bits. -/
structure Joins (op : BinOp) (f : Bool → Bool → Bool) : Prop where
  ok : ∀ x y, okw x → okw y → okw (Go.bits op .u64 x y)
  bit : ∀ x y, okw x → okw y → ∀ j, j < 64 → (Go.bits op .u64 x y).toNat.testBit j = f (x.toNat.testBit j) (y.toNat.testBit j)
  none : f false false = false
theorem ofInt_nat (a : Nat) : BitVec.ofInt 64 (a : Int) = BitVec.ofNat 64 a := BitVec.ofInt_natCast 64 a
theorem wrapV (v : BitVec 64) : IntKind.u64.wrap (v.toNat : Int) = (v.toNat : Int) ∧ okw (v.toNat : Int) := by
  have := v.isLt
  have h : okw (v.toNat : Int) := ⟨by omega, by omega⟩
  exact ⟨wrapU h, h⟩
theorem bitV {a : Nat} (ha : a < 2 ^ 64) (j : Nat) (hj : j < 64) : (BitVec.ofNat 64 a).getLsbD j = a.testBit j := by
  rw [BitVec.getLsbD_ofNat, decide_eq_true hj, Bool.true_and]
theorem joins_and : Joins .and (fun a b => a && b) := by
  refine ⟨fun x y hx hy => ?_, fun x y hx hy j hj => ?_, rfl⟩
  · exact ((wrapV (BitVec.ofInt 64 x &&& BitVec.ofInt 64 y)).1.symm ▸ (wrapV (BitVec.ofInt 64 x &&& BitVec.ofInt 64 y)).2 : okw (IntKind.u64.wrap _))
  · obtain ⟨a, rfl⟩ := Int.eq_ofNat_of_zero_le hx.1
    obtain ⟨b, rfl⟩ := Int.eq_ofNat_of_zero_le hy.1
    have ha := nat_lt hx
    have hb := nat_lt hy
    rw [Int.toNat_natCast] at ha hb
    show (IntKind.u64.wrap ((BitVec.ofInt 64 (a : Int) &&& BitVec.ofInt 64 (b : Int)).toNat : Int)).toNat.testBit j = _
    rw [(wrapV _).1, Int.toNat_natCast, BitVec.testBit_toNat, ofInt_nat, ofInt_nat, BitVec.getLsbD_and, bitV ha j hj, bitV hb j hj, Int.toNat_natCast, Int.toNat_natCast]
theorem joins_or : Joins .or (fun a b => a || b) := by
  refine ⟨fun x y hx hy => ?_, fun x y hx hy j hj => ?_, rfl⟩
  · exact ((wrapV (BitVec.ofInt 64 x ||| BitVec.ofInt 64 y)).1.symm ▸ (wrapV (BitVec.ofInt 64 x ||| BitVec.ofInt 64 y)).2 : okw (IntKind.u64.wrap _))
  · obtain ⟨a, rfl⟩ := Int.eq_ofNat_of_zero_le hx.1
    obtain ⟨b, rfl⟩ := Int.eq_ofNat_of_zero_le hy.1
    have ha := nat_lt hx
    have hb := nat_lt hy
    rw [Int.toNat_natCast] at ha hb
    show (IntKind.u64.wrap ((BitVec.ofInt 64 (a : Int) ||| BitVec.ofInt 64 (b : Int)).toNat : Int)).toNat.testBit j = _
    rw [(wrapV _).1, Int.toNat_natCast, BitVec.testBit_toNat, ofInt_nat, ofInt_nat, BitVec.getLsbD_or, bitV ha j hj, bitV hb j hj, Int.toNat_natCast, Int.toNat_natCast]
theorem joins_minus : Joins .andNot (fun a b => a && !b) := by
  refine ⟨fun x y hx hy => ?_, fun x y hx hy j hj => ?_, rfl⟩
  · exact ((wrapV (BitVec.ofInt 64 x &&& ~~~BitVec.ofInt 64 y)).1.symm ▸ (wrapV (BitVec.ofInt 64 x &&& ~~~BitVec.ofInt 64 y)).2 : okw (IntKind.u64.wrap _))
  · obtain ⟨a, rfl⟩ := Int.eq_ofNat_of_zero_le hx.1
    obtain ⟨b, rfl⟩ := Int.eq_ofNat_of_zero_le hy.1
    have ha := nat_lt hx
    have hb := nat_lt hy
    rw [Int.toNat_natCast] at ha hb
    show (IntKind.u64.wrap ((BitVec.ofInt 64 (a : Int) &&& ~~~BitVec.ofInt 64 (b : Int)).toNat : Int)).toNat.testBit j = _
    rw [(wrapV _).1, Int.toNat_natCast, BitVec.testBit_toNat, ofInt_nat, ofInt_nat, BitVec.getLsbD_and, BitVec.getLsbD_not, bitV ha j hj, bitV hb j hj, Int.toNat_natCast, Int.toNat_natCast, decide_eq_true hj, Bool.true_and]
def joinW (op : BinOp) (W V : List Int) : List Int := List.zipWith (fun x y => Go.bits op .u64 x y) W V
theorem joinW_len {op : BinOp} {W V : List Int} (h : W.length = V.length) : (joinW op W V).length = W.length := by unfold joinW; rw [List.length_zipWith, ← h, Nat.min_self]
theorem joinW_at {op : BinOp} {W V : List Int} (h : W.length = V.length) {i : Nat} (hi : i < W.length) : (joinW op W V).getD i 0 = Go.bits op .u64 (W.getD i 0) (V.getD i 0) := by
  unfold joinW
  simp [List.getD, List.getElem?_zipWith, hi, show i < V.length by omega]
theorem joinW_ok {op : BinOp} {f : Bool → Bool → Bool} (J : Joins op f) : ∀ {W V : List Int}, okws W → okws V → okws (joinW op W V)
  | [], _, _, _ => fun x hx => by simp [joinW] at hx
  | _ :: _, [], _, _ => fun x hx => by simp [joinW] at hx
  | w :: W, v :: V, hW, hV => fun x hx => by
    rcases List.mem_cons.1 (show x ∈ Go.bits op .u64 w v :: joinW op W V from hx) with h | h
    · exact h ▸ J.ok w v (hW w (by simp)) (hV v (by simp))
    · exact joinW_ok J (fun y hy => hW y (by simp [hy])) (fun y hy => hV y (by simp [hy])) x h
theorem getD_ok {W : List Int} (h : okws W) (i : Nat) : okw (W.getD i 0) := by
  rcases Nat.lt_or_ge i W.length with hi | hi
  · rw [List.getD_eq_getElem?_getD, List.getElem?_eq_getElem hi]
    exact h _ (List.getElem_mem hi)
  · rw [List.getD_eq_getElem?_getD, List.getElem?_eq_none hi]
    exact ⟨by decide, by decide⟩
theorem joinW_bit {op : BinOp} {f : Bool → Bool → Bool} (J : Joins op f) {W V : List Int} (hW : okws W) (hV : okws V) (h : W.length = V.length) (j : Nat) : bitAt (joinW op W V) j = f (bitAt W j) (bitAt V j) := by
  unfold bitAt
  rcases Nat.lt_or_ge (j / 64) W.length with hi | hi
  · rw [joinW_at h hi, J.bit _ _ (getD_ok hW _) (getD_ok hV _) _ (by omega)]
  · rw [show (joinW op W V).getD (j / 64) (0 : Int) = (0 : Int) by simp [List.getD, List.getElem?_eq_none (show (joinW op W V).length ≤ j / 64 by rw [joinW_len h]; exact hi)], show W.getD (j / 64) (0 : Int) = (0 : Int) by simp [List.getD, List.getElem?_eq_none hi], show V.getD (j / 64) (0 : Int) = (0 : Int) by simp [List.getD, List.getElem?_eq_none (show V.length ≤ j / 64 by omega)]]
    simp [J.none]
/-- What both sides compute. -/
noncomputable def joinC (op : BinOp) (n : Int) (W : List Int) (m : Int) (V : List Int) : Int × List Int × Int := if fm n W = true ∧ fm m V = true ∧ n = m then (n, joinW op W V, 0) else (0, [], 1)
theorem joinC_no {op : BinOp} {n : Int} {W : List Int} {m : Int} {V : List Int} (h : ¬ (fm n W = true ∧ fm m V = true ∧ n = m)) : joinC op n W m V = (0, [], 1) := by unfold joinC; rw [if_neg h]
theorem set_is {op : BinOp} {f : Bool → Bool → Bool} (J : Joins op f) {n : Int} {W V : List Int} (hW : okws W) (hV : okws V) (h1 : IsSet n W) (h2 : IsSet n V) : IsSet n (joinW op W V) :=
  have hl : W.length = V.length := by rw [h1.2.2.1, h2.2.2.1]
  ⟨h1.1, h1.2.1, by rw [joinW_len hl]; exact h1.2.2.1, fun j hj => by rw [joinW_bit J hW hV hl, h1.2.2.2 j hj, h2.2.2.2 j hj, J.none]⟩

theorem joinedAnd_loop (n : Int) (W V : List Int) (h : W.length = V.length) (hb : W.length ≤ 100000000) : ∀ (d i : Nat) (R : List Int), i + d = W.length → R.length = W.length → (∀ j, j < i → R.getD j 0 = (joinW .and W V).getD j 0) →
    Ev (fun k => rowset_joinedAnd.l0 k 0 (W.length : Int) (i : Int) n W n V n R) (n, joinW .and W V, 0)
  | 0, i, R, hi, hR, hj => by
    have e : R = joinW .and W V := by
      refine List.ext_getElem (by rw [hR, joinW_len h]) (fun j h1 h2 => ?_)
      have := hj j (by omega)
      simpa [List.getD, h1, h2] using this
    rw [e]
    refine Ev.step (f := fun _ => some (n, joinW .and W V, 0)) (fun k => ?_) (Ev.now _)
    simp only [rowset_joinedAnd.l0]
    rw [if_neg (by omega)]
  | d + 1, i, R, hi, hR, hj => by
    have hil : i < W.length := by omega
    have ih := joinedAnd_loop n W V h hb d (i + 1) (R.set i (Go.bits .and .u64 (W.getD i 0) (V.getD i 0))) (by omega) (by rw [List.length_set]; exact hR) (fun j hj2 => by
      by_cases e : j = i
      · subst e
        rw [joinW_at h hil]
        simp [List.getD, show j < R.length by omega]
      · rw [← hj j (by omega)]
        simp [List.getD, List.getElem?_set_ne (fun h => e h.symm)])
    refine Ev.step (fun k => ?_) ih
    simp only [rowset_joinedAnd.l0]
    rw [if_pos (by omega), if_pos (by omega), if_pos (by omega), if_pos (by omega), rowset_And_c1.f, Option.bind_some, if_pos (by omega), wrap_in (by omega) (by omega), Int.toNat_natCast, rd_getD, rd_getD]
    rfl
theorem andW_ev (n : Int) (W : List Int) (m : Int) (V : List Int) (hW : okws W) (hV : okws V) (hl : W.length ≤ 100000000) (hm : V.length ≤ 100000000) : Ev (fun k => rowset_And.f k n W m V) (joinC .and n W m V) := by
  have bad : Ev (fun k => rowset_joinedAnd.j0 k true n W m V) (0, [], 1) := Ev.step (f := fun _ => some (0, [], 1)) (fun k => by simp only [rowset_joinedAnd.j0]; rw [if_pos trivial]) (Ev.now _)
  have main : Ev (fun k => rowset_joinedAnd.f k n W m V) (joinC .and n W m V) := by
    by_cases h1 : fm n W = true
    · by_cases h2 : fm m V = true
      · by_cases h3 : n = m
        · subst h3
          have s1 := fm_iff.1 h1
          have s2 := fm_iff.1 h2
          have hlen : W.length = V.length := by rw [s1.2.2.1, s2.2.2.1]
          have hk := joinedAnd_loop n W V hlen hl W.length 0 (List.replicate W.length 0) (by omega) (by simp) (fun j hj => by omega)
          have e : joinC .and n W n V = (n, joinW .and W V, 0) := by unfold joinC; rw [if_pos ⟨h1, h2, rfl⟩]
          rw [e]
          refine Ev.congr (f := fun k => rowset_joinedAnd.j0 k false n W n V) (fun k => ?_) (Ev.step (fun k => ?_) hk)
          · unfold rowset_joinedAnd.f
            rw [formed_f n W hW hl, Option.bind_some, if_pos h1, formed_f n V hV hm, Option.bind_some, if_pos h2, show (n != n) = false by simp]
          · simp only [rowset_joinedAnd.j0]
            rw [if_neg (by simp), empty_f, if_neg (by have := s1.1; have := s1.2.1; omega), Option.bind_some, ← s1.2.2.1, List.length_replicate]
            rfl
        · rw [joinC_no (fun h => h3 h.2.2)]
          refine Ev.congr (fun k => ?_) bad
          unfold rowset_joinedAnd.f
          rw [formed_f n W hW hl, Option.bind_some, if_pos h1, formed_f m V hV hm, Option.bind_some, if_pos h2, show (n != m) = true by simp [h3]]
      · rw [joinC_no (fun h => h2 h.2.1)]
        refine Ev.congr (fun k => ?_) bad
        unfold rowset_joinedAnd.f
        rw [formed_f n W hW hl, Option.bind_some, if_pos h1, formed_f m V hV hm, Option.bind_some, if_neg h2]
    · rw [joinC_no (fun h => h1 h.1)]
      refine Ev.congr (fun k => ?_) bad
      unfold rowset_joinedAnd.f
      rw [formed_f n W hW hl, Option.bind_some, if_neg h1]
  refine Ev.call0 main (Ev.now _) (fun k hk => ?_)
  unfold rowset_And.f
  rw [hk, Option.bind_some]

theorem joinedOr_loop (n : Int) (W V : List Int) (h : W.length = V.length) (hb : W.length ≤ 100000000) : ∀ (d i : Nat) (R : List Int), i + d = W.length → R.length = W.length → (∀ j, j < i → R.getD j 0 = (joinW .or W V).getD j 0) →
    Ev (fun k => rowset_joinedOr.l0 k 0 (W.length : Int) (i : Int) n W n V n R) (n, joinW .or W V, 0)
  | 0, i, R, hi, hR, hj => by
    have e : R = joinW .or W V := by
      refine List.ext_getElem (by rw [hR, joinW_len h]) (fun j h1 h2 => ?_)
      have := hj j (by omega)
      simpa [List.getD, h1, h2] using this
    rw [e]
    refine Ev.step (f := fun _ => some (n, joinW .or W V, 0)) (fun k => ?_) (Ev.now _)
    simp only [rowset_joinedOr.l0]
    rw [if_neg (by omega)]
  | d + 1, i, R, hi, hR, hj => by
    have hil : i < W.length := by omega
    have ih := joinedOr_loop n W V h hb d (i + 1) (R.set i (Go.bits .or .u64 (W.getD i 0) (V.getD i 0))) (by omega) (by rw [List.length_set]; exact hR) (fun j hj2 => by
      by_cases e : j = i
      · subst e
        rw [joinW_at h hil]
        simp [List.getD, show j < R.length by omega]
      · rw [← hj j (by omega)]
        simp [List.getD, List.getElem?_set_ne (fun h => e h.symm)])
    refine Ev.step (fun k => ?_) ih
    simp only [rowset_joinedOr.l0]
    rw [if_pos (by omega), if_pos (by omega), if_pos (by omega), if_pos (by omega), rowset_Or_c1.f, Option.bind_some, if_pos (by omega), wrap_in (by omega) (by omega), Int.toNat_natCast, rd_getD, rd_getD]
    rfl
theorem orW_ev (n : Int) (W : List Int) (m : Int) (V : List Int) (hW : okws W) (hV : okws V) (hl : W.length ≤ 100000000) (hm : V.length ≤ 100000000) : Ev (fun k => rowset_Or.f k n W m V) (joinC .or n W m V) := by
  have bad : Ev (fun k => rowset_joinedOr.j0 k true n W m V) (0, [], 1) := Ev.step (f := fun _ => some (0, [], 1)) (fun k => by simp only [rowset_joinedOr.j0]; rw [if_pos trivial]) (Ev.now _)
  have main : Ev (fun k => rowset_joinedOr.f k n W m V) (joinC .or n W m V) := by
    by_cases h1 : fm n W = true
    · by_cases h2 : fm m V = true
      · by_cases h3 : n = m
        · subst h3
          have s1 := fm_iff.1 h1
          have s2 := fm_iff.1 h2
          have hlen : W.length = V.length := by rw [s1.2.2.1, s2.2.2.1]
          have hk := joinedOr_loop n W V hlen hl W.length 0 (List.replicate W.length 0) (by omega) (by simp) (fun j hj => by omega)
          have e : joinC .or n W n V = (n, joinW .or W V, 0) := by unfold joinC; rw [if_pos ⟨h1, h2, rfl⟩]
          rw [e]
          refine Ev.congr (f := fun k => rowset_joinedOr.j0 k false n W n V) (fun k => ?_) (Ev.step (fun k => ?_) hk)
          · unfold rowset_joinedOr.f
            rw [formed_f n W hW hl, Option.bind_some, if_pos h1, formed_f n V hV hm, Option.bind_some, if_pos h2, show (n != n) = false by simp]
          · simp only [rowset_joinedOr.j0]
            rw [if_neg (by simp), empty_f, if_neg (by have := s1.1; have := s1.2.1; omega), Option.bind_some, ← s1.2.2.1, List.length_replicate]
            rfl
        · rw [joinC_no (fun h => h3 h.2.2)]
          refine Ev.congr (fun k => ?_) bad
          unfold rowset_joinedOr.f
          rw [formed_f n W hW hl, Option.bind_some, if_pos h1, formed_f m V hV hm, Option.bind_some, if_pos h2, show (n != m) = true by simp [h3]]
      · rw [joinC_no (fun h => h2 h.2.1)]
        refine Ev.congr (fun k => ?_) bad
        unfold rowset_joinedOr.f
        rw [formed_f n W hW hl, Option.bind_some, if_pos h1, formed_f m V hV hm, Option.bind_some, if_neg h2]
    · rw [joinC_no (fun h => h1 h.1)]
      refine Ev.congr (fun k => ?_) bad
      unfold rowset_joinedOr.f
      rw [formed_f n W hW hl, Option.bind_some, if_neg h1]
  refine Ev.call0 main (Ev.now _) (fun k hk => ?_)
  unfold rowset_Or.f
  rw [hk, Option.bind_some]

theorem joinedMinus_loop (n : Int) (W V : List Int) (h : W.length = V.length) (hb : W.length ≤ 100000000) : ∀ (d i : Nat) (R : List Int), i + d = W.length → R.length = W.length → (∀ j, j < i → R.getD j 0 = (joinW .andNot W V).getD j 0) →
    Ev (fun k => rowset_joinedMinus.l0 k 0 (W.length : Int) (i : Int) n W n V n R) (n, joinW .andNot W V, 0)
  | 0, i, R, hi, hR, hj => by
    have e : R = joinW .andNot W V := by
      refine List.ext_getElem (by rw [hR, joinW_len h]) (fun j h1 h2 => ?_)
      have := hj j (by omega)
      simpa [List.getD, h1, h2] using this
    rw [e]
    refine Ev.step (f := fun _ => some (n, joinW .andNot W V, 0)) (fun k => ?_) (Ev.now _)
    simp only [rowset_joinedMinus.l0]
    rw [if_neg (by omega)]
  | d + 1, i, R, hi, hR, hj => by
    have hil : i < W.length := by omega
    have ih := joinedMinus_loop n W V h hb d (i + 1) (R.set i (Go.bits .andNot .u64 (W.getD i 0) (V.getD i 0))) (by omega) (by rw [List.length_set]; exact hR) (fun j hj2 => by
      by_cases e : j = i
      · subst e
        rw [joinW_at h hil]
        simp [List.getD, show j < R.length by omega]
      · rw [← hj j (by omega)]
        simp [List.getD, List.getElem?_set_ne (fun h => e h.symm)])
    refine Ev.step (fun k => ?_) ih
    simp only [rowset_joinedMinus.l0]
    rw [if_pos (by omega), if_pos (by omega), if_pos (by omega), if_pos (by omega), rowset_Minus_c1.f, Option.bind_some, if_pos (by omega), wrap_in (by omega) (by omega), Int.toNat_natCast, rd_getD, rd_getD]
    rfl
theorem minusW_ev (n : Int) (W : List Int) (m : Int) (V : List Int) (hW : okws W) (hV : okws V) (hl : W.length ≤ 100000000) (hm : V.length ≤ 100000000) : Ev (fun k => rowset_Minus.f k n W m V) (joinC .andNot n W m V) := by
  have bad : Ev (fun k => rowset_joinedMinus.j0 k true n W m V) (0, [], 1) := Ev.step (f := fun _ => some (0, [], 1)) (fun k => by simp only [rowset_joinedMinus.j0]; rw [if_pos trivial]) (Ev.now _)
  have main : Ev (fun k => rowset_joinedMinus.f k n W m V) (joinC .andNot n W m V) := by
    by_cases h1 : fm n W = true
    · by_cases h2 : fm m V = true
      · by_cases h3 : n = m
        · subst h3
          have s1 := fm_iff.1 h1
          have s2 := fm_iff.1 h2
          have hlen : W.length = V.length := by rw [s1.2.2.1, s2.2.2.1]
          have hk := joinedMinus_loop n W V hlen hl W.length 0 (List.replicate W.length 0) (by omega) (by simp) (fun j hj => by omega)
          have e : joinC .andNot n W n V = (n, joinW .andNot W V, 0) := by unfold joinC; rw [if_pos ⟨h1, h2, rfl⟩]
          rw [e]
          refine Ev.congr (f := fun k => rowset_joinedMinus.j0 k false n W n V) (fun k => ?_) (Ev.step (fun k => ?_) hk)
          · unfold rowset_joinedMinus.f
            rw [formed_f n W hW hl, Option.bind_some, if_pos h1, formed_f n V hV hm, Option.bind_some, if_pos h2, show (n != n) = false by simp]
          · simp only [rowset_joinedMinus.j0]
            rw [if_neg (by simp), empty_f, if_neg (by have := s1.1; have := s1.2.1; omega), Option.bind_some, ← s1.2.2.1, List.length_replicate]
            rfl
        · rw [joinC_no (fun h => h3 h.2.2)]
          refine Ev.congr (fun k => ?_) bad
          unfold rowset_joinedMinus.f
          rw [formed_f n W hW hl, Option.bind_some, if_pos h1, formed_f m V hV hm, Option.bind_some, if_pos h2, show (n != m) = true by simp [h3]]
      · rw [joinC_no (fun h => h2 h.2.1)]
        refine Ev.congr (fun k => ?_) bad
        unfold rowset_joinedMinus.f
        rw [formed_f n W hW hl, Option.bind_some, if_pos h1, formed_f m V hV hm, Option.bind_some, if_neg h2]
    · rw [joinC_no (fun h => h1 h.1)]
      refine Ev.congr (fun k => ?_) bad
      unfold rowset_joinedMinus.f
      rw [formed_f n W hW hl, Option.bind_some, if_neg h1]
  refine Ev.call0 main (Ev.now _) (fun k hk => ?_)
  unfold rowset_Minus.f
  rw [hk, Option.bind_some]

theorem joinR_loop (kind : Int) (f : Bool → Bool → Bool) (hf : (kind = 0 ∧ f = fun a b => a && b) ∨ (kind = 1 ∧ f = fun a b => a || b) ∨ (kind = 2 ∧ f = fun a b => a && !b)) (A Y : List Bool) (n : Nat) (hn : n ≤ 1000000) (hY : Y.length = n) : ∀ (d i : Nat) (X : List Bool), i + d = n → X.length = n →
    (∀ j, j < i → X.getD j false = f (A.getD j false) (Y.getD j false)) → (∀ j, i ≤ j → X.getD j false = A.getD j false) →
    ∃ Z R, Z.length = n ∧ (∀ j, j < n → Z.getD j false = f (A.getD j false) (Y.getD j false)) ∧ SetAt Z n R ∧ Ev (fun k => dragnetref09_Join.l0 k kind X Y (i : Int)) ((n : Int), R, 0)
  | 0, i, X, hi, hX, h1, h2 => by
    obtain ⟨R, hR, hev⟩ := set_ev X (by omega)
    rw [hX] at hR
    refine ⟨X, R, hX, fun j hj => h1 j (by omega), hR, Ev.call hev (Ev.now _) (fun k hk => ?_)⟩
    simp only [dragnetref09_Join.l0]
    rw [if_neg (by omega), hk, Option.bind_some, hX]
  | d + 1, i, X, hi, hX, h1, h2 => by
    have hx : rdOf false X (i : Int) = A.getD i false := by rw [← h2 i (Nat.le_refl i)]; simp [rdOf]
    have hy : rdOf false Y (i : Int) = Y.getD i false := by simp [rdOf]
    obtain ⟨Z, R, z1, z2, z3, z4⟩ := joinR_loop kind f hf A Y n hn hY d (i + 1) (X.set i (f (A.getD i false) (Y.getD i false))) (by omega) (by rw [List.length_set]; exact hX) (fun j hj => by
      by_cases e : j = i
      · subst e
        simp [List.getD, show j < X.length by omega]
      · rw [← h1 j (by omega)]
        simp [List.getD, List.getElem?_set_ne (fun h => e h.symm)]) (fun j hj => by
      rw [← h2 j (by omega)]
      simp [List.getD, List.getElem?_set_ne (show i ≠ j by omega)])
    refine ⟨Z, R, z1, z2, z3, Ev.step (fun k => ?_) z4⟩
    simp only [dragnetref09_Join.l0]
    rw [if_pos (by omega), hx, hy, wrap_in (by omega) (by omega), Int.toNat_natCast]
    rcases hf with ⟨rfl, rfl⟩ | ⟨rfl, rfl⟩ | ⟨rfl, rfl⟩
    · rw [if_pos (by decide), if_pos (by omega)]
      cases A.getD i false
      · rw [if_neg (by simp)]; rfl
      · rw [if_pos rfl, if_pos (by omega)]; rfl
    · rw [if_neg (by decide), if_pos (by decide), if_pos (by omega)]
      cases A.getD i false
      · rw [if_neg (by simp), if_pos (by omega)]; rfl
      · rw [if_pos rfl]; rfl
    · rw [if_neg (by decide), if_neg (by decide), if_pos (by omega)]
      cases A.getD i false
      · rw [if_neg (by simp)]; rfl
      · rw [if_pos rfl, if_pos (by omega)]; rfl
theorem joinR_ev (kind : Int) (op : BinOp) (f : Bool → Bool → Bool) (J : Joins op f) (hf : (kind = 0 ∧ f = fun a b => a && b) ∨ (kind = 1 ∧ f = fun a b => a || b) ∨ (kind = 2 ∧ f = fun a b => a && !b))
    (n : Int) (W : List Int) (m : Int) (V : List Int) (hW : okws W) (hV : okws V) (hl : W.length ≤ 100000000) (hm : V.length ≤ 100000000) : Ev (fun k => dragnetref09_Join.f k kind n W m V) (joinC op n W m V) := by
  have bad : Ev (fun k => dragnetref09_Join.j0 k kind true n W m V) (0, [], 1) := Ev.step (f := fun _ => some (0, [], 1)) (fun k => by simp only [dragnetref09_Join.j0]; rw [if_pos trivial]) (Ev.now _)
  have f1 := formedR_ev n W hW hl
  have f2 := formedR_ev m V hV hm
  by_cases h1 : fm n W = true
  · rw [h1] at f1
    by_cases h2 : fm m V = true
    · rw [h2] at f2
      by_cases h3 : n = m
      · subst h3
        have s1 := fm_iff.1 h1
        have s2 := fm_iff.1 h2
        have hlen : W.length = V.length := by rw [s1.2.2.1, s2.2.2.1]
        have e : joinC op n W n V = (n, joinW op W V, 0) := by unfold joinC; rw [if_pos ⟨h1, h2, rfl⟩]
        rw [e]
        have sj := set_is J hW hV s1 s2
        obtain ⟨p, rfl⟩ := Int.eq_ofNat_of_zero_le s1.1
        have hp : p ≤ 4096 := by have := s1.2.1; omega
        have l1 : W.length = (p + 63) / 64 := s1.2.2.1
        obtain ⟨B, b1, b2, b3⟩ := bits_ev W hW p (by omega) (by omega)
        obtain ⟨C, c1, c2, c3⟩ := bits_ev V hV p (by omega) (by omega)
        obtain ⟨Z, R, z1, z2, z3, z4⟩ := joinR_loop kind f hf B C p (by omega) c1 p 0 B (by omega) b1 (fun j hj => by omega) (fun j hj => rfl)
        have hR : R = joinW op W V := by
          refine words_ext z3.1 (joinW_ok J hW hV) (by rw [z3.2.1, joinW_len hlen, l1]) (fun j _ => ?_)
          rw [z3.2.2]
          by_cases hj : j < p
          · rw [decide_eq_true hj, Bool.true_and, z2 j hj, b2 j hj, c2 j hj, joinW_bit J hW hV hlen]
          · rw [decide_eq_false hj, Bool.false_and]
            exact (sj.2.2.2 j (by rw [Int.toNat_natCast]; omega)).symm
        rw [← hR]
        have e3 : Ev (fun k => (dragnetref09_Bits.f k (p : Int) V).bind fun t366 => (dragnetref09_Join.l0 k kind B t366 0)) ((p : Int), R, 0) := Ev.call0 c3 z4 (fun k hk => by rw [hk, Option.bind_some]; rfl)
        have e2 : Ev (fun k => dragnetref09_Join.j0 k kind false (p : Int) W (p : Int) V) ((p : Int), R, 0) := Ev.call b3 e3 (fun k hk => by
          simp only [dragnetref09_Join.j0]
          rw [if_neg (by simp), hk, Option.bind_some])
        have e1 : Ev (fun k => (dragnetref09_Formed.f k (p : Int) V).bind fun t362 => (if t362 = true then (dragnetref09_Join.j0 k kind ((p : Int) != (p : Int)) (p : Int) W (p : Int) V) else (dragnetref09_Join.j0 k kind true (p : Int) W (p : Int) V))) ((p : Int), R, 0) := Ev.call0 f2 e2 (fun k hk => by rw [hk, Option.bind_some, if_pos rfl, show ((p : Int) != (p : Int)) = false by simp])
        refine Ev.call0 f1 e1 (fun k hk => ?_)
        unfold dragnetref09_Join.f
        rw [hk, Option.bind_some, if_pos rfl]
      · rw [joinC_no (fun h => h3 h.2.2)]
        have e1 : Ev (fun k => (dragnetref09_Formed.f k m V).bind fun t362 => (if t362 = true then (dragnetref09_Join.j0 k kind (n != m) n W m V) else (dragnetref09_Join.j0 k kind true n W m V))) (0, [], 1) := Ev.call0 f2 bad (fun k hk => by rw [hk, Option.bind_some, if_pos rfl, show (n != m) = true by simp [h3]])
        refine Ev.call0 f1 e1 (fun k hk => ?_)
        unfold dragnetref09_Join.f
        rw [hk, Option.bind_some, if_pos rfl]
    · rw [joinC_no (fun h => h2 h.2.1)]
      rw [Bool.not_eq_true] at h2
      rw [h2] at f2
      have e1 : Ev (fun k => (dragnetref09_Formed.f k m V).bind fun t362 => (if t362 = true then (dragnetref09_Join.j0 k kind (n != m) n W m V) else (dragnetref09_Join.j0 k kind true n W m V))) (0, [], 1) := Ev.call0 f2 bad (fun k hk => by rw [hk, Option.bind_some, if_neg (by simp)])
      refine Ev.call0 f1 e1 (fun k hk => ?_)
      unfold dragnetref09_Join.f
      rw [hk, Option.bind_some, if_pos rfl]
  · rw [joinC_no (fun h => h1 h.1)]
    rw [Bool.not_eq_true] at h1
    rw [h1] at f1
    refine Ev.call0 f1 bad (fun k hk => ?_)
    unfold dragnetref09_Join.f
    rw [hk, Option.bind_some, if_neg (by simp)]
end Go.Proofs.Ytiaaicmkpjlplaa.Pure
