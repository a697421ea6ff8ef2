/- Sets joined word by word, both sides. -/
import Derived.Test.YtiaaicmkpjlplaaPureFormed
import Derived.Test.YtiaaicmkpjlplaaP3
import Derived.Test.YtiaaicmkpjlplaaP4
import Derived.Test.YtiaaicmkpjlplaaP5
namespace Go.Proofs.Ytiaaicmkpjlplaa.Pure
open Go Go.RowKit Go.Proofs.YtiaaicmkpjlplaaW.PrintWords Go.Proofs.YtiaaicmkpjlplaaW.PrintLast Go.Proofs.YtiaaicmkpjlplaaW.PrintMore Go.Proofs.Ytiaaicmkpjlplaa.P
set_option linter.unusedVariables false

/-- op joins words as f joins bits. -/
structure Joins (op : BinOp) (f : Bool → Bool → Bool) : Prop where
  ok : ∀ x y, okw x → okw y → okw (Go.bits op .u64 x y)
  bit : ∀ x y, okw x → okw y → ∀ j, j < 64 → (Go.bits op .u64 x y).toNat.testBit j = f (x.toNat.testBit j) (y.toNat.testBit j)
  none : f false false = false
theorem ofInt_nat (a : Nat) : BitVec.ofInt 64 (a : Int) = BitVec.ofNat 64 a := BitVec.ofInt_natCast 64 a
theorem wrapV (v : BitVec 64) : IntKind.u64.wrap (v.toNat : Int) = (v.toNat : Int) ∧ okw (v.toNat : Int) := by
  have := v.isLt
  have h : okw (v.toNat : Int) := ⟨by omega, by omega⟩
  exact ⟨wrapU h, h⟩
theorem bitV {a : Nat} (ha : a < 2 ^ 64) (j : Nat) (hj : j < 64) : (BitVec.ofNat 64 a).getLsbD j = a.testBit j := by
  rw [BitVec.getLsbD_ofNat, decide_eq_true hj, Bool.true_and]
theorem joins_and : Joins .and (fun a b => a && b) := by
  refine ⟨fun x y hx hy => ?_, fun x y hx hy j hj => ?_, rfl⟩
  · exact ((wrapV (BitVec.ofInt 64 x &&& BitVec.ofInt 64 y)).1.symm ▸ (wrapV (BitVec.ofInt 64 x &&& BitVec.ofInt 64 y)).2 : okw (IntKind.u64.wrap _))
  · obtain ⟨a, rfl⟩ := Int.eq_ofNat_of_zero_le hx.1
    obtain ⟨b, rfl⟩ := Int.eq_ofNat_of_zero_le hy.1
    have ha := nat_lt hx
    have hb := nat_lt hy
    rw [Int.toNat_natCast] at ha hb
    show (IntKind.u64.wrap ((BitVec.ofInt 64 (a : Int) &&& BitVec.ofInt 64 (b : Int)).toNat : Int)).toNat.testBit j = _
    rw [(wrapV _).1, Int.toNat_natCast, BitVec.testBit_toNat, ofInt_nat, ofInt_nat, BitVec.getLsbD_and, bitV ha j hj, bitV hb j hj, Int.toNat_natCast, Int.toNat_natCast]
theorem joins_or : Joins .or (fun a b => a || b) := by
  refine ⟨fun x y hx hy => ?_, fun x y hx hy j hj => ?_, rfl⟩
  · exact ((wrapV (BitVec.ofInt 64 x ||| BitVec.ofInt 64 y)).1.symm ▸ (wrapV (BitVec.ofInt 64 x ||| BitVec.ofInt 64 y)).2 : okw (IntKind.u64.wrap _))
  · obtain ⟨a, rfl⟩ := Int.eq_ofNat_of_zero_le hx.1
    obtain ⟨b, rfl⟩ := Int.eq_ofNat_of_zero_le hy.1
    have ha := nat_lt hx
    have hb := nat_lt hy
    rw [Int.toNat_natCast] at ha hb
    show (IntKind.u64.wrap ((BitVec.ofInt 64 (a : Int) ||| BitVec.ofInt 64 (b : Int)).toNat : Int)).toNat.testBit j = _
    rw [(wrapV _).1, Int.toNat_natCast, BitVec.testBit_toNat, ofInt_nat, ofInt_nat, BitVec.getLsbD_or, bitV ha j hj, bitV hb j hj, Int.toNat_natCast, Int.toNat_natCast]
theorem joins_minus : Joins .andNot (fun a b => a && !b) := by
  refine ⟨fun x y hx hy => ?_, fun x y hx hy j hj => ?_, rfl⟩
  · exact ((wrapV (BitVec.ofInt 64 x &&& ~~~BitVec.ofInt 64 y)).1.symm ▸ (wrapV (BitVec.ofInt 64 x &&& ~~~BitVec.ofInt 64 y)).2 : okw (IntKind.u64.wrap _))
  · obtain ⟨a, rfl⟩ := Int.eq_ofNat_of_zero_le hx.1
    obtain ⟨b, rfl⟩ := Int.eq_ofNat_of_zero_le hy.1
    have ha := nat_lt hx
    have hb := nat_lt hy
    rw [Int.toNat_natCast] at ha hb
    show (IntKind.u64.wrap ((BitVec.ofInt 64 (a : Int) &&& ~~~BitVec.ofInt 64 (b : Int)).toNat : Int)).toNat.testBit j = _
    rw [(wrapV _).1, Int.toNat_natCast, BitVec.testBit_toNat, ofInt_nat, ofInt_nat, BitVec.getLsbD_and, BitVec.getLsbD_not, bitV ha j hj, bitV hb j hj, Int.toNat_natCast, Int.toNat_natCast, decide_eq_true hj, Bool.true_and]
def joinW (op : BinOp) (W V : List Int) : List Int := List.zipWith (fun x y => Go.bits op .u64 x y) W V
theorem joinW_len {op : BinOp} {W V : List Int} (h : W.length = V.length) : (joinW op W V).length = W.length := by unfold joinW; rw [List.length_zipWith, ← h, Nat.min_self]
theorem joinW_at {op : BinOp} {W V : List Int} (h : W.length = V.length) {i : Nat} (hi : i < W.length) : (joinW op W V).getD i 0 = Go.bits op .u64 (W.getD i 0) (V.getD i 0) := by
  unfold joinW
  simp [List.getD, List.getElem?_zipWith, hi, show i < V.length by omega]
theorem joinW_ok {op : BinOp} {f : Bool → Bool → Bool} (J : Joins op f) : ∀ {W V : List Int}, okws W → okws V → okws (joinW op W V)
  | [], _, _, _ => fun x hx => by simp [joinW] at hx
  | _ :: _, [], _, _ => fun x hx => by simp [joinW] at hx
  | w :: W, v :: V, hW, hV => fun x hx => by
    rcases List.mem_cons.1 (show x ∈ Go.bits op .u64 w v :: joinW op W V from hx) with h | h
    · exact h ▸ J.ok w v (hW w (by simp)) (hV v (by simp))
    · exact joinW_ok J (fun y hy => hW y (by simp [hy])) (fun y hy => hV y (by simp [hy])) x h
theorem getD_ok {W : List Int} (h : okws W) (i : Nat) : okw (W.getD i 0) := by
  rcases Nat.lt_or_ge i W.length with hi | hi
  · rw [List.getD_eq_getElem?_getD, List.getElem?_eq_getElem hi]
    exact h _ (List.getElem_mem hi)
  · rw [List.getD_eq_getElem?_getD, List.getElem?_eq_none hi]
    exact ⟨by decide, by decide⟩
theorem joinW_bit {op : BinOp} {f : Bool → Bool → Bool} (J : Joins op f) {W V : List Int} (hW : okws W) (hV : okws V) (h : W.length = V.length) (j : Nat) : bitAt (joinW op W V) j = f (bitAt W j) (bitAt V j) := by
  unfold bitAt
  rcases Nat.lt_or_ge (j / 64) W.length with hi | hi
  · rw [joinW_at h hi, J.bit _ _ (getD_ok hW _) (getD_ok hV _) _ (by omega)]
  · rw [show (joinW op W V).getD (j / 64) (0 : Int) = (0 : Int) by simp [List.getD, List.getElem?_eq_none (show (joinW op W V).length ≤ j / 64 by rw [joinW_len h]; exact hi)], show W.getD (j / 64) (0 : Int) = (0 : Int) by simp [List.getD, List.getElem?_eq_none hi], show V.getD (j / 64) (0 : Int) = (0 : Int) by simp [List.getD, List.getElem?_eq_none (show V.length ≤ j / 64 by omega)]]
    simp [J.none]
/-- What both sides compute. -/
noncomputable def joinC (op : BinOp) (n : Int) (W : List Int) (m : Int) (V : List Int) : Int × List Int × Int := if fm n W = true ∧ fm m V = true ∧ n = m then (n, joinW op W V, 0) else (0, [], 1)
theorem joinC_no {op : BinOp} {n : Int} {W : List Int} {m : Int} {V : List Int} (h : ¬ (fm n W = true ∧ fm m V = true ∧ n = m)) : joinC op n W m V = (0, [], 1) := by unfold joinC; rw [if_neg h]
theorem set_is {op : BinOp} {f : Bool → Bool → Bool} (J : Joins op f) {n : Int} {W V : List Int} (hW : okws W) (hV : okws V) (h1 : IsSet n W) (h2 : IsSet n V) : IsSet n (joinW op W V) :=
  have hl : W.length = V.length := by rw [h1.2.2.1, h2.2.2.1]
  ⟨h1.1, h1.2.1, by rw [joinW_len hl]; exact h1.2.2.1, fun j hj => by rw [joinW_bit J hW hV hl, h1.2.2.2 j hj, h2.2.2.2 j hj, J.none]⟩

theorem joinedAnd_loop (n : Int) (W V : List Int) (h : W.length = V.length) (hb : W.length ≤ 100000000) : ∀ (d i : Nat) (R : List Int), i + d = W.length → R.length = W.length → (∀ j, j < i → R.getD j 0 = (joinW .and W V).getD j 0) →
    Ev (fun k => rowset_joinedAnd.l0 k 0 (W.length : Int) (i : Int) n W n V n R) (n, joinW .and W V, 0)
  | 0, i, R, hi, hR, hj => by
    have e : R = joinW .and W V := by
      refine List.ext_getElem (by rw [hR, joinW_len h]) (fun j h1 h2 => ?_)
      have := hj j (by omega)
      simpa [List.getD, h1, h2] using this
    rw [e]
    refine Ev.step (f := fun _ => some (n, joinW .and W V, 0)) (fun k => ?_) (Ev.now _)
    simp only [rowset_joinedAnd.l0]
    rw [if_neg (by omega)]
  | d + 1, i, R, hi, hR, hj => by
    have hil : i < W.length := by omega
    have ih := joinedAnd_loop n W V h hb d (i + 1) (R.set i (Go.bits .and .u64 (W.getD i 0) (V.getD i 0))) (by omega) (by rw [List.length_set]; exact hR) (fun j hj2 => by
      by_cases e : j = i
      · subst e
        rw [joinW_at h hil]
        simp [List.getD, show j < R.length by omega]
      · rw [← hj j (by omega)]
        simp [List.getD, List.getElem?_set_ne (fun h => e h.symm)])
    refine Ev.step (fun k => ?_) ih
    simp only [rowset_joinedAnd.l0]
    rw [if_pos (by omega), if_pos (by omega), if_pos (by omega), if_pos (by omega), rowset_And_c1.f, Option.bind_some, if_pos (by omega), wrap_in (by omega) (by omega), Int.toNat_natCast, rd_getD, rd_getD]
    rfl
theorem andW_ev (n : Int) (W : List Int) (m : Int) (V : List Int) (hW : okws W) (hV : okws V) (hl : W.length ≤ 100000000) (hm : V.length ≤ 100000000) : Ev (fun k => rowset_And.f k n W m V) (joinC .and n W m V) := by
  have bad : Ev (fun k => rowset_joinedAnd.j0 k true n W m V) (0, [], 1) := Ev.step (f := fun _ => some (0, [], 1)) (fun k => by simp only [rowset_joinedAnd.j0]; rw [if_pos trivial]) (Ev.now _)
  have main : Ev (fun k => rowset_joinedAnd.f k n W m V) (joinC .and n W m V) := by
    by_cases h1 : fm n W = true
    · by_cases h2 : fm m V = true
      · by_cases h3 : n = m
        · subst h3
          have s1 := fm_iff.1 h1
          have s2 := fm_iff.1 h2
          have hlen : W.length = V.length := by rw [s1.2.2.1, s2.2.2.1]
          have hk := joinedAnd_loop n W V hlen hl W.length 0 (List.replicate W.length 0) (by omega) (by simp) (fun j hj => by omega)
          have e : joinC .and n W n V = (n, joinW .and W V, 0) := by unfold joinC; rw [if_pos ⟨h1, h2, rfl⟩]
          rw [e]
          refine Ev.congr (f := fun k => rowset_joinedAnd.j0 k false n W n V) (fun k => ?_) (Ev.step (fun k => ?_) hk)
          · unfold rowset_joinedAnd.f
            rw [formed_f n W hW hl, Option.bind_some, if_pos h1, formed_f n V hV hm, Option.bind_some, if_pos h2, show (n != n) = false by simp]
          · simp only [rowset_joinedAnd.j0]
            rw [if_neg (by simp), empty_f, if_neg (by have := s1.1; have := s1.2.1; omega), Option.bind_some, ← s1.2.2.1, List.length_replicate]
            rfl
        · rw [joinC_no (fun h => h3 h.2.2)]
          refine Ev.congr (fun k => ?_) bad
          unfold rowset_joinedAnd.f
          rw [formed_f n W hW hl, Option.bind_some, if_pos h1, formed_f m V hV hm, Option.bind_some, if_pos h2, show (n != m) = true by simp [h3]]
      · rw [joinC_no (fun h => h2 h.2.1)]
        refine Ev.congr (fun k => ?_) bad
        unfold rowset_joinedAnd.f
        rw [formed_f n W hW hl, Option.bind_some, if_pos h1, formed_f m V hV hm, Option.bind_some, if_neg h2]
    · rw [joinC_no (fun h => h1 h.1)]
      refine Ev.congr (fun k => ?_) bad
      unfold rowset_joinedAnd.f
      rw [formed_f n W hW hl, Option.bind_some, if_neg h1]
  refine Ev.call0 main (Ev.now _) (fun k hk => ?_)
  unfold rowset_And.f
  rw [hk, Option.bind_some]

theorem joinedOr_loop (n : Int) (W V : List Int) (h : W.length = V.length) (hb : W.length ≤ 100000000) : ∀ (d i : Nat) (R : List Int), i + d = W.length → R.length = W.length → (∀ j, j < i → R.getD j 0 = (joinW .or W V).getD j 0) →
    Ev (fun k => rowset_joinedOr.l0 k 0 (W.length : Int) (i : Int) n W n V n R) (n, joinW .or W V, 0)
  | 0, i, R, hi, hR, hj => by
    have e : R = joinW .or W V := by
      refine List.ext_getElem (by rw [hR, joinW_len h]) (fun j h1 h2 => ?_)
      have := hj j (by omega)
      simpa [List.getD, h1, h2] using this
    rw [e]
    refine Ev.step (f := fun _ => some (n, joinW .or W V, 0)) (fun k => ?_) (Ev.now _)
    simp only [rowset_joinedOr.l0]
    rw [if_neg (by omega)]
  | d + 1, i, R, hi, hR, hj => by
    have hil : i < W.length := by omega
    have ih := joinedOr_loop n W V h hb d (i + 1) (R.set i (Go.bits .or .u64 (W.getD i 0) (V.getD i 0))) (by omega) (by rw [List.length_set]; exact hR) (fun j hj2 => by
      by_cases e : j = i
      · subst e
        rw [joinW_at h hil]
        simp [List.getD, show j < R.length by omega]
      · rw [← hj j (by omega)]
        simp [List.getD, List.getElem?_set_ne (fun h => e h.symm)])
    refine Ev.step (fun k => ?_) ih
    simp only [rowset_joinedOr.l0]
    rw [if_pos (by omega), if_pos (by omega), if_pos (by omega), if_pos (by omega), rowset_Or_c1.f, Option.bind_some, if_pos (by omega), wrap_in (by omega) (by omega), Int.toNat_natCast, rd_getD, rd_getD]
    rfl
theorem orW_ev (n : Int) (W : List Int) (m : Int) (V : List Int) (hW : okws W) (hV : okws V) (hl : W.length ≤ 100000000) (hm : V.length ≤ 100000000) : Ev (fun k => rowset_Or.f k n W m V) (joinC .or n W m V) := by
  have bad : Ev (fun k => rowset_joinedOr.j0 k true n W m V) (0, [], 1) := Ev.step (f := fun _ => some (0, [], 1)) (fun k => by simp only [rowset_joinedOr.j0]; rw [if_pos trivial]) (Ev.now _)
  have main : Ev (fun k => rowset_joinedOr.f k n W m V) (joinC .or n W m V) := by
    by_cases h1 : fm n W = true
    · by_cases h2 : fm m V = true
      · by_cases h3 : n = m
        · subst h3
          have s1 := fm_iff.1 h1
          have s2 := fm_iff.1 h2
          have hlen : W.length = V.length := by rw [s1.2.2.1, s2.2.2.1]
          have hk := joinedOr_loop n W V hlen hl W.length 0 (List.replicate W.length 0) (by omega) (by simp) (fun j hj => by omega)
          have e : joinC .or n W n V = (n, joinW .or W V, 0) := by unfold joinC; rw [if_pos ⟨h1, h2, rfl⟩]
          rw [e]
          refine Ev.congr (f := fun k => rowset_joinedOr.j0 k false n W n V) (fun k => ?_) (Ev.step (fun k => ?_) hk)
          · unfold rowset_joinedOr.f
            rw [formed_f n W hW hl, Option.bind_some, if_pos h1, formed_f n V hV hm, Option.bind_some, if_pos h2, show (n != n) = false by simp]
          · simp only [rowset_joinedOr.j0]
            rw [if_neg (by simp), empty_f, if_neg (by have := s1.1; have := s1.2.1; omega), Option.bind_some, ← s1.2.2.1, List.length_replicate]
            rfl
        · rw [joinC_no (fun h => h3 h.2.2)]
          refine Ev.congr (fun k => ?_) bad
          unfold rowset_joinedOr.f
          rw [formed_f n W hW hl, Option.bind_some, if_pos h1, formed_f m V hV hm, Option.bind_some, if_pos h2, show (n != m) = true by simp [h3]]
      · rw [joinC_no (fun h => h2 h.2.1)]
        refine Ev.congr (fun k => ?_) bad
        unfold rowset_joinedOr.f
        rw [formed_f n W hW hl, Option.bind_some, if_pos h1, formed_f m V hV hm, Option.bind_some, if_neg h2]
    · rw [joinC_no (fun h => h1 h.1)]
      refine Ev.congr (fun k => ?_) bad
      unfold rowset_joinedOr.f
      rw [formed_f n W hW hl, Option.bind_some, if_neg h1]
  refine Ev.call0 main (Ev.now _) (fun k hk => ?_)
  unfold rowset_Or.f
  rw [hk, Option.bind_some]

theorem joinedMinus_loop (n : Int) (W V : List Int) (h : W.length = V.length) (hb : W.length ≤ 100000000) : ∀ (d i : Nat) (R : List Int), i + d = W.length → R.length = W.length → (∀ j, j < i → R.getD j 0 = (joinW .andNot W V).getD j 0) →
    Ev (fun k => rowset_joinedMinus.l0 k 0 (W.length : Int) (i : Int) n W n V n R) (n, joinW .andNot W V, 0)
  | 0, i, R, hi, hR, hj => by
    have e : R = joinW .andNot W V := by
      refine List.ext_getElem (by rw [hR, joinW_len h]) (fun j h1 h2 => ?_)
      have := hj j (by omega)
      simpa [List.getD, h1, h2] using this
    rw [e]
    refine Ev.step (f := fun _ => some (n, joinW .andNot W V, 0)) (fun k => ?_) (Ev.now _)
    simp only [rowset_joinedMinus.l0]
    rw [if_neg (by omega)]
  | d + 1, i, R, hi, hR, hj => by
    have hil : i < W.length := by omega
    have ih := joinedMinus_loop n W V h hb d (i + 1) (R.set i (Go.bits .andNot .u64 (W.getD i 0) (V.getD i 0))) (by omega) (by rw [List.length_set]; exact hR) (fun j hj2 => by
      by_cases e : j = i
      · subst e
        rw [joinW_at h hil]
        simp [List.getD, show j < R.length by omega]
      · rw [← hj j (by omega)]
        simp [List.getD, List.getElem?_set_ne (fun h => e h.symm)])
    refine Ev.step (fun k => ?_) ih
    simp only [rowset_joinedMinus.l0]
    rw [if_pos (by omega), if_pos (by omega), if_pos (by omega), if_pos (by omega), rowset_Minus_c1.f, Option.bind_some, if_pos (by omega), wrap_in (by omega) (by omega), Int.toNat_natCast, rd_getD, rd_getD]
    rfl
theorem minusW_ev (n : Int) (W : List Int) (m : Int) (V : List Int) (hW : okws W) (hV : okws V) (hl : W.length ≤ 100000000) (hm : V.length ≤ 100000000) : Ev (fun k => rowset_Minus.f k n W m V) (joinC .andNot n W m V) := by
  have bad : Ev (fun k => rowset_joinedMinus.j0 k true n W m V) (0, [], 1) := Ev.step (f := fun _ => some (0, [], 1)) (fun k => by simp only [rowset_joinedMinus.j0]; rw [if_pos trivial]) (Ev.now _)
  have main : Ev (fun k => rowset_joinedMinus.f k n W m V) (joinC .andNot n W m V) := by
    by_cases h1 : fm n W = true
    · by_cases h2 : fm m V = true
      · by_cases h3 : n = m
        · subst h3
          have s1 := fm_iff.1 h1
          have s2 := fm_iff.1 h2
          have hlen : W.length = V.length := by rw [s1.2.2.1, s2.2.2.1]
          have hk := joinedMinus_loop n W V hlen hl W.length 0 (List.replicate W.length 0) (by omega) (by simp) (fun j hj => by omega)
          have e : joinC .andNot n W n V = (n, joinW .andNot W V, 0) := by unfold joinC; rw [if_pos ⟨h1, h2, rfl⟩]
          rw [e]
          refine Ev.congr (f := fun k => rowset_joinedMinus.j0 k false n W n V) (fun k => ?_) (Ev.step (fun k => ?_) hk)
          · unfold rowset_joinedMinus.f
            rw [formed_f n W hW hl, Option.bind_some, if_pos h1, formed_f n V hV hm, Option.bind_some, if_pos h2, show (n != n) = false by simp]
          · simp only [rowset_joinedMinus.j0]
            rw [if_neg (by simp), empty_f, if_neg (by have := s1.1; have := s1.2.1; omega), Option.bind_some, ← s1.2.2.1, List.length_replicate]
            rfl
        · rw [joinC_no (fun h => h3 h.2.2)]
          refine Ev.congr (fun k => ?_) bad
          unfold rowset_joinedMinus.f
          rw [formed_f n W hW hl, Option.bind_some, if_pos h1, formed_f m V hV hm, Option.bind_some, if_pos h2, show (n != m) = true by simp [h3]]
      · rw [joinC_no (fun h => h2 h.2.1)]
        refine Ev.congr (fun k => ?_) bad
        unfold rowset_joinedMinus.f
        rw [formed_f n W hW hl, Option.bind_some, if_pos h1, formed_f m V hV hm, Option.bind_some, if_neg h2]
    · rw [joinC_no (fun h => h1 h.1)]
      refine Ev.congr (fun k => ?_) bad
      unfold rowset_joinedMinus.f
      rw [formed_f n W hW hl, Option.bind_some, if_neg h1]
  refine Ev.call0 main (Ev.now _) (fun k hk => ?_)
  unfold rowset_Minus.f
  rw [hk, Option.bind_some]
end Go.Proofs.Ytiaaicmkpjlplaa.Pure
