/- Joined by wip/tools/pack.py, pruned: PureNumRef. -/
import Derived.Test.YtehaodbheifokaaGreatDoorMq23
set_option maxHeartbeats 8000000
set_option maxRecDepth 100000
set_option linter.unusedVariables false
set_option linter.unusedSimpArgs false
section
namespace Go.Proofs.YtehaodbheifokaaGreatDoor.Pure
open Go Go.RowKit Go.Proofs.YtehaodbheifokaaGreatDoorW.PrintWords Go.Proofs.YtehaodbheifokaaGreatDoorW.PrintLast Go.Proofs.YtehaodbheifokaaGreatDoorW.PrintMore Go.Proofs.YtehaodbheifokaaGreatDoor.P
def finD (least : Bool) (v : Nat) : Int × Bool := if least = true then (if 9223372036854775808 < v then (0, false) else (-(v : Int), true)) else (if 9223372036854775807 < v then (0, false) else ((v : Int), true))
theorem num_loop (s : ByteArray) (least : Bool) (hs : s.size ≤ 19) : ∀ (d i acc : Nat), i + d = s.size → acc < 10 ^ i →
  Ev (fun k => dragnetref08_Number.l0 k s least (acc : Int) (i : Int)) (if (s.data.toList.drop i).all digB = true then finD least (valD acc (s.data.toList.drop i)) else (0, false))
 | 0, i, acc, hi, ha => by
  have hl : s.data.toList.length = s.size := (Lib.size_eq s).symm
  rw [List.drop_of_length_le (by omega)]
  have h10 : acc < 10 ^ 19 := Nat.lt_of_lt_of_le ha (Nat.pow_le_pow_right (by omega) (by omega))
  refine Ev.step (f := fun _ => some (finD least acc)) (fun k => ?_) (Ev.now _)
  simp only [dragnetref08_Number.l0, List.all_nil, if_true, valD_nil]
  rw [if_neg (by omega)]
  unfold finD
  cases least with
  | true =>
   simp only [if_true]
   by_cases h : 9223372036854775808 < acc
   ·rw [if_pos (by omega), if_pos h]
   ·rw [if_neg (by omega), if_neg h]
    congr 2
    simp only [IntKind.wrap, IntKind.signed, IntKind.bits, Bool.false_eq_true, if_false, wrap64]
    omega
  | false =>
   simp only [Bool.false_eq_true, if_false]
   by_cases h : 9223372036854775807 < acc
   ·rw [if_pos (by omega), if_pos h]
   ·rw [if_neg (by omega), if_neg h]
    congr 2
    exact wrap_in (by omega) (by omega)
 | d + 1, i, acc, hi, ha => by
  have hl : s.data.toList.length = s.size := (Lib.size_eq s).symm
  have hil : i < s.data.toList.length := by omega
  have hb := bt_list s i (by omega)
  rw [List.drop_eq_getElem_cons hil]
  generalize s.data.toList[i] = c at hb ⊢
  have hc := UInt8.toNat_lt c
  have h10 : acc < 10 ^ 18 := Nat.lt_of_lt_of_le ha (Nat.pow_le_pow_right (by omega) (by omega))
  by_cases hd : digB c = true
  ·have hcd := digB_iff.1 hd
   have ih := num_loop s least hs d (i + 1) (acc * 10 + (c.toNat - 48)) (by omega) (by rw [Nat.pow_succ]; omega)
   rw [List.all_cons, hd, Bool.true_and, valD_cons]
   refine Ev.step (fun k => ?_) ih
   simp only [dragnetref08_Number.l0, hb]
   rw [if_pos (by omega), if_pos (by omega), if_neg (by omega), if_neg (by omega), u64_in (x := (acc : Int) * 10) (by omega) (by omega), u64_in (by omega) (by omega), wrap_in (by omega) (by omega)]
   congr 1
   ·omega
  ·have hdn : ¬ (48 ≤ c.toNat ∧ c.toNat ≤ 57) := fun e => hd (digB_iff.2 e)
   rw [List.all_cons, Bool.eq_false_iff.2 hd, Bool.false_and, if_neg (by simp)]
   refine Ev.step (f := fun _ => some (0, false)) (fun k => ?_) (Ev.now _)
   simp only [dragnetref08_Number.l0, hb]
   rw [if_pos (by omega), if_pos (by omega)]
   by_cases h1 : (c.toNat : Int) < 48
   ·rw [if_pos h1]
   ·rw [if_neg h1, if_pos (by omega)]
theorem num_mag (s : ByteArray) (least : Bool) : Ev (fun k => dragnetref08_Number.j1 k s least) (refMag least s.data.toList) := by
 have hl : s.data.toList.length = s.size := (Lib.size_eq s).symm
 have hno : Ev (fun k => dragnetref08_Number.j2 k s least true) (0, false) := Ev.step (f := fun _ => some (0, false)) (fun k => by simp only [dragnetref08_Number.j2, if_true]) (Ev.now _)
 by_cases h0 : s.data.toList.length < 1
 ·rw [show refMag least s.data.toList = (0, false) from if_pos (Or.inl h0)]
  refine Ev.step (fun k => ?_) hno
  simp only [dragnetref08_Number.j1]
  rw [if_pos (by omega)]
 by_cases h19 : 19 < s.data.toList.length
 ·rw [show refMag least s.data.toList = (0, false) from if_pos (Or.inr (Or.inl h19))]
  refine Ev.step (fun k => ?_) hno
  simp only [dragnetref08_Number.j1]
  rw [if_neg (by omega), if_pos (by omega)]
 have hb := bt_list s 0 (by omega)
 have hh : s.data.toList.head? = some (s.data.toList[0]'(by omega)) := by
  rw [List.head?_eq_getElem?, List.getElem?_eq_getElem (by omega)]
 obtain ⟨c, hcd⟩ : ∃ c, c = s.data.toList[0]'(by omega) := ⟨_, rfl⟩
 rw [← hcd] at hb hh
 clear hcd
 have hyes : ¬ (s.data.toList.head?.map (·.toNat) = some 48 ∧ (1 < s.data.toList.length ∨ least = true)) → Ev (fun k => dragnetref08_Number.j2 k s least false) (refMag least s.data.toList) := fun hn => by
  have hl0 := num_loop s least (by omega) s.size 0 0 (by omega) (by simp)
  rw [List.drop_zero] at hl0
  have e : refMag least s.data.toList = (if s.data.toList.all digB = true then finD least (valD 0 s.data.toList) else (0, false)) := by
   unfold refMag finD
   rw [if_neg (by
    rintro (e | e | e)
    ·exact h0 e
    ·exact h19 e
    ·exact hn e)]
  rw [e]
  refine Ev.step (fun k => ?_) hl0
  simp only [dragnetref08_Number.j2]
  rw [if_neg (by simp)]
  rfl
 have hzero : s.data.toList.head?.map (·.toNat) = some 48 ∧ (1 < s.data.toList.length ∨ least = true) → refMag least s.data.toList = (0, false) := fun hz => if_pos (Or.inr (Or.inr hz))
 rw [hh] at hyes hzero
 simp only [Option.map_some, Option.some.injEq] at hyes hzero
 by_cases hc : c.toNat = 48
 ·by_cases h1 : 1 < s.data.toList.length
  ·rw [hzero ⟨hc, Or.inl h1⟩]
   refine Ev.step (fun k => ?_) hno
   simp only [dragnetref08_Number.j1]
   rw [if_neg (by omega), if_neg (by omega), if_pos (by omega), show ((0 : Int)) = ((0 : Nat) : Int) from rfl, hb, if_pos (by omega), if_pos (by omega)]
  ·cases least with
   | true =>
    rw [hzero ⟨hc, Or.inr rfl⟩]
    refine Ev.step (fun k => ?_) hno
    simp only [dragnetref08_Number.j1]
    rw [if_neg (by omega), if_neg (by omega), if_pos (by omega), show ((0 : Int)) = ((0 : Nat) : Int) from rfl, hb, if_pos (by omega), if_neg (by omega)]
   | false =>
    refine Ev.step (fun k => ?_) (hyes (fun e => by
     rcases e.2 with e2 | e2
     ·exact h1 e2
     ·cases e2))
    simp only [dragnetref08_Number.j1]
    rw [if_neg (by omega), if_neg (by omega), if_pos (by omega), show ((0 : Int)) = ((0 : Nat) : Int) from rfl, hb, if_pos (by omega), if_neg (by omega)]
 ·refine Ev.step (fun k => ?_) (hyes (fun e => hc e.1))
  simp only [dragnetref08_Number.j1]
  rw [if_neg (by omega), if_neg (by omega), if_pos (by omega), show ((0 : Int)) = ((0 : Nat) : Int) from rfl, hb, if_neg (by omega)]
theorem extract_tail (s : ByteArray) : (s.extract 1 s.size).data.toList = s.data.toList.tail := by
 rw [Lib.extract_data]
 rw [List.drop_one, List.take_of_length_le]
 rw [List.length_tail, ← Lib.size_eq]
 omega
theorem refNumber_ev (t : ByteArray) : Ev (fun k => dragnetref08_Number.f k t) (refNum t.data.toList) := by
 have hl : t.data.toList.length = t.size := (Lib.size_eq t).symm
 cases e : t.data.toList with
 | nil =>
  have hm := num_mag t false
  rw [e] at hm hl
  have h0 : t.size = 0 := hl.symm
  refine Ev.congr (f := fun k => dragnetref08_Number.j0 k t false false) (fun k => ?_) (Ev.step (fun k => ?_) hm)
  ·unfold dragnetref08_Number.f
   rw [if_neg (by omega)]
  ·simp only [dragnetref08_Number.j0]
   rw [if_neg (by simp)]
 | cons c r =>
  have hsz : 0 < t.size := by rw [← hl, e]; simp
  have hb := bt_list t 0 hsz
  have hc : t.data.toList[0]'(by omega) = c := by simp [e]
  rw [hc] at hb
  by_cases h45 : c.toNat = 45
  ·have hm := num_mag (t.extract 1 t.size) true
   rw [extract_tail, e, List.tail_cons] at hm
   rw [show refNum (c :: r) = refMag true r from if_pos h45]
   refine Ev.congr (f := fun k => dragnetref08_Number.j0 k t false true) (fun k => ?_) (Ev.step (fun k => ?_) hm)
   ·unfold dragnetref08_Number.f
    rw [if_pos (by omega), if_pos (by omega), show ((0 : Int)) = ((0 : Nat) : Int) from rfl, hb]
    congr 1
    rw [h45]
    rfl
   ·simp only [dragnetref08_Number.j0, if_true]
    rw [if_pos (by omega)]
  ·have hm := num_mag t false
   rw [e] at hm
   rw [show refNum (c :: r) = refMag false (c :: r) from if_neg h45]
   refine Ev.congr (f := fun k => dragnetref08_Number.j0 k t false false) (fun k => ?_) (Ev.step (fun k => ?_) hm)
   ·unfold dragnetref08_Number.f
    rw [if_pos (by omega), if_pos (by omega), show ((0 : Int)) = ((0 : Nat) : Int) from rfl, hb]
    congr 1
    exact beq_eq_false_iff_ne.2 (by omega)
   ·simp only [dragnetref08_Number.j0]
    rw [if_neg (by simp)]
end Go.Proofs.YtehaodbheifokaaGreatDoor.Pure
end
