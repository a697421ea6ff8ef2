/- Joined by wip/tools/pack.py, pruned: P2. -/
import Derived.Test.YtehaodbheifokaaGreatDoorMs4
set_option maxHeartbeats 8000000
set_option maxRecDepth 100000
set_option linter.unusedVariables false
set_option linter.unusedSimpArgs false
section
namespace Go.Proofs.YtehaodbheifokaaGreatDoor.P
open Go.RowKit Go.Proofs.YtehaodbheifokaaGreatDoorW.PrintWords Go.Proofs.YtehaodbheifokaaGreatDoorW.PrintLast Go.Proofs.YtehaodbheifokaaGreatDoorW.PrintMore
attribute [local go_sem] max2_int min2_int max_two min_two max_three min_three max_four min_four  
def slices_Index_string_string.l0 : Nat → List ByteArray → ByteArray → Int → Int → Option (Int)
 | 0, _, _, _, _ => none
 | k + 1, x0, x1, x7, x8 => if x8 < x7 then (if 0 ≤ x8 then (if x8 < (x0.length : Int) then (if x1.toList = (rdOf ByteArray.empty x0 x8).toList then (some x8) else (slices_Index_string_string.l0 k x0 x1 x7 (wrap64 (x8 + 1)))) else (none)) else (none)) else (some (-1))
def slices_Index_string_string.f (k : Nat) (l0 : List ByteArray) (a1 : ByteArray) : Option (Int) := slices_Index_string_string.l0 k l0 a1 (l0.length : Int) 0
theorem slices_Index_string_string.calls (k : Nat) (A0 : Option Addr) (c0 : Nat) (l0 : List ByteArray) (a1 : ByteArray) (r : Int) (w : World) (hr0 : Kd.C Kd.string w A0 l0.length l0) (hc0 : l0.length ≤ c0) (h : slices_Index_string_string.f k l0 a1 = some r) :
  Calls Tryz.prog 106 #[.slice A0 l0.length c0, .string a1] w fun e w' => e = .returned (.int .i64 r) ∧ Drawn0 w w' := by
 have HR0 := Aside0.mk hr0
 have HC0 := Aside0.mk hc0
 clear hr0 hc0
 have H : (slices_Index_string_string.l0 k l0 a1 (l0.length : Int) 0) = some r := h
 clear h
 have H' := Aside0.mk H
 clear H
 go_enter Tryz.func106, Tryz.ntmps106
 go_wp2
 go_loopg [8] k (fun kq v8 w' => ∃ (x8_1 : Int), v8 = .int .i64 x8_1 ∧ Aside0 (slices_Index_string_string.l0 kq l0 a1 (l0.length : Int) x8_1 = some r) ∧ Aside0 (kq ≤ k) ∧ Drawn0 w w')
 case atStart => exact ⟨(0), rs_, H', ⟨Nat.le_refl _⟩, dr_⟩
 case round =>
  clear H'
  try clear c1
  try clear p2
  obtain ⟨x8_1, rfl, HA, HK1, ⟨m1, rfl⟩⟩ := hrel
  cases gk with
  | zero => exact absurd HA.out (by simp [slices_Index_string_string.l0])
  | succ k1 =>
   have H := HA.out
   clear HA
   simp only [slices_Index_string_string.l0] at H
   by_cases c3 : x8_1 < (l0.length : Int)
   ·rw [if_pos c3] at H
    have c3b0 : decide (x8_1 < (l0.length : Int)) = true := decide_eq_true c3
    clear c3
    by_cases c4 : 0 ≤ x8_1
    ·rw [if_pos c4] at H
     have c4b0 : decide (0 ≤ x8_1) = true := decide_eq_true c4
     clear c4
     by_cases c5 : x8_1 < (l0.length : Int)
     ·rw [if_pos c5] at H
      have c5b0 : decide (x8_1 < (l0.length : Int)) = true := decide_eq_true c5
      clear c5
      by_cases c6 : a1.toList = (rdOf ByteArray.empty l0 x8_1).toList
      ·rw [if_pos c6] at H
       have c6b0 : (a1.toList == (rdOf ByteArray.empty l0 x8_1).toList) = true := beq_iff_eq.mpr c6
       have c6b1 : (a1.toList != (rdOf ByteArray.empty l0 x8_1).toList) = false := bne_eq_false_iff_eq.mpr c6
       clear c6
       obtain rfl := Option.some.inj H
       have p142 : 0 ≤ (x8_1 : Int) := of_decide_eq_true as_
       have q142 : x8_1 < (l0.length : Int) := of_decide_eq_true as_
       obtain ⟨ad142, e142, hx142_0⟩ := Kd.at_string HR0.out x8_1 p142 q142
       cases e142
       replace p142 := eq_true p142
       replace q142 := eq_true q142
       go_wp2
       go_ret
       exact ⟨by first | rfl | (simp; done) | (simp [*]; done), dr_⟩
      ·rw [if_neg c6] at H
       have c6b0 : (a1.toList == (rdOf ByteArray.empty l0 x8_1).toList) = false := beq_eq_false_iff_ne.mpr c6
       have c6b1 : (a1.toList != (rdOf ByteArray.empty l0 x8_1).toList) = true := bne_iff_ne.mpr c6
       have H' := Aside0.mk H
       clear H
       have p142 : 0 ≤ (x8_1 : Int) := of_decide_eq_true as_
       have q142 : x8_1 < (l0.length : Int) := of_decide_eq_true as_
       obtain ⟨ad142, e142, hx142_0⟩ := Kd.at_string HR0.out x8_1 p142 q142
       cases e142
       replace p142 := eq_true p142
       replace q142 := eq_true q142
       go_wp2
       go_roundg k1
       case measure => have := HK1.out; omega
       case rel => exact ⟨(wrap64 (x8_1 + 1)), rs_, H', ⟨by have := HK1.out; omega⟩, dr_⟩
     ·rw [if_neg c5] at H
      exact absurd H (by simp)
    ·rw [if_neg c4] at H
     exact absurd H (by simp)
   ·rw [if_neg c3] at H
    have c3b0 : decide (x8_1 < (l0.length : Int)) = false := decide_eq_false c3
    clear c3
    obtain rfl := Option.some.inj H
    go_wp2
    go_ret
    exact ⟨by first | rfl | (simp; done) | (simp [*]; done), dr_⟩
def slices_Contains_string_string.f (k : Nat) (l0 : List ByteArray) (a1 : ByteArray) : Option (Bool) := (slices_Index_string_string.f k l0 a1).bind fun t143 => (some (decide (t143 ≥ 0)))
theorem slices_Contains_string_string.calls (k : Nat) (A0 : Option Addr) (c0 : Nat) (l0 : List ByteArray) (a1 : ByteArray) (r : Bool) (w : World) (hr0 : Kd.C Kd.string w A0 l0.length l0) (hc0 : l0.length ≤ c0) (h : slices_Contains_string_string.f k l0 a1 = some r) :
  Calls Tryz.prog 86 #[.slice A0 l0.length c0, .string a1] w fun e w' => e = .returned (.bool r) ∧ Drawn0 w w' := by
 have HR0 := Aside0.mk hr0
 have HC0 := Aside0.mk hc0
 clear hr0 hc0
 have H : ((slices_Index_string_string.f k l0 a1).bind fun t143 => (some (decide (t143 ≥ 0)))) = some r := h
 clear h
 replace H := Option.bind_eq_some_iff.mp H
 obtain ⟨t143, A30, H⟩ := H
 replace H : (some (decide (t143 ≥ 0))) = some r := H
 have A3 := Aside0.mk A30
 clear A30
 obtain rfl := Option.some.inj H
 go_enter Tryz.func86, Tryz.ntmps86
 go_wp2_with (first | ((with_reducible refine gate_callee (f := 106) rfl ?_); refine goesL_ (some 7) rfl rfl Tryz.func106 (by kernel_rfl) rfl #[.slice A0 l0.length c0, .string a1] rfl mp_ ?_; (with_reducible refine (slices_Index_string_string.calls k _ _ l0 a1 t143 _ ?side1 ?side2 A3.out).mono ?_); (case side1 => repeat (first | exact HR0.out | (with_reducible refine Kd.C_alloc ?_ _) | (with_reducible refine Kd.C_drewN ?_ _) | (with_reducible refine Kd.C_drew ?_))); (case side2 => exact HC0.out); rintro e w' ⟨rfl, ⟨nd, rfl⟩⟩; refine ⟨_, rfl, ?_⟩))
 go_ret
 exact ⟨by first | rfl | (simp; done) | (simp [*]; done), dr_⟩
def dragnetref06_Same.l0 : Nat → List ByteArray → List ByteArray → Int → Option (Bool)
 | 0, _, _, _ => none
 | k + 1, x0, x1, x5 => if x5 < (x0.length : Int) then (if 0 ≤ x5 then (if x5 < (x1.length : Int) then (if (rdOf ByteArray.empty x0 x5).toList = (rdOf ByteArray.empty x1 x5).toList then (dragnetref06_Same.l0 k x0 x1 (wrap64 (x5 + 1))) else (some false)) else (none)) else (none)) else (some true)
def dragnetref06_Same.f (k : Nat) (l0 : List ByteArray) (l1 : List ByteArray) : Option (Bool) := if (l0.length : Int) = (l1.length : Int) then (dragnetref06_Same.l0 k l0 l1 0) else (some false)
theorem dragnetref06_Same.calls (k : Nat) (A0 : Option Addr) (c0 : Nat) (l0 : List ByteArray) (A1 : Option Addr) (c1 : Nat) (l1 : List ByteArray) (r : Bool) (w : World) (hr0 : Kd.C Kd.string w A0 l0.length l0) (hc0 : l0.length ≤ c0) (hr1 : Kd.C Kd.string w A1 l1.length l1) (hc1 : l1.length ≤ c1) (h : dragnetref06_Same.f k l0 l1 = some r) :
  Calls Tryz.prog 71 #[.slice A0 l0.length c0, .slice A1 l1.length c1] w fun e w' => e = .returned (.bool r) ∧ Drawn0 w w' := by
 have HR0 := Aside0.mk hr0
 have HC0 := Aside0.mk hc0
 clear hr0 hc0
 have HR1 := Aside0.mk hr1
 have HC1 := Aside0.mk hc1
 clear hr1 hc1
 have H : (if (l0.length : Int) = (l1.length : Int) then (dragnetref06_Same.l0 k l0 l1 0) else (some false)) = some r := h
 clear h
 by_cases c3 : (l0.length : Int) = (l1.length : Int)
 ·rw [if_pos c3] at H
  have c3b0 : ((l0.length : Int) == (l1.length : Int)) = true := beq_iff_eq.mpr c3
  have c3b1 : ((l0.length : Int) != (l1.length : Int)) = false := bne_eq_false_iff_eq.mpr c3
  have c3b2 : (l0.length == l1.length) = true := by first | simpa using c3 | (simp at c3 ⊢; omega)
  clear c3
  have H' := Aside0.mk H
  clear H
  go_enter Tryz.func71, Tryz.ntmps71
  go_wp2
  repeat (go_quiet (fail); try go_wp2)
  go_loopg [5] k (fun kq v5 w' => ∃ (x5_1 : Int), v5 = .int .i64 x5_1 ∧ Aside0 (dragnetref06_Same.l0 kq l0 l1 x5_1 = some r) ∧ Aside0 (kq ≤ k) ∧ Drawn0 w w')
  case atStart => exact ⟨(0), rs_, H', ⟨Nat.le_refl _⟩, dr_⟩
  case round =>
   clear H'
   try clear c1
   try clear p2
   try clear c3
   try clear c3b0
   try clear c3b1
   try clear c3b2
   obtain ⟨x5_1, rfl, HA, HK1, ⟨m1, rfl⟩⟩ := hrel
   cases gk with
   | zero => exact absurd HA.out (by simp [dragnetref06_Same.l0])
   | succ k1 =>
    have H := HA.out
    clear HA
    simp only [dragnetref06_Same.l0] at H
    by_cases c4 : x5_1 < (l0.length : Int)
    ·rw [if_pos c4] at H
     have c4b0 : decide (x5_1 < (l0.length : Int)) = true := decide_eq_true c4
     clear c4
     by_cases c5 : 0 ≤ x5_1
     ·rw [if_pos c5] at H
      have c5b0 : decide (0 ≤ x5_1) = true := decide_eq_true c5
      clear c5
      by_cases c6 : x5_1 < (l1.length : Int)
      ·rw [if_pos c6] at H
       have c6b0 : decide (x5_1 < (l1.length : Int)) = true := decide_eq_true c6
       clear c6
       by_cases c7 : (rdOf ByteArray.empty l0 x5_1).toList = (rdOf ByteArray.empty l1 x5_1).toList
       ·rw [if_pos c7] at H
        have c7b0 : ((rdOf ByteArray.empty l0 x5_1).toList == (rdOf ByteArray.empty l1 x5_1).toList) = true := beq_iff_eq.mpr c7
        have c7b1 : ((rdOf ByteArray.empty l0 x5_1).toList != (rdOf ByteArray.empty l1 x5_1).toList) = false := bne_eq_false_iff_eq.mpr c7
        clear c7
        have H' := Aside0.mk H
        clear H
        have p152 : 0 ≤ (x5_1 : Int) := of_decide_eq_true as_
        have q152 : x5_1 < (l0.length : Int) := of_decide_eq_true as_
        obtain ⟨ad152, e152, hx152_0⟩ := Kd.at_string HR0.out x5_1 p152 q152
        cases e152
        replace p152 := eq_true p152
        replace q152 := eq_true q152
        have p153 : 0 ≤ (x5_1 : Int) := of_decide_eq_true as_
        have q153 : x5_1 < (l1.length : Int) := of_decide_eq_true as_
        obtain ⟨ad153, e153, hx153_0⟩ := Kd.at_string HR1.out x5_1 p153 q153
        cases e153
        replace p153 := eq_true p153
        replace q153 := eq_true q153
        go_wp2
        repeat (go_quiet (fail); try go_wp2)
        go_roundg k1
        case measure => have := HK1.out; omega
        case rel => exact ⟨(wrap64 (x5_1 + 1)), rs_, H', ⟨by have := HK1.out; omega⟩, dr_⟩
       ·rw [if_neg c7] at H
        have c7b0 : ((rdOf ByteArray.empty l0 x5_1).toList == (rdOf ByteArray.empty l1 x5_1).toList) = false := beq_eq_false_iff_ne.mpr c7
        have c7b1 : ((rdOf ByteArray.empty l0 x5_1).toList != (rdOf ByteArray.empty l1 x5_1).toList) = true := bne_iff_ne.mpr c7
        obtain rfl := Option.some.inj H
        have p152 : 0 ≤ (x5_1 : Int) := of_decide_eq_true as_
        have q152 : x5_1 < (l0.length : Int) := of_decide_eq_true as_
        obtain ⟨ad152, e152, hx152_0⟩ := Kd.at_string HR0.out x5_1 p152 q152
        cases e152
        replace p152 := eq_true p152
        replace q152 := eq_true q152
        have p153 : 0 ≤ (x5_1 : Int) := of_decide_eq_true as_
        have q153 : x5_1 < (l1.length : Int) := of_decide_eq_true as_
        obtain ⟨ad153, e153, hx153_0⟩ := Kd.at_string HR1.out x5_1 p153 q153
        cases e153
        replace p153 := eq_true p153
        replace q153 := eq_true q153
        go_wp2
        repeat (go_quiet (fail); try go_wp2)
        go_ret
        exact ⟨by first | rfl | (simp; done) | (simp [*]; done), dr_⟩
      ·rw [if_neg c6] at H
       exact absurd H (by simp)
     ·rw [if_neg c5] at H
      exact absurd H (by simp)
    ·rw [if_neg c4] at H
     have c4b0 : decide (x5_1 < (l0.length : Int)) = false := decide_eq_false c4
     clear c4
     obtain rfl := Option.some.inj H
     go_wp2
     repeat (go_quiet (fail); try go_wp2)
     go_ret
     exact ⟨by first | rfl | (simp; done) | (simp [*]; done), dr_⟩
 ·rw [if_neg c3] at H
  have c3b0 : ((l0.length : Int) == (l1.length : Int)) = false := beq_eq_false_iff_ne.mpr c3
  have c3b1 : ((l0.length : Int) != (l1.length : Int)) = true := bne_iff_ne.mpr c3
  have c3b2 : (l0.length == l1.length) = false := by first | simpa using c3 | (simp at c3 ⊢; omega)
  obtain rfl := Option.some.inj H
  go_enter Tryz.func71, Tryz.ntmps71
  go_wp2
  repeat (go_quiet (fail); try go_wp2)
  go_ret
  exact ⟨by first | rfl | (simp; done) | (simp [*]; done), dr_⟩
def dragnetref19_SameNode.f (k : Nat) (a0_0 : Int) (a0_1 : Int) (a0_2 : Int) (a0_3 : ByteArray) (l0_4 : List ByteArray) (a0_5 : ByteArray) (a0_6 : Int) (a0_7 : Int) (a1_0 : Int) (a1_1 : Int) (a1_2 : Int) (a1_3 : ByteArray) (l1_4 : List ByteArray) (a1_5 : ByteArray) (a1_6 : Int) (a1_7 : Int) : Option (Bool) := if a0_0 = a1_0 then (if a0_1 = a1_1 then (if a0_2 = a1_2 then (if a0_3.toList = a1_3.toList then ((dragnetref06_Same.f k l0_4 l1_4).bind fun t156 => (if t156 = true then (if a0_5.toList = a1_5.toList then (if a0_6 = a1_6 then (some (a0_7 == a1_7)) else (some false)) else (some false)) else (some false))) else (some false)) else (some false)) else (some false)) else (some false)
theorem dragnetref19_SameNode.calls (k : Nat) (a0_0 : Int) (a0_1 : Int) (a0_2 : Int) (a0_3 : ByteArray) (A0_4 : Option Addr) (c0_4 : Nat) (l0_4 : List ByteArray) (a0_5 : ByteArray) (a0_6 : Int) (a0_7 : Int) (a1_0 : Int) (a1_1 : Int) (a1_2 : Int) (a1_3 : ByteArray) (A1_4 : Option Addr) (c1_4 : Nat) (l1_4 : List ByteArray) (a1_5 : ByteArray) (a1_6 : Int) (a1_7 : Int) (r : Bool) (w : World) (hr0_4 : Kd.C Kd.string w A0_4 l0_4.length l0_4) (hc0_4 : l0_4.length ≤ c0_4) (hr1_4 : Kd.C Kd.string w A1_4 l1_4.length l1_4) (hc1_4 : l1_4.length ≤ c1_4) (h : dragnetref19_SameNode.f k a0_0 a0_1 a0_2 a0_3 l0_4 a0_5 a0_6 a0_7 a1_0 a1_1 a1_2 a1_3 l1_4 a1_5 a1_6 a1_7 = some r) :
  Calls Tryz.prog 48 #[.agg #[.int .i64 a0_0, .int .i64 a0_1, .int .i64 a0_2, .string a0_3, .slice A0_4 l0_4.length c0_4, .string a0_5, .int .i64 a0_6, .int .i64 a0_7], .agg #[.int .i64 a1_0, .int .i64 a1_1, .int .i64 a1_2, .string a1_3, .slice A1_4 l1_4.length c1_4, .string a1_5, .int .i64 a1_6, .int .i64 a1_7]] w fun e w' => e = .returned (.bool r) ∧ Below w.heap.size w w' := by
 have hu37 := Tryz.underlying37
 have HR0_4 := Aside0.mk hr0_4
 have HC0_4 := Aside0.mk hc0_4
 clear hr0_4 hc0_4
 have HR1_4 := Aside0.mk hr1_4
 have HC1_4 := Aside0.mk hc1_4
 clear hr1_4 hc1_4
 have HB := Aside0.mk (Below.refl w.heap.size w)
 have H : (if a0_0 = a1_0 then (if a0_1 = a1_1 then (if a0_2 = a1_2 then (if a0_3.toList = a1_3.toList then ((dragnetref06_Same.f k l0_4 l1_4).bind fun t156 => (if t156 = true then (if a0_5.toList = a1_5.toList then (if a0_6 = a1_6 then (some (a0_7 == a1_7)) else (some false)) else (some false)) else (some false))) else (some false)) else (some false)) else (some false)) else (some false)) = some r := h
 clear h
 by_cases c3 : a0_0 = a1_0
 ·rw [if_pos c3] at H
  have c3b0 : (a0_0 == a1_0) = true := beq_iff_eq.mpr c3
  have c3b1 : (a0_0 != a1_0) = false := bne_eq_false_iff_eq.mpr c3
  clear c3
  by_cases c4 : a0_1 = a1_1
  ·rw [if_pos c4] at H
   have c4b0 : (a0_1 == a1_1) = true := beq_iff_eq.mpr c4
   have c4b1 : (a0_1 != a1_1) = false := bne_eq_false_iff_eq.mpr c4
   clear c4
   by_cases c5 : a0_2 = a1_2
   ·rw [if_pos c5] at H
    have c5b0 : (a0_2 == a1_2) = true := beq_iff_eq.mpr c5
    have c5b1 : (a0_2 != a1_2) = false := bne_eq_false_iff_eq.mpr c5
    clear c5
    by_cases c6 : a0_3.toList = a1_3.toList
    ·rw [if_pos c6] at H
     have c6b0 : (a0_3.toList == a1_3.toList) = true := beq_iff_eq.mpr c6
     have c6b1 : (a0_3.toList != a1_3.toList) = false := bne_eq_false_iff_eq.mpr c6
     clear c6
     replace H := Option.bind_eq_some_iff.mp H
     obtain ⟨t156, A70, H⟩ := H
     replace H : (if t156 = true then (if a0_5.toList = a1_5.toList then (if a0_6 = a1_6 then (some (a0_7 == a1_7)) else (some false)) else (some false)) else (some false)) = some r := H
     have A7 := Aside0.mk A70
     clear A70
     by_cases c8 : t156 = true
     ·subst c8
      have H1 : (if a0_5.toList = a1_5.toList then (if a0_6 = a1_6 then (some (a0_7 == a1_7)) else (some false)) else (some false)) = some r := by rw [if_pos rfl] at H; exact H
      clear H
      have H := H1
      clear H1
      by_cases c9 : a0_5.toList = a1_5.toList
      ·rw [if_pos c9] at H
       have c9b0 : (a0_5.toList == a1_5.toList) = true := beq_iff_eq.mpr c9
       have c9b1 : (a0_5.toList != a1_5.toList) = false := bne_eq_false_iff_eq.mpr c9
       clear c9
       by_cases c10 : a0_6 = a1_6
       ·rw [if_pos c10] at H
        have c10b0 : (a0_6 == a1_6) = true := beq_iff_eq.mpr c10
        have c10b1 : (a0_6 != a1_6) = false := bne_eq_false_iff_eq.mpr c10
        clear c10
        obtain rfl := Option.some.inj H
        go_enter Tryz.func48, Tryz.ntmps48
        go_wp2_with (first | ((with_reducible refine gate_dst (N := 2) rfl ?_); refine box_event ?hg (N := 2) ?hd (cs := #[.int .i64 a0_0, .int .i64 a0_1, .int .i64 a0_2, .string a0_3, .slice A0_4 l0_4.length c0_4, .string a0_5, .int .i64 a0_6, .int .i64 a0_7]) (t := 37) ?hr ?_; (case hd => rfl); (case hg => rfl); (case hr => first | (go_simp; done) | (go_simp; rfl) | (go_simp; simp only [wAl, wAr, wSl, wSr, wW])); intro gb154 hg w11 hbox hb; have n0_ := bsA HB hb; have n1_ := Aside0.mk (hbox); have n2_ := szA HB hg; have n3_ := szA HB hg; clear HB; have HB := n0_; have BK154 := n1_; have GW154 := n2_; have GE154 := n3_; clear n0_ n1_ n2_ n3_; clear hb hbox hg) | ((with_reducible refine gate_dst (N := 3) rfl ?_); refine box_event ?hg (N := 3) ?hd (cs := #[.int .i64 a1_0, .int .i64 a1_1, .int .i64 a1_2, .string a1_3, .slice A1_4 l1_4.length c1_4, .string a1_5, .int .i64 a1_6, .int .i64 a1_7]) (t := 37) ?hr ?_; (case hd => rfl); (case hg => rfl); (case hr => first | (go_simp; done) | (go_simp; rfl) | (go_simp; simp only [wAl, wAr, wSl, wSr, wW])); intro gb155 hg w12 hbox hb; have n0_ := bkA BK154 hb; have n1_ := bsA HB hb; have n2_ := Aside0.mk (hbox); have n3_ := szA HB hg; have n4_ := szA HB hg; have n5_ := neA BK154 hg; have n6_ := neB BK154 hg; clear BK154; clear HB; have BK154 := n0_; have HB := n1_; have BK155 := n2_; have GW155 := n3_; have GE155 := n4_; have NB154_155 := n5_; have NB155_154 := n6_; clear n0_ n1_ n2_ n3_ n4_ n5_ n6_; clear hb hbox hg; have hnb13 := NB154_155.out; have hnc13 := NB155_154.out; have hcz14_0 : w12.cell? ⟨gb154, 0, none⟩ = some (.int .i64 a0_0) := (blk_cell BK154.out 0).trans rfl; have hcz14_1 : w12.cell? ⟨gb154, 1, none⟩ = some (.int .i64 a0_1) := (blk_cell BK154.out 1).trans rfl; have hcz14_2 : w12.cell? ⟨gb154, 2, none⟩ = some (.int .i64 a0_2) := (blk_cell BK154.out 2).trans rfl; have hcz14_3 : w12.cell? ⟨gb154, 3, none⟩ = some (.string a0_3) := (blk_cell BK154.out 3).trans rfl; have hcz14_4 : w12.cell? ⟨gb154, 4, none⟩ = some (.slice A0_4 l0_4.length c0_4) := (blk_cell BK154.out 4).trans rfl; have hcz14_5 : w12.cell? ⟨gb154, 5, none⟩ = some (.string a0_5) := (blk_cell BK154.out 5).trans rfl; have hcz14_6 : w12.cell? ⟨gb154, 6, none⟩ = some (.int .i64 a0_6) := (blk_cell BK154.out 6).trans rfl; have hcz14_7 : w12.cell? ⟨gb154, 7, none⟩ = some (.int .i64 a0_7) := (blk_cell BK154.out 7).trans rfl; have hfz14_0 := blk_frozen BK154.out 0; have hfz14_1 := blk_frozen BK154.out 1; have hfz14_2 := blk_frozen BK154.out 2; have hfz14_3 := blk_frozen BK154.out 3; have hfz14_4 := blk_frozen BK154.out 4; have hfz14_5 := blk_frozen BK154.out 5; have hfz14_6 := blk_frozen BK154.out 6; have hfz14_7 := blk_frozen BK154.out 7; have hcz15_0 : w12.cell? ⟨gb155, 0, none⟩ = some (.int .i64 a1_0) := (blk_cell BK155.out 0).trans rfl; have hcz15_1 : w12.cell? ⟨gb155, 1, none⟩ = some (.int .i64 a1_1) := (blk_cell BK155.out 1).trans rfl; have hcz15_2 : w12.cell? ⟨gb155, 2, none⟩ = some (.int .i64 a1_2) := (blk_cell BK155.out 2).trans rfl; have hcz15_3 : w12.cell? ⟨gb155, 3, none⟩ = some (.string a1_3) := (blk_cell BK155.out 3).trans rfl; have hcz15_4 : w12.cell? ⟨gb155, 4, none⟩ = some (.slice A1_4 l1_4.length c1_4) := (blk_cell BK155.out 4).trans rfl; have hcz15_5 : w12.cell? ⟨gb155, 5, none⟩ = some (.string a1_5) := (blk_cell BK155.out 5).trans rfl; have hcz15_6 : w12.cell? ⟨gb155, 6, none⟩ = some (.int .i64 a1_6) := (blk_cell BK155.out 6).trans rfl; have hcz15_7 : w12.cell? ⟨gb155, 7, none⟩ = some (.int .i64 a1_7) := (blk_cell BK155.out 7).trans rfl; have hfz15_0 := blk_frozen BK155.out 0; have hfz15_1 := blk_frozen BK155.out 1; have hfz15_2 := blk_frozen BK155.out 2; have hfz15_3 := blk_frozen BK155.out 3; have hfz15_4 := blk_frozen BK155.out 4; have hfz15_5 := blk_frozen BK155.out 5; have hfz15_6 := blk_frozen BK155.out 6; have hfz15_7 := blk_frozen BK155.out 7) | (go_at_call 71; (with_reducible refine (dragnetref06_Same.calls k _ _ l0_4 _ _ l1_4 true _ ?side1 ?side2 ?side3 ?side4 A7.out).mono ?_); (case side1 => repeat (first | exact (Kd.C_below HR0_4.out HB.out) | (with_reducible refine Kd.C_alloc ?_ _) | (with_reducible refine Kd.C_drewN ?_ _) | (with_reducible refine Kd.C_drew ?_))); (case side2 => exact HC0_4.out); (case side3 => repeat (first | exact (Kd.C_below HR1_4.out HB.out) | (with_reducible refine Kd.C_alloc ?_ _) | (with_reducible refine Kd.C_drewN ?_ _) | (with_reducible refine Kd.C_drew ?_))); (case side4 => exact HC1_4.out); rintro e w' ⟨rfl, ⟨nd, rfl⟩⟩))
        go_ret
        exact ⟨by first | rfl | (simp [errW_none, errW_some] <;> rfl) | (simp [*, errW_none, errW_some] <;> rfl), by repeat (first | (with_reducible first | exact HB.out | apply below_alloc | apply pw_below_drewN | apply below_drew1 | refine below_set ?_ GE154.out | refine below_set ?_ GE155.out) | exact HB.out)⟩
       ·rw [if_neg c10] at H
        have c10b0 : (a0_6 == a1_6) = false := beq_eq_false_iff_ne.mpr c10
        have c10b1 : (a0_6 != a1_6) = true := bne_iff_ne.mpr c10
        obtain rfl := Option.some.inj H
        go_enter Tryz.func48, Tryz.ntmps48
        go_wp2_with (first | ((with_reducible refine gate_dst (N := 2) rfl ?_); refine box_event ?hg (N := 2) ?hd (cs := #[.int .i64 a0_0, .int .i64 a0_1, .int .i64 a0_2, .string a0_3, .slice A0_4 l0_4.length c0_4, .string a0_5, .int .i64 a0_6, .int .i64 a0_7]) (t := 37) ?hr ?_; (case hd => rfl); (case hg => rfl); (case hr => first | (go_simp; done) | (go_simp; rfl) | (go_simp; simp only [wAl, wAr, wSl, wSr, wW])); intro gb154 hg w16 hbox hb; have n0_ := bsA HB hb; have n1_ := Aside0.mk (hbox); have n2_ := szA HB hg; have n3_ := szA HB hg; clear HB; have HB := n0_; have BK154 := n1_; have GW154 := n2_; have GE154 := n3_; clear n0_ n1_ n2_ n3_; clear hb hbox hg) | ((with_reducible refine gate_dst (N := 3) rfl ?_); refine box_event ?hg (N := 3) ?hd (cs := #[.int .i64 a1_0, .int .i64 a1_1, .int .i64 a1_2, .string a1_3, .slice A1_4 l1_4.length c1_4, .string a1_5, .int .i64 a1_6, .int .i64 a1_7]) (t := 37) ?hr ?_; (case hd => rfl); (case hg => rfl); (case hr => first | (go_simp; done) | (go_simp; rfl) | (go_simp; simp only [wAl, wAr, wSl, wSr, wW])); intro gb155 hg w17 hbox hb; have n0_ := bkA BK154 hb; have n1_ := bsA HB hb; have n2_ := Aside0.mk (hbox); have n3_ := szA HB hg; have n4_ := szA HB hg; have n5_ := neA BK154 hg; have n6_ := neB BK154 hg; clear BK154; clear HB; have BK154 := n0_; have HB := n1_; have BK155 := n2_; have GW155 := n3_; have GE155 := n4_; have NB154_155 := n5_; have NB155_154 := n6_; clear n0_ n1_ n2_ n3_ n4_ n5_ n6_; clear hb hbox hg; have hnb18 := NB154_155.out; have hnc18 := NB155_154.out; have hcz19_0 : w17.cell? ⟨gb154, 0, none⟩ = some (.int .i64 a0_0) := (blk_cell BK154.out 0).trans rfl; have hcz19_1 : w17.cell? ⟨gb154, 1, none⟩ = some (.int .i64 a0_1) := (blk_cell BK154.out 1).trans rfl; have hcz19_2 : w17.cell? ⟨gb154, 2, none⟩ = some (.int .i64 a0_2) := (blk_cell BK154.out 2).trans rfl; have hcz19_3 : w17.cell? ⟨gb154, 3, none⟩ = some (.string a0_3) := (blk_cell BK154.out 3).trans rfl; have hcz19_4 : w17.cell? ⟨gb154, 4, none⟩ = some (.slice A0_4 l0_4.length c0_4) := (blk_cell BK154.out 4).trans rfl; have hcz19_5 : w17.cell? ⟨gb154, 5, none⟩ = some (.string a0_5) := (blk_cell BK154.out 5).trans rfl; have hcz19_6 : w17.cell? ⟨gb154, 6, none⟩ = some (.int .i64 a0_6) := (blk_cell BK154.out 6).trans rfl; have hcz19_7 : w17.cell? ⟨gb154, 7, none⟩ = some (.int .i64 a0_7) := (blk_cell BK154.out 7).trans rfl; have hfz19_0 := blk_frozen BK154.out 0; have hfz19_1 := blk_frozen BK154.out 1; have hfz19_2 := blk_frozen BK154.out 2; have hfz19_3 := blk_frozen BK154.out 3; have hfz19_4 := blk_frozen BK154.out 4; have hfz19_5 := blk_frozen BK154.out 5; have hfz19_6 := blk_frozen BK154.out 6; have hfz19_7 := blk_frozen BK154.out 7; have hcz20_0 : w17.cell? ⟨gb155, 0, none⟩ = some (.int .i64 a1_0) := (blk_cell BK155.out 0).trans rfl; have hcz20_1 : w17.cell? ⟨gb155, 1, none⟩ = some (.int .i64 a1_1) := (blk_cell BK155.out 1).trans rfl; have hcz20_2 : w17.cell? ⟨gb155, 2, none⟩ = some (.int .i64 a1_2) := (blk_cell BK155.out 2).trans rfl; have hcz20_3 : w17.cell? ⟨gb155, 3, none⟩ = some (.string a1_3) := (blk_cell BK155.out 3).trans rfl; have hcz20_4 : w17.cell? ⟨gb155, 4, none⟩ = some (.slice A1_4 l1_4.length c1_4) := (blk_cell BK155.out 4).trans rfl; have hcz20_5 : w17.cell? ⟨gb155, 5, none⟩ = some (.string a1_5) := (blk_cell BK155.out 5).trans rfl; have hcz20_6 : w17.cell? ⟨gb155, 6, none⟩ = some (.int .i64 a1_6) := (blk_cell BK155.out 6).trans rfl; have hcz20_7 : w17.cell? ⟨gb155, 7, none⟩ = some (.int .i64 a1_7) := (blk_cell BK155.out 7).trans rfl; have hfz20_0 := blk_frozen BK155.out 0; have hfz20_1 := blk_frozen BK155.out 1; have hfz20_2 := blk_frozen BK155.out 2; have hfz20_3 := blk_frozen BK155.out 3; have hfz20_4 := blk_frozen BK155.out 4; have hfz20_5 := blk_frozen BK155.out 5; have hfz20_6 := blk_frozen BK155.out 6; have hfz20_7 := blk_frozen BK155.out 7) | (go_at_call 71; (with_reducible refine (dragnetref06_Same.calls k _ _ l0_4 _ _ l1_4 true _ ?side1 ?side2 ?side3 ?side4 A7.out).mono ?_); (case side1 => repeat (first | exact (Kd.C_below HR0_4.out HB.out) | (with_reducible refine Kd.C_alloc ?_ _) | (with_reducible refine Kd.C_drewN ?_ _) | (with_reducible refine Kd.C_drew ?_))); (case side2 => exact HC0_4.out); (case side3 => repeat (first | exact (Kd.C_below HR1_4.out HB.out) | (with_reducible refine Kd.C_alloc ?_ _) | (with_reducible refine Kd.C_drewN ?_ _) | (with_reducible refine Kd.C_drew ?_))); (case side4 => exact HC1_4.out); rintro e w' ⟨rfl, ⟨nd, rfl⟩⟩))
        go_ret
        exact ⟨by first | rfl | (simp [errW_none, errW_some] <;> rfl) | (simp [*, errW_none, errW_some] <;> rfl), by repeat (first | (with_reducible first | exact HB.out | apply below_alloc | apply pw_below_drewN | apply below_drew1 | refine below_set ?_ GE154.out | refine below_set ?_ GE155.out) | exact HB.out)⟩
      ·rw [if_neg c9] at H
       have c9b0 : (a0_5.toList == a1_5.toList) = false := beq_eq_false_iff_ne.mpr c9
       have c9b1 : (a0_5.toList != a1_5.toList) = true := bne_iff_ne.mpr c9
       obtain rfl := Option.some.inj H
       go_enter Tryz.func48, Tryz.ntmps48
       go_wp2_with (first | ((with_reducible refine gate_dst (N := 2) rfl ?_); refine box_event ?hg (N := 2) ?hd (cs := #[.int .i64 a0_0, .int .i64 a0_1, .int .i64 a0_2, .string a0_3, .slice A0_4 l0_4.length c0_4, .string a0_5, .int .i64 a0_6, .int .i64 a0_7]) (t := 37) ?hr ?_; (case hd => rfl); (case hg => rfl); (case hr => first | (go_simp; done) | (go_simp; rfl) | (go_simp; simp only [wAl, wAr, wSl, wSr, wW])); intro gb154 hg w21 hbox hb; have n0_ := bsA HB hb; have n1_ := Aside0.mk (hbox); have n2_ := szA HB hg; have n3_ := szA HB hg; clear HB; have HB := n0_; have BK154 := n1_; have GW154 := n2_; have GE154 := n3_; clear n0_ n1_ n2_ n3_; clear hb hbox hg) | ((with_reducible refine gate_dst (N := 3) rfl ?_); refine box_event ?hg (N := 3) ?hd (cs := #[.int .i64 a1_0, .int .i64 a1_1, .int .i64 a1_2, .string a1_3, .slice A1_4 l1_4.length c1_4, .string a1_5, .int .i64 a1_6, .int .i64 a1_7]) (t := 37) ?hr ?_; (case hd => rfl); (case hg => rfl); (case hr => first | (go_simp; done) | (go_simp; rfl) | (go_simp; simp only [wAl, wAr, wSl, wSr, wW])); intro gb155 hg w22 hbox hb; have n0_ := bkA BK154 hb; have n1_ := bsA HB hb; have n2_ := Aside0.mk (hbox); have n3_ := szA HB hg; have n4_ := szA HB hg; have n5_ := neA BK154 hg; have n6_ := neB BK154 hg; clear BK154; clear HB; have BK154 := n0_; have HB := n1_; have BK155 := n2_; have GW155 := n3_; have GE155 := n4_; have NB154_155 := n5_; have NB155_154 := n6_; clear n0_ n1_ n2_ n3_ n4_ n5_ n6_; clear hb hbox hg; have hnb23 := NB154_155.out; have hnc23 := NB155_154.out; have hcz24_0 : w22.cell? ⟨gb154, 0, none⟩ = some (.int .i64 a0_0) := (blk_cell BK154.out 0).trans rfl; have hcz24_1 : w22.cell? ⟨gb154, 1, none⟩ = some (.int .i64 a0_1) := (blk_cell BK154.out 1).trans rfl; have hcz24_2 : w22.cell? ⟨gb154, 2, none⟩ = some (.int .i64 a0_2) := (blk_cell BK154.out 2).trans rfl; have hcz24_3 : w22.cell? ⟨gb154, 3, none⟩ = some (.string a0_3) := (blk_cell BK154.out 3).trans rfl; have hcz24_4 : w22.cell? ⟨gb154, 4, none⟩ = some (.slice A0_4 l0_4.length c0_4) := (blk_cell BK154.out 4).trans rfl; have hcz24_5 : w22.cell? ⟨gb154, 5, none⟩ = some (.string a0_5) := (blk_cell BK154.out 5).trans rfl; have hcz24_6 : w22.cell? ⟨gb154, 6, none⟩ = some (.int .i64 a0_6) := (blk_cell BK154.out 6).trans rfl; have hcz24_7 : w22.cell? ⟨gb154, 7, none⟩ = some (.int .i64 a0_7) := (blk_cell BK154.out 7).trans rfl; have hfz24_0 := blk_frozen BK154.out 0; have hfz24_1 := blk_frozen BK154.out 1; have hfz24_2 := blk_frozen BK154.out 2; have hfz24_3 := blk_frozen BK154.out 3; have hfz24_4 := blk_frozen BK154.out 4; have hfz24_5 := blk_frozen BK154.out 5; have hfz24_6 := blk_frozen BK154.out 6; have hfz24_7 := blk_frozen BK154.out 7; have hcz25_0 : w22.cell? ⟨gb155, 0, none⟩ = some (.int .i64 a1_0) := (blk_cell BK155.out 0).trans rfl; have hcz25_1 : w22.cell? ⟨gb155, 1, none⟩ = some (.int .i64 a1_1) := (blk_cell BK155.out 1).trans rfl; have hcz25_2 : w22.cell? ⟨gb155, 2, none⟩ = some (.int .i64 a1_2) := (blk_cell BK155.out 2).trans rfl; have hcz25_3 : w22.cell? ⟨gb155, 3, none⟩ = some (.string a1_3) := (blk_cell BK155.out 3).trans rfl; have hcz25_4 : w22.cell? ⟨gb155, 4, none⟩ = some (.slice A1_4 l1_4.length c1_4) := (blk_cell BK155.out 4).trans rfl; have hcz25_5 : w22.cell? ⟨gb155, 5, none⟩ = some (.string a1_5) := (blk_cell BK155.out 5).trans rfl; have hcz25_6 : w22.cell? ⟨gb155, 6, none⟩ = some (.int .i64 a1_6) := (blk_cell BK155.out 6).trans rfl; have hcz25_7 : w22.cell? ⟨gb155, 7, none⟩ = some (.int .i64 a1_7) := (blk_cell BK155.out 7).trans rfl; have hfz25_0 := blk_frozen BK155.out 0; have hfz25_1 := blk_frozen BK155.out 1; have hfz25_2 := blk_frozen BK155.out 2; have hfz25_3 := blk_frozen BK155.out 3; have hfz25_4 := blk_frozen BK155.out 4; have hfz25_5 := blk_frozen BK155.out 5; have hfz25_6 := blk_frozen BK155.out 6; have hfz25_7 := blk_frozen BK155.out 7) | (go_at_call 71; (with_reducible refine (dragnetref06_Same.calls k _ _ l0_4 _ _ l1_4 true _ ?side1 ?side2 ?side3 ?side4 A7.out).mono ?_); (case side1 => repeat (first | exact (Kd.C_below HR0_4.out HB.out) | (with_reducible refine Kd.C_alloc ?_ _) | (with_reducible refine Kd.C_drewN ?_ _) | (with_reducible refine Kd.C_drew ?_))); (case side2 => exact HC0_4.out); (case side3 => repeat (first | exact (Kd.C_below HR1_4.out HB.out) | (with_reducible refine Kd.C_alloc ?_ _) | (with_reducible refine Kd.C_drewN ?_ _) | (with_reducible refine Kd.C_drew ?_))); (case side4 => exact HC1_4.out); rintro e w' ⟨rfl, ⟨nd, rfl⟩⟩))
       go_ret
       exact ⟨by first | rfl | (simp [errW_none, errW_some] <;> rfl) | (simp [*, errW_none, errW_some] <;> rfl), by repeat (first | (with_reducible first | exact HB.out | apply below_alloc | apply pw_below_drewN | apply below_drew1 | refine below_set ?_ GE154.out | refine below_set ?_ GE155.out) | exact HB.out)⟩
     ·replace c8 := Bool.eq_false_iff.mpr c8
      subst c8
      have H1 : (some false) = some r := by rw [if_neg (show ¬ (false = true) by decide)] at H; exact H
      clear H
      have H := H1
      clear H1
      obtain rfl := Option.some.inj H
      go_enter Tryz.func48, Tryz.ntmps48
      go_wp2_with (first | ((with_reducible refine gate_dst (N := 2) rfl ?_); refine box_event ?hg (N := 2) ?hd (cs := #[.int .i64 a0_0, .int .i64 a0_1, .int .i64 a0_2, .string a0_3, .slice A0_4 l0_4.length c0_4, .string a0_5, .int .i64 a0_6, .int .i64 a0_7]) (t := 37) ?hr ?_; (case hd => rfl); (case hg => rfl); (case hr => first | (go_simp; done) | (go_simp; rfl) | (go_simp; simp only [wAl, wAr, wSl, wSr, wW])); intro gb154 hg w26 hbox hb; have n0_ := bsA HB hb; have n1_ := Aside0.mk (hbox); have n2_ := szA HB hg; have n3_ := szA HB hg; clear HB; have HB := n0_; have BK154 := n1_; have GW154 := n2_; have GE154 := n3_; clear n0_ n1_ n2_ n3_; clear hb hbox hg) | ((with_reducible refine gate_dst (N := 3) rfl ?_); refine box_event ?hg (N := 3) ?hd (cs := #[.int .i64 a1_0, .int .i64 a1_1, .int .i64 a1_2, .string a1_3, .slice A1_4 l1_4.length c1_4, .string a1_5, .int .i64 a1_6, .int .i64 a1_7]) (t := 37) ?hr ?_; (case hd => rfl); (case hg => rfl); (case hr => first | (go_simp; done) | (go_simp; rfl) | (go_simp; simp only [wAl, wAr, wSl, wSr, wW])); intro gb155 hg w27 hbox hb; have n0_ := bkA BK154 hb; have n1_ := bsA HB hb; have n2_ := Aside0.mk (hbox); have n3_ := szA HB hg; have n4_ := szA HB hg; have n5_ := neA BK154 hg; have n6_ := neB BK154 hg; clear BK154; clear HB; have BK154 := n0_; have HB := n1_; have BK155 := n2_; have GW155 := n3_; have GE155 := n4_; have NB154_155 := n5_; have NB155_154 := n6_; clear n0_ n1_ n2_ n3_ n4_ n5_ n6_; clear hb hbox hg; have hnb28 := NB154_155.out; have hnc28 := NB155_154.out; have hcz29_0 : w27.cell? ⟨gb154, 0, none⟩ = some (.int .i64 a0_0) := (blk_cell BK154.out 0).trans rfl; have hcz29_1 : w27.cell? ⟨gb154, 1, none⟩ = some (.int .i64 a0_1) := (blk_cell BK154.out 1).trans rfl; have hcz29_2 : w27.cell? ⟨gb154, 2, none⟩ = some (.int .i64 a0_2) := (blk_cell BK154.out 2).trans rfl; have hcz29_3 : w27.cell? ⟨gb154, 3, none⟩ = some (.string a0_3) := (blk_cell BK154.out 3).trans rfl; have hcz29_4 : w27.cell? ⟨gb154, 4, none⟩ = some (.slice A0_4 l0_4.length c0_4) := (blk_cell BK154.out 4).trans rfl; have hcz29_5 : w27.cell? ⟨gb154, 5, none⟩ = some (.string a0_5) := (blk_cell BK154.out 5).trans rfl; have hcz29_6 : w27.cell? ⟨gb154, 6, none⟩ = some (.int .i64 a0_6) := (blk_cell BK154.out 6).trans rfl; have hcz29_7 : w27.cell? ⟨gb154, 7, none⟩ = some (.int .i64 a0_7) := (blk_cell BK154.out 7).trans rfl; have hfz29_0 := blk_frozen BK154.out 0; have hfz29_1 := blk_frozen BK154.out 1; have hfz29_2 := blk_frozen BK154.out 2; have hfz29_3 := blk_frozen BK154.out 3; have hfz29_4 := blk_frozen BK154.out 4; have hfz29_5 := blk_frozen BK154.out 5; have hfz29_6 := blk_frozen BK154.out 6; have hfz29_7 := blk_frozen BK154.out 7; have hcz30_0 : w27.cell? ⟨gb155, 0, none⟩ = some (.int .i64 a1_0) := (blk_cell BK155.out 0).trans rfl; have hcz30_1 : w27.cell? ⟨gb155, 1, none⟩ = some (.int .i64 a1_1) := (blk_cell BK155.out 1).trans rfl; have hcz30_2 : w27.cell? ⟨gb155, 2, none⟩ = some (.int .i64 a1_2) := (blk_cell BK155.out 2).trans rfl; have hcz30_3 : w27.cell? ⟨gb155, 3, none⟩ = some (.string a1_3) := (blk_cell BK155.out 3).trans rfl; have hcz30_4 : w27.cell? ⟨gb155, 4, none⟩ = some (.slice A1_4 l1_4.length c1_4) := (blk_cell BK155.out 4).trans rfl; have hcz30_5 : w27.cell? ⟨gb155, 5, none⟩ = some (.string a1_5) := (blk_cell BK155.out 5).trans rfl; have hcz30_6 : w27.cell? ⟨gb155, 6, none⟩ = some (.int .i64 a1_6) := (blk_cell BK155.out 6).trans rfl; have hcz30_7 : w27.cell? ⟨gb155, 7, none⟩ = some (.int .i64 a1_7) := (blk_cell BK155.out 7).trans rfl; have hfz30_0 := blk_frozen BK155.out 0; have hfz30_1 := blk_frozen BK155.out 1; have hfz30_2 := blk_frozen BK155.out 2; have hfz30_3 := blk_frozen BK155.out 3; have hfz30_4 := blk_frozen BK155.out 4; have hfz30_5 := blk_frozen BK155.out 5; have hfz30_6 := blk_frozen BK155.out 6; have hfz30_7 := blk_frozen BK155.out 7) | (go_at_call 71; (with_reducible refine (dragnetref06_Same.calls k _ _ l0_4 _ _ l1_4 false _ ?side1 ?side2 ?side3 ?side4 A7.out).mono ?_); (case side1 => repeat (first | exact (Kd.C_below HR0_4.out HB.out) | (with_reducible refine Kd.C_alloc ?_ _) | (with_reducible refine Kd.C_drewN ?_ _) | (with_reducible refine Kd.C_drew ?_))); (case side2 => exact HC0_4.out); (case side3 => repeat (first | exact (Kd.C_below HR1_4.out HB.out) | (with_reducible refine Kd.C_alloc ?_ _) | (with_reducible refine Kd.C_drewN ?_ _) | (with_reducible refine Kd.C_drew ?_))); (case side4 => exact HC1_4.out); rintro e w' ⟨rfl, ⟨nd, rfl⟩⟩))
      go_ret
      exact ⟨by first | rfl | (simp [errW_none, errW_some] <;> rfl) | (simp [*, errW_none, errW_some] <;> rfl), by repeat (first | (with_reducible first | exact HB.out | apply below_alloc | apply pw_below_drewN | apply below_drew1 | refine below_set ?_ GE154.out | refine below_set ?_ GE155.out) | exact HB.out)⟩
    ·rw [if_neg c6] at H
     have c6b0 : (a0_3.toList == a1_3.toList) = false := beq_eq_false_iff_ne.mpr c6
     have c6b1 : (a0_3.toList != a1_3.toList) = true := bne_iff_ne.mpr c6
     obtain rfl := Option.some.inj H
     go_enter Tryz.func48, Tryz.ntmps48
     go_wp2_with (first | ((with_reducible refine gate_dst (N := 2) rfl ?_); refine box_event ?hg (N := 2) ?hd (cs := #[.int .i64 a0_0, .int .i64 a0_1, .int .i64 a0_2, .string a0_3, .slice A0_4 l0_4.length c0_4, .string a0_5, .int .i64 a0_6, .int .i64 a0_7]) (t := 37) ?hr ?_; (case hd => rfl); (case hg => rfl); (case hr => first | (go_simp; done) | (go_simp; rfl) | (go_simp; simp only [wAl, wAr, wSl, wSr, wW])); intro gb154 hg w31 hbox hb; have n0_ := bsA HB hb; have n1_ := Aside0.mk (hbox); have n2_ := szA HB hg; have n3_ := szA HB hg; clear HB; have HB := n0_; have BK154 := n1_; have GW154 := n2_; have GE154 := n3_; clear n0_ n1_ n2_ n3_; clear hb hbox hg) | ((with_reducible refine gate_dst (N := 3) rfl ?_); refine box_event ?hg (N := 3) ?hd (cs := #[.int .i64 a1_0, .int .i64 a1_1, .int .i64 a1_2, .string a1_3, .slice A1_4 l1_4.length c1_4, .string a1_5, .int .i64 a1_6, .int .i64 a1_7]) (t := 37) ?hr ?_; (case hd => rfl); (case hg => rfl); (case hr => first | (go_simp; done) | (go_simp; rfl) | (go_simp; simp only [wAl, wAr, wSl, wSr, wW])); intro gb155 hg w32 hbox hb; have n0_ := bkA BK154 hb; have n1_ := bsA HB hb; have n2_ := Aside0.mk (hbox); have n3_ := szA HB hg; have n4_ := szA HB hg; have n5_ := neA BK154 hg; have n6_ := neB BK154 hg; clear BK154; clear HB; have BK154 := n0_; have HB := n1_; have BK155 := n2_; have GW155 := n3_; have GE155 := n4_; have NB154_155 := n5_; have NB155_154 := n6_; clear n0_ n1_ n2_ n3_ n4_ n5_ n6_; clear hb hbox hg; have hnb33 := NB154_155.out; have hnc33 := NB155_154.out; have hcz34_0 : w32.cell? ⟨gb154, 0, none⟩ = some (.int .i64 a0_0) := (blk_cell BK154.out 0).trans rfl; have hcz34_1 : w32.cell? ⟨gb154, 1, none⟩ = some (.int .i64 a0_1) := (blk_cell BK154.out 1).trans rfl; have hcz34_2 : w32.cell? ⟨gb154, 2, none⟩ = some (.int .i64 a0_2) := (blk_cell BK154.out 2).trans rfl; have hcz34_3 : w32.cell? ⟨gb154, 3, none⟩ = some (.string a0_3) := (blk_cell BK154.out 3).trans rfl; have hcz34_4 : w32.cell? ⟨gb154, 4, none⟩ = some (.slice A0_4 l0_4.length c0_4) := (blk_cell BK154.out 4).trans rfl; have hcz34_5 : w32.cell? ⟨gb154, 5, none⟩ = some (.string a0_5) := (blk_cell BK154.out 5).trans rfl; have hcz34_6 : w32.cell? ⟨gb154, 6, none⟩ = some (.int .i64 a0_6) := (blk_cell BK154.out 6).trans rfl; have hcz34_7 : w32.cell? ⟨gb154, 7, none⟩ = some (.int .i64 a0_7) := (blk_cell BK154.out 7).trans rfl; have hfz34_0 := blk_frozen BK154.out 0; have hfz34_1 := blk_frozen BK154.out 1; have hfz34_2 := blk_frozen BK154.out 2; have hfz34_3 := blk_frozen BK154.out 3; have hfz34_4 := blk_frozen BK154.out 4; have hfz34_5 := blk_frozen BK154.out 5; have hfz34_6 := blk_frozen BK154.out 6; have hfz34_7 := blk_frozen BK154.out 7; have hcz35_0 : w32.cell? ⟨gb155, 0, none⟩ = some (.int .i64 a1_0) := (blk_cell BK155.out 0).trans rfl; have hcz35_1 : w32.cell? ⟨gb155, 1, none⟩ = some (.int .i64 a1_1) := (blk_cell BK155.out 1).trans rfl; have hcz35_2 : w32.cell? ⟨gb155, 2, none⟩ = some (.int .i64 a1_2) := (blk_cell BK155.out 2).trans rfl; have hcz35_3 : w32.cell? ⟨gb155, 3, none⟩ = some (.string a1_3) := (blk_cell BK155.out 3).trans rfl; have hcz35_4 : w32.cell? ⟨gb155, 4, none⟩ = some (.slice A1_4 l1_4.length c1_4) := (blk_cell BK155.out 4).trans rfl; have hcz35_5 : w32.cell? ⟨gb155, 5, none⟩ = some (.string a1_5) := (blk_cell BK155.out 5).trans rfl; have hcz35_6 : w32.cell? ⟨gb155, 6, none⟩ = some (.int .i64 a1_6) := (blk_cell BK155.out 6).trans rfl; have hcz35_7 : w32.cell? ⟨gb155, 7, none⟩ = some (.int .i64 a1_7) := (blk_cell BK155.out 7).trans rfl; have hfz35_0 := blk_frozen BK155.out 0; have hfz35_1 := blk_frozen BK155.out 1; have hfz35_2 := blk_frozen BK155.out 2; have hfz35_3 := blk_frozen BK155.out 3; have hfz35_4 := blk_frozen BK155.out 4; have hfz35_5 := blk_frozen BK155.out 5; have hfz35_6 := blk_frozen BK155.out 6; have hfz35_7 := blk_frozen BK155.out 7))
     go_ret
     exact ⟨by first | rfl | (simp [errW_none, errW_some] <;> rfl) | (simp [*, errW_none, errW_some] <;> rfl), by repeat (first | (with_reducible first | exact HB.out | apply below_alloc | apply pw_below_drewN | apply below_drew1 | refine below_set ?_ GE154.out | refine below_set ?_ GE155.out) | exact HB.out)⟩
   ·rw [if_neg c5] at H
    have c5b0 : (a0_2 == a1_2) = false := beq_eq_false_iff_ne.mpr c5
    have c5b1 : (a0_2 != a1_2) = true := bne_iff_ne.mpr c5
    obtain rfl := Option.some.inj H
    go_enter Tryz.func48, Tryz.ntmps48
    go_wp2_with (first | ((with_reducible refine gate_dst (N := 2) rfl ?_); refine box_event ?hg (N := 2) ?hd (cs := #[.int .i64 a0_0, .int .i64 a0_1, .int .i64 a0_2, .string a0_3, .slice A0_4 l0_4.length c0_4, .string a0_5, .int .i64 a0_6, .int .i64 a0_7]) (t := 37) ?hr ?_; (case hd => rfl); (case hg => rfl); (case hr => first | (go_simp; done) | (go_simp; rfl) | (go_simp; simp only [wAl, wAr, wSl, wSr, wW])); intro gb154 hg w36 hbox hb; have n0_ := bsA HB hb; have n1_ := Aside0.mk (hbox); have n2_ := szA HB hg; have n3_ := szA HB hg; clear HB; have HB := n0_; have BK154 := n1_; have GW154 := n2_; have GE154 := n3_; clear n0_ n1_ n2_ n3_; clear hb hbox hg) | ((with_reducible refine gate_dst (N := 3) rfl ?_); refine box_event ?hg (N := 3) ?hd (cs := #[.int .i64 a1_0, .int .i64 a1_1, .int .i64 a1_2, .string a1_3, .slice A1_4 l1_4.length c1_4, .string a1_5, .int .i64 a1_6, .int .i64 a1_7]) (t := 37) ?hr ?_; (case hd => rfl); (case hg => rfl); (case hr => first | (go_simp; done) | (go_simp; rfl) | (go_simp; simp only [wAl, wAr, wSl, wSr, wW])); intro gb155 hg w37 hbox hb; have n0_ := bkA BK154 hb; have n1_ := bsA HB hb; have n2_ := Aside0.mk (hbox); have n3_ := szA HB hg; have n4_ := szA HB hg; have n5_ := neA BK154 hg; have n6_ := neB BK154 hg; clear BK154; clear HB; have BK154 := n0_; have HB := n1_; have BK155 := n2_; have GW155 := n3_; have GE155 := n4_; have NB154_155 := n5_; have NB155_154 := n6_; clear n0_ n1_ n2_ n3_ n4_ n5_ n6_; clear hb hbox hg; have hnb38 := NB154_155.out; have hnc38 := NB155_154.out; have hcz39_0 : w37.cell? ⟨gb154, 0, none⟩ = some (.int .i64 a0_0) := (blk_cell BK154.out 0).trans rfl; have hcz39_1 : w37.cell? ⟨gb154, 1, none⟩ = some (.int .i64 a0_1) := (blk_cell BK154.out 1).trans rfl; have hcz39_2 : w37.cell? ⟨gb154, 2, none⟩ = some (.int .i64 a0_2) := (blk_cell BK154.out 2).trans rfl; have hcz39_3 : w37.cell? ⟨gb154, 3, none⟩ = some (.string a0_3) := (blk_cell BK154.out 3).trans rfl; have hcz39_4 : w37.cell? ⟨gb154, 4, none⟩ = some (.slice A0_4 l0_4.length c0_4) := (blk_cell BK154.out 4).trans rfl; have hcz39_5 : w37.cell? ⟨gb154, 5, none⟩ = some (.string a0_5) := (blk_cell BK154.out 5).trans rfl; have hcz39_6 : w37.cell? ⟨gb154, 6, none⟩ = some (.int .i64 a0_6) := (blk_cell BK154.out 6).trans rfl; have hcz39_7 : w37.cell? ⟨gb154, 7, none⟩ = some (.int .i64 a0_7) := (blk_cell BK154.out 7).trans rfl; have hfz39_0 := blk_frozen BK154.out 0; have hfz39_1 := blk_frozen BK154.out 1; have hfz39_2 := blk_frozen BK154.out 2; have hfz39_3 := blk_frozen BK154.out 3; have hfz39_4 := blk_frozen BK154.out 4; have hfz39_5 := blk_frozen BK154.out 5; have hfz39_6 := blk_frozen BK154.out 6; have hfz39_7 := blk_frozen BK154.out 7; have hcz40_0 : w37.cell? ⟨gb155, 0, none⟩ = some (.int .i64 a1_0) := (blk_cell BK155.out 0).trans rfl; have hcz40_1 : w37.cell? ⟨gb155, 1, none⟩ = some (.int .i64 a1_1) := (blk_cell BK155.out 1).trans rfl; have hcz40_2 : w37.cell? ⟨gb155, 2, none⟩ = some (.int .i64 a1_2) := (blk_cell BK155.out 2).trans rfl; have hcz40_3 : w37.cell? ⟨gb155, 3, none⟩ = some (.string a1_3) := (blk_cell BK155.out 3).trans rfl; have hcz40_4 : w37.cell? ⟨gb155, 4, none⟩ = some (.slice A1_4 l1_4.length c1_4) := (blk_cell BK155.out 4).trans rfl; have hcz40_5 : w37.cell? ⟨gb155, 5, none⟩ = some (.string a1_5) := (blk_cell BK155.out 5).trans rfl; have hcz40_6 : w37.cell? ⟨gb155, 6, none⟩ = some (.int .i64 a1_6) := (blk_cell BK155.out 6).trans rfl; have hcz40_7 : w37.cell? ⟨gb155, 7, none⟩ = some (.int .i64 a1_7) := (blk_cell BK155.out 7).trans rfl; have hfz40_0 := blk_frozen BK155.out 0; have hfz40_1 := blk_frozen BK155.out 1; have hfz40_2 := blk_frozen BK155.out 2; have hfz40_3 := blk_frozen BK155.out 3; have hfz40_4 := blk_frozen BK155.out 4; have hfz40_5 := blk_frozen BK155.out 5; have hfz40_6 := blk_frozen BK155.out 6; have hfz40_7 := blk_frozen BK155.out 7))
    go_ret
    exact ⟨by first | rfl | (simp [errW_none, errW_some] <;> rfl) | (simp [*, errW_none, errW_some] <;> rfl), by repeat (first | (with_reducible first | exact HB.out | apply below_alloc | apply pw_below_drewN | apply below_drew1 | refine below_set ?_ GE154.out | refine below_set ?_ GE155.out) | exact HB.out)⟩
  ·rw [if_neg c4] at H
   have c4b0 : (a0_1 == a1_1) = false := beq_eq_false_iff_ne.mpr c4
   have c4b1 : (a0_1 != a1_1) = true := bne_iff_ne.mpr c4
   obtain rfl := Option.some.inj H
   go_enter Tryz.func48, Tryz.ntmps48
   go_wp2_with (first | ((with_reducible refine gate_dst (N := 2) rfl ?_); refine box_event ?hg (N := 2) ?hd (cs := #[.int .i64 a0_0, .int .i64 a0_1, .int .i64 a0_2, .string a0_3, .slice A0_4 l0_4.length c0_4, .string a0_5, .int .i64 a0_6, .int .i64 a0_7]) (t := 37) ?hr ?_; (case hd => rfl); (case hg => rfl); (case hr => first | (go_simp; done) | (go_simp; rfl) | (go_simp; simp only [wAl, wAr, wSl, wSr, wW])); intro gb154 hg w41 hbox hb; have n0_ := bsA HB hb; have n1_ := Aside0.mk (hbox); have n2_ := szA HB hg; have n3_ := szA HB hg; clear HB; have HB := n0_; have BK154 := n1_; have GW154 := n2_; have GE154 := n3_; clear n0_ n1_ n2_ n3_; clear hb hbox hg) | ((with_reducible refine gate_dst (N := 3) rfl ?_); refine box_event ?hg (N := 3) ?hd (cs := #[.int .i64 a1_0, .int .i64 a1_1, .int .i64 a1_2, .string a1_3, .slice A1_4 l1_4.length c1_4, .string a1_5, .int .i64 a1_6, .int .i64 a1_7]) (t := 37) ?hr ?_; (case hd => rfl); (case hg => rfl); (case hr => first | (go_simp; done) | (go_simp; rfl) | (go_simp; simp only [wAl, wAr, wSl, wSr, wW])); intro gb155 hg w42 hbox hb; have n0_ := bkA BK154 hb; have n1_ := bsA HB hb; have n2_ := Aside0.mk (hbox); have n3_ := szA HB hg; have n4_ := szA HB hg; have n5_ := neA BK154 hg; have n6_ := neB BK154 hg; clear BK154; clear HB; have BK154 := n0_; have HB := n1_; have BK155 := n2_; have GW155 := n3_; have GE155 := n4_; have NB154_155 := n5_; have NB155_154 := n6_; clear n0_ n1_ n2_ n3_ n4_ n5_ n6_; clear hb hbox hg; have hnb43 := NB154_155.out; have hnc43 := NB155_154.out; have hcz44_0 : w42.cell? ⟨gb154, 0, none⟩ = some (.int .i64 a0_0) := (blk_cell BK154.out 0).trans rfl; have hcz44_1 : w42.cell? ⟨gb154, 1, none⟩ = some (.int .i64 a0_1) := (blk_cell BK154.out 1).trans rfl; have hcz44_2 : w42.cell? ⟨gb154, 2, none⟩ = some (.int .i64 a0_2) := (blk_cell BK154.out 2).trans rfl; have hcz44_3 : w42.cell? ⟨gb154, 3, none⟩ = some (.string a0_3) := (blk_cell BK154.out 3).trans rfl; have hcz44_4 : w42.cell? ⟨gb154, 4, none⟩ = some (.slice A0_4 l0_4.length c0_4) := (blk_cell BK154.out 4).trans rfl; have hcz44_5 : w42.cell? ⟨gb154, 5, none⟩ = some (.string a0_5) := (blk_cell BK154.out 5).trans rfl; have hcz44_6 : w42.cell? ⟨gb154, 6, none⟩ = some (.int .i64 a0_6) := (blk_cell BK154.out 6).trans rfl; have hcz44_7 : w42.cell? ⟨gb154, 7, none⟩ = some (.int .i64 a0_7) := (blk_cell BK154.out 7).trans rfl; have hfz44_0 := blk_frozen BK154.out 0; have hfz44_1 := blk_frozen BK154.out 1; have hfz44_2 := blk_frozen BK154.out 2; have hfz44_3 := blk_frozen BK154.out 3; have hfz44_4 := blk_frozen BK154.out 4; have hfz44_5 := blk_frozen BK154.out 5; have hfz44_6 := blk_frozen BK154.out 6; have hfz44_7 := blk_frozen BK154.out 7; have hcz45_0 : w42.cell? ⟨gb155, 0, none⟩ = some (.int .i64 a1_0) := (blk_cell BK155.out 0).trans rfl; have hcz45_1 : w42.cell? ⟨gb155, 1, none⟩ = some (.int .i64 a1_1) := (blk_cell BK155.out 1).trans rfl; have hcz45_2 : w42.cell? ⟨gb155, 2, none⟩ = some (.int .i64 a1_2) := (blk_cell BK155.out 2).trans rfl; have hcz45_3 : w42.cell? ⟨gb155, 3, none⟩ = some (.string a1_3) := (blk_cell BK155.out 3).trans rfl; have hcz45_4 : w42.cell? ⟨gb155, 4, none⟩ = some (.slice A1_4 l1_4.length c1_4) := (blk_cell BK155.out 4).trans rfl; have hcz45_5 : w42.cell? ⟨gb155, 5, none⟩ = some (.string a1_5) := (blk_cell BK155.out 5).trans rfl; have hcz45_6 : w42.cell? ⟨gb155, 6, none⟩ = some (.int .i64 a1_6) := (blk_cell BK155.out 6).trans rfl; have hcz45_7 : w42.cell? ⟨gb155, 7, none⟩ = some (.int .i64 a1_7) := (blk_cell BK155.out 7).trans rfl; have hfz45_0 := blk_frozen BK155.out 0; have hfz45_1 := blk_frozen BK155.out 1; have hfz45_2 := blk_frozen BK155.out 2; have hfz45_3 := blk_frozen BK155.out 3; have hfz45_4 := blk_frozen BK155.out 4; have hfz45_5 := blk_frozen BK155.out 5; have hfz45_6 := blk_frozen BK155.out 6; have hfz45_7 := blk_frozen BK155.out 7))
   go_ret
   exact ⟨by first | rfl | (simp [errW_none, errW_some] <;> rfl) | (simp [*, errW_none, errW_some] <;> rfl), by repeat (first | (with_reducible first | exact HB.out | apply below_alloc | apply pw_below_drewN | apply below_drew1 | refine below_set ?_ GE154.out | refine below_set ?_ GE155.out) | exact HB.out)⟩
 ·rw [if_neg c3] at H
  have c3b0 : (a0_0 == a1_0) = false := beq_eq_false_iff_ne.mpr c3
  have c3b1 : (a0_0 != a1_0) = true := bne_iff_ne.mpr c3
  obtain rfl := Option.some.inj H
  go_enter Tryz.func48, Tryz.ntmps48
  go_wp2_with (first | ((with_reducible refine gate_dst (N := 2) rfl ?_); refine box_event ?hg (N := 2) ?hd (cs := #[.int .i64 a0_0, .int .i64 a0_1, .int .i64 a0_2, .string a0_3, .slice A0_4 l0_4.length c0_4, .string a0_5, .int .i64 a0_6, .int .i64 a0_7]) (t := 37) ?hr ?_; (case hd => rfl); (case hg => rfl); (case hr => first | (go_simp; done) | (go_simp; rfl) | (go_simp; simp only [wAl, wAr, wSl, wSr, wW])); intro gb154 hg w46 hbox hb; have n0_ := bsA HB hb; have n1_ := Aside0.mk (hbox); have n2_ := szA HB hg; have n3_ := szA HB hg; clear HB; have HB := n0_; have BK154 := n1_; have GW154 := n2_; have GE154 := n3_; clear n0_ n1_ n2_ n3_; clear hb hbox hg) | ((with_reducible refine gate_dst (N := 3) rfl ?_); refine box_event ?hg (N := 3) ?hd (cs := #[.int .i64 a1_0, .int .i64 a1_1, .int .i64 a1_2, .string a1_3, .slice A1_4 l1_4.length c1_4, .string a1_5, .int .i64 a1_6, .int .i64 a1_7]) (t := 37) ?hr ?_; (case hd => rfl); (case hg => rfl); (case hr => first | (go_simp; done) | (go_simp; rfl) | (go_simp; simp only [wAl, wAr, wSl, wSr, wW])); intro gb155 hg w47 hbox hb; have n0_ := bkA BK154 hb; have n1_ := bsA HB hb; have n2_ := Aside0.mk (hbox); have n3_ := szA HB hg; have n4_ := szA HB hg; have n5_ := neA BK154 hg; have n6_ := neB BK154 hg; clear BK154; clear HB; have BK154 := n0_; have HB := n1_; have BK155 := n2_; have GW155 := n3_; have GE155 := n4_; have NB154_155 := n5_; have NB155_154 := n6_; clear n0_ n1_ n2_ n3_ n4_ n5_ n6_; clear hb hbox hg; have hnb48 := NB154_155.out; have hnc48 := NB155_154.out; have hcz49_0 : w47.cell? ⟨gb154, 0, none⟩ = some (.int .i64 a0_0) := (blk_cell BK154.out 0).trans rfl; have hcz49_1 : w47.cell? ⟨gb154, 1, none⟩ = some (.int .i64 a0_1) := (blk_cell BK154.out 1).trans rfl; have hcz49_2 : w47.cell? ⟨gb154, 2, none⟩ = some (.int .i64 a0_2) := (blk_cell BK154.out 2).trans rfl; have hcz49_3 : w47.cell? ⟨gb154, 3, none⟩ = some (.string a0_3) := (blk_cell BK154.out 3).trans rfl; have hcz49_4 : w47.cell? ⟨gb154, 4, none⟩ = some (.slice A0_4 l0_4.length c0_4) := (blk_cell BK154.out 4).trans rfl; have hcz49_5 : w47.cell? ⟨gb154, 5, none⟩ = some (.string a0_5) := (blk_cell BK154.out 5).trans rfl; have hcz49_6 : w47.cell? ⟨gb154, 6, none⟩ = some (.int .i64 a0_6) := (blk_cell BK154.out 6).trans rfl; have hcz49_7 : w47.cell? ⟨gb154, 7, none⟩ = some (.int .i64 a0_7) := (blk_cell BK154.out 7).trans rfl; have hfz49_0 := blk_frozen BK154.out 0; have hfz49_1 := blk_frozen BK154.out 1; have hfz49_2 := blk_frozen BK154.out 2; have hfz49_3 := blk_frozen BK154.out 3; have hfz49_4 := blk_frozen BK154.out 4; have hfz49_5 := blk_frozen BK154.out 5; have hfz49_6 := blk_frozen BK154.out 6; have hfz49_7 := blk_frozen BK154.out 7; have hcz50_0 : w47.cell? ⟨gb155, 0, none⟩ = some (.int .i64 a1_0) := (blk_cell BK155.out 0).trans rfl; have hcz50_1 : w47.cell? ⟨gb155, 1, none⟩ = some (.int .i64 a1_1) := (blk_cell BK155.out 1).trans rfl; have hcz50_2 : w47.cell? ⟨gb155, 2, none⟩ = some (.int .i64 a1_2) := (blk_cell BK155.out 2).trans rfl; have hcz50_3 : w47.cell? ⟨gb155, 3, none⟩ = some (.string a1_3) := (blk_cell BK155.out 3).trans rfl; have hcz50_4 : w47.cell? ⟨gb155, 4, none⟩ = some (.slice A1_4 l1_4.length c1_4) := (blk_cell BK155.out 4).trans rfl; have hcz50_5 : w47.cell? ⟨gb155, 5, none⟩ = some (.string a1_5) := (blk_cell BK155.out 5).trans rfl; have hcz50_6 : w47.cell? ⟨gb155, 6, none⟩ = some (.int .i64 a1_6) := (blk_cell BK155.out 6).trans rfl; have hcz50_7 : w47.cell? ⟨gb155, 7, none⟩ = some (.int .i64 a1_7) := (blk_cell BK155.out 7).trans rfl; have hfz50_0 := blk_frozen BK155.out 0; have hfz50_1 := blk_frozen BK155.out 1; have hfz50_2 := blk_frozen BK155.out 2; have hfz50_3 := blk_frozen BK155.out 3; have hfz50_4 := blk_frozen BK155.out 4; have hfz50_5 := blk_frozen BK155.out 5; have hfz50_6 := blk_frozen BK155.out 6; have hfz50_7 := blk_frozen BK155.out 7))
  go_ret
  exact ⟨by first | rfl | (simp [errW_none, errW_some] <;> rfl) | (simp [*, errW_none, errW_some] <;> rfl), by repeat (first | (with_reducible first | exact HB.out | apply below_alloc | apply pw_below_drewN | apply below_drew1 | refine below_set ?_ GE154.out | refine below_set ?_ GE155.out) | exact HB.out)⟩
end Go.Proofs.YtehaodbheifokaaGreatDoor.P
end
