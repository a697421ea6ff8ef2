-- Written by a program of this session (wip/tools/tp.py: the kit's printer, turned to take functions that were proved by hand). Lean checks it.
import Derived.Test.YtnmidkjmflnolaaP0
namespace Go.Proofs.Ytnmidkjmflnolaa.P
open Go.RowKit Go.Proofs.YtnmidkjmflnolaaW.PrintWords Go.Proofs.YtnmidkjmflnolaaW.PrintLast Go.Proofs.YtnmidkjmflnolaaW.PrintMore
attribute [local go_sem] max2_int min2_int max_two min_two max_three min_three max_four min_four   -- for this text's walks alone
set_option linter.unusedVariables false
set_option linter.unusedSimpArgs false

-- LEVEL 0
/-! ### dragnetref01_Same: function 18 -/
def dragnetref01_Same.f (l0 : List Int) (l1 : List Int) : Option (Bool) := some ((strOfNums l0).toList == (strOfNums l1).toList)
set_option maxHeartbeats 8000000 in
set_option maxRecDepth 100000 in
theorem dragnetref01_Same.calls (A0 : Option Addr) (c0 : Nat) (l0 : List Int) (A1 : Option Addr) (c1 : Nat) (l1 : List Int) (r : Bool) (w : World) (hr0 : Kd.C (Kd.int .u8) w A0 l0.length l0) (hc0 : l0.length ≤ c0) (hr1 : Kd.C (Kd.int .u8) w A1 l1.length l1) (hc1 : l1.length ≤ c1) (h : dragnetref01_Same.f l0 l1 = some r) :
  Calls Try.prog 18 #[.slice A0 l0.length c0, .slice A1 l1.length c1] w fun e w' => e = .returned (.bool r) ∧ Drawn0 w w' := by
 have HR0 := Aside0.mk hr0
 have HC0 := Aside0.mk hc0
 clear hr0 hc0
 have HR1 := Aside0.mk hr1
 have HC1 := Aside0.mk hc1
 clear hr1 hc1
 have H : (some ((strOfNums l0).toList == (strOfNums l1).toList)) = some r := h
 clear h
 obtain rfl := Option.some.inj H
 have hcv3 := Kd.C_string (P := Try.prog) (A := A0) (c := c0) Try.underlying23 Try.underlying5 Try.underlying9 HR0.out
 have hcv4 := fun (i_ : Nat) => Kd.C_string (P := Try.prog) (A := A0) (c := c0) Try.underlying23 Try.underlying5 Try.underlying9 (Kd.C_drewN HR0.out i_)
 have hcv5 := fun (i_ j_ : Nat) => Kd.C_string (P := Try.prog) (A := A0) (c := c0) Try.underlying23 Try.underlying5 Try.underlying9 (Kd.C_drewN (Kd.C_drewN HR0.out i_) j_)
 have hcv6 := Kd.C_string (P := Try.prog) (A := A0) (c := c0) Try.underlying23 Try.underlying5 Try.underlying9 HR0.out
 (try simp only [List.length_take, List.length_drop, Int.toNat_natCast] at hcv6)
 have hcv7 := fun (i_ : Nat) => Kd.C_string (P := Try.prog) (A := A0) (c := c0) Try.underlying23 Try.underlying5 Try.underlying9 (Kd.C_drewN HR0.out i_)
 (try simp only [List.length_take, List.length_drop, Int.toNat_natCast] at hcv7)
 have hcv8 := fun (i_ j_ : Nat) => Kd.C_string (P := Try.prog) (A := A0) (c := c0) Try.underlying23 Try.underlying5 Try.underlying9 (Kd.C_drewN (Kd.C_drewN HR0.out i_) j_)
 (try simp only [List.length_take, List.length_drop, Int.toNat_natCast] at hcv8)
 have hcv9 := Kd.C_string (P := Try.prog) (A := A1) (c := c1) Try.underlying23 Try.underlying5 Try.underlying9 HR1.out
 have hcv10 := fun (i_ : Nat) => Kd.C_string (P := Try.prog) (A := A1) (c := c1) Try.underlying23 Try.underlying5 Try.underlying9 (Kd.C_drewN HR1.out i_)
 have hcv11 := fun (i_ j_ : Nat) => Kd.C_string (P := Try.prog) (A := A1) (c := c1) Try.underlying23 Try.underlying5 Try.underlying9 (Kd.C_drewN (Kd.C_drewN HR1.out i_) j_)
 have hcv12 := Kd.C_string (P := Try.prog) (A := A1) (c := c1) Try.underlying23 Try.underlying5 Try.underlying9 HR1.out
 (try simp only [List.length_take, List.length_drop, Int.toNat_natCast] at hcv12)
 have hcv13 := fun (i_ : Nat) => Kd.C_string (P := Try.prog) (A := A1) (c := c1) Try.underlying23 Try.underlying5 Try.underlying9 (Kd.C_drewN HR1.out i_)
 (try simp only [List.length_take, List.length_drop, Int.toNat_natCast] at hcv13)
 have hcv14 := fun (i_ j_ : Nat) => Kd.C_string (P := Try.prog) (A := A1) (c := c1) Try.underlying23 Try.underlying5 Try.underlying9 (Kd.C_drewN (Kd.C_drewN HR1.out i_) j_)
 (try simp only [List.length_take, List.length_drop, Int.toNat_natCast] at hcv14)
 go_enter Try.func18, Try.ntmps18
 go_wp2
 go_ret
 exact ⟨by first | rfl | (simp; done) | (simp [*]; done), by repeat (first | exact Drawn0.refl _ | apply Drawn0.step)⟩

-- LEVEL 0
/-! ### dragnetref06_Same: function 21 -/
def dragnetref06_Same.l0 : Nat → List ByteArray → List ByteArray → Int → Option (Bool)
 | 0, _, _, _ => none
 | k + 1, x0, x1, x5 => if x5 < (x0.length : Int) then (if 0 ≤ x5 then (if x5 < (x1.length : Int) then (if (rdOf ByteArray.empty x0 x5).toList = (rdOf ByteArray.empty x1 x5).toList then (dragnetref06_Same.l0 k x0 x1 (wrap64 (x5 + 1))) else (some false)) else (none)) else (none)) else (some true)
def dragnetref06_Same.f (k : Nat) (l0 : List ByteArray) (l1 : List ByteArray) : Option (Bool) := if (l0.length : Int) = (l1.length : Int) then (dragnetref06_Same.l0 k l0 l1 0) else (some false)
theorem dragnetref06_Same.mono_l : ∀ k, (∀ y0 y1 y2, LeO (dragnetref06_Same.l0 k y0 y1 y2) (dragnetref06_Same.l0 (k + 1) y0 y1 y2))
 | 0 => fun _ _ _ r h => by simp [dragnetref06_Same.l0] at h
 | k + 1 => by
  have ih0 := dragnetref06_Same.mono_l k
  ·intro y0 y1 y2
   unfold dragnetref06_Same.l0
   repeat' first
   | (with_reducible exact ih0 _ _ _)
   | (with_reducible exact LeO.refl _)
   | (with_reducible exact LeO.none _)
   | (with_reducible refine LeO.ite ?_ ?_)
   | (with_reducible refine LeO.bind ?_ (fun _ => ?_))
   | exact ih0 _ _ _
   | exact LeO.none _
   | refine LeO.ite ?_ ?_
   | refine LeO.bind ?_ (fun _ => ?_)
theorem dragnetref06_Same.mono : ∀ a0 a1 k, LeO (dragnetref06_Same.f k a0 a1) (dragnetref06_Same.f (k + 1) a0 a1) := by
 intro a0 a1 k
 have ih0 := dragnetref06_Same.mono_l k
 unfold dragnetref06_Same.f
 repeat' first
   | (with_reducible exact ih0 _ _ _)
   | (with_reducible exact LeO.refl _)
   | (with_reducible exact LeO.none _)
   | (with_reducible refine LeO.ite ?_ ?_)
   | (with_reducible refine LeO.bind ?_ (fun _ => ?_))
   | exact ih0 _ _ _
   | exact LeO.none _
   | refine LeO.ite ?_ ?_
   | refine LeO.bind ?_ (fun _ => ?_)
set_option maxHeartbeats 8000000 in
set_option maxRecDepth 100000 in
theorem dragnetref06_Same.calls (k : Nat) (A0 : Option Addr) (c0 : Nat) (l0 : List ByteArray) (A1 : Option Addr) (c1 : Nat) (l1 : List ByteArray) (r : Bool) (w : World) (hr0 : Kd.C Kd.string w A0 l0.length l0) (hc0 : l0.length ≤ c0) (hr1 : Kd.C Kd.string w A1 l1.length l1) (hc1 : l1.length ≤ c1) (h : dragnetref06_Same.f k l0 l1 = some r) :
  Calls Try.prog 21 #[.slice A0 l0.length c0, .slice A1 l1.length c1] w fun e w' => e = .returned (.bool r) ∧ Drawn0 w w' := by
 have HR0 := Aside0.mk hr0
 have HC0 := Aside0.mk hc0
 clear hr0 hc0
 have HR1 := Aside0.mk hr1
 have HC1 := Aside0.mk hc1
 clear hr1 hc1
 have H : (if (l0.length : Int) = (l1.length : Int) then (dragnetref06_Same.l0 k l0 l1 0) else (some false)) = some r := h
 clear h
 by_cases c3 : (l0.length : Int) = (l1.length : Int)
 ·rw [if_pos c3] at H
  have c3b0 : ((l0.length : Int) == (l1.length : Int)) = true := beq_iff_eq.mpr c3
  have c3b1 : ((l0.length : Int) != (l1.length : Int)) = false := bne_eq_false_iff_eq.mpr c3
  have c3b2 : (l0.length == l1.length) = true := by first | simpa using c3 | (simp at c3 ⊢; omega)
  clear c3
  have H' := Aside0.mk H
  clear H
  go_enter Try.func21, Try.ntmps21
  go_wp2
  repeat (go_quiet (fail); try go_wp2)
  go_loopg [5] k (fun kq v5 w' => ∃ (x5_1 : Int), v5 = .int .i64 x5_1 ∧ Aside0 (dragnetref06_Same.l0 kq l0 l1 x5_1 = some r) ∧ Aside0 (kq ≤ k) ∧ Drawn0 w w')
  case atStart => exact ⟨(0), (by first | rfl | (simp; done) | (simp [*]; done)), H', ⟨Nat.le_refl _⟩, by repeat (first | exact Drawn0.refl _ | apply Drawn0.step)⟩
  case round =>
   clear H'
   try clear c1
   try clear c2
   try clear p2
   try clear c3
   try clear c3b0
   try clear c3b1
   try clear c3b2
   obtain ⟨x5_1, rfl, HA, HK1, ⟨m1, rfl⟩⟩ := hrel
   cases gk with
   | zero => exact absurd HA.out (by simp [dragnetref06_Same.l0])
   | succ k1 =>
    have H := HA.out
    clear HA
    simp only [dragnetref06_Same.l0] at H
    by_cases c4 : x5_1 < (l0.length : Int)
    ·rw [if_pos c4] at H
     have c4b0 : decide (x5_1 < (l0.length : Int)) = true := decide_eq_true c4
     clear c4
     by_cases c5 : 0 ≤ x5_1
     ·rw [if_pos c5] at H
      have c5b0 : decide (0 ≤ x5_1) = true := decide_eq_true c5
      clear c5
      by_cases c6 : x5_1 < (l1.length : Int)
      ·rw [if_pos c6] at H
       have c6b0 : decide (x5_1 < (l1.length : Int)) = true := decide_eq_true c6
       clear c6
       by_cases c7 : (rdOf ByteArray.empty l0 x5_1).toList = (rdOf ByteArray.empty l1 x5_1).toList
       ·rw [if_pos c7] at H
        have c7b0 : ((rdOf ByteArray.empty l0 x5_1).toList == (rdOf ByteArray.empty l1 x5_1).toList) = true := beq_iff_eq.mpr c7
        have c7b1 : ((rdOf ByteArray.empty l0 x5_1).toList != (rdOf ByteArray.empty l1 x5_1).toList) = false := bne_eq_false_iff_eq.mpr c7
        clear c7
        have H' := Aside0.mk H
        clear H
        have p101 : 0 ≤ (x5_1 : Int) := of_decide_eq_true (by first | (with_reducible assumption) | assumption)
        have q101 : x5_1 < (l0.length : Int) := of_decide_eq_true (by first | (with_reducible assumption) | assumption)
        obtain ⟨ad101, e101, hx101_0⟩ := Kd.at_string HR0.out x5_1 p101 q101
        cases e101
        replace p101 := eq_true p101
        replace q101 := eq_true q101
        have p102 : 0 ≤ (x5_1 : Int) := of_decide_eq_true (by first | (with_reducible assumption) | assumption)
        have q102 : x5_1 < (l1.length : Int) := of_decide_eq_true (by first | (with_reducible assumption) | assumption)
        obtain ⟨ad102, e102, hx102_0⟩ := Kd.at_string HR1.out x5_1 p102 q102
        cases e102
        replace p102 := eq_true p102
        replace q102 := eq_true q102
        go_wp2
        repeat (go_quiet (fail); try go_wp2)
        go_roundg k1
        case measure => have := HK1.out; omega
        case rel => exact ⟨(wrap64 (x5_1 + 1)), (by first | rfl | (simp; done) | (simp [*]; done)), H', ⟨by have := HK1.out; omega⟩, by repeat (first | exact Drawn0.refl _ | apply Drawn0.step)⟩
       ·rw [if_neg c7] at H
        have c7b0 : ((rdOf ByteArray.empty l0 x5_1).toList == (rdOf ByteArray.empty l1 x5_1).toList) = false := beq_eq_false_iff_ne.mpr c7
        have c7b1 : ((rdOf ByteArray.empty l0 x5_1).toList != (rdOf ByteArray.empty l1 x5_1).toList) = true := bne_iff_ne.mpr c7
        obtain rfl := Option.some.inj H
        have p101 : 0 ≤ (x5_1 : Int) := of_decide_eq_true (by first | (with_reducible assumption) | assumption)
        have q101 : x5_1 < (l0.length : Int) := of_decide_eq_true (by first | (with_reducible assumption) | assumption)
        obtain ⟨ad101, e101, hx101_0⟩ := Kd.at_string HR0.out x5_1 p101 q101
        cases e101
        replace p101 := eq_true p101
        replace q101 := eq_true q101
        have p102 : 0 ≤ (x5_1 : Int) := of_decide_eq_true (by first | (with_reducible assumption) | assumption)
        have q102 : x5_1 < (l1.length : Int) := of_decide_eq_true (by first | (with_reducible assumption) | assumption)
        obtain ⟨ad102, e102, hx102_0⟩ := Kd.at_string HR1.out x5_1 p102 q102
        cases e102
        replace p102 := eq_true p102
        replace q102 := eq_true q102
        go_wp2
        repeat (go_quiet (fail); try go_wp2)
        go_ret
        exact ⟨by first | rfl | (simp; done) | (simp [*]; done), by repeat (first | exact Drawn0.refl _ | apply Drawn0.step)⟩
      ·rw [if_neg c6] at H
       exact absurd H (by simp)
     ·rw [if_neg c5] at H
      exact absurd H (by simp)
    ·rw [if_neg c4] at H
     have c4b0 : decide (x5_1 < (l0.length : Int)) = false := decide_eq_false c4
     clear c4
     obtain rfl := Option.some.inj H
     go_wp2
     repeat (go_quiet (fail); try go_wp2)
     go_ret
     exact ⟨by first | rfl | (simp; done) | (simp [*]; done), by repeat (first | exact Drawn0.refl _ | apply Drawn0.step)⟩
 ·rw [if_neg c3] at H
  have c3b0 : ((l0.length : Int) == (l1.length : Int)) = false := beq_eq_false_iff_ne.mpr c3
  have c3b1 : ((l0.length : Int) != (l1.length : Int)) = true := bne_iff_ne.mpr c3
  have c3b2 : (l0.length == l1.length) = false := by first | simpa using c3 | (simp at c3 ⊢; omega)
  obtain rfl := Option.some.inj H
  go_enter Try.func21, Try.ntmps21
  go_wp2
  repeat (go_quiet (fail); try go_wp2)
  go_ret
  exact ⟨by first | rfl | (simp; done) | (simp [*]; done), by repeat (first | exact Drawn0.refl _ | apply Drawn0.step)⟩

-- LEVEL 0
-- NOT PRINTED: function 89 (sym_piece_89)

-- LEVEL 0
-- NOT PRINTED: function 115 (sym_piece_115)

-- LEVEL 0
-- NOT PRINTED: function 90 (sym_piece_90)

-- LEVEL 0
-- NOT PRINTED: function 117 (slices_xorshift_Next)

-- LEVEL 0
-- NOT PRINTED: function 124 (sym_piece_124)

-- LEVEL 0
-- NOT PRINTED: function 119 (sym_piece_119)

-- LEVEL 0
-- NOT PRINTED: function 118 (sym_piece_118)

-- LEVEL 0
-- NOT PRINTED: function 92 (sym_piece_92)

-- LEVEL 0
-- NOT PRINTED: function 93 (sym_piece_93)

-- LEVEL 0
-- NOT PRINTED: function 94 (sym_piece_94)

-- LEVEL 0
-- NOT PRINTED: function 95 (sym_piece_95)

-- LEVEL 0
-- NOT PRINTED: function 96 (sym_piece_96)

-- LEVEL 0
/-! ### dragnetref06_Pieces: function 52 -/
mutual
def dragnetref06_Pieces.l0 : Nat → List (List Int) → List (S83) → Int → Int → Option ((List (S83)))
 | 0, _, _, _, _ => none
 | k + 1, x0, x3, x4, x5 => if x5 < (x0.length : Int) then (dragnetref06_Pieces.j1 k x0 x3 x4 x5 (decide (x4 > 0))) else (dragnetref06_Pieces.j1 k x0 x3 x4 x5 false)
def dragnetref06_Pieces.j1 : Nat → List (List Int) → List (S83) → Int → Int → Bool → Option ((List (S83)))
 | 0, _, _, _, _, _ => none
 | k + 1, x0, x3, x4, x5, x18 => if x18 = true then (if 0 ≤ x5 then (if x5 < (x0.length : Int) then (if 0 ≤ (mn x4 ((rd_L4 x0 x5).length : Int)) then (if (mn x4 ((rd_L4 x0 x5).length : Int)) ≤ ((rd_L4 x0 x5).length : Int) then (dragnetref06_Pieces.l1 k x0 x3 (wrap64 (x4 - ((strOfNums ((rd_L4 x0 x5).take ((mn x4 ((rd_L4 x0 x5).length : Int)) : Int).toNat)).size : Int))) x5 (strOfNums ((rd_L4 x0 x5).take ((mn x4 ((rd_L4 x0 x5).length : Int)) : Int).toNat)) 0) else (none)) else (none)) else (none)) else (none)) else (some x3)
def dragnetref06_Pieces.l1 : Nat → List (List Int) → List (S83) → Int → Int → ByteArray → Int → Option ((List (S83)))
 | 0, _, _, _, _, _, _ => none
 | k + 1, x0, x3, x4, x5, x6, x7 => if x7 < (x6.size : Int) then (dragnetref06_Pieces.l2 k x0 x3 x4 x5 x6 x7 2) else (dragnetref06_Pieces.l0 k x0 x3 x4 (wrap64 (x5 + 1)))
def dragnetref06_Pieces.l2 : Nat → List (List Int) → List (S83) → Int → Int → ByteArray → Int → Int → Option ((List (S83)))
 | 0, _, _, _, _, _, _, _ => none
 | k + 1, x0, x3, x4, x5, x6, x7, x8 => if x8 ≤ 8 then (dragnetref06_Pieces.j4 k x0 x3 x4 x5 x6 x7 x8 (decide (x8 ≤ (wrap64 ((x6.size : Int) - x7))))) else (dragnetref06_Pieces.j4 k x0 x3 x4 x5 x6 x7 x8 false)
def dragnetref06_Pieces.j4 : Nat → List (List Int) → List (S83) → Int → Int → ByteArray → Int → Int → Bool → Option ((List (S83)))
 | 0, _, _, _, _, _, _, _, _ => none
 | k + 1, x0, x3, x4, x5, x6, x7, x8, x53 => if x53 = true then (dragnetref06_Pieces.l3 k x0 x3 x4 x5 x6 x7 x8 false 0) else (dragnetref06_Pieces.l1 k x0 x3 x4 x5 x6 (wrap64 (x7 + 1)))
def dragnetref06_Pieces.l3 : Nat → List (List Int) → List (S83) → Int → Int → ByteArray → Int → Int → Bool → Int → Option ((List (S83)))
 | 0, _, _, _, _, _, _, _, _, _ => none
 | k + 1, x0, x3, x4, x5, x6, x7, x8, x9, x10 => if x10 < (x3.length : Int) then (if 0 ≤ x10 then (if 0 ≤ x7 then (if x7 ≤ (wrap64 (x7 + x8)) then (if (wrap64 (x7 + x8)) ≤ (x6.size : Int) then (if ((rd_T83 x3 x10).f0).toList = (x6.extract (x7 : Int).toNat ((wrap64 (x7 + x8)) : Int).toNat).toList then (dragnetref06_Pieces.l2 k x0 (x3.set (x10 : Int).toNat (⟨(rd_T83 x3 x10).f0, wrap64 (((rd_T83 x3 x10).f1) + 1)⟩ : S83)) x4 x5 x6 x7 (wrap64 (x8 + 1))) else (dragnetref06_Pieces.l3 k x0 x3 x4 x5 x6 x7 x8 x9 (wrap64 (x10 + 1)))) else (none)) else (none)) else (none)) else (none)) else (if x9 = true then (dragnetref06_Pieces.l2 k x0 x3 x4 x5 x6 x7 (wrap64 (x8 + 1))) else (if 0 ≤ x7 then (if x7 ≤ (wrap64 (x7 + x8)) then (if (wrap64 (x7 + x8)) ≤ (x6.size : Int) then (if x3.length < 5864062014805 then (dragnetref06_Pieces.l2 k x0 (x3 ++ [(⟨x6.extract (x7 : Int).toNat ((wrap64 (x7 + x8)) : Int).toNat, 1⟩ : S83)]) x4 x5 x6 x7 (wrap64 (x8 + 1))) else (none)) else (none)) else (none)) else (none)))
end
def dragnetref06_Pieces.f (k : Nat) (l0 : List (List Int)) : Option ((List (S83))) := dragnetref06_Pieces.l0 k l0 ([] : List (S83)) 1024 0
theorem dragnetref06_Pieces.mono_l : ∀ k, (∀ y0 y1 y2 y3, LeO (dragnetref06_Pieces.l0 k y0 y1 y2 y3) (dragnetref06_Pieces.l0 (k + 1) y0 y1 y2 y3)) ∧ (∀ y0 y1 y2 y3 y4, LeO (dragnetref06_Pieces.j1 k y0 y1 y2 y3 y4) (dragnetref06_Pieces.j1 (k + 1) y0 y1 y2 y3 y4)) ∧ (∀ y0 y1 y2 y3 y4 y5, LeO (dragnetref06_Pieces.l1 k y0 y1 y2 y3 y4 y5) (dragnetref06_Pieces.l1 (k + 1) y0 y1 y2 y3 y4 y5)) ∧ (∀ y0 y1 y2 y3 y4 y5 y6, LeO (dragnetref06_Pieces.l2 k y0 y1 y2 y3 y4 y5 y6) (dragnetref06_Pieces.l2 (k + 1) y0 y1 y2 y3 y4 y5 y6)) ∧ (∀ y0 y1 y2 y3 y4 y5 y6 y7, LeO (dragnetref06_Pieces.j4 k y0 y1 y2 y3 y4 y5 y6 y7) (dragnetref06_Pieces.j4 (k + 1) y0 y1 y2 y3 y4 y5 y6 y7)) ∧ (∀ y0 y1 y2 y3 y4 y5 y6 y7 y8, LeO (dragnetref06_Pieces.l3 k y0 y1 y2 y3 y4 y5 y6 y7 y8) (dragnetref06_Pieces.l3 (k + 1) y0 y1 y2 y3 y4 y5 y6 y7 y8))
 | 0 => ⟨fun _ _ _ _ r h => by simp [dragnetref06_Pieces.l0] at h, fun _ _ _ _ _ r h => by simp [dragnetref06_Pieces.j1] at h, fun _ _ _ _ _ _ r h => by simp [dragnetref06_Pieces.l1] at h, fun _ _ _ _ _ _ _ r h => by simp [dragnetref06_Pieces.l2] at h, fun _ _ _ _ _ _ _ _ r h => by simp [dragnetref06_Pieces.j4] at h, fun _ _ _ _ _ _ _ _ _ r h => by simp [dragnetref06_Pieces.l3] at h⟩
 | k + 1 => by
  obtain ⟨ih0, ih1, ih2, ih3, ih4, ih5⟩ := dragnetref06_Pieces.mono_l k
  refine ⟨?_, ?_, ?_, ?_, ?_, ?_⟩
  ·intro y0 y1 y2 y3
   unfold dragnetref06_Pieces.l0
   repeat' first
   | (with_reducible exact ih0 _ _ _ _)
   | (with_reducible exact ih1 _ _ _ _ _)
   | (with_reducible exact ih2 _ _ _ _ _ _)
   | (with_reducible exact ih3 _ _ _ _ _ _ _)
   | (with_reducible exact ih4 _ _ _ _ _ _ _ _)
   | (with_reducible exact ih5 _ _ _ _ _ _ _ _ _)
   | (with_reducible exact LeO.refl _)
   | (with_reducible exact LeO.none _)
   | (with_reducible refine LeO.ite ?_ ?_)
   | (with_reducible refine LeO.bind ?_ (fun _ => ?_))
   | exact ih0 _ _ _ _
   | exact ih1 _ _ _ _ _
   | exact ih2 _ _ _ _ _ _
   | exact ih3 _ _ _ _ _ _ _
   | exact ih4 _ _ _ _ _ _ _ _
   | exact ih5 _ _ _ _ _ _ _ _ _
   | exact LeO.none _
   | refine LeO.ite ?_ ?_
   | refine LeO.bind ?_ (fun _ => ?_)
  ·intro y0 y1 y2 y3 y4
   unfold dragnetref06_Pieces.j1
   repeat' first
   | (with_reducible exact ih0 _ _ _ _)
   | (with_reducible exact ih1 _ _ _ _ _)
   | (with_reducible exact ih2 _ _ _ _ _ _)
   | (with_reducible exact ih3 _ _ _ _ _ _ _)
   | (with_reducible exact ih4 _ _ _ _ _ _ _ _)
   | (with_reducible exact ih5 _ _ _ _ _ _ _ _ _)
   | (with_reducible exact LeO.refl _)
   | (with_reducible exact LeO.none _)
   | (with_reducible refine LeO.ite ?_ ?_)
   | (with_reducible refine LeO.bind ?_ (fun _ => ?_))
   | exact ih0 _ _ _ _
   | exact ih1 _ _ _ _ _
   | exact ih2 _ _ _ _ _ _
   | exact ih3 _ _ _ _ _ _ _
   | exact ih4 _ _ _ _ _ _ _ _
   | exact ih5 _ _ _ _ _ _ _ _ _
   | exact LeO.none _
   | refine LeO.ite ?_ ?_
   | refine LeO.bind ?_ (fun _ => ?_)
  ·intro y0 y1 y2 y3 y4 y5
   unfold dragnetref06_Pieces.l1
   repeat' first
   | (with_reducible exact ih0 _ _ _ _)
   | (with_reducible exact ih1 _ _ _ _ _)
   | (with_reducible exact ih2 _ _ _ _ _ _)
   | (with_reducible exact ih3 _ _ _ _ _ _ _)
   | (with_reducible exact ih4 _ _ _ _ _ _ _ _)
   | (with_reducible exact ih5 _ _ _ _ _ _ _ _ _)
   | (with_reducible exact LeO.refl _)
   | (with_reducible exact LeO.none _)
   | (with_reducible refine LeO.ite ?_ ?_)
   | (with_reducible refine LeO.bind ?_ (fun _ => ?_))
   | exact ih0 _ _ _ _
   | exact ih1 _ _ _ _ _
   | exact ih2 _ _ _ _ _ _
   | exact ih3 _ _ _ _ _ _ _
   | exact ih4 _ _ _ _ _ _ _ _
   | exact ih5 _ _ _ _ _ _ _ _ _
   | exact LeO.none _
   | refine LeO.ite ?_ ?_
   | refine LeO.bind ?_ (fun _ => ?_)
  ·intro y0 y1 y2 y3 y4 y5 y6
   unfold dragnetref06_Pieces.l2
   repeat' first
   | (with_reducible exact ih0 _ _ _ _)
   | (with_reducible exact ih1 _ _ _ _ _)
   | (with_reducible exact ih2 _ _ _ _ _ _)
   | (with_reducible exact ih3 _ _ _ _ _ _ _)
   | (with_reducible exact ih4 _ _ _ _ _ _ _ _)
   | (with_reducible exact ih5 _ _ _ _ _ _ _ _ _)
   | (with_reducible exact LeO.refl _)
   | (with_reducible exact LeO.none _)
   | (with_reducible refine LeO.ite ?_ ?_)
   | (with_reducible refine LeO.bind ?_ (fun _ => ?_))
   | exact ih0 _ _ _ _
   | exact ih1 _ _ _ _ _
   | exact ih2 _ _ _ _ _ _
   | exact ih3 _ _ _ _ _ _ _
   | exact ih4 _ _ _ _ _ _ _ _
   | exact ih5 _ _ _ _ _ _ _ _ _
   | exact LeO.none _
   | refine LeO.ite ?_ ?_
   | refine LeO.bind ?_ (fun _ => ?_)
  ·intro y0 y1 y2 y3 y4 y5 y6 y7
   unfold dragnetref06_Pieces.j4
   repeat' first
   | (with_reducible exact ih0 _ _ _ _)
   | (with_reducible exact ih1 _ _ _ _ _)
   | (with_reducible exact ih2 _ _ _ _ _ _)
   | (with_reducible exact ih3 _ _ _ _ _ _ _)
   | (with_reducible exact ih4 _ _ _ _ _ _ _ _)
   | (with_reducible exact ih5 _ _ _ _ _ _ _ _ _)
   | (with_reducible exact LeO.refl _)
   | (with_reducible exact LeO.none _)
   | (with_reducible refine LeO.ite ?_ ?_)
   | (with_reducible refine LeO.bind ?_ (fun _ => ?_))
   | exact ih0 _ _ _ _
   | exact ih1 _ _ _ _ _
   | exact ih2 _ _ _ _ _ _
   | exact ih3 _ _ _ _ _ _ _
   | exact ih4 _ _ _ _ _ _ _ _
   | exact ih5 _ _ _ _ _ _ _ _ _
   | exact LeO.none _
   | refine LeO.ite ?_ ?_
   | refine LeO.bind ?_ (fun _ => ?_)
  ·intro y0 y1 y2 y3 y4 y5 y6 y7 y8
   unfold dragnetref06_Pieces.l3
   repeat' first
   | (with_reducible exact ih0 _ _ _ _)
   | (with_reducible exact ih1 _ _ _ _ _)
   | (with_reducible exact ih2 _ _ _ _ _ _)
   | (with_reducible exact ih3 _ _ _ _ _ _ _)
   | (with_reducible exact ih4 _ _ _ _ _ _ _ _)
   | (with_reducible exact ih5 _ _ _ _ _ _ _ _ _)
   | (with_reducible exact LeO.refl _)
   | (with_reducible exact LeO.none _)
   | (with_reducible refine LeO.ite ?_ ?_)
   | (with_reducible refine LeO.bind ?_ (fun _ => ?_))
   | exact ih0 _ _ _ _
   | exact ih1 _ _ _ _ _
   | exact ih2 _ _ _ _ _ _
   | exact ih3 _ _ _ _ _ _ _
   | exact ih4 _ _ _ _ _ _ _ _
   | exact ih5 _ _ _ _ _ _ _ _ _
   | exact LeO.none _
   | refine LeO.ite ?_ ?_
   | refine LeO.bind ?_ (fun _ => ?_)
theorem dragnetref06_Pieces.mono : ∀ a0 k, LeO (dragnetref06_Pieces.f k a0) (dragnetref06_Pieces.f (k + 1) a0) := by
 intro a0 k
 obtain ⟨ih0, ih1, ih2, ih3, ih4, ih5⟩ := dragnetref06_Pieces.mono_l k
 unfold dragnetref06_Pieces.f
 repeat' first
   | (with_reducible exact ih0 _ _ _ _)
   | (with_reducible exact ih1 _ _ _ _ _)
   | (with_reducible exact ih2 _ _ _ _ _ _)
   | (with_reducible exact ih3 _ _ _ _ _ _ _)
   | (with_reducible exact ih4 _ _ _ _ _ _ _ _)
   | (with_reducible exact ih5 _ _ _ _ _ _ _ _ _)
   | (with_reducible exact LeO.refl _)
   | (with_reducible exact LeO.none _)
   | (with_reducible refine LeO.ite ?_ ?_)
   | (with_reducible refine LeO.bind ?_ (fun _ => ?_))
   | exact ih0 _ _ _ _
   | exact ih1 _ _ _ _ _
   | exact ih2 _ _ _ _ _ _
   | exact ih3 _ _ _ _ _ _ _
   | exact ih4 _ _ _ _ _ _ _ _
   | exact ih5 _ _ _ _ _ _ _ _ _
   | exact LeO.none _
   | refine LeO.ite ?_ ?_
   | refine LeO.bind ?_ (fun _ => ?_)
set_option maxHeartbeats 8000000 in
set_option maxRecDepth 100000 in
theorem dragnetref06_Pieces.calls (k : Nat) (A0 : Option Addr) (c0 : Nat) (l0 : List (List Int)) (r : List (S83)) (w : World) (hr0 : Kd.C (Kd.slice 5 (Kd.int .u8)) w A0 l0.length l0) (hc0 : l0.length ≤ c0) (h : dragnetref06_Pieces.f k l0 = some r) :
  Calls Try.prog 52 #[.slice A0 l0.length c0] w fun e w' => ∃ v0_ : Value, e = .returned (v0_) ∧ Kd.R k83 83 w' w.heap.size (fun _ => True) v0_ r ∧ Below w.heap.size w w' := by
 have hu83 := Try.underlying83
 have HR0 := Aside0.mk hr0
 have HC0 := Aside0.mk hc0
 clear hr0 hc0
 have HB := Aside0.mk (Below.refl w.heap.size w)
 have H : (dragnetref06_Pieces.l0 k l0 ([] : List (S83)) 1024 0) = some r := h
 clear h
 have H' := Aside0.mk H
 clear H
 go_enter Try.func52, Try.ntmps52
 go_wp2
 repeat (go_quiet (fail); try go_wp2)
 go_loopg [3, 4, 5] k (fun kq v3 v4 v5 w' => ∃ (x3_1 : List (S83)) (x4_1 : Int) (x5_1 : Int), v4 = .int .i64 x4_1 ∧ v5 = .int .i64 x5_1 ∧ Aside0 (dragnetref06_Pieces.l0 kq l0 x3_1 x4_1 x5_1 = some r) ∧ Aside0 (kq ≤ k) ∧ Aside0 (Kd.R k83 83 w' w.heap.size (fun _ => True) v3 x3_1) ∧ Aside0 (Below w.heap.size w w'))
 case atStart => exact ⟨(([] : List (S83))), (1024), (0), (by first | rfl | (simp; done) | (simp [*]; done)), (by first | rfl | (simp; done) | (simp [*]; done)), H', ⟨Nat.le_refl _⟩, ⟨by first | exact Kd.R_nil _ _ _ _ _ | exact Kd.N_nil _ _ _ _ _ | exact Kd.V_nil _ _ _ _ _ | exact Kd.Q_nil _ _ _ _ _ | exact Kd.S_nil _ _ _ _ _⟩, ⟨by repeat (first | (with_reducible first | exact HB.out | apply below_alloc | apply pw_below_drewN | apply below_drew1) | exact HB.out)⟩⟩
 case round =>
  clear H'
  obtain ⟨x3_1, x4_1, x5_1, rfl, rfl, HA, HK1, HO_3, HB⟩ := hrel
  cases gk with
  | zero => exact absurd HA.out (by simp [dragnetref06_Pieces.l0])
  | succ k1 =>
   have H := HA.out
   clear HA
   simp only [dragnetref06_Pieces.l0] at H
   have HC2 := Aside0.mk H
   clear H
   go_upto_region 4 with (fail)
   repeat (go_quiet (fail); go_upto_region 4 with (fail))
   go_cut [18] (fun v18 wc => ∃ (kq : Nat) (x18_1 : Bool), v18 = .bool x18_1 ∧ Aside0 (dragnetref06_Pieces.j1 kq l0 x3_1 x4_1 x5_1 x18_1 = some r) ∧ Aside0 (kq ≤ k1) ∧ Aside0 (Kd.R k83 83 wc w.heap.size (fun _ => True) u3 x3_1) ∧ Aside0 (Below w.heap.size w wc))
   case first =>
    have H := HC2.out
    clear HC2
    by_cases c3 : x5_1 < (l0.length : Int)
    ·rw [if_pos c3] at H
     have c3b0 : decide (x5_1 < (l0.length : Int)) = true := decide_eq_true c3
     clear c3
     (first | rw [c3b0] | (simp only [i64_w, i32_w]; rw [c3b0]) | skip)
     have H' := Aside0.mk H
     clear H
     go_wp2
     repeat (go_quiet (fail); try go_wp2)
     go_meet
     case rel => exact ⟨_, (decide (x4_1 > 0)), (by first | rfl | (simp; done) | (simp [*]; done)), H', ⟨by have := HK1.out; first | omega | exact Nat.le_refl _⟩, ⟨by (with_reducible repeat (first | apply Kd.R_alloc | apply Kd.R_drewN | apply Kd.R_drew)); exact HO_3.out⟩, ⟨by repeat (first | (with_reducible first | exact HB.out | apply below_alloc | apply pw_below_drewN | apply below_drew1) | exact HB.out)⟩⟩
    ·rw [if_neg c3] at H
     have c3b0 : decide (x5_1 < (l0.length : Int)) = false := decide_eq_false c3
     clear c3
     (first | rw [c3b0] | (simp only [i64_w, i32_w]; rw [c3b0]) | skip)
     have H' := Aside0.mk H
     clear H
     go_wp2
     repeat (go_quiet (fail); try go_wp2)
     go_meet
     case rel => exact ⟨_, (false), (by first | rfl | (simp; done) | (simp [*]; done)), H', ⟨by have := HK1.out; first | omega | exact Nat.le_refl _⟩, ⟨by (with_reducible repeat (first | apply Kd.R_alloc | apply Kd.R_drewN | apply Kd.R_drew)); exact HO_3.out⟩, ⟨by repeat (first | (with_reducible first | exact HB.out | apply below_alloc | apply pw_below_drewN | apply below_drew1) | exact HB.out)⟩⟩
   case rest =>
    clear HC2
    try clear p2
    try clear c3
    try clear c3b0
    obtain ⟨kq, x18_1, rfl, HA, HJ1, HO_3, HB⟩ := hcut
    cases kq with
    | zero => exact absurd HA.out (by simp [dragnetref06_Pieces.j1])
    | succ kj1 =>
     have H := HA.out
     clear HA
     simp only [dragnetref06_Pieces.j1] at H
     by_cases c4 : x18_1 = true
     ·subst c4
      have H1 : (if 0 ≤ x5_1 then (if x5_1 < (l0.length : Int) then (if 0 ≤ (mn x4_1 ((rd_L4 l0 x5_1).length : Int)) then (if (mn x4_1 ((rd_L4 l0 x5_1).length : Int)) ≤ ((rd_L4 l0 x5_1).length : Int) then (dragnetref06_Pieces.l1 kj1 l0 x3_1 (wrap64 (x4_1 - ((strOfNums ((rd_L4 l0 x5_1).take ((mn x4_1 ((rd_L4 l0 x5_1).length : Int)) : Int).toNat)).size : Int))) x5_1 (strOfNums ((rd_L4 l0 x5_1).take ((mn x4_1 ((rd_L4 l0 x5_1).length : Int)) : Int).toNat)) 0) else (none)) else (none)) else (none)) else (none)) = some r := by rw [if_pos rfl] at H; exact H
      clear H
      have H := H1
      clear H1
      by_cases c5 : 0 ≤ x5_1
      ·rw [if_pos c5] at H
       have c5b0 : decide (0 ≤ x5_1) = true := decide_eq_true c5
       clear c5
       by_cases c6 : x5_1 < (l0.length : Int)
       ·rw [if_pos c6] at H
        have c6b0 : decide (x5_1 < (l0.length : Int)) = true := decide_eq_true c6
        clear c6
        obtain ⟨ji7, hji7⟩ : ∃ j_ : Int, (mn x4_1 ((rd_L4 l0 x5_1).length : Int)) = j_ := ⟨_, rfl⟩
        replace H : (if 0 ≤ (ji7) then (if (ji7) ≤ ((rd_L4 l0 x5_1).length : Int) then (dragnetref06_Pieces.l1 kj1 l0 x3_1 (wrap64 (x4_1 - ((strOfNums ((rd_L4 l0 x5_1).take ((ji7) : Int).toNat)).size : Int))) x5_1 (strOfNums ((rd_L4 l0 x5_1).take ((ji7) : Int).toNat)) 0) else (none)) else (none)) = some r := by first | (rw [hji7] at H; exact H) | (simp only [hji7] at H ⊢; exact H)
        have hji7_ : (if ((rd_L4 l0 x5_1).length : Int) < x4_1 then ((rd_L4 l0 x5_1).length : Int) else x4_1) = ji7 := hji7
        by_cases c8 : 0 ≤ (ji7)
        ·rw [if_pos c8] at H
         have c8b0 := eq_true c8
         have c8b1 : decide (0 ≤ (ji7)) = true := decide_eq_true c8
         clear c8
         by_cases c9 : (ji7) ≤ ((rd_L4 l0 x5_1).length : Int)
         ·rw [if_pos c9] at H
          have c9b0 := eq_true c9
          have c9b1 : decide ((ji7) ≤ ((rd_L4 l0 x5_1).length : Int)) = true := decide_eq_true c9
          clear c9
          have H' := Aside0.mk H
          clear H
          have p105 : 0 ≤ (x5_1 : Int) := of_decide_eq_true (by first | (with_reducible assumption) | assumption)
          have q105 : x5_1 < (l0.length : Int) := of_decide_eq_true (by first | (with_reducible assumption) | assumption)
          obtain ⟨ad105, A105_0, c105_0, e105, hx105_0, hl105_0, hi105_0⟩ := at_L4 HR0.out x5_1 p105 q105
          cases e105
          replace hx105_0 := (HB.out.cell (World.block_lt_of_cell? w _ hx105_0)).trans hx105_0
          have HR105_0 := Aside0.mk hi105_0
          have HC105_0 := Aside0.mk hl105_0
          clear hi105_0 hl105_0
          replace p105 := eq_true p105
          replace q105 := eq_true q105
          have p106 : 0 ≤ (x5_1 : Int) := of_decide_eq_true (by first | (with_reducible assumption) | assumption)
          have q106 : x5_1 < (l0.length : Int) := of_decide_eq_true (by first | (with_reducible assumption) | assumption)
          obtain ⟨ad106, A106_0, c106_0, e106, hx106_0, hl106_0, hi106_0⟩ := at_L4 HR0.out x5_1 p106 q106
          obtain rfl : ad105 = ad106 := (by injection e106)
          replace hx106_0 := (HB.out.cell (World.block_lt_of_cell? w _ hx106_0)).trans hx106_0
          have HR106_0 := Aside0.mk hi106_0
          have HC106_0 := Aside0.mk hl106_0
          clear hi106_0 hl106_0
          replace p106 := eq_true p106
          replace q106 := eq_true q106
          have ea_ := Option.some.inj (hx105_0.symm.trans hx106_0)
          injection ea_ with ea_ en_ ec_
          subst ea_
          subst ec_
          clear en_
          obtain ⟨i010, hi010, _, hsz10, _⟩ := info_parts info5
          obtain ⟨hcut10, hA10, hC10⟩ := print_take_of (P := Try.prog) (Value.int .u8) 0 23 5 .i64 Try.underlying23 hi010 hsz10 A105_0 c105_0 (rd_L4 l0 x5_1) (ji7) (of_decide_eq_true (by first | (with_reducible assumption) | assumption)) (of_decide_eq_true (by first | (with_reducible assumption) | assumption)) HC105_0.out
          have HR107 := Aside0.mk (Kd.C_of_reads (h1 := fun _ => rfl) (hA10 _ (Kd.reads_of_C HR105_0.out)))
          have HC107 := Aside0.mk hC10
          clear hA10 hC10 hi010 hsz10
          have hcv11 := Kd.C_string (P := Try.prog) (A := A105_0) (c := c105_0) Try.underlying23 Try.underlying5 Try.underlying9 (Kd.C_below HR107.out HB.out)
          have hcv12 := fun (i_ : Nat) => Kd.C_string (P := Try.prog) (A := A105_0) (c := c105_0) Try.underlying23 Try.underlying5 Try.underlying9 (Kd.C_drewN (Kd.C_below HR107.out HB.out) i_)
          have hcv13 := fun (i_ j_ : Nat) => Kd.C_string (P := Try.prog) (A := A105_0) (c := c105_0) Try.underlying23 Try.underlying5 Try.underlying9 (Kd.C_drewN (Kd.C_drewN (Kd.C_below HR107.out HB.out) i_) j_)
          have hcv14 := Kd.C_string (P := Try.prog) (A := A105_0) (c := c105_0) Try.underlying23 Try.underlying5 Try.underlying9 (Kd.C_below HR107.out HB.out)
          (try simp only [List.length_take, List.length_drop, Int.toNat_natCast, Nat.min_eq_left (show ((ji7) : Int).toNat ≤ (rd_L4 l0 x5_1).length by have h_ := of_decide_eq_true (show decide ((ji7) ≤ ((rd_L4 l0 x5_1).length : Int)) = true by assumption); omega)] at hcv14)
          have hcv15 := fun (i_ : Nat) => Kd.C_string (P := Try.prog) (A := A105_0) (c := c105_0) Try.underlying23 Try.underlying5 Try.underlying9 (Kd.C_drewN (Kd.C_below HR107.out HB.out) i_)
          (try simp only [List.length_take, List.length_drop, Int.toNat_natCast, Nat.min_eq_left (show ((ji7) : Int).toNat ≤ (rd_L4 l0 x5_1).length by have h_ := of_decide_eq_true (show decide ((ji7) ≤ ((rd_L4 l0 x5_1).length : Int)) = true by assumption); omega)] at hcv15)
          have hcv16 := fun (i_ j_ : Nat) => Kd.C_string (P := Try.prog) (A := A105_0) (c := c105_0) Try.underlying23 Try.underlying5 Try.underlying9 (Kd.C_drewN (Kd.C_drewN (Kd.C_below HR107.out HB.out) i_) j_)
          (try simp only [List.length_take, List.length_drop, Int.toNat_natCast, Nat.min_eq_left (show ((ji7) : Int).toNat ≤ (rd_L4 l0 x5_1).length by have h_ := of_decide_eq_true (show decide ((ji7) ≤ ((rd_L4 l0 x5_1).length : Int)) = true by assumption); omega)] at hcv16)
          go_wp2
          repeat (go_quiet (fail); try go_wp2)
          go_loopg [3, 7] kj1 (fun kq v3 v7 w' => ∃ (x3_3 : List (S83)) (x7_3 : Int), v7 = .int .i64 x7_3 ∧ Aside0 (dragnetref06_Pieces.l1 kq l0 x3_3 (wrap64 (x4_1 - ((strOfNums ((rd_L4 l0 x5_1).take ((ji7) : Int).toNat)).size : Int))) x5_1 (strOfNums ((rd_L4 l0 x5_1).take ((ji7) : Int).toNat)) x7_3 = some r) ∧ Aside0 (kq ≤ kj1) ∧ Aside0 (Kd.R k83 83 w' w.heap.size (fun _ => True) v3 x3_3) ∧ Aside0 (Below w.heap.size w w'))
          case atStart => exact ⟨(x3_1), (0), (by first | rfl | (simp; done) | (simp [*]; done)), H', ⟨Nat.le_refl _⟩, ⟨by (with_reducible repeat (first | apply Kd.R_alloc | apply Kd.R_drewN | apply Kd.R_drew)); exact HO_3.out⟩, ⟨by repeat (first | (with_reducible first | exact HB.out | apply below_alloc | apply pw_below_drewN | apply below_drew1) | exact HB.out)⟩⟩
          case round =>
           clear H'
           try clear c1
           try clear p1
           try clear q1
           try clear hx1
           try clear hcv1
           try clear p2
           try clear c3
           try clear c3b0
           try clear c4
           try clear c5
           try clear c5b0
           try clear c6
           try clear c6b0
           try clear p6
           try clear c8
           try clear c8b0
           try clear c8b1
           try clear c9
           try clear c9b0
           try clear c9b1
           try clear c10
           try clear p10
           try clear q10
           try clear hx10
           try clear hcv11
           try clear hcv12
           try clear hcv13
           try clear hcv14
           try clear hcv15
           try clear hcv16
           try clear hx105_0
           try clear hx106_0
           try clear p105
           try clear p106
           try clear p2
           try clear q105
           try clear q106
           obtain ⟨x3_3, x7_3, rfl, HA, HK3, HO_3, HB⟩ := hrel
           cases gk with
           | zero => exact absurd HA.out (by simp [dragnetref06_Pieces.l1])
           | succ k3 =>
            have H := HA.out
            clear HA
            simp only [dragnetref06_Pieces.l1] at H
            by_cases c17 : x7_3 < ((strOfNums ((rd_L4 l0 x5_1).take ((ji7) : Int).toNat)).size : Int)
            ·rw [if_pos c17] at H
             have c17b0 : decide (x7_3 < ((strOfNums ((rd_L4 l0 x5_1).take ((ji7) : Int).toNat)).size : Int)) = true := decide_eq_true c17
             clear c17
             have H' := Aside0.mk H
             clear H
             go_wp2
             repeat (go_quiet (fail); try go_wp2)
             go_loopg [3, 8] k3 (fun kq v3 v8 w' => ∃ (x3_4 : List (S83)) (x8_4 : Int), v8 = .int .i64 x8_4 ∧ Aside0 (dragnetref06_Pieces.l2 kq l0 x3_4 (wrap64 (x4_1 - ((strOfNums ((rd_L4 l0 x5_1).take ((ji7) : Int).toNat)).size : Int))) x5_1 (strOfNums ((rd_L4 l0 x5_1).take ((ji7) : Int).toNat)) x7_3 x8_4 = some r) ∧ Aside0 (kq ≤ k3) ∧ Aside0 (Kd.R k83 83 w' w.heap.size (fun _ => True) v3 x3_4) ∧ Aside0 (Below w.heap.size w w'))
             case atStart => exact ⟨(x3_3), (2), (by first | rfl | (simp; done) | (simp [*]; done)), H', ⟨Nat.le_refl _⟩, ⟨by (with_reducible repeat (first | apply Kd.R_alloc | apply Kd.R_drewN | apply Kd.R_drew)); exact HO_3.out⟩, ⟨by repeat (first | (with_reducible first | exact HB.out | apply below_alloc | apply pw_below_drewN | apply below_drew1) | exact HB.out)⟩⟩
             case round =>
              clear H'
              try clear c1
              try clear p1
              try clear q1
              try clear hx1
              try clear hcv1
              try clear p2
              try clear c3
              try clear c3b0
              try clear c4
              try clear c5
              try clear c5b0
              try clear c6
              try clear c6b0
              try clear p6
              try clear c8
              try clear c8b0
              try clear c8b1
              try clear c9
              try clear c9b0
              try clear c9b1
              try clear c10
              try clear p10
              try clear q10
              try clear hx10
              try clear hcv11
              try clear hcv12
              try clear hcv13
              try clear hcv14
              try clear hcv15
              try clear hcv16
              try clear c17
              try clear c17b0
              try clear hx105_0
              try clear hx106_0
              try clear p1
              try clear p10
              try clear p105
              try clear p106
              try clear p2
              try clear p6
              try clear q1
              try clear q10
              try clear q105
              try clear q106
              obtain ⟨x3_4, x8_4, rfl, HA, HK4, HO_3, HB⟩ := hrel
              cases gk with
              | zero => exact absurd HA.out (by simp [dragnetref06_Pieces.l2])
              | succ k4 =>
               have H := HA.out
               clear HA
               simp only [dragnetref06_Pieces.l2] at H
               have HC18 := Aside0.mk H
               clear H
               go_upto_region 12 with (fail)
               repeat (go_quiet (fail); go_upto_region 12 with (fail))
               go_cut [53] (fun v53 wc => ∃ (kq : Nat) (x53_17 : Bool), v53 = .bool x53_17 ∧ Aside0 (dragnetref06_Pieces.j4 kq l0 x3_4 (wrap64 (x4_1 - ((strOfNums ((rd_L4 l0 x5_1).take ((ji7) : Int).toNat)).size : Int))) x5_1 (strOfNums ((rd_L4 l0 x5_1).take ((ji7) : Int).toNat)) x7_3 x8_4 x53_17 = some r) ∧ Aside0 (kq ≤ k4) ∧ Aside0 (Kd.R k83 83 wc w.heap.size (fun _ => True) u3 x3_4) ∧ Aside0 (Below w.heap.size w wc))
               case first =>
                have H := HC18.out
                clear HC18
                by_cases c19 : x8_4 ≤ 8
                ·rw [if_pos c19] at H
                 have c19b0 : decide (x8_4 ≤ 8) = true := decide_eq_true c19
                 clear c19
                 (first | rw [c19b0] | (simp only [i64_w, i32_w]; rw [c19b0]) | skip)
                 have H' := Aside0.mk H
                 clear H
                 go_wp2
                 repeat (go_quiet (fail); try go_wp2)
                 go_meet
                 case rel => exact ⟨_, (decide (x8_4 ≤ (wrap64 (((strOfNums ((rd_L4 l0 x5_1).take ((ji7) : Int).toNat)).size : Int) - x7_3)))), (by first | rfl | (simp; done) | (simp only [← hji7] <;> (first | rfl | simp)) | (simp [*]; done)), H', ⟨by have := HK1.out; have := HJ1.out; have := HK3.out; have := HK4.out; first | omega | exact Nat.le_refl _⟩, ⟨by (with_reducible repeat (first | apply Kd.R_alloc | apply Kd.R_drewN | apply Kd.R_drew)); exact HO_3.out⟩, ⟨by repeat (first | (with_reducible first | exact HB.out | apply below_alloc | apply pw_below_drewN | apply below_drew1) | exact HB.out)⟩⟩
                ·rw [if_neg c19] at H
                 have c19b0 : decide (x8_4 ≤ 8) = false := decide_eq_false c19
                 clear c19
                 (first | rw [c19b0] | (simp only [i64_w, i32_w]; rw [c19b0]) | skip)
                 have H' := Aside0.mk H
                 clear H
                 go_wp2
                 repeat (go_quiet (fail); try go_wp2)
                 go_meet
                 case rel => exact ⟨_, (false), (by first | rfl | (simp; done) | (simp [*]; done)), H', ⟨by have := HK1.out; have := HJ1.out; have := HK3.out; have := HK4.out; first | omega | exact Nat.le_refl _⟩, ⟨by (with_reducible repeat (first | apply Kd.R_alloc | apply Kd.R_drewN | apply Kd.R_drew)); exact HO_3.out⟩, ⟨by repeat (first | (with_reducible first | exact HB.out | apply below_alloc | apply pw_below_drewN | apply below_drew1) | exact HB.out)⟩⟩
               case rest =>
                clear HC18
                try clear c1
                try clear p1
                try clear q1
                try clear hx1
                try clear hcv1
                try clear p2
                try clear c3
                try clear c3b0
                try clear c4
                try clear c5
                try clear c5b0
                try clear c6
                try clear c6b0
                try clear p6
                try clear c8
                try clear c8b0
                try clear c8b1
                try clear c9
                try clear c9b0
                try clear c9b1
                try clear c10
                try clear p10
                try clear q10
                try clear hx10
                try clear hcv11
                try clear hcv12
                try clear hcv13
                try clear hcv14
                try clear hcv15
                try clear hcv16
                try clear c17
                try clear c17b0
                try clear c19
                try clear c19b0
                try clear hx105_0
                try clear hx106_0
                try clear p1
                try clear p10
                try clear p105
                try clear p106
                try clear p2
                try clear p6
                try clear q1
                try clear q10
                try clear q105
                try clear q106
                obtain ⟨kq, x53_17, rfl, HA, HJ17, HO_3, HB⟩ := hcut
                cases kq with
                | zero => exact absurd HA.out (by simp [dragnetref06_Pieces.j4])
                | succ kj17 =>
                 have H := HA.out
                 clear HA
                 simp only [dragnetref06_Pieces.j4] at H
                 by_cases c20 : x53_17 = true
                 ·subst c20
                  have H1 : (dragnetref06_Pieces.l3 kj17 l0 x3_4 (wrap64 (x4_1 - ((strOfNums ((rd_L4 l0 x5_1).take ((ji7) : Int).toNat)).size : Int))) x5_1 (strOfNums ((rd_L4 l0 x5_1).take ((ji7) : Int).toNat)) x7_3 x8_4 false 0) = some r := by rw [if_pos rfl] at H; exact H
                  clear H
                  have H := H1
                  clear H1
                  have H' := Aside0.mk H
                  clear H
                  go_wp2
                  repeat (go_quiet (fail); try go_wp2)
                  go_loopg [9, 10] kj17 (fun kq v9 v10 w' => ∃ (x3_6 : List (S83)) (x9_6 : Bool) (x10_6 : Int), v9 = .bool x9_6 ∧ v10 = .int .i64 x10_6 ∧ Aside0 (dragnetref06_Pieces.l3 kq l0 x3_6 (wrap64 (x4_1 - ((strOfNums ((rd_L4 l0 x5_1).take ((ji7) : Int).toNat)).size : Int))) x5_1 (strOfNums ((rd_L4 l0 x5_1).take ((ji7) : Int).toNat)) x7_3 x8_4 x9_6 x10_6 = some r) ∧ Aside0 (kq ≤ kj17) ∧ Aside0 (Kd.R k83 83 w' w.heap.size (fun _ => True) u3 x3_6) ∧ Aside0 (Below w.heap.size w w'))
                  case atStart => exact ⟨(x3_4), (false), (0), (by first | rfl | (simp; done) | (simp [*]; done)), (by first | rfl | (simp; done) | (simp [*]; done)), H', ⟨Nat.le_refl _⟩, ⟨by (with_reducible repeat (first | apply Kd.R_alloc | apply Kd.R_drewN | apply Kd.R_drew)); exact HO_3.out⟩, ⟨by repeat (first | (with_reducible first | exact HB.out | apply below_alloc | apply pw_below_drewN | apply below_drew1) | exact HB.out)⟩⟩
                  case round =>
                   clear H'
                   try clear c1
                   try clear p1
                   try clear q1
                   try clear hx1
                   try clear hcv1
                   try clear c2
                   try clear p2
                   try clear c3
                   try clear c3b0
                   try clear c4
                   try clear c5
                   try clear c5b0
                   try clear c6
                   try clear c6b0
                   try clear p6
                   try clear c8
                   try clear c8b0
                   try clear c8b1
                   try clear c9
                   try clear c9b0
                   try clear c9b1
                   try clear c10
                   try clear p10
                   try clear q10
                   try clear hx10
                   try clear hcv11
                   try clear hcv12
                   try clear hcv13
                   try clear hcv14
                   try clear hcv15
                   try clear hcv16
                   try clear c17
                   try clear c17b0
                   try clear c19
                   try clear c19b0
                   try clear c20
                   try clear hx105_0
                   try clear hx106_0
                   try clear p1
                   try clear p10
                   try clear p105
                   try clear p106
                   try clear p2
                   try clear p6
                   try clear q1
                   try clear q10
                   try clear q105
                   try clear q106
                   obtain ⟨x3_6, x9_6, x10_6, rfl, rfl, HA, HK6, HO_3, HB⟩ := hrel
                   cases gk with
                   | zero => exact absurd HA.out (by simp [dragnetref06_Pieces.l3])
                   | succ k6 =>
                    have H := HA.out
                    clear HA
                    simp only [dragnetref06_Pieces.l3] at H
                    by_cases c21 : x10_6 < (x3_6.length : Int)
                    ·rw [if_pos c21] at H
                     have c21b0 : decide (x10_6 < (x3_6.length : Int)) = true := decide_eq_true c21
                     clear c21
                     by_cases c22 : 0 ≤ x10_6
                     ·rw [if_pos c22] at H
                      have c22b0 : decide (0 ≤ x10_6) = true := decide_eq_true c22
                      clear c22
                      by_cases c23 : 0 ≤ x7_3
                      ·rw [if_pos c23] at H
                       have c23b0 := eq_true c23
                       have c23b1 : decide (0 ≤ x7_3) = true := decide_eq_true c23
                       clear c23
                       by_cases c24 : x7_3 ≤ (wrap64 (x7_3 + x8_4))
                       ·rw [if_pos c24] at H
                        have c24b0 := eq_true c24
                        have c24b1 : decide (x7_3 ≤ (wrap64 (x7_3 + x8_4))) = true := decide_eq_true c24
                        by_cases c25 : (wrap64 (x7_3 + x8_4)) ≤ ((strOfNums ((rd_L4 l0 x5_1).take ((ji7) : Int).toNat)).size : Int)
                        ·rw [if_pos c25] at H
                         have c25b0 := eq_true c25
                         have c25b1 : decide ((wrap64 (x7_3 + x8_4)) ≤ ((strOfNums ((rd_L4 l0 x5_1).take ((ji7) : Int).toNat)).size : Int)) = true := decide_eq_true c25
                         by_cases c26 : ((rd_T83 x3_6 x10_6).f0).toList = ((strOfNums ((rd_L4 l0 x5_1).take ((ji7) : Int).toNat)).extract (x7_3 : Int).toNat ((wrap64 (x7_3 + x8_4)) : Int).toNat).toList
                         ·rw [if_pos c26] at H
                          have c26b0 : (((rd_T83 x3_6 x10_6).f0).toList == ((strOfNums ((rd_L4 l0 x5_1).take ((ji7) : Int).toNat)).extract (x7_3 : Int).toNat ((wrap64 (x7_3 + x8_4)) : Int).toNat).toList) = true := beq_iff_eq.mpr c26
                          have c26b1 : (((rd_T83 x3_6 x10_6).f0).toList != ((strOfNums ((rd_L4 l0 x5_1).take ((ji7) : Int).toNat)).extract (x7_3 : Int).toNat ((wrap64 (x7_3 + x8_4)) : Int).toNat).toList) = false := bne_eq_false_iff_eq.mpr c26
                          clear c26
                          obtain ⟨y110, hy110⟩ : ∃ y_ : List (S83), y_ = (x3_6.set (x10_6 : Int).toNat (⟨(rd_T83 x3_6 x10_6).f0, wrap64 (((rd_T83 x3_6 x10_6).f1) + 1)⟩ : S83)) := ⟨_, rfl⟩
                          replace H : (dragnetref06_Pieces.l2 k6 l0 y110 (wrap64 (x4_1 - ((strOfNums ((rd_L4 l0 x5_1).take ((ji7) : Int).toNat)).size : Int))) x5_1 (strOfNums ((rd_L4 l0 x5_1).take ((ji7) : Int).toNat)) x7_3 (wrap64 (x8_4 + 1))) = some r := by first | (rw [hy110]; with_reducible exact H) | (have H2_ := (Option.bind_some _ _).symm.trans H; rw [hy110]; with_reducible exact H2_) | (have H2_ := (Option.bind_some _ _).symm.trans H; with_reducible exact H2_) | with_reducible exact H | (rw [hy110]; exact H) | exact H
                          have Ny110 := Aside0.mk hy110
                          clear hy110
                          have H' := Aside0.mk H
                          clear H
                          obtain ⟨Ao28, co28, eo28⟩ := Kd.R_slice HO_3.out
                          subst eo28
                          have p108 : 0 ≤ (x10_6 : Int) := of_decide_eq_true (by first | (with_reducible assumption) | assumption)
                          have q108 : x10_6 < (x3_6.length : Int) := of_decide_eq_true (by first | (with_reducible assumption) | assumption)
                          obtain ⟨ad108, e108, hx108_0, hx108_1⟩ := at_T83 (Kd.R_reads' HO_3.out).2.2 x10_6 p108 q108
                          cases e108
                          replace p108 := eq_true p108
                          replace q108 := eq_true q108
                          have p109 : 0 ≤ (x10_6 : Int) := of_decide_eq_true (by first | (with_reducible assumption) | assumption)
                          have q109 : x10_6 < (x3_6.length : Int) := of_decide_eq_true (by first | (with_reducible assumption) | assumption)
                          obtain ⟨ad109, e109, hx109_0, hx109_1⟩ := at_T83 (Kd.R_reads' HO_3.out).2.2 x10_6 p109 q109
                          obtain rfl : ad108 = ad109 := (by injection e109)
                          replace p109 := eq_true p109
                          replace q109 := eq_true q109
                          have p27 : 0 ≤ (x10_6 : Int) := of_decide_eq_true (by first | (with_reducible assumption) | assumption)
                          have q27 : (x10_6 : Int) < ((x3_6.length : Int) : Int) := of_decide_eq_true (by first | (with_reducible assumption) | assumption)
                          obtain ⟨go27, co27, eo27, gb27, gl27, cl27, HG27⟩ := Kd.R_form HO_3.out (by omega)
                          (first | cases eo27 | (injection eo27 with ea_ en_ ec_; (first | subst ea_ | (injection ea_ with ea_; subst ea_)); subst ec_; clear en_))
                          have GB27 := Aside0.mk gb27
                          have GG27 := Aside0.mk HG27
                          clear gb27 gl27 HG27
                          (first | simp only [add_plain] at hx108_0 | skip)
                          (first | simp only [add_plain] at hx108_1 | skip)
                          (first | simp only [add_plain] at hx109_0 | skip)
                          (first | simp only [add_plain] at hx109_1 | skip)
                          obtain ⟨ce27, hcl27, hM27, hcc27, hfr27⟩ := Kd.R_elem HO_3.out z83 (x10_6 : Int) p27 q27
                          obtain rfl := k83_openM hM27
                          have hx27_0 : wr.cell? ⟨go27, (x10_6 : Int).toNat * 2, none⟩ = some (.string ((rd_T83 x3_6 x10_6).f0)) := hcc27 0 _ rfl
                          have hx27_1 : wr.cell? ⟨go27, (x10_6 : Int).toNat * 2 + 1, none⟩ = some (.int .i64 ((rd_T83 x3_6 x10_6).f1)) := hcc27 1 _ rfl
                          have hf27_0 : wr.frozen? ⟨go27, (x10_6 : Int).toNat * 2, none⟩ = false := hfr27 0
                          have hf27_1 : wr.frozen? ⟨go27, (x10_6 : Int).toNat * 2 + 1, none⟩ = false := hfr27 1
                          clear hcl27 hcc27 hfr27 hM27
                          replace p27 := eq_true p27
                          replace q27 := eq_true q27
                          have HX29 := Aside0.mk (show Kd.R k83 83 wr w.heap.size (fun _ => True) (.slice (some ⟨go27, 0, none⟩) x3_6.length co28) x3_6 from (by (with_reducible repeat (first | apply Kd.R_alloc | apply Kd.R_drewN | apply Kd.R_drew)); exact HO_3.out))
                          obtain ⟨ce29, hcl29, hM29, hcc29, hfr29⟩ := Kd.R_elem HX29.out z83 (x10_6 : Int) (of_decide_eq_true (by first | (with_reducible assumption) | assumption)) (by have h_ : (x10_6 : Int) < ((x3_6.length : Int) : Int) := of_decide_eq_true (by first | (with_reducible assumption) | assumption); first | exact h_ | (have e_ := (Kd.R_reads' HO_3.out).1; omega) | simpa using h_)
                          obtain rfl := k83_openM hM29
                          have HP29 := Kd.R_seg HX29.out (x10_6 : Int) (of_decide_eq_true (by first | (with_reducible assumption) | assumption)) (by have h_ : (x10_6 : Int) < ((x3_6.length : Int) : Int) := of_decide_eq_true (by first | (with_reducible assumption) | assumption); first | exact h_ | (have e_ := (Kd.R_reads' HO_3.out).1; omega) | simpa using h_) (seg := [.int .i64 (wrap64 (((rd_T83 x3_6 x10_6).f1) + 1))]) (j := 1) hcl29 hcc29 (show 2 ≤ 2 from by decide) (x' := (⟨(rd_T83 x3_6 x10_6).f0, wrap64 (((rd_T83 x3_6 x10_6).f1) + 1)⟩ : S83)) (k83_mkM _ _ _ (⟨(rd_T83 x3_6 x10_6).f0, wrap64 (((rd_T83 x3_6 x10_6).f1) + 1)⟩ : S83) ) (fun _ hk => hk)
                          have hx29_1 := hcc29 1 _ rfl
                          (try simp only [show (k83).sz = 2 from rfl, Nat.mul_one, Nat.add_zero] at hx29_1)
                          have hf29_1 := hfr29 1
                          (try simp only [show (k83).sz = 2 from rfl, Nat.mul_one, Nat.add_zero] at hf29_1)
                          clear hcl29 hcc29 hfr29 hM29
                          go_wp2_with (first | ((with_reducible refine gate_store (t := 3) (p := 83) rfl ?_); (try (rw [drewN_self wr]; generalize hq_ : World.drewN wr _ = wr; have n0_ := Aside0.mk (Kd.R_at hq_ HO_3.out); have n1_ := Aside0.mk (below_at hq_ HB.out); clear hq_ HO_3 HB; have HO_3 := n0_; have HB := n1_; clear n0_ n1_; (try (have HX29 := Aside0.mk (show Kd.R k83 83 wr w.heap.size (fun _ => True) (.slice (some ⟨go27, 0, none⟩) x3_6.length co28) x3_6 from (by (with_reducible repeat (first | apply Kd.R_alloc | apply Kd.R_drewN | apply Kd.R_drew)); exact HO_3.out)))); (try (obtain ⟨ce29, hcl29, hM29, hcc29, hfr29⟩ := Kd.R_elem HX29.out z83 (x10_6 : Int) (of_decide_eq_true (by first | (with_reducible assumption) | assumption)) (by have h_ : (x10_6 : Int) < ((x3_6.length : Int) : Int) := of_decide_eq_true (by first | (with_reducible assumption) | assumption); first | exact h_ | (have e_ := (Kd.R_reads' HO_3.out).1; omega) | simpa using h_))); (try (obtain rfl := k83_openM hM29)); (try (have HP29 := Kd.R_seg HX29.out (x10_6 : Int) (of_decide_eq_true (by first | (with_reducible assumption) | assumption)) (by have h_ : (x10_6 : Int) < ((x3_6.length : Int) : Int) := of_decide_eq_true (by first | (with_reducible assumption) | assumption); first | exact h_ | (have e_ := (Kd.R_reads' HO_3.out).1; omega) | simpa using h_) (seg := [.int .i64 (wrap64 (((rd_T83 x3_6 x10_6).f1) + 1))]) (j := 1) hcl29 hcc29 (show 2 ≤ 2 from by decide) (x' := (⟨(rd_T83 x3_6 x10_6).f0, wrap64 (((rd_T83 x3_6 x10_6).f1) + 1)⟩ : S83)) (k83_mkM _ _ _ (⟨(rd_T83 x3_6 x10_6).f0, wrap64 (((rd_T83 x3_6 x10_6).f1) + 1)⟩ : S83) ) (fun _ hk => hk))); (try (have hx29_1 := hcc29 1 _ rfl)); (try (try simp only [show (k83).sz = 2 from rfl, Nat.mul_one, Nat.add_zero] at hx29_1)); (try (have hf29_1 := hfr29 1)); (try (try simp only [show (k83).sz = 2 from rfl, Nat.mul_one, Nat.add_zero] at hf29_1)); (try (clear hcl29 hcc29 hfr29 hM29)))); refine store_event (t := 3) (p := 83) (v := ?vo_w30) (w1 := (wr.setCell ⟨go27, (x10_6 : Int).toNat * 2 + 1, none⟩ (.int .i64 (wrap64 (((rd_T83 x3_6 x10_6).f1) + 1))))) ?hg ?ho ?hn ?hr ?_; (case ho => rfl); (case hg => rfl); (case hn => rfl); (case hr => first | (go_simp; done) | (go_simp; rfl)); intro w30 hw; have hg : wr.grownBy w30 (some go27) := (by rw [hw]; exact HP29.2); have hp_ : Kd.R k83 83 w30 w.heap.size (fun _ => True) (.slice (some ⟨go27, 0, none⟩) x3_6.length co28) y110 := (by rw [hw, Ny110.out]; exact HP29.1); clear HP29; have n0_ := Aside0.mk (hp_); have n1_ := Aside0.mk ((by rw [hw]; exact below_set (HB.out) GB27.out : Below w.heap.size w w30)); clear HO_3; clear HB; have HO_3 := n0_; have HB := n1_; clear n0_ n1_; clear hg hw hp_))
                          repeat (go_quiet (first | ((with_reducible refine gate_store (t := 3) (p := 83) rfl ?_); (try (rw [drewN_self wr]; generalize hq_ : World.drewN wr _ = wr; have n0_ := Aside0.mk (Kd.R_at hq_ HO_3.out); have n1_ := Aside0.mk (below_at hq_ HB.out); clear hq_ HO_3 HB; have HO_3 := n0_; have HB := n1_; clear n0_ n1_; (try (have HX29 := Aside0.mk (show Kd.R k83 83 wr w.heap.size (fun _ => True) (.slice (some ⟨go27, 0, none⟩) x3_6.length co28) x3_6 from (by (with_reducible repeat (first | apply Kd.R_alloc | apply Kd.R_drewN | apply Kd.R_drew)); exact HO_3.out)))); (try (obtain ⟨ce29, hcl29, hM29, hcc29, hfr29⟩ := Kd.R_elem HX29.out z83 (x10_6 : Int) (of_decide_eq_true (by first | (with_reducible assumption) | assumption)) (by have h_ : (x10_6 : Int) < ((x3_6.length : Int) : Int) := of_decide_eq_true (by first | (with_reducible assumption) | assumption); first | exact h_ | (have e_ := (Kd.R_reads' HO_3.out).1; omega) | simpa using h_))); (try (obtain rfl := k83_openM hM29)); (try (have HP29 := Kd.R_seg HX29.out (x10_6 : Int) (of_decide_eq_true (by first | (with_reducible assumption) | assumption)) (by have h_ : (x10_6 : Int) < ((x3_6.length : Int) : Int) := of_decide_eq_true (by first | (with_reducible assumption) | assumption); first | exact h_ | (have e_ := (Kd.R_reads' HO_3.out).1; omega) | simpa using h_) (seg := [.int .i64 (wrap64 (((rd_T83 x3_6 x10_6).f1) + 1))]) (j := 1) hcl29 hcc29 (show 2 ≤ 2 from by decide) (x' := (⟨(rd_T83 x3_6 x10_6).f0, wrap64 (((rd_T83 x3_6 x10_6).f1) + 1)⟩ : S83)) (k83_mkM _ _ _ (⟨(rd_T83 x3_6 x10_6).f0, wrap64 (((rd_T83 x3_6 x10_6).f1) + 1)⟩ : S83) ) (fun _ hk => hk))); (try (have hx29_1 := hcc29 1 _ rfl)); (try (try simp only [show (k83).sz = 2 from rfl, Nat.mul_one, Nat.add_zero] at hx29_1)); (try (have hf29_1 := hfr29 1)); (try (try simp only [show (k83).sz = 2 from rfl, Nat.mul_one, Nat.add_zero] at hf29_1)); (try (clear hcl29 hcc29 hfr29 hM29)))); refine store_event (t := 3) (p := 83) (v := ?vo_w30) (w1 := (wr.setCell ⟨go27, (x10_6 : Int).toNat * 2 + 1, none⟩ (.int .i64 (wrap64 (((rd_T83 x3_6 x10_6).f1) + 1))))) ?hg ?ho ?hn ?hr ?_; (case ho => rfl); (case hg => rfl); (case hn => rfl); (case hr => first | (go_simp; done) | (go_simp; rfl)); intro w30 hw; have hg : wr.grownBy w30 (some go27) := (by rw [hw]; exact HP29.2); have hp_ : Kd.R k83 83 w30 w.heap.size (fun _ => True) (.slice (some ⟨go27, 0, none⟩) x3_6.length co28) y110 := (by rw [hw, Ny110.out]; exact HP29.1); clear HP29; have n0_ := Aside0.mk (hp_); have n1_ := Aside0.mk ((by rw [hw]; exact below_set (HB.out) GB27.out : Below w.heap.size w w30)); clear HO_3; clear HB; have HO_3 := n0_; have HB := n1_; clear n0_ n1_; clear hg hw hp_)); try go_wp2_with (first | ((with_reducible refine gate_store (t := 3) (p := 83) rfl ?_); (try (rw [drewN_self wr]; generalize hq_ : World.drewN wr _ = wr; have n0_ := Aside0.mk (Kd.R_at hq_ HO_3.out); have n1_ := Aside0.mk (below_at hq_ HB.out); clear hq_ HO_3 HB; have HO_3 := n0_; have HB := n1_; clear n0_ n1_; (try (have HX29 := Aside0.mk (show Kd.R k83 83 wr w.heap.size (fun _ => True) (.slice (some ⟨go27, 0, none⟩) x3_6.length co28) x3_6 from (by (with_reducible repeat (first | apply Kd.R_alloc | apply Kd.R_drewN | apply Kd.R_drew)); exact HO_3.out)))); (try (obtain ⟨ce29, hcl29, hM29, hcc29, hfr29⟩ := Kd.R_elem HX29.out z83 (x10_6 : Int) (of_decide_eq_true (by first | (with_reducible assumption) | assumption)) (by have h_ : (x10_6 : Int) < ((x3_6.length : Int) : Int) := of_decide_eq_true (by first | (with_reducible assumption) | assumption); first | exact h_ | (have e_ := (Kd.R_reads' HO_3.out).1; omega) | simpa using h_))); (try (obtain rfl := k83_openM hM29)); (try (have HP29 := Kd.R_seg HX29.out (x10_6 : Int) (of_decide_eq_true (by first | (with_reducible assumption) | assumption)) (by have h_ : (x10_6 : Int) < ((x3_6.length : Int) : Int) := of_decide_eq_true (by first | (with_reducible assumption) | assumption); first | exact h_ | (have e_ := (Kd.R_reads' HO_3.out).1; omega) | simpa using h_) (seg := [.int .i64 (wrap64 (((rd_T83 x3_6 x10_6).f1) + 1))]) (j := 1) hcl29 hcc29 (show 2 ≤ 2 from by decide) (x' := (⟨(rd_T83 x3_6 x10_6).f0, wrap64 (((rd_T83 x3_6 x10_6).f1) + 1)⟩ : S83)) (k83_mkM _ _ _ (⟨(rd_T83 x3_6 x10_6).f0, wrap64 (((rd_T83 x3_6 x10_6).f1) + 1)⟩ : S83) ) (fun _ hk => hk))); (try (have hx29_1 := hcc29 1 _ rfl)); (try (try simp only [show (k83).sz = 2 from rfl, Nat.mul_one, Nat.add_zero] at hx29_1)); (try (have hf29_1 := hfr29 1)); (try (try simp only [show (k83).sz = 2 from rfl, Nat.mul_one, Nat.add_zero] at hf29_1)); (try (clear hcl29 hcc29 hfr29 hM29)))); refine store_event (t := 3) (p := 83) (v := ?vo_w30) (w1 := (wr.setCell ⟨go27, (x10_6 : Int).toNat * 2 + 1, none⟩ (.int .i64 (wrap64 (((rd_T83 x3_6 x10_6).f1) + 1))))) ?hg ?ho ?hn ?hr ?_; (case ho => rfl); (case hg => rfl); (case hn => rfl); (case hr => first | (go_simp; done) | (go_simp; rfl)); intro w30 hw; have hg : wr.grownBy w30 (some go27) := (by rw [hw]; exact HP29.2); have hp_ : Kd.R k83 83 w30 w.heap.size (fun _ => True) (.slice (some ⟨go27, 0, none⟩) x3_6.length co28) y110 := (by rw [hw, Ny110.out]; exact HP29.1); clear HP29; have n0_ := Aside0.mk (hp_); have n1_ := Aside0.mk ((by rw [hw]; exact below_set (HB.out) GB27.out : Below w.heap.size w w30)); clear HO_3; clear HB; have HO_3 := n0_; have HB := n1_; clear n0_ n1_; clear hg hw hp_)))
                          go_roundg k6
                          case measure => have := HK1.out; have := HJ1.out; have := HK3.out; have := HK4.out; have := HJ17.out; have := HK6.out; omega
                          case rel => exact ⟨(y110), (wrap64 (x8_4 + 1)), (by first | rfl | (simp; done) | (simp [*]; done)), H', ⟨by have := HK1.out; have := HJ1.out; have := HK3.out; have := HK4.out; have := HJ17.out; have := HK6.out; omega⟩, ⟨by (with_reducible repeat (first | apply Kd.R_alloc | apply Kd.R_drewN | apply Kd.R_drew)); exact HO_3.out⟩, ⟨by repeat (first | (with_reducible first | exact HB.out | apply below_alloc | apply pw_below_drewN | apply below_drew1) | exact HB.out)⟩⟩
                         ·rw [if_neg c26] at H
                          have c26b0 : (((rd_T83 x3_6 x10_6).f0).toList == ((strOfNums ((rd_L4 l0 x5_1).take ((ji7) : Int).toNat)).extract (x7_3 : Int).toNat ((wrap64 (x7_3 + x8_4)) : Int).toNat).toList) = false := beq_eq_false_iff_ne.mpr c26
                          have c26b1 : (((rd_T83 x3_6 x10_6).f0).toList != ((strOfNums ((rd_L4 l0 x5_1).take ((ji7) : Int).toNat)).extract (x7_3 : Int).toNat ((wrap64 (x7_3 + x8_4)) : Int).toNat).toList) = true := bne_iff_ne.mpr c26
                          have H' := Aside0.mk H
                          clear H
                          obtain ⟨Ao31, co31, eo31⟩ := Kd.R_slice HO_3.out
                          subst eo31
                          have p108 : 0 ≤ (x10_6 : Int) := of_decide_eq_true (by first | (with_reducible assumption) | assumption)
                          have q108 : x10_6 < (x3_6.length : Int) := of_decide_eq_true (by first | (with_reducible assumption) | assumption)
                          obtain ⟨ad108, e108, hx108_0, hx108_1⟩ := at_T83 (Kd.R_reads' HO_3.out).2.2 x10_6 p108 q108
                          cases e108
                          replace p108 := eq_true p108
                          replace q108 := eq_true q108
                          go_wp2
                          repeat (go_quiet (fail); try go_wp2)
                          go_roundg k6
                          case measure => have := HK1.out; have := HJ1.out; have := HK3.out; have := HK4.out; have := HJ17.out; have := HK6.out; omega
                          case rel => exact ⟨(x3_6), (x9_6), (wrap64 (x10_6 + 1)), (by first | rfl | (simp; done) | (simp [*]; done)), (by first | rfl | (simp; done) | (simp [*]; done)), H', ⟨by have := HK1.out; have := HJ1.out; have := HK3.out; have := HK4.out; have := HJ17.out; have := HK6.out; omega⟩, ⟨by (with_reducible repeat (first | apply Kd.R_alloc | apply Kd.R_drewN | apply Kd.R_drew)); exact HO_3.out⟩, ⟨by repeat (first | (with_reducible first | exact HB.out | apply below_alloc | apply pw_below_drewN | apply below_drew1) | exact HB.out)⟩⟩
                        ·rw [if_neg c25] at H
                         exact absurd H (by simp)
                       ·rw [if_neg c24] at H
                        exact absurd H (by simp)
                      ·rw [if_neg c23] at H
                       exact absurd H (by simp)
                     ·rw [if_neg c22] at H
                      exact absurd H (by simp)
                    ·rw [if_neg c21] at H
                     have c21b0 : decide (x10_6 < (x3_6.length : Int)) = false := decide_eq_false c21
                     clear c21
                     by_cases c32 : x9_6 = true
                     ·subst c32
                      have H1 : (dragnetref06_Pieces.l2 k6 l0 x3_6 (wrap64 (x4_1 - ((strOfNums ((rd_L4 l0 x5_1).take ((ji7) : Int).toNat)).size : Int))) x5_1 (strOfNums ((rd_L4 l0 x5_1).take ((ji7) : Int).toNat)) x7_3 (wrap64 (x8_4 + 1))) = some r := by rw [if_pos rfl] at H; exact H
                      clear H
                      have H := H1
                      clear H1
                      have H' := Aside0.mk H
                      clear H
                      obtain ⟨Ao33, co33, eo33⟩ := Kd.R_slice HO_3.out
                      subst eo33
                      go_wp2
                      repeat (go_quiet (fail); try go_wp2)
                      go_roundg k6
                      case measure => have := HK1.out; have := HJ1.out; have := HK3.out; have := HK4.out; have := HJ17.out; have := HK6.out; omega
                      case rel => exact ⟨(x3_6), (wrap64 (x8_4 + 1)), (by first | rfl | (simp; done) | (simp [*]; done)), H', ⟨by have := HK1.out; have := HJ1.out; have := HK3.out; have := HK4.out; have := HJ17.out; have := HK6.out; omega⟩, ⟨by (with_reducible repeat (first | apply Kd.R_alloc | apply Kd.R_drewN | apply Kd.R_drew)); exact HO_3.out⟩, ⟨by repeat (first | (with_reducible first | exact HB.out | apply below_alloc | apply pw_below_drewN | apply below_drew1) | exact HB.out)⟩⟩
                     ·replace c32 := Bool.eq_false_iff.mpr c32
                      subst c32
                      have H1 : (if 0 ≤ x7_3 then (if x7_3 ≤ (wrap64 (x7_3 + x8_4)) then (if (wrap64 (x7_3 + x8_4)) ≤ ((strOfNums ((rd_L4 l0 x5_1).take ((ji7) : Int).toNat)).size : Int) then (if x3_6.length < 5864062014805 then (dragnetref06_Pieces.l2 k6 l0 (x3_6 ++ [(⟨(strOfNums ((rd_L4 l0 x5_1).take ((ji7) : Int).toNat)).extract (x7_3 : Int).toNat ((wrap64 (x7_3 + x8_4)) : Int).toNat, 1⟩ : S83)]) (wrap64 (x4_1 - ((strOfNums ((rd_L4 l0 x5_1).take ((ji7) : Int).toNat)).size : Int))) x5_1 (strOfNums ((rd_L4 l0 x5_1).take ((ji7) : Int).toNat)) x7_3 (wrap64 (x8_4 + 1))) else (none)) else (none)) else (none)) else (none)) = some r := by rw [if_neg (show ¬ (false = true) by decide)] at H; exact H
                      clear H
                      have H := H1
                      clear H1
                      by_cases c34 : 0 ≤ x7_3
                      ·rw [if_pos c34] at H
                       have c34b0 := eq_true c34
                       have c34b1 : decide (0 ≤ x7_3) = true := decide_eq_true c34
                       clear c34
                       by_cases c35 : x7_3 ≤ (wrap64 (x7_3 + x8_4))
                       ·rw [if_pos c35] at H
                        have c35b0 := eq_true c35
                        have c35b1 : decide (x7_3 ≤ (wrap64 (x7_3 + x8_4))) = true := decide_eq_true c35
                        by_cases c36 : (wrap64 (x7_3 + x8_4)) ≤ ((strOfNums ((rd_L4 l0 x5_1).take ((ji7) : Int).toNat)).size : Int)
                        ·rw [if_pos c36] at H
                         have c36b0 := eq_true c36
                         have c36b1 : decide ((wrap64 (x7_3 + x8_4)) ≤ ((strOfNums ((rd_L4 l0 x5_1).take ((ji7) : Int).toNat)).size : Int)) = true := decide_eq_true c36
                         by_cases c37 : x3_6.length < 5864062014805
                         ·rw [if_pos c37] at H
                          have LMc37 := Aside0.mk c37
                          clear c37
                          obtain ⟨y111, hy111⟩ : ∃ y_ : List (S83), y_ = (x3_6 ++ [(⟨(strOfNums ((rd_L4 l0 x5_1).take ((ji7) : Int).toNat)).extract (x7_3 : Int).toNat ((wrap64 (x7_3 + x8_4)) : Int).toNat, 1⟩ : S83)]) := ⟨_, rfl⟩
                          replace H : (dragnetref06_Pieces.l2 k6 l0 y111 (wrap64 (x4_1 - ((strOfNums ((rd_L4 l0 x5_1).take ((ji7) : Int).toNat)).size : Int))) x5_1 (strOfNums ((rd_L4 l0 x5_1).take ((ji7) : Int).toNat)) x7_3 (wrap64 (x8_4 + 1))) = some r := by first | (rw [hy111]; with_reducible exact H) | (have H2_ := (Option.bind_some _ _).symm.trans H; rw [hy111]; with_reducible exact H2_) | (have H2_ := (Option.bind_some _ _).symm.trans H; with_reducible exact H2_) | with_reducible exact H | (rw [hy111]; exact H) | exact H
                          have Ny111 := Aside0.mk hy111
                          clear hy111
                          have H' := Aside0.mk H
                          clear H
                          obtain ⟨Ao38, co38, eo38⟩ := Kd.R_slice HO_3.out
                          subst eo38
                          go_wp2_with (first | ((with_reducible refine gate_builtin (b := .append) (xs := #[.tmp 86, .tmp 94]) rfl ?_); (try (refine gate_guard (by rfl) ?_; dsimp only)); at_builtin; refine Kd.R_append k83 (w0 := w) w.heap.size rfl (.tmp 86) (.tmp 94) 80 83 (.agg #[(.string ⟨#[]⟩), (.int .i64 0)]) 24 rfl Try.underlying80 info83 rfl (by decide) (by omega) (.slice Ao38 x3_6.length co38) x3_6 (⟨(strOfNums ((rd_L4 l0 x5_1).take ((ji7) : Int).toNat)).extract (x7_3 : Int).toNat ((wrap64 (x7_3 + x8_4)) : Int).toNat, 1⟩ : S83) [.string ((strOfNums ((rd_L4 l0 x5_1).take ((ji7) : Int).toNat)).extract (x7_3 : Int).toNat ((wrap64 (x7_3 + x8_4)) : Int).toNat), .int .i64 1] (fun _ => True) (fun _ => False) rfl rfl ?aP (fun _ hk => hk.elim) ?aF ?aO ?aB ?aS ?aL ?_; (case aP => exact k83_mkM _ _ _ (⟨(strOfNums ((rd_L4 l0 x5_1).take ((ji7) : Int).toNat)).extract (x7_3 : Int).toNat ((wrap64 (x7_3 + x8_4)) : Int).toNat, 1⟩ : S83)); (case aB => exact (by repeat (first | (with_reducible first | exact HB.out | apply below_alloc | apply pw_below_drewN | apply below_drew1) | exact HB.out))); (case aF => exact (fun _ _ => trivial)); (case aO => exact (by (with_reducible repeat (first | apply Kd.R_alloc | apply Kd.R_drewN | apply Kd.R_drew)); exact HO_3.out)); (case aS => exact (below_size (by repeat (first | (with_reducible first | exact HB.out | apply below_alloc | apply pw_below_drewN | apply below_drew1) | exact HB.out)))); (case aL => have := LMc37.out; omega); intro v112 w39 ho hb hg hat; rw [← Ny111.out] at ho; have n0_ := Aside0.mk (hb); have n1_ := Aside0.mk (ho); clear HB; clear HO_3; have HB := n0_; have HO113 := n1_; clear n0_ n1_; clear ho hb hg hat))
                          repeat (go_quiet (first | ((with_reducible refine gate_builtin (b := .append) (xs := #[.tmp 86, .tmp 94]) rfl ?_); (try (refine gate_guard (by rfl) ?_; dsimp only)); at_builtin; refine Kd.R_append k83 (w0 := w) w.heap.size rfl (.tmp 86) (.tmp 94) 80 83 (.agg #[(.string ⟨#[]⟩), (.int .i64 0)]) 24 rfl Try.underlying80 info83 rfl (by decide) (by omega) (.slice Ao38 x3_6.length co38) x3_6 (⟨(strOfNums ((rd_L4 l0 x5_1).take ((ji7) : Int).toNat)).extract (x7_3 : Int).toNat ((wrap64 (x7_3 + x8_4)) : Int).toNat, 1⟩ : S83) [.string ((strOfNums ((rd_L4 l0 x5_1).take ((ji7) : Int).toNat)).extract (x7_3 : Int).toNat ((wrap64 (x7_3 + x8_4)) : Int).toNat), .int .i64 1] (fun _ => True) (fun _ => False) rfl rfl ?aP (fun _ hk => hk.elim) ?aF ?aO ?aB ?aS ?aL ?_; (case aP => exact k83_mkM _ _ _ (⟨(strOfNums ((rd_L4 l0 x5_1).take ((ji7) : Int).toNat)).extract (x7_3 : Int).toNat ((wrap64 (x7_3 + x8_4)) : Int).toNat, 1⟩ : S83)); (case aB => exact (by repeat (first | (with_reducible first | exact HB.out | apply below_alloc | apply pw_below_drewN | apply below_drew1) | exact HB.out))); (case aF => exact (fun _ _ => trivial)); (case aO => exact (by (with_reducible repeat (first | apply Kd.R_alloc | apply Kd.R_drewN | apply Kd.R_drew)); exact HO_3.out)); (case aS => exact (below_size (by repeat (first | (with_reducible first | exact HB.out | apply below_alloc | apply pw_below_drewN | apply below_drew1) | exact HB.out)))); (case aL => have := LMc37.out; omega); intro v112 w39 ho hb hg hat; rw [← Ny111.out] at ho; have n0_ := Aside0.mk (hb); have n1_ := Aside0.mk (ho); clear HB; clear HO_3; have HB := n0_; have HO113 := n1_; clear n0_ n1_; clear ho hb hg hat)); try go_wp2_with (first | ((with_reducible refine gate_builtin (b := .append) (xs := #[.tmp 86, .tmp 94]) rfl ?_); (try (refine gate_guard (by rfl) ?_; dsimp only)); at_builtin; refine Kd.R_append k83 (w0 := w) w.heap.size rfl (.tmp 86) (.tmp 94) 80 83 (.agg #[(.string ⟨#[]⟩), (.int .i64 0)]) 24 rfl Try.underlying80 info83 rfl (by decide) (by omega) (.slice Ao38 x3_6.length co38) x3_6 (⟨(strOfNums ((rd_L4 l0 x5_1).take ((ji7) : Int).toNat)).extract (x7_3 : Int).toNat ((wrap64 (x7_3 + x8_4)) : Int).toNat, 1⟩ : S83) [.string ((strOfNums ((rd_L4 l0 x5_1).take ((ji7) : Int).toNat)).extract (x7_3 : Int).toNat ((wrap64 (x7_3 + x8_4)) : Int).toNat), .int .i64 1] (fun _ => True) (fun _ => False) rfl rfl ?aP (fun _ hk => hk.elim) ?aF ?aO ?aB ?aS ?aL ?_; (case aP => exact k83_mkM _ _ _ (⟨(strOfNums ((rd_L4 l0 x5_1).take ((ji7) : Int).toNat)).extract (x7_3 : Int).toNat ((wrap64 (x7_3 + x8_4)) : Int).toNat, 1⟩ : S83)); (case aB => exact (by repeat (first | (with_reducible first | exact HB.out | apply below_alloc | apply pw_below_drewN | apply below_drew1) | exact HB.out))); (case aF => exact (fun _ _ => trivial)); (case aO => exact (by (with_reducible repeat (first | apply Kd.R_alloc | apply Kd.R_drewN | apply Kd.R_drew)); exact HO_3.out)); (case aS => exact (below_size (by repeat (first | (with_reducible first | exact HB.out | apply below_alloc | apply pw_below_drewN | apply below_drew1) | exact HB.out)))); (case aL => have := LMc37.out; omega); intro v112 w39 ho hb hg hat; rw [← Ny111.out] at ho; have n0_ := Aside0.mk (hb); have n1_ := Aside0.mk (ho); clear HB; clear HO_3; have HB := n0_; have HO113 := n1_; clear n0_ n1_; clear ho hb hg hat)))
                          go_roundg k6
                          case measure => have := HK1.out; have := HJ1.out; have := HK3.out; have := HK4.out; have := HJ17.out; have := HK6.out; omega
                          case rel => exact ⟨(y111), (wrap64 (x8_4 + 1)), (by first | rfl | (simp; done) | (simp [*]; done)), H', ⟨by have := HK1.out; have := HJ1.out; have := HK3.out; have := HK4.out; have := HJ17.out; have := HK6.out; omega⟩, ⟨by (with_reducible repeat (first | apply Kd.R_alloc | apply Kd.R_drewN | apply Kd.R_drew)); exact HO113.out⟩, ⟨by repeat (first | (with_reducible first | exact HB.out | apply below_alloc | apply pw_below_drewN | apply below_drew1) | exact HB.out)⟩⟩
                         ·rw [if_neg c37] at H
                          exact absurd H (by simp)
                        ·rw [if_neg c36] at H
                         exact absurd H (by simp)
                       ·rw [if_neg c35] at H
                        exact absurd H (by simp)
                      ·rw [if_neg c34] at H
                       exact absurd H (by simp)
                 ·replace c20 := Bool.eq_false_iff.mpr c20
                  subst c20
                  have H1 : (dragnetref06_Pieces.l1 kj17 l0 x3_4 (wrap64 (x4_1 - ((strOfNums ((rd_L4 l0 x5_1).take ((ji7) : Int).toNat)).size : Int))) x5_1 (strOfNums ((rd_L4 l0 x5_1).take ((ji7) : Int).toNat)) (wrap64 (x7_3 + 1))) = some r := by rw [if_neg (show ¬ (false = true) by decide)] at H; exact H
                  clear H
                  have H := H1
                  clear H1
                  have H' := Aside0.mk H
                  clear H
                  go_wp2
                  repeat (go_quiet (fail); try go_wp2)
                  go_roundg kj17
                  case measure => have := HK1.out; have := HJ1.out; have := HK3.out; have := HK4.out; have := HJ17.out; omega
                  case rel => exact ⟨(x3_4), (wrap64 (x7_3 + 1)), (by first | rfl | (simp; done) | (simp [*]; done)), H', ⟨by have := HK1.out; have := HJ1.out; have := HK3.out; have := HK4.out; have := HJ17.out; omega⟩, ⟨by (with_reducible repeat (first | apply Kd.R_alloc | apply Kd.R_drewN | apply Kd.R_drew)); exact HO_3.out⟩, ⟨by repeat (first | (with_reducible first | exact HB.out | apply below_alloc | apply pw_below_drewN | apply below_drew1) | exact HB.out)⟩⟩
            ·rw [if_neg c17] at H
             have c17b0 : decide (x7_3 < ((strOfNums ((rd_L4 l0 x5_1).take ((ji7) : Int).toNat)).size : Int)) = false := decide_eq_false c17
             clear c17
             have H' := Aside0.mk H
             clear H
             go_wp2
             repeat (go_quiet (fail); try go_wp2)
             go_roundg k3
             case measure => have := HK1.out; have := HJ1.out; have := HK3.out; omega
             case rel => exact ⟨(x3_3), ((wrap64 (x4_1 - ((strOfNums ((rd_L4 l0 x5_1).take ((ji7) : Int).toNat)).size : Int)))), (wrap64 (x5_1 + 1)), (by first | rfl | (simp; done) | (simp only [← hji7] <;> (first | rfl | simp)) | (simp [*]; done)), (by first | rfl | (simp; done) | (simp [*]; done)), H', ⟨by have := HK1.out; have := HJ1.out; have := HK3.out; omega⟩, ⟨by (with_reducible repeat (first | apply Kd.R_alloc | apply Kd.R_drewN | apply Kd.R_drew)); exact HO_3.out⟩, ⟨by repeat (first | (with_reducible first | exact HB.out | apply below_alloc | apply pw_below_drewN | apply below_drew1) | exact HB.out)⟩⟩
         ·rw [if_neg c9] at H
          exact absurd H (by simp)
        ·rw [if_neg c8] at H
         exact absurd H (by simp)
       ·rw [if_neg c6] at H
        exact absurd H (by simp)
      ·rw [if_neg c5] at H
       exact absurd H (by simp)
     ·replace c4 := Bool.eq_false_iff.mpr c4
      subst c4
      have H1 : (some x3_1) = some r := by rw [if_neg (show ¬ (false = true) by decide)] at H; exact H
      clear H
      have H := H1
      clear H1
      obtain rfl := Option.some.inj H
      go_wp2
      repeat (go_quiet (fail); try go_wp2)
      go_ret
      exact ⟨_, by first | rfl | (simp [errW_none, errW_some] <;> rfl) | (simp [*, errW_none, errW_some] <;> rfl), by (with_reducible repeat (first | apply Kd.R_alloc | apply Kd.R_drewN | apply Kd.R_drew)); exact HO_3.out, by repeat (first | (with_reducible first | exact HB.out | apply below_alloc | apply pw_below_drewN | apply below_drew1) | exact HB.out)⟩

-- LEVEL 0
/-! ### dragnetref06_worth: function 53 -/
def dragnetref06_worth.f (a0_0 : ByteArray) (a0_1 : Int) : Option (Int) := some (wrap64 ((wrap64 ((a0_0.size : Int) - 1)) * a0_1))
set_option maxHeartbeats 8000000 in
set_option maxRecDepth 100000 in
theorem dragnetref06_worth.calls (a0_0 : ByteArray) (a0_1 : Int) (r : Int) (w : World) (h : dragnetref06_worth.f a0_0 a0_1 = some r) :
  Calls Try.prog 53 #[.agg #[.string a0_0, .int .i64 a0_1]] w fun e w' => e = .returned (.int .i64 r) ∧ Below w.heap.size w w' := by
 have hu83 := Try.underlying83
 have HB := Aside0.mk (Below.refl w.heap.size w)
 have H : (some (wrap64 ((wrap64 ((a0_0.size : Int) - 1)) * a0_1))) = some r := h
 clear h
 obtain rfl := Option.some.inj H
 go_enter Try.func53, Try.ntmps53
 go_wp2_with (first | ((with_reducible refine gate_dst (N := 1) rfl ?_); refine box_event ?hg (N := 1) ?hd (cs := #[.string a0_0, .int .i64 a0_1]) (t := 83) ?hr ?_; (case hd => rfl); (case hg => rfl); (case hr => first | (go_simp; done) | (go_simp; rfl)); intro gb114 hg w2 hbox hb; have n0_ := bsA HB hb; have n1_ := Aside0.mk (hbox); have n2_ := szA HB hg; have n3_ := szA HB hg; clear HB; have HB := n0_; have BK114 := n1_; have GW114 := n2_; have GE114 := n3_; clear n0_ n1_ n2_ n3_; clear hb hbox hg; have hcz3_0 : w2.cell? ⟨gb114, 0, none⟩ = some (.string a0_0) := (blk_cell BK114.out 0).trans rfl; have hcz3_1 : w2.cell? ⟨gb114, 1, none⟩ = some (.int .i64 a0_1) := (blk_cell BK114.out 1).trans rfl; have hfz3_0 := blk_frozen BK114.out 0; have hfz3_1 := blk_frozen BK114.out 1))
 go_ret
 exact ⟨by first | rfl | (simp [errW_none, errW_some] <;> rfl) | (simp [*, errW_none, errW_some] <;> rfl), by repeat (first | (with_reducible first | exact HB.out | apply below_alloc | apply pw_below_drewN | apply below_drew1 | refine below_set ?_ GE114.out) | exact HB.out)⟩

end Go.Proofs.Ytnmidkjmflnolaa.P
