-- Written by a program of this session (wip/tools/tp.py: the kit's printer, turned to take functions that were proved by hand). Lean checks it.
import Derived.Test.YtiaaicmkpjlplaaP0
import Derived.Test.YtiaaicmkpjlplaaP1
import Derived.Test.YtiaaicmkpjlplaaP2
import Derived.Test.YtiaaicmkpjlplaaP3
import Derived.Test.YtiaaicmkpjlplaaP4
import Derived.Test.YtiaaicmkpjlplaaP5
namespace Go.Proofs.Ytiaaicmkpjlplaa.P
open Go.RowKit Go.Proofs.YtiaaicmkpjlplaaW.PrintWords Go.Proofs.YtiaaicmkpjlplaaW.PrintLast Go.Proofs.YtiaaicmkpjlplaaW.PrintMore
attribute [local go_sem] max2_int min2_int max_two min_two max_three min_three max_four min_four   -- for this text's walks alone
set_option linter.unusedVariables false
set_option linter.unusedSimpArgs false

-- LEVEL 0
/-! ### dragnetlaw09_RowsetSets: function 6 -/
mutual
def dragnetlaw09_RowsetSets.j0 : Nat → Int → Int → Int → Bool → Int → List Int → Int → List Int → Int → List Int → Int → List Int → Int → List Int → Int → List Int → Option (Bool)
 | 0, _, _, _, _, _, _, _, _, _, _, _, _, _, _, _, _ => none
 | k + 1, x8, x10, x12, x54, x214000, x214001, x215000, x215001, x216000, x216001, x223000, x223001, x229000, x229001, x235000, x235001 => if x54 = true then (if x8 = x10 then (if x10 = x12 then ((rowset_Has.f x223000 x223001 0).bind fun t235 => (some (!t235))) else (some false)) else (some false)) else ((rowset_Or.f k x229000 x229001 x223000 x223001).bind fun bt236 => ((rowset_Or.f k x215000 x215001 x214000 x214001).bind fun bt242 => (if bt236.2.2 = 0 then (if bt242.2.2 = 0 then ((dragnetref09_Same.f k bt236.1 bt236.2.1 x214000 x214001).bind fun t248 => (if t248 = true then ((dragnetref09_Same.f k bt242.1 bt242.2.1 x235000 x235001).bind fun t249 => (if t249 = true then ((rowset_Count.f k x223000 x223001).bind fun t250 => ((rowset_Count.f k x235000 x235001).bind fun t251 => ((rowset_Count.f k x214000 x214001).bind fun t252 => ((rowset_Count.f k x215000 x215001).bind fun t253 => (dragnetlaw09_RowsetSets.j1 k ((wrap64 (t250 + t251)) != (wrap64 (t252 + t253))) x214000 x214001 x215000 x215001 x216000 x216001 x235000 x235001))))) else (dragnetlaw09_RowsetSets.j1 k true x214000 x214001 x215000 x215001 x216000 x216001 x235000 x235001))) else (dragnetlaw09_RowsetSets.j1 k true x214000 x214001 x215000 x215001 x216000 x216001 x235000 x235001))) else (dragnetlaw09_RowsetSets.j1 k true x214000 x214001 x215000 x215001 x216000 x216001 x235000 x235001)) else (dragnetlaw09_RowsetSets.j1 k true x214000 x214001 x215000 x215001 x216000 x216001 x235000 x235001))))
def dragnetlaw09_RowsetSets.j1 : Nat → Bool → Int → List Int → Int → List Int → Int → List Int → Int → List Int → Option (Bool)
 | 0, _, _, _, _, _, _, _, _, _ => none
 | k + 1, x110, x214000, x214001, x215000, x215001, x216000, x216001, x235000, x235001 => if x110 = true then (some false) else ((rowset_And.f k x235000 x235001 x216000 x216001).bind fun bt254 => ((rowset_And.f k x214000 x214001 x216000 x216001).bind fun bt260 => ((rowset_And.f k x215000 x215001 x216000 x216001).bind fun bt266 => (if bt254.2.2 = 0 then ((rowset_Or.f k bt260.1 bt260.2.1 bt266.1 bt266.2.1).bind fun bt272 => (if bt260.2.2 = 0 then (if bt266.2.2 = 0 then (if bt272.2.2 = 0 then ((dragnetref09_Same.f k bt254.1 bt254.2.1 bt272.1 bt272.2.1).bind fun t278 => (some t278)) else (some false)) else (some false)) else (some false))) else (if bt260.2.2 = bt254.2.2 then (some (bt266.2.2 == bt254.2.2)) else (some false))))))
end
def dragnetlaw09_RowsetSets.f (k : Nat) (a0_0 : Int) (l0_1 : List Int) (a1_0 : Int) (l1_1 : List Int) (a2_0 : Int) (l2_1 : List Int) : Option (Bool) := (dragnetlaw09_alive.f k).bind fun t216 => (if t216 = true then ((rowset_And.f k a0_0 l0_1 a1_0 l1_1).bind fun bt217 => ((rowset_Minus.f k a0_0 l0_1 a1_0 l1_1).bind fun bt223 => ((rowset_Or.f k a0_0 l0_1 a1_0 l1_1).bind fun bt229 => (if bt217.2.2 = 0 then (if bt223.2.2 = 0 then (dragnetlaw09_RowsetSets.j0 k bt217.2.2 bt223.2.2 bt229.2.2 (bt229.2.2 != 0) a0_0 l0_1 a1_0 l1_1 a2_0 l2_1 bt217.1 bt217.2.1 bt223.1 bt223.2.1 bt229.1 bt229.2.1) else (dragnetlaw09_RowsetSets.j0 k bt217.2.2 bt223.2.2 bt229.2.2 true a0_0 l0_1 a1_0 l1_1 a2_0 l2_1 bt217.1 bt217.2.1 bt223.1 bt223.2.1 bt229.1 bt229.2.1)) else (dragnetlaw09_RowsetSets.j0 k bt217.2.2 bt223.2.2 bt229.2.2 true a0_0 l0_1 a1_0 l1_1 a2_0 l2_1 bt217.1 bt217.2.1 bt223.1 bt223.2.1 bt229.1 bt229.2.1))))) else (some false))
theorem dragnetlaw09_RowsetSets.j1_no : ∀ (k : Nat) y1 y2 y3 y4 y5 y6 y7 y8, dragnetlaw09_RowsetSets.j1 k true y1 y2 y3 y4 y5 y6 y7 y8 ≠ some true := by intro k; cases k <;> intros <;> simp [dragnetlaw09_RowsetSets.j1]
theorem dragnetlaw09_RowsetSets.mono_l : ∀ k, (∀ y0 y1 y2 y3 y4 y5 y6 y7 y8 y9 y10 y11 y12 y13 y14 y15, LeO (dragnetlaw09_RowsetSets.j0 k y0 y1 y2 y3 y4 y5 y6 y7 y8 y9 y10 y11 y12 y13 y14 y15) (dragnetlaw09_RowsetSets.j0 (k + 1) y0 y1 y2 y3 y4 y5 y6 y7 y8 y9 y10 y11 y12 y13 y14 y15)) ∧ (∀ y0 y1 y2 y3 y4 y5 y6 y7 y8, LeO (dragnetlaw09_RowsetSets.j1 k y0 y1 y2 y3 y4 y5 y6 y7 y8) (dragnetlaw09_RowsetSets.j1 (k + 1) y0 y1 y2 y3 y4 y5 y6 y7 y8))
 | 0 => ⟨fun _ _ _ _ _ _ _ _ _ _ _ _ _ _ _ _ r h => by simp [dragnetlaw09_RowsetSets.j0] at h, fun _ _ _ _ _ _ _ _ _ r h => by simp [dragnetlaw09_RowsetSets.j1] at h⟩
 | k + 1 => by
  obtain ⟨ih0, ih1⟩ := dragnetlaw09_RowsetSets.mono_l k
  refine ⟨?_, ?_⟩
  ·intro y0 y1 y2 y3 y4 y5 y6 y7 y8 y9 y10 y11 y12 y13 y14 y15
   unfold dragnetlaw09_RowsetSets.j0
   repeat' first
   | (with_reducible exact ih0 _ _ _ _ _ _ _ _ _ _ _ _ _ _ _ _)
   | (with_reducible exact ih1 _ _ _ _ _ _ _ _ _)
   | (with_reducible exact dragnetlaw09_alive.mono _)
   | (with_reducible exact dragnetref09_Same.mono _ _ _ _ _)
   | (with_reducible exact rowset_And.mono _ _ _ _ _)
   | (with_reducible exact rowset_Count.mono _ _ _)
   | (with_reducible exact rowset_Minus.mono _ _ _ _ _)
   | (with_reducible exact rowset_Or.mono _ _ _ _ _)
   | (with_reducible exact LeO.refl _)
   | (with_reducible exact LeO.none _)
   | (with_reducible refine LeO.ite ?_ ?_)
   | (with_reducible refine LeO.bind ?_ (fun _ => ?_))
   | exact ih0 _ _ _ _ _ _ _ _ _ _ _ _ _ _ _ _
   | exact ih1 _ _ _ _ _ _ _ _ _
   | exact dragnetlaw09_alive.mono _
   | exact dragnetref09_Same.mono _ _ _ _ _
   | exact rowset_And.mono _ _ _ _ _
   | exact rowset_Count.mono _ _ _
   | exact rowset_Minus.mono _ _ _ _ _
   | exact rowset_Or.mono _ _ _ _ _
   | exact LeO.none _
   | refine LeO.ite ?_ ?_
   | refine LeO.bind ?_ (fun _ => ?_)
  ·intro y0 y1 y2 y3 y4 y5 y6 y7 y8
   unfold dragnetlaw09_RowsetSets.j1
   repeat' first
   | (with_reducible exact ih0 _ _ _ _ _ _ _ _ _ _ _ _ _ _ _ _)
   | (with_reducible exact ih1 _ _ _ _ _ _ _ _ _)
   | (with_reducible exact dragnetlaw09_alive.mono _)
   | (with_reducible exact dragnetref09_Same.mono _ _ _ _ _)
   | (with_reducible exact rowset_And.mono _ _ _ _ _)
   | (with_reducible exact rowset_Count.mono _ _ _)
   | (with_reducible exact rowset_Minus.mono _ _ _ _ _)
   | (with_reducible exact rowset_Or.mono _ _ _ _ _)
   | (with_reducible exact LeO.refl _)
   | (with_reducible exact LeO.none _)
   | (with_reducible refine LeO.ite ?_ ?_)
   | (with_reducible refine LeO.bind ?_ (fun _ => ?_))
   | exact ih0 _ _ _ _ _ _ _ _ _ _ _ _ _ _ _ _
   | exact ih1 _ _ _ _ _ _ _ _ _
   | exact dragnetlaw09_alive.mono _
   | exact dragnetref09_Same.mono _ _ _ _ _
   | exact rowset_And.mono _ _ _ _ _
   | exact rowset_Count.mono _ _ _
   | exact rowset_Minus.mono _ _ _ _ _
   | exact rowset_Or.mono _ _ _ _ _
   | exact LeO.none _
   | refine LeO.ite ?_ ?_
   | refine LeO.bind ?_ (fun _ => ?_)
theorem dragnetlaw09_RowsetSets.mono : ∀ a0 a1 a2 a3 a4 a5 k, LeO (dragnetlaw09_RowsetSets.f k a0 a1 a2 a3 a4 a5) (dragnetlaw09_RowsetSets.f (k + 1) a0 a1 a2 a3 a4 a5) := by
 intro a0 a1 a2 a3 a4 a5 k
 obtain ⟨ih0, ih1⟩ := dragnetlaw09_RowsetSets.mono_l k
 unfold dragnetlaw09_RowsetSets.f
 repeat' first
   | (with_reducible exact ih0 _ _ _ _ _ _ _ _ _ _ _ _ _ _ _ _)
   | (with_reducible exact ih1 _ _ _ _ _ _ _ _ _)
   | (with_reducible exact dragnetlaw09_alive.mono _)
   | (with_reducible exact dragnetref09_Same.mono _ _ _ _ _)
   | (with_reducible exact rowset_And.mono _ _ _ _ _)
   | (with_reducible exact rowset_Count.mono _ _ _)
   | (with_reducible exact rowset_Minus.mono _ _ _ _ _)
   | (with_reducible exact rowset_Or.mono _ _ _ _ _)
   | (with_reducible exact LeO.refl _)
   | (with_reducible exact LeO.none _)
   | (with_reducible refine LeO.ite ?_ ?_)
   | (with_reducible refine LeO.bind ?_ (fun _ => ?_))
   | exact ih0 _ _ _ _ _ _ _ _ _ _ _ _ _ _ _ _
   | exact ih1 _ _ _ _ _ _ _ _ _
   | exact dragnetlaw09_alive.mono _
   | exact dragnetref09_Same.mono _ _ _ _ _
   | exact rowset_And.mono _ _ _ _ _
   | exact rowset_Count.mono _ _ _
   | exact rowset_Minus.mono _ _ _ _ _
   | exact rowset_Or.mono _ _ _ _ _
   | exact LeO.none _
   | refine LeO.ite ?_ ?_
   | refine LeO.bind ?_ (fun _ => ?_)
def dragnetlaw09_RowsetSets.T10 : Bool × List (List Nat × List Nat) := (true, [([], []), ([0], [0]), ([1], [1]), ([2], [2]), ([3, 2], [2, 3]), ([2, 4], [2, 4]), ([5, 2], [5]), ([6], [6]), ([6], [6]), ([7, 8, 6, 6], [6, 7, 8]), ([9, 6], [6, 9]), ([6, 10], [6, 10]), ([11, 9], [11]), ([12], [12]), ([12], [12]), ([13, 14, 12, 12], [12, 13, 14]), ([15, 12], [12, 15]), ([12, 16], [12, 16]), ([17, 15], [17]), ([18], [18]), ([19, 18, 18], [18, 19]), ([18], [18]), ([21, 20, 18], [18, 21]), ([20, 22, 18], [18, 20, 22]), ([18], [18]), ([24, 22, 18], [18, 24]), ([18], [18]), ([26, 25, 18], [18, 26]), ([25, 27, 18], [18, 25, 27]), ([23, 28, 18], [18, 23, 28]), ([18, 29], [18, 29])])
def dragnetlaw09_RowsetSets.B10 : List Nat := [0, 1, 3, 7, 15, 31, 63, 127, 127, 511, 1023, 2047, 4095, 8191, 8191, 32767, 65535, 131071, 262143, 524287, 1048575, 524287, 4194303, 8388607, 524287, 25165823, 524287, 125829119, 260046847, 536870911, 1073741823]
theorem dragnetlaw09_RowsetSets.tab10 : rtab .any (opsOf Try.f6 10) = dragnetlaw09_RowsetSets.T10 := by kernel_rfl
theorem dragnetlaw09_RowsetSets.bits10 : waitsOk dragnetlaw09_RowsetSets.T10.2 dragnetlaw09_RowsetSets.B10 = true := by kernel_rfl
set_option maxHeartbeats 8000000 in
set_option maxRecDepth 100000 in
theorem dragnetlaw09_RowsetSets.calls (k : Nat) (a0_0 : Int) (A0_1 : Option Addr) (c0_1 : Nat) (l0_1 : List Int) (a1_0 : Int) (A1_1 : Option Addr) (c1_1 : Nat) (l1_1 : List Int) (a2_0 : Int) (A2_1 : Option Addr) (c2_1 : Nat) (l2_1 : List Int) (w : World) (hr0_1 : Kd.C (Kd.int .u64) w A0_1 l0_1.length l0_1) (hc0_1 : l0_1.length ≤ c0_1) (hr1_1 : Kd.C (Kd.int .u64) w A1_1 l1_1.length l1_1) (hc1_1 : l1_1.length ≤ c1_1) (hr2_1 : Kd.C (Kd.int .u64) w A2_1 l2_1.length l2_1) (hc2_1 : l2_1.length ≤ c2_1) (h : dragnetlaw09_RowsetSets.f k a0_0 l0_1 a1_0 l1_1 a2_0 l2_1 = some true) :
  Calls Try.prog 6 #[.agg #[.int .i64 a0_0, .slice A0_1 l0_1.length c0_1], .agg #[.int .i64 a1_0, .slice A1_1 l1_1.length c1_1], .agg #[.int .i64 a2_0, .slice A2_1 l2_1.length c2_1]] w fun e w' => e = .returned (.bool true) ∧ Below w.heap.size w w' := by
 have hu38 := Try.underlying38
 have HR0_1 := Aside0.mk hr0_1
 have HC0_1 := Aside0.mk hc0_1
 clear hr0_1 hc0_1
 have HR1_1 := Aside0.mk hr1_1
 have HC1_1 := Aside0.mk hc1_1
 clear hr1_1 hc1_1
 have HR2_1 := Aside0.mk hr2_1
 have HC2_1 := Aside0.mk hc2_1
 clear hr2_1 hc2_1
 have HB := Aside0.mk (Below.refl w.heap.size w)
 have H : ((dragnetlaw09_alive.f k).bind fun t216 => (if t216 = true then ((rowset_And.f k a0_0 l0_1 a1_0 l1_1).bind fun bt217 => ((rowset_Minus.f k a0_0 l0_1 a1_0 l1_1).bind fun bt223 => ((rowset_Or.f k a0_0 l0_1 a1_0 l1_1).bind fun bt229 => (if bt217.2.2 = 0 then (if bt223.2.2 = 0 then (dragnetlaw09_RowsetSets.j0 k bt217.2.2 bt223.2.2 bt229.2.2 (bt229.2.2 != 0) a0_0 l0_1 a1_0 l1_1 a2_0 l2_1 bt217.1 bt217.2.1 bt223.1 bt223.2.1 bt229.1 bt229.2.1) else (dragnetlaw09_RowsetSets.j0 k bt217.2.2 bt223.2.2 bt229.2.2 true a0_0 l0_1 a1_0 l1_1 a2_0 l2_1 bt217.1 bt217.2.1 bt223.1 bt223.2.1 bt229.1 bt229.2.1)) else (dragnetlaw09_RowsetSets.j0 k bt217.2.2 bt223.2.2 bt229.2.2 true a0_0 l0_1 a1_0 l1_1 a2_0 l2_1 bt217.1 bt217.2.1 bt223.1 bt223.2.1 bt229.1 bt229.2.1))))) else (some false))) = some true := h
 clear h
 replace H := Option.bind_eq_some_iff.mp H
 obtain ⟨t216, A40, H⟩ := H
 replace H : (if t216 = true then ((rowset_And.f k a0_0 l0_1 a1_0 l1_1).bind fun bt217 => ((rowset_Minus.f k a0_0 l0_1 a1_0 l1_1).bind fun bt223 => ((rowset_Or.f k a0_0 l0_1 a1_0 l1_1).bind fun bt229 => (if bt217.2.2 = 0 then (if bt223.2.2 = 0 then (dragnetlaw09_RowsetSets.j0 k bt217.2.2 bt223.2.2 bt229.2.2 (bt229.2.2 != 0) a0_0 l0_1 a1_0 l1_1 a2_0 l2_1 bt217.1 bt217.2.1 bt223.1 bt223.2.1 bt229.1 bt229.2.1) else (dragnetlaw09_RowsetSets.j0 k bt217.2.2 bt223.2.2 bt229.2.2 true a0_0 l0_1 a1_0 l1_1 a2_0 l2_1 bt217.1 bt217.2.1 bt223.1 bt223.2.1 bt229.1 bt229.2.1)) else (dragnetlaw09_RowsetSets.j0 k bt217.2.2 bt223.2.2 bt229.2.2 true a0_0 l0_1 a1_0 l1_1 a2_0 l2_1 bt217.1 bt217.2.1 bt223.1 bt223.2.1 bt229.1 bt229.2.1))))) else (some false)) = some true := H
 have A4 := Aside0.mk A40
 clear A40
 by_cases c5 : t216 = true
 ·subst c5
  have H1 : ((rowset_And.f k a0_0 l0_1 a1_0 l1_1).bind fun bt217 => ((rowset_Minus.f k a0_0 l0_1 a1_0 l1_1).bind fun bt223 => ((rowset_Or.f k a0_0 l0_1 a1_0 l1_1).bind fun bt229 => (if bt217.2.2 = 0 then (if bt223.2.2 = 0 then (dragnetlaw09_RowsetSets.j0 k bt217.2.2 bt223.2.2 bt229.2.2 (bt229.2.2 != 0) a0_0 l0_1 a1_0 l1_1 a2_0 l2_1 bt217.1 bt217.2.1 bt223.1 bt223.2.1 bt229.1 bt229.2.1) else (dragnetlaw09_RowsetSets.j0 k bt217.2.2 bt223.2.2 bt229.2.2 true a0_0 l0_1 a1_0 l1_1 a2_0 l2_1 bt217.1 bt217.2.1 bt223.1 bt223.2.1 bt229.1 bt229.2.1)) else (dragnetlaw09_RowsetSets.j0 k bt217.2.2 bt223.2.2 bt229.2.2 true a0_0 l0_1 a1_0 l1_1 a2_0 l2_1 bt217.1 bt217.2.1 bt223.1 bt223.2.1 bt229.1 bt229.2.1))))) = some true := by rw [if_pos rfl] at H; exact H
  clear H
  have H := H1
  clear H1
  replace H := Option.bind_eq_some_iff.mp H
  obtain ⟨⟨t217, t218, t221⟩, A60, H⟩ := H
  replace H : ((rowset_Minus.f k a0_0 l0_1 a1_0 l1_1).bind fun bt223 => ((rowset_Or.f k a0_0 l0_1 a1_0 l1_1).bind fun bt229 => (if t221 = 0 then (if bt223.2.2 = 0 then (dragnetlaw09_RowsetSets.j0 k t221 bt223.2.2 bt229.2.2 (bt229.2.2 != 0) a0_0 l0_1 a1_0 l1_1 a2_0 l2_1 t217 t218 bt223.1 bt223.2.1 bt229.1 bt229.2.1) else (dragnetlaw09_RowsetSets.j0 k t221 bt223.2.2 bt229.2.2 true a0_0 l0_1 a1_0 l1_1 a2_0 l2_1 t217 t218 bt223.1 bt223.2.1 bt229.1 bt229.2.1)) else (dragnetlaw09_RowsetSets.j0 k t221 bt223.2.2 bt229.2.2 true a0_0 l0_1 a1_0 l1_1 a2_0 l2_1 t217 t218 bt223.1 bt223.2.1 bt229.1 bt229.2.1)))) = some true := H
  have A6 := Aside0.mk A60
  clear A60
  replace H := Option.bind_eq_some_iff.mp H
  obtain ⟨⟨t223, t224, t227⟩, A70, H⟩ := H
  replace H : ((rowset_Or.f k a0_0 l0_1 a1_0 l1_1).bind fun bt229 => (if t221 = 0 then (if t227 = 0 then (dragnetlaw09_RowsetSets.j0 k t221 t227 bt229.2.2 (bt229.2.2 != 0) a0_0 l0_1 a1_0 l1_1 a2_0 l2_1 t217 t218 t223 t224 bt229.1 bt229.2.1) else (dragnetlaw09_RowsetSets.j0 k t221 t227 bt229.2.2 true a0_0 l0_1 a1_0 l1_1 a2_0 l2_1 t217 t218 t223 t224 bt229.1 bt229.2.1)) else (dragnetlaw09_RowsetSets.j0 k t221 t227 bt229.2.2 true a0_0 l0_1 a1_0 l1_1 a2_0 l2_1 t217 t218 t223 t224 bt229.1 bt229.2.1))) = some true := H
  have A7 := Aside0.mk A70
  clear A70
  replace H := Option.bind_eq_some_iff.mp H
  obtain ⟨⟨t229, t230, t233⟩, A80, H⟩ := H
  replace H : (if t221 = 0 then (if t227 = 0 then (dragnetlaw09_RowsetSets.j0 k t221 t227 t233 (t233 != 0) a0_0 l0_1 a1_0 l1_1 a2_0 l2_1 t217 t218 t223 t224 t229 t230) else (dragnetlaw09_RowsetSets.j0 k t221 t227 t233 true a0_0 l0_1 a1_0 l1_1 a2_0 l2_1 t217 t218 t223 t224 t229 t230)) else (dragnetlaw09_RowsetSets.j0 k t221 t227 t233 true a0_0 l0_1 a1_0 l1_1 a2_0 l2_1 t217 t218 t223 t224 t229 t230)) = some true := H
  have A8 := Aside0.mk A80
  clear A80
  have HC9 := Aside0.mk H
  clear H
  go_enter Try.func6, Try.ntmps6
  go_upto_region 6 with (first | ((with_reducible refine gate_dst (N := 3) rfl ?_); refine box_event ?hg (N := 3) ?hd (cs := #[.int .i64 a0_0, .slice A0_1 l0_1.length c0_1]) (t := 38) ?hr ?_; (case hd => rfl); (case hg => rfl); (case hr => first | (go_simp; done) | (go_simp; rfl)); intro gb213 hg w10 hbox hb; have n0_ := bsA HB hb; have n1_ := Aside0.mk (hbox); have n2_ := szA HB hg; have n3_ := szA HB hg; clear HB; have HB := n0_; have BK213 := n1_; have GW213 := n2_; have GE213 := n3_; clear n0_ n1_ n2_ n3_; clear hb hbox hg) | ((with_reducible refine gate_dst (N := 4) rfl ?_); refine box_event ?hg (N := 4) ?hd (cs := #[.int .i64 a1_0, .slice A1_1 l1_1.length c1_1]) (t := 38) ?hr ?_; (case hd => rfl); (case hg => rfl); (case hr => first | (go_simp; done) | (go_simp; rfl)); intro gb214 hg w11 hbox hb; have n0_ := bkA BK213 hb; have n1_ := bsA HB hb; have n2_ := Aside0.mk (hbox); have n3_ := szA HB hg; have n4_ := szA HB hg; have n5_ := neA BK213 hg; have n6_ := neB BK213 hg; clear BK213; clear HB; have BK213 := n0_; have HB := n1_; have BK214 := n2_; have GW214 := n3_; have GE214 := n4_; have NB213_214 := n5_; have NB214_213 := n6_; clear n0_ n1_ n2_ n3_ n4_ n5_ n6_; clear hb hbox hg) | ((with_reducible refine gate_dst (N := 5) rfl ?_); refine box_event ?hg (N := 5) ?hd (cs := #[.int .i64 a2_0, .slice A2_1 l2_1.length c2_1]) (t := 38) ?hr ?_; (case hd => rfl); (case hg => rfl); (case hr => first | (go_simp; done) | (go_simp; rfl)); intro gb215 hg w12 hbox hb; have n0_ := bkA BK213 hb; have n1_ := bkA BK214 hb; have n2_ := bsA HB hb; have n3_ := Aside0.mk (hbox); have n4_ := szA HB hg; have n5_ := szA HB hg; have n6_ := neA BK213 hg; have n7_ := neB BK213 hg; have n8_ := neA BK214 hg; have n9_ := neB BK214 hg; clear BK213; clear BK214; clear HB; have BK213 := n0_; have BK214 := n1_; have HB := n2_; have BK215 := n3_; have GW215 := n4_; have GE215 := n5_; have NB213_215 := n6_; have NB215_213 := n7_; have NB214_215 := n8_; have NB215_214 := n9_; clear n0_ n1_ n2_ n3_ n4_ n5_ n6_ n7_ n8_ n9_; clear hb hbox hg) | ((with_reducible refine gate_callee (f := 23) rfl ?_); refine goesL_ (some 25) rfl rfl Try.func23 (by kernel_rfl) rfl #[] rfl (by (try simp only [List.map_toArray, List.map_cons, List.map_nil]); first | done | rfl | (simp only [List.length_drop, List.length_take]; rfl)) ?_; (with_reducible refine (dragnetlaw09_alive.calls k  true _ A4.out).mono ?_); rintro e w13 ⟨rfl, hb⟩; refine ⟨_, rfl, ?_⟩; have n0_ := bkA BK213 hb; have n1_ := bkA BK214 hb; have n2_ := bkA BK215 hb; have n3_ := bsA HB hb; clear BK213; clear BK214; clear BK215; clear HB; have BK213 := n0_; have BK214 := n1_; have BK215 := n2_; have HB := n3_; clear n0_ n1_ n2_ n3_; (try clear hb); (try clear hb2); (try clear hk); (try clear hi); have hnb14 := NB213_214.out; have hnc14 := NB214_213.out; have hnb15 := NB213_215.out; have hnc15 := NB215_213.out; have hcz16_0 : w13.cell? ⟨gb213, 0, none⟩ = some (.int .i64 a0_0) := (blk_cell BK213.out 0).trans rfl; have hcz16_1 : w13.cell? ⟨gb213, 1, none⟩ = some (.slice A0_1 l0_1.length c0_1) := (blk_cell BK213.out 1).trans rfl; have hfz16_0 := blk_frozen BK213.out 0; have hfz16_1 := blk_frozen BK213.out 1; have hnb17 := NB214_215.out; have hnc17 := NB215_214.out; have hcz18_0 : w13.cell? ⟨gb214, 0, none⟩ = some (.int .i64 a1_0) := (blk_cell BK214.out 0).trans rfl; have hcz18_1 : w13.cell? ⟨gb214, 1, none⟩ = some (.slice A1_1 l1_1.length c1_1) := (blk_cell BK214.out 1).trans rfl; have hfz18_0 := blk_frozen BK214.out 0; have hfz18_1 := blk_frozen BK214.out 1) | ((with_reducible refine gate_callee (f := 25) rfl ?_); refine goesL_ (some 30) rfl rfl Try.func25 (by kernel_rfl) rfl #[.agg #[.int .i64 a0_0, .slice A0_1 l0_1.length c0_1], .agg #[.int .i64 a1_0, .slice A1_1 l1_1.length c1_1]] rfl (by (try simp only [List.map_toArray, List.map_cons, List.map_nil]); first | done | rfl | (simp only [List.length_drop, List.length_take]; rfl)) ?_; (with_reducible refine (rowset_And.calls k a0_0 _ _ l0_1 a1_0 _ _ l1_1 t217 t218 t221 _ ?side1 ?side2 ?side3 ?side4 A6.out).mono ?_); (case side1 => repeat (first | exact (Kd.C_below HR0_1.out HB.out) | (with_reducible refine Kd.C_alloc ?_ _) | (with_reducible refine Kd.C_drewN ?_ _) | (with_reducible refine Kd.C_drew ?_))); (case side2 => exact HC0_1.out); (case side3 => repeat (first | exact (Kd.C_below HR1_1.out HB.out) | (with_reducible refine Kd.C_alloc ?_ _) | (with_reducible refine Kd.C_drewN ?_ _) | (with_reducible refine Kd.C_drew ?_))); (case side4 => exact HC1_1.out); rintro e w19 ⟨v219, rfl, ho0, hb⟩; refine ⟨_, rfl, ?_⟩; have n0_ := Aside0.mk (Kd.R_lower ho0 (below_size (by repeat (first | (with_reducible first | exact HB.out | apply below_alloc | apply pw_below_drewN | apply below_drew1 | refine below_set ?_ GE213.out | refine below_set ?_ GE214.out | refine below_set ?_ GE215.out) | exact HB.out)))); have n1_ := bkA BK213 hb; have n2_ := bkA BK214 hb; have n3_ := bkA BK215 hb; have n4_ := bsA HB hb; clear BK213; clear BK214; clear BK215; clear HB; have HO220 := n0_; have BK213 := n1_; have BK214 := n2_; have BK215 := n3_; have HB := n4_; clear n0_ n1_ n2_ n3_ n4_; (try clear hb); (try clear hb2); (try clear hk); (try clear hi); (try clear ho0)) | ((with_reducible refine gate_dst (N := 7) rfl ?_); refine box_event ?hg (N := 7) ?hd (cs := #[.int .i64 0, .slice none 0 0]) (t := 38) ?hr ?_; (case hd => rfl); (case hg => rfl); (case hr => first | (go_simp; done) | (go_simp; rfl)); intro gb222 hg w20 hbox hb; have n0_ := rbA HO220 hb; have n1_ := bkA BK213 hb; have n2_ := bkA BK214 hb; have n3_ := bkA BK215 hb; have n4_ := bsA HB hb; have n5_ := Aside0.mk (hbox); have n6_ := szA HB hg; have n7_ := szA HB hg; have n8_ := neA BK213 hg; have n9_ := neB BK213 hg; have n10_ := neA BK214 hg; have n11_ := neB BK214 hg; have n12_ := neA BK215 hg; have n13_ := neB BK215 hg; clear HO220; clear BK213; clear BK214; clear BK215; clear HB; have HO220 := n0_; have BK213 := n1_; have BK214 := n2_; have BK215 := n3_; have HB := n4_; have BK222 := n5_; have GW222 := n6_; have GE222 := n7_; have NB213_222 := n8_; have NB222_213 := n9_; have NB214_222 := n10_; have NB222_214 := n11_; have NB215_222 := n12_; have NB222_215 := n13_; clear n0_ n1_ n2_ n3_ n4_ n5_ n6_ n7_ n8_ n9_ n10_ n11_ n12_ n13_; clear hb hbox hg; have hnb21 := NB222_213.out; have hnc21 := NB213_222.out; have hnb22 := NB222_214.out; have hnc22 := NB214_222.out; have hnb23 := NB222_215.out; have hnc23 := NB215_222.out; have hcz24_0 : w20.cell? ⟨gb222, 0, none⟩ = some (.int .i64 0) := (blk_cell BK222.out 0).trans rfl; have hcz24_1 : w20.cell? ⟨gb222, 1, none⟩ = some (.slice none 0 0) := (blk_cell BK222.out 1).trans rfl; have hfz24_0 := blk_frozen BK222.out 0; have hfz24_1 := blk_frozen BK222.out 1; obtain ⟨Ao25, co25, eo25⟩ := Kd.R_slice HO220.out; subst eo25; have hcz26_0 : w20.cell? ⟨gb213, 0, none⟩ = some (.int .i64 a0_0) := (blk_cell BK213.out 0).trans rfl; have hcz26_1 : w20.cell? ⟨gb213, 1, none⟩ = some (.slice A0_1 l0_1.length c0_1) := (blk_cell BK213.out 1).trans rfl; have hfz26_0 := blk_frozen BK213.out 0; have hfz26_1 := blk_frozen BK213.out 1; have hcz27_0 : w20.cell? ⟨gb214, 0, none⟩ = some (.int .i64 a1_0) := (blk_cell BK214.out 0).trans rfl; have hcz27_1 : w20.cell? ⟨gb214, 1, none⟩ = some (.slice A1_1 l1_1.length c1_1) := (blk_cell BK214.out 1).trans rfl; have hfz27_0 := blk_frozen BK214.out 0; have hfz27_1 := blk_frozen BK214.out 1) | ((with_reducible refine gate_callee (f := 27) rfl ?_); refine goesL_ (some 36) rfl rfl Try.func27 (by kernel_rfl) rfl #[.agg #[.int .i64 a0_0, .slice A0_1 l0_1.length c0_1], .agg #[.int .i64 a1_0, .slice A1_1 l1_1.length c1_1]] rfl (by (try simp only [List.map_toArray, List.map_cons, List.map_nil]); first | done | rfl | (simp only [List.length_drop, List.length_take]; rfl)) ?_; (with_reducible refine (rowset_Minus.calls k a0_0 _ _ l0_1 a1_0 _ _ l1_1 t223 t224 t227 _ ?side1 ?side2 ?side3 ?side4 A7.out).mono ?_); (case side1 => exact Kd.C_below HR0_1.out (by repeat (first | (with_reducible first | exact HB.out | apply below_alloc | apply pw_below_drewN | apply below_drew1 | refine below_set ?_ GE213.out | refine below_set ?_ GE214.out | refine below_set ?_ GE215.out | refine below_set ?_ GE222.out) | exact HB.out))); (case side2 => exact HC0_1.out); (case side3 => exact Kd.C_below HR1_1.out (by repeat (first | (with_reducible first | exact HB.out | apply below_alloc | apply pw_below_drewN | apply below_drew1 | refine below_set ?_ GE213.out | refine below_set ?_ GE214.out | refine below_set ?_ GE215.out | refine below_set ?_ GE222.out) | exact HB.out))); (case side4 => exact HC1_1.out); rintro e w28 ⟨v225, rfl, ho0, hb⟩; refine ⟨_, rfl, ?_⟩; have n0_ := Aside0.mk (Kd.R_elder' (by (with_reducible repeat (first | apply Kd.R_alloc | apply Kd.R_drewN | apply Kd.R_drew)); exact (Kd.R_mono (Kd.R_far (p := ⟨gb222, 1, none⟩) (Kd.R_far (p := ⟨gb222, 0, none⟩) (Kd.R_types HO220.out BK222.out (by decide)) (fun _ hk => hk.2) (.int .i64 t217)) (fun _ hk => hk.2) (.slice Ao25 t218.length co25)) (fun _ h_ => h_.1))) (Kd.R_base ho0) hb); have n1_ := Aside0.mk (Kd.R_lower (Kd.R_new' ho0 (Kd.R_lt (by (with_reducible repeat (first | apply Kd.R_alloc | apply Kd.R_drewN | apply Kd.R_drew)); exact (Kd.R_mono (Kd.R_far (p := ⟨gb222, 1, none⟩) (Kd.R_far (p := ⟨gb222, 0, none⟩) (Kd.R_types HO220.out BK222.out (by decide)) (fun _ hk => hk.2) (.int .i64 t217)) (fun _ hk => hk.2) (.slice Ao25 t218.length co25)) (fun _ h_ => h_.1))))) (below_size (by repeat (first | (with_reducible first | exact HB.out | apply below_alloc | apply pw_below_drewN | apply below_drew1 | refine below_set ?_ GE213.out | refine below_set ?_ GE214.out | refine below_set ?_ GE215.out | refine below_set ?_ GE222.out) | exact HB.out)))); have n2_ := bkA BK213 hb; have n3_ := bkA BK214 hb; have n4_ := bkA BK215 hb; have n5_ := Aside0.mk (blk_below (g := gb222) (o := .cells #[.int .i64 t217, .slice Ao25 t218.length co25] 38 (0, 0)) (by (with_reducible repeat (first | refine blk_drewN ?_ _ | refine blk_drew ?_ | refine blk_alloc ?_ _)); refine blk_put (cs := #[.int .i64 t217, .slice none 0 0]) ?_ 1 _ rfl; (with_reducible repeat (first | refine blk_drewN ?_ _ | refine blk_drew ?_ | refine blk_alloc ?_ _)); refine blk_put (cs := #[.int .i64 0, .slice none 0 0]) ?_ 0 _ rfl; (with_reducible repeat (first | refine blk_drewN ?_ _ | refine blk_drew ?_ | refine blk_alloc ?_ _)); exact BK222.out) hb); have n6_ := bsA HB hb; clear HO220; clear BK213; clear BK214; clear BK215; clear BK222; clear HB; have HO220 := n0_; have HO226 := n1_; have BK213 := n2_; have BK214 := n3_; have BK215 := n4_; have BK222 := n5_; have HB := n6_; clear n0_ n1_ n2_ n3_ n4_ n5_ n6_; (try clear hb); (try clear hb2); (try clear hk); (try clear hi); (try clear ho0)) | ((with_reducible refine gate_dst (N := 9) rfl ?_); refine box_event ?hg (N := 9) ?hd (cs := #[.int .i64 0, .slice none 0 0]) (t := 38) ?hr ?_; (case hd => rfl); (case hg => rfl); (case hr => first | (go_simp; done) | (go_simp; rfl)); intro gb228 hg w29 hbox hb; have n0_ := rbA HO220 hb; have n1_ := rbA HO226 hb; have n2_ := bkA BK213 hb; have n3_ := bkA BK214 hb; have n4_ := bkA BK215 hb; have n5_ := bkA BK222 hb; have n6_ := bsA HB hb; have n7_ := Aside0.mk (hbox); have n8_ := szA HB hg; have n9_ := szA HB hg; have n10_ := neA BK213 hg; have n11_ := neB BK213 hg; have n12_ := neA BK214 hg; have n13_ := neB BK214 hg; have n14_ := neA BK215 hg; have n15_ := neB BK215 hg; have n16_ := neA BK222 hg; have n17_ := neB BK222 hg; clear HO220; clear HO226; clear BK213; clear BK214; clear BK215; clear BK222; clear HB; have HO220 := n0_; have HO226 := n1_; have BK213 := n2_; have BK214 := n3_; have BK215 := n4_; have BK222 := n5_; have HB := n6_; have BK228 := n7_; have GW228 := n8_; have GE228 := n9_; have NB213_228 := n10_; have NB228_213 := n11_; have NB214_228 := n12_; have NB228_214 := n13_; have NB215_228 := n14_; have NB228_215 := n15_; have NB222_228 := n16_; have NB228_222 := n17_; clear n0_ n1_ n2_ n3_ n4_ n5_ n6_ n7_ n8_ n9_ n10_ n11_ n12_ n13_ n14_ n15_ n16_ n17_; clear hb hbox hg; have hnb30 := NB228_213.out; have hnc30 := NB213_228.out; have hnb31 := NB228_214.out; have hnc31 := NB214_228.out; have hnb32 := NB228_215.out; have hnc32 := NB215_228.out; have hnb33 := NB228_222.out; have hnc33 := NB222_228.out; have hcz34_0 : w29.cell? ⟨gb228, 0, none⟩ = some (.int .i64 0) := (blk_cell BK228.out 0).trans rfl; have hcz34_1 : w29.cell? ⟨gb228, 1, none⟩ = some (.slice none 0 0) := (blk_cell BK228.out 1).trans rfl; have hfz34_0 := blk_frozen BK228.out 0; have hfz34_1 := blk_frozen BK228.out 1; obtain ⟨Ao35, co35, eo35⟩ := Kd.R_slice HO226.out; subst eo35; have hcz36_0 : w29.cell? ⟨gb213, 0, none⟩ = some (.int .i64 a0_0) := (blk_cell BK213.out 0).trans rfl; have hcz36_1 : w29.cell? ⟨gb213, 1, none⟩ = some (.slice A0_1 l0_1.length c0_1) := (blk_cell BK213.out 1).trans rfl; have hfz36_0 := blk_frozen BK213.out 0; have hfz36_1 := blk_frozen BK213.out 1; have hcz37_0 : w29.cell? ⟨gb214, 0, none⟩ = some (.int .i64 a1_0) := (blk_cell BK214.out 0).trans rfl; have hcz37_1 : w29.cell? ⟨gb214, 1, none⟩ = some (.slice A1_1 l1_1.length c1_1) := (blk_cell BK214.out 1).trans rfl; have hfz37_0 := blk_frozen BK214.out 0; have hfz37_1 := blk_frozen BK214.out 1) | ((with_reducible refine gate_callee (f := 26) rfl ?_); refine goesL_ (some 42) rfl rfl Try.func26 (by kernel_rfl) rfl #[.agg #[.int .i64 a0_0, .slice A0_1 l0_1.length c0_1], .agg #[.int .i64 a1_0, .slice A1_1 l1_1.length c1_1]] rfl (by (try simp only [List.map_toArray, List.map_cons, List.map_nil]); first | done | rfl | (simp only [List.length_drop, List.length_take]; rfl)) ?_; (with_reducible refine (rowset_Or.calls k a0_0 _ _ l0_1 a1_0 _ _ l1_1 t229 t230 t233 _ ?side1 ?side2 ?side3 ?side4 A8.out).mono ?_); (case side1 => exact Kd.C_below HR0_1.out (by repeat (first | (with_reducible first | exact HB.out | apply below_alloc | apply pw_below_drewN | apply below_drew1 | refine below_set ?_ GE213.out | refine below_set ?_ GE214.out | refine below_set ?_ GE215.out | refine below_set ?_ GE222.out | refine below_set ?_ GE228.out) | exact HB.out))); (case side2 => exact HC0_1.out); (case side3 => exact Kd.C_below HR1_1.out (by repeat (first | (with_reducible first | exact HB.out | apply below_alloc | apply pw_below_drewN | apply below_drew1 | refine below_set ?_ GE213.out | refine below_set ?_ GE214.out | refine below_set ?_ GE215.out | refine below_set ?_ GE222.out | refine below_set ?_ GE228.out) | exact HB.out))); (case side4 => exact HC1_1.out); rintro e w38 ⟨v231, rfl, ho0, hb⟩; refine ⟨_, rfl, ?_⟩; have n0_ := Aside0.mk (Kd.R_elder' (by (with_reducible repeat (first | apply Kd.R_alloc | apply Kd.R_drewN | apply Kd.R_drew)); exact (Kd.R_mono (Kd.R_far (p := ⟨gb228, 1, none⟩) (Kd.R_far (p := ⟨gb228, 0, none⟩) (Kd.R_types HO220.out BK228.out (by decide)) (fun _ hk => hk.2) (.int .i64 t223)) (fun _ hk => hk.2) (.slice Ao35 t224.length co35)) (fun _ h_ => h_.1))) (Kd.R_base ho0) hb); have n1_ := Aside0.mk (Kd.R_elder' (by (with_reducible repeat (first | apply Kd.R_alloc | apply Kd.R_drewN | apply Kd.R_drew)); exact (Kd.R_mono (Kd.R_far (p := ⟨gb228, 1, none⟩) (Kd.R_far (p := ⟨gb228, 0, none⟩) (Kd.R_types HO226.out BK228.out (by decide)) (fun _ hk => hk.2) (.int .i64 t223)) (fun _ hk => hk.2) (.slice Ao35 t224.length co35)) (fun _ h_ => h_.1))) (Kd.R_base ho0) hb); have n2_ := Aside0.mk (Kd.R_lower (Kd.R_new' (Kd.R_new' ho0 (Kd.R_lt (by (with_reducible repeat (first | apply Kd.R_alloc | apply Kd.R_drewN | apply Kd.R_drew)); exact (Kd.R_mono (Kd.R_far (p := ⟨gb228, 1, none⟩) (Kd.R_far (p := ⟨gb228, 0, none⟩) (Kd.R_types HO220.out BK228.out (by decide)) (fun _ hk => hk.2) (.int .i64 t223)) (fun _ hk => hk.2) (.slice Ao35 t224.length co35)) (fun _ h_ => h_.1))))) (Kd.R_lt (by (with_reducible repeat (first | apply Kd.R_alloc | apply Kd.R_drewN | apply Kd.R_drew)); exact (Kd.R_mono (Kd.R_far (p := ⟨gb228, 1, none⟩) (Kd.R_far (p := ⟨gb228, 0, none⟩) (Kd.R_types HO226.out BK228.out (by decide)) (fun _ hk => hk.2) (.int .i64 t223)) (fun _ hk => hk.2) (.slice Ao35 t224.length co35)) (fun _ h_ => h_.1))))) (below_size (by repeat (first | (with_reducible first | exact HB.out | apply below_alloc | apply pw_below_drewN | apply below_drew1 | refine below_set ?_ GE213.out | refine below_set ?_ GE214.out | refine below_set ?_ GE215.out | refine below_set ?_ GE222.out | refine below_set ?_ GE228.out) | exact HB.out)))); have n3_ := bkA BK213 hb; have n4_ := bkA BK214 hb; have n5_ := bkA BK215 hb; have n6_ := bkA BK222 hb; have n7_ := Aside0.mk (blk_below (g := gb228) (o := .cells #[.int .i64 t223, .slice Ao35 t224.length co35] 38 (0, 0)) (by (with_reducible repeat (first | refine blk_drewN ?_ _ | refine blk_drew ?_ | refine blk_alloc ?_ _)); refine blk_put (cs := #[.int .i64 t223, .slice none 0 0]) ?_ 1 _ rfl; (with_reducible repeat (first | refine blk_drewN ?_ _ | refine blk_drew ?_ | refine blk_alloc ?_ _)); refine blk_put (cs := #[.int .i64 0, .slice none 0 0]) ?_ 0 _ rfl; (with_reducible repeat (first | refine blk_drewN ?_ _ | refine blk_drew ?_ | refine blk_alloc ?_ _)); exact BK228.out) hb); have n8_ := bsA HB hb; clear HO220; clear HO226; clear BK213; clear BK214; clear BK215; clear BK222; clear BK228; clear HB; have HO220 := n0_; have HO226 := n1_; have HO232 := n2_; have BK213 := n3_; have BK214 := n4_; have BK215 := n5_; have BK222 := n6_; have BK228 := n7_; have HB := n8_; clear n0_ n1_ n2_ n3_ n4_ n5_ n6_ n7_ n8_; (try clear hb); (try clear hb2); (try clear hk); (try clear hi); (try clear ho0)) | ((with_reducible refine gate_dst (N := 11) rfl ?_); refine box_event ?hg (N := 11) ?hd (cs := #[.int .i64 0, .slice none 0 0]) (t := 38) ?hr ?_; (case hd => rfl); (case hg => rfl); (case hr => first | (go_simp; done) | (go_simp; rfl)); intro gb234 hg w39 hbox hb; have n0_ := rbA HO220 hb; have n1_ := rbA HO226 hb; have n2_ := rbA HO232 hb; have n3_ := bkA BK213 hb; have n4_ := bkA BK214 hb; have n5_ := bkA BK215 hb; have n6_ := bkA BK222 hb; have n7_ := bkA BK228 hb; have n8_ := bsA HB hb; have n9_ := Aside0.mk (hbox); have n10_ := szA HB hg; have n11_ := szA HB hg; have n12_ := neA BK213 hg; have n13_ := neB BK213 hg; have n14_ := neA BK214 hg; have n15_ := neB BK214 hg; have n16_ := neA BK215 hg; have n17_ := neB BK215 hg; have n18_ := neA BK222 hg; have n19_ := neB BK222 hg; have n20_ := neA BK228 hg; have n21_ := neB BK228 hg; clear HO220; clear HO226; clear HO232; clear BK213; clear BK214; clear BK215; clear BK222; clear BK228; clear HB; have HO220 := n0_; have HO226 := n1_; have HO232 := n2_; have BK213 := n3_; have BK214 := n4_; have BK215 := n5_; have BK222 := n6_; have BK228 := n7_; have HB := n8_; have BK234 := n9_; have GW234 := n10_; have GE234 := n11_; have NB213_234 := n12_; have NB234_213 := n13_; have NB214_234 := n14_; have NB234_214 := n15_; have NB215_234 := n16_; have NB234_215 := n17_; have NB222_234 := n18_; have NB234_222 := n19_; have NB228_234 := n20_; have NB234_228 := n21_; clear n0_ n1_ n2_ n3_ n4_ n5_ n6_ n7_ n8_ n9_ n10_ n11_ n12_ n13_ n14_ n15_ n16_ n17_ n18_ n19_ n20_ n21_; clear hb hbox hg; have hnb40 := NB234_213.out; have hnc40 := NB213_234.out; have hnb41 := NB234_214.out; have hnc41 := NB214_234.out; have hnb42 := NB234_215.out; have hnc42 := NB215_234.out; have hnb43 := NB234_222.out; have hnc43 := NB222_234.out; have hnb44 := NB234_228.out; have hnc44 := NB228_234.out; have hcz45_0 : w39.cell? ⟨gb234, 0, none⟩ = some (.int .i64 0) := (blk_cell BK234.out 0).trans rfl; have hcz45_1 : w39.cell? ⟨gb234, 1, none⟩ = some (.slice none 0 0) := (blk_cell BK234.out 1).trans rfl; have hfz45_0 := blk_frozen BK234.out 0; have hfz45_1 := blk_frozen BK234.out 1; obtain ⟨Ao46, co46, eo46⟩ := Kd.R_slice HO232.out; subst eo46))
  (try simp only [Act.put, List.setIfInBounds_toArray, List.set_cons_zero, List.set_cons_succ])
  go_cut [54] (fun v54 wc => ∃ (kq : Nat) (x54_8 : Bool), v54 = .bool x54_8 ∧ Aside0 (dragnetlaw09_RowsetSets.j0 kq t221 t227 t233 x54_8 a0_0 l0_1 a1_0 l1_1 a2_0 l2_1 t217 t218 t223 t224 t229 t230 = some true) ∧ Aside0 (kq ≤ k) ∧ Aside0 (Kd.R (Kd.int .u64) 66 wc w.heap.size (fun k_ => some k_ ≠ ((.slice Ao35 t224.length co35) : Value).ownBlock ∧ some k_ ≠ ((.slice Ao46 t230.length co46) : Value).ownBlock) (.slice Ao25 t218.length co25) t218) ∧ Aside0 (Kd.R (Kd.int .u64) 66 wc w.heap.size (fun k_ => some k_ ≠ ((.slice Ao25 t218.length co25) : Value).ownBlock ∧ some k_ ≠ ((.slice Ao46 t230.length co46) : Value).ownBlock) (.slice Ao35 t224.length co35) t224) ∧ Aside0 (Kd.R (Kd.int .u64) 66 wc w.heap.size (fun k_ => some k_ ≠ ((.slice Ao25 t218.length co25) : Value).ownBlock ∧ some k_ ≠ ((.slice Ao35 t224.length co35) : Value).ownBlock) (.slice Ao46 t230.length co46) t230) ∧ Aside0 (wc.heap[gb213]? = some (.cells #[.int .i64 a0_0, (.slice A0_1 l0_1.length c0_1)] 38 (0, 0))) ∧ Aside0 (wc.heap[gb214]? = some (.cells #[.int .i64 a1_0, (.slice A1_1 l1_1.length c1_1)] 38 (0, 0))) ∧ Aside0 (wc.heap[gb215]? = some (.cells #[.int .i64 a2_0, (.slice A2_1 l2_1.length c2_1)] 38 (0, 0))) ∧ Aside0 (wc.heap[gb222]? = some (.cells #[.int .i64 t217, (.slice Ao25 t218.length co25)] 38 (0, 0))) ∧ Aside0 (wc.heap[gb228]? = some (.cells #[.int .i64 t223, (.slice Ao35 t224.length co35)] 38 (0, 0))) ∧ Aside0 (wc.heap[gb234]? = some (.cells #[.int .i64 t229, (.slice Ao46 t230.length co46)] 38 (0, 0))) ∧ Aside0 (Below w.heap.size w wc))
  case first =>
   have H := HC9.out
   clear HC9
   by_cases c47 : t221 = 0
   ·rw [if_pos c47] at H
    have c47b0 : (t221 == 0) = true := beq_iff_eq.mpr c47
    have c47b1 : (t221 != 0) = false := bne_eq_false_iff_eq.mpr c47
    clear c47
    (first | rw [c47b0] | (simp only [i64_w, i32_w]; rw [c47b0]) | skip)
    by_cases c48 : t227 = 0
    ·rw [if_pos c48] at H
     have c48b0 : (t227 == 0) = true := beq_iff_eq.mpr c48
     have c48b1 : (t227 != 0) = false := bne_eq_false_iff_eq.mpr c48
     clear c48
     have H' := Aside0.mk H
     clear H
     go_wp2
     go_meet
     case rel => exact ⟨_, ((t233 != 0)), (by first | rfl | (simp; done) | (simp [*]; done)), H', ⟨by first | omega | exact Nat.le_refl _⟩, ⟨by (with_reducible repeat (first | apply Kd.R_alloc | apply Kd.R_drewN | apply Kd.R_drew)); exact Kd.R_mono (Kd.R_far (p := ⟨gb234, 1, none⟩) (Kd.R_far (p := ⟨gb234, 0, none⟩) (Kd.R_types HO220.out BK234.out (by decide)) (fun _ hk => hk.2) (.int .i64 t229)) (fun _ hk => hk.2) (.slice Ao46 t230.length co46)) (fun _ hk => ⟨hk.1.1.2, hk.1.2⟩)⟩, ⟨by (with_reducible repeat (first | apply Kd.R_alloc | apply Kd.R_drewN | apply Kd.R_drew)); exact Kd.R_mono (Kd.R_far (p := ⟨gb234, 1, none⟩) (Kd.R_far (p := ⟨gb234, 0, none⟩) (Kd.R_types HO226.out BK234.out (by decide)) (fun _ hk => hk.2) (.int .i64 t229)) (fun _ hk => hk.2) (.slice Ao46 t230.length co46)) (fun _ hk => ⟨hk.1.1.2, hk.1.2⟩)⟩, ⟨by (with_reducible repeat (first | apply Kd.R_alloc | apply Kd.R_drewN | apply Kd.R_drew)); exact Kd.R_mono (Kd.R_far (p := ⟨gb234, 1, none⟩) (Kd.R_far (p := ⟨gb234, 0, none⟩) (Kd.R_types HO232.out BK234.out (by decide)) (fun _ hk => hk.2) (.int .i64 t229)) (fun _ hk => hk.2) (.slice Ao46 t230.length co46)) (fun _ hk => ⟨hk.1.1.2, hk.1.2⟩)⟩, ⟨by (with_reducible repeat (first | refine blk_drewN ?_ _ | refine blk_drew ?_ | refine blk_alloc ?_ _)); refine blk_far ?_ NB213_234.out _; (with_reducible repeat (first | refine blk_drewN ?_ _ | refine blk_drew ?_ | refine blk_alloc ?_ _)); refine blk_far ?_ NB213_234.out _; (with_reducible repeat (first | refine blk_drewN ?_ _ | refine blk_drew ?_ | refine blk_alloc ?_ _)); exact BK213.out⟩, ⟨by (with_reducible repeat (first | refine blk_drewN ?_ _ | refine blk_drew ?_ | refine blk_alloc ?_ _)); refine blk_far ?_ NB214_234.out _; (with_reducible repeat (first | refine blk_drewN ?_ _ | refine blk_drew ?_ | refine blk_alloc ?_ _)); refine blk_far ?_ NB214_234.out _; (with_reducible repeat (first | refine blk_drewN ?_ _ | refine blk_drew ?_ | refine blk_alloc ?_ _)); exact BK214.out⟩, ⟨by (with_reducible repeat (first | refine blk_drewN ?_ _ | refine blk_drew ?_ | refine blk_alloc ?_ _)); refine blk_far ?_ NB215_234.out _; (with_reducible repeat (first | refine blk_drewN ?_ _ | refine blk_drew ?_ | refine blk_alloc ?_ _)); refine blk_far ?_ NB215_234.out _; (with_reducible repeat (first | refine blk_drewN ?_ _ | refine blk_drew ?_ | refine blk_alloc ?_ _)); exact BK215.out⟩, ⟨by (with_reducible repeat (first | refine blk_drewN ?_ _ | refine blk_drew ?_ | refine blk_alloc ?_ _)); refine blk_far ?_ NB222_234.out _; (with_reducible repeat (first | refine blk_drewN ?_ _ | refine blk_drew ?_ | refine blk_alloc ?_ _)); refine blk_far ?_ NB222_234.out _; (with_reducible repeat (first | refine blk_drewN ?_ _ | refine blk_drew ?_ | refine blk_alloc ?_ _)); exact BK222.out⟩, ⟨by (with_reducible repeat (first | refine blk_drewN ?_ _ | refine blk_drew ?_ | refine blk_alloc ?_ _)); refine blk_far ?_ NB228_234.out _; (with_reducible repeat (first | refine blk_drewN ?_ _ | refine blk_drew ?_ | refine blk_alloc ?_ _)); refine blk_far ?_ NB228_234.out _; (with_reducible repeat (first | refine blk_drewN ?_ _ | refine blk_drew ?_ | refine blk_alloc ?_ _)); exact BK228.out⟩, ⟨by (with_reducible repeat (first | refine blk_drewN ?_ _ | refine blk_drew ?_ | refine blk_alloc ?_ _)); refine blk_put (cs := #[.int .i64 t229, .slice none 0 0]) ?_ 1 _ rfl; (with_reducible repeat (first | refine blk_drewN ?_ _ | refine blk_drew ?_ | refine blk_alloc ?_ _)); refine blk_put (cs := #[.int .i64 0, .slice none 0 0]) ?_ 0 _ rfl; (with_reducible repeat (first | refine blk_drewN ?_ _ | refine blk_drew ?_ | refine blk_alloc ?_ _)); exact BK234.out⟩, ⟨by repeat (first | (with_reducible first | exact HB.out | apply below_alloc | apply pw_below_drewN | apply below_drew1 | refine below_set ?_ GE213.out | refine below_set ?_ GE214.out | refine below_set ?_ GE215.out | refine below_set ?_ GE222.out | refine below_set ?_ GE228.out | refine below_set ?_ GE234.out) | exact HB.out)⟩⟩
    ·rw [if_neg c48] at H
     have c48b0 : (t227 == 0) = false := beq_eq_false_iff_ne.mpr c48
     have c48b1 : (t227 != 0) = true := bne_iff_ne.mpr c48
     have H' := Aside0.mk H
     clear H
     go_wp2
     go_meet
     case rel => exact ⟨_, (true), (by first | rfl | (simp; done) | (simp [*]; done)), H', ⟨by first | omega | exact Nat.le_refl _⟩, ⟨by (with_reducible repeat (first | apply Kd.R_alloc | apply Kd.R_drewN | apply Kd.R_drew)); exact Kd.R_mono (Kd.R_far (p := ⟨gb234, 1, none⟩) (Kd.R_far (p := ⟨gb234, 0, none⟩) (Kd.R_types HO220.out BK234.out (by decide)) (fun _ hk => hk.2) (.int .i64 t229)) (fun _ hk => hk.2) (.slice Ao46 t230.length co46)) (fun _ hk => ⟨hk.1.1.2, hk.1.2⟩)⟩, ⟨by (with_reducible repeat (first | apply Kd.R_alloc | apply Kd.R_drewN | apply Kd.R_drew)); exact Kd.R_mono (Kd.R_far (p := ⟨gb234, 1, none⟩) (Kd.R_far (p := ⟨gb234, 0, none⟩) (Kd.R_types HO226.out BK234.out (by decide)) (fun _ hk => hk.2) (.int .i64 t229)) (fun _ hk => hk.2) (.slice Ao46 t230.length co46)) (fun _ hk => ⟨hk.1.1.2, hk.1.2⟩)⟩, ⟨by (with_reducible repeat (first | apply Kd.R_alloc | apply Kd.R_drewN | apply Kd.R_drew)); exact Kd.R_mono (Kd.R_far (p := ⟨gb234, 1, none⟩) (Kd.R_far (p := ⟨gb234, 0, none⟩) (Kd.R_types HO232.out BK234.out (by decide)) (fun _ hk => hk.2) (.int .i64 t229)) (fun _ hk => hk.2) (.slice Ao46 t230.length co46)) (fun _ hk => ⟨hk.1.1.2, hk.1.2⟩)⟩, ⟨by (with_reducible repeat (first | refine blk_drewN ?_ _ | refine blk_drew ?_ | refine blk_alloc ?_ _)); refine blk_far ?_ NB213_234.out _; (with_reducible repeat (first | refine blk_drewN ?_ _ | refine blk_drew ?_ | refine blk_alloc ?_ _)); refine blk_far ?_ NB213_234.out _; (with_reducible repeat (first | refine blk_drewN ?_ _ | refine blk_drew ?_ | refine blk_alloc ?_ _)); exact BK213.out⟩, ⟨by (with_reducible repeat (first | refine blk_drewN ?_ _ | refine blk_drew ?_ | refine blk_alloc ?_ _)); refine blk_far ?_ NB214_234.out _; (with_reducible repeat (first | refine blk_drewN ?_ _ | refine blk_drew ?_ | refine blk_alloc ?_ _)); refine blk_far ?_ NB214_234.out _; (with_reducible repeat (first | refine blk_drewN ?_ _ | refine blk_drew ?_ | refine blk_alloc ?_ _)); exact BK214.out⟩, ⟨by (with_reducible repeat (first | refine blk_drewN ?_ _ | refine blk_drew ?_ | refine blk_alloc ?_ _)); refine blk_far ?_ NB215_234.out _; (with_reducible repeat (first | refine blk_drewN ?_ _ | refine blk_drew ?_ | refine blk_alloc ?_ _)); refine blk_far ?_ NB215_234.out _; (with_reducible repeat (first | refine blk_drewN ?_ _ | refine blk_drew ?_ | refine blk_alloc ?_ _)); exact BK215.out⟩, ⟨by (with_reducible repeat (first | refine blk_drewN ?_ _ | refine blk_drew ?_ | refine blk_alloc ?_ _)); refine blk_far ?_ NB222_234.out _; (with_reducible repeat (first | refine blk_drewN ?_ _ | refine blk_drew ?_ | refine blk_alloc ?_ _)); refine blk_far ?_ NB222_234.out _; (with_reducible repeat (first | refine blk_drewN ?_ _ | refine blk_drew ?_ | refine blk_alloc ?_ _)); exact BK222.out⟩, ⟨by (with_reducible repeat (first | refine blk_drewN ?_ _ | refine blk_drew ?_ | refine blk_alloc ?_ _)); refine blk_far ?_ NB228_234.out _; (with_reducible repeat (first | refine blk_drewN ?_ _ | refine blk_drew ?_ | refine blk_alloc ?_ _)); refine blk_far ?_ NB228_234.out _; (with_reducible repeat (first | refine blk_drewN ?_ _ | refine blk_drew ?_ | refine blk_alloc ?_ _)); exact BK228.out⟩, ⟨by (with_reducible repeat (first | refine blk_drewN ?_ _ | refine blk_drew ?_ | refine blk_alloc ?_ _)); refine blk_put (cs := #[.int .i64 t229, .slice none 0 0]) ?_ 1 _ rfl; (with_reducible repeat (first | refine blk_drewN ?_ _ | refine blk_drew ?_ | refine blk_alloc ?_ _)); refine blk_put (cs := #[.int .i64 0, .slice none 0 0]) ?_ 0 _ rfl; (with_reducible repeat (first | refine blk_drewN ?_ _ | refine blk_drew ?_ | refine blk_alloc ?_ _)); exact BK234.out⟩, ⟨by repeat (first | (with_reducible first | exact HB.out | apply below_alloc | apply pw_below_drewN | apply below_drew1 | refine below_set ?_ GE213.out | refine below_set ?_ GE214.out | refine below_set ?_ GE215.out | refine below_set ?_ GE222.out | refine below_set ?_ GE228.out | refine below_set ?_ GE234.out) | exact HB.out)⟩⟩
   ·rw [if_neg c47] at H
    have c47b0 : (t221 == 0) = false := beq_eq_false_iff_ne.mpr c47
    have c47b1 : (t221 != 0) = true := bne_iff_ne.mpr c47
    (first | rw [c47b0] | (simp only [i64_w, i32_w]; rw [c47b0]) | skip)
    have H' := Aside0.mk H
    clear H
    go_wp2
    go_meet
    case rel => exact ⟨_, (true), (by first | rfl | (simp; done) | (simp [*]; done)), H', ⟨by first | omega | exact Nat.le_refl _⟩, ⟨by (with_reducible repeat (first | apply Kd.R_alloc | apply Kd.R_drewN | apply Kd.R_drew)); exact Kd.R_mono (Kd.R_far (p := ⟨gb234, 1, none⟩) (Kd.R_far (p := ⟨gb234, 0, none⟩) (Kd.R_types HO220.out BK234.out (by decide)) (fun _ hk => hk.2) (.int .i64 t229)) (fun _ hk => hk.2) (.slice Ao46 t230.length co46)) (fun _ hk => ⟨hk.1.1.2, hk.1.2⟩)⟩, ⟨by (with_reducible repeat (first | apply Kd.R_alloc | apply Kd.R_drewN | apply Kd.R_drew)); exact Kd.R_mono (Kd.R_far (p := ⟨gb234, 1, none⟩) (Kd.R_far (p := ⟨gb234, 0, none⟩) (Kd.R_types HO226.out BK234.out (by decide)) (fun _ hk => hk.2) (.int .i64 t229)) (fun _ hk => hk.2) (.slice Ao46 t230.length co46)) (fun _ hk => ⟨hk.1.1.2, hk.1.2⟩)⟩, ⟨by (with_reducible repeat (first | apply Kd.R_alloc | apply Kd.R_drewN | apply Kd.R_drew)); exact Kd.R_mono (Kd.R_far (p := ⟨gb234, 1, none⟩) (Kd.R_far (p := ⟨gb234, 0, none⟩) (Kd.R_types HO232.out BK234.out (by decide)) (fun _ hk => hk.2) (.int .i64 t229)) (fun _ hk => hk.2) (.slice Ao46 t230.length co46)) (fun _ hk => ⟨hk.1.1.2, hk.1.2⟩)⟩, ⟨by (with_reducible repeat (first | refine blk_drewN ?_ _ | refine blk_drew ?_ | refine blk_alloc ?_ _)); refine blk_far ?_ NB213_234.out _; (with_reducible repeat (first | refine blk_drewN ?_ _ | refine blk_drew ?_ | refine blk_alloc ?_ _)); refine blk_far ?_ NB213_234.out _; (with_reducible repeat (first | refine blk_drewN ?_ _ | refine blk_drew ?_ | refine blk_alloc ?_ _)); exact BK213.out⟩, ⟨by (with_reducible repeat (first | refine blk_drewN ?_ _ | refine blk_drew ?_ | refine blk_alloc ?_ _)); refine blk_far ?_ NB214_234.out _; (with_reducible repeat (first | refine blk_drewN ?_ _ | refine blk_drew ?_ | refine blk_alloc ?_ _)); refine blk_far ?_ NB214_234.out _; (with_reducible repeat (first | refine blk_drewN ?_ _ | refine blk_drew ?_ | refine blk_alloc ?_ _)); exact BK214.out⟩, ⟨by (with_reducible repeat (first | refine blk_drewN ?_ _ | refine blk_drew ?_ | refine blk_alloc ?_ _)); refine blk_far ?_ NB215_234.out _; (with_reducible repeat (first | refine blk_drewN ?_ _ | refine blk_drew ?_ | refine blk_alloc ?_ _)); refine blk_far ?_ NB215_234.out _; (with_reducible repeat (first | refine blk_drewN ?_ _ | refine blk_drew ?_ | refine blk_alloc ?_ _)); exact BK215.out⟩, ⟨by (with_reducible repeat (first | refine blk_drewN ?_ _ | refine blk_drew ?_ | refine blk_alloc ?_ _)); refine blk_far ?_ NB222_234.out _; (with_reducible repeat (first | refine blk_drewN ?_ _ | refine blk_drew ?_ | refine blk_alloc ?_ _)); refine blk_far ?_ NB222_234.out _; (with_reducible repeat (first | refine blk_drewN ?_ _ | refine blk_drew ?_ | refine blk_alloc ?_ _)); exact BK222.out⟩, ⟨by (with_reducible repeat (first | refine blk_drewN ?_ _ | refine blk_drew ?_ | refine blk_alloc ?_ _)); refine blk_far ?_ NB228_234.out _; (with_reducible repeat (first | refine blk_drewN ?_ _ | refine blk_drew ?_ | refine blk_alloc ?_ _)); refine blk_far ?_ NB228_234.out _; (with_reducible repeat (first | refine blk_drewN ?_ _ | refine blk_drew ?_ | refine blk_alloc ?_ _)); exact BK228.out⟩, ⟨by (with_reducible repeat (first | refine blk_drewN ?_ _ | refine blk_drew ?_ | refine blk_alloc ?_ _)); refine blk_put (cs := #[.int .i64 t229, .slice none 0 0]) ?_ 1 _ rfl; (with_reducible repeat (first | refine blk_drewN ?_ _ | refine blk_drew ?_ | refine blk_alloc ?_ _)); refine blk_put (cs := #[.int .i64 0, .slice none 0 0]) ?_ 0 _ rfl; (with_reducible repeat (first | refine blk_drewN ?_ _ | refine blk_drew ?_ | refine blk_alloc ?_ _)); exact BK234.out⟩, ⟨by repeat (first | (with_reducible first | exact HB.out | apply below_alloc | apply pw_below_drewN | apply below_drew1 | refine below_set ?_ GE213.out | refine below_set ?_ GE214.out | refine below_set ?_ GE215.out | refine below_set ?_ GE222.out | refine below_set ?_ GE228.out | refine below_set ?_ GE234.out) | exact HB.out)⟩⟩
  case rest =>
   clear HC9
   try clear c1
   try clear c2
   try clear p2
   try clear c3
   try clear c4
   try clear c5
   try clear c6
   try clear c14
   try clear c15
   try clear c17
   try clear c21
   try clear c22
   try clear c23
   try clear c25
   try clear c26
   try clear c27
   try clear c30
   try clear c31
   try clear c32
   try clear c33
   try clear c40
   try clear c41
   try clear c42
   try clear c43
   try clear c44
   try clear c47
   try clear c47b0
   try clear c47b1
   try clear c48
   try clear c48b0
   try clear c48b1
   try clear hcz16_0
   try clear hcz16_1
   try clear hcz18_0
   try clear hcz18_1
   try clear hcz24_0
   try clear hcz24_1
   try clear hcz26_0
   try clear hcz26_1
   try clear hcz27_0
   try clear hcz27_1
   try clear hcz34_0
   try clear hcz34_1
   try clear hcz36_0
   try clear hcz36_1
   try clear hcz37_0
   try clear hcz37_1
   try clear hcz45_0
   try clear hcz45_1
   try clear hfz16_0
   try clear hfz16_1
   try clear hfz18_0
   try clear hfz18_1
   try clear hfz24_0
   try clear hfz24_1
   try clear hfz26_0
   try clear hfz26_1
   try clear hfz27_0
   try clear hfz27_1
   try clear hfz34_0
   try clear hfz34_1
   try clear hfz36_0
   try clear hfz36_1
   try clear hfz37_0
   try clear hfz37_1
   try clear hfz45_0
   try clear hfz45_1
   obtain ⟨kq, x54_8, rfl, HA, HJ8, HO_223001, HO_229001, HO_235001, BK213, BK214, BK215, BK222, BK228, BK234, HB⟩ := hcut
   cases kq with
   | zero => exact absurd HA.out (by simp [dragnetlaw09_RowsetSets.j0])
   | succ kj8 =>
    have H := HA.out
    clear HA
    simp only [dragnetlaw09_RowsetSets.j0] at H
    by_cases c49 : x54_8 = true
    ·subst c49
     have H1 : (if t221 = t227 then (if t227 = t233 then ((rowset_Has.f t217 t218 0).bind fun t235 => (some (!t235))) else (some false)) else (some false)) = some true := by rw [if_pos rfl] at H; exact H
     clear H
     have H := H1
     clear H1
     by_cases c50 : t221 = t227
     ·rw [if_pos c50] at H
      have c50b0 : (t221 == t227) = true := beq_iff_eq.mpr c50
      have c50b1 : (t221 != t227) = false := bne_eq_false_iff_eq.mpr c50
      clear c50
      by_cases c51 : t227 = t233
      ·rw [if_pos c51] at H
       have c51b0 : (t227 == t233) = true := beq_iff_eq.mpr c51
       have c51b1 : (t227 != t233) = false := bne_eq_false_iff_eq.mpr c51
       clear c51
       replace H := Option.bind_eq_some_iff.mp H
       obtain ⟨t235, A520, H⟩ := H
       replace H : (some (!t235)) = some true := H
       have A52 := Aside0.mk A520
       clear A520
       have Hr_ := Option.some.inj H
       have hnb53 := NB222_213.out
       have hnc53 := NB213_222.out
       have hnb54 := NB222_214.out
       have hnc54 := NB214_222.out
       have hnb55 := NB222_215.out
       have hnc55 := NB215_222.out
       have hnb56 := NB222_228.out
       have hnc56 := NB228_222.out
       have hnb57 := NB222_234.out
       have hnc57 := NB234_222.out
       have hcz58_0 : wc.cell? ⟨gb222, 0, none⟩ = some (.int .i64 t217) := (blk_cell BK222.out 0).trans rfl
       have hcz58_1 : wc.cell? ⟨gb222, 1, none⟩ = some (.slice Ao25 t218.length co25) := (blk_cell BK222.out 1).trans rfl
       have hfz58_0 := blk_frozen BK222.out 0
       have hfz58_1 := blk_frozen BK222.out 1
       go_wp2_with (first | (go_at_call 30; (with_reducible refine (rowset_Has.calls t217 _ _ t218 0 t235 _ ?side1 ?side2 A52.out).mono ?_); (case side1 => repeat (first | exact (Kd.R_reads' HO_223001.out).2.2 | (with_reducible refine Kd.C_alloc ?_ _) | (with_reducible refine Kd.C_drewN ?_ _) | (with_reducible refine Kd.C_drew ?_))); (case side2 => exact (Kd.R_reads' HO_223001.out).2.1); rintro e w59 ⟨rfl, hb⟩; have n0_ := rbA HO_223001 hb; have n1_ := rbA HO_229001 hb; have n2_ := rbA HO_235001 hb; have n3_ := bkA BK213 hb; have n4_ := bkA BK214 hb; have n5_ := bkA BK215 hb; have n6_ := bkA BK222 hb; have n7_ := bkA BK228 hb; have n8_ := bkA BK234 hb; have n9_ := bsA HB hb; clear HO_223001; clear HO_229001; clear HO_235001; clear BK213; clear BK214; clear BK215; clear BK222; clear BK228; clear BK234; clear HB; have HO_223001 := n0_; have HO_229001 := n1_; have HO_235001 := n2_; have BK213 := n3_; have BK214 := n4_; have BK215 := n5_; have BK222 := n6_; have BK228 := n7_; have BK234 := n8_; have HB := n9_; clear n0_ n1_ n2_ n3_ n4_ n5_ n6_ n7_ n8_ n9_; (try clear hb); (try clear hb2); (try clear hk); (try clear hi)))
       go_ret
       exact ⟨by first | rfl | (simp [errW_none, errW_some] <;> rfl) | (simp [*, errW_none, errW_some] <;> rfl), by repeat (first | (with_reducible first | exact HB.out | apply below_alloc | apply pw_below_drewN | apply below_drew1 | refine below_set ?_ GE213.out | refine below_set ?_ GE214.out | refine below_set ?_ GE215.out | refine below_set ?_ GE222.out | refine below_set ?_ GE228.out | refine below_set ?_ GE234.out) | exact HB.out)⟩
      ·rw [if_neg c51] at H
       have c51b0 : (t227 == t233) = false := beq_eq_false_iff_ne.mpr c51
       have c51b1 : (t227 != t233) = true := bne_iff_ne.mpr c51
       exact absurd H (by simp)
     ·rw [if_neg c50] at H
      have c50b0 : (t221 == t227) = false := beq_eq_false_iff_ne.mpr c50
      have c50b1 : (t221 != t227) = true := bne_iff_ne.mpr c50
      exact absurd H (by simp)
    ·replace c49 := Bool.eq_false_iff.mpr c49
     subst c49
     have H1 : ((rowset_Or.f kj8 t223 t224 t217 t218).bind fun bt236 => ((rowset_Or.f kj8 a1_0 l1_1 a0_0 l0_1).bind fun bt242 => (if bt236.2.2 = 0 then (if bt242.2.2 = 0 then ((dragnetref09_Same.f kj8 bt236.1 bt236.2.1 a0_0 l0_1).bind fun t248 => (if t248 = true then ((dragnetref09_Same.f kj8 bt242.1 bt242.2.1 t229 t230).bind fun t249 => (if t249 = true then ((rowset_Count.f kj8 t217 t218).bind fun t250 => ((rowset_Count.f kj8 t229 t230).bind fun t251 => ((rowset_Count.f kj8 a0_0 l0_1).bind fun t252 => ((rowset_Count.f kj8 a1_0 l1_1).bind fun t253 => (dragnetlaw09_RowsetSets.j1 kj8 ((wrap64 (t250 + t251)) != (wrap64 (t252 + t253))) a0_0 l0_1 a1_0 l1_1 a2_0 l2_1 t229 t230))))) else (dragnetlaw09_RowsetSets.j1 kj8 true a0_0 l0_1 a1_0 l1_1 a2_0 l2_1 t229 t230))) else (dragnetlaw09_RowsetSets.j1 kj8 true a0_0 l0_1 a1_0 l1_1 a2_0 l2_1 t229 t230))) else (dragnetlaw09_RowsetSets.j1 kj8 true a0_0 l0_1 a1_0 l1_1 a2_0 l2_1 t229 t230)) else (dragnetlaw09_RowsetSets.j1 kj8 true a0_0 l0_1 a1_0 l1_1 a2_0 l2_1 t229 t230)))) = some true := by rw [if_neg (show ¬ (false = true) by decide)] at H; exact H
     clear H
     have H := H1
     clear H1
     replace H := Option.bind_eq_some_iff.mp H
     obtain ⟨⟨t236, t237, t240⟩, A600, H⟩ := H
     replace H : ((rowset_Or.f kj8 a1_0 l1_1 a0_0 l0_1).bind fun bt242 => (if t240 = 0 then (if bt242.2.2 = 0 then ((dragnetref09_Same.f kj8 t236 t237 a0_0 l0_1).bind fun t248 => (if t248 = true then ((dragnetref09_Same.f kj8 bt242.1 bt242.2.1 t229 t230).bind fun t249 => (if t249 = true then ((rowset_Count.f kj8 t217 t218).bind fun t250 => ((rowset_Count.f kj8 t229 t230).bind fun t251 => ((rowset_Count.f kj8 a0_0 l0_1).bind fun t252 => ((rowset_Count.f kj8 a1_0 l1_1).bind fun t253 => (dragnetlaw09_RowsetSets.j1 kj8 ((wrap64 (t250 + t251)) != (wrap64 (t252 + t253))) a0_0 l0_1 a1_0 l1_1 a2_0 l2_1 t229 t230))))) else (dragnetlaw09_RowsetSets.j1 kj8 true a0_0 l0_1 a1_0 l1_1 a2_0 l2_1 t229 t230))) else (dragnetlaw09_RowsetSets.j1 kj8 true a0_0 l0_1 a1_0 l1_1 a2_0 l2_1 t229 t230))) else (dragnetlaw09_RowsetSets.j1 kj8 true a0_0 l0_1 a1_0 l1_1 a2_0 l2_1 t229 t230)) else (dragnetlaw09_RowsetSets.j1 kj8 true a0_0 l0_1 a1_0 l1_1 a2_0 l2_1 t229 t230))) = some true := H
     have A60 := Aside0.mk A600
     clear A600
     replace H := Option.bind_eq_some_iff.mp H
     obtain ⟨⟨t242, t243, t246⟩, A610, H⟩ := H
     replace H : (if t240 = 0 then (if t246 = 0 then ((dragnetref09_Same.f kj8 t236 t237 a0_0 l0_1).bind fun t248 => (if t248 = true then ((dragnetref09_Same.f kj8 t242 t243 t229 t230).bind fun t249 => (if t249 = true then ((rowset_Count.f kj8 t217 t218).bind fun t250 => ((rowset_Count.f kj8 t229 t230).bind fun t251 => ((rowset_Count.f kj8 a0_0 l0_1).bind fun t252 => ((rowset_Count.f kj8 a1_0 l1_1).bind fun t253 => (dragnetlaw09_RowsetSets.j1 kj8 ((wrap64 (t250 + t251)) != (wrap64 (t252 + t253))) a0_0 l0_1 a1_0 l1_1 a2_0 l2_1 t229 t230))))) else (dragnetlaw09_RowsetSets.j1 kj8 true a0_0 l0_1 a1_0 l1_1 a2_0 l2_1 t229 t230))) else (dragnetlaw09_RowsetSets.j1 kj8 true a0_0 l0_1 a1_0 l1_1 a2_0 l2_1 t229 t230))) else (dragnetlaw09_RowsetSets.j1 kj8 true a0_0 l0_1 a1_0 l1_1 a2_0 l2_1 t229 t230)) else (dragnetlaw09_RowsetSets.j1 kj8 true a0_0 l0_1 a1_0 l1_1 a2_0 l2_1 t229 t230)) = some true := H
     have A61 := Aside0.mk A610
     clear A610
     have HC62 := Aside0.mk H
     clear H
     have hnb63 := NB228_213.out
     have hnc63 := NB213_228.out
     have hnb64 := NB228_214.out
     have hnc64 := NB214_228.out
     have hnb65 := NB228_215.out
     have hnc65 := NB215_228.out
     have hnb66 := NB228_222.out
     have hnc66 := NB222_228.out
     have hnb67 := NB228_234.out
     have hnc67 := NB234_228.out
     have hcz68_0 : wc.cell? ⟨gb228, 0, none⟩ = some (.int .i64 t223) := (blk_cell BK228.out 0).trans rfl
     have hcz68_1 : wc.cell? ⟨gb228, 1, none⟩ = some (.slice Ao35 t224.length co35) := (blk_cell BK228.out 1).trans rfl
     have hfz68_0 := blk_frozen BK228.out 0
     have hfz68_1 := blk_frozen BK228.out 1
     have hnb69 := NB222_213.out
     have hnc69 := NB213_222.out
     have hnb70 := NB222_214.out
     have hnc70 := NB214_222.out
     have hnb71 := NB222_215.out
     have hnc71 := NB215_222.out
     have hnb72 := NB222_234.out
     have hnc72 := NB234_222.out
     have hcz73_0 : wc.cell? ⟨gb222, 0, none⟩ = some (.int .i64 t217) := (blk_cell BK222.out 0).trans rfl
     have hcz73_1 : wc.cell? ⟨gb222, 1, none⟩ = some (.slice Ao25 t218.length co25) := (blk_cell BK222.out 1).trans rfl
     have hfz73_0 := blk_frozen BK222.out 0
     have hfz73_1 := blk_frozen BK222.out 1
     go_upto_region 10 with (first | ((with_reducible refine gate_callee (f := 26) rfl ?_); refine goesL_ (some 71) rfl rfl Try.func26 (by kernel_rfl) rfl #[.agg #[.int .i64 t223, .slice Ao35 t224.length co35], .agg #[.int .i64 t217, .slice Ao25 t218.length co25]] rfl (by (try simp only [List.map_toArray, List.map_cons, List.map_nil]); first | done | rfl | (simp only [List.length_drop, List.length_take]; rfl)) ?_; (with_reducible refine (rowset_Or.calls kj8 t223 _ _ t224 t217 _ _ t218 t236 t237 t240 _ ?side1 ?side2 ?side3 ?side4 A60.out).mono ?_); (case side1 => repeat (first | exact (Kd.R_reads' HO_229001.out).2.2 | (with_reducible refine Kd.C_alloc ?_ _) | (with_reducible refine Kd.C_drewN ?_ _) | (with_reducible refine Kd.C_drew ?_))); (case side2 => exact (Kd.R_reads' HO_229001.out).2.1); (case side3 => repeat (first | exact (Kd.R_reads' HO_223001.out).2.2 | (with_reducible refine Kd.C_alloc ?_ _) | (with_reducible refine Kd.C_drewN ?_ _) | (with_reducible refine Kd.C_drew ?_))); (case side4 => exact (Kd.R_reads' HO_223001.out).2.1); rintro e w74 ⟨v238, rfl, ho0, hb⟩; refine ⟨_, rfl, ?_⟩; have n0_ := Aside0.mk (Kd.R_elder' (by (with_reducible repeat (first | apply Kd.R_alloc | apply Kd.R_drewN | apply Kd.R_drew)); exact HO_223001.out) (Kd.R_base ho0) hb); have n1_ := Aside0.mk (Kd.R_elder' (by (with_reducible repeat (first | apply Kd.R_alloc | apply Kd.R_drewN | apply Kd.R_drew)); exact HO_229001.out) (Kd.R_base ho0) hb); have n2_ := Aside0.mk (Kd.R_elder' (by (with_reducible repeat (first | apply Kd.R_alloc | apply Kd.R_drewN | apply Kd.R_drew)); exact HO_235001.out) (Kd.R_base ho0) hb); have n3_ := Aside0.mk (Kd.R_lower (Kd.R_new' (Kd.R_new' (Kd.R_new' ho0 (Kd.R_lt (by (with_reducible repeat (first | apply Kd.R_alloc | apply Kd.R_drewN | apply Kd.R_drew)); exact HO_223001.out))) (Kd.R_lt (by (with_reducible repeat (first | apply Kd.R_alloc | apply Kd.R_drewN | apply Kd.R_drew)); exact HO_229001.out))) (Kd.R_lt (by (with_reducible repeat (first | apply Kd.R_alloc | apply Kd.R_drewN | apply Kd.R_drew)); exact HO_235001.out))) (below_size (by repeat (first | (with_reducible first | exact HB.out | apply below_alloc | apply pw_below_drewN | apply below_drew1 | refine below_set ?_ GE213.out | refine below_set ?_ GE214.out | refine below_set ?_ GE215.out | refine below_set ?_ GE222.out | refine below_set ?_ GE228.out | refine below_set ?_ GE234.out) | exact HB.out)))); have n4_ := bkA BK213 hb; have n5_ := bkA BK214 hb; have n6_ := bkA BK215 hb; have n7_ := bkA BK222 hb; have n8_ := bkA BK228 hb; have n9_ := bkA BK234 hb; have n10_ := bsA HB hb; clear HO_223001; clear HO_229001; clear HO_235001; clear BK213; clear BK214; clear BK215; clear BK222; clear BK228; clear BK234; clear HB; have HO_223001 := n0_; have HO_229001 := n1_; have HO_235001 := n2_; have HO239 := n3_; have BK213 := n4_; have BK214 := n5_; have BK215 := n6_; have BK222 := n7_; have BK228 := n8_; have BK234 := n9_; have HB := n10_; clear n0_ n1_ n2_ n3_ n4_ n5_ n6_ n7_ n8_ n9_ n10_; (try clear hb); (try clear hb2); (try clear hk); (try clear hi); (try clear ho0)) | ((with_reducible refine gate_dst (N := 13) rfl ?_); refine box_event ?hg (N := 13) ?hd (cs := #[.int .i64 0, .slice none 0 0]) (t := 38) ?hr ?_; (case hd => rfl); (case hg => rfl); (case hr => first | (go_simp; done) | (go_simp; rfl)); intro gb241 hg w75 hbox hb; have n0_ := rbA HO_223001 hb; have n1_ := rbA HO_229001 hb; have n2_ := rbA HO_235001 hb; have n3_ := rbA HO239 hb; have n4_ := bkA BK213 hb; have n5_ := bkA BK214 hb; have n6_ := bkA BK215 hb; have n7_ := bkA BK222 hb; have n8_ := bkA BK228 hb; have n9_ := bkA BK234 hb; have n10_ := bsA HB hb; have n11_ := Aside0.mk (hbox); have n12_ := szA HB hg; have n13_ := szA HB hg; have n14_ := neA BK213 hg; have n15_ := neB BK213 hg; have n16_ := neA BK214 hg; have n17_ := neB BK214 hg; have n18_ := neA BK215 hg; have n19_ := neB BK215 hg; have n20_ := neA BK222 hg; have n21_ := neB BK222 hg; have n22_ := neA BK228 hg; have n23_ := neB BK228 hg; have n24_ := neA BK234 hg; have n25_ := neB BK234 hg; clear HO_223001; clear HO_229001; clear HO_235001; clear HO239; clear BK213; clear BK214; clear BK215; clear BK222; clear BK228; clear BK234; clear HB; have HO_223001 := n0_; have HO_229001 := n1_; have HO_235001 := n2_; have HO239 := n3_; have BK213 := n4_; have BK214 := n5_; have BK215 := n6_; have BK222 := n7_; have BK228 := n8_; have BK234 := n9_; have HB := n10_; have BK241 := n11_; have GW241 := n12_; have GE241 := n13_; have NB213_241 := n14_; have NB241_213 := n15_; have NB214_241 := n16_; have NB241_214 := n17_; have NB215_241 := n18_; have NB241_215 := n19_; have NB222_241 := n20_; have NB241_222 := n21_; have NB228_241 := n22_; have NB241_228 := n23_; have NB234_241 := n24_; have NB241_234 := n25_; clear n0_ n1_ n2_ n3_ n4_ n5_ n6_ n7_ n8_ n9_ n10_ n11_ n12_ n13_ n14_ n15_ n16_ n17_ n18_ n19_ n20_ n21_ n22_ n23_ n24_ n25_; clear hb hbox hg; have hnb76 := NB241_213.out; have hnc76 := NB213_241.out; have hnb77 := NB241_214.out; have hnc77 := NB214_241.out; have hnb78 := NB241_215.out; have hnc78 := NB215_241.out; have hnb79 := NB241_222.out; have hnc79 := NB222_241.out; have hnb80 := NB241_228.out; have hnc80 := NB228_241.out; have hnb81 := NB241_234.out; have hnc81 := NB234_241.out; have hcz82_0 : w75.cell? ⟨gb241, 0, none⟩ = some (.int .i64 0) := (blk_cell BK241.out 0).trans rfl; have hcz82_1 : w75.cell? ⟨gb241, 1, none⟩ = some (.slice none 0 0) := (blk_cell BK241.out 1).trans rfl; have hfz82_0 := blk_frozen BK241.out 0; have hfz82_1 := blk_frozen BK241.out 1; obtain ⟨Ao83, co83, eo83⟩ := Kd.R_slice HO239.out; subst eo83; have hnb84 := NB214_213.out; have hnc84 := NB213_214.out; have hnb85 := NB214_215.out; have hnc85 := NB215_214.out; have hnb86 := NB214_234.out; have hnc86 := NB234_214.out; have hcz87_0 : w75.cell? ⟨gb214, 0, none⟩ = some (.int .i64 a1_0) := (blk_cell BK214.out 0).trans rfl; have hcz87_1 : w75.cell? ⟨gb214, 1, none⟩ = some (.slice A1_1 l1_1.length c1_1) := (blk_cell BK214.out 1).trans rfl; have hfz87_0 := blk_frozen BK214.out 0; have hfz87_1 := blk_frozen BK214.out 1; have hnb88 := NB213_215.out; have hnc88 := NB215_213.out; have hnb89 := NB213_234.out; have hnc89 := NB234_213.out; have hcz90_0 : w75.cell? ⟨gb213, 0, none⟩ = some (.int .i64 a0_0) := (blk_cell BK213.out 0).trans rfl; have hcz90_1 : w75.cell? ⟨gb213, 1, none⟩ = some (.slice A0_1 l0_1.length c0_1) := (blk_cell BK213.out 1).trans rfl; have hfz90_0 := blk_frozen BK213.out 0; have hfz90_1 := blk_frozen BK213.out 1) | ((with_reducible refine gate_callee (f := 26) rfl ?_); refine goesL_ (some 77) rfl rfl Try.func26 (by kernel_rfl) rfl #[.agg #[.int .i64 a1_0, .slice A1_1 l1_1.length c1_1], .agg #[.int .i64 a0_0, .slice A0_1 l0_1.length c0_1]] rfl (by (try simp only [List.map_toArray, List.map_cons, List.map_nil]); first | done | rfl | (simp only [List.length_drop, List.length_take]; rfl)) ?_; (with_reducible refine (rowset_Or.calls kj8 a1_0 _ _ l1_1 a0_0 _ _ l0_1 t242 t243 t246 _ ?side1 ?side2 ?side3 ?side4 A61.out).mono ?_); (case side1 => exact Kd.C_below HR1_1.out (by repeat (first | (with_reducible first | exact HB.out | apply below_alloc | apply pw_below_drewN | apply below_drew1 | refine below_set ?_ GE213.out | refine below_set ?_ GE214.out | refine below_set ?_ GE215.out | refine below_set ?_ GE222.out | refine below_set ?_ GE228.out | refine below_set ?_ GE234.out | refine below_set ?_ GE241.out) | exact HB.out))); (case side2 => exact HC1_1.out); (case side3 => exact Kd.C_below HR0_1.out (by repeat (first | (with_reducible first | exact HB.out | apply below_alloc | apply pw_below_drewN | apply below_drew1 | refine below_set ?_ GE213.out | refine below_set ?_ GE214.out | refine below_set ?_ GE215.out | refine below_set ?_ GE222.out | refine below_set ?_ GE228.out | refine below_set ?_ GE234.out | refine below_set ?_ GE241.out) | exact HB.out))); (case side4 => exact HC0_1.out); rintro e w91 ⟨v244, rfl, ho0, hb⟩; refine ⟨_, rfl, ?_⟩; have n0_ := Aside0.mk (Kd.R_elder' (by (with_reducible repeat (first | apply Kd.R_alloc | apply Kd.R_drewN | apply Kd.R_drew)); exact (Kd.R_mono (Kd.R_far (p := ⟨gb241, 1, none⟩) (Kd.R_far (p := ⟨gb241, 0, none⟩) (Kd.R_types HO_223001.out BK241.out (by decide)) (fun _ hk => hk.2) (.int .i64 t236)) (fun _ hk => hk.2) (.slice Ao83 t237.length co83)) (fun _ h_ => h_.1))) (Kd.R_base ho0) hb); have n1_ := Aside0.mk (Kd.R_elder' (by (with_reducible repeat (first | apply Kd.R_alloc | apply Kd.R_drewN | apply Kd.R_drew)); exact (Kd.R_mono (Kd.R_far (p := ⟨gb241, 1, none⟩) (Kd.R_far (p := ⟨gb241, 0, none⟩) (Kd.R_types HO_229001.out BK241.out (by decide)) (fun _ hk => hk.2) (.int .i64 t236)) (fun _ hk => hk.2) (.slice Ao83 t237.length co83)) (fun _ h_ => h_.1))) (Kd.R_base ho0) hb); have n2_ := Aside0.mk (Kd.R_elder' (by (with_reducible repeat (first | apply Kd.R_alloc | apply Kd.R_drewN | apply Kd.R_drew)); exact (Kd.R_mono (Kd.R_far (p := ⟨gb241, 1, none⟩) (Kd.R_far (p := ⟨gb241, 0, none⟩) (Kd.R_types HO_235001.out BK241.out (by decide)) (fun _ hk => hk.2) (.int .i64 t236)) (fun _ hk => hk.2) (.slice Ao83 t237.length co83)) (fun _ h_ => h_.1))) (Kd.R_base ho0) hb); have n3_ := Aside0.mk (Kd.R_elder' (by (with_reducible repeat (first | apply Kd.R_alloc | apply Kd.R_drewN | apply Kd.R_drew)); exact (Kd.R_mono (Kd.R_far (p := ⟨gb241, 1, none⟩) (Kd.R_far (p := ⟨gb241, 0, none⟩) (Kd.R_types HO239.out BK241.out (by decide)) (fun _ hk => hk.2) (.int .i64 t236)) (fun _ hk => hk.2) (.slice Ao83 t237.length co83)) (fun _ h_ => h_.1))) (Kd.R_base ho0) hb); have n4_ := Aside0.mk (Kd.R_lower (Kd.R_new' (Kd.R_new' (Kd.R_new' (Kd.R_new' ho0 (Kd.R_lt (by (with_reducible repeat (first | apply Kd.R_alloc | apply Kd.R_drewN | apply Kd.R_drew)); exact (Kd.R_mono (Kd.R_far (p := ⟨gb241, 1, none⟩) (Kd.R_far (p := ⟨gb241, 0, none⟩) (Kd.R_types HO_223001.out BK241.out (by decide)) (fun _ hk => hk.2) (.int .i64 t236)) (fun _ hk => hk.2) (.slice Ao83 t237.length co83)) (fun _ h_ => h_.1))))) (Kd.R_lt (by (with_reducible repeat (first | apply Kd.R_alloc | apply Kd.R_drewN | apply Kd.R_drew)); exact (Kd.R_mono (Kd.R_far (p := ⟨gb241, 1, none⟩) (Kd.R_far (p := ⟨gb241, 0, none⟩) (Kd.R_types HO_229001.out BK241.out (by decide)) (fun _ hk => hk.2) (.int .i64 t236)) (fun _ hk => hk.2) (.slice Ao83 t237.length co83)) (fun _ h_ => h_.1))))) (Kd.R_lt (by (with_reducible repeat (first | apply Kd.R_alloc | apply Kd.R_drewN | apply Kd.R_drew)); exact (Kd.R_mono (Kd.R_far (p := ⟨gb241, 1, none⟩) (Kd.R_far (p := ⟨gb241, 0, none⟩) (Kd.R_types HO_235001.out BK241.out (by decide)) (fun _ hk => hk.2) (.int .i64 t236)) (fun _ hk => hk.2) (.slice Ao83 t237.length co83)) (fun _ h_ => h_.1))))) (Kd.R_lt (by (with_reducible repeat (first | apply Kd.R_alloc | apply Kd.R_drewN | apply Kd.R_drew)); exact (Kd.R_mono (Kd.R_far (p := ⟨gb241, 1, none⟩) (Kd.R_far (p := ⟨gb241, 0, none⟩) (Kd.R_types HO239.out BK241.out (by decide)) (fun _ hk => hk.2) (.int .i64 t236)) (fun _ hk => hk.2) (.slice Ao83 t237.length co83)) (fun _ h_ => h_.1))))) (below_size (by repeat (first | (with_reducible first | exact HB.out | apply below_alloc | apply pw_below_drewN | apply below_drew1 | refine below_set ?_ GE213.out | refine below_set ?_ GE214.out | refine below_set ?_ GE215.out | refine below_set ?_ GE222.out | refine below_set ?_ GE228.out | refine below_set ?_ GE234.out | refine below_set ?_ GE241.out) | exact HB.out)))); have n5_ := bkA BK213 hb; have n6_ := bkA BK214 hb; have n7_ := bkA BK215 hb; have n8_ := bkA BK222 hb; have n9_ := bkA BK228 hb; have n10_ := bkA BK234 hb; have n11_ := Aside0.mk (blk_below (g := gb241) (o := .cells #[.int .i64 t236, .slice Ao83 t237.length co83] 38 (0, 0)) (by (with_reducible repeat (first | refine blk_drewN ?_ _ | refine blk_drew ?_ | refine blk_alloc ?_ _)); refine blk_put (cs := #[.int .i64 t236, .slice none 0 0]) ?_ 1 _ rfl; (with_reducible repeat (first | refine blk_drewN ?_ _ | refine blk_drew ?_ | refine blk_alloc ?_ _)); refine blk_put (cs := #[.int .i64 0, .slice none 0 0]) ?_ 0 _ rfl; (with_reducible repeat (first | refine blk_drewN ?_ _ | refine blk_drew ?_ | refine blk_alloc ?_ _)); exact BK241.out) hb); have n12_ := bsA HB hb; clear HO_223001; clear HO_229001; clear HO_235001; clear HO239; clear BK213; clear BK214; clear BK215; clear BK222; clear BK228; clear BK234; clear BK241; clear HB; have HO_223001 := n0_; have HO_229001 := n1_; have HO_235001 := n2_; have HO239 := n3_; have HO245 := n4_; have BK213 := n5_; have BK214 := n6_; have BK215 := n7_; have BK222 := n8_; have BK228 := n9_; have BK234 := n10_; have BK241 := n11_; have HB := n12_; clear n0_ n1_ n2_ n3_ n4_ n5_ n6_ n7_ n8_ n9_ n10_ n11_ n12_; (try clear hb); (try clear hb2); (try clear hk); (try clear hi); (try clear ho0)) | ((with_reducible refine gate_dst (N := 15) rfl ?_); refine box_event ?hg (N := 15) ?hd (cs := #[.int .i64 0, .slice none 0 0]) (t := 38) ?hr ?_; (case hd => rfl); (case hg => rfl); (case hr => first | (go_simp; done) | (go_simp; rfl)); intro gb247 hg w92 hbox hb; have n0_ := rbA HO_223001 hb; have n1_ := rbA HO_229001 hb; have n2_ := rbA HO_235001 hb; have n3_ := rbA HO239 hb; have n4_ := rbA HO245 hb; have n5_ := bkA BK213 hb; have n6_ := bkA BK214 hb; have n7_ := bkA BK215 hb; have n8_ := bkA BK222 hb; have n9_ := bkA BK228 hb; have n10_ := bkA BK234 hb; have n11_ := bkA BK241 hb; have n12_ := bsA HB hb; have n13_ := Aside0.mk (hbox); have n14_ := szA HB hg; have n15_ := szA HB hg; have n16_ := neA BK213 hg; have n17_ := neB BK213 hg; have n18_ := neA BK214 hg; have n19_ := neB BK214 hg; have n20_ := neA BK215 hg; have n21_ := neB BK215 hg; have n22_ := neA BK222 hg; have n23_ := neB BK222 hg; have n24_ := neA BK228 hg; have n25_ := neB BK228 hg; have n26_ := neA BK234 hg; have n27_ := neB BK234 hg; have n28_ := neA BK241 hg; have n29_ := neB BK241 hg; clear HO_223001; clear HO_229001; clear HO_235001; clear HO239; clear HO245; clear BK213; clear BK214; clear BK215; clear BK222; clear BK228; clear BK234; clear BK241; clear HB; have HO_223001 := n0_; have HO_229001 := n1_; have HO_235001 := n2_; have HO239 := n3_; have HO245 := n4_; have BK213 := n5_; have BK214 := n6_; have BK215 := n7_; have BK222 := n8_; have BK228 := n9_; have BK234 := n10_; have BK241 := n11_; have HB := n12_; have BK247 := n13_; have GW247 := n14_; have GE247 := n15_; have NB213_247 := n16_; have NB247_213 := n17_; have NB214_247 := n18_; have NB247_214 := n19_; have NB215_247 := n20_; have NB247_215 := n21_; have NB222_247 := n22_; have NB247_222 := n23_; have NB228_247 := n24_; have NB247_228 := n25_; have NB234_247 := n26_; have NB247_234 := n27_; have NB241_247 := n28_; have NB247_241 := n29_; clear n0_ n1_ n2_ n3_ n4_ n5_ n6_ n7_ n8_ n9_ n10_ n11_ n12_ n13_ n14_ n15_ n16_ n17_ n18_ n19_ n20_ n21_ n22_ n23_ n24_ n25_ n26_ n27_ n28_ n29_; clear hb hbox hg; have hnb93 := NB247_213.out; have hnc93 := NB213_247.out; have hnb94 := NB247_214.out; have hnc94 := NB214_247.out; have hnb95 := NB247_215.out; have hnc95 := NB215_247.out; have hnb96 := NB247_222.out; have hnc96 := NB222_247.out; have hnb97 := NB247_228.out; have hnc97 := NB228_247.out; have hnb98 := NB247_234.out; have hnc98 := NB234_247.out; have hnb99 := NB247_241.out; have hnc99 := NB241_247.out; have hcz100_0 : w92.cell? ⟨gb247, 0, none⟩ = some (.int .i64 0) := (blk_cell BK247.out 0).trans rfl; have hcz100_1 : w92.cell? ⟨gb247, 1, none⟩ = some (.slice none 0 0) := (blk_cell BK247.out 1).trans rfl; have hfz100_0 := blk_frozen BK247.out 0; have hfz100_1 := blk_frozen BK247.out 1; obtain ⟨Ao101, co101, eo101⟩ := Kd.R_slice HO245.out; subst eo101))
     (try simp only [Act.put, List.setIfInBounds_toArray, List.set_cons_zero, List.set_cons_succ])
     go_cut [110] (fun v110 wc => ∃ (kq : Nat) (x110_61 : Bool), v110 = .bool x110_61 ∧ Aside0 (dragnetlaw09_RowsetSets.j1 kq x110_61 a0_0 l0_1 a1_0 l1_1 a2_0 l2_1 t229 t230 = some true) ∧ Aside0 (kq ≤ kj8) ∧ Aside0 (Kd.R (Kd.int .u64) 66 wc w.heap.size (fun k_ => some k_ ≠ ((.slice Ao35 t224.length co35) : Value).ownBlock ∧ some k_ ≠ ((.slice Ao46 t230.length co46) : Value).ownBlock ∧ some k_ ≠ ((.slice Ao83 t237.length co83) : Value).ownBlock ∧ some k_ ≠ ((.slice Ao101 t243.length co101) : Value).ownBlock) (.slice Ao25 t218.length co25) t218) ∧ Aside0 (Kd.R (Kd.int .u64) 66 wc w.heap.size (fun k_ => some k_ ≠ ((.slice Ao25 t218.length co25) : Value).ownBlock ∧ some k_ ≠ ((.slice Ao46 t230.length co46) : Value).ownBlock ∧ some k_ ≠ ((.slice Ao83 t237.length co83) : Value).ownBlock ∧ some k_ ≠ ((.slice Ao101 t243.length co101) : Value).ownBlock) (.slice Ao35 t224.length co35) t224) ∧ Aside0 (Kd.R (Kd.int .u64) 66 wc w.heap.size (fun k_ => some k_ ≠ ((.slice Ao25 t218.length co25) : Value).ownBlock ∧ some k_ ≠ ((.slice Ao35 t224.length co35) : Value).ownBlock ∧ some k_ ≠ ((.slice Ao83 t237.length co83) : Value).ownBlock ∧ some k_ ≠ ((.slice Ao101 t243.length co101) : Value).ownBlock) (.slice Ao46 t230.length co46) t230) ∧ Aside0 (Kd.R (Kd.int .u64) 66 wc w.heap.size (fun k_ => some k_ ≠ ((.slice Ao25 t218.length co25) : Value).ownBlock ∧ some k_ ≠ ((.slice Ao35 t224.length co35) : Value).ownBlock ∧ some k_ ≠ ((.slice Ao46 t230.length co46) : Value).ownBlock ∧ some k_ ≠ ((.slice Ao101 t243.length co101) : Value).ownBlock) (.slice Ao83 t237.length co83) t237) ∧ Aside0 (Kd.R (Kd.int .u64) 66 wc w.heap.size (fun k_ => some k_ ≠ ((.slice Ao25 t218.length co25) : Value).ownBlock ∧ some k_ ≠ ((.slice Ao35 t224.length co35) : Value).ownBlock ∧ some k_ ≠ ((.slice Ao46 t230.length co46) : Value).ownBlock ∧ some k_ ≠ ((.slice Ao83 t237.length co83) : Value).ownBlock) (.slice Ao101 t243.length co101) t243) ∧ Aside0 (wc.heap[gb213]? = some (.cells #[.int .i64 a0_0, (.slice A0_1 l0_1.length c0_1)] 38 (0, 0))) ∧ Aside0 (wc.heap[gb214]? = some (.cells #[.int .i64 a1_0, (.slice A1_1 l1_1.length c1_1)] 38 (0, 0))) ∧ Aside0 (wc.heap[gb215]? = some (.cells #[.int .i64 a2_0, (.slice A2_1 l2_1.length c2_1)] 38 (0, 0))) ∧ Aside0 (wc.heap[gb222]? = some (.cells #[.int .i64 t217, (.slice Ao25 t218.length co25)] 38 (0, 0))) ∧ Aside0 (wc.heap[gb228]? = some (.cells #[.int .i64 t223, (.slice Ao35 t224.length co35)] 38 (0, 0))) ∧ Aside0 (wc.heap[gb234]? = some (.cells #[.int .i64 t229, (.slice Ao46 t230.length co46)] 38 (0, 0))) ∧ Aside0 (wc.heap[gb241]? = some (.cells #[.int .i64 t236, (.slice Ao83 t237.length co83)] 38 (0, 0))) ∧ Aside0 (wc.heap[gb247]? = some (.cells #[.int .i64 t242, (.slice Ao101 t243.length co101)] 38 (0, 0))) ∧ Aside0 (Below w.heap.size w wc))
     case first =>
      have H := HC62.out
      clear HC62
      by_cases c102 : t240 = 0
      ·rw [if_pos c102] at H
       have c102b0 : (t240 == 0) = true := beq_iff_eq.mpr c102
       have c102b1 : (t240 != 0) = false := bne_eq_false_iff_eq.mpr c102
       clear c102
       (first | rw [c102b0] | (simp only [i64_w, i32_w]; rw [c102b0]) | skip)
       by_cases c103 : t246 = 0
       ·rw [if_pos c103] at H
        have c103b0 : (t246 == 0) = true := beq_iff_eq.mpr c103
        have c103b1 : (t246 != 0) = false := bne_eq_false_iff_eq.mpr c103
        clear c103
        replace H := Option.bind_eq_some_iff.mp H
        obtain ⟨t248, A1040, H⟩ := H
        replace H : (if t248 = true then ((dragnetref09_Same.f kj8 t242 t243 t229 t230).bind fun t249 => (if t249 = true then ((rowset_Count.f kj8 t217 t218).bind fun t250 => ((rowset_Count.f kj8 t229 t230).bind fun t251 => ((rowset_Count.f kj8 a0_0 l0_1).bind fun t252 => ((rowset_Count.f kj8 a1_0 l1_1).bind fun t253 => (dragnetlaw09_RowsetSets.j1 kj8 ((wrap64 (t250 + t251)) != (wrap64 (t252 + t253))) a0_0 l0_1 a1_0 l1_1 a2_0 l2_1 t229 t230))))) else (dragnetlaw09_RowsetSets.j1 kj8 true a0_0 l0_1 a1_0 l1_1 a2_0 l2_1 t229 t230))) else (dragnetlaw09_RowsetSets.j1 kj8 true a0_0 l0_1 a1_0 l1_1 a2_0 l2_1 t229 t230)) = some true := H
        have A104 := Aside0.mk A1040
        clear A1040
        by_cases c105 : t248 = true
        ·subst c105
         have H1 : ((dragnetref09_Same.f kj8 t242 t243 t229 t230).bind fun t249 => (if t249 = true then ((rowset_Count.f kj8 t217 t218).bind fun t250 => ((rowset_Count.f kj8 t229 t230).bind fun t251 => ((rowset_Count.f kj8 a0_0 l0_1).bind fun t252 => ((rowset_Count.f kj8 a1_0 l1_1).bind fun t253 => (dragnetlaw09_RowsetSets.j1 kj8 ((wrap64 (t250 + t251)) != (wrap64 (t252 + t253))) a0_0 l0_1 a1_0 l1_1 a2_0 l2_1 t229 t230))))) else (dragnetlaw09_RowsetSets.j1 kj8 true a0_0 l0_1 a1_0 l1_1 a2_0 l2_1 t229 t230))) = some true := by rw [if_pos rfl] at H; exact H
         clear H
         have H := H1
         clear H1
         replace H := Option.bind_eq_some_iff.mp H
         obtain ⟨t249, A1060, H⟩ := H
         replace H : (if t249 = true then ((rowset_Count.f kj8 t217 t218).bind fun t250 => ((rowset_Count.f kj8 t229 t230).bind fun t251 => ((rowset_Count.f kj8 a0_0 l0_1).bind fun t252 => ((rowset_Count.f kj8 a1_0 l1_1).bind fun t253 => (dragnetlaw09_RowsetSets.j1 kj8 ((wrap64 (t250 + t251)) != (wrap64 (t252 + t253))) a0_0 l0_1 a1_0 l1_1 a2_0 l2_1 t229 t230))))) else (dragnetlaw09_RowsetSets.j1 kj8 true a0_0 l0_1 a1_0 l1_1 a2_0 l2_1 t229 t230)) = some true := H
         have A106 := Aside0.mk A1060
         clear A1060
         by_cases c107 : t249 = true
         ·subst c107
          have H1 : ((rowset_Count.f kj8 t217 t218).bind fun t250 => ((rowset_Count.f kj8 t229 t230).bind fun t251 => ((rowset_Count.f kj8 a0_0 l0_1).bind fun t252 => ((rowset_Count.f kj8 a1_0 l1_1).bind fun t253 => (dragnetlaw09_RowsetSets.j1 kj8 ((wrap64 (t250 + t251)) != (wrap64 (t252 + t253))) a0_0 l0_1 a1_0 l1_1 a2_0 l2_1 t229 t230))))) = some true := by rw [if_pos rfl] at H; exact H
          clear H
          have H := H1
          clear H1
          replace H := Option.bind_eq_some_iff.mp H
          obtain ⟨t250, A1080, H⟩ := H
          replace H : ((rowset_Count.f kj8 t229 t230).bind fun t251 => ((rowset_Count.f kj8 a0_0 l0_1).bind fun t252 => ((rowset_Count.f kj8 a1_0 l1_1).bind fun t253 => (dragnetlaw09_RowsetSets.j1 kj8 ((wrap64 (t250 + t251)) != (wrap64 (t252 + t253))) a0_0 l0_1 a1_0 l1_1 a2_0 l2_1 t229 t230)))) = some true := H
          have A108 := Aside0.mk A1080
          clear A1080
          replace H := Option.bind_eq_some_iff.mp H
          obtain ⟨t251, A1090, H⟩ := H
          replace H : ((rowset_Count.f kj8 a0_0 l0_1).bind fun t252 => ((rowset_Count.f kj8 a1_0 l1_1).bind fun t253 => (dragnetlaw09_RowsetSets.j1 kj8 ((wrap64 (t250 + t251)) != (wrap64 (t252 + t253))) a0_0 l0_1 a1_0 l1_1 a2_0 l2_1 t229 t230))) = some true := H
          have A109 := Aside0.mk A1090
          clear A1090
          replace H := Option.bind_eq_some_iff.mp H
          obtain ⟨t252, A1100, H⟩ := H
          replace H : ((rowset_Count.f kj8 a1_0 l1_1).bind fun t253 => (dragnetlaw09_RowsetSets.j1 kj8 ((wrap64 (t250 + t251)) != (wrap64 (t252 + t253))) a0_0 l0_1 a1_0 l1_1 a2_0 l2_1 t229 t230)) = some true := H
          have A110 := Aside0.mk A1100
          clear A1100
          replace H := Option.bind_eq_some_iff.mp H
          obtain ⟨t253, A1110, H⟩ := H
          replace H : (dragnetlaw09_RowsetSets.j1 kj8 ((wrap64 (t250 + t251)) != (wrap64 (t252 + t253))) a0_0 l0_1 a1_0 l1_1 a2_0 l2_1 t229 t230) = some true := H
          have A111 := Aside0.mk A1110
          clear A1110
          have H' := Aside0.mk H
          clear H
          try go_wp2
          have n0_ : Aside0 (Kd.R (Kd.int .u64) 66 ((w92.setCell ⟨gb247, 0, none⟩ (.int .i64 t242)).setCell ⟨gb247, 1, none⟩ (.slice Ao101 t243.length co101)) w.heap.size (fun k_ => some k_ ≠ (.slice Ao35 t224.length co35 : Value).ownBlock ∧ some k_ ≠ (.slice Ao46 t230.length co46 : Value).ownBlock ∧ some k_ ≠ (.slice Ao83 t237.length co83 : Value).ownBlock ∧ some k_ ≠ (.slice Ao101 t243.length co101 : Value).ownBlock) (.slice Ao25 t218.length co25) t218) := ⟨by (with_reducible repeat (first | apply Kd.R_alloc | apply Kd.R_drewN | apply Kd.R_drew)); exact Kd.R_mono (Kd.R_far (p := ⟨gb247, 1, none⟩) (Kd.R_far (p := ⟨gb247, 0, none⟩) (Kd.R_types HO_223001.out BK247.out (by decide)) (fun _ hk => hk.2) (.int .i64 t242)) (fun _ hk => hk.2) (.slice Ao101 t243.length co101)) (fun _ hk => ⟨hk.1.1.1.1, ⟨hk.1.1.1.2, ⟨hk.1.1.2, hk.1.2⟩⟩⟩)⟩
          have n1_ : Aside0 (Kd.R (Kd.int .u64) 66 ((w92.setCell ⟨gb247, 0, none⟩ (.int .i64 t242)).setCell ⟨gb247, 1, none⟩ (.slice Ao101 t243.length co101)) w.heap.size (fun k_ => some k_ ≠ (.slice Ao25 t218.length co25 : Value).ownBlock ∧ some k_ ≠ (.slice Ao46 t230.length co46 : Value).ownBlock ∧ some k_ ≠ (.slice Ao83 t237.length co83 : Value).ownBlock ∧ some k_ ≠ (.slice Ao101 t243.length co101 : Value).ownBlock) (.slice Ao35 t224.length co35) t224) := ⟨by (with_reducible repeat (first | apply Kd.R_alloc | apply Kd.R_drewN | apply Kd.R_drew)); exact Kd.R_mono (Kd.R_far (p := ⟨gb247, 1, none⟩) (Kd.R_far (p := ⟨gb247, 0, none⟩) (Kd.R_types HO_229001.out BK247.out (by decide)) (fun _ hk => hk.2) (.int .i64 t242)) (fun _ hk => hk.2) (.slice Ao101 t243.length co101)) (fun _ hk => ⟨hk.1.1.1.1, ⟨hk.1.1.1.2, ⟨hk.1.1.2, hk.1.2⟩⟩⟩)⟩
          have n2_ : Aside0 (Kd.R (Kd.int .u64) 66 ((w92.setCell ⟨gb247, 0, none⟩ (.int .i64 t242)).setCell ⟨gb247, 1, none⟩ (.slice Ao101 t243.length co101)) w.heap.size (fun k_ => some k_ ≠ (.slice Ao25 t218.length co25 : Value).ownBlock ∧ some k_ ≠ (.slice Ao35 t224.length co35 : Value).ownBlock ∧ some k_ ≠ (.slice Ao83 t237.length co83 : Value).ownBlock ∧ some k_ ≠ (.slice Ao101 t243.length co101 : Value).ownBlock) (.slice Ao46 t230.length co46) t230) := ⟨by (with_reducible repeat (first | apply Kd.R_alloc | apply Kd.R_drewN | apply Kd.R_drew)); exact Kd.R_mono (Kd.R_far (p := ⟨gb247, 1, none⟩) (Kd.R_far (p := ⟨gb247, 0, none⟩) (Kd.R_types HO_235001.out BK247.out (by decide)) (fun _ hk => hk.2) (.int .i64 t242)) (fun _ hk => hk.2) (.slice Ao101 t243.length co101)) (fun _ hk => ⟨hk.1.1.1.1, ⟨hk.1.1.1.2, ⟨hk.1.1.2, hk.1.2⟩⟩⟩)⟩
          have n3_ : Aside0 (Kd.R (Kd.int .u64) 66 ((w92.setCell ⟨gb247, 0, none⟩ (.int .i64 t242)).setCell ⟨gb247, 1, none⟩ (.slice Ao101 t243.length co101)) w.heap.size (fun k_ => some k_ ≠ (.slice Ao25 t218.length co25 : Value).ownBlock ∧ some k_ ≠ (.slice Ao35 t224.length co35 : Value).ownBlock ∧ some k_ ≠ (.slice Ao46 t230.length co46 : Value).ownBlock ∧ some k_ ≠ (.slice Ao101 t243.length co101 : Value).ownBlock) (.slice Ao83 t237.length co83) t237) := ⟨by (with_reducible repeat (first | apply Kd.R_alloc | apply Kd.R_drewN | apply Kd.R_drew)); exact Kd.R_mono (Kd.R_far (p := ⟨gb247, 1, none⟩) (Kd.R_far (p := ⟨gb247, 0, none⟩) (Kd.R_types HO239.out BK247.out (by decide)) (fun _ hk => hk.2) (.int .i64 t242)) (fun _ hk => hk.2) (.slice Ao101 t243.length co101)) (fun _ hk => ⟨hk.1.1.1.1.2, ⟨hk.1.1.1.2, ⟨hk.1.1.2, hk.1.2⟩⟩⟩)⟩
          have n4_ : Aside0 (Kd.R (Kd.int .u64) 66 ((w92.setCell ⟨gb247, 0, none⟩ (.int .i64 t242)).setCell ⟨gb247, 1, none⟩ (.slice Ao101 t243.length co101)) w.heap.size (fun k_ => some k_ ≠ (.slice Ao25 t218.length co25 : Value).ownBlock ∧ some k_ ≠ (.slice Ao35 t224.length co35 : Value).ownBlock ∧ some k_ ≠ (.slice Ao46 t230.length co46 : Value).ownBlock ∧ some k_ ≠ (.slice Ao83 t237.length co83 : Value).ownBlock) (.slice Ao101 t243.length co101) t243) := ⟨by (with_reducible repeat (first | apply Kd.R_alloc | apply Kd.R_drewN | apply Kd.R_drew)); exact Kd.R_mono (Kd.R_far (p := ⟨gb247, 1, none⟩) (Kd.R_far (p := ⟨gb247, 0, none⟩) (Kd.R_types HO245.out BK247.out (by decide)) (fun _ hk => hk.2) (.int .i64 t242)) (fun _ hk => hk.2) (.slice Ao101 t243.length co101)) (fun _ hk => ⟨hk.1.1.1.1.2, ⟨hk.1.1.1.2, ⟨hk.1.1.2, hk.1.2⟩⟩⟩)⟩
          have n5_ : Aside0 (((w92.setCell ⟨gb247, 0, none⟩ (.int .i64 t242)).setCell ⟨gb247, 1, none⟩ (.slice Ao101 t243.length co101)).heap[gb213]? = some (.cells #[.int .i64 a0_0, .slice A0_1 l0_1.length c0_1] 38 (0, 0))) := ⟨by (with_reducible repeat (first | refine blk_drewN ?_ _ | refine blk_drew ?_ | refine blk_alloc ?_ _)); refine blk_far ?_ NB213_247.out _; (with_reducible repeat (first | refine blk_drewN ?_ _ | refine blk_drew ?_ | refine blk_alloc ?_ _)); refine blk_far ?_ NB213_247.out _; (with_reducible repeat (first | refine blk_drewN ?_ _ | refine blk_drew ?_ | refine blk_alloc ?_ _)); exact BK213.out⟩
          have n6_ : Aside0 (((w92.setCell ⟨gb247, 0, none⟩ (.int .i64 t242)).setCell ⟨gb247, 1, none⟩ (.slice Ao101 t243.length co101)).heap[gb214]? = some (.cells #[.int .i64 a1_0, .slice A1_1 l1_1.length c1_1] 38 (0, 0))) := ⟨by (with_reducible repeat (first | refine blk_drewN ?_ _ | refine blk_drew ?_ | refine blk_alloc ?_ _)); refine blk_far ?_ NB214_247.out _; (with_reducible repeat (first | refine blk_drewN ?_ _ | refine blk_drew ?_ | refine blk_alloc ?_ _)); refine blk_far ?_ NB214_247.out _; (with_reducible repeat (first | refine blk_drewN ?_ _ | refine blk_drew ?_ | refine blk_alloc ?_ _)); exact BK214.out⟩
          have n7_ : Aside0 (((w92.setCell ⟨gb247, 0, none⟩ (.int .i64 t242)).setCell ⟨gb247, 1, none⟩ (.slice Ao101 t243.length co101)).heap[gb215]? = some (.cells #[.int .i64 a2_0, .slice A2_1 l2_1.length c2_1] 38 (0, 0))) := ⟨by (with_reducible repeat (first | refine blk_drewN ?_ _ | refine blk_drew ?_ | refine blk_alloc ?_ _)); refine blk_far ?_ NB215_247.out _; (with_reducible repeat (first | refine blk_drewN ?_ _ | refine blk_drew ?_ | refine blk_alloc ?_ _)); refine blk_far ?_ NB215_247.out _; (with_reducible repeat (first | refine blk_drewN ?_ _ | refine blk_drew ?_ | refine blk_alloc ?_ _)); exact BK215.out⟩
          have n8_ : Aside0 (((w92.setCell ⟨gb247, 0, none⟩ (.int .i64 t242)).setCell ⟨gb247, 1, none⟩ (.slice Ao101 t243.length co101)).heap[gb222]? = some (.cells #[.int .i64 t217, .slice Ao25 t218.length co25] 38 (0, 0))) := ⟨by (with_reducible repeat (first | refine blk_drewN ?_ _ | refine blk_drew ?_ | refine blk_alloc ?_ _)); refine blk_far ?_ NB222_247.out _; (with_reducible repeat (first | refine blk_drewN ?_ _ | refine blk_drew ?_ | refine blk_alloc ?_ _)); refine blk_far ?_ NB222_247.out _; (with_reducible repeat (first | refine blk_drewN ?_ _ | refine blk_drew ?_ | refine blk_alloc ?_ _)); exact BK222.out⟩
          have n9_ : Aside0 (((w92.setCell ⟨gb247, 0, none⟩ (.int .i64 t242)).setCell ⟨gb247, 1, none⟩ (.slice Ao101 t243.length co101)).heap[gb228]? = some (.cells #[.int .i64 t223, .slice Ao35 t224.length co35] 38 (0, 0))) := ⟨by (with_reducible repeat (first | refine blk_drewN ?_ _ | refine blk_drew ?_ | refine blk_alloc ?_ _)); refine blk_far ?_ NB228_247.out _; (with_reducible repeat (first | refine blk_drewN ?_ _ | refine blk_drew ?_ | refine blk_alloc ?_ _)); refine blk_far ?_ NB228_247.out _; (with_reducible repeat (first | refine blk_drewN ?_ _ | refine blk_drew ?_ | refine blk_alloc ?_ _)); exact BK228.out⟩
          have n10_ : Aside0 (((w92.setCell ⟨gb247, 0, none⟩ (.int .i64 t242)).setCell ⟨gb247, 1, none⟩ (.slice Ao101 t243.length co101)).heap[gb234]? = some (.cells #[.int .i64 t229, .slice Ao46 t230.length co46] 38 (0, 0))) := ⟨by (with_reducible repeat (first | refine blk_drewN ?_ _ | refine blk_drew ?_ | refine blk_alloc ?_ _)); refine blk_far ?_ NB234_247.out _; (with_reducible repeat (first | refine blk_drewN ?_ _ | refine blk_drew ?_ | refine blk_alloc ?_ _)); refine blk_far ?_ NB234_247.out _; (with_reducible repeat (first | refine blk_drewN ?_ _ | refine blk_drew ?_ | refine blk_alloc ?_ _)); exact BK234.out⟩
          have n11_ : Aside0 (((w92.setCell ⟨gb247, 0, none⟩ (.int .i64 t242)).setCell ⟨gb247, 1, none⟩ (.slice Ao101 t243.length co101)).heap[gb241]? = some (.cells #[.int .i64 t236, .slice Ao83 t237.length co83] 38 (0, 0))) := ⟨by (with_reducible repeat (first | refine blk_drewN ?_ _ | refine blk_drew ?_ | refine blk_alloc ?_ _)); refine blk_far ?_ NB241_247.out _; (with_reducible repeat (first | refine blk_drewN ?_ _ | refine blk_drew ?_ | refine blk_alloc ?_ _)); refine blk_far ?_ NB241_247.out _; (with_reducible repeat (first | refine blk_drewN ?_ _ | refine blk_drew ?_ | refine blk_alloc ?_ _)); exact BK241.out⟩
          have n12_ : Aside0 (((w92.setCell ⟨gb247, 0, none⟩ (.int .i64 t242)).setCell ⟨gb247, 1, none⟩ (.slice Ao101 t243.length co101)).heap[gb247]? = some (.cells #[.int .i64 t242, .slice Ao101 t243.length co101] 38 (0, 0))) := ⟨by (with_reducible repeat (first | refine blk_drewN ?_ _ | refine blk_drew ?_ | refine blk_alloc ?_ _)); refine blk_put (cs := #[.int .i64 t242, .slice none 0 0]) ?_ 1 _ rfl; (with_reducible repeat (first | refine blk_drewN ?_ _ | refine blk_drew ?_ | refine blk_alloc ?_ _)); refine blk_put (cs := #[.int .i64 0, .slice none 0 0]) ?_ 0 _ rfl; (with_reducible repeat (first | refine blk_drewN ?_ _ | refine blk_drew ?_ | refine blk_alloc ?_ _)); exact BK247.out⟩
          have n13_ : Aside0 (Below w.heap.size w ((w92.setCell ⟨gb247, 0, none⟩ (.int .i64 t242)).setCell ⟨gb247, 1, none⟩ (.slice Ao101 t243.length co101))) := ⟨by repeat (first | (with_reducible first | exact HB.out | apply below_alloc | apply pw_below_drewN | apply below_drew1 | refine below_set ?_ GE213.out | refine below_set ?_ GE214.out | refine below_set ?_ GE215.out | refine below_set ?_ GE222.out | refine below_set ?_ GE228.out | refine below_set ?_ GE234.out | refine below_set ?_ GE241.out | refine below_set ?_ GE247.out) | exact HB.out)⟩
          (try clear HO_223001)
          (try clear HO_229001)
          (try clear HO_235001)
          (try clear HO239)
          (try clear HO245)
          (try clear BK213)
          (try clear BK214)
          (try clear BK215)
          (try clear BK222)
          (try clear BK228)
          (try clear BK234)
          (try clear BK241)
          (try clear BK247)
          (try clear HB)
          generalize ((w92.setCell ⟨gb247, 0, none⟩ (.int .i64 t242)).setCell ⟨gb247, 1, none⟩ (.slice Ao101 t243.length co101)) = w112 at n0_ n1_ n2_ n3_ n4_ n5_ n6_ n7_ n8_ n9_ n10_ n11_ n12_ n13_ ⊢
          have HO_223001 := n0_
          have HO_229001 := n1_
          have HO_235001 := n2_
          have HO239 := n3_
          have HO245 := n4_
          have BK213 := n5_
          have BK214 := n6_
          have BK215 := n7_
          have BK222 := n8_
          have BK228 := n9_
          have BK234 := n10_
          have BK241 := n11_
          have BK247 := n12_
          have HB := n13_
          clear n0_ n1_ n2_ n3_ n4_ n5_ n6_ n7_ n8_ n9_ n10_ n11_ n12_ n13_
          have n0_ := Aside0.mk (Kd.R_drew HO_223001.out)
          have n1_ := Aside0.mk (Kd.R_drew HO_229001.out)
          have n2_ := Aside0.mk (Kd.R_drew HO_235001.out)
          have n3_ := Aside0.mk (Kd.R_drew HO239.out)
          have n4_ := Aside0.mk (Kd.R_drew HO245.out)
          have n5_ := Aside0.mk (blk_drew BK213.out)
          have n6_ := Aside0.mk (blk_drew BK214.out)
          have n7_ := Aside0.mk (blk_drew BK215.out)
          have n8_ := Aside0.mk (blk_drew BK222.out)
          have n9_ := Aside0.mk (blk_drew BK228.out)
          have n10_ := Aside0.mk (blk_drew BK234.out)
          have n11_ := Aside0.mk (blk_drew BK241.out)
          have n12_ := Aside0.mk (blk_drew BK247.out)
          have n13_ := Aside0.mk (below_drew1 HB.out)
          clear HO_223001
          clear HO_229001
          clear HO_235001
          clear HO239
          clear HO245
          clear BK213
          clear BK214
          clear BK215
          clear BK222
          clear BK228
          clear BK234
          clear BK241
          clear BK247
          clear HB
          have HO_223001 := n0_
          have HO_229001 := n1_
          have HO_235001 := n2_
          have HO239 := n3_
          have HO245 := n4_
          have BK213 := n5_
          have BK214 := n6_
          have BK215 := n7_
          have BK222 := n8_
          have BK228 := n9_
          have BK234 := n10_
          have BK241 := n11_
          have BK247 := n12_
          have HB := n13_
          clear n0_ n1_ n2_ n3_ n4_ n5_ n6_ n7_ n8_ n9_ n10_ n11_ n12_ n13_
          refine start_ (n := 31) (S := fun w' => w'.cell? ⟨gb241, 0, none⟩ = some (.int .i64 t236) ∧ w'.cell? ⟨gb241, 1, none⟩ = some (.slice Ao83 t237.length co83) ∧ w'.cell? ⟨gb213, 0, none⟩ = some (.int .i64 a0_0) ∧ w'.cell? ⟨gb213, 1, none⟩ = some (.slice A0_1 l0_1.length c0_1) ∧ w'.cell? ⟨gb247, 0, none⟩ = some (.int .i64 t242) ∧ w'.cell? ⟨gb247, 1, none⟩ = some (.slice Ao101 t243.length co101) ∧ w'.cell? ⟨gb234, 0, none⟩ = some (.int .i64 t229) ∧ w'.cell? ⟨gb234, 1, none⟩ = some (.slice Ao46 t230.length co46) ∧ w'.cell? ⟨gb222, 0, none⟩ = some (.int .i64 t217) ∧ w'.cell? ⟨gb222, 1, none⟩ = some (.slice Ao25 t218.length co25) ∧ w'.cell? ⟨gb214, 0, none⟩ = some (.int .i64 a1_0) ∧ w'.cell? ⟨gb214, 1, none⟩ = some (.slice A1_1 l1_1.length c1_1)) (ds := []) #[false, false, false, false, false, false, false, false, false, false, false, false, false, false, false, false, false, false, false, false, false, false, false, false, false, false, false, false, false, false, false] (by kernel_rfl) rfl rfl ⟨(blk_cell BK241.out 0).trans rfl, (blk_cell BK241.out 1).trans rfl, (blk_cell BK213.out 0).trans rfl, (blk_cell BK213.out 1).trans rfl, (blk_cell BK247.out 0).trans rfl, (blk_cell BK247.out 1).trans rfl, (blk_cell BK234.out 0).trans rfl, (blk_cell BK234.out 1).trans rfl, (blk_cell BK222.out 0).trans rfl, (blk_cell BK222.out 1).trans rfl, (blk_cell BK214.out 0).trans rfl, (blk_cell BK214.out 1).trans rfl⟩ (fun hHeld => ?_); refine with_tabW dragnetlaw09_RowsetSets.tab10 dragnetlaw09_RowsetSets.bits10 (fun HT_ HW_ => ?_)
          generalize w112.drew = w113 at HO_223001 HO_229001 HO_235001 HO239 HO245 BK213 BK214 BK215 BK222 BK228 BK234 BK241 BK247 HB hHeld ⊢
          refine pure_ (i := 0) (N := some 80) (v := ?_) (a' := ?_) #[true, false, false, false, false, false, false, false, false, false, false, false, false, false, false, false, false, false, false, false, false, false, false, false, false, false, false, false, false, false, false] rfl rfl (any_of HT_.out (by kernel_rfl)) (fun _ _ _ h => h) (Or.inl ⟨by rfl, ?_⟩) ?_ ?_
          rotate_left
          ·intro w'
           go_simp
           with_reducible rfl
          rotate_left
          ·simp only [Act.put, List.setIfInBounds_toArray, List.set_cons_zero, List.set_cons_succ, i64_w, i32_w]
           rfl
          refine pure_ (i := 1) (N := some 81) (v := ?_) (a' := ?_) #[true, true, false, false, false, false, false, false, false, false, false, false, false, false, false, false, false, false, false, false, false, false, false, false, false, false, false, false, false, false, false] rfl rfl (any_of HT_.out (by kernel_rfl)) (fun _ _ _ h => h) (Or.inl ⟨by rfl, ?_⟩) ?_ ?_
          rotate_left
          ·intro w'
           go_simp
           with_reducible rfl
          rotate_left
          ·simp only [Act.put, List.setIfInBounds_toArray, List.set_cons_zero, List.set_cons_succ, i64_w, i32_w]
           rfl
          refine pure_ (i := 2) (N := some 82) (v := ?_) (a' := ?_) #[true, true, true, false, false, false, false, false, false, false, false, false, false, false, false, false, false, false, false, false, false, false, false, false, false, false, false, false, false, false, false] rfl rfl (any_of HT_.out (by kernel_rfl)) (fun _ _ _ h => h) (Or.inl ⟨by rfl, ?_⟩) ?_ ?_
          rotate_left
          ·intro w'
           go_simp
           with_reducible rfl
          rotate_left
          ·simp only [Act.put, List.setIfInBounds_toArray, List.set_cons_zero, List.set_cons_succ, i64_w, i32_w]
           rfl
          refine pure_ (i := 3) (N := some 83) (v := ?_) (a' := ?_) #[true, true, true, true, false, false, false, false, false, false, false, false, false, false, false, false, false, false, false, false, false, false, false, false, false, false, false, false, false, false, false] rfl rfl (any_of HT_.out (by kernel_rfl)) (fun _ _ _ h => h) (Or.inl ⟨by rfl, ?_⟩) ?_ ?_
          rotate_left
          ·intro w'
           go_simp
           with_reducible rfl
          rotate_left
          ·simp only [Act.put, List.setIfInBounds_toArray, List.set_cons_zero, List.set_cons_succ, i64_w, i32_w]
           rfl
          refine pure_ (i := 4) (N := some 84) (v := ?_) (a' := ?_) #[true, true, true, true, true, false, false, false, false, false, false, false, false, false, false, false, false, false, false, false, false, false, false, false, false, false, false, false, false, false, false] rfl rfl (any_of HT_.out (by kernel_rfl)) (fun _ _ _ h => h) (Or.inl ⟨by rfl, ?_⟩) ?_ ?_
          rotate_left
          ·intro w'
           go_simp
           with_reducible rfl
          rotate_left
          ·simp only [Act.put, List.setIfInBounds_toArray, List.set_cons_zero, List.set_cons_succ, i64_w, i32_w]
           rfl
          refine pure_ (i := 5) (N := some 85) (v := ?_) (a' := ?_) #[true, true, true, true, true, true, false, false, false, false, false, false, false, false, false, false, false, false, false, false, false, false, false, false, false, false, false, false, false, false, false] rfl rfl (any_of HT_.out (by kernel_rfl)) (fun _ _ _ h => h) (Or.inl ⟨by rfl, ?_⟩) ?_ ?_
          rotate_left
          ·intro w'
           go_simp
           with_reducible rfl
          rotate_left
          ·simp only [Act.put, List.setIfInBounds_toArray, List.set_cons_zero, List.set_cons_succ, i64_w, i32_w]
           rfl
          refine pure_ (i := 6) (N := some 86) (v := ?_) (a' := ?_) #[true, true, true, true, true, true, true, false, false, false, false, false, false, false, false, false, false, false, false, false, false, false, false, false, false, false, false, false, false, false, false] rfl rfl (any_of HT_.out (by kernel_rfl)) (fun _ _ _ h => h) (Or.inl ⟨by rfl, ?_⟩) ?_ ?_
          rotate_left
          ·intro w'
           go_simp
           with_reducible rfl
          rotate_left
          ·simp only [Act.put, List.setIfInBounds_toArray, List.set_cons_zero, List.set_cons_succ, i64_w, i32_w]
           rfl
          refine take_ (i := 7) (N := some 87) (v := ?_) (a' := ?_) #[true, true, true, true, true, true, true, true, false, false, false, false, false, false, false, false, false, false, false, false, false, false, false, false, false, false, false, false, false, false, false] rfl rfl (take_ofW HT_.out HW_.out (by kernel_rfl)) (fun _ _ _ h => h) (Or.inl ⟨by rfl, ?_⟩) hHeld ?_ ?_
          rotate_left
          ·rintro w' ⟨s0, s1, s2, s3, s4, s5, s6, s7, s8, s9, s10, s11⟩
           go_simp
           with_reducible rfl
          rotate_left
          ·simp only [Act.put, List.setIfInBounds_toArray, List.set_cons_zero, List.set_cons_succ, i64_w, i32_w]
           rfl
          refine take_ (i := 8) (N := some 88) (v := ?_) (a' := ?_) #[true, true, true, true, true, true, true, true, true, false, false, false, false, false, false, false, false, false, false, false, false, false, false, false, false, false, false, false, false, false, false] rfl rfl (take_ofW HT_.out HW_.out (by kernel_rfl)) (fun _ _ _ h => h) (Or.inl ⟨by rfl, ?_⟩) hHeld ?_ ?_
          rotate_left
          ·rintro w' ⟨s0, s1, s2, s3, s4, s5, s6, s7, s8, s9, s10, s11⟩
           go_simp
           with_reducible rfl
          rotate_left
          ·simp only [Act.put, List.setIfInBounds_toArray, List.set_cons_zero, List.set_cons_succ, i64_w, i32_w]
           rfl
          refine one_ (i := 9) (N := some 89) #[true, true, true, true, true, true, true, true, true, true, false, false, false, false, false, false, false, false, false, false, false, false, false, false, false, false, false, false, false, false, false] rfl rfl (one_of HT_.out (by kernel_rfl)) (by decide) (fun K hK => ?_)
          refine goes_ Try.func29 (by kernel_rfl) rfl #[.agg #[.int .i64 t236, .slice Ao83 t237.length co83], .agg #[.int .i64 a0_0, .slice A0_1 l0_1.length c0_1]] (by rfl) rfl rfl (by (try simp only [List.map_toArray, List.map_cons, List.map_nil]); first | done | rfl | (simp only [List.length_drop, List.length_take]; rfl)) ?_
          with_reducible refine (dragnetref09_Same.calls kj8 t236 _ _ t237 a0_0 _ _ l0_1 true _ ?side1 ?side2 ?side3 ?side4 A104.out).mono ?_
          (case side1 => repeat (first | exact (Kd.R_reads' HO239.out).2.2 | (with_reducible refine Kd.C_alloc ?_ _) | (with_reducible refine Kd.C_drewN ?_ _) | (with_reducible refine Kd.C_drew ?_)))
          (case side2 => exact (Kd.R_reads' HO239.out).2.1)
          (case side3 => repeat (first | exact (Kd.C_below HR0_1.out HB.out) | (with_reducible refine Kd.C_alloc ?_ _) | (with_reducible refine Kd.C_drewN ?_ _) | (with_reducible refine Kd.C_drew ?_)))
          (case side4 => exact HC0_1.out)
          rintro e w114 ⟨rfl, hb⟩
          refine ⟨_, rfl, ?_⟩
          have n0_ := rbA HO_223001 hb
          have n1_ := rbA HO_229001 hb
          have n2_ := rbA HO_235001 hb
          have n3_ := rbA HO239 hb
          have n4_ := rbA HO245 hb
          have n5_ := bkA BK213 hb
          have n6_ := bkA BK214 hb
          have n7_ := bkA BK215 hb
          have n8_ := bkA BK222 hb
          have n9_ := bkA BK228 hb
          have n10_ := bkA BK234 hb
          have n11_ := bkA BK241 hb
          have n12_ := bkA BK247 hb
          have n13_ := bsA HB hb
          clear HO_223001
          clear HO_229001
          clear HO_235001
          clear HO239
          clear HO245
          clear BK213
          clear BK214
          clear BK215
          clear BK222
          clear BK228
          clear BK234
          clear BK241
          clear BK247
          clear HB
          have HO_223001 := n0_
          have HO_229001 := n1_
          have HO_235001 := n2_
          have HO239 := n3_
          have HO245 := n4_
          have BK213 := n5_
          have BK214 := n6_
          have BK215 := n7_
          have BK222 := n8_
          have BK228 := n9_
          have BK234 := n10_
          have BK241 := n11_
          have BK247 := n12_
          have HB := n13_
          clear n0_ n1_ n2_ n3_ n4_ n5_ n6_ n7_ n8_ n9_ n10_ n11_ n12_ n13_
          (try clear hb)
          (try clear hb2)
          (try clear hk)
          (try clear hi)
          refine hK.out _ _ ⟨(blk_cell BK241.out 0).trans rfl, (blk_cell BK241.out 1).trans rfl, (blk_cell BK213.out 0).trans rfl, (blk_cell BK213.out 1).trans rfl, (blk_cell BK247.out 0).trans rfl, (blk_cell BK247.out 1).trans rfl, (blk_cell BK234.out 0).trans rfl, (blk_cell BK234.out 1).trans rfl, (blk_cell BK222.out 0).trans rfl, (blk_cell BK222.out 1).trans rfl, (blk_cell BK214.out 0).trans rfl, (blk_cell BK214.out 1).trans rfl⟩ (fun hHeld => ?_)
          clear hK K
          refine norm_ (a' := ?_) ?_ ?_
          rotate_left
          ·show Act.put _ (some 89) _ = _
           simp only [Act.put, List.setIfInBounds_toArray, List.set_cons_zero, List.set_cons_succ, i64_w, i32_w]
           rfl
          refine pure_ (i := 10) (N := some 90) (v := ?_) (a' := ?_) #[true, true, true, true, true, true, true, true, true, true, true, false, false, false, false, false, false, false, false, false, false, false, false, false, false, false, false, false, false, false, false] rfl rfl (any_of HT_.out (by kernel_rfl)) (fun _ _ _ h => h) (Or.inl ⟨by rfl, ?_⟩) ?_ ?_
          rotate_left
          ·intro w'
           go_simp
           with_reducible rfl
          rotate_left
          ·simp only [Act.put, List.setIfInBounds_toArray, List.set_cons_zero, List.set_cons_succ, i64_w, i32_w]
           rfl
          refine pure_ (i := 11) (N := some 91) (v := ?_) (a' := ?_) #[true, true, true, true, true, true, true, true, true, true, true, true, false, false, false, false, false, false, false, false, false, false, false, false, false, false, false, false, false, false, false] rfl rfl (any_of HT_.out (by kernel_rfl)) (fun _ _ _ h => h) (Or.inl ⟨by rfl, ?_⟩) ?_ ?_
          rotate_left
          ·intro w'
           go_simp
           with_reducible rfl
          rotate_left
          ·simp only [Act.put, List.setIfInBounds_toArray, List.set_cons_zero, List.set_cons_succ, i64_w, i32_w]
           rfl
          refine pure_ (i := 12) (N := some 92) (v := ?_) (a' := ?_) #[true, true, true, true, true, true, true, true, true, true, true, true, true, false, false, false, false, false, false, false, false, false, false, false, false, false, false, false, false, false, false] rfl rfl (any_of HT_.out (by kernel_rfl)) (fun _ _ _ h => h) (Or.inl ⟨by rfl, ?_⟩) ?_ ?_
          rotate_left
          ·intro w'
           go_simp
           with_reducible rfl
          rotate_left
          ·simp only [Act.put, List.setIfInBounds_toArray, List.set_cons_zero, List.set_cons_succ, i64_w, i32_w]
           rfl
          refine take_ (i := 13) (N := some 93) (v := ?_) (a' := ?_) #[true, true, true, true, true, true, true, true, true, true, true, true, true, true, false, false, false, false, false, false, false, false, false, false, false, false, false, false, false, false, false] rfl rfl (take_ofW HT_.out HW_.out (by kernel_rfl)) (fun _ _ _ h => h) (Or.inl ⟨by rfl, ?_⟩) hHeld ?_ ?_
          rotate_left
          ·rintro w' ⟨s0, s1, s2, s3, s4, s5, s6, s7, s8, s9, s10, s11⟩
           go_simp
           with_reducible rfl
          rotate_left
          ·simp only [Act.put, List.setIfInBounds_toArray, List.set_cons_zero, List.set_cons_succ, i64_w, i32_w]
           rfl
          refine take_ (i := 14) (N := some 94) (v := ?_) (a' := ?_) #[true, true, true, true, true, true, true, true, true, true, true, true, true, true, true, false, false, false, false, false, false, false, false, false, false, false, false, false, false, false, false] rfl rfl (take_ofW HT_.out HW_.out (by kernel_rfl)) (fun _ _ _ h => h) (Or.inl ⟨by rfl, ?_⟩) hHeld ?_ ?_
          rotate_left
          ·rintro w' ⟨s0, s1, s2, s3, s4, s5, s6, s7, s8, s9, s10, s11⟩
           go_simp
           with_reducible rfl
          rotate_left
          ·simp only [Act.put, List.setIfInBounds_toArray, List.set_cons_zero, List.set_cons_succ, i64_w, i32_w]
           rfl
          refine one_ (i := 15) (N := some 95) #[true, true, true, true, true, true, true, true, true, true, true, true, true, true, true, true, false, false, false, false, false, false, false, false, false, false, false, false, false, false, false] rfl rfl (one_of HT_.out (by kernel_rfl)) (by decide) (fun K hK => ?_)
          refine goes_ Try.func29 (by kernel_rfl) rfl #[.agg #[.int .i64 t242, .slice Ao101 t243.length co101], .agg #[.int .i64 t229, .slice Ao46 t230.length co46]] (by rfl) rfl rfl (by (try simp only [List.map_toArray, List.map_cons, List.map_nil]); first | done | rfl | (simp only [List.length_drop, List.length_take]; rfl)) ?_
          with_reducible refine (dragnetref09_Same.calls kj8 t242 _ _ t243 t229 _ _ t230 true _ ?side1 ?side2 ?side3 ?side4 A106.out).mono ?_
          (case side1 => repeat (first | exact (Kd.R_reads' HO245.out).2.2 | (with_reducible refine Kd.C_alloc ?_ _) | (with_reducible refine Kd.C_drewN ?_ _) | (with_reducible refine Kd.C_drew ?_)))
          (case side2 => exact (Kd.R_reads' HO245.out).2.1)
          (case side3 => repeat (first | exact (Kd.R_reads' HO_235001.out).2.2 | (with_reducible refine Kd.C_alloc ?_ _) | (with_reducible refine Kd.C_drewN ?_ _) | (with_reducible refine Kd.C_drew ?_)))
          (case side4 => exact (Kd.R_reads' HO_235001.out).2.1)
          rintro e w115 ⟨rfl, hb⟩
          refine ⟨_, rfl, ?_⟩
          have n0_ := rbA HO_223001 hb
          have n1_ := rbA HO_229001 hb
          have n2_ := rbA HO_235001 hb
          have n3_ := rbA HO239 hb
          have n4_ := rbA HO245 hb
          have n5_ := bkA BK213 hb
          have n6_ := bkA BK214 hb
          have n7_ := bkA BK215 hb
          have n8_ := bkA BK222 hb
          have n9_ := bkA BK228 hb
          have n10_ := bkA BK234 hb
          have n11_ := bkA BK241 hb
          have n12_ := bkA BK247 hb
          have n13_ := bsA HB hb
          clear HO_223001
          clear HO_229001
          clear HO_235001
          clear HO239
          clear HO245
          clear BK213
          clear BK214
          clear BK215
          clear BK222
          clear BK228
          clear BK234
          clear BK241
          clear BK247
          clear HB
          have HO_223001 := n0_
          have HO_229001 := n1_
          have HO_235001 := n2_
          have HO239 := n3_
          have HO245 := n4_
          have BK213 := n5_
          have BK214 := n6_
          have BK215 := n7_
          have BK222 := n8_
          have BK228 := n9_
          have BK234 := n10_
          have BK241 := n11_
          have BK247 := n12_
          have HB := n13_
          clear n0_ n1_ n2_ n3_ n4_ n5_ n6_ n7_ n8_ n9_ n10_ n11_ n12_ n13_
          (try clear hb)
          (try clear hb2)
          (try clear hk)
          (try clear hi)
          refine hK.out _ _ ⟨(blk_cell BK241.out 0).trans rfl, (blk_cell BK241.out 1).trans rfl, (blk_cell BK213.out 0).trans rfl, (blk_cell BK213.out 1).trans rfl, (blk_cell BK247.out 0).trans rfl, (blk_cell BK247.out 1).trans rfl, (blk_cell BK234.out 0).trans rfl, (blk_cell BK234.out 1).trans rfl, (blk_cell BK222.out 0).trans rfl, (blk_cell BK222.out 1).trans rfl, (blk_cell BK214.out 0).trans rfl, (blk_cell BK214.out 1).trans rfl⟩ (fun hHeld => ?_)
          clear hK K
          refine norm_ (a' := ?_) ?_ ?_
          rotate_left
          ·show Act.put _ (some 95) _ = _
           simp only [Act.put, List.setIfInBounds_toArray, List.set_cons_zero, List.set_cons_succ, i64_w, i32_w]
           rfl
          refine pure_ (i := 16) (N := some 96) (v := ?_) (a' := ?_) #[true, true, true, true, true, true, true, true, true, true, true, true, true, true, true, true, true, false, false, false, false, false, false, false, false, false, false, false, false, false, false] rfl rfl (any_of HT_.out (by kernel_rfl)) (fun _ _ _ h => h) (Or.inl ⟨by rfl, ?_⟩) ?_ ?_
          rotate_left
          ·intro w'
           go_simp
           with_reducible rfl
          rotate_left
          ·simp only [Act.put, List.setIfInBounds_toArray, List.set_cons_zero, List.set_cons_succ, i64_w, i32_w]
           rfl
          refine pure_ (i := 17) (N := some 97) (v := ?_) (a' := ?_) #[true, true, true, true, true, true, true, true, true, true, true, true, true, true, true, true, true, true, false, false, false, false, false, false, false, false, false, false, false, false, false] rfl rfl (any_of HT_.out (by kernel_rfl)) (fun _ _ _ h => h) (Or.inl ⟨by rfl, ?_⟩) ?_ ?_
          rotate_left
          ·intro w'
           go_simp
           with_reducible rfl
          rotate_left
          ·simp only [Act.put, List.setIfInBounds_toArray, List.set_cons_zero, List.set_cons_succ, i64_w, i32_w]
           rfl
          refine pure_ (i := 18) (N := some 98) (v := ?_) (a' := ?_) #[true, true, true, true, true, true, true, true, true, true, true, true, true, true, true, true, true, true, true, false, false, false, false, false, false, false, false, false, false, false, false] rfl rfl (any_of HT_.out (by kernel_rfl)) (fun _ _ _ h => h) (Or.inl ⟨by rfl, ?_⟩) ?_ ?_
          rotate_left
          ·intro w'
           go_simp
           with_reducible rfl
          rotate_left
          ·simp only [Act.put, List.setIfInBounds_toArray, List.set_cons_zero, List.set_cons_succ, i64_w, i32_w]
           rfl
          refine take_ (i := 19) (N := some 99) (v := ?_) (a' := ?_) #[true, true, true, true, true, true, true, true, true, true, true, true, true, true, true, true, true, true, true, true, false, false, false, false, false, false, false, false, false, false, false] rfl rfl (take_ofW HT_.out HW_.out (by kernel_rfl)) (fun _ _ _ h => h) (Or.inl ⟨by rfl, ?_⟩) hHeld ?_ ?_
          rotate_left
          ·rintro w' ⟨s0, s1, s2, s3, s4, s5, s6, s7, s8, s9, s10, s11⟩
           go_simp
           with_reducible rfl
          rotate_left
          ·simp only [Act.put, List.setIfInBounds_toArray, List.set_cons_zero, List.set_cons_succ, i64_w, i32_w]
           rfl
          refine take_ (i := 21) (N := some 101) (v := ?_) (a' := ?_) #[true, true, true, true, true, true, true, true, true, true, true, true, true, true, true, true, true, true, true, true, false, true, false, false, false, false, false, false, false, false, false] rfl rfl (take_ofW HT_.out HW_.out (by kernel_rfl)) (fun _ _ _ h => h) (Or.inl ⟨by rfl, ?_⟩) hHeld ?_ ?_
          rotate_left
          ·rintro w' ⟨s0, s1, s2, s3, s4, s5, s6, s7, s8, s9, s10, s11⟩
           go_simp
           with_reducible rfl
          rotate_left
          ·simp only [Act.put, List.setIfInBounds_toArray, List.set_cons_zero, List.set_cons_succ, i64_w, i32_w]
           rfl
          refine take_ (i := 24) (N := some 104) (v := ?_) (a' := ?_) #[true, true, true, true, true, true, true, true, true, true, true, true, true, true, true, true, true, true, true, true, false, true, false, false, true, false, false, false, false, false, false] rfl rfl (take_ofW HT_.out HW_.out (by kernel_rfl)) (fun _ _ _ h => h) (Or.inl ⟨by rfl, ?_⟩) hHeld ?_ ?_
          rotate_left
          ·rintro w' ⟨s0, s1, s2, s3, s4, s5, s6, s7, s8, s9, s10, s11⟩
           go_simp
           with_reducible rfl
          rotate_left
          ·simp only [Act.put, List.setIfInBounds_toArray, List.set_cons_zero, List.set_cons_succ, i64_w, i32_w]
           rfl
          refine take_ (i := 26) (N := some 106) (v := ?_) (a' := ?_) #[true, true, true, true, true, true, true, true, true, true, true, true, true, true, true, true, true, true, true, true, false, true, false, false, true, false, true, false, false, false, false] rfl rfl (take_ofW HT_.out HW_.out (by kernel_rfl)) (fun _ _ _ h => h) (Or.inl ⟨by rfl, ?_⟩) hHeld ?_ ?_
          rotate_left
          ·rintro w' ⟨s0, s1, s2, s3, s4, s5, s6, s7, s8, s9, s10, s11⟩
           go_simp
           with_reducible rfl
          rotate_left
          ·simp only [Act.put, List.setIfInBounds_toArray, List.set_cons_zero, List.set_cons_succ, i64_w, i32_w]
           rfl
          refine one_ (i := 20) (N := some 100) #[true, true, true, true, true, true, true, true, true, true, true, true, true, true, true, true, true, true, true, true, true, true, false, false, true, false, true, false, false, false, false] rfl rfl (one_of HT_.out (by kernel_rfl)) (by decide) (fun K hK => ?_)
          refine goes_ Try.func31 (by kernel_rfl) rfl #[.agg #[.int .i64 t217, .slice Ao25 t218.length co25]] (by rfl) rfl rfl (by (try simp only [List.map_toArray, List.map_cons, List.map_nil]); first | done | rfl | (simp only [List.length_drop, List.length_take]; rfl)) ?_
          with_reducible refine (rowset_Count.calls kj8 t217 _ _ t218 t250 _ ?side1 ?side2 A108.out).mono ?_
          (case side1 => repeat (first | exact (Kd.R_reads' HO_223001.out).2.2 | (with_reducible refine Kd.C_alloc ?_ _) | (with_reducible refine Kd.C_drewN ?_ _) | (with_reducible refine Kd.C_drew ?_)))
          (case side2 => exact (Kd.R_reads' HO_223001.out).2.1)
          rintro e w116 ⟨rfl, hb⟩
          refine ⟨_, rfl, ?_⟩
          have n0_ := rbA HO_223001 hb
          have n1_ := rbA HO_229001 hb
          have n2_ := rbA HO_235001 hb
          have n3_ := rbA HO239 hb
          have n4_ := rbA HO245 hb
          have n5_ := bkA BK213 hb
          have n6_ := bkA BK214 hb
          have n7_ := bkA BK215 hb
          have n8_ := bkA BK222 hb
          have n9_ := bkA BK228 hb
          have n10_ := bkA BK234 hb
          have n11_ := bkA BK241 hb
          have n12_ := bkA BK247 hb
          have n13_ := bsA HB hb
          clear HO_223001
          clear HO_229001
          clear HO_235001
          clear HO239
          clear HO245
          clear BK213
          clear BK214
          clear BK215
          clear BK222
          clear BK228
          clear BK234
          clear BK241
          clear BK247
          clear HB
          have HO_223001 := n0_
          have HO_229001 := n1_
          have HO_235001 := n2_
          have HO239 := n3_
          have HO245 := n4_
          have BK213 := n5_
          have BK214 := n6_
          have BK215 := n7_
          have BK222 := n8_
          have BK228 := n9_
          have BK234 := n10_
          have BK241 := n11_
          have BK247 := n12_
          have HB := n13_
          clear n0_ n1_ n2_ n3_ n4_ n5_ n6_ n7_ n8_ n9_ n10_ n11_ n12_ n13_
          (try clear hb)
          (try clear hb2)
          (try clear hk)
          (try clear hi)
          refine hK.out _ _ ⟨(blk_cell BK241.out 0).trans rfl, (blk_cell BK241.out 1).trans rfl, (blk_cell BK213.out 0).trans rfl, (blk_cell BK213.out 1).trans rfl, (blk_cell BK247.out 0).trans rfl, (blk_cell BK247.out 1).trans rfl, (blk_cell BK234.out 0).trans rfl, (blk_cell BK234.out 1).trans rfl, (blk_cell BK222.out 0).trans rfl, (blk_cell BK222.out 1).trans rfl, (blk_cell BK214.out 0).trans rfl, (blk_cell BK214.out 1).trans rfl⟩ (fun hHeld => ?_)
          clear hK K
          refine norm_ (a' := ?_) ?_ ?_
          rotate_left
          ·show Act.put _ (some 100) _ = _
           simp only [Act.put, List.setIfInBounds_toArray, List.set_cons_zero, List.set_cons_succ, i64_w, i32_w]
           rfl
          refine one_ (i := 22) (N := some 102) #[true, true, true, true, true, true, true, true, true, true, true, true, true, true, true, true, true, true, true, true, true, true, true, false, true, false, true, false, false, false, false] rfl rfl (one_of HT_.out (by kernel_rfl)) (by decide) (fun K hK => ?_)
          refine goes_ Try.func31 (by kernel_rfl) rfl #[.agg #[.int .i64 t229, .slice Ao46 t230.length co46]] (by rfl) rfl rfl (by (try simp only [List.map_toArray, List.map_cons, List.map_nil]); first | done | rfl | (simp only [List.length_drop, List.length_take]; rfl)) ?_
          with_reducible refine (rowset_Count.calls kj8 t229 _ _ t230 t251 _ ?side1 ?side2 A109.out).mono ?_
          (case side1 => repeat (first | exact (Kd.R_reads' HO_235001.out).2.2 | (with_reducible refine Kd.C_alloc ?_ _) | (with_reducible refine Kd.C_drewN ?_ _) | (with_reducible refine Kd.C_drew ?_)))
          (case side2 => exact (Kd.R_reads' HO_235001.out).2.1)
          rintro e w117 ⟨rfl, hb⟩
          refine ⟨_, rfl, ?_⟩
          have n0_ := rbA HO_223001 hb
          have n1_ := rbA HO_229001 hb
          have n2_ := rbA HO_235001 hb
          have n3_ := rbA HO239 hb
          have n4_ := rbA HO245 hb
          have n5_ := bkA BK213 hb
          have n6_ := bkA BK214 hb
          have n7_ := bkA BK215 hb
          have n8_ := bkA BK222 hb
          have n9_ := bkA BK228 hb
          have n10_ := bkA BK234 hb
          have n11_ := bkA BK241 hb
          have n12_ := bkA BK247 hb
          have n13_ := bsA HB hb
          clear HO_223001
          clear HO_229001
          clear HO_235001
          clear HO239
          clear HO245
          clear BK213
          clear BK214
          clear BK215
          clear BK222
          clear BK228
          clear BK234
          clear BK241
          clear BK247
          clear HB
          have HO_223001 := n0_
          have HO_229001 := n1_
          have HO_235001 := n2_
          have HO239 := n3_
          have HO245 := n4_
          have BK213 := n5_
          have BK214 := n6_
          have BK215 := n7_
          have BK222 := n8_
          have BK228 := n9_
          have BK234 := n10_
          have BK241 := n11_
          have BK247 := n12_
          have HB := n13_
          clear n0_ n1_ n2_ n3_ n4_ n5_ n6_ n7_ n8_ n9_ n10_ n11_ n12_ n13_
          (try clear hb)
          (try clear hb2)
          (try clear hk)
          (try clear hi)
          refine hK.out _ _ ⟨(blk_cell BK241.out 0).trans rfl, (blk_cell BK241.out 1).trans rfl, (blk_cell BK213.out 0).trans rfl, (blk_cell BK213.out 1).trans rfl, (blk_cell BK247.out 0).trans rfl, (blk_cell BK247.out 1).trans rfl, (blk_cell BK234.out 0).trans rfl, (blk_cell BK234.out 1).trans rfl, (blk_cell BK222.out 0).trans rfl, (blk_cell BK222.out 1).trans rfl, (blk_cell BK214.out 0).trans rfl, (blk_cell BK214.out 1).trans rfl⟩ (fun hHeld => ?_)
          clear hK K
          refine norm_ (a' := ?_) ?_ ?_
          rotate_left
          ·show Act.put _ (some 102) _ = _
           simp only [Act.put, List.setIfInBounds_toArray, List.set_cons_zero, List.set_cons_succ, i64_w, i32_w]
           rfl
          refine pure_ (i := 23) (N := some 103) (v := ?_) (a' := ?_) #[true, true, true, true, true, true, true, true, true, true, true, true, true, true, true, true, true, true, true, true, true, true, true, true, true, false, true, false, false, false, false] rfl rfl (any_of HT_.out (by kernel_rfl)) (fun _ _ _ h => h) (Or.inl ⟨by rfl, ?_⟩) ?_ ?_
          rotate_left
          ·intro w'
           go_simp
           with_reducible rfl
          rotate_left
          ·simp only [Act.put, List.setIfInBounds_toArray, List.set_cons_zero, List.set_cons_succ, i64_w, i32_w]
           rfl
          refine one_ (i := 25) (N := some 105) #[true, true, true, true, true, true, true, true, true, true, true, true, true, true, true, true, true, true, true, true, true, true, true, true, true, true, true, false, false, false, false] rfl rfl (one_of HT_.out (by kernel_rfl)) (by decide) (fun K hK => ?_)
          refine goes_ Try.func31 (by kernel_rfl) rfl #[.agg #[.int .i64 a0_0, .slice A0_1 l0_1.length c0_1]] (by rfl) rfl rfl (by (try simp only [List.map_toArray, List.map_cons, List.map_nil]); first | done | rfl | (simp only [List.length_drop, List.length_take]; rfl)) ?_
          with_reducible refine (rowset_Count.calls kj8 a0_0 _ _ l0_1 t252 _ ?side1 ?side2 A110.out).mono ?_
          (case side1 => repeat (first | exact (Kd.C_below HR0_1.out HB.out) | (with_reducible refine Kd.C_alloc ?_ _) | (with_reducible refine Kd.C_drewN ?_ _) | (with_reducible refine Kd.C_drew ?_)))
          (case side2 => exact HC0_1.out)
          rintro e w118 ⟨rfl, hb⟩
          refine ⟨_, rfl, ?_⟩
          have n0_ := rbA HO_223001 hb
          have n1_ := rbA HO_229001 hb
          have n2_ := rbA HO_235001 hb
          have n3_ := rbA HO239 hb
          have n4_ := rbA HO245 hb
          have n5_ := bkA BK213 hb
          have n6_ := bkA BK214 hb
          have n7_ := bkA BK215 hb
          have n8_ := bkA BK222 hb
          have n9_ := bkA BK228 hb
          have n10_ := bkA BK234 hb
          have n11_ := bkA BK241 hb
          have n12_ := bkA BK247 hb
          have n13_ := bsA HB hb
          clear HO_223001
          clear HO_229001
          clear HO_235001
          clear HO239
          clear HO245
          clear BK213
          clear BK214
          clear BK215
          clear BK222
          clear BK228
          clear BK234
          clear BK241
          clear BK247
          clear HB
          have HO_223001 := n0_
          have HO_229001 := n1_
          have HO_235001 := n2_
          have HO239 := n3_
          have HO245 := n4_
          have BK213 := n5_
          have BK214 := n6_
          have BK215 := n7_
          have BK222 := n8_
          have BK228 := n9_
          have BK234 := n10_
          have BK241 := n11_
          have BK247 := n12_
          have HB := n13_
          clear n0_ n1_ n2_ n3_ n4_ n5_ n6_ n7_ n8_ n9_ n10_ n11_ n12_ n13_
          (try clear hb)
          (try clear hb2)
          (try clear hk)
          (try clear hi)
          refine hK.out _ _ ⟨(blk_cell BK241.out 0).trans rfl, (blk_cell BK241.out 1).trans rfl, (blk_cell BK213.out 0).trans rfl, (blk_cell BK213.out 1).trans rfl, (blk_cell BK247.out 0).trans rfl, (blk_cell BK247.out 1).trans rfl, (blk_cell BK234.out 0).trans rfl, (blk_cell BK234.out 1).trans rfl, (blk_cell BK222.out 0).trans rfl, (blk_cell BK222.out 1).trans rfl, (blk_cell BK214.out 0).trans rfl, (blk_cell BK214.out 1).trans rfl⟩ (fun hHeld => ?_)
          clear hK K
          refine norm_ (a' := ?_) ?_ ?_
          rotate_left
          ·show Act.put _ (some 105) _ = _
           simp only [Act.put, List.setIfInBounds_toArray, List.set_cons_zero, List.set_cons_succ, i64_w, i32_w]
           rfl
          refine one_ (i := 27) (N := some 107) #[true, true, true, true, true, true, true, true, true, true, true, true, true, true, true, true, true, true, true, true, true, true, true, true, true, true, true, true, false, false, false] rfl rfl (one_of HT_.out (by kernel_rfl)) (by decide) (fun K hK => ?_)
          refine goes_ Try.func31 (by kernel_rfl) rfl #[.agg #[.int .i64 a1_0, .slice A1_1 l1_1.length c1_1]] (by rfl) rfl rfl (by (try simp only [List.map_toArray, List.map_cons, List.map_nil]); first | done | rfl | (simp only [List.length_drop, List.length_take]; rfl)) ?_
          with_reducible refine (rowset_Count.calls kj8 a1_0 _ _ l1_1 t253 _ ?side1 ?side2 A111.out).mono ?_
          (case side1 => repeat (first | exact (Kd.C_below HR1_1.out HB.out) | (with_reducible refine Kd.C_alloc ?_ _) | (with_reducible refine Kd.C_drewN ?_ _) | (with_reducible refine Kd.C_drew ?_)))
          (case side2 => exact HC1_1.out)
          rintro e w119 ⟨rfl, hb⟩
          refine ⟨_, rfl, ?_⟩
          have n0_ := rbA HO_223001 hb
          have n1_ := rbA HO_229001 hb
          have n2_ := rbA HO_235001 hb
          have n3_ := rbA HO239 hb
          have n4_ := rbA HO245 hb
          have n5_ := bkA BK213 hb
          have n6_ := bkA BK214 hb
          have n7_ := bkA BK215 hb
          have n8_ := bkA BK222 hb
          have n9_ := bkA BK228 hb
          have n10_ := bkA BK234 hb
          have n11_ := bkA BK241 hb
          have n12_ := bkA BK247 hb
          have n13_ := bsA HB hb
          clear HO_223001
          clear HO_229001
          clear HO_235001
          clear HO239
          clear HO245
          clear BK213
          clear BK214
          clear BK215
          clear BK222
          clear BK228
          clear BK234
          clear BK241
          clear BK247
          clear HB
          have HO_223001 := n0_
          have HO_229001 := n1_
          have HO_235001 := n2_
          have HO239 := n3_
          have HO245 := n4_
          have BK213 := n5_
          have BK214 := n6_
          have BK215 := n7_
          have BK222 := n8_
          have BK228 := n9_
          have BK234 := n10_
          have BK241 := n11_
          have BK247 := n12_
          have HB := n13_
          clear n0_ n1_ n2_ n3_ n4_ n5_ n6_ n7_ n8_ n9_ n10_ n11_ n12_ n13_
          (try clear hb)
          (try clear hb2)
          (try clear hk)
          (try clear hi)
          refine hK.out _ _ ⟨(blk_cell BK241.out 0).trans rfl, (blk_cell BK241.out 1).trans rfl, (blk_cell BK213.out 0).trans rfl, (blk_cell BK213.out 1).trans rfl, (blk_cell BK247.out 0).trans rfl, (blk_cell BK247.out 1).trans rfl, (blk_cell BK234.out 0).trans rfl, (blk_cell BK234.out 1).trans rfl, (blk_cell BK222.out 0).trans rfl, (blk_cell BK222.out 1).trans rfl, (blk_cell BK214.out 0).trans rfl, (blk_cell BK214.out 1).trans rfl⟩ (fun hHeld => ?_)
          clear hK K
          refine norm_ (a' := ?_) ?_ ?_
          rotate_left
          ·show Act.put _ (some 107) _ = _
           simp only [Act.put, List.setIfInBounds_toArray, List.set_cons_zero, List.set_cons_succ, i64_w, i32_w]
           rfl
          refine pure_ (i := 28) (N := some 108) (v := ?_) (a' := ?_) #[true, true, true, true, true, true, true, true, true, true, true, true, true, true, true, true, true, true, true, true, true, true, true, true, true, true, true, true, true, false, false] rfl rfl (any_of HT_.out (by kernel_rfl)) (fun _ _ _ h => h) (Or.inl ⟨by rfl, ?_⟩) ?_ ?_
          rotate_left
          ·intro w'
           go_simp
           with_reducible rfl
          rotate_left
          ·simp only [Act.put, List.setIfInBounds_toArray, List.set_cons_zero, List.set_cons_succ, i64_w, i32_w]
           rfl
          refine pure_ (i := 29) (N := some 109) (v := ?_) (a' := ?_) #[true, true, true, true, true, true, true, true, true, true, true, true, true, true, true, true, true, true, true, true, true, true, true, true, true, true, true, true, true, true, false] rfl rfl (any_of HT_.out (by kernel_rfl)) (fun _ _ _ h => h) (Or.inl ⟨by rfl, ?_⟩) ?_ ?_
          rotate_left
          ·intro w'
           go_simp
           with_reducible rfl
          rotate_left
          ·simp only [Act.put, List.setIfInBounds_toArray, List.set_cons_zero, List.set_cons_succ, i64_w, i32_w]
           rfl
          refine pure_ (i := 30) (N := some 110) (v := ?_) (a' := ?_) #[true, true, true, true, true, true, true, true, true, true, true, true, true, true, true, true, true, true, true, true, true, true, true, true, true, true, true, true, true, true, true] rfl rfl (any_of HT_.out (by kernel_rfl)) (fun _ _ _ h => h) (Or.inl ⟨by rfl, ?_⟩) ?_ ?_
          rotate_left
          ·intro w'
           go_simp
           with_reducible rfl
          rotate_left
          ·simp only [Act.put, List.setIfInBounds_toArray, List.set_cons_zero, List.set_cons_succ, i64_w, i32_w]
           rfl
          refine done_ (done_of HT_.out (by kernel_rfl)) ?_
          try go_wp2
          go_meet
          case rel => exact ⟨_, (((wrap64 (t250 + t251)) != (wrap64 (t252 + t253)))), (by first | rfl | (simp; done) | (simp [*]; done)), H', ⟨by have := HJ8.out; first | omega | exact Nat.le_refl _⟩, ⟨by (with_reducible repeat (first | apply Kd.R_alloc | apply Kd.R_drewN | apply Kd.R_drew)); exact HO_223001.out⟩, ⟨by (with_reducible repeat (first | apply Kd.R_alloc | apply Kd.R_drewN | apply Kd.R_drew)); exact HO_229001.out⟩, ⟨by (with_reducible repeat (first | apply Kd.R_alloc | apply Kd.R_drewN | apply Kd.R_drew)); exact HO_235001.out⟩, ⟨by (with_reducible repeat (first | apply Kd.R_alloc | apply Kd.R_drewN | apply Kd.R_drew)); exact HO239.out⟩, ⟨by (with_reducible repeat (first | apply Kd.R_alloc | apply Kd.R_drewN | apply Kd.R_drew)); exact HO245.out⟩, ⟨by (with_reducible repeat (first | refine blk_drewN ?_ _ | refine blk_drew ?_ | refine blk_alloc ?_ _)); exact BK213.out⟩, ⟨by (with_reducible repeat (first | refine blk_drewN ?_ _ | refine blk_drew ?_ | refine blk_alloc ?_ _)); exact BK214.out⟩, ⟨by (with_reducible repeat (first | refine blk_drewN ?_ _ | refine blk_drew ?_ | refine blk_alloc ?_ _)); exact BK215.out⟩, ⟨by (with_reducible repeat (first | refine blk_drewN ?_ _ | refine blk_drew ?_ | refine blk_alloc ?_ _)); exact BK222.out⟩, ⟨by (with_reducible repeat (first | refine blk_drewN ?_ _ | refine blk_drew ?_ | refine blk_alloc ?_ _)); exact BK228.out⟩, ⟨by (with_reducible repeat (first | refine blk_drewN ?_ _ | refine blk_drew ?_ | refine blk_alloc ?_ _)); exact BK234.out⟩, ⟨by (with_reducible repeat (first | refine blk_drewN ?_ _ | refine blk_drew ?_ | refine blk_alloc ?_ _)); exact BK241.out⟩, ⟨by (with_reducible repeat (first | refine blk_drewN ?_ _ | refine blk_drew ?_ | refine blk_alloc ?_ _)); exact BK247.out⟩, ⟨by repeat (first | (with_reducible first | exact HB.out | apply below_alloc | apply pw_below_drewN | apply below_drew1 | refine below_set ?_ GE213.out | refine below_set ?_ GE214.out | refine below_set ?_ GE215.out | refine below_set ?_ GE222.out | refine below_set ?_ GE228.out | refine below_set ?_ GE234.out | refine below_set ?_ GE241.out | refine below_set ?_ GE247.out) | exact HB.out)⟩⟩
         ·replace c107 := Bool.eq_false_iff.mpr c107
          subst c107
          have H1 : (dragnetlaw09_RowsetSets.j1 kj8 true a0_0 l0_1 a1_0 l1_1 a2_0 l2_1 t229 t230) = some true := by rw [if_neg (show ¬ (false = true) by decide)] at H; exact H
          clear H
          have H := H1
          clear H1
          exact absurd H (dragnetlaw09_RowsetSets.j1_no _ _ _ _ _ _ _ _ _)
        ·replace c105 := Bool.eq_false_iff.mpr c105
         subst c105
         have H1 : (dragnetlaw09_RowsetSets.j1 kj8 true a0_0 l0_1 a1_0 l1_1 a2_0 l2_1 t229 t230) = some true := by rw [if_neg (show ¬ (false = true) by decide)] at H; exact H
         clear H
         have H := H1
         clear H1
         exact absurd H (dragnetlaw09_RowsetSets.j1_no _ _ _ _ _ _ _ _ _)
       ·rw [if_neg c103] at H
        have c103b0 : (t246 == 0) = false := beq_eq_false_iff_ne.mpr c103
        have c103b1 : (t246 != 0) = true := bne_iff_ne.mpr c103
        exact absurd H (dragnetlaw09_RowsetSets.j1_no _ _ _ _ _ _ _ _ _)
      ·rw [if_neg c102] at H
       have c102b0 : (t240 == 0) = false := beq_eq_false_iff_ne.mpr c102
       have c102b1 : (t240 != 0) = true := bne_iff_ne.mpr c102
       (first | rw [c102b0] | (simp only [i64_w, i32_w]; rw [c102b0]) | skip)
       exact absurd H (dragnetlaw09_RowsetSets.j1_no _ _ _ _ _ _ _ _ _)
     case rest =>
      clear HC62
      try clear c1
      try clear c2
      try clear p2
      try clear c10
      try clear c102
      try clear c102b0
      try clear c102b1
      try clear c103
      try clear c103b0
      try clear c103b1
      obtain ⟨kq, x110_61, rfl, HA, HJ61, HO_223001, HO_229001, HO_235001, HO_242001, HO_248001, BK213, BK214, BK215, BK222, BK228, BK234, BK241, BK247, HB⟩ := hcut
      cases kq with
      | zero => exact absurd HA.out (by simp [dragnetlaw09_RowsetSets.j1])
      | succ kj61 =>
       have H := HA.out
       clear HA
       simp only [dragnetlaw09_RowsetSets.j1] at H
       by_cases c131 : x110_61 = true
       ·subst c131
        have H1 : (some false) = some true := by rw [if_pos rfl] at H; exact H
        clear H
        have H := H1
        clear H1
        exact absurd H (by simp)
       ·replace c131 := Bool.eq_false_iff.mpr c131
        subst c131
        have H1 : ((rowset_And.f kj61 t229 t230 a2_0 l2_1).bind fun bt254 => ((rowset_And.f kj61 a0_0 l0_1 a2_0 l2_1).bind fun bt260 => ((rowset_And.f kj61 a1_0 l1_1 a2_0 l2_1).bind fun bt266 => (if bt254.2.2 = 0 then ((rowset_Or.f kj61 bt260.1 bt260.2.1 bt266.1 bt266.2.1).bind fun bt272 => (if bt260.2.2 = 0 then (if bt266.2.2 = 0 then (if bt272.2.2 = 0 then ((dragnetref09_Same.f kj61 bt254.1 bt254.2.1 bt272.1 bt272.2.1).bind fun t278 => (some t278)) else (some false)) else (some false)) else (some false))) else (if bt260.2.2 = bt254.2.2 then (some (bt266.2.2 == bt254.2.2)) else (some false)))))) = some true := by rw [if_neg (show ¬ (false = true) by decide)] at H; exact H
        clear H
        have H := H1
        clear H1
        replace H := Option.bind_eq_some_iff.mp H
        obtain ⟨⟨t254, t255, t258⟩, A1320, H⟩ := H
        replace H : ((rowset_And.f kj61 a0_0 l0_1 a2_0 l2_1).bind fun bt260 => ((rowset_And.f kj61 a1_0 l1_1 a2_0 l2_1).bind fun bt266 => (if t258 = 0 then ((rowset_Or.f kj61 bt260.1 bt260.2.1 bt266.1 bt266.2.1).bind fun bt272 => (if bt260.2.2 = 0 then (if bt266.2.2 = 0 then (if bt272.2.2 = 0 then ((dragnetref09_Same.f kj61 t254 t255 bt272.1 bt272.2.1).bind fun t278 => (some t278)) else (some false)) else (some false)) else (some false))) else (if bt260.2.2 = t258 then (some (bt266.2.2 == t258)) else (some false))))) = some true := H
        have A132 := Aside0.mk A1320
        clear A1320
        replace H := Option.bind_eq_some_iff.mp H
        obtain ⟨⟨t260, t261, t264⟩, A1330, H⟩ := H
        replace H : ((rowset_And.f kj61 a1_0 l1_1 a2_0 l2_1).bind fun bt266 => (if t258 = 0 then ((rowset_Or.f kj61 t260 t261 bt266.1 bt266.2.1).bind fun bt272 => (if t264 = 0 then (if bt266.2.2 = 0 then (if bt272.2.2 = 0 then ((dragnetref09_Same.f kj61 t254 t255 bt272.1 bt272.2.1).bind fun t278 => (some t278)) else (some false)) else (some false)) else (some false))) else (if t264 = t258 then (some (bt266.2.2 == t258)) else (some false)))) = some true := H
        have A133 := Aside0.mk A1330
        clear A1330
        replace H := Option.bind_eq_some_iff.mp H
        obtain ⟨⟨t266, t267, t270⟩, A1340, H⟩ := H
        replace H : (if t258 = 0 then ((rowset_Or.f kj61 t260 t261 t266 t267).bind fun bt272 => (if t264 = 0 then (if t270 = 0 then (if bt272.2.2 = 0 then ((dragnetref09_Same.f kj61 t254 t255 bt272.1 bt272.2.1).bind fun t278 => (some t278)) else (some false)) else (some false)) else (some false))) else (if t264 = t258 then (some (t270 == t258)) else (some false))) = some true := H
        have A134 := Aside0.mk A1340
        clear A1340
        by_cases c135 : t258 = 0
        ·rw [if_pos c135] at H
         have c135b0 : (t258 == 0) = true := beq_iff_eq.mpr c135
         have c135b1 : (t258 != 0) = false := bne_eq_false_iff_eq.mpr c135
         clear c135
         replace H := Option.bind_eq_some_iff.mp H
         obtain ⟨⟨t272, t273, t276⟩, A1360, H⟩ := H
         replace H : (if t264 = 0 then (if t270 = 0 then (if t276 = 0 then ((dragnetref09_Same.f kj61 t254 t255 t272 t273).bind fun t278 => (some t278)) else (some false)) else (some false)) else (some false)) = some true := H
         have A136 := Aside0.mk A1360
         clear A1360
         by_cases c137 : t264 = 0
         ·rw [if_pos c137] at H
          have c137b0 : (t264 == 0) = true := beq_iff_eq.mpr c137
          have c137b1 : (t264 != 0) = false := bne_eq_false_iff_eq.mpr c137
          clear c137
          by_cases c138 : t270 = 0
          ·rw [if_pos c138] at H
           have c138b0 : (t270 == 0) = true := beq_iff_eq.mpr c138
           have c138b1 : (t270 != 0) = false := bne_eq_false_iff_eq.mpr c138
           clear c138
           by_cases c139 : t276 = 0
           ·rw [if_pos c139] at H
            have c139b0 : (t276 == 0) = true := beq_iff_eq.mpr c139
            have c139b1 : (t276 != 0) = false := bne_eq_false_iff_eq.mpr c139
            clear c139
            replace H := Option.bind_eq_some_iff.mp H
            obtain ⟨t278, A1400, H⟩ := H
            replace H : (some t278) = some true := H
            have A140 := Aside0.mk A1400
            clear A1400
            have Hr_ := Option.some.inj H
            have hnb141 := NB234_213.out
            have hnc141 := NB213_234.out
            have hnb142 := NB234_214.out
            have hnc142 := NB214_234.out
            have hnb143 := NB234_215.out
            have hnc143 := NB215_234.out
            have hnb144 := NB234_222.out
            have hnc144 := NB222_234.out
            have hnb145 := NB234_228.out
            have hnc145 := NB228_234.out
            have hnb146 := NB234_241.out
            have hnc146 := NB241_234.out
            have hnb147 := NB234_247.out
            have hnc147 := NB247_234.out
            have hcz148_0 : wc.cell? ⟨gb234, 0, none⟩ = some (.int .i64 t229) := (blk_cell BK234.out 0).trans rfl
            have hcz148_1 : wc.cell? ⟨gb234, 1, none⟩ = some (.slice Ao46 t230.length co46) := (blk_cell BK234.out 1).trans rfl
            have hfz148_0 := blk_frozen BK234.out 0
            have hfz148_1 := blk_frozen BK234.out 1
            have hnb149 := NB215_213.out
            have hnc149 := NB213_215.out
            have hnb150 := NB215_214.out
            have hnc150 := NB214_215.out
            have hnb151 := NB215_222.out
            have hnc151 := NB222_215.out
            have hnb152 := NB215_228.out
            have hnc152 := NB228_215.out
            have hnb153 := NB215_241.out
            have hnc153 := NB241_215.out
            have hnb154 := NB215_247.out
            have hnc154 := NB247_215.out
            have hcz155_0 : wc.cell? ⟨gb215, 0, none⟩ = some (.int .i64 a2_0) := (blk_cell BK215.out 0).trans rfl
            have hcz155_1 : wc.cell? ⟨gb215, 1, none⟩ = some (.slice A2_1 l2_1.length c2_1) := (blk_cell BK215.out 1).trans rfl
            have hfz155_0 := blk_frozen BK215.out 0
            have hfz155_1 := blk_frozen BK215.out 1
            go_wp2_with (first | ((with_reducible refine gate_callee (f := 25) rfl ?_); refine goesL_ (some 114) rfl rfl Try.func25 (by kernel_rfl) rfl #[.agg #[.int .i64 t229, .slice Ao46 t230.length co46], .agg #[.int .i64 a2_0, .slice A2_1 l2_1.length c2_1]] rfl (by (try simp only [List.map_toArray, List.map_cons, List.map_nil]); first | done | rfl | (simp only [List.length_drop, List.length_take]; rfl)) ?_; (with_reducible refine (rowset_And.calls kj61 t229 _ _ t230 a2_0 _ _ l2_1 t254 t255 t258 _ ?side1 ?side2 ?side3 ?side4 A132.out).mono ?_); (case side1 => repeat (first | exact (Kd.R_reads' HO_235001.out).2.2 | (with_reducible refine Kd.C_alloc ?_ _) | (with_reducible refine Kd.C_drewN ?_ _) | (with_reducible refine Kd.C_drew ?_))); (case side2 => exact (Kd.R_reads' HO_235001.out).2.1); (case side3 => repeat (first | exact (Kd.C_below HR2_1.out HB.out) | (with_reducible refine Kd.C_alloc ?_ _) | (with_reducible refine Kd.C_drewN ?_ _) | (with_reducible refine Kd.C_drew ?_))); (case side4 => exact HC2_1.out); rintro e w156 ⟨v256, rfl, ho0, hb⟩; refine ⟨_, rfl, ?_⟩; have n0_ := Aside0.mk (Kd.R_elder' (by (with_reducible repeat (first | apply Kd.R_alloc | apply Kd.R_drewN | apply Kd.R_drew)); exact HO_223001.out) (Kd.R_base ho0) hb); have n1_ := Aside0.mk (Kd.R_elder' (by (with_reducible repeat (first | apply Kd.R_alloc | apply Kd.R_drewN | apply Kd.R_drew)); exact HO_229001.out) (Kd.R_base ho0) hb); have n2_ := Aside0.mk (Kd.R_elder' (by (with_reducible repeat (first | apply Kd.R_alloc | apply Kd.R_drewN | apply Kd.R_drew)); exact HO_235001.out) (Kd.R_base ho0) hb); have n3_ := Aside0.mk (Kd.R_elder' (by (with_reducible repeat (first | apply Kd.R_alloc | apply Kd.R_drewN | apply Kd.R_drew)); exact HO_242001.out) (Kd.R_base ho0) hb); have n4_ := Aside0.mk (Kd.R_elder' (by (with_reducible repeat (first | apply Kd.R_alloc | apply Kd.R_drewN | apply Kd.R_drew)); exact HO_248001.out) (Kd.R_base ho0) hb); have n5_ := Aside0.mk (Kd.R_lower (Kd.R_new' (Kd.R_new' (Kd.R_new' (Kd.R_new' (Kd.R_new' ho0 (Kd.R_lt (by (with_reducible repeat (first | apply Kd.R_alloc | apply Kd.R_drewN | apply Kd.R_drew)); exact HO_223001.out))) (Kd.R_lt (by (with_reducible repeat (first | apply Kd.R_alloc | apply Kd.R_drewN | apply Kd.R_drew)); exact HO_229001.out))) (Kd.R_lt (by (with_reducible repeat (first | apply Kd.R_alloc | apply Kd.R_drewN | apply Kd.R_drew)); exact HO_235001.out))) (Kd.R_lt (by (with_reducible repeat (first | apply Kd.R_alloc | apply Kd.R_drewN | apply Kd.R_drew)); exact HO_242001.out))) (Kd.R_lt (by (with_reducible repeat (first | apply Kd.R_alloc | apply Kd.R_drewN | apply Kd.R_drew)); exact HO_248001.out))) (below_size (by repeat (first | (with_reducible first | exact HB.out | apply below_alloc | apply pw_below_drewN | apply below_drew1 | refine below_set ?_ GE213.out | refine below_set ?_ GE214.out | refine below_set ?_ GE215.out | refine below_set ?_ GE222.out | refine below_set ?_ GE228.out | refine below_set ?_ GE234.out | refine below_set ?_ GE241.out | refine below_set ?_ GE247.out) | exact HB.out)))); have n6_ := bkA BK213 hb; have n7_ := bkA BK214 hb; have n8_ := bkA BK215 hb; have n9_ := bkA BK222 hb; have n10_ := bkA BK228 hb; have n11_ := bkA BK234 hb; have n12_ := bkA BK241 hb; have n13_ := bkA BK247 hb; have n14_ := bsA HB hb; clear HO_223001; clear HO_229001; clear HO_235001; clear HO_242001; clear HO_248001; clear BK213; clear BK214; clear BK215; clear BK222; clear BK228; clear BK234; clear BK241; clear BK247; clear HB; have HO_223001 := n0_; have HO_229001 := n1_; have HO_235001 := n2_; have HO_242001 := n3_; have HO_248001 := n4_; have HO257 := n5_; have BK213 := n6_; have BK214 := n7_; have BK215 := n8_; have BK222 := n9_; have BK228 := n10_; have BK234 := n11_; have BK241 := n12_; have BK247 := n13_; have HB := n14_; clear n0_ n1_ n2_ n3_ n4_ n5_ n6_ n7_ n8_ n9_ n10_ n11_ n12_ n13_ n14_; (try clear hb); (try clear hb2); (try clear hk); (try clear hi); (try clear ho0)) | ((with_reducible refine gate_dst (N := 17) rfl ?_); refine box_event ?hg (N := 17) ?hd (cs := #[.int .i64 0, .slice none 0 0]) (t := 38) ?hr ?_; (case hd => rfl); (case hg => rfl); (case hr => first | (go_simp; done) | (go_simp; rfl)); intro gb259 hg w157 hbox hb; have n0_ := rbA HO_223001 hb; have n1_ := rbA HO_229001 hb; have n2_ := rbA HO_235001 hb; have n3_ := rbA HO_242001 hb; have n4_ := rbA HO_248001 hb; have n5_ := rbA HO257 hb; have n6_ := bkA BK213 hb; have n7_ := bkA BK214 hb; have n8_ := bkA BK215 hb; have n9_ := bkA BK222 hb; have n10_ := bkA BK228 hb; have n11_ := bkA BK234 hb; have n12_ := bkA BK241 hb; have n13_ := bkA BK247 hb; have n14_ := bsA HB hb; have n15_ := Aside0.mk (hbox); have n16_ := szA HB hg; have n17_ := szA HB hg; have n18_ := neA BK213 hg; have n19_ := neB BK213 hg; have n20_ := neA BK214 hg; have n21_ := neB BK214 hg; have n22_ := neA BK215 hg; have n23_ := neB BK215 hg; have n24_ := neA BK222 hg; have n25_ := neB BK222 hg; have n26_ := neA BK228 hg; have n27_ := neB BK228 hg; have n28_ := neA BK234 hg; have n29_ := neB BK234 hg; have n30_ := neA BK241 hg; have n31_ := neB BK241 hg; have n32_ := neA BK247 hg; have n33_ := neB BK247 hg; clear HO_223001; clear HO_229001; clear HO_235001; clear HO_242001; clear HO_248001; clear HO257; clear BK213; clear BK214; clear BK215; clear BK222; clear BK228; clear BK234; clear BK241; clear BK247; clear HB; have HO_223001 := n0_; have HO_229001 := n1_; have HO_235001 := n2_; have HO_242001 := n3_; have HO_248001 := n4_; have HO257 := n5_; have BK213 := n6_; have BK214 := n7_; have BK215 := n8_; have BK222 := n9_; have BK228 := n10_; have BK234 := n11_; have BK241 := n12_; have BK247 := n13_; have HB := n14_; have BK259 := n15_; have GW259 := n16_; have GE259 := n17_; have NB213_259 := n18_; have NB259_213 := n19_; have NB214_259 := n20_; have NB259_214 := n21_; have NB215_259 := n22_; have NB259_215 := n23_; have NB222_259 := n24_; have NB259_222 := n25_; have NB228_259 := n26_; have NB259_228 := n27_; have NB234_259 := n28_; have NB259_234 := n29_; have NB241_259 := n30_; have NB259_241 := n31_; have NB247_259 := n32_; have NB259_247 := n33_; clear n0_ n1_ n2_ n3_ n4_ n5_ n6_ n7_ n8_ n9_ n10_ n11_ n12_ n13_ n14_ n15_ n16_ n17_ n18_ n19_ n20_ n21_ n22_ n23_ n24_ n25_ n26_ n27_ n28_ n29_ n30_ n31_ n32_ n33_; clear hb hbox hg; have hnb158 := NB259_213.out; have hnc158 := NB213_259.out; have hnb159 := NB259_214.out; have hnc159 := NB214_259.out; have hnb160 := NB259_215.out; have hnc160 := NB215_259.out; have hnb161 := NB259_222.out; have hnc161 := NB222_259.out; have hnb162 := NB259_228.out; have hnc162 := NB228_259.out; have hnb163 := NB259_234.out; have hnc163 := NB234_259.out; have hnb164 := NB259_241.out; have hnc164 := NB241_259.out; have hnb165 := NB259_247.out; have hnc165 := NB247_259.out; have hcz166_0 : w157.cell? ⟨gb259, 0, none⟩ = some (.int .i64 0) := (blk_cell BK259.out 0).trans rfl; have hcz166_1 : w157.cell? ⟨gb259, 1, none⟩ = some (.slice none 0 0) := (blk_cell BK259.out 1).trans rfl; have hfz166_0 := blk_frozen BK259.out 0; have hfz166_1 := blk_frozen BK259.out 1; obtain ⟨Ao167, co167, eo167⟩ := Kd.R_slice HO257.out; subst eo167; have hnb168 := NB213_214.out; have hnc168 := NB214_213.out; have hnb169 := NB213_222.out; have hnc169 := NB222_213.out; have hnb170 := NB213_228.out; have hnc170 := NB228_213.out; have hnb171 := NB213_241.out; have hnc171 := NB241_213.out; have hnb172 := NB213_247.out; have hnc172 := NB247_213.out; have hcz173_0 : w157.cell? ⟨gb213, 0, none⟩ = some (.int .i64 a0_0) := (blk_cell BK213.out 0).trans rfl; have hcz173_1 : w157.cell? ⟨gb213, 1, none⟩ = some (.slice A0_1 l0_1.length c0_1) := (blk_cell BK213.out 1).trans rfl; have hfz173_0 := blk_frozen BK213.out 0; have hfz173_1 := blk_frozen BK213.out 1; have hcz174_0 : w157.cell? ⟨gb215, 0, none⟩ = some (.int .i64 a2_0) := (blk_cell BK215.out 0).trans rfl; have hcz174_1 : w157.cell? ⟨gb215, 1, none⟩ = some (.slice A2_1 l2_1.length c2_1) := (blk_cell BK215.out 1).trans rfl; have hfz174_0 := blk_frozen BK215.out 0; have hfz174_1 := blk_frozen BK215.out 1) | ((with_reducible refine gate_callee (f := 25) rfl ?_); refine goesL_ (some 120) rfl rfl Try.func25 (by kernel_rfl) rfl #[.agg #[.int .i64 a0_0, .slice A0_1 l0_1.length c0_1], .agg #[.int .i64 a2_0, .slice A2_1 l2_1.length c2_1]] rfl (by (try simp only [List.map_toArray, List.map_cons, List.map_nil]); first | done | rfl | (simp only [List.length_drop, List.length_take]; rfl)) ?_; (with_reducible refine (rowset_And.calls kj61 a0_0 _ _ l0_1 a2_0 _ _ l2_1 t260 t261 t264 _ ?side1 ?side2 ?side3 ?side4 A133.out).mono ?_); (case side1 => exact Kd.C_below HR0_1.out (by repeat (first | (with_reducible first | exact HB.out | apply below_alloc | apply pw_below_drewN | apply below_drew1 | refine below_set ?_ GE213.out | refine below_set ?_ GE214.out | refine below_set ?_ GE215.out | refine below_set ?_ GE222.out | refine below_set ?_ GE228.out | refine below_set ?_ GE234.out | refine below_set ?_ GE241.out | refine below_set ?_ GE247.out | refine below_set ?_ GE259.out) | exact HB.out))); (case side2 => exact HC0_1.out); (case side3 => exact Kd.C_below HR2_1.out (by repeat (first | (with_reducible first | exact HB.out | apply below_alloc | apply pw_below_drewN | apply below_drew1 | refine below_set ?_ GE213.out | refine below_set ?_ GE214.out | refine below_set ?_ GE215.out | refine below_set ?_ GE222.out | refine below_set ?_ GE228.out | refine below_set ?_ GE234.out | refine below_set ?_ GE241.out | refine below_set ?_ GE247.out | refine below_set ?_ GE259.out) | exact HB.out))); (case side4 => exact HC2_1.out); rintro e w175 ⟨v262, rfl, ho0, hb⟩; refine ⟨_, rfl, ?_⟩; have n0_ := Aside0.mk (Kd.R_elder' (by (with_reducible repeat (first | apply Kd.R_alloc | apply Kd.R_drewN | apply Kd.R_drew)); exact (Kd.R_mono (Kd.R_far (p := ⟨gb259, 1, none⟩) (Kd.R_far (p := ⟨gb259, 0, none⟩) (Kd.R_types HO_223001.out BK259.out (by decide)) (fun _ hk => hk.2) (.int .i64 t254)) (fun _ hk => hk.2) (.slice Ao167 t255.length co167)) (fun _ h_ => h_.1))) (Kd.R_base ho0) hb); have n1_ := Aside0.mk (Kd.R_elder' (by (with_reducible repeat (first | apply Kd.R_alloc | apply Kd.R_drewN | apply Kd.R_drew)); exact (Kd.R_mono (Kd.R_far (p := ⟨gb259, 1, none⟩) (Kd.R_far (p := ⟨gb259, 0, none⟩) (Kd.R_types HO_229001.out BK259.out (by decide)) (fun _ hk => hk.2) (.int .i64 t254)) (fun _ hk => hk.2) (.slice Ao167 t255.length co167)) (fun _ h_ => h_.1))) (Kd.R_base ho0) hb); have n2_ := Aside0.mk (Kd.R_elder' (by (with_reducible repeat (first | apply Kd.R_alloc | apply Kd.R_drewN | apply Kd.R_drew)); exact (Kd.R_mono (Kd.R_far (p := ⟨gb259, 1, none⟩) (Kd.R_far (p := ⟨gb259, 0, none⟩) (Kd.R_types HO_235001.out BK259.out (by decide)) (fun _ hk => hk.2) (.int .i64 t254)) (fun _ hk => hk.2) (.slice Ao167 t255.length co167)) (fun _ h_ => h_.1))) (Kd.R_base ho0) hb); have n3_ := Aside0.mk (Kd.R_elder' (by (with_reducible repeat (first | apply Kd.R_alloc | apply Kd.R_drewN | apply Kd.R_drew)); exact (Kd.R_mono (Kd.R_far (p := ⟨gb259, 1, none⟩) (Kd.R_far (p := ⟨gb259, 0, none⟩) (Kd.R_types HO_242001.out BK259.out (by decide)) (fun _ hk => hk.2) (.int .i64 t254)) (fun _ hk => hk.2) (.slice Ao167 t255.length co167)) (fun _ h_ => h_.1))) (Kd.R_base ho0) hb); have n4_ := Aside0.mk (Kd.R_elder' (by (with_reducible repeat (first | apply Kd.R_alloc | apply Kd.R_drewN | apply Kd.R_drew)); exact (Kd.R_mono (Kd.R_far (p := ⟨gb259, 1, none⟩) (Kd.R_far (p := ⟨gb259, 0, none⟩) (Kd.R_types HO_248001.out BK259.out (by decide)) (fun _ hk => hk.2) (.int .i64 t254)) (fun _ hk => hk.2) (.slice Ao167 t255.length co167)) (fun _ h_ => h_.1))) (Kd.R_base ho0) hb); have n5_ := Aside0.mk (Kd.R_elder' (by (with_reducible repeat (first | apply Kd.R_alloc | apply Kd.R_drewN | apply Kd.R_drew)); exact (Kd.R_mono (Kd.R_far (p := ⟨gb259, 1, none⟩) (Kd.R_far (p := ⟨gb259, 0, none⟩) (Kd.R_types HO257.out BK259.out (by decide)) (fun _ hk => hk.2) (.int .i64 t254)) (fun _ hk => hk.2) (.slice Ao167 t255.length co167)) (fun _ h_ => h_.1))) (Kd.R_base ho0) hb); have n6_ := Aside0.mk (Kd.R_lower (Kd.R_new' (Kd.R_new' (Kd.R_new' (Kd.R_new' (Kd.R_new' (Kd.R_new' ho0 (Kd.R_lt (by (with_reducible repeat (first | apply Kd.R_alloc | apply Kd.R_drewN | apply Kd.R_drew)); exact (Kd.R_mono (Kd.R_far (p := ⟨gb259, 1, none⟩) (Kd.R_far (p := ⟨gb259, 0, none⟩) (Kd.R_types HO_223001.out BK259.out (by decide)) (fun _ hk => hk.2) (.int .i64 t254)) (fun _ hk => hk.2) (.slice Ao167 t255.length co167)) (fun _ h_ => h_.1))))) (Kd.R_lt (by (with_reducible repeat (first | apply Kd.R_alloc | apply Kd.R_drewN | apply Kd.R_drew)); exact (Kd.R_mono (Kd.R_far (p := ⟨gb259, 1, none⟩) (Kd.R_far (p := ⟨gb259, 0, none⟩) (Kd.R_types HO_229001.out BK259.out (by decide)) (fun _ hk => hk.2) (.int .i64 t254)) (fun _ hk => hk.2) (.slice Ao167 t255.length co167)) (fun _ h_ => h_.1))))) (Kd.R_lt (by (with_reducible repeat (first | apply Kd.R_alloc | apply Kd.R_drewN | apply Kd.R_drew)); exact (Kd.R_mono (Kd.R_far (p := ⟨gb259, 1, none⟩) (Kd.R_far (p := ⟨gb259, 0, none⟩) (Kd.R_types HO_235001.out BK259.out (by decide)) (fun _ hk => hk.2) (.int .i64 t254)) (fun _ hk => hk.2) (.slice Ao167 t255.length co167)) (fun _ h_ => h_.1))))) (Kd.R_lt (by (with_reducible repeat (first | apply Kd.R_alloc | apply Kd.R_drewN | apply Kd.R_drew)); exact (Kd.R_mono (Kd.R_far (p := ⟨gb259, 1, none⟩) (Kd.R_far (p := ⟨gb259, 0, none⟩) (Kd.R_types HO_242001.out BK259.out (by decide)) (fun _ hk => hk.2) (.int .i64 t254)) (fun _ hk => hk.2) (.slice Ao167 t255.length co167)) (fun _ h_ => h_.1))))) (Kd.R_lt (by (with_reducible repeat (first | apply Kd.R_alloc | apply Kd.R_drewN | apply Kd.R_drew)); exact (Kd.R_mono (Kd.R_far (p := ⟨gb259, 1, none⟩) (Kd.R_far (p := ⟨gb259, 0, none⟩) (Kd.R_types HO_248001.out BK259.out (by decide)) (fun _ hk => hk.2) (.int .i64 t254)) (fun _ hk => hk.2) (.slice Ao167 t255.length co167)) (fun _ h_ => h_.1))))) (Kd.R_lt (by (with_reducible repeat (first | apply Kd.R_alloc | apply Kd.R_drewN | apply Kd.R_drew)); exact (Kd.R_mono (Kd.R_far (p := ⟨gb259, 1, none⟩) (Kd.R_far (p := ⟨gb259, 0, none⟩) (Kd.R_types HO257.out BK259.out (by decide)) (fun _ hk => hk.2) (.int .i64 t254)) (fun _ hk => hk.2) (.slice Ao167 t255.length co167)) (fun _ h_ => h_.1))))) (below_size (by repeat (first | (with_reducible first | exact HB.out | apply below_alloc | apply pw_below_drewN | apply below_drew1 | refine below_set ?_ GE213.out | refine below_set ?_ GE214.out | refine below_set ?_ GE215.out | refine below_set ?_ GE222.out | refine below_set ?_ GE228.out | refine below_set ?_ GE234.out | refine below_set ?_ GE241.out | refine below_set ?_ GE247.out | refine below_set ?_ GE259.out) | exact HB.out)))); have n7_ := bkA BK213 hb; have n8_ := bkA BK214 hb; have n9_ := bkA BK215 hb; have n10_ := bkA BK222 hb; have n11_ := bkA BK228 hb; have n12_ := bkA BK234 hb; have n13_ := bkA BK241 hb; have n14_ := bkA BK247 hb; have n15_ := Aside0.mk (blk_below (g := gb259) (o := .cells #[.int .i64 t254, .slice Ao167 t255.length co167] 38 (0, 0)) (by (with_reducible repeat (first | refine blk_drewN ?_ _ | refine blk_drew ?_ | refine blk_alloc ?_ _)); refine blk_put (cs := #[.int .i64 t254, .slice none 0 0]) ?_ 1 _ rfl; (with_reducible repeat (first | refine blk_drewN ?_ _ | refine blk_drew ?_ | refine blk_alloc ?_ _)); refine blk_put (cs := #[.int .i64 0, .slice none 0 0]) ?_ 0 _ rfl; (with_reducible repeat (first | refine blk_drewN ?_ _ | refine blk_drew ?_ | refine blk_alloc ?_ _)); exact BK259.out) hb); have n16_ := bsA HB hb; clear HO_223001; clear HO_229001; clear HO_235001; clear HO_242001; clear HO_248001; clear HO257; clear BK213; clear BK214; clear BK215; clear BK222; clear BK228; clear BK234; clear BK241; clear BK247; clear BK259; clear HB; have HO_223001 := n0_; have HO_229001 := n1_; have HO_235001 := n2_; have HO_242001 := n3_; have HO_248001 := n4_; have HO257 := n5_; have HO263 := n6_; have BK213 := n7_; have BK214 := n8_; have BK215 := n9_; have BK222 := n10_; have BK228 := n11_; have BK234 := n12_; have BK241 := n13_; have BK247 := n14_; have BK259 := n15_; have HB := n16_; clear n0_ n1_ n2_ n3_ n4_ n5_ n6_ n7_ n8_ n9_ n10_ n11_ n12_ n13_ n14_ n15_ n16_; (try clear hb); (try clear hb2); (try clear hk); (try clear hi); (try clear ho0)) | ((with_reducible refine gate_dst (N := 19) rfl ?_); refine box_event ?hg (N := 19) ?hd (cs := #[.int .i64 0, .slice none 0 0]) (t := 38) ?hr ?_; (case hd => rfl); (case hg => rfl); (case hr => first | (go_simp; done) | (go_simp; rfl)); intro gb265 hg w176 hbox hb; have n0_ := rbA HO_223001 hb; have n1_ := rbA HO_229001 hb; have n2_ := rbA HO_235001 hb; have n3_ := rbA HO_242001 hb; have n4_ := rbA HO_248001 hb; have n5_ := rbA HO257 hb; have n6_ := rbA HO263 hb; have n7_ := bkA BK213 hb; have n8_ := bkA BK214 hb; have n9_ := bkA BK215 hb; have n10_ := bkA BK222 hb; have n11_ := bkA BK228 hb; have n12_ := bkA BK234 hb; have n13_ := bkA BK241 hb; have n14_ := bkA BK247 hb; have n15_ := bkA BK259 hb; have n16_ := bsA HB hb; have n17_ := Aside0.mk (hbox); have n18_ := szA HB hg; have n19_ := szA HB hg; have n20_ := neA BK213 hg; have n21_ := neB BK213 hg; have n22_ := neA BK214 hg; have n23_ := neB BK214 hg; have n24_ := neA BK215 hg; have n25_ := neB BK215 hg; have n26_ := neA BK222 hg; have n27_ := neB BK222 hg; have n28_ := neA BK228 hg; have n29_ := neB BK228 hg; have n30_ := neA BK234 hg; have n31_ := neB BK234 hg; have n32_ := neA BK241 hg; have n33_ := neB BK241 hg; have n34_ := neA BK247 hg; have n35_ := neB BK247 hg; have n36_ := neA BK259 hg; have n37_ := neB BK259 hg; clear HO_223001; clear HO_229001; clear HO_235001; clear HO_242001; clear HO_248001; clear HO257; clear HO263; clear BK213; clear BK214; clear BK215; clear BK222; clear BK228; clear BK234; clear BK241; clear BK247; clear BK259; clear HB; have HO_223001 := n0_; have HO_229001 := n1_; have HO_235001 := n2_; have HO_242001 := n3_; have HO_248001 := n4_; have HO257 := n5_; have HO263 := n6_; have BK213 := n7_; have BK214 := n8_; have BK215 := n9_; have BK222 := n10_; have BK228 := n11_; have BK234 := n12_; have BK241 := n13_; have BK247 := n14_; have BK259 := n15_; have HB := n16_; have BK265 := n17_; have GW265 := n18_; have GE265 := n19_; have NB213_265 := n20_; have NB265_213 := n21_; have NB214_265 := n22_; have NB265_214 := n23_; have NB215_265 := n24_; have NB265_215 := n25_; have NB222_265 := n26_; have NB265_222 := n27_; have NB228_265 := n28_; have NB265_228 := n29_; have NB234_265 := n30_; have NB265_234 := n31_; have NB241_265 := n32_; have NB265_241 := n33_; have NB247_265 := n34_; have NB265_247 := n35_; have NB259_265 := n36_; have NB265_259 := n37_; clear n0_ n1_ n2_ n3_ n4_ n5_ n6_ n7_ n8_ n9_ n10_ n11_ n12_ n13_ n14_ n15_ n16_ n17_ n18_ n19_ n20_ n21_ n22_ n23_ n24_ n25_ n26_ n27_ n28_ n29_ n30_ n31_ n32_ n33_ n34_ n35_ n36_ n37_; clear hb hbox hg; have hnb177 := NB265_213.out; have hnc177 := NB213_265.out; have hnb178 := NB265_214.out; have hnc178 := NB214_265.out; have hnb179 := NB265_215.out; have hnc179 := NB215_265.out; have hnb180 := NB265_222.out; have hnc180 := NB222_265.out; have hnb181 := NB265_228.out; have hnc181 := NB228_265.out; have hnb182 := NB265_234.out; have hnc182 := NB234_265.out; have hnb183 := NB265_241.out; have hnc183 := NB241_265.out; have hnb184 := NB265_247.out; have hnc184 := NB247_265.out; have hnb185 := NB265_259.out; have hnc185 := NB259_265.out; have hcz186_0 : w176.cell? ⟨gb265, 0, none⟩ = some (.int .i64 0) := (blk_cell BK265.out 0).trans rfl; have hcz186_1 : w176.cell? ⟨gb265, 1, none⟩ = some (.slice none 0 0) := (blk_cell BK265.out 1).trans rfl; have hfz186_0 := blk_frozen BK265.out 0; have hfz186_1 := blk_frozen BK265.out 1; obtain ⟨Ao187, co187, eo187⟩ := Kd.R_slice HO263.out; subst eo187; have hnb188 := NB214_222.out; have hnc188 := NB222_214.out; have hnb189 := NB214_228.out; have hnc189 := NB228_214.out; have hnb190 := NB214_241.out; have hnc190 := NB241_214.out; have hnb191 := NB214_247.out; have hnc191 := NB247_214.out; have hcz192_0 : w176.cell? ⟨gb214, 0, none⟩ = some (.int .i64 a1_0) := (blk_cell BK214.out 0).trans rfl; have hcz192_1 : w176.cell? ⟨gb214, 1, none⟩ = some (.slice A1_1 l1_1.length c1_1) := (blk_cell BK214.out 1).trans rfl; have hfz192_0 := blk_frozen BK214.out 0; have hfz192_1 := blk_frozen BK214.out 1; have hcz193_0 : w176.cell? ⟨gb215, 0, none⟩ = some (.int .i64 a2_0) := (blk_cell BK215.out 0).trans rfl; have hcz193_1 : w176.cell? ⟨gb215, 1, none⟩ = some (.slice A2_1 l2_1.length c2_1) := (blk_cell BK215.out 1).trans rfl; have hfz193_0 := blk_frozen BK215.out 0; have hfz193_1 := blk_frozen BK215.out 1) | ((with_reducible refine gate_callee (f := 25) rfl ?_); refine goesL_ (some 126) rfl rfl Try.func25 (by kernel_rfl) rfl #[.agg #[.int .i64 a1_0, .slice A1_1 l1_1.length c1_1], .agg #[.int .i64 a2_0, .slice A2_1 l2_1.length c2_1]] rfl (by (try simp only [List.map_toArray, List.map_cons, List.map_nil]); first | done | rfl | (simp only [List.length_drop, List.length_take]; rfl)) ?_; (with_reducible refine (rowset_And.calls kj61 a1_0 _ _ l1_1 a2_0 _ _ l2_1 t266 t267 t270 _ ?side1 ?side2 ?side3 ?side4 A134.out).mono ?_); (case side1 => exact Kd.C_below HR1_1.out (by repeat (first | (with_reducible first | exact HB.out | apply below_alloc | apply pw_below_drewN | apply below_drew1 | refine below_set ?_ GE213.out | refine below_set ?_ GE214.out | refine below_set ?_ GE215.out | refine below_set ?_ GE222.out | refine below_set ?_ GE228.out | refine below_set ?_ GE234.out | refine below_set ?_ GE241.out | refine below_set ?_ GE247.out | refine below_set ?_ GE259.out | refine below_set ?_ GE265.out) | exact HB.out))); (case side2 => exact HC1_1.out); (case side3 => exact Kd.C_below HR2_1.out (by repeat (first | (with_reducible first | exact HB.out | apply below_alloc | apply pw_below_drewN | apply below_drew1 | refine below_set ?_ GE213.out | refine below_set ?_ GE214.out | refine below_set ?_ GE215.out | refine below_set ?_ GE222.out | refine below_set ?_ GE228.out | refine below_set ?_ GE234.out | refine below_set ?_ GE241.out | refine below_set ?_ GE247.out | refine below_set ?_ GE259.out | refine below_set ?_ GE265.out) | exact HB.out))); (case side4 => exact HC2_1.out); rintro e w194 ⟨v268, rfl, ho0, hb⟩; refine ⟨_, rfl, ?_⟩; have n0_ := Aside0.mk (Kd.R_elder' (by (with_reducible repeat (first | apply Kd.R_alloc | apply Kd.R_drewN | apply Kd.R_drew)); exact (Kd.R_mono (Kd.R_far (p := ⟨gb265, 1, none⟩) (Kd.R_far (p := ⟨gb265, 0, none⟩) (Kd.R_types HO_223001.out BK265.out (by decide)) (fun _ hk => hk.2) (.int .i64 t260)) (fun _ hk => hk.2) (.slice Ao187 t261.length co187)) (fun _ h_ => h_.1))) (Kd.R_base ho0) hb); have n1_ := Aside0.mk (Kd.R_elder' (by (with_reducible repeat (first | apply Kd.R_alloc | apply Kd.R_drewN | apply Kd.R_drew)); exact (Kd.R_mono (Kd.R_far (p := ⟨gb265, 1, none⟩) (Kd.R_far (p := ⟨gb265, 0, none⟩) (Kd.R_types HO_229001.out BK265.out (by decide)) (fun _ hk => hk.2) (.int .i64 t260)) (fun _ hk => hk.2) (.slice Ao187 t261.length co187)) (fun _ h_ => h_.1))) (Kd.R_base ho0) hb); have n2_ := Aside0.mk (Kd.R_elder' (by (with_reducible repeat (first | apply Kd.R_alloc | apply Kd.R_drewN | apply Kd.R_drew)); exact (Kd.R_mono (Kd.R_far (p := ⟨gb265, 1, none⟩) (Kd.R_far (p := ⟨gb265, 0, none⟩) (Kd.R_types HO_235001.out BK265.out (by decide)) (fun _ hk => hk.2) (.int .i64 t260)) (fun _ hk => hk.2) (.slice Ao187 t261.length co187)) (fun _ h_ => h_.1))) (Kd.R_base ho0) hb); have n3_ := Aside0.mk (Kd.R_elder' (by (with_reducible repeat (first | apply Kd.R_alloc | apply Kd.R_drewN | apply Kd.R_drew)); exact (Kd.R_mono (Kd.R_far (p := ⟨gb265, 1, none⟩) (Kd.R_far (p := ⟨gb265, 0, none⟩) (Kd.R_types HO_242001.out BK265.out (by decide)) (fun _ hk => hk.2) (.int .i64 t260)) (fun _ hk => hk.2) (.slice Ao187 t261.length co187)) (fun _ h_ => h_.1))) (Kd.R_base ho0) hb); have n4_ := Aside0.mk (Kd.R_elder' (by (with_reducible repeat (first | apply Kd.R_alloc | apply Kd.R_drewN | apply Kd.R_drew)); exact (Kd.R_mono (Kd.R_far (p := ⟨gb265, 1, none⟩) (Kd.R_far (p := ⟨gb265, 0, none⟩) (Kd.R_types HO_248001.out BK265.out (by decide)) (fun _ hk => hk.2) (.int .i64 t260)) (fun _ hk => hk.2) (.slice Ao187 t261.length co187)) (fun _ h_ => h_.1))) (Kd.R_base ho0) hb); have n5_ := Aside0.mk (Kd.R_elder' (by (with_reducible repeat (first | apply Kd.R_alloc | apply Kd.R_drewN | apply Kd.R_drew)); exact (Kd.R_mono (Kd.R_far (p := ⟨gb265, 1, none⟩) (Kd.R_far (p := ⟨gb265, 0, none⟩) (Kd.R_types HO257.out BK265.out (by decide)) (fun _ hk => hk.2) (.int .i64 t260)) (fun _ hk => hk.2) (.slice Ao187 t261.length co187)) (fun _ h_ => h_.1))) (Kd.R_base ho0) hb); have n6_ := Aside0.mk (Kd.R_elder' (by (with_reducible repeat (first | apply Kd.R_alloc | apply Kd.R_drewN | apply Kd.R_drew)); exact (Kd.R_mono (Kd.R_far (p := ⟨gb265, 1, none⟩) (Kd.R_far (p := ⟨gb265, 0, none⟩) (Kd.R_types HO263.out BK265.out (by decide)) (fun _ hk => hk.2) (.int .i64 t260)) (fun _ hk => hk.2) (.slice Ao187 t261.length co187)) (fun _ h_ => h_.1))) (Kd.R_base ho0) hb); have n7_ := Aside0.mk (Kd.R_lower (Kd.R_new' (Kd.R_new' (Kd.R_new' (Kd.R_new' (Kd.R_new' (Kd.R_new' (Kd.R_new' ho0 (Kd.R_lt (by (with_reducible repeat (first | apply Kd.R_alloc | apply Kd.R_drewN | apply Kd.R_drew)); exact (Kd.R_mono (Kd.R_far (p := ⟨gb265, 1, none⟩) (Kd.R_far (p := ⟨gb265, 0, none⟩) (Kd.R_types HO_223001.out BK265.out (by decide)) (fun _ hk => hk.2) (.int .i64 t260)) (fun _ hk => hk.2) (.slice Ao187 t261.length co187)) (fun _ h_ => h_.1))))) (Kd.R_lt (by (with_reducible repeat (first | apply Kd.R_alloc | apply Kd.R_drewN | apply Kd.R_drew)); exact (Kd.R_mono (Kd.R_far (p := ⟨gb265, 1, none⟩) (Kd.R_far (p := ⟨gb265, 0, none⟩) (Kd.R_types HO_229001.out BK265.out (by decide)) (fun _ hk => hk.2) (.int .i64 t260)) (fun _ hk => hk.2) (.slice Ao187 t261.length co187)) (fun _ h_ => h_.1))))) (Kd.R_lt (by (with_reducible repeat (first | apply Kd.R_alloc | apply Kd.R_drewN | apply Kd.R_drew)); exact (Kd.R_mono (Kd.R_far (p := ⟨gb265, 1, none⟩) (Kd.R_far (p := ⟨gb265, 0, none⟩) (Kd.R_types HO_235001.out BK265.out (by decide)) (fun _ hk => hk.2) (.int .i64 t260)) (fun _ hk => hk.2) (.slice Ao187 t261.length co187)) (fun _ h_ => h_.1))))) (Kd.R_lt (by (with_reducible repeat (first | apply Kd.R_alloc | apply Kd.R_drewN | apply Kd.R_drew)); exact (Kd.R_mono (Kd.R_far (p := ⟨gb265, 1, none⟩) (Kd.R_far (p := ⟨gb265, 0, none⟩) (Kd.R_types HO_242001.out BK265.out (by decide)) (fun _ hk => hk.2) (.int .i64 t260)) (fun _ hk => hk.2) (.slice Ao187 t261.length co187)) (fun _ h_ => h_.1))))) (Kd.R_lt (by (with_reducible repeat (first | apply Kd.R_alloc | apply Kd.R_drewN | apply Kd.R_drew)); exact (Kd.R_mono (Kd.R_far (p := ⟨gb265, 1, none⟩) (Kd.R_far (p := ⟨gb265, 0, none⟩) (Kd.R_types HO_248001.out BK265.out (by decide)) (fun _ hk => hk.2) (.int .i64 t260)) (fun _ hk => hk.2) (.slice Ao187 t261.length co187)) (fun _ h_ => h_.1))))) (Kd.R_lt (by (with_reducible repeat (first | apply Kd.R_alloc | apply Kd.R_drewN | apply Kd.R_drew)); exact (Kd.R_mono (Kd.R_far (p := ⟨gb265, 1, none⟩) (Kd.R_far (p := ⟨gb265, 0, none⟩) (Kd.R_types HO257.out BK265.out (by decide)) (fun _ hk => hk.2) (.int .i64 t260)) (fun _ hk => hk.2) (.slice Ao187 t261.length co187)) (fun _ h_ => h_.1))))) (Kd.R_lt (by (with_reducible repeat (first | apply Kd.R_alloc | apply Kd.R_drewN | apply Kd.R_drew)); exact (Kd.R_mono (Kd.R_far (p := ⟨gb265, 1, none⟩) (Kd.R_far (p := ⟨gb265, 0, none⟩) (Kd.R_types HO263.out BK265.out (by decide)) (fun _ hk => hk.2) (.int .i64 t260)) (fun _ hk => hk.2) (.slice Ao187 t261.length co187)) (fun _ h_ => h_.1))))) (below_size (by repeat (first | (with_reducible first | exact HB.out | apply below_alloc | apply pw_below_drewN | apply below_drew1 | refine below_set ?_ GE213.out | refine below_set ?_ GE214.out | refine below_set ?_ GE215.out | refine below_set ?_ GE222.out | refine below_set ?_ GE228.out | refine below_set ?_ GE234.out | refine below_set ?_ GE241.out | refine below_set ?_ GE247.out | refine below_set ?_ GE259.out | refine below_set ?_ GE265.out) | exact HB.out)))); have n8_ := bkA BK213 hb; have n9_ := bkA BK214 hb; have n10_ := bkA BK215 hb; have n11_ := bkA BK222 hb; have n12_ := bkA BK228 hb; have n13_ := bkA BK234 hb; have n14_ := bkA BK241 hb; have n15_ := bkA BK247 hb; have n16_ := bkA BK259 hb; have n17_ := Aside0.mk (blk_below (g := gb265) (o := .cells #[.int .i64 t260, .slice Ao187 t261.length co187] 38 (0, 0)) (by (with_reducible repeat (first | refine blk_drewN ?_ _ | refine blk_drew ?_ | refine blk_alloc ?_ _)); refine blk_put (cs := #[.int .i64 t260, .slice none 0 0]) ?_ 1 _ rfl; (with_reducible repeat (first | refine blk_drewN ?_ _ | refine blk_drew ?_ | refine blk_alloc ?_ _)); refine blk_put (cs := #[.int .i64 0, .slice none 0 0]) ?_ 0 _ rfl; (with_reducible repeat (first | refine blk_drewN ?_ _ | refine blk_drew ?_ | refine blk_alloc ?_ _)); exact BK265.out) hb); have n18_ := bsA HB hb; clear HO_223001; clear HO_229001; clear HO_235001; clear HO_242001; clear HO_248001; clear HO257; clear HO263; clear BK213; clear BK214; clear BK215; clear BK222; clear BK228; clear BK234; clear BK241; clear BK247; clear BK259; clear BK265; clear HB; have HO_223001 := n0_; have HO_229001 := n1_; have HO_235001 := n2_; have HO_242001 := n3_; have HO_248001 := n4_; have HO257 := n5_; have HO263 := n6_; have HO269 := n7_; have BK213 := n8_; have BK214 := n9_; have BK215 := n10_; have BK222 := n11_; have BK228 := n12_; have BK234 := n13_; have BK241 := n14_; have BK247 := n15_; have BK259 := n16_; have BK265 := n17_; have HB := n18_; clear n0_ n1_ n2_ n3_ n4_ n5_ n6_ n7_ n8_ n9_ n10_ n11_ n12_ n13_ n14_ n15_ n16_ n17_ n18_; (try clear hb); (try clear hb2); (try clear hk); (try clear hi); (try clear ho0)) | ((with_reducible refine gate_dst (N := 21) rfl ?_); refine box_event ?hg (N := 21) ?hd (cs := #[.int .i64 0, .slice none 0 0]) (t := 38) ?hr ?_; (case hd => rfl); (case hg => rfl); (case hr => first | (go_simp; done) | (go_simp; rfl)); intro gb271 hg w195 hbox hb; have n0_ := rbA HO_223001 hb; have n1_ := rbA HO_229001 hb; have n2_ := rbA HO_235001 hb; have n3_ := rbA HO_242001 hb; have n4_ := rbA HO_248001 hb; have n5_ := rbA HO257 hb; have n6_ := rbA HO263 hb; have n7_ := rbA HO269 hb; have n8_ := bkA BK213 hb; have n9_ := bkA BK214 hb; have n10_ := bkA BK215 hb; have n11_ := bkA BK222 hb; have n12_ := bkA BK228 hb; have n13_ := bkA BK234 hb; have n14_ := bkA BK241 hb; have n15_ := bkA BK247 hb; have n16_ := bkA BK259 hb; have n17_ := bkA BK265 hb; have n18_ := bsA HB hb; have n19_ := Aside0.mk (hbox); have n20_ := szA HB hg; have n21_ := szA HB hg; have n22_ := neA BK213 hg; have n23_ := neB BK213 hg; have n24_ := neA BK214 hg; have n25_ := neB BK214 hg; have n26_ := neA BK215 hg; have n27_ := neB BK215 hg; have n28_ := neA BK222 hg; have n29_ := neB BK222 hg; have n30_ := neA BK228 hg; have n31_ := neB BK228 hg; have n32_ := neA BK234 hg; have n33_ := neB BK234 hg; have n34_ := neA BK241 hg; have n35_ := neB BK241 hg; have n36_ := neA BK247 hg; have n37_ := neB BK247 hg; have n38_ := neA BK259 hg; have n39_ := neB BK259 hg; have n40_ := neA BK265 hg; have n41_ := neB BK265 hg; clear HO_223001; clear HO_229001; clear HO_235001; clear HO_242001; clear HO_248001; clear HO257; clear HO263; clear HO269; clear BK213; clear BK214; clear BK215; clear BK222; clear BK228; clear BK234; clear BK241; clear BK247; clear BK259; clear BK265; clear HB; have HO_223001 := n0_; have HO_229001 := n1_; have HO_235001 := n2_; have HO_242001 := n3_; have HO_248001 := n4_; have HO257 := n5_; have HO263 := n6_; have HO269 := n7_; have BK213 := n8_; have BK214 := n9_; have BK215 := n10_; have BK222 := n11_; have BK228 := n12_; have BK234 := n13_; have BK241 := n14_; have BK247 := n15_; have BK259 := n16_; have BK265 := n17_; have HB := n18_; have BK271 := n19_; have GW271 := n20_; have GE271 := n21_; have NB213_271 := n22_; have NB271_213 := n23_; have NB214_271 := n24_; have NB271_214 := n25_; have NB215_271 := n26_; have NB271_215 := n27_; have NB222_271 := n28_; have NB271_222 := n29_; have NB228_271 := n30_; have NB271_228 := n31_; have NB234_271 := n32_; have NB271_234 := n33_; have NB241_271 := n34_; have NB271_241 := n35_; have NB247_271 := n36_; have NB271_247 := n37_; have NB259_271 := n38_; have NB271_259 := n39_; have NB265_271 := n40_; have NB271_265 := n41_; clear n0_ n1_ n2_ n3_ n4_ n5_ n6_ n7_ n8_ n9_ n10_ n11_ n12_ n13_ n14_ n15_ n16_ n17_ n18_ n19_ n20_ n21_ n22_ n23_ n24_ n25_ n26_ n27_ n28_ n29_ n30_ n31_ n32_ n33_ n34_ n35_ n36_ n37_ n38_ n39_ n40_ n41_; clear hb hbox hg; have hnb196 := NB271_213.out; have hnc196 := NB213_271.out; have hnb197 := NB271_214.out; have hnc197 := NB214_271.out; have hnb198 := NB271_215.out; have hnc198 := NB215_271.out; have hnb199 := NB271_222.out; have hnc199 := NB222_271.out; have hnb200 := NB271_228.out; have hnc200 := NB228_271.out; have hnb201 := NB271_234.out; have hnc201 := NB234_271.out; have hnb202 := NB271_241.out; have hnc202 := NB241_271.out; have hnb203 := NB271_247.out; have hnc203 := NB247_271.out; have hnb204 := NB271_259.out; have hnc204 := NB259_271.out; have hnb205 := NB271_265.out; have hnc205 := NB265_271.out; have hcz206_0 : w195.cell? ⟨gb271, 0, none⟩ = some (.int .i64 0) := (blk_cell BK271.out 0).trans rfl; have hcz206_1 : w195.cell? ⟨gb271, 1, none⟩ = some (.slice none 0 0) := (blk_cell BK271.out 1).trans rfl; have hfz206_0 := blk_frozen BK271.out 0; have hfz206_1 := blk_frozen BK271.out 1; obtain ⟨Ao207, co207, eo207⟩ := Kd.R_slice HO269.out; subst eo207; have hcz208_0 : w195.cell? ⟨gb265, 0, none⟩ = some (.int .i64 t260) := (blk_cell BK265.out 0).trans rfl; have hcz208_1 : w195.cell? ⟨gb265, 1, none⟩ = some (.slice Ao187 t261.length co187) := (blk_cell BK265.out 1).trans rfl; have hfz208_0 := blk_frozen BK265.out 0; have hfz208_1 := blk_frozen BK265.out 1) | ((with_reducible refine gate_callee (f := 26) rfl ?_); refine goesL_ (some 142) rfl rfl Try.func26 (by kernel_rfl) rfl #[.agg #[.int .i64 t260, .slice Ao187 t261.length co187], .agg #[.int .i64 t266, .slice Ao207 t267.length co207]] rfl (by (try simp only [List.map_toArray, List.map_cons, List.map_nil]); first | done | rfl | (simp only [List.length_drop, List.length_take]; rfl)) ?_; (with_reducible refine (rowset_Or.calls kj61 t260 _ _ t261 t266 _ _ t267 t272 t273 t276 _ ?side1 ?side2 ?side3 ?side4 A136.out).mono ?_); (case side1 => refine (Kd.R_reads' (e := 66) (base := w.heap.size) (ok := fun k_ => (((((((True ∧ some k_ ≠ (.slice Ao25 t218.length co25 : Value).ownBlock) ∧ some k_ ≠ (.slice Ao35 t224.length co35 : Value).ownBlock) ∧ some k_ ≠ (.slice Ao46 t230.length co46 : Value).ownBlock) ∧ some k_ ≠ (.slice Ao83 t237.length co83 : Value).ownBlock) ∧ some k_ ≠ (.slice Ao101 t243.length co101 : Value).ownBlock) ∧ some k_ ≠ (.slice Ao167 t255.length co167 : Value).ownBlock) ∧ some k_ ≠ (.slice Ao207 t267.length co207 : Value).ownBlock)) (n := t261.length) (c := co187) ?_).2.2; exact (by (with_reducible repeat (first | apply Kd.R_alloc | apply Kd.R_drewN | apply Kd.R_drew)); exact (Kd.R_mono (Kd.R_far (p := ⟨gb271, 1, none⟩) (Kd.R_far (p := ⟨gb271, 0, none⟩) (Kd.R_types HO263.out BK271.out (by decide)) (fun _ hk => hk.2) (.int .i64 t266)) (fun _ hk => hk.2) (.slice Ao207 t267.length co207)) (fun _ h_ => h_.1)))); (case side2 => exact (Kd.R_reads' HO263.out).2.1); (case side3 => refine (Kd.R_reads' (e := 66) (base := w.heap.size) (ok := fun k_ => (((((((True ∧ some k_ ≠ (.slice Ao25 t218.length co25 : Value).ownBlock) ∧ some k_ ≠ (.slice Ao35 t224.length co35 : Value).ownBlock) ∧ some k_ ≠ (.slice Ao46 t230.length co46 : Value).ownBlock) ∧ some k_ ≠ (.slice Ao83 t237.length co83 : Value).ownBlock) ∧ some k_ ≠ (.slice Ao101 t243.length co101 : Value).ownBlock) ∧ some k_ ≠ (.slice Ao167 t255.length co167 : Value).ownBlock) ∧ some k_ ≠ (.slice Ao187 t261.length co187 : Value).ownBlock)) (n := t267.length) (c := co207) ?_).2.2; exact (by (with_reducible repeat (first | apply Kd.R_alloc | apply Kd.R_drewN | apply Kd.R_drew)); exact (Kd.R_mono (Kd.R_far (p := ⟨gb271, 1, none⟩) (Kd.R_far (p := ⟨gb271, 0, none⟩) (Kd.R_types HO269.out BK271.out (by decide)) (fun _ hk => hk.2) (.int .i64 t266)) (fun _ hk => hk.2) (.slice Ao207 t267.length co207)) (fun _ h_ => h_.1)))); (case side4 => exact (Kd.R_reads' HO269.out).2.1); rintro e w209 ⟨v274, rfl, ho0, hb⟩; refine ⟨_, rfl, ?_⟩; have n0_ := Aside0.mk (Kd.R_elder' (by (with_reducible repeat (first | apply Kd.R_alloc | apply Kd.R_drewN | apply Kd.R_drew)); exact (Kd.R_mono (Kd.R_far (p := ⟨gb271, 1, none⟩) (Kd.R_far (p := ⟨gb271, 0, none⟩) (Kd.R_types HO_223001.out BK271.out (by decide)) (fun _ hk => hk.2) (.int .i64 t266)) (fun _ hk => hk.2) (.slice Ao207 t267.length co207)) (fun _ h_ => h_.1))) (Kd.R_base ho0) hb); have n1_ := Aside0.mk (Kd.R_elder' (by (with_reducible repeat (first | apply Kd.R_alloc | apply Kd.R_drewN | apply Kd.R_drew)); exact (Kd.R_mono (Kd.R_far (p := ⟨gb271, 1, none⟩) (Kd.R_far (p := ⟨gb271, 0, none⟩) (Kd.R_types HO_229001.out BK271.out (by decide)) (fun _ hk => hk.2) (.int .i64 t266)) (fun _ hk => hk.2) (.slice Ao207 t267.length co207)) (fun _ h_ => h_.1))) (Kd.R_base ho0) hb); have n2_ := Aside0.mk (Kd.R_elder' (by (with_reducible repeat (first | apply Kd.R_alloc | apply Kd.R_drewN | apply Kd.R_drew)); exact (Kd.R_mono (Kd.R_far (p := ⟨gb271, 1, none⟩) (Kd.R_far (p := ⟨gb271, 0, none⟩) (Kd.R_types HO_235001.out BK271.out (by decide)) (fun _ hk => hk.2) (.int .i64 t266)) (fun _ hk => hk.2) (.slice Ao207 t267.length co207)) (fun _ h_ => h_.1))) (Kd.R_base ho0) hb); have n3_ := Aside0.mk (Kd.R_elder' (by (with_reducible repeat (first | apply Kd.R_alloc | apply Kd.R_drewN | apply Kd.R_drew)); exact (Kd.R_mono (Kd.R_far (p := ⟨gb271, 1, none⟩) (Kd.R_far (p := ⟨gb271, 0, none⟩) (Kd.R_types HO_242001.out BK271.out (by decide)) (fun _ hk => hk.2) (.int .i64 t266)) (fun _ hk => hk.2) (.slice Ao207 t267.length co207)) (fun _ h_ => h_.1))) (Kd.R_base ho0) hb); have n4_ := Aside0.mk (Kd.R_elder' (by (with_reducible repeat (first | apply Kd.R_alloc | apply Kd.R_drewN | apply Kd.R_drew)); exact (Kd.R_mono (Kd.R_far (p := ⟨gb271, 1, none⟩) (Kd.R_far (p := ⟨gb271, 0, none⟩) (Kd.R_types HO_248001.out BK271.out (by decide)) (fun _ hk => hk.2) (.int .i64 t266)) (fun _ hk => hk.2) (.slice Ao207 t267.length co207)) (fun _ h_ => h_.1))) (Kd.R_base ho0) hb); have n5_ := Aside0.mk (Kd.R_elder' (by (with_reducible repeat (first | apply Kd.R_alloc | apply Kd.R_drewN | apply Kd.R_drew)); exact (Kd.R_mono (Kd.R_far (p := ⟨gb271, 1, none⟩) (Kd.R_far (p := ⟨gb271, 0, none⟩) (Kd.R_types HO257.out BK271.out (by decide)) (fun _ hk => hk.2) (.int .i64 t266)) (fun _ hk => hk.2) (.slice Ao207 t267.length co207)) (fun _ h_ => h_.1))) (Kd.R_base ho0) hb); have n6_ := Aside0.mk (Kd.R_elder' (by (with_reducible repeat (first | apply Kd.R_alloc | apply Kd.R_drewN | apply Kd.R_drew)); exact (Kd.R_mono (Kd.R_far (p := ⟨gb271, 1, none⟩) (Kd.R_far (p := ⟨gb271, 0, none⟩) (Kd.R_types HO263.out BK271.out (by decide)) (fun _ hk => hk.2) (.int .i64 t266)) (fun _ hk => hk.2) (.slice Ao207 t267.length co207)) (fun _ h_ => h_.1))) (Kd.R_base ho0) hb); have n7_ := Aside0.mk (Kd.R_elder' (by (with_reducible repeat (first | apply Kd.R_alloc | apply Kd.R_drewN | apply Kd.R_drew)); exact (Kd.R_mono (Kd.R_far (p := ⟨gb271, 1, none⟩) (Kd.R_far (p := ⟨gb271, 0, none⟩) (Kd.R_types HO269.out BK271.out (by decide)) (fun _ hk => hk.2) (.int .i64 t266)) (fun _ hk => hk.2) (.slice Ao207 t267.length co207)) (fun _ h_ => h_.1))) (Kd.R_base ho0) hb); have n8_ := Aside0.mk (Kd.R_lower (Kd.R_new' (Kd.R_new' (Kd.R_new' (Kd.R_new' (Kd.R_new' (Kd.R_new' (Kd.R_new' (Kd.R_new' ho0 (Kd.R_lt (by (with_reducible repeat (first | apply Kd.R_alloc | apply Kd.R_drewN | apply Kd.R_drew)); exact (Kd.R_mono (Kd.R_far (p := ⟨gb271, 1, none⟩) (Kd.R_far (p := ⟨gb271, 0, none⟩) (Kd.R_types HO_223001.out BK271.out (by decide)) (fun _ hk => hk.2) (.int .i64 t266)) (fun _ hk => hk.2) (.slice Ao207 t267.length co207)) (fun _ h_ => h_.1))))) (Kd.R_lt (by (with_reducible repeat (first | apply Kd.R_alloc | apply Kd.R_drewN | apply Kd.R_drew)); exact (Kd.R_mono (Kd.R_far (p := ⟨gb271, 1, none⟩) (Kd.R_far (p := ⟨gb271, 0, none⟩) (Kd.R_types HO_229001.out BK271.out (by decide)) (fun _ hk => hk.2) (.int .i64 t266)) (fun _ hk => hk.2) (.slice Ao207 t267.length co207)) (fun _ h_ => h_.1))))) (Kd.R_lt (by (with_reducible repeat (first | apply Kd.R_alloc | apply Kd.R_drewN | apply Kd.R_drew)); exact (Kd.R_mono (Kd.R_far (p := ⟨gb271, 1, none⟩) (Kd.R_far (p := ⟨gb271, 0, none⟩) (Kd.R_types HO_235001.out BK271.out (by decide)) (fun _ hk => hk.2) (.int .i64 t266)) (fun _ hk => hk.2) (.slice Ao207 t267.length co207)) (fun _ h_ => h_.1))))) (Kd.R_lt (by (with_reducible repeat (first | apply Kd.R_alloc | apply Kd.R_drewN | apply Kd.R_drew)); exact (Kd.R_mono (Kd.R_far (p := ⟨gb271, 1, none⟩) (Kd.R_far (p := ⟨gb271, 0, none⟩) (Kd.R_types HO_242001.out BK271.out (by decide)) (fun _ hk => hk.2) (.int .i64 t266)) (fun _ hk => hk.2) (.slice Ao207 t267.length co207)) (fun _ h_ => h_.1))))) (Kd.R_lt (by (with_reducible repeat (first | apply Kd.R_alloc | apply Kd.R_drewN | apply Kd.R_drew)); exact (Kd.R_mono (Kd.R_far (p := ⟨gb271, 1, none⟩) (Kd.R_far (p := ⟨gb271, 0, none⟩) (Kd.R_types HO_248001.out BK271.out (by decide)) (fun _ hk => hk.2) (.int .i64 t266)) (fun _ hk => hk.2) (.slice Ao207 t267.length co207)) (fun _ h_ => h_.1))))) (Kd.R_lt (by (with_reducible repeat (first | apply Kd.R_alloc | apply Kd.R_drewN | apply Kd.R_drew)); exact (Kd.R_mono (Kd.R_far (p := ⟨gb271, 1, none⟩) (Kd.R_far (p := ⟨gb271, 0, none⟩) (Kd.R_types HO257.out BK271.out (by decide)) (fun _ hk => hk.2) (.int .i64 t266)) (fun _ hk => hk.2) (.slice Ao207 t267.length co207)) (fun _ h_ => h_.1))))) (Kd.R_lt (by (with_reducible repeat (first | apply Kd.R_alloc | apply Kd.R_drewN | apply Kd.R_drew)); exact (Kd.R_mono (Kd.R_far (p := ⟨gb271, 1, none⟩) (Kd.R_far (p := ⟨gb271, 0, none⟩) (Kd.R_types HO263.out BK271.out (by decide)) (fun _ hk => hk.2) (.int .i64 t266)) (fun _ hk => hk.2) (.slice Ao207 t267.length co207)) (fun _ h_ => h_.1))))) (Kd.R_lt (by (with_reducible repeat (first | apply Kd.R_alloc | apply Kd.R_drewN | apply Kd.R_drew)); exact (Kd.R_mono (Kd.R_far (p := ⟨gb271, 1, none⟩) (Kd.R_far (p := ⟨gb271, 0, none⟩) (Kd.R_types HO269.out BK271.out (by decide)) (fun _ hk => hk.2) (.int .i64 t266)) (fun _ hk => hk.2) (.slice Ao207 t267.length co207)) (fun _ h_ => h_.1))))) (below_size (by repeat (first | (with_reducible first | exact HB.out | apply below_alloc | apply pw_below_drewN | apply below_drew1 | refine below_set ?_ GE213.out | refine below_set ?_ GE214.out | refine below_set ?_ GE215.out | refine below_set ?_ GE222.out | refine below_set ?_ GE228.out | refine below_set ?_ GE234.out | refine below_set ?_ GE241.out | refine below_set ?_ GE247.out | refine below_set ?_ GE259.out | refine below_set ?_ GE265.out | refine below_set ?_ GE271.out) | exact HB.out)))); have n9_ := bkA BK213 hb; have n10_ := bkA BK214 hb; have n11_ := bkA BK215 hb; have n12_ := bkA BK222 hb; have n13_ := bkA BK228 hb; have n14_ := bkA BK234 hb; have n15_ := bkA BK241 hb; have n16_ := bkA BK247 hb; have n17_ := bkA BK259 hb; have n18_ := bkA BK265 hb; have n19_ := Aside0.mk (blk_below (g := gb271) (o := .cells #[.int .i64 t266, .slice Ao207 t267.length co207] 38 (0, 0)) (by (with_reducible repeat (first | refine blk_drewN ?_ _ | refine blk_drew ?_ | refine blk_alloc ?_ _)); refine blk_put (cs := #[.int .i64 t266, .slice none 0 0]) ?_ 1 _ rfl; (with_reducible repeat (first | refine blk_drewN ?_ _ | refine blk_drew ?_ | refine blk_alloc ?_ _)); refine blk_put (cs := #[.int .i64 0, .slice none 0 0]) ?_ 0 _ rfl; (with_reducible repeat (first | refine blk_drewN ?_ _ | refine blk_drew ?_ | refine blk_alloc ?_ _)); exact BK271.out) hb); have n20_ := bsA HB hb; clear HO_223001; clear HO_229001; clear HO_235001; clear HO_242001; clear HO_248001; clear HO257; clear HO263; clear HO269; clear BK213; clear BK214; clear BK215; clear BK222; clear BK228; clear BK234; clear BK241; clear BK247; clear BK259; clear BK265; clear BK271; clear HB; have HO_223001 := n0_; have HO_229001 := n1_; have HO_235001 := n2_; have HO_242001 := n3_; have HO_248001 := n4_; have HO257 := n5_; have HO263 := n6_; have HO269 := n7_; have HO275 := n8_; have BK213 := n9_; have BK214 := n10_; have BK215 := n11_; have BK222 := n12_; have BK228 := n13_; have BK234 := n14_; have BK241 := n15_; have BK247 := n16_; have BK259 := n17_; have BK265 := n18_; have BK271 := n19_; have HB := n20_; clear n0_ n1_ n2_ n3_ n4_ n5_ n6_ n7_ n8_ n9_ n10_ n11_ n12_ n13_ n14_ n15_ n16_ n17_ n18_ n19_ n20_; (try clear hb); (try clear hb2); (try clear hk); (try clear hi); (try clear ho0)) | ((with_reducible refine gate_dst (N := 23) rfl ?_); refine box_event ?hg (N := 23) ?hd (cs := #[.int .i64 0, .slice none 0 0]) (t := 38) ?hr ?_; (case hd => rfl); (case hg => rfl); (case hr => first | (go_simp; done) | (go_simp; rfl)); intro gb277 hg w210 hbox hb; have n0_ := rbA HO_223001 hb; have n1_ := rbA HO_229001 hb; have n2_ := rbA HO_235001 hb; have n3_ := rbA HO_242001 hb; have n4_ := rbA HO_248001 hb; have n5_ := rbA HO257 hb; have n6_ := rbA HO263 hb; have n7_ := rbA HO269 hb; have n8_ := rbA HO275 hb; have n9_ := bkA BK213 hb; have n10_ := bkA BK214 hb; have n11_ := bkA BK215 hb; have n12_ := bkA BK222 hb; have n13_ := bkA BK228 hb; have n14_ := bkA BK234 hb; have n15_ := bkA BK241 hb; have n16_ := bkA BK247 hb; have n17_ := bkA BK259 hb; have n18_ := bkA BK265 hb; have n19_ := bkA BK271 hb; have n20_ := bsA HB hb; have n21_ := Aside0.mk (hbox); have n22_ := szA HB hg; have n23_ := szA HB hg; have n24_ := neA BK213 hg; have n25_ := neB BK213 hg; have n26_ := neA BK214 hg; have n27_ := neB BK214 hg; have n28_ := neA BK215 hg; have n29_ := neB BK215 hg; have n30_ := neA BK222 hg; have n31_ := neB BK222 hg; have n32_ := neA BK228 hg; have n33_ := neB BK228 hg; have n34_ := neA BK234 hg; have n35_ := neB BK234 hg; have n36_ := neA BK241 hg; have n37_ := neB BK241 hg; have n38_ := neA BK247 hg; have n39_ := neB BK247 hg; have n40_ := neA BK259 hg; have n41_ := neB BK259 hg; have n42_ := neA BK265 hg; have n43_ := neB BK265 hg; have n44_ := neA BK271 hg; have n45_ := neB BK271 hg; clear HO_223001; clear HO_229001; clear HO_235001; clear HO_242001; clear HO_248001; clear HO257; clear HO263; clear HO269; clear HO275; clear BK213; clear BK214; clear BK215; clear BK222; clear BK228; clear BK234; clear BK241; clear BK247; clear BK259; clear BK265; clear BK271; clear HB; have HO_223001 := n0_; have HO_229001 := n1_; have HO_235001 := n2_; have HO_242001 := n3_; have HO_248001 := n4_; have HO257 := n5_; have HO263 := n6_; have HO269 := n7_; have HO275 := n8_; have BK213 := n9_; have BK214 := n10_; have BK215 := n11_; have BK222 := n12_; have BK228 := n13_; have BK234 := n14_; have BK241 := n15_; have BK247 := n16_; have BK259 := n17_; have BK265 := n18_; have BK271 := n19_; have HB := n20_; have BK277 := n21_; have GW277 := n22_; have GE277 := n23_; have NB213_277 := n24_; have NB277_213 := n25_; have NB214_277 := n26_; have NB277_214 := n27_; have NB215_277 := n28_; have NB277_215 := n29_; have NB222_277 := n30_; have NB277_222 := n31_; have NB228_277 := n32_; have NB277_228 := n33_; have NB234_277 := n34_; have NB277_234 := n35_; have NB241_277 := n36_; have NB277_241 := n37_; have NB247_277 := n38_; have NB277_247 := n39_; have NB259_277 := n40_; have NB277_259 := n41_; have NB265_277 := n42_; have NB277_265 := n43_; have NB271_277 := n44_; have NB277_271 := n45_; clear n0_ n1_ n2_ n3_ n4_ n5_ n6_ n7_ n8_ n9_ n10_ n11_ n12_ n13_ n14_ n15_ n16_ n17_ n18_ n19_ n20_ n21_ n22_ n23_ n24_ n25_ n26_ n27_ n28_ n29_ n30_ n31_ n32_ n33_ n34_ n35_ n36_ n37_ n38_ n39_ n40_ n41_ n42_ n43_ n44_ n45_; clear hb hbox hg; have hnb211 := NB277_213.out; have hnc211 := NB213_277.out; have hnb212 := NB277_214.out; have hnc212 := NB214_277.out; have hnb213 := NB277_215.out; have hnc213 := NB215_277.out; have hnb214 := NB277_222.out; have hnc214 := NB222_277.out; have hnb215 := NB277_228.out; have hnc215 := NB228_277.out; have hnb216 := NB277_234.out; have hnc216 := NB234_277.out; have hnb217 := NB277_241.out; have hnc217 := NB241_277.out; have hnb218 := NB277_247.out; have hnc218 := NB247_277.out; have hnb219 := NB277_259.out; have hnc219 := NB259_277.out; have hnb220 := NB277_265.out; have hnc220 := NB265_277.out; have hnb221 := NB277_271.out; have hnc221 := NB271_277.out; have hcz222_0 : w210.cell? ⟨gb277, 0, none⟩ = some (.int .i64 0) := (blk_cell BK277.out 0).trans rfl; have hcz222_1 : w210.cell? ⟨gb277, 1, none⟩ = some (.slice none 0 0) := (blk_cell BK277.out 1).trans rfl; have hfz222_0 := blk_frozen BK277.out 0; have hfz222_1 := blk_frozen BK277.out 1; obtain ⟨Ao223, co223, eo223⟩ := Kd.R_slice HO275.out; subst eo223; have hcz224_0 : w210.cell? ⟨gb259, 0, none⟩ = some (.int .i64 t254) := (blk_cell BK259.out 0).trans rfl; have hcz224_1 : w210.cell? ⟨gb259, 1, none⟩ = some (.slice Ao167 t255.length co167) := (blk_cell BK259.out 1).trans rfl; have hfz224_0 := blk_frozen BK259.out 0; have hfz224_1 := blk_frozen BK259.out 1) | (go_at_call 29; (with_reducible refine (dragnetref09_Same.calls kj61 t254 _ _ t255 t272 _ _ t273 t278 _ ?side1 ?side2 ?side3 ?side4 A140.out).mono ?_); (case side1 => refine (Kd.R_reads' (e := 66) (base := w.heap.size) (ok := fun k_ => ((((((((True ∧ some k_ ≠ (.slice Ao25 t218.length co25 : Value).ownBlock) ∧ some k_ ≠ (.slice Ao35 t224.length co35 : Value).ownBlock) ∧ some k_ ≠ (.slice Ao46 t230.length co46 : Value).ownBlock) ∧ some k_ ≠ (.slice Ao83 t237.length co83 : Value).ownBlock) ∧ some k_ ≠ (.slice Ao101 t243.length co101 : Value).ownBlock) ∧ some k_ ≠ (.slice Ao187 t261.length co187 : Value).ownBlock) ∧ some k_ ≠ (.slice Ao207 t267.length co207 : Value).ownBlock) ∧ some k_ ≠ (.slice Ao223 t273.length co223 : Value).ownBlock)) (n := t255.length) (c := co167) ?_).2.2; exact (by (with_reducible repeat (first | apply Kd.R_alloc | apply Kd.R_drewN | apply Kd.R_drew)); exact (Kd.R_mono (Kd.R_far (p := ⟨gb277, 1, none⟩) (Kd.R_far (p := ⟨gb277, 0, none⟩) (Kd.R_types HO257.out BK277.out (by decide)) (fun _ hk => hk.2) (.int .i64 t272)) (fun _ hk => hk.2) (.slice Ao223 t273.length co223)) (fun _ h_ => h_.1)))); (case side2 => exact (Kd.R_reads' HO257.out).2.1); (case side3 => refine (Kd.R_reads' (e := 66) (base := w.heap.size) (ok := fun k_ => ((((((((True ∧ some k_ ≠ (.slice Ao25 t218.length co25 : Value).ownBlock) ∧ some k_ ≠ (.slice Ao35 t224.length co35 : Value).ownBlock) ∧ some k_ ≠ (.slice Ao46 t230.length co46 : Value).ownBlock) ∧ some k_ ≠ (.slice Ao83 t237.length co83 : Value).ownBlock) ∧ some k_ ≠ (.slice Ao101 t243.length co101 : Value).ownBlock) ∧ some k_ ≠ (.slice Ao167 t255.length co167 : Value).ownBlock) ∧ some k_ ≠ (.slice Ao187 t261.length co187 : Value).ownBlock) ∧ some k_ ≠ (.slice Ao207 t267.length co207 : Value).ownBlock)) (n := t273.length) (c := co223) ?_).2.2; exact (by (with_reducible repeat (first | apply Kd.R_alloc | apply Kd.R_drewN | apply Kd.R_drew)); exact (Kd.R_mono (Kd.R_far (p := ⟨gb277, 1, none⟩) (Kd.R_far (p := ⟨gb277, 0, none⟩) (Kd.R_types HO275.out BK277.out (by decide)) (fun _ hk => hk.2) (.int .i64 t272)) (fun _ hk => hk.2) (.slice Ao223 t273.length co223)) (fun _ h_ => h_.1)))); (case side4 => exact (Kd.R_reads' HO275.out).2.1); rintro e w225 ⟨rfl, hb⟩; have n0_ := Aside0.mk (Kd.R_below (by (with_reducible repeat (first | apply Kd.R_alloc | apply Kd.R_drewN | apply Kd.R_drew)); exact (Kd.R_mono (Kd.R_far (p := ⟨gb277, 1, none⟩) (Kd.R_far (p := ⟨gb277, 0, none⟩) (Kd.R_types HO_223001.out BK277.out (by decide)) (fun _ hk => hk.2) (.int .i64 t272)) (fun _ hk => hk.2) (.slice Ao223 t273.length co223)) (fun _ h_ => h_.1))) hb); have n1_ := Aside0.mk (Kd.R_below (by (with_reducible repeat (first | apply Kd.R_alloc | apply Kd.R_drewN | apply Kd.R_drew)); exact (Kd.R_mono (Kd.R_far (p := ⟨gb277, 1, none⟩) (Kd.R_far (p := ⟨gb277, 0, none⟩) (Kd.R_types HO_229001.out BK277.out (by decide)) (fun _ hk => hk.2) (.int .i64 t272)) (fun _ hk => hk.2) (.slice Ao223 t273.length co223)) (fun _ h_ => h_.1))) hb); have n2_ := Aside0.mk (Kd.R_below (by (with_reducible repeat (first | apply Kd.R_alloc | apply Kd.R_drewN | apply Kd.R_drew)); exact (Kd.R_mono (Kd.R_far (p := ⟨gb277, 1, none⟩) (Kd.R_far (p := ⟨gb277, 0, none⟩) (Kd.R_types HO_235001.out BK277.out (by decide)) (fun _ hk => hk.2) (.int .i64 t272)) (fun _ hk => hk.2) (.slice Ao223 t273.length co223)) (fun _ h_ => h_.1))) hb); have n3_ := Aside0.mk (Kd.R_below (by (with_reducible repeat (first | apply Kd.R_alloc | apply Kd.R_drewN | apply Kd.R_drew)); exact (Kd.R_mono (Kd.R_far (p := ⟨gb277, 1, none⟩) (Kd.R_far (p := ⟨gb277, 0, none⟩) (Kd.R_types HO_242001.out BK277.out (by decide)) (fun _ hk => hk.2) (.int .i64 t272)) (fun _ hk => hk.2) (.slice Ao223 t273.length co223)) (fun _ h_ => h_.1))) hb); have n4_ := Aside0.mk (Kd.R_below (by (with_reducible repeat (first | apply Kd.R_alloc | apply Kd.R_drewN | apply Kd.R_drew)); exact (Kd.R_mono (Kd.R_far (p := ⟨gb277, 1, none⟩) (Kd.R_far (p := ⟨gb277, 0, none⟩) (Kd.R_types HO_248001.out BK277.out (by decide)) (fun _ hk => hk.2) (.int .i64 t272)) (fun _ hk => hk.2) (.slice Ao223 t273.length co223)) (fun _ h_ => h_.1))) hb); have n5_ := Aside0.mk (Kd.R_below (by (with_reducible repeat (first | apply Kd.R_alloc | apply Kd.R_drewN | apply Kd.R_drew)); exact (Kd.R_mono (Kd.R_far (p := ⟨gb277, 1, none⟩) (Kd.R_far (p := ⟨gb277, 0, none⟩) (Kd.R_types HO257.out BK277.out (by decide)) (fun _ hk => hk.2) (.int .i64 t272)) (fun _ hk => hk.2) (.slice Ao223 t273.length co223)) (fun _ h_ => h_.1))) hb); have n6_ := Aside0.mk (Kd.R_below (by (with_reducible repeat (first | apply Kd.R_alloc | apply Kd.R_drewN | apply Kd.R_drew)); exact (Kd.R_mono (Kd.R_far (p := ⟨gb277, 1, none⟩) (Kd.R_far (p := ⟨gb277, 0, none⟩) (Kd.R_types HO263.out BK277.out (by decide)) (fun _ hk => hk.2) (.int .i64 t272)) (fun _ hk => hk.2) (.slice Ao223 t273.length co223)) (fun _ h_ => h_.1))) hb); have n7_ := Aside0.mk (Kd.R_below (by (with_reducible repeat (first | apply Kd.R_alloc | apply Kd.R_drewN | apply Kd.R_drew)); exact (Kd.R_mono (Kd.R_far (p := ⟨gb277, 1, none⟩) (Kd.R_far (p := ⟨gb277, 0, none⟩) (Kd.R_types HO269.out BK277.out (by decide)) (fun _ hk => hk.2) (.int .i64 t272)) (fun _ hk => hk.2) (.slice Ao223 t273.length co223)) (fun _ h_ => h_.1))) hb); have n8_ := Aside0.mk (Kd.R_below (by (with_reducible repeat (first | apply Kd.R_alloc | apply Kd.R_drewN | apply Kd.R_drew)); exact (Kd.R_mono (Kd.R_far (p := ⟨gb277, 1, none⟩) (Kd.R_far (p := ⟨gb277, 0, none⟩) (Kd.R_types HO275.out BK277.out (by decide)) (fun _ hk => hk.2) (.int .i64 t272)) (fun _ hk => hk.2) (.slice Ao223 t273.length co223)) (fun _ h_ => h_.1))) hb); have n9_ := bkA BK213 hb; have n10_ := bkA BK214 hb; have n11_ := bkA BK215 hb; have n12_ := bkA BK222 hb; have n13_ := bkA BK228 hb; have n14_ := bkA BK234 hb; have n15_ := bkA BK241 hb; have n16_ := bkA BK247 hb; have n17_ := bkA BK259 hb; have n18_ := bkA BK265 hb; have n19_ := bkA BK271 hb; have n20_ := Aside0.mk (blk_below (g := gb277) (o := .cells #[.int .i64 t272, .slice Ao223 t273.length co223] 38 (0, 0)) (by (with_reducible repeat (first | refine blk_drewN ?_ _ | refine blk_drew ?_ | refine blk_alloc ?_ _)); refine blk_put (cs := #[.int .i64 t272, .slice none 0 0]) ?_ 1 _ rfl; (with_reducible repeat (first | refine blk_drewN ?_ _ | refine blk_drew ?_ | refine blk_alloc ?_ _)); refine blk_put (cs := #[.int .i64 0, .slice none 0 0]) ?_ 0 _ rfl; (with_reducible repeat (first | refine blk_drewN ?_ _ | refine blk_drew ?_ | refine blk_alloc ?_ _)); exact BK277.out) hb); have n21_ := bsA HB hb; clear HO_223001; clear HO_229001; clear HO_235001; clear HO_242001; clear HO_248001; clear HO257; clear HO263; clear HO269; clear HO275; clear BK213; clear BK214; clear BK215; clear BK222; clear BK228; clear BK234; clear BK241; clear BK247; clear BK259; clear BK265; clear BK271; clear BK277; clear HB; have HO_223001 := n0_; have HO_229001 := n1_; have HO_235001 := n2_; have HO_242001 := n3_; have HO_248001 := n4_; have HO257 := n5_; have HO263 := n6_; have HO269 := n7_; have HO275 := n8_; have BK213 := n9_; have BK214 := n10_; have BK215 := n11_; have BK222 := n12_; have BK228 := n13_; have BK234 := n14_; have BK241 := n15_; have BK247 := n16_; have BK259 := n17_; have BK265 := n18_; have BK271 := n19_; have BK277 := n20_; have HB := n21_; clear n0_ n1_ n2_ n3_ n4_ n5_ n6_ n7_ n8_ n9_ n10_ n11_ n12_ n13_ n14_ n15_ n16_ n17_ n18_ n19_ n20_ n21_; (try clear hb); (try clear hb2); (try clear hk); (try clear hi)))
            go_ret
            exact ⟨by first | rfl | (simp [errW_none, errW_some] <;> rfl) | (simp [*, errW_none, errW_some] <;> rfl), by repeat (first | (with_reducible first | exact HB.out | apply below_alloc | apply pw_below_drewN | apply below_drew1 | refine below_set ?_ GE213.out | refine below_set ?_ GE214.out | refine below_set ?_ GE215.out | refine below_set ?_ GE222.out | refine below_set ?_ GE228.out | refine below_set ?_ GE234.out | refine below_set ?_ GE241.out | refine below_set ?_ GE247.out | refine below_set ?_ GE259.out | refine below_set ?_ GE265.out | refine below_set ?_ GE271.out | refine below_set ?_ GE277.out) | exact HB.out)⟩
           ·rw [if_neg c139] at H
            have c139b0 : (t276 == 0) = false := beq_eq_false_iff_ne.mpr c139
            have c139b1 : (t276 != 0) = true := bne_iff_ne.mpr c139
            exact absurd H (by simp)
          ·rw [if_neg c138] at H
           have c138b0 : (t270 == 0) = false := beq_eq_false_iff_ne.mpr c138
           have c138b1 : (t270 != 0) = true := bne_iff_ne.mpr c138
           exact absurd H (by simp)
         ·rw [if_neg c137] at H
          have c137b0 : (t264 == 0) = false := beq_eq_false_iff_ne.mpr c137
          have c137b1 : (t264 != 0) = true := bne_iff_ne.mpr c137
          exact absurd H (by simp)
        ·rw [if_neg c135] at H
         have c135b0 : (t258 == 0) = false := beq_eq_false_iff_ne.mpr c135
         have c135b1 : (t258 != 0) = true := bne_iff_ne.mpr c135
         by_cases c226 : t264 = t258
         ·rw [if_pos c226] at H
          have c226b0 : (t264 == t258) = true := beq_iff_eq.mpr c226
          have c226b1 : (t264 != t258) = false := bne_eq_false_iff_eq.mpr c226
          clear c226
          have Hr_ := Option.some.inj H
          have hnb227 := NB234_213.out
          have hnc227 := NB213_234.out
          have hnb228 := NB234_214.out
          have hnc228 := NB214_234.out
          have hnb229 := NB234_215.out
          have hnc229 := NB215_234.out
          have hnb230 := NB234_222.out
          have hnc230 := NB222_234.out
          have hnb231 := NB234_228.out
          have hnc231 := NB228_234.out
          have hnb232 := NB234_241.out
          have hnc232 := NB241_234.out
          have hnb233 := NB234_247.out
          have hnc233 := NB247_234.out
          have hcz234_0 : wc.cell? ⟨gb234, 0, none⟩ = some (.int .i64 t229) := (blk_cell BK234.out 0).trans rfl
          have hcz234_1 : wc.cell? ⟨gb234, 1, none⟩ = some (.slice Ao46 t230.length co46) := (blk_cell BK234.out 1).trans rfl
          have hfz234_0 := blk_frozen BK234.out 0
          have hfz234_1 := blk_frozen BK234.out 1
          have hnb235 := NB215_213.out
          have hnc235 := NB213_215.out
          have hnb236 := NB215_214.out
          have hnc236 := NB214_215.out
          have hnb237 := NB215_222.out
          have hnc237 := NB222_215.out
          have hnb238 := NB215_228.out
          have hnc238 := NB228_215.out
          have hnb239 := NB215_241.out
          have hnc239 := NB241_215.out
          have hnb240 := NB215_247.out
          have hnc240 := NB247_215.out
          have hcz241_0 : wc.cell? ⟨gb215, 0, none⟩ = some (.int .i64 a2_0) := (blk_cell BK215.out 0).trans rfl
          have hcz241_1 : wc.cell? ⟨gb215, 1, none⟩ = some (.slice A2_1 l2_1.length c2_1) := (blk_cell BK215.out 1).trans rfl
          have hfz241_0 := blk_frozen BK215.out 0
          have hfz241_1 := blk_frozen BK215.out 1
          go_wp2_with (first | ((with_reducible refine gate_callee (f := 25) rfl ?_); refine goesL_ (some 114) rfl rfl Try.func25 (by kernel_rfl) rfl #[.agg #[.int .i64 t229, .slice Ao46 t230.length co46], .agg #[.int .i64 a2_0, .slice A2_1 l2_1.length c2_1]] rfl (by (try simp only [List.map_toArray, List.map_cons, List.map_nil]); first | done | rfl | (simp only [List.length_drop, List.length_take]; rfl)) ?_; (with_reducible refine (rowset_And.calls kj61 t229 _ _ t230 a2_0 _ _ l2_1 t254 t255 t258 _ ?side1 ?side2 ?side3 ?side4 A132.out).mono ?_); (case side1 => repeat (first | exact (Kd.R_reads' HO_235001.out).2.2 | (with_reducible refine Kd.C_alloc ?_ _) | (with_reducible refine Kd.C_drewN ?_ _) | (with_reducible refine Kd.C_drew ?_))); (case side2 => exact (Kd.R_reads' HO_235001.out).2.1); (case side3 => repeat (first | exact (Kd.C_below HR2_1.out HB.out) | (with_reducible refine Kd.C_alloc ?_ _) | (with_reducible refine Kd.C_drewN ?_ _) | (with_reducible refine Kd.C_drew ?_))); (case side4 => exact HC2_1.out); rintro e w242 ⟨v256, rfl, ho0, hb⟩; refine ⟨_, rfl, ?_⟩; have n0_ := Aside0.mk (Kd.R_elder' (by (with_reducible repeat (first | apply Kd.R_alloc | apply Kd.R_drewN | apply Kd.R_drew)); exact HO_223001.out) (Kd.R_base ho0) hb); have n1_ := Aside0.mk (Kd.R_elder' (by (with_reducible repeat (first | apply Kd.R_alloc | apply Kd.R_drewN | apply Kd.R_drew)); exact HO_229001.out) (Kd.R_base ho0) hb); have n2_ := Aside0.mk (Kd.R_elder' (by (with_reducible repeat (first | apply Kd.R_alloc | apply Kd.R_drewN | apply Kd.R_drew)); exact HO_235001.out) (Kd.R_base ho0) hb); have n3_ := Aside0.mk (Kd.R_elder' (by (with_reducible repeat (first | apply Kd.R_alloc | apply Kd.R_drewN | apply Kd.R_drew)); exact HO_242001.out) (Kd.R_base ho0) hb); have n4_ := Aside0.mk (Kd.R_elder' (by (with_reducible repeat (first | apply Kd.R_alloc | apply Kd.R_drewN | apply Kd.R_drew)); exact HO_248001.out) (Kd.R_base ho0) hb); have n5_ := Aside0.mk (Kd.R_lower (Kd.R_new' (Kd.R_new' (Kd.R_new' (Kd.R_new' (Kd.R_new' ho0 (Kd.R_lt (by (with_reducible repeat (first | apply Kd.R_alloc | apply Kd.R_drewN | apply Kd.R_drew)); exact HO_223001.out))) (Kd.R_lt (by (with_reducible repeat (first | apply Kd.R_alloc | apply Kd.R_drewN | apply Kd.R_drew)); exact HO_229001.out))) (Kd.R_lt (by (with_reducible repeat (first | apply Kd.R_alloc | apply Kd.R_drewN | apply Kd.R_drew)); exact HO_235001.out))) (Kd.R_lt (by (with_reducible repeat (first | apply Kd.R_alloc | apply Kd.R_drewN | apply Kd.R_drew)); exact HO_242001.out))) (Kd.R_lt (by (with_reducible repeat (first | apply Kd.R_alloc | apply Kd.R_drewN | apply Kd.R_drew)); exact HO_248001.out))) (below_size (by repeat (first | (with_reducible first | exact HB.out | apply below_alloc | apply pw_below_drewN | apply below_drew1 | refine below_set ?_ GE213.out | refine below_set ?_ GE214.out | refine below_set ?_ GE215.out | refine below_set ?_ GE222.out | refine below_set ?_ GE228.out | refine below_set ?_ GE234.out | refine below_set ?_ GE241.out | refine below_set ?_ GE247.out) | exact HB.out)))); have n6_ := bkA BK213 hb; have n7_ := bkA BK214 hb; have n8_ := bkA BK215 hb; have n9_ := bkA BK222 hb; have n10_ := bkA BK228 hb; have n11_ := bkA BK234 hb; have n12_ := bkA BK241 hb; have n13_ := bkA BK247 hb; have n14_ := bsA HB hb; clear HO_223001; clear HO_229001; clear HO_235001; clear HO_242001; clear HO_248001; clear BK213; clear BK214; clear BK215; clear BK222; clear BK228; clear BK234; clear BK241; clear BK247; clear HB; have HO_223001 := n0_; have HO_229001 := n1_; have HO_235001 := n2_; have HO_242001 := n3_; have HO_248001 := n4_; have HO257 := n5_; have BK213 := n6_; have BK214 := n7_; have BK215 := n8_; have BK222 := n9_; have BK228 := n10_; have BK234 := n11_; have BK241 := n12_; have BK247 := n13_; have HB := n14_; clear n0_ n1_ n2_ n3_ n4_ n5_ n6_ n7_ n8_ n9_ n10_ n11_ n12_ n13_ n14_; (try clear hb); (try clear hb2); (try clear hk); (try clear hi); (try clear ho0)) | ((with_reducible refine gate_dst (N := 17) rfl ?_); refine box_event ?hg (N := 17) ?hd (cs := #[.int .i64 0, .slice none 0 0]) (t := 38) ?hr ?_; (case hd => rfl); (case hg => rfl); (case hr => first | (go_simp; done) | (go_simp; rfl)); intro gb259 hg w243 hbox hb; have n0_ := rbA HO_223001 hb; have n1_ := rbA HO_229001 hb; have n2_ := rbA HO_235001 hb; have n3_ := rbA HO_242001 hb; have n4_ := rbA HO_248001 hb; have n5_ := rbA HO257 hb; have n6_ := bkA BK213 hb; have n7_ := bkA BK214 hb; have n8_ := bkA BK215 hb; have n9_ := bkA BK222 hb; have n10_ := bkA BK228 hb; have n11_ := bkA BK234 hb; have n12_ := bkA BK241 hb; have n13_ := bkA BK247 hb; have n14_ := bsA HB hb; have n15_ := Aside0.mk (hbox); have n16_ := szA HB hg; have n17_ := szA HB hg; have n18_ := neA BK213 hg; have n19_ := neB BK213 hg; have n20_ := neA BK214 hg; have n21_ := neB BK214 hg; have n22_ := neA BK215 hg; have n23_ := neB BK215 hg; have n24_ := neA BK222 hg; have n25_ := neB BK222 hg; have n26_ := neA BK228 hg; have n27_ := neB BK228 hg; have n28_ := neA BK234 hg; have n29_ := neB BK234 hg; have n30_ := neA BK241 hg; have n31_ := neB BK241 hg; have n32_ := neA BK247 hg; have n33_ := neB BK247 hg; clear HO_223001; clear HO_229001; clear HO_235001; clear HO_242001; clear HO_248001; clear HO257; clear BK213; clear BK214; clear BK215; clear BK222; clear BK228; clear BK234; clear BK241; clear BK247; clear HB; have HO_223001 := n0_; have HO_229001 := n1_; have HO_235001 := n2_; have HO_242001 := n3_; have HO_248001 := n4_; have HO257 := n5_; have BK213 := n6_; have BK214 := n7_; have BK215 := n8_; have BK222 := n9_; have BK228 := n10_; have BK234 := n11_; have BK241 := n12_; have BK247 := n13_; have HB := n14_; have BK259 := n15_; have GW259 := n16_; have GE259 := n17_; have NB213_259 := n18_; have NB259_213 := n19_; have NB214_259 := n20_; have NB259_214 := n21_; have NB215_259 := n22_; have NB259_215 := n23_; have NB222_259 := n24_; have NB259_222 := n25_; have NB228_259 := n26_; have NB259_228 := n27_; have NB234_259 := n28_; have NB259_234 := n29_; have NB241_259 := n30_; have NB259_241 := n31_; have NB247_259 := n32_; have NB259_247 := n33_; clear n0_ n1_ n2_ n3_ n4_ n5_ n6_ n7_ n8_ n9_ n10_ n11_ n12_ n13_ n14_ n15_ n16_ n17_ n18_ n19_ n20_ n21_ n22_ n23_ n24_ n25_ n26_ n27_ n28_ n29_ n30_ n31_ n32_ n33_; clear hb hbox hg; have hnb244 := NB259_213.out; have hnc244 := NB213_259.out; have hnb245 := NB259_214.out; have hnc245 := NB214_259.out; have hnb246 := NB259_215.out; have hnc246 := NB215_259.out; have hnb247 := NB259_222.out; have hnc247 := NB222_259.out; have hnb248 := NB259_228.out; have hnc248 := NB228_259.out; have hnb249 := NB259_234.out; have hnc249 := NB234_259.out; have hnb250 := NB259_241.out; have hnc250 := NB241_259.out; have hnb251 := NB259_247.out; have hnc251 := NB247_259.out; have hcz252_0 : w243.cell? ⟨gb259, 0, none⟩ = some (.int .i64 0) := (blk_cell BK259.out 0).trans rfl; have hcz252_1 : w243.cell? ⟨gb259, 1, none⟩ = some (.slice none 0 0) := (blk_cell BK259.out 1).trans rfl; have hfz252_0 := blk_frozen BK259.out 0; have hfz252_1 := blk_frozen BK259.out 1; obtain ⟨Ao253, co253, eo253⟩ := Kd.R_slice HO257.out; subst eo253; have hnb254 := NB213_214.out; have hnc254 := NB214_213.out; have hnb255 := NB213_222.out; have hnc255 := NB222_213.out; have hnb256 := NB213_228.out; have hnc256 := NB228_213.out; have hnb257 := NB213_241.out; have hnc257 := NB241_213.out; have hnb258 := NB213_247.out; have hnc258 := NB247_213.out; have hcz259_0 : w243.cell? ⟨gb213, 0, none⟩ = some (.int .i64 a0_0) := (blk_cell BK213.out 0).trans rfl; have hcz259_1 : w243.cell? ⟨gb213, 1, none⟩ = some (.slice A0_1 l0_1.length c0_1) := (blk_cell BK213.out 1).trans rfl; have hfz259_0 := blk_frozen BK213.out 0; have hfz259_1 := blk_frozen BK213.out 1; have hcz260_0 : w243.cell? ⟨gb215, 0, none⟩ = some (.int .i64 a2_0) := (blk_cell BK215.out 0).trans rfl; have hcz260_1 : w243.cell? ⟨gb215, 1, none⟩ = some (.slice A2_1 l2_1.length c2_1) := (blk_cell BK215.out 1).trans rfl; have hfz260_0 := blk_frozen BK215.out 0; have hfz260_1 := blk_frozen BK215.out 1) | ((with_reducible refine gate_callee (f := 25) rfl ?_); refine goesL_ (some 120) rfl rfl Try.func25 (by kernel_rfl) rfl #[.agg #[.int .i64 a0_0, .slice A0_1 l0_1.length c0_1], .agg #[.int .i64 a2_0, .slice A2_1 l2_1.length c2_1]] rfl (by (try simp only [List.map_toArray, List.map_cons, List.map_nil]); first | done | rfl | (simp only [List.length_drop, List.length_take]; rfl)) ?_; (with_reducible refine (rowset_And.calls kj61 a0_0 _ _ l0_1 a2_0 _ _ l2_1 t260 t261 t264 _ ?side1 ?side2 ?side3 ?side4 A133.out).mono ?_); (case side1 => exact Kd.C_below HR0_1.out (by repeat (first | (with_reducible first | exact HB.out | apply below_alloc | apply pw_below_drewN | apply below_drew1 | refine below_set ?_ GE213.out | refine below_set ?_ GE214.out | refine below_set ?_ GE215.out | refine below_set ?_ GE222.out | refine below_set ?_ GE228.out | refine below_set ?_ GE234.out | refine below_set ?_ GE241.out | refine below_set ?_ GE247.out | refine below_set ?_ GE259.out) | exact HB.out))); (case side2 => exact HC0_1.out); (case side3 => exact Kd.C_below HR2_1.out (by repeat (first | (with_reducible first | exact HB.out | apply below_alloc | apply pw_below_drewN | apply below_drew1 | refine below_set ?_ GE213.out | refine below_set ?_ GE214.out | refine below_set ?_ GE215.out | refine below_set ?_ GE222.out | refine below_set ?_ GE228.out | refine below_set ?_ GE234.out | refine below_set ?_ GE241.out | refine below_set ?_ GE247.out | refine below_set ?_ GE259.out) | exact HB.out))); (case side4 => exact HC2_1.out); rintro e w261 ⟨v262, rfl, ho0, hb⟩; refine ⟨_, rfl, ?_⟩; have n0_ := Aside0.mk (Kd.R_elder' (by (with_reducible repeat (first | apply Kd.R_alloc | apply Kd.R_drewN | apply Kd.R_drew)); exact (Kd.R_mono (Kd.R_far (p := ⟨gb259, 1, none⟩) (Kd.R_far (p := ⟨gb259, 0, none⟩) (Kd.R_types HO_223001.out BK259.out (by decide)) (fun _ hk => hk.2) (.int .i64 t254)) (fun _ hk => hk.2) (.slice Ao253 t255.length co253)) (fun _ h_ => h_.1))) (Kd.R_base ho0) hb); have n1_ := Aside0.mk (Kd.R_elder' (by (with_reducible repeat (first | apply Kd.R_alloc | apply Kd.R_drewN | apply Kd.R_drew)); exact (Kd.R_mono (Kd.R_far (p := ⟨gb259, 1, none⟩) (Kd.R_far (p := ⟨gb259, 0, none⟩) (Kd.R_types HO_229001.out BK259.out (by decide)) (fun _ hk => hk.2) (.int .i64 t254)) (fun _ hk => hk.2) (.slice Ao253 t255.length co253)) (fun _ h_ => h_.1))) (Kd.R_base ho0) hb); have n2_ := Aside0.mk (Kd.R_elder' (by (with_reducible repeat (first | apply Kd.R_alloc | apply Kd.R_drewN | apply Kd.R_drew)); exact (Kd.R_mono (Kd.R_far (p := ⟨gb259, 1, none⟩) (Kd.R_far (p := ⟨gb259, 0, none⟩) (Kd.R_types HO_235001.out BK259.out (by decide)) (fun _ hk => hk.2) (.int .i64 t254)) (fun _ hk => hk.2) (.slice Ao253 t255.length co253)) (fun _ h_ => h_.1))) (Kd.R_base ho0) hb); have n3_ := Aside0.mk (Kd.R_elder' (by (with_reducible repeat (first | apply Kd.R_alloc | apply Kd.R_drewN | apply Kd.R_drew)); exact (Kd.R_mono (Kd.R_far (p := ⟨gb259, 1, none⟩) (Kd.R_far (p := ⟨gb259, 0, none⟩) (Kd.R_types HO_242001.out BK259.out (by decide)) (fun _ hk => hk.2) (.int .i64 t254)) (fun _ hk => hk.2) (.slice Ao253 t255.length co253)) (fun _ h_ => h_.1))) (Kd.R_base ho0) hb); have n4_ := Aside0.mk (Kd.R_elder' (by (with_reducible repeat (first | apply Kd.R_alloc | apply Kd.R_drewN | apply Kd.R_drew)); exact (Kd.R_mono (Kd.R_far (p := ⟨gb259, 1, none⟩) (Kd.R_far (p := ⟨gb259, 0, none⟩) (Kd.R_types HO_248001.out BK259.out (by decide)) (fun _ hk => hk.2) (.int .i64 t254)) (fun _ hk => hk.2) (.slice Ao253 t255.length co253)) (fun _ h_ => h_.1))) (Kd.R_base ho0) hb); have n5_ := Aside0.mk (Kd.R_elder' (by (with_reducible repeat (first | apply Kd.R_alloc | apply Kd.R_drewN | apply Kd.R_drew)); exact (Kd.R_mono (Kd.R_far (p := ⟨gb259, 1, none⟩) (Kd.R_far (p := ⟨gb259, 0, none⟩) (Kd.R_types HO257.out BK259.out (by decide)) (fun _ hk => hk.2) (.int .i64 t254)) (fun _ hk => hk.2) (.slice Ao253 t255.length co253)) (fun _ h_ => h_.1))) (Kd.R_base ho0) hb); have n6_ := Aside0.mk (Kd.R_lower (Kd.R_new' (Kd.R_new' (Kd.R_new' (Kd.R_new' (Kd.R_new' (Kd.R_new' ho0 (Kd.R_lt (by (with_reducible repeat (first | apply Kd.R_alloc | apply Kd.R_drewN | apply Kd.R_drew)); exact (Kd.R_mono (Kd.R_far (p := ⟨gb259, 1, none⟩) (Kd.R_far (p := ⟨gb259, 0, none⟩) (Kd.R_types HO_223001.out BK259.out (by decide)) (fun _ hk => hk.2) (.int .i64 t254)) (fun _ hk => hk.2) (.slice Ao253 t255.length co253)) (fun _ h_ => h_.1))))) (Kd.R_lt (by (with_reducible repeat (first | apply Kd.R_alloc | apply Kd.R_drewN | apply Kd.R_drew)); exact (Kd.R_mono (Kd.R_far (p := ⟨gb259, 1, none⟩) (Kd.R_far (p := ⟨gb259, 0, none⟩) (Kd.R_types HO_229001.out BK259.out (by decide)) (fun _ hk => hk.2) (.int .i64 t254)) (fun _ hk => hk.2) (.slice Ao253 t255.length co253)) (fun _ h_ => h_.1))))) (Kd.R_lt (by (with_reducible repeat (first | apply Kd.R_alloc | apply Kd.R_drewN | apply Kd.R_drew)); exact (Kd.R_mono (Kd.R_far (p := ⟨gb259, 1, none⟩) (Kd.R_far (p := ⟨gb259, 0, none⟩) (Kd.R_types HO_235001.out BK259.out (by decide)) (fun _ hk => hk.2) (.int .i64 t254)) (fun _ hk => hk.2) (.slice Ao253 t255.length co253)) (fun _ h_ => h_.1))))) (Kd.R_lt (by (with_reducible repeat (first | apply Kd.R_alloc | apply Kd.R_drewN | apply Kd.R_drew)); exact (Kd.R_mono (Kd.R_far (p := ⟨gb259, 1, none⟩) (Kd.R_far (p := ⟨gb259, 0, none⟩) (Kd.R_types HO_242001.out BK259.out (by decide)) (fun _ hk => hk.2) (.int .i64 t254)) (fun _ hk => hk.2) (.slice Ao253 t255.length co253)) (fun _ h_ => h_.1))))) (Kd.R_lt (by (with_reducible repeat (first | apply Kd.R_alloc | apply Kd.R_drewN | apply Kd.R_drew)); exact (Kd.R_mono (Kd.R_far (p := ⟨gb259, 1, none⟩) (Kd.R_far (p := ⟨gb259, 0, none⟩) (Kd.R_types HO_248001.out BK259.out (by decide)) (fun _ hk => hk.2) (.int .i64 t254)) (fun _ hk => hk.2) (.slice Ao253 t255.length co253)) (fun _ h_ => h_.1))))) (Kd.R_lt (by (with_reducible repeat (first | apply Kd.R_alloc | apply Kd.R_drewN | apply Kd.R_drew)); exact (Kd.R_mono (Kd.R_far (p := ⟨gb259, 1, none⟩) (Kd.R_far (p := ⟨gb259, 0, none⟩) (Kd.R_types HO257.out BK259.out (by decide)) (fun _ hk => hk.2) (.int .i64 t254)) (fun _ hk => hk.2) (.slice Ao253 t255.length co253)) (fun _ h_ => h_.1))))) (below_size (by repeat (first | (with_reducible first | exact HB.out | apply below_alloc | apply pw_below_drewN | apply below_drew1 | refine below_set ?_ GE213.out | refine below_set ?_ GE214.out | refine below_set ?_ GE215.out | refine below_set ?_ GE222.out | refine below_set ?_ GE228.out | refine below_set ?_ GE234.out | refine below_set ?_ GE241.out | refine below_set ?_ GE247.out | refine below_set ?_ GE259.out) | exact HB.out)))); have n7_ := bkA BK213 hb; have n8_ := bkA BK214 hb; have n9_ := bkA BK215 hb; have n10_ := bkA BK222 hb; have n11_ := bkA BK228 hb; have n12_ := bkA BK234 hb; have n13_ := bkA BK241 hb; have n14_ := bkA BK247 hb; have n15_ := Aside0.mk (blk_below (g := gb259) (o := .cells #[.int .i64 t254, .slice Ao253 t255.length co253] 38 (0, 0)) (by (with_reducible repeat (first | refine blk_drewN ?_ _ | refine blk_drew ?_ | refine blk_alloc ?_ _)); refine blk_put (cs := #[.int .i64 t254, .slice none 0 0]) ?_ 1 _ rfl; (with_reducible repeat (first | refine blk_drewN ?_ _ | refine blk_drew ?_ | refine blk_alloc ?_ _)); refine blk_put (cs := #[.int .i64 0, .slice none 0 0]) ?_ 0 _ rfl; (with_reducible repeat (first | refine blk_drewN ?_ _ | refine blk_drew ?_ | refine blk_alloc ?_ _)); exact BK259.out) hb); have n16_ := bsA HB hb; clear HO_223001; clear HO_229001; clear HO_235001; clear HO_242001; clear HO_248001; clear HO257; clear BK213; clear BK214; clear BK215; clear BK222; clear BK228; clear BK234; clear BK241; clear BK247; clear BK259; clear HB; have HO_223001 := n0_; have HO_229001 := n1_; have HO_235001 := n2_; have HO_242001 := n3_; have HO_248001 := n4_; have HO257 := n5_; have HO263 := n6_; have BK213 := n7_; have BK214 := n8_; have BK215 := n9_; have BK222 := n10_; have BK228 := n11_; have BK234 := n12_; have BK241 := n13_; have BK247 := n14_; have BK259 := n15_; have HB := n16_; clear n0_ n1_ n2_ n3_ n4_ n5_ n6_ n7_ n8_ n9_ n10_ n11_ n12_ n13_ n14_ n15_ n16_; (try clear hb); (try clear hb2); (try clear hk); (try clear hi); (try clear ho0)) | ((with_reducible refine gate_dst (N := 19) rfl ?_); refine box_event ?hg (N := 19) ?hd (cs := #[.int .i64 0, .slice none 0 0]) (t := 38) ?hr ?_; (case hd => rfl); (case hg => rfl); (case hr => first | (go_simp; done) | (go_simp; rfl)); intro gb265 hg w262 hbox hb; have n0_ := rbA HO_223001 hb; have n1_ := rbA HO_229001 hb; have n2_ := rbA HO_235001 hb; have n3_ := rbA HO_242001 hb; have n4_ := rbA HO_248001 hb; have n5_ := rbA HO257 hb; have n6_ := rbA HO263 hb; have n7_ := bkA BK213 hb; have n8_ := bkA BK214 hb; have n9_ := bkA BK215 hb; have n10_ := bkA BK222 hb; have n11_ := bkA BK228 hb; have n12_ := bkA BK234 hb; have n13_ := bkA BK241 hb; have n14_ := bkA BK247 hb; have n15_ := bkA BK259 hb; have n16_ := bsA HB hb; have n17_ := Aside0.mk (hbox); have n18_ := szA HB hg; have n19_ := szA HB hg; have n20_ := neA BK213 hg; have n21_ := neB BK213 hg; have n22_ := neA BK214 hg; have n23_ := neB BK214 hg; have n24_ := neA BK215 hg; have n25_ := neB BK215 hg; have n26_ := neA BK222 hg; have n27_ := neB BK222 hg; have n28_ := neA BK228 hg; have n29_ := neB BK228 hg; have n30_ := neA BK234 hg; have n31_ := neB BK234 hg; have n32_ := neA BK241 hg; have n33_ := neB BK241 hg; have n34_ := neA BK247 hg; have n35_ := neB BK247 hg; have n36_ := neA BK259 hg; have n37_ := neB BK259 hg; clear HO_223001; clear HO_229001; clear HO_235001; clear HO_242001; clear HO_248001; clear HO257; clear HO263; clear BK213; clear BK214; clear BK215; clear BK222; clear BK228; clear BK234; clear BK241; clear BK247; clear BK259; clear HB; have HO_223001 := n0_; have HO_229001 := n1_; have HO_235001 := n2_; have HO_242001 := n3_; have HO_248001 := n4_; have HO257 := n5_; have HO263 := n6_; have BK213 := n7_; have BK214 := n8_; have BK215 := n9_; have BK222 := n10_; have BK228 := n11_; have BK234 := n12_; have BK241 := n13_; have BK247 := n14_; have BK259 := n15_; have HB := n16_; have BK265 := n17_; have GW265 := n18_; have GE265 := n19_; have NB213_265 := n20_; have NB265_213 := n21_; have NB214_265 := n22_; have NB265_214 := n23_; have NB215_265 := n24_; have NB265_215 := n25_; have NB222_265 := n26_; have NB265_222 := n27_; have NB228_265 := n28_; have NB265_228 := n29_; have NB234_265 := n30_; have NB265_234 := n31_; have NB241_265 := n32_; have NB265_241 := n33_; have NB247_265 := n34_; have NB265_247 := n35_; have NB259_265 := n36_; have NB265_259 := n37_; clear n0_ n1_ n2_ n3_ n4_ n5_ n6_ n7_ n8_ n9_ n10_ n11_ n12_ n13_ n14_ n15_ n16_ n17_ n18_ n19_ n20_ n21_ n22_ n23_ n24_ n25_ n26_ n27_ n28_ n29_ n30_ n31_ n32_ n33_ n34_ n35_ n36_ n37_; clear hb hbox hg; have hnb263 := NB265_213.out; have hnc263 := NB213_265.out; have hnb264 := NB265_214.out; have hnc264 := NB214_265.out; have hnb265 := NB265_215.out; have hnc265 := NB215_265.out; have hnb266 := NB265_222.out; have hnc266 := NB222_265.out; have hnb267 := NB265_228.out; have hnc267 := NB228_265.out; have hnb268 := NB265_234.out; have hnc268 := NB234_265.out; have hnb269 := NB265_241.out; have hnc269 := NB241_265.out; have hnb270 := NB265_247.out; have hnc270 := NB247_265.out; have hnb271 := NB265_259.out; have hnc271 := NB259_265.out; have hcz272_0 : w262.cell? ⟨gb265, 0, none⟩ = some (.int .i64 0) := (blk_cell BK265.out 0).trans rfl; have hcz272_1 : w262.cell? ⟨gb265, 1, none⟩ = some (.slice none 0 0) := (blk_cell BK265.out 1).trans rfl; have hfz272_0 := blk_frozen BK265.out 0; have hfz272_1 := blk_frozen BK265.out 1; obtain ⟨Ao273, co273, eo273⟩ := Kd.R_slice HO263.out; subst eo273; have hnb274 := NB214_222.out; have hnc274 := NB222_214.out; have hnb275 := NB214_228.out; have hnc275 := NB228_214.out; have hnb276 := NB214_241.out; have hnc276 := NB241_214.out; have hnb277 := NB214_247.out; have hnc277 := NB247_214.out; have hcz278_0 : w262.cell? ⟨gb214, 0, none⟩ = some (.int .i64 a1_0) := (blk_cell BK214.out 0).trans rfl; have hcz278_1 : w262.cell? ⟨gb214, 1, none⟩ = some (.slice A1_1 l1_1.length c1_1) := (blk_cell BK214.out 1).trans rfl; have hfz278_0 := blk_frozen BK214.out 0; have hfz278_1 := blk_frozen BK214.out 1; have hcz279_0 : w262.cell? ⟨gb215, 0, none⟩ = some (.int .i64 a2_0) := (blk_cell BK215.out 0).trans rfl; have hcz279_1 : w262.cell? ⟨gb215, 1, none⟩ = some (.slice A2_1 l2_1.length c2_1) := (blk_cell BK215.out 1).trans rfl; have hfz279_0 := blk_frozen BK215.out 0; have hfz279_1 := blk_frozen BK215.out 1) | ((with_reducible refine gate_callee (f := 25) rfl ?_); refine goesL_ (some 126) rfl rfl Try.func25 (by kernel_rfl) rfl #[.agg #[.int .i64 a1_0, .slice A1_1 l1_1.length c1_1], .agg #[.int .i64 a2_0, .slice A2_1 l2_1.length c2_1]] rfl (by (try simp only [List.map_toArray, List.map_cons, List.map_nil]); first | done | rfl | (simp only [List.length_drop, List.length_take]; rfl)) ?_; (with_reducible refine (rowset_And.calls kj61 a1_0 _ _ l1_1 a2_0 _ _ l2_1 t266 t267 t270 _ ?side1 ?side2 ?side3 ?side4 A134.out).mono ?_); (case side1 => exact Kd.C_below HR1_1.out (by repeat (first | (with_reducible first | exact HB.out | apply below_alloc | apply pw_below_drewN | apply below_drew1 | refine below_set ?_ GE213.out | refine below_set ?_ GE214.out | refine below_set ?_ GE215.out | refine below_set ?_ GE222.out | refine below_set ?_ GE228.out | refine below_set ?_ GE234.out | refine below_set ?_ GE241.out | refine below_set ?_ GE247.out | refine below_set ?_ GE259.out | refine below_set ?_ GE265.out) | exact HB.out))); (case side2 => exact HC1_1.out); (case side3 => exact Kd.C_below HR2_1.out (by repeat (first | (with_reducible first | exact HB.out | apply below_alloc | apply pw_below_drewN | apply below_drew1 | refine below_set ?_ GE213.out | refine below_set ?_ GE214.out | refine below_set ?_ GE215.out | refine below_set ?_ GE222.out | refine below_set ?_ GE228.out | refine below_set ?_ GE234.out | refine below_set ?_ GE241.out | refine below_set ?_ GE247.out | refine below_set ?_ GE259.out | refine below_set ?_ GE265.out) | exact HB.out))); (case side4 => exact HC2_1.out); rintro e w280 ⟨v268, rfl, ho0, hb⟩; refine ⟨_, rfl, ?_⟩; have n0_ := Aside0.mk (Kd.R_elder' (by (with_reducible repeat (first | apply Kd.R_alloc | apply Kd.R_drewN | apply Kd.R_drew)); exact (Kd.R_mono (Kd.R_far (p := ⟨gb265, 1, none⟩) (Kd.R_far (p := ⟨gb265, 0, none⟩) (Kd.R_types HO_223001.out BK265.out (by decide)) (fun _ hk => hk.2) (.int .i64 t260)) (fun _ hk => hk.2) (.slice Ao273 t261.length co273)) (fun _ h_ => h_.1))) (Kd.R_base ho0) hb); have n1_ := Aside0.mk (Kd.R_elder' (by (with_reducible repeat (first | apply Kd.R_alloc | apply Kd.R_drewN | apply Kd.R_drew)); exact (Kd.R_mono (Kd.R_far (p := ⟨gb265, 1, none⟩) (Kd.R_far (p := ⟨gb265, 0, none⟩) (Kd.R_types HO_229001.out BK265.out (by decide)) (fun _ hk => hk.2) (.int .i64 t260)) (fun _ hk => hk.2) (.slice Ao273 t261.length co273)) (fun _ h_ => h_.1))) (Kd.R_base ho0) hb); have n2_ := Aside0.mk (Kd.R_elder' (by (with_reducible repeat (first | apply Kd.R_alloc | apply Kd.R_drewN | apply Kd.R_drew)); exact (Kd.R_mono (Kd.R_far (p := ⟨gb265, 1, none⟩) (Kd.R_far (p := ⟨gb265, 0, none⟩) (Kd.R_types HO_235001.out BK265.out (by decide)) (fun _ hk => hk.2) (.int .i64 t260)) (fun _ hk => hk.2) (.slice Ao273 t261.length co273)) (fun _ h_ => h_.1))) (Kd.R_base ho0) hb); have n3_ := Aside0.mk (Kd.R_elder' (by (with_reducible repeat (first | apply Kd.R_alloc | apply Kd.R_drewN | apply Kd.R_drew)); exact (Kd.R_mono (Kd.R_far (p := ⟨gb265, 1, none⟩) (Kd.R_far (p := ⟨gb265, 0, none⟩) (Kd.R_types HO_242001.out BK265.out (by decide)) (fun _ hk => hk.2) (.int .i64 t260)) (fun _ hk => hk.2) (.slice Ao273 t261.length co273)) (fun _ h_ => h_.1))) (Kd.R_base ho0) hb); have n4_ := Aside0.mk (Kd.R_elder' (by (with_reducible repeat (first | apply Kd.R_alloc | apply Kd.R_drewN | apply Kd.R_drew)); exact (Kd.R_mono (Kd.R_far (p := ⟨gb265, 1, none⟩) (Kd.R_far (p := ⟨gb265, 0, none⟩) (Kd.R_types HO_248001.out BK265.out (by decide)) (fun _ hk => hk.2) (.int .i64 t260)) (fun _ hk => hk.2) (.slice Ao273 t261.length co273)) (fun _ h_ => h_.1))) (Kd.R_base ho0) hb); have n5_ := Aside0.mk (Kd.R_elder' (by (with_reducible repeat (first | apply Kd.R_alloc | apply Kd.R_drewN | apply Kd.R_drew)); exact (Kd.R_mono (Kd.R_far (p := ⟨gb265, 1, none⟩) (Kd.R_far (p := ⟨gb265, 0, none⟩) (Kd.R_types HO257.out BK265.out (by decide)) (fun _ hk => hk.2) (.int .i64 t260)) (fun _ hk => hk.2) (.slice Ao273 t261.length co273)) (fun _ h_ => h_.1))) (Kd.R_base ho0) hb); have n6_ := Aside0.mk (Kd.R_elder' (by (with_reducible repeat (first | apply Kd.R_alloc | apply Kd.R_drewN | apply Kd.R_drew)); exact (Kd.R_mono (Kd.R_far (p := ⟨gb265, 1, none⟩) (Kd.R_far (p := ⟨gb265, 0, none⟩) (Kd.R_types HO263.out BK265.out (by decide)) (fun _ hk => hk.2) (.int .i64 t260)) (fun _ hk => hk.2) (.slice Ao273 t261.length co273)) (fun _ h_ => h_.1))) (Kd.R_base ho0) hb); have n7_ := Aside0.mk (Kd.R_lower (Kd.R_new' (Kd.R_new' (Kd.R_new' (Kd.R_new' (Kd.R_new' (Kd.R_new' (Kd.R_new' ho0 (Kd.R_lt (by (with_reducible repeat (first | apply Kd.R_alloc | apply Kd.R_drewN | apply Kd.R_drew)); exact (Kd.R_mono (Kd.R_far (p := ⟨gb265, 1, none⟩) (Kd.R_far (p := ⟨gb265, 0, none⟩) (Kd.R_types HO_223001.out BK265.out (by decide)) (fun _ hk => hk.2) (.int .i64 t260)) (fun _ hk => hk.2) (.slice Ao273 t261.length co273)) (fun _ h_ => h_.1))))) (Kd.R_lt (by (with_reducible repeat (first | apply Kd.R_alloc | apply Kd.R_drewN | apply Kd.R_drew)); exact (Kd.R_mono (Kd.R_far (p := ⟨gb265, 1, none⟩) (Kd.R_far (p := ⟨gb265, 0, none⟩) (Kd.R_types HO_229001.out BK265.out (by decide)) (fun _ hk => hk.2) (.int .i64 t260)) (fun _ hk => hk.2) (.slice Ao273 t261.length co273)) (fun _ h_ => h_.1))))) (Kd.R_lt (by (with_reducible repeat (first | apply Kd.R_alloc | apply Kd.R_drewN | apply Kd.R_drew)); exact (Kd.R_mono (Kd.R_far (p := ⟨gb265, 1, none⟩) (Kd.R_far (p := ⟨gb265, 0, none⟩) (Kd.R_types HO_235001.out BK265.out (by decide)) (fun _ hk => hk.2) (.int .i64 t260)) (fun _ hk => hk.2) (.slice Ao273 t261.length co273)) (fun _ h_ => h_.1))))) (Kd.R_lt (by (with_reducible repeat (first | apply Kd.R_alloc | apply Kd.R_drewN | apply Kd.R_drew)); exact (Kd.R_mono (Kd.R_far (p := ⟨gb265, 1, none⟩) (Kd.R_far (p := ⟨gb265, 0, none⟩) (Kd.R_types HO_242001.out BK265.out (by decide)) (fun _ hk => hk.2) (.int .i64 t260)) (fun _ hk => hk.2) (.slice Ao273 t261.length co273)) (fun _ h_ => h_.1))))) (Kd.R_lt (by (with_reducible repeat (first | apply Kd.R_alloc | apply Kd.R_drewN | apply Kd.R_drew)); exact (Kd.R_mono (Kd.R_far (p := ⟨gb265, 1, none⟩) (Kd.R_far (p := ⟨gb265, 0, none⟩) (Kd.R_types HO_248001.out BK265.out (by decide)) (fun _ hk => hk.2) (.int .i64 t260)) (fun _ hk => hk.2) (.slice Ao273 t261.length co273)) (fun _ h_ => h_.1))))) (Kd.R_lt (by (with_reducible repeat (first | apply Kd.R_alloc | apply Kd.R_drewN | apply Kd.R_drew)); exact (Kd.R_mono (Kd.R_far (p := ⟨gb265, 1, none⟩) (Kd.R_far (p := ⟨gb265, 0, none⟩) (Kd.R_types HO257.out BK265.out (by decide)) (fun _ hk => hk.2) (.int .i64 t260)) (fun _ hk => hk.2) (.slice Ao273 t261.length co273)) (fun _ h_ => h_.1))))) (Kd.R_lt (by (with_reducible repeat (first | apply Kd.R_alloc | apply Kd.R_drewN | apply Kd.R_drew)); exact (Kd.R_mono (Kd.R_far (p := ⟨gb265, 1, none⟩) (Kd.R_far (p := ⟨gb265, 0, none⟩) (Kd.R_types HO263.out BK265.out (by decide)) (fun _ hk => hk.2) (.int .i64 t260)) (fun _ hk => hk.2) (.slice Ao273 t261.length co273)) (fun _ h_ => h_.1))))) (below_size (by repeat (first | (with_reducible first | exact HB.out | apply below_alloc | apply pw_below_drewN | apply below_drew1 | refine below_set ?_ GE213.out | refine below_set ?_ GE214.out | refine below_set ?_ GE215.out | refine below_set ?_ GE222.out | refine below_set ?_ GE228.out | refine below_set ?_ GE234.out | refine below_set ?_ GE241.out | refine below_set ?_ GE247.out | refine below_set ?_ GE259.out | refine below_set ?_ GE265.out) | exact HB.out)))); have n8_ := bkA BK213 hb; have n9_ := bkA BK214 hb; have n10_ := bkA BK215 hb; have n11_ := bkA BK222 hb; have n12_ := bkA BK228 hb; have n13_ := bkA BK234 hb; have n14_ := bkA BK241 hb; have n15_ := bkA BK247 hb; have n16_ := bkA BK259 hb; have n17_ := Aside0.mk (blk_below (g := gb265) (o := .cells #[.int .i64 t260, .slice Ao273 t261.length co273] 38 (0, 0)) (by (with_reducible repeat (first | refine blk_drewN ?_ _ | refine blk_drew ?_ | refine blk_alloc ?_ _)); refine blk_put (cs := #[.int .i64 t260, .slice none 0 0]) ?_ 1 _ rfl; (with_reducible repeat (first | refine blk_drewN ?_ _ | refine blk_drew ?_ | refine blk_alloc ?_ _)); refine blk_put (cs := #[.int .i64 0, .slice none 0 0]) ?_ 0 _ rfl; (with_reducible repeat (first | refine blk_drewN ?_ _ | refine blk_drew ?_ | refine blk_alloc ?_ _)); exact BK265.out) hb); have n18_ := bsA HB hb; clear HO_223001; clear HO_229001; clear HO_235001; clear HO_242001; clear HO_248001; clear HO257; clear HO263; clear BK213; clear BK214; clear BK215; clear BK222; clear BK228; clear BK234; clear BK241; clear BK247; clear BK259; clear BK265; clear HB; have HO_223001 := n0_; have HO_229001 := n1_; have HO_235001 := n2_; have HO_242001 := n3_; have HO_248001 := n4_; have HO257 := n5_; have HO263 := n6_; have HO269 := n7_; have BK213 := n8_; have BK214 := n9_; have BK215 := n10_; have BK222 := n11_; have BK228 := n12_; have BK234 := n13_; have BK241 := n14_; have BK247 := n15_; have BK259 := n16_; have BK265 := n17_; have HB := n18_; clear n0_ n1_ n2_ n3_ n4_ n5_ n6_ n7_ n8_ n9_ n10_ n11_ n12_ n13_ n14_ n15_ n16_ n17_ n18_; (try clear hb); (try clear hb2); (try clear hk); (try clear hi); (try clear ho0)) | ((with_reducible refine gate_dst (N := 21) rfl ?_); refine box_event ?hg (N := 21) ?hd (cs := #[.int .i64 0, .slice none 0 0]) (t := 38) ?hr ?_; (case hd => rfl); (case hg => rfl); (case hr => first | (go_simp; done) | (go_simp; rfl)); intro gb271 hg w281 hbox hb; have n0_ := rbA HO_223001 hb; have n1_ := rbA HO_229001 hb; have n2_ := rbA HO_235001 hb; have n3_ := rbA HO_242001 hb; have n4_ := rbA HO_248001 hb; have n5_ := rbA HO257 hb; have n6_ := rbA HO263 hb; have n7_ := rbA HO269 hb; have n8_ := bkA BK213 hb; have n9_ := bkA BK214 hb; have n10_ := bkA BK215 hb; have n11_ := bkA BK222 hb; have n12_ := bkA BK228 hb; have n13_ := bkA BK234 hb; have n14_ := bkA BK241 hb; have n15_ := bkA BK247 hb; have n16_ := bkA BK259 hb; have n17_ := bkA BK265 hb; have n18_ := bsA HB hb; have n19_ := Aside0.mk (hbox); have n20_ := szA HB hg; have n21_ := szA HB hg; have n22_ := neA BK213 hg; have n23_ := neB BK213 hg; have n24_ := neA BK214 hg; have n25_ := neB BK214 hg; have n26_ := neA BK215 hg; have n27_ := neB BK215 hg; have n28_ := neA BK222 hg; have n29_ := neB BK222 hg; have n30_ := neA BK228 hg; have n31_ := neB BK228 hg; have n32_ := neA BK234 hg; have n33_ := neB BK234 hg; have n34_ := neA BK241 hg; have n35_ := neB BK241 hg; have n36_ := neA BK247 hg; have n37_ := neB BK247 hg; have n38_ := neA BK259 hg; have n39_ := neB BK259 hg; have n40_ := neA BK265 hg; have n41_ := neB BK265 hg; clear HO_223001; clear HO_229001; clear HO_235001; clear HO_242001; clear HO_248001; clear HO257; clear HO263; clear HO269; clear BK213; clear BK214; clear BK215; clear BK222; clear BK228; clear BK234; clear BK241; clear BK247; clear BK259; clear BK265; clear HB; have HO_223001 := n0_; have HO_229001 := n1_; have HO_235001 := n2_; have HO_242001 := n3_; have HO_248001 := n4_; have HO257 := n5_; have HO263 := n6_; have HO269 := n7_; have BK213 := n8_; have BK214 := n9_; have BK215 := n10_; have BK222 := n11_; have BK228 := n12_; have BK234 := n13_; have BK241 := n14_; have BK247 := n15_; have BK259 := n16_; have BK265 := n17_; have HB := n18_; have BK271 := n19_; have GW271 := n20_; have GE271 := n21_; have NB213_271 := n22_; have NB271_213 := n23_; have NB214_271 := n24_; have NB271_214 := n25_; have NB215_271 := n26_; have NB271_215 := n27_; have NB222_271 := n28_; have NB271_222 := n29_; have NB228_271 := n30_; have NB271_228 := n31_; have NB234_271 := n32_; have NB271_234 := n33_; have NB241_271 := n34_; have NB271_241 := n35_; have NB247_271 := n36_; have NB271_247 := n37_; have NB259_271 := n38_; have NB271_259 := n39_; have NB265_271 := n40_; have NB271_265 := n41_; clear n0_ n1_ n2_ n3_ n4_ n5_ n6_ n7_ n8_ n9_ n10_ n11_ n12_ n13_ n14_ n15_ n16_ n17_ n18_ n19_ n20_ n21_ n22_ n23_ n24_ n25_ n26_ n27_ n28_ n29_ n30_ n31_ n32_ n33_ n34_ n35_ n36_ n37_ n38_ n39_ n40_ n41_; clear hb hbox hg; have hnb282 := NB271_213.out; have hnc282 := NB213_271.out; have hnb283 := NB271_214.out; have hnc283 := NB214_271.out; have hnb284 := NB271_215.out; have hnc284 := NB215_271.out; have hnb285 := NB271_222.out; have hnc285 := NB222_271.out; have hnb286 := NB271_228.out; have hnc286 := NB228_271.out; have hnb287 := NB271_234.out; have hnc287 := NB234_271.out; have hnb288 := NB271_241.out; have hnc288 := NB241_271.out; have hnb289 := NB271_247.out; have hnc289 := NB247_271.out; have hnb290 := NB271_259.out; have hnc290 := NB259_271.out; have hnb291 := NB271_265.out; have hnc291 := NB265_271.out; have hcz292_0 : w281.cell? ⟨gb271, 0, none⟩ = some (.int .i64 0) := (blk_cell BK271.out 0).trans rfl; have hcz292_1 : w281.cell? ⟨gb271, 1, none⟩ = some (.slice none 0 0) := (blk_cell BK271.out 1).trans rfl; have hfz292_0 := blk_frozen BK271.out 0; have hfz292_1 := blk_frozen BK271.out 1; obtain ⟨Ao293, co293, eo293⟩ := Kd.R_slice HO269.out; subst eo293))
          go_ret
          exact ⟨by first | rfl | (simp [errW_none, errW_some] <;> rfl) | (simp [*, errW_none, errW_some] <;> rfl), by repeat (first | (with_reducible first | exact HB.out | apply below_alloc | apply pw_below_drewN | apply below_drew1 | refine below_set ?_ GE213.out | refine below_set ?_ GE214.out | refine below_set ?_ GE215.out | refine below_set ?_ GE222.out | refine below_set ?_ GE228.out | refine below_set ?_ GE234.out | refine below_set ?_ GE241.out | refine below_set ?_ GE247.out | refine below_set ?_ GE259.out | refine below_set ?_ GE265.out | refine below_set ?_ GE271.out) | exact HB.out)⟩
         ·rw [if_neg c226] at H
          have c226b0 : (t264 == t258) = false := beq_eq_false_iff_ne.mpr c226
          have c226b1 : (t264 != t258) = true := bne_iff_ne.mpr c226
          exact absurd H (by simp)
 ·replace c5 := Bool.eq_false_iff.mpr c5
  subst c5
  have H1 : (some false) = some true := by rw [if_neg (show ¬ (false = true) by decide)] at H; exact H
  clear H
  have H := H1
  clear H1
  exact absurd H (by simp)

end Go.Proofs.Ytiaaicmkpjlplaa.P
