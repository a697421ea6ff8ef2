-- Written by a program of this session (wip/tools/tp.py: the kit's printer, turned to take functions that were proved by hand). Lean checks it.
import Derived.Test.YtiaaicmkpjlplaaP0
import Derived.Test.YtiaaicmkpjlplaaP2
import Derived.Test.YtiaaicmkpjlplaaP3
import Derived.Test.YtiaaicmkpjlplaaP4
import Derived.Test.YtiaaicmkpjlplaaP5
import Derived.Test.YtiaaicmkpjlplaaP8
namespace Go.Proofs.Ytiaaicmkpjlplaa.P
open Go.RowKit Go.Proofs.YtiaaicmkpjlplaaW.PrintWords Go.Proofs.YtiaaicmkpjlplaaW.PrintLast Go.Proofs.YtiaaicmkpjlplaaW.PrintMore
attribute [local go_sem] max2_int min2_int max_two min_two max_three min_three max_four min_four   -- for this text's walks alone
set_option linter.unusedVariables false
set_option linter.unusedSimpArgs false

-- LEVEL 0
/-! ### dragnetlaw09_RowsetJoins: function 5 -/
def dragnetlaw09_RowsetJoins.f (k : Nat) (a0_0 : Int) (l0_1 : List Int) (a1_0 : Int) (l1_1 : List Int) : Option (Bool) := (dragnetlaw09_alive.f k).bind fun t276 => (if t276 = true then ((dragnetref09_Copy.f a0_0 l0_1).bind fun bt277 => ((dragnetref09_Copy.f a1_0 l1_1).bind fun bt281 => ((rowset_And.f k bt277.1 bt277.2 bt281.1 bt281.2).bind fun bt287 => ((rowset_Or.f k bt277.1 bt277.2 bt281.1 bt281.2).bind fun bt293 => ((rowset_Minus.f k bt277.1 bt277.2 bt281.1 bt281.2).bind fun bt299 => ((dragnetref09_Join.f k 0 a0_0 l0_1 a1_0 l1_1).bind fun bt305 => ((dragnetref09_Join.f k 1 a0_0 l0_1 a1_0 l1_1).bind fun bt311 => ((dragnetref09_Join.f k 2 a0_0 l0_1 a1_0 l1_1).bind fun bt317 => ((dragnetref09_Same.f k bt287.1 bt287.2.1 bt305.1 bt305.2.1).bind fun t323 => (if t323 = true then (if bt287.2.2 = bt305.2.2 then ((dragnetref09_Same.f k bt293.1 bt293.2.1 bt311.1 bt311.2.1).bind fun t324 => (if t324 = true then (if bt293.2.2 = bt311.2.2 then ((dragnetref09_Same.f k bt299.1 bt299.2.1 bt317.1 bt317.2.1).bind fun t325 => (if t325 = true then (if bt299.2.2 = bt317.2.2 then ((dragnetref09_Same.f k bt277.1 bt277.2 a0_0 l0_1).bind fun t326 => (if t326 = true then ((dragnetref09_Same.f k bt281.1 bt281.2 a1_0 l1_1).bind fun t327 => (some t327)) else (some false))) else (some false)) else (some false))) else (some false)) else (some false))) else (some false)) else (some false))))))))))) else (some false))
theorem dragnetlaw09_RowsetJoins.mono : ∀ a0 a1 a2 a3 k, LeO (dragnetlaw09_RowsetJoins.f k a0 a1 a2 a3) (dragnetlaw09_RowsetJoins.f (k + 1) a0 a1 a2 a3) := by
 intro a0 a1 a2 a3 k
 unfold dragnetlaw09_RowsetJoins.f
 repeat' first
   | (with_reducible exact dragnetlaw09_alive.mono _)
   | (with_reducible exact dragnetref09_Join.mono _ _ _ _ _ _)
   | (with_reducible exact dragnetref09_Same.mono _ _ _ _ _)
   | (with_reducible exact rowset_And.mono _ _ _ _ _)
   | (with_reducible exact rowset_Minus.mono _ _ _ _ _)
   | (with_reducible exact rowset_Or.mono _ _ _ _ _)
   | (with_reducible exact LeO.refl _)
   | (with_reducible exact LeO.none _)
   | (with_reducible refine LeO.ite ?_ ?_)
   | (with_reducible refine LeO.bind ?_ (fun _ => ?_))
   | exact dragnetlaw09_alive.mono _
   | exact dragnetref09_Join.mono _ _ _ _ _ _
   | exact dragnetref09_Same.mono _ _ _ _ _
   | exact rowset_And.mono _ _ _ _ _
   | exact rowset_Minus.mono _ _ _ _ _
   | exact rowset_Or.mono _ _ _ _ _
   | exact LeO.none _
   | refine LeO.ite ?_ ?_
   | refine LeO.bind ?_ (fun _ => ?_)
def dragnetlaw09_RowsetJoins.T3 : Bool × List (List Nat × List Nat) := (true, [([], []), ([0], [0]), ([], []), ([2, 1], [2]), ([], []), ([], []), ([4, 1, 3, 0, 1, 4, 5], [1, 4]), ([5, 3, 6, 0, 1, 2, 3, 4, 5, 6], [3, 5])])
def dragnetlaw09_RowsetJoins.B3 : List Nat := [0, 1, 0, 7, 0, 0, 63, 127]
theorem dragnetlaw09_RowsetJoins.tab3 : rtab .any (opsOf Try.f5 3) = dragnetlaw09_RowsetJoins.T3 := by kernel_rfl
theorem dragnetlaw09_RowsetJoins.bits3 : waitsOk dragnetlaw09_RowsetJoins.T3.2 dragnetlaw09_RowsetJoins.B3 = true := by kernel_rfl
set_option maxHeartbeats 8000000 in
set_option maxRecDepth 100000 in
theorem dragnetlaw09_RowsetJoins.calls (k : Nat) (a0_0 : Int) (A0_1 : Option Addr) (c0_1 : Nat) (l0_1 : List Int) (a1_0 : Int) (A1_1 : Option Addr) (c1_1 : Nat) (l1_1 : List Int) (w : World) (hr0_1 : Kd.C (Kd.int .u64) w A0_1 l0_1.length l0_1) (hc0_1 : l0_1.length ≤ c0_1) (hr1_1 : Kd.C (Kd.int .u64) w A1_1 l1_1.length l1_1) (hc1_1 : l1_1.length ≤ c1_1) (h : dragnetlaw09_RowsetJoins.f k a0_0 l0_1 a1_0 l1_1 = some true) :
  Calls Try.prog 5 #[.agg #[.int .i64 a0_0, .slice A0_1 l0_1.length c0_1], .agg #[.int .i64 a1_0, .slice A1_1 l1_1.length c1_1]] w fun e w' => e = .returned (.bool true) ∧ Below w.heap.size w w' := by
 have hu38 := Try.underlying38
 have HR0_1 := Aside0.mk hr0_1
 have HC0_1 := Aside0.mk hc0_1
 clear hr0_1 hc0_1
 have HR1_1 := Aside0.mk hr1_1
 have HC1_1 := Aside0.mk hc1_1
 clear hr1_1 hc1_1
 have HB := Aside0.mk (Below.refl w.heap.size w)
 have H : ((dragnetlaw09_alive.f k).bind fun t276 => (if t276 = true then ((dragnetref09_Copy.f a0_0 l0_1).bind fun bt277 => ((dragnetref09_Copy.f a1_0 l1_1).bind fun bt281 => ((rowset_And.f k bt277.1 bt277.2 bt281.1 bt281.2).bind fun bt287 => ((rowset_Or.f k bt277.1 bt277.2 bt281.1 bt281.2).bind fun bt293 => ((rowset_Minus.f k bt277.1 bt277.2 bt281.1 bt281.2).bind fun bt299 => ((dragnetref09_Join.f k 0 a0_0 l0_1 a1_0 l1_1).bind fun bt305 => ((dragnetref09_Join.f k 1 a0_0 l0_1 a1_0 l1_1).bind fun bt311 => ((dragnetref09_Join.f k 2 a0_0 l0_1 a1_0 l1_1).bind fun bt317 => ((dragnetref09_Same.f k bt287.1 bt287.2.1 bt305.1 bt305.2.1).bind fun t323 => (if t323 = true then (if bt287.2.2 = bt305.2.2 then ((dragnetref09_Same.f k bt293.1 bt293.2.1 bt311.1 bt311.2.1).bind fun t324 => (if t324 = true then (if bt293.2.2 = bt311.2.2 then ((dragnetref09_Same.f k bt299.1 bt299.2.1 bt317.1 bt317.2.1).bind fun t325 => (if t325 = true then (if bt299.2.2 = bt317.2.2 then ((dragnetref09_Same.f k bt277.1 bt277.2 a0_0 l0_1).bind fun t326 => (if t326 = true then ((dragnetref09_Same.f k bt281.1 bt281.2 a1_0 l1_1).bind fun t327 => (some t327)) else (some false))) else (some false)) else (some false))) else (some false)) else (some false))) else (some false)) else (some false))))))))))) else (some false))) = some true := h
 clear h
 replace H := Option.bind_eq_some_iff.mp H
 obtain ⟨t276, A30, H⟩ := H
 replace H : (if t276 = true then ((dragnetref09_Copy.f a0_0 l0_1).bind fun bt277 => ((dragnetref09_Copy.f a1_0 l1_1).bind fun bt281 => ((rowset_And.f k bt277.1 bt277.2 bt281.1 bt281.2).bind fun bt287 => ((rowset_Or.f k bt277.1 bt277.2 bt281.1 bt281.2).bind fun bt293 => ((rowset_Minus.f k bt277.1 bt277.2 bt281.1 bt281.2).bind fun bt299 => ((dragnetref09_Join.f k 0 a0_0 l0_1 a1_0 l1_1).bind fun bt305 => ((dragnetref09_Join.f k 1 a0_0 l0_1 a1_0 l1_1).bind fun bt311 => ((dragnetref09_Join.f k 2 a0_0 l0_1 a1_0 l1_1).bind fun bt317 => ((dragnetref09_Same.f k bt287.1 bt287.2.1 bt305.1 bt305.2.1).bind fun t323 => (if t323 = true then (if bt287.2.2 = bt305.2.2 then ((dragnetref09_Same.f k bt293.1 bt293.2.1 bt311.1 bt311.2.1).bind fun t324 => (if t324 = true then (if bt293.2.2 = bt311.2.2 then ((dragnetref09_Same.f k bt299.1 bt299.2.1 bt317.1 bt317.2.1).bind fun t325 => (if t325 = true then (if bt299.2.2 = bt317.2.2 then ((dragnetref09_Same.f k bt277.1 bt277.2 a0_0 l0_1).bind fun t326 => (if t326 = true then ((dragnetref09_Same.f k bt281.1 bt281.2 a1_0 l1_1).bind fun t327 => (some t327)) else (some false))) else (some false)) else (some false))) else (some false)) else (some false))) else (some false)) else (some false))))))))))) else (some false)) = some true := H
 have A3 := Aside0.mk A30
 clear A30
 by_cases c4 : t276 = true
 ·subst c4
  have H1 : ((dragnetref09_Copy.f a0_0 l0_1).bind fun bt277 => ((dragnetref09_Copy.f a1_0 l1_1).bind fun bt281 => ((rowset_And.f k bt277.1 bt277.2 bt281.1 bt281.2).bind fun bt287 => ((rowset_Or.f k bt277.1 bt277.2 bt281.1 bt281.2).bind fun bt293 => ((rowset_Minus.f k bt277.1 bt277.2 bt281.1 bt281.2).bind fun bt299 => ((dragnetref09_Join.f k 0 a0_0 l0_1 a1_0 l1_1).bind fun bt305 => ((dragnetref09_Join.f k 1 a0_0 l0_1 a1_0 l1_1).bind fun bt311 => ((dragnetref09_Join.f k 2 a0_0 l0_1 a1_0 l1_1).bind fun bt317 => ((dragnetref09_Same.f k bt287.1 bt287.2.1 bt305.1 bt305.2.1).bind fun t323 => (if t323 = true then (if bt287.2.2 = bt305.2.2 then ((dragnetref09_Same.f k bt293.1 bt293.2.1 bt311.1 bt311.2.1).bind fun t324 => (if t324 = true then (if bt293.2.2 = bt311.2.2 then ((dragnetref09_Same.f k bt299.1 bt299.2.1 bt317.1 bt317.2.1).bind fun t325 => (if t325 = true then (if bt299.2.2 = bt317.2.2 then ((dragnetref09_Same.f k bt277.1 bt277.2 a0_0 l0_1).bind fun t326 => (if t326 = true then ((dragnetref09_Same.f k bt281.1 bt281.2 a1_0 l1_1).bind fun t327 => (some t327)) else (some false))) else (some false)) else (some false))) else (some false)) else (some false))) else (some false)) else (some false))))))))))) = some true := by rw [if_pos rfl] at H; exact H
  clear H
  have H := H1
  clear H1
  replace H := Option.bind_eq_some_iff.mp H
  obtain ⟨⟨t277, t278⟩, A50, H⟩ := H
  replace H : ((dragnetref09_Copy.f a1_0 l1_1).bind fun bt281 => ((rowset_And.f k t277 t278 bt281.1 bt281.2).bind fun bt287 => ((rowset_Or.f k t277 t278 bt281.1 bt281.2).bind fun bt293 => ((rowset_Minus.f k t277 t278 bt281.1 bt281.2).bind fun bt299 => ((dragnetref09_Join.f k 0 a0_0 l0_1 a1_0 l1_1).bind fun bt305 => ((dragnetref09_Join.f k 1 a0_0 l0_1 a1_0 l1_1).bind fun bt311 => ((dragnetref09_Join.f k 2 a0_0 l0_1 a1_0 l1_1).bind fun bt317 => ((dragnetref09_Same.f k bt287.1 bt287.2.1 bt305.1 bt305.2.1).bind fun t323 => (if t323 = true then (if bt287.2.2 = bt305.2.2 then ((dragnetref09_Same.f k bt293.1 bt293.2.1 bt311.1 bt311.2.1).bind fun t324 => (if t324 = true then (if bt293.2.2 = bt311.2.2 then ((dragnetref09_Same.f k bt299.1 bt299.2.1 bt317.1 bt317.2.1).bind fun t325 => (if t325 = true then (if bt299.2.2 = bt317.2.2 then ((dragnetref09_Same.f k t277 t278 a0_0 l0_1).bind fun t326 => (if t326 = true then ((dragnetref09_Same.f k bt281.1 bt281.2 a1_0 l1_1).bind fun t327 => (some t327)) else (some false))) else (some false)) else (some false))) else (some false)) else (some false))) else (some false)) else (some false)))))))))) = some true := H
  have A5 := Aside0.mk A50
  clear A50
  replace H := Option.bind_eq_some_iff.mp H
  obtain ⟨⟨t281, t282⟩, A60, H⟩ := H
  replace H : ((rowset_And.f k t277 t278 t281 t282).bind fun bt287 => ((rowset_Or.f k t277 t278 t281 t282).bind fun bt293 => ((rowset_Minus.f k t277 t278 t281 t282).bind fun bt299 => ((dragnetref09_Join.f k 0 a0_0 l0_1 a1_0 l1_1).bind fun bt305 => ((dragnetref09_Join.f k 1 a0_0 l0_1 a1_0 l1_1).bind fun bt311 => ((dragnetref09_Join.f k 2 a0_0 l0_1 a1_0 l1_1).bind fun bt317 => ((dragnetref09_Same.f k bt287.1 bt287.2.1 bt305.1 bt305.2.1).bind fun t323 => (if t323 = true then (if bt287.2.2 = bt305.2.2 then ((dragnetref09_Same.f k bt293.1 bt293.2.1 bt311.1 bt311.2.1).bind fun t324 => (if t324 = true then (if bt293.2.2 = bt311.2.2 then ((dragnetref09_Same.f k bt299.1 bt299.2.1 bt317.1 bt317.2.1).bind fun t325 => (if t325 = true then (if bt299.2.2 = bt317.2.2 then ((dragnetref09_Same.f k t277 t278 a0_0 l0_1).bind fun t326 => (if t326 = true then ((dragnetref09_Same.f k t281 t282 a1_0 l1_1).bind fun t327 => (some t327)) else (some false))) else (some false)) else (some false))) else (some false)) else (some false))) else (some false)) else (some false))))))))) = some true := H
  have A6 := Aside0.mk A60
  clear A60
  replace H := Option.bind_eq_some_iff.mp H
  obtain ⟨⟨t287, t288, t291⟩, A70, H⟩ := H
  replace H : ((rowset_Or.f k t277 t278 t281 t282).bind fun bt293 => ((rowset_Minus.f k t277 t278 t281 t282).bind fun bt299 => ((dragnetref09_Join.f k 0 a0_0 l0_1 a1_0 l1_1).bind fun bt305 => ((dragnetref09_Join.f k 1 a0_0 l0_1 a1_0 l1_1).bind fun bt311 => ((dragnetref09_Join.f k 2 a0_0 l0_1 a1_0 l1_1).bind fun bt317 => ((dragnetref09_Same.f k t287 t288 bt305.1 bt305.2.1).bind fun t323 => (if t323 = true then (if t291 = bt305.2.2 then ((dragnetref09_Same.f k bt293.1 bt293.2.1 bt311.1 bt311.2.1).bind fun t324 => (if t324 = true then (if bt293.2.2 = bt311.2.2 then ((dragnetref09_Same.f k bt299.1 bt299.2.1 bt317.1 bt317.2.1).bind fun t325 => (if t325 = true then (if bt299.2.2 = bt317.2.2 then ((dragnetref09_Same.f k t277 t278 a0_0 l0_1).bind fun t326 => (if t326 = true then ((dragnetref09_Same.f k t281 t282 a1_0 l1_1).bind fun t327 => (some t327)) else (some false))) else (some false)) else (some false))) else (some false)) else (some false))) else (some false)) else (some false)))))))) = some true := H
  have A7 := Aside0.mk A70
  clear A70
  replace H := Option.bind_eq_some_iff.mp H
  obtain ⟨⟨t293, t294, t297⟩, A80, H⟩ := H
  replace H : ((rowset_Minus.f k t277 t278 t281 t282).bind fun bt299 => ((dragnetref09_Join.f k 0 a0_0 l0_1 a1_0 l1_1).bind fun bt305 => ((dragnetref09_Join.f k 1 a0_0 l0_1 a1_0 l1_1).bind fun bt311 => ((dragnetref09_Join.f k 2 a0_0 l0_1 a1_0 l1_1).bind fun bt317 => ((dragnetref09_Same.f k t287 t288 bt305.1 bt305.2.1).bind fun t323 => (if t323 = true then (if t291 = bt305.2.2 then ((dragnetref09_Same.f k t293 t294 bt311.1 bt311.2.1).bind fun t324 => (if t324 = true then (if t297 = bt311.2.2 then ((dragnetref09_Same.f k bt299.1 bt299.2.1 bt317.1 bt317.2.1).bind fun t325 => (if t325 = true then (if bt299.2.2 = bt317.2.2 then ((dragnetref09_Same.f k t277 t278 a0_0 l0_1).bind fun t326 => (if t326 = true then ((dragnetref09_Same.f k t281 t282 a1_0 l1_1).bind fun t327 => (some t327)) else (some false))) else (some false)) else (some false))) else (some false)) else (some false))) else (some false)) else (some false))))))) = some true := H
  have A8 := Aside0.mk A80
  clear A80
  replace H := Option.bind_eq_some_iff.mp H
  obtain ⟨⟨t299, t300, t303⟩, A90, H⟩ := H
  replace H : ((dragnetref09_Join.f k 0 a0_0 l0_1 a1_0 l1_1).bind fun bt305 => ((dragnetref09_Join.f k 1 a0_0 l0_1 a1_0 l1_1).bind fun bt311 => ((dragnetref09_Join.f k 2 a0_0 l0_1 a1_0 l1_1).bind fun bt317 => ((dragnetref09_Same.f k t287 t288 bt305.1 bt305.2.1).bind fun t323 => (if t323 = true then (if t291 = bt305.2.2 then ((dragnetref09_Same.f k t293 t294 bt311.1 bt311.2.1).bind fun t324 => (if t324 = true then (if t297 = bt311.2.2 then ((dragnetref09_Same.f k t299 t300 bt317.1 bt317.2.1).bind fun t325 => (if t325 = true then (if t303 = bt317.2.2 then ((dragnetref09_Same.f k t277 t278 a0_0 l0_1).bind fun t326 => (if t326 = true then ((dragnetref09_Same.f k t281 t282 a1_0 l1_1).bind fun t327 => (some t327)) else (some false))) else (some false)) else (some false))) else (some false)) else (some false))) else (some false)) else (some false)))))) = some true := H
  have A9 := Aside0.mk A90
  clear A90
  replace H := Option.bind_eq_some_iff.mp H
  obtain ⟨⟨t305, t306, t309⟩, A100, H⟩ := H
  replace H : ((dragnetref09_Join.f k 1 a0_0 l0_1 a1_0 l1_1).bind fun bt311 => ((dragnetref09_Join.f k 2 a0_0 l0_1 a1_0 l1_1).bind fun bt317 => ((dragnetref09_Same.f k t287 t288 t305 t306).bind fun t323 => (if t323 = true then (if t291 = t309 then ((dragnetref09_Same.f k t293 t294 bt311.1 bt311.2.1).bind fun t324 => (if t324 = true then (if t297 = bt311.2.2 then ((dragnetref09_Same.f k t299 t300 bt317.1 bt317.2.1).bind fun t325 => (if t325 = true then (if t303 = bt317.2.2 then ((dragnetref09_Same.f k t277 t278 a0_0 l0_1).bind fun t326 => (if t326 = true then ((dragnetref09_Same.f k t281 t282 a1_0 l1_1).bind fun t327 => (some t327)) else (some false))) else (some false)) else (some false))) else (some false)) else (some false))) else (some false)) else (some false))))) = some true := H
  have A10 := Aside0.mk A100
  clear A100
  replace H := Option.bind_eq_some_iff.mp H
  obtain ⟨⟨t311, t312, t315⟩, A110, H⟩ := H
  replace H : ((dragnetref09_Join.f k 2 a0_0 l0_1 a1_0 l1_1).bind fun bt317 => ((dragnetref09_Same.f k t287 t288 t305 t306).bind fun t323 => (if t323 = true then (if t291 = t309 then ((dragnetref09_Same.f k t293 t294 t311 t312).bind fun t324 => (if t324 = true then (if t297 = t315 then ((dragnetref09_Same.f k t299 t300 bt317.1 bt317.2.1).bind fun t325 => (if t325 = true then (if t303 = bt317.2.2 then ((dragnetref09_Same.f k t277 t278 a0_0 l0_1).bind fun t326 => (if t326 = true then ((dragnetref09_Same.f k t281 t282 a1_0 l1_1).bind fun t327 => (some t327)) else (some false))) else (some false)) else (some false))) else (some false)) else (some false))) else (some false)) else (some false)))) = some true := H
  have A11 := Aside0.mk A110
  clear A110
  replace H := Option.bind_eq_some_iff.mp H
  obtain ⟨⟨t317, t318, t321⟩, A120, H⟩ := H
  replace H : ((dragnetref09_Same.f k t287 t288 t305 t306).bind fun t323 => (if t323 = true then (if t291 = t309 then ((dragnetref09_Same.f k t293 t294 t311 t312).bind fun t324 => (if t324 = true then (if t297 = t315 then ((dragnetref09_Same.f k t299 t300 t317 t318).bind fun t325 => (if t325 = true then (if t303 = t321 then ((dragnetref09_Same.f k t277 t278 a0_0 l0_1).bind fun t326 => (if t326 = true then ((dragnetref09_Same.f k t281 t282 a1_0 l1_1).bind fun t327 => (some t327)) else (some false))) else (some false)) else (some false))) else (some false)) else (some false))) else (some false)) else (some false))) = some true := H
  have A12 := Aside0.mk A120
  clear A120
  replace H := Option.bind_eq_some_iff.mp H
  obtain ⟨t323, A130, H⟩ := H
  replace H : (if t323 = true then (if t291 = t309 then ((dragnetref09_Same.f k t293 t294 t311 t312).bind fun t324 => (if t324 = true then (if t297 = t315 then ((dragnetref09_Same.f k t299 t300 t317 t318).bind fun t325 => (if t325 = true then (if t303 = t321 then ((dragnetref09_Same.f k t277 t278 a0_0 l0_1).bind fun t326 => (if t326 = true then ((dragnetref09_Same.f k t281 t282 a1_0 l1_1).bind fun t327 => (some t327)) else (some false))) else (some false)) else (some false))) else (some false)) else (some false))) else (some false)) else (some false)) = some true := H
  have A13 := Aside0.mk A130
  clear A130
  by_cases c14 : t323 = true
  ·subst c14
   have H1 : (if t291 = t309 then ((dragnetref09_Same.f k t293 t294 t311 t312).bind fun t324 => (if t324 = true then (if t297 = t315 then ((dragnetref09_Same.f k t299 t300 t317 t318).bind fun t325 => (if t325 = true then (if t303 = t321 then ((dragnetref09_Same.f k t277 t278 a0_0 l0_1).bind fun t326 => (if t326 = true then ((dragnetref09_Same.f k t281 t282 a1_0 l1_1).bind fun t327 => (some t327)) else (some false))) else (some false)) else (some false))) else (some false)) else (some false))) else (some false)) = some true := by rw [if_pos rfl] at H; exact H
   clear H
   have H := H1
   clear H1
   by_cases c15 : t291 = t309
   ·rw [if_pos c15] at H
    have c15b0 : (t291 == t309) = true := beq_iff_eq.mpr c15
    have c15b1 : (t291 != t309) = false := bne_eq_false_iff_eq.mpr c15
    clear c15
    replace H := Option.bind_eq_some_iff.mp H
    obtain ⟨t324, A160, H⟩ := H
    replace H : (if t324 = true then (if t297 = t315 then ((dragnetref09_Same.f k t299 t300 t317 t318).bind fun t325 => (if t325 = true then (if t303 = t321 then ((dragnetref09_Same.f k t277 t278 a0_0 l0_1).bind fun t326 => (if t326 = true then ((dragnetref09_Same.f k t281 t282 a1_0 l1_1).bind fun t327 => (some t327)) else (some false))) else (some false)) else (some false))) else (some false)) else (some false)) = some true := H
    have A16 := Aside0.mk A160
    clear A160
    by_cases c17 : t324 = true
    ·subst c17
     have H1 : (if t297 = t315 then ((dragnetref09_Same.f k t299 t300 t317 t318).bind fun t325 => (if t325 = true then (if t303 = t321 then ((dragnetref09_Same.f k t277 t278 a0_0 l0_1).bind fun t326 => (if t326 = true then ((dragnetref09_Same.f k t281 t282 a1_0 l1_1).bind fun t327 => (some t327)) else (some false))) else (some false)) else (some false))) else (some false)) = some true := by rw [if_pos rfl] at H; exact H
     clear H
     have H := H1
     clear H1
     by_cases c18 : t297 = t315
     ·rw [if_pos c18] at H
      have c18b0 : (t297 == t315) = true := beq_iff_eq.mpr c18
      have c18b1 : (t297 != t315) = false := bne_eq_false_iff_eq.mpr c18
      clear c18
      replace H := Option.bind_eq_some_iff.mp H
      obtain ⟨t325, A190, H⟩ := H
      replace H : (if t325 = true then (if t303 = t321 then ((dragnetref09_Same.f k t277 t278 a0_0 l0_1).bind fun t326 => (if t326 = true then ((dragnetref09_Same.f k t281 t282 a1_0 l1_1).bind fun t327 => (some t327)) else (some false))) else (some false)) else (some false)) = some true := H
      have A19 := Aside0.mk A190
      clear A190
      by_cases c20 : t325 = true
      ·subst c20
       have H1 : (if t303 = t321 then ((dragnetref09_Same.f k t277 t278 a0_0 l0_1).bind fun t326 => (if t326 = true then ((dragnetref09_Same.f k t281 t282 a1_0 l1_1).bind fun t327 => (some t327)) else (some false))) else (some false)) = some true := by rw [if_pos rfl] at H; exact H
       clear H
       have H := H1
       clear H1
       by_cases c21 : t303 = t321
       ·rw [if_pos c21] at H
        have c21b0 : (t303 == t321) = true := beq_iff_eq.mpr c21
        have c21b1 : (t303 != t321) = false := bne_eq_false_iff_eq.mpr c21
        clear c21
        replace H := Option.bind_eq_some_iff.mp H
        obtain ⟨t326, A220, H⟩ := H
        replace H : (if t326 = true then ((dragnetref09_Same.f k t281 t282 a1_0 l1_1).bind fun t327 => (some t327)) else (some false)) = some true := H
        have A22 := Aside0.mk A220
        clear A220
        by_cases c23 : t326 = true
        ·subst c23
         have H1 : ((dragnetref09_Same.f k t281 t282 a1_0 l1_1).bind fun t327 => (some t327)) = some true := by rw [if_pos rfl] at H; exact H
         clear H
         have H := H1
         clear H1
         replace H := Option.bind_eq_some_iff.mp H
         obtain ⟨t327, A240, H⟩ := H
         replace H : (some t327) = some true := H
         have A24 := Aside0.mk A240
         clear A240
         have Hr_ := Option.some.inj H
         go_enter Try.func5, Try.ntmps5
         try go_wp2_with (first | ((with_reducible refine gate_dst (N := 2) rfl ?_); refine box_event ?hg (N := 2) ?hd (cs := #[.int .i64 a0_0, .slice A0_1 l0_1.length c0_1]) (t := 38) ?hr ?_; (case hd => rfl); (case hg => rfl); (case hr => first | (go_simp; done) | (go_simp; rfl)); intro gb274 hg w25 hbox hb; have n0_ := bsA HB hb; have n1_ := Aside0.mk (hbox); have n2_ := szA HB hg; have n3_ := szA HB hg; clear HB; have HB := n0_; have BK274 := n1_; have GW274 := n2_; have GE274 := n3_; clear n0_ n1_ n2_ n3_; clear hb hbox hg) | ((with_reducible refine gate_dst (N := 3) rfl ?_); refine box_event ?hg (N := 3) ?hd (cs := #[.int .i64 a1_0, .slice A1_1 l1_1.length c1_1]) (t := 38) ?hr ?_; (case hd => rfl); (case hg => rfl); (case hr => first | (go_simp; done) | (go_simp; rfl)); intro gb275 hg w26 hbox hb; have n0_ := bkA BK274 hb; have n1_ := bsA HB hb; have n2_ := Aside0.mk (hbox); have n3_ := szA HB hg; have n4_ := szA HB hg; have n5_ := neA BK274 hg; have n6_ := neB BK274 hg; clear BK274; clear HB; have BK274 := n0_; have HB := n1_; have BK275 := n2_; have GW275 := n3_; have GE275 := n4_; have NB274_275 := n5_; have NB275_274 := n6_; clear n0_ n1_ n2_ n3_ n4_ n5_ n6_; clear hb hbox hg) | ((with_reducible refine gate_callee (f := 23) rfl ?_); refine goesL_ (some 19) rfl rfl Try.func23 (by kernel_rfl) rfl #[] rfl (by (try simp only [List.map_toArray, List.map_cons, List.map_nil]); first | done | rfl | (simp only [List.length_drop, List.length_take]; rfl)) ?_; (with_reducible refine (dragnetlaw09_alive.calls k  true _ A3.out).mono ?_); rintro e w27 ⟨rfl, hb⟩; refine ⟨_, rfl, ?_⟩; have n0_ := bkA BK274 hb; have n1_ := bkA BK275 hb; have n2_ := bsA HB hb; clear BK274; clear BK275; clear HB; have BK274 := n0_; have BK275 := n1_; have HB := n2_; clear n0_ n1_ n2_; (try clear hb); (try clear hb2); (try clear hk); (try clear hi)))
         have n0_ := Aside0.mk (blk_drew BK274.out)
         have n1_ := Aside0.mk (blk_drew BK275.out)
         have n2_ := Aside0.mk (below_drew1 HB.out)
         clear BK274
         clear BK275
         clear HB
         have BK274 := n0_
         have BK275 := n1_
         have HB := n2_
         clear n0_ n1_ n2_
         refine start_ (n := 8) (S := fun w' => w'.cell? ⟨gb274, 0, none⟩ = some (.int .i64 a0_0) ∧ w'.cell? ⟨gb274, 1, none⟩ = some (.slice A0_1 l0_1.length c0_1) ∧ w'.cell? ⟨gb275, 0, none⟩ = some (.int .i64 a1_0) ∧ w'.cell? ⟨gb275, 1, none⟩ = some (.slice A1_1 l1_1.length c1_1)) (ds := []) #[false, false, false, false, false, false, false, false] (by kernel_rfl) rfl rfl ⟨(blk_cell BK274.out 0).trans rfl, (blk_cell BK274.out 1).trans rfl, (blk_cell BK275.out 0).trans rfl, (blk_cell BK275.out 1).trans rfl⟩ (fun hHeld => ?_); refine with_tabW dragnetlaw09_RowsetJoins.tab3 dragnetlaw09_RowsetJoins.bits3 (fun HT_ HW_ => ?_)
         generalize w27.drew = w28 at BK274 BK275 HB hHeld ⊢
         refine take_ (i := 0) (N := some 21) (v := ?_) (a' := ?_) #[true, false, false, false, false, false, false, false] rfl rfl (take_ofW HT_.out HW_.out (by kernel_rfl)) (fun _ _ _ h => h) (Or.inl ⟨by rfl, ?_⟩) hHeld ?_ ?_
         rotate_left
         ·rintro w' ⟨s0, s1, s2, s3⟩
          go_simp
          with_reducible rfl
         rotate_left
         ·simp only [Act.put, List.setIfInBounds_toArray, List.set_cons_zero, List.set_cons_succ, i64_w, i32_w]
          rfl
         refine take_ (i := 2) (N := some 23) (v := ?_) (a' := ?_) #[true, false, true, false, false, false, false, false] rfl rfl (take_ofW HT_.out HW_.out (by kernel_rfl)) (fun _ _ _ h => h) (Or.inl ⟨by rfl, ?_⟩) hHeld ?_ ?_
         rotate_left
         ·rintro w' ⟨s0, s1, s2, s3⟩
          go_simp
          with_reducible rfl
         rotate_left
         ·simp only [Act.put, List.setIfInBounds_toArray, List.set_cons_zero, List.set_cons_succ, i64_w, i32_w]
          rfl
         refine join_ (σ := Value × Value × Nat × Nat) 2 #[true, true, true, true, true, true, false, false] (fun s_ => [(22, .agg #[.int .i64 t277, s_.1]), (24, .agg #[.int .i64 t281, s_.2.1]), (5, .pointer (some ⟨s_.2.2.1, 0, none⟩)), (6, .pointer (some ⟨s_.2.2.2, 0, none⟩))]) (fun s_ w' => (w'.cell? ⟨gb274, 0, none⟩ = some (.int .i64 a0_0) ∧ w'.cell? ⟨gb274, 1, none⟩ = some (.slice A0_1 l0_1.length c0_1) ∧ w'.cell? ⟨gb275, 0, none⟩ = some (.int .i64 a1_0) ∧ w'.cell? ⟨gb275, 1, none⟩ = some (.slice A1_1 l1_1.length c1_1)) ∧ (Kd.R (Kd.int .u64) 66 w' w.heap.size (fun k_ => some k_ ≠ (s_.2.1 : Value).ownBlock) s_.1 t278) ∧ (Kd.R (Kd.int .u64) 66 w' w.heap.size (fun k_ => some k_ ≠ (s_.1 : Value).ownBlock) s_.2.1 t282) ∧ (w'.heap[gb274]? = some (.cells #[.int .i64 a0_0, .slice A0_1 l0_1.length c0_1] 38 (0, 0))) ∧ (w'.heap[gb275]? = some (.cells #[.int .i64 a1_0, .slice A1_1 l1_1.length c1_1] 38 (0, 0))) ∧ (w'.heap[s_.2.2.1]? = some (.cells #[.int .i64 0, .slice none 0 0] 38 (0, 0))) ∧ (w'.heap[s_.2.2.2]? = some (.cells #[.int .i64 0, .slice none 0 0] 38 (0, 0))) ∧ (w.heap.size ≤ s_.2.2.1) ∧ (w.heap.size ≤ s_.2.2.1) ∧ (gb274 ≠ s_.2.2.1) ∧ (s_.2.2.1 ≠ gb274) ∧ (gb275 ≠ s_.2.2.1) ∧ (s_.2.2.1 ≠ gb275) ∧ (s_.2.2.2 ≠ s_.2.2.1) ∧ (s_.2.2.1 ≠ s_.2.2.2) ∧ (w.heap.size ≤ s_.2.2.2) ∧ (w.heap.size ≤ s_.2.2.2) ∧ (gb274 ≠ s_.2.2.2) ∧ (s_.2.2.2 ≠ gb274) ∧ (gb275 ≠ s_.2.2.2) ∧ (s_.2.2.2 ≠ gb275) ∧ (Below w.heap.size w w')) ?_ ?_
         rotate_left
         ·intro hJ1_3_4_5
          refine join_ (σ := Value × Value × Nat) 3 #[true, true, true, true, true, false, false, false] (fun s_ => [(22, .agg #[.int .i64 t277, s_.1]), (24, .agg #[.int .i64 t281, s_.2.1]), (5, .pointer (some ⟨s_.2.2, 0, none⟩))]) (fun s_ w' => (w'.cell? ⟨gb274, 0, none⟩ = some (.int .i64 a0_0) ∧ w'.cell? ⟨gb274, 1, none⟩ = some (.slice A0_1 l0_1.length c0_1) ∧ w'.cell? ⟨gb275, 0, none⟩ = some (.int .i64 a1_0) ∧ w'.cell? ⟨gb275, 1, none⟩ = some (.slice A1_1 l1_1.length c1_1)) ∧ (Kd.R (Kd.int .u64) 66 w' w.heap.size (fun k_ => some k_ ≠ (s_.2.1 : Value).ownBlock) s_.1 t278) ∧ (Kd.R (Kd.int .u64) 66 w' w.heap.size (fun k_ => some k_ ≠ (s_.1 : Value).ownBlock) s_.2.1 t282) ∧ (w'.heap[gb274]? = some (.cells #[.int .i64 a0_0, .slice A0_1 l0_1.length c0_1] 38 (0, 0))) ∧ (w'.heap[gb275]? = some (.cells #[.int .i64 a1_0, .slice A1_1 l1_1.length c1_1] 38 (0, 0))) ∧ (w'.heap[s_.2.2]? = some (.cells #[.int .i64 0, .slice none 0 0] 38 (0, 0))) ∧ (w.heap.size ≤ s_.2.2) ∧ (w.heap.size ≤ s_.2.2) ∧ (gb274 ≠ s_.2.2) ∧ (s_.2.2 ≠ gb274) ∧ (gb275 ≠ s_.2.2) ∧ (s_.2.2 ≠ gb275) ∧ (Below w.heap.size w w')) ?_ ?_
          rotate_left
          ·intro hJ1_3_4
           refine join_ (σ := Value × Value × Nat) 3 #[true, true, true, true, false, true, false, false] (fun s_ => [(22, .agg #[.int .i64 t277, s_.1]), (24, .agg #[.int .i64 t281, s_.2.1]), (6, .pointer (some ⟨s_.2.2, 0, none⟩))]) (fun s_ w' => (w'.cell? ⟨gb274, 0, none⟩ = some (.int .i64 a0_0) ∧ w'.cell? ⟨gb274, 1, none⟩ = some (.slice A0_1 l0_1.length c0_1) ∧ w'.cell? ⟨gb275, 0, none⟩ = some (.int .i64 a1_0) ∧ w'.cell? ⟨gb275, 1, none⟩ = some (.slice A1_1 l1_1.length c1_1)) ∧ (Kd.R (Kd.int .u64) 66 w' w.heap.size (fun k_ => some k_ ≠ (s_.2.1 : Value).ownBlock) s_.1 t278) ∧ (Kd.R (Kd.int .u64) 66 w' w.heap.size (fun k_ => some k_ ≠ (s_.1 : Value).ownBlock) s_.2.1 t282) ∧ (w'.heap[gb274]? = some (.cells #[.int .i64 a0_0, .slice A0_1 l0_1.length c0_1] 38 (0, 0))) ∧ (w'.heap[gb275]? = some (.cells #[.int .i64 a1_0, .slice A1_1 l1_1.length c1_1] 38 (0, 0))) ∧ (w'.heap[s_.2.2]? = some (.cells #[.int .i64 0, .slice none 0 0] 38 (0, 0))) ∧ (w.heap.size ≤ s_.2.2) ∧ (w.heap.size ≤ s_.2.2) ∧ (gb274 ≠ s_.2.2) ∧ (s_.2.2 ≠ gb274) ∧ (gb275 ≠ s_.2.2) ∧ (s_.2.2 ≠ gb275) ∧ (Below w.heap.size w w')) ?_ ?_
           rotate_left
           ·intro hJ1_3_5
            refine join_ (σ := Value × Nat × Nat) 3 #[true, true, true, false, true, true, false, false] (fun s_ => [(22, .agg #[.int .i64 t277, s_.1]), (5, .pointer (some ⟨s_.2.1, 0, none⟩)), (6, .pointer (some ⟨s_.2.2, 0, none⟩))]) (fun s_ w' => (w'.cell? ⟨gb274, 0, none⟩ = some (.int .i64 a0_0) ∧ w'.cell? ⟨gb274, 1, none⟩ = some (.slice A0_1 l0_1.length c0_1) ∧ w'.cell? ⟨gb275, 0, none⟩ = some (.int .i64 a1_0) ∧ w'.cell? ⟨gb275, 1, none⟩ = some (.slice A1_1 l1_1.length c1_1)) ∧ (Kd.R (Kd.int .u64) 66 w' w.heap.size (fun _ => True) s_.1 t278) ∧ (w'.heap[gb274]? = some (.cells #[.int .i64 a0_0, .slice A0_1 l0_1.length c0_1] 38 (0, 0))) ∧ (w'.heap[gb275]? = some (.cells #[.int .i64 a1_0, .slice A1_1 l1_1.length c1_1] 38 (0, 0))) ∧ (w'.heap[s_.2.1]? = some (.cells #[.int .i64 0, .slice none 0 0] 38 (0, 0))) ∧ (w'.heap[s_.2.2]? = some (.cells #[.int .i64 0, .slice none 0 0] 38 (0, 0))) ∧ (w.heap.size ≤ s_.2.1) ∧ (w.heap.size ≤ s_.2.1) ∧ (gb274 ≠ s_.2.1) ∧ (s_.2.1 ≠ gb274) ∧ (gb275 ≠ s_.2.1) ∧ (s_.2.1 ≠ gb275) ∧ (s_.2.2 ≠ s_.2.1) ∧ (s_.2.1 ≠ s_.2.2) ∧ (w.heap.size ≤ s_.2.2) ∧ (w.heap.size ≤ s_.2.2) ∧ (gb274 ≠ s_.2.2) ∧ (s_.2.2 ≠ gb274) ∧ (gb275 ≠ s_.2.2) ∧ (s_.2.2 ≠ gb275) ∧ (Below w.heap.size w w')) ?_ ?_
            rotate_left
            ·intro hJ1_4_5
             refine join_ (σ := Value × Value) 4 #[true, true, true, true, false, false, false, false] (fun s_ => [(22, .agg #[.int .i64 t277, s_.1]), (24, .agg #[.int .i64 t281, s_.2])]) (fun s_ w' => (w'.cell? ⟨gb274, 0, none⟩ = some (.int .i64 a0_0) ∧ w'.cell? ⟨gb274, 1, none⟩ = some (.slice A0_1 l0_1.length c0_1) ∧ w'.cell? ⟨gb275, 0, none⟩ = some (.int .i64 a1_0) ∧ w'.cell? ⟨gb275, 1, none⟩ = some (.slice A1_1 l1_1.length c1_1)) ∧ (Kd.R (Kd.int .u64) 66 w' w.heap.size (fun k_ => some k_ ≠ (s_.2 : Value).ownBlock) s_.1 t278) ∧ (Kd.R (Kd.int .u64) 66 w' w.heap.size (fun k_ => some k_ ≠ (s_.1 : Value).ownBlock) s_.2 t282) ∧ (w'.heap[gb274]? = some (.cells #[.int .i64 a0_0, .slice A0_1 l0_1.length c0_1] 38 (0, 0))) ∧ (w'.heap[gb275]? = some (.cells #[.int .i64 a1_0, .slice A1_1 l1_1.length c1_1] 38 (0, 0))) ∧ (Below w.heap.size w w')) ?_ ?_
             rotate_left
             ·intro hJ1_3
              refine join_ (σ := Value × Nat) 4 #[true, true, true, false, true, false, false, false] (fun s_ => [(22, .agg #[.int .i64 t277, s_.1]), (5, .pointer (some ⟨s_.2, 0, none⟩))]) (fun s_ w' => (w'.cell? ⟨gb274, 0, none⟩ = some (.int .i64 a0_0) ∧ w'.cell? ⟨gb274, 1, none⟩ = some (.slice A0_1 l0_1.length c0_1) ∧ w'.cell? ⟨gb275, 0, none⟩ = some (.int .i64 a1_0) ∧ w'.cell? ⟨gb275, 1, none⟩ = some (.slice A1_1 l1_1.length c1_1)) ∧ (Kd.R (Kd.int .u64) 66 w' w.heap.size (fun _ => True) s_.1 t278) ∧ (w'.heap[gb274]? = some (.cells #[.int .i64 a0_0, .slice A0_1 l0_1.length c0_1] 38 (0, 0))) ∧ (w'.heap[gb275]? = some (.cells #[.int .i64 a1_0, .slice A1_1 l1_1.length c1_1] 38 (0, 0))) ∧ (w'.heap[s_.2]? = some (.cells #[.int .i64 0, .slice none 0 0] 38 (0, 0))) ∧ (w.heap.size ≤ s_.2) ∧ (w.heap.size ≤ s_.2) ∧ (gb274 ≠ s_.2) ∧ (s_.2 ≠ gb274) ∧ (gb275 ≠ s_.2) ∧ (s_.2 ≠ gb275) ∧ (Below w.heap.size w w')) ?_ ?_
              rotate_left
              ·intro hJ1_4
               refine join_ (σ := Value × Nat) 4 #[true, true, true, false, false, true, false, false] (fun s_ => [(22, .agg #[.int .i64 t277, s_.1]), (6, .pointer (some ⟨s_.2, 0, none⟩))]) (fun s_ w' => (w'.cell? ⟨gb274, 0, none⟩ = some (.int .i64 a0_0) ∧ w'.cell? ⟨gb274, 1, none⟩ = some (.slice A0_1 l0_1.length c0_1) ∧ w'.cell? ⟨gb275, 0, none⟩ = some (.int .i64 a1_0) ∧ w'.cell? ⟨gb275, 1, none⟩ = some (.slice A1_1 l1_1.length c1_1)) ∧ (Kd.R (Kd.int .u64) 66 w' w.heap.size (fun _ => True) s_.1 t278) ∧ (w'.heap[gb274]? = some (.cells #[.int .i64 a0_0, .slice A0_1 l0_1.length c0_1] 38 (0, 0))) ∧ (w'.heap[gb275]? = some (.cells #[.int .i64 a1_0, .slice A1_1 l1_1.length c1_1] 38 (0, 0))) ∧ (w'.heap[s_.2]? = some (.cells #[.int .i64 0, .slice none 0 0] 38 (0, 0))) ∧ (w.heap.size ≤ s_.2) ∧ (w.heap.size ≤ s_.2) ∧ (gb274 ≠ s_.2) ∧ (s_.2 ≠ gb274) ∧ (gb275 ≠ s_.2) ∧ (s_.2 ≠ gb275) ∧ (Below w.heap.size w w')) ?_ ?_
               rotate_left
               ·intro hJ1_5
                refine join_ (σ := Nat × Nat) 4 #[true, false, true, false, true, true, false, false] (fun s_ => [(5, .pointer (some ⟨s_.1, 0, none⟩)), (6, .pointer (some ⟨s_.2, 0, none⟩))]) (fun s_ w' => (w'.cell? ⟨gb274, 0, none⟩ = some (.int .i64 a0_0) ∧ w'.cell? ⟨gb274, 1, none⟩ = some (.slice A0_1 l0_1.length c0_1) ∧ w'.cell? ⟨gb275, 0, none⟩ = some (.int .i64 a1_0) ∧ w'.cell? ⟨gb275, 1, none⟩ = some (.slice A1_1 l1_1.length c1_1)) ∧ (w'.heap[gb274]? = some (.cells #[.int .i64 a0_0, .slice A0_1 l0_1.length c0_1] 38 (0, 0))) ∧ (w'.heap[gb275]? = some (.cells #[.int .i64 a1_0, .slice A1_1 l1_1.length c1_1] 38 (0, 0))) ∧ (w'.heap[s_.1]? = some (.cells #[.int .i64 0, .slice none 0 0] 38 (0, 0))) ∧ (w'.heap[s_.2]? = some (.cells #[.int .i64 0, .slice none 0 0] 38 (0, 0))) ∧ (w.heap.size ≤ s_.1) ∧ (w.heap.size ≤ s_.1) ∧ (gb274 ≠ s_.1) ∧ (s_.1 ≠ gb274) ∧ (gb275 ≠ s_.1) ∧ (s_.1 ≠ gb275) ∧ (s_.2 ≠ s_.1) ∧ (s_.1 ≠ s_.2) ∧ (w.heap.size ≤ s_.2) ∧ (w.heap.size ≤ s_.2) ∧ (gb274 ≠ s_.2) ∧ (s_.2 ≠ gb274) ∧ (gb275 ≠ s_.2) ∧ (s_.2 ≠ gb275) ∧ (Below w.heap.size w w')) ?_ ?_
                rotate_left
                ·intro hJ4_5
                 refine join_ (σ := Value) 5 #[true, true, true, false, false, false, false, false] (fun s_ => [(22, .agg #[.int .i64 t277, s_])]) (fun s_ w' => (w'.cell? ⟨gb274, 0, none⟩ = some (.int .i64 a0_0) ∧ w'.cell? ⟨gb274, 1, none⟩ = some (.slice A0_1 l0_1.length c0_1) ∧ w'.cell? ⟨gb275, 0, none⟩ = some (.int .i64 a1_0) ∧ w'.cell? ⟨gb275, 1, none⟩ = some (.slice A1_1 l1_1.length c1_1)) ∧ (Kd.R (Kd.int .u64) 66 w' w.heap.size (fun _ => True) s_ t278) ∧ (w'.heap[gb274]? = some (.cells #[.int .i64 a0_0, .slice A0_1 l0_1.length c0_1] 38 (0, 0))) ∧ (w'.heap[gb275]? = some (.cells #[.int .i64 a1_0, .slice A1_1 l1_1.length c1_1] 38 (0, 0))) ∧ (Below w.heap.size w w')) ?_ ?_
                 rotate_left
                 ·intro hJ1
                  refine join_ (σ := Nat) 5 #[true, false, true, false, true, false, false, false] (fun s_ => [(5, .pointer (some ⟨s_, 0, none⟩))]) (fun s_ w' => (w'.cell? ⟨gb274, 0, none⟩ = some (.int .i64 a0_0) ∧ w'.cell? ⟨gb274, 1, none⟩ = some (.slice A0_1 l0_1.length c0_1) ∧ w'.cell? ⟨gb275, 0, none⟩ = some (.int .i64 a1_0) ∧ w'.cell? ⟨gb275, 1, none⟩ = some (.slice A1_1 l1_1.length c1_1)) ∧ (w'.heap[gb274]? = some (.cells #[.int .i64 a0_0, .slice A0_1 l0_1.length c0_1] 38 (0, 0))) ∧ (w'.heap[gb275]? = some (.cells #[.int .i64 a1_0, .slice A1_1 l1_1.length c1_1] 38 (0, 0))) ∧ (w'.heap[s_]? = some (.cells #[.int .i64 0, .slice none 0 0] 38 (0, 0))) ∧ (w.heap.size ≤ s_) ∧ (w.heap.size ≤ s_) ∧ (gb274 ≠ s_) ∧ (s_ ≠ gb274) ∧ (gb275 ≠ s_) ∧ (s_ ≠ gb275) ∧ (Below w.heap.size w w')) ?_ ?_
                  rotate_left
                  ·intro hJ4
                   refine join_ (σ := Nat) 5 #[true, false, true, false, false, true, false, false] (fun s_ => [(6, .pointer (some ⟨s_, 0, none⟩))]) (fun s_ w' => (w'.cell? ⟨gb274, 0, none⟩ = some (.int .i64 a0_0) ∧ w'.cell? ⟨gb274, 1, none⟩ = some (.slice A0_1 l0_1.length c0_1) ∧ w'.cell? ⟨gb275, 0, none⟩ = some (.int .i64 a1_0) ∧ w'.cell? ⟨gb275, 1, none⟩ = some (.slice A1_1 l1_1.length c1_1)) ∧ (w'.heap[gb274]? = some (.cells #[.int .i64 a0_0, .slice A0_1 l0_1.length c0_1] 38 (0, 0))) ∧ (w'.heap[gb275]? = some (.cells #[.int .i64 a1_0, .slice A1_1 l1_1.length c1_1] 38 (0, 0))) ∧ (w'.heap[s_]? = some (.cells #[.int .i64 0, .slice none 0 0] 38 (0, 0))) ∧ (w.heap.size ≤ s_) ∧ (w.heap.size ≤ s_) ∧ (gb274 ≠ s_) ∧ (s_ ≠ gb274) ∧ (gb275 ≠ s_) ∧ (s_ ≠ gb275) ∧ (Below w.heap.size w w')) ?_ ?_
                   rotate_left
                   ·intro hJ5
                    refine three_ (i := 1) (j := 4) (k := 5) (Ni := some 22) (Nj := some 5) (Nk := some 6) #[true, true, true, false, false, false, false, false] #[true, false, true, false, true, false, false, false] #[true, false, true, false, false, true, false, false] rfl rfl rfl rfl rfl rfl (three_of HT_.out (by kernel_rfl)) (by decide) (by decide) (by decide) (fun K hK => ?_) (fun K hK => ?_) (fun K hK => ?_)
                    ·skip
                     refine goes_ Try.func24 (by kernel_rfl) rfl #[.agg #[.int .i64 a0_0, .slice A0_1 l0_1.length c0_1]] (by rfl) rfl rfl (by (try simp only [List.map_toArray, List.map_cons, List.map_nil]); first | done | rfl | (simp only [List.length_drop, List.length_take]; rfl)) ?_
                     with_reducible refine (dragnetref09_Copy.calls a0_0 _ _ l0_1 t277 t278 _ ?side1 ?side2 A5.out).mono ?_
                     (case side1 => repeat (first | exact (Kd.C_below HR0_1.out HB.out) | (with_reducible refine Kd.C_alloc ?_ _) | (with_reducible refine Kd.C_drewN ?_ _) | (with_reducible refine Kd.C_drew ?_)))
                     (case side2 => exact HC0_1.out)
                     rintro e w29 ⟨v279, rfl, ho0, hb⟩
                     refine ⟨_, rfl, ?_⟩
                     have n0_ := Aside0.mk (Kd.R_lower ho0 (below_size (by repeat (first | (with_reducible first | exact HB.out | apply below_alloc | apply pw_below_drewN | apply below_drew1 | refine below_set ?_ GE274.out | refine below_set ?_ GE275.out) | exact HB.out))))
                     have n1_ := bkA BK274 hb
                     have n2_ := bkA BK275 hb
                     have n3_ := bsA HB hb
                     clear BK274
                     clear BK275
                     clear HB
                     have HO280 := n0_
                     have BK274 := n1_
                     have BK275 := n2_
                     have HB := n3_
                     clear n0_ n1_ n2_ n3_
                     (try clear hb)
                     (try clear hb2)
                     (try clear hk)
                     (try clear hi)
                     (try clear ho0)
                     refine hK.out _ _ ⟨(blk_cell BK274.out 0).trans rfl, (blk_cell BK274.out 1).trans rfl, (blk_cell BK275.out 0).trans rfl, (blk_cell BK275.out 1).trans rfl⟩ (fun hHeld => ?_)
                     clear hK K
                     refine norm_ (a' := ?_) ?_ ?_
                     rotate_left
                     ·show Act.put _ (some 22) _ = _
                      simp only [Act.put, List.setIfInBounds_toArray, List.set_cons_zero, List.set_cons_succ, i64_w, i32_w]
                      rfl
                     exact norm_ (by first | (simp only [putAll, Act.put, List.setIfInBounds_toArray, List.set_cons_zero, List.set_cons_succ]; done) | (simp only [putAll, Act.put, List.setIfInBounds_toArray, List.set_cons_zero, List.set_cons_succ]; rfl)) (hJ1 (v279) _ ⟨hHeld, (by (with_reducible repeat (first | apply Kd.R_alloc | apply Kd.R_drewN | apply Kd.R_drew)); exact HO280.out), (by (with_reducible repeat (first | refine blk_drewN ?_ _ | refine blk_drew ?_ | refine blk_alloc ?_ _)); exact BK274.out), (by (with_reducible repeat (first | refine blk_drewN ?_ _ | refine blk_drew ?_ | refine blk_alloc ?_ _)); exact BK275.out), (by repeat (first | (with_reducible first | exact HB.out | apply below_alloc | apply pw_below_drewN | apply below_drew1 | refine below_set ?_ GE274.out | refine below_set ?_ GE275.out) | exact HB.out))⟩)
                    ·skip
                     refine box_step ?hg (N := 5) ?hd (cs := #[.int .i64 0, .slice none 0 0]) (t := 38) ?hr ?_; (case hd => rfl); (case hg => rfl); (case hr => first | (go_simp; done) | (go_simp; rfl))
                     intro gb285 hg w29 hbox hb
                     have n0_ := bkA BK274 hb
                     have n1_ := bkA BK275 hb
                     have n2_ := bsA HB hb
                     have n3_ := Aside0.mk (hbox)
                     have n4_ := szA HB hg
                     have n5_ := szA HB hg
                     have n6_ := neA BK274 hg
                     have n7_ := neB BK274 hg
                     have n8_ := neA BK275 hg
                     have n9_ := neB BK275 hg
                     clear BK274
                     clear BK275
                     clear HB
                     have BK274 := n0_
                     have BK275 := n1_
                     have HB := n2_
                     have BK285 := n3_
                     have GW285 := n4_
                     have GE285 := n5_
                     have NB274_285 := n6_
                     have NB285_274 := n7_
                     have NB275_285 := n8_
                     have NB285_275 := n9_
                     clear n0_ n1_ n2_ n3_ n4_ n5_ n6_ n7_ n8_ n9_
                     clear hb hbox hg
                     refine hK.out _ _ ⟨(blk_cell BK274.out 0).trans rfl, (blk_cell BK274.out 1).trans rfl, (blk_cell BK275.out 0).trans rfl, (blk_cell BK275.out 1).trans rfl⟩ (fun hHeld => ?_)
                     clear hK K
                     refine norm_ (a' := ?_) ?_ ?_
                     rotate_left
                     ·show Act.put _ (some 5) _ = _
                      simp only [Act.put, List.setIfInBounds_toArray, List.set_cons_zero, List.set_cons_succ, i64_w, i32_w]
                      rfl
                     exact norm_ (by first | (simp only [putAll, Act.put, List.setIfInBounds_toArray, List.set_cons_zero, List.set_cons_succ]; done) | (simp only [putAll, Act.put, List.setIfInBounds_toArray, List.set_cons_zero, List.set_cons_succ]; rfl)) (hJ4 (gb285) _ ⟨hHeld, (by (with_reducible repeat (first | refine blk_drewN ?_ _ | refine blk_drew ?_ | refine blk_alloc ?_ _)); exact BK274.out), (by (with_reducible repeat (first | refine blk_drewN ?_ _ | refine blk_drew ?_ | refine blk_alloc ?_ _)); exact BK275.out), (by (with_reducible repeat (first | refine blk_drewN ?_ _ | refine blk_drew ?_ | refine blk_alloc ?_ _)); exact BK285.out), GW285.out, GE285.out, NB274_285.out, NB285_274.out, NB275_285.out, NB285_275.out, (by repeat (first | (with_reducible first | exact HB.out | apply below_alloc | apply pw_below_drewN | apply below_drew1 | refine below_set ?_ GE274.out | refine below_set ?_ GE275.out | refine below_set ?_ GE285.out) | exact HB.out))⟩)
                    ·skip
                     refine box_step ?hg (N := 6) ?hd (cs := #[.int .i64 0, .slice none 0 0]) (t := 38) ?hr ?_; (case hd => rfl); (case hg => rfl); (case hr => first | (go_simp; done) | (go_simp; rfl))
                     intro gb286 hg w29 hbox hb
                     have n0_ := bkA BK274 hb
                     have n1_ := bkA BK275 hb
                     have n2_ := bsA HB hb
                     have n3_ := Aside0.mk (hbox)
                     have n4_ := szA HB hg
                     have n5_ := szA HB hg
                     have n6_ := neA BK274 hg
                     have n7_ := neB BK274 hg
                     have n8_ := neA BK275 hg
                     have n9_ := neB BK275 hg
                     clear BK274
                     clear BK275
                     clear HB
                     have BK274 := n0_
                     have BK275 := n1_
                     have HB := n2_
                     have BK286 := n3_
                     have GW286 := n4_
                     have GE286 := n5_
                     have NB274_286 := n6_
                     have NB286_274 := n7_
                     have NB275_286 := n8_
                     have NB286_275 := n9_
                     clear n0_ n1_ n2_ n3_ n4_ n5_ n6_ n7_ n8_ n9_
                     clear hb hbox hg
                     refine hK.out _ _ ⟨(blk_cell BK274.out 0).trans rfl, (blk_cell BK274.out 1).trans rfl, (blk_cell BK275.out 0).trans rfl, (blk_cell BK275.out 1).trans rfl⟩ (fun hHeld => ?_)
                     clear hK K
                     refine norm_ (a' := ?_) ?_ ?_
                     rotate_left
                     ·show Act.put _ (some 6) _ = _
                      simp only [Act.put, List.setIfInBounds_toArray, List.set_cons_zero, List.set_cons_succ, i64_w, i32_w]
                      rfl
                     exact norm_ (by first | (simp only [putAll, Act.put, List.setIfInBounds_toArray, List.set_cons_zero, List.set_cons_succ]; done) | (simp only [putAll, Act.put, List.setIfInBounds_toArray, List.set_cons_zero, List.set_cons_succ]; rfl)) (hJ5 (gb286) _ ⟨hHeld, (by (with_reducible repeat (first | refine blk_drewN ?_ _ | refine blk_drew ?_ | refine blk_alloc ?_ _)); exact BK274.out), (by (with_reducible repeat (first | refine blk_drewN ?_ _ | refine blk_drew ?_ | refine blk_alloc ?_ _)); exact BK275.out), (by (with_reducible repeat (first | refine blk_drewN ?_ _ | refine blk_drew ?_ | refine blk_alloc ?_ _)); exact BK286.out), GW286.out, GE286.out, NB274_286.out, NB286_274.out, NB275_286.out, NB286_275.out, (by repeat (first | (with_reducible first | exact HB.out | apply below_alloc | apply pw_below_drewN | apply below_drew1 | refine below_set ?_ GE274.out | refine below_set ?_ GE275.out | refine below_set ?_ GE286.out) | exact HB.out))⟩)
                   ·skip
                    rintro gb286 w30 ⟨hS_, h0_, h1_, h2_, h3_, h4_, h5_, h6_, h7_, h8_, h9_⟩
                    have n0_ : Aside0 (w30.heap[gb274]? = some (.cells #[.int .i64 a0_0, .slice A0_1 l0_1.length c0_1] 38 (0, 0))) := ⟨h0_⟩
                    have n1_ : Aside0 (w30.heap[gb275]? = some (.cells #[.int .i64 a1_0, .slice A1_1 l1_1.length c1_1] 38 (0, 0))) := ⟨h1_⟩
                    have n2_ : Aside0 (w30.heap[gb286]? = some (.cells #[.int .i64 0, .slice none 0 0] 38 (0, 0))) := ⟨h2_⟩
                    have n3_ : Aside0 (w.heap.size ≤ gb286) := ⟨h3_⟩
                    have n4_ : Aside0 (w.heap.size ≤ gb286) := ⟨h4_⟩
                    have n5_ : Aside0 (gb274 ≠ gb286) := ⟨h5_⟩
                    have n6_ : Aside0 (gb286 ≠ gb274) := ⟨h6_⟩
                    have n7_ : Aside0 (gb275 ≠ gb286) := ⟨h7_⟩
                    have n8_ : Aside0 (gb286 ≠ gb275) := ⟨h8_⟩
                    have n9_ : Aside0 (Below w.heap.size w w30) := ⟨h9_⟩
                    clear BK274
                    clear BK275
                    clear HB
                    clear h0_ h1_ h2_ h3_ h4_ h5_ h6_ h7_ h8_ h9_
                    have BK274 := n0_
                    have BK275 := n1_
                    have BK286 := n2_
                    have GW286 := n3_
                    have GE286 := n4_
                    have NB274_286 := n5_
                    have NB286_274 := n6_
                    have NB275_286 := n7_
                    have NB286_275 := n8_
                    have HB := n9_
                    clear n0_ n1_ n2_ n3_ n4_ n5_ n6_ n7_ n8_ n9_
                    have hHeld : w30.cell? ⟨gb274, 0, none⟩ = some (.int .i64 a0_0) ∧ w30.cell? ⟨gb274, 1, none⟩ = some (.slice A0_1 l0_1.length c0_1) ∧ w30.cell? ⟨gb275, 0, none⟩ = some (.int .i64 a1_0) ∧ w30.cell? ⟨gb275, 1, none⟩ = some (.slice A1_1 l1_1.length c1_1) := hS_
                    refine norm_ (a' := ?_) ?_ ?_
                    rotate_left
                    ·simp only [putAll, Act.put, List.setIfInBounds_toArray, List.set_cons_zero, List.set_cons_succ]
                     rfl
                    refine two_ (i := 1) (j := 4) (Ni := some 22) (Nj := some 5) #[true, true, true, false, false, true, false, false] #[true, false, true, false, true, true, false, false] rfl rfl rfl rfl (two_of HT_.out (by kernel_rfl)) (by decide) (by decide) (fun K hK => ?_) (fun K hK => ?_)
                    ·skip
                     refine goes_ Try.func24 (by kernel_rfl) rfl #[.agg #[.int .i64 a0_0, .slice A0_1 l0_1.length c0_1]] (by rfl) rfl rfl (by (try simp only [List.map_toArray, List.map_cons, List.map_nil]); first | done | rfl | (simp only [List.length_drop, List.length_take]; rfl)) ?_
                     with_reducible refine (dragnetref09_Copy.calls a0_0 _ _ l0_1 t277 t278 _ ?side1 ?side2 A5.out).mono ?_
                     (case side1 => repeat (first | exact (Kd.C_below HR0_1.out HB.out) | (with_reducible refine Kd.C_alloc ?_ _) | (with_reducible refine Kd.C_drewN ?_ _) | (with_reducible refine Kd.C_drew ?_)))
                     (case side2 => exact HC0_1.out)
                     rintro e w31 ⟨v279, rfl, ho0, hb⟩
                     refine ⟨_, rfl, ?_⟩
                     have n0_ := Aside0.mk (Kd.R_lower ho0 (below_size (by repeat (first | (with_reducible first | exact HB.out | apply below_alloc | apply pw_below_drewN | apply below_drew1 | refine below_set ?_ GE274.out | refine below_set ?_ GE275.out | refine below_set ?_ GE286.out) | exact HB.out))))
                     have n1_ := bkA BK274 hb
                     have n2_ := bkA BK275 hb
                     have n3_ := bkA BK286 hb
                     have n4_ := bsA HB hb
                     clear BK274
                     clear BK275
                     clear BK286
                     clear HB
                     have HO280 := n0_
                     have BK274 := n1_
                     have BK275 := n2_
                     have BK286 := n3_
                     have HB := n4_
                     clear n0_ n1_ n2_ n3_ n4_
                     (try clear hb)
                     (try clear hb2)
                     (try clear hk)
                     (try clear hi)
                     (try clear ho0)
                     refine hK.out _ _ ⟨(blk_cell BK274.out 0).trans rfl, (blk_cell BK274.out 1).trans rfl, (blk_cell BK275.out 0).trans rfl, (blk_cell BK275.out 1).trans rfl⟩ (fun hHeld => ?_)
                     clear hK K
                     refine norm_ (a' := ?_) ?_ ?_
                     rotate_left
                     ·show Act.put _ (some 22) _ = _
                      simp only [Act.put, List.setIfInBounds_toArray, List.set_cons_zero, List.set_cons_succ, i64_w, i32_w]
                      rfl
                     exact norm_ (by first | (simp only [putAll, Act.put, List.setIfInBounds_toArray, List.set_cons_zero, List.set_cons_succ]; done) | (simp only [putAll, Act.put, List.setIfInBounds_toArray, List.set_cons_zero, List.set_cons_succ]; rfl)) (hJ1_5 (v279, gb286) _ ⟨hHeld, (by (with_reducible repeat (first | apply Kd.R_alloc | apply Kd.R_drewN | apply Kd.R_drew)); exact HO280.out), (by (with_reducible repeat (first | refine blk_drewN ?_ _ | refine blk_drew ?_ | refine blk_alloc ?_ _)); exact BK274.out), (by (with_reducible repeat (first | refine blk_drewN ?_ _ | refine blk_drew ?_ | refine blk_alloc ?_ _)); exact BK275.out), (by (with_reducible repeat (first | refine blk_drewN ?_ _ | refine blk_drew ?_ | refine blk_alloc ?_ _)); exact BK286.out), GW286.out, GE286.out, NB274_286.out, NB286_274.out, NB275_286.out, NB286_275.out, (by repeat (first | (with_reducible first | exact HB.out | apply below_alloc | apply pw_below_drewN | apply below_drew1 | refine below_set ?_ GE274.out | refine below_set ?_ GE275.out | refine below_set ?_ GE286.out) | exact HB.out))⟩)
                    ·skip
                     refine box_step ?hg (N := 5) ?hd (cs := #[.int .i64 0, .slice none 0 0]) (t := 38) ?hr ?_; (case hd => rfl); (case hg => rfl); (case hr => first | (go_simp; done) | (go_simp; rfl))
                     intro gb285 hg w31 hbox hb
                     have n0_ := bkA BK274 hb
                     have n1_ := bkA BK275 hb
                     have n2_ := bkA BK286 hb
                     have n3_ := bsA HB hb
                     have n4_ := Aside0.mk (hbox)
                     have n5_ := szA HB hg
                     have n6_ := szA HB hg
                     have n7_ := neA BK274 hg
                     have n8_ := neB BK274 hg
                     have n9_ := neA BK275 hg
                     have n10_ := neB BK275 hg
                     have n11_ := neA BK286 hg
                     have n12_ := neB BK286 hg
                     clear BK274
                     clear BK275
                     clear BK286
                     clear HB
                     have BK274 := n0_
                     have BK275 := n1_
                     have BK286 := n2_
                     have HB := n3_
                     have BK285 := n4_
                     have GW285 := n5_
                     have GE285 := n6_
                     have NB274_285 := n7_
                     have NB285_274 := n8_
                     have NB275_285 := n9_
                     have NB285_275 := n10_
                     have NB286_285 := n11_
                     have NB285_286 := n12_
                     clear n0_ n1_ n2_ n3_ n4_ n5_ n6_ n7_ n8_ n9_ n10_ n11_ n12_
                     clear hb hbox hg
                     refine hK.out _ _ ⟨(blk_cell BK274.out 0).trans rfl, (blk_cell BK274.out 1).trans rfl, (blk_cell BK275.out 0).trans rfl, (blk_cell BK275.out 1).trans rfl⟩ (fun hHeld => ?_)
                     clear hK K
                     refine norm_ (a' := ?_) ?_ ?_
                     rotate_left
                     ·show Act.put _ (some 5) _ = _
                      simp only [Act.put, List.setIfInBounds_toArray, List.set_cons_zero, List.set_cons_succ, i64_w, i32_w]
                      rfl
                     exact norm_ (by first | (simp only [putAll, Act.put, List.setIfInBounds_toArray, List.set_cons_zero, List.set_cons_succ]; done) | (simp only [putAll, Act.put, List.setIfInBounds_toArray, List.set_cons_zero, List.set_cons_succ]; rfl)) (hJ4_5 (gb285, gb286) _ ⟨hHeld, (by (with_reducible repeat (first | refine blk_drewN ?_ _ | refine blk_drew ?_ | refine blk_alloc ?_ _)); exact BK274.out), (by (with_reducible repeat (first | refine blk_drewN ?_ _ | refine blk_drew ?_ | refine blk_alloc ?_ _)); exact BK275.out), (by (with_reducible repeat (first | refine blk_drewN ?_ _ | refine blk_drew ?_ | refine blk_alloc ?_ _)); exact BK285.out), (by (with_reducible repeat (first | refine blk_drewN ?_ _ | refine blk_drew ?_ | refine blk_alloc ?_ _)); exact BK286.out), GW285.out, GE285.out, NB274_285.out, NB285_274.out, NB275_285.out, NB285_275.out, NB286_285.out, NB285_286.out, GW286.out, GE286.out, NB274_286.out, NB286_274.out, NB275_286.out, NB286_275.out, (by repeat (first | (with_reducible first | exact HB.out | apply below_alloc | apply pw_below_drewN | apply below_drew1 | refine below_set ?_ GE274.out | refine below_set ?_ GE275.out | refine below_set ?_ GE286.out | refine below_set ?_ GE285.out) | exact HB.out))⟩)
                  ·skip
                   rintro gb285 w30 ⟨hS_, h0_, h1_, h2_, h3_, h4_, h5_, h6_, h7_, h8_, h9_⟩
                   have n0_ : Aside0 (w30.heap[gb274]? = some (.cells #[.int .i64 a0_0, .slice A0_1 l0_1.length c0_1] 38 (0, 0))) := ⟨h0_⟩
                   have n1_ : Aside0 (w30.heap[gb275]? = some (.cells #[.int .i64 a1_0, .slice A1_1 l1_1.length c1_1] 38 (0, 0))) := ⟨h1_⟩
                   have n2_ : Aside0 (w30.heap[gb285]? = some (.cells #[.int .i64 0, .slice none 0 0] 38 (0, 0))) := ⟨h2_⟩
                   have n3_ : Aside0 (w.heap.size ≤ gb285) := ⟨h3_⟩
                   have n4_ : Aside0 (w.heap.size ≤ gb285) := ⟨h4_⟩
                   have n5_ : Aside0 (gb274 ≠ gb285) := ⟨h5_⟩
                   have n6_ : Aside0 (gb285 ≠ gb274) := ⟨h6_⟩
                   have n7_ : Aside0 (gb275 ≠ gb285) := ⟨h7_⟩
                   have n8_ : Aside0 (gb285 ≠ gb275) := ⟨h8_⟩
                   have n9_ : Aside0 (Below w.heap.size w w30) := ⟨h9_⟩
                   clear BK274
                   clear BK275
                   clear HB
                   clear h0_ h1_ h2_ h3_ h4_ h5_ h6_ h7_ h8_ h9_
                   have BK274 := n0_
                   have BK275 := n1_
                   have BK285 := n2_
                   have GW285 := n3_
                   have GE285 := n4_
                   have NB274_285 := n5_
                   have NB285_274 := n6_
                   have NB275_285 := n7_
                   have NB285_275 := n8_
                   have HB := n9_
                   clear n0_ n1_ n2_ n3_ n4_ n5_ n6_ n7_ n8_ n9_
                   have hHeld : w30.cell? ⟨gb274, 0, none⟩ = some (.int .i64 a0_0) ∧ w30.cell? ⟨gb274, 1, none⟩ = some (.slice A0_1 l0_1.length c0_1) ∧ w30.cell? ⟨gb275, 0, none⟩ = some (.int .i64 a1_0) ∧ w30.cell? ⟨gb275, 1, none⟩ = some (.slice A1_1 l1_1.length c1_1) := hS_
                   refine norm_ (a' := ?_) ?_ ?_
                   rotate_left
                   ·simp only [putAll, Act.put, List.setIfInBounds_toArray, List.set_cons_zero, List.set_cons_succ]
                    rfl
                   refine two_ (i := 1) (j := 5) (Ni := some 22) (Nj := some 6) #[true, true, true, false, true, false, false, false] #[true, false, true, false, true, true, false, false] rfl rfl rfl rfl (two_of HT_.out (by kernel_rfl)) (by decide) (by decide) (fun K hK => ?_) (fun K hK => ?_)
                   ·skip
                    refine goes_ Try.func24 (by kernel_rfl) rfl #[.agg #[.int .i64 a0_0, .slice A0_1 l0_1.length c0_1]] (by rfl) rfl rfl (by (try simp only [List.map_toArray, List.map_cons, List.map_nil]); first | done | rfl | (simp only [List.length_drop, List.length_take]; rfl)) ?_
                    with_reducible refine (dragnetref09_Copy.calls a0_0 _ _ l0_1 t277 t278 _ ?side1 ?side2 A5.out).mono ?_
                    (case side1 => repeat (first | exact (Kd.C_below HR0_1.out HB.out) | (with_reducible refine Kd.C_alloc ?_ _) | (with_reducible refine Kd.C_drewN ?_ _) | (with_reducible refine Kd.C_drew ?_)))
                    (case side2 => exact HC0_1.out)
                    rintro e w31 ⟨v279, rfl, ho0, hb⟩
                    refine ⟨_, rfl, ?_⟩
                    have n0_ := Aside0.mk (Kd.R_lower ho0 (below_size (by repeat (first | (with_reducible first | exact HB.out | apply below_alloc | apply pw_below_drewN | apply below_drew1 | refine below_set ?_ GE274.out | refine below_set ?_ GE275.out | refine below_set ?_ GE285.out) | exact HB.out))))
                    have n1_ := bkA BK274 hb
                    have n2_ := bkA BK275 hb
                    have n3_ := bkA BK285 hb
                    have n4_ := bsA HB hb
                    clear BK274
                    clear BK275
                    clear BK285
                    clear HB
                    have HO280 := n0_
                    have BK274 := n1_
                    have BK275 := n2_
                    have BK285 := n3_
                    have HB := n4_
                    clear n0_ n1_ n2_ n3_ n4_
                    (try clear hb)
                    (try clear hb2)
                    (try clear hk)
                    (try clear hi)
                    (try clear ho0)
                    refine hK.out _ _ ⟨(blk_cell BK274.out 0).trans rfl, (blk_cell BK274.out 1).trans rfl, (blk_cell BK275.out 0).trans rfl, (blk_cell BK275.out 1).trans rfl⟩ (fun hHeld => ?_)
                    clear hK K
                    refine norm_ (a' := ?_) ?_ ?_
                    rotate_left
                    ·show Act.put _ (some 22) _ = _
                     simp only [Act.put, List.setIfInBounds_toArray, List.set_cons_zero, List.set_cons_succ, i64_w, i32_w]
                     rfl
                    exact norm_ (by first | (simp only [putAll, Act.put, List.setIfInBounds_toArray, List.set_cons_zero, List.set_cons_succ]; done) | (simp only [putAll, Act.put, List.setIfInBounds_toArray, List.set_cons_zero, List.set_cons_succ]; rfl)) (hJ1_4 (v279, gb285) _ ⟨hHeld, (by (with_reducible repeat (first | apply Kd.R_alloc | apply Kd.R_drewN | apply Kd.R_drew)); exact HO280.out), (by (with_reducible repeat (first | refine blk_drewN ?_ _ | refine blk_drew ?_ | refine blk_alloc ?_ _)); exact BK274.out), (by (with_reducible repeat (first | refine blk_drewN ?_ _ | refine blk_drew ?_ | refine blk_alloc ?_ _)); exact BK275.out), (by (with_reducible repeat (first | refine blk_drewN ?_ _ | refine blk_drew ?_ | refine blk_alloc ?_ _)); exact BK285.out), GW285.out, GE285.out, NB274_285.out, NB285_274.out, NB275_285.out, NB285_275.out, (by repeat (first | (with_reducible first | exact HB.out | apply below_alloc | apply pw_below_drewN | apply below_drew1 | refine below_set ?_ GE274.out | refine below_set ?_ GE275.out | refine below_set ?_ GE285.out) | exact HB.out))⟩)
                   ·skip
                    refine box_step ?hg (N := 6) ?hd (cs := #[.int .i64 0, .slice none 0 0]) (t := 38) ?hr ?_; (case hd => rfl); (case hg => rfl); (case hr => first | (go_simp; done) | (go_simp; rfl))
                    intro gb286 hg w31 hbox hb
                    have n0_ := bkA BK274 hb
                    have n1_ := bkA BK275 hb
                    have n2_ := bkA BK285 hb
                    have n3_ := bsA HB hb
                    have n4_ := Aside0.mk (hbox)
                    have n5_ := szA HB hg
                    have n6_ := szA HB hg
                    have n7_ := neA BK274 hg
                    have n8_ := neB BK274 hg
                    have n9_ := neA BK275 hg
                    have n10_ := neB BK275 hg
                    have n11_ := neA BK285 hg
                    have n12_ := neB BK285 hg
                    clear BK274
                    clear BK275
                    clear BK285
                    clear HB
                    have BK274 := n0_
                    have BK275 := n1_
                    have BK285 := n2_
                    have HB := n3_
                    have BK286 := n4_
                    have GW286 := n5_
                    have GE286 := n6_
                    have NB274_286 := n7_
                    have NB286_274 := n8_
                    have NB275_286 := n9_
                    have NB286_275 := n10_
                    have NB285_286 := n11_
                    have NB286_285 := n12_
                    clear n0_ n1_ n2_ n3_ n4_ n5_ n6_ n7_ n8_ n9_ n10_ n11_ n12_
                    clear hb hbox hg
                    refine hK.out _ _ ⟨(blk_cell BK274.out 0).trans rfl, (blk_cell BK274.out 1).trans rfl, (blk_cell BK275.out 0).trans rfl, (blk_cell BK275.out 1).trans rfl⟩ (fun hHeld => ?_)
                    clear hK K
                    refine norm_ (a' := ?_) ?_ ?_
                    rotate_left
                    ·show Act.put _ (some 6) _ = _
                     simp only [Act.put, List.setIfInBounds_toArray, List.set_cons_zero, List.set_cons_succ, i64_w, i32_w]
                     rfl
                    exact norm_ (by first | (simp only [putAll, Act.put, List.setIfInBounds_toArray, List.set_cons_zero, List.set_cons_succ]; done) | (simp only [putAll, Act.put, List.setIfInBounds_toArray, List.set_cons_zero, List.set_cons_succ]; rfl)) (hJ4_5 (gb285, gb286) _ ⟨hHeld, (by (with_reducible repeat (first | refine blk_drewN ?_ _ | refine blk_drew ?_ | refine blk_alloc ?_ _)); exact BK274.out), (by (with_reducible repeat (first | refine blk_drewN ?_ _ | refine blk_drew ?_ | refine blk_alloc ?_ _)); exact BK275.out), (by (with_reducible repeat (first | refine blk_drewN ?_ _ | refine blk_drew ?_ | refine blk_alloc ?_ _)); exact BK285.out), (by (with_reducible repeat (first | refine blk_drewN ?_ _ | refine blk_drew ?_ | refine blk_alloc ?_ _)); exact BK286.out), GW285.out, GE285.out, NB274_285.out, NB285_274.out, NB275_285.out, NB285_275.out, NB286_285.out, NB285_286.out, GW286.out, GE286.out, NB274_286.out, NB286_274.out, NB275_286.out, NB286_275.out, (by repeat (first | (with_reducible first | exact HB.out | apply below_alloc | apply pw_below_drewN | apply below_drew1 | refine below_set ?_ GE274.out | refine below_set ?_ GE275.out | refine below_set ?_ GE285.out | refine below_set ?_ GE286.out) | exact HB.out))⟩)
                 ·skip
                  rintro v279 w30 ⟨hS_, h0_, h1_, h2_, h3_⟩
                  have n0_ : Aside0 (Kd.R (Kd.int .u64) 66 w30 w.heap.size (fun _ => True) v279 t278) := ⟨h0_⟩
                  have n1_ : Aside0 (w30.heap[gb274]? = some (.cells #[.int .i64 a0_0, .slice A0_1 l0_1.length c0_1] 38 (0, 0))) := ⟨h1_⟩
                  have n2_ : Aside0 (w30.heap[gb275]? = some (.cells #[.int .i64 a1_0, .slice A1_1 l1_1.length c1_1] 38 (0, 0))) := ⟨h2_⟩
                  have n3_ : Aside0 (Below w.heap.size w w30) := ⟨h3_⟩
                  clear BK274
                  clear BK275
                  clear HB
                  clear h0_ h1_ h2_ h3_
                  have HO280 := n0_
                  have BK274 := n1_
                  have BK275 := n2_
                  have HB := n3_
                  clear n0_ n1_ n2_ n3_
                  have hHeld : w30.cell? ⟨gb274, 0, none⟩ = some (.int .i64 a0_0) ∧ w30.cell? ⟨gb274, 1, none⟩ = some (.slice A0_1 l0_1.length c0_1) ∧ w30.cell? ⟨gb275, 0, none⟩ = some (.int .i64 a1_0) ∧ w30.cell? ⟨gb275, 1, none⟩ = some (.slice A1_1 l1_1.length c1_1) := hS_
                  refine norm_ (a' := ?_) ?_ ?_
                  rotate_left
                  ·simp only [putAll, Act.put, List.setIfInBounds_toArray, List.set_cons_zero, List.set_cons_succ]
                   rfl
                  refine three_ (i := 3) (j := 4) (k := 5) (Ni := some 24) (Nj := some 5) (Nk := some 6) #[true, true, true, true, false, false, false, false] #[true, true, true, false, true, false, false, false] #[true, true, true, false, false, true, false, false] rfl rfl rfl rfl rfl rfl (three_of HT_.out (by kernel_rfl)) (by decide) (by decide) (by decide) (fun K hK => ?_) (fun K hK => ?_) (fun K hK => ?_)
                  ·skip
                   refine goes_ Try.func24 (by kernel_rfl) rfl #[.agg #[.int .i64 a1_0, .slice A1_1 l1_1.length c1_1]] (by rfl) rfl rfl (by (try simp only [List.map_toArray, List.map_cons, List.map_nil]); first | done | rfl | (simp only [List.length_drop, List.length_take]; rfl)) ?_
                   with_reducible refine (dragnetref09_Copy.calls a1_0 _ _ l1_1 t281 t282 _ ?side1 ?side2 A6.out).mono ?_
                   (case side1 => repeat (first | exact (Kd.C_below HR1_1.out HB.out) | (with_reducible refine Kd.C_alloc ?_ _) | (with_reducible refine Kd.C_drewN ?_ _) | (with_reducible refine Kd.C_drew ?_)))
                   (case side2 => exact HC1_1.out)
                   rintro e w31 ⟨v283, rfl, ho0, hb⟩
                   refine ⟨_, rfl, ?_⟩
                   have n0_ := Aside0.mk (Kd.R_elder' (by (with_reducible repeat (first | apply Kd.R_alloc | apply Kd.R_drewN | apply Kd.R_drew)); exact HO280.out) (Kd.R_base ho0) hb)
                   have n1_ := Aside0.mk (Kd.R_lower (Kd.R_new' ho0 (Kd.R_lt (by (with_reducible repeat (first | apply Kd.R_alloc | apply Kd.R_drewN | apply Kd.R_drew)); exact HO280.out))) (below_size (by repeat (first | (with_reducible first | exact HB.out | apply below_alloc | apply pw_below_drewN | apply below_drew1 | refine below_set ?_ GE274.out | refine below_set ?_ GE275.out) | exact HB.out))))
                   have n2_ := bkA BK274 hb
                   have n3_ := bkA BK275 hb
                   have n4_ := bsA HB hb
                   clear HO280
                   clear BK274
                   clear BK275
                   clear HB
                   have HO280 := n0_
                   have HO284 := n1_
                   have BK274 := n2_
                   have BK275 := n3_
                   have HB := n4_
                   clear n0_ n1_ n2_ n3_ n4_
                   (try clear hb)
                   (try clear hb2)
                   (try clear hk)
                   (try clear hi)
                   (try clear ho0)
                   refine hK.out _ _ ⟨(blk_cell BK274.out 0).trans rfl, (blk_cell BK274.out 1).trans rfl, (blk_cell BK275.out 0).trans rfl, (blk_cell BK275.out 1).trans rfl⟩ (fun hHeld => ?_)
                   clear hK K
                   refine norm_ (a' := ?_) ?_ ?_
                   rotate_left
                   ·show Act.put _ (some 24) _ = _
                    simp only [Act.put, List.setIfInBounds_toArray, List.set_cons_zero, List.set_cons_succ, i64_w, i32_w]
                    rfl
                   exact norm_ (by first | (simp only [putAll, Act.put, List.setIfInBounds_toArray, List.set_cons_zero, List.set_cons_succ]; done) | (simp only [putAll, Act.put, List.setIfInBounds_toArray, List.set_cons_zero, List.set_cons_succ]; rfl)) (hJ1_3 (v279, v283) _ ⟨hHeld, (by (with_reducible repeat (first | apply Kd.R_alloc | apply Kd.R_drewN | apply Kd.R_drew)); exact Kd.R_mono HO280.out (fun _ hk => hk.2)), (by (with_reducible repeat (first | apply Kd.R_alloc | apply Kd.R_drewN | apply Kd.R_drew)); exact Kd.R_mono HO284.out (fun _ hk => hk.2)), (by (with_reducible repeat (first | refine blk_drewN ?_ _ | refine blk_drew ?_ | refine blk_alloc ?_ _)); exact BK274.out), (by (with_reducible repeat (first | refine blk_drewN ?_ _ | refine blk_drew ?_ | refine blk_alloc ?_ _)); exact BK275.out), (by repeat (first | (with_reducible first | exact HB.out | apply below_alloc | apply pw_below_drewN | apply below_drew1 | refine below_set ?_ GE274.out | refine below_set ?_ GE275.out) | exact HB.out))⟩)
                  ·skip
                   refine box_step ?hg (N := 5) ?hd (cs := #[.int .i64 0, .slice none 0 0]) (t := 38) ?hr ?_; (case hd => rfl); (case hg => rfl); (case hr => first | (go_simp; done) | (go_simp; rfl))
                   intro gb285 hg w31 hbox hb
                   have n0_ := rbA HO280 hb
                   have n1_ := bkA BK274 hb
                   have n2_ := bkA BK275 hb
                   have n3_ := bsA HB hb
                   have n4_ := Aside0.mk (hbox)
                   have n5_ := szA HB hg
                   have n6_ := szA HB hg
                   have n7_ := neA BK274 hg
                   have n8_ := neB BK274 hg
                   have n9_ := neA BK275 hg
                   have n10_ := neB BK275 hg
                   clear HO280
                   clear BK274
                   clear BK275
                   clear HB
                   have HO280 := n0_
                   have BK274 := n1_
                   have BK275 := n2_
                   have HB := n3_
                   have BK285 := n4_
                   have GW285 := n5_
                   have GE285 := n6_
                   have NB274_285 := n7_
                   have NB285_274 := n8_
                   have NB275_285 := n9_
                   have NB285_275 := n10_
                   clear n0_ n1_ n2_ n3_ n4_ n5_ n6_ n7_ n8_ n9_ n10_
                   clear hb hbox hg
                   refine hK.out _ _ ⟨(blk_cell BK274.out 0).trans rfl, (blk_cell BK274.out 1).trans rfl, (blk_cell BK275.out 0).trans rfl, (blk_cell BK275.out 1).trans rfl⟩ (fun hHeld => ?_)
                   clear hK K
                   refine norm_ (a' := ?_) ?_ ?_
                   rotate_left
                   ·show Act.put _ (some 5) _ = _
                    simp only [Act.put, List.setIfInBounds_toArray, List.set_cons_zero, List.set_cons_succ, i64_w, i32_w]
                    rfl
                   exact norm_ (by first | (simp only [putAll, Act.put, List.setIfInBounds_toArray, List.set_cons_zero, List.set_cons_succ]; done) | (simp only [putAll, Act.put, List.setIfInBounds_toArray, List.set_cons_zero, List.set_cons_succ]; rfl)) (hJ1_4 (v279, gb285) _ ⟨hHeld, (by (with_reducible repeat (first | apply Kd.R_alloc | apply Kd.R_drewN | apply Kd.R_drew)); exact HO280.out), (by (with_reducible repeat (first | refine blk_drewN ?_ _ | refine blk_drew ?_ | refine blk_alloc ?_ _)); exact BK274.out), (by (with_reducible repeat (first | refine blk_drewN ?_ _ | refine blk_drew ?_ | refine blk_alloc ?_ _)); exact BK275.out), (by (with_reducible repeat (first | refine blk_drewN ?_ _ | refine blk_drew ?_ | refine blk_alloc ?_ _)); exact BK285.out), GW285.out, GE285.out, NB274_285.out, NB285_274.out, NB275_285.out, NB285_275.out, (by repeat (first | (with_reducible first | exact HB.out | apply below_alloc | apply pw_below_drewN | apply below_drew1 | refine below_set ?_ GE274.out | refine below_set ?_ GE275.out | refine below_set ?_ GE285.out) | exact HB.out))⟩)
                  ·skip
                   refine box_step ?hg (N := 6) ?hd (cs := #[.int .i64 0, .slice none 0 0]) (t := 38) ?hr ?_; (case hd => rfl); (case hg => rfl); (case hr => first | (go_simp; done) | (go_simp; rfl))
                   intro gb286 hg w31 hbox hb
                   have n0_ := rbA HO280 hb
                   have n1_ := bkA BK274 hb
                   have n2_ := bkA BK275 hb
                   have n3_ := bsA HB hb
                   have n4_ := Aside0.mk (hbox)
                   have n5_ := szA HB hg
                   have n6_ := szA HB hg
                   have n7_ := neA BK274 hg
                   have n8_ := neB BK274 hg
                   have n9_ := neA BK275 hg
                   have n10_ := neB BK275 hg
                   clear HO280
                   clear BK274
                   clear BK275
                   clear HB
                   have HO280 := n0_
                   have BK274 := n1_
                   have BK275 := n2_
                   have HB := n3_
                   have BK286 := n4_
                   have GW286 := n5_
                   have GE286 := n6_
                   have NB274_286 := n7_
                   have NB286_274 := n8_
                   have NB275_286 := n9_
                   have NB286_275 := n10_
                   clear n0_ n1_ n2_ n3_ n4_ n5_ n6_ n7_ n8_ n9_ n10_
                   clear hb hbox hg
                   refine hK.out _ _ ⟨(blk_cell BK274.out 0).trans rfl, (blk_cell BK274.out 1).trans rfl, (blk_cell BK275.out 0).trans rfl, (blk_cell BK275.out 1).trans rfl⟩ (fun hHeld => ?_)
                   clear hK K
                   refine norm_ (a' := ?_) ?_ ?_
                   rotate_left
                   ·show Act.put _ (some 6) _ = _
                    simp only [Act.put, List.setIfInBounds_toArray, List.set_cons_zero, List.set_cons_succ, i64_w, i32_w]
                    rfl
                   exact norm_ (by first | (simp only [putAll, Act.put, List.setIfInBounds_toArray, List.set_cons_zero, List.set_cons_succ]; done) | (simp only [putAll, Act.put, List.setIfInBounds_toArray, List.set_cons_zero, List.set_cons_succ]; rfl)) (hJ1_5 (v279, gb286) _ ⟨hHeld, (by (with_reducible repeat (first | apply Kd.R_alloc | apply Kd.R_drewN | apply Kd.R_drew)); exact HO280.out), (by (with_reducible repeat (first | refine blk_drewN ?_ _ | refine blk_drew ?_ | refine blk_alloc ?_ _)); exact BK274.out), (by (with_reducible repeat (first | refine blk_drewN ?_ _ | refine blk_drew ?_ | refine blk_alloc ?_ _)); exact BK275.out), (by (with_reducible repeat (first | refine blk_drewN ?_ _ | refine blk_drew ?_ | refine blk_alloc ?_ _)); exact BK286.out), GW286.out, GE286.out, NB274_286.out, NB286_274.out, NB275_286.out, NB286_275.out, (by repeat (first | (with_reducible first | exact HB.out | apply below_alloc | apply pw_below_drewN | apply below_drew1 | refine below_set ?_ GE274.out | refine below_set ?_ GE275.out | refine below_set ?_ GE286.out) | exact HB.out))⟩)
                ·skip
                 rintro ⟨gb285, gb286⟩ w31 ⟨hS_, h0_, h1_, h2_, h3_, h4_, h5_, h6_, h7_, h8_, h9_, h10_, h11_, h12_, h13_, h14_, h15_, h16_, h17_, h18_⟩
                 have n0_ : Aside0 (w31.heap[gb274]? = some (.cells #[.int .i64 a0_0, .slice A0_1 l0_1.length c0_1] 38 (0, 0))) := ⟨h0_⟩
                 have n1_ : Aside0 (w31.heap[gb275]? = some (.cells #[.int .i64 a1_0, .slice A1_1 l1_1.length c1_1] 38 (0, 0))) := ⟨h1_⟩
                 have n2_ : Aside0 (w31.heap[gb285]? = some (.cells #[.int .i64 0, .slice none 0 0] 38 (0, 0))) := ⟨h2_⟩
                 have n3_ : Aside0 (w31.heap[gb286]? = some (.cells #[.int .i64 0, .slice none 0 0] 38 (0, 0))) := ⟨h3_⟩
                 have n4_ : Aside0 (w.heap.size ≤ gb285) := ⟨h4_⟩
                 have n5_ : Aside0 (w.heap.size ≤ gb285) := ⟨h5_⟩
                 have n6_ : Aside0 (gb274 ≠ gb285) := ⟨h6_⟩
                 have n7_ : Aside0 (gb285 ≠ gb274) := ⟨h7_⟩
                 have n8_ : Aside0 (gb275 ≠ gb285) := ⟨h8_⟩
                 have n9_ : Aside0 (gb285 ≠ gb275) := ⟨h9_⟩
                 have n10_ : Aside0 (gb286 ≠ gb285) := ⟨h10_⟩
                 have n11_ : Aside0 (gb285 ≠ gb286) := ⟨h11_⟩
                 have n12_ : Aside0 (w.heap.size ≤ gb286) := ⟨h12_⟩
                 have n13_ : Aside0 (w.heap.size ≤ gb286) := ⟨h13_⟩
                 have n14_ : Aside0 (gb274 ≠ gb286) := ⟨h14_⟩
                 have n15_ : Aside0 (gb286 ≠ gb274) := ⟨h15_⟩
                 have n16_ : Aside0 (gb275 ≠ gb286) := ⟨h16_⟩
                 have n17_ : Aside0 (gb286 ≠ gb275) := ⟨h17_⟩
                 have n18_ : Aside0 (Below w.heap.size w w31) := ⟨h18_⟩
                 clear BK274
                 clear BK275
                 clear HB
                 clear h0_ h1_ h2_ h3_ h4_ h5_ h6_ h7_ h8_ h9_ h10_ h11_ h12_ h13_ h14_ h15_ h16_ h17_ h18_
                 have BK274 := n0_
                 have BK275 := n1_
                 have BK285 := n2_
                 have BK286 := n3_
                 have GW285 := n4_
                 have GE285 := n5_
                 have NB274_285 := n6_
                 have NB285_274 := n7_
                 have NB275_285 := n8_
                 have NB285_275 := n9_
                 have NB286_285 := n10_
                 have NB285_286 := n11_
                 have GW286 := n12_
                 have GE286 := n13_
                 have NB274_286 := n14_
                 have NB286_274 := n15_
                 have NB275_286 := n16_
                 have NB286_275 := n17_
                 have HB := n18_
                 clear n0_ n1_ n2_ n3_ n4_ n5_ n6_ n7_ n8_ n9_ n10_ n11_ n12_ n13_ n14_ n15_ n16_ n17_ n18_
                 have hHeld : w31.cell? ⟨gb274, 0, none⟩ = some (.int .i64 a0_0) ∧ w31.cell? ⟨gb274, 1, none⟩ = some (.slice A0_1 l0_1.length c0_1) ∧ w31.cell? ⟨gb275, 0, none⟩ = some (.int .i64 a1_0) ∧ w31.cell? ⟨gb275, 1, none⟩ = some (.slice A1_1 l1_1.length c1_1) := hS_
                 refine norm_ (a' := ?_) ?_ ?_
                 rotate_left
                 ·simp only [putAll, Act.put, List.setIfInBounds_toArray, List.set_cons_zero, List.set_cons_succ]
                  rfl
                 refine one_ (i := 1) (N := some 22) #[true, true, true, false, true, true, false, false] rfl rfl (one_of HT_.out (by kernel_rfl)) (by decide) (fun K hK => ?_)
                 refine goes_ Try.func24 (by kernel_rfl) rfl #[.agg #[.int .i64 a0_0, .slice A0_1 l0_1.length c0_1]] (by rfl) rfl rfl (by (try simp only [List.map_toArray, List.map_cons, List.map_nil]); first | done | rfl | (simp only [List.length_drop, List.length_take]; rfl)) ?_
                 with_reducible refine (dragnetref09_Copy.calls a0_0 _ _ l0_1 t277 t278 _ ?side1 ?side2 A5.out).mono ?_
                 (case side1 => repeat (first | exact (Kd.C_below HR0_1.out HB.out) | (with_reducible refine Kd.C_alloc ?_ _) | (with_reducible refine Kd.C_drewN ?_ _) | (with_reducible refine Kd.C_drew ?_)))
                 (case side2 => exact HC0_1.out)
                 rintro e w32 ⟨v279, rfl, ho0, hb⟩
                 refine ⟨_, rfl, ?_⟩
                 have n0_ := Aside0.mk (Kd.R_lower ho0 (below_size (by repeat (first | (with_reducible first | exact HB.out | apply below_alloc | apply pw_below_drewN | apply below_drew1 | refine below_set ?_ GE274.out | refine below_set ?_ GE275.out | refine below_set ?_ GE285.out | refine below_set ?_ GE286.out) | exact HB.out))))
                 have n1_ := bkA BK274 hb
                 have n2_ := bkA BK275 hb
                 have n3_ := bkA BK285 hb
                 have n4_ := bkA BK286 hb
                 have n5_ := bsA HB hb
                 clear BK274
                 clear BK275
                 clear BK285
                 clear BK286
                 clear HB
                 have HO280 := n0_
                 have BK274 := n1_
                 have BK275 := n2_
                 have BK285 := n3_
                 have BK286 := n4_
                 have HB := n5_
                 clear n0_ n1_ n2_ n3_ n4_ n5_
                 (try clear hb)
                 (try clear hb2)
                 (try clear hk)
                 (try clear hi)
                 (try clear ho0)
                 refine hK.out _ _ ⟨(blk_cell BK274.out 0).trans rfl, (blk_cell BK274.out 1).trans rfl, (blk_cell BK275.out 0).trans rfl, (blk_cell BK275.out 1).trans rfl⟩ (fun hHeld => ?_)
                 clear hK K
                 refine norm_ (a' := ?_) ?_ ?_
                 rotate_left
                 ·show Act.put _ (some 22) _ = _
                  simp only [Act.put, List.setIfInBounds_toArray, List.set_cons_zero, List.set_cons_succ, i64_w, i32_w]
                  rfl
                 exact norm_ (by first | (simp only [putAll, Act.put, List.setIfInBounds_toArray, List.set_cons_zero, List.set_cons_succ]; done) | (simp only [putAll, Act.put, List.setIfInBounds_toArray, List.set_cons_zero, List.set_cons_succ]; rfl)) (hJ1_4_5 (v279, gb285, gb286) _ ⟨hHeld, (by (with_reducible repeat (first | apply Kd.R_alloc | apply Kd.R_drewN | apply Kd.R_drew)); exact HO280.out), (by (with_reducible repeat (first | refine blk_drewN ?_ _ | refine blk_drew ?_ | refine blk_alloc ?_ _)); exact BK274.out), (by (with_reducible repeat (first | refine blk_drewN ?_ _ | refine blk_drew ?_ | refine blk_alloc ?_ _)); exact BK275.out), (by (with_reducible repeat (first | refine blk_drewN ?_ _ | refine blk_drew ?_ | refine blk_alloc ?_ _)); exact BK285.out), (by (with_reducible repeat (first | refine blk_drewN ?_ _ | refine blk_drew ?_ | refine blk_alloc ?_ _)); exact BK286.out), GW285.out, GE285.out, NB274_285.out, NB285_274.out, NB275_285.out, NB285_275.out, NB286_285.out, NB285_286.out, GW286.out, GE286.out, NB274_286.out, NB286_274.out, NB275_286.out, NB286_275.out, (by repeat (first | (with_reducible first | exact HB.out | apply below_alloc | apply pw_below_drewN | apply below_drew1 | refine below_set ?_ GE274.out | refine below_set ?_ GE275.out | refine below_set ?_ GE285.out | refine below_set ?_ GE286.out) | exact HB.out))⟩)
               ·skip
                rintro ⟨v279, gb286⟩ w31 ⟨hS_, h0_, h1_, h2_, h3_, h4_, h5_, h6_, h7_, h8_, h9_, h10_⟩
                have n0_ : Aside0 (Kd.R (Kd.int .u64) 66 w31 w.heap.size (fun _ => True) v279 t278) := ⟨h0_⟩
                have n1_ : Aside0 (w31.heap[gb274]? = some (.cells #[.int .i64 a0_0, .slice A0_1 l0_1.length c0_1] 38 (0, 0))) := ⟨h1_⟩
                have n2_ : Aside0 (w31.heap[gb275]? = some (.cells #[.int .i64 a1_0, .slice A1_1 l1_1.length c1_1] 38 (0, 0))) := ⟨h2_⟩
                have n3_ : Aside0 (w31.heap[gb286]? = some (.cells #[.int .i64 0, .slice none 0 0] 38 (0, 0))) := ⟨h3_⟩
                have n4_ : Aside0 (w.heap.size ≤ gb286) := ⟨h4_⟩
                have n5_ : Aside0 (w.heap.size ≤ gb286) := ⟨h5_⟩
                have n6_ : Aside0 (gb274 ≠ gb286) := ⟨h6_⟩
                have n7_ : Aside0 (gb286 ≠ gb274) := ⟨h7_⟩
                have n8_ : Aside0 (gb275 ≠ gb286) := ⟨h8_⟩
                have n9_ : Aside0 (gb286 ≠ gb275) := ⟨h9_⟩
                have n10_ : Aside0 (Below w.heap.size w w31) := ⟨h10_⟩
                clear BK274
                clear BK275
                clear HB
                clear h0_ h1_ h2_ h3_ h4_ h5_ h6_ h7_ h8_ h9_ h10_
                have HO280 := n0_
                have BK274 := n1_
                have BK275 := n2_
                have BK286 := n3_
                have GW286 := n4_
                have GE286 := n5_
                have NB274_286 := n6_
                have NB286_274 := n7_
                have NB275_286 := n8_
                have NB286_275 := n9_
                have HB := n10_
                clear n0_ n1_ n2_ n3_ n4_ n5_ n6_ n7_ n8_ n9_ n10_
                have hHeld : w31.cell? ⟨gb274, 0, none⟩ = some (.int .i64 a0_0) ∧ w31.cell? ⟨gb274, 1, none⟩ = some (.slice A0_1 l0_1.length c0_1) ∧ w31.cell? ⟨gb275, 0, none⟩ = some (.int .i64 a1_0) ∧ w31.cell? ⟨gb275, 1, none⟩ = some (.slice A1_1 l1_1.length c1_1) := hS_
                refine norm_ (a' := ?_) ?_ ?_
                rotate_left
                ·simp only [putAll, Act.put, List.setIfInBounds_toArray, List.set_cons_zero, List.set_cons_succ]
                 rfl
                refine two_ (i := 3) (j := 4) (Ni := some 24) (Nj := some 5) #[true, true, true, true, false, true, false, false] #[true, true, true, false, true, true, false, false] rfl rfl rfl rfl (two_of HT_.out (by kernel_rfl)) (by decide) (by decide) (fun K hK => ?_) (fun K hK => ?_)
                ·skip
                 refine goes_ Try.func24 (by kernel_rfl) rfl #[.agg #[.int .i64 a1_0, .slice A1_1 l1_1.length c1_1]] (by rfl) rfl rfl (by (try simp only [List.map_toArray, List.map_cons, List.map_nil]); first | done | rfl | (simp only [List.length_drop, List.length_take]; rfl)) ?_
                 with_reducible refine (dragnetref09_Copy.calls a1_0 _ _ l1_1 t281 t282 _ ?side1 ?side2 A6.out).mono ?_
                 (case side1 => repeat (first | exact (Kd.C_below HR1_1.out HB.out) | (with_reducible refine Kd.C_alloc ?_ _) | (with_reducible refine Kd.C_drewN ?_ _) | (with_reducible refine Kd.C_drew ?_)))
                 (case side2 => exact HC1_1.out)
                 rintro e w32 ⟨v283, rfl, ho0, hb⟩
                 refine ⟨_, rfl, ?_⟩
                 have n0_ := Aside0.mk (Kd.R_elder' (by (with_reducible repeat (first | apply Kd.R_alloc | apply Kd.R_drewN | apply Kd.R_drew)); exact HO280.out) (Kd.R_base ho0) hb)
                 have n1_ := Aside0.mk (Kd.R_lower (Kd.R_new' ho0 (Kd.R_lt (by (with_reducible repeat (first | apply Kd.R_alloc | apply Kd.R_drewN | apply Kd.R_drew)); exact HO280.out))) (below_size (by repeat (first | (with_reducible first | exact HB.out | apply below_alloc | apply pw_below_drewN | apply below_drew1 | refine below_set ?_ GE274.out | refine below_set ?_ GE275.out | refine below_set ?_ GE286.out) | exact HB.out))))
                 have n2_ := bkA BK274 hb
                 have n3_ := bkA BK275 hb
                 have n4_ := bkA BK286 hb
                 have n5_ := bsA HB hb
                 clear HO280
                 clear BK274
                 clear BK275
                 clear BK286
                 clear HB
                 have HO280 := n0_
                 have HO284 := n1_
                 have BK274 := n2_
                 have BK275 := n3_
                 have BK286 := n4_
                 have HB := n5_
                 clear n0_ n1_ n2_ n3_ n4_ n5_
                 (try clear hb)
                 (try clear hb2)
                 (try clear hk)
                 (try clear hi)
                 (try clear ho0)
                 refine hK.out _ _ ⟨(blk_cell BK274.out 0).trans rfl, (blk_cell BK274.out 1).trans rfl, (blk_cell BK275.out 0).trans rfl, (blk_cell BK275.out 1).trans rfl⟩ (fun hHeld => ?_)
                 clear hK K
                 refine norm_ (a' := ?_) ?_ ?_
                 rotate_left
                 ·show Act.put _ (some 24) _ = _
                  simp only [Act.put, List.setIfInBounds_toArray, List.set_cons_zero, List.set_cons_succ, i64_w, i32_w]
                  rfl
                 exact norm_ (by first | (simp only [putAll, Act.put, List.setIfInBounds_toArray, List.set_cons_zero, List.set_cons_succ]; done) | (simp only [putAll, Act.put, List.setIfInBounds_toArray, List.set_cons_zero, List.set_cons_succ]; rfl)) (hJ1_3_5 (v279, v283, gb286) _ ⟨hHeld, (by (with_reducible repeat (first | apply Kd.R_alloc | apply Kd.R_drewN | apply Kd.R_drew)); exact Kd.R_mono HO280.out (fun _ hk => hk.2)), (by (with_reducible repeat (first | apply Kd.R_alloc | apply Kd.R_drewN | apply Kd.R_drew)); exact Kd.R_mono HO284.out (fun _ hk => hk.2)), (by (with_reducible repeat (first | refine blk_drewN ?_ _ | refine blk_drew ?_ | refine blk_alloc ?_ _)); exact BK274.out), (by (with_reducible repeat (first | refine blk_drewN ?_ _ | refine blk_drew ?_ | refine blk_alloc ?_ _)); exact BK275.out), (by (with_reducible repeat (first | refine blk_drewN ?_ _ | refine blk_drew ?_ | refine blk_alloc ?_ _)); exact BK286.out), GW286.out, GE286.out, NB274_286.out, NB286_274.out, NB275_286.out, NB286_275.out, (by repeat (first | (with_reducible first | exact HB.out | apply below_alloc | apply pw_below_drewN | apply below_drew1 | refine below_set ?_ GE274.out | refine below_set ?_ GE275.out | refine below_set ?_ GE286.out) | exact HB.out))⟩)
                ·skip
                 refine box_step ?hg (N := 5) ?hd (cs := #[.int .i64 0, .slice none 0 0]) (t := 38) ?hr ?_; (case hd => rfl); (case hg => rfl); (case hr => first | (go_simp; done) | (go_simp; rfl))
                 intro gb285 hg w32 hbox hb
                 have n0_ := rbA HO280 hb
                 have n1_ := bkA BK274 hb
                 have n2_ := bkA BK275 hb
                 have n3_ := bkA BK286 hb
                 have n4_ := bsA HB hb
                 have n5_ := Aside0.mk (hbox)
                 have n6_ := szA HB hg
                 have n7_ := szA HB hg
                 have n8_ := neA BK274 hg
                 have n9_ := neB BK274 hg
                 have n10_ := neA BK275 hg
                 have n11_ := neB BK275 hg
                 have n12_ := neA BK286 hg
                 have n13_ := neB BK286 hg
                 clear HO280
                 clear BK274
                 clear BK275
                 clear BK286
                 clear HB
                 have HO280 := n0_
                 have BK274 := n1_
                 have BK275 := n2_
                 have BK286 := n3_
                 have HB := n4_
                 have BK285 := n5_
                 have GW285 := n6_
                 have GE285 := n7_
                 have NB274_285 := n8_
                 have NB285_274 := n9_
                 have NB275_285 := n10_
                 have NB285_275 := n11_
                 have NB286_285 := n12_
                 have NB285_286 := n13_
                 clear n0_ n1_ n2_ n3_ n4_ n5_ n6_ n7_ n8_ n9_ n10_ n11_ n12_ n13_
                 clear hb hbox hg
                 refine hK.out _ _ ⟨(blk_cell BK274.out 0).trans rfl, (blk_cell BK274.out 1).trans rfl, (blk_cell BK275.out 0).trans rfl, (blk_cell BK275.out 1).trans rfl⟩ (fun hHeld => ?_)
                 clear hK K
                 refine norm_ (a' := ?_) ?_ ?_
                 rotate_left
                 ·show Act.put _ (some 5) _ = _
                  simp only [Act.put, List.setIfInBounds_toArray, List.set_cons_zero, List.set_cons_succ, i64_w, i32_w]
                  rfl
                 exact norm_ (by first | (simp only [putAll, Act.put, List.setIfInBounds_toArray, List.set_cons_zero, List.set_cons_succ]; done) | (simp only [putAll, Act.put, List.setIfInBounds_toArray, List.set_cons_zero, List.set_cons_succ]; rfl)) (hJ1_4_5 (v279, gb285, gb286) _ ⟨hHeld, (by (with_reducible repeat (first | apply Kd.R_alloc | apply Kd.R_drewN | apply Kd.R_drew)); exact HO280.out), (by (with_reducible repeat (first | refine blk_drewN ?_ _ | refine blk_drew ?_ | refine blk_alloc ?_ _)); exact BK274.out), (by (with_reducible repeat (first | refine blk_drewN ?_ _ | refine blk_drew ?_ | refine blk_alloc ?_ _)); exact BK275.out), (by (with_reducible repeat (first | refine blk_drewN ?_ _ | refine blk_drew ?_ | refine blk_alloc ?_ _)); exact BK285.out), (by (with_reducible repeat (first | refine blk_drewN ?_ _ | refine blk_drew ?_ | refine blk_alloc ?_ _)); exact BK286.out), GW285.out, GE285.out, NB274_285.out, NB285_274.out, NB275_285.out, NB285_275.out, NB286_285.out, NB285_286.out, GW286.out, GE286.out, NB274_286.out, NB286_274.out, NB275_286.out, NB286_275.out, (by repeat (first | (with_reducible first | exact HB.out | apply below_alloc | apply pw_below_drewN | apply below_drew1 | refine below_set ?_ GE274.out | refine below_set ?_ GE275.out | refine below_set ?_ GE286.out | refine below_set ?_ GE285.out) | exact HB.out))⟩)
              ·skip
               rintro ⟨v279, gb285⟩ w31 ⟨hS_, h0_, h1_, h2_, h3_, h4_, h5_, h6_, h7_, h8_, h9_, h10_⟩
               have n0_ : Aside0 (Kd.R (Kd.int .u64) 66 w31 w.heap.size (fun _ => True) v279 t278) := ⟨h0_⟩
               have n1_ : Aside0 (w31.heap[gb274]? = some (.cells #[.int .i64 a0_0, .slice A0_1 l0_1.length c0_1] 38 (0, 0))) := ⟨h1_⟩
               have n2_ : Aside0 (w31.heap[gb275]? = some (.cells #[.int .i64 a1_0, .slice A1_1 l1_1.length c1_1] 38 (0, 0))) := ⟨h2_⟩
               have n3_ : Aside0 (w31.heap[gb285]? = some (.cells #[.int .i64 0, .slice none 0 0] 38 (0, 0))) := ⟨h3_⟩
               have n4_ : Aside0 (w.heap.size ≤ gb285) := ⟨h4_⟩
               have n5_ : Aside0 (w.heap.size ≤ gb285) := ⟨h5_⟩
               have n6_ : Aside0 (gb274 ≠ gb285) := ⟨h6_⟩
               have n7_ : Aside0 (gb285 ≠ gb274) := ⟨h7_⟩
               have n8_ : Aside0 (gb275 ≠ gb285) := ⟨h8_⟩
               have n9_ : Aside0 (gb285 ≠ gb275) := ⟨h9_⟩
               have n10_ : Aside0 (Below w.heap.size w w31) := ⟨h10_⟩
               clear BK274
               clear BK275
               clear HB
               clear h0_ h1_ h2_ h3_ h4_ h5_ h6_ h7_ h8_ h9_ h10_
               have HO280 := n0_
               have BK274 := n1_
               have BK275 := n2_
               have BK285 := n3_
               have GW285 := n4_
               have GE285 := n5_
               have NB274_285 := n6_
               have NB285_274 := n7_
               have NB275_285 := n8_
               have NB285_275 := n9_
               have HB := n10_
               clear n0_ n1_ n2_ n3_ n4_ n5_ n6_ n7_ n8_ n9_ n10_
               have hHeld : w31.cell? ⟨gb274, 0, none⟩ = some (.int .i64 a0_0) ∧ w31.cell? ⟨gb274, 1, none⟩ = some (.slice A0_1 l0_1.length c0_1) ∧ w31.cell? ⟨gb275, 0, none⟩ = some (.int .i64 a1_0) ∧ w31.cell? ⟨gb275, 1, none⟩ = some (.slice A1_1 l1_1.length c1_1) := hS_
               refine norm_ (a' := ?_) ?_ ?_
               rotate_left
               ·simp only [putAll, Act.put, List.setIfInBounds_toArray, List.set_cons_zero, List.set_cons_succ]
                rfl
               refine two_ (i := 3) (j := 5) (Ni := some 24) (Nj := some 6) #[true, true, true, true, true, false, false, false] #[true, true, true, false, true, true, false, false] rfl rfl rfl rfl (two_of HT_.out (by kernel_rfl)) (by decide) (by decide) (fun K hK => ?_) (fun K hK => ?_)
               ·skip
                refine goes_ Try.func24 (by kernel_rfl) rfl #[.agg #[.int .i64 a1_0, .slice A1_1 l1_1.length c1_1]] (by rfl) rfl rfl (by (try simp only [List.map_toArray, List.map_cons, List.map_nil]); first | done | rfl | (simp only [List.length_drop, List.length_take]; rfl)) ?_
                with_reducible refine (dragnetref09_Copy.calls a1_0 _ _ l1_1 t281 t282 _ ?side1 ?side2 A6.out).mono ?_
                (case side1 => repeat (first | exact (Kd.C_below HR1_1.out HB.out) | (with_reducible refine Kd.C_alloc ?_ _) | (with_reducible refine Kd.C_drewN ?_ _) | (with_reducible refine Kd.C_drew ?_)))
                (case side2 => exact HC1_1.out)
                rintro e w32 ⟨v283, rfl, ho0, hb⟩
                refine ⟨_, rfl, ?_⟩
                have n0_ := Aside0.mk (Kd.R_elder' (by (with_reducible repeat (first | apply Kd.R_alloc | apply Kd.R_drewN | apply Kd.R_drew)); exact HO280.out) (Kd.R_base ho0) hb)
                have n1_ := Aside0.mk (Kd.R_lower (Kd.R_new' ho0 (Kd.R_lt (by (with_reducible repeat (first | apply Kd.R_alloc | apply Kd.R_drewN | apply Kd.R_drew)); exact HO280.out))) (below_size (by repeat (first | (with_reducible first | exact HB.out | apply below_alloc | apply pw_below_drewN | apply below_drew1 | refine below_set ?_ GE274.out | refine below_set ?_ GE275.out | refine below_set ?_ GE285.out) | exact HB.out))))
                have n2_ := bkA BK274 hb
                have n3_ := bkA BK275 hb
                have n4_ := bkA BK285 hb
                have n5_ := bsA HB hb
                clear HO280
                clear BK274
                clear BK275
                clear BK285
                clear HB
                have HO280 := n0_
                have HO284 := n1_
                have BK274 := n2_
                have BK275 := n3_
                have BK285 := n4_
                have HB := n5_
                clear n0_ n1_ n2_ n3_ n4_ n5_
                (try clear hb)
                (try clear hb2)
                (try clear hk)
                (try clear hi)
                (try clear ho0)
                refine hK.out _ _ ⟨(blk_cell BK274.out 0).trans rfl, (blk_cell BK274.out 1).trans rfl, (blk_cell BK275.out 0).trans rfl, (blk_cell BK275.out 1).trans rfl⟩ (fun hHeld => ?_)
                clear hK K
                refine norm_ (a' := ?_) ?_ ?_
                rotate_left
                ·show Act.put _ (some 24) _ = _
                 simp only [Act.put, List.setIfInBounds_toArray, List.set_cons_zero, List.set_cons_succ, i64_w, i32_w]
                 rfl
                exact norm_ (by first | (simp only [putAll, Act.put, List.setIfInBounds_toArray, List.set_cons_zero, List.set_cons_succ]; done) | (simp only [putAll, Act.put, List.setIfInBounds_toArray, List.set_cons_zero, List.set_cons_succ]; rfl)) (hJ1_3_4 (v279, v283, gb285) _ ⟨hHeld, (by (with_reducible repeat (first | apply Kd.R_alloc | apply Kd.R_drewN | apply Kd.R_drew)); exact Kd.R_mono HO280.out (fun _ hk => hk.2)), (by (with_reducible repeat (first | apply Kd.R_alloc | apply Kd.R_drewN | apply Kd.R_drew)); exact Kd.R_mono HO284.out (fun _ hk => hk.2)), (by (with_reducible repeat (first | refine blk_drewN ?_ _ | refine blk_drew ?_ | refine blk_alloc ?_ _)); exact BK274.out), (by (with_reducible repeat (first | refine blk_drewN ?_ _ | refine blk_drew ?_ | refine blk_alloc ?_ _)); exact BK275.out), (by (with_reducible repeat (first | refine blk_drewN ?_ _ | refine blk_drew ?_ | refine blk_alloc ?_ _)); exact BK285.out), GW285.out, GE285.out, NB274_285.out, NB285_274.out, NB275_285.out, NB285_275.out, (by repeat (first | (with_reducible first | exact HB.out | apply below_alloc | apply pw_below_drewN | apply below_drew1 | refine below_set ?_ GE274.out | refine below_set ?_ GE275.out | refine below_set ?_ GE285.out) | exact HB.out))⟩)
               ·skip
                refine box_step ?hg (N := 6) ?hd (cs := #[.int .i64 0, .slice none 0 0]) (t := 38) ?hr ?_; (case hd => rfl); (case hg => rfl); (case hr => first | (go_simp; done) | (go_simp; rfl))
                intro gb286 hg w32 hbox hb
                have n0_ := rbA HO280 hb
                have n1_ := bkA BK274 hb
                have n2_ := bkA BK275 hb
                have n3_ := bkA BK285 hb
                have n4_ := bsA HB hb
                have n5_ := Aside0.mk (hbox)
                have n6_ := szA HB hg
                have n7_ := szA HB hg
                have n8_ := neA BK274 hg
                have n9_ := neB BK274 hg
                have n10_ := neA BK275 hg
                have n11_ := neB BK275 hg
                have n12_ := neA BK285 hg
                have n13_ := neB BK285 hg
                clear HO280
                clear BK274
                clear BK275
                clear BK285
                clear HB
                have HO280 := n0_
                have BK274 := n1_
                have BK275 := n2_
                have BK285 := n3_
                have HB := n4_
                have BK286 := n5_
                have GW286 := n6_
                have GE286 := n7_
                have NB274_286 := n8_
                have NB286_274 := n9_
                have NB275_286 := n10_
                have NB286_275 := n11_
                have NB285_286 := n12_
                have NB286_285 := n13_
                clear n0_ n1_ n2_ n3_ n4_ n5_ n6_ n7_ n8_ n9_ n10_ n11_ n12_ n13_
                clear hb hbox hg
                refine hK.out _ _ ⟨(blk_cell BK274.out 0).trans rfl, (blk_cell BK274.out 1).trans rfl, (blk_cell BK275.out 0).trans rfl, (blk_cell BK275.out 1).trans rfl⟩ (fun hHeld => ?_)
                clear hK K
                refine norm_ (a' := ?_) ?_ ?_
                rotate_left
                ·show Act.put _ (some 6) _ = _
                 simp only [Act.put, List.setIfInBounds_toArray, List.set_cons_zero, List.set_cons_succ, i64_w, i32_w]
                 rfl
                exact norm_ (by first | (simp only [putAll, Act.put, List.setIfInBounds_toArray, List.set_cons_zero, List.set_cons_succ]; done) | (simp only [putAll, Act.put, List.setIfInBounds_toArray, List.set_cons_zero, List.set_cons_succ]; rfl)) (hJ1_4_5 (v279, gb285, gb286) _ ⟨hHeld, (by (with_reducible repeat (first | apply Kd.R_alloc | apply Kd.R_drewN | apply Kd.R_drew)); exact HO280.out), (by (with_reducible repeat (first | refine blk_drewN ?_ _ | refine blk_drew ?_ | refine blk_alloc ?_ _)); exact BK274.out), (by (with_reducible repeat (first | refine blk_drewN ?_ _ | refine blk_drew ?_ | refine blk_alloc ?_ _)); exact BK275.out), (by (with_reducible repeat (first | refine blk_drewN ?_ _ | refine blk_drew ?_ | refine blk_alloc ?_ _)); exact BK285.out), (by (with_reducible repeat (first | refine blk_drewN ?_ _ | refine blk_drew ?_ | refine blk_alloc ?_ _)); exact BK286.out), GW285.out, GE285.out, NB274_285.out, NB285_274.out, NB275_285.out, NB285_275.out, NB286_285.out, NB285_286.out, GW286.out, GE286.out, NB274_286.out, NB286_274.out, NB275_286.out, NB286_275.out, (by repeat (first | (with_reducible first | exact HB.out | apply below_alloc | apply pw_below_drewN | apply below_drew1 | refine below_set ?_ GE274.out | refine below_set ?_ GE275.out | refine below_set ?_ GE285.out | refine below_set ?_ GE286.out) | exact HB.out))⟩)
             ·skip
              rintro ⟨v279, v283⟩ w31 ⟨hS_, h0_, h1_, h2_, h3_, h4_⟩
              have n0_ : Aside0 (Kd.R (Kd.int .u64) 66 w31 w.heap.size (fun k_ => some k_ ≠ (v283 : Value).ownBlock) v279 t278) := ⟨h0_⟩
              have n1_ : Aside0 (Kd.R (Kd.int .u64) 66 w31 w.heap.size (fun k_ => some k_ ≠ (v279 : Value).ownBlock) v283 t282) := ⟨h1_⟩
              have n2_ : Aside0 (w31.heap[gb274]? = some (.cells #[.int .i64 a0_0, .slice A0_1 l0_1.length c0_1] 38 (0, 0))) := ⟨h2_⟩
              have n3_ : Aside0 (w31.heap[gb275]? = some (.cells #[.int .i64 a1_0, .slice A1_1 l1_1.length c1_1] 38 (0, 0))) := ⟨h3_⟩
              have n4_ : Aside0 (Below w.heap.size w w31) := ⟨h4_⟩
              clear BK274
              clear BK275
              clear HB
              clear h0_ h1_ h2_ h3_ h4_
              have HO280 := n0_
              have HO284 := n1_
              have BK274 := n2_
              have BK275 := n3_
              have HB := n4_
              clear n0_ n1_ n2_ n3_ n4_
              have hHeld : w31.cell? ⟨gb274, 0, none⟩ = some (.int .i64 a0_0) ∧ w31.cell? ⟨gb274, 1, none⟩ = some (.slice A0_1 l0_1.length c0_1) ∧ w31.cell? ⟨gb275, 0, none⟩ = some (.int .i64 a1_0) ∧ w31.cell? ⟨gb275, 1, none⟩ = some (.slice A1_1 l1_1.length c1_1) := hS_
              refine norm_ (a' := ?_) ?_ ?_
              rotate_left
              ·simp only [putAll, Act.put, List.setIfInBounds_toArray, List.set_cons_zero, List.set_cons_succ]
               rfl
              refine two_ (i := 4) (j := 5) (Ni := some 5) (Nj := some 6) #[true, true, true, true, true, false, false, false] #[true, true, true, true, false, true, false, false] rfl rfl rfl rfl (two_of HT_.out (by kernel_rfl)) (by decide) (by decide) (fun K hK => ?_) (fun K hK => ?_)
              ·skip
               refine box_step ?hg (N := 5) ?hd (cs := #[.int .i64 0, .slice none 0 0]) (t := 38) ?hr ?_; (case hd => rfl); (case hg => rfl); (case hr => first | (go_simp; done) | (go_simp; rfl))
               intro gb285 hg w32 hbox hb
               have n0_ := rbA HO280 hb
               have n1_ := rbA HO284 hb
               have n2_ := bkA BK274 hb
               have n3_ := bkA BK275 hb
               have n4_ := bsA HB hb
               have n5_ := Aside0.mk (hbox)
               have n6_ := szA HB hg
               have n7_ := szA HB hg
               have n8_ := neA BK274 hg
               have n9_ := neB BK274 hg
               have n10_ := neA BK275 hg
               have n11_ := neB BK275 hg
               clear HO280
               clear HO284
               clear BK274
               clear BK275
               clear HB
               have HO280 := n0_
               have HO284 := n1_
               have BK274 := n2_
               have BK275 := n3_
               have HB := n4_
               have BK285 := n5_
               have GW285 := n6_
               have GE285 := n7_
               have NB274_285 := n8_
               have NB285_274 := n9_
               have NB275_285 := n10_
               have NB285_275 := n11_
               clear n0_ n1_ n2_ n3_ n4_ n5_ n6_ n7_ n8_ n9_ n10_ n11_
               clear hb hbox hg
               refine hK.out _ _ ⟨(blk_cell BK274.out 0).trans rfl, (blk_cell BK274.out 1).trans rfl, (blk_cell BK275.out 0).trans rfl, (blk_cell BK275.out 1).trans rfl⟩ (fun hHeld => ?_)
               clear hK K
               refine norm_ (a' := ?_) ?_ ?_
               rotate_left
               ·show Act.put _ (some 5) _ = _
                simp only [Act.put, List.setIfInBounds_toArray, List.set_cons_zero, List.set_cons_succ, i64_w, i32_w]
                rfl
               exact norm_ (by first | (simp only [putAll, Act.put, List.setIfInBounds_toArray, List.set_cons_zero, List.set_cons_succ]; done) | (simp only [putAll, Act.put, List.setIfInBounds_toArray, List.set_cons_zero, List.set_cons_succ]; rfl)) (hJ1_3_4 (v279, v283, gb285) _ ⟨hHeld, (by (with_reducible repeat (first | apply Kd.R_alloc | apply Kd.R_drewN | apply Kd.R_drew)); exact HO280.out), (by (with_reducible repeat (first | apply Kd.R_alloc | apply Kd.R_drewN | apply Kd.R_drew)); exact HO284.out), (by (with_reducible repeat (first | refine blk_drewN ?_ _ | refine blk_drew ?_ | refine blk_alloc ?_ _)); exact BK274.out), (by (with_reducible repeat (first | refine blk_drewN ?_ _ | refine blk_drew ?_ | refine blk_alloc ?_ _)); exact BK275.out), (by (with_reducible repeat (first | refine blk_drewN ?_ _ | refine blk_drew ?_ | refine blk_alloc ?_ _)); exact BK285.out), GW285.out, GE285.out, NB274_285.out, NB285_274.out, NB275_285.out, NB285_275.out, (by repeat (first | (with_reducible first | exact HB.out | apply below_alloc | apply pw_below_drewN | apply below_drew1 | refine below_set ?_ GE274.out | refine below_set ?_ GE275.out | refine below_set ?_ GE285.out) | exact HB.out))⟩)
              ·skip
               refine box_step ?hg (N := 6) ?hd (cs := #[.int .i64 0, .slice none 0 0]) (t := 38) ?hr ?_; (case hd => rfl); (case hg => rfl); (case hr => first | (go_simp; done) | (go_simp; rfl))
               intro gb286 hg w32 hbox hb
               have n0_ := rbA HO280 hb
               have n1_ := rbA HO284 hb
               have n2_ := bkA BK274 hb
               have n3_ := bkA BK275 hb
               have n4_ := bsA HB hb
               have n5_ := Aside0.mk (hbox)
               have n6_ := szA HB hg
               have n7_ := szA HB hg
               have n8_ := neA BK274 hg
               have n9_ := neB BK274 hg
               have n10_ := neA BK275 hg
               have n11_ := neB BK275 hg
               clear HO280
               clear HO284
               clear BK274
               clear BK275
               clear HB
               have HO280 := n0_
               have HO284 := n1_
               have BK274 := n2_
               have BK275 := n3_
               have HB := n4_
               have BK286 := n5_
               have GW286 := n6_
               have GE286 := n7_
               have NB274_286 := n8_
               have NB286_274 := n9_
               have NB275_286 := n10_
               have NB286_275 := n11_
               clear n0_ n1_ n2_ n3_ n4_ n5_ n6_ n7_ n8_ n9_ n10_ n11_
               clear hb hbox hg
               refine hK.out _ _ ⟨(blk_cell BK274.out 0).trans rfl, (blk_cell BK274.out 1).trans rfl, (blk_cell BK275.out 0).trans rfl, (blk_cell BK275.out 1).trans rfl⟩ (fun hHeld => ?_)
               clear hK K
               refine norm_ (a' := ?_) ?_ ?_
               rotate_left
               ·show Act.put _ (some 6) _ = _
                simp only [Act.put, List.setIfInBounds_toArray, List.set_cons_zero, List.set_cons_succ, i64_w, i32_w]
                rfl
               exact norm_ (by first | (simp only [putAll, Act.put, List.setIfInBounds_toArray, List.set_cons_zero, List.set_cons_succ]; done) | (simp only [putAll, Act.put, List.setIfInBounds_toArray, List.set_cons_zero, List.set_cons_succ]; rfl)) (hJ1_3_5 (v279, v283, gb286) _ ⟨hHeld, (by (with_reducible repeat (first | apply Kd.R_alloc | apply Kd.R_drewN | apply Kd.R_drew)); exact HO280.out), (by (with_reducible repeat (first | apply Kd.R_alloc | apply Kd.R_drewN | apply Kd.R_drew)); exact HO284.out), (by (with_reducible repeat (first | refine blk_drewN ?_ _ | refine blk_drew ?_ | refine blk_alloc ?_ _)); exact BK274.out), (by (with_reducible repeat (first | refine blk_drewN ?_ _ | refine blk_drew ?_ | refine blk_alloc ?_ _)); exact BK275.out), (by (with_reducible repeat (first | refine blk_drewN ?_ _ | refine blk_drew ?_ | refine blk_alloc ?_ _)); exact BK286.out), GW286.out, GE286.out, NB274_286.out, NB286_274.out, NB275_286.out, NB286_275.out, (by repeat (first | (with_reducible first | exact HB.out | apply below_alloc | apply pw_below_drewN | apply below_drew1 | refine below_set ?_ GE274.out | refine below_set ?_ GE275.out | refine below_set ?_ GE286.out) | exact HB.out))⟩)
            ·skip
             rintro ⟨v279, gb285, gb286⟩ w32 ⟨hS_, h0_, h1_, h2_, h3_, h4_, h5_, h6_, h7_, h8_, h9_, h10_, h11_, h12_, h13_, h14_, h15_, h16_, h17_, h18_, h19_⟩
             have n0_ : Aside0 (Kd.R (Kd.int .u64) 66 w32 w.heap.size (fun _ => True) v279 t278) := ⟨h0_⟩
             have n1_ : Aside0 (w32.heap[gb274]? = some (.cells #[.int .i64 a0_0, .slice A0_1 l0_1.length c0_1] 38 (0, 0))) := ⟨h1_⟩
             have n2_ : Aside0 (w32.heap[gb275]? = some (.cells #[.int .i64 a1_0, .slice A1_1 l1_1.length c1_1] 38 (0, 0))) := ⟨h2_⟩
             have n3_ : Aside0 (w32.heap[gb285]? = some (.cells #[.int .i64 0, .slice none 0 0] 38 (0, 0))) := ⟨h3_⟩
             have n4_ : Aside0 (w32.heap[gb286]? = some (.cells #[.int .i64 0, .slice none 0 0] 38 (0, 0))) := ⟨h4_⟩
             have n5_ : Aside0 (w.heap.size ≤ gb285) := ⟨h5_⟩
             have n6_ : Aside0 (w.heap.size ≤ gb285) := ⟨h6_⟩
             have n7_ : Aside0 (gb274 ≠ gb285) := ⟨h7_⟩
             have n8_ : Aside0 (gb285 ≠ gb274) := ⟨h8_⟩
             have n9_ : Aside0 (gb275 ≠ gb285) := ⟨h9_⟩
             have n10_ : Aside0 (gb285 ≠ gb275) := ⟨h10_⟩
             have n11_ : Aside0 (gb286 ≠ gb285) := ⟨h11_⟩
             have n12_ : Aside0 (gb285 ≠ gb286) := ⟨h12_⟩
             have n13_ : Aside0 (w.heap.size ≤ gb286) := ⟨h13_⟩
             have n14_ : Aside0 (w.heap.size ≤ gb286) := ⟨h14_⟩
             have n15_ : Aside0 (gb274 ≠ gb286) := ⟨h15_⟩
             have n16_ : Aside0 (gb286 ≠ gb274) := ⟨h16_⟩
             have n17_ : Aside0 (gb275 ≠ gb286) := ⟨h17_⟩
             have n18_ : Aside0 (gb286 ≠ gb275) := ⟨h18_⟩
             have n19_ : Aside0 (Below w.heap.size w w32) := ⟨h19_⟩
             clear BK274
             clear BK275
             clear HB
             clear h0_ h1_ h2_ h3_ h4_ h5_ h6_ h7_ h8_ h9_ h10_ h11_ h12_ h13_ h14_ h15_ h16_ h17_ h18_ h19_
             have HO280 := n0_
             have BK274 := n1_
             have BK275 := n2_
             have BK285 := n3_
             have BK286 := n4_
             have GW285 := n5_
             have GE285 := n6_
             have NB274_285 := n7_
             have NB285_274 := n8_
             have NB275_285 := n9_
             have NB285_275 := n10_
             have NB286_285 := n11_
             have NB285_286 := n12_
             have GW286 := n13_
             have GE286 := n14_
             have NB274_286 := n15_
             have NB286_274 := n16_
             have NB275_286 := n17_
             have NB286_275 := n18_
             have HB := n19_
             clear n0_ n1_ n2_ n3_ n4_ n5_ n6_ n7_ n8_ n9_ n10_ n11_ n12_ n13_ n14_ n15_ n16_ n17_ n18_ n19_
             have hHeld : w32.cell? ⟨gb274, 0, none⟩ = some (.int .i64 a0_0) ∧ w32.cell? ⟨gb274, 1, none⟩ = some (.slice A0_1 l0_1.length c0_1) ∧ w32.cell? ⟨gb275, 0, none⟩ = some (.int .i64 a1_0) ∧ w32.cell? ⟨gb275, 1, none⟩ = some (.slice A1_1 l1_1.length c1_1) := hS_
             refine norm_ (a' := ?_) ?_ ?_
             rotate_left
             ·simp only [putAll, Act.put, List.setIfInBounds_toArray, List.set_cons_zero, List.set_cons_succ]
              rfl
             refine one_ (i := 3) (N := some 24) #[true, true, true, true, true, true, false, false] rfl rfl (one_of HT_.out (by kernel_rfl)) (by decide) (fun K hK => ?_)
             refine goes_ Try.func24 (by kernel_rfl) rfl #[.agg #[.int .i64 a1_0, .slice A1_1 l1_1.length c1_1]] (by rfl) rfl rfl (by (try simp only [List.map_toArray, List.map_cons, List.map_nil]); first | done | rfl | (simp only [List.length_drop, List.length_take]; rfl)) ?_
             with_reducible refine (dragnetref09_Copy.calls a1_0 _ _ l1_1 t281 t282 _ ?side1 ?side2 A6.out).mono ?_
             (case side1 => repeat (first | exact (Kd.C_below HR1_1.out HB.out) | (with_reducible refine Kd.C_alloc ?_ _) | (with_reducible refine Kd.C_drewN ?_ _) | (with_reducible refine Kd.C_drew ?_)))
             (case side2 => exact HC1_1.out)
             rintro e w33 ⟨v283, rfl, ho0, hb⟩
             refine ⟨_, rfl, ?_⟩
             have n0_ := Aside0.mk (Kd.R_elder' (by (with_reducible repeat (first | apply Kd.R_alloc | apply Kd.R_drewN | apply Kd.R_drew)); exact HO280.out) (Kd.R_base ho0) hb)
             have n1_ := Aside0.mk (Kd.R_lower (Kd.R_new' ho0 (Kd.R_lt (by (with_reducible repeat (first | apply Kd.R_alloc | apply Kd.R_drewN | apply Kd.R_drew)); exact HO280.out))) (below_size (by repeat (first | (with_reducible first | exact HB.out | apply below_alloc | apply pw_below_drewN | apply below_drew1 | refine below_set ?_ GE274.out | refine below_set ?_ GE275.out | refine below_set ?_ GE285.out | refine below_set ?_ GE286.out) | exact HB.out))))
             have n2_ := bkA BK274 hb
             have n3_ := bkA BK275 hb
             have n4_ := bkA BK285 hb
             have n5_ := bkA BK286 hb
             have n6_ := bsA HB hb
             clear HO280
             clear BK274
             clear BK275
             clear BK285
             clear BK286
             clear HB
             have HO280 := n0_
             have HO284 := n1_
             have BK274 := n2_
             have BK275 := n3_
             have BK285 := n4_
             have BK286 := n5_
             have HB := n6_
             clear n0_ n1_ n2_ n3_ n4_ n5_ n6_
             (try clear hb)
             (try clear hb2)
             (try clear hk)
             (try clear hi)
             (try clear ho0)
             refine hK.out _ _ ⟨(blk_cell BK274.out 0).trans rfl, (blk_cell BK274.out 1).trans rfl, (blk_cell BK275.out 0).trans rfl, (blk_cell BK275.out 1).trans rfl⟩ (fun hHeld => ?_)
             clear hK K
             refine norm_ (a' := ?_) ?_ ?_
             rotate_left
             ·show Act.put _ (some 24) _ = _
              simp only [Act.put, List.setIfInBounds_toArray, List.set_cons_zero, List.set_cons_succ, i64_w, i32_w]
              rfl
             exact norm_ (by first | (simp only [putAll, Act.put, List.setIfInBounds_toArray, List.set_cons_zero, List.set_cons_succ]; done) | (simp only [putAll, Act.put, List.setIfInBounds_toArray, List.set_cons_zero, List.set_cons_succ]; rfl)) (hJ1_3_4_5 (v279, v283, gb285, gb286) _ ⟨hHeld, (by (with_reducible repeat (first | apply Kd.R_alloc | apply Kd.R_drewN | apply Kd.R_drew)); exact Kd.R_mono HO280.out (fun _ hk => hk.2)), (by (with_reducible repeat (first | apply Kd.R_alloc | apply Kd.R_drewN | apply Kd.R_drew)); exact Kd.R_mono HO284.out (fun _ hk => hk.2)), (by (with_reducible repeat (first | refine blk_drewN ?_ _ | refine blk_drew ?_ | refine blk_alloc ?_ _)); exact BK274.out), (by (with_reducible repeat (first | refine blk_drewN ?_ _ | refine blk_drew ?_ | refine blk_alloc ?_ _)); exact BK275.out), (by (with_reducible repeat (first | refine blk_drewN ?_ _ | refine blk_drew ?_ | refine blk_alloc ?_ _)); exact BK285.out), (by (with_reducible repeat (first | refine blk_drewN ?_ _ | refine blk_drew ?_ | refine blk_alloc ?_ _)); exact BK286.out), GW285.out, GE285.out, NB274_285.out, NB285_274.out, NB275_285.out, NB285_275.out, NB286_285.out, NB285_286.out, GW286.out, GE286.out, NB274_286.out, NB286_274.out, NB275_286.out, NB286_275.out, (by repeat (first | (with_reducible first | exact HB.out | apply below_alloc | apply pw_below_drewN | apply below_drew1 | refine below_set ?_ GE274.out | refine below_set ?_ GE275.out | refine below_set ?_ GE285.out | refine below_set ?_ GE286.out) | exact HB.out))⟩)
           ·skip
            rintro ⟨v279, v283, gb286⟩ w32 ⟨hS_, h0_, h1_, h2_, h3_, h4_, h5_, h6_, h7_, h8_, h9_, h10_, h11_⟩
            have n0_ : Aside0 (Kd.R (Kd.int .u64) 66 w32 w.heap.size (fun k_ => some k_ ≠ (v283 : Value).ownBlock) v279 t278) := ⟨h0_⟩
            have n1_ : Aside0 (Kd.R (Kd.int .u64) 66 w32 w.heap.size (fun k_ => some k_ ≠ (v279 : Value).ownBlock) v283 t282) := ⟨h1_⟩
            have n2_ : Aside0 (w32.heap[gb274]? = some (.cells #[.int .i64 a0_0, .slice A0_1 l0_1.length c0_1] 38 (0, 0))) := ⟨h2_⟩
            have n3_ : Aside0 (w32.heap[gb275]? = some (.cells #[.int .i64 a1_0, .slice A1_1 l1_1.length c1_1] 38 (0, 0))) := ⟨h3_⟩
            have n4_ : Aside0 (w32.heap[gb286]? = some (.cells #[.int .i64 0, .slice none 0 0] 38 (0, 0))) := ⟨h4_⟩
            have n5_ : Aside0 (w.heap.size ≤ gb286) := ⟨h5_⟩
            have n6_ : Aside0 (w.heap.size ≤ gb286) := ⟨h6_⟩
            have n7_ : Aside0 (gb274 ≠ gb286) := ⟨h7_⟩
            have n8_ : Aside0 (gb286 ≠ gb274) := ⟨h8_⟩
            have n9_ : Aside0 (gb275 ≠ gb286) := ⟨h9_⟩
            have n10_ : Aside0 (gb286 ≠ gb275) := ⟨h10_⟩
            have n11_ : Aside0 (Below w.heap.size w w32) := ⟨h11_⟩
            clear BK274
            clear BK275
            clear HB
            clear h0_ h1_ h2_ h3_ h4_ h5_ h6_ h7_ h8_ h9_ h10_ h11_
            have HO280 := n0_
            have HO284 := n1_
            have BK274 := n2_
            have BK275 := n3_
            have BK286 := n4_
            have GW286 := n5_
            have GE286 := n6_
            have NB274_286 := n7_
            have NB286_274 := n8_
            have NB275_286 := n9_
            have NB286_275 := n10_
            have HB := n11_
            clear n0_ n1_ n2_ n3_ n4_ n5_ n6_ n7_ n8_ n9_ n10_ n11_
            have hHeld : w32.cell? ⟨gb274, 0, none⟩ = some (.int .i64 a0_0) ∧ w32.cell? ⟨gb274, 1, none⟩ = some (.slice A0_1 l0_1.length c0_1) ∧ w32.cell? ⟨gb275, 0, none⟩ = some (.int .i64 a1_0) ∧ w32.cell? ⟨gb275, 1, none⟩ = some (.slice A1_1 l1_1.length c1_1) := hS_
            refine norm_ (a' := ?_) ?_ ?_
            rotate_left
            ·simp only [putAll, Act.put, List.setIfInBounds_toArray, List.set_cons_zero, List.set_cons_succ]
             rfl
            refine one_ (i := 4) (N := some 5) #[true, true, true, true, true, true, false, false] rfl rfl (one_of HT_.out (by kernel_rfl)) (by decide) (fun K hK => ?_)
            refine box_step ?hg (N := 5) ?hd (cs := #[.int .i64 0, .slice none 0 0]) (t := 38) ?hr ?_; (case hd => rfl); (case hg => rfl); (case hr => first | (go_simp; done) | (go_simp; rfl))
            intro gb285 hg w33 hbox hb
            have n0_ := rbA HO280 hb
            have n1_ := rbA HO284 hb
            have n2_ := bkA BK274 hb
            have n3_ := bkA BK275 hb
            have n4_ := bkA BK286 hb
            have n5_ := bsA HB hb
            have n6_ := Aside0.mk (hbox)
            have n7_ := szA HB hg
            have n8_ := szA HB hg
            have n9_ := neA BK274 hg
            have n10_ := neB BK274 hg
            have n11_ := neA BK275 hg
            have n12_ := neB BK275 hg
            have n13_ := neA BK286 hg
            have n14_ := neB BK286 hg
            clear HO280
            clear HO284
            clear BK274
            clear BK275
            clear BK286
            clear HB
            have HO280 := n0_
            have HO284 := n1_
            have BK274 := n2_
            have BK275 := n3_
            have BK286 := n4_
            have HB := n5_
            have BK285 := n6_
            have GW285 := n7_
            have GE285 := n8_
            have NB274_285 := n9_
            have NB285_274 := n10_
            have NB275_285 := n11_
            have NB285_275 := n12_
            have NB286_285 := n13_
            have NB285_286 := n14_
            clear n0_ n1_ n2_ n3_ n4_ n5_ n6_ n7_ n8_ n9_ n10_ n11_ n12_ n13_ n14_
            clear hb hbox hg
            refine hK.out _ _ ⟨(blk_cell BK274.out 0).trans rfl, (blk_cell BK274.out 1).trans rfl, (blk_cell BK275.out 0).trans rfl, (blk_cell BK275.out 1).trans rfl⟩ (fun hHeld => ?_)
            clear hK K
            refine norm_ (a' := ?_) ?_ ?_
            rotate_left
            ·show Act.put _ (some 5) _ = _
             simp only [Act.put, List.setIfInBounds_toArray, List.set_cons_zero, List.set_cons_succ, i64_w, i32_w]
             rfl
            exact norm_ (by first | (simp only [putAll, Act.put, List.setIfInBounds_toArray, List.set_cons_zero, List.set_cons_succ]; done) | (simp only [putAll, Act.put, List.setIfInBounds_toArray, List.set_cons_zero, List.set_cons_succ]; rfl)) (hJ1_3_4_5 (v279, v283, gb285, gb286) _ ⟨hHeld, (by (with_reducible repeat (first | apply Kd.R_alloc | apply Kd.R_drewN | apply Kd.R_drew)); exact HO280.out), (by (with_reducible repeat (first | apply Kd.R_alloc | apply Kd.R_drewN | apply Kd.R_drew)); exact HO284.out), (by (with_reducible repeat (first | refine blk_drewN ?_ _ | refine blk_drew ?_ | refine blk_alloc ?_ _)); exact BK274.out), (by (with_reducible repeat (first | refine blk_drewN ?_ _ | refine blk_drew ?_ | refine blk_alloc ?_ _)); exact BK275.out), (by (with_reducible repeat (first | refine blk_drewN ?_ _ | refine blk_drew ?_ | refine blk_alloc ?_ _)); exact BK285.out), (by (with_reducible repeat (first | refine blk_drewN ?_ _ | refine blk_drew ?_ | refine blk_alloc ?_ _)); exact BK286.out), GW285.out, GE285.out, NB274_285.out, NB285_274.out, NB275_285.out, NB285_275.out, NB286_285.out, NB285_286.out, GW286.out, GE286.out, NB274_286.out, NB286_274.out, NB275_286.out, NB286_275.out, (by repeat (first | (with_reducible first | exact HB.out | apply below_alloc | apply pw_below_drewN | apply below_drew1 | refine below_set ?_ GE274.out | refine below_set ?_ GE275.out | refine below_set ?_ GE286.out | refine below_set ?_ GE285.out) | exact HB.out))⟩)
          ·skip
           rintro ⟨v279, v283, gb285⟩ w32 ⟨hS_, h0_, h1_, h2_, h3_, h4_, h5_, h6_, h7_, h8_, h9_, h10_, h11_⟩
           have n0_ : Aside0 (Kd.R (Kd.int .u64) 66 w32 w.heap.size (fun k_ => some k_ ≠ (v283 : Value).ownBlock) v279 t278) := ⟨h0_⟩
           have n1_ : Aside0 (Kd.R (Kd.int .u64) 66 w32 w.heap.size (fun k_ => some k_ ≠ (v279 : Value).ownBlock) v283 t282) := ⟨h1_⟩
           have n2_ : Aside0 (w32.heap[gb274]? = some (.cells #[.int .i64 a0_0, .slice A0_1 l0_1.length c0_1] 38 (0, 0))) := ⟨h2_⟩
           have n3_ : Aside0 (w32.heap[gb275]? = some (.cells #[.int .i64 a1_0, .slice A1_1 l1_1.length c1_1] 38 (0, 0))) := ⟨h3_⟩
           have n4_ : Aside0 (w32.heap[gb285]? = some (.cells #[.int .i64 0, .slice none 0 0] 38 (0, 0))) := ⟨h4_⟩
           have n5_ : Aside0 (w.heap.size ≤ gb285) := ⟨h5_⟩
           have n6_ : Aside0 (w.heap.size ≤ gb285) := ⟨h6_⟩
           have n7_ : Aside0 (gb274 ≠ gb285) := ⟨h7_⟩
           have n8_ : Aside0 (gb285 ≠ gb274) := ⟨h8_⟩
           have n9_ : Aside0 (gb275 ≠ gb285) := ⟨h9_⟩
           have n10_ : Aside0 (gb285 ≠ gb275) := ⟨h10_⟩
           have n11_ : Aside0 (Below w.heap.size w w32) := ⟨h11_⟩
           clear BK274
           clear BK275
           clear HB
           clear h0_ h1_ h2_ h3_ h4_ h5_ h6_ h7_ h8_ h9_ h10_ h11_
           have HO280 := n0_
           have HO284 := n1_
           have BK274 := n2_
           have BK275 := n3_
           have BK285 := n4_
           have GW285 := n5_
           have GE285 := n6_
           have NB274_285 := n7_
           have NB285_274 := n8_
           have NB275_285 := n9_
           have NB285_275 := n10_
           have HB := n11_
           clear n0_ n1_ n2_ n3_ n4_ n5_ n6_ n7_ n8_ n9_ n10_ n11_
           have hHeld : w32.cell? ⟨gb274, 0, none⟩ = some (.int .i64 a0_0) ∧ w32.cell? ⟨gb274, 1, none⟩ = some (.slice A0_1 l0_1.length c0_1) ∧ w32.cell? ⟨gb275, 0, none⟩ = some (.int .i64 a1_0) ∧ w32.cell? ⟨gb275, 1, none⟩ = some (.slice A1_1 l1_1.length c1_1) := hS_
           refine norm_ (a' := ?_) ?_ ?_
           rotate_left
           ·simp only [putAll, Act.put, List.setIfInBounds_toArray, List.set_cons_zero, List.set_cons_succ]
            rfl
           refine one_ (i := 5) (N := some 6) #[true, true, true, true, true, true, false, false] rfl rfl (one_of HT_.out (by kernel_rfl)) (by decide) (fun K hK => ?_)
           refine box_step ?hg (N := 6) ?hd (cs := #[.int .i64 0, .slice none 0 0]) (t := 38) ?hr ?_; (case hd => rfl); (case hg => rfl); (case hr => first | (go_simp; done) | (go_simp; rfl))
           intro gb286 hg w33 hbox hb
           have n0_ := rbA HO280 hb
           have n1_ := rbA HO284 hb
           have n2_ := bkA BK274 hb
           have n3_ := bkA BK275 hb
           have n4_ := bkA BK285 hb
           have n5_ := bsA HB hb
           have n6_ := Aside0.mk (hbox)
           have n7_ := szA HB hg
           have n8_ := szA HB hg
           have n9_ := neA BK274 hg
           have n10_ := neB BK274 hg
           have n11_ := neA BK275 hg
           have n12_ := neB BK275 hg
           have n13_ := neA BK285 hg
           have n14_ := neB BK285 hg
           clear HO280
           clear HO284
           clear BK274
           clear BK275
           clear BK285
           clear HB
           have HO280 := n0_
           have HO284 := n1_
           have BK274 := n2_
           have BK275 := n3_
           have BK285 := n4_
           have HB := n5_
           have BK286 := n6_
           have GW286 := n7_
           have GE286 := n8_
           have NB274_286 := n9_
           have NB286_274 := n10_
           have NB275_286 := n11_
           have NB286_275 := n12_
           have NB285_286 := n13_
           have NB286_285 := n14_
           clear n0_ n1_ n2_ n3_ n4_ n5_ n6_ n7_ n8_ n9_ n10_ n11_ n12_ n13_ n14_
           clear hb hbox hg
           refine hK.out _ _ ⟨(blk_cell BK274.out 0).trans rfl, (blk_cell BK274.out 1).trans rfl, (blk_cell BK275.out 0).trans rfl, (blk_cell BK275.out 1).trans rfl⟩ (fun hHeld => ?_)
           clear hK K
           refine norm_ (a' := ?_) ?_ ?_
           rotate_left
           ·show Act.put _ (some 6) _ = _
            simp only [Act.put, List.setIfInBounds_toArray, List.set_cons_zero, List.set_cons_succ, i64_w, i32_w]
            rfl
           exact norm_ (by first | (simp only [putAll, Act.put, List.setIfInBounds_toArray, List.set_cons_zero, List.set_cons_succ]; done) | (simp only [putAll, Act.put, List.setIfInBounds_toArray, List.set_cons_zero, List.set_cons_succ]; rfl)) (hJ1_3_4_5 (v279, v283, gb285, gb286) _ ⟨hHeld, (by (with_reducible repeat (first | apply Kd.R_alloc | apply Kd.R_drewN | apply Kd.R_drew)); exact HO280.out), (by (with_reducible repeat (first | apply Kd.R_alloc | apply Kd.R_drewN | apply Kd.R_drew)); exact HO284.out), (by (with_reducible repeat (first | refine blk_drewN ?_ _ | refine blk_drew ?_ | refine blk_alloc ?_ _)); exact BK274.out), (by (with_reducible repeat (first | refine blk_drewN ?_ _ | refine blk_drew ?_ | refine blk_alloc ?_ _)); exact BK275.out), (by (with_reducible repeat (first | refine blk_drewN ?_ _ | refine blk_drew ?_ | refine blk_alloc ?_ _)); exact BK285.out), (by (with_reducible repeat (first | refine blk_drewN ?_ _ | refine blk_drew ?_ | refine blk_alloc ?_ _)); exact BK286.out), GW285.out, GE285.out, NB274_285.out, NB285_274.out, NB275_285.out, NB285_275.out, NB286_285.out, NB285_286.out, GW286.out, GE286.out, NB274_286.out, NB286_274.out, NB275_286.out, NB286_275.out, (by repeat (first | (with_reducible first | exact HB.out | apply below_alloc | apply pw_below_drewN | apply below_drew1 | refine below_set ?_ GE274.out | refine below_set ?_ GE275.out | refine below_set ?_ GE285.out | refine below_set ?_ GE286.out) | exact HB.out))⟩)
         rintro ⟨v279, v283, gb285, gb286⟩ w33 ⟨hS_, h0_, h1_, h2_, h3_, h4_, h5_, h6_, h7_, h8_, h9_, h10_, h11_, h12_, h13_, h14_, h15_, h16_, h17_, h18_, h19_, h20_⟩
         have n0_ : Aside0 (Kd.R (Kd.int .u64) 66 w33 w.heap.size (fun k_ => some k_ ≠ (v283 : Value).ownBlock) v279 t278) := ⟨h0_⟩
         have n1_ : Aside0 (Kd.R (Kd.int .u64) 66 w33 w.heap.size (fun k_ => some k_ ≠ (v279 : Value).ownBlock) v283 t282) := ⟨h1_⟩
         have n2_ : Aside0 (w33.heap[gb274]? = some (.cells #[.int .i64 a0_0, .slice A0_1 l0_1.length c0_1] 38 (0, 0))) := ⟨h2_⟩
         have n3_ : Aside0 (w33.heap[gb275]? = some (.cells #[.int .i64 a1_0, .slice A1_1 l1_1.length c1_1] 38 (0, 0))) := ⟨h3_⟩
         have n4_ : Aside0 (w33.heap[gb285]? = some (.cells #[.int .i64 0, .slice none 0 0] 38 (0, 0))) := ⟨h4_⟩
         have n5_ : Aside0 (w33.heap[gb286]? = some (.cells #[.int .i64 0, .slice none 0 0] 38 (0, 0))) := ⟨h5_⟩
         have n6_ : Aside0 (w.heap.size ≤ gb285) := ⟨h6_⟩
         have n7_ : Aside0 (w.heap.size ≤ gb285) := ⟨h7_⟩
         have n8_ : Aside0 (gb274 ≠ gb285) := ⟨h8_⟩
         have n9_ : Aside0 (gb285 ≠ gb274) := ⟨h9_⟩
         have n10_ : Aside0 (gb275 ≠ gb285) := ⟨h10_⟩
         have n11_ : Aside0 (gb285 ≠ gb275) := ⟨h11_⟩
         have n12_ : Aside0 (gb286 ≠ gb285) := ⟨h12_⟩
         have n13_ : Aside0 (gb285 ≠ gb286) := ⟨h13_⟩
         have n14_ : Aside0 (w.heap.size ≤ gb286) := ⟨h14_⟩
         have n15_ : Aside0 (w.heap.size ≤ gb286) := ⟨h15_⟩
         have n16_ : Aside0 (gb274 ≠ gb286) := ⟨h16_⟩
         have n17_ : Aside0 (gb286 ≠ gb274) := ⟨h17_⟩
         have n18_ : Aside0 (gb275 ≠ gb286) := ⟨h18_⟩
         have n19_ : Aside0 (gb286 ≠ gb275) := ⟨h19_⟩
         have n20_ : Aside0 (Below w.heap.size w w33) := ⟨h20_⟩
         clear BK274
         clear BK275
         clear HB
         clear h0_ h1_ h2_ h3_ h4_ h5_ h6_ h7_ h8_ h9_ h10_ h11_ h12_ h13_ h14_ h15_ h16_ h17_ h18_ h19_ h20_
         have HO280 := n0_
         have HO284 := n1_
         have BK274 := n2_
         have BK275 := n3_
         have BK285 := n4_
         have BK286 := n5_
         have GW285 := n6_
         have GE285 := n7_
         have NB274_285 := n8_
         have NB285_274 := n9_
         have NB275_285 := n10_
         have NB285_275 := n11_
         have NB286_285 := n12_
         have NB285_286 := n13_
         have GW286 := n14_
         have GE286 := n15_
         have NB274_286 := n16_
         have NB286_274 := n17_
         have NB275_286 := n18_
         have NB286_275 := n19_
         have HB := n20_
         clear n0_ n1_ n2_ n3_ n4_ n5_ n6_ n7_ n8_ n9_ n10_ n11_ n12_ n13_ n14_ n15_ n16_ n17_ n18_ n19_ n20_
         have hHeld : w33.cell? ⟨gb274, 0, none⟩ = some (.int .i64 a0_0) ∧ w33.cell? ⟨gb274, 1, none⟩ = some (.slice A0_1 l0_1.length c0_1) ∧ w33.cell? ⟨gb275, 0, none⟩ = some (.int .i64 a1_0) ∧ w33.cell? ⟨gb275, 1, none⟩ = some (.slice A1_1 l1_1.length c1_1) := hS_
         obtain ⟨Ao35, co35, eo35⟩ := Kd.R_slice HO280.out
         (first | subst eo35 | (injection eo35 with f1_ f2_ f3_; have f4_ := f1_.symm; have f5_ := f3_.symm; clear f1_ f2_ f3_; subst f4_; subst f5_))
         obtain ⟨Ao38, co38, eo38⟩ := Kd.R_slice HO284.out
         (first | subst eo38 | (injection eo38 with f1_ f2_ f3_; have f4_ := f1_.symm; have f5_ := f3_.symm; clear f1_ f2_ f3_; subst f4_; subst f5_))
         refine norm_ (a' := ?_) ?_ ?_
         rotate_left
         ·simp only [putAll, Act.put, List.setIfInBounds_toArray, List.set_cons_zero, List.set_cons_succ]
          rfl
         refine one_ (i := 6) (N := none) #[true, true, true, true, true, true, true, false] rfl rfl (one_of HT_.out (by kernel_rfl)) (by decide) (fun K hK => ?_)
         have hs34 : w33.cell? ⟨gb285, 0, none⟩ = some (.int .i64 0) := (blk_cell BK285.out 0).trans rfl
         have hfs34 := blk_frozen BK285.out 0
         have hns34_0 := NB274_285.out
         have hns34_1 := NB275_285.out
         have hns34_3 := NB286_285.out
         have hms34_0 := NB285_274.out
         have hms34_1 := NB285_275.out
         have hms34_3 := NB285_286.out
         have hs36 : w33.cell? ⟨gb285, 1, none⟩ = some (.slice none 0 0) := (blk_cell BK285.out 1).trans rfl
         have hfs36 := blk_frozen BK285.out 1
         have hns36_0 := NB274_285.out
         have hns36_1 := NB275_285.out
         have hns36_3 := NB286_285.out
         have hms36_0 := NB285_274.out
         have hms36_1 := NB285_275.out
         have hms36_3 := NB285_286.out
         refine skip_ (w1 := ?_) (by rfl) rfl ?_ ?_
         rotate_left
         ·go_simp
          rfl
         refine hK.out _ _ ⟨((cell_far (p := ⟨gb285, _, none⟩) NB274_285.out _).trans (((cell_far (p := ⟨gb285, _, none⟩) NB274_285.out _).trans (hHeld.1)))), ((cell_far (p := ⟨gb285, _, none⟩) NB274_285.out _).trans (((cell_far (p := ⟨gb285, _, none⟩) NB274_285.out _).trans (hHeld.2.1)))), ((cell_far (p := ⟨gb285, _, none⟩) NB275_285.out _).trans (((cell_far (p := ⟨gb285, _, none⟩) NB275_285.out _).trans (hHeld.2.2.1)))), ((cell_far (p := ⟨gb285, _, none⟩) NB275_285.out _).trans (((cell_far (p := ⟨gb285, _, none⟩) NB275_285.out _).trans (hHeld.2.2.2))))⟩ (fun hHeld => ?_)
         clear hK K
         refine one_ (i := 7) (N := none) #[true, true, true, true, true, true, true, true] rfl rfl (one_of HT_.out (by kernel_rfl)) (by decide) (fun K hK => ?_)
         have hs37 : w33.cell? ⟨gb286, 0, none⟩ = some (.int .i64 0) := (blk_cell BK286.out 0).trans rfl
         have hfs37 := blk_frozen BK286.out 0
         have hns37_0 := NB274_286.out
         have hns37_1 := NB275_286.out
         have hns37_2 := NB285_286.out
         have hms37_0 := NB286_274.out
         have hms37_1 := NB286_275.out
         have hms37_2 := NB286_285.out
         have hs39 : w33.cell? ⟨gb286, 1, none⟩ = some (.slice none 0 0) := (blk_cell BK286.out 1).trans rfl
         have hfs39 := blk_frozen BK286.out 1
         have hns39_0 := NB274_286.out
         have hns39_1 := NB275_286.out
         have hns39_2 := NB285_286.out
         have hms39_0 := NB286_274.out
         have hms39_1 := NB286_275.out
         have hms39_2 := NB286_285.out
         refine skip_ (w1 := ?_) (by rfl) rfl ?_ ?_
         rotate_left
         ·go_simp
          rfl
         refine hK.out _ _ ⟨((cell_far (p := ⟨gb286, _, none⟩) NB274_286.out _).trans (((cell_far (p := ⟨gb286, _, none⟩) NB274_286.out _).trans (hHeld.1)))), ((cell_far (p := ⟨gb286, _, none⟩) NB274_286.out _).trans (((cell_far (p := ⟨gb286, _, none⟩) NB274_286.out _).trans (hHeld.2.1)))), ((cell_far (p := ⟨gb286, _, none⟩) NB275_286.out _).trans (((cell_far (p := ⟨gb286, _, none⟩) NB275_286.out _).trans (hHeld.2.2.1)))), ((cell_far (p := ⟨gb286, _, none⟩) NB275_286.out _).trans (((cell_far (p := ⟨gb286, _, none⟩) NB275_286.out _).trans (hHeld.2.2.2))))⟩ (fun hHeld => ?_)
         clear hK K
         refine done_ (done_of HT_.out (by kernel_rfl)) ?_
         have hnb40 := NB285_274.out
         have hnc40 := NB274_285.out
         have hnb41 := NB285_275.out
         have hnc41 := NB275_285.out
         have hnb42 := NB285_286.out
         have hnc42 := NB286_285.out
         have hcz43_0 : w33.cell? ⟨gb285, 0, none⟩ = some (.int .i64 0) := (blk_cell BK285.out 0).trans rfl
         have hcz43_1 : w33.cell? ⟨gb285, 1, none⟩ = some (.slice none 0 0) := (blk_cell BK285.out 1).trans rfl
         have hfz43_0 := blk_frozen BK285.out 0
         have hfz43_1 := blk_frozen BK285.out 1
         have hnb44 := NB286_274.out
         have hnc44 := NB274_286.out
         have hnb45 := NB286_275.out
         have hnc45 := NB275_286.out
         have hcz46_0 : w33.cell? ⟨gb286, 0, none⟩ = some (.int .i64 0) := (blk_cell BK286.out 0).trans rfl
         have hcz46_1 : w33.cell? ⟨gb286, 1, none⟩ = some (.slice none 0 0) := (blk_cell BK286.out 1).trans rfl
         have hfz46_0 := blk_frozen BK286.out 0
         have hfz46_1 := blk_frozen BK286.out 1
         try go_wp2_with (first | ((with_reducible refine gate_callee (f := 25) rfl ?_); refine goesL_ (some 28) rfl rfl Try.func25 (by kernel_rfl) rfl #[.agg #[.int .i64 t277, .slice Ao35 t278.length co35], .agg #[.int .i64 t281, .slice Ao38 t282.length co38]] rfl (by (try simp only [List.map_toArray, List.map_cons, List.map_nil]); first | done | rfl | (simp only [List.length_drop, List.length_take]; rfl)) ?_; (with_reducible refine (rowset_And.calls k t277 _ _ t278 t281 _ _ t282 t287 t288 t291 _ ?side1 ?side2 ?side3 ?side4 A7.out).mono ?_); (case side1 => refine (Kd.R_reads' (e := 66) (base := w.heap.size) (ok := fun k_ => some k_ ≠ (.slice Ao38 t282.length co38 : Value).ownBlock) (n := t278.length) (c := co35) ?_).2.2; exact (by (with_reducible repeat (first | apply Kd.R_alloc | apply Kd.R_drewN | apply Kd.R_drew)); exact (Kd.R_mono (Kd.R_mono (Kd.R_far (p := ⟨gb286, 1, none⟩) (Kd.R_far (p := ⟨gb286, 0, none⟩) (Kd.R_far (p := ⟨gb285, 1, none⟩) (Kd.R_far (p := ⟨gb285, 0, none⟩) (Kd.R_types (Kd.R_types HO280.out BK285.out (by decide)) BK286.out (by decide)) (fun _ hk => hk.1.2) (.int .i64 t277)) (fun _ hk => hk.1.2) (.slice Ao35 t278.length co35)) (fun _ hk => hk.2) (.int .i64 t281)) (fun _ hk => hk.2) (.slice Ao38 t282.length co38)) (fun _ h_ => h_.1)) (fun _ h_ => h_.1)))); (case side2 => exact (Kd.R_reads' HO280.out).2.1); (case side3 => refine (Kd.R_reads' (e := 66) (base := w.heap.size) (ok := fun k_ => some k_ ≠ (.slice Ao35 t278.length co35 : Value).ownBlock) (n := t282.length) (c := co38) ?_).2.2; exact (by (with_reducible repeat (first | apply Kd.R_alloc | apply Kd.R_drewN | apply Kd.R_drew)); exact (Kd.R_mono (Kd.R_mono (Kd.R_far (p := ⟨gb286, 1, none⟩) (Kd.R_far (p := ⟨gb286, 0, none⟩) (Kd.R_far (p := ⟨gb285, 1, none⟩) (Kd.R_far (p := ⟨gb285, 0, none⟩) (Kd.R_types (Kd.R_types HO284.out BK285.out (by decide)) BK286.out (by decide)) (fun _ hk => hk.1.2) (.int .i64 t277)) (fun _ hk => hk.1.2) (.slice Ao35 t278.length co35)) (fun _ hk => hk.2) (.int .i64 t281)) (fun _ hk => hk.2) (.slice Ao38 t282.length co38)) (fun _ h_ => h_.1)) (fun _ h_ => h_.1)))); (case side4 => exact (Kd.R_reads' HO284.out).2.1); rintro e w47 ⟨v289, rfl, ho0, hb⟩; refine ⟨_, rfl, ?_⟩; have n0_ := Aside0.mk (Kd.R_elder' (by (with_reducible repeat (first | apply Kd.R_alloc | apply Kd.R_drewN | apply Kd.R_drew)); exact (Kd.R_mono (Kd.R_mono (Kd.R_far (p := ⟨gb286, 1, none⟩) (Kd.R_far (p := ⟨gb286, 0, none⟩) (Kd.R_far (p := ⟨gb285, 1, none⟩) (Kd.R_far (p := ⟨gb285, 0, none⟩) (Kd.R_types (Kd.R_types HO280.out BK285.out (by decide)) BK286.out (by decide)) (fun _ hk => hk.1.2) (.int .i64 t277)) (fun _ hk => hk.1.2) (.slice Ao35 t278.length co35)) (fun _ hk => hk.2) (.int .i64 t281)) (fun _ hk => hk.2) (.slice Ao38 t282.length co38)) (fun _ h_ => h_.1)) (fun _ h_ => h_.1))) (Kd.R_base ho0) hb); have n1_ := Aside0.mk (Kd.R_elder' (by (with_reducible repeat (first | apply Kd.R_alloc | apply Kd.R_drewN | apply Kd.R_drew)); exact (Kd.R_mono (Kd.R_mono (Kd.R_far (p := ⟨gb286, 1, none⟩) (Kd.R_far (p := ⟨gb286, 0, none⟩) (Kd.R_far (p := ⟨gb285, 1, none⟩) (Kd.R_far (p := ⟨gb285, 0, none⟩) (Kd.R_types (Kd.R_types HO284.out BK285.out (by decide)) BK286.out (by decide)) (fun _ hk => hk.1.2) (.int .i64 t277)) (fun _ hk => hk.1.2) (.slice Ao35 t278.length co35)) (fun _ hk => hk.2) (.int .i64 t281)) (fun _ hk => hk.2) (.slice Ao38 t282.length co38)) (fun _ h_ => h_.1)) (fun _ h_ => h_.1))) (Kd.R_base ho0) hb); have n2_ := Aside0.mk (Kd.R_lower (Kd.R_new' (Kd.R_new' ho0 (Kd.R_lt (by (with_reducible repeat (first | apply Kd.R_alloc | apply Kd.R_drewN | apply Kd.R_drew)); exact (Kd.R_mono (Kd.R_mono (Kd.R_far (p := ⟨gb286, 1, none⟩) (Kd.R_far (p := ⟨gb286, 0, none⟩) (Kd.R_far (p := ⟨gb285, 1, none⟩) (Kd.R_far (p := ⟨gb285, 0, none⟩) (Kd.R_types (Kd.R_types HO280.out BK285.out (by decide)) BK286.out (by decide)) (fun _ hk => hk.1.2) (.int .i64 t277)) (fun _ hk => hk.1.2) (.slice Ao35 t278.length co35)) (fun _ hk => hk.2) (.int .i64 t281)) (fun _ hk => hk.2) (.slice Ao38 t282.length co38)) (fun _ h_ => h_.1)) (fun _ h_ => h_.1))))) (Kd.R_lt (by (with_reducible repeat (first | apply Kd.R_alloc | apply Kd.R_drewN | apply Kd.R_drew)); exact (Kd.R_mono (Kd.R_mono (Kd.R_far (p := ⟨gb286, 1, none⟩) (Kd.R_far (p := ⟨gb286, 0, none⟩) (Kd.R_far (p := ⟨gb285, 1, none⟩) (Kd.R_far (p := ⟨gb285, 0, none⟩) (Kd.R_types (Kd.R_types HO284.out BK285.out (by decide)) BK286.out (by decide)) (fun _ hk => hk.1.2) (.int .i64 t277)) (fun _ hk => hk.1.2) (.slice Ao35 t278.length co35)) (fun _ hk => hk.2) (.int .i64 t281)) (fun _ hk => hk.2) (.slice Ao38 t282.length co38)) (fun _ h_ => h_.1)) (fun _ h_ => h_.1))))) (below_size (by repeat (first | (with_reducible first | exact HB.out | apply below_alloc | apply pw_below_drewN | apply below_drew1 | refine below_set ?_ GE274.out | refine below_set ?_ GE275.out | refine below_set ?_ GE285.out | refine below_set ?_ GE286.out) | exact HB.out)))); have n3_ := bkA BK274 hb; have n4_ := bkA BK275 hb; have n5_ := Aside0.mk (blk_below (g := gb285) (o := .cells #[.int .i64 t277, .slice Ao35 t278.length co35] 38 (0, 0)) (by (with_reducible repeat (first | refine blk_drewN ?_ _ | refine blk_drew ?_ | refine blk_alloc ?_ _)); refine blk_far ?_ NB285_286.out _; (with_reducible repeat (first | refine blk_drewN ?_ _ | refine blk_drew ?_ | refine blk_alloc ?_ _)); refine blk_far ?_ NB285_286.out _; (with_reducible repeat (first | refine blk_drewN ?_ _ | refine blk_drew ?_ | refine blk_alloc ?_ _)); refine blk_put (cs := #[.int .i64 t277, .slice none 0 0]) ?_ 1 _ rfl; (with_reducible repeat (first | refine blk_drewN ?_ _ | refine blk_drew ?_ | refine blk_alloc ?_ _)); refine blk_put (cs := #[.int .i64 0, .slice none 0 0]) ?_ 0 _ rfl; (with_reducible repeat (first | refine blk_drewN ?_ _ | refine blk_drew ?_ | refine blk_alloc ?_ _)); exact BK285.out) hb); have n6_ := Aside0.mk (blk_below (g := gb286) (o := .cells #[.int .i64 t281, .slice Ao38 t282.length co38] 38 (0, 0)) (by (with_reducible repeat (first | refine blk_drewN ?_ _ | refine blk_drew ?_ | refine blk_alloc ?_ _)); refine blk_put (cs := #[.int .i64 t281, .slice none 0 0]) ?_ 1 _ rfl; (with_reducible repeat (first | refine blk_drewN ?_ _ | refine blk_drew ?_ | refine blk_alloc ?_ _)); refine blk_put (cs := #[.int .i64 0, .slice none 0 0]) ?_ 0 _ rfl; (with_reducible repeat (first | refine blk_drewN ?_ _ | refine blk_drew ?_ | refine blk_alloc ?_ _)); refine blk_far ?_ NB286_285.out _; (with_reducible repeat (first | refine blk_drewN ?_ _ | refine blk_drew ?_ | refine blk_alloc ?_ _)); refine blk_far ?_ NB286_285.out _; (with_reducible repeat (first | refine blk_drewN ?_ _ | refine blk_drew ?_ | refine blk_alloc ?_ _)); exact BK286.out) hb); have n7_ := bsA HB hb; clear HO280; clear HO284; clear BK274; clear BK275; clear BK285; clear BK286; clear HB; have HO280 := n0_; have HO284 := n1_; have HO290 := n2_; have BK274 := n3_; have BK275 := n4_; have BK285 := n5_; have BK286 := n6_; have HB := n7_; clear n0_ n1_ n2_ n3_ n4_ n5_ n6_ n7_; (try clear hb); (try clear hb2); (try clear hk); (try clear hi); (try clear ho0)) | ((with_reducible refine gate_dst (N := 7) rfl ?_); refine box_event ?hg (N := 7) ?hd (cs := #[.int .i64 0, .slice none 0 0]) (t := 38) ?hr ?_; (case hd => rfl); (case hg => rfl); (case hr => first | (go_simp; done) | (go_simp; rfl)); intro gb292 hg w48 hbox hb; have n0_ := rbA HO280 hb; have n1_ := rbA HO284 hb; have n2_ := rbA HO290 hb; have n3_ := bkA BK274 hb; have n4_ := bkA BK275 hb; have n5_ := bkA BK285 hb; have n6_ := bkA BK286 hb; have n7_ := bsA HB hb; have n8_ := Aside0.mk (hbox); have n9_ := szA HB hg; have n10_ := szA HB hg; have n11_ := neA BK274 hg; have n12_ := neB BK274 hg; have n13_ := neA BK275 hg; have n14_ := neB BK275 hg; have n15_ := neA BK285 hg; have n16_ := neB BK285 hg; have n17_ := neA BK286 hg; have n18_ := neB BK286 hg; clear HO280; clear HO284; clear HO290; clear BK274; clear BK275; clear BK285; clear BK286; clear HB; have HO280 := n0_; have HO284 := n1_; have HO290 := n2_; have BK274 := n3_; have BK275 := n4_; have BK285 := n5_; have BK286 := n6_; have HB := n7_; have BK292 := n8_; have GW292 := n9_; have GE292 := n10_; have NB274_292 := n11_; have NB292_274 := n12_; have NB275_292 := n13_; have NB292_275 := n14_; have NB285_292 := n15_; have NB292_285 := n16_; have NB286_292 := n17_; have NB292_286 := n18_; clear n0_ n1_ n2_ n3_ n4_ n5_ n6_ n7_ n8_ n9_ n10_ n11_ n12_ n13_ n14_ n15_ n16_ n17_ n18_; clear hb hbox hg; have hnb49 := NB292_274.out; have hnc49 := NB274_292.out; have hnb50 := NB292_275.out; have hnc50 := NB275_292.out; have hnb51 := NB292_285.out; have hnc51 := NB285_292.out; have hnb52 := NB292_286.out; have hnc52 := NB286_292.out; have hcz53_0 : w48.cell? ⟨gb292, 0, none⟩ = some (.int .i64 0) := (blk_cell BK292.out 0).trans rfl; have hcz53_1 : w48.cell? ⟨gb292, 1, none⟩ = some (.slice none 0 0) := (blk_cell BK292.out 1).trans rfl; have hfz53_0 := blk_frozen BK292.out 0; have hfz53_1 := blk_frozen BK292.out 1; obtain ⟨Ao54, co54, eo54⟩ := Kd.R_slice HO290.out; subst eo54; have hcz55_0 : w48.cell? ⟨gb285, 0, none⟩ = some (.int .i64 t277) := (blk_cell BK285.out 0).trans rfl; have hcz55_1 : w48.cell? ⟨gb285, 1, none⟩ = some (.slice Ao35 t278.length co35) := (blk_cell BK285.out 1).trans rfl; have hfz55_0 := blk_frozen BK285.out 0; have hfz55_1 := blk_frozen BK285.out 1; have hcz56_0 : w48.cell? ⟨gb286, 0, none⟩ = some (.int .i64 t281) := (blk_cell BK286.out 0).trans rfl; have hcz56_1 : w48.cell? ⟨gb286, 1, none⟩ = some (.slice Ao38 t282.length co38) := (blk_cell BK286.out 1).trans rfl; have hfz56_0 := blk_frozen BK286.out 0; have hfz56_1 := blk_frozen BK286.out 1) | ((with_reducible refine gate_callee (f := 26) rfl ?_); refine goesL_ (some 34) rfl rfl Try.func26 (by kernel_rfl) rfl #[.agg #[.int .i64 t277, .slice Ao35 t278.length co35], .agg #[.int .i64 t281, .slice Ao38 t282.length co38]] rfl (by (try simp only [List.map_toArray, List.map_cons, List.map_nil]); first | done | rfl | (simp only [List.length_drop, List.length_take]; rfl)) ?_; (with_reducible refine (rowset_Or.calls k t277 _ _ t278 t281 _ _ t282 t293 t294 t297 _ ?side1 ?side2 ?side3 ?side4 A8.out).mono ?_); (case side1 => refine (Kd.R_reads' (e := 66) (base := w.heap.size) (ok := fun k_ => (some k_ ≠ (.slice Ao38 t282.length co38 : Value).ownBlock ∧ some k_ ≠ (.slice Ao54 t288.length co54 : Value).ownBlock)) (n := t278.length) (c := co35) ?_).2.2; exact (by (with_reducible repeat (first | apply Kd.R_alloc | apply Kd.R_drewN | apply Kd.R_drew)); exact (Kd.R_mono (Kd.R_far (p := ⟨gb292, 1, none⟩) (Kd.R_far (p := ⟨gb292, 0, none⟩) (Kd.R_types HO280.out BK292.out (by decide)) (fun _ hk => hk.2) (.int .i64 t287)) (fun _ hk => hk.2) (.slice Ao54 t288.length co54)) (fun _ h_ => h_.1)))); (case side2 => exact (Kd.R_reads' HO280.out).2.1); (case side3 => refine (Kd.R_reads' (e := 66) (base := w.heap.size) (ok := fun k_ => (some k_ ≠ (.slice Ao35 t278.length co35 : Value).ownBlock ∧ some k_ ≠ (.slice Ao54 t288.length co54 : Value).ownBlock)) (n := t282.length) (c := co38) ?_).2.2; exact (by (with_reducible repeat (first | apply Kd.R_alloc | apply Kd.R_drewN | apply Kd.R_drew)); exact (Kd.R_mono (Kd.R_far (p := ⟨gb292, 1, none⟩) (Kd.R_far (p := ⟨gb292, 0, none⟩) (Kd.R_types HO284.out BK292.out (by decide)) (fun _ hk => hk.2) (.int .i64 t287)) (fun _ hk => hk.2) (.slice Ao54 t288.length co54)) (fun _ h_ => h_.1)))); (case side4 => exact (Kd.R_reads' HO284.out).2.1); rintro e w57 ⟨v295, rfl, ho0, hb⟩; refine ⟨_, rfl, ?_⟩; have n0_ := Aside0.mk (Kd.R_elder' (by (with_reducible repeat (first | apply Kd.R_alloc | apply Kd.R_drewN | apply Kd.R_drew)); exact (Kd.R_mono (Kd.R_far (p := ⟨gb292, 1, none⟩) (Kd.R_far (p := ⟨gb292, 0, none⟩) (Kd.R_types HO280.out BK292.out (by decide)) (fun _ hk => hk.2) (.int .i64 t287)) (fun _ hk => hk.2) (.slice Ao54 t288.length co54)) (fun _ h_ => h_.1))) (Kd.R_base ho0) hb); have n1_ := Aside0.mk (Kd.R_elder' (by (with_reducible repeat (first | apply Kd.R_alloc | apply Kd.R_drewN | apply Kd.R_drew)); exact (Kd.R_mono (Kd.R_far (p := ⟨gb292, 1, none⟩) (Kd.R_far (p := ⟨gb292, 0, none⟩) (Kd.R_types HO284.out BK292.out (by decide)) (fun _ hk => hk.2) (.int .i64 t287)) (fun _ hk => hk.2) (.slice Ao54 t288.length co54)) (fun _ h_ => h_.1))) (Kd.R_base ho0) hb); have n2_ := Aside0.mk (Kd.R_elder' (by (with_reducible repeat (first | apply Kd.R_alloc | apply Kd.R_drewN | apply Kd.R_drew)); exact (Kd.R_mono (Kd.R_far (p := ⟨gb292, 1, none⟩) (Kd.R_far (p := ⟨gb292, 0, none⟩) (Kd.R_types HO290.out BK292.out (by decide)) (fun _ hk => hk.2) (.int .i64 t287)) (fun _ hk => hk.2) (.slice Ao54 t288.length co54)) (fun _ h_ => h_.1))) (Kd.R_base ho0) hb); have n3_ := Aside0.mk (Kd.R_lower (Kd.R_new' (Kd.R_new' (Kd.R_new' ho0 (Kd.R_lt (by (with_reducible repeat (first | apply Kd.R_alloc | apply Kd.R_drewN | apply Kd.R_drew)); exact (Kd.R_mono (Kd.R_far (p := ⟨gb292, 1, none⟩) (Kd.R_far (p := ⟨gb292, 0, none⟩) (Kd.R_types HO280.out BK292.out (by decide)) (fun _ hk => hk.2) (.int .i64 t287)) (fun _ hk => hk.2) (.slice Ao54 t288.length co54)) (fun _ h_ => h_.1))))) (Kd.R_lt (by (with_reducible repeat (first | apply Kd.R_alloc | apply Kd.R_drewN | apply Kd.R_drew)); exact (Kd.R_mono (Kd.R_far (p := ⟨gb292, 1, none⟩) (Kd.R_far (p := ⟨gb292, 0, none⟩) (Kd.R_types HO284.out BK292.out (by decide)) (fun _ hk => hk.2) (.int .i64 t287)) (fun _ hk => hk.2) (.slice Ao54 t288.length co54)) (fun _ h_ => h_.1))))) (Kd.R_lt (by (with_reducible repeat (first | apply Kd.R_alloc | apply Kd.R_drewN | apply Kd.R_drew)); exact (Kd.R_mono (Kd.R_far (p := ⟨gb292, 1, none⟩) (Kd.R_far (p := ⟨gb292, 0, none⟩) (Kd.R_types HO290.out BK292.out (by decide)) (fun _ hk => hk.2) (.int .i64 t287)) (fun _ hk => hk.2) (.slice Ao54 t288.length co54)) (fun _ h_ => h_.1))))) (below_size (by repeat (first | (with_reducible first | exact HB.out | apply below_alloc | apply pw_below_drewN | apply below_drew1 | refine below_set ?_ GE274.out | refine below_set ?_ GE275.out | refine below_set ?_ GE285.out | refine below_set ?_ GE286.out | refine below_set ?_ GE292.out) | exact HB.out)))); have n4_ := bkA BK274 hb; have n5_ := bkA BK275 hb; have n6_ := bkA BK285 hb; have n7_ := bkA BK286 hb; have n8_ := Aside0.mk (blk_below (g := gb292) (o := .cells #[.int .i64 t287, .slice Ao54 t288.length co54] 38 (0, 0)) (by (with_reducible repeat (first | refine blk_drewN ?_ _ | refine blk_drew ?_ | refine blk_alloc ?_ _)); refine blk_put (cs := #[.int .i64 t287, .slice none 0 0]) ?_ 1 _ rfl; (with_reducible repeat (first | refine blk_drewN ?_ _ | refine blk_drew ?_ | refine blk_alloc ?_ _)); refine blk_put (cs := #[.int .i64 0, .slice none 0 0]) ?_ 0 _ rfl; (with_reducible repeat (first | refine blk_drewN ?_ _ | refine blk_drew ?_ | refine blk_alloc ?_ _)); exact BK292.out) hb); have n9_ := bsA HB hb; clear HO280; clear HO284; clear HO290; clear BK274; clear BK275; clear BK285; clear BK286; clear BK292; clear HB; have HO280 := n0_; have HO284 := n1_; have HO290 := n2_; have HO296 := n3_; have BK274 := n4_; have BK275 := n5_; have BK285 := n6_; have BK286 := n7_; have BK292 := n8_; have HB := n9_; clear n0_ n1_ n2_ n3_ n4_ n5_ n6_ n7_ n8_ n9_; (try clear hb); (try clear hb2); (try clear hk); (try clear hi); (try clear ho0)) | ((with_reducible refine gate_dst (N := 9) rfl ?_); refine box_event ?hg (N := 9) ?hd (cs := #[.int .i64 0, .slice none 0 0]) (t := 38) ?hr ?_; (case hd => rfl); (case hg => rfl); (case hr => first | (go_simp; done) | (go_simp; rfl)); intro gb298 hg w58 hbox hb; have n0_ := rbA HO280 hb; have n1_ := rbA HO284 hb; have n2_ := rbA HO290 hb; have n3_ := rbA HO296 hb; have n4_ := bkA BK274 hb; have n5_ := bkA BK275 hb; have n6_ := bkA BK285 hb; have n7_ := bkA BK286 hb; have n8_ := bkA BK292 hb; have n9_ := bsA HB hb; have n10_ := Aside0.mk (hbox); have n11_ := szA HB hg; have n12_ := szA HB hg; have n13_ := neA BK274 hg; have n14_ := neB BK274 hg; have n15_ := neA BK275 hg; have n16_ := neB BK275 hg; have n17_ := neA BK285 hg; have n18_ := neB BK285 hg; have n19_ := neA BK286 hg; have n20_ := neB BK286 hg; have n21_ := neA BK292 hg; have n22_ := neB BK292 hg; clear HO280; clear HO284; clear HO290; clear HO296; clear BK274; clear BK275; clear BK285; clear BK286; clear BK292; clear HB; have HO280 := n0_; have HO284 := n1_; have HO290 := n2_; have HO296 := n3_; have BK274 := n4_; have BK275 := n5_; have BK285 := n6_; have BK286 := n7_; have BK292 := n8_; have HB := n9_; have BK298 := n10_; have GW298 := n11_; have GE298 := n12_; have NB274_298 := n13_; have NB298_274 := n14_; have NB275_298 := n15_; have NB298_275 := n16_; have NB285_298 := n17_; have NB298_285 := n18_; have NB286_298 := n19_; have NB298_286 := n20_; have NB292_298 := n21_; have NB298_292 := n22_; clear n0_ n1_ n2_ n3_ n4_ n5_ n6_ n7_ n8_ n9_ n10_ n11_ n12_ n13_ n14_ n15_ n16_ n17_ n18_ n19_ n20_ n21_ n22_; clear hb hbox hg; have hnb59 := NB298_274.out; have hnc59 := NB274_298.out; have hnb60 := NB298_275.out; have hnc60 := NB275_298.out; have hnb61 := NB298_285.out; have hnc61 := NB285_298.out; have hnb62 := NB298_286.out; have hnc62 := NB286_298.out; have hnb63 := NB298_292.out; have hnc63 := NB292_298.out; have hcz64_0 : w58.cell? ⟨gb298, 0, none⟩ = some (.int .i64 0) := (blk_cell BK298.out 0).trans rfl; have hcz64_1 : w58.cell? ⟨gb298, 1, none⟩ = some (.slice none 0 0) := (blk_cell BK298.out 1).trans rfl; have hfz64_0 := blk_frozen BK298.out 0; have hfz64_1 := blk_frozen BK298.out 1; obtain ⟨Ao65, co65, eo65⟩ := Kd.R_slice HO296.out; subst eo65; have hcz66_0 : w58.cell? ⟨gb285, 0, none⟩ = some (.int .i64 t277) := (blk_cell BK285.out 0).trans rfl; have hcz66_1 : w58.cell? ⟨gb285, 1, none⟩ = some (.slice Ao35 t278.length co35) := (blk_cell BK285.out 1).trans rfl; have hfz66_0 := blk_frozen BK285.out 0; have hfz66_1 := blk_frozen BK285.out 1; have hcz67_0 : w58.cell? ⟨gb286, 0, none⟩ = some (.int .i64 t281) := (blk_cell BK286.out 0).trans rfl; have hcz67_1 : w58.cell? ⟨gb286, 1, none⟩ = some (.slice Ao38 t282.length co38) := (blk_cell BK286.out 1).trans rfl; have hfz67_0 := blk_frozen BK286.out 0; have hfz67_1 := blk_frozen BK286.out 1) | ((with_reducible refine gate_callee (f := 27) rfl ?_); refine goesL_ (some 40) rfl rfl Try.func27 (by kernel_rfl) rfl #[.agg #[.int .i64 t277, .slice Ao35 t278.length co35], .agg #[.int .i64 t281, .slice Ao38 t282.length co38]] rfl (by (try simp only [List.map_toArray, List.map_cons, List.map_nil]); first | done | rfl | (simp only [List.length_drop, List.length_take]; rfl)) ?_; (with_reducible refine (rowset_Minus.calls k t277 _ _ t278 t281 _ _ t282 t299 t300 t303 _ ?side1 ?side2 ?side3 ?side4 A9.out).mono ?_); (case side1 => refine (Kd.R_reads' (e := 66) (base := w.heap.size) (ok := fun k_ => ((some k_ ≠ (.slice Ao38 t282.length co38 : Value).ownBlock ∧ some k_ ≠ (.slice Ao54 t288.length co54 : Value).ownBlock) ∧ some k_ ≠ (.slice Ao65 t294.length co65 : Value).ownBlock)) (n := t278.length) (c := co35) ?_).2.2; exact (by (with_reducible repeat (first | apply Kd.R_alloc | apply Kd.R_drewN | apply Kd.R_drew)); exact (Kd.R_mono (Kd.R_far (p := ⟨gb298, 1, none⟩) (Kd.R_far (p := ⟨gb298, 0, none⟩) (Kd.R_types HO280.out BK298.out (by decide)) (fun _ hk => hk.2) (.int .i64 t293)) (fun _ hk => hk.2) (.slice Ao65 t294.length co65)) (fun _ h_ => h_.1)))); (case side2 => exact (Kd.R_reads' HO280.out).2.1); (case side3 => refine (Kd.R_reads' (e := 66) (base := w.heap.size) (ok := fun k_ => ((some k_ ≠ (.slice Ao35 t278.length co35 : Value).ownBlock ∧ some k_ ≠ (.slice Ao54 t288.length co54 : Value).ownBlock) ∧ some k_ ≠ (.slice Ao65 t294.length co65 : Value).ownBlock)) (n := t282.length) (c := co38) ?_).2.2; exact (by (with_reducible repeat (first | apply Kd.R_alloc | apply Kd.R_drewN | apply Kd.R_drew)); exact (Kd.R_mono (Kd.R_far (p := ⟨gb298, 1, none⟩) (Kd.R_far (p := ⟨gb298, 0, none⟩) (Kd.R_types HO284.out BK298.out (by decide)) (fun _ hk => hk.2) (.int .i64 t293)) (fun _ hk => hk.2) (.slice Ao65 t294.length co65)) (fun _ h_ => h_.1)))); (case side4 => exact (Kd.R_reads' HO284.out).2.1); rintro e w68 ⟨v301, rfl, ho0, hb⟩; refine ⟨_, rfl, ?_⟩; have n0_ := Aside0.mk (Kd.R_elder' (by (with_reducible repeat (first | apply Kd.R_alloc | apply Kd.R_drewN | apply Kd.R_drew)); exact (Kd.R_mono (Kd.R_far (p := ⟨gb298, 1, none⟩) (Kd.R_far (p := ⟨gb298, 0, none⟩) (Kd.R_types HO280.out BK298.out (by decide)) (fun _ hk => hk.2) (.int .i64 t293)) (fun _ hk => hk.2) (.slice Ao65 t294.length co65)) (fun _ h_ => h_.1))) (Kd.R_base ho0) hb); have n1_ := Aside0.mk (Kd.R_elder' (by (with_reducible repeat (first | apply Kd.R_alloc | apply Kd.R_drewN | apply Kd.R_drew)); exact (Kd.R_mono (Kd.R_far (p := ⟨gb298, 1, none⟩) (Kd.R_far (p := ⟨gb298, 0, none⟩) (Kd.R_types HO284.out BK298.out (by decide)) (fun _ hk => hk.2) (.int .i64 t293)) (fun _ hk => hk.2) (.slice Ao65 t294.length co65)) (fun _ h_ => h_.1))) (Kd.R_base ho0) hb); have n2_ := Aside0.mk (Kd.R_elder' (by (with_reducible repeat (first | apply Kd.R_alloc | apply Kd.R_drewN | apply Kd.R_drew)); exact (Kd.R_mono (Kd.R_far (p := ⟨gb298, 1, none⟩) (Kd.R_far (p := ⟨gb298, 0, none⟩) (Kd.R_types HO290.out BK298.out (by decide)) (fun _ hk => hk.2) (.int .i64 t293)) (fun _ hk => hk.2) (.slice Ao65 t294.length co65)) (fun _ h_ => h_.1))) (Kd.R_base ho0) hb); have n3_ := Aside0.mk (Kd.R_elder' (by (with_reducible repeat (first | apply Kd.R_alloc | apply Kd.R_drewN | apply Kd.R_drew)); exact (Kd.R_mono (Kd.R_far (p := ⟨gb298, 1, none⟩) (Kd.R_far (p := ⟨gb298, 0, none⟩) (Kd.R_types HO296.out BK298.out (by decide)) (fun _ hk => hk.2) (.int .i64 t293)) (fun _ hk => hk.2) (.slice Ao65 t294.length co65)) (fun _ h_ => h_.1))) (Kd.R_base ho0) hb); have n4_ := Aside0.mk (Kd.R_lower (Kd.R_new' (Kd.R_new' (Kd.R_new' (Kd.R_new' ho0 (Kd.R_lt (by (with_reducible repeat (first | apply Kd.R_alloc | apply Kd.R_drewN | apply Kd.R_drew)); exact (Kd.R_mono (Kd.R_far (p := ⟨gb298, 1, none⟩) (Kd.R_far (p := ⟨gb298, 0, none⟩) (Kd.R_types HO280.out BK298.out (by decide)) (fun _ hk => hk.2) (.int .i64 t293)) (fun _ hk => hk.2) (.slice Ao65 t294.length co65)) (fun _ h_ => h_.1))))) (Kd.R_lt (by (with_reducible repeat (first | apply Kd.R_alloc | apply Kd.R_drewN | apply Kd.R_drew)); exact (Kd.R_mono (Kd.R_far (p := ⟨gb298, 1, none⟩) (Kd.R_far (p := ⟨gb298, 0, none⟩) (Kd.R_types HO284.out BK298.out (by decide)) (fun _ hk => hk.2) (.int .i64 t293)) (fun _ hk => hk.2) (.slice Ao65 t294.length co65)) (fun _ h_ => h_.1))))) (Kd.R_lt (by (with_reducible repeat (first | apply Kd.R_alloc | apply Kd.R_drewN | apply Kd.R_drew)); exact (Kd.R_mono (Kd.R_far (p := ⟨gb298, 1, none⟩) (Kd.R_far (p := ⟨gb298, 0, none⟩) (Kd.R_types HO290.out BK298.out (by decide)) (fun _ hk => hk.2) (.int .i64 t293)) (fun _ hk => hk.2) (.slice Ao65 t294.length co65)) (fun _ h_ => h_.1))))) (Kd.R_lt (by (with_reducible repeat (first | apply Kd.R_alloc | apply Kd.R_drewN | apply Kd.R_drew)); exact (Kd.R_mono (Kd.R_far (p := ⟨gb298, 1, none⟩) (Kd.R_far (p := ⟨gb298, 0, none⟩) (Kd.R_types HO296.out BK298.out (by decide)) (fun _ hk => hk.2) (.int .i64 t293)) (fun _ hk => hk.2) (.slice Ao65 t294.length co65)) (fun _ h_ => h_.1))))) (below_size (by repeat (first | (with_reducible first | exact HB.out | apply below_alloc | apply pw_below_drewN | apply below_drew1 | refine below_set ?_ GE274.out | refine below_set ?_ GE275.out | refine below_set ?_ GE285.out | refine below_set ?_ GE286.out | refine below_set ?_ GE292.out | refine below_set ?_ GE298.out) | exact HB.out)))); have n5_ := bkA BK274 hb; have n6_ := bkA BK275 hb; have n7_ := bkA BK285 hb; have n8_ := bkA BK286 hb; have n9_ := bkA BK292 hb; have n10_ := Aside0.mk (blk_below (g := gb298) (o := .cells #[.int .i64 t293, .slice Ao65 t294.length co65] 38 (0, 0)) (by (with_reducible repeat (first | refine blk_drewN ?_ _ | refine blk_drew ?_ | refine blk_alloc ?_ _)); refine blk_put (cs := #[.int .i64 t293, .slice none 0 0]) ?_ 1 _ rfl; (with_reducible repeat (first | refine blk_drewN ?_ _ | refine blk_drew ?_ | refine blk_alloc ?_ _)); refine blk_put (cs := #[.int .i64 0, .slice none 0 0]) ?_ 0 _ rfl; (with_reducible repeat (first | refine blk_drewN ?_ _ | refine blk_drew ?_ | refine blk_alloc ?_ _)); exact BK298.out) hb); have n11_ := bsA HB hb; clear HO280; clear HO284; clear HO290; clear HO296; clear BK274; clear BK275; clear BK285; clear BK286; clear BK292; clear BK298; clear HB; have HO280 := n0_; have HO284 := n1_; have HO290 := n2_; have HO296 := n3_; have HO302 := n4_; have BK274 := n5_; have BK275 := n6_; have BK285 := n7_; have BK286 := n8_; have BK292 := n9_; have BK298 := n10_; have HB := n11_; clear n0_ n1_ n2_ n3_ n4_ n5_ n6_ n7_ n8_ n9_ n10_ n11_; (try clear hb); (try clear hb2); (try clear hk); (try clear hi); (try clear ho0)) | ((with_reducible refine gate_dst (N := 11) rfl ?_); refine box_event ?hg (N := 11) ?hd (cs := #[.int .i64 0, .slice none 0 0]) (t := 38) ?hr ?_; (case hd => rfl); (case hg => rfl); (case hr => first | (go_simp; done) | (go_simp; rfl)); intro gb304 hg w69 hbox hb; have n0_ := rbA HO280 hb; have n1_ := rbA HO284 hb; have n2_ := rbA HO290 hb; have n3_ := rbA HO296 hb; have n4_ := rbA HO302 hb; have n5_ := bkA BK274 hb; have n6_ := bkA BK275 hb; have n7_ := bkA BK285 hb; have n8_ := bkA BK286 hb; have n9_ := bkA BK292 hb; have n10_ := bkA BK298 hb; have n11_ := bsA HB hb; have n12_ := Aside0.mk (hbox); have n13_ := szA HB hg; have n14_ := szA HB hg; have n15_ := neA BK274 hg; have n16_ := neB BK274 hg; have n17_ := neA BK275 hg; have n18_ := neB BK275 hg; have n19_ := neA BK285 hg; have n20_ := neB BK285 hg; have n21_ := neA BK286 hg; have n22_ := neB BK286 hg; have n23_ := neA BK292 hg; have n24_ := neB BK292 hg; have n25_ := neA BK298 hg; have n26_ := neB BK298 hg; clear HO280; clear HO284; clear HO290; clear HO296; clear HO302; clear BK274; clear BK275; clear BK285; clear BK286; clear BK292; clear BK298; clear HB; have HO280 := n0_; have HO284 := n1_; have HO290 := n2_; have HO296 := n3_; have HO302 := n4_; have BK274 := n5_; have BK275 := n6_; have BK285 := n7_; have BK286 := n8_; have BK292 := n9_; have BK298 := n10_; have HB := n11_; have BK304 := n12_; have GW304 := n13_; have GE304 := n14_; have NB274_304 := n15_; have NB304_274 := n16_; have NB275_304 := n17_; have NB304_275 := n18_; have NB285_304 := n19_; have NB304_285 := n20_; have NB286_304 := n21_; have NB304_286 := n22_; have NB292_304 := n23_; have NB304_292 := n24_; have NB298_304 := n25_; have NB304_298 := n26_; clear n0_ n1_ n2_ n3_ n4_ n5_ n6_ n7_ n8_ n9_ n10_ n11_ n12_ n13_ n14_ n15_ n16_ n17_ n18_ n19_ n20_ n21_ n22_ n23_ n24_ n25_ n26_; clear hb hbox hg; have hnb70 := NB304_274.out; have hnc70 := NB274_304.out; have hnb71 := NB304_275.out; have hnc71 := NB275_304.out; have hnb72 := NB304_285.out; have hnc72 := NB285_304.out; have hnb73 := NB304_286.out; have hnc73 := NB286_304.out; have hnb74 := NB304_292.out; have hnc74 := NB292_304.out; have hnb75 := NB304_298.out; have hnc75 := NB298_304.out; have hcz76_0 : w69.cell? ⟨gb304, 0, none⟩ = some (.int .i64 0) := (blk_cell BK304.out 0).trans rfl; have hcz76_1 : w69.cell? ⟨gb304, 1, none⟩ = some (.slice none 0 0) := (blk_cell BK304.out 1).trans rfl; have hfz76_0 := blk_frozen BK304.out 0; have hfz76_1 := blk_frozen BK304.out 1; obtain ⟨Ao77, co77, eo77⟩ := Kd.R_slice HO302.out; subst eo77; have hnb78 := NB274_275.out; have hnc78 := NB275_274.out; have hcz79_0 : w69.cell? ⟨gb274, 0, none⟩ = some (.int .i64 a0_0) := (blk_cell BK274.out 0).trans rfl; have hcz79_1 : w69.cell? ⟨gb274, 1, none⟩ = some (.slice A0_1 l0_1.length c0_1) := (blk_cell BK274.out 1).trans rfl; have hfz79_0 := blk_frozen BK274.out 0; have hfz79_1 := blk_frozen BK274.out 1; have hcz80_0 : w69.cell? ⟨gb275, 0, none⟩ = some (.int .i64 a1_0) := (blk_cell BK275.out 0).trans rfl; have hcz80_1 : w69.cell? ⟨gb275, 1, none⟩ = some (.slice A1_1 l1_1.length c1_1) := (blk_cell BK275.out 1).trans rfl; have hfz80_0 := blk_frozen BK275.out 0; have hfz80_1 := blk_frozen BK275.out 1) | ((with_reducible refine gate_callee (f := 28) rfl ?_); refine goesL_ (some 46) rfl rfl Try.func28 (by kernel_rfl) rfl #[.int .i64 0, .agg #[.int .i64 a0_0, .slice A0_1 l0_1.length c0_1], .agg #[.int .i64 a1_0, .slice A1_1 l1_1.length c1_1]] rfl (by (try simp only [List.map_toArray, List.map_cons, List.map_nil]); first | done | rfl | (simp only [List.length_drop, List.length_take]; rfl)) ?_; (with_reducible refine (dragnetref09_Join.calls k 0 a0_0 _ _ l0_1 a1_0 _ _ l1_1 t305 t306 t309 _ ?side1 ?side2 ?side3 ?side4 A10.out).mono ?_); (case side1 => exact Kd.C_below HR0_1.out (by repeat (first | (with_reducible first | exact HB.out | apply below_alloc | apply pw_below_drewN | apply below_drew1 | refine below_set ?_ GE274.out | refine below_set ?_ GE275.out | refine below_set ?_ GE285.out | refine below_set ?_ GE286.out | refine below_set ?_ GE292.out | refine below_set ?_ GE298.out | refine below_set ?_ GE304.out) | exact HB.out))); (case side2 => exact HC0_1.out); (case side3 => exact Kd.C_below HR1_1.out (by repeat (first | (with_reducible first | exact HB.out | apply below_alloc | apply pw_below_drewN | apply below_drew1 | refine below_set ?_ GE274.out | refine below_set ?_ GE275.out | refine below_set ?_ GE285.out | refine below_set ?_ GE286.out | refine below_set ?_ GE292.out | refine below_set ?_ GE298.out | refine below_set ?_ GE304.out) | exact HB.out))); (case side4 => exact HC1_1.out); rintro e w81 ⟨v307, rfl, ho0, hb⟩; refine ⟨_, rfl, ?_⟩; have n0_ := Aside0.mk (Kd.R_elder' (by (with_reducible repeat (first | apply Kd.R_alloc | apply Kd.R_drewN | apply Kd.R_drew)); exact (Kd.R_mono (Kd.R_far (p := ⟨gb304, 1, none⟩) (Kd.R_far (p := ⟨gb304, 0, none⟩) (Kd.R_types HO280.out BK304.out (by decide)) (fun _ hk => hk.2) (.int .i64 t299)) (fun _ hk => hk.2) (.slice Ao77 t300.length co77)) (fun _ h_ => h_.1))) (Kd.R_base ho0) hb); have n1_ := Aside0.mk (Kd.R_elder' (by (with_reducible repeat (first | apply Kd.R_alloc | apply Kd.R_drewN | apply Kd.R_drew)); exact (Kd.R_mono (Kd.R_far (p := ⟨gb304, 1, none⟩) (Kd.R_far (p := ⟨gb304, 0, none⟩) (Kd.R_types HO284.out BK304.out (by decide)) (fun _ hk => hk.2) (.int .i64 t299)) (fun _ hk => hk.2) (.slice Ao77 t300.length co77)) (fun _ h_ => h_.1))) (Kd.R_base ho0) hb); have n2_ := Aside0.mk (Kd.R_elder' (by (with_reducible repeat (first | apply Kd.R_alloc | apply Kd.R_drewN | apply Kd.R_drew)); exact (Kd.R_mono (Kd.R_far (p := ⟨gb304, 1, none⟩) (Kd.R_far (p := ⟨gb304, 0, none⟩) (Kd.R_types HO290.out BK304.out (by decide)) (fun _ hk => hk.2) (.int .i64 t299)) (fun _ hk => hk.2) (.slice Ao77 t300.length co77)) (fun _ h_ => h_.1))) (Kd.R_base ho0) hb); have n3_ := Aside0.mk (Kd.R_elder' (by (with_reducible repeat (first | apply Kd.R_alloc | apply Kd.R_drewN | apply Kd.R_drew)); exact (Kd.R_mono (Kd.R_far (p := ⟨gb304, 1, none⟩) (Kd.R_far (p := ⟨gb304, 0, none⟩) (Kd.R_types HO296.out BK304.out (by decide)) (fun _ hk => hk.2) (.int .i64 t299)) (fun _ hk => hk.2) (.slice Ao77 t300.length co77)) (fun _ h_ => h_.1))) (Kd.R_base ho0) hb); have n4_ := Aside0.mk (Kd.R_elder' (by (with_reducible repeat (first | apply Kd.R_alloc | apply Kd.R_drewN | apply Kd.R_drew)); exact (Kd.R_mono (Kd.R_far (p := ⟨gb304, 1, none⟩) (Kd.R_far (p := ⟨gb304, 0, none⟩) (Kd.R_types HO302.out BK304.out (by decide)) (fun _ hk => hk.2) (.int .i64 t299)) (fun _ hk => hk.2) (.slice Ao77 t300.length co77)) (fun _ h_ => h_.1))) (Kd.R_base ho0) hb); have n5_ := Aside0.mk (Kd.R_lower (Kd.R_new' (Kd.R_new' (Kd.R_new' (Kd.R_new' (Kd.R_new' ho0 (Kd.R_lt (by (with_reducible repeat (first | apply Kd.R_alloc | apply Kd.R_drewN | apply Kd.R_drew)); exact (Kd.R_mono (Kd.R_far (p := ⟨gb304, 1, none⟩) (Kd.R_far (p := ⟨gb304, 0, none⟩) (Kd.R_types HO280.out BK304.out (by decide)) (fun _ hk => hk.2) (.int .i64 t299)) (fun _ hk => hk.2) (.slice Ao77 t300.length co77)) (fun _ h_ => h_.1))))) (Kd.R_lt (by (with_reducible repeat (first | apply Kd.R_alloc | apply Kd.R_drewN | apply Kd.R_drew)); exact (Kd.R_mono (Kd.R_far (p := ⟨gb304, 1, none⟩) (Kd.R_far (p := ⟨gb304, 0, none⟩) (Kd.R_types HO284.out BK304.out (by decide)) (fun _ hk => hk.2) (.int .i64 t299)) (fun _ hk => hk.2) (.slice Ao77 t300.length co77)) (fun _ h_ => h_.1))))) (Kd.R_lt (by (with_reducible repeat (first | apply Kd.R_alloc | apply Kd.R_drewN | apply Kd.R_drew)); exact (Kd.R_mono (Kd.R_far (p := ⟨gb304, 1, none⟩) (Kd.R_far (p := ⟨gb304, 0, none⟩) (Kd.R_types HO290.out BK304.out (by decide)) (fun _ hk => hk.2) (.int .i64 t299)) (fun _ hk => hk.2) (.slice Ao77 t300.length co77)) (fun _ h_ => h_.1))))) (Kd.R_lt (by (with_reducible repeat (first | apply Kd.R_alloc | apply Kd.R_drewN | apply Kd.R_drew)); exact (Kd.R_mono (Kd.R_far (p := ⟨gb304, 1, none⟩) (Kd.R_far (p := ⟨gb304, 0, none⟩) (Kd.R_types HO296.out BK304.out (by decide)) (fun _ hk => hk.2) (.int .i64 t299)) (fun _ hk => hk.2) (.slice Ao77 t300.length co77)) (fun _ h_ => h_.1))))) (Kd.R_lt (by (with_reducible repeat (first | apply Kd.R_alloc | apply Kd.R_drewN | apply Kd.R_drew)); exact (Kd.R_mono (Kd.R_far (p := ⟨gb304, 1, none⟩) (Kd.R_far (p := ⟨gb304, 0, none⟩) (Kd.R_types HO302.out BK304.out (by decide)) (fun _ hk => hk.2) (.int .i64 t299)) (fun _ hk => hk.2) (.slice Ao77 t300.length co77)) (fun _ h_ => h_.1))))) (below_size (by repeat (first | (with_reducible first | exact HB.out | apply below_alloc | apply pw_below_drewN | apply below_drew1 | refine below_set ?_ GE274.out | refine below_set ?_ GE275.out | refine below_set ?_ GE285.out | refine below_set ?_ GE286.out | refine below_set ?_ GE292.out | refine below_set ?_ GE298.out | refine below_set ?_ GE304.out) | exact HB.out)))); have n6_ := bkA BK274 hb; have n7_ := bkA BK275 hb; have n8_ := bkA BK285 hb; have n9_ := bkA BK286 hb; have n10_ := bkA BK292 hb; have n11_ := bkA BK298 hb; have n12_ := Aside0.mk (blk_below (g := gb304) (o := .cells #[.int .i64 t299, .slice Ao77 t300.length co77] 38 (0, 0)) (by (with_reducible repeat (first | refine blk_drewN ?_ _ | refine blk_drew ?_ | refine blk_alloc ?_ _)); refine blk_put (cs := #[.int .i64 t299, .slice none 0 0]) ?_ 1 _ rfl; (with_reducible repeat (first | refine blk_drewN ?_ _ | refine blk_drew ?_ | refine blk_alloc ?_ _)); refine blk_put (cs := #[.int .i64 0, .slice none 0 0]) ?_ 0 _ rfl; (with_reducible repeat (first | refine blk_drewN ?_ _ | refine blk_drew ?_ | refine blk_alloc ?_ _)); exact BK304.out) hb); have n13_ := bsA HB hb; clear HO280; clear HO284; clear HO290; clear HO296; clear HO302; clear BK274; clear BK275; clear BK285; clear BK286; clear BK292; clear BK298; clear BK304; clear HB; have HO280 := n0_; have HO284 := n1_; have HO290 := n2_; have HO296 := n3_; have HO302 := n4_; have HO308 := n5_; have BK274 := n6_; have BK275 := n7_; have BK285 := n8_; have BK286 := n9_; have BK292 := n10_; have BK298 := n11_; have BK304 := n12_; have HB := n13_; clear n0_ n1_ n2_ n3_ n4_ n5_ n6_ n7_ n8_ n9_ n10_ n11_ n12_ n13_; (try clear hb); (try clear hb2); (try clear hk); (try clear hi); (try clear ho0)) | ((with_reducible refine gate_dst (N := 13) rfl ?_); refine box_event ?hg (N := 13) ?hd (cs := #[.int .i64 0, .slice none 0 0]) (t := 38) ?hr ?_; (case hd => rfl); (case hg => rfl); (case hr => first | (go_simp; done) | (go_simp; rfl)); intro gb310 hg w82 hbox hb; have n0_ := rbA HO280 hb; have n1_ := rbA HO284 hb; have n2_ := rbA HO290 hb; have n3_ := rbA HO296 hb; have n4_ := rbA HO302 hb; have n5_ := rbA HO308 hb; have n6_ := bkA BK274 hb; have n7_ := bkA BK275 hb; have n8_ := bkA BK285 hb; have n9_ := bkA BK286 hb; have n10_ := bkA BK292 hb; have n11_ := bkA BK298 hb; have n12_ := bkA BK304 hb; have n13_ := bsA HB hb; have n14_ := Aside0.mk (hbox); have n15_ := szA HB hg; have n16_ := szA HB hg; have n17_ := neA BK274 hg; have n18_ := neB BK274 hg; have n19_ := neA BK275 hg; have n20_ := neB BK275 hg; have n21_ := neA BK285 hg; have n22_ := neB BK285 hg; have n23_ := neA BK286 hg; have n24_ := neB BK286 hg; have n25_ := neA BK292 hg; have n26_ := neB BK292 hg; have n27_ := neA BK298 hg; have n28_ := neB BK298 hg; have n29_ := neA BK304 hg; have n30_ := neB BK304 hg; clear HO280; clear HO284; clear HO290; clear HO296; clear HO302; clear HO308; clear BK274; clear BK275; clear BK285; clear BK286; clear BK292; clear BK298; clear BK304; clear HB; have HO280 := n0_; have HO284 := n1_; have HO290 := n2_; have HO296 := n3_; have HO302 := n4_; have HO308 := n5_; have BK274 := n6_; have BK275 := n7_; have BK285 := n8_; have BK286 := n9_; have BK292 := n10_; have BK298 := n11_; have BK304 := n12_; have HB := n13_; have BK310 := n14_; have GW310 := n15_; have GE310 := n16_; have NB274_310 := n17_; have NB310_274 := n18_; have NB275_310 := n19_; have NB310_275 := n20_; have NB285_310 := n21_; have NB310_285 := n22_; have NB286_310 := n23_; have NB310_286 := n24_; have NB292_310 := n25_; have NB310_292 := n26_; have NB298_310 := n27_; have NB310_298 := n28_; have NB304_310 := n29_; have NB310_304 := n30_; clear n0_ n1_ n2_ n3_ n4_ n5_ n6_ n7_ n8_ n9_ n10_ n11_ n12_ n13_ n14_ n15_ n16_ n17_ n18_ n19_ n20_ n21_ n22_ n23_ n24_ n25_ n26_ n27_ n28_ n29_ n30_; clear hb hbox hg; have hnb83 := NB310_274.out; have hnc83 := NB274_310.out; have hnb84 := NB310_275.out; have hnc84 := NB275_310.out; have hnb85 := NB310_285.out; have hnc85 := NB285_310.out; have hnb86 := NB310_286.out; have hnc86 := NB286_310.out; have hnb87 := NB310_292.out; have hnc87 := NB292_310.out; have hnb88 := NB310_298.out; have hnc88 := NB298_310.out; have hnb89 := NB310_304.out; have hnc89 := NB304_310.out; have hcz90_0 : w82.cell? ⟨gb310, 0, none⟩ = some (.int .i64 0) := (blk_cell BK310.out 0).trans rfl; have hcz90_1 : w82.cell? ⟨gb310, 1, none⟩ = some (.slice none 0 0) := (blk_cell BK310.out 1).trans rfl; have hfz90_0 := blk_frozen BK310.out 0; have hfz90_1 := blk_frozen BK310.out 1; obtain ⟨Ao91, co91, eo91⟩ := Kd.R_slice HO308.out; subst eo91; have hcz92_0 : w82.cell? ⟨gb274, 0, none⟩ = some (.int .i64 a0_0) := (blk_cell BK274.out 0).trans rfl; have hcz92_1 : w82.cell? ⟨gb274, 1, none⟩ = some (.slice A0_1 l0_1.length c0_1) := (blk_cell BK274.out 1).trans rfl; have hfz92_0 := blk_frozen BK274.out 0; have hfz92_1 := blk_frozen BK274.out 1; have hcz93_0 : w82.cell? ⟨gb275, 0, none⟩ = some (.int .i64 a1_0) := (blk_cell BK275.out 0).trans rfl; have hcz93_1 : w82.cell? ⟨gb275, 1, none⟩ = some (.slice A1_1 l1_1.length c1_1) := (blk_cell BK275.out 1).trans rfl; have hfz93_0 := blk_frozen BK275.out 0; have hfz93_1 := blk_frozen BK275.out 1) | ((with_reducible refine gate_callee (f := 28) rfl ?_); refine goesL_ (some 52) rfl rfl Try.func28 (by kernel_rfl) rfl #[.int .i64 1, .agg #[.int .i64 a0_0, .slice A0_1 l0_1.length c0_1], .agg #[.int .i64 a1_0, .slice A1_1 l1_1.length c1_1]] rfl (by (try simp only [List.map_toArray, List.map_cons, List.map_nil]); first | done | rfl | (simp only [List.length_drop, List.length_take]; rfl)) ?_; (with_reducible refine (dragnetref09_Join.calls k 1 a0_0 _ _ l0_1 a1_0 _ _ l1_1 t311 t312 t315 _ ?side1 ?side2 ?side3 ?side4 A11.out).mono ?_); (case side1 => exact Kd.C_below HR0_1.out (by repeat (first | (with_reducible first | exact HB.out | apply below_alloc | apply pw_below_drewN | apply below_drew1 | refine below_set ?_ GE274.out | refine below_set ?_ GE275.out | refine below_set ?_ GE285.out | refine below_set ?_ GE286.out | refine below_set ?_ GE292.out | refine below_set ?_ GE298.out | refine below_set ?_ GE304.out | refine below_set ?_ GE310.out) | exact HB.out))); (case side2 => exact HC0_1.out); (case side3 => exact Kd.C_below HR1_1.out (by repeat (first | (with_reducible first | exact HB.out | apply below_alloc | apply pw_below_drewN | apply below_drew1 | refine below_set ?_ GE274.out | refine below_set ?_ GE275.out | refine below_set ?_ GE285.out | refine below_set ?_ GE286.out | refine below_set ?_ GE292.out | refine below_set ?_ GE298.out | refine below_set ?_ GE304.out | refine below_set ?_ GE310.out) | exact HB.out))); (case side4 => exact HC1_1.out); rintro e w94 ⟨v313, rfl, ho0, hb⟩; refine ⟨_, rfl, ?_⟩; have n0_ := Aside0.mk (Kd.R_elder' (by (with_reducible repeat (first | apply Kd.R_alloc | apply Kd.R_drewN | apply Kd.R_drew)); exact (Kd.R_mono (Kd.R_far (p := ⟨gb310, 1, none⟩) (Kd.R_far (p := ⟨gb310, 0, none⟩) (Kd.R_types HO280.out BK310.out (by decide)) (fun _ hk => hk.2) (.int .i64 t305)) (fun _ hk => hk.2) (.slice Ao91 t306.length co91)) (fun _ h_ => h_.1))) (Kd.R_base ho0) hb); have n1_ := Aside0.mk (Kd.R_elder' (by (with_reducible repeat (first | apply Kd.R_alloc | apply Kd.R_drewN | apply Kd.R_drew)); exact (Kd.R_mono (Kd.R_far (p := ⟨gb310, 1, none⟩) (Kd.R_far (p := ⟨gb310, 0, none⟩) (Kd.R_types HO284.out BK310.out (by decide)) (fun _ hk => hk.2) (.int .i64 t305)) (fun _ hk => hk.2) (.slice Ao91 t306.length co91)) (fun _ h_ => h_.1))) (Kd.R_base ho0) hb); have n2_ := Aside0.mk (Kd.R_elder' (by (with_reducible repeat (first | apply Kd.R_alloc | apply Kd.R_drewN | apply Kd.R_drew)); exact (Kd.R_mono (Kd.R_far (p := ⟨gb310, 1, none⟩) (Kd.R_far (p := ⟨gb310, 0, none⟩) (Kd.R_types HO290.out BK310.out (by decide)) (fun _ hk => hk.2) (.int .i64 t305)) (fun _ hk => hk.2) (.slice Ao91 t306.length co91)) (fun _ h_ => h_.1))) (Kd.R_base ho0) hb); have n3_ := Aside0.mk (Kd.R_elder' (by (with_reducible repeat (first | apply Kd.R_alloc | apply Kd.R_drewN | apply Kd.R_drew)); exact (Kd.R_mono (Kd.R_far (p := ⟨gb310, 1, none⟩) (Kd.R_far (p := ⟨gb310, 0, none⟩) (Kd.R_types HO296.out BK310.out (by decide)) (fun _ hk => hk.2) (.int .i64 t305)) (fun _ hk => hk.2) (.slice Ao91 t306.length co91)) (fun _ h_ => h_.1))) (Kd.R_base ho0) hb); have n4_ := Aside0.mk (Kd.R_elder' (by (with_reducible repeat (first | apply Kd.R_alloc | apply Kd.R_drewN | apply Kd.R_drew)); exact (Kd.R_mono (Kd.R_far (p := ⟨gb310, 1, none⟩) (Kd.R_far (p := ⟨gb310, 0, none⟩) (Kd.R_types HO302.out BK310.out (by decide)) (fun _ hk => hk.2) (.int .i64 t305)) (fun _ hk => hk.2) (.slice Ao91 t306.length co91)) (fun _ h_ => h_.1))) (Kd.R_base ho0) hb); have n5_ := Aside0.mk (Kd.R_elder' (by (with_reducible repeat (first | apply Kd.R_alloc | apply Kd.R_drewN | apply Kd.R_drew)); exact (Kd.R_mono (Kd.R_far (p := ⟨gb310, 1, none⟩) (Kd.R_far (p := ⟨gb310, 0, none⟩) (Kd.R_types HO308.out BK310.out (by decide)) (fun _ hk => hk.2) (.int .i64 t305)) (fun _ hk => hk.2) (.slice Ao91 t306.length co91)) (fun _ h_ => h_.1))) (Kd.R_base ho0) hb); have n6_ := Aside0.mk (Kd.R_lower (Kd.R_new' (Kd.R_new' (Kd.R_new' (Kd.R_new' (Kd.R_new' (Kd.R_new' ho0 (Kd.R_lt (by (with_reducible repeat (first | apply Kd.R_alloc | apply Kd.R_drewN | apply Kd.R_drew)); exact (Kd.R_mono (Kd.R_far (p := ⟨gb310, 1, none⟩) (Kd.R_far (p := ⟨gb310, 0, none⟩) (Kd.R_types HO280.out BK310.out (by decide)) (fun _ hk => hk.2) (.int .i64 t305)) (fun _ hk => hk.2) (.slice Ao91 t306.length co91)) (fun _ h_ => h_.1))))) (Kd.R_lt (by (with_reducible repeat (first | apply Kd.R_alloc | apply Kd.R_drewN | apply Kd.R_drew)); exact (Kd.R_mono (Kd.R_far (p := ⟨gb310, 1, none⟩) (Kd.R_far (p := ⟨gb310, 0, none⟩) (Kd.R_types HO284.out BK310.out (by decide)) (fun _ hk => hk.2) (.int .i64 t305)) (fun _ hk => hk.2) (.slice Ao91 t306.length co91)) (fun _ h_ => h_.1))))) (Kd.R_lt (by (with_reducible repeat (first | apply Kd.R_alloc | apply Kd.R_drewN | apply Kd.R_drew)); exact (Kd.R_mono (Kd.R_far (p := ⟨gb310, 1, none⟩) (Kd.R_far (p := ⟨gb310, 0, none⟩) (Kd.R_types HO290.out BK310.out (by decide)) (fun _ hk => hk.2) (.int .i64 t305)) (fun _ hk => hk.2) (.slice Ao91 t306.length co91)) (fun _ h_ => h_.1))))) (Kd.R_lt (by (with_reducible repeat (first | apply Kd.R_alloc | apply Kd.R_drewN | apply Kd.R_drew)); exact (Kd.R_mono (Kd.R_far (p := ⟨gb310, 1, none⟩) (Kd.R_far (p := ⟨gb310, 0, none⟩) (Kd.R_types HO296.out BK310.out (by decide)) (fun _ hk => hk.2) (.int .i64 t305)) (fun _ hk => hk.2) (.slice Ao91 t306.length co91)) (fun _ h_ => h_.1))))) (Kd.R_lt (by (with_reducible repeat (first | apply Kd.R_alloc | apply Kd.R_drewN | apply Kd.R_drew)); exact (Kd.R_mono (Kd.R_far (p := ⟨gb310, 1, none⟩) (Kd.R_far (p := ⟨gb310, 0, none⟩) (Kd.R_types HO302.out BK310.out (by decide)) (fun _ hk => hk.2) (.int .i64 t305)) (fun _ hk => hk.2) (.slice Ao91 t306.length co91)) (fun _ h_ => h_.1))))) (Kd.R_lt (by (with_reducible repeat (first | apply Kd.R_alloc | apply Kd.R_drewN | apply Kd.R_drew)); exact (Kd.R_mono (Kd.R_far (p := ⟨gb310, 1, none⟩) (Kd.R_far (p := ⟨gb310, 0, none⟩) (Kd.R_types HO308.out BK310.out (by decide)) (fun _ hk => hk.2) (.int .i64 t305)) (fun _ hk => hk.2) (.slice Ao91 t306.length co91)) (fun _ h_ => h_.1))))) (below_size (by repeat (first | (with_reducible first | exact HB.out | apply below_alloc | apply pw_below_drewN | apply below_drew1 | refine below_set ?_ GE274.out | refine below_set ?_ GE275.out | refine below_set ?_ GE285.out | refine below_set ?_ GE286.out | refine below_set ?_ GE292.out | refine below_set ?_ GE298.out | refine below_set ?_ GE304.out | refine below_set ?_ GE310.out) | exact HB.out)))); have n7_ := bkA BK274 hb; have n8_ := bkA BK275 hb; have n9_ := bkA BK285 hb; have n10_ := bkA BK286 hb; have n11_ := bkA BK292 hb; have n12_ := bkA BK298 hb; have n13_ := bkA BK304 hb; have n14_ := Aside0.mk (blk_below (g := gb310) (o := .cells #[.int .i64 t305, .slice Ao91 t306.length co91] 38 (0, 0)) (by (with_reducible repeat (first | refine blk_drewN ?_ _ | refine blk_drew ?_ | refine blk_alloc ?_ _)); refine blk_put (cs := #[.int .i64 t305, .slice none 0 0]) ?_ 1 _ rfl; (with_reducible repeat (first | refine blk_drewN ?_ _ | refine blk_drew ?_ | refine blk_alloc ?_ _)); refine blk_put (cs := #[.int .i64 0, .slice none 0 0]) ?_ 0 _ rfl; (with_reducible repeat (first | refine blk_drewN ?_ _ | refine blk_drew ?_ | refine blk_alloc ?_ _)); exact BK310.out) hb); have n15_ := bsA HB hb; clear HO280; clear HO284; clear HO290; clear HO296; clear HO302; clear HO308; clear BK274; clear BK275; clear BK285; clear BK286; clear BK292; clear BK298; clear BK304; clear BK310; clear HB; have HO280 := n0_; have HO284 := n1_; have HO290 := n2_; have HO296 := n3_; have HO302 := n4_; have HO308 := n5_; have HO314 := n6_; have BK274 := n7_; have BK275 := n8_; have BK285 := n9_; have BK286 := n10_; have BK292 := n11_; have BK298 := n12_; have BK304 := n13_; have BK310 := n14_; have HB := n15_; clear n0_ n1_ n2_ n3_ n4_ n5_ n6_ n7_ n8_ n9_ n10_ n11_ n12_ n13_ n14_ n15_; (try clear hb); (try clear hb2); (try clear hk); (try clear hi); (try clear ho0)) | ((with_reducible refine gate_dst (N := 15) rfl ?_); refine box_event ?hg (N := 15) ?hd (cs := #[.int .i64 0, .slice none 0 0]) (t := 38) ?hr ?_; (case hd => rfl); (case hg => rfl); (case hr => first | (go_simp; done) | (go_simp; rfl)); intro gb316 hg w95 hbox hb; have n0_ := rbA HO280 hb; have n1_ := rbA HO284 hb; have n2_ := rbA HO290 hb; have n3_ := rbA HO296 hb; have n4_ := rbA HO302 hb; have n5_ := rbA HO308 hb; have n6_ := rbA HO314 hb; have n7_ := bkA BK274 hb; have n8_ := bkA BK275 hb; have n9_ := bkA BK285 hb; have n10_ := bkA BK286 hb; have n11_ := bkA BK292 hb; have n12_ := bkA BK298 hb; have n13_ := bkA BK304 hb; have n14_ := bkA BK310 hb; have n15_ := bsA HB hb; have n16_ := Aside0.mk (hbox); have n17_ := szA HB hg; have n18_ := szA HB hg; have n19_ := neA BK274 hg; have n20_ := neB BK274 hg; have n21_ := neA BK275 hg; have n22_ := neB BK275 hg; have n23_ := neA BK285 hg; have n24_ := neB BK285 hg; have n25_ := neA BK286 hg; have n26_ := neB BK286 hg; have n27_ := neA BK292 hg; have n28_ := neB BK292 hg; have n29_ := neA BK298 hg; have n30_ := neB BK298 hg; have n31_ := neA BK304 hg; have n32_ := neB BK304 hg; have n33_ := neA BK310 hg; have n34_ := neB BK310 hg; clear HO280; clear HO284; clear HO290; clear HO296; clear HO302; clear HO308; clear HO314; clear BK274; clear BK275; clear BK285; clear BK286; clear BK292; clear BK298; clear BK304; clear BK310; clear HB; have HO280 := n0_; have HO284 := n1_; have HO290 := n2_; have HO296 := n3_; have HO302 := n4_; have HO308 := n5_; have HO314 := n6_; have BK274 := n7_; have BK275 := n8_; have BK285 := n9_; have BK286 := n10_; have BK292 := n11_; have BK298 := n12_; have BK304 := n13_; have BK310 := n14_; have HB := n15_; have BK316 := n16_; have GW316 := n17_; have GE316 := n18_; have NB274_316 := n19_; have NB316_274 := n20_; have NB275_316 := n21_; have NB316_275 := n22_; have NB285_316 := n23_; have NB316_285 := n24_; have NB286_316 := n25_; have NB316_286 := n26_; have NB292_316 := n27_; have NB316_292 := n28_; have NB298_316 := n29_; have NB316_298 := n30_; have NB304_316 := n31_; have NB316_304 := n32_; have NB310_316 := n33_; have NB316_310 := n34_; clear n0_ n1_ n2_ n3_ n4_ n5_ n6_ n7_ n8_ n9_ n10_ n11_ n12_ n13_ n14_ n15_ n16_ n17_ n18_ n19_ n20_ n21_ n22_ n23_ n24_ n25_ n26_ n27_ n28_ n29_ n30_ n31_ n32_ n33_ n34_; clear hb hbox hg; have hnb96 := NB316_274.out; have hnc96 := NB274_316.out; have hnb97 := NB316_275.out; have hnc97 := NB275_316.out; have hnb98 := NB316_285.out; have hnc98 := NB285_316.out; have hnb99 := NB316_286.out; have hnc99 := NB286_316.out; have hnb100 := NB316_292.out; have hnc100 := NB292_316.out; have hnb101 := NB316_298.out; have hnc101 := NB298_316.out; have hnb102 := NB316_304.out; have hnc102 := NB304_316.out; have hnb103 := NB316_310.out; have hnc103 := NB310_316.out; have hcz104_0 : w95.cell? ⟨gb316, 0, none⟩ = some (.int .i64 0) := (blk_cell BK316.out 0).trans rfl; have hcz104_1 : w95.cell? ⟨gb316, 1, none⟩ = some (.slice none 0 0) := (blk_cell BK316.out 1).trans rfl; have hfz104_0 := blk_frozen BK316.out 0; have hfz104_1 := blk_frozen BK316.out 1; obtain ⟨Ao105, co105, eo105⟩ := Kd.R_slice HO314.out; subst eo105; have hcz106_0 : w95.cell? ⟨gb274, 0, none⟩ = some (.int .i64 a0_0) := (blk_cell BK274.out 0).trans rfl; have hcz106_1 : w95.cell? ⟨gb274, 1, none⟩ = some (.slice A0_1 l0_1.length c0_1) := (blk_cell BK274.out 1).trans rfl; have hfz106_0 := blk_frozen BK274.out 0; have hfz106_1 := blk_frozen BK274.out 1; have hcz107_0 : w95.cell? ⟨gb275, 0, none⟩ = some (.int .i64 a1_0) := (blk_cell BK275.out 0).trans rfl; have hcz107_1 : w95.cell? ⟨gb275, 1, none⟩ = some (.slice A1_1 l1_1.length c1_1) := (blk_cell BK275.out 1).trans rfl; have hfz107_0 := blk_frozen BK275.out 0; have hfz107_1 := blk_frozen BK275.out 1) | ((with_reducible refine gate_callee (f := 28) rfl ?_); refine goesL_ (some 58) rfl rfl Try.func28 (by kernel_rfl) rfl #[.int .i64 2, .agg #[.int .i64 a0_0, .slice A0_1 l0_1.length c0_1], .agg #[.int .i64 a1_0, .slice A1_1 l1_1.length c1_1]] rfl (by (try simp only [List.map_toArray, List.map_cons, List.map_nil]); first | done | rfl | (simp only [List.length_drop, List.length_take]; rfl)) ?_; (with_reducible refine (dragnetref09_Join.calls k 2 a0_0 _ _ l0_1 a1_0 _ _ l1_1 t317 t318 t321 _ ?side1 ?side2 ?side3 ?side4 A12.out).mono ?_); (case side1 => exact Kd.C_below HR0_1.out (by repeat (first | (with_reducible first | exact HB.out | apply below_alloc | apply pw_below_drewN | apply below_drew1 | refine below_set ?_ GE274.out | refine below_set ?_ GE275.out | refine below_set ?_ GE285.out | refine below_set ?_ GE286.out | refine below_set ?_ GE292.out | refine below_set ?_ GE298.out | refine below_set ?_ GE304.out | refine below_set ?_ GE310.out | refine below_set ?_ GE316.out) | exact HB.out))); (case side2 => exact HC0_1.out); (case side3 => exact Kd.C_below HR1_1.out (by repeat (first | (with_reducible first | exact HB.out | apply below_alloc | apply pw_below_drewN | apply below_drew1 | refine below_set ?_ GE274.out | refine below_set ?_ GE275.out | refine below_set ?_ GE285.out | refine below_set ?_ GE286.out | refine below_set ?_ GE292.out | refine below_set ?_ GE298.out | refine below_set ?_ GE304.out | refine below_set ?_ GE310.out | refine below_set ?_ GE316.out) | exact HB.out))); (case side4 => exact HC1_1.out); rintro e w108 ⟨v319, rfl, ho0, hb⟩; refine ⟨_, rfl, ?_⟩; have n0_ := Aside0.mk (Kd.R_elder' (by (with_reducible repeat (first | apply Kd.R_alloc | apply Kd.R_drewN | apply Kd.R_drew)); exact (Kd.R_mono (Kd.R_far (p := ⟨gb316, 1, none⟩) (Kd.R_far (p := ⟨gb316, 0, none⟩) (Kd.R_types HO280.out BK316.out (by decide)) (fun _ hk => hk.2) (.int .i64 t311)) (fun _ hk => hk.2) (.slice Ao105 t312.length co105)) (fun _ h_ => h_.1))) (Kd.R_base ho0) hb); have n1_ := Aside0.mk (Kd.R_elder' (by (with_reducible repeat (first | apply Kd.R_alloc | apply Kd.R_drewN | apply Kd.R_drew)); exact (Kd.R_mono (Kd.R_far (p := ⟨gb316, 1, none⟩) (Kd.R_far (p := ⟨gb316, 0, none⟩) (Kd.R_types HO284.out BK316.out (by decide)) (fun _ hk => hk.2) (.int .i64 t311)) (fun _ hk => hk.2) (.slice Ao105 t312.length co105)) (fun _ h_ => h_.1))) (Kd.R_base ho0) hb); have n2_ := Aside0.mk (Kd.R_elder' (by (with_reducible repeat (first | apply Kd.R_alloc | apply Kd.R_drewN | apply Kd.R_drew)); exact (Kd.R_mono (Kd.R_far (p := ⟨gb316, 1, none⟩) (Kd.R_far (p := ⟨gb316, 0, none⟩) (Kd.R_types HO290.out BK316.out (by decide)) (fun _ hk => hk.2) (.int .i64 t311)) (fun _ hk => hk.2) (.slice Ao105 t312.length co105)) (fun _ h_ => h_.1))) (Kd.R_base ho0) hb); have n3_ := Aside0.mk (Kd.R_elder' (by (with_reducible repeat (first | apply Kd.R_alloc | apply Kd.R_drewN | apply Kd.R_drew)); exact (Kd.R_mono (Kd.R_far (p := ⟨gb316, 1, none⟩) (Kd.R_far (p := ⟨gb316, 0, none⟩) (Kd.R_types HO296.out BK316.out (by decide)) (fun _ hk => hk.2) (.int .i64 t311)) (fun _ hk => hk.2) (.slice Ao105 t312.length co105)) (fun _ h_ => h_.1))) (Kd.R_base ho0) hb); have n4_ := Aside0.mk (Kd.R_elder' (by (with_reducible repeat (first | apply Kd.R_alloc | apply Kd.R_drewN | apply Kd.R_drew)); exact (Kd.R_mono (Kd.R_far (p := ⟨gb316, 1, none⟩) (Kd.R_far (p := ⟨gb316, 0, none⟩) (Kd.R_types HO302.out BK316.out (by decide)) (fun _ hk => hk.2) (.int .i64 t311)) (fun _ hk => hk.2) (.slice Ao105 t312.length co105)) (fun _ h_ => h_.1))) (Kd.R_base ho0) hb); have n5_ := Aside0.mk (Kd.R_elder' (by (with_reducible repeat (first | apply Kd.R_alloc | apply Kd.R_drewN | apply Kd.R_drew)); exact (Kd.R_mono (Kd.R_far (p := ⟨gb316, 1, none⟩) (Kd.R_far (p := ⟨gb316, 0, none⟩) (Kd.R_types HO308.out BK316.out (by decide)) (fun _ hk => hk.2) (.int .i64 t311)) (fun _ hk => hk.2) (.slice Ao105 t312.length co105)) (fun _ h_ => h_.1))) (Kd.R_base ho0) hb); have n6_ := Aside0.mk (Kd.R_elder' (by (with_reducible repeat (first | apply Kd.R_alloc | apply Kd.R_drewN | apply Kd.R_drew)); exact (Kd.R_mono (Kd.R_far (p := ⟨gb316, 1, none⟩) (Kd.R_far (p := ⟨gb316, 0, none⟩) (Kd.R_types HO314.out BK316.out (by decide)) (fun _ hk => hk.2) (.int .i64 t311)) (fun _ hk => hk.2) (.slice Ao105 t312.length co105)) (fun _ h_ => h_.1))) (Kd.R_base ho0) hb); have n7_ := Aside0.mk (Kd.R_lower (Kd.R_new' (Kd.R_new' (Kd.R_new' (Kd.R_new' (Kd.R_new' (Kd.R_new' (Kd.R_new' ho0 (Kd.R_lt (by (with_reducible repeat (first | apply Kd.R_alloc | apply Kd.R_drewN | apply Kd.R_drew)); exact (Kd.R_mono (Kd.R_far (p := ⟨gb316, 1, none⟩) (Kd.R_far (p := ⟨gb316, 0, none⟩) (Kd.R_types HO280.out BK316.out (by decide)) (fun _ hk => hk.2) (.int .i64 t311)) (fun _ hk => hk.2) (.slice Ao105 t312.length co105)) (fun _ h_ => h_.1))))) (Kd.R_lt (by (with_reducible repeat (first | apply Kd.R_alloc | apply Kd.R_drewN | apply Kd.R_drew)); exact (Kd.R_mono (Kd.R_far (p := ⟨gb316, 1, none⟩) (Kd.R_far (p := ⟨gb316, 0, none⟩) (Kd.R_types HO284.out BK316.out (by decide)) (fun _ hk => hk.2) (.int .i64 t311)) (fun _ hk => hk.2) (.slice Ao105 t312.length co105)) (fun _ h_ => h_.1))))) (Kd.R_lt (by (with_reducible repeat (first | apply Kd.R_alloc | apply Kd.R_drewN | apply Kd.R_drew)); exact (Kd.R_mono (Kd.R_far (p := ⟨gb316, 1, none⟩) (Kd.R_far (p := ⟨gb316, 0, none⟩) (Kd.R_types HO290.out BK316.out (by decide)) (fun _ hk => hk.2) (.int .i64 t311)) (fun _ hk => hk.2) (.slice Ao105 t312.length co105)) (fun _ h_ => h_.1))))) (Kd.R_lt (by (with_reducible repeat (first | apply Kd.R_alloc | apply Kd.R_drewN | apply Kd.R_drew)); exact (Kd.R_mono (Kd.R_far (p := ⟨gb316, 1, none⟩) (Kd.R_far (p := ⟨gb316, 0, none⟩) (Kd.R_types HO296.out BK316.out (by decide)) (fun _ hk => hk.2) (.int .i64 t311)) (fun _ hk => hk.2) (.slice Ao105 t312.length co105)) (fun _ h_ => h_.1))))) (Kd.R_lt (by (with_reducible repeat (first | apply Kd.R_alloc | apply Kd.R_drewN | apply Kd.R_drew)); exact (Kd.R_mono (Kd.R_far (p := ⟨gb316, 1, none⟩) (Kd.R_far (p := ⟨gb316, 0, none⟩) (Kd.R_types HO302.out BK316.out (by decide)) (fun _ hk => hk.2) (.int .i64 t311)) (fun _ hk => hk.2) (.slice Ao105 t312.length co105)) (fun _ h_ => h_.1))))) (Kd.R_lt (by (with_reducible repeat (first | apply Kd.R_alloc | apply Kd.R_drewN | apply Kd.R_drew)); exact (Kd.R_mono (Kd.R_far (p := ⟨gb316, 1, none⟩) (Kd.R_far (p := ⟨gb316, 0, none⟩) (Kd.R_types HO308.out BK316.out (by decide)) (fun _ hk => hk.2) (.int .i64 t311)) (fun _ hk => hk.2) (.slice Ao105 t312.length co105)) (fun _ h_ => h_.1))))) (Kd.R_lt (by (with_reducible repeat (first | apply Kd.R_alloc | apply Kd.R_drewN | apply Kd.R_drew)); exact (Kd.R_mono (Kd.R_far (p := ⟨gb316, 1, none⟩) (Kd.R_far (p := ⟨gb316, 0, none⟩) (Kd.R_types HO314.out BK316.out (by decide)) (fun _ hk => hk.2) (.int .i64 t311)) (fun _ hk => hk.2) (.slice Ao105 t312.length co105)) (fun _ h_ => h_.1))))) (below_size (by repeat (first | (with_reducible first | exact HB.out | apply below_alloc | apply pw_below_drewN | apply below_drew1 | refine below_set ?_ GE274.out | refine below_set ?_ GE275.out | refine below_set ?_ GE285.out | refine below_set ?_ GE286.out | refine below_set ?_ GE292.out | refine below_set ?_ GE298.out | refine below_set ?_ GE304.out | refine below_set ?_ GE310.out | refine below_set ?_ GE316.out) | exact HB.out)))); have n8_ := bkA BK274 hb; have n9_ := bkA BK275 hb; have n10_ := bkA BK285 hb; have n11_ := bkA BK286 hb; have n12_ := bkA BK292 hb; have n13_ := bkA BK298 hb; have n14_ := bkA BK304 hb; have n15_ := bkA BK310 hb; have n16_ := Aside0.mk (blk_below (g := gb316) (o := .cells #[.int .i64 t311, .slice Ao105 t312.length co105] 38 (0, 0)) (by (with_reducible repeat (first | refine blk_drewN ?_ _ | refine blk_drew ?_ | refine blk_alloc ?_ _)); refine blk_put (cs := #[.int .i64 t311, .slice none 0 0]) ?_ 1 _ rfl; (with_reducible repeat (first | refine blk_drewN ?_ _ | refine blk_drew ?_ | refine blk_alloc ?_ _)); refine blk_put (cs := #[.int .i64 0, .slice none 0 0]) ?_ 0 _ rfl; (with_reducible repeat (first | refine blk_drewN ?_ _ | refine blk_drew ?_ | refine blk_alloc ?_ _)); exact BK316.out) hb); have n17_ := bsA HB hb; clear HO280; clear HO284; clear HO290; clear HO296; clear HO302; clear HO308; clear HO314; clear BK274; clear BK275; clear BK285; clear BK286; clear BK292; clear BK298; clear BK304; clear BK310; clear BK316; clear HB; have HO280 := n0_; have HO284 := n1_; have HO290 := n2_; have HO296 := n3_; have HO302 := n4_; have HO308 := n5_; have HO314 := n6_; have HO320 := n7_; have BK274 := n8_; have BK275 := n9_; have BK285 := n10_; have BK286 := n11_; have BK292 := n12_; have BK298 := n13_; have BK304 := n14_; have BK310 := n15_; have BK316 := n16_; have HB := n17_; clear n0_ n1_ n2_ n3_ n4_ n5_ n6_ n7_ n8_ n9_ n10_ n11_ n12_ n13_ n14_ n15_ n16_ n17_; (try clear hb); (try clear hb2); (try clear hk); (try clear hi); (try clear ho0)) | ((with_reducible refine gate_dst (N := 17) rfl ?_); refine box_event ?hg (N := 17) ?hd (cs := #[.int .i64 0, .slice none 0 0]) (t := 38) ?hr ?_; (case hd => rfl); (case hg => rfl); (case hr => first | (go_simp; done) | (go_simp; rfl)); intro gb322 hg w109 hbox hb; have n0_ := rbA HO280 hb; have n1_ := rbA HO284 hb; have n2_ := rbA HO290 hb; have n3_ := rbA HO296 hb; have n4_ := rbA HO302 hb; have n5_ := rbA HO308 hb; have n6_ := rbA HO314 hb; have n7_ := rbA HO320 hb; have n8_ := bkA BK274 hb; have n9_ := bkA BK275 hb; have n10_ := bkA BK285 hb; have n11_ := bkA BK286 hb; have n12_ := bkA BK292 hb; have n13_ := bkA BK298 hb; have n14_ := bkA BK304 hb; have n15_ := bkA BK310 hb; have n16_ := bkA BK316 hb; have n17_ := bsA HB hb; have n18_ := Aside0.mk (hbox); have n19_ := szA HB hg; have n20_ := szA HB hg; have n21_ := neA BK274 hg; have n22_ := neB BK274 hg; have n23_ := neA BK275 hg; have n24_ := neB BK275 hg; have n25_ := neA BK285 hg; have n26_ := neB BK285 hg; have n27_ := neA BK286 hg; have n28_ := neB BK286 hg; have n29_ := neA BK292 hg; have n30_ := neB BK292 hg; have n31_ := neA BK298 hg; have n32_ := neB BK298 hg; have n33_ := neA BK304 hg; have n34_ := neB BK304 hg; have n35_ := neA BK310 hg; have n36_ := neB BK310 hg; have n37_ := neA BK316 hg; have n38_ := neB BK316 hg; clear HO280; clear HO284; clear HO290; clear HO296; clear HO302; clear HO308; clear HO314; clear HO320; clear BK274; clear BK275; clear BK285; clear BK286; clear BK292; clear BK298; clear BK304; clear BK310; clear BK316; clear HB; have HO280 := n0_; have HO284 := n1_; have HO290 := n2_; have HO296 := n3_; have HO302 := n4_; have HO308 := n5_; have HO314 := n6_; have HO320 := n7_; have BK274 := n8_; have BK275 := n9_; have BK285 := n10_; have BK286 := n11_; have BK292 := n12_; have BK298 := n13_; have BK304 := n14_; have BK310 := n15_; have BK316 := n16_; have HB := n17_; have BK322 := n18_; have GW322 := n19_; have GE322 := n20_; have NB274_322 := n21_; have NB322_274 := n22_; have NB275_322 := n23_; have NB322_275 := n24_; have NB285_322 := n25_; have NB322_285 := n26_; have NB286_322 := n27_; have NB322_286 := n28_; have NB292_322 := n29_; have NB322_292 := n30_; have NB298_322 := n31_; have NB322_298 := n32_; have NB304_322 := n33_; have NB322_304 := n34_; have NB310_322 := n35_; have NB322_310 := n36_; have NB316_322 := n37_; have NB322_316 := n38_; clear n0_ n1_ n2_ n3_ n4_ n5_ n6_ n7_ n8_ n9_ n10_ n11_ n12_ n13_ n14_ n15_ n16_ n17_ n18_ n19_ n20_ n21_ n22_ n23_ n24_ n25_ n26_ n27_ n28_ n29_ n30_ n31_ n32_ n33_ n34_ n35_ n36_ n37_ n38_; clear hb hbox hg; have hnb110 := NB322_274.out; have hnc110 := NB274_322.out; have hnb111 := NB322_275.out; have hnc111 := NB275_322.out; have hnb112 := NB322_285.out; have hnc112 := NB285_322.out; have hnb113 := NB322_286.out; have hnc113 := NB286_322.out; have hnb114 := NB322_292.out; have hnc114 := NB292_322.out; have hnb115 := NB322_298.out; have hnc115 := NB298_322.out; have hnb116 := NB322_304.out; have hnc116 := NB304_322.out; have hnb117 := NB322_310.out; have hnc117 := NB310_322.out; have hnb118 := NB322_316.out; have hnc118 := NB316_322.out; have hcz119_0 : w109.cell? ⟨gb322, 0, none⟩ = some (.int .i64 0) := (blk_cell BK322.out 0).trans rfl; have hcz119_1 : w109.cell? ⟨gb322, 1, none⟩ = some (.slice none 0 0) := (blk_cell BK322.out 1).trans rfl; have hfz119_0 := blk_frozen BK322.out 0; have hfz119_1 := blk_frozen BK322.out 1; obtain ⟨Ao120, co120, eo120⟩ := Kd.R_slice HO320.out; subst eo120; have hcz121_0 : w109.cell? ⟨gb292, 0, none⟩ = some (.int .i64 t287) := (blk_cell BK292.out 0).trans rfl; have hcz121_1 : w109.cell? ⟨gb292, 1, none⟩ = some (.slice Ao54 t288.length co54) := (blk_cell BK292.out 1).trans rfl; have hfz121_0 := blk_frozen BK292.out 0; have hfz121_1 := blk_frozen BK292.out 1; have hcz122_0 : w109.cell? ⟨gb310, 0, none⟩ = some (.int .i64 t305) := (blk_cell BK310.out 0).trans rfl; have hcz122_1 : w109.cell? ⟨gb310, 1, none⟩ = some (.slice Ao91 t306.length co91) := (blk_cell BK310.out 1).trans rfl; have hfz122_0 := blk_frozen BK310.out 0; have hfz122_1 := blk_frozen BK310.out 1) | ((with_reducible refine gate_callee (f := 29) rfl ?_); refine goesL_ (some 63) rfl rfl Try.func29 (by kernel_rfl) rfl #[.agg #[.int .i64 t287, .slice Ao54 t288.length co54], .agg #[.int .i64 t305, .slice Ao91 t306.length co91]] rfl (by (try simp only [List.map_toArray, List.map_cons, List.map_nil]); first | done | rfl | (simp only [List.length_drop, List.length_take]; rfl)) ?_; (with_reducible refine (dragnetref09_Same.calls k t287 _ _ t288 t305 _ _ t306 true _ ?side1 ?side2 ?side3 ?side4 A13.out).mono ?_); (case side1 => refine (Kd.R_reads' (e := 66) (base := w.heap.size) (ok := fun k_ => (((((((True ∧ some k_ ≠ (.slice Ao35 t278.length co35 : Value).ownBlock) ∧ some k_ ≠ (.slice Ao38 t282.length co38 : Value).ownBlock) ∧ some k_ ≠ (.slice Ao65 t294.length co65 : Value).ownBlock) ∧ some k_ ≠ (.slice Ao77 t300.length co77 : Value).ownBlock) ∧ some k_ ≠ (.slice Ao91 t306.length co91 : Value).ownBlock) ∧ some k_ ≠ (.slice Ao105 t312.length co105 : Value).ownBlock) ∧ some k_ ≠ (.slice Ao120 t318.length co120 : Value).ownBlock)) (n := t288.length) (c := co54) ?_).2.2; exact (by (with_reducible repeat (first | apply Kd.R_alloc | apply Kd.R_drewN | apply Kd.R_drew)); exact (Kd.R_mono (Kd.R_far (p := ⟨gb322, 1, none⟩) (Kd.R_far (p := ⟨gb322, 0, none⟩) (Kd.R_types HO290.out BK322.out (by decide)) (fun _ hk => hk.2) (.int .i64 t317)) (fun _ hk => hk.2) (.slice Ao120 t318.length co120)) (fun _ h_ => h_.1)))); (case side2 => exact (Kd.R_reads' HO290.out).2.1); (case side3 => refine (Kd.R_reads' (e := 66) (base := w.heap.size) (ok := fun k_ => (((((((True ∧ some k_ ≠ (.slice Ao35 t278.length co35 : Value).ownBlock) ∧ some k_ ≠ (.slice Ao38 t282.length co38 : Value).ownBlock) ∧ some k_ ≠ (.slice Ao54 t288.length co54 : Value).ownBlock) ∧ some k_ ≠ (.slice Ao65 t294.length co65 : Value).ownBlock) ∧ some k_ ≠ (.slice Ao77 t300.length co77 : Value).ownBlock) ∧ some k_ ≠ (.slice Ao105 t312.length co105 : Value).ownBlock) ∧ some k_ ≠ (.slice Ao120 t318.length co120 : Value).ownBlock)) (n := t306.length) (c := co91) ?_).2.2; exact (by (with_reducible repeat (first | apply Kd.R_alloc | apply Kd.R_drewN | apply Kd.R_drew)); exact (Kd.R_mono (Kd.R_far (p := ⟨gb322, 1, none⟩) (Kd.R_far (p := ⟨gb322, 0, none⟩) (Kd.R_types HO308.out BK322.out (by decide)) (fun _ hk => hk.2) (.int .i64 t317)) (fun _ hk => hk.2) (.slice Ao120 t318.length co120)) (fun _ h_ => h_.1)))); (case side4 => exact (Kd.R_reads' HO308.out).2.1); rintro e w123 ⟨rfl, hb⟩; refine ⟨_, rfl, ?_⟩; have n0_ := Aside0.mk (Kd.R_below (by (with_reducible repeat (first | apply Kd.R_alloc | apply Kd.R_drewN | apply Kd.R_drew)); exact (Kd.R_mono (Kd.R_far (p := ⟨gb322, 1, none⟩) (Kd.R_far (p := ⟨gb322, 0, none⟩) (Kd.R_types HO280.out BK322.out (by decide)) (fun _ hk => hk.2) (.int .i64 t317)) (fun _ hk => hk.2) (.slice Ao120 t318.length co120)) (fun _ h_ => h_.1))) hb); have n1_ := Aside0.mk (Kd.R_below (by (with_reducible repeat (first | apply Kd.R_alloc | apply Kd.R_drewN | apply Kd.R_drew)); exact (Kd.R_mono (Kd.R_far (p := ⟨gb322, 1, none⟩) (Kd.R_far (p := ⟨gb322, 0, none⟩) (Kd.R_types HO284.out BK322.out (by decide)) (fun _ hk => hk.2) (.int .i64 t317)) (fun _ hk => hk.2) (.slice Ao120 t318.length co120)) (fun _ h_ => h_.1))) hb); have n2_ := Aside0.mk (Kd.R_below (by (with_reducible repeat (first | apply Kd.R_alloc | apply Kd.R_drewN | apply Kd.R_drew)); exact (Kd.R_mono (Kd.R_far (p := ⟨gb322, 1, none⟩) (Kd.R_far (p := ⟨gb322, 0, none⟩) (Kd.R_types HO290.out BK322.out (by decide)) (fun _ hk => hk.2) (.int .i64 t317)) (fun _ hk => hk.2) (.slice Ao120 t318.length co120)) (fun _ h_ => h_.1))) hb); have n3_ := Aside0.mk (Kd.R_below (by (with_reducible repeat (first | apply Kd.R_alloc | apply Kd.R_drewN | apply Kd.R_drew)); exact (Kd.R_mono (Kd.R_far (p := ⟨gb322, 1, none⟩) (Kd.R_far (p := ⟨gb322, 0, none⟩) (Kd.R_types HO296.out BK322.out (by decide)) (fun _ hk => hk.2) (.int .i64 t317)) (fun _ hk => hk.2) (.slice Ao120 t318.length co120)) (fun _ h_ => h_.1))) hb); have n4_ := Aside0.mk (Kd.R_below (by (with_reducible repeat (first | apply Kd.R_alloc | apply Kd.R_drewN | apply Kd.R_drew)); exact (Kd.R_mono (Kd.R_far (p := ⟨gb322, 1, none⟩) (Kd.R_far (p := ⟨gb322, 0, none⟩) (Kd.R_types HO302.out BK322.out (by decide)) (fun _ hk => hk.2) (.int .i64 t317)) (fun _ hk => hk.2) (.slice Ao120 t318.length co120)) (fun _ h_ => h_.1))) hb); have n5_ := Aside0.mk (Kd.R_below (by (with_reducible repeat (first | apply Kd.R_alloc | apply Kd.R_drewN | apply Kd.R_drew)); exact (Kd.R_mono (Kd.R_far (p := ⟨gb322, 1, none⟩) (Kd.R_far (p := ⟨gb322, 0, none⟩) (Kd.R_types HO308.out BK322.out (by decide)) (fun _ hk => hk.2) (.int .i64 t317)) (fun _ hk => hk.2) (.slice Ao120 t318.length co120)) (fun _ h_ => h_.1))) hb); have n6_ := Aside0.mk (Kd.R_below (by (with_reducible repeat (first | apply Kd.R_alloc | apply Kd.R_drewN | apply Kd.R_drew)); exact (Kd.R_mono (Kd.R_far (p := ⟨gb322, 1, none⟩) (Kd.R_far (p := ⟨gb322, 0, none⟩) (Kd.R_types HO314.out BK322.out (by decide)) (fun _ hk => hk.2) (.int .i64 t317)) (fun _ hk => hk.2) (.slice Ao120 t318.length co120)) (fun _ h_ => h_.1))) hb); have n7_ := Aside0.mk (Kd.R_below (by (with_reducible repeat (first | apply Kd.R_alloc | apply Kd.R_drewN | apply Kd.R_drew)); exact (Kd.R_mono (Kd.R_far (p := ⟨gb322, 1, none⟩) (Kd.R_far (p := ⟨gb322, 0, none⟩) (Kd.R_types HO320.out BK322.out (by decide)) (fun _ hk => hk.2) (.int .i64 t317)) (fun _ hk => hk.2) (.slice Ao120 t318.length co120)) (fun _ h_ => h_.1))) hb); have n8_ := bkA BK274 hb; have n9_ := bkA BK275 hb; have n10_ := bkA BK285 hb; have n11_ := bkA BK286 hb; have n12_ := bkA BK292 hb; have n13_ := bkA BK298 hb; have n14_ := bkA BK304 hb; have n15_ := bkA BK310 hb; have n16_ := bkA BK316 hb; have n17_ := Aside0.mk (blk_below (g := gb322) (o := .cells #[.int .i64 t317, .slice Ao120 t318.length co120] 38 (0, 0)) (by (with_reducible repeat (first | refine blk_drewN ?_ _ | refine blk_drew ?_ | refine blk_alloc ?_ _)); refine blk_put (cs := #[.int .i64 t317, .slice none 0 0]) ?_ 1 _ rfl; (with_reducible repeat (first | refine blk_drewN ?_ _ | refine blk_drew ?_ | refine blk_alloc ?_ _)); refine blk_put (cs := #[.int .i64 0, .slice none 0 0]) ?_ 0 _ rfl; (with_reducible repeat (first | refine blk_drewN ?_ _ | refine blk_drew ?_ | refine blk_alloc ?_ _)); exact BK322.out) hb); have n18_ := bsA HB hb; clear HO280; clear HO284; clear HO290; clear HO296; clear HO302; clear HO308; clear HO314; clear HO320; clear BK274; clear BK275; clear BK285; clear BK286; clear BK292; clear BK298; clear BK304; clear BK310; clear BK316; clear BK322; clear HB; have HO280 := n0_; have HO284 := n1_; have HO290 := n2_; have HO296 := n3_; have HO302 := n4_; have HO308 := n5_; have HO314 := n6_; have HO320 := n7_; have BK274 := n8_; have BK275 := n9_; have BK285 := n10_; have BK286 := n11_; have BK292 := n12_; have BK298 := n13_; have BK304 := n14_; have BK310 := n15_; have BK316 := n16_; have BK322 := n17_; have HB := n18_; clear n0_ n1_ n2_ n3_ n4_ n5_ n6_ n7_ n8_ n9_ n10_ n11_ n12_ n13_ n14_ n15_ n16_ n17_ n18_; (try clear hb); (try clear hb2); (try clear hk); (try clear hi); have hcz124_0 : w123.cell? ⟨gb298, 0, none⟩ = some (.int .i64 t293) := (blk_cell BK298.out 0).trans rfl; have hcz124_1 : w123.cell? ⟨gb298, 1, none⟩ = some (.slice Ao65 t294.length co65) := (blk_cell BK298.out 1).trans rfl; have hfz124_0 := blk_frozen BK298.out 0; have hfz124_1 := blk_frozen BK298.out 1; have hcz125_0 : w123.cell? ⟨gb316, 0, none⟩ = some (.int .i64 t311) := (blk_cell BK316.out 0).trans rfl; have hcz125_1 : w123.cell? ⟨gb316, 1, none⟩ = some (.slice Ao105 t312.length co105) := (blk_cell BK316.out 1).trans rfl; have hfz125_0 := blk_frozen BK316.out 0; have hfz125_1 := blk_frozen BK316.out 1) | (go_at_call 29; (with_reducible refine (dragnetref09_Same.calls k t293 _ _ t294 t311 _ _ t312 true _ ?side1 ?side2 ?side3 ?side4 A16.out).mono ?_); (case side1 => repeat (first | exact (Kd.R_reads' HO296.out).2.2 | (with_reducible refine Kd.C_alloc ?_ _) | (with_reducible refine Kd.C_drewN ?_ _) | (with_reducible refine Kd.C_drew ?_))); (case side2 => exact (Kd.R_reads' HO296.out).2.1); (case side3 => repeat (first | exact (Kd.R_reads' HO314.out).2.2 | (with_reducible refine Kd.C_alloc ?_ _) | (with_reducible refine Kd.C_drewN ?_ _) | (with_reducible refine Kd.C_drew ?_))); (case side4 => exact (Kd.R_reads' HO314.out).2.1); rintro e w126 ⟨rfl, hb⟩; have n0_ := rbA HO280 hb; have n1_ := rbA HO284 hb; have n2_ := rbA HO290 hb; have n3_ := rbA HO296 hb; have n4_ := rbA HO302 hb; have n5_ := rbA HO308 hb; have n6_ := rbA HO314 hb; have n7_ := rbA HO320 hb; have n8_ := bkA BK274 hb; have n9_ := bkA BK275 hb; have n10_ := bkA BK285 hb; have n11_ := bkA BK286 hb; have n12_ := bkA BK292 hb; have n13_ := bkA BK298 hb; have n14_ := bkA BK304 hb; have n15_ := bkA BK310 hb; have n16_ := bkA BK316 hb; have n17_ := bkA BK322 hb; have n18_ := bsA HB hb; clear HO280; clear HO284; clear HO290; clear HO296; clear HO302; clear HO308; clear HO314; clear HO320; clear BK274; clear BK275; clear BK285; clear BK286; clear BK292; clear BK298; clear BK304; clear BK310; clear BK316; clear BK322; clear HB; have HO280 := n0_; have HO284 := n1_; have HO290 := n2_; have HO296 := n3_; have HO302 := n4_; have HO308 := n5_; have HO314 := n6_; have HO320 := n7_; have BK274 := n8_; have BK275 := n9_; have BK285 := n10_; have BK286 := n11_; have BK292 := n12_; have BK298 := n13_; have BK304 := n14_; have BK310 := n15_; have BK316 := n16_; have BK322 := n17_; have HB := n18_; clear n0_ n1_ n2_ n3_ n4_ n5_ n6_ n7_ n8_ n9_ n10_ n11_ n12_ n13_ n14_ n15_ n16_ n17_ n18_; (try clear hb); (try clear hb2); (try clear hk); (try clear hi); have hcz127_0 : w126.cell? ⟨gb304, 0, none⟩ = some (.int .i64 t299) := (blk_cell BK304.out 0).trans rfl; have hcz127_1 : w126.cell? ⟨gb304, 1, none⟩ = some (.slice Ao77 t300.length co77) := (blk_cell BK304.out 1).trans rfl; have hfz127_0 := blk_frozen BK304.out 0; have hfz127_1 := blk_frozen BK304.out 1; have hcz128_0 : w126.cell? ⟨gb322, 0, none⟩ = some (.int .i64 t317) := (blk_cell BK322.out 0).trans rfl; have hcz128_1 : w126.cell? ⟨gb322, 1, none⟩ = some (.slice Ao120 t318.length co120) := (blk_cell BK322.out 1).trans rfl; have hfz128_0 := blk_frozen BK322.out 0; have hfz128_1 := blk_frozen BK322.out 1) | (go_at_call 29; (with_reducible refine (dragnetref09_Same.calls k t299 _ _ t300 t317 _ _ t318 true _ ?side1 ?side2 ?side3 ?side4 A19.out).mono ?_); (case side1 => repeat (first | exact (Kd.R_reads' HO302.out).2.2 | (with_reducible refine Kd.C_alloc ?_ _) | (with_reducible refine Kd.C_drewN ?_ _) | (with_reducible refine Kd.C_drew ?_))); (case side2 => exact (Kd.R_reads' HO302.out).2.1); (case side3 => repeat (first | exact (Kd.R_reads' HO320.out).2.2 | (with_reducible refine Kd.C_alloc ?_ _) | (with_reducible refine Kd.C_drewN ?_ _) | (with_reducible refine Kd.C_drew ?_))); (case side4 => exact (Kd.R_reads' HO320.out).2.1); rintro e w129 ⟨rfl, hb⟩; have n0_ := rbA HO280 hb; have n1_ := rbA HO284 hb; have n2_ := rbA HO290 hb; have n3_ := rbA HO296 hb; have n4_ := rbA HO302 hb; have n5_ := rbA HO308 hb; have n6_ := rbA HO314 hb; have n7_ := rbA HO320 hb; have n8_ := bkA BK274 hb; have n9_ := bkA BK275 hb; have n10_ := bkA BK285 hb; have n11_ := bkA BK286 hb; have n12_ := bkA BK292 hb; have n13_ := bkA BK298 hb; have n14_ := bkA BK304 hb; have n15_ := bkA BK310 hb; have n16_ := bkA BK316 hb; have n17_ := bkA BK322 hb; have n18_ := bsA HB hb; clear HO280; clear HO284; clear HO290; clear HO296; clear HO302; clear HO308; clear HO314; clear HO320; clear BK274; clear BK275; clear BK285; clear BK286; clear BK292; clear BK298; clear BK304; clear BK310; clear BK316; clear BK322; clear HB; have HO280 := n0_; have HO284 := n1_; have HO290 := n2_; have HO296 := n3_; have HO302 := n4_; have HO308 := n5_; have HO314 := n6_; have HO320 := n7_; have BK274 := n8_; have BK275 := n9_; have BK285 := n10_; have BK286 := n11_; have BK292 := n12_; have BK298 := n13_; have BK304 := n14_; have BK310 := n15_; have BK316 := n16_; have BK322 := n17_; have HB := n18_; clear n0_ n1_ n2_ n3_ n4_ n5_ n6_ n7_ n8_ n9_ n10_ n11_ n12_ n13_ n14_ n15_ n16_ n17_ n18_; (try clear hb); (try clear hb2); (try clear hk); (try clear hi); have hcz130_0 : w129.cell? ⟨gb285, 0, none⟩ = some (.int .i64 t277) := (blk_cell BK285.out 0).trans rfl; have hcz130_1 : w129.cell? ⟨gb285, 1, none⟩ = some (.slice Ao35 t278.length co35) := (blk_cell BK285.out 1).trans rfl; have hfz130_0 := blk_frozen BK285.out 0; have hfz130_1 := blk_frozen BK285.out 1; have hcz131_0 : w129.cell? ⟨gb274, 0, none⟩ = some (.int .i64 a0_0) := (blk_cell BK274.out 0).trans rfl; have hcz131_1 : w129.cell? ⟨gb274, 1, none⟩ = some (.slice A0_1 l0_1.length c0_1) := (blk_cell BK274.out 1).trans rfl; have hfz131_0 := blk_frozen BK274.out 0; have hfz131_1 := blk_frozen BK274.out 1) | (go_at_call 29; (with_reducible refine (dragnetref09_Same.calls k t277 _ _ t278 a0_0 _ _ l0_1 true _ ?side1 ?side2 ?side3 ?side4 A22.out).mono ?_); (case side1 => repeat (first | exact (Kd.R_reads' HO280.out).2.2 | (with_reducible refine Kd.C_alloc ?_ _) | (with_reducible refine Kd.C_drewN ?_ _) | (with_reducible refine Kd.C_drew ?_))); (case side2 => exact (Kd.R_reads' HO280.out).2.1); (case side3 => repeat (first | exact (Kd.C_below HR0_1.out HB.out) | (with_reducible refine Kd.C_alloc ?_ _) | (with_reducible refine Kd.C_drewN ?_ _) | (with_reducible refine Kd.C_drew ?_))); (case side4 => exact HC0_1.out); rintro e w132 ⟨rfl, hb⟩; have n0_ := rbA HO280 hb; have n1_ := rbA HO284 hb; have n2_ := rbA HO290 hb; have n3_ := rbA HO296 hb; have n4_ := rbA HO302 hb; have n5_ := rbA HO308 hb; have n6_ := rbA HO314 hb; have n7_ := rbA HO320 hb; have n8_ := bkA BK274 hb; have n9_ := bkA BK275 hb; have n10_ := bkA BK285 hb; have n11_ := bkA BK286 hb; have n12_ := bkA BK292 hb; have n13_ := bkA BK298 hb; have n14_ := bkA BK304 hb; have n15_ := bkA BK310 hb; have n16_ := bkA BK316 hb; have n17_ := bkA BK322 hb; have n18_ := bsA HB hb; clear HO280; clear HO284; clear HO290; clear HO296; clear HO302; clear HO308; clear HO314; clear HO320; clear BK274; clear BK275; clear BK285; clear BK286; clear BK292; clear BK298; clear BK304; clear BK310; clear BK316; clear BK322; clear HB; have HO280 := n0_; have HO284 := n1_; have HO290 := n2_; have HO296 := n3_; have HO302 := n4_; have HO308 := n5_; have HO314 := n6_; have HO320 := n7_; have BK274 := n8_; have BK275 := n9_; have BK285 := n10_; have BK286 := n11_; have BK292 := n12_; have BK298 := n13_; have BK304 := n14_; have BK310 := n15_; have BK316 := n16_; have BK322 := n17_; have HB := n18_; clear n0_ n1_ n2_ n3_ n4_ n5_ n6_ n7_ n8_ n9_ n10_ n11_ n12_ n13_ n14_ n15_ n16_ n17_ n18_; (try clear hb); (try clear hb2); (try clear hk); (try clear hi); have hcz133_0 : w132.cell? ⟨gb286, 0, none⟩ = some (.int .i64 t281) := (blk_cell BK286.out 0).trans rfl; have hcz133_1 : w132.cell? ⟨gb286, 1, none⟩ = some (.slice Ao38 t282.length co38) := (blk_cell BK286.out 1).trans rfl; have hfz133_0 := blk_frozen BK286.out 0; have hfz133_1 := blk_frozen BK286.out 1; have hcz134_0 : w132.cell? ⟨gb275, 0, none⟩ = some (.int .i64 a1_0) := (blk_cell BK275.out 0).trans rfl; have hcz134_1 : w132.cell? ⟨gb275, 1, none⟩ = some (.slice A1_1 l1_1.length c1_1) := (blk_cell BK275.out 1).trans rfl; have hfz134_0 := blk_frozen BK275.out 0; have hfz134_1 := blk_frozen BK275.out 1) | (go_at_call 29; (with_reducible refine (dragnetref09_Same.calls k t281 _ _ t282 a1_0 _ _ l1_1 t327 _ ?side1 ?side2 ?side3 ?side4 A24.out).mono ?_); (case side1 => repeat (first | exact (Kd.R_reads' HO284.out).2.2 | (with_reducible refine Kd.C_alloc ?_ _) | (with_reducible refine Kd.C_drewN ?_ _) | (with_reducible refine Kd.C_drew ?_))); (case side2 => exact (Kd.R_reads' HO284.out).2.1); (case side3 => repeat (first | exact (Kd.C_below HR1_1.out HB.out) | (with_reducible refine Kd.C_alloc ?_ _) | (with_reducible refine Kd.C_drewN ?_ _) | (with_reducible refine Kd.C_drew ?_))); (case side4 => exact HC1_1.out); rintro e w135 ⟨rfl, hb⟩; have n0_ := rbA HO280 hb; have n1_ := rbA HO284 hb; have n2_ := rbA HO290 hb; have n3_ := rbA HO296 hb; have n4_ := rbA HO302 hb; have n5_ := rbA HO308 hb; have n6_ := rbA HO314 hb; have n7_ := rbA HO320 hb; have n8_ := bkA BK274 hb; have n9_ := bkA BK275 hb; have n10_ := bkA BK285 hb; have n11_ := bkA BK286 hb; have n12_ := bkA BK292 hb; have n13_ := bkA BK298 hb; have n14_ := bkA BK304 hb; have n15_ := bkA BK310 hb; have n16_ := bkA BK316 hb; have n17_ := bkA BK322 hb; have n18_ := bsA HB hb; clear HO280; clear HO284; clear HO290; clear HO296; clear HO302; clear HO308; clear HO314; clear HO320; clear BK274; clear BK275; clear BK285; clear BK286; clear BK292; clear BK298; clear BK304; clear BK310; clear BK316; clear BK322; clear HB; have HO280 := n0_; have HO284 := n1_; have HO290 := n2_; have HO296 := n3_; have HO302 := n4_; have HO308 := n5_; have HO314 := n6_; have HO320 := n7_; have BK274 := n8_; have BK275 := n9_; have BK285 := n10_; have BK286 := n11_; have BK292 := n12_; have BK298 := n13_; have BK304 := n14_; have BK310 := n15_; have BK316 := n16_; have BK322 := n17_; have HB := n18_; clear n0_ n1_ n2_ n3_ n4_ n5_ n6_ n7_ n8_ n9_ n10_ n11_ n12_ n13_ n14_ n15_ n16_ n17_ n18_; (try clear hb); (try clear hb2); (try clear hk); (try clear hi)))
         go_ret
         exact ⟨by first | rfl | (simp [errW_none, errW_some] <;> rfl) | (simp [*, errW_none, errW_some] <;> rfl), by repeat (first | (with_reducible first | exact HB.out | apply below_alloc | apply pw_below_drewN | apply below_drew1 | refine below_set ?_ GE274.out | refine below_set ?_ GE275.out | refine below_set ?_ GE285.out | refine below_set ?_ GE286.out | refine below_set ?_ GE292.out | refine below_set ?_ GE298.out | refine below_set ?_ GE304.out | refine below_set ?_ GE310.out | refine below_set ?_ GE316.out | refine below_set ?_ GE322.out) | exact HB.out)⟩
        ·replace c23 := Bool.eq_false_iff.mpr c23
         subst c23
         have H1 : (some false) = some true := by rw [if_neg (show ¬ (false = true) by decide)] at H; exact H
         clear H
         have H := H1
         clear H1
         exact absurd H (by simp)
       ·rw [if_neg c21] at H
        have c21b0 : (t303 == t321) = false := beq_eq_false_iff_ne.mpr c21
        have c21b1 : (t303 != t321) = true := bne_iff_ne.mpr c21
        exact absurd H (by simp)
      ·replace c20 := Bool.eq_false_iff.mpr c20
       subst c20
       have H1 : (some false) = some true := by rw [if_neg (show ¬ (false = true) by decide)] at H; exact H
       clear H
       have H := H1
       clear H1
       exact absurd H (by simp)
     ·rw [if_neg c18] at H
      have c18b0 : (t297 == t315) = false := beq_eq_false_iff_ne.mpr c18
      have c18b1 : (t297 != t315) = true := bne_iff_ne.mpr c18
      exact absurd H (by simp)
    ·replace c17 := Bool.eq_false_iff.mpr c17
     subst c17
     have H1 : (some false) = some true := by rw [if_neg (show ¬ (false = true) by decide)] at H; exact H
     clear H
     have H := H1
     clear H1
     exact absurd H (by simp)
   ·rw [if_neg c15] at H
    have c15b0 : (t291 == t309) = false := beq_eq_false_iff_ne.mpr c15
    have c15b1 : (t291 != t309) = true := bne_iff_ne.mpr c15
    exact absurd H (by simp)
  ·replace c14 := Bool.eq_false_iff.mpr c14
   subst c14
   have H1 : (some false) = some true := by rw [if_neg (show ¬ (false = true) by decide)] at H; exact H
   clear H
   have H := H1
   clear H1
   exact absurd H (by simp)
 ·replace c4 := Bool.eq_false_iff.mpr c4
  subst c4
  have H1 : (some false) = some true := by rw [if_neg (show ¬ (false = true) by decide)] at H; exact H
  clear H
  have H := H1
  clear H1
  exact absurd H (by simp)

end Go.Proofs.Ytiaaicmkpjlplaa.P
