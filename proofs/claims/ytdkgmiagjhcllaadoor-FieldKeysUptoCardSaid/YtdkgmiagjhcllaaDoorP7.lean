-- Written by a program of this session (wip/tools/tp.py: the kit's printer, turned to take functions that were proved by hand). Lean checks it.
import Derived.Test.YtdkgmiagjhcllaaDoorP0
import Derived.Test.YtdkgmiagjhcllaaDoorP1
import Derived.Test.YtdkgmiagjhcllaaDoorAlive8
namespace Go.Proofs.YtdkgmiagjhcllaaDoor.P
open Go.RowKit Go.Proofs.YtdkgmiagjhcllaaDoorW.PrintWords Go.Proofs.YtdkgmiagjhcllaaDoorW.PrintLast Go.Proofs.YtdkgmiagjhcllaaDoorW.PrintMore
attribute [local go_sem] max2_int min2_int max_two min_two max_three min_three max_four min_four   -- for this text's walks alone
set_option linter.unusedVariables false
set_option linter.unusedSimpArgs false

-- LEVEL 6
-- PROVED BY HAND: function 9 (dragnetlaw08_alive): Derived.Test.YtdkgmiagjhcllaaDoorAlive8

-- LEVEL 6
/-! ### dragnetlaw08_FieldKeys: function 3 -/
def dragnetlaw08_FieldKeys.f (k : Nat) (a0 : ByteArray) : Option (Bool) := (dragnetlaw08_alive.f).bind fun t129 => (if t129 = true then ((field_IsKey.f k a0).bind fun t130 => ((dragnetref08_IsKey.f k a0).bind fun t131 => (some (t130 == t131)))) else (some false))
theorem dragnetlaw08_FieldKeys.mono : ∀ a0 k, LeO (dragnetlaw08_FieldKeys.f k a0) (dragnetlaw08_FieldKeys.f (k + 1) a0) := by
 intro a0 k
 unfold dragnetlaw08_FieldKeys.f
 repeat' first
   | (with_reducible exact dragnetref08_IsKey.mono _ _)
   | (with_reducible exact field_IsKey.mono _ _)
   | (with_reducible exact LeO.refl _)
   | (with_reducible exact LeO.none _)
   | (with_reducible refine LeO.ite ?_ ?_)
   | (with_reducible refine LeO.bind ?_ (fun _ => ?_))
   | exact dragnetref08_IsKey.mono _ _
   | exact field_IsKey.mono _ _
   | exact LeO.none _
   | refine LeO.ite ?_ ?_
   | refine LeO.bind ?_ (fun _ => ?_)
set_option maxHeartbeats 8000000 in
set_option maxRecDepth 100000 in
theorem dragnetlaw08_FieldKeys.calls (k : Nat) (a0 : ByteArray) (w : World) (h : dragnetlaw08_FieldKeys.f k a0 = some true) (hx : FieldIn w := by exact FieldIn.go (by assumption) (by assumption)) :
  Calls Tryd.prog 3 #[.string a0] w fun e w' => e = .returned (.bool true) ∧ Below w.heap.size w w' := by
 have HX := Aside0.mk hx
 clear hx
 have HB := Aside0.mk (Below.refl w.heap.size w)
 have H : ((dragnetlaw08_alive.f).bind fun t129 => (if t129 = true then ((field_IsKey.f k a0).bind fun t130 => ((dragnetref08_IsKey.f k a0).bind fun t131 => (some (t130 == t131)))) else (some false))) = some true := h
 clear h
 replace H := Option.bind_eq_some_iff.mp H
 obtain ⟨t129, A20, H⟩ := H
 replace H : (if t129 = true then ((field_IsKey.f k a0).bind fun t130 => ((dragnetref08_IsKey.f k a0).bind fun t131 => (some (t130 == t131)))) else (some false)) = some true := H
 have A2 := Aside0.mk A20
 clear A20
 by_cases c3 : t129 = true
 ·subst c3
  have H1 : ((field_IsKey.f k a0).bind fun t130 => ((dragnetref08_IsKey.f k a0).bind fun t131 => (some (t130 == t131)))) = some true := by rw [if_pos rfl] at H; exact H
  clear H
  have H := H1
  clear H1
  replace H := Option.bind_eq_some_iff.mp H
  obtain ⟨t130, A40, H⟩ := H
  replace H : ((dragnetref08_IsKey.f k a0).bind fun t131 => (some (t130 == t131))) = some true := H
  have A4 := Aside0.mk A40
  clear A40
  replace H := Option.bind_eq_some_iff.mp H
  obtain ⟨t131, A50, H⟩ := H
  replace H : (some (t130 == t131)) = some true := H
  have A5 := Aside0.mk A50
  clear A50
  have Hr_ := Option.some.inj H
  go_enter Tryd.func3, Tryd.ntmps3
  go_wp2_with (first | ((with_reducible refine gate_callee (f := 9) rfl ?_); refine goesL_ (some 3) rfl rfl Tryd.func9 (by kernel_rfl) rfl #[] rfl (by (try simp only [List.map_toArray, List.map_cons, List.map_nil]); first | done | rfl | (simp only [List.length_drop, List.length_take]; rfl)) ?_; (with_reducible refine (dragnetlaw08_alive.calls  true _ A2.out).mono ?_); rintro e w6 ⟨rfl, hb⟩; refine ⟨_, rfl, ?_⟩; have n0_ := bsA HB hb; clear HB; have HB := n0_; clear n0_; (try clear hb); (try clear hb2); (try clear hk); (try clear hi)) | (go_at_call 10; (with_reducible refine (field_IsKey.calls k a0 t130 _ A4.out).mono ?_); rintro e w' ⟨rfl, ⟨nd, rfl⟩⟩) | (go_at_call 11; (with_reducible refine (dragnetref08_IsKey.calls k a0 t131 _ A5.out).mono ?_); rintro e w' ⟨rfl, ⟨nd, rfl⟩⟩))
  go_ret
  exact ⟨by first | rfl | (simp [errW_none, errW_some] <;> rfl) | (simp [*, errW_none, errW_some] <;> rfl), by repeat (first | (with_reducible first | exact HB.out | apply below_alloc | apply pw_below_drewN | apply below_drew1) | exact HB.out)⟩
 ·replace c3 := Bool.eq_false_iff.mpr c3
  subst c3
  have H1 : (some false) = some true := by rw [if_neg (show ¬ (false = true) by decide)] at H; exact H
  clear H
  have H := H1
  clear H1
  exact absurd H (by simp)

end Go.Proofs.YtdkgmiagjhcllaaDoor.P
