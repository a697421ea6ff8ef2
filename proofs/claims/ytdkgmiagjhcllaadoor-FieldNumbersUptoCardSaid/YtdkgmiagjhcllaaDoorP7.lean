-- Written by a program of this session (wip/tools/tp.py: the kit's printer, turned to take functions that were proved by hand). Lean checks it.
import Derived.Test.YtdkgmiagjhcllaaDoorP0
import Derived.Test.YtdkgmiagjhcllaaDoorP1
import Derived.Test.YtdkgmiagjhcllaaDoorP4
import Derived.Test.YtdkgmiagjhcllaaDoorAlive8
import Derived.Test.YtdkgmiagjhcllaaDoorNumber
namespace Go.Proofs.YtdkgmiagjhcllaaDoor.P
open Go.RowKit Go.Proofs.YtdkgmiagjhcllaaDoorW.PrintWords Go.Proofs.YtdkgmiagjhcllaaDoorW.PrintLast Go.Proofs.YtdkgmiagjhcllaaDoorW.PrintMore
attribute [local go_sem] max2_int min2_int max_two min_two max_three min_three max_four min_four   -- for this text's walks alone
set_option linter.unusedVariables false
set_option linter.unusedSimpArgs false

-- LEVEL 6
-- PROVED BY HAND: function 9 (dragnetlaw08_alive): Derived.Test.YtdkgmiagjhcllaaDoorAlive8

-- LEVEL 6
/-! ### dragnetlaw08_FieldNumbers: function 5 -/
def dragnetlaw08_FieldNumbers.f (k : Nat) (a0 : ByteArray) (a1 : Int) : Option (Bool) := (dragnetlaw08_alive.f).bind fun t139 => (if t139 = true then ((field_Number.f a0).bind fun bt140 => ((dragnetref08_Number.f k a0).bind fun bt142 => ((field_Show.f (⟨#[]⟩ : ByteArray) 1 a1 a0).bind fun t144 => ((field_Number.f t144).bind fun bt145 => (if bt140.1 = bt142.1 then (if (bt140.2 == bt142.2) = true then ((dragnetref08_Text.f k a1).bind fun t147 => (if t144.toList = t147.toList then (if bt145.2 = true then (if bt145.1 = a1 then ((field_Show.f (⟨#[]⟩ : ByteArray) 2 a1 a0).bind fun t148 => (some (t148.toList == a0.toList))) else (some false)) else (some false)) else (some false))) else (some false)) else (some false)))))) else (some false))
theorem dragnetlaw08_FieldNumbers.mono : ∀ a0 a1 k, LeO (dragnetlaw08_FieldNumbers.f k a0 a1) (dragnetlaw08_FieldNumbers.f (k + 1) a0 a1) := by
 intro a0 a1 k
 unfold dragnetlaw08_FieldNumbers.f
 repeat' first
   | (with_reducible exact dragnetref08_Number.mono _ _)
   | (with_reducible exact dragnetref08_Text.mono _ _)
   | (with_reducible exact LeO.refl _)
   | (with_reducible exact LeO.none _)
   | (with_reducible refine LeO.ite ?_ ?_)
   | (with_reducible refine LeO.bind ?_ (fun _ => ?_))
   | exact dragnetref08_Number.mono _ _
   | exact dragnetref08_Text.mono _ _
   | exact LeO.none _
   | refine LeO.ite ?_ ?_
   | refine LeO.bind ?_ (fun _ => ?_)
set_option maxHeartbeats 8000000 in
set_option maxRecDepth 100000 in
theorem dragnetlaw08_FieldNumbers.calls (k : Nat) (a0 : ByteArray) (a1 : Int) (w : World) (h : dragnetlaw08_FieldNumbers.f k a0 a1 = some true) (hx : FieldIn w := by exact FieldIn.go (by assumption) (by assumption)) :
  Calls Tryd.prog 5 #[.string a0, .int .i64 a1] w fun e w' => e = .returned (.bool true) ∧ Below w.heap.size w w' := by
 have HX := Aside0.mk hx
 clear hx
 have hu28 := Tryd.underlying28
 have HB := Aside0.mk (Below.refl w.heap.size w)
 have H : ((dragnetlaw08_alive.f).bind fun t139 => (if t139 = true then ((field_Number.f a0).bind fun bt140 => ((dragnetref08_Number.f k a0).bind fun bt142 => ((field_Show.f (⟨#[]⟩ : ByteArray) 1 a1 a0).bind fun t144 => ((field_Number.f t144).bind fun bt145 => (if bt140.1 = bt142.1 then (if (bt140.2 == bt142.2) = true then ((dragnetref08_Text.f k a1).bind fun t147 => (if t144.toList = t147.toList then (if bt145.2 = true then (if bt145.1 = a1 then ((field_Show.f (⟨#[]⟩ : ByteArray) 2 a1 a0).bind fun t148 => (some (t148.toList == a0.toList))) else (some false)) else (some false)) else (some false))) else (some false)) else (some false)))))) else (some false))) = some true := h
 clear h
 replace H := Option.bind_eq_some_iff.mp H
 obtain ⟨t139, A30, H⟩ := H
 replace H : (if t139 = true then ((field_Number.f a0).bind fun bt140 => ((dragnetref08_Number.f k a0).bind fun bt142 => ((field_Show.f (⟨#[]⟩ : ByteArray) 1 a1 a0).bind fun t144 => ((field_Number.f t144).bind fun bt145 => (if bt140.1 = bt142.1 then (if (bt140.2 == bt142.2) = true then ((dragnetref08_Text.f k a1).bind fun t147 => (if t144.toList = t147.toList then (if bt145.2 = true then (if bt145.1 = a1 then ((field_Show.f (⟨#[]⟩ : ByteArray) 2 a1 a0).bind fun t148 => (some (t148.toList == a0.toList))) else (some false)) else (some false)) else (some false))) else (some false)) else (some false)))))) else (some false)) = some true := H
 have A3 := Aside0.mk A30
 clear A30
 by_cases c4 : t139 = true
 ·subst c4
  have H1 : ((field_Number.f a0).bind fun bt140 => ((dragnetref08_Number.f k a0).bind fun bt142 => ((field_Show.f (⟨#[]⟩ : ByteArray) 1 a1 a0).bind fun t144 => ((field_Number.f t144).bind fun bt145 => (if bt140.1 = bt142.1 then (if (bt140.2 == bt142.2) = true then ((dragnetref08_Text.f k a1).bind fun t147 => (if t144.toList = t147.toList then (if bt145.2 = true then (if bt145.1 = a1 then ((field_Show.f (⟨#[]⟩ : ByteArray) 2 a1 a0).bind fun t148 => (some (t148.toList == a0.toList))) else (some false)) else (some false)) else (some false))) else (some false)) else (some false)))))) = some true := by rw [if_pos rfl] at H; exact H
  clear H
  have H := H1
  clear H1
  replace H := Option.bind_eq_some_iff.mp H
  obtain ⟨⟨t140, t141⟩, A50, H⟩ := H
  replace H : ((dragnetref08_Number.f k a0).bind fun bt142 => ((field_Show.f (⟨#[]⟩ : ByteArray) 1 a1 a0).bind fun t144 => ((field_Number.f t144).bind fun bt145 => (if t140 = bt142.1 then (if (t141 == bt142.2) = true then ((dragnetref08_Text.f k a1).bind fun t147 => (if t144.toList = t147.toList then (if bt145.2 = true then (if bt145.1 = a1 then ((field_Show.f (⟨#[]⟩ : ByteArray) 2 a1 a0).bind fun t148 => (some (t148.toList == a0.toList))) else (some false)) else (some false)) else (some false))) else (some false)) else (some false))))) = some true := H
  have A5 := Aside0.mk A50
  clear A50
  replace H := Option.bind_eq_some_iff.mp H
  obtain ⟨⟨t142, t143⟩, A60, H⟩ := H
  replace H : ((field_Show.f (⟨#[]⟩ : ByteArray) 1 a1 a0).bind fun t144 => ((field_Number.f t144).bind fun bt145 => (if t140 = t142 then (if (t141 == t143) = true then ((dragnetref08_Text.f k a1).bind fun t147 => (if t144.toList = t147.toList then (if bt145.2 = true then (if bt145.1 = a1 then ((field_Show.f (⟨#[]⟩ : ByteArray) 2 a1 a0).bind fun t148 => (some (t148.toList == a0.toList))) else (some false)) else (some false)) else (some false))) else (some false)) else (some false)))) = some true := H
  have A6 := Aside0.mk A60
  clear A60
  replace H := Option.bind_eq_some_iff.mp H
  obtain ⟨t144, A70, H⟩ := H
  replace H : ((field_Number.f t144).bind fun bt145 => (if t140 = t142 then (if (t141 == t143) = true then ((dragnetref08_Text.f k a1).bind fun t147 => (if t144.toList = t147.toList then (if bt145.2 = true then (if bt145.1 = a1 then ((field_Show.f (⟨#[]⟩ : ByteArray) 2 a1 a0).bind fun t148 => (some (t148.toList == a0.toList))) else (some false)) else (some false)) else (some false))) else (some false)) else (some false))) = some true := H
  have A7 := Aside0.mk A70
  clear A70
  replace H := Option.bind_eq_some_iff.mp H
  obtain ⟨⟨t145, t146⟩, A80, H⟩ := H
  replace H : (if t140 = t142 then (if (t141 == t143) = true then ((dragnetref08_Text.f k a1).bind fun t147 => (if t144.toList = t147.toList then (if t146 = true then (if t145 = a1 then ((field_Show.f (⟨#[]⟩ : ByteArray) 2 a1 a0).bind fun t148 => (some (t148.toList == a0.toList))) else (some false)) else (some false)) else (some false))) else (some false)) else (some false)) = some true := H
  have A8 := Aside0.mk A80
  clear A80
  by_cases c9 : t140 = t142
  ·rw [if_pos c9] at H
   have c9b0 : (t140 == t142) = true := beq_iff_eq.mpr c9
   have c9b1 : (t140 != t142) = false := bne_eq_false_iff_eq.mpr c9
   clear c9
   by_cases c10 : (t141 == t143) = true
   ·rw [if_pos c10] at H
    have c10b0 : (t141 == t143) = true := c10
    (try (have c10b1 : decide (t141 = t143) = true := by simpa using c10))
    (try (have c10b2 : (t141 == t143) = true := by simpa using c10))
    clear c10
    replace H := Option.bind_eq_some_iff.mp H
    obtain ⟨t147, A110, H⟩ := H
    replace H : (if t144.toList = t147.toList then (if t146 = true then (if t145 = a1 then ((field_Show.f (⟨#[]⟩ : ByteArray) 2 a1 a0).bind fun t148 => (some (t148.toList == a0.toList))) else (some false)) else (some false)) else (some false)) = some true := H
    have A11 := Aside0.mk A110
    clear A110
    by_cases c12 : t144.toList = t147.toList
    ·rw [if_pos c12] at H
     have c12b0 : (t144.toList == t147.toList) = true := beq_iff_eq.mpr c12
     have c12b1 : (t144.toList != t147.toList) = false := bne_eq_false_iff_eq.mpr c12
     clear c12
     by_cases c13 : t146 = true
     ·subst c13
      have H1 : (if t145 = a1 then ((field_Show.f (⟨#[]⟩ : ByteArray) 2 a1 a0).bind fun t148 => (some (t148.toList == a0.toList))) else (some false)) = some true := by rw [if_pos rfl] at H; exact H
      clear H
      have H := H1
      clear H1
      by_cases c14 : t145 = a1
      ·rw [if_pos c14] at H
       have c14b0 : (t145 == a1) = true := beq_iff_eq.mpr c14
       have c14b1 : (t145 != a1) = false := bne_eq_false_iff_eq.mpr c14
       clear c14
       replace H := Option.bind_eq_some_iff.mp H
       obtain ⟨t148, A150, H⟩ := H
       replace H : (some (t148.toList == a0.toList)) = some true := H
       have A15 := Aside0.mk A150
       clear A150
       have Hr_ := Option.some.inj H
       go_enter Tryd.func5, Tryd.ntmps5
       go_wp2_with (first | ((with_reducible refine gate_callee (f := 9) rfl ?_); refine goesL_ (some 12) rfl rfl Tryd.func9 (by kernel_rfl) rfl #[] rfl (by (try simp only [List.map_toArray, List.map_cons, List.map_nil]); first | done | rfl | (simp only [List.length_drop, List.length_take]; rfl)) ?_; (with_reducible refine (dragnetlaw08_alive.calls  true _ A3.out).mono ?_); rintro e w16 ⟨rfl, hb⟩; refine ⟨_, rfl, ?_⟩; have n0_ := bsA HB hb; clear HB; have HB := n0_; clear n0_; (try clear hb); (try clear hb2); (try clear hk); (try clear hi)) | ((with_reducible refine gate_callee (f := 17) rfl ?_); refine goesL_ (some 16) rfl rfl Tryd.func17 (by kernel_rfl) rfl #[.string a0] rfl (by (try simp only [List.map_toArray, List.map_cons, List.map_nil]); first | done | rfl | (simp only [List.length_drop, List.length_take]; rfl)) ?_; (with_reducible refine (field_Number.calls a0 t140 t141 _ A5.out).mono ?_); rintro e w17 ⟨rfl, hb⟩; refine ⟨_, rfl, ?_⟩; have n0_ := bsA HB hb; clear HB; have HB := n0_; clear n0_; (try clear hb); (try clear hb2); (try clear hk); (try clear hi)) | ((with_reducible refine gate_callee (f := 18) rfl ?_); refine goesL_ (some 21) rfl rfl Tryd.func18 (by kernel_rfl) rfl #[.string a0] rfl (by (try simp only [List.map_toArray, List.map_cons, List.map_nil]); first | done | rfl | (simp only [List.length_drop, List.length_take]; rfl)) ?_; (with_reducible refine (dragnetref08_Number.calls k a0 t142 t143 _ A6.out).mono ?_); rintro e w' ⟨rfl, ⟨nd, rfl⟩⟩; refine ⟨_, rfl, ?_⟩) | ((with_reducible refine gate_callee (f := 19) rfl ?_); refine goesL_ (some 27) rfl rfl Tryd.func19 (by kernel_rfl) rfl #[.agg #[.string (⟨#[]⟩ : ByteArray), .int .i64 1, .int .i64 a1, .string a0]] rfl (by (try simp only [List.map_toArray, List.map_cons, List.map_nil]); first | done | rfl | (simp only [List.length_drop, List.length_take]; rfl)) ?_; (with_reducible refine (field_Show.calls (⟨#[]⟩ : ByteArray) 1 a1 a0 t144 _ A7.out).mono ?_); rintro e w18 ⟨rfl, hb⟩; refine ⟨_, rfl, ?_⟩; have n0_ := bsA HB hb; clear HB; have HB := n0_; clear n0_; (try clear hb); (try clear hb2); (try clear hk); (try clear hi)) | ((with_reducible refine gate_callee (f := 17) rfl ?_); refine goesL_ (some 30) rfl rfl Tryd.func17 (by kernel_rfl) rfl #[.string t144] rfl (by (try simp only [List.map_toArray, List.map_cons, List.map_nil]); first | done | rfl | (simp only [List.length_drop, List.length_take]; rfl)) ?_; (with_reducible refine (field_Number.calls t144 t145 true _ A8.out).mono ?_); rintro e w19 ⟨rfl, hb⟩; refine ⟨_, rfl, ?_⟩; have n0_ := bsA HB hb; clear HB; have HB := n0_; clear n0_; (try clear hb); (try clear hb2); (try clear hk); (try clear hi)) | (go_at_call 20; (with_reducible refine (dragnetref08_Text.calls k a1 t147 _ A11.out).mono ?_); rintro e w20 ⟨rfl, hb⟩; have n0_ := bsA HB hb; clear HB; have HB := n0_; clear n0_; (try clear hb); (try clear hb2); (try clear hk); (try clear hi)) | (go_at_call 19; (with_reducible refine (field_Show.calls (⟨#[]⟩ : ByteArray) 2 a1 a0 t148 _ A15.out).mono ?_); rintro e w21 ⟨rfl, hb⟩; have n0_ := bsA HB hb; clear HB; have HB := n0_; clear n0_; (try clear hb); (try clear hb2); (try clear hk); (try clear hi)))
       go_ret
       exact ⟨by first | rfl | (simp [errW_none, errW_some] <;> rfl) | (simp [*, errW_none, errW_some] <;> rfl), by repeat (first | (with_reducible first | exact HB.out | apply below_alloc | apply pw_below_drewN | apply below_drew1) | exact HB.out)⟩
      ·rw [if_neg c14] at H
       have c14b0 : (t145 == a1) = false := beq_eq_false_iff_ne.mpr c14
       have c14b1 : (t145 != a1) = true := bne_iff_ne.mpr c14
       exact absurd H (by simp)
     ·replace c13 := Bool.eq_false_iff.mpr c13
      subst c13
      have H1 : (some false) = some true := by rw [if_neg (show ¬ (false = true) by decide)] at H; exact H
      clear H
      have H := H1
      clear H1
      exact absurd H (by simp)
    ·rw [if_neg c12] at H
     have c12b0 : (t144.toList == t147.toList) = false := beq_eq_false_iff_ne.mpr c12
     have c12b1 : (t144.toList != t147.toList) = true := bne_iff_ne.mpr c12
     exact absurd H (by simp)
   ·rw [if_neg c10] at H
    have c10b0 : (t141 == t143) = false := by simpa using c10
    (try (have c10b1 : decide (t141 = t143) = false := by simpa using c10))
    (try (have c10b2 : (t141 == t143) = false := by simpa using c10))
    (try (have c10b3 : ¬ (t141 = t143) := by simpa using c10))
    clear c10
    exact absurd H (by simp)
  ·rw [if_neg c9] at H
   have c9b0 : (t140 == t142) = false := beq_eq_false_iff_ne.mpr c9
   have c9b1 : (t140 != t142) = true := bne_iff_ne.mpr c9
   exact absurd H (by simp)
 ·replace c4 := Bool.eq_false_iff.mpr c4
  subst c4
  have H1 : (some false) = some true := by rw [if_neg (show ¬ (false = true) by decide)] at H; exact H
  clear H
  have H := H1
  clear H1
  exact absurd H (by simp)

end Go.Proofs.YtdkgmiagjhcllaaDoor.P
