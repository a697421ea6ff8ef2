-- Written by a program of this session (wip/tools/tp.py: the kit's printer, turned to take functions that were proved by hand). Lean checks it.
import Derived.Test.YtnmidkjmflnolaaP0
import Derived.Test.YtnmidkjmflnolaaLen
namespace Go.Proofs.Ytnmidkjmflnolaa.P
open Go.RowKit Go.Proofs.YtnmidkjmflnolaaW.PrintWords Go.Proofs.YtnmidkjmflnolaaW.PrintLast Go.Proofs.YtnmidkjmflnolaaW.PrintMore
attribute [local go_sem] max2_int min2_int max_two min_two max_three min_three max_four min_four   -- for this text's walks alone
set_option linter.unusedVariables false
set_option linter.unusedSimpArgs false

-- LEVEL 1
-- PROVED BY HAND: function 19 (sym_Formed): Derived.Test.YtnmidkjmflnolaaSymFormed

-- LEVEL 1
-- PROVED BY HAND: function 67 (slices_Clone_byte_byte): Derived.Test.YtnmidkjmflnolaaClone

-- LEVEL 1
-- PROVED BY HAND: function 88 (bits_Len64): Derived.Test.YtnmidkjmflnolaaLen

-- LEVEL 1
/-! ### num_size: function 68 -/
def num_size.f (a0 : Int) : Option (Int) := (bits_Len64.f a0).bind fun t181 => (some (wrap64 (Int.tdiv (wrap64 (t181 + 7)) 8)))
set_option maxHeartbeats 8000000 in
set_option maxRecDepth 100000 in
theorem num_size.calls (a0 : Int) (r : Int) (w : World) (h : num_size.f a0 = some r) :
    Calls Try.prog 68 #[.int .u64 a0] w fun e w' => e = .returned (.int .i64 r) ∧ Drawn0 w w' := by
  have H : ((bits_Len64.f a0).bind fun t181 => (some (wrap64 (Int.tdiv (wrap64 (t181 + 7)) 8)))) = some r := h
  clear h
  replace H := Option.bind_eq_some_iff.mp H
  obtain ⟨t181, A20, H⟩ := H
  replace H : (some (wrap64 (Int.tdiv (wrap64 (t181 + 7)) 8))) = some r := H
  have A2 := Aside0.mk A20
  clear A20
  obtain rfl := Option.some.inj H
  go_enter Try.func68, Try.ntmps68
  go_wp2_with (first | ((with_reducible refine gate_callee (f := 88) rfl ?_); refine goesL_ (some 4) rfl rfl Try.func88 (by kernel_rfl) rfl #[.int .u64 a0] rfl (by (try simp only [List.map_toArray, List.map_cons, List.map_nil]); first | done | rfl | (simp only [List.length_drop, List.length_take]; rfl)) ?_; (with_reducible refine (bits_Len64.calls a0 t181 _ A2.out).mono ?_); rintro e w' ⟨rfl, ⟨nd, rfl⟩⟩; refine ⟨_, rfl, ?_⟩))
  go_ret
  exact ⟨by first | rfl | (simp; done) | (simp [*]; done), by repeat (first | exact Drawn0.refl _ | apply Drawn0.step)⟩

-- LEVEL 1
-- PROVED BY HAND: function 25 (dragnetref06_Table): Derived.Test.YtnmidkjmflnolaaTables

-- LEVEL 1
-- PROVED BY HAND: function 27 (dragnetref06_TakeTable): Derived.Test.YtnmidkjmflnolaaTakeTable

end Go.Proofs.Ytnmidkjmflnolaa.P
