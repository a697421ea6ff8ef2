/- slices.Grow of no row: an empty row of one's own. -/
import Derived.Test.YtnmidkjmflnolaaClone
namespace Go.Proofs.Ytnmidkjmflnolaa.P
open Go Go.RowKit Go.Proofs.YtnmidkjmflnolaaW.PrintWords Go.Proofs.YtnmidkjmflnolaaW.PrintLast Go.Proofs.YtnmidkjmflnolaaW.PrintMore Go.Proofs.Ytnmidkjmflnolaa.Maps
set_option linter.unusedVariables false

def slices_Grow_nil.f (n : Int) : Option (List Int) := if 0 ≤ n ∧ n ≤ 1048576 then some [] else none
theorem slices_Grow_nil.calls (n : Int) (r : List Int) (w : World) (h : slices_Grow_nil.f n = some r) :
    Calls Try.prog 66 #[.slice none 0 0, .int .i64 n] w fun e w' => ∃ v0_ : Value, e = .returned (v0_) ∧ Kd.R (Kd.int .u8) 5 w' w.heap.size (fun _ => True) v0_ r ∧ Below w.heap.size w w' := by
  unfold slices_Grow_nil.f at h
  by_cases hn : 0 ≤ n ∧ n ≤ 1048576
  case neg => rw [if_neg hn] at h; cases h
  rw [if_pos hn] at h
  cases h
  obtain ⟨m, rfl⟩ := Int.eq_ofNat_of_zero_le hn.1
  refine (Grow_calls m (by omega) w.heap.size (.slice none 0 0) [] w (Kd.R_nil _ _ _ _ _) (Nat.le_refl _) (by simp; omega)).mono ?_
  rintro e w' ⟨v, rfl, hr, hg⟩
  exact ⟨v, rfl, hr, (Below.refl _ _).grown hg (Nat.le_refl _) (by intro k hk; cases hk)⟩
end Go.Proofs.Ytnmidkjmflnolaa.P
