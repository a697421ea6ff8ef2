/- The plain law of AggBuckets: at every pair of whole numbers the walk's value is true. -/
import Derived.Test.YtehaodbheifokaaGreatDoorAgg23
import Derived.Test.YtehaodbheifokaaGreatDoorRead
namespace Go.Proofs.YtehaodbheifokaaGreatDoor.Pure
open Go Go.RowKit Go.Proofs.YtehaodbheifokaaGreatDoor.P

theorem AggBuckets (x0 x1 : Int) (h0 : (Lit.int .i64 x0).wf = true) (h1 : (Lit.int .i64 x1).wf = true) (hs : 1 + 1 ≤ 1048576) : dragnetlaw23_AggBuckets.f x0 x1 = some true := by
  have e : ∀ x : Int, (Lit.int .i64 x).wf = true → inI x := by
    intro x h
    simpa [Lit.wf, IntKind.min, IntKind.max, IntKind.signed, IntKind.bits, inI] using h
  unfold dragnetlaw23_AggBuckets.f
  exact if_pos ⟨e x0 h0, e x1 h1⟩
end Go.Proofs.YtehaodbheifokaaGreatDoor.Pure
