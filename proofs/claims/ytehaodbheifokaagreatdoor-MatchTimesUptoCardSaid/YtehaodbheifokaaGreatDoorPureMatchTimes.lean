/- The plain law of MatchTimes: the walk's value is true. -/
import Derived.Test.YtehaodbheifokaaGreatDoorTimes20
import Derived.Test.YtehaodbheifokaaGreatDoorRead
namespace Go.Proofs.YtehaodbheifokaaGreatDoor.Pure
open Go Go.RowKit Go.Proofs.YtehaodbheifokaaGreatDoor.P
set_option linter.unusedVariables false

theorem MatchTimes (x0 x1 x2 : Int) (h0 : (Lit.int .i64 x0).wf = true) (h1 : (Lit.int .i64 x1).wf = true) (h2 : (Lit.int .i64 x2).wf = true) (hs : 1 + 1 + 1 ≤ 1048576) : dragnetlaw20_MatchTimes.f x0 x1 x2 = some true := rfl
end Go.Proofs.YtehaodbheifokaaGreatDoor.Pure
