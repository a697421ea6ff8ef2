/- Joined by wip/tools/pack.py, pruned: AskedB20. -/
import Derived.Test.YtehaodbheifokaaGreatDoorMs11
set_option maxHeartbeats 8000000
set_option maxRecDepth 100000
set_option linter.unusedVariables false
set_option linter.unusedSimpArgs false
section
namespace Go.Proofs.YtehaodbheifokaaGreatDoor.P
open Go Go.RowKit Go.Proofs.YtehaodbheifokaaGreatDoorW.PrintWords Go.Proofs.YtehaodbheifokaaGreatDoorW.PrintLast Go.Proofs.YtehaodbheifokaaGreatDoorW.PrintMore
attribute [local go_sem] max2_int min2_int max_two min_two
end Go.Proofs.YtehaodbheifokaaGreatDoor.P
end
