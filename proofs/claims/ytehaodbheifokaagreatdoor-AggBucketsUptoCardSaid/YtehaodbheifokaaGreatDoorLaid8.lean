/- The walk of AggBuckets asks nothing of the variables. -/
import Derived.Test.YtehaodbheifokaaGreatDoorAgg23
namespace Go.Proofs.YtehaodbheifokaaGreatDoor.P
open Go

theorem NoPrem.of {w : World} {p q : Prop} (hL : p) (hS : q) : NoPrem w := trivial
end Go.Proofs.YtehaodbheifokaaGreatDoor.P
