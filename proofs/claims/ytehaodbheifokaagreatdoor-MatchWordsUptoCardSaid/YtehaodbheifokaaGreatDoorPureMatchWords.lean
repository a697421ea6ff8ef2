/- The plain law of MatchWords: the walk's value is true. -/
import Derived.Test.YtehaodbheifokaaGreatDoorMatchWords20
import Derived.Test.YtehaodbheifokaaGreatDoorRead
namespace Go.Proofs.YtehaodbheifokaaGreatDoor.Pure
open Go Go.RowKit Go.Proofs.YtehaodbheifokaaGreatDoor.P
set_option linter.unusedVariables false

theorem MatchWords (x0 : ByteArray) (x1_0 x1_1 : Int) (x1_2 : List Int) (h0 : x0.size ≤ maxLen) (h1 : (Lit.int .i64 x1_0).wf = true) (h2 : (Lit.int .i64 x1_1).wf = true) (h3 : ∀ x ∈ x1_2, (fun n => (Lit.int .u8 n).wf = true) x) (hs : (x0.size + 1) + ((1) + (1) + (Read.sumBulk (fun _ => 1) x1_2 + 1) + 1) ≤ 1048576) : dragnetlaw20_MatchWords.f x0 x1_0 x1_1 x1_2 = some true := by
  unfold dragnetlaw20_MatchWords.f
  refine if_pos fun x hx => ?_
  have h := h3 x hx
  simp [Lit.wf, IntKind.min, IntKind.max, IntKind.signed, IntKind.bits] at h
  omega
end Go.Proofs.YtehaodbheifokaaGreatDoor.Pure
