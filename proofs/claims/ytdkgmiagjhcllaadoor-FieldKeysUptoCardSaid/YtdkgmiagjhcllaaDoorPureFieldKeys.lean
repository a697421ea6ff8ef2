/- The plain law of FieldKeys. -/
import Derived.Test.YtdkgmiagjhcllaaDoorPureKey
import Derived.Test.YtdkgmiagjhcllaaDoorP7
namespace Go.Proofs.YtdkgmiagjhcllaaDoor.Pure
open Go Go.RowKit Go.Proofs.YtdkgmiagjhcllaaDoorW.PrintWords Go.Proofs.YtdkgmiagjhcllaaDoorW.PrintLast Go.Proofs.YtdkgmiagjhcllaaDoorW.PrintMore Go.Proofs.YtdkgmiagjhcllaaDoor.P
set_option linter.unusedVariables false

theorem FieldKeys : ∀ (x0 : ByteArray), (x0.size ≤ maxLen) → (x0.size + 1) ≤ 1048576 → ∃ k, dragnetlaw08_FieldKeys.f k x0 = some true := by
  intro s _ hs
  obtain ⟨k1, h1⟩ := isKey_ev s (by omega)
  obtain ⟨k2, h2⟩ := refKey_ev s (by omega)
  dsimp only at h1 h2
  refine ⟨k1 + k2, ?_⟩
  unfold dragnetlaw08_FieldKeys.f
  rw [show dragnetlaw08_alive.f = some true from rfl, Option.bind_some, if_pos rfl, h1 _ (by omega), Option.bind_some, h2 _ (by omega), Option.bind_some]
  simp
end Go.Proofs.YtdkgmiagjhcllaaDoor.Pure
