/- The plain law of FieldNumbers. -/
import Derived.Test.YtdkgmiagjhcllaaDoorPureNumber
import Derived.Lib.ItoaLen
import Derived.Test.YtdkgmiagjhcllaaDoorP7
namespace Go.Proofs.YtdkgmiagjhcllaaDoor.Pure
open Go Go.RowKit Go.Proofs.YtdkgmiagjhcllaaDoorW.PrintWords Go.Proofs.YtdkgmiagjhcllaaDoorW.PrintLast Go.Proofs.YtdkgmiagjhcllaaDoorW.PrintMore Go.Proofs.YtdkgmiagjhcllaaDoor.P
set_option linter.unusedVariables false

theorem FieldNumbers : ∀ (x0 : ByteArray) (x1 : Int), (x0.size ≤ maxLen) → ((Lit.int .i64 x1).wf = true) → (x0.size + 1) + (1) ≤ 1048576 → ∃ k, dragnetlaw08_FieldNumbers.f k x0 x1 = some true := by
  intro s n _ wf hs
  obtain ⟨h0, h1⟩ : -9223372036854775808 ≤ n ∧ n ≤ 9223372036854775807 := by
    have e1 : IntKind.i64.min = -9223372036854775808 := rfl
    have e2 : IntKind.i64.max = 9223372036854775807 := rfl
    simpa [Lit.wf, e1, e2] using wf
  obtain ⟨k1, h2⟩ := refNumber_ev s
  obtain ⟨k2, h3⟩ := refText_ev n h0 h1
  dsimp only at h2 h3
  have hl : (⟨(Lib.itoa n).toArray⟩ : ByteArray).size ≤ 21 := by
    rw [Lib.size_eq]
    exact Lib.itoa_length_le n h0 h1
  have hshow1 : field_Show.f (⟨#[]⟩ : ByteArray) 1 n s = some ⟨(Lib.itoa n).toArray⟩ := by
    unfold field_Show.f strconv_Itoa.f
    rw [if_pos rfl, if_pos ⟨h0, h1⟩]
    rfl
  have hshow2 : field_Show.f (⟨#[]⟩ : ByteArray) 2 n s = some s := by
    unfold field_Show.f
    rw [if_neg (by decide)]
  refine ⟨k1 + k2, ?_⟩
  unfold dragnetlaw08_FieldNumbers.f
  rw [show dragnetlaw08_alive.f = some true from rfl, Option.bind_some, if_pos rfl, number_f s (by omega), Option.bind_some, h2 _ (by omega), Option.bind_some, hshow1, Option.bind_some, number_f _ (by omega), Option.bind_some, if_pos rfl, if_pos (by simp), h3 _ (by omega), Option.bind_some, if_pos rfl]
  rw [show ((⟨(Lib.itoa n).toArray⟩ : ByteArray)).data.toList = Lib.itoa n from rfl, refNum_itoa n h0 h1, if_pos rfl, if_pos rfl, hshow2, Option.bind_some]
  simp
end Go.Proofs.YtdkgmiagjhcllaaDoor.Pure
