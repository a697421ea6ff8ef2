/- The plain law of SymDecodes: both decode alike, or refuse alike. -/
import Derived.Test.YtnmidkjmflnolaaP11
import Derived.Test.YtnmidkjmflnolaaPureSymDec
import Derived.Test.YtnmidkjmflnolaaRead
namespace Go.Proofs.Ytnmidkjmflnolaa.Pure
open Go Go.RowKit Go.Proofs.YtnmidkjmflnolaaW.PrintWords Go.Proofs.Ytnmidkjmflnolaa.P Go.Proofs.Ytnmidkjmflnolaa.Maps
set_option linter.unusedVariables false

theorem SymDecodes : ∀ (x0 : List ByteArray) (x1 : List Int) (x2 : Int), (∀ x ∈ x0, (fun s => s.size ≤ maxLen) x) → (∀ x ∈ x1, (fun n => (Lit.int .u8 n).wf = true) x) → ((Lit.int .i64 x2).wf = true) → (Read.sumBulk (fun s => s.size + 1) x0 + 1) + (Read.sumBulk (fun _ => 1) x1 + 1) + (1) ≤ 1048576 → ∃ k, dragnetlaw06_SymDecodes.f k x0 x1 x2 = some true := by
  intro t b m _ hb hm hsum
  simp only [Read.sum_one] at hsum
  have hb' : okbs b := okbs_wf hb
  have hm' : m ≤ 9223372036854775807 := by
    simp [Lit.wf, IntKind.signed, IntKind.bits] at hm
    omega
  obtain ⟨r, e, h1, h2, hr⟩ := decode06 t b hb' (by omega) m hm'
  obtain ⟨K1, h1⟩ := h1
  obtain ⟨K2, h2⟩ := h2
  refine ⟨K1 + K2, ?_⟩
  replace h1 := h1 (K1 + K2) (by omega)
  replace h2 := h2 (K1 + K2) (by omega)
  generalize K1 + K2 = k at h1 h2 ⊢
  unfold dragnetlaw06_SymDecodes.f dragnetlaw06_alive.f
  simp only [Option.bind_some, if_true, h1, h2, same01 hr hr, decide_true, beq_self_eq_true]
end Go.Proofs.Ytnmidkjmflnolaa.Pure
