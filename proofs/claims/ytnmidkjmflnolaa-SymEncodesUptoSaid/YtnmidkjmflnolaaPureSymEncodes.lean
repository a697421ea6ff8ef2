/- The plain law of SymEncodes: both encode alike, or refuse alike, and what was handed in stays. -/
import Derived.Test.YtnmidkjmflnolaaP12
import Derived.Test.YtnmidkjmflnolaaPureSym
import Derived.Test.YtnmidkjmflnolaaRead
namespace Go.Proofs.Ytnmidkjmflnolaa.Pure
open Go Go.RowKit Go.Proofs.YtnmidkjmflnolaaW.PrintWords Go.Proofs.Ytnmidkjmflnolaa.P Go.Proofs.Ytnmidkjmflnolaa.Maps
set_option linter.unusedVariables false

theorem SymEncodes : ∀ (x0 : List ByteArray) (x1 : List Int), (fun xs => ∀ x ∈ xs, (fun s => s.size ≤ maxLen) x) x0 → (fun xs => ∀ x ∈ xs, (fun n => (Lit.int .u8 n).wf = true) x) x1 → (fun xs => Read.sumBulk (fun s => s.size + 1) xs + 1) x0 + (fun xs => Read.sumBulk (fun _ => 1) xs + 1) x1 ≤ 1048576 → ∃ k, dragnetlaw06_SymEncodes.f k x0 x1 = some true := by
  intro t b _ hb hsum
  simp only [Read.sum_one] at hsum
  have hb' : okbs b := okbs_wf hb
  have hlt := Read.sum_len (fun s : ByteArray => s.size + 1) (fun s => by omega) t
  obtain ⟨r, e, h1, h2, hr, _, _⟩ := encode06 t b hb' (by omega)
  obtain ⟨K1, h1⟩ := h1
  obtain ⟨K2, h2⟩ := h2
  obtain ⟨K3, h3⟩ := formed06 t
  obtain ⟨K4, h4⟩ := same06 t t (by omega)
  refine ⟨K1 + K2 + K3 + K4, ?_⟩
  replace h1 := h1 (K1 + K2 + K3 + K4) (by omega)
  replace h2 := h2 (K1 + K2 + K3 + K4) (by omega)
  replace h3 := h3 (K1 + K2 + K3 + K4) (by omega)
  replace h4 := h4 (K1 + K2 + K3 + K4) (by omega)
  generalize K1 + K2 + K3 + K4 = k at h1 h2 h3 h4 ⊢
  unfold dragnetlaw06_SymEncodes.f dragnetlaw06_alive.f
  simp only [Option.bind_some, if_true, copy06 (show t.length ≤ 1048576 by omega), copy01 (show b.length ≤ 100000000 by omega), h1, h2, same01 hr hr, same01 hb' hb', h3, h4, sym_Formed.f, decide_true, beq_self_eq_true]
end Go.Proofs.Ytnmidkjmflnolaa.Pure
