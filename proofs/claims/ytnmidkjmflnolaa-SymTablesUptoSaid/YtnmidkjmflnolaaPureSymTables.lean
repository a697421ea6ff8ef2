/- The plain law of SymTables: a table is laid, and taken, as the reference does. -/
import Derived.Test.YtnmidkjmflnolaaP6
import Derived.Test.YtnmidkjmflnolaaPureTable
import Derived.Test.YtnmidkjmflnolaaRead
namespace Go.Proofs.Ytnmidkjmflnolaa.Pure
open Go Go.RowKit Go.Proofs.YtnmidkjmflnolaaW.PrintWords Go.Proofs.Ytnmidkjmflnolaa.P Go.Proofs.Ytnmidkjmflnolaa.Maps
set_option linter.unusedVariables false

theorem SymTables : ∀ (x0 : List ByteArray) (x1 : List Int), (∀ x ∈ x0, (fun s => s.size ≤ maxLen) x) → (∀ x ∈ x1, (fun n => (Lit.int .u8 n).wf = true) x) → (Read.sumBulk (fun s => s.size + 1) x0 + 1) + (Read.sumBulk (fun _ => 1) x1 + 1) ≤ 1048576 → ∃ k, dragnetlaw06_SymTables.f k x0 x1 = some true := by
  intro t b _ hb hsum
  simp only [Read.sum_one] at hsum
  have hb' : okbs b := okbs_wf hb
  have hU := tableOf_len b hb'
  obtain ⟨K1, h1⟩ := take_sym hb' (by omega)
  obtain ⟨K2, h2⟩ := take_ref hb' (by omega)
  obtain ⟨K3, h3⟩ := same06 (tableOf b).1 (tableOf b).1 (by omega)
  obtain ⟨K4, h4⟩ := formed06 t
  cases hf : formedB t with
  | false =>
    refine ⟨K1 + K2 + K3 + K4 + 1, ?_⟩
    replace h1 := h1 (K1 + K2 + K3 + K4) (by omega)
    replace h2 := h2 (K1 + K2 + K3 + K4) (by omega)
    replace h3 := h3 (K1 + K2 + K3 + K4) (by omega)
    replace h4 := h4 (K1 + K2 + K3 + K4 + 1) (by omega)
    generalize K1 + K2 + K3 + K4 = k at h1 h2 h3 h4 ⊢
    dsimp only at h1 h2 h3 h4
    have hp : sym_PutTable.f b t = some ([], 1) := by unfold sym_PutTable.f; rw [hf]; rfl
    unfold dragnetlaw06_SymTables.f dragnetlaw06_alive.f
    rw [Option.bind_some, if_pos rfl, hp, Option.bind_some, h4, Option.bind_some, hf, if_neg (by simp), if_pos rfl]
    simp only [dragnetlaw06_SymTables.j1]
    rw [if_neg (by simp), h1, Option.bind_some, h2, Option.bind_some, h3, Option.bind_some, decide_eq_true rfl, if_pos rfl, if_pos rfl]
    simp
  | true =>
    have hl := tableB_len hf
    obtain ⟨K5, h5⟩ := table_ref_ok hf
    refine ⟨K1 + K2 + K3 + K4 + K5 + 1, ?_⟩
    replace h1 := h1 (K1 + K2 + K3 + K4 + K5) (by omega)
    replace h2 := h2 (K1 + K2 + K3 + K4 + K5) (by omega)
    replace h3 := h3 (K1 + K2 + K3 + K4 + K5) (by omega)
    replace h4 := h4 (K1 + K2 + K3 + K4 + K5 + 1) (by omega)
    replace h5 := h5 (K1 + K2 + K3 + K4 + K5 + 1) (by omega)
    generalize K1 + K2 + K3 + K4 + K5 = k at h1 h2 h3 h4 h5 ⊢
    dsimp only at h1 h2 h3 h4 h5
    have hok : okbs (b ++ tableB t) := okbs_append hb' (tableB_okbs hf)
    unfold dragnetlaw06_SymTables.f dragnetlaw06_alive.f
    rw [Option.bind_some, if_pos rfl, table_sym_ok hf (by omega), Option.bind_some, h4, Option.bind_some, hf, if_pos rfl, if_pos rfl, copy01 (by omega), Option.bind_some, h5, Option.bind_some, if_pos (by omega), same01 hok hok, Option.bind_some, decide_eq_true rfl]
    simp only [dragnetlaw06_SymTables.j0]
    rw [if_neg (by simp), h1, Option.bind_some, h2, Option.bind_some, h3, Option.bind_some, decide_eq_true rfl, if_pos rfl, if_pos rfl]
    simp
end Go.Proofs.Ytnmidkjmflnolaa.Pure
