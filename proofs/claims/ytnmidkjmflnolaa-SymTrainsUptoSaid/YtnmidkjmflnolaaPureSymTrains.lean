/- The plain law of SymTrains: the trained table is the reference's, and a table. -/
import Derived.Test.YtnmidkjmflnolaaP5
import Derived.Test.YtnmidkjmflnolaaPureTrain
import Derived.Test.YtnmidkjmflnolaaRead
namespace Go.Proofs.Ytnmidkjmflnolaa.Pure
open Go Go.RowKit Go.Proofs.YtnmidkjmflnolaaW.PrintWords Go.Proofs.Ytnmidkjmflnolaa.P Go.Proofs.Ytnmidkjmflnolaa.Maps
set_option linter.unusedVariables false

theorem trains_j2 (x0 : List (List Int)) (hx : x0.length ≤ 1048576) (b : Bool) : Ev (fun k => dragnetlaw06_SymTrains.j2 k x0 b) true := by
  cases b with
  | true =>
    refine Ev.step (f := fun _ => some true) (fun k => ?_) (Ev.now _)
    simp only [dragnetlaw06_SymTrains.j2]
    rw [if_pos trivial]
  | false =>
    have hl := train_len (allP 1024 x0)
    have h2 := same06 (trainAll (allP 1024 x0)) (trainAll (allP 1024 x0)) (by omega)
    rw [decide_eq_true rfl] at h2
    obtain ⟨K1, h1⟩ := train06 x0 (by omega)
    obtain ⟨K2, h2⟩ := h2
    refine ⟨K1 + K2 + 1, fun k hk => ?_⟩
    obtain ⟨k, rfl⟩ : ∃ k', k = k' + 1 := ⟨k - 1, by omega⟩
    replace h1 : dragnetref06_Train.f k x0 = _ := h1 k (by omega)
    replace h2 : dragnetref06_Same.f k _ _ = _ := h2 k (by omega)
    show dragnetlaw06_SymTrains.j2 (k + 1) x0 false = some true
    simp only [dragnetlaw06_SymTrains.j2]
    rw [if_neg (by decide)]
    simp only [sym_Train.f, sym_Formed.f, Option.bind_some, h1, h2, if_true, train_formed]
theorem trains_j1 (x0 : List (List Int)) (hx : x0.length ≤ 1048576) (n : Int) : Ev (fun k => dragnetlaw06_SymTrains.j1 k x0 n) true := by
  by_cases h : (x0.length : Int) > 100
  · refine Ev.step (fun k => ?_) (trains_j2 x0 hx true)
    simp only [dragnetlaw06_SymTrains.j1]
    rw [if_pos h]
  · refine Ev.step (fun k => ?_) (trains_j2 x0 hx (decide (n > 400)))
    simp only [dragnetlaw06_SymTrains.j1]
    rw [if_neg h]
theorem trains_l0 (x0 : List (List Int)) (hx : x0.length ≤ 1048576) : ∀ (d i : Nat) (n : Int), i + d = x0.length → Ev (fun k => dragnetlaw06_SymTrains.l0 k x0 n (i : Int)) true := by
  intro d
  induction d with
  | zero =>
    intro i n hi
    refine Ev.step (fun k => ?_) (trains_j1 x0 hx n)
    simp only [dragnetlaw06_SymTrains.l0]
    rw [if_neg (by omega)]
  | succ d ih =>
    intro i n hi
    by_cases h1 : i < 100
    · by_cases h2 : n < 400
      · refine Ev.step (fun k => ?_) (ih (i + 1) (wrap64 (n + ((rd_L4 x0 (i : Int)).length : Int))) (by omega))
        simp only [dragnetlaw06_SymTrains.l0]
        rw [if_pos (by omega), if_pos (by omega), if_pos h2, if_pos (by omega), wrap_in (x := (i : Int) + 1) (by omega) (by omega)]
        rfl
      · refine Ev.step (fun k => ?_) (trains_j1 x0 hx n)
        simp only [dragnetlaw06_SymTrains.l0]
        rw [if_pos (by omega), if_pos (by omega), if_neg h2]
    · refine Ev.step (fun k => ?_) (trains_j1 x0 hx n)
      simp only [dragnetlaw06_SymTrains.l0]
      rw [if_pos (by omega), if_neg (by omega)]
theorem SymTrains : ∀ (x0 : List (List Int)), (fun xs => ∀ x ∈ xs, (fun xs => ∀ x ∈ xs, (fun n => (Lit.int .u8 n).wf = true) x) x) x0 → Read.sumBulk (fun xs => Read.sumBulk (fun _ => 1) xs + 1) x0 + 1 ≤ 1048576 → ∃ k, dragnetlaw06_SymTrains.f k x0 = some true := by
  intro x0 _ hsum
  have hlt := Read.sum_len (fun xs : List Int => Read.sumBulk (fun _ => 1) xs + 1) (fun s => by omega) x0
  obtain ⟨K, h⟩ := trains_l0 x0 (by omega) x0.length 0 0 (by omega)
  refine ⟨K, ?_⟩
  have h' := h K (Nat.le_refl _)
  unfold dragnetlaw06_SymTrains.f dragnetlaw06_alive.f
  simp only [Option.bind_some, if_true]
  exact h'
end Go.Proofs.Ytnmidkjmflnolaa.Pure
