/- Same of the reference. -/
import Derived.Test.YtiaaicmkpjlplaaDoorPureOf
import Derived.Test.YtiaaicmkpjlplaaDoorP3
namespace Go.Proofs.YtiaaicmkpjlplaaDoor.Pure
open Go Go.RowKit Go.Proofs.YtiaaicmkpjlplaaDoorW.PrintWords Go.Proofs.YtiaaicmkpjlplaaDoorW.PrintLast Go.Proofs.YtiaaicmkpjlplaaDoorW.PrintMore Go.Proofs.YtiaaicmkpjlplaaDoor.P
set_option linter.unusedVariables false

theorem rd_at (l : List Int) (i : Nat) (h : i < l.length) : rd l (i : Int) = l[i] := by simp [rd, List.getD, h]
theorem drop_eq (l r : List Int) (i : Nat) (h1 : i < l.length) (h2 : i < r.length) : decide (l.drop i = r.drop i) = (decide (l[i] = r[i]) && decide (l.drop (i + 1) = r.drop (i + 1))) := by
  rw [← Bool.decide_and, decide_eq_decide, List.drop_eq_getElem_cons h1, List.drop_eq_getElem_cons h2, List.cons.injEq]
theorem same09_loop (n m : Int) (l r : List Int) (hn : l.length ≤ 100000000) (hr : l.length = r.length) : ∀ (d i : Nat), i + d = l.length → Ev (fun k => dragnetref09_Same.l0 k (i : Int) n l m r) (decide (l.drop i = r.drop i))
  | 0, i, hi => by
    rw [List.drop_of_length_le (by omega), List.drop_of_length_le (by omega), decide_eq_true rfl]
    refine Ev.step (f := fun _ => some true) (fun k => ?_) (Ev.now _)
    simp only [dragnetref09_Same.l0]
    rw [if_neg (by omega)]
  | d + 1, i, hi => by
    rw [drop_eq l r i (by omega) (by omega)]
    by_cases h : l[i]'(by omega) = r[i]'(by omega)
    · rw [decide_eq_true h, Bool.true_and]
      refine Ev.step (fun k => ?_) (same09_loop n m l r hn hr d (i + 1) (by omega))
      simp only [dragnetref09_Same.l0]
      rw [if_pos (by omega), if_pos (by omega), if_pos (by omega), rd_at l i (by omega), rd_at r i (by omega), if_pos h, wrap_in (by omega) (by omega)]
      rfl
    · rw [decide_eq_false h, Bool.false_and]
      refine Ev.step (f := fun _ => some false) (fun k => ?_) (Ev.now _)
      simp only [dragnetref09_Same.l0]
      rw [if_pos (by omega), if_pos (by omega), if_pos (by omega), rd_at l i (by omega), rd_at r i (by omega), if_neg h]
theorem same09 (n m : Int) (l r : List Int) (hn : l.length ≤ 100000000) : Ev (fun k => dragnetref09_Same.f k n l m r) (decide (n = m ∧ l = r)) := by
  have bad : Ev (fun k => dragnetref09_Same.j0 k true n l m r) false := Ev.step (f := fun _ => some false) (fun k => by simp only [dragnetref09_Same.j0]; rw [if_pos trivial]) (Ev.now _)
  by_cases h : n = m
  · by_cases hl : l.length = r.length
    · have := same09_loop n m l r hn hl l.length 0 (by omega)
      rw [List.drop_zero, List.drop_zero] at this
      rw [show decide (n = m ∧ l = r) = decide (l = r) by rw [decide_eq_decide]; exact ⟨fun h => h.2, fun h' => ⟨h, h'⟩⟩]
      refine Ev.congr (f := fun k => dragnetref09_Same.j0 k false n l m r) (fun k => ?_) (Ev.step (fun k => ?_) this)
      · unfold dragnetref09_Same.f
        rw [if_pos h, show ((l.length : Int) != (r.length : Int)) = false by rw [hl]; simp]
      · simp only [dragnetref09_Same.j0]
        rw [if_neg (by simp)]
        rfl
    · rw [decide_eq_false (fun h => hl (by rw [h.2]))]
      refine Ev.congr (fun k => ?_) bad
      unfold dragnetref09_Same.f
      rw [if_pos h, show ((l.length : Int) != (r.length : Int)) = true by simp; omega]
  · rw [decide_eq_false (fun h' => h h'.1)]
    refine Ev.congr (fun k => ?_) bad
    unfold dragnetref09_Same.f
    rw [if_neg h]
end Go.Proofs.YtiaaicmkpjlplaaDoor.Pure
