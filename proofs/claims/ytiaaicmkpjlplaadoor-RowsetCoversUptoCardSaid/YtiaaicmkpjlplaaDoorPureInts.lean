/- Ints of the reference. -/
import Derived.Test.YtiaaicmkpjlplaaDoorPureBitsOf
import Derived.Test.YtiaaicmkpjlplaaDoorP5
namespace Go.Proofs.YtiaaicmkpjlplaaDoor.Pure
open Go Go.RowKit Go.Proofs.YtiaaicmkpjlplaaDoorW.PrintWords Go.Proofs.YtiaaicmkpjlplaaDoorW.PrintLast Go.Proofs.YtiaaicmkpjlplaaDoorW.PrintMore Go.Proofs.YtiaaicmkpjlplaaDoor.P
set_option linter.unusedVariables false

theorem ints09_loop (l r : List Int) (hn : l.length ≤ 100000000) (hr : l.length = r.length) : ∀ (d i : Nat), i + d = l.length → Ev (fun k => dragnetref09_Ints.l0 k l r (i : Int)) (decide (l.drop i = r.drop i))
  | 0, i, hi => by
    rw [List.drop_of_length_le (by omega), List.drop_of_length_le (by omega), decide_eq_true rfl]
    refine Ev.step (f := fun _ => some true) (fun k => ?_) (Ev.now _)
    simp only [dragnetref09_Ints.l0]
    rw [if_neg (by omega)]
  | d + 1, i, hi => by
    rw [drop_eq l r i (by omega) (by omega)]
    by_cases h : l[i]'(by omega) = r[i]'(by omega)
    · rw [decide_eq_true h, Bool.true_and]
      refine Ev.step (fun k => ?_) (ints09_loop l r hn hr d (i + 1) (by omega))
      simp only [dragnetref09_Ints.l0]
      rw [if_pos (by omega), if_pos (by omega), if_pos (by omega), rd_at l i (by omega), rd_at r i (by omega), if_pos h, wrap_in (by omega) (by omega)]
      rfl
    · rw [decide_eq_false h, Bool.false_and]
      refine Ev.step (f := fun _ => some false) (fun k => ?_) (Ev.now _)
      simp only [dragnetref09_Ints.l0]
      rw [if_pos (by omega), if_pos (by omega), if_pos (by omega), rd_at l i (by omega), rd_at r i (by omega), if_neg h]
theorem ints09 (l r : List Int) (hn : l.length ≤ 100000000) : Ev (fun k => dragnetref09_Ints.f k l r) (decide (l = r)) := by
  by_cases hl : l.length = r.length
  · have := ints09_loop l r hn hl l.length 0 (by omega)
    rw [List.drop_zero, List.drop_zero] at this
    refine Ev.congr (fun k => ?_) this
    unfold dragnetref09_Ints.f
    rw [if_pos (by omega)]
    rfl
  · rw [decide_eq_false (fun h => hl (by rw [h]))]
    refine Ev.congr (f := fun _ => some false) (fun k => ?_) (Ev.now _)
    unfold dragnetref09_Ints.f
    rw [if_neg (by omega)]
end Go.Proofs.YtiaaicmkpjlplaaDoor.Pure
