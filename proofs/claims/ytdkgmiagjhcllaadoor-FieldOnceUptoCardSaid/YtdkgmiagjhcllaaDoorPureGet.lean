/- The field of a key, by the program. -/
import Derived.Test.YtdkgmiagjhcllaaDoorPureFive
import Derived.Test.YtdkgmiagjhcllaaDoorP7
namespace Go.Proofs.YtdkgmiagjhcllaaDoor.Pure
open Go Go.RowKit Go.Proofs.YtdkgmiagjhcllaaDoorW.PrintWords Go.Proofs.YtdkgmiagjhcllaaDoorW.PrintLast Go.Proofs.YtdkgmiagjhcllaaDoorW.PrintMore Go.Proofs.YtdkgmiagjhcllaaDoor.P
set_option linter.unusedVariables false
set_option linter.unusedSimpArgs false

theorem get_loop (l : List S28) (key : ByteArray) (hl : l.length ≤ 1000000) : ∀ (d i : Nat), i + d = l.length → Ev (fun k => field_Get.l0 k key l (l.length : Int) (i : Int)) (fiveOf ((l.drop i).find? (keyIs key)))
  | 0, i, hi => by
    rw [List.drop_of_length_le (by omega)]
    refine Ev.step (f := fun _ => some (fiveOf none)) (fun k => ?_) (Ev.now _)
    simp only [field_Get.l0]
    rw [if_neg (by omega)]
    rfl
  | d + 1, i, hi => by
    have hlt : i < l.length := by omega
    rw [List.drop_eq_getElem_cons hlt, List.find?_cons]
    have ih := get_loop l key hl d (i + 1) (by omega)
    cases hk : keyIs key l[i] with
    | true =>
      refine Ev.step (f := fun _ => some (fiveOf (some l[i]))) (fun k => ?_) (Ev.now _)
      simp only [field_Get.l0]
      rw [if_pos (by omega), if_pos (by omega), if_pos (by omega), rdT_get l i hlt, if_pos ((toList_iff _ _).2 (of_decide_eq_true hk))]
      rfl
    | false =>
      refine Ev.step (fun k => ?_) ih
      simp only [field_Get.l0]
      rw [if_pos (by omega), if_pos (by omega), if_pos (by omega), rdT_get l i hlt, if_neg (fun e => (of_decide_eq_false hk) ((toList_iff _ _).1 e)), wrap_in (by omega) (by omega), show ((i : Int) + 1) = ((i + 1 : Nat) : Int) by omega]
theorem fields_le (l : List UInt8) : (fieldsL l).length ≤ 16 := by
  unfold fieldsL
  have h : ∀ (ws : List ByteArray) (st : List S28), st.length ≤ 16 → (ws.foldl rdS st).length ≤ 16 := by
    intro ws
    induction ws with
    | nil => intro st h; exact h
    | cons x ws ih => intro st h; exact ih _ (rdS_le st x h)
  exact h _ _ (by simp)
theorem get_ev (l : List UInt8) (key : ByteArray) (hl : l.length < 4294967281) : Ev (fun k => field_Get.f k (numsOf l) key) (fiveOf ((fieldsL l).find? (keyIs key))) := by
  have h16 := fields_le l
  refine Ev.congr (fun k => ?_) (get_loop (fieldsL l) key (by omega) (fieldsL l).length 0 (by omega))
  unfold field_Get.f
  rw [read_f l hl, Option.bind_some]
  rfl
end Go.Proofs.YtdkgmiagjhcllaaDoor.Pure
