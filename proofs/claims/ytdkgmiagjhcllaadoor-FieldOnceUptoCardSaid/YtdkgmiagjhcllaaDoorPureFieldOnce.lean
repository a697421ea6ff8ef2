/- The plain law of FieldOnce. -/
import Derived.Test.YtdkgmiagjhcllaaDoorPureGet
import Derived.Test.YtdkgmiagjhcllaaDoorRead
import Derived.Test.YtdkgmiagjhcllaaDoorP8
namespace Go.Proofs.YtdkgmiagjhcllaaDoor.Pure
open Go Go.RowKit Go.Proofs.YtdkgmiagjhcllaaDoorW.PrintWords Go.Proofs.YtdkgmiagjhcllaaDoorW.PrintLast Go.Proofs.YtdkgmiagjhcllaaDoorW.PrintMore Go.Proofs.YtdkgmiagjhcllaaDoor.P
set_option linter.unusedVariables false

/-- What is so of a line's fields: keys, of unlike names, texts that aren't too long. -/
def Fit (st : List S28) : Prop := (∀ y ∈ st, keyB y.f0 = true ∧ y.f3.size ≤ 64) ∧ ∀ y ∈ st, st.find? (keyIs y.f0) = some y
theorem oneS_fit {l : List UInt8} (h : (oneS l).2 = true) : keyB (oneS l).1.f0 = true ∧ (oneS l).1.f3.size ≤ 64 := by
  unfold oneS at *
  by_cases h1 : eqPos l < l.length
  · rw [if_pos h1] at h ⊢
    by_cases h2 : (refNum (l.drop (eqPos l + 1))).2 = true
    · rw [if_pos h2] at h ⊢
      exact ⟨h, by show (⟨#[]⟩ : ByteArray).size ≤ 64; decide⟩
    · rw [if_neg h2] at h ⊢
      obtain ⟨h3, h4⟩ := Bool.and_eq_true_iff.1 h
      refine ⟨h3, ?_⟩
      show (bA _).size ≤ 64
      rw [bA_size]
      exact of_decide_eq_true h4
  · rw [if_neg h1] at h
    cases h
theorem fit_step {st : List S28} (x : ByteArray) (h : Fit st) : Fit (rdS st x) := by
  unfold rdS
  split
  case isFalse => exact h
  case isTrue hc =>
    obtain ⟨_, hok, hany⟩ := hc
    have hf := oneS_fit hok
    generalize (oneS x.data.toList).1 = y at hf hany
    rw [← found_any, Option.isSome_eq_false_iff, Option.isNone_iff_eq_none] at hany
    refine ⟨fun z hz => ?_, fun z hz => ?_⟩
    · rcases List.mem_append.1 hz with hz | hz
      · exact h.1 z hz
      · obtain rfl := List.mem_singleton.1 hz
        exact hf
    · rcases List.mem_append.1 hz with hz | hz
      · rw [List.find?_append, h.2 z hz]
        rfl
      · obtain rfl := List.mem_singleton.1 hz
        rw [List.find?_append, hany, Option.none_or, List.find?_cons, show keyIs z.f0 z = true from decide_eq_true rfl]
theorem fields_fit (l : List UInt8) : Fit (fieldsL l) := by
  unfold fieldsL
  have h : ∀ (ws : List ByteArray) (st : List S28), Fit st → Fit (ws.foldl rdS st) := by
    intro ws
    induction ws with
    | nil => intro st h; exact h
    | cons x ws ih => intro st h; exact ih _ (fit_step x h)
  exact h _ _ ⟨fun _ h => by simp at h, fun _ h => by simp at h⟩
theorem once_loop (l : List UInt8) (hl : l.length ≤ 16777216) : ∀ d i : Nat, i + d = (fieldsL l).length → Ev (fun k => dragnetlaw08_FieldOnce.l0 k (numsOf l) (fieldsL l) (i : Int)) true
  | 0, i, hi => by
    have h16 := fields_le l
    refine Ev.step (f := fun _ => some true) (fun k => ?_) (Ev.now _)
    simp only [dragnetlaw08_FieldOnce.l0]
    rw [if_neg (by omega), decide_eq_true (by omega)]
  | d + 1, i, hi => by
    have h16 := fields_le l
    have hlt : i < (fieldsL l).length := by omega
    have hm : (fieldsL l)[i] ∈ fieldsL l := List.getElem_mem hlt
    obtain ⟨hf1, hf2⟩ := (fields_fit l).1 _ hm
    have hf3 := (fields_fit l).2 _ hm
    have hks : (fieldsL l)[i].f0.size ≤ 32 := by
      unfold keyB at hf1
      have := of_decide_eq_true (Bool.and_eq_true_iff.1 hf1).2
      omega
    have hg := get_ev l (fieldsL l)[i].f0 (by omega)
    have hk := isKey_ev (fieldsL l)[i].f0 (by omega)
    rw [hf3] at hg
    rw [hf1] at hk
    have ih := once_loop l hl d (i + 1) (by omega)
    refine Ev.sb hg (F := ?F) (fun k => ?step) ?rest
    case step =>
      simp only [dragnetlaw08_FieldOnce.l0]
      rw [if_pos (by omega), if_pos (by omega), rdT_get _ i hlt]
    case rest =>
      refine Ev.cb hk (F := ?F2) (fun k => ?step) ?rest
      case step =>
        simp only [fiveOf, beq_self_eq_true, Bool.not_true, Bool.or_self, Bool.false_eq_true, if_true, if_false]
        rw [wrap_in (by omega) (by omega), show ((i : Int) + 1) = ((i + 1 : Nat) : Int) by omega]
      case rest =>
        refine Ev.congr (fun k => ?_) ih
        rw [if_pos rfl, if_neg (by omega)]
theorem FieldOnce : ∀ (x0 : List Int), (∀ x ∈ x0, (fun n => (Lit.int .u8 n).wf = true) x) → (Read.sumBulk (fun _ => 1) x0 + 1) ≤ 1048576 → ∃ k, dragnetlaw08_FieldOnce.f k x0 = some true := by
  intro l0 wf hsum
  rw [Read.sum_one] at hsum
  obtain ⟨l, rfl, hl⟩ := nums_of_wf wf
  obtain ⟨k1, h1⟩ := once_loop l (by omega) (fieldsL l).length 0 (by omega)
  refine ⟨k1, ?_⟩
  unfold dragnetlaw08_FieldOnce.f
  rw [show dragnetlaw08_alive.f = some true from rfl, Option.bind_some, if_pos rfl, read_f l (by omega), Option.bind_some]
  exact h1 _ (Nat.le_refl _)
end Go.Proofs.YtdkgmiagjhcllaaDoor.Pure
