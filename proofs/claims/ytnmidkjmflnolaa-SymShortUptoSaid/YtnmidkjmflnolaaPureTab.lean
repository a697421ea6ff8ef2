/- A table of trained pieces is formed. -/
import Derived.Test.YtnmidkjmflnolaaTrainOrd
import Derived.Test.YtnmidkjmflnolaaSymFormed
import Derived.Test.YtnmidkjmflnolaaPureBase
namespace Go.Proofs.Ytnmidkjmflnolaa.Pure
open Go Go.RowKit Go.Lib Go.Proofs.YtnmidkjmflnolaaW.PrintWords Go.Proofs.Ytnmidkjmflnolaa.P Go.Proofs.Ytnmidkjmflnolaa.Maps
set_option linter.unusedVariables false

/-! ### a table of pieces is formed -/
theorem fresh_of : ∀ (l seen : List ByteArray), (∀ x ∈ l, 2 ≤ x.size ∧ x.size ≤ 8) → (seen ++ l).Nodup → freshIn seen l = true
  | [], _, _, _ => rfl
  | s :: r, seen, h, hn => by
    have h1 := h s (List.mem_cons_self ..)
    rw [freshIn, okSym, decide_eq_true h1.1, decide_eq_true h1.2, fresh_of r (seen ++ [s]) (fun x hx => h x (List.mem_cons_of_mem _ hx)) (by rw [List.append_assoc]; exact hn)]
    have h2 : memB s seen = false := by
      rw [← Bool.not_eq_true, memB_iff]
      intro e
      exact (List.nodup_append.1 hn).2.2 s e s (List.mem_cons_self ..) rfl
    rw [h2]
    rfl
theorem train_mem {all : List ByteArray} {x : ByteArray} (h : x ∈ trainAll all) : x ∈ all := by
  unfold trainAll at h
  obtain ⟨y, hy, rfl⟩ := List.mem_map.1 h
  have h1 := (List.mergeSort_perm (candP all) leP).mem_iff.1 (List.mem_of_mem_take hy)
  unfold candP at h1
  obtain ⟨s, hs, rfl⟩ := List.mem_map.1 h1
  exact mem_distP.1 ((List.mem_filter.1 hs).1)
theorem train_nodup (all : List ByteArray) : (trainAll all).Nodup := by
  unfold trainAll
  rw [List.map_take]
  refine List.Nodup.sublist (List.take_sublist _ _) ?_
  refine ((List.mergeSort_perm (candP all) leP).map (·.1)).nodup_iff.2 ?_
  unfold candP
  rw [List.map_map, show ((fun x : ByteArray × Int => x.1) ∘ worthP all) = id from rfl, List.map_id]
  exact (nodup_distP all).filter _
theorem train_len (all : List ByteArray) : (trainAll all).length ≤ 32 := by
  unfold trainAll
  rw [List.length_map, List.length_take]
  omega
theorem train_formed (x0 : List (List Int)) : formedB (trainAll (allP 1024 x0)) = true := by
  unfold formedB
  rw [decide_eq_true (train_len _), fresh_of _ [] (fun x hx => allP_size _ _ x (train_mem hx)) (by rw [List.nil_append]; exact train_nodup _)]
  rfl
end Go.Proofs.Ytnmidkjmflnolaa.Pure
