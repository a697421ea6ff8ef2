/- The fixed fact of the statements on texts: true. -/
import Derived.Test.YtnmidkjmflnolaaP11
import Derived.Test.YtnmidkjmflnolaaWords
namespace Go.Proofs.Ytnmidkjmflnolaa.P
open Go Go.RowKit Go.Proofs.YtnmidkjmflnolaaW.PrintWords Go.Proofs.YtnmidkjmflnolaaW.PrintLast Go.Proofs.YtnmidkjmflnolaaW.PrintMore Go.Proofs.Ytnmidkjmflnolaa.Maps
attribute [local go_sem] max2_int min2_int max_two min_two max_three min_three max_four min_four
set_option linter.unusedVariables false
set_option linter.unusedSimpArgs false

def dragnetlaw11_alive.f : Option Bool := some true
theorem alive_put : texts_Put.f 300 [] [[97, 98, 99]] = some ([1, 1, 1, 3, 0, 0, 4, 48, 97, 98, 99], 0) := by kernel_rfl
/-- One slice in a new row of one. -/
theorem C_one_row {w W : World} {A : Option Addr} {c : Nat} {l : List Int} (h : Kd.C (Kd.int .u8) W A l.length l) (hc : l.length ≤ c) (hW : W = w) : Kd.C (Kd.slice 5 (Kd.int .u8)) (w.alloc (.cells #[.slice A l.length c] 23)) (some ⟨w.heap.size, 0, none⟩) 1 [l] := by
  subst hW
  refine ⟨rfl, by omega, fun _ => ⟨⟨W.heap.size, 0, none⟩, rfl, fun j p hj => ?_⟩⟩
  cases j with
  | succ j => simp at hj
  | zero =>
    simp at hj
    subst hj
    refine ⟨[.slice A l.length c], rfl, ⟨A, c, rfl, hc, Kd.C_alloc h _⟩, fun i u hi => ?_⟩
    obtain ⟨rfl, rfl⟩ : i = 0 ∧ u = .slice A l.length c := by
      cases i with
      | zero => simp at hi; exact ⟨rfl, hi.symm⟩
      | succ i => simp at hi
    simp only [Nat.zero_mul, Nat.add_zero]
    rw [Addr.add_zero', blk_cell (blk_new W (.cells #[.slice A l.length c] 23 (0, 0)))]
    rfl
set_option maxHeartbeats 4000000 in
set_option maxRecDepth 100000 in
theorem dragnetlaw11_alive.calls (r : Bool) (w : World) (h : dragnetlaw11_alive.f = some r) :
    Calls Try.prog 30 #[] w fun e w' => e = .returned (.bool r) ∧ Below w.heap.size w w' := by
  obtain rfl := Option.some.inj h
  clear h
  have kc := bytes_const
  have hr0 := C_new_mark w .u8 5 [97, 98, 99] (3, 4) (by simp)
  have hr1 := C_one_row (w := w.alloc (.cells (nums .u8 [97, 98, 99]).toArray 5 (3, 4))) (c := 3) hr0 (Nat.le_refl _) rfl
  rw [World.size_alloc] at hr1
  simp only [nums, List.map_cons, List.map_nil, List.length_cons, List.length_nil, Nat.reduceAdd] at hr1
  have HR1 := Aside0.mk hr1
  clear hr0 hr1
  go_enter Try.func30, Try.ntmps30
  go_wp2_with fail
  refine (texts_Put.calls 300 none 0 [] (some ⟨w.heap.size + 1, 0, none⟩) 1 [[97, 98, 99]] [1, 1, 1, 3, 0, 0, 4, 48, 97, 98, 99] 0 _ (Kd.C_nil _ _) (Nat.le_refl _) HR1.out (Nat.le_refl _) alive_put).mono ?_
  rintro e w1 ⟨v1, rfl, hv1, hb1⟩
  have HB := Aside0.mk (show Below w.heap.size w w1 from below_step (below_alloc (below_alloc (Below.refl _ _) _) _) hb1)
  obtain ⟨A1, c1, rfl, hc1, hr1⟩ := Kd.R_reads hv1
  have HR := Aside0.mk hr1
  have HC := Aside0.mk hc1
  clear hb1 hv1 hr1 hc1 HR1 kc
  go_wp2_with fail
  refine (dragnetref01_Same.calls A1 c1 [1, 1, 1, 3, 0, 0, 4, 48, 97, 98, 99] (some ⟨w1.heap.size, 0, none⟩) 11 [1, 1, 1, 3, 0, 0, 4, 48, 97, 98, 99] true _ (Kd.C_alloc HR.out _) HC.out (C_new w1 .u8 5 [1, 1, 1, 3, 0, 0, 4, 48, 97, 98, 99] (by simp)) (Nat.le_refl _) (by kernel_rfl)).mono ?_
  rintro e w2 ⟨rfl, ⟨nd, hw2⟩⟩
  have HB2 := Aside0.mk (show Below w.heap.size w w2 by rw [hw2]; exact pw_below_drewN (below_alloc HB.out _) nd)
  clear hw2 HB
  go_wp2_with fail
  go_ret
  exact ⟨rfl, HB2.out⟩
end Go.Proofs.Ytnmidkjmflnolaa.P
