/- The fixed fact of the statements on sym: true. -/
import Derived.Test.YtnmidkjmflnolaaSymEncode
import Derived.Test.YtnmidkjmflnolaaP1
namespace Go.Proofs.Ytnmidkjmflnolaa.P
open Go.RowKit Go.Proofs.YtnmidkjmflnolaaW.PrintWords Go.Proofs.YtnmidkjmflnolaaW.PrintLast Go.Proofs.YtnmidkjmflnolaaW.PrintMore Go.Proofs.Ytnmidkjmflnolaa.Maps
attribute [local go_sem] max2_int min2_int max_two min_two max_three min_three max_four min_four
set_option linter.unusedVariables false
set_option linter.unusedSimpArgs false

def dragnetlaw06_alive.f : Option Bool := some true
theorem alive_enc : sym_Encode.f 10 [⟨#[97, 98]⟩, ⟨#[97, 98, 99]⟩] [97, 98, 99, 97, 98] = some ([1, 0], 0) := by decide +kernel
theorem alive_yes : sym_Formed.f [⟨#[97, 98]⟩] = some true := by decide +kernel
theorem alive_no : sym_Formed.f [⟨#[97]⟩] = some false := by decide +kernel

set_option maxHeartbeats 4000000 in
set_option maxRecDepth 100000 in
theorem dragnetlaw06_alive.calls (r : Bool) (w : World) (h : dragnetlaw06_alive.f = some r) :
    Calls Try.prog 13 #[] w fun e w' => e = .returned (.bool r) ∧ Below w.heap.size w w' := by
  obtain rfl := Option.some.inj h
  clear h
  have kc := bytes_const
  have hr0 := Kd.C_alloc (C_new_strs w 9 [⟨#[97, 98]⟩, ⟨#[97, 98, 99]⟩] (by simp)) (.cells (nums .u8 [97, 98, 99, 97, 98]).toArray 5 (5, 6))
  have hr1 := C_new_mark (w.alloc (.cells (pw_strs [⟨#[97, 98]⟩, ⟨#[97, 98, 99]⟩]).toArray 9)) .u8 5 [97, 98, 99, 97, 98] (5, 6) (by simp)
  have hsz : ∀ o : Obj, (w.alloc o).heap.size = w.heap.size + 1 := by simp
  rw [hsz] at hr1
  simp only [nums, pw_strs, List.map_cons, List.map_nil] at hr0 hr1
  clear hsz
  have HR0 := Aside0.mk hr0
  have HR1 := Aside0.mk hr1
  clear hr0 hr1
  go_enter Try.func13, Try.ntmps13
  go_wp2_with fail
  refine (sym_Encode.calls 10 (some ⟨w.heap.size, 0, none⟩) 2 [⟨#[97, 98]⟩, ⟨#[97, 98, 99]⟩] (some ⟨w.heap.size + 1, 0, none⟩) 5 [97, 98, 99, 97, 98] [1, 0] 0 _ HR0.out (Nat.le_refl _) HR1.out (Nat.le_refl _) alive_enc).mono ?_
  rintro e w1 ⟨v1, rfl, hv1, hb1⟩
  have HB := Aside0.mk (show Below w.heap.size w w1 from below_step (below_alloc (below_alloc (Below.refl _ _) _) _) hb1)
  obtain ⟨A1, c1, rfl, hc1, hr1⟩ := Kd.R_reads hv1
  have HR := Aside0.mk hr1
  have HC := Aside0.mk hc1
  clear hb1 hv1 hr1 hc1 HR0 HR1
  go_wp2_with fail
  refine (dragnetref01_Same.calls A1 c1 [1, 0] (some ⟨w1.heap.size, 0, none⟩) 2 [1, 0] true _ (Kd.C_alloc HR.out _) HC.out (C_new w1 .u8 5 [1, 0] (by simp)) (Nat.le_refl _) (by simp [dragnetref01_Same.f])).mono ?_
  rintro e w2 ⟨rfl, ⟨nd, hw2⟩⟩
  have HB2 := Aside0.mk (show Below w.heap.size w w2 by rw [hw2]; exact pw_below_drewN (below_alloc HB.out _) nd)
  clear hw2 HB
  go_wp2_with fail
  refine (sym_Formed.calls (some ⟨w2.heap.size, 0, none⟩) 1 [⟨#[97, 98]⟩] true _ (C_new_strs w2 9 [⟨#[97, 98]⟩] (by simp)) (Nat.le_refl _) alive_yes).mono ?_
  rintro e w3 ⟨rfl, hb⟩
  have HB3 := Aside0.mk (show Below w.heap.size w w3 from below_step (below_alloc HB2.out _) hb)
  clear hb HB2
  go_wp2_with fail
  refine (sym_Formed.calls (some ⟨w3.heap.size, 0, none⟩) 1 [⟨#[97]⟩] false _ (C_new_strs w3 9 [⟨#[97]⟩] (by simp)) (Nat.le_refl _) alive_no).mono ?_
  rintro e w4 ⟨rfl, hb⟩
  have HB4 := Aside0.mk (show Below w.heap.size w w4 from below_step (below_alloc HB3.out _) hb)
  clear hb HB3
  go_wp2_with fail
  go_ret
  exact ⟨rfl, HB4.out⟩
end Go.Proofs.Ytnmidkjmflnolaa.P
