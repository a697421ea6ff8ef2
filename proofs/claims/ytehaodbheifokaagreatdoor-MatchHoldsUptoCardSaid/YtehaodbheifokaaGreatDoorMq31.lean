/- Joined by wip/tools/pack.py, pruned: AskedB20. -/
import Derived.Test.YtehaodbheifokaaGreatDoorMq7
set_option maxHeartbeats 8000000
set_option maxRecDepth 100000
set_option linter.unusedVariables false
set_option linter.unusedSimpArgs false
section
namespace Go.Proofs.YtehaodbheifokaaGreatDoor.P
open Go Go.RowKit Go.Proofs.YtehaodbheifokaaGreatDoorW.PrintWords Go.Proofs.YtehaodbheifokaaGreatDoorW.PrintLast Go.Proofs.YtehaodbheifokaaGreatDoorW.PrintMore
attribute [local go_sem] max2_int min2_int max_two min_two
theorem asked_1 (A : Option Addr) (n c : Nat) (ky : ByteArray) (wd sk mo : Int) (w : World) :
  Calls Tryz.prog 60 #[.agg #[.slice A n c, .int .i64 1, .string ky, .int .i64 wd, .int .i64 sk, .int .i64 mo]] w fun e w' => e = .returned (.bool (rngB sk mo && decide (ky = ⟨#[]⟩ ∧ wd = 0))) ∧ Below w.heap.size w w' := by
 obtain ⟨r, hr⟩ : ∃ r, (rngB sk mo && decide (ky = ⟨#[]⟩ ∧ wd = 0)) = r := ⟨_, rfl⟩
 rw [hr]
 have HR := Aside0.mk hr
 clear hr
 go_enter Tryz.func60, Tryz.ntmps60
 go_wp2_with fail
 all_goals (try go_region)
 all_goals (try go_wp2)
 all_goals (try go_region)
 all_goals (try go_wp2)
 all_goals go_ret
 all_goals (refine ⟨?_, by repeat (first | exact Below.refl _ _ | apply pw_below_drewN | apply below_drew1 | apply below_drew | apply Below.setCell (hp := Nat.le_succ _) | apply below_alloc)⟩)
 all_goals first | refine eB (show true = r from ?_) | refine eB (show false = r from ?_) | refine eB (show (mo == 0) = r from ?_) | refine eB (show decide _ = r from ?_)
 all_goals (rw [← HR.out]; clear HR; (try clear HK); go_light; (try simp only [bytes_nil] at *); (try unfold rngB))
 all_goals grind
theorem asked_3 (A : Option Addr) (n c : Nat) (ky : ByteArray) (wd sk mo : Int) (w : World) (hs : ky.size ≤ 9223372036854775807) :
  Calls Tryz.prog 60 #[.agg #[.slice A n c, .int .i64 3, .string ky, .int .i64 wd, .int .i64 sk, .int .i64 mo]] w fun e w' => e = .returned (.bool (Pure.keyB ky && decide (wd = 0 ∧ sk = 0 ∧ mo = 0))) ∧ Below w.heap.size w w' := by
 obtain ⟨r, hr⟩ : ∃ r, (Pure.keyB ky && decide (wd = 0 ∧ sk = 0 ∧ mo = 0)) = r := ⟨_, rfl⟩
 rw [hr]
 obtain ⟨kb, hkb⟩ : ∃ kb, Pure.keyB ky = kb := ⟨_, rfl⟩
 have HK := Aside0.mk (fun W => isKey_calls ky W hs)
 rw [hkb] at hr HK
 clear hkb hs
 have HR := Aside0.mk hr
 clear hr
 cases kb
 all_goals (
  go_enter Tryz.func60, Tryz.ntmps60
  go_wp2_with fail
  go_region_with (go_at_call 80; refine (HK.out _).mono ?_; rintro e w1 ⟨rfl, ⟨⟨n1, rfl⟩⟩⟩))
 all_goals (try go_wp2)
 all_goals (try go_region)
 all_goals (try go_wp2)
 all_goals (try go_region)
 all_goals (try go_wp2)
 all_goals go_ret
 all_goals (refine ⟨?_, by repeat (first | exact Below.refl _ _ | apply pw_below_drewN | apply below_drew1 | apply below_drew | apply Below.setCell (hp := Nat.le_succ _) | apply below_alloc)⟩)
 all_goals first | refine eB (show true = r from ?_) | refine eB (show false = r from ?_) | refine eB (show (mo == 0) = r from ?_) | refine eB (show decide _ = r from ?_)
 all_goals (rw [← HR.out]; clear HR; (try clear HK); go_light; (try simp only [bytes_nil] at *); (try unfold rngB))
 all_goals grind
def query_asked.T11 : Bool × List (List Nat × List Nat) := (true, [([], []), ([0], [0]), ([], []), ([2], [2]), ([], []), ([4], [4]), ([5], [5]), ([6, 6], [6]), ([7], [7]), ([8, 7], [7, 8]), ([9, 7], [7, 9]), ([7, 10], [7, 10]), ([0, 1], []), ([12, 1, 7, 0, 1], [1, 12]), ([0, 1, 2, 3, 12, 13], []), ([14, 3, 13, 0, 1, 2, 3, 12, 13], [3, 14]), ([11, 15, 0, 1, 2, 3, 4, 5, 6, 7, 8, 9, 10, 11, 12, 13, 14, 15], [11])])
def query_asked.B11 : List Nat := [0, 1, 0, 4, 0, 16, 48, 112, 240, 496, 1008, 2032, 3, 4339, 12543, 28927, 65535]
theorem query_asked.tab11 : rtab .any (opsOf Tryz.f60 11) = query_asked.T11 := by kernel_rfl
theorem query_asked.bits11 : waitsOk query_asked.T11.2 query_asked.B11 = true := by kernel_rfl
theorem asked_4 (A : Option Addr) (n c : Nat) (ky : ByteArray) (wd sk mo : Int) (w : World) (hs : ky.size ≤ 9223372036854775807) :
  Calls Tryz.prog 60 #[.agg #[.slice A n c, .int .i64 4, .string ky, .int .i64 wd, .int .i64 sk, .int .i64 mo]] w fun e w' => e = .returned (.bool (Pure.keyB ky && decide (0 ≤ mo ∧ mo ≤ 1000 ∧ wd = 0 ∧ sk = 0))) ∧ Below w.heap.size w w' := by
 obtain ⟨r, hr⟩ : ∃ r, (Pure.keyB ky && decide (0 ≤ mo ∧ mo ≤ 1000 ∧ wd = 0 ∧ sk = 0)) = r := ⟨_, rfl⟩
 rw [hr]
 obtain ⟨kb, hkb⟩ : ∃ kb, Pure.keyB ky = kb := ⟨_, rfl⟩
 have HK := Aside0.mk (fun W => isKey_calls ky W hs)
 rw [hkb] at hr HK
 clear hkb hs
 have HR := Aside0.mk hr
 clear hr
 cases kb
 ·go_enter Tryz.func60, Tryz.ntmps60
  go_wp2_with fail
  obtain ⟨wS, hwS⟩ : ∃ wS, wS = ((w.alloc (.cells #[.slice A n c, .int .i64 4, .string ky, .int .i64 wd, .int .i64 sk, .int .i64 mo] 24)).alloc (.cells #[.slice none 0 0, .int .i64 4, .string ⟨#[]⟩, .int .i64 0, .int .i64 0, .int .i64 0] 24)) := ⟨_, rfl⟩
  have HA := Aside0.mk (show wS.drew.heap[w.heap.size]? = some (.cells #[.slice A n c, .int .i64 4, .string ky, .int .i64 wd, .int .i64 sk, .int .i64 mo] 24 (0, 0)) by rw [hwS]; exact blk_alloc (blk_new w _) _)
  have HX := Aside0.mk (show wS.drew.heap[w.heap.size + 1]? = some (.cells #[.slice none 0 0, .int .i64 4, .string ⟨#[]⟩, .int .i64 0, .int .i64 0, .int .i64 0] 24 (0, 0)) by have h := blk_new (w.alloc (.cells #[.slice A n c, .int .i64 4, .string ky, .int .i64 wd, .int .i64 sk, .int .i64 mo] 24)) (.cells #[.slice none 0 0, .int .i64 4, .string ⟨#[]⟩, .int .i64 0, .int .i64 0, .int .i64 0] 24); rw [World.size_alloc] at h; rw [hwS]; exact h)
  have HNE := Aside0.mk (show w.heap.size ≠ w.heap.size + 1 by omega)
  have HB := Aside0.mk (show Below w.heap.size w wS.drew by rw [hwS]; exact below_drew (below_alloc (below_alloc (Below.refl _ _) _) _))
  rw [← hwS]
  clear hwS
  refine start_ (n := 17) (S := fun w' => w'.cell? ⟨w.heap.size, 0, none⟩ = some (.slice A n c) ∧ w'.cell? ⟨w.heap.size, 1, none⟩ = some (.int .i64 4) ∧ w'.cell? ⟨w.heap.size, 2, none⟩ = some (.string ky) ∧ w'.cell? ⟨w.heap.size, 3, none⟩ = some (.int .i64 wd) ∧ w'.cell? ⟨w.heap.size, 4, none⟩ = some (.int .i64 sk) ∧ w'.cell? ⟨w.heap.size, 5, none⟩ = some (.int .i64 mo)) (ds := []) #[false, false, false, false, false, false, false, false, false, false, false, false, false, false, false, false, false] (by kernel_rfl) rfl rfl ⟨(blk_cell HA.out 0).trans rfl, (blk_cell HA.out 1).trans rfl, (blk_cell HA.out 2).trans rfl, (blk_cell HA.out 3).trans rfl, (blk_cell HA.out 4).trans rfl, (blk_cell HA.out 5).trans rfl⟩ (fun hHeld => ?_)
  refine with_tabW query_asked.tab11 query_asked.bits11 (fun HT_ HW_ => ?_)
  generalize wS.drew = wD at HA HX HB hHeld ⊢
  refine pS 0 (some 30) HT_ ?_
  refine pS 2 (some 32) HT_ ?_
  refine pS 4 (some 34) HT_ ?_
  refine tS 1 (some 31) HT_ HW_ hHeld ?_
  refine tS 3 (some 33) HT_ HW_ hHeld ?_
  refine tS 5 (some 35) HT_ HW_ hHeld ?_
  refine pS 12 (some 42) HT_ ?_
  refine one_ (i := 6) (N := some 36) #[true, true, true, true, true, true, true, false, false, false, false, false, true, false, false, false, false] rfl rfl (one_of HT_.out (by kernel_rfl)) (by decide) (fun K hK => ?_)
  refine goes_ Tryz.func80 (by kernel_rfl) rfl #[.string ky] (by rfl) rfl rfl (by (try simp only [List.map_toArray, List.map_cons, List.map_nil]); first | done | rfl) ?_
  refine (HK.out _).mono ?_
  rintro e w' ⟨rfl, ⟨⟨nd, rfl⟩⟩⟩
  refine ⟨_, rfl, ?_⟩
  refine hK.out _ _ hHeld (fun hHeld => ?_)
  clear hK K
  refine norm_ (a' := ?_) ?_ ?_
  rotate_left
  ·show Act.put _ (some 36) _ = _
   simp only [Act.put, List.setIfInBounds_toArray, List.set_cons_zero, List.set_cons_succ, i64_w, i32_w]
   rfl
  refine pS 7 (some 37) HT_ ?_
  refine uS 8 (some 38) HT_ ?_
  refine uS 9 (some 39) HT_ ?_
  refine uS 10 (some 40) HT_ ?_
  refine pS 11 (some 41) HT_ ?_
  refine one_ (i := 13) (N := none) #[true, true, true, true, true, true, true, true, true, true, true, true, true, true, false, false, false] rfl rfl (one_of HT_.out (by kernel_rfl)) (by decide) (fun K hK => ?_)
  have hs13 : wD.cell? ⟨w.heap.size + 1, 2, none⟩ = some (.string ⟨#[]⟩) := (blk_cell HX.out 2).trans rfl
  have hf13 := blk_frozen HX.out 2
  have hn13 := HNE.out
  have hm13 := HNE.out.symm
  refine skip_ (w1 := ?_) (by rfl) rfl ?_ ?_
  rotate_left
  ·go_simp
   rfl
  refine hK.out _ _ ⟨(cell_far (p := ⟨w.heap.size + 1, _, none⟩) HNE.out _).trans (hHeld.1), (cell_far (p := ⟨w.heap.size + 1, _, none⟩) HNE.out _).trans (hHeld.2.1), (cell_far (p := ⟨w.heap.size + 1, _, none⟩) HNE.out _).trans (hHeld.2.2.1), (cell_far (p := ⟨w.heap.size + 1, _, none⟩) HNE.out _).trans (hHeld.2.2.2.1), (cell_far (p := ⟨w.heap.size + 1, _, none⟩) HNE.out _).trans (hHeld.2.2.2.2.1), (cell_far (p := ⟨w.heap.size + 1, _, none⟩) HNE.out _).trans (hHeld.2.2.2.2.2)⟩ (fun hHeld => ?_)
  clear hK K
  refine pS 14 (some 43) HT_ ?_
  refine one_ (i := 15) (N := none) #[true, true, true, true, true, true, true, true, true, true, true, true, true, true, true, true, false] rfl rfl (one_of HT_.out (by kernel_rfl)) (by decide) (fun K hK => ?_)
  have hs15 : wD.cell? ⟨w.heap.size + 1, 5, none⟩ = some (.int .i64 0) := (blk_cell HX.out 5).trans rfl
  have hf15 := blk_frozen HX.out 5
  have hn15 := HNE.out
  have hm15 := HNE.out.symm
  refine skip_ (w1 := ?_) (by rfl) rfl ?_ ?_
  rotate_left
  ·go_simp
   rfl
  refine hK.out _ _ ⟨(cell_far (p := ⟨w.heap.size + 1, _, none⟩) HNE.out _).trans (hHeld.1), (cell_far (p := ⟨w.heap.size + 1, _, none⟩) HNE.out _).trans (hHeld.2.1), (cell_far (p := ⟨w.heap.size + 1, _, none⟩) HNE.out _).trans (hHeld.2.2.1), (cell_far (p := ⟨w.heap.size + 1, _, none⟩) HNE.out _).trans (hHeld.2.2.2.1), (cell_far (p := ⟨w.heap.size + 1, _, none⟩) HNE.out _).trans (hHeld.2.2.2.2.1), (cell_far (p := ⟨w.heap.size + 1, _, none⟩) HNE.out _).trans (hHeld.2.2.2.2.2)⟩ (fun hHeld => ?_)
  clear hK K
  refine pS 16 (some 4) HT_ ?_
  refine done_ (done_of HT_.out (by kernel_rfl)) ?_
  have hz0 : wD.cell? ⟨w.heap.size, 0, none⟩ = some (.slice A n c) := (blk_cell HA.out 0).trans rfl
  have hz1 : wD.cell? ⟨w.heap.size, 1, none⟩ = some (.int .i64 4) := (blk_cell HA.out 1).trans rfl
  have hz2 : wD.cell? ⟨w.heap.size, 2, none⟩ = some (.string ky) := (blk_cell HA.out 2).trans rfl
  have hz3 : wD.cell? ⟨w.heap.size, 3, none⟩ = some (.int .i64 wd) := (blk_cell HA.out 3).trans rfl
  have hz4 : wD.cell? ⟨w.heap.size, 4, none⟩ = some (.int .i64 sk) := (blk_cell HA.out 4).trans rfl
  have hz5 : wD.cell? ⟨w.heap.size, 5, none⟩ = some (.int .i64 mo) := (blk_cell HA.out 5).trans rfl
  have hy3 : wD.cell? ⟨w.heap.size + 1, 3, none⟩ = some (.int .i64 0) := (blk_cell HX.out 3).trans rfl
  have hy4 : wD.cell? ⟨w.heap.size + 1, 4, none⟩ = some (.int .i64 0) := (blk_cell HX.out 4).trans rfl
  have hne1 := HNE.out
  have hne2 := HNE.out.symm
  clear hHeld HT_ HW_ HA HX
  all_goals (try go_wp2)
  all_goals (try go_region)
  all_goals (try go_wp2)
  all_goals (try go_region)
  all_goals (try go_wp2)
  all_goals go_ret
  all_goals (refine ⟨?_, by repeat (first | exact HB.out | apply pw_below_drewN | apply below_drew1 | apply below_drew | apply Below.setCell (hp := Nat.le_succ _))⟩)
  all_goals first | refine eB (show true = r from ?_) | refine eB (show false = r from ?_) | refine eB (show (mo == 0) = r from ?_) | refine eB (show decide _ = r from ?_)
  all_goals (rw [← HR.out]; clear HR HB HNE; (try clear HK); go_light; (try simp only [bytes_nil] at *); (try unfold rngB))
  all_goals grind
 ·by_cases hm : mo ≤ 1000
  ·have e1 : decide (mo ≤ 1000) = true := decide_eq_true hm
   have HM := Aside0.mk hm
   clear hm
   go_enter Tryz.func60, Tryz.ntmps60
   go_wp2_with fail
   obtain ⟨wS, hwS⟩ : ∃ wS, wS = ((w.alloc (.cells #[.slice A n c, .int .i64 4, .string ky, .int .i64 wd, .int .i64 sk, .int .i64 mo] 24)).alloc (.cells #[.slice none 0 0, .int .i64 4, .string ⟨#[]⟩, .int .i64 0, .int .i64 0, .int .i64 0] 24)) := ⟨_, rfl⟩
   have HA := Aside0.mk (show wS.drew.heap[w.heap.size]? = some (.cells #[.slice A n c, .int .i64 4, .string ky, .int .i64 wd, .int .i64 sk, .int .i64 mo] 24 (0, 0)) by rw [hwS]; exact blk_alloc (blk_new w _) _)
   have HX := Aside0.mk (show wS.drew.heap[w.heap.size + 1]? = some (.cells #[.slice none 0 0, .int .i64 4, .string ⟨#[]⟩, .int .i64 0, .int .i64 0, .int .i64 0] 24 (0, 0)) by have h := blk_new (w.alloc (.cells #[.slice A n c, .int .i64 4, .string ky, .int .i64 wd, .int .i64 sk, .int .i64 mo] 24)) (.cells #[.slice none 0 0, .int .i64 4, .string ⟨#[]⟩, .int .i64 0, .int .i64 0, .int .i64 0] 24); rw [World.size_alloc] at h; rw [hwS]; exact h)
   have HNE := Aside0.mk (show w.heap.size ≠ w.heap.size + 1 by omega)
   have HB := Aside0.mk (show Below w.heap.size w wS.drew by rw [hwS]; exact below_drew (below_alloc (below_alloc (Below.refl _ _) _) _))
   rw [← hwS]
   clear hwS
   refine start_ (n := 17) (S := fun w' => w'.cell? ⟨w.heap.size, 0, none⟩ = some (.slice A n c) ∧ w'.cell? ⟨w.heap.size, 1, none⟩ = some (.int .i64 4) ∧ w'.cell? ⟨w.heap.size, 2, none⟩ = some (.string ky) ∧ w'.cell? ⟨w.heap.size, 3, none⟩ = some (.int .i64 wd) ∧ w'.cell? ⟨w.heap.size, 4, none⟩ = some (.int .i64 sk) ∧ w'.cell? ⟨w.heap.size, 5, none⟩ = some (.int .i64 mo)) (ds := []) #[false, false, false, false, false, false, false, false, false, false, false, false, false, false, false, false, false] (by kernel_rfl) rfl rfl ⟨(blk_cell HA.out 0).trans rfl, (blk_cell HA.out 1).trans rfl, (blk_cell HA.out 2).trans rfl, (blk_cell HA.out 3).trans rfl, (blk_cell HA.out 4).trans rfl, (blk_cell HA.out 5).trans rfl⟩ (fun hHeld => ?_)
   refine with_tabW query_asked.tab11 query_asked.bits11 (fun HT_ HW_ => ?_)
   generalize wS.drew = wD at HA HX HB hHeld ⊢
   refine pS 0 (some 30) HT_ ?_
   refine pS 2 (some 32) HT_ ?_
   refine pS 4 (some 34) HT_ ?_
   refine tS 1 (some 31) HT_ HW_ hHeld ?_
   refine tS 3 (some 33) HT_ HW_ hHeld ?_
   refine tS 5 (some 35) HT_ HW_ hHeld ?_
   refine pS 12 (some 42) HT_ ?_
   refine one_ (i := 6) (N := some 36) #[true, true, true, true, true, true, true, false, false, false, false, false, true, false, false, false, false] rfl rfl (one_of HT_.out (by kernel_rfl)) (by decide) (fun K hK => ?_)
   refine goes_ Tryz.func80 (by kernel_rfl) rfl #[.string ky] (by rfl) rfl rfl (by (try simp only [List.map_toArray, List.map_cons, List.map_nil]); first | done | rfl) ?_
   refine (HK.out _).mono ?_
   rintro e w' ⟨rfl, ⟨⟨nd, rfl⟩⟩⟩
   refine ⟨_, rfl, ?_⟩
   refine hK.out _ _ hHeld (fun hHeld => ?_)
   clear hK K
   refine norm_ (a' := ?_) ?_ ?_
   rotate_left
   ·show Act.put _ (some 36) _ = _
    simp only [Act.put, List.setIfInBounds_toArray, List.set_cons_zero, List.set_cons_succ, i64_w, i32_w]
    rfl
   refine pS 7 (some 37) HT_ ?_
   refine pS 8 (some 38) HT_ ?_
   refine tS 9 (some 39) HT_ HW_ hHeld ?_
   refine pS 10 (some 40) HT_ ?_
   refine pS 11 (some 41) HT_ ?_
   refine one_ (i := 13) (N := none) #[true, true, true, true, true, true, true, true, true, true, true, true, true, true, false, false, false] rfl rfl (one_of HT_.out (by kernel_rfl)) (by decide) (fun K hK => ?_)
   have hs13 : wD.cell? ⟨w.heap.size + 1, 2, none⟩ = some (.string ⟨#[]⟩) := (blk_cell HX.out 2).trans rfl
   have hf13 := blk_frozen HX.out 2
   have hn13 := HNE.out
   have hm13 := HNE.out.symm
   refine skip_ (w1 := ?_) (by rfl) rfl ?_ ?_
   rotate_left
   ·go_simp
    rfl
   refine hK.out _ _ ⟨(cell_far (p := ⟨w.heap.size + 1, _, none⟩) HNE.out _).trans (hHeld.1), (cell_far (p := ⟨w.heap.size + 1, _, none⟩) HNE.out _).trans (hHeld.2.1), (cell_far (p := ⟨w.heap.size + 1, _, none⟩) HNE.out _).trans (hHeld.2.2.1), (cell_far (p := ⟨w.heap.size + 1, _, none⟩) HNE.out _).trans (hHeld.2.2.2.1), (cell_far (p := ⟨w.heap.size + 1, _, none⟩) HNE.out _).trans (hHeld.2.2.2.2.1), (cell_far (p := ⟨w.heap.size + 1, _, none⟩) HNE.out _).trans (hHeld.2.2.2.2.2)⟩ (fun hHeld => ?_)
   clear hK K
   refine pS 14 (some 43) HT_ ?_
   refine one_ (i := 15) (N := none) #[true, true, true, true, true, true, true, true, true, true, true, true, true, true, true, true, false] rfl rfl (one_of HT_.out (by kernel_rfl)) (by decide) (fun K hK => ?_)
   have hs15 : wD.cell? ⟨w.heap.size + 1, 5, none⟩ = some (.int .i64 0) := (blk_cell HX.out 5).trans rfl
   have hf15 := blk_frozen HX.out 5
   have hn15 := HNE.out
   have hm15 := HNE.out.symm
   refine skip_ (w1 := ?_) (by rfl) rfl ?_ ?_
   rotate_left
   ·go_simp
    rfl
   refine hK.out _ _ ⟨(cell_far (p := ⟨w.heap.size + 1, _, none⟩) HNE.out _).trans (hHeld.1), (cell_far (p := ⟨w.heap.size + 1, _, none⟩) HNE.out _).trans (hHeld.2.1), (cell_far (p := ⟨w.heap.size + 1, _, none⟩) HNE.out _).trans (hHeld.2.2.1), (cell_far (p := ⟨w.heap.size + 1, _, none⟩) HNE.out _).trans (hHeld.2.2.2.1), (cell_far (p := ⟨w.heap.size + 1, _, none⟩) HNE.out _).trans (hHeld.2.2.2.2.1), (cell_far (p := ⟨w.heap.size + 1, _, none⟩) HNE.out _).trans (hHeld.2.2.2.2.2)⟩ (fun hHeld => ?_)
   clear hK K
   refine pS 16 (some 4) HT_ ?_
   refine done_ (done_of HT_.out (by kernel_rfl)) ?_
   have hz0 : wD.cell? ⟨w.heap.size, 0, none⟩ = some (.slice A n c) := (blk_cell HA.out 0).trans rfl
   have hz1 : wD.cell? ⟨w.heap.size, 1, none⟩ = some (.int .i64 4) := (blk_cell HA.out 1).trans rfl
   have hz2 : wD.cell? ⟨w.heap.size, 2, none⟩ = some (.string ky) := (blk_cell HA.out 2).trans rfl
   have hz3 : wD.cell? ⟨w.heap.size, 3, none⟩ = some (.int .i64 wd) := (blk_cell HA.out 3).trans rfl
   have hz4 : wD.cell? ⟨w.heap.size, 4, none⟩ = some (.int .i64 sk) := (blk_cell HA.out 4).trans rfl
   have hz5 : wD.cell? ⟨w.heap.size, 5, none⟩ = some (.int .i64 mo) := (blk_cell HA.out 5).trans rfl
   have hy3 : wD.cell? ⟨w.heap.size + 1, 3, none⟩ = some (.int .i64 0) := (blk_cell HX.out 3).trans rfl
   have hy4 : wD.cell? ⟨w.heap.size + 1, 4, none⟩ = some (.int .i64 0) := (blk_cell HX.out 4).trans rfl
   have hne1 := HNE.out
   have hne2 := HNE.out.symm
   clear hHeld HT_ HW_ HA HX
   all_goals (try go_wp2)
   all_goals (try go_region)
   all_goals (try go_wp2)
   all_goals (try go_region)
   all_goals (try go_wp2)
   all_goals go_ret
   all_goals (refine ⟨?_, by repeat (first | exact HB.out | apply pw_below_drewN | apply below_drew1 | apply below_drew | apply Below.setCell (hp := Nat.le_succ _))⟩)
   all_goals first | refine eB (show true = r from ?_) | refine eB (show false = r from ?_) | refine eB (show (mo == 0) = r from ?_) | refine eB (show decide _ = r from ?_)
   all_goals (have hm := HM.out; rw [← HR.out]; clear HR HB HNE HM; (try clear HK); go_light; (try simp only [bytes_nil] at *); (try unfold rngB))
   all_goals grind
  ·have e1 : decide (mo ≤ 1000) = false := decide_eq_false hm
   have HM := Aside0.mk hm
   clear hm
   go_enter Tryz.func60, Tryz.ntmps60
   go_wp2_with fail
   obtain ⟨wS, hwS⟩ : ∃ wS, wS = ((w.alloc (.cells #[.slice A n c, .int .i64 4, .string ky, .int .i64 wd, .int .i64 sk, .int .i64 mo] 24)).alloc (.cells #[.slice none 0 0, .int .i64 4, .string ⟨#[]⟩, .int .i64 0, .int .i64 0, .int .i64 0] 24)) := ⟨_, rfl⟩
   have HA := Aside0.mk (show wS.drew.heap[w.heap.size]? = some (.cells #[.slice A n c, .int .i64 4, .string ky, .int .i64 wd, .int .i64 sk, .int .i64 mo] 24 (0, 0)) by rw [hwS]; exact blk_alloc (blk_new w _) _)
   have HX := Aside0.mk (show wS.drew.heap[w.heap.size + 1]? = some (.cells #[.slice none 0 0, .int .i64 4, .string ⟨#[]⟩, .int .i64 0, .int .i64 0, .int .i64 0] 24 (0, 0)) by have h := blk_new (w.alloc (.cells #[.slice A n c, .int .i64 4, .string ky, .int .i64 wd, .int .i64 sk, .int .i64 mo] 24)) (.cells #[.slice none 0 0, .int .i64 4, .string ⟨#[]⟩, .int .i64 0, .int .i64 0, .int .i64 0] 24); rw [World.size_alloc] at h; rw [hwS]; exact h)
   have HNE := Aside0.mk (show w.heap.size ≠ w.heap.size + 1 by omega)
   have HB := Aside0.mk (show Below w.heap.size w wS.drew by rw [hwS]; exact below_drew (below_alloc (below_alloc (Below.refl _ _) _) _))
   rw [← hwS]
   clear hwS
   refine start_ (n := 17) (S := fun w' => w'.cell? ⟨w.heap.size, 0, none⟩ = some (.slice A n c) ∧ w'.cell? ⟨w.heap.size, 1, none⟩ = some (.int .i64 4) ∧ w'.cell? ⟨w.heap.size, 2, none⟩ = some (.string ky) ∧ w'.cell? ⟨w.heap.size, 3, none⟩ = some (.int .i64 wd) ∧ w'.cell? ⟨w.heap.size, 4, none⟩ = some (.int .i64 sk) ∧ w'.cell? ⟨w.heap.size, 5, none⟩ = some (.int .i64 mo)) (ds := []) #[false, false, false, false, false, false, false, false, false, false, false, false, false, false, false, false, false] (by kernel_rfl) rfl rfl ⟨(blk_cell HA.out 0).trans rfl, (blk_cell HA.out 1).trans rfl, (blk_cell HA.out 2).trans rfl, (blk_cell HA.out 3).trans rfl, (blk_cell HA.out 4).trans rfl, (blk_cell HA.out 5).trans rfl⟩ (fun hHeld => ?_)
   refine with_tabW query_asked.tab11 query_asked.bits11 (fun HT_ HW_ => ?_)
   generalize wS.drew = wD at HA HX HB hHeld ⊢
   refine pS 0 (some 30) HT_ ?_
   refine pS 2 (some 32) HT_ ?_
   refine pS 4 (some 34) HT_ ?_
   refine tS 1 (some 31) HT_ HW_ hHeld ?_
   refine tS 3 (some 33) HT_ HW_ hHeld ?_
   refine tS 5 (some 35) HT_ HW_ hHeld ?_
   refine pS 12 (some 42) HT_ ?_
   refine one_ (i := 6) (N := some 36) #[true, true, true, true, true, true, true, false, false, false, false, false, true, false, false, false, false] rfl rfl (one_of HT_.out (by kernel_rfl)) (by decide) (fun K hK => ?_)
   refine goes_ Tryz.func80 (by kernel_rfl) rfl #[.string ky] (by rfl) rfl rfl (by (try simp only [List.map_toArray, List.map_cons, List.map_nil]); first | done | rfl) ?_
   refine (HK.out _).mono ?_
   rintro e w' ⟨rfl, ⟨⟨nd, rfl⟩⟩⟩
   refine ⟨_, rfl, ?_⟩
   refine hK.out _ _ hHeld (fun hHeld => ?_)
   clear hK K
   refine norm_ (a' := ?_) ?_ ?_
   rotate_left
   ·show Act.put _ (some 36) _ = _
    simp only [Act.put, List.setIfInBounds_toArray, List.set_cons_zero, List.set_cons_succ, i64_w, i32_w]
    rfl
   refine pS 7 (some 37) HT_ ?_
   refine pS 8 (some 38) HT_ ?_
   refine tS 9 (some 39) HT_ HW_ hHeld ?_
   refine pS 10 (some 40) HT_ ?_
   refine pS 11 (some 41) HT_ ?_
   refine one_ (i := 13) (N := none) #[true, true, true, true, true, true, true, true, true, true, true, true, true, true, false, false, false] rfl rfl (one_of HT_.out (by kernel_rfl)) (by decide) (fun K hK => ?_)
   have hs13 : wD.cell? ⟨w.heap.size + 1, 2, none⟩ = some (.string ⟨#[]⟩) := (blk_cell HX.out 2).trans rfl
   have hf13 := blk_frozen HX.out 2
   have hn13 := HNE.out
   have hm13 := HNE.out.symm
   refine skip_ (w1 := ?_) (by rfl) rfl ?_ ?_
   rotate_left
   ·go_simp
    rfl
   refine hK.out _ _ ⟨(cell_far (p := ⟨w.heap.size + 1, _, none⟩) HNE.out _).trans (hHeld.1), (cell_far (p := ⟨w.heap.size + 1, _, none⟩) HNE.out _).trans (hHeld.2.1), (cell_far (p := ⟨w.heap.size + 1, _, none⟩) HNE.out _).trans (hHeld.2.2.1), (cell_far (p := ⟨w.heap.size + 1, _, none⟩) HNE.out _).trans (hHeld.2.2.2.1), (cell_far (p := ⟨w.heap.size + 1, _, none⟩) HNE.out _).trans (hHeld.2.2.2.2.1), (cell_far (p := ⟨w.heap.size + 1, _, none⟩) HNE.out _).trans (hHeld.2.2.2.2.2)⟩ (fun hHeld => ?_)
   clear hK K
   refine pS 14 (some 43) HT_ ?_
   refine one_ (i := 15) (N := none) #[true, true, true, true, true, true, true, true, true, true, true, true, true, true, true, true, false] rfl rfl (one_of HT_.out (by kernel_rfl)) (by decide) (fun K hK => ?_)
   have hs15 : wD.cell? ⟨w.heap.size + 1, 5, none⟩ = some (.int .i64 0) := (blk_cell HX.out 5).trans rfl
   have hf15 := blk_frozen HX.out 5
   have hn15 := HNE.out
   have hm15 := HNE.out.symm
   refine skip_ (w1 := ?_) (by rfl) rfl ?_ ?_
   rotate_left
   ·go_simp
    rfl
   refine hK.out _ _ ⟨(cell_far (p := ⟨w.heap.size + 1, _, none⟩) HNE.out _).trans (hHeld.1), (cell_far (p := ⟨w.heap.size + 1, _, none⟩) HNE.out _).trans (hHeld.2.1), (cell_far (p := ⟨w.heap.size + 1, _, none⟩) HNE.out _).trans (hHeld.2.2.1), (cell_far (p := ⟨w.heap.size + 1, _, none⟩) HNE.out _).trans (hHeld.2.2.2.1), (cell_far (p := ⟨w.heap.size + 1, _, none⟩) HNE.out _).trans (hHeld.2.2.2.2.1), (cell_far (p := ⟨w.heap.size + 1, _, none⟩) HNE.out _).trans (hHeld.2.2.2.2.2)⟩ (fun hHeld => ?_)
   clear hK K
   refine pS 16 (some 4) HT_ ?_
   refine done_ (done_of HT_.out (by kernel_rfl)) ?_
   have hz0 : wD.cell? ⟨w.heap.size, 0, none⟩ = some (.slice A n c) := (blk_cell HA.out 0).trans rfl
   have hz1 : wD.cell? ⟨w.heap.size, 1, none⟩ = some (.int .i64 4) := (blk_cell HA.out 1).trans rfl
   have hz2 : wD.cell? ⟨w.heap.size, 2, none⟩ = some (.string ky) := (blk_cell HA.out 2).trans rfl
   have hz3 : wD.cell? ⟨w.heap.size, 3, none⟩ = some (.int .i64 wd) := (blk_cell HA.out 3).trans rfl
   have hz4 : wD.cell? ⟨w.heap.size, 4, none⟩ = some (.int .i64 sk) := (blk_cell HA.out 4).trans rfl
   have hz5 : wD.cell? ⟨w.heap.size, 5, none⟩ = some (.int .i64 mo) := (blk_cell HA.out 5).trans rfl
   have hy3 : wD.cell? ⟨w.heap.size + 1, 3, none⟩ = some (.int .i64 0) := (blk_cell HX.out 3).trans rfl
   have hy4 : wD.cell? ⟨w.heap.size + 1, 4, none⟩ = some (.int .i64 0) := (blk_cell HX.out 4).trans rfl
   have hne1 := HNE.out
   have hne2 := HNE.out.symm
   clear hHeld HT_ HW_ HA HX
   all_goals (try go_wp2)
   all_goals (try go_region)
   all_goals (try go_wp2)
   all_goals (try go_region)
   all_goals (try go_wp2)
   all_goals go_ret
   all_goals (refine ⟨?_, by repeat (first | exact HB.out | apply pw_below_drewN | apply below_drew1 | apply below_drew | apply Below.setCell (hp := Nat.le_succ _))⟩)
   all_goals first | refine eB (show true = r from ?_) | refine eB (show false = r from ?_) | refine eB (show (mo == 0) = r from ?_) | refine eB (show decide _ = r from ?_)
   all_goals (have hm := HM.out; rw [← HR.out]; clear HR HB HNE HM; (try clear HK); go_light; (try simp only [bytes_nil] at *); (try unfold rngB))
   all_goals grind
theorem asked_5 (A : Option Addr) (n c : Nat) (ky : ByteArray) (wd sk mo : Int) (w : World) :
  Calls Tryz.prog 60 #[.agg #[.slice A n c, .int .i64 5, .string ky, .int .i64 wd, .int .i64 sk, .int .i64 mo]] w fun e w' => e = .returned (.bool (decide (1 ≤ wd ∧ ky = ⟨#[]⟩ ∧ sk = 0 ∧ mo = 0))) ∧ Below w.heap.size w w' := by
 obtain ⟨r, hr⟩ : ∃ r, (decide (1 ≤ wd ∧ ky = ⟨#[]⟩ ∧ sk = 0 ∧ mo = 0)) = r := ⟨_, rfl⟩
 rw [hr]
 have HR := Aside0.mk hr
 clear hr
 go_enter Tryz.func60, Tryz.ntmps60
 go_wp2_with fail
 all_goals (try go_region)
 all_goals (try go_wp2)
 all_goals (try go_region)
 all_goals (try go_wp2)
 all_goals go_ret
 all_goals (refine ⟨?_, by repeat (first | exact Below.refl _ _ | apply pw_below_drewN | apply below_drew1 | apply below_drew | apply Below.setCell (hp := Nat.le_succ _) | apply below_alloc)⟩)
 all_goals first | refine eB (show true = r from ?_) | refine eB (show false = r from ?_) | refine eB (show (mo == 0) = r from ?_) | refine eB (show decide _ = r from ?_)
 all_goals (rw [← HR.out]; clear HR; (try clear HK); go_light; (try simp only [bytes_nil] at *); (try unfold rngB))
 all_goals grind
theorem asked_6 (A : Option Addr) (n c : Nat) (ky : ByteArray) (wd sk mo : Int) (w : World) :
  Calls Tryz.prog 60 #[.agg #[.slice A n c, .int .i64 6, .string ky, .int .i64 wd, .int .i64 sk, .int .i64 mo]] w fun e w' => e = .returned (.bool (decide (1 ≤ wd ∧ ky = ⟨#[]⟩ ∧ sk = 0 ∧ mo = 0))) ∧ Below w.heap.size w w' := by
 obtain ⟨r, hr⟩ : ∃ r, (decide (1 ≤ wd ∧ ky = ⟨#[]⟩ ∧ sk = 0 ∧ mo = 0)) = r := ⟨_, rfl⟩
 rw [hr]
 have HR := Aside0.mk hr
 clear hr
 go_enter Tryz.func60, Tryz.ntmps60
 go_wp2_with fail
 all_goals (try go_region)
 all_goals (try go_wp2)
 all_goals (try go_region)
 all_goals (try go_wp2)
 all_goals go_ret
 all_goals (refine ⟨?_, by repeat (first | exact Below.refl _ _ | apply pw_below_drewN | apply below_drew1 | apply below_drew | apply Below.setCell (hp := Nat.le_succ _) | apply below_alloc)⟩)
 all_goals first | refine eB (show true = r from ?_) | refine eB (show false = r from ?_) | refine eB (show (mo == 0) = r from ?_) | refine eB (show decide _ = r from ?_)
 all_goals (rw [← HR.out]; clear HR; (try clear HK); go_light; (try simp only [bytes_nil] at *); (try unfold rngB))
 all_goals grind
theorem asked_0 (A : Option Addr) (n c : Nat) (k : Int) (ky : ByteArray) (wd sk mo : Int) (w : World) (h1 : ¬k = 1) (h2 : ¬k = 2) (h3 : ¬k = 3) (h4 : ¬k = 4) (h5 : ¬k = 5) (h6 : ¬k = 6) :
  Calls Tryz.prog 60 #[.agg #[.slice A n c, .int .i64 k, .string ky, .int .i64 wd, .int .i64 sk, .int .i64 mo]] w fun e w' => e = .returned (.bool (false)) ∧ Below w.heap.size w w' := by
 obtain ⟨r, hr⟩ : ∃ r, (false) = r := ⟨_, rfl⟩
 rw [hr]
 have HR := Aside0.mk hr
 clear hr
 go_enter Tryz.func60, Tryz.ntmps60
 go_wp2_with fail
 all_goals go_ret
 all_goals (refine ⟨?_, by repeat (first | exact Below.refl _ _ | apply pw_below_drewN | apply below_drew1 | apply below_drew | apply Below.setCell (hp := Nat.le_succ _) | apply below_alloc)⟩)
 all_goals first | refine eB (show true = r from ?_) | refine eB (show false = r from ?_) | refine eB (show (mo == 0) = r from ?_) | refine eB (show decide _ = r from ?_)
 all_goals exact HR.out
theorem asked_calls (A : Option Addr) (n c : Nat) (k : Int) (ky : ByteArray) (wd sk mo : Int) (w : World) (hs : ky.size ≤ 9223372036854775807) :
  Calls Tryz.prog 60 #[.agg #[.slice A n c, .int .i64 k, .string ky, .int .i64 wd, .int .i64 sk, .int .i64 mo]] w fun e w' => e = .returned (.bool (askedB k ky wd sk mo)) ∧ Below w.heap.size w w' := by
 unfold askedB
 by_cases h1 : k = 1
 ·rw [if_pos h1]; subst h1; exact asked_1 A n c ky wd sk mo w
 rw [if_neg h1]
 by_cases h2 : k = 2
 ·rw [if_pos h2]; subst h2; exact asked_2 A n c ky wd sk mo w
 rw [if_neg h2]
 by_cases h3 : k = 3
 ·rw [if_pos h3]; subst h3; exact asked_3 A n c ky wd sk mo w hs
 rw [if_neg h3]
 by_cases h4 : k = 4
 ·rw [if_pos h4]; subst h4; exact asked_4 A n c ky wd sk mo w hs
 rw [if_neg h4]
 by_cases h5 : k = 5
 ·rw [if_pos (.inl h5)]; subst h5; exact asked_5 A n c ky wd sk mo w
 by_cases h6 : k = 6
 ·rw [if_pos (.inr h6)]; subst h6; exact asked_6 A n c ky wd sk mo w
 rw [if_neg (by omega)]
 exact asked_0 A n c k ky wd sk mo w h1 h2 h3 h4 h5 h6
end Go.Proofs.YtehaodbheifokaaGreatDoor.P
end
