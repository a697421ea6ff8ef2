/- Joined by wip/tools/pack.py, pruned: LeafE20. -/
import Derived.Test.YtehaodbheifokaaGreatDoorMs14
import Derived.Test.YtehaodbheifokaaGreatDoorMs23
set_option maxHeartbeats 8000000
set_option maxRecDepth 100000
set_option linter.unusedVariables false
set_option linter.unusedSimpArgs false
section
namespace Go.Proofs.YtehaodbheifokaaGreatDoor.P
open Go Go.RowKit Go.Proofs.YtehaodbheifokaaGreatDoorW.PrintWords Go.Proofs.YtehaodbheifokaaGreatDoorW.PrintLast Go.Proofs.YtehaodbheifokaaGreatDoorW.PrintMore
attribute [local go_sem] max2_int min2_int max_two min_two
def match_leafE.T18 : Bool × List (List Nat × List Nat) := (true, [([], []), ([0], [0]), ([], []), ([2], [2]), ([1, 3], [1, 3]), ([4, 1, 0, 1, 2, 3, 4], [4])])
def match_leafE.B18 : List Nat := [0, 1, 0, 4, 15, 31]
theorem match_leafE.tab18 : rtab .any (opsOf Tryz.f64 18) = match_leafE.T18 := by kernel_rfl
theorem match_leafE.bits18 : waitsOk match_leafE.T18.2 match_leafE.B18 = true := by kernel_rfl
theorem upB {W W' : World} (hb : Below W.heap.size W W') {p : Addr} {v : Value} (h : W.cell? p = some v) : W'.cell? p = some v := pw_cell_below hb h
theorem leafG_equal (l : List Int) (A : Option Addr) (c R : Nat) (s t : Int) (bc : Bool) (vt : Value) (a b : Int) (tx4 : ByteArray) (A4 : Option Addr) (n4 c4 : Nat) (key kk tx : ByteArray) (lo hi kd n : Int) (fb : Bool) (sh : ByteArray) (k : Nat) (w : World) (hX : FieldIn w) (hC : (Kd.int .u8).C w A l.length l) (hc : l.length ≤ c)
  (hR : w.heap[R]? = some (.cells (rdrC s t (.slice A l.length c) bc vt) 106 (0, 0))) (hsh : field_Show.f kk kd n tx = some sh) (hf : field_Get.f k l key = some (kk, kd, n, tx, fb)) :
  Calls Tryz.prog 64 #[.pointer (some ⟨R, 0, none⟩), .agg (#[.int .i64 6, .int .i64 a, .int .i64 b, .string tx4, .slice A4 n4 c4, .string key, .int .i64 lo, .int .i64 hi])] w fun e w' => e = .returned (.bool (fb && decide (sh = tx4))) ∧ Below w.heap.size w w' := by
 obtain ⟨r, hr⟩ : ∃ r, (fb && decide (sh = tx4)) = r := ⟨_, rfl⟩
 rw [hr]
 have HR := Aside0.mk hr
 clear hr
 have hB := blk_alloc hR (.cells (#[.int .i64 6, .int .i64 a, .int .i64 b, .string tx4, .slice A4 n4 c4, .string key, .int .i64 lo, .int .i64 hi]) 37)
 have r2 : (w.alloc (.cells (#[.int .i64 6, .int .i64 a, .int .i64 b, .string tx4, .slice A4 n4 c4, .string key, .int .i64 lo, .int .i64 hi]) 37)).cell? ⟨R, 2, none⟩ = some (.slice A l.length c) := (blk_cell hB 2).trans rfl
 have r3 : ((w.alloc (.cells (#[.int .i64 6, .int .i64 a, .int .i64 b, .string tx4, .slice A4 n4 c4, .string key, .int .i64 lo, .int .i64 hi]) 37)).alloc (Obj.cells #[.string ⟨#[]⟩, .int .i64 0, .int .i64 0, .string ⟨#[]⟩] 110)).cell? ⟨R, 2, none⟩ = some (.slice A l.length c) := (blk_cell (blk_alloc hB _) 2).trans rfl
 have q3 : ((w.alloc (.cells (#[.int .i64 6, .int .i64 a, .int .i64 b, .string tx4, .slice A4 n4 c4, .string key, .int .i64 lo, .int .i64 hi]) 37)).alloc (Obj.cells #[.string ⟨#[]⟩, .int .i64 0, .int .i64 0, .string ⟨#[]⟩] 110)).cell? ⟨w.heap.size, 5, none⟩ = some (.string key) := (blk_cell (blk_alloc (blk_new w _) _) 5).trans rfl
 have hb0 : Below w.heap.size w (w.alloc (.cells (#[.int .i64 6, .int .i64 a, .int .i64 b, .string tx4, .slice A4 n4 c4, .string key, .int .i64 lo, .int .i64 hi]) 37)) := below_alloc (Below.refl _ _) _
 have HSH := Aside0.mk (fun (W : World) (hW : Below w.heap.size w W) => field_Show.calls kk kd n tx sh W hsh (hX.below hW))
 clear hsh
 have HC := Aside0.mk (fun (W : World) (hW : Below w.heap.size w W) => field_Get.calls k A c l key kk kd n tx fb W (Kd.C_below hC hW) hc hf (hX.below hW))
 have BZ := Aside0.mk (show ((w.alloc (.cells (#[.int .i64 6, .int .i64 a, .int .i64 b, .string tx4, .slice A4 n4 c4, .string key, .int .i64 lo, .int .i64 hi]) 37)).alloc (Obj.cells #[.string ⟨#[]⟩, .int .i64 0, .int .i64 0, .string ⟨#[]⟩] 110)).heap[w.heap.size + 1]? = some (.cells #[.string ⟨#[]⟩, .int .i64 0, .int .i64 0, .string ⟨#[]⟩] 110 (0, 0)) by have h := blk_new (w.alloc (.cells (#[.int .i64 6, .int .i64 a, .int .i64 b, .string tx4, .slice A4 n4 c4, .string key, .int .i64 lo, .int .i64 hi]) 37)) (Obj.cells #[.string ⟨#[]⟩, .int .i64 0, .int .i64 0, .string ⟨#[]⟩] 110); rw [World.size_alloc] at h; exact h)
 have BX := Aside0.mk (blk_new w (.cells (#[.int .i64 6, .int .i64 a, .int .i64 b, .string tx4, .slice A4 n4 c4, .string key, .int .i64 lo, .int .i64 hi]) 37))
 have HB0 := Aside0.mk hb0
 clear hB hR hC hX hf hb0
 go_enter Tryz.func64, Tryz.ntmps64
 go_wp2_with fail
 go_region_with (go_at_call 72; refine (HC.out _ bel5).mono ?_; rintro e w1 ⟨rfl, hb1⟩; have HB1 := Aside0.mk (below_step (show Below w.heap.size w _ from bel5) hb1); have bb := blk_below (blk_below BX.out bel5) hb1; have b1 : w1.cell? ⟨w.heap.size, 0, none⟩ = some (.int .i64 6) := (blk_cell bb 0).trans rfl; have b2 : w1.cell? ⟨w.heap.size, 6, none⟩ = some (.int .i64 lo) := (blk_cell bb 6).trans rfl; have BB := Aside0.mk bb; clear bb; (first | (have bz : w1.heap[w.heap.size + 1]? = some (.cells #[.string ⟨#[]⟩, .int .i64 0, .int .i64 0, .string ⟨#[]⟩] 110 (0, 0)) := (hb1.block (w.heap.size + 1) (by simp)).trans BZ.out; have e0 : w1.cell? ⟨w.heap.size + 1, 0, none⟩ = some (.string ⟨#[]⟩) := (blk_cell bz 0).trans rfl; have f0 : w1.frozen? ⟨w.heap.size + 1, 0, none⟩ = false := blk_frozen bz 0; have e1 : w1.cell? ⟨w.heap.size + 1, 1, none⟩ = some (.int .i64 0) := (blk_cell bz 1).trans rfl; have f1 : w1.frozen? ⟨w.heap.size + 1, 1, none⟩ = false := blk_frozen bz 1; have e2 : w1.cell? ⟨w.heap.size + 1, 2, none⟩ = some (.int .i64 0) := (blk_cell bz 2).trans rfl; have f2 : w1.frozen? ⟨w.heap.size + 1, 2, none⟩ = false := blk_frozen bz 2; have e3 : w1.cell? ⟨w.heap.size + 1, 3, none⟩ = some (.string ⟨#[]⟩) := (blk_cell bz 3).trans rfl; have f3 : w1.frozen? ⟨w.heap.size + 1, 3, none⟩ = false := blk_frozen bz 3; have BZ1 := Aside0.mk bz; clear bz) | (have g00 : (w1.alloc (Obj.cells #[.string ⟨#[]⟩, .int .i64 0, .int .i64 0, .string ⟨#[]⟩] 110)).cell? ⟨w.heap.size, 0, none⟩ = some (.int .i64 6) := (blk_cell (blk_alloc BB.out _) 0).trans rfl; have g06 : (w1.alloc (Obj.cells #[.string ⟨#[]⟩, .int .i64 0, .int .i64 0, .string ⟨#[]⟩] 110)).cell? ⟨w.heap.size, 6, none⟩ = some (.int .i64 lo) := (blk_cell (blk_alloc BB.out _) 6).trans rfl; have g10 : (w1.alloc (Obj.cells #[.string kk, .int .i64 kd, .int .i64 n, .string tx] 110)).cell? ⟨w.heap.size, 0, none⟩ = some (.int .i64 6) := (blk_cell (blk_alloc BB.out _) 0).trans rfl; have g16 : (w1.alloc (Obj.cells #[.string kk, .int .i64 kd, .int .i64 n, .string tx] 110)).cell? ⟨w.heap.size, 6, none⟩ = some (.int .i64 lo) := (blk_cell (blk_alloc BB.out _) 6).trans rfl; have bz := blk_new w1 (Obj.cells #[.string ⟨#[]⟩, .int .i64 0, .int .i64 0, .string ⟨#[]⟩] 110); have e0 : (w1.alloc (Obj.cells #[.string ⟨#[]⟩, .int .i64 0, .int .i64 0, .string ⟨#[]⟩] 110)).cell? ⟨w1.heap.size, 0, none⟩ = some (.string ⟨#[]⟩) := (blk_cell bz 0).trans rfl; have f0 : (w1.alloc (Obj.cells #[.string ⟨#[]⟩, .int .i64 0, .int .i64 0, .string ⟨#[]⟩] 110)).frozen? ⟨w1.heap.size, 0, none⟩ = false := blk_frozen bz 0; have e1 : (w1.alloc (Obj.cells #[.string ⟨#[]⟩, .int .i64 0, .int .i64 0, .string ⟨#[]⟩] 110)).cell? ⟨w1.heap.size, 1, none⟩ = some (.int .i64 0) := (blk_cell bz 1).trans rfl; have f1 : (w1.alloc (Obj.cells #[.string ⟨#[]⟩, .int .i64 0, .int .i64 0, .string ⟨#[]⟩] 110)).frozen? ⟨w1.heap.size, 1, none⟩ = false := blk_frozen bz 1; have e2 : (w1.alloc (Obj.cells #[.string ⟨#[]⟩, .int .i64 0, .int .i64 0, .string ⟨#[]⟩] 110)).cell? ⟨w1.heap.size, 2, none⟩ = some (.int .i64 0) := (blk_cell bz 2).trans rfl; have f2 : (w1.alloc (Obj.cells #[.string ⟨#[]⟩, .int .i64 0, .int .i64 0, .string ⟨#[]⟩] 110)).frozen? ⟨w1.heap.size, 2, none⟩ = false := blk_frozen bz 2; have e3 : (w1.alloc (Obj.cells #[.string ⟨#[]⟩, .int .i64 0, .int .i64 0, .string ⟨#[]⟩] 110)).cell? ⟨w1.heap.size, 3, none⟩ = some (.string ⟨#[]⟩) := (blk_cell bz 3).trans rfl; have f3 : (w1.alloc (Obj.cells #[.string ⟨#[]⟩, .int .i64 0, .int .i64 0, .string ⟨#[]⟩] 110)).frozen? ⟨w1.heap.size, 3, none⟩ = false := blk_frozen bz 3; clear bz)); clear hb1)
 all_goals (cases fb)
 all_goals (go_wp2_with fail)
 all_goals first
  | (go_ret; refine ⟨?_, by repeat (first | apply Below.setCell (hp := Nat.le_succ _) | apply pw_below_drewN | apply below_drew | apply below_alloc | exact HB1.out)⟩; refine eB (show false = r from ?_); rw [← HR.out]; rfl)
  | skip
 all_goals first
  | (
    have hBZ1 := BZ1.out
    have HBW := Aside0.mk (show Below w.heap.size w ((((w1.setCell ⟨w.heap.size + 1, 0, none⟩ (.string kk)).setCell ⟨w.heap.size + 1, 1, none⟩ (.int .i64 kd)).setCell ⟨w.heap.size + 1, 2, none⟩ (.int .i64 n)).setCell ⟨w.heap.size + 1, 3, none⟩ (.string tx)) from (by repeat (first | apply Below.setCell (hp := Nat.le_succ _) | apply below_alloc | exact HB1.out)))
    have hT0 : ((((w1.setCell ⟨w.heap.size + 1, 0, none⟩ (.string kk)).setCell ⟨w.heap.size + 1, 1, none⟩ (.int .i64 kd)).setCell ⟨w.heap.size + 1, 2, none⟩ (.int .i64 n)).setCell ⟨w.heap.size + 1, 3, none⟩ (.string tx)).cell? ⟨w.heap.size, 3, none⟩ = some (.string tx4) := (blk_cell (blk_far (blk_far (blk_far (blk_far BB.out (by show w.heap.size ≠ w.heap.size + 1; omega) _) (by show w.heap.size ≠ w.heap.size + 1; omega) _) (by show w.heap.size ≠ w.heap.size + 1; omega) _) (by show w.heap.size ≠ w.heap.size + 1; omega) _) 3).trans rfl
    have hFB : ((((w1.setCell ⟨w.heap.size + 1, 0, none⟩ (.string kk)).setCell ⟨w.heap.size + 1, 1, none⟩ (.int .i64 kd)).setCell ⟨w.heap.size + 1, 2, none⟩ (.int .i64 n)).setCell ⟨w.heap.size + 1, 3, none⟩ (.string tx)).heap[w.heap.size + 1]? = some (.cells #[.string kk, .int .i64 kd, .int .i64 n, .string tx] 110 (0, 0)) := blk_put (blk_put (blk_put (blk_put BZ1.out 0 _ rfl) 1 _ rfl) 2 _ rfl) 3 _ rfl
    have hF0 : ((((w1.setCell ⟨w.heap.size + 1, 0, none⟩ (.string kk)).setCell ⟨w.heap.size + 1, 1, none⟩ (.int .i64 kd)).setCell ⟨w.heap.size + 1, 2, none⟩ (.int .i64 n)).setCell ⟨w.heap.size + 1, 3, none⟩ (.string tx)).cell? ⟨w.heap.size + 1, 0, none⟩ = some (.string kk) := (blk_cell hFB 0).trans rfl
    have hF1 : ((((w1.setCell ⟨w.heap.size + 1, 0, none⟩ (.string kk)).setCell ⟨w.heap.size + 1, 1, none⟩ (.int .i64 kd)).setCell ⟨w.heap.size + 1, 2, none⟩ (.int .i64 n)).setCell ⟨w.heap.size + 1, 3, none⟩ (.string tx)).cell? ⟨w.heap.size + 1, 1, none⟩ = some (.int .i64 kd) := (blk_cell hFB 1).trans rfl
    have hF2 : ((((w1.setCell ⟨w.heap.size + 1, 0, none⟩ (.string kk)).setCell ⟨w.heap.size + 1, 1, none⟩ (.int .i64 kd)).setCell ⟨w.heap.size + 1, 2, none⟩ (.int .i64 n)).setCell ⟨w.heap.size + 1, 3, none⟩ (.string tx)).cell? ⟨w.heap.size + 1, 2, none⟩ = some (.int .i64 n) := (blk_cell hFB 2).trans rfl
    have hF3 : ((((w1.setCell ⟨w.heap.size + 1, 0, none⟩ (.string kk)).setCell ⟨w.heap.size + 1, 1, none⟩ (.int .i64 kd)).setCell ⟨w.heap.size + 1, 2, none⟩ (.int .i64 n)).setCell ⟨w.heap.size + 1, 3, none⟩ (.string tx)).cell? ⟨w.heap.size + 1, 3, none⟩ = some (.string tx) := (blk_cell hFB 3).trans rfl
    refine start_ (n := 6) (S := fun w' => w'.cell? ⟨w.heap.size, 3, none⟩ = some (.string tx4) ∧ w'.cell? ⟨w.heap.size + 1, 0, none⟩ = some (.string kk) ∧ w'.cell? ⟨w.heap.size + 1, 1, none⟩ = some (.int .i64 kd) ∧ w'.cell? ⟨w.heap.size + 1, 2, none⟩ = some (.int .i64 n) ∧ w'.cell? ⟨w.heap.size + 1, 3, none⟩ = some (.string tx)) (ds := []) #[false, false, false, false, false, false] (by kernel_rfl) rfl rfl ⟨hT0, hF0, hF1, hF2, hF3⟩ (fun hHeld => ?_)
    refine with_tabW match_leafE.tab18 match_leafE.bits18 (fun HT_ HW_ => ?_)
    refine tS 0 (some 79) HT_ HW_ hHeld ?_
    refine pS 2 (some 81) HT_ ?_
    refine tS 3 (some 82) HT_ HW_ hHeld ?_
    refine one_ (i := 1) (N := some 80) #[true, true, true, true, false, false] rfl rfl (one_of HT_.out (by kernel_rfl)) (by decide) (fun K hK => ?_)
    refine goes_ Tryz.func73 (by kernel_rfl) rfl #[.agg #[.string kk, .int .i64 kd, .int .i64 n, .string tx]] (by rfl) rfl rfl (by (try simp only [List.map_toArray, List.map_cons, List.map_nil]); first | done | rfl) ?_
    refine (HSH.out _ (below_drew HBW.out)).mono ?_
    rintro e w2 ⟨rfl, hb2⟩
    refine ⟨_, rfl, ?_⟩
    refine hK.out _ _ ⟨upB hb2 hHeld.1, upB hb2 hHeld.2.1, upB hb2 hHeld.2.2.1, upB hb2 hHeld.2.2.2.1, upB hb2 hHeld.2.2.2.2⟩ (fun hHeld => ?_)
    clear hK K
    refine norm_ (a' := ?_) ?_ ?_
    rotate_left
    ·show Act.put _ (some 80) _ = _
     simp only [Act.put, List.setIfInBounds_toArray, List.set_cons_zero, List.set_cons_succ, i64_w, i32_w]
     rfl
    refine pS 4 (some 83) HT_ ?_
    refine pS 5 (some 4) HT_ ?_
    refine done_ (done_of HT_.out (by kernel_rfl)) ?_
    have HB2 := Aside0.mk (below_step (below_drew HBW.out) hb2)
    clear hHeld HT_ HW_ hb2
    by_cases hst : sh = tx4
    ·have c1 : (sh.toList == tx4.toList) = true := by rw [hst]; exact beq_self_eq_true _
     go_wp2_with fail
     go_ret
     refine ⟨?_, HB2.out⟩
     refine eB (show _ = r from ?_)
     rw [← HR.out]; simp [hst]
    ·have c1 : (sh.toList == tx4.toList) = false := beq_eq_false_iff_ne.2 (fun h => hst (bytes_inj0.1 h))
     go_wp2_with fail
     go_ret
     refine ⟨?_, HB2.out⟩
     refine eB (show _ = r from ?_)
     rw [← HR.out]; first | (simp [hst]; done) | (simp [hst]; exact fun h => hst (bytes_inj0.1 h))
   )
  | (
    have HBW := Aside0.mk (show Below w.heap.size w (w1.alloc (Obj.cells #[.string kk, .int .i64 kd, .int .i64 n, .string tx] 110)) from (by repeat (first | apply Below.setCell (hp := Nat.le_succ _) | apply below_alloc | exact HB1.out)))
    have hT0 : (w1.alloc (Obj.cells #[.string kk, .int .i64 kd, .int .i64 n, .string tx] 110)).cell? ⟨w.heap.size, 3, none⟩ = some (.string tx4) := (blk_cell (blk_alloc BB.out _) 3).trans rfl
    have hF0 : (w1.alloc (Obj.cells #[.string kk, .int .i64 kd, .int .i64 n, .string tx] 110)).cell? ⟨w1.heap.size, 0, none⟩ = some (.string kk) := (blk_cell (blk_new w1 _) 0).trans rfl
    have hF1 : (w1.alloc (Obj.cells #[.string kk, .int .i64 kd, .int .i64 n, .string tx] 110)).cell? ⟨w1.heap.size, 1, none⟩ = some (.int .i64 kd) := (blk_cell (blk_new w1 _) 1).trans rfl
    have hF2 : (w1.alloc (Obj.cells #[.string kk, .int .i64 kd, .int .i64 n, .string tx] 110)).cell? ⟨w1.heap.size, 2, none⟩ = some (.int .i64 n) := (blk_cell (blk_new w1 _) 2).trans rfl
    have hF3 : (w1.alloc (Obj.cells #[.string kk, .int .i64 kd, .int .i64 n, .string tx] 110)).cell? ⟨w1.heap.size, 3, none⟩ = some (.string tx) := (blk_cell (blk_new w1 _) 3).trans rfl
    refine start_ (n := 6) (S := fun w' => w'.cell? ⟨w.heap.size, 3, none⟩ = some (.string tx4) ∧ w'.cell? ⟨w1.heap.size, 0, none⟩ = some (.string kk) ∧ w'.cell? ⟨w1.heap.size, 1, none⟩ = some (.int .i64 kd) ∧ w'.cell? ⟨w1.heap.size, 2, none⟩ = some (.int .i64 n) ∧ w'.cell? ⟨w1.heap.size, 3, none⟩ = some (.string tx)) (ds := []) #[false, false, false, false, false, false] (by kernel_rfl) rfl rfl ⟨hT0, hF0, hF1, hF2, hF3⟩ (fun hHeld => ?_)
    refine with_tabW match_leafE.tab18 match_leafE.bits18 (fun HT_ HW_ => ?_)
    refine tS 0 (some 79) HT_ HW_ hHeld ?_
    refine pS 2 (some 81) HT_ ?_
    refine tS 3 (some 82) HT_ HW_ hHeld ?_
    refine one_ (i := 1) (N := some 80) #[true, true, true, true, false, false] rfl rfl (one_of HT_.out (by kernel_rfl)) (by decide) (fun K hK => ?_)
    refine goes_ Tryz.func73 (by kernel_rfl) rfl #[.agg #[.string kk, .int .i64 kd, .int .i64 n, .string tx]] (by rfl) rfl rfl (by (try simp only [List.map_toArray, List.map_cons, List.map_nil]); first | done | rfl) ?_
    refine (HSH.out _ (below_drew HBW.out)).mono ?_
    rintro e w2 ⟨rfl, hb2⟩
    refine ⟨_, rfl, ?_⟩
    refine hK.out _ _ ⟨upB hb2 hHeld.1, upB hb2 hHeld.2.1, upB hb2 hHeld.2.2.1, upB hb2 hHeld.2.2.2.1, upB hb2 hHeld.2.2.2.2⟩ (fun hHeld => ?_)
    clear hK K
    refine norm_ (a' := ?_) ?_ ?_
    rotate_left
    ·show Act.put _ (some 80) _ = _
     simp only [Act.put, List.setIfInBounds_toArray, List.set_cons_zero, List.set_cons_succ, i64_w, i32_w]
     rfl
    refine pS 4 (some 83) HT_ ?_
    refine pS 5 (some 4) HT_ ?_
    refine done_ (done_of HT_.out (by kernel_rfl)) ?_
    have HB2 := Aside0.mk (below_step (below_drew HBW.out) hb2)
    clear hHeld HT_ HW_ hb2
    by_cases hst : sh = tx4
    ·have c1 : (sh.toList == tx4.toList) = true := by rw [hst]; exact beq_self_eq_true _
     go_wp2_with fail
     go_ret
     refine ⟨?_, HB2.out⟩
     refine eB (show _ = r from ?_)
     rw [← HR.out]; simp [hst]
    ·have c1 : (sh.toList == tx4.toList) = false := beq_eq_false_iff_ne.2 (fun h => hst (bytes_inj0.1 h))
     go_wp2_with fail
     go_ret
     refine ⟨?_, HB2.out⟩
     refine eB (show _ = r from ?_)
     rw [← HR.out]; first | (simp [hst]; done) | (simp [hst]; exact fun h => hst (bytes_inj0.1 h))
   )
end Go.Proofs.YtehaodbheifokaaGreatDoor.P
end
