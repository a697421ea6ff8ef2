/- Joined by wip/tools/pack.py, pruned: P3. -/
import Derived.Test.YtehaodbheifokaaGreatDoorMs15
set_option maxHeartbeats 8000000
set_option maxRecDepth 100000
set_option linter.unusedVariables false
set_option linter.unusedSimpArgs false
section
namespace Go.Proofs.YtehaodbheifokaaGreatDoor.P
open Go.RowKit Go.Proofs.YtehaodbheifokaaGreatDoorW.PrintWords Go.Proofs.YtehaodbheifokaaGreatDoorW.PrintLast Go.Proofs.YtehaodbheifokaaGreatDoorW.PrintMore
attribute [local go_sem] max2_int min2_int max_two min_two max_three min_three max_four min_four  
mutual
def dragnetref19_Same.j0 : Nat → Bool → List (S37) → Int → ByteArray → Int → Int → Int → List (S37) → Int → ByteArray → Int → Int → Int → Option (Bool)
 | 0, _, _, _, _, _, _, _, _, _, _, _, _, _ => none
 | k + 1, x47, x158000, x158001, x158002, x158003, x158004, x158005, x159000, x159001, x159002, x159003, x159004, x159005 => if x47 = true then (some false) else (dragnetref19_Same.l0 k 0 x158000 x158001 x158002 x158003 x158004 x158005 x159000 x159001 x159002 x159003 x159004 x159005)
def dragnetref19_Same.l0 : Nat → Int → List (S37) → Int → ByteArray → Int → Int → Int → List (S37) → Int → ByteArray → Int → Int → Int → Option (Bool)
 | 0, _, _, _, _, _, _, _, _, _, _, _, _, _ => none
 | k + 1, x5, x158000, x158001, x158002, x158003, x158004, x158005, x159000, x159001, x159002, x159003, x159004, x159005 => if x5 < (x158000.length : Int) then (if 0 ≤ x5 then (if x5 < (x159000.length : Int) then ((dragnetref19_SameNode.f k ((rd_T37 x158000 x5).f0) ((rd_T37 x158000 x5).f1) ((rd_T37 x158000 x5).f2) ((rd_T37 x158000 x5).f3) ((rd_T37 x158000 x5).f4) ((rd_T37 x158000 x5).f5) ((rd_T37 x158000 x5).f6) ((rd_T37 x158000 x5).f7) ((rd_T37 x159000 x5).f0) ((rd_T37 x159000 x5).f1) ((rd_T37 x159000 x5).f2) ((rd_T37 x159000 x5).f3) ((rd_T37 x159000 x5).f4) ((rd_T37 x159000 x5).f5) ((rd_T37 x159000 x5).f6) ((rd_T37 x159000 x5).f7)).bind fun t161 => (if t161 = true then (dragnetref19_Same.l0 k (wrap64 (x5 + 1)) x158000 x158001 x158002 x158003 x158004 x158005 x159000 x159001 x159002 x159003 x159004 x159005) else (some false))) else (none)) else (none)) else (some true)
end
def dragnetref19_Same.f (k : Nat) (l0_0 : List (S37)) (a0_1 : Int) (a0_2 : ByteArray) (a0_3 : Int) (a0_4 : Int) (a0_5 : Int) (l1_0 : List (S37)) (a1_1 : Int) (a1_2 : ByteArray) (a1_3 : Int) (a1_4 : Int) (a1_5 : Int) : Option (Bool) := if a0_1 = a1_1 then (if a0_2.toList = a1_2.toList then (if a0_3 = a1_3 then (if a0_4 = a1_4 then (if a0_5 = a1_5 then (dragnetref19_Same.j0 k ((l0_0.length : Int) != (l1_0.length : Int)) l0_0 a0_1 a0_2 a0_3 a0_4 a0_5 l1_0 a1_1 a1_2 a1_3 a1_4 a1_5) else (dragnetref19_Same.j0 k true l0_0 a0_1 a0_2 a0_3 a0_4 a0_5 l1_0 a1_1 a1_2 a1_3 a1_4 a1_5)) else (dragnetref19_Same.j0 k true l0_0 a0_1 a0_2 a0_3 a0_4 a0_5 l1_0 a1_1 a1_2 a1_3 a1_4 a1_5)) else (dragnetref19_Same.j0 k true l0_0 a0_1 a0_2 a0_3 a0_4 a0_5 l1_0 a1_1 a1_2 a1_3 a1_4 a1_5)) else (dragnetref19_Same.j0 k true l0_0 a0_1 a0_2 a0_3 a0_4 a0_5 l1_0 a1_1 a1_2 a1_3 a1_4 a1_5)) else (dragnetref19_Same.j0 k true l0_0 a0_1 a0_2 a0_3 a0_4 a0_5 l1_0 a1_1 a1_2 a1_3 a1_4 a1_5)
def dragnetref19_Same.T6 : Bool × List (List Nat × List Nat) := (true, [([], []), ([0], [0]), ([], []), ([1, 2], [1, 2]), ([3], [3]), ([], []), ([5], [5]), ([], []), ([6, 7], [6, 7]), ([8], [8]), ([4, 9], [4, 9]), ([10], [10])])
def dragnetref19_Same.B6 : List Nat := [0, 1, 0, 7, 15, 0, 32, 0, 224, 480, 1023, 2047]
theorem dragnetref19_Same.tab6 : rtab .any (opsOf Tryz.f26 6) = dragnetref19_Same.T6 := by kernel_rfl
theorem dragnetref19_Same.bits6 : waitsOk dragnetref19_Same.T6.2 dragnetref19_Same.B6 = true := by kernel_rfl
theorem dragnetref19_Same.calls (k : Nat) (A0_0 : Option Addr) (c0_0 : Nat) (l0_0 : List (S37)) (a0_1 : Int) (a0_2 : ByteArray) (a0_3 : Int) (a0_4 : Int) (a0_5 : Int) (A1_0 : Option Addr) (c1_0 : Nat) (l1_0 : List (S37)) (a1_1 : Int) (a1_2 : ByteArray) (a1_3 : Int) (a1_4 : Int) (a1_5 : Int) (r : Bool) (w : World) (hr0_0 : Kd.C k37 w A0_0 l0_0.length l0_0) (hc0_0 : l0_0.length ≤ c0_0) (hr1_0 : Kd.C k37 w A1_0 l1_0.length l1_0) (hc1_0 : l1_0.length ≤ c1_0) (h : dragnetref19_Same.f k l0_0 a0_1 a0_2 a0_3 a0_4 a0_5 l1_0 a1_1 a1_2 a1_3 a1_4 a1_5 = some r) :
  Calls Tryz.prog 26 #[.agg #[.slice A0_0 l0_0.length c0_0, .int .i64 a0_1, .string a0_2, .int .i64 a0_3, .int .i64 a0_4, .int .i64 a0_5], .agg #[.slice A1_0 l1_0.length c1_0, .int .i64 a1_1, .string a1_2, .int .i64 a1_3, .int .i64 a1_4, .int .i64 a1_5]] w fun e w' => e = .returned (.bool r) ∧ Below w.heap.size w w' := by
 have hu24 := Tryz.underlying24
 have hu37 := Tryz.underlying37
 have HR0_0 := Aside0.mk hr0_0
 have HC0_0 := Aside0.mk hc0_0
 clear hr0_0 hc0_0
 have HR1_0 := Aside0.mk hr1_0
 have HC1_0 := Aside0.mk hc1_0
 clear hr1_0 hc1_0
 have HB := Aside0.mk (Below.refl w.heap.size w)
 have H : (if a0_1 = a1_1 then (if a0_2.toList = a1_2.toList then (if a0_3 = a1_3 then (if a0_4 = a1_4 then (if a0_5 = a1_5 then (dragnetref19_Same.j0 k ((l0_0.length : Int) != (l1_0.length : Int)) l0_0 a0_1 a0_2 a0_3 a0_4 a0_5 l1_0 a1_1 a1_2 a1_3 a1_4 a1_5) else (dragnetref19_Same.j0 k true l0_0 a0_1 a0_2 a0_3 a0_4 a0_5 l1_0 a1_1 a1_2 a1_3 a1_4 a1_5)) else (dragnetref19_Same.j0 k true l0_0 a0_1 a0_2 a0_3 a0_4 a0_5 l1_0 a1_1 a1_2 a1_3 a1_4 a1_5)) else (dragnetref19_Same.j0 k true l0_0 a0_1 a0_2 a0_3 a0_4 a0_5 l1_0 a1_1 a1_2 a1_3 a1_4 a1_5)) else (dragnetref19_Same.j0 k true l0_0 a0_1 a0_2 a0_3 a0_4 a0_5 l1_0 a1_1 a1_2 a1_3 a1_4 a1_5)) else (dragnetref19_Same.j0 k true l0_0 a0_1 a0_2 a0_3 a0_4 a0_5 l1_0 a1_1 a1_2 a1_3 a1_4 a1_5)) = some r := h
 clear h
 have HC3 := Aside0.mk H
 clear H
 go_enter Tryz.func26, Tryz.ntmps26
 go_upto_region 1 with (first | ((with_reducible refine gate_dst (N := 2) rfl ?_); (try (refine gate_guard (by rfl) ?_; dsimp only)); refine box_event ?hg (N := 2) ?hd (cs := #[.slice A0_0 l0_0.length c0_0, .int .i64 a0_1, .string a0_2, .int .i64 a0_3, .int .i64 a0_4, .int .i64 a0_5]) (t := 24) ?hr ?_; (case hd => rfl); (case hg => rfl); (case hr => first | (go_simp; done) | (go_simp; rfl) | (go_simp; simp only [wAl, wAr, wSl, wSr, wW])); intro gb157 hg w4 hbox hb; have n0_ := bsA HB hb; have n1_ := Aside0.mk (hbox); have n2_ := szA HB hg; have n3_ := szA HB hg; clear HB; have HB := n0_; have BK157 := n1_; have GW157 := n2_; have GE157 := n3_; clear n0_ n1_ n2_ n3_; clear hb hbox hg) | ((with_reducible refine gate_dst (N := 3) rfl ?_); (try (refine gate_guard (by rfl) ?_; dsimp only)); refine box_event ?hg (N := 3) ?hd (cs := #[.slice A1_0 l1_0.length c1_0, .int .i64 a1_1, .string a1_2, .int .i64 a1_3, .int .i64 a1_4, .int .i64 a1_5]) (t := 24) ?hr ?_; (case hd => rfl); (case hg => rfl); (case hr => first | (go_simp; done) | (go_simp; rfl) | (go_simp; simp only [wAl, wAr, wSl, wSr, wW])); intro gb158 hg w5 hbox hb; have n0_ := bkA BK157 hb; have n1_ := bsA HB hb; have n2_ := Aside0.mk (hbox); have n3_ := szA HB hg; have n4_ := szA HB hg; have n5_ := neA BK157 hg; have n6_ := neB BK157 hg; clear BK157; clear HB; have BK157 := n0_; have HB := n1_; have BK158 := n2_; have GW158 := n3_; have GE158 := n4_; have NB157_158 := n5_; have NB158_157 := n6_; clear n0_ n1_ n2_ n3_ n4_ n5_ n6_; clear hb hbox hg))
 (try simp only [Act.put, List.setIfInBounds_toArray, List.set_cons_zero, List.set_cons_succ])
 go_cut [47] (fun v47 wc => ∃ (kq : Nat) (x47_2 : Bool), v47 = .bool x47_2 ∧ Aside0 (dragnetref19_Same.j0 kq x47_2 l0_0 a0_1 a0_2 a0_3 a0_4 a0_5 l1_0 a1_1 a1_2 a1_3 a1_4 a1_5 = some r) ∧ Aside0 (kq ≤ k) ∧ Aside0 (wc.heap[gb157]? = some (.cells #[(.slice A0_0 l0_0.length c0_0), .int .i64 a0_1, .string a0_2, .int .i64 a0_3, .int .i64 a0_4, .int .i64 a0_5] 24 (0, 0))) ∧ Aside0 (wc.heap[gb158]? = some (.cells #[(.slice A1_0 l1_0.length c1_0), .int .i64 a1_1, .string a1_2, .int .i64 a1_3, .int .i64 a1_4, .int .i64 a1_5] 24 (0, 0))) ∧ Aside0 (Below w.heap.size w wc))
 case first =>
  have H := HC3.out
  clear HC3
  by_cases c6 : a0_1 = a1_1
  ·rw [if_pos c6] at H
   have c6b0 : (a0_1 == a1_1) = true := beq_iff_eq.mpr c6
   have c6b1 : (a0_1 != a1_1) = false := bne_eq_false_iff_eq.mpr c6
   clear c6
   (first | rw [c6b0] | (simp only [i64_w, i32_w]; rw [c6b0]) | skip)
   by_cases c7 : a0_2.toList = a1_2.toList
   ·rw [if_pos c7] at H
    have c7b0 : (a0_2.toList == a1_2.toList) = true := beq_iff_eq.mpr c7
    have c7b1 : (a0_2.toList != a1_2.toList) = false := bne_eq_false_iff_eq.mpr c7
    clear c7
    by_cases c8 : a0_3 = a1_3
    ·rw [if_pos c8] at H
     have c8b0 : (a0_3 == a1_3) = true := beq_iff_eq.mpr c8
     have c8b1 : (a0_3 != a1_3) = false := bne_eq_false_iff_eq.mpr c8
     clear c8
     by_cases c9 : a0_4 = a1_4
     ·rw [if_pos c9] at H
      have c9b0 : (a0_4 == a1_4) = true := beq_iff_eq.mpr c9
      have c9b1 : (a0_4 != a1_4) = false := bne_eq_false_iff_eq.mpr c9
      clear c9
      by_cases c10 : a0_5 = a1_5
      ·rw [if_pos c10] at H
       have c10b0 : (a0_5 == a1_5) = true := beq_iff_eq.mpr c10
       have c10b1 : (a0_5 != a1_5) = false := bne_eq_false_iff_eq.mpr c10
       clear c10
       have H' := Aside0.mk H
       clear H
       have hnb11 := NB157_158.out
       have hnc11 := NB158_157.out
       have hcz12_0 : w5.cell? ⟨gb157, 0, none⟩ = some (.slice A0_0 l0_0.length c0_0) := (blk_cell BK157.out 0).trans rfl
       have hcz12_1 : w5.cell? ⟨gb157, 1, none⟩ = some (.int .i64 a0_1) := (blk_cell BK157.out 1).trans rfl
       have hcz12_2 : w5.cell? ⟨gb157, 2, none⟩ = some (.string a0_2) := (blk_cell BK157.out 2).trans rfl
       have hcz12_3 : w5.cell? ⟨gb157, 3, none⟩ = some (.int .i64 a0_3) := (blk_cell BK157.out 3).trans rfl
       have hcz12_4 : w5.cell? ⟨gb157, 4, none⟩ = some (.int .i64 a0_4) := (blk_cell BK157.out 4).trans rfl
       have hcz12_5 : w5.cell? ⟨gb157, 5, none⟩ = some (.int .i64 a0_5) := (blk_cell BK157.out 5).trans rfl
       have hfz12_0 := blk_frozen BK157.out 0
       have hfz12_1 := blk_frozen BK157.out 1
       have hfz12_2 := blk_frozen BK157.out 2
       have hfz12_3 := blk_frozen BK157.out 3
       have hfz12_4 := blk_frozen BK157.out 4
       have hfz12_5 := blk_frozen BK157.out 5
       have hcz13_0 : w5.cell? ⟨gb158, 0, none⟩ = some (.slice A1_0 l1_0.length c1_0) := (blk_cell BK158.out 0).trans rfl
       have hcz13_1 : w5.cell? ⟨gb158, 1, none⟩ = some (.int .i64 a1_1) := (blk_cell BK158.out 1).trans rfl
       have hcz13_2 : w5.cell? ⟨gb158, 2, none⟩ = some (.string a1_2) := (blk_cell BK158.out 2).trans rfl
       have hcz13_3 : w5.cell? ⟨gb158, 3, none⟩ = some (.int .i64 a1_3) := (blk_cell BK158.out 3).trans rfl
       have hcz13_4 : w5.cell? ⟨gb158, 4, none⟩ = some (.int .i64 a1_4) := (blk_cell BK158.out 4).trans rfl
       have hcz13_5 : w5.cell? ⟨gb158, 5, none⟩ = some (.int .i64 a1_5) := (blk_cell BK158.out 5).trans rfl
       have hfz13_0 := blk_frozen BK158.out 0
       have hfz13_1 := blk_frozen BK158.out 1
       have hfz13_2 := blk_frozen BK158.out 2
       have hfz13_3 := blk_frozen BK158.out 3
       have hfz13_4 := blk_frozen BK158.out 4
       have hfz13_5 := blk_frozen BK158.out 5
       go_wp2
       go_meet
       case rel => exact ⟨_, (((l0_0.length : Int) != (l1_0.length : Int))), rs_, H', ⟨by first | omega | exact Nat.le_refl _⟩, ⟨bU_ BK157.out⟩, ⟨bU_ BK158.out⟩, ⟨by repeat (first | (with_reducible first | exact HB.out | apply below_alloc | apply pw_below_drewN | apply below_drew1 | refine below_set ?_ GE157.out | refine below_set ?_ GE158.out) | exact HB.out)⟩⟩
      ·rw [if_neg c10] at H
       have c10b0 : (a0_5 == a1_5) = false := beq_eq_false_iff_ne.mpr c10
       have c10b1 : (a0_5 != a1_5) = true := bne_iff_ne.mpr c10
       have H' := Aside0.mk H
       clear H
       have hnb14 := NB157_158.out
       have hnc14 := NB158_157.out
       have hcz15_0 : w5.cell? ⟨gb157, 0, none⟩ = some (.slice A0_0 l0_0.length c0_0) := (blk_cell BK157.out 0).trans rfl
       have hcz15_1 : w5.cell? ⟨gb157, 1, none⟩ = some (.int .i64 a0_1) := (blk_cell BK157.out 1).trans rfl
       have hcz15_2 : w5.cell? ⟨gb157, 2, none⟩ = some (.string a0_2) := (blk_cell BK157.out 2).trans rfl
       have hcz15_3 : w5.cell? ⟨gb157, 3, none⟩ = some (.int .i64 a0_3) := (blk_cell BK157.out 3).trans rfl
       have hcz15_4 : w5.cell? ⟨gb157, 4, none⟩ = some (.int .i64 a0_4) := (blk_cell BK157.out 4).trans rfl
       have hcz15_5 : w5.cell? ⟨gb157, 5, none⟩ = some (.int .i64 a0_5) := (blk_cell BK157.out 5).trans rfl
       have hfz15_0 := blk_frozen BK157.out 0
       have hfz15_1 := blk_frozen BK157.out 1
       have hfz15_2 := blk_frozen BK157.out 2
       have hfz15_3 := blk_frozen BK157.out 3
       have hfz15_4 := blk_frozen BK157.out 4
       have hfz15_5 := blk_frozen BK157.out 5
       have hcz16_0 : w5.cell? ⟨gb158, 0, none⟩ = some (.slice A1_0 l1_0.length c1_0) := (blk_cell BK158.out 0).trans rfl
       have hcz16_1 : w5.cell? ⟨gb158, 1, none⟩ = some (.int .i64 a1_1) := (blk_cell BK158.out 1).trans rfl
       have hcz16_2 : w5.cell? ⟨gb158, 2, none⟩ = some (.string a1_2) := (blk_cell BK158.out 2).trans rfl
       have hcz16_3 : w5.cell? ⟨gb158, 3, none⟩ = some (.int .i64 a1_3) := (blk_cell BK158.out 3).trans rfl
       have hcz16_4 : w5.cell? ⟨gb158, 4, none⟩ = some (.int .i64 a1_4) := (blk_cell BK158.out 4).trans rfl
       have hcz16_5 : w5.cell? ⟨gb158, 5, none⟩ = some (.int .i64 a1_5) := (blk_cell BK158.out 5).trans rfl
       have hfz16_0 := blk_frozen BK158.out 0
       have hfz16_1 := blk_frozen BK158.out 1
       have hfz16_2 := blk_frozen BK158.out 2
       have hfz16_3 := blk_frozen BK158.out 3
       have hfz16_4 := blk_frozen BK158.out 4
       have hfz16_5 := blk_frozen BK158.out 5
       go_wp2
       go_meet
       case rel => exact ⟨_, (true), rs_, H', ⟨by first | omega | exact Nat.le_refl _⟩, ⟨bU_ BK157.out⟩, ⟨bU_ BK158.out⟩, ⟨by repeat (first | (with_reducible first | exact HB.out | apply below_alloc | apply pw_below_drewN | apply below_drew1 | refine below_set ?_ GE157.out | refine below_set ?_ GE158.out) | exact HB.out)⟩⟩
     ·rw [if_neg c9] at H
      have c9b0 : (a0_4 == a1_4) = false := beq_eq_false_iff_ne.mpr c9
      have c9b1 : (a0_4 != a1_4) = true := bne_iff_ne.mpr c9
      have H' := Aside0.mk H
      clear H
      have hnb17 := NB157_158.out
      have hnc17 := NB158_157.out
      have hcz18_0 : w5.cell? ⟨gb157, 0, none⟩ = some (.slice A0_0 l0_0.length c0_0) := (blk_cell BK157.out 0).trans rfl
      have hcz18_1 : w5.cell? ⟨gb157, 1, none⟩ = some (.int .i64 a0_1) := (blk_cell BK157.out 1).trans rfl
      have hcz18_2 : w5.cell? ⟨gb157, 2, none⟩ = some (.string a0_2) := (blk_cell BK157.out 2).trans rfl
      have hcz18_3 : w5.cell? ⟨gb157, 3, none⟩ = some (.int .i64 a0_3) := (blk_cell BK157.out 3).trans rfl
      have hcz18_4 : w5.cell? ⟨gb157, 4, none⟩ = some (.int .i64 a0_4) := (blk_cell BK157.out 4).trans rfl
      have hcz18_5 : w5.cell? ⟨gb157, 5, none⟩ = some (.int .i64 a0_5) := (blk_cell BK157.out 5).trans rfl
      have hfz18_0 := blk_frozen BK157.out 0
      have hfz18_1 := blk_frozen BK157.out 1
      have hfz18_2 := blk_frozen BK157.out 2
      have hfz18_3 := blk_frozen BK157.out 3
      have hfz18_4 := blk_frozen BK157.out 4
      have hfz18_5 := blk_frozen BK157.out 5
      have hcz19_0 : w5.cell? ⟨gb158, 0, none⟩ = some (.slice A1_0 l1_0.length c1_0) := (blk_cell BK158.out 0).trans rfl
      have hcz19_1 : w5.cell? ⟨gb158, 1, none⟩ = some (.int .i64 a1_1) := (blk_cell BK158.out 1).trans rfl
      have hcz19_2 : w5.cell? ⟨gb158, 2, none⟩ = some (.string a1_2) := (blk_cell BK158.out 2).trans rfl
      have hcz19_3 : w5.cell? ⟨gb158, 3, none⟩ = some (.int .i64 a1_3) := (blk_cell BK158.out 3).trans rfl
      have hcz19_4 : w5.cell? ⟨gb158, 4, none⟩ = some (.int .i64 a1_4) := (blk_cell BK158.out 4).trans rfl
      have hcz19_5 : w5.cell? ⟨gb158, 5, none⟩ = some (.int .i64 a1_5) := (blk_cell BK158.out 5).trans rfl
      have hfz19_0 := blk_frozen BK158.out 0
      have hfz19_1 := blk_frozen BK158.out 1
      have hfz19_2 := blk_frozen BK158.out 2
      have hfz19_3 := blk_frozen BK158.out 3
      have hfz19_4 := blk_frozen BK158.out 4
      have hfz19_5 := blk_frozen BK158.out 5
      go_wp2
      go_meet
      case rel => exact ⟨_, (true), rs_, H', ⟨by first | omega | exact Nat.le_refl _⟩, ⟨bU_ BK157.out⟩, ⟨bU_ BK158.out⟩, ⟨by repeat (first | (with_reducible first | exact HB.out | apply below_alloc | apply pw_below_drewN | apply below_drew1 | refine below_set ?_ GE157.out | refine below_set ?_ GE158.out) | exact HB.out)⟩⟩
    ·rw [if_neg c8] at H
     have c8b0 : (a0_3 == a1_3) = false := beq_eq_false_iff_ne.mpr c8
     have c8b1 : (a0_3 != a1_3) = true := bne_iff_ne.mpr c8
     have H' := Aside0.mk H
     clear H
     have hnb20 := NB157_158.out
     have hnc20 := NB158_157.out
     have hcz21_0 : w5.cell? ⟨gb157, 0, none⟩ = some (.slice A0_0 l0_0.length c0_0) := (blk_cell BK157.out 0).trans rfl
     have hcz21_1 : w5.cell? ⟨gb157, 1, none⟩ = some (.int .i64 a0_1) := (blk_cell BK157.out 1).trans rfl
     have hcz21_2 : w5.cell? ⟨gb157, 2, none⟩ = some (.string a0_2) := (blk_cell BK157.out 2).trans rfl
     have hcz21_3 : w5.cell? ⟨gb157, 3, none⟩ = some (.int .i64 a0_3) := (blk_cell BK157.out 3).trans rfl
     have hcz21_4 : w5.cell? ⟨gb157, 4, none⟩ = some (.int .i64 a0_4) := (blk_cell BK157.out 4).trans rfl
     have hcz21_5 : w5.cell? ⟨gb157, 5, none⟩ = some (.int .i64 a0_5) := (blk_cell BK157.out 5).trans rfl
     have hfz21_0 := blk_frozen BK157.out 0
     have hfz21_1 := blk_frozen BK157.out 1
     have hfz21_2 := blk_frozen BK157.out 2
     have hfz21_3 := blk_frozen BK157.out 3
     have hfz21_4 := blk_frozen BK157.out 4
     have hfz21_5 := blk_frozen BK157.out 5
     have hcz22_0 : w5.cell? ⟨gb158, 0, none⟩ = some (.slice A1_0 l1_0.length c1_0) := (blk_cell BK158.out 0).trans rfl
     have hcz22_1 : w5.cell? ⟨gb158, 1, none⟩ = some (.int .i64 a1_1) := (blk_cell BK158.out 1).trans rfl
     have hcz22_2 : w5.cell? ⟨gb158, 2, none⟩ = some (.string a1_2) := (blk_cell BK158.out 2).trans rfl
     have hcz22_3 : w5.cell? ⟨gb158, 3, none⟩ = some (.int .i64 a1_3) := (blk_cell BK158.out 3).trans rfl
     have hcz22_4 : w5.cell? ⟨gb158, 4, none⟩ = some (.int .i64 a1_4) := (blk_cell BK158.out 4).trans rfl
     have hcz22_5 : w5.cell? ⟨gb158, 5, none⟩ = some (.int .i64 a1_5) := (blk_cell BK158.out 5).trans rfl
     have hfz22_0 := blk_frozen BK158.out 0
     have hfz22_1 := blk_frozen BK158.out 1
     have hfz22_2 := blk_frozen BK158.out 2
     have hfz22_3 := blk_frozen BK158.out 3
     have hfz22_4 := blk_frozen BK158.out 4
     have hfz22_5 := blk_frozen BK158.out 5
     go_wp2
     go_meet
     case rel => exact ⟨_, (true), rs_, H', ⟨by first | omega | exact Nat.le_refl _⟩, ⟨bU_ BK157.out⟩, ⟨bU_ BK158.out⟩, ⟨by repeat (first | (with_reducible first | exact HB.out | apply below_alloc | apply pw_below_drewN | apply below_drew1 | refine below_set ?_ GE157.out | refine below_set ?_ GE158.out) | exact HB.out)⟩⟩
   ·rw [if_neg c7] at H
    have c7b0 : (a0_2.toList == a1_2.toList) = false := beq_eq_false_iff_ne.mpr c7
    have c7b1 : (a0_2.toList != a1_2.toList) = true := bne_iff_ne.mpr c7
    have H' := Aside0.mk H
    clear H
    have hnb23 := NB157_158.out
    have hnc23 := NB158_157.out
    have hcz24_0 : w5.cell? ⟨gb157, 0, none⟩ = some (.slice A0_0 l0_0.length c0_0) := (blk_cell BK157.out 0).trans rfl
    have hcz24_1 : w5.cell? ⟨gb157, 1, none⟩ = some (.int .i64 a0_1) := (blk_cell BK157.out 1).trans rfl
    have hcz24_2 : w5.cell? ⟨gb157, 2, none⟩ = some (.string a0_2) := (blk_cell BK157.out 2).trans rfl
    have hcz24_3 : w5.cell? ⟨gb157, 3, none⟩ = some (.int .i64 a0_3) := (blk_cell BK157.out 3).trans rfl
    have hcz24_4 : w5.cell? ⟨gb157, 4, none⟩ = some (.int .i64 a0_4) := (blk_cell BK157.out 4).trans rfl
    have hcz24_5 : w5.cell? ⟨gb157, 5, none⟩ = some (.int .i64 a0_5) := (blk_cell BK157.out 5).trans rfl
    have hfz24_0 := blk_frozen BK157.out 0
    have hfz24_1 := blk_frozen BK157.out 1
    have hfz24_2 := blk_frozen BK157.out 2
    have hfz24_3 := blk_frozen BK157.out 3
    have hfz24_4 := blk_frozen BK157.out 4
    have hfz24_5 := blk_frozen BK157.out 5
    have hcz25_0 : w5.cell? ⟨gb158, 0, none⟩ = some (.slice A1_0 l1_0.length c1_0) := (blk_cell BK158.out 0).trans rfl
    have hcz25_1 : w5.cell? ⟨gb158, 1, none⟩ = some (.int .i64 a1_1) := (blk_cell BK158.out 1).trans rfl
    have hcz25_2 : w5.cell? ⟨gb158, 2, none⟩ = some (.string a1_2) := (blk_cell BK158.out 2).trans rfl
    have hcz25_3 : w5.cell? ⟨gb158, 3, none⟩ = some (.int .i64 a1_3) := (blk_cell BK158.out 3).trans rfl
    have hcz25_4 : w5.cell? ⟨gb158, 4, none⟩ = some (.int .i64 a1_4) := (blk_cell BK158.out 4).trans rfl
    have hcz25_5 : w5.cell? ⟨gb158, 5, none⟩ = some (.int .i64 a1_5) := (blk_cell BK158.out 5).trans rfl
    have hfz25_0 := blk_frozen BK158.out 0
    have hfz25_1 := blk_frozen BK158.out 1
    have hfz25_2 := blk_frozen BK158.out 2
    have hfz25_3 := blk_frozen BK158.out 3
    have hfz25_4 := blk_frozen BK158.out 4
    have hfz25_5 := blk_frozen BK158.out 5
    go_wp2
    go_meet
    case rel => exact ⟨_, (true), rs_, H', ⟨by first | omega | exact Nat.le_refl _⟩, ⟨bU_ BK157.out⟩, ⟨bU_ BK158.out⟩, ⟨by repeat (first | (with_reducible first | exact HB.out | apply below_alloc | apply pw_below_drewN | apply below_drew1 | refine below_set ?_ GE157.out | refine below_set ?_ GE158.out) | exact HB.out)⟩⟩
  ·rw [if_neg c6] at H
   have c6b0 : (a0_1 == a1_1) = false := beq_eq_false_iff_ne.mpr c6
   have c6b1 : (a0_1 != a1_1) = true := bne_iff_ne.mpr c6
   (first | rw [c6b0] | (simp only [i64_w, i32_w]; rw [c6b0]) | skip)
   have H' := Aside0.mk H
   clear H
   have hnb26 := NB157_158.out
   have hnc26 := NB158_157.out
   have hcz27_0 : w5.cell? ⟨gb157, 0, none⟩ = some (.slice A0_0 l0_0.length c0_0) := (blk_cell BK157.out 0).trans rfl
   have hcz27_1 : w5.cell? ⟨gb157, 1, none⟩ = some (.int .i64 a0_1) := (blk_cell BK157.out 1).trans rfl
   have hcz27_2 : w5.cell? ⟨gb157, 2, none⟩ = some (.string a0_2) := (blk_cell BK157.out 2).trans rfl
   have hcz27_3 : w5.cell? ⟨gb157, 3, none⟩ = some (.int .i64 a0_3) := (blk_cell BK157.out 3).trans rfl
   have hcz27_4 : w5.cell? ⟨gb157, 4, none⟩ = some (.int .i64 a0_4) := (blk_cell BK157.out 4).trans rfl
   have hcz27_5 : w5.cell? ⟨gb157, 5, none⟩ = some (.int .i64 a0_5) := (blk_cell BK157.out 5).trans rfl
   have hfz27_0 := blk_frozen BK157.out 0
   have hfz27_1 := blk_frozen BK157.out 1
   have hfz27_2 := blk_frozen BK157.out 2
   have hfz27_3 := blk_frozen BK157.out 3
   have hfz27_4 := blk_frozen BK157.out 4
   have hfz27_5 := blk_frozen BK157.out 5
   have hcz28_0 : w5.cell? ⟨gb158, 0, none⟩ = some (.slice A1_0 l1_0.length c1_0) := (blk_cell BK158.out 0).trans rfl
   have hcz28_1 : w5.cell? ⟨gb158, 1, none⟩ = some (.int .i64 a1_1) := (blk_cell BK158.out 1).trans rfl
   have hcz28_2 : w5.cell? ⟨gb158, 2, none⟩ = some (.string a1_2) := (blk_cell BK158.out 2).trans rfl
   have hcz28_3 : w5.cell? ⟨gb158, 3, none⟩ = some (.int .i64 a1_3) := (blk_cell BK158.out 3).trans rfl
   have hcz28_4 : w5.cell? ⟨gb158, 4, none⟩ = some (.int .i64 a1_4) := (blk_cell BK158.out 4).trans rfl
   have hcz28_5 : w5.cell? ⟨gb158, 5, none⟩ = some (.int .i64 a1_5) := (blk_cell BK158.out 5).trans rfl
   have hfz28_0 := blk_frozen BK158.out 0
   have hfz28_1 := blk_frozen BK158.out 1
   have hfz28_2 := blk_frozen BK158.out 2
   have hfz28_3 := blk_frozen BK158.out 3
   have hfz28_4 := blk_frozen BK158.out 4
   have hfz28_5 := blk_frozen BK158.out 5
   go_wp2
   go_meet
   case rel => exact ⟨_, (true), rs_, H', ⟨by first | omega | exact Nat.le_refl _⟩, ⟨bU_ BK157.out⟩, ⟨bU_ BK158.out⟩, ⟨by repeat (first | (with_reducible first | exact HB.out | apply below_alloc | apply pw_below_drewN | apply below_drew1 | refine below_set ?_ GE157.out | refine below_set ?_ GE158.out) | exact HB.out)⟩⟩
 case rest =>
  clear HC3
  try clear c1
  try clear c2
  try clear p2
  try clear c6
  try clear c6b0
  try clear c6b1
  try clear c7
  try clear c7b0
  try clear c7b1
  try clear c8
  try clear c8b0
  try clear c8b1
  try clear c9
  try clear c9b0
  try clear c9b1
  try clear c10
  try clear c10b0
  try clear c10b1
  try clear c11
  try clear c14
  try clear c17
  try clear c20
  try clear c23
  try clear c26
  try clear hcz12_0
  try clear hcz12_1
  try clear hcz12_2
  try clear hcz12_3
  try clear hcz12_4
  try clear hcz12_5
  try clear hcz13_0
  try clear hcz13_1
  try clear hcz13_2
  try clear hcz13_3
  try clear hcz13_4
  try clear hcz13_5
  try clear hcz15_0
  try clear hcz15_1
  try clear hcz15_2
  try clear hcz15_3
  try clear hcz15_4
  try clear hcz15_5
  try clear hcz16_0
  try clear hcz16_1
  try clear hcz16_2
  try clear hcz16_3
  try clear hcz16_4
  try clear hcz16_5
  try clear hcz18_0
  try clear hcz18_1
  try clear hcz18_2
  try clear hcz18_3
  try clear hcz18_4
  try clear hcz18_5
  try clear hcz19_0
  try clear hcz19_1
  try clear hcz19_2
  try clear hcz19_3
  try clear hcz19_4
  try clear hcz19_5
  try clear hcz21_0
  try clear hcz21_1
  try clear hcz21_2
  try clear hcz21_3
  try clear hcz21_4
  try clear hcz21_5
  try clear hcz22_0
  try clear hcz22_1
  try clear hcz22_2
  try clear hcz22_3
  try clear hcz22_4
  try clear hcz22_5
  try clear hcz24_0
  try clear hcz24_1
  try clear hcz24_2
  try clear hcz24_3
  try clear hcz24_4
  try clear hcz24_5
  try clear hcz25_0
  try clear hcz25_1
  try clear hcz25_2
  try clear hcz25_3
  try clear hcz25_4
  try clear hcz25_5
  try clear hcz27_0
  try clear hcz27_1
  try clear hcz27_2
  try clear hcz27_3
  try clear hcz27_4
  try clear hcz27_5
  try clear hcz28_0
  try clear hcz28_1
  try clear hcz28_2
  try clear hcz28_3
  try clear hcz28_4
  try clear hcz28_5
  try clear hfz12_0
  try clear hfz12_1
  try clear hfz12_2
  try clear hfz12_3
  try clear hfz12_4
  try clear hfz12_5
  try clear hfz13_0
  try clear hfz13_1
  try clear hfz13_2
  try clear hfz13_3
  try clear hfz13_4
  try clear hfz13_5
  try clear hfz15_0
  try clear hfz15_1
  try clear hfz15_2
  try clear hfz15_3
  try clear hfz15_4
  try clear hfz15_5
  try clear hfz16_0
  try clear hfz16_1
  try clear hfz16_2
  try clear hfz16_3
  try clear hfz16_4
  try clear hfz16_5
  try clear hfz18_0
  try clear hfz18_1
  try clear hfz18_2
  try clear hfz18_3
  try clear hfz18_4
  try clear hfz18_5
  try clear hfz19_0
  try clear hfz19_1
  try clear hfz19_2
  try clear hfz19_3
  try clear hfz19_4
  try clear hfz19_5
  try clear hfz21_0
  try clear hfz21_1
  try clear hfz21_2
  try clear hfz21_3
  try clear hfz21_4
  try clear hfz21_5
  try clear hfz22_0
  try clear hfz22_1
  try clear hfz22_2
  try clear hfz22_3
  try clear hfz22_4
  try clear hfz22_5
  try clear hfz24_0
  try clear hfz24_1
  try clear hfz24_2
  try clear hfz24_3
  try clear hfz24_4
  try clear hfz24_5
  try clear hfz25_0
  try clear hfz25_1
  try clear hfz25_2
  try clear hfz25_3
  try clear hfz25_4
  try clear hfz25_5
  try clear hfz27_0
  try clear hfz27_1
  try clear hfz27_2
  try clear hfz27_3
  try clear hfz27_4
  try clear hfz27_5
  try clear hfz28_0
  try clear hfz28_1
  try clear hfz28_2
  try clear hfz28_3
  try clear hfz28_4
  try clear hfz28_5
  obtain ⟨kq, x47_2, rfl, HA, HJ2, BK157, BK158, HB⟩ := hcut
  cases kq with
  | zero => exact absurd HA.out (by simp [dragnetref19_Same.j0])
  | succ kj2 =>
   have H := HA.out
   clear HA
   simp only [dragnetref19_Same.j0] at H
   by_cases c29 : x47_2 = true
   ·subst c29
    have H1 : (some false) = some r := by rw [if_pos rfl] at H; exact H
    clear H
    have H := H1
    clear H1
    obtain rfl := Option.some.inj H
    go_wp2
    go_ret
    exact ⟨by first | rfl | (simp [errW_none, errW_some] <;> rfl) | (simp [*, errW_none, errW_some] <;> rfl), by repeat (first | (with_reducible first | exact HB.out | apply below_alloc | apply pw_below_drewN | apply below_drew1 | refine below_set ?_ GE157.out | refine below_set ?_ GE158.out) | exact HB.out)⟩
   ·replace c29 := Bool.eq_false_iff.mpr c29
    subst c29
    have H1 : (dragnetref19_Same.l0 kj2 0 l0_0 a0_1 a0_2 a0_3 a0_4 a0_5 l1_0 a1_1 a1_2 a1_3 a1_4 a1_5) = some r := by rw [if_neg (show ¬ (false = true) by decide)] at H; exact H
    clear H
    have H := H1
    clear H1
    have H' := Aside0.mk H
    clear H
    go_wp2
    go_loopg [5] kj2 (fun kq v5 w' => ∃ (x5_2 : Int), v5 = .int .i64 x5_2 ∧ Aside0 (dragnetref19_Same.l0 kq x5_2 l0_0 a0_1 a0_2 a0_3 a0_4 a0_5 l1_0 a1_1 a1_2 a1_3 a1_4 a1_5 = some r) ∧ Aside0 (kq ≤ kj2) ∧ Aside0 (w'.heap[gb157]? = some (.cells #[(.slice A0_0 l0_0.length c0_0), .int .i64 a0_1, .string a0_2, .int .i64 a0_3, .int .i64 a0_4, .int .i64 a0_5] 24 (0, 0))) ∧ Aside0 (w'.heap[gb158]? = some (.cells #[(.slice A1_0 l1_0.length c1_0), .int .i64 a1_1, .string a1_2, .int .i64 a1_3, .int .i64 a1_4, .int .i64 a1_5] 24 (0, 0))) ∧ Aside0 (Below w.heap.size w w'))
    case atStart => exact ⟨(0), rs_, H', ⟨Nat.le_refl _⟩, ⟨bU_ BK157.out⟩, ⟨bU_ BK158.out⟩, ⟨by repeat (first | (with_reducible first | exact HB.out | apply below_alloc | apply pw_below_drewN | apply below_drew1 | refine below_set ?_ GE157.out | refine below_set ?_ GE158.out) | exact HB.out)⟩⟩
    case round =>
     clear H'
     try clear c1
     try clear c2
     try clear p2
     try clear c6
     try clear c6b0
     try clear c6b1
     try clear c7
     try clear c7b0
     try clear c7b1
     try clear c8
     try clear c8b0
     try clear c8b1
     try clear c9
     try clear c9b0
     try clear c9b1
     try clear c10
     try clear c10b0
     try clear c10b1
     try clear c11
     try clear c14
     try clear c17
     try clear c20
     try clear c23
     try clear c26
     try clear c29
     try clear hcz12_0
     try clear hcz12_1
     try clear hcz12_2
     try clear hcz12_3
     try clear hcz12_4
     try clear hcz12_5
     try clear hcz13_0
     try clear hcz13_1
     try clear hcz13_2
     try clear hcz13_3
     try clear hcz13_4
     try clear hcz13_5
     try clear hcz15_0
     try clear hcz15_1
     try clear hcz15_2
     try clear hcz15_3
     try clear hcz15_4
     try clear hcz15_5
     try clear hcz16_0
     try clear hcz16_1
     try clear hcz16_2
     try clear hcz16_3
     try clear hcz16_4
     try clear hcz16_5
     try clear hcz18_0
     try clear hcz18_1
     try clear hcz18_2
     try clear hcz18_3
     try clear hcz18_4
     try clear hcz18_5
     try clear hcz19_0
     try clear hcz19_1
     try clear hcz19_2
     try clear hcz19_3
     try clear hcz19_4
     try clear hcz19_5
     try clear hcz21_0
     try clear hcz21_1
     try clear hcz21_2
     try clear hcz21_3
     try clear hcz21_4
     try clear hcz21_5
     try clear hcz22_0
     try clear hcz22_1
     try clear hcz22_2
     try clear hcz22_3
     try clear hcz22_4
     try clear hcz22_5
     try clear hcz24_0
     try clear hcz24_1
     try clear hcz24_2
     try clear hcz24_3
     try clear hcz24_4
     try clear hcz24_5
     try clear hcz25_0
     try clear hcz25_1
     try clear hcz25_2
     try clear hcz25_3
     try clear hcz25_4
     try clear hcz25_5
     try clear hcz27_0
     try clear hcz27_1
     try clear hcz27_2
     try clear hcz27_3
     try clear hcz27_4
     try clear hcz27_5
     try clear hcz28_0
     try clear hcz28_1
     try clear hcz28_2
     try clear hcz28_3
     try clear hcz28_4
     try clear hcz28_5
     try clear hfz12_0
     try clear hfz12_1
     try clear hfz12_2
     try clear hfz12_3
     try clear hfz12_4
     try clear hfz12_5
     try clear hfz13_0
     try clear hfz13_1
     try clear hfz13_2
     try clear hfz13_3
     try clear hfz13_4
     try clear hfz13_5
     try clear hfz15_0
     try clear hfz15_1
     try clear hfz15_2
     try clear hfz15_3
     try clear hfz15_4
     try clear hfz15_5
     try clear hfz16_0
     try clear hfz16_1
     try clear hfz16_2
     try clear hfz16_3
     try clear hfz16_4
     try clear hfz16_5
     try clear hfz18_0
     try clear hfz18_1
     try clear hfz18_2
     try clear hfz18_3
     try clear hfz18_4
     try clear hfz18_5
     try clear hfz19_0
     try clear hfz19_1
     try clear hfz19_2
     try clear hfz19_3
     try clear hfz19_4
     try clear hfz19_5
     try clear hfz21_0
     try clear hfz21_1
     try clear hfz21_2
     try clear hfz21_3
     try clear hfz21_4
     try clear hfz21_5
     try clear hfz22_0
     try clear hfz22_1
     try clear hfz22_2
     try clear hfz22_3
     try clear hfz22_4
     try clear hfz22_5
     try clear hfz24_0
     try clear hfz24_1
     try clear hfz24_2
     try clear hfz24_3
     try clear hfz24_4
     try clear hfz24_5
     try clear hfz25_0
     try clear hfz25_1
     try clear hfz25_2
     try clear hfz25_3
     try clear hfz25_4
     try clear hfz25_5
     try clear hfz27_0
     try clear hfz27_1
     try clear hfz27_2
     try clear hfz27_3
     try clear hfz27_4
     try clear hfz27_5
     try clear hfz28_0
     try clear hfz28_1
     try clear hfz28_2
     try clear hfz28_3
     try clear hfz28_4
     try clear hfz28_5
     try clear p2
     obtain ⟨x5_2, rfl, HA, HK2, BK157, BK158, HB⟩ := hrel
     cases gk with
     | zero => exact absurd HA.out (by simp [dragnetref19_Same.l0])
     | succ k2 =>
      have H := HA.out
      clear HA
      simp only [dragnetref19_Same.l0] at H
      by_cases c30 : x5_2 < (l0_0.length : Int)
      ·rw [if_pos c30] at H
       have c30b0 : decide (x5_2 < (l0_0.length : Int)) = true := decide_eq_true c30
       clear c30
       by_cases c31 : 0 ≤ x5_2
       ·rw [if_pos c31] at H
        have c31b0 : decide (0 ≤ x5_2) = true := decide_eq_true c31
        clear c31
        by_cases c32 : x5_2 < (l1_0.length : Int)
        ·rw [if_pos c32] at H
         have c32b0 : decide (x5_2 < (l1_0.length : Int)) = true := decide_eq_true c32
         clear c32
         replace H := Option.bind_eq_some_iff.mp H
         obtain ⟨t161, A330, H⟩ := H
         replace H : (if t161 = true then (dragnetref19_Same.l0 k2 (wrap64 (x5_2 + 1)) l0_0 a0_1 a0_2 a0_3 a0_4 a0_5 l1_0 a1_1 a1_2 a1_3 a1_4 a1_5) else (some false)) = some r := H
         have A33 := Aside0.mk A330
         clear A330
         by_cases c34 : t161 = true
         ·subst c34
          have H1 : (dragnetref19_Same.l0 k2 (wrap64 (x5_2 + 1)) l0_0 a0_1 a0_2 a0_3 a0_4 a0_5 l1_0 a1_1 a1_2 a1_3 a1_4 a1_5) = some r := by rw [if_pos rfl] at H; exact H
          clear H
          have H := H1
          clear H1
          have H' := Aside0.mk H
          clear H
          have hnb35 := NB157_158.out
          have hnc35 := NB158_157.out
          have hcz36_0 : wr.cell? ⟨gb157, 0, none⟩ = some (.slice A0_0 l0_0.length c0_0) := (blk_cell BK157.out 0).trans rfl
          have hcz36_1 : wr.cell? ⟨gb157, 1, none⟩ = some (.int .i64 a0_1) := (blk_cell BK157.out 1).trans rfl
          have hcz36_2 : wr.cell? ⟨gb157, 2, none⟩ = some (.string a0_2) := (blk_cell BK157.out 2).trans rfl
          have hcz36_3 : wr.cell? ⟨gb157, 3, none⟩ = some (.int .i64 a0_3) := (blk_cell BK157.out 3).trans rfl
          have hcz36_4 : wr.cell? ⟨gb157, 4, none⟩ = some (.int .i64 a0_4) := (blk_cell BK157.out 4).trans rfl
          have hcz36_5 : wr.cell? ⟨gb157, 5, none⟩ = some (.int .i64 a0_5) := (blk_cell BK157.out 5).trans rfl
          have hfz36_0 := blk_frozen BK157.out 0
          have hfz36_1 := blk_frozen BK157.out 1
          have hfz36_2 := blk_frozen BK157.out 2
          have hfz36_3 := blk_frozen BK157.out 3
          have hfz36_4 := blk_frozen BK157.out 4
          have hfz36_5 := blk_frozen BK157.out 5
          try go_wp2
          have n0_ := Aside0.mk (blk_drew BK157.out)
          have n1_ := Aside0.mk (blk_drew BK158.out)
          have n2_ := Aside0.mk (below_drew1 HB.out)
          clear BK157
          clear BK158
          clear HB
          have BK157 := n0_
          have BK158 := n1_
          have HB := n2_
          clear n0_ n1_ n2_
          have p159 : 0 ≤ (x5_2 : Int) := of_decide_eq_true as_
          have q159 : x5_2 < (l0_0.length : Int) := of_decide_eq_true as_
          obtain ⟨ad159, A159_4, c159_4, e159, hx159_0, hx159_1, hx159_2, hx159_3, hx159_4, hx159_5, hx159_6, hx159_7, hl159_4, hi159_4⟩ := at_T37 HR0_0.out x5_2 p159 q159
          have hw159_7 := hx159_7
          have hw159_6 := hx159_6
          have hw159_5 := hx159_5
          have hw159_4 := hx159_4
          have hw159_3 := hx159_3
          have hw159_2 := hx159_2
          have hw159_1 := hx159_1
          have hw159_0 := hx159_0
          cases e159
          replace hx159_0 := (HB.out.cell (World.block_lt_of_cell? w _ hx159_0)).trans hx159_0
          replace hx159_1 := (HB.out.cell (World.block_lt_of_cell? w _ hx159_1)).trans hx159_1
          replace hx159_2 := (HB.out.cell (World.block_lt_of_cell? w _ hx159_2)).trans hx159_2
          replace hx159_3 := (HB.out.cell (World.block_lt_of_cell? w _ hx159_3)).trans hx159_3
          replace hx159_4 := (HB.out.cell (World.block_lt_of_cell? w _ hx159_4)).trans hx159_4
          replace hx159_5 := (HB.out.cell (World.block_lt_of_cell? w _ hx159_5)).trans hx159_5
          replace hx159_6 := (HB.out.cell (World.block_lt_of_cell? w _ hx159_6)).trans hx159_6
          replace hx159_7 := (HB.out.cell (World.block_lt_of_cell? w _ hx159_7)).trans hx159_7
          have HR159_4 := Aside0.mk hi159_4
          have HC159_4 := Aside0.mk hl159_4
          clear hi159_4 hl159_4
          replace p159 := eq_true p159
          replace q159 := eq_true q159
          have p160 : 0 ≤ (x5_2 : Int) := of_decide_eq_true as_
          have q160 : x5_2 < (l1_0.length : Int) := of_decide_eq_true as_
          obtain ⟨ad160, A160_4, c160_4, e160, hx160_0, hx160_1, hx160_2, hx160_3, hx160_4, hx160_5, hx160_6, hx160_7, hl160_4, hi160_4⟩ := at_T37 HR1_0.out x5_2 p160 q160
          have hw160_7 := hx160_7
          have hw160_6 := hx160_6
          have hw160_5 := hx160_5
          have hw160_4 := hx160_4
          have hw160_3 := hx160_3
          have hw160_2 := hx160_2
          have hw160_1 := hx160_1
          have hw160_0 := hx160_0
          cases e160
          replace hx160_0 := (HB.out.cell (World.block_lt_of_cell? w _ hx160_0)).trans hx160_0
          replace hx160_1 := (HB.out.cell (World.block_lt_of_cell? w _ hx160_1)).trans hx160_1
          replace hx160_2 := (HB.out.cell (World.block_lt_of_cell? w _ hx160_2)).trans hx160_2
          replace hx160_3 := (HB.out.cell (World.block_lt_of_cell? w _ hx160_3)).trans hx160_3
          replace hx160_4 := (HB.out.cell (World.block_lt_of_cell? w _ hx160_4)).trans hx160_4
          replace hx160_5 := (HB.out.cell (World.block_lt_of_cell? w _ hx160_5)).trans hx160_5
          replace hx160_6 := (HB.out.cell (World.block_lt_of_cell? w _ hx160_6)).trans hx160_6
          replace hx160_7 := (HB.out.cell (World.block_lt_of_cell? w _ hx160_7)).trans hx160_7
          have HR160_4 := Aside0.mk hi160_4
          have HC160_4 := Aside0.mk hl160_4
          clear hi160_4 hl160_4
          replace p160 := eq_true p160
          replace q160 := eq_true q160
          refine start_ (n := 12) (S := fun w' => w'.cell? ⟨gb157, 0, none⟩ = some (.slice (some ad159) l0_0.length c0_0) ∧ w'.cell? ⟨gb157, 1, none⟩ = some (.int .i64 a0_1) ∧ w'.cell? ⟨gb157, 2, none⟩ = some (.string a0_2) ∧ w'.cell? ⟨gb157, 3, none⟩ = some (.int .i64 a0_3) ∧ w'.cell? ⟨gb157, 4, none⟩ = some (.int .i64 a0_4) ∧ w'.cell? ⟨gb157, 5, none⟩ = some (.int .i64 a0_5) ∧ w'.cell? ⟨gb158, 0, none⟩ = some (.slice (some ad160) l1_0.length c1_0) ∧ w'.cell? ⟨gb158, 1, none⟩ = some (.int .i64 a1_1) ∧ w'.cell? ⟨gb158, 2, none⟩ = some (.string a1_2) ∧ w'.cell? ⟨gb158, 3, none⟩ = some (.int .i64 a1_3) ∧ w'.cell? ⟨gb158, 4, none⟩ = some (.int .i64 a1_4) ∧ w'.cell? ⟨gb158, 5, none⟩ = some (.int .i64 a1_5) ∧ w'.cell? (ad159.add ((x5_2).toNat * 8)) = some (.int .i64 ((rd_T37 l0_0 x5_2).f0)) ∧ w'.cell? ⟨(ad159.add ((x5_2).toNat * 8)).block, (ad159.add ((x5_2).toNat * 8)).off + 1, none⟩ = some (.int .i64 ((rd_T37 l0_0 x5_2).f1)) ∧ w'.cell? ⟨(ad159.add ((x5_2).toNat * 8)).block, (ad159.add ((x5_2).toNat * 8)).off + 2, none⟩ = some (.int .i64 ((rd_T37 l0_0 x5_2).f2)) ∧ w'.cell? ⟨(ad159.add ((x5_2).toNat * 8)).block, (ad159.add ((x5_2).toNat * 8)).off + 3, none⟩ = some (.string ((rd_T37 l0_0 x5_2).f3)) ∧ w'.cell? ⟨(ad159.add ((x5_2).toNat * 8)).block, (ad159.add ((x5_2).toNat * 8)).off + 4, none⟩ = some (.slice A159_4 ((rd_T37 l0_0 x5_2).f4).length c159_4) ∧ w'.cell? ⟨(ad159.add ((x5_2).toNat * 8)).block, (ad159.add ((x5_2).toNat * 8)).off + 5, none⟩ = some (.string ((rd_T37 l0_0 x5_2).f5)) ∧ w'.cell? ⟨(ad159.add ((x5_2).toNat * 8)).block, (ad159.add ((x5_2).toNat * 8)).off + 6, none⟩ = some (.int .i64 ((rd_T37 l0_0 x5_2).f6)) ∧ w'.cell? ⟨(ad159.add ((x5_2).toNat * 8)).block, (ad159.add ((x5_2).toNat * 8)).off + 7, none⟩ = some (.int .i64 ((rd_T37 l0_0 x5_2).f7)) ∧ w'.cell? (ad160.add ((x5_2).toNat * 8)) = some (.int .i64 ((rd_T37 l1_0 x5_2).f0)) ∧ w'.cell? ⟨(ad160.add ((x5_2).toNat * 8)).block, (ad160.add ((x5_2).toNat * 8)).off + 1, none⟩ = some (.int .i64 ((rd_T37 l1_0 x5_2).f1)) ∧ w'.cell? ⟨(ad160.add ((x5_2).toNat * 8)).block, (ad160.add ((x5_2).toNat * 8)).off + 2, none⟩ = some (.int .i64 ((rd_T37 l1_0 x5_2).f2)) ∧ w'.cell? ⟨(ad160.add ((x5_2).toNat * 8)).block, (ad160.add ((x5_2).toNat * 8)).off + 3, none⟩ = some (.string ((rd_T37 l1_0 x5_2).f3)) ∧ w'.cell? ⟨(ad160.add ((x5_2).toNat * 8)).block, (ad160.add ((x5_2).toNat * 8)).off + 4, none⟩ = some (.slice A160_4 ((rd_T37 l1_0 x5_2).f4).length c160_4) ∧ w'.cell? ⟨(ad160.add ((x5_2).toNat * 8)).block, (ad160.add ((x5_2).toNat * 8)).off + 5, none⟩ = some (.string ((rd_T37 l1_0 x5_2).f5)) ∧ w'.cell? ⟨(ad160.add ((x5_2).toNat * 8)).block, (ad160.add ((x5_2).toNat * 8)).off + 6, none⟩ = some (.int .i64 ((rd_T37 l1_0 x5_2).f6)) ∧ w'.cell? ⟨(ad160.add ((x5_2).toNat * 8)).block, (ad160.add ((x5_2).toNat * 8)).off + 7, none⟩ = some (.int .i64 ((rd_T37 l1_0 x5_2).f7))) (ds := []) #[false, false, false, false, false, false, false, false, false, false, false, false] (by kernel_rfl) rfl rfl ⟨(blk_cell BK157.out 0).trans rfl, (blk_cell BK157.out 1).trans rfl, (blk_cell BK157.out 2).trans rfl, (blk_cell BK157.out 3).trans rfl, (blk_cell BK157.out 4).trans rfl, (blk_cell BK157.out 5).trans rfl, (blk_cell BK158.out 0).trans rfl, (blk_cell BK158.out 1).trans rfl, (blk_cell BK158.out 2).trans rfl, (blk_cell BK158.out 3).trans rfl, (blk_cell BK158.out 4).trans rfl, (blk_cell BK158.out 5).trans rfl, ((HB.out.cell (World.block_lt_of_cell? w _ hw159_0)).trans hw159_0), ((HB.out.cell (World.block_lt_of_cell? w _ hw159_1)).trans hw159_1), ((HB.out.cell (World.block_lt_of_cell? w _ hw159_2)).trans hw159_2), ((HB.out.cell (World.block_lt_of_cell? w _ hw159_3)).trans hw159_3), ((HB.out.cell (World.block_lt_of_cell? w _ hw159_4)).trans hw159_4), ((HB.out.cell (World.block_lt_of_cell? w _ hw159_5)).trans hw159_5), ((HB.out.cell (World.block_lt_of_cell? w _ hw159_6)).trans hw159_6), ((HB.out.cell (World.block_lt_of_cell? w _ hw159_7)).trans hw159_7), ((HB.out.cell (World.block_lt_of_cell? w _ hw160_0)).trans hw160_0), ((HB.out.cell (World.block_lt_of_cell? w _ hw160_1)).trans hw160_1), ((HB.out.cell (World.block_lt_of_cell? w _ hw160_2)).trans hw160_2), ((HB.out.cell (World.block_lt_of_cell? w _ hw160_3)).trans hw160_3), ((HB.out.cell (World.block_lt_of_cell? w _ hw160_4)).trans hw160_4), ((HB.out.cell (World.block_lt_of_cell? w _ hw160_5)).trans hw160_5), ((HB.out.cell (World.block_lt_of_cell? w _ hw160_6)).trans hw160_6), ((HB.out.cell (World.block_lt_of_cell? w _ hw160_7)).trans hw160_7)⟩ (fun hHeld => ?_); refine with_tabW dragnetref19_Same.tab6 dragnetref19_Same.bits6 (fun HT_ HW_ => ?_)
          generalize wr.drew = w37 at BK157 BK158 HB HR159_4 HR160_4 hx159_0 hx159_1 hx159_2 hx159_3 hx159_4 hx159_5 hx159_6 hx159_7 hx160_0 hx160_1 hx160_2 hx160_3 hx160_4 hx160_5 hx160_6 hx160_7 hHeld ⊢
          refine pS 0 (some 55) HT_ ?_
          refine pS 2 (some 57) HT_ ?_
          refine pS 5 (some 60) HT_ ?_
          refine pS 7 (some 62) HT_ ?_
          refine tS 1 (some 56) HT_ HW_ hHeld ?_
          refine pS 3 (some 58) HT_ ?_
          refine tS 4 (some 59) HT_ HW_ hHeld ?_
          refine tS 6 (some 61) HT_ HW_ hHeld ?_
          refine pS 8 (some 63) HT_ ?_
          refine tS 9 (some 64) HT_ HW_ hHeld ?_
          refine one_ (i := 10) (N := some 65) #[true, true, true, true, true, true, true, true, true, true, true, false] rfl rfl (one_of HT_.out (by kernel_rfl)) (by decide) (fun K hK => ?_)
          refine goes_ Tryz.func48 (by kernel_rfl) rfl #[.agg #[.int .i64 ((rd_T37 l0_0 x5_2).f0), .int .i64 ((rd_T37 l0_0 x5_2).f1), .int .i64 ((rd_T37 l0_0 x5_2).f2), .string ((rd_T37 l0_0 x5_2).f3), .slice A159_4 ((rd_T37 l0_0 x5_2).f4).length c159_4, .string ((rd_T37 l0_0 x5_2).f5), .int .i64 ((rd_T37 l0_0 x5_2).f6), .int .i64 ((rd_T37 l0_0 x5_2).f7)], .agg #[.int .i64 ((rd_T37 l1_0 x5_2).f0), .int .i64 ((rd_T37 l1_0 x5_2).f1), .int .i64 ((rd_T37 l1_0 x5_2).f2), .string ((rd_T37 l1_0 x5_2).f3), .slice A160_4 ((rd_T37 l1_0 x5_2).f4).length c160_4, .string ((rd_T37 l1_0 x5_2).f5), .int .i64 ((rd_T37 l1_0 x5_2).f6), .int .i64 ((rd_T37 l1_0 x5_2).f7)]] (by rfl) rfl rfl mp_ ?_
          with_reducible refine (dragnetref19_SameNode.calls k2 ((rd_T37 l0_0 x5_2).f0) ((rd_T37 l0_0 x5_2).f1) ((rd_T37 l0_0 x5_2).f2) ((rd_T37 l0_0 x5_2).f3) _ _ ((rd_T37 l0_0 x5_2).f4) ((rd_T37 l0_0 x5_2).f5) ((rd_T37 l0_0 x5_2).f6) ((rd_T37 l0_0 x5_2).f7) ((rd_T37 l1_0 x5_2).f0) ((rd_T37 l1_0 x5_2).f1) ((rd_T37 l1_0 x5_2).f2) ((rd_T37 l1_0 x5_2).f3) _ _ ((rd_T37 l1_0 x5_2).f4) ((rd_T37 l1_0 x5_2).f5) ((rd_T37 l1_0 x5_2).f6) ((rd_T37 l1_0 x5_2).f7) true _ ?side1 ?side2 ?side3 ?side4 A33.out).mono ?_
          (case side1 => repeat (first | exact (Kd.C_below HR159_4.out HB.out) | (with_reducible refine Kd.C_alloc ?_ _) | (with_reducible refine Kd.C_drewN ?_ _) | (with_reducible refine Kd.C_drew ?_)))
          (case side2 => exact HC159_4.out)
          (case side3 => repeat (first | exact (Kd.C_below HR160_4.out HB.out) | (with_reducible refine Kd.C_alloc ?_ _) | (with_reducible refine Kd.C_drewN ?_ _) | (with_reducible refine Kd.C_drew ?_)))
          (case side4 => exact HC160_4.out)
          rintro e w38 ⟨rfl, hb⟩
          refine ⟨_, rfl, ?_⟩
          have n0_ := bkA BK157 hb
          have n1_ := bkA BK158 hb
          have n2_ := bsA HB hb
          clear BK157
          clear BK158
          clear HB
          have BK157 := n0_
          have BK158 := n1_
          have HB := n2_
          clear n0_ n1_ n2_
          (try clear hb)
          (try clear hb2)
          (try clear hk)
          (try clear hi)
          refine hK.out _ _ ⟨(blk_cell BK157.out 0).trans rfl, (blk_cell BK157.out 1).trans rfl, (blk_cell BK157.out 2).trans rfl, (blk_cell BK157.out 3).trans rfl, (blk_cell BK157.out 4).trans rfl, (blk_cell BK157.out 5).trans rfl, (blk_cell BK158.out 0).trans rfl, (blk_cell BK158.out 1).trans rfl, (blk_cell BK158.out 2).trans rfl, (blk_cell BK158.out 3).trans rfl, (blk_cell BK158.out 4).trans rfl, (blk_cell BK158.out 5).trans rfl, ((HB.out.cell (World.block_lt_of_cell? w _ hw159_0)).trans hw159_0), ((HB.out.cell (World.block_lt_of_cell? w _ hw159_1)).trans hw159_1), ((HB.out.cell (World.block_lt_of_cell? w _ hw159_2)).trans hw159_2), ((HB.out.cell (World.block_lt_of_cell? w _ hw159_3)).trans hw159_3), ((HB.out.cell (World.block_lt_of_cell? w _ hw159_4)).trans hw159_4), ((HB.out.cell (World.block_lt_of_cell? w _ hw159_5)).trans hw159_5), ((HB.out.cell (World.block_lt_of_cell? w _ hw159_6)).trans hw159_6), ((HB.out.cell (World.block_lt_of_cell? w _ hw159_7)).trans hw159_7), ((HB.out.cell (World.block_lt_of_cell? w _ hw160_0)).trans hw160_0), ((HB.out.cell (World.block_lt_of_cell? w _ hw160_1)).trans hw160_1), ((HB.out.cell (World.block_lt_of_cell? w _ hw160_2)).trans hw160_2), ((HB.out.cell (World.block_lt_of_cell? w _ hw160_3)).trans hw160_3), ((HB.out.cell (World.block_lt_of_cell? w _ hw160_4)).trans hw160_4), ((HB.out.cell (World.block_lt_of_cell? w _ hw160_5)).trans hw160_5), ((HB.out.cell (World.block_lt_of_cell? w _ hw160_6)).trans hw160_6), ((HB.out.cell (World.block_lt_of_cell? w _ hw160_7)).trans hw160_7)⟩ (fun hHeld => ?_)
          clear hK K
          refine norm_ (a' := ?_) ?_ ?_
          rotate_left
          ·show Act.put _ (some 65) _ = _
           simp only [Act.put, List.setIfInBounds_toArray, List.set_cons_zero, List.set_cons_succ, i64_w, i32_w]
           rfl
          refine pS 11 (some 66) HT_ ?_
          refine done_ (done_of HT_.out (by kernel_rfl)) ?_
          try go_wp2
          go_roundg k2
          case measure => have := HJ2.out; have := HK2.out; omega
          case rel => exact ⟨(wrap64 (x5_2 + 1)), rs_, H', ⟨by have := HJ2.out; have := HK2.out; omega⟩, ⟨bU_ BK157.out⟩, ⟨bU_ BK158.out⟩, ⟨by repeat (first | (with_reducible first | exact HB.out | apply below_alloc | apply pw_below_drewN | apply below_drew1 | refine below_set ?_ GE157.out | refine below_set ?_ GE158.out) | exact HB.out)⟩⟩
         ·replace c34 := Bool.eq_false_iff.mpr c34
          subst c34
          have H1 : (some false) = some r := by rw [if_neg (show ¬ (false = true) by decide)] at H; exact H
          clear H
          have H := H1
          clear H1
          obtain rfl := Option.some.inj H
          have hnb39 := NB157_158.out
          have hnc39 := NB158_157.out
          have hcz40_0 : wr.cell? ⟨gb157, 0, none⟩ = some (.slice A0_0 l0_0.length c0_0) := (blk_cell BK157.out 0).trans rfl
          have hcz40_1 : wr.cell? ⟨gb157, 1, none⟩ = some (.int .i64 a0_1) := (blk_cell BK157.out 1).trans rfl
          have hcz40_2 : wr.cell? ⟨gb157, 2, none⟩ = some (.string a0_2) := (blk_cell BK157.out 2).trans rfl
          have hcz40_3 : wr.cell? ⟨gb157, 3, none⟩ = some (.int .i64 a0_3) := (blk_cell BK157.out 3).trans rfl
          have hcz40_4 : wr.cell? ⟨gb157, 4, none⟩ = some (.int .i64 a0_4) := (blk_cell BK157.out 4).trans rfl
          have hcz40_5 : wr.cell? ⟨gb157, 5, none⟩ = some (.int .i64 a0_5) := (blk_cell BK157.out 5).trans rfl
          have hfz40_0 := blk_frozen BK157.out 0
          have hfz40_1 := blk_frozen BK157.out 1
          have hfz40_2 := blk_frozen BK157.out 2
          have hfz40_3 := blk_frozen BK157.out 3
          have hfz40_4 := blk_frozen BK157.out 4
          have hfz40_5 := blk_frozen BK157.out 5
          try go_wp2
          have n0_ := Aside0.mk (blk_drew BK157.out)
          have n1_ := Aside0.mk (blk_drew BK158.out)
          have n2_ := Aside0.mk (below_drew1 HB.out)
          clear BK157
          clear BK158
          clear HB
          have BK157 := n0_
          have BK158 := n1_
          have HB := n2_
          clear n0_ n1_ n2_
          have p159 : 0 ≤ (x5_2 : Int) := of_decide_eq_true as_
          have q159 : x5_2 < (l0_0.length : Int) := of_decide_eq_true as_
          obtain ⟨ad159, A159_4, c159_4, e159, hx159_0, hx159_1, hx159_2, hx159_3, hx159_4, hx159_5, hx159_6, hx159_7, hl159_4, hi159_4⟩ := at_T37 HR0_0.out x5_2 p159 q159
          have hw159_7 := hx159_7
          have hw159_6 := hx159_6
          have hw159_5 := hx159_5
          have hw159_4 := hx159_4
          have hw159_3 := hx159_3
          have hw159_2 := hx159_2
          have hw159_1 := hx159_1
          have hw159_0 := hx159_0
          cases e159
          replace hx159_0 := (HB.out.cell (World.block_lt_of_cell? w _ hx159_0)).trans hx159_0
          replace hx159_1 := (HB.out.cell (World.block_lt_of_cell? w _ hx159_1)).trans hx159_1
          replace hx159_2 := (HB.out.cell (World.block_lt_of_cell? w _ hx159_2)).trans hx159_2
          replace hx159_3 := (HB.out.cell (World.block_lt_of_cell? w _ hx159_3)).trans hx159_3
          replace hx159_4 := (HB.out.cell (World.block_lt_of_cell? w _ hx159_4)).trans hx159_4
          replace hx159_5 := (HB.out.cell (World.block_lt_of_cell? w _ hx159_5)).trans hx159_5
          replace hx159_6 := (HB.out.cell (World.block_lt_of_cell? w _ hx159_6)).trans hx159_6
          replace hx159_7 := (HB.out.cell (World.block_lt_of_cell? w _ hx159_7)).trans hx159_7
          have HR159_4 := Aside0.mk hi159_4
          have HC159_4 := Aside0.mk hl159_4
          clear hi159_4 hl159_4
          replace p159 := eq_true p159
          replace q159 := eq_true q159
          have p160 : 0 ≤ (x5_2 : Int) := of_decide_eq_true as_
          have q160 : x5_2 < (l1_0.length : Int) := of_decide_eq_true as_
          obtain ⟨ad160, A160_4, c160_4, e160, hx160_0, hx160_1, hx160_2, hx160_3, hx160_4, hx160_5, hx160_6, hx160_7, hl160_4, hi160_4⟩ := at_T37 HR1_0.out x5_2 p160 q160
          have hw160_7 := hx160_7
          have hw160_6 := hx160_6
          have hw160_5 := hx160_5
          have hw160_4 := hx160_4
          have hw160_3 := hx160_3
          have hw160_2 := hx160_2
          have hw160_1 := hx160_1
          have hw160_0 := hx160_0
          cases e160
          replace hx160_0 := (HB.out.cell (World.block_lt_of_cell? w _ hx160_0)).trans hx160_0
          replace hx160_1 := (HB.out.cell (World.block_lt_of_cell? w _ hx160_1)).trans hx160_1
          replace hx160_2 := (HB.out.cell (World.block_lt_of_cell? w _ hx160_2)).trans hx160_2
          replace hx160_3 := (HB.out.cell (World.block_lt_of_cell? w _ hx160_3)).trans hx160_3
          replace hx160_4 := (HB.out.cell (World.block_lt_of_cell? w _ hx160_4)).trans hx160_4
          replace hx160_5 := (HB.out.cell (World.block_lt_of_cell? w _ hx160_5)).trans hx160_5
          replace hx160_6 := (HB.out.cell (World.block_lt_of_cell? w _ hx160_6)).trans hx160_6
          replace hx160_7 := (HB.out.cell (World.block_lt_of_cell? w _ hx160_7)).trans hx160_7
          have HR160_4 := Aside0.mk hi160_4
          have HC160_4 := Aside0.mk hl160_4
          clear hi160_4 hl160_4
          replace p160 := eq_true p160
          replace q160 := eq_true q160
          refine start_ (n := 12) (S := fun w' => w'.cell? ⟨gb157, 0, none⟩ = some (.slice (some ad159) l0_0.length c0_0) ∧ w'.cell? ⟨gb157, 1, none⟩ = some (.int .i64 a0_1) ∧ w'.cell? ⟨gb157, 2, none⟩ = some (.string a0_2) ∧ w'.cell? ⟨gb157, 3, none⟩ = some (.int .i64 a0_3) ∧ w'.cell? ⟨gb157, 4, none⟩ = some (.int .i64 a0_4) ∧ w'.cell? ⟨gb157, 5, none⟩ = some (.int .i64 a0_5) ∧ w'.cell? ⟨gb158, 0, none⟩ = some (.slice (some ad160) l1_0.length c1_0) ∧ w'.cell? ⟨gb158, 1, none⟩ = some (.int .i64 a1_1) ∧ w'.cell? ⟨gb158, 2, none⟩ = some (.string a1_2) ∧ w'.cell? ⟨gb158, 3, none⟩ = some (.int .i64 a1_3) ∧ w'.cell? ⟨gb158, 4, none⟩ = some (.int .i64 a1_4) ∧ w'.cell? ⟨gb158, 5, none⟩ = some (.int .i64 a1_5) ∧ w'.cell? (ad159.add ((x5_2).toNat * 8)) = some (.int .i64 ((rd_T37 l0_0 x5_2).f0)) ∧ w'.cell? ⟨(ad159.add ((x5_2).toNat * 8)).block, (ad159.add ((x5_2).toNat * 8)).off + 1, none⟩ = some (.int .i64 ((rd_T37 l0_0 x5_2).f1)) ∧ w'.cell? ⟨(ad159.add ((x5_2).toNat * 8)).block, (ad159.add ((x5_2).toNat * 8)).off + 2, none⟩ = some (.int .i64 ((rd_T37 l0_0 x5_2).f2)) ∧ w'.cell? ⟨(ad159.add ((x5_2).toNat * 8)).block, (ad159.add ((x5_2).toNat * 8)).off + 3, none⟩ = some (.string ((rd_T37 l0_0 x5_2).f3)) ∧ w'.cell? ⟨(ad159.add ((x5_2).toNat * 8)).block, (ad159.add ((x5_2).toNat * 8)).off + 4, none⟩ = some (.slice A159_4 ((rd_T37 l0_0 x5_2).f4).length c159_4) ∧ w'.cell? ⟨(ad159.add ((x5_2).toNat * 8)).block, (ad159.add ((x5_2).toNat * 8)).off + 5, none⟩ = some (.string ((rd_T37 l0_0 x5_2).f5)) ∧ w'.cell? ⟨(ad159.add ((x5_2).toNat * 8)).block, (ad159.add ((x5_2).toNat * 8)).off + 6, none⟩ = some (.int .i64 ((rd_T37 l0_0 x5_2).f6)) ∧ w'.cell? ⟨(ad159.add ((x5_2).toNat * 8)).block, (ad159.add ((x5_2).toNat * 8)).off + 7, none⟩ = some (.int .i64 ((rd_T37 l0_0 x5_2).f7)) ∧ w'.cell? (ad160.add ((x5_2).toNat * 8)) = some (.int .i64 ((rd_T37 l1_0 x5_2).f0)) ∧ w'.cell? ⟨(ad160.add ((x5_2).toNat * 8)).block, (ad160.add ((x5_2).toNat * 8)).off + 1, none⟩ = some (.int .i64 ((rd_T37 l1_0 x5_2).f1)) ∧ w'.cell? ⟨(ad160.add ((x5_2).toNat * 8)).block, (ad160.add ((x5_2).toNat * 8)).off + 2, none⟩ = some (.int .i64 ((rd_T37 l1_0 x5_2).f2)) ∧ w'.cell? ⟨(ad160.add ((x5_2).toNat * 8)).block, (ad160.add ((x5_2).toNat * 8)).off + 3, none⟩ = some (.string ((rd_T37 l1_0 x5_2).f3)) ∧ w'.cell? ⟨(ad160.add ((x5_2).toNat * 8)).block, (ad160.add ((x5_2).toNat * 8)).off + 4, none⟩ = some (.slice A160_4 ((rd_T37 l1_0 x5_2).f4).length c160_4) ∧ w'.cell? ⟨(ad160.add ((x5_2).toNat * 8)).block, (ad160.add ((x5_2).toNat * 8)).off + 5, none⟩ = some (.string ((rd_T37 l1_0 x5_2).f5)) ∧ w'.cell? ⟨(ad160.add ((x5_2).toNat * 8)).block, (ad160.add ((x5_2).toNat * 8)).off + 6, none⟩ = some (.int .i64 ((rd_T37 l1_0 x5_2).f6)) ∧ w'.cell? ⟨(ad160.add ((x5_2).toNat * 8)).block, (ad160.add ((x5_2).toNat * 8)).off + 7, none⟩ = some (.int .i64 ((rd_T37 l1_0 x5_2).f7))) (ds := []) #[false, false, false, false, false, false, false, false, false, false, false, false] (by kernel_rfl) rfl rfl ⟨(blk_cell BK157.out 0).trans rfl, (blk_cell BK157.out 1).trans rfl, (blk_cell BK157.out 2).trans rfl, (blk_cell BK157.out 3).trans rfl, (blk_cell BK157.out 4).trans rfl, (blk_cell BK157.out 5).trans rfl, (blk_cell BK158.out 0).trans rfl, (blk_cell BK158.out 1).trans rfl, (blk_cell BK158.out 2).trans rfl, (blk_cell BK158.out 3).trans rfl, (blk_cell BK158.out 4).trans rfl, (blk_cell BK158.out 5).trans rfl, ((HB.out.cell (World.block_lt_of_cell? w _ hw159_0)).trans hw159_0), ((HB.out.cell (World.block_lt_of_cell? w _ hw159_1)).trans hw159_1), ((HB.out.cell (World.block_lt_of_cell? w _ hw159_2)).trans hw159_2), ((HB.out.cell (World.block_lt_of_cell? w _ hw159_3)).trans hw159_3), ((HB.out.cell (World.block_lt_of_cell? w _ hw159_4)).trans hw159_4), ((HB.out.cell (World.block_lt_of_cell? w _ hw159_5)).trans hw159_5), ((HB.out.cell (World.block_lt_of_cell? w _ hw159_6)).trans hw159_6), ((HB.out.cell (World.block_lt_of_cell? w _ hw159_7)).trans hw159_7), ((HB.out.cell (World.block_lt_of_cell? w _ hw160_0)).trans hw160_0), ((HB.out.cell (World.block_lt_of_cell? w _ hw160_1)).trans hw160_1), ((HB.out.cell (World.block_lt_of_cell? w _ hw160_2)).trans hw160_2), ((HB.out.cell (World.block_lt_of_cell? w _ hw160_3)).trans hw160_3), ((HB.out.cell (World.block_lt_of_cell? w _ hw160_4)).trans hw160_4), ((HB.out.cell (World.block_lt_of_cell? w _ hw160_5)).trans hw160_5), ((HB.out.cell (World.block_lt_of_cell? w _ hw160_6)).trans hw160_6), ((HB.out.cell (World.block_lt_of_cell? w _ hw160_7)).trans hw160_7)⟩ (fun hHeld => ?_); refine with_tabW dragnetref19_Same.tab6 dragnetref19_Same.bits6 (fun HT_ HW_ => ?_)
          generalize wr.drew = w41 at BK157 BK158 HB HR159_4 HR160_4 hx159_0 hx159_1 hx159_2 hx159_3 hx159_4 hx159_5 hx159_6 hx159_7 hx160_0 hx160_1 hx160_2 hx160_3 hx160_4 hx160_5 hx160_6 hx160_7 hHeld ⊢
          refine pS 0 (some 55) HT_ ?_
          refine pS 2 (some 57) HT_ ?_
          refine pS 5 (some 60) HT_ ?_
          refine pS 7 (some 62) HT_ ?_
          refine tS 1 (some 56) HT_ HW_ hHeld ?_
          refine pS 3 (some 58) HT_ ?_
          refine tS 4 (some 59) HT_ HW_ hHeld ?_
          refine tS 6 (some 61) HT_ HW_ hHeld ?_
          refine pS 8 (some 63) HT_ ?_
          refine tS 9 (some 64) HT_ HW_ hHeld ?_
          refine one_ (i := 10) (N := some 65) #[true, true, true, true, true, true, true, true, true, true, true, false] rfl rfl (one_of HT_.out (by kernel_rfl)) (by decide) (fun K hK => ?_)
          refine goes_ Tryz.func48 (by kernel_rfl) rfl #[.agg #[.int .i64 ((rd_T37 l0_0 x5_2).f0), .int .i64 ((rd_T37 l0_0 x5_2).f1), .int .i64 ((rd_T37 l0_0 x5_2).f2), .string ((rd_T37 l0_0 x5_2).f3), .slice A159_4 ((rd_T37 l0_0 x5_2).f4).length c159_4, .string ((rd_T37 l0_0 x5_2).f5), .int .i64 ((rd_T37 l0_0 x5_2).f6), .int .i64 ((rd_T37 l0_0 x5_2).f7)], .agg #[.int .i64 ((rd_T37 l1_0 x5_2).f0), .int .i64 ((rd_T37 l1_0 x5_2).f1), .int .i64 ((rd_T37 l1_0 x5_2).f2), .string ((rd_T37 l1_0 x5_2).f3), .slice A160_4 ((rd_T37 l1_0 x5_2).f4).length c160_4, .string ((rd_T37 l1_0 x5_2).f5), .int .i64 ((rd_T37 l1_0 x5_2).f6), .int .i64 ((rd_T37 l1_0 x5_2).f7)]] (by rfl) rfl rfl mp_ ?_
          with_reducible refine (dragnetref19_SameNode.calls k2 ((rd_T37 l0_0 x5_2).f0) ((rd_T37 l0_0 x5_2).f1) ((rd_T37 l0_0 x5_2).f2) ((rd_T37 l0_0 x5_2).f3) _ _ ((rd_T37 l0_0 x5_2).f4) ((rd_T37 l0_0 x5_2).f5) ((rd_T37 l0_0 x5_2).f6) ((rd_T37 l0_0 x5_2).f7) ((rd_T37 l1_0 x5_2).f0) ((rd_T37 l1_0 x5_2).f1) ((rd_T37 l1_0 x5_2).f2) ((rd_T37 l1_0 x5_2).f3) _ _ ((rd_T37 l1_0 x5_2).f4) ((rd_T37 l1_0 x5_2).f5) ((rd_T37 l1_0 x5_2).f6) ((rd_T37 l1_0 x5_2).f7) false _ ?side1 ?side2 ?side3 ?side4 A33.out).mono ?_
          (case side1 => repeat (first | exact (Kd.C_below HR159_4.out HB.out) | (with_reducible refine Kd.C_alloc ?_ _) | (with_reducible refine Kd.C_drewN ?_ _) | (with_reducible refine Kd.C_drew ?_)))
          (case side2 => exact HC159_4.out)
          (case side3 => repeat (first | exact (Kd.C_below HR160_4.out HB.out) | (with_reducible refine Kd.C_alloc ?_ _) | (with_reducible refine Kd.C_drewN ?_ _) | (with_reducible refine Kd.C_drew ?_)))
          (case side4 => exact HC160_4.out)
          rintro e w42 ⟨rfl, hb⟩
          refine ⟨_, rfl, ?_⟩
          have n0_ := bkA BK157 hb
          have n1_ := bkA BK158 hb
          have n2_ := bsA HB hb
          clear BK157
          clear BK158
          clear HB
          have BK157 := n0_
          have BK158 := n1_
          have HB := n2_
          clear n0_ n1_ n2_
          (try clear hb)
          (try clear hb2)
          (try clear hk)
          (try clear hi)
          refine hK.out _ _ ⟨(blk_cell BK157.out 0).trans rfl, (blk_cell BK157.out 1).trans rfl, (blk_cell BK157.out 2).trans rfl, (blk_cell BK157.out 3).trans rfl, (blk_cell BK157.out 4).trans rfl, (blk_cell BK157.out 5).trans rfl, (blk_cell BK158.out 0).trans rfl, (blk_cell BK158.out 1).trans rfl, (blk_cell BK158.out 2).trans rfl, (blk_cell BK158.out 3).trans rfl, (blk_cell BK158.out 4).trans rfl, (blk_cell BK158.out 5).trans rfl, ((HB.out.cell (World.block_lt_of_cell? w _ hw159_0)).trans hw159_0), ((HB.out.cell (World.block_lt_of_cell? w _ hw159_1)).trans hw159_1), ((HB.out.cell (World.block_lt_of_cell? w _ hw159_2)).trans hw159_2), ((HB.out.cell (World.block_lt_of_cell? w _ hw159_3)).trans hw159_3), ((HB.out.cell (World.block_lt_of_cell? w _ hw159_4)).trans hw159_4), ((HB.out.cell (World.block_lt_of_cell? w _ hw159_5)).trans hw159_5), ((HB.out.cell (World.block_lt_of_cell? w _ hw159_6)).trans hw159_6), ((HB.out.cell (World.block_lt_of_cell? w _ hw159_7)).trans hw159_7), ((HB.out.cell (World.block_lt_of_cell? w _ hw160_0)).trans hw160_0), ((HB.out.cell (World.block_lt_of_cell? w _ hw160_1)).trans hw160_1), ((HB.out.cell (World.block_lt_of_cell? w _ hw160_2)).trans hw160_2), ((HB.out.cell (World.block_lt_of_cell? w _ hw160_3)).trans hw160_3), ((HB.out.cell (World.block_lt_of_cell? w _ hw160_4)).trans hw160_4), ((HB.out.cell (World.block_lt_of_cell? w _ hw160_5)).trans hw160_5), ((HB.out.cell (World.block_lt_of_cell? w _ hw160_6)).trans hw160_6), ((HB.out.cell (World.block_lt_of_cell? w _ hw160_7)).trans hw160_7)⟩ (fun hHeld => ?_)
          clear hK K
          refine norm_ (a' := ?_) ?_ ?_
          rotate_left
          ·show Act.put _ (some 65) _ = _
           simp only [Act.put, List.setIfInBounds_toArray, List.set_cons_zero, List.set_cons_succ, i64_w, i32_w]
           rfl
          refine pS 11 (some 66) HT_ ?_
          refine done_ (done_of HT_.out (by kernel_rfl)) ?_
          try go_wp2
          go_ret
          exact ⟨by first | rfl | (simp [errW_none, errW_some] <;> rfl) | (simp [*, errW_none, errW_some] <;> rfl), by repeat (first | (with_reducible first | exact HB.out | apply below_alloc | apply pw_below_drewN | apply below_drew1 | refine below_set ?_ GE157.out | refine below_set ?_ GE158.out) | exact HB.out)⟩
        ·rw [if_neg c32] at H
         exact absurd H (by simp)
       ·rw [if_neg c31] at H
        exact absurd H (by simp)
      ·rw [if_neg c30] at H
       have c30b0 : decide (x5_2 < (l0_0.length : Int)) = false := decide_eq_false c30
       clear c30
       obtain rfl := Option.some.inj H
       have hnb43 := NB157_158.out
       have hnc43 := NB158_157.out
       have hcz44_0 : wr.cell? ⟨gb157, 0, none⟩ = some (.slice A0_0 l0_0.length c0_0) := (blk_cell BK157.out 0).trans rfl
       have hcz44_1 : wr.cell? ⟨gb157, 1, none⟩ = some (.int .i64 a0_1) := (blk_cell BK157.out 1).trans rfl
       have hcz44_2 : wr.cell? ⟨gb157, 2, none⟩ = some (.string a0_2) := (blk_cell BK157.out 2).trans rfl
       have hcz44_3 : wr.cell? ⟨gb157, 3, none⟩ = some (.int .i64 a0_3) := (blk_cell BK157.out 3).trans rfl
       have hcz44_4 : wr.cell? ⟨gb157, 4, none⟩ = some (.int .i64 a0_4) := (blk_cell BK157.out 4).trans rfl
       have hcz44_5 : wr.cell? ⟨gb157, 5, none⟩ = some (.int .i64 a0_5) := (blk_cell BK157.out 5).trans rfl
       have hfz44_0 := blk_frozen BK157.out 0
       have hfz44_1 := blk_frozen BK157.out 1
       have hfz44_2 := blk_frozen BK157.out 2
       have hfz44_3 := blk_frozen BK157.out 3
       have hfz44_4 := blk_frozen BK157.out 4
       have hfz44_5 := blk_frozen BK157.out 5
       go_wp2
       go_ret
       exact ⟨by first | rfl | (simp [errW_none, errW_some] <;> rfl) | (simp [*, errW_none, errW_some] <;> rfl), by repeat (first | (with_reducible first | exact HB.out | apply below_alloc | apply pw_below_drewN | apply below_drew1 | refine below_set ?_ GE157.out | refine below_set ?_ GE158.out) | exact HB.out)⟩
end Go.Proofs.YtehaodbheifokaaGreatDoor.P
end
