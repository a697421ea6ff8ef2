-- Written by a program of this session (wip/tools/tp.py: the kit's printer, turned to take functions that were proved by hand). Lean checks it.
import Derived.Test.YtiaaicmkpjlplaaDoorP0
import Derived.Test.YtiaaicmkpjlplaaDoorP1
import Derived.Test.YtiaaicmkpjlplaaDoorP5
namespace Go.Proofs.YtiaaicmkpjlplaaDoor.P
open Go.RowKit Go.Proofs.YtiaaicmkpjlplaaDoorW.PrintWords Go.Proofs.YtiaaicmkpjlplaaDoorW.PrintLast Go.Proofs.YtiaaicmkpjlplaaDoorW.PrintMore
attribute [local go_sem] max2_int min2_int max_two min_two max_three min_three max_four min_four   -- for this text's walks alone
set_option linter.unusedVariables false
set_option linter.unusedSimpArgs false

-- LEVEL 0
/-! ### rowset_joinedAnd: function 51 -/
mutual
def rowset_joinedAnd.j0 : Nat → Bool → Int → List Int → Int → List Int → Option (Int × List Int × Int)
 | 0, _, _, _, _, _ => none
 | k + 1, x25, x237000, x237001, x238000, x238001 => if x25 = true then (some (0, ([] : List Int), 1)) else ((rowset_empty.f x237000).bind fun bt241 => (rowset_joinedAnd.l0 k bt241.2.2 (bt241.2.1.length : Int) 0 x237000 x237001 x238000 x238001 bt241.1 bt241.2.1))
def rowset_joinedAnd.l0 : Nat → Int → Int → Int → Int → List Int → Int → List Int → Int → List Int → Option (Int × List Int × Int)
 | 0, _, _, _, _, _, _, _, _, _ => none
 | k + 1, x9, x35, x36, x237000, x237001, x238000, x238001, x247000, x247001 => if x36 < x35 then (if 0 ≤ x36 then (if x36 < (x237001.length : Int) then (if x36 < (x238001.length : Int) then ((rowset_And_c1.f (rd x237001 x36) (rd x238001 x36)).bind fun t249 => (if x36 < (x247001.length : Int) then (rowset_joinedAnd.l0 k x9 x35 (wrap64 (x36 + 1)) x237000 x237001 x238000 x238001 x247000 (x247001.set (x36 : Int).toNat t249)) else (none))) else (none)) else (none)) else (none)) else (some (x247000, x247001, x9))
end
def rowset_joinedAnd.f (k : Nat) (a0_0 : Int) (l0_1 : List Int) (a1_0 : Int) (l1_1 : List Int) : Option (Int × List Int × Int) := (rowset_Formed.f a0_0 l0_1).bind fun t239 => (if t239 = true then ((rowset_Formed.f a1_0 l1_1).bind fun t240 => (if t240 = true then (rowset_joinedAnd.j0 k (a0_0 != a1_0) a0_0 l0_1 a1_0 l1_1) else (rowset_joinedAnd.j0 k true a0_0 l0_1 a1_0 l1_1))) else (rowset_joinedAnd.j0 k true a0_0 l0_1 a1_0 l1_1))
theorem rowset_joinedAnd.mono_l : ∀ k, (∀ y0 y1 y2 y3 y4, LeO (rowset_joinedAnd.j0 k y0 y1 y2 y3 y4) (rowset_joinedAnd.j0 (k + 1) y0 y1 y2 y3 y4)) ∧ (∀ y0 y1 y2 y3 y4 y5 y6 y7 y8, LeO (rowset_joinedAnd.l0 k y0 y1 y2 y3 y4 y5 y6 y7 y8) (rowset_joinedAnd.l0 (k + 1) y0 y1 y2 y3 y4 y5 y6 y7 y8))
 | 0 => ⟨fun _ _ _ _ _ r h => by simp [rowset_joinedAnd.j0] at h, fun _ _ _ _ _ _ _ _ _ r h => by simp [rowset_joinedAnd.l0] at h⟩
 | k + 1 => by
  obtain ⟨ih0, ih1⟩ := rowset_joinedAnd.mono_l k
  refine ⟨?_, ?_⟩
  ·intro y0 y1 y2 y3 y4
   unfold rowset_joinedAnd.j0
   repeat' first
   | (with_reducible exact ih0 _ _ _ _ _)
   | (with_reducible exact ih1 _ _ _ _ _ _ _ _ _)
   | (with_reducible exact LeO.refl _)
   | (with_reducible exact LeO.none _)
   | (with_reducible refine LeO.ite ?_ ?_)
   | (with_reducible refine LeO.bind ?_ (fun _ => ?_))
   | exact ih0 _ _ _ _ _
   | exact ih1 _ _ _ _ _ _ _ _ _
   | exact LeO.none _
   | refine LeO.ite ?_ ?_
   | refine LeO.bind ?_ (fun _ => ?_)
  ·intro y0 y1 y2 y3 y4 y5 y6 y7 y8
   unfold rowset_joinedAnd.l0
   repeat' first
   | (with_reducible exact ih0 _ _ _ _ _)
   | (with_reducible exact ih1 _ _ _ _ _ _ _ _ _)
   | (with_reducible exact LeO.refl _)
   | (with_reducible exact LeO.none _)
   | (with_reducible refine LeO.ite ?_ ?_)
   | (with_reducible refine LeO.bind ?_ (fun _ => ?_))
   | exact ih0 _ _ _ _ _
   | exact ih1 _ _ _ _ _ _ _ _ _
   | exact LeO.none _
   | refine LeO.ite ?_ ?_
   | refine LeO.bind ?_ (fun _ => ?_)
theorem rowset_joinedAnd.mono : ∀ a0 a1 a2 a3 k, LeO (rowset_joinedAnd.f k a0 a1 a2 a3) (rowset_joinedAnd.f (k + 1) a0 a1 a2 a3) := by
 intro a0 a1 a2 a3 k
 obtain ⟨ih0, ih1⟩ := rowset_joinedAnd.mono_l k
 unfold rowset_joinedAnd.f
 repeat' first
   | (with_reducible exact ih0 _ _ _ _ _)
   | (with_reducible exact ih1 _ _ _ _ _ _ _ _ _)
   | (with_reducible exact LeO.refl _)
   | (with_reducible exact LeO.none _)
   | (with_reducible refine LeO.ite ?_ ?_)
   | (with_reducible refine LeO.bind ?_ (fun _ => ?_))
   | exact ih0 _ _ _ _ _
   | exact ih1 _ _ _ _ _ _ _ _ _
   | exact LeO.none _
   | refine LeO.ite ?_ ?_
   | refine LeO.bind ?_ (fun _ => ?_)
def rowset_joinedAnd.T7 : Bool × List (List Nat × List Nat) := (true, [([], []), ([0], [0]), ([], []), ([], []), ([], []), ([4], [4]), ([], []), ([5, 6], [5, 6]), ([7], [7]), ([], []), ([9], [9]), ([], []), ([10, 11], [10, 11]), ([12], [12]), ([3, 8, 13], [3, 8, 13]), ([1, 2, 0, 1, 2, 3, 4, 5, 6, 7, 8, 9, 10, 11, 12, 13, 14], [1, 2]), ([15, 14, 14, 0, 1, 2, 3, 4, 5, 6, 7, 8, 9, 10, 11, 12, 13, 14], [14, 15])])
def rowset_joinedAnd.B7 : List Nat := [0, 1, 0, 0, 0, 16, 0, 112, 240, 0, 512, 0, 3584, 7680, 16376, 32767, 65535]
theorem rowset_joinedAnd.tab7 : rtab .any (opsOf Tryd.f28 7) = rowset_joinedAnd.T7 := by kernel_rfl
theorem rowset_joinedAnd.bits7 : waitsOk rowset_joinedAnd.T7.2 rowset_joinedAnd.B7 = true := by kernel_rfl
set_option maxHeartbeats 8000000 in
set_option maxRecDepth 100000 in
theorem rowset_joinedAnd.calls (k : Nat) (a0_0 : Int) (A0_1 : Option Addr) (c0_1 : Nat) (l0_1 : List Int) (a1_0 : Int) (A1_1 : Option Addr) (c1_1 : Nat) (l1_1 : List Int) (r1 : Int) (r2 : List Int) (r3 : Int) (w : World) (hr0_1 : Kd.C (Kd.int .u64) w A0_1 l0_1.length l0_1) (hc0_1 : l0_1.length ≤ c0_1) (hr1_1 : Kd.C (Kd.int .u64) w A1_1 l1_1.length l1_1) (hc1_1 : l1_1.length ≤ c1_1) (h : rowset_joinedAnd.f k a0_0 l0_1 a1_0 l1_1 = some (r1, r2, r3)) :
  Calls Tryd.prog 28 #[.agg #[.int .i64 a0_0, .slice A0_1 l0_1.length c0_1], .agg #[.int .i64 a1_0, .slice A1_1 l1_1.length c1_1], .func (.func 29) #[] #[]] w fun e w' => ∃ v1_ : Value, e = .returned (.tuple #[.agg #[.int .i64 r1, v1_], .int .i64 r3]) ∧ Kd.R (Kd.int .u64) 41 w' w.heap.size (fun _ => True) v1_ r2 ∧ Below w.heap.size w w' := by
 have hu24 := Tryd.underlying24
 have HR0_1 := Aside0.mk hr0_1
 have HC0_1 := Aside0.mk hc0_1
 clear hr0_1 hc0_1
 have HR1_1 := Aside0.mk hr1_1
 have HC1_1 := Aside0.mk hc1_1
 clear hr1_1 hc1_1
 have HB := Aside0.mk (Below.refl w.heap.size w)
 have H : ((rowset_Formed.f a0_0 l0_1).bind fun t239 => (if t239 = true then ((rowset_Formed.f a1_0 l1_1).bind fun t240 => (if t240 = true then (rowset_joinedAnd.j0 k (a0_0 != a1_0) a0_0 l0_1 a1_0 l1_1) else (rowset_joinedAnd.j0 k true a0_0 l0_1 a1_0 l1_1))) else (rowset_joinedAnd.j0 k true a0_0 l0_1 a1_0 l1_1))) = some (r1, r2, r3) := h
 clear h
 have HC3 := Aside0.mk H
 clear H
 go_enter Tryd.func28, Tryd.ntmps28
 go_upto_region 1 with (first | ((with_reducible refine gate_dst (N := 3) rfl ?_); refine box_event ?hg (N := 3) ?hd (cs := #[.int .i64 a0_0, .slice A0_1 l0_1.length c0_1]) (t := 24) ?hr ?_; (case hd => rfl); (case hg => rfl); (case hr => first | (go_simp; done) | (go_simp; rfl)); intro gb236 hg w4 hbox hb; have n0_ := bsA HB hb; have n1_ := Aside0.mk (hbox); have n2_ := szA HB hg; have n3_ := szA HB hg; clear HB; have HB := n0_; have BK236 := n1_; have GW236 := n2_; have GE236 := n3_; clear n0_ n1_ n2_ n3_; clear hb hbox hg) | ((with_reducible refine gate_dst (N := 4) rfl ?_); refine box_event ?hg (N := 4) ?hd (cs := #[.int .i64 a1_0, .slice A1_1 l1_1.length c1_1]) (t := 24) ?hr ?_; (case hd => rfl); (case hg => rfl); (case hr => first | (go_simp; done) | (go_simp; rfl)); intro gb237 hg w5 hbox hb; have n0_ := bkA BK236 hb; have n1_ := bsA HB hb; have n2_ := Aside0.mk (hbox); have n3_ := szA HB hg; have n4_ := szA HB hg; have n5_ := neA BK236 hg; have n6_ := neB BK236 hg; clear BK236; clear HB; have BK236 := n0_; have HB := n1_; have BK237 := n2_; have GW237 := n3_; have GE237 := n4_; have NB236_237 := n5_; have NB237_236 := n6_; clear n0_ n1_ n2_ n3_ n4_ n5_ n6_; clear hb hbox hg) | ((with_reducible refine gate_dst (N := 6) rfl ?_); refine box_event ?hg (N := 6) ?hd (cs := #[.int .i64 0, .slice none 0 0]) (t := 24) ?hr ?_; (case hd => rfl); (case hg => rfl); (case hr => first | (go_simp; done) | (go_simp; rfl)); intro gb238 hg w6 hbox hb; have n0_ := bkA BK236 hb; have n1_ := bkA BK237 hb; have n2_ := bsA HB hb; have n3_ := Aside0.mk (hbox); have n4_ := szA HB hg; have n5_ := szA HB hg; have n6_ := neA BK236 hg; have n7_ := neB BK236 hg; have n8_ := neA BK237 hg; have n9_ := neB BK237 hg; clear BK236; clear BK237; clear HB; have BK236 := n0_; have BK237 := n1_; have HB := n2_; have BK238 := n3_; have GW238 := n4_; have GE238 := n5_; have NB236_238 := n6_; have NB238_236 := n7_; have NB237_238 := n8_; have NB238_237 := n9_; clear n0_ n1_ n2_ n3_ n4_ n5_ n6_ n7_ n8_ n9_; clear hb hbox hg))
 (try simp only [Act.put, List.setIfInBounds_toArray, List.set_cons_zero, List.set_cons_succ])
 go_cut [25] (fun v25 wc => ∃ (kq : Nat) (x25_2 : Bool), v25 = .bool x25_2 ∧ Aside0 (rowset_joinedAnd.j0 kq x25_2 a0_0 l0_1 a1_0 l1_1 = some (r1, r2, r3)) ∧ Aside0 (kq ≤ k) ∧ Aside0 (wc.heap[gb236]? = some (.cells #[.int .i64 a0_0, (.slice A0_1 l0_1.length c0_1)] 24 (0, 0))) ∧ Aside0 (wc.heap[gb237]? = some (.cells #[.int .i64 a1_0, (.slice A1_1 l1_1.length c1_1)] 24 (0, 0))) ∧ Aside0 (wc.heap[gb238]? = some (.cells #[.int .i64 0, (.slice none 0 0)] 24 (0, 0))) ∧ Aside0 (Below w.heap.size w wc))
 case first =>
  have H := HC3.out
  clear HC3
  replace H := Option.bind_eq_some_iff.mp H
  obtain ⟨t239, A70, H⟩ := H
  replace H : (if t239 = true then ((rowset_Formed.f a1_0 l1_1).bind fun t240 => (if t240 = true then (rowset_joinedAnd.j0 k (a0_0 != a1_0) a0_0 l0_1 a1_0 l1_1) else (rowset_joinedAnd.j0 k true a0_0 l0_1 a1_0 l1_1))) else (rowset_joinedAnd.j0 k true a0_0 l0_1 a1_0 l1_1)) = some (r1, r2, r3) := H
  have A7 := Aside0.mk A70
  clear A70
  by_cases c8 : t239 = true
  ·subst c8
   have H1 : ((rowset_Formed.f a1_0 l1_1).bind fun t240 => (if t240 = true then (rowset_joinedAnd.j0 k (a0_0 != a1_0) a0_0 l0_1 a1_0 l1_1) else (rowset_joinedAnd.j0 k true a0_0 l0_1 a1_0 l1_1))) = some (r1, r2, r3) := by rw [if_pos rfl] at H; exact H
   clear H
   have H := H1
   clear H1
   replace H := Option.bind_eq_some_iff.mp H
   obtain ⟨t240, A90, H⟩ := H
   replace H : (if t240 = true then (rowset_joinedAnd.j0 k (a0_0 != a1_0) a0_0 l0_1 a1_0 l1_1) else (rowset_joinedAnd.j0 k true a0_0 l0_1 a1_0 l1_1)) = some (r1, r2, r3) := H
   have A9 := Aside0.mk A90
   clear A90
   by_cases c10 : t240 = true
   ·subst c10
    have H1 : (rowset_joinedAnd.j0 k (a0_0 != a1_0) a0_0 l0_1 a1_0 l1_1) = some (r1, r2, r3) := by rw [if_pos rfl] at H; exact H
    clear H
    have H := H1
    clear H1
    have H' := Aside0.mk H
    clear H
    have hnb11 := NB236_237.out
    have hnc11 := NB237_236.out
    have hnb12 := NB236_238.out
    have hnc12 := NB238_236.out
    have hcz13_0 : w6.cell? ⟨gb236, 0, none⟩ = some (.int .i64 a0_0) := (blk_cell BK236.out 0).trans rfl
    have hcz13_1 : w6.cell? ⟨gb236, 1, none⟩ = some (.slice A0_1 l0_1.length c0_1) := (blk_cell BK236.out 1).trans rfl
    have hfz13_0 := blk_frozen BK236.out 0
    have hfz13_1 := blk_frozen BK236.out 1
    go_wp2_with (first | ((with_reducible refine gate_callee (f := 10) rfl ?_); refine goesL_ (some 12) rfl rfl Tryd.func10 (by kernel_rfl) rfl #[.agg #[.int .i64 a0_0, .slice A0_1 l0_1.length c0_1]] rfl (by (try simp only [List.map_toArray, List.map_cons, List.map_nil]); first | done | rfl | (simp only [List.length_drop, List.length_take]; rfl)) ?_; (with_reducible refine (rowset_Formed.calls a0_0 _ _ l0_1 true _ ?side1 ?side2 A7.out).mono ?_); (case side1 => repeat (first | exact (Kd.C_below HR0_1.out HB.out) | (with_reducible refine Kd.C_alloc ?_ _) | (with_reducible refine Kd.C_drewN ?_ _) | (with_reducible refine Kd.C_drew ?_))); (case side2 => exact HC0_1.out); rintro e w14 ⟨rfl, hb⟩; refine ⟨_, rfl, ?_⟩; have n0_ := bkA BK236 hb; have n1_ := bkA BK237 hb; have n2_ := bkA BK238 hb; have n3_ := bsA HB hb; clear BK236; clear BK237; clear BK238; clear HB; have BK236 := n0_; have BK237 := n1_; have BK238 := n2_; have HB := n3_; clear n0_ n1_ n2_ n3_; (try clear hb); (try clear hb2); (try clear hk); (try clear hi); have hnb15 := NB237_238.out; have hnc15 := NB238_237.out; have hcz16_0 : w14.cell? ⟨gb237, 0, none⟩ = some (.int .i64 a1_0) := (blk_cell BK237.out 0).trans rfl; have hcz16_1 : w14.cell? ⟨gb237, 1, none⟩ = some (.slice A1_1 l1_1.length c1_1) := (blk_cell BK237.out 1).trans rfl; have hfz16_0 := blk_frozen BK237.out 0; have hfz16_1 := blk_frozen BK237.out 1) | (go_at_call 10; (with_reducible refine (rowset_Formed.calls a1_0 _ _ l1_1 true _ ?side1 ?side2 A9.out).mono ?_); (case side1 => repeat (first | exact (Kd.C_below HR1_1.out HB.out) | (with_reducible refine Kd.C_alloc ?_ _) | (with_reducible refine Kd.C_drewN ?_ _) | (with_reducible refine Kd.C_drew ?_))); (case side2 => exact HC1_1.out); rintro e w17 ⟨rfl, hb⟩; have n0_ := bkA BK236 hb; have n1_ := bkA BK237 hb; have n2_ := bkA BK238 hb; have n3_ := bsA HB hb; clear BK236; clear BK237; clear BK238; clear HB; have BK236 := n0_; have BK237 := n1_; have BK238 := n2_; have HB := n3_; clear n0_ n1_ n2_ n3_; (try clear hb); (try clear hb2); (try clear hk); (try clear hi); have hcz18_0 : w17.cell? ⟨gb236, 0, none⟩ = some (.int .i64 a0_0) := (blk_cell BK236.out 0).trans rfl; have hcz18_1 : w17.cell? ⟨gb236, 1, none⟩ = some (.slice A0_1 l0_1.length c0_1) := (blk_cell BK236.out 1).trans rfl; have hfz18_0 := blk_frozen BK236.out 0; have hfz18_1 := blk_frozen BK236.out 1; have hcz19_0 : w17.cell? ⟨gb237, 0, none⟩ = some (.int .i64 a1_0) := (blk_cell BK237.out 0).trans rfl; have hcz19_1 : w17.cell? ⟨gb237, 1, none⟩ = some (.slice A1_1 l1_1.length c1_1) := (blk_cell BK237.out 1).trans rfl; have hfz19_0 := blk_frozen BK237.out 0; have hfz19_1 := blk_frozen BK237.out 1))
    go_meet
    case rel => exact ⟨_, ((a0_0 != a1_0)), (by first | rfl | (simp; done) | (simp [*]; done)), H', ⟨by first | omega | exact Nat.le_refl _⟩, ⟨by (with_reducible repeat (first | refine blk_drewN ?_ _ | refine blk_drew ?_ | refine blk_alloc ?_ _)); exact BK236.out⟩, ⟨by (with_reducible repeat (first | refine blk_drewN ?_ _ | refine blk_drew ?_ | refine blk_alloc ?_ _)); exact BK237.out⟩, ⟨by (with_reducible repeat (first | refine blk_drewN ?_ _ | refine blk_drew ?_ | refine blk_alloc ?_ _)); exact BK238.out⟩, ⟨by repeat (first | (with_reducible first | exact HB.out | apply below_alloc | apply pw_below_drewN | apply below_drew1 | refine below_set ?_ GE236.out | refine below_set ?_ GE237.out | refine below_set ?_ GE238.out) | exact HB.out)⟩⟩
   ·replace c10 := Bool.eq_false_iff.mpr c10
    subst c10
    have H1 : (rowset_joinedAnd.j0 k true a0_0 l0_1 a1_0 l1_1) = some (r1, r2, r3) := by rw [if_neg (show ¬ (false = true) by decide)] at H; exact H
    clear H
    have H := H1
    clear H1
    have H' := Aside0.mk H
    clear H
    have hnb20 := NB236_237.out
    have hnc20 := NB237_236.out
    have hnb21 := NB236_238.out
    have hnc21 := NB238_236.out
    have hcz22_0 : w6.cell? ⟨gb236, 0, none⟩ = some (.int .i64 a0_0) := (blk_cell BK236.out 0).trans rfl
    have hcz22_1 : w6.cell? ⟨gb236, 1, none⟩ = some (.slice A0_1 l0_1.length c0_1) := (blk_cell BK236.out 1).trans rfl
    have hfz22_0 := blk_frozen BK236.out 0
    have hfz22_1 := blk_frozen BK236.out 1
    go_wp2_with (first | ((with_reducible refine gate_callee (f := 10) rfl ?_); refine goesL_ (some 12) rfl rfl Tryd.func10 (by kernel_rfl) rfl #[.agg #[.int .i64 a0_0, .slice A0_1 l0_1.length c0_1]] rfl (by (try simp only [List.map_toArray, List.map_cons, List.map_nil]); first | done | rfl | (simp only [List.length_drop, List.length_take]; rfl)) ?_; (with_reducible refine (rowset_Formed.calls a0_0 _ _ l0_1 true _ ?side1 ?side2 A7.out).mono ?_); (case side1 => repeat (first | exact (Kd.C_below HR0_1.out HB.out) | (with_reducible refine Kd.C_alloc ?_ _) | (with_reducible refine Kd.C_drewN ?_ _) | (with_reducible refine Kd.C_drew ?_))); (case side2 => exact HC0_1.out); rintro e w23 ⟨rfl, hb⟩; refine ⟨_, rfl, ?_⟩; have n0_ := bkA BK236 hb; have n1_ := bkA BK237 hb; have n2_ := bkA BK238 hb; have n3_ := bsA HB hb; clear BK236; clear BK237; clear BK238; clear HB; have BK236 := n0_; have BK237 := n1_; have BK238 := n2_; have HB := n3_; clear n0_ n1_ n2_ n3_; (try clear hb); (try clear hb2); (try clear hk); (try clear hi); have hnb24 := NB237_238.out; have hnc24 := NB238_237.out; have hcz25_0 : w23.cell? ⟨gb237, 0, none⟩ = some (.int .i64 a1_0) := (blk_cell BK237.out 0).trans rfl; have hcz25_1 : w23.cell? ⟨gb237, 1, none⟩ = some (.slice A1_1 l1_1.length c1_1) := (blk_cell BK237.out 1).trans rfl; have hfz25_0 := blk_frozen BK237.out 0; have hfz25_1 := blk_frozen BK237.out 1) | (go_at_call 10; (with_reducible refine (rowset_Formed.calls a1_0 _ _ l1_1 false _ ?side1 ?side2 A9.out).mono ?_); (case side1 => repeat (first | exact (Kd.C_below HR1_1.out HB.out) | (with_reducible refine Kd.C_alloc ?_ _) | (with_reducible refine Kd.C_drewN ?_ _) | (with_reducible refine Kd.C_drew ?_))); (case side2 => exact HC1_1.out); rintro e w26 ⟨rfl, hb⟩; have n0_ := bkA BK236 hb; have n1_ := bkA BK237 hb; have n2_ := bkA BK238 hb; have n3_ := bsA HB hb; clear BK236; clear BK237; clear BK238; clear HB; have BK236 := n0_; have BK237 := n1_; have BK238 := n2_; have HB := n3_; clear n0_ n1_ n2_ n3_; (try clear hb); (try clear hb2); (try clear hk); (try clear hi)))
    go_meet
    case rel => exact ⟨_, (true), (by first | rfl | (simp; done) | (simp [*]; done)), H', ⟨by first | omega | exact Nat.le_refl _⟩, ⟨by (with_reducible repeat (first | refine blk_drewN ?_ _ | refine blk_drew ?_ | refine blk_alloc ?_ _)); exact BK236.out⟩, ⟨by (with_reducible repeat (first | refine blk_drewN ?_ _ | refine blk_drew ?_ | refine blk_alloc ?_ _)); exact BK237.out⟩, ⟨by (with_reducible repeat (first | refine blk_drewN ?_ _ | refine blk_drew ?_ | refine blk_alloc ?_ _)); exact BK238.out⟩, ⟨by repeat (first | (with_reducible first | exact HB.out | apply below_alloc | apply pw_below_drewN | apply below_drew1 | refine below_set ?_ GE236.out | refine below_set ?_ GE237.out | refine below_set ?_ GE238.out) | exact HB.out)⟩⟩
  ·replace c8 := Bool.eq_false_iff.mpr c8
   subst c8
   have H1 : (rowset_joinedAnd.j0 k true a0_0 l0_1 a1_0 l1_1) = some (r1, r2, r3) := by rw [if_neg (show ¬ (false = true) by decide)] at H; exact H
   clear H
   have H := H1
   clear H1
   have H' := Aside0.mk H
   clear H
   have hnb27 := NB236_237.out
   have hnc27 := NB237_236.out
   have hnb28 := NB236_238.out
   have hnc28 := NB238_236.out
   have hcz29_0 : w6.cell? ⟨gb236, 0, none⟩ = some (.int .i64 a0_0) := (blk_cell BK236.out 0).trans rfl
   have hcz29_1 : w6.cell? ⟨gb236, 1, none⟩ = some (.slice A0_1 l0_1.length c0_1) := (blk_cell BK236.out 1).trans rfl
   have hfz29_0 := blk_frozen BK236.out 0
   have hfz29_1 := blk_frozen BK236.out 1
   go_wp2_with (first | ((with_reducible refine gate_callee (f := 10) rfl ?_); refine goesL_ (some 12) rfl rfl Tryd.func10 (by kernel_rfl) rfl #[.agg #[.int .i64 a0_0, .slice A0_1 l0_1.length c0_1]] rfl (by (try simp only [List.map_toArray, List.map_cons, List.map_nil]); first | done | rfl | (simp only [List.length_drop, List.length_take]; rfl)) ?_; (with_reducible refine (rowset_Formed.calls a0_0 _ _ l0_1 false _ ?side1 ?side2 A7.out).mono ?_); (case side1 => repeat (first | exact (Kd.C_below HR0_1.out HB.out) | (with_reducible refine Kd.C_alloc ?_ _) | (with_reducible refine Kd.C_drewN ?_ _) | (with_reducible refine Kd.C_drew ?_))); (case side2 => exact HC0_1.out); rintro e w30 ⟨rfl, hb⟩; refine ⟨_, rfl, ?_⟩; have n0_ := bkA BK236 hb; have n1_ := bkA BK237 hb; have n2_ := bkA BK238 hb; have n3_ := bsA HB hb; clear BK236; clear BK237; clear BK238; clear HB; have BK236 := n0_; have BK237 := n1_; have BK238 := n2_; have HB := n3_; clear n0_ n1_ n2_ n3_; (try clear hb); (try clear hb2); (try clear hk); (try clear hi)))
   go_meet
   case rel => exact ⟨_, (true), (by first | rfl | (simp; done) | (simp [*]; done)), H', ⟨by first | omega | exact Nat.le_refl _⟩, ⟨by (with_reducible repeat (first | refine blk_drewN ?_ _ | refine blk_drew ?_ | refine blk_alloc ?_ _)); exact BK236.out⟩, ⟨by (with_reducible repeat (first | refine blk_drewN ?_ _ | refine blk_drew ?_ | refine blk_alloc ?_ _)); exact BK237.out⟩, ⟨by (with_reducible repeat (first | refine blk_drewN ?_ _ | refine blk_drew ?_ | refine blk_alloc ?_ _)); exact BK238.out⟩, ⟨by repeat (first | (with_reducible first | exact HB.out | apply below_alloc | apply pw_below_drewN | apply below_drew1 | refine below_set ?_ GE236.out | refine below_set ?_ GE237.out | refine below_set ?_ GE238.out) | exact HB.out)⟩⟩
 case rest =>
  clear HC3
  try clear c1
  try clear c2
  try clear p2
  try clear c5
  try clear c8
  try clear c10
  try clear c11
  try clear c12
  try clear c15
  try clear c20
  try clear c21
  try clear c24
  try clear c27
  try clear c28
  try clear hcz13_0
  try clear hcz13_1
  try clear hcz16_0
  try clear hcz16_1
  try clear hcz18_0
  try clear hcz18_1
  try clear hcz19_0
  try clear hcz19_1
  try clear hcz22_0
  try clear hcz22_1
  try clear hcz25_0
  try clear hcz25_1
  try clear hcz29_0
  try clear hcz29_1
  try clear hfz13_0
  try clear hfz13_1
  try clear hfz16_0
  try clear hfz16_1
  try clear hfz18_0
  try clear hfz18_1
  try clear hfz19_0
  try clear hfz19_1
  try clear hfz22_0
  try clear hfz22_1
  try clear hfz25_0
  try clear hfz25_1
  try clear hfz29_0
  try clear hfz29_1
  obtain ⟨kq, x25_2, rfl, HA, HJ2, BK236, BK237, BK238, HB⟩ := hcut
  cases kq with
  | zero => exact absurd HA.out (by simp [rowset_joinedAnd.j0])
  | succ kj2 =>
   have H := HA.out
   clear HA
   simp only [rowset_joinedAnd.j0] at H
   by_cases c31 : x25_2 = true
   ·subst c31
    have H1 : (some (0, ([] : List Int), 1)) = some (r1, r2, r3) := by rw [if_pos rfl] at H; exact H
    clear H
    have H := H1
    clear H1
    simp only [Option.some.injEq, Prod.mk.injEq] at H
    obtain ⟨rfl, rfl, rfl⟩ := H
    have hnb32 := NB238_236.out
    have hnc32 := NB236_238.out
    have hnb33 := NB238_237.out
    have hnc33 := NB237_238.out
    have hcz34_0 : wc.cell? ⟨gb238, 0, none⟩ = some (.int .i64 0) := (blk_cell BK238.out 0).trans rfl
    have hcz34_1 : wc.cell? ⟨gb238, 1, none⟩ = some (.slice none 0 0) := (blk_cell BK238.out 1).trans rfl
    have hfz34_0 := blk_frozen BK238.out 0
    have hfz34_1 := blk_frozen BK238.out 1
    go_wp2
    refine bodyPost_ret (results_ct rfl _ _ gb238 24 #[.int .i64 0, .slice none 0 0] (0, 0) _ rfl (by (with_reducible repeat (first | refine blk_drewN ?_ _ | refine blk_drew ?_ | refine blk_alloc ?_ _)); refine blk_put (cs := #[.int .i64 0, .slice none 0 0]) ?_ 1 _ rfl; (with_reducible repeat (first | refine blk_drewN ?_ _ | refine blk_drew ?_ | refine blk_alloc ?_ _)); refine blk_put (cs := #[.int .i64 0, .slice none 0 0]) ?_ 0 _ rfl; (with_reducible repeat (first | refine blk_drewN ?_ _ | refine blk_drew ?_ | refine blk_alloc ?_ _)); exact BK238.out) Tryd.underlying24 rfl (by kernel_rfl)) rfl ?_
    exact ⟨_, by first | rfl | (simp [errW_none, errW_some] <;> rfl) | (simp [*, errW_none, errW_some] <;> rfl), by first | exact Kd.R_nil _ _ _ _ _ | exact Kd.N_nil _ _ _ _ _ | exact Kd.V_nil _ _ _ _ _ | exact Kd.Q_nil _ _ _ _ _ | exact Kd.S_nil _ _ _ _ _, by repeat (first | (with_reducible first | exact HB.out | apply below_alloc | apply pw_below_drewN | apply below_drew1 | refine below_set ?_ GE236.out | refine below_set ?_ GE237.out | refine below_set ?_ GE238.out) | exact HB.out)⟩
   ·replace c31 := Bool.eq_false_iff.mpr c31
    subst c31
    have H1 : ((rowset_empty.f a0_0).bind fun bt241 => (rowset_joinedAnd.l0 kj2 bt241.2.2 (bt241.2.1.length : Int) 0 a0_0 l0_1 a1_0 l1_1 bt241.1 bt241.2.1)) = some (r1, r2, r3) := by rw [if_neg (show ¬ (false = true) by decide)] at H; exact H
    clear H
    have H := H1
    clear H1
    replace H := Option.bind_eq_some_iff.mp H
    obtain ⟨⟨t241, t242, t245⟩, A350, H⟩ := H
    replace H : (rowset_joinedAnd.l0 kj2 t245 (t242.length : Int) 0 a0_0 l0_1 a1_0 l1_1 t241 t242) = some (r1, r2, r3) := H
    have A35 := Aside0.mk A350
    clear A350
    have H' := Aside0.mk H
    clear H
    have hnb36 := NB236_237.out
    have hnc36 := NB237_236.out
    have hnb37 := NB236_238.out
    have hnc37 := NB238_236.out
    have hcz38_0 : wc.cell? ⟨gb236, 0, none⟩ = some (.int .i64 a0_0) := (blk_cell BK236.out 0).trans rfl
    have hcz38_1 : wc.cell? ⟨gb236, 1, none⟩ = some (.slice A0_1 l0_1.length c0_1) := (blk_cell BK236.out 1).trans rfl
    have hfz38_0 := blk_frozen BK236.out 0
    have hfz38_1 := blk_frozen BK236.out 1
    go_wp2_with (first | ((with_reducible refine gate_callee (f := 27) rfl ?_); refine goesL_ (some 30) rfl rfl Tryd.func27 (by kernel_rfl) rfl #[.int .i64 a0_0] rfl (by (try simp only [List.map_toArray, List.map_cons, List.map_nil]); first | done | rfl | (simp only [List.length_drop, List.length_take]; rfl)) ?_; (with_reducible refine (rowset_empty.calls a0_0 t241 t242 t245 _ A35.out).mono ?_); rintro e w39 ⟨v243, rfl, ho0, hb⟩; refine ⟨_, rfl, ?_⟩; have n0_ := Aside0.mk (Kd.R_lower ho0 (below_size (by repeat (first | (with_reducible first | exact HB.out | apply below_alloc | apply pw_below_drewN | apply below_drew1 | refine below_set ?_ GE236.out | refine below_set ?_ GE237.out | refine below_set ?_ GE238.out) | exact HB.out)))); have n1_ := bkA BK236 hb; have n2_ := bkA BK237 hb; have n3_ := bkA BK238 hb; have n4_ := bsA HB hb; clear BK236; clear BK237; clear BK238; clear HB; have HO244 := n0_; have BK236 := n1_; have BK237 := n2_; have BK238 := n3_; have HB := n4_; clear n0_ n1_ n2_ n3_ n4_; (try clear hb); (try clear hb2); (try clear hk); (try clear hi); (try clear ho0)) | ((with_reducible refine gate_dst (N := 8) rfl ?_); refine box_event ?hg (N := 8) ?hd (cs := #[.int .i64 0, .slice none 0 0]) (t := 24) ?hr ?_; (case hd => rfl); (case hg => rfl); (case hr => first | (go_simp; done) | (go_simp; rfl)); intro gb246 hg w40 hbox hb; have n0_ := rbA HO244 hb; have n1_ := bkA BK236 hb; have n2_ := bkA BK237 hb; have n3_ := bkA BK238 hb; have n4_ := bsA HB hb; have n5_ := Aside0.mk (hbox); have n6_ := szA HB hg; have n7_ := szA HB hg; have n8_ := neA BK236 hg; have n9_ := neB BK236 hg; have n10_ := neA BK237 hg; have n11_ := neB BK237 hg; have n12_ := neA BK238 hg; have n13_ := neB BK238 hg; clear HO244; clear BK236; clear BK237; clear BK238; clear HB; have HO244 := n0_; have BK236 := n1_; have BK237 := n2_; have BK238 := n3_; have HB := n4_; have BK246 := n5_; have GW246 := n6_; have GE246 := n7_; have NB236_246 := n8_; have NB246_236 := n9_; have NB237_246 := n10_; have NB246_237 := n11_; have NB238_246 := n12_; have NB246_238 := n13_; clear n0_ n1_ n2_ n3_ n4_ n5_ n6_ n7_ n8_ n9_ n10_ n11_ n12_ n13_; clear hb hbox hg; have hnb41 := NB246_236.out; have hnc41 := NB236_246.out; have hnb42 := NB246_237.out; have hnc42 := NB237_246.out; have hnb43 := NB246_238.out; have hnc43 := NB238_246.out; have hcz44_0 : w40.cell? ⟨gb246, 0, none⟩ = some (.int .i64 0) := (blk_cell BK246.out 0).trans rfl; have hcz44_1 : w40.cell? ⟨gb246, 1, none⟩ = some (.slice none 0 0) := (blk_cell BK246.out 1).trans rfl; have hfz44_0 := blk_frozen BK246.out 0; have hfz44_1 := blk_frozen BK246.out 1; obtain ⟨Ao45, co45, eo45⟩ := Kd.R_slice HO244.out; subst eo45))
    go_loopg [36] kj2 (fun kq v36 w' => ∃ (x36_2 : Int) (x247001_2 : List Int) (u247001 : Value), v36 = .int .i64 x36_2 ∧ Aside0 (rowset_joinedAnd.l0 kq t245 (t242.length : Int) x36_2 a0_0 l0_1 a1_0 l1_1 t241 x247001_2 = some (r1, r2, r3)) ∧ Aside0 (kq ≤ kj2) ∧ Aside0 (Kd.R (Kd.int .u64) 41 w' w.heap.size (fun _ => True) u247001 x247001_2) ∧ Aside0 (w'.heap[gb236]? = some (.cells #[.int .i64 a0_0, (.slice A0_1 l0_1.length c0_1)] 24 (0, 0))) ∧ Aside0 (w'.heap[gb237]? = some (.cells #[.int .i64 a1_0, (.slice A1_1 l1_1.length c1_1)] 24 (0, 0))) ∧ Aside0 (w'.heap[gb238]? = some (.cells #[.int .i64 0, (.slice none 0 0)] 24 (0, 0))) ∧ Aside0 (w'.heap[gb246]? = some (.cells #[.int .i64 t241, u247001] 24 (0, 0))) ∧ Aside0 (Below w.heap.size w w'))
    case atStart => exact ⟨(0), (t242), (.slice Ao45 t242.length co45), (by first | rfl | (simp; done) | (simp [*]; done)), H', ⟨Nat.le_refl _⟩, ⟨by (with_reducible repeat (first | apply Kd.R_alloc | apply Kd.R_drewN | apply Kd.R_drew)); exact Kd.R_mono (Kd.R_far (p := ⟨gb246, 1, none⟩) (Kd.R_far (p := ⟨gb246, 0, none⟩) (Kd.R_types HO244.out BK246.out (by decide)) (fun _ hk => hk.2) (.int .i64 t241)) (fun _ hk => hk.2) (.slice Ao45 t242.length co45)) (fun _ hk => trivial)⟩, ⟨by (with_reducible repeat (first | refine blk_drewN ?_ _ | refine blk_drew ?_ | refine blk_alloc ?_ _)); refine blk_far ?_ NB236_246.out _; (with_reducible repeat (first | refine blk_drewN ?_ _ | refine blk_drew ?_ | refine blk_alloc ?_ _)); refine blk_far ?_ NB236_246.out _; (with_reducible repeat (first | refine blk_drewN ?_ _ | refine blk_drew ?_ | refine blk_alloc ?_ _)); exact BK236.out⟩, ⟨by (with_reducible repeat (first | refine blk_drewN ?_ _ | refine blk_drew ?_ | refine blk_alloc ?_ _)); refine blk_far ?_ NB237_246.out _; (with_reducible repeat (first | refine blk_drewN ?_ _ | refine blk_drew ?_ | refine blk_alloc ?_ _)); refine blk_far ?_ NB237_246.out _; (with_reducible repeat (first | refine blk_drewN ?_ _ | refine blk_drew ?_ | refine blk_alloc ?_ _)); exact BK237.out⟩, ⟨by (with_reducible repeat (first | refine blk_drewN ?_ _ | refine blk_drew ?_ | refine blk_alloc ?_ _)); refine blk_far ?_ NB238_246.out _; (with_reducible repeat (first | refine blk_drewN ?_ _ | refine blk_drew ?_ | refine blk_alloc ?_ _)); refine blk_far ?_ NB238_246.out _; (with_reducible repeat (first | refine blk_drewN ?_ _ | refine blk_drew ?_ | refine blk_alloc ?_ _)); exact BK238.out⟩, ⟨by (with_reducible repeat (first | refine blk_drewN ?_ _ | refine blk_drew ?_ | refine blk_alloc ?_ _)); refine blk_put (cs := #[.int .i64 t241, .slice none 0 0]) ?_ 1 _ rfl; (with_reducible repeat (first | refine blk_drewN ?_ _ | refine blk_drew ?_ | refine blk_alloc ?_ _)); refine blk_put (cs := #[.int .i64 0, .slice none 0 0]) ?_ 0 _ rfl; (with_reducible repeat (first | refine blk_drewN ?_ _ | refine blk_drew ?_ | refine blk_alloc ?_ _)); exact BK246.out⟩, ⟨by repeat (first | (with_reducible first | exact HB.out | apply below_alloc | apply pw_below_drewN | apply below_drew1 | refine below_set ?_ GE236.out | refine below_set ?_ GE237.out | refine below_set ?_ GE238.out | refine below_set ?_ GE246.out) | exact HB.out)⟩⟩
    case round =>
     clear H'
     try clear c1
     try clear c2
     try clear p2
     try clear c3
     try clear c4
     try clear c5
     try clear c8
     try clear c10
     try clear c11
     try clear c12
     try clear c15
     try clear c20
     try clear c21
     try clear c24
     try clear c27
     try clear c28
     try clear c31
     try clear c32
     try clear c33
     try clear c36
     try clear c37
     try clear c41
     try clear c42
     try clear c43
     try clear hcz13_0
     try clear hcz13_1
     try clear hcz16_0
     try clear hcz16_1
     try clear hcz18_0
     try clear hcz18_1
     try clear hcz19_0
     try clear hcz19_1
     try clear hcz22_0
     try clear hcz22_1
     try clear hcz25_0
     try clear hcz25_1
     try clear hcz29_0
     try clear hcz29_1
     try clear hcz34_0
     try clear hcz34_1
     try clear hcz38_0
     try clear hcz38_1
     try clear hcz44_0
     try clear hcz44_1
     try clear hfz13_0
     try clear hfz13_1
     try clear hfz16_0
     try clear hfz16_1
     try clear hfz18_0
     try clear hfz18_1
     try clear hfz19_0
     try clear hfz19_1
     try clear hfz22_0
     try clear hfz22_1
     try clear hfz25_0
     try clear hfz25_1
     try clear hfz29_0
     try clear hfz29_1
     try clear hfz34_0
     try clear hfz34_1
     try clear hfz38_0
     try clear hfz38_1
     try clear hfz44_0
     try clear hfz44_1
     try clear p2
     obtain ⟨x36_2, x247001_2, u247001, rfl, HA, HK2, HO_247001, BK236, BK237, BK238, BK246, HB⟩ := hrel
     cases gk with
     | zero => exact absurd HA.out (by simp [rowset_joinedAnd.l0])
     | succ k2 =>
      have H := HA.out
      clear HA
      simp only [rowset_joinedAnd.l0] at H
      by_cases c46 : x36_2 < (t242.length : Int)
      ·rw [if_pos c46] at H
       have c46b0 : decide (x36_2 < (t242.length : Int)) = true := decide_eq_true c46
       clear c46
       by_cases c47 : 0 ≤ x36_2
       ·rw [if_pos c47] at H
        have c47b0 : decide (0 ≤ x36_2) = true := decide_eq_true c47
        clear c47
        by_cases c48 : x36_2 < (l0_1.length : Int)
        ·rw [if_pos c48] at H
         have c48b0 : decide (x36_2 < (l0_1.length : Int)) = true := decide_eq_true c48
         clear c48
         by_cases c49 : x36_2 < (l1_1.length : Int)
         ·rw [if_pos c49] at H
          have c49b0 : decide (x36_2 < (l1_1.length : Int)) = true := decide_eq_true c49
          clear c49
          replace H := Option.bind_eq_some_iff.mp H
          obtain ⟨t249, A500, H⟩ := H
          replace H : (if x36_2 < (x247001_2.length : Int) then (rowset_joinedAnd.l0 k2 t245 (t242.length : Int) (wrap64 (x36_2 + 1)) a0_0 l0_1 a1_0 l1_1 t241 (x247001_2.set (x36_2 : Int).toNat t249)) else (none)) = some (r1, r2, r3) := H
          have A50 := Aside0.mk A500
          clear A500
          by_cases c51 : x36_2 < (x247001_2.length : Int)
          ·rw [if_pos c51] at H
           have c51b0 : decide (x36_2 < (x247001_2.length : Int)) = true := decide_eq_true c51
           clear c51
           obtain ⟨y250, hy250⟩ : ∃ y_ : List Int, y_ = (x247001_2.set (x36_2 : Int).toNat t249) := ⟨_, rfl⟩
           replace H : (rowset_joinedAnd.l0 k2 t245 (t242.length : Int) (wrap64 (x36_2 + 1)) a0_0 l0_1 a1_0 l1_1 t241 y250) = some (r1, r2, r3) := by first | (rw [hy250]; with_reducible exact H) | (have H2_ := (Option.bind_some _ _).symm.trans H; rw [hy250]; with_reducible exact H2_) | (have H2_ := (Option.bind_some _ _).symm.trans H; with_reducible exact H2_) | with_reducible exact H | (rw [hy250]; exact H) | exact H
           have Ny250 := Aside0.mk hy250
           clear hy250
           have H' := Aside0.mk H
           clear H
           try go_wp2
           have n0_ := Aside0.mk (Kd.R_drew HO_247001.out)
           have n1_ := Aside0.mk (blk_drew BK236.out)
           have n2_ := Aside0.mk (blk_drew BK237.out)
           have n3_ := Aside0.mk (blk_drew BK238.out)
           have n4_ := Aside0.mk (blk_drew BK246.out)
           have n5_ := Aside0.mk (below_drew1 HB.out)
           clear HO_247001
           clear BK236
           clear BK237
           clear BK238
           clear BK246
           clear HB
           have HO_247001 := n0_
           have BK236 := n1_
           have BK237 := n2_
           have BK238 := n3_
           have BK246 := n4_
           have HB := n5_
           clear n0_ n1_ n2_ n3_ n4_ n5_
           have p247 : 0 ≤ (x36_2 : Int) := of_decide_eq_true (by first | (with_reducible assumption) | assumption)
           have q247 : x36_2 < (l0_1.length : Int) := of_decide_eq_true (by first | (with_reducible assumption) | assumption)
           obtain ⟨ad247, e247, hx247_0⟩ := Kd.at_int HR0_1.out x36_2 p247 q247
           have hw247_0 := hx247_0
           cases e247
           replace hx247_0 := (HB.out.cell (World.block_lt_of_cell? w _ hx247_0)).trans hx247_0
           replace p247 := eq_true p247
           replace q247 := eq_true q247
           have p248 : 0 ≤ (x36_2 : Int) := of_decide_eq_true (by first | (with_reducible assumption) | assumption)
           have q248 : x36_2 < (l1_1.length : Int) := of_decide_eq_true (by first | (with_reducible assumption) | assumption)
           obtain ⟨ad248, e248, hx248_0⟩ := Kd.at_int HR1_1.out x36_2 p248 q248
           have hw248_0 := hx248_0
           cases e248
           replace hx248_0 := (HB.out.cell (World.block_lt_of_cell? w _ hx248_0)).trans hx248_0
           replace p248 := eq_true p248
           replace q248 := eq_true q248
           refine start_ (n := 17) (S := fun w' => w'.cell? ⟨gb246, 0, none⟩ = some (.int .i64 t241) ∧ w'.cell? ⟨gb246, 1, none⟩ = some (u247001) ∧ w'.cell? ⟨gb236, 0, none⟩ = some (.int .i64 a0_0) ∧ w'.cell? ⟨gb236, 1, none⟩ = some (.slice (some ad247) l0_1.length c0_1) ∧ w'.cell? ⟨gb237, 0, none⟩ = some (.int .i64 a1_0) ∧ w'.cell? ⟨gb237, 1, none⟩ = some (.slice (some ad248) l1_1.length c1_1) ∧ w'.cell? (ad247.add (x36_2).toNat) = some (.int .u64 (rd l0_1 x36_2)) ∧ w'.cell? (ad248.add (x36_2).toNat) = some (.int .u64 (rd l1_1 x36_2))) (ds := [16]) #[false, false, false, false, false, false, false, false, false, false, false, false, false, false, false, false, false] (by kernel_rfl) rfl rfl ⟨(blk_cell BK246.out 0).trans rfl, (blk_cell BK246.out 1).trans rfl, (blk_cell BK236.out 0).trans rfl, (blk_cell BK236.out 1).trans rfl, (blk_cell BK237.out 0).trans rfl, (blk_cell BK237.out 1).trans rfl, ((HB.out.cell (World.block_lt_of_cell? w _ hw247_0)).trans hw247_0), ((HB.out.cell (World.block_lt_of_cell? w _ hw248_0)).trans hw248_0)⟩ (fun hHeld => ?_); refine with_tabW rowset_joinedAnd.tab7 rowset_joinedAnd.bits7 (fun HT_ HW_ => ?_)
           generalize wr.drew = w53 at HO_247001 BK236 BK237 BK238 BK246 HB hx247_0 hx248_0 hHeld ⊢
           refine pure_ (i := 0) (N := some 39) (v := ?_) (a' := ?_) #[true, false, false, false, false, false, false, false, false, false, false, false, false, false, false, false, false] rfl rfl (any_of HT_.out (by kernel_rfl)) (fun _ _ _ h => h) (Or.inl ⟨by rfl, ?_⟩) ?_ ?_
           rotate_left
           ·intro w'
            go_simp
            with_reducible rfl
           rotate_left
           ·simp only [Act.put, List.setIfInBounds_toArray, List.set_cons_zero, List.set_cons_succ, i64_w, i32_w]
            rfl
           refine pure_ (i := 2) (N := some 41) (v := ?_) (a' := ?_) #[true, false, true, false, false, false, false, false, false, false, false, false, false, false, false, false, false] rfl rfl (any_of HT_.out (by kernel_rfl)) (fun _ _ _ h => h) (Or.inl ⟨by rfl, ?_⟩) ?_ ?_
           rotate_left
           ·intro w'
            go_simp
            with_reducible rfl
           rotate_left
           ·simp only [Act.put, List.setIfInBounds_toArray, List.set_cons_zero, List.set_cons_succ, i64_w, i32_w]
            rfl
           refine pure_ (i := 3) (N := some 42) (v := ?_) (a' := ?_) #[true, false, true, true, false, false, false, false, false, false, false, false, false, false, false, false, false] rfl rfl (any_of HT_.out (by kernel_rfl)) (fun _ _ _ h => h) (Or.inl ⟨by rfl, ?_⟩) ?_ ?_
           rotate_left
           ·intro w'
            go_simp
            with_reducible rfl
           rotate_left
           ·simp only [Act.put, List.setIfInBounds_toArray, List.set_cons_zero, List.set_cons_succ, i64_w, i32_w]
            rfl
           refine pure_ (i := 4) (N := some 43) (v := ?_) (a' := ?_) #[true, false, true, true, true, false, false, false, false, false, false, false, false, false, false, false, false] rfl rfl (any_of HT_.out (by kernel_rfl)) (fun _ _ _ h => h) (Or.inl ⟨by rfl, ?_⟩) ?_ ?_
           rotate_left
           ·intro w'
            go_simp
            with_reducible rfl
           rotate_left
           ·simp only [Act.put, List.setIfInBounds_toArray, List.set_cons_zero, List.set_cons_succ, i64_w, i32_w]
            rfl
           refine pure_ (i := 6) (N := some 45) (v := ?_) (a' := ?_) #[true, false, true, true, true, false, true, false, false, false, false, false, false, false, false, false, false] rfl rfl (any_of HT_.out (by kernel_rfl)) (fun _ _ _ h => h) (Or.inl ⟨by rfl, ?_⟩) ?_ ?_
           rotate_left
           ·intro w'
            go_simp
            with_reducible rfl
           rotate_left
           ·simp only [Act.put, List.setIfInBounds_toArray, List.set_cons_zero, List.set_cons_succ, i64_w, i32_w]
            rfl
           refine pure_ (i := 9) (N := some 48) (v := ?_) (a' := ?_) #[true, false, true, true, true, false, true, false, false, true, false, false, false, false, false, false, false] rfl rfl (any_of HT_.out (by kernel_rfl)) (fun _ _ _ h => h) (Or.inl ⟨by rfl, ?_⟩) ?_ ?_
           rotate_left
           ·intro w'
            go_simp
            with_reducible rfl
           rotate_left
           ·simp only [Act.put, List.setIfInBounds_toArray, List.set_cons_zero, List.set_cons_succ, i64_w, i32_w]
            rfl
           refine pure_ (i := 11) (N := some 50) (v := ?_) (a' := ?_) #[true, false, true, true, true, false, true, false, false, true, false, true, false, false, false, false, false] rfl rfl (any_of HT_.out (by kernel_rfl)) (fun _ _ _ h => h) (Or.inl ⟨by rfl, ?_⟩) ?_ ?_
           rotate_left
           ·intro w'
            go_simp
            with_reducible rfl
           rotate_left
           ·simp only [Act.put, List.setIfInBounds_toArray, List.set_cons_zero, List.set_cons_succ, i64_w, i32_w]
            rfl
           refine take_ (i := 1) (N := some 40) (v := ?_) (a' := ?_) #[true, true, true, true, true, false, true, false, false, true, false, true, false, false, false, false, false] rfl rfl (take_ofW HT_.out HW_.out (by kernel_rfl)) (fun _ _ _ h => h) (Or.inl ⟨by rfl, ?_⟩) hHeld ?_ ?_
           rotate_left
           ·rintro w' ⟨s0, s1, s2, s3, s4, s5, s6, s7⟩
            go_simp
            with_reducible rfl
           rotate_left
           ·simp only [Act.put, List.setIfInBounds_toArray, List.set_cons_zero, List.set_cons_succ, i64_w, i32_w]
            rfl
           refine take_ (i := 5) (N := some 44) (v := ?_) (a' := ?_) #[true, true, true, true, true, true, true, false, false, true, false, true, false, false, false, false, false] rfl rfl (take_ofW HT_.out HW_.out (by kernel_rfl)) (fun _ _ _ h => h) (Or.inl ⟨by rfl, ?_⟩) hHeld ?_ ?_
           rotate_left
           ·rintro w' ⟨s0, s1, s2, s3, s4, s5, s6, s7⟩
            go_simp
            with_reducible rfl
           rotate_left
           ·simp only [Act.put, List.setIfInBounds_toArray, List.set_cons_zero, List.set_cons_succ, i64_w, i32_w]
            rfl
           refine pure_ (i := 7) (N := some 46) (v := ?_) (a' := ?_) #[true, true, true, true, true, true, true, true, false, true, false, true, false, false, false, false, false] rfl rfl (any_of HT_.out (by kernel_rfl)) (fun _ _ _ h => h) (Or.inl ⟨by rfl, ?_⟩) ?_ ?_
           rotate_left
           ·intro w'
            go_simp
            with_reducible rfl
           rotate_left
           ·simp only [Act.put, List.setIfInBounds_toArray, List.set_cons_zero, List.set_cons_succ, i64_w, i32_w]
            rfl
           refine take_ (i := 8) (N := some 47) (v := ?_) (a' := ?_) #[true, true, true, true, true, true, true, true, true, true, false, true, false, false, false, false, false] rfl rfl (take_ofW HT_.out HW_.out (by kernel_rfl)) (fun _ _ _ h => h) (Or.inl ⟨by rfl, ?_⟩) hHeld ?_ ?_
           rotate_left
           ·rintro w' ⟨s0, s1, s2, s3, s4, s5, s6, s7⟩
            go_simp
            with_reducible rfl
           rotate_left
           ·simp only [Act.put, List.setIfInBounds_toArray, List.set_cons_zero, List.set_cons_succ, i64_w, i32_w]
            rfl
           refine take_ (i := 10) (N := some 49) (v := ?_) (a' := ?_) #[true, true, true, true, true, true, true, true, true, true, true, true, false, false, false, false, false] rfl rfl (take_ofW HT_.out HW_.out (by kernel_rfl)) (fun _ _ _ h => h) (Or.inl ⟨by rfl, ?_⟩) hHeld ?_ ?_
           rotate_left
           ·rintro w' ⟨s0, s1, s2, s3, s4, s5, s6, s7⟩
            go_simp
            with_reducible rfl
           rotate_left
           ·simp only [Act.put, List.setIfInBounds_toArray, List.set_cons_zero, List.set_cons_succ, i64_w, i32_w]
            rfl
           refine pure_ (i := 12) (N := some 51) (v := ?_) (a' := ?_) #[true, true, true, true, true, true, true, true, true, true, true, true, true, false, false, false, false] rfl rfl (any_of HT_.out (by kernel_rfl)) (fun _ _ _ h => h) (Or.inl ⟨by rfl, ?_⟩) ?_ ?_
           rotate_left
           ·intro w'
            go_simp
            with_reducible rfl
           rotate_left
           ·simp only [Act.put, List.setIfInBounds_toArray, List.set_cons_zero, List.set_cons_succ, i64_w, i32_w]
            rfl
           refine take_ (i := 13) (N := some 52) (v := ?_) (a' := ?_) #[true, true, true, true, true, true, true, true, true, true, true, true, true, true, false, false, false] rfl rfl (take_ofW HT_.out HW_.out (by kernel_rfl)) (fun _ _ _ h => h) (Or.inl ⟨by rfl, ?_⟩) hHeld ?_ ?_
           rotate_left
           ·rintro w' ⟨s0, s1, s2, s3, s4, s5, s6, s7⟩
            go_simp
            with_reducible rfl
           rotate_left
           ·simp only [Act.put, List.setIfInBounds_toArray, List.set_cons_zero, List.set_cons_succ, i64_w, i32_w]
            rfl
           refine one_ (i := 14) (N := some 53) #[true, true, true, true, true, true, true, true, true, true, true, true, true, true, true, false, false] rfl rfl (one_of HT_.out (by kernel_rfl)) (by decide) (fun K hK => ?_)
           refine goesT_ Tryd.func29 (by kernel_rfl) rfl #[.int .u64 (rd l0_1 x36_2), .int .u64 (rd l1_1 x36_2)] (by rfl) rfl rfl (by rfl) (by (try simp only [List.map_toArray, List.map_cons, List.map_nil]); first | done | rfl | (simp only [List.length_drop, List.length_take]; rfl)) ?_
           with_reducible refine (rowset_And_c1.calls (rd l0_1 x36_2) (rd l1_1 x36_2) t249 _ A50.out).mono ?_
           rintro e w' ⟨rfl, ⟨nd, rfl⟩⟩
           refine ⟨_, rfl, ?_⟩
           have p52 : 0 ≤ (x36_2 : Int) := of_decide_eq_true (by first | (with_reducible assumption) | assumption)
           have q52 : (x36_2 : Int) < ((x247001_2.length : Int) : Int) := of_decide_eq_true (by first | (with_reducible assumption) | assumption)
           obtain ⟨go52, co52, eo52, gb52, gl52, cl52, HG52⟩ := Kd.R_form HO_247001.out (by omega)
           (first | cases eo52 | (injection eo52 with ea_ en_ ec_; (first | subst ea_ | (injection ea_ with ea_; subst ea_)); subst ec_; clear en_))
           have GB52 := Aside0.mk gb52
           have GG52 := Aside0.mk HG52
           clear gb52 gl52 HG52
           obtain ⟨hx52_0, hf52_0⟩ := Kd.R_celln 0 HO_247001.out (x36_2 : Int) p52 q52
           replace p52 := eq_true p52
           replace q52 := eq_true q52
           have HP54 := Kd.R_putn HO_247001.out (x36_2 : Int) t249
           rw [← Ny250.out] at HP54
           have HQ54 := Aside0.mk HP54
           clear HP54
           refine hK.out _ _ ⟨(blk_cell BK246.out 0).trans rfl, (blk_cell BK246.out 1).trans rfl, (blk_cell BK236.out 0).trans rfl, (blk_cell BK236.out 1).trans rfl, (blk_cell BK237.out 0).trans rfl, (blk_cell BK237.out 1).trans rfl, ((HB.out.cell (World.block_lt_of_cell? w _ hw247_0)).trans hw247_0), ((HB.out.cell (World.block_lt_of_cell? w _ hw248_0)).trans hw248_0)⟩ (fun hHeld => ?_)
           clear hK K
           refine norm_ (a' := ?_) ?_ ?_
           rotate_left
           ·show Act.put _ (some 53) _ = _
            simp only [Act.put, List.setIfInBounds_toArray, List.set_cons_zero, List.set_cons_succ, i64_w, i32_w]
            rfl
           refine pure_ (i := 15) (N := some 54) (v := ?_) (a' := ?_) #[true, true, true, true, true, true, true, true, true, true, true, true, true, true, true, true, false] rfl rfl (any_of HT_.out (by kernel_rfl)) (fun _ _ _ h => h) (Or.inl ⟨by rfl, ?_⟩) ?_ ?_
           rotate_left
           ·intro w'
            go_simp
            with_reducible rfl
           rotate_left
           ·simp only [Act.put, List.setIfInBounds_toArray, List.set_cons_zero, List.set_cons_succ, i64_w, i32_w]
            rfl
           refine last_ (i := 16) (N := none) #[true, true, true, true, true, true, true, true, true, true, true, true, true, true, true, true, true] rfl rfl (one_of HT_.out (by kernel_rfl)) (by decide) (fun K hK => ?_)
           refine skip_ (w1 := ?_) (by rfl) rfl ?_ ?_
           rotate_left
           ·go_simp
            rfl
           refine hK.out _ _ ?_
           clear hK K
           refine done_ (done_of HT_.out (by kernel_rfl)) ?_
           try go_wp2
           go_roundg k2
           case measure => have := HJ2.out; have := HK2.out; omega
           case rel => exact ⟨(wrap64 (x36_2 + 1)), (y250), (.slice (some ⟨go52, 0, none⟩) x247001_2.length co52), (by first | rfl | (simp; done) | (simp [*]; done)), H', ⟨by have := HJ2.out; have := HK2.out; omega⟩, ⟨by (with_reducible repeat (first | apply Kd.R_alloc | apply Kd.R_drewN | apply Kd.R_drew)); exact HQ54.out⟩, ⟨by (with_reducible repeat (first | refine blk_drewN ?_ _ | refine blk_drew ?_ | refine blk_alloc ?_ _)); refine blk_far ?_ (by have h_ := Kd.R_ne HO_247001.out BK236.out (by decide); intro e_; exact h_ (by rw [e_]; rfl)) _; (with_reducible repeat (first | refine blk_drewN ?_ _ | refine blk_drew ?_ | refine blk_alloc ?_ _)); exact BK236.out⟩, ⟨by (with_reducible repeat (first | refine blk_drewN ?_ _ | refine blk_drew ?_ | refine blk_alloc ?_ _)); refine blk_far ?_ (by have h_ := Kd.R_ne HO_247001.out BK237.out (by decide); intro e_; exact h_ (by rw [e_]; rfl)) _; (with_reducible repeat (first | refine blk_drewN ?_ _ | refine blk_drew ?_ | refine blk_alloc ?_ _)); exact BK237.out⟩, ⟨by (with_reducible repeat (first | refine blk_drewN ?_ _ | refine blk_drew ?_ | refine blk_alloc ?_ _)); refine blk_far ?_ (by have h_ := Kd.R_ne HO_247001.out BK238.out (by decide); intro e_; exact h_ (by rw [e_]; rfl)) _; (with_reducible repeat (first | refine blk_drewN ?_ _ | refine blk_drew ?_ | refine blk_alloc ?_ _)); exact BK238.out⟩, ⟨by (with_reducible repeat (first | refine blk_drewN ?_ _ | refine blk_drew ?_ | refine blk_alloc ?_ _)); refine blk_far ?_ (by have h_ := Kd.R_ne HO_247001.out BK246.out (by decide); intro e_; exact h_ (by rw [e_]; rfl)) _; (with_reducible repeat (first | refine blk_drewN ?_ _ | refine blk_drew ?_ | refine blk_alloc ?_ _)); exact BK246.out⟩, ⟨by repeat (first | (with_reducible first | exact HB.out | apply below_alloc | apply pw_below_drewN | apply below_drew1 | refine below_set ?_ GB52.out | refine below_set ?_ GE236.out | refine below_set ?_ GE237.out | refine below_set ?_ GE238.out | refine below_set ?_ GE246.out) | exact HB.out)⟩⟩
          ·rw [if_neg c51] at H
           exact absurd H (by simp)
         ·rw [if_neg c49] at H
          exact absurd H (by simp)
        ·rw [if_neg c48] at H
         exact absurd H (by simp)
       ·rw [if_neg c47] at H
        exact absurd H (by simp)
      ·rw [if_neg c46] at H
       have c46b0 : decide (x36_2 < (t242.length : Int)) = false := decide_eq_false c46
       clear c46
       simp only [Option.some.injEq, Prod.mk.injEq] at H
       obtain ⟨rfl, rfl, rfl⟩ := H
       have hnb55 := NB246_236.out
       have hnc55 := NB236_246.out
       have hnb56 := NB246_237.out
       have hnc56 := NB237_246.out
       have hnb57 := NB246_238.out
       have hnc57 := NB238_246.out
       have hcz58_0 : wr.cell? ⟨gb246, 0, none⟩ = some (.int .i64 t241) := (blk_cell BK246.out 0).trans rfl
       have hcz58_1 : wr.cell? ⟨gb246, 1, none⟩ = some (u247001) := (blk_cell BK246.out 1).trans rfl
       have hfz58_0 := blk_frozen BK246.out 0
       have hfz58_1 := blk_frozen BK246.out 1
       have hnb59 := NB238_236.out
       have hnc59 := NB236_238.out
       have hnb60 := NB238_237.out
       have hnc60 := NB237_238.out
       have hcz61_0 : wr.cell? ⟨gb238, 0, none⟩ = some (.int .i64 0) := (blk_cell BK238.out 0).trans rfl
       have hcz61_1 : wr.cell? ⟨gb238, 1, none⟩ = some (.slice none 0 0) := (blk_cell BK238.out 1).trans rfl
       have hfz61_0 := blk_frozen BK238.out 0
       have hfz61_1 := blk_frozen BK238.out 1
       obtain ⟨Ao62, co62, eo62⟩ := Kd.R_slice HO_247001.out
       subst eo62
       go_wp2
       refine bodyPost_ret (results_ct rfl _ _ gb238 24 #[.int .i64 t241, .slice Ao62 x247001_2.length co62] (0, 0) _ rfl (by (with_reducible repeat (first | refine blk_drewN ?_ _ | refine blk_drew ?_ | refine blk_alloc ?_ _)); refine blk_put (cs := #[.int .i64 t241, .slice none 0 0]) ?_ 1 _ rfl; (with_reducible repeat (first | refine blk_drewN ?_ _ | refine blk_drew ?_ | refine blk_alloc ?_ _)); refine blk_put (cs := #[.int .i64 0, .slice none 0 0]) ?_ 0 _ rfl; (with_reducible repeat (first | refine blk_drewN ?_ _ | refine blk_drew ?_ | refine blk_alloc ?_ _)); exact BK238.out) Tryd.underlying24 rfl (by kernel_rfl)) rfl ?_
       exact ⟨_, by first | rfl | (simp [errW_none, errW_some] <;> rfl) | (simp [*, errW_none, errW_some] <;> rfl), by (with_reducible repeat (first | apply Kd.R_alloc | apply Kd.R_drewN | apply Kd.R_drew)); exact Kd.R_mono (Kd.R_far (p := ⟨gb238, 1, none⟩) (Kd.R_far (p := ⟨gb238, 0, none⟩) (Kd.R_types HO_247001.out BK238.out (by decide)) (fun _ hk => hk.2) (.int .i64 t241)) (fun _ hk => hk.2) (.slice Ao62 x247001_2.length co62)) (fun _ hk => trivial), by repeat (first | (with_reducible first | exact HB.out | apply below_alloc | apply pw_below_drewN | apply below_drew1 | refine below_set ?_ GE236.out | refine below_set ?_ GE237.out | refine below_set ?_ GE238.out | refine below_set ?_ GE246.out) | exact HB.out)⟩

-- LEVEL 0
/-! ### rowset_And: function 19 -/
def rowset_And.f (k : Nat) (a0_0 : Int) (l0_1 : List Int) (a1_0 : Int) (l1_1 : List Int) : Option (Int × List Int × Int) := (rowset_joinedAnd.f k a0_0 l0_1 a1_0 l1_1).bind fun bt254 => (some (bt254.1, bt254.2.1, bt254.2.2))
theorem rowset_And.mono : ∀ a0 a1 a2 a3 k, LeO (rowset_And.f k a0 a1 a2 a3) (rowset_And.f (k + 1) a0 a1 a2 a3) := by
 intro a0 a1 a2 a3 k
 unfold rowset_And.f
 repeat' first
   | (with_reducible exact rowset_joinedAnd.mono _ _ _ _ _)
   | (with_reducible exact LeO.refl _)
   | (with_reducible exact LeO.none _)
   | (with_reducible refine LeO.ite ?_ ?_)
   | (with_reducible refine LeO.bind ?_ (fun _ => ?_))
   | exact rowset_joinedAnd.mono _ _ _ _ _
   | exact LeO.none _
   | refine LeO.ite ?_ ?_
   | refine LeO.bind ?_ (fun _ => ?_)
set_option maxHeartbeats 8000000 in
set_option maxRecDepth 100000 in
theorem rowset_And.calls (k : Nat) (a0_0 : Int) (A0_1 : Option Addr) (c0_1 : Nat) (l0_1 : List Int) (a1_0 : Int) (A1_1 : Option Addr) (c1_1 : Nat) (l1_1 : List Int) (r1 : Int) (r2 : List Int) (r3 : Int) (w : World) (hr0_1 : Kd.C (Kd.int .u64) w A0_1 l0_1.length l0_1) (hc0_1 : l0_1.length ≤ c0_1) (hr1_1 : Kd.C (Kd.int .u64) w A1_1 l1_1.length l1_1) (hc1_1 : l1_1.length ≤ c1_1) (h : rowset_And.f k a0_0 l0_1 a1_0 l1_1 = some (r1, r2, r3)) :
  Calls Tryd.prog 19 #[.agg #[.int .i64 a0_0, .slice A0_1 l0_1.length c0_1], .agg #[.int .i64 a1_0, .slice A1_1 l1_1.length c1_1]] w fun e w' => ∃ v1_ : Value, e = .returned (.tuple #[.agg #[.int .i64 r1, v1_], .int .i64 r3]) ∧ Kd.R (Kd.int .u64) 41 w' w.heap.size (fun _ => True) v1_ r2 ∧ Below w.heap.size w w' := by
 have hu24 := Tryd.underlying24
 have HR0_1 := Aside0.mk hr0_1
 have HC0_1 := Aside0.mk hc0_1
 clear hr0_1 hc0_1
 have HR1_1 := Aside0.mk hr1_1
 have HC1_1 := Aside0.mk hc1_1
 clear hr1_1 hc1_1
 have HB := Aside0.mk (Below.refl w.heap.size w)
 have H : ((rowset_joinedAnd.f k a0_0 l0_1 a1_0 l1_1).bind fun bt254 => (some (bt254.1, bt254.2.1, bt254.2.2))) = some (r1, r2, r3) := h
 clear h
 replace H := Option.bind_eq_some_iff.mp H
 obtain ⟨⟨t254, t255, t258⟩, A30, H⟩ := H
 replace H : (some (t254, t255, t258)) = some (r1, r2, r3) := H
 have A3 := Aside0.mk A30
 clear A30
 simp only [Option.some.injEq, Prod.mk.injEq] at H
 obtain ⟨rfl, rfl, rfl⟩ := H
 go_enter Tryd.func19, Tryd.ntmps19
 go_wp2_with (first | ((with_reducible refine gate_dst (N := 2) rfl ?_); refine box_event ?hg (N := 2) ?hd (cs := #[.int .i64 a0_0, .slice A0_1 l0_1.length c0_1]) (t := 24) ?hr ?_; (case hd => rfl); (case hg => rfl); (case hr => first | (go_simp; done) | (go_simp; rfl)); intro gb251 hg w4 hbox hb; have n0_ := bsA HB hb; have n1_ := Aside0.mk (hbox); have n2_ := szA HB hg; have n3_ := szA HB hg; clear HB; have HB := n0_; have BK251 := n1_; have GW251 := n2_; have GE251 := n3_; clear n0_ n1_ n2_ n3_; clear hb hbox hg) | ((with_reducible refine gate_dst (N := 3) rfl ?_); refine box_event ?hg (N := 3) ?hd (cs := #[.int .i64 a1_0, .slice A1_1 l1_1.length c1_1]) (t := 24) ?hr ?_; (case hd => rfl); (case hg => rfl); (case hr => first | (go_simp; done) | (go_simp; rfl)); intro gb252 hg w5 hbox hb; have n0_ := bkA BK251 hb; have n1_ := bsA HB hb; have n2_ := Aside0.mk (hbox); have n3_ := szA HB hg; have n4_ := szA HB hg; have n5_ := neA BK251 hg; have n6_ := neB BK251 hg; clear BK251; clear HB; have BK251 := n0_; have HB := n1_; have BK252 := n2_; have GW252 := n3_; have GE252 := n4_; have NB251_252 := n5_; have NB252_251 := n6_; clear n0_ n1_ n2_ n3_ n4_ n5_ n6_; clear hb hbox hg) | ((with_reducible refine gate_dst (N := 4) rfl ?_); refine box_event ?hg (N := 4) ?hd (cs := #[.int .i64 0, .slice none 0 0]) (t := 24) ?hr ?_; (case hd => rfl); (case hg => rfl); (case hr => first | (go_simp; done) | (go_simp; rfl)); intro gb253 hg w6 hbox hb; have n0_ := bkA BK251 hb; have n1_ := bkA BK252 hb; have n2_ := bsA HB hb; have n3_ := Aside0.mk (hbox); have n4_ := szA HB hg; have n5_ := szA HB hg; have n6_ := neA BK251 hg; have n7_ := neB BK251 hg; have n8_ := neA BK252 hg; have n9_ := neB BK252 hg; clear BK251; clear BK252; clear HB; have BK251 := n0_; have BK252 := n1_; have HB := n2_; have BK253 := n3_; have GW253 := n4_; have GE253 := n5_; have NB251_253 := n6_; have NB253_251 := n7_; have NB252_253 := n8_; have NB253_252 := n9_; clear n0_ n1_ n2_ n3_ n4_ n5_ n6_ n7_ n8_ n9_; clear hb hbox hg; have hnb7 := NB251_252.out; have hnc7 := NB252_251.out; have hnb8 := NB251_253.out; have hnc8 := NB253_251.out; have hcz9_0 : w6.cell? ⟨gb251, 0, none⟩ = some (.int .i64 a0_0) := (blk_cell BK251.out 0).trans rfl; have hcz9_1 : w6.cell? ⟨gb251, 1, none⟩ = some (.slice A0_1 l0_1.length c0_1) := (blk_cell BK251.out 1).trans rfl; have hfz9_0 := blk_frozen BK251.out 0; have hfz9_1 := blk_frozen BK251.out 1; have hnb10 := NB252_253.out; have hnc10 := NB253_252.out; have hcz11_0 : w6.cell? ⟨gb252, 0, none⟩ = some (.int .i64 a1_0) := (blk_cell BK252.out 0).trans rfl; have hcz11_1 : w6.cell? ⟨gb252, 1, none⟩ = some (.slice A1_1 l1_1.length c1_1) := (blk_cell BK252.out 1).trans rfl; have hfz11_0 := blk_frozen BK252.out 0; have hfz11_1 := blk_frozen BK252.out 1) | ((with_reducible refine gate_callee (f := 28) rfl ?_); refine goesL_ (some 8) rfl rfl Tryd.func28 (by kernel_rfl) rfl #[.agg #[.int .i64 a0_0, .slice A0_1 l0_1.length c0_1], .agg #[.int .i64 a1_0, .slice A1_1 l1_1.length c1_1], .func (.func 29) #[] #[]] rfl (by (try simp only [List.map_toArray, List.map_cons, List.map_nil]); first | done | rfl | (simp only [List.length_drop, List.length_take]; rfl)) ?_; (with_reducible refine (rowset_joinedAnd.calls k a0_0 _ _ l0_1 a1_0 _ _ l1_1 t254 t255 t258 _ ?side1 ?side2 ?side3 ?side4 A3.out).mono ?_); (case side1 => repeat (first | exact (Kd.C_below HR0_1.out HB.out) | (with_reducible refine Kd.C_alloc ?_ _) | (with_reducible refine Kd.C_drewN ?_ _) | (with_reducible refine Kd.C_drew ?_))); (case side2 => exact HC0_1.out); (case side3 => repeat (first | exact (Kd.C_below HR1_1.out HB.out) | (with_reducible refine Kd.C_alloc ?_ _) | (with_reducible refine Kd.C_drewN ?_ _) | (with_reducible refine Kd.C_drew ?_))); (case side4 => exact HC1_1.out); rintro e w12 ⟨v256, rfl, ho0, hb⟩; refine ⟨_, rfl, ?_⟩; have n0_ := Aside0.mk (Kd.R_lower ho0 (below_size (by repeat (first | (with_reducible first | exact HB.out | apply below_alloc | apply pw_below_drewN | apply below_drew1 | refine below_set ?_ GE251.out | refine below_set ?_ GE252.out | refine below_set ?_ GE253.out) | exact HB.out)))); have n1_ := bkA BK251 hb; have n2_ := bkA BK252 hb; have n3_ := bkA BK253 hb; have n4_ := bsA HB hb; clear BK251; clear BK252; clear BK253; clear HB; have HO257 := n0_; have BK251 := n1_; have BK252 := n2_; have BK253 := n3_; have HB := n4_; clear n0_ n1_ n2_ n3_ n4_; (try clear hb); (try clear hb2); (try clear hk); (try clear hi); (try clear ho0); have hcz13_0 : w12.cell? ⟨gb253, 0, none⟩ = some (.int .i64 0) := (blk_cell BK253.out 0).trans rfl; have hcz13_1 : w12.cell? ⟨gb253, 1, none⟩ = some (.slice none 0 0) := (blk_cell BK253.out 1).trans rfl; have hfz13_0 := blk_frozen BK253.out 0; have hfz13_1 := blk_frozen BK253.out 1; obtain ⟨Ao14, co14, eo14⟩ := Kd.R_slice HO257.out; subst eo14))
 refine bodyPost_ret (results_ct rfl _ _ gb253 24 #[.int .i64 t254, .slice Ao14 t255.length co14] (0, 0) _ rfl (by (with_reducible repeat (first | refine blk_drewN ?_ _ | refine blk_drew ?_ | refine blk_alloc ?_ _)); refine blk_put (cs := #[.int .i64 t254, .slice none 0 0]) ?_ 1 _ rfl; (with_reducible repeat (first | refine blk_drewN ?_ _ | refine blk_drew ?_ | refine blk_alloc ?_ _)); refine blk_put (cs := #[.int .i64 0, .slice none 0 0]) ?_ 0 _ rfl; (with_reducible repeat (first | refine blk_drewN ?_ _ | refine blk_drew ?_ | refine blk_alloc ?_ _)); exact BK253.out) Tryd.underlying24 rfl (by kernel_rfl)) rfl ?_
 exact ⟨_, by first | rfl | (simp [errW_none, errW_some] <;> rfl) | (simp [*, errW_none, errW_some] <;> rfl), by (with_reducible repeat (first | apply Kd.R_alloc | apply Kd.R_drewN | apply Kd.R_drew)); exact Kd.R_mono (Kd.R_far (p := ⟨gb253, 1, none⟩) (Kd.R_far (p := ⟨gb253, 0, none⟩) (Kd.R_types HO257.out BK253.out (by decide)) (fun _ hk => hk.2) (.int .i64 t254)) (fun _ hk => hk.2) (.slice Ao14 t255.length co14)) (fun _ hk => trivial), by repeat (first | (with_reducible first | exact HB.out | apply below_alloc | apply pw_below_drewN | apply below_drew1 | refine below_set ?_ GE251.out | refine below_set ?_ GE252.out | refine below_set ?_ GE253.out) | exact HB.out)⟩

end Go.Proofs.YtiaaicmkpjlplaaDoor.P
