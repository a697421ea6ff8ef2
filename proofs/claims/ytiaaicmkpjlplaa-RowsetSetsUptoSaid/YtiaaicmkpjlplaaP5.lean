-- Written by a program of this session (wip/tools/tp.py: the kit's printer, turned to take functions that were proved by hand). Lean checks it.
import Derived.Test.YtiaaicmkpjlplaaP0
import Derived.Test.YtiaaicmkpjlplaaP1
import Derived.Test.YtiaaicmkpjlplaaP4
namespace Go.Proofs.Ytiaaicmkpjlplaa.P
open Go.RowKit Go.Proofs.YtiaaicmkpjlplaaW.PrintWords Go.Proofs.YtiaaicmkpjlplaaW.PrintLast Go.Proofs.YtiaaicmkpjlplaaW.PrintMore
attribute [local go_sem] max2_int min2_int max_two min_two max_three min_three max_four min_four   -- for this text's walks alone
set_option linter.unusedVariables false
set_option linter.unusedSimpArgs false

-- LEVEL 0
/-! ### rowset_joinedMinus: function 119 -/
mutual
def rowset_joinedMinus.j0 : Nat → Bool → Int → List Int → Int → List Int → Option (Int × List Int × Int)
 | 0, _, _, _, _, _ => none
 | k + 1, x25, x187000, x187001, x188000, x188001 => if x25 = true then (some (0, ([] : List Int), 1)) else ((rowset_empty.f x187000).bind fun bt191 => (rowset_joinedMinus.l0 k bt191.2.2 (bt191.2.1.length : Int) 0 x187000 x187001 x188000 x188001 bt191.1 bt191.2.1))
def rowset_joinedMinus.l0 : Nat → Int → Int → Int → Int → List Int → Int → List Int → Int → List Int → Option (Int × List Int × Int)
 | 0, _, _, _, _, _, _, _, _, _ => none
 | k + 1, x9, x35, x36, x187000, x187001, x188000, x188001, x197000, x197001 => if x36 < x35 then (if 0 ≤ x36 then (if x36 < (x187001.length : Int) then (if x36 < (x188001.length : Int) then ((rowset_Minus_c1.f (rd x187001 x36) (rd x188001 x36)).bind fun t199 => (if x36 < (x197001.length : Int) then (rowset_joinedMinus.l0 k x9 x35 (wrap64 (x36 + 1)) x187000 x187001 x188000 x188001 x197000 (x197001.set (x36 : Int).toNat t199)) else (none))) else (none)) else (none)) else (none)) else (some (x197000, x197001, x9))
end
def rowset_joinedMinus.f (k : Nat) (a0_0 : Int) (l0_1 : List Int) (a1_0 : Int) (l1_1 : List Int) : Option (Int × List Int × Int) := (rowset_Formed.f a0_0 l0_1).bind fun t189 => (if t189 = true then ((rowset_Formed.f a1_0 l1_1).bind fun t190 => (if t190 = true then (rowset_joinedMinus.j0 k (a0_0 != a1_0) a0_0 l0_1 a1_0 l1_1) else (rowset_joinedMinus.j0 k true a0_0 l0_1 a1_0 l1_1))) else (rowset_joinedMinus.j0 k true a0_0 l0_1 a1_0 l1_1))
theorem rowset_joinedMinus.mono_l : ∀ k, (∀ y0 y1 y2 y3 y4, LeO (rowset_joinedMinus.j0 k y0 y1 y2 y3 y4) (rowset_joinedMinus.j0 (k + 1) y0 y1 y2 y3 y4)) ∧ (∀ y0 y1 y2 y3 y4 y5 y6 y7 y8, LeO (rowset_joinedMinus.l0 k y0 y1 y2 y3 y4 y5 y6 y7 y8) (rowset_joinedMinus.l0 (k + 1) y0 y1 y2 y3 y4 y5 y6 y7 y8))
 | 0 => ⟨fun _ _ _ _ _ r h => by simp [rowset_joinedMinus.j0] at h, fun _ _ _ _ _ _ _ _ _ r h => by simp [rowset_joinedMinus.l0] at h⟩
 | k + 1 => by
  obtain ⟨ih0, ih1⟩ := rowset_joinedMinus.mono_l k
  refine ⟨?_, ?_⟩
  ·intro y0 y1 y2 y3 y4
   unfold rowset_joinedMinus.j0
   repeat' first
   | (with_reducible exact ih0 _ _ _ _ _)
   | (with_reducible exact ih1 _ _ _ _ _ _ _ _ _)
   | (with_reducible exact LeO.refl _)
   | (with_reducible exact LeO.none _)
   | (with_reducible refine LeO.ite ?_ ?_)
   | (with_reducible refine LeO.bind ?_ (fun _ => ?_))
   | exact ih0 _ _ _ _ _
   | exact ih1 _ _ _ _ _ _ _ _ _
   | exact LeO.none _
   | refine LeO.ite ?_ ?_
   | refine LeO.bind ?_ (fun _ => ?_)
  ·intro y0 y1 y2 y3 y4 y5 y6 y7 y8
   unfold rowset_joinedMinus.l0
   repeat' first
   | (with_reducible exact ih0 _ _ _ _ _)
   | (with_reducible exact ih1 _ _ _ _ _ _ _ _ _)
   | (with_reducible exact LeO.refl _)
   | (with_reducible exact LeO.none _)
   | (with_reducible refine LeO.ite ?_ ?_)
   | (with_reducible refine LeO.bind ?_ (fun _ => ?_))
   | exact ih0 _ _ _ _ _
   | exact ih1 _ _ _ _ _ _ _ _ _
   | exact LeO.none _
   | refine LeO.ite ?_ ?_
   | refine LeO.bind ?_ (fun _ => ?_)
theorem rowset_joinedMinus.mono : ∀ a0 a1 a2 a3 k, LeO (rowset_joinedMinus.f k a0 a1 a2 a3) (rowset_joinedMinus.f (k + 1) a0 a1 a2 a3) := by
 intro a0 a1 a2 a3 k
 obtain ⟨ih0, ih1⟩ := rowset_joinedMinus.mono_l k
 unfold rowset_joinedMinus.f
 repeat' first
   | (with_reducible exact ih0 _ _ _ _ _)
   | (with_reducible exact ih1 _ _ _ _ _ _ _ _ _)
   | (with_reducible exact LeO.refl _)
   | (with_reducible exact LeO.none _)
   | (with_reducible refine LeO.ite ?_ ?_)
   | (with_reducible refine LeO.bind ?_ (fun _ => ?_))
   | exact ih0 _ _ _ _ _
   | exact ih1 _ _ _ _ _ _ _ _ _
   | exact LeO.none _
   | refine LeO.ite ?_ ?_
   | refine LeO.bind ?_ (fun _ => ?_)
def rowset_joinedMinus.T7 : Bool × List (List Nat × List Nat) := (true, [([], []), ([0], [0]), ([], []), ([], []), ([], []), ([4], [4]), ([], []), ([5, 6], [5, 6]), ([7], [7]), ([], []), ([9], [9]), ([], []), ([10, 11], [10, 11]), ([12], [12]), ([3, 8, 13], [3, 8, 13]), ([1, 2, 0, 1, 2, 3, 4, 5, 6, 7, 8, 9, 10, 11, 12, 13, 14], [1, 2]), ([15, 14, 14, 0, 1, 2, 3, 4, 5, 6, 7, 8, 9, 10, 11, 12, 13, 14], [14, 15])])
def rowset_joinedMinus.B7 : List Nat := [0, 1, 0, 0, 0, 16, 0, 112, 240, 0, 512, 0, 3584, 7680, 16376, 32767, 65535]
theorem rowset_joinedMinus.tab7 : rtab .any (opsOf Try.f46 7) = rowset_joinedMinus.T7 := by kernel_rfl
theorem rowset_joinedMinus.bits7 : waitsOk rowset_joinedMinus.T7.2 rowset_joinedMinus.B7 = true := by kernel_rfl
set_option maxHeartbeats 8000000 in
set_option maxRecDepth 100000 in
theorem rowset_joinedMinus.calls (k : Nat) (a0_0 : Int) (A0_1 : Option Addr) (c0_1 : Nat) (l0_1 : List Int) (a1_0 : Int) (A1_1 : Option Addr) (c1_1 : Nat) (l1_1 : List Int) (r1 : Int) (r2 : List Int) (r3 : Int) (w : World) (hr0_1 : Kd.C (Kd.int .u64) w A0_1 l0_1.length l0_1) (hc0_1 : l0_1.length ≤ c0_1) (hr1_1 : Kd.C (Kd.int .u64) w A1_1 l1_1.length l1_1) (hc1_1 : l1_1.length ≤ c1_1) (h : rowset_joinedMinus.f k a0_0 l0_1 a1_0 l1_1 = some (r1, r2, r3)) :
  Calls Try.prog 46 #[.agg #[.int .i64 a0_0, .slice A0_1 l0_1.length c0_1], .agg #[.int .i64 a1_0, .slice A1_1 l1_1.length c1_1], .func (.func 49) #[] #[]] w fun e w' => ∃ v1_ : Value, e = .returned (.tuple #[.agg #[.int .i64 r1, v1_], .int .i64 r3]) ∧ Kd.R (Kd.int .u64) 66 w' w.heap.size (fun _ => True) v1_ r2 ∧ Below w.heap.size w w' := by
 have hu38 := Try.underlying38
 have HR0_1 := Aside0.mk hr0_1
 have HC0_1 := Aside0.mk hc0_1
 clear hr0_1 hc0_1
 have HR1_1 := Aside0.mk hr1_1
 have HC1_1 := Aside0.mk hc1_1
 clear hr1_1 hc1_1
 have HB := Aside0.mk (Below.refl w.heap.size w)
 have H : ((rowset_Formed.f a0_0 l0_1).bind fun t189 => (if t189 = true then ((rowset_Formed.f a1_0 l1_1).bind fun t190 => (if t190 = true then (rowset_joinedMinus.j0 k (a0_0 != a1_0) a0_0 l0_1 a1_0 l1_1) else (rowset_joinedMinus.j0 k true a0_0 l0_1 a1_0 l1_1))) else (rowset_joinedMinus.j0 k true a0_0 l0_1 a1_0 l1_1))) = some (r1, r2, r3) := h
 clear h
 have HC3 := Aside0.mk H
 clear H
 go_enter Try.func46, Try.ntmps46
 go_upto_region 1 with (first | ((with_reducible refine gate_dst (N := 3) rfl ?_); refine box_event ?hg (N := 3) ?hd (cs := #[.int .i64 a0_0, .slice A0_1 l0_1.length c0_1]) (t := 38) ?hr ?_; (case hd => rfl); (case hg => rfl); (case hr => first | (go_simp; done) | (go_simp; rfl)); intro gb186 hg w4 hbox hb; have n0_ := bsA HB hb; have n1_ := Aside0.mk (hbox); have n2_ := szA HB hg; have n3_ := szA HB hg; clear HB; have HB := n0_; have BK186 := n1_; have GW186 := n2_; have GE186 := n3_; clear n0_ n1_ n2_ n3_; clear hb hbox hg) | ((with_reducible refine gate_dst (N := 4) rfl ?_); refine box_event ?hg (N := 4) ?hd (cs := #[.int .i64 a1_0, .slice A1_1 l1_1.length c1_1]) (t := 38) ?hr ?_; (case hd => rfl); (case hg => rfl); (case hr => first | (go_simp; done) | (go_simp; rfl)); intro gb187 hg w5 hbox hb; have n0_ := bkA BK186 hb; have n1_ := bsA HB hb; have n2_ := Aside0.mk (hbox); have n3_ := szA HB hg; have n4_ := szA HB hg; have n5_ := neA BK186 hg; have n6_ := neB BK186 hg; clear BK186; clear HB; have BK186 := n0_; have HB := n1_; have BK187 := n2_; have GW187 := n3_; have GE187 := n4_; have NB186_187 := n5_; have NB187_186 := n6_; clear n0_ n1_ n2_ n3_ n4_ n5_ n6_; clear hb hbox hg) | ((with_reducible refine gate_dst (N := 6) rfl ?_); refine box_event ?hg (N := 6) ?hd (cs := #[.int .i64 0, .slice none 0 0]) (t := 38) ?hr ?_; (case hd => rfl); (case hg => rfl); (case hr => first | (go_simp; done) | (go_simp; rfl)); intro gb188 hg w6 hbox hb; have n0_ := bkA BK186 hb; have n1_ := bkA BK187 hb; have n2_ := bsA HB hb; have n3_ := Aside0.mk (hbox); have n4_ := szA HB hg; have n5_ := szA HB hg; have n6_ := neA BK186 hg; have n7_ := neB BK186 hg; have n8_ := neA BK187 hg; have n9_ := neB BK187 hg; clear BK186; clear BK187; clear HB; have BK186 := n0_; have BK187 := n1_; have HB := n2_; have BK188 := n3_; have GW188 := n4_; have GE188 := n5_; have NB186_188 := n6_; have NB188_186 := n7_; have NB187_188 := n8_; have NB188_187 := n9_; clear n0_ n1_ n2_ n3_ n4_ n5_ n6_ n7_ n8_ n9_; clear hb hbox hg))
 (try simp only [Act.put, List.setIfInBounds_toArray, List.set_cons_zero, List.set_cons_succ])
 go_cut [25] (fun v25 wc => ∃ (kq : Nat) (x25_2 : Bool), v25 = .bool x25_2 ∧ Aside0 (rowset_joinedMinus.j0 kq x25_2 a0_0 l0_1 a1_0 l1_1 = some (r1, r2, r3)) ∧ Aside0 (kq ≤ k) ∧ Aside0 (wc.heap[gb186]? = some (.cells #[.int .i64 a0_0, (.slice A0_1 l0_1.length c0_1)] 38 (0, 0))) ∧ Aside0 (wc.heap[gb187]? = some (.cells #[.int .i64 a1_0, (.slice A1_1 l1_1.length c1_1)] 38 (0, 0))) ∧ Aside0 (wc.heap[gb188]? = some (.cells #[.int .i64 0, (.slice none 0 0)] 38 (0, 0))) ∧ Aside0 (Below w.heap.size w wc))
 case first =>
  have H := HC3.out
  clear HC3
  replace H := Option.bind_eq_some_iff.mp H
  obtain ⟨t189, A70, H⟩ := H
  replace H : (if t189 = true then ((rowset_Formed.f a1_0 l1_1).bind fun t190 => (if t190 = true then (rowset_joinedMinus.j0 k (a0_0 != a1_0) a0_0 l0_1 a1_0 l1_1) else (rowset_joinedMinus.j0 k true a0_0 l0_1 a1_0 l1_1))) else (rowset_joinedMinus.j0 k true a0_0 l0_1 a1_0 l1_1)) = some (r1, r2, r3) := H
  have A7 := Aside0.mk A70
  clear A70
  by_cases c8 : t189 = true
  ·subst c8
   have H1 : ((rowset_Formed.f a1_0 l1_1).bind fun t190 => (if t190 = true then (rowset_joinedMinus.j0 k (a0_0 != a1_0) a0_0 l0_1 a1_0 l1_1) else (rowset_joinedMinus.j0 k true a0_0 l0_1 a1_0 l1_1))) = some (r1, r2, r3) := by rw [if_pos rfl] at H; exact H
   clear H
   have H := H1
   clear H1
   replace H := Option.bind_eq_some_iff.mp H
   obtain ⟨t190, A90, H⟩ := H
   replace H : (if t190 = true then (rowset_joinedMinus.j0 k (a0_0 != a1_0) a0_0 l0_1 a1_0 l1_1) else (rowset_joinedMinus.j0 k true a0_0 l0_1 a1_0 l1_1)) = some (r1, r2, r3) := H
   have A9 := Aside0.mk A90
   clear A90
   by_cases c10 : t190 = true
   ·subst c10
    have H1 : (rowset_joinedMinus.j0 k (a0_0 != a1_0) a0_0 l0_1 a1_0 l1_1) = some (r1, r2, r3) := by rw [if_pos rfl] at H; exact H
    clear H
    have H := H1
    clear H1
    have H' := Aside0.mk H
    clear H
    have hnb11 := NB186_187.out
    have hnc11 := NB187_186.out
    have hnb12 := NB186_188.out
    have hnc12 := NB188_186.out
    have hcz13_0 : w6.cell? ⟨gb186, 0, none⟩ = some (.int .i64 a0_0) := (blk_cell BK186.out 0).trans rfl
    have hcz13_1 : w6.cell? ⟨gb186, 1, none⟩ = some (.slice A0_1 l0_1.length c0_1) := (blk_cell BK186.out 1).trans rfl
    have hfz13_0 := blk_frozen BK186.out 0
    have hfz13_1 := blk_frozen BK186.out 1
    go_wp2_with (first | ((with_reducible refine gate_callee (f := 53) rfl ?_); refine goesL_ (some 12) rfl rfl Try.func53 (by kernel_rfl) rfl #[.agg #[.int .i64 a0_0, .slice A0_1 l0_1.length c0_1]] rfl (by (try simp only [List.map_toArray, List.map_cons, List.map_nil]); first | done | rfl | (simp only [List.length_drop, List.length_take]; rfl)) ?_; (with_reducible refine (rowset_Formed.calls a0_0 _ _ l0_1 true _ ?side1 ?side2 A7.out).mono ?_); (case side1 => repeat (first | exact (Kd.C_below HR0_1.out HB.out) | (with_reducible refine Kd.C_alloc ?_ _) | (with_reducible refine Kd.C_drewN ?_ _) | (with_reducible refine Kd.C_drew ?_))); (case side2 => exact HC0_1.out); rintro e w14 ⟨rfl, hb⟩; refine ⟨_, rfl, ?_⟩; have n0_ := bkA BK186 hb; have n1_ := bkA BK187 hb; have n2_ := bkA BK188 hb; have n3_ := bsA HB hb; clear BK186; clear BK187; clear BK188; clear HB; have BK186 := n0_; have BK187 := n1_; have BK188 := n2_; have HB := n3_; clear n0_ n1_ n2_ n3_; (try clear hb); (try clear hb2); (try clear hk); (try clear hi); have hnb15 := NB187_188.out; have hnc15 := NB188_187.out; have hcz16_0 : w14.cell? ⟨gb187, 0, none⟩ = some (.int .i64 a1_0) := (blk_cell BK187.out 0).trans rfl; have hcz16_1 : w14.cell? ⟨gb187, 1, none⟩ = some (.slice A1_1 l1_1.length c1_1) := (blk_cell BK187.out 1).trans rfl; have hfz16_0 := blk_frozen BK187.out 0; have hfz16_1 := blk_frozen BK187.out 1) | (go_at_call 53; (with_reducible refine (rowset_Formed.calls a1_0 _ _ l1_1 true _ ?side1 ?side2 A9.out).mono ?_); (case side1 => repeat (first | exact (Kd.C_below HR1_1.out HB.out) | (with_reducible refine Kd.C_alloc ?_ _) | (with_reducible refine Kd.C_drewN ?_ _) | (with_reducible refine Kd.C_drew ?_))); (case side2 => exact HC1_1.out); rintro e w17 ⟨rfl, hb⟩; have n0_ := bkA BK186 hb; have n1_ := bkA BK187 hb; have n2_ := bkA BK188 hb; have n3_ := bsA HB hb; clear BK186; clear BK187; clear BK188; clear HB; have BK186 := n0_; have BK187 := n1_; have BK188 := n2_; have HB := n3_; clear n0_ n1_ n2_ n3_; (try clear hb); (try clear hb2); (try clear hk); (try clear hi); have hcz18_0 : w17.cell? ⟨gb186, 0, none⟩ = some (.int .i64 a0_0) := (blk_cell BK186.out 0).trans rfl; have hcz18_1 : w17.cell? ⟨gb186, 1, none⟩ = some (.slice A0_1 l0_1.length c0_1) := (blk_cell BK186.out 1).trans rfl; have hfz18_0 := blk_frozen BK186.out 0; have hfz18_1 := blk_frozen BK186.out 1; have hcz19_0 : w17.cell? ⟨gb187, 0, none⟩ = some (.int .i64 a1_0) := (blk_cell BK187.out 0).trans rfl; have hcz19_1 : w17.cell? ⟨gb187, 1, none⟩ = some (.slice A1_1 l1_1.length c1_1) := (blk_cell BK187.out 1).trans rfl; have hfz19_0 := blk_frozen BK187.out 0; have hfz19_1 := blk_frozen BK187.out 1))
    go_meet
    case rel => exact ⟨_, ((a0_0 != a1_0)), (by first | rfl | (simp; done) | (simp [*]; done)), H', ⟨by first | omega | exact Nat.le_refl _⟩, ⟨by (with_reducible repeat (first | refine blk_drewN ?_ _ | refine blk_drew ?_ | refine blk_alloc ?_ _)); exact BK186.out⟩, ⟨by (with_reducible repeat (first | refine blk_drewN ?_ _ | refine blk_drew ?_ | refine blk_alloc ?_ _)); exact BK187.out⟩, ⟨by (with_reducible repeat (first | refine blk_drewN ?_ _ | refine blk_drew ?_ | refine blk_alloc ?_ _)); exact BK188.out⟩, ⟨by repeat (first | (with_reducible first | exact HB.out | apply below_alloc | apply pw_below_drewN | apply below_drew1 | refine below_set ?_ GE186.out | refine below_set ?_ GE187.out | refine below_set ?_ GE188.out) | exact HB.out)⟩⟩
   ·replace c10 := Bool.eq_false_iff.mpr c10
    subst c10
    have H1 : (rowset_joinedMinus.j0 k true a0_0 l0_1 a1_0 l1_1) = some (r1, r2, r3) := by rw [if_neg (show ¬ (false = true) by decide)] at H; exact H
    clear H
    have H := H1
    clear H1
    have H' := Aside0.mk H
    clear H
    have hnb20 := NB186_187.out
    have hnc20 := NB187_186.out
    have hnb21 := NB186_188.out
    have hnc21 := NB188_186.out
    have hcz22_0 : w6.cell? ⟨gb186, 0, none⟩ = some (.int .i64 a0_0) := (blk_cell BK186.out 0).trans rfl
    have hcz22_1 : w6.cell? ⟨gb186, 1, none⟩ = some (.slice A0_1 l0_1.length c0_1) := (blk_cell BK186.out 1).trans rfl
    have hfz22_0 := blk_frozen BK186.out 0
    have hfz22_1 := blk_frozen BK186.out 1
    go_wp2_with (first | ((with_reducible refine gate_callee (f := 53) rfl ?_); refine goesL_ (some 12) rfl rfl Try.func53 (by kernel_rfl) rfl #[.agg #[.int .i64 a0_0, .slice A0_1 l0_1.length c0_1]] rfl (by (try simp only [List.map_toArray, List.map_cons, List.map_nil]); first | done | rfl | (simp only [List.length_drop, List.length_take]; rfl)) ?_; (with_reducible refine (rowset_Formed.calls a0_0 _ _ l0_1 true _ ?side1 ?side2 A7.out).mono ?_); (case side1 => repeat (first | exact (Kd.C_below HR0_1.out HB.out) | (with_reducible refine Kd.C_alloc ?_ _) | (with_reducible refine Kd.C_drewN ?_ _) | (with_reducible refine Kd.C_drew ?_))); (case side2 => exact HC0_1.out); rintro e w23 ⟨rfl, hb⟩; refine ⟨_, rfl, ?_⟩; have n0_ := bkA BK186 hb; have n1_ := bkA BK187 hb; have n2_ := bkA BK188 hb; have n3_ := bsA HB hb; clear BK186; clear BK187; clear BK188; clear HB; have BK186 := n0_; have BK187 := n1_; have BK188 := n2_; have HB := n3_; clear n0_ n1_ n2_ n3_; (try clear hb); (try clear hb2); (try clear hk); (try clear hi); have hnb24 := NB187_188.out; have hnc24 := NB188_187.out; have hcz25_0 : w23.cell? ⟨gb187, 0, none⟩ = some (.int .i64 a1_0) := (blk_cell BK187.out 0).trans rfl; have hcz25_1 : w23.cell? ⟨gb187, 1, none⟩ = some (.slice A1_1 l1_1.length c1_1) := (blk_cell BK187.out 1).trans rfl; have hfz25_0 := blk_frozen BK187.out 0; have hfz25_1 := blk_frozen BK187.out 1) | (go_at_call 53; (with_reducible refine (rowset_Formed.calls a1_0 _ _ l1_1 false _ ?side1 ?side2 A9.out).mono ?_); (case side1 => repeat (first | exact (Kd.C_below HR1_1.out HB.out) | (with_reducible refine Kd.C_alloc ?_ _) | (with_reducible refine Kd.C_drewN ?_ _) | (with_reducible refine Kd.C_drew ?_))); (case side2 => exact HC1_1.out); rintro e w26 ⟨rfl, hb⟩; have n0_ := bkA BK186 hb; have n1_ := bkA BK187 hb; have n2_ := bkA BK188 hb; have n3_ := bsA HB hb; clear BK186; clear BK187; clear BK188; clear HB; have BK186 := n0_; have BK187 := n1_; have BK188 := n2_; have HB := n3_; clear n0_ n1_ n2_ n3_; (try clear hb); (try clear hb2); (try clear hk); (try clear hi)))
    go_meet
    case rel => exact ⟨_, (true), (by first | rfl | (simp; done) | (simp [*]; done)), H', ⟨by first | omega | exact Nat.le_refl _⟩, ⟨by (with_reducible repeat (first | refine blk_drewN ?_ _ | refine blk_drew ?_ | refine blk_alloc ?_ _)); exact BK186.out⟩, ⟨by (with_reducible repeat (first | refine blk_drewN ?_ _ | refine blk_drew ?_ | refine blk_alloc ?_ _)); exact BK187.out⟩, ⟨by (with_reducible repeat (first | refine blk_drewN ?_ _ | refine blk_drew ?_ | refine blk_alloc ?_ _)); exact BK188.out⟩, ⟨by repeat (first | (with_reducible first | exact HB.out | apply below_alloc | apply pw_below_drewN | apply below_drew1 | refine below_set ?_ GE186.out | refine below_set ?_ GE187.out | refine below_set ?_ GE188.out) | exact HB.out)⟩⟩
  ·replace c8 := Bool.eq_false_iff.mpr c8
   subst c8
   have H1 : (rowset_joinedMinus.j0 k true a0_0 l0_1 a1_0 l1_1) = some (r1, r2, r3) := by rw [if_neg (show ¬ (false = true) by decide)] at H; exact H
   clear H
   have H := H1
   clear H1
   have H' := Aside0.mk H
   clear H
   have hnb27 := NB186_187.out
   have hnc27 := NB187_186.out
   have hnb28 := NB186_188.out
   have hnc28 := NB188_186.out
   have hcz29_0 : w6.cell? ⟨gb186, 0, none⟩ = some (.int .i64 a0_0) := (blk_cell BK186.out 0).trans rfl
   have hcz29_1 : w6.cell? ⟨gb186, 1, none⟩ = some (.slice A0_1 l0_1.length c0_1) := (blk_cell BK186.out 1).trans rfl
   have hfz29_0 := blk_frozen BK186.out 0
   have hfz29_1 := blk_frozen BK186.out 1
   go_wp2_with (first | ((with_reducible refine gate_callee (f := 53) rfl ?_); refine goesL_ (some 12) rfl rfl Try.func53 (by kernel_rfl) rfl #[.agg #[.int .i64 a0_0, .slice A0_1 l0_1.length c0_1]] rfl (by (try simp only [List.map_toArray, List.map_cons, List.map_nil]); first | done | rfl | (simp only [List.length_drop, List.length_take]; rfl)) ?_; (with_reducible refine (rowset_Formed.calls a0_0 _ _ l0_1 false _ ?side1 ?side2 A7.out).mono ?_); (case side1 => repeat (first | exact (Kd.C_below HR0_1.out HB.out) | (with_reducible refine Kd.C_alloc ?_ _) | (with_reducible refine Kd.C_drewN ?_ _) | (with_reducible refine Kd.C_drew ?_))); (case side2 => exact HC0_1.out); rintro e w30 ⟨rfl, hb⟩; refine ⟨_, rfl, ?_⟩; have n0_ := bkA BK186 hb; have n1_ := bkA BK187 hb; have n2_ := bkA BK188 hb; have n3_ := bsA HB hb; clear BK186; clear BK187; clear BK188; clear HB; have BK186 := n0_; have BK187 := n1_; have BK188 := n2_; have HB := n3_; clear n0_ n1_ n2_ n3_; (try clear hb); (try clear hb2); (try clear hk); (try clear hi)))
   go_meet
   case rel => exact ⟨_, (true), (by first | rfl | (simp; done) | (simp [*]; done)), H', ⟨by first | omega | exact Nat.le_refl _⟩, ⟨by (with_reducible repeat (first | refine blk_drewN ?_ _ | refine blk_drew ?_ | refine blk_alloc ?_ _)); exact BK186.out⟩, ⟨by (with_reducible repeat (first | refine blk_drewN ?_ _ | refine blk_drew ?_ | refine blk_alloc ?_ _)); exact BK187.out⟩, ⟨by (with_reducible repeat (first | refine blk_drewN ?_ _ | refine blk_drew ?_ | refine blk_alloc ?_ _)); exact BK188.out⟩, ⟨by repeat (first | (with_reducible first | exact HB.out | apply below_alloc | apply pw_below_drewN | apply below_drew1 | refine below_set ?_ GE186.out | refine below_set ?_ GE187.out | refine below_set ?_ GE188.out) | exact HB.out)⟩⟩
 case rest =>
  clear HC3
  try clear c1
  try clear c2
  try clear p2
  try clear c5
  try clear c8
  try clear c10
  try clear c11
  try clear c12
  try clear c15
  try clear c20
  try clear c21
  try clear c24
  try clear c27
  try clear c28
  try clear hcz13_0
  try clear hcz13_1
  try clear hcz16_0
  try clear hcz16_1
  try clear hcz18_0
  try clear hcz18_1
  try clear hcz19_0
  try clear hcz19_1
  try clear hcz22_0
  try clear hcz22_1
  try clear hcz25_0
  try clear hcz25_1
  try clear hcz29_0
  try clear hcz29_1
  try clear hfz13_0
  try clear hfz13_1
  try clear hfz16_0
  try clear hfz16_1
  try clear hfz18_0
  try clear hfz18_1
  try clear hfz19_0
  try clear hfz19_1
  try clear hfz22_0
  try clear hfz22_1
  try clear hfz25_0
  try clear hfz25_1
  try clear hfz29_0
  try clear hfz29_1
  obtain ⟨kq, x25_2, rfl, HA, HJ2, BK186, BK187, BK188, HB⟩ := hcut
  cases kq with
  | zero => exact absurd HA.out (by simp [rowset_joinedMinus.j0])
  | succ kj2 =>
   have H := HA.out
   clear HA
   simp only [rowset_joinedMinus.j0] at H
   by_cases c31 : x25_2 = true
   ·subst c31
    have H1 : (some (0, ([] : List Int), 1)) = some (r1, r2, r3) := by rw [if_pos rfl] at H; exact H
    clear H
    have H := H1
    clear H1
    simp only [Option.some.injEq, Prod.mk.injEq] at H
    obtain ⟨rfl, rfl, rfl⟩ := H
    have hnb32 := NB188_186.out
    have hnc32 := NB186_188.out
    have hnb33 := NB188_187.out
    have hnc33 := NB187_188.out
    have hcz34_0 : wc.cell? ⟨gb188, 0, none⟩ = some (.int .i64 0) := (blk_cell BK188.out 0).trans rfl
    have hcz34_1 : wc.cell? ⟨gb188, 1, none⟩ = some (.slice none 0 0) := (blk_cell BK188.out 1).trans rfl
    have hfz34_0 := blk_frozen BK188.out 0
    have hfz34_1 := blk_frozen BK188.out 1
    go_wp2
    refine bodyPost_ret (results_ct rfl _ _ gb188 38 #[.int .i64 0, .slice none 0 0] (0, 0) _ rfl (by (with_reducible repeat (first | refine blk_drewN ?_ _ | refine blk_drew ?_ | refine blk_alloc ?_ _)); refine blk_put (cs := #[.int .i64 0, .slice none 0 0]) ?_ 1 _ rfl; (with_reducible repeat (first | refine blk_drewN ?_ _ | refine blk_drew ?_ | refine blk_alloc ?_ _)); refine blk_put (cs := #[.int .i64 0, .slice none 0 0]) ?_ 0 _ rfl; (with_reducible repeat (first | refine blk_drewN ?_ _ | refine blk_drew ?_ | refine blk_alloc ?_ _)); exact BK188.out) Try.underlying38 rfl (by kernel_rfl)) rfl ?_
    exact ⟨_, by first | rfl | (simp [errW_none, errW_some] <;> rfl) | (simp [*, errW_none, errW_some] <;> rfl), by first | exact Kd.R_nil _ _ _ _ _ | exact Kd.N_nil _ _ _ _ _ | exact Kd.V_nil _ _ _ _ _ | exact Kd.Q_nil _ _ _ _ _ | exact Kd.S_nil _ _ _ _ _, by repeat (first | (with_reducible first | exact HB.out | apply below_alloc | apply pw_below_drewN | apply below_drew1 | refine below_set ?_ GE186.out | refine below_set ?_ GE187.out | refine below_set ?_ GE188.out) | exact HB.out)⟩
   ·replace c31 := Bool.eq_false_iff.mpr c31
    subst c31
    have H1 : ((rowset_empty.f a0_0).bind fun bt191 => (rowset_joinedMinus.l0 kj2 bt191.2.2 (bt191.2.1.length : Int) 0 a0_0 l0_1 a1_0 l1_1 bt191.1 bt191.2.1)) = some (r1, r2, r3) := by rw [if_neg (show ¬ (false = true) by decide)] at H; exact H
    clear H
    have H := H1
    clear H1
    replace H := Option.bind_eq_some_iff.mp H
    obtain ⟨⟨t191, t192, t195⟩, A350, H⟩ := H
    replace H : (rowset_joinedMinus.l0 kj2 t195 (t192.length : Int) 0 a0_0 l0_1 a1_0 l1_1 t191 t192) = some (r1, r2, r3) := H
    have A35 := Aside0.mk A350
    clear A350
    have H' := Aside0.mk H
    clear H
    have hnb36 := NB186_187.out
    have hnc36 := NB187_186.out
    have hnb37 := NB186_188.out
    have hnc37 := NB188_186.out
    have hcz38_0 : wc.cell? ⟨gb186, 0, none⟩ = some (.int .i64 a0_0) := (blk_cell BK186.out 0).trans rfl
    have hcz38_1 : wc.cell? ⟨gb186, 1, none⟩ = some (.slice A0_1 l0_1.length c0_1) := (blk_cell BK186.out 1).trans rfl
    have hfz38_0 := blk_frozen BK186.out 0
    have hfz38_1 := blk_frozen BK186.out 1
    go_wp2_with (first | ((with_reducible refine gate_callee (f := 55) rfl ?_); refine goesL_ (some 30) rfl rfl Try.func55 (by kernel_rfl) rfl #[.int .i64 a0_0] rfl (by (try simp only [List.map_toArray, List.map_cons, List.map_nil]); first | done | rfl | (simp only [List.length_drop, List.length_take]; rfl)) ?_; (with_reducible refine (rowset_empty.calls a0_0 t191 t192 t195 _ A35.out).mono ?_); rintro e w39 ⟨v193, rfl, ho0, hb⟩; refine ⟨_, rfl, ?_⟩; have n0_ := Aside0.mk (Kd.R_lower ho0 (below_size (by repeat (first | (with_reducible first | exact HB.out | apply below_alloc | apply pw_below_drewN | apply below_drew1 | refine below_set ?_ GE186.out | refine below_set ?_ GE187.out | refine below_set ?_ GE188.out) | exact HB.out)))); have n1_ := bkA BK186 hb; have n2_ := bkA BK187 hb; have n3_ := bkA BK188 hb; have n4_ := bsA HB hb; clear BK186; clear BK187; clear BK188; clear HB; have HO194 := n0_; have BK186 := n1_; have BK187 := n2_; have BK188 := n3_; have HB := n4_; clear n0_ n1_ n2_ n3_ n4_; (try clear hb); (try clear hb2); (try clear hk); (try clear hi); (try clear ho0)) | ((with_reducible refine gate_dst (N := 8) rfl ?_); refine box_event ?hg (N := 8) ?hd (cs := #[.int .i64 0, .slice none 0 0]) (t := 38) ?hr ?_; (case hd => rfl); (case hg => rfl); (case hr => first | (go_simp; done) | (go_simp; rfl)); intro gb196 hg w40 hbox hb; have n0_ := rbA HO194 hb; have n1_ := bkA BK186 hb; have n2_ := bkA BK187 hb; have n3_ := bkA BK188 hb; have n4_ := bsA HB hb; have n5_ := Aside0.mk (hbox); have n6_ := szA HB hg; have n7_ := szA HB hg; have n8_ := neA BK186 hg; have n9_ := neB BK186 hg; have n10_ := neA BK187 hg; have n11_ := neB BK187 hg; have n12_ := neA BK188 hg; have n13_ := neB BK188 hg; clear HO194; clear BK186; clear BK187; clear BK188; clear HB; have HO194 := n0_; have BK186 := n1_; have BK187 := n2_; have BK188 := n3_; have HB := n4_; have BK196 := n5_; have GW196 := n6_; have GE196 := n7_; have NB186_196 := n8_; have NB196_186 := n9_; have NB187_196 := n10_; have NB196_187 := n11_; have NB188_196 := n12_; have NB196_188 := n13_; clear n0_ n1_ n2_ n3_ n4_ n5_ n6_ n7_ n8_ n9_ n10_ n11_ n12_ n13_; clear hb hbox hg; have hnb41 := NB196_186.out; have hnc41 := NB186_196.out; have hnb42 := NB196_187.out; have hnc42 := NB187_196.out; have hnb43 := NB196_188.out; have hnc43 := NB188_196.out; have hcz44_0 : w40.cell? ⟨gb196, 0, none⟩ = some (.int .i64 0) := (blk_cell BK196.out 0).trans rfl; have hcz44_1 : w40.cell? ⟨gb196, 1, none⟩ = some (.slice none 0 0) := (blk_cell BK196.out 1).trans rfl; have hfz44_0 := blk_frozen BK196.out 0; have hfz44_1 := blk_frozen BK196.out 1; obtain ⟨Ao45, co45, eo45⟩ := Kd.R_slice HO194.out; subst eo45))
    go_loopg [36] kj2 (fun kq v36 w' => ∃ (x36_2 : Int) (x197001_2 : List Int) (u197001 : Value), v36 = .int .i64 x36_2 ∧ Aside0 (rowset_joinedMinus.l0 kq t195 (t192.length : Int) x36_2 a0_0 l0_1 a1_0 l1_1 t191 x197001_2 = some (r1, r2, r3)) ∧ Aside0 (kq ≤ kj2) ∧ Aside0 (Kd.R (Kd.int .u64) 66 w' w.heap.size (fun _ => True) u197001 x197001_2) ∧ Aside0 (w'.heap[gb186]? = some (.cells #[.int .i64 a0_0, (.slice A0_1 l0_1.length c0_1)] 38 (0, 0))) ∧ Aside0 (w'.heap[gb187]? = some (.cells #[.int .i64 a1_0, (.slice A1_1 l1_1.length c1_1)] 38 (0, 0))) ∧ Aside0 (w'.heap[gb188]? = some (.cells #[.int .i64 0, (.slice none 0 0)] 38 (0, 0))) ∧ Aside0 (w'.heap[gb196]? = some (.cells #[.int .i64 t191, u197001] 38 (0, 0))) ∧ Aside0 (Below w.heap.size w w'))
    case atStart => exact ⟨(0), (t192), (.slice Ao45 t192.length co45), (by first | rfl | (simp; done) | (simp [*]; done)), H', ⟨Nat.le_refl _⟩, ⟨by (with_reducible repeat (first | apply Kd.R_alloc | apply Kd.R_drewN | apply Kd.R_drew)); exact Kd.R_mono (Kd.R_far (p := ⟨gb196, 1, none⟩) (Kd.R_far (p := ⟨gb196, 0, none⟩) (Kd.R_types HO194.out BK196.out (by decide)) (fun _ hk => hk.2) (.int .i64 t191)) (fun _ hk => hk.2) (.slice Ao45 t192.length co45)) (fun _ hk => trivial)⟩, ⟨by (with_reducible repeat (first | refine blk_drewN ?_ _ | refine blk_drew ?_ | refine blk_alloc ?_ _)); refine blk_far ?_ NB186_196.out _; (with_reducible repeat (first | refine blk_drewN ?_ _ | refine blk_drew ?_ | refine blk_alloc ?_ _)); refine blk_far ?_ NB186_196.out _; (with_reducible repeat (first | refine blk_drewN ?_ _ | refine blk_drew ?_ | refine blk_alloc ?_ _)); exact BK186.out⟩, ⟨by (with_reducible repeat (first | refine blk_drewN ?_ _ | refine blk_drew ?_ | refine blk_alloc ?_ _)); refine blk_far ?_ NB187_196.out _; (with_reducible repeat (first | refine blk_drewN ?_ _ | refine blk_drew ?_ | refine blk_alloc ?_ _)); refine blk_far ?_ NB187_196.out _; (with_reducible repeat (first | refine blk_drewN ?_ _ | refine blk_drew ?_ | refine blk_alloc ?_ _)); exact BK187.out⟩, ⟨by (with_reducible repeat (first | refine blk_drewN ?_ _ | refine blk_drew ?_ | refine blk_alloc ?_ _)); refine blk_far ?_ NB188_196.out _; (with_reducible repeat (first | refine blk_drewN ?_ _ | refine blk_drew ?_ | refine blk_alloc ?_ _)); refine blk_far ?_ NB188_196.out _; (with_reducible repeat (first | refine blk_drewN ?_ _ | refine blk_drew ?_ | refine blk_alloc ?_ _)); exact BK188.out⟩, ⟨by (with_reducible repeat (first | refine blk_drewN ?_ _ | refine blk_drew ?_ | refine blk_alloc ?_ _)); refine blk_put (cs := #[.int .i64 t191, .slice none 0 0]) ?_ 1 _ rfl; (with_reducible repeat (first | refine blk_drewN ?_ _ | refine blk_drew ?_ | refine blk_alloc ?_ _)); refine blk_put (cs := #[.int .i64 0, .slice none 0 0]) ?_ 0 _ rfl; (with_reducible repeat (first | refine blk_drewN ?_ _ | refine blk_drew ?_ | refine blk_alloc ?_ _)); exact BK196.out⟩, ⟨by repeat (first | (with_reducible first | exact HB.out | apply below_alloc | apply pw_below_drewN | apply below_drew1 | refine below_set ?_ GE186.out | refine below_set ?_ GE187.out | refine below_set ?_ GE188.out | refine below_set ?_ GE196.out) | exact HB.out)⟩⟩
    case round =>
     clear H'
     try clear c1
     try clear c2
     try clear p2
     try clear c3
     try clear c4
     try clear c5
     try clear c8
     try clear c10
     try clear c11
     try clear c12
     try clear c15
     try clear c20
     try clear c21
     try clear c24
     try clear c27
     try clear c28
     try clear c31
     try clear c32
     try clear c33
     try clear c36
     try clear c37
     try clear c41
     try clear c42
     try clear c43
     try clear hcz13_0
     try clear hcz13_1
     try clear hcz16_0
     try clear hcz16_1
     try clear hcz18_0
     try clear hcz18_1
     try clear hcz19_0
     try clear hcz19_1
     try clear hcz22_0
     try clear hcz22_1
     try clear hcz25_0
     try clear hcz25_1
     try clear hcz29_0
     try clear hcz29_1
     try clear hcz34_0
     try clear hcz34_1
     try clear hcz38_0
     try clear hcz38_1
     try clear hcz44_0
     try clear hcz44_1
     try clear hfz13_0
     try clear hfz13_1
     try clear hfz16_0
     try clear hfz16_1
     try clear hfz18_0
     try clear hfz18_1
     try clear hfz19_0
     try clear hfz19_1
     try clear hfz22_0
     try clear hfz22_1
     try clear hfz25_0
     try clear hfz25_1
     try clear hfz29_0
     try clear hfz29_1
     try clear hfz34_0
     try clear hfz34_1
     try clear hfz38_0
     try clear hfz38_1
     try clear hfz44_0
     try clear hfz44_1
     try clear p2
     obtain ⟨x36_2, x197001_2, u197001, rfl, HA, HK2, HO_197001, BK186, BK187, BK188, BK196, HB⟩ := hrel
     cases gk with
     | zero => exact absurd HA.out (by simp [rowset_joinedMinus.l0])
     | succ k2 =>
      have H := HA.out
      clear HA
      simp only [rowset_joinedMinus.l0] at H
      by_cases c46 : x36_2 < (t192.length : Int)
      ·rw [if_pos c46] at H
       have c46b0 : decide (x36_2 < (t192.length : Int)) = true := decide_eq_true c46
       clear c46
       by_cases c47 : 0 ≤ x36_2
       ·rw [if_pos c47] at H
        have c47b0 : decide (0 ≤ x36_2) = true := decide_eq_true c47
        clear c47
        by_cases c48 : x36_2 < (l0_1.length : Int)
        ·rw [if_pos c48] at H
         have c48b0 : decide (x36_2 < (l0_1.length : Int)) = true := decide_eq_true c48
         clear c48
         by_cases c49 : x36_2 < (l1_1.length : Int)
         ·rw [if_pos c49] at H
          have c49b0 : decide (x36_2 < (l1_1.length : Int)) = true := decide_eq_true c49
          clear c49
          replace H := Option.bind_eq_some_iff.mp H
          obtain ⟨t199, A500, H⟩ := H
          replace H : (if x36_2 < (x197001_2.length : Int) then (rowset_joinedMinus.l0 k2 t195 (t192.length : Int) (wrap64 (x36_2 + 1)) a0_0 l0_1 a1_0 l1_1 t191 (x197001_2.set (x36_2 : Int).toNat t199)) else (none)) = some (r1, r2, r3) := H
          have A50 := Aside0.mk A500
          clear A500
          by_cases c51 : x36_2 < (x197001_2.length : Int)
          ·rw [if_pos c51] at H
           have c51b0 : decide (x36_2 < (x197001_2.length : Int)) = true := decide_eq_true c51
           clear c51
           obtain ⟨y200, hy200⟩ : ∃ y_ : List Int, y_ = (x197001_2.set (x36_2 : Int).toNat t199) := ⟨_, rfl⟩
           replace H : (rowset_joinedMinus.l0 k2 t195 (t192.length : Int) (wrap64 (x36_2 + 1)) a0_0 l0_1 a1_0 l1_1 t191 y200) = some (r1, r2, r3) := by first | (rw [hy200]; with_reducible exact H) | (have H2_ := (Option.bind_some _ _).symm.trans H; rw [hy200]; with_reducible exact H2_) | (have H2_ := (Option.bind_some _ _).symm.trans H; with_reducible exact H2_) | with_reducible exact H | (rw [hy200]; exact H) | exact H
           have Ny200 := Aside0.mk hy200
           clear hy200
           have H' := Aside0.mk H
           clear H
           try go_wp2
           have n0_ := Aside0.mk (Kd.R_drew HO_197001.out)
           have n1_ := Aside0.mk (blk_drew BK186.out)
           have n2_ := Aside0.mk (blk_drew BK187.out)
           have n3_ := Aside0.mk (blk_drew BK188.out)
           have n4_ := Aside0.mk (blk_drew BK196.out)
           have n5_ := Aside0.mk (below_drew1 HB.out)
           clear HO_197001
           clear BK186
           clear BK187
           clear BK188
           clear BK196
           clear HB
           have HO_197001 := n0_
           have BK186 := n1_
           have BK187 := n2_
           have BK188 := n3_
           have BK196 := n4_
           have HB := n5_
           clear n0_ n1_ n2_ n3_ n4_ n5_
           have p197 : 0 ≤ (x36_2 : Int) := of_decide_eq_true (by first | (with_reducible assumption) | assumption)
           have q197 : x36_2 < (l0_1.length : Int) := of_decide_eq_true (by first | (with_reducible assumption) | assumption)
           obtain ⟨ad197, e197, hx197_0⟩ := Kd.at_int HR0_1.out x36_2 p197 q197
           have hw197_0 := hx197_0
           cases e197
           replace hx197_0 := (HB.out.cell (World.block_lt_of_cell? w _ hx197_0)).trans hx197_0
           replace p197 := eq_true p197
           replace q197 := eq_true q197
           have p198 : 0 ≤ (x36_2 : Int) := of_decide_eq_true (by first | (with_reducible assumption) | assumption)
           have q198 : x36_2 < (l1_1.length : Int) := of_decide_eq_true (by first | (with_reducible assumption) | assumption)
           obtain ⟨ad198, e198, hx198_0⟩ := Kd.at_int HR1_1.out x36_2 p198 q198
           have hw198_0 := hx198_0
           cases e198
           replace hx198_0 := (HB.out.cell (World.block_lt_of_cell? w _ hx198_0)).trans hx198_0
           replace p198 := eq_true p198
           replace q198 := eq_true q198
           refine start_ (n := 17) (S := fun w' => w'.cell? ⟨gb196, 0, none⟩ = some (.int .i64 t191) ∧ w'.cell? ⟨gb196, 1, none⟩ = some (u197001) ∧ w'.cell? ⟨gb186, 0, none⟩ = some (.int .i64 a0_0) ∧ w'.cell? ⟨gb186, 1, none⟩ = some (.slice (some ad197) l0_1.length c0_1) ∧ w'.cell? ⟨gb187, 0, none⟩ = some (.int .i64 a1_0) ∧ w'.cell? ⟨gb187, 1, none⟩ = some (.slice (some ad198) l1_1.length c1_1) ∧ w'.cell? (ad197.add (x36_2).toNat) = some (.int .u64 (rd l0_1 x36_2)) ∧ w'.cell? (ad198.add (x36_2).toNat) = some (.int .u64 (rd l1_1 x36_2))) (ds := [16]) #[false, false, false, false, false, false, false, false, false, false, false, false, false, false, false, false, false] (by kernel_rfl) rfl rfl ⟨(blk_cell BK196.out 0).trans rfl, (blk_cell BK196.out 1).trans rfl, (blk_cell BK186.out 0).trans rfl, (blk_cell BK186.out 1).trans rfl, (blk_cell BK187.out 0).trans rfl, (blk_cell BK187.out 1).trans rfl, ((HB.out.cell (World.block_lt_of_cell? w _ hw197_0)).trans hw197_0), ((HB.out.cell (World.block_lt_of_cell? w _ hw198_0)).trans hw198_0)⟩ (fun hHeld => ?_); refine with_tabW rowset_joinedMinus.tab7 rowset_joinedMinus.bits7 (fun HT_ HW_ => ?_)
           generalize wr.drew = w53 at HO_197001 BK186 BK187 BK188 BK196 HB hx197_0 hx198_0 hHeld ⊢
           refine pure_ (i := 0) (N := some 39) (v := ?_) (a' := ?_) #[true, false, false, false, false, false, false, false, false, false, false, false, false, false, false, false, false] rfl rfl (any_of HT_.out (by kernel_rfl)) (fun _ _ _ h => h) (Or.inl ⟨by rfl, ?_⟩) ?_ ?_
           rotate_left
           ·intro w'
            go_simp
            with_reducible rfl
           rotate_left
           ·simp only [Act.put, List.setIfInBounds_toArray, List.set_cons_zero, List.set_cons_succ, i64_w, i32_w]
            rfl
           refine pure_ (i := 2) (N := some 41) (v := ?_) (a' := ?_) #[true, false, true, false, false, false, false, false, false, false, false, false, false, false, false, false, false] rfl rfl (any_of HT_.out (by kernel_rfl)) (fun _ _ _ h => h) (Or.inl ⟨by rfl, ?_⟩) ?_ ?_
           rotate_left
           ·intro w'
            go_simp
            with_reducible rfl
           rotate_left
           ·simp only [Act.put, List.setIfInBounds_toArray, List.set_cons_zero, List.set_cons_succ, i64_w, i32_w]
            rfl
           refine pure_ (i := 3) (N := some 42) (v := ?_) (a' := ?_) #[true, false, true, true, false, false, false, false, false, false, false, false, false, false, false, false, false] rfl rfl (any_of HT_.out (by kernel_rfl)) (fun _ _ _ h => h) (Or.inl ⟨by rfl, ?_⟩) ?_ ?_
           rotate_left
           ·intro w'
            go_simp
            with_reducible rfl
           rotate_left
           ·simp only [Act.put, List.setIfInBounds_toArray, List.set_cons_zero, List.set_cons_succ, i64_w, i32_w]
            rfl
           refine pure_ (i := 4) (N := some 43) (v := ?_) (a' := ?_) #[true, false, true, true, true, false, false, false, false, false, false, false, false, false, false, false, false] rfl rfl (any_of HT_.out (by kernel_rfl)) (fun _ _ _ h => h) (Or.inl ⟨by rfl, ?_⟩) ?_ ?_
           rotate_left
           ·intro w'
            go_simp
            with_reducible rfl
           rotate_left
           ·simp only [Act.put, List.setIfInBounds_toArray, List.set_cons_zero, List.set_cons_succ, i64_w, i32_w]
            rfl
           refine pure_ (i := 6) (N := some 45) (v := ?_) (a' := ?_) #[true, false, true, true, true, false, true, false, false, false, false, false, false, false, false, false, false] rfl rfl (any_of HT_.out (by kernel_rfl)) (fun _ _ _ h => h) (Or.inl ⟨by rfl, ?_⟩) ?_ ?_
           rotate_left
           ·intro w'
            go_simp
            with_reducible rfl
           rotate_left
           ·simp only [Act.put, List.setIfInBounds_toArray, List.set_cons_zero, List.set_cons_succ, i64_w, i32_w]
            rfl
           refine pure_ (i := 9) (N := some 48) (v := ?_) (a' := ?_) #[true, false, true, true, true, false, true, false, false, true, false, false, false, false, false, false, false] rfl rfl (any_of HT_.out (by kernel_rfl)) (fun _ _ _ h => h) (Or.inl ⟨by rfl, ?_⟩) ?_ ?_
           rotate_left
           ·intro w'
            go_simp
            with_reducible rfl
           rotate_left
           ·simp only [Act.put, List.setIfInBounds_toArray, List.set_cons_zero, List.set_cons_succ, i64_w, i32_w]
            rfl
           refine pure_ (i := 11) (N := some 50) (v := ?_) (a' := ?_) #[true, false, true, true, true, false, true, false, false, true, false, true, false, false, false, false, false] rfl rfl (any_of HT_.out (by kernel_rfl)) (fun _ _ _ h => h) (Or.inl ⟨by rfl, ?_⟩) ?_ ?_
           rotate_left
           ·intro w'
            go_simp
            with_reducible rfl
           rotate_left
           ·simp only [Act.put, List.setIfInBounds_toArray, List.set_cons_zero, List.set_cons_succ, i64_w, i32_w]
            rfl
           refine take_ (i := 1) (N := some 40) (v := ?_) (a' := ?_) #[true, true, true, true, true, false, true, false, false, true, false, true, false, false, false, false, false] rfl rfl (take_ofW HT_.out HW_.out (by kernel_rfl)) (fun _ _ _ h => h) (Or.inl ⟨by rfl, ?_⟩) hHeld ?_ ?_
           rotate_left
           ·rintro w' ⟨s0, s1, s2, s3, s4, s5, s6, s7⟩
            go_simp
            with_reducible rfl
           rotate_left
           ·simp only [Act.put, List.setIfInBounds_toArray, List.set_cons_zero, List.set_cons_succ, i64_w, i32_w]
            rfl
           refine take_ (i := 5) (N := some 44) (v := ?_) (a' := ?_) #[true, true, true, true, true, true, true, false, false, true, false, true, false, false, false, false, false] rfl rfl (take_ofW HT_.out HW_.out (by kernel_rfl)) (fun _ _ _ h => h) (Or.inl ⟨by rfl, ?_⟩) hHeld ?_ ?_
           rotate_left
           ·rintro w' ⟨s0, s1, s2, s3, s4, s5, s6, s7⟩
            go_simp
            with_reducible rfl
           rotate_left
           ·simp only [Act.put, List.setIfInBounds_toArray, List.set_cons_zero, List.set_cons_succ, i64_w, i32_w]
            rfl
           refine pure_ (i := 7) (N := some 46) (v := ?_) (a' := ?_) #[true, true, true, true, true, true, true, true, false, true, false, true, false, false, false, false, false] rfl rfl (any_of HT_.out (by kernel_rfl)) (fun _ _ _ h => h) (Or.inl ⟨by rfl, ?_⟩) ?_ ?_
           rotate_left
           ·intro w'
            go_simp
            with_reducible rfl
           rotate_left
           ·simp only [Act.put, List.setIfInBounds_toArray, List.set_cons_zero, List.set_cons_succ, i64_w, i32_w]
            rfl
           refine take_ (i := 8) (N := some 47) (v := ?_) (a' := ?_) #[true, true, true, true, true, true, true, true, true, true, false, true, false, false, false, false, false] rfl rfl (take_ofW HT_.out HW_.out (by kernel_rfl)) (fun _ _ _ h => h) (Or.inl ⟨by rfl, ?_⟩) hHeld ?_ ?_
           rotate_left
           ·rintro w' ⟨s0, s1, s2, s3, s4, s5, s6, s7⟩
            go_simp
            with_reducible rfl
           rotate_left
           ·simp only [Act.put, List.setIfInBounds_toArray, List.set_cons_zero, List.set_cons_succ, i64_w, i32_w]
            rfl
           refine take_ (i := 10) (N := some 49) (v := ?_) (a' := ?_) #[true, true, true, true, true, true, true, true, true, true, true, true, false, false, false, false, false] rfl rfl (take_ofW HT_.out HW_.out (by kernel_rfl)) (fun _ _ _ h => h) (Or.inl ⟨by rfl, ?_⟩) hHeld ?_ ?_
           rotate_left
           ·rintro w' ⟨s0, s1, s2, s3, s4, s5, s6, s7⟩
            go_simp
            with_reducible rfl
           rotate_left
           ·simp only [Act.put, List.setIfInBounds_toArray, List.set_cons_zero, List.set_cons_succ, i64_w, i32_w]
            rfl
           refine pure_ (i := 12) (N := some 51) (v := ?_) (a' := ?_) #[true, true, true, true, true, true, true, true, true, true, true, true, true, false, false, false, false] rfl rfl (any_of HT_.out (by kernel_rfl)) (fun _ _ _ h => h) (Or.inl ⟨by rfl, ?_⟩) ?_ ?_
           rotate_left
           ·intro w'
            go_simp
            with_reducible rfl
           rotate_left
           ·simp only [Act.put, List.setIfInBounds_toArray, List.set_cons_zero, List.set_cons_succ, i64_w, i32_w]
            rfl
           refine take_ (i := 13) (N := some 52) (v := ?_) (a' := ?_) #[true, true, true, true, true, true, true, true, true, true, true, true, true, true, false, false, false] rfl rfl (take_ofW HT_.out HW_.out (by kernel_rfl)) (fun _ _ _ h => h) (Or.inl ⟨by rfl, ?_⟩) hHeld ?_ ?_
           rotate_left
           ·rintro w' ⟨s0, s1, s2, s3, s4, s5, s6, s7⟩
            go_simp
            with_reducible rfl
           rotate_left
           ·simp only [Act.put, List.setIfInBounds_toArray, List.set_cons_zero, List.set_cons_succ, i64_w, i32_w]
            rfl
           refine one_ (i := 14) (N := some 53) #[true, true, true, true, true, true, true, true, true, true, true, true, true, true, true, false, false] rfl rfl (one_of HT_.out (by kernel_rfl)) (by decide) (fun K hK => ?_)
           refine goesT_ Try.func49 (by kernel_rfl) rfl #[.int .u64 (rd l0_1 x36_2), .int .u64 (rd l1_1 x36_2)] (by rfl) rfl rfl (by rfl) (by (try simp only [List.map_toArray, List.map_cons, List.map_nil]); first | done | rfl | (simp only [List.length_drop, List.length_take]; rfl)) ?_
           with_reducible refine (rowset_Minus_c1.calls (rd l0_1 x36_2) (rd l1_1 x36_2) t199 _ A50.out).mono ?_
           rintro e w' ⟨rfl, ⟨nd, rfl⟩⟩
           refine ⟨_, rfl, ?_⟩
           have p52 : 0 ≤ (x36_2 : Int) := of_decide_eq_true (by first | (with_reducible assumption) | assumption)
           have q52 : (x36_2 : Int) < ((x197001_2.length : Int) : Int) := of_decide_eq_true (by first | (with_reducible assumption) | assumption)
           obtain ⟨go52, co52, eo52, gb52, gl52, cl52, HG52⟩ := Kd.R_form HO_197001.out (by omega)
           (first | cases eo52 | (injection eo52 with ea_ en_ ec_; (first | subst ea_ | (injection ea_ with ea_; subst ea_)); subst ec_; clear en_))
           have GB52 := Aside0.mk gb52
           have GG52 := Aside0.mk HG52
           clear gb52 gl52 HG52
           obtain ⟨hx52_0, hf52_0⟩ := Kd.R_celln 0 HO_197001.out (x36_2 : Int) p52 q52
           replace p52 := eq_true p52
           replace q52 := eq_true q52
           have HP54 := Kd.R_putn HO_197001.out (x36_2 : Int) t199
           rw [← Ny200.out] at HP54
           have HQ54 := Aside0.mk HP54
           clear HP54
           refine hK.out _ _ ⟨(blk_cell BK196.out 0).trans rfl, (blk_cell BK196.out 1).trans rfl, (blk_cell BK186.out 0).trans rfl, (blk_cell BK186.out 1).trans rfl, (blk_cell BK187.out 0).trans rfl, (blk_cell BK187.out 1).trans rfl, ((HB.out.cell (World.block_lt_of_cell? w _ hw197_0)).trans hw197_0), ((HB.out.cell (World.block_lt_of_cell? w _ hw198_0)).trans hw198_0)⟩ (fun hHeld => ?_)
           clear hK K
           refine norm_ (a' := ?_) ?_ ?_
           rotate_left
           ·show Act.put _ (some 53) _ = _
            simp only [Act.put, List.setIfInBounds_toArray, List.set_cons_zero, List.set_cons_succ, i64_w, i32_w]
            rfl
           refine pure_ (i := 15) (N := some 54) (v := ?_) (a' := ?_) #[true, true, true, true, true, true, true, true, true, true, true, true, true, true, true, true, false] rfl rfl (any_of HT_.out (by kernel_rfl)) (fun _ _ _ h => h) (Or.inl ⟨by rfl, ?_⟩) ?_ ?_
           rotate_left
           ·intro w'
            go_simp
            with_reducible rfl
           rotate_left
           ·simp only [Act.put, List.setIfInBounds_toArray, List.set_cons_zero, List.set_cons_succ, i64_w, i32_w]
            rfl
           refine last_ (i := 16) (N := none) #[true, true, true, true, true, true, true, true, true, true, true, true, true, true, true, true, true] rfl rfl (one_of HT_.out (by kernel_rfl)) (by decide) (fun K hK => ?_)
           refine skip_ (w1 := ?_) (by rfl) rfl ?_ ?_
           rotate_left
           ·go_simp
            rfl
           refine hK.out _ _ ?_
           clear hK K
           refine done_ (done_of HT_.out (by kernel_rfl)) ?_
           try go_wp2
           go_roundg k2
           case measure => have := HJ2.out; have := HK2.out; omega
           case rel => exact ⟨(wrap64 (x36_2 + 1)), (y200), (.slice (some ⟨go52, 0, none⟩) x197001_2.length co52), (by first | rfl | (simp; done) | (simp [*]; done)), H', ⟨by have := HJ2.out; have := HK2.out; omega⟩, ⟨by (with_reducible repeat (first | apply Kd.R_alloc | apply Kd.R_drewN | apply Kd.R_drew)); exact HQ54.out⟩, ⟨by (with_reducible repeat (first | refine blk_drewN ?_ _ | refine blk_drew ?_ | refine blk_alloc ?_ _)); refine blk_far ?_ (by have h_ := Kd.R_ne HO_197001.out BK186.out (by decide); intro e_; exact h_ (by rw [e_]; rfl)) _; (with_reducible repeat (first | refine blk_drewN ?_ _ | refine blk_drew ?_ | refine blk_alloc ?_ _)); exact BK186.out⟩, ⟨by (with_reducible repeat (first | refine blk_drewN ?_ _ | refine blk_drew ?_ | refine blk_alloc ?_ _)); refine blk_far ?_ (by have h_ := Kd.R_ne HO_197001.out BK187.out (by decide); intro e_; exact h_ (by rw [e_]; rfl)) _; (with_reducible repeat (first | refine blk_drewN ?_ _ | refine blk_drew ?_ | refine blk_alloc ?_ _)); exact BK187.out⟩, ⟨by (with_reducible repeat (first | refine blk_drewN ?_ _ | refine blk_drew ?_ | refine blk_alloc ?_ _)); refine blk_far ?_ (by have h_ := Kd.R_ne HO_197001.out BK188.out (by decide); intro e_; exact h_ (by rw [e_]; rfl)) _; (with_reducible repeat (first | refine blk_drewN ?_ _ | refine blk_drew ?_ | refine blk_alloc ?_ _)); exact BK188.out⟩, ⟨by (with_reducible repeat (first | refine blk_drewN ?_ _ | refine blk_drew ?_ | refine blk_alloc ?_ _)); refine blk_far ?_ (by have h_ := Kd.R_ne HO_197001.out BK196.out (by decide); intro e_; exact h_ (by rw [e_]; rfl)) _; (with_reducible repeat (first | refine blk_drewN ?_ _ | refine blk_drew ?_ | refine blk_alloc ?_ _)); exact BK196.out⟩, ⟨by repeat (first | (with_reducible first | exact HB.out | apply below_alloc | apply pw_below_drewN | apply below_drew1 | refine below_set ?_ GB52.out | refine below_set ?_ GE186.out | refine below_set ?_ GE187.out | refine below_set ?_ GE188.out | refine below_set ?_ GE196.out) | exact HB.out)⟩⟩
          ·rw [if_neg c51] at H
           exact absurd H (by simp)
         ·rw [if_neg c49] at H
          exact absurd H (by simp)
        ·rw [if_neg c48] at H
         exact absurd H (by simp)
       ·rw [if_neg c47] at H
        exact absurd H (by simp)
      ·rw [if_neg c46] at H
       have c46b0 : decide (x36_2 < (t192.length : Int)) = false := decide_eq_false c46
       clear c46
       simp only [Option.some.injEq, Prod.mk.injEq] at H
       obtain ⟨rfl, rfl, rfl⟩ := H
       have hnb55 := NB196_186.out
       have hnc55 := NB186_196.out
       have hnb56 := NB196_187.out
       have hnc56 := NB187_196.out
       have hnb57 := NB196_188.out
       have hnc57 := NB188_196.out
       have hcz58_0 : wr.cell? ⟨gb196, 0, none⟩ = some (.int .i64 t191) := (blk_cell BK196.out 0).trans rfl
       have hcz58_1 : wr.cell? ⟨gb196, 1, none⟩ = some (u197001) := (blk_cell BK196.out 1).trans rfl
       have hfz58_0 := blk_frozen BK196.out 0
       have hfz58_1 := blk_frozen BK196.out 1
       have hnb59 := NB188_186.out
       have hnc59 := NB186_188.out
       have hnb60 := NB188_187.out
       have hnc60 := NB187_188.out
       have hcz61_0 : wr.cell? ⟨gb188, 0, none⟩ = some (.int .i64 0) := (blk_cell BK188.out 0).trans rfl
       have hcz61_1 : wr.cell? ⟨gb188, 1, none⟩ = some (.slice none 0 0) := (blk_cell BK188.out 1).trans rfl
       have hfz61_0 := blk_frozen BK188.out 0
       have hfz61_1 := blk_frozen BK188.out 1
       obtain ⟨Ao62, co62, eo62⟩ := Kd.R_slice HO_197001.out
       subst eo62
       go_wp2
       refine bodyPost_ret (results_ct rfl _ _ gb188 38 #[.int .i64 t191, .slice Ao62 x197001_2.length co62] (0, 0) _ rfl (by (with_reducible repeat (first | refine blk_drewN ?_ _ | refine blk_drew ?_ | refine blk_alloc ?_ _)); refine blk_put (cs := #[.int .i64 t191, .slice none 0 0]) ?_ 1 _ rfl; (with_reducible repeat (first | refine blk_drewN ?_ _ | refine blk_drew ?_ | refine blk_alloc ?_ _)); refine blk_put (cs := #[.int .i64 0, .slice none 0 0]) ?_ 0 _ rfl; (with_reducible repeat (first | refine blk_drewN ?_ _ | refine blk_drew ?_ | refine blk_alloc ?_ _)); exact BK188.out) Try.underlying38 rfl (by kernel_rfl)) rfl ?_
       exact ⟨_, by first | rfl | (simp [errW_none, errW_some] <;> rfl) | (simp [*, errW_none, errW_some] <;> rfl), by (with_reducible repeat (first | apply Kd.R_alloc | apply Kd.R_drewN | apply Kd.R_drew)); exact Kd.R_mono (Kd.R_far (p := ⟨gb188, 1, none⟩) (Kd.R_far (p := ⟨gb188, 0, none⟩) (Kd.R_types HO_197001.out BK188.out (by decide)) (fun _ hk => hk.2) (.int .i64 t191)) (fun _ hk => hk.2) (.slice Ao62 x197001_2.length co62)) (fun _ hk => trivial), by repeat (first | (with_reducible first | exact HB.out | apply below_alloc | apply pw_below_drewN | apply below_drew1 | refine below_set ?_ GE186.out | refine below_set ?_ GE187.out | refine below_set ?_ GE188.out | refine below_set ?_ GE196.out) | exact HB.out)⟩

-- LEVEL 0
/-! ### rowset_Minus: function 27 -/
def rowset_Minus.f (k : Nat) (a0_0 : Int) (l0_1 : List Int) (a1_0 : Int) (l1_1 : List Int) : Option (Int × List Int × Int) := (rowset_joinedMinus.f k a0_0 l0_1 a1_0 l1_1).bind fun bt204 => (some (bt204.1, bt204.2.1, bt204.2.2))
theorem rowset_Minus.mono : ∀ a0 a1 a2 a3 k, LeO (rowset_Minus.f k a0 a1 a2 a3) (rowset_Minus.f (k + 1) a0 a1 a2 a3) := by
 intro a0 a1 a2 a3 k
 unfold rowset_Minus.f
 repeat' first
   | (with_reducible exact rowset_joinedMinus.mono _ _ _ _ _)
   | (with_reducible exact LeO.refl _)
   | (with_reducible exact LeO.none _)
   | (with_reducible refine LeO.ite ?_ ?_)
   | (with_reducible refine LeO.bind ?_ (fun _ => ?_))
   | exact rowset_joinedMinus.mono _ _ _ _ _
   | exact LeO.none _
   | refine LeO.ite ?_ ?_
   | refine LeO.bind ?_ (fun _ => ?_)
set_option maxHeartbeats 8000000 in
set_option maxRecDepth 100000 in
theorem rowset_Minus.calls (k : Nat) (a0_0 : Int) (A0_1 : Option Addr) (c0_1 : Nat) (l0_1 : List Int) (a1_0 : Int) (A1_1 : Option Addr) (c1_1 : Nat) (l1_1 : List Int) (r1 : Int) (r2 : List Int) (r3 : Int) (w : World) (hr0_1 : Kd.C (Kd.int .u64) w A0_1 l0_1.length l0_1) (hc0_1 : l0_1.length ≤ c0_1) (hr1_1 : Kd.C (Kd.int .u64) w A1_1 l1_1.length l1_1) (hc1_1 : l1_1.length ≤ c1_1) (h : rowset_Minus.f k a0_0 l0_1 a1_0 l1_1 = some (r1, r2, r3)) :
  Calls Try.prog 27 #[.agg #[.int .i64 a0_0, .slice A0_1 l0_1.length c0_1], .agg #[.int .i64 a1_0, .slice A1_1 l1_1.length c1_1]] w fun e w' => ∃ v1_ : Value, e = .returned (.tuple #[.agg #[.int .i64 r1, v1_], .int .i64 r3]) ∧ Kd.R (Kd.int .u64) 66 w' w.heap.size (fun _ => True) v1_ r2 ∧ Below w.heap.size w w' := by
 have hu38 := Try.underlying38
 have HR0_1 := Aside0.mk hr0_1
 have HC0_1 := Aside0.mk hc0_1
 clear hr0_1 hc0_1
 have HR1_1 := Aside0.mk hr1_1
 have HC1_1 := Aside0.mk hc1_1
 clear hr1_1 hc1_1
 have HB := Aside0.mk (Below.refl w.heap.size w)
 have H : ((rowset_joinedMinus.f k a0_0 l0_1 a1_0 l1_1).bind fun bt204 => (some (bt204.1, bt204.2.1, bt204.2.2))) = some (r1, r2, r3) := h
 clear h
 replace H := Option.bind_eq_some_iff.mp H
 obtain ⟨⟨t204, t205, t208⟩, A30, H⟩ := H
 replace H : (some (t204, t205, t208)) = some (r1, r2, r3) := H
 have A3 := Aside0.mk A30
 clear A30
 simp only [Option.some.injEq, Prod.mk.injEq] at H
 obtain ⟨rfl, rfl, rfl⟩ := H
 go_enter Try.func27, Try.ntmps27
 go_wp2_with (first | ((with_reducible refine gate_dst (N := 2) rfl ?_); refine box_event ?hg (N := 2) ?hd (cs := #[.int .i64 a0_0, .slice A0_1 l0_1.length c0_1]) (t := 38) ?hr ?_; (case hd => rfl); (case hg => rfl); (case hr => first | (go_simp; done) | (go_simp; rfl)); intro gb201 hg w4 hbox hb; have n0_ := bsA HB hb; have n1_ := Aside0.mk (hbox); have n2_ := szA HB hg; have n3_ := szA HB hg; clear HB; have HB := n0_; have BK201 := n1_; have GW201 := n2_; have GE201 := n3_; clear n0_ n1_ n2_ n3_; clear hb hbox hg) | ((with_reducible refine gate_dst (N := 3) rfl ?_); refine box_event ?hg (N := 3) ?hd (cs := #[.int .i64 a1_0, .slice A1_1 l1_1.length c1_1]) (t := 38) ?hr ?_; (case hd => rfl); (case hg => rfl); (case hr => first | (go_simp; done) | (go_simp; rfl)); intro gb202 hg w5 hbox hb; have n0_ := bkA BK201 hb; have n1_ := bsA HB hb; have n2_ := Aside0.mk (hbox); have n3_ := szA HB hg; have n4_ := szA HB hg; have n5_ := neA BK201 hg; have n6_ := neB BK201 hg; clear BK201; clear HB; have BK201 := n0_; have HB := n1_; have BK202 := n2_; have GW202 := n3_; have GE202 := n4_; have NB201_202 := n5_; have NB202_201 := n6_; clear n0_ n1_ n2_ n3_ n4_ n5_ n6_; clear hb hbox hg) | ((with_reducible refine gate_dst (N := 4) rfl ?_); refine box_event ?hg (N := 4) ?hd (cs := #[.int .i64 0, .slice none 0 0]) (t := 38) ?hr ?_; (case hd => rfl); (case hg => rfl); (case hr => first | (go_simp; done) | (go_simp; rfl)); intro gb203 hg w6 hbox hb; have n0_ := bkA BK201 hb; have n1_ := bkA BK202 hb; have n2_ := bsA HB hb; have n3_ := Aside0.mk (hbox); have n4_ := szA HB hg; have n5_ := szA HB hg; have n6_ := neA BK201 hg; have n7_ := neB BK201 hg; have n8_ := neA BK202 hg; have n9_ := neB BK202 hg; clear BK201; clear BK202; clear HB; have BK201 := n0_; have BK202 := n1_; have HB := n2_; have BK203 := n3_; have GW203 := n4_; have GE203 := n5_; have NB201_203 := n6_; have NB203_201 := n7_; have NB202_203 := n8_; have NB203_202 := n9_; clear n0_ n1_ n2_ n3_ n4_ n5_ n6_ n7_ n8_ n9_; clear hb hbox hg; have hnb7 := NB201_202.out; have hnc7 := NB202_201.out; have hnb8 := NB201_203.out; have hnc8 := NB203_201.out; have hcz9_0 : w6.cell? ⟨gb201, 0, none⟩ = some (.int .i64 a0_0) := (blk_cell BK201.out 0).trans rfl; have hcz9_1 : w6.cell? ⟨gb201, 1, none⟩ = some (.slice A0_1 l0_1.length c0_1) := (blk_cell BK201.out 1).trans rfl; have hfz9_0 := blk_frozen BK201.out 0; have hfz9_1 := blk_frozen BK201.out 1; have hnb10 := NB202_203.out; have hnc10 := NB203_202.out; have hcz11_0 : w6.cell? ⟨gb202, 0, none⟩ = some (.int .i64 a1_0) := (blk_cell BK202.out 0).trans rfl; have hcz11_1 : w6.cell? ⟨gb202, 1, none⟩ = some (.slice A1_1 l1_1.length c1_1) := (blk_cell BK202.out 1).trans rfl; have hfz11_0 := blk_frozen BK202.out 0; have hfz11_1 := blk_frozen BK202.out 1) | ((with_reducible refine gate_callee (f := 46) rfl ?_); refine goesL_ (some 8) rfl rfl Try.func46 (by kernel_rfl) rfl #[.agg #[.int .i64 a0_0, .slice A0_1 l0_1.length c0_1], .agg #[.int .i64 a1_0, .slice A1_1 l1_1.length c1_1], .func (.func 49) #[] #[]] rfl (by (try simp only [List.map_toArray, List.map_cons, List.map_nil]); first | done | rfl | (simp only [List.length_drop, List.length_take]; rfl)) ?_; (with_reducible refine (rowset_joinedMinus.calls k a0_0 _ _ l0_1 a1_0 _ _ l1_1 t204 t205 t208 _ ?side1 ?side2 ?side3 ?side4 A3.out).mono ?_); (case side1 => repeat (first | exact (Kd.C_below HR0_1.out HB.out) | (with_reducible refine Kd.C_alloc ?_ _) | (with_reducible refine Kd.C_drewN ?_ _) | (with_reducible refine Kd.C_drew ?_))); (case side2 => exact HC0_1.out); (case side3 => repeat (first | exact (Kd.C_below HR1_1.out HB.out) | (with_reducible refine Kd.C_alloc ?_ _) | (with_reducible refine Kd.C_drewN ?_ _) | (with_reducible refine Kd.C_drew ?_))); (case side4 => exact HC1_1.out); rintro e w12 ⟨v206, rfl, ho0, hb⟩; refine ⟨_, rfl, ?_⟩; have n0_ := Aside0.mk (Kd.R_lower ho0 (below_size (by repeat (first | (with_reducible first | exact HB.out | apply below_alloc | apply pw_below_drewN | apply below_drew1 | refine below_set ?_ GE201.out | refine below_set ?_ GE202.out | refine below_set ?_ GE203.out) | exact HB.out)))); have n1_ := bkA BK201 hb; have n2_ := bkA BK202 hb; have n3_ := bkA BK203 hb; have n4_ := bsA HB hb; clear BK201; clear BK202; clear BK203; clear HB; have HO207 := n0_; have BK201 := n1_; have BK202 := n2_; have BK203 := n3_; have HB := n4_; clear n0_ n1_ n2_ n3_ n4_; (try clear hb); (try clear hb2); (try clear hk); (try clear hi); (try clear ho0); have hcz13_0 : w12.cell? ⟨gb203, 0, none⟩ = some (.int .i64 0) := (blk_cell BK203.out 0).trans rfl; have hcz13_1 : w12.cell? ⟨gb203, 1, none⟩ = some (.slice none 0 0) := (blk_cell BK203.out 1).trans rfl; have hfz13_0 := blk_frozen BK203.out 0; have hfz13_1 := blk_frozen BK203.out 1; obtain ⟨Ao14, co14, eo14⟩ := Kd.R_slice HO207.out; subst eo14))
 refine bodyPost_ret (results_ct rfl _ _ gb203 38 #[.int .i64 t204, .slice Ao14 t205.length co14] (0, 0) _ rfl (by (with_reducible repeat (first | refine blk_drewN ?_ _ | refine blk_drew ?_ | refine blk_alloc ?_ _)); refine blk_put (cs := #[.int .i64 t204, .slice none 0 0]) ?_ 1 _ rfl; (with_reducible repeat (first | refine blk_drewN ?_ _ | refine blk_drew ?_ | refine blk_alloc ?_ _)); refine blk_put (cs := #[.int .i64 0, .slice none 0 0]) ?_ 0 _ rfl; (with_reducible repeat (first | refine blk_drewN ?_ _ | refine blk_drew ?_ | refine blk_alloc ?_ _)); exact BK203.out) Try.underlying38 rfl (by kernel_rfl)) rfl ?_
 exact ⟨_, by first | rfl | (simp [errW_none, errW_some] <;> rfl) | (simp [*, errW_none, errW_some] <;> rfl), by (with_reducible repeat (first | apply Kd.R_alloc | apply Kd.R_drewN | apply Kd.R_drew)); exact Kd.R_mono (Kd.R_far (p := ⟨gb203, 1, none⟩) (Kd.R_far (p := ⟨gb203, 0, none⟩) (Kd.R_types HO207.out BK203.out (by decide)) (fun _ hk => hk.2) (.int .i64 t204)) (fun _ hk => hk.2) (.slice Ao14 t205.length co14)) (fun _ hk => trivial), by repeat (first | (with_reducible first | exact HB.out | apply below_alloc | apply pw_below_drewN | apply below_drew1 | refine below_set ?_ GE201.out | refine below_set ?_ GE202.out | refine below_set ?_ GE203.out) | exact HB.out)⟩

-- LEVEL 0
/-! ### dragnetref09_Same: function 29 -/
mutual
def dragnetref09_Same.j0 : Nat → Bool → Int → List Int → Int → List Int → Option (Bool)
 | 0, _, _, _, _, _ => none
 | k + 1, x19, x210000, x210001, x211000, x211001 => if x19 = true then (some false) else (dragnetref09_Same.l0 k 0 x210000 x210001 x211000 x211001)
def dragnetref09_Same.l0 : Nat → Int → Int → List Int → Int → List Int → Option (Bool)
 | 0, _, _, _, _, _ => none
 | k + 1, x5, x210000, x210001, x211000, x211001 => if x5 < (x210001.length : Int) then (if 0 ≤ x5 then (if x5 < (x211001.length : Int) then (if (rd x210001 x5) = (rd x211001 x5) then (dragnetref09_Same.l0 k (wrap64 (x5 + 1)) x210000 x210001 x211000 x211001) else (some false)) else (none)) else (none)) else (some true)
end
def dragnetref09_Same.f (k : Nat) (a0_0 : Int) (l0_1 : List Int) (a1_0 : Int) (l1_1 : List Int) : Option (Bool) := if a0_0 = a1_0 then (dragnetref09_Same.j0 k ((l0_1.length : Int) != (l1_1.length : Int)) a0_0 l0_1 a1_0 l1_1) else (dragnetref09_Same.j0 k true a0_0 l0_1 a1_0 l1_1)
theorem dragnetref09_Same.mono_l : ∀ k, (∀ y0 y1 y2 y3 y4, LeO (dragnetref09_Same.j0 k y0 y1 y2 y3 y4) (dragnetref09_Same.j0 (k + 1) y0 y1 y2 y3 y4)) ∧ (∀ y0 y1 y2 y3 y4, LeO (dragnetref09_Same.l0 k y0 y1 y2 y3 y4) (dragnetref09_Same.l0 (k + 1) y0 y1 y2 y3 y4))
 | 0 => ⟨fun _ _ _ _ _ r h => by simp [dragnetref09_Same.j0] at h, fun _ _ _ _ _ r h => by simp [dragnetref09_Same.l0] at h⟩
 | k + 1 => by
  obtain ⟨ih0, ih1⟩ := dragnetref09_Same.mono_l k
  refine ⟨?_, ?_⟩
  ·intro y0 y1 y2 y3 y4
   unfold dragnetref09_Same.j0
   repeat' first
   | (with_reducible exact ih0 _ _ _ _ _)
   | (with_reducible exact ih1 _ _ _ _ _)
   | (with_reducible exact LeO.refl _)
   | (with_reducible exact LeO.none _)
   | (with_reducible refine LeO.ite ?_ ?_)
   | (with_reducible refine LeO.bind ?_ (fun _ => ?_))
   | exact ih0 _ _ _ _ _
   | exact ih1 _ _ _ _ _
   | exact LeO.none _
   | refine LeO.ite ?_ ?_
   | refine LeO.bind ?_ (fun _ => ?_)
  ·intro y0 y1 y2 y3 y4
   unfold dragnetref09_Same.l0
   repeat' first
   | (with_reducible exact ih0 _ _ _ _ _)
   | (with_reducible exact ih1 _ _ _ _ _)
   | (with_reducible exact LeO.refl _)
   | (with_reducible exact LeO.none _)
   | (with_reducible refine LeO.ite ?_ ?_)
   | (with_reducible refine LeO.bind ?_ (fun _ => ?_))
   | exact ih0 _ _ _ _ _
   | exact ih1 _ _ _ _ _
   | exact LeO.none _
   | refine LeO.ite ?_ ?_
   | refine LeO.bind ?_ (fun _ => ?_)
theorem dragnetref09_Same.mono : ∀ a0 a1 a2 a3 k, LeO (dragnetref09_Same.f k a0 a1 a2 a3) (dragnetref09_Same.f (k + 1) a0 a1 a2 a3) := by
 intro a0 a1 a2 a3 k
 obtain ⟨ih0, ih1⟩ := dragnetref09_Same.mono_l k
 unfold dragnetref09_Same.f
 repeat' first
   | (with_reducible exact ih0 _ _ _ _ _)
   | (with_reducible exact ih1 _ _ _ _ _)
   | (with_reducible exact LeO.refl _)
   | (with_reducible exact LeO.none _)
   | (with_reducible refine LeO.ite ?_ ?_)
   | (with_reducible refine LeO.bind ?_ (fun _ => ?_))
   | exact ih0 _ _ _ _ _
   | exact ih1 _ _ _ _ _
   | exact LeO.none _
   | refine LeO.ite ?_ ?_
   | refine LeO.bind ?_ (fun _ => ?_)
set_option maxHeartbeats 8000000 in
set_option maxRecDepth 100000 in
theorem dragnetref09_Same.calls (k : Nat) (a0_0 : Int) (A0_1 : Option Addr) (c0_1 : Nat) (l0_1 : List Int) (a1_0 : Int) (A1_1 : Option Addr) (c1_1 : Nat) (l1_1 : List Int) (r : Bool) (w : World) (hr0_1 : Kd.C (Kd.int .u64) w A0_1 l0_1.length l0_1) (hc0_1 : l0_1.length ≤ c0_1) (hr1_1 : Kd.C (Kd.int .u64) w A1_1 l1_1.length l1_1) (hc1_1 : l1_1.length ≤ c1_1) (h : dragnetref09_Same.f k a0_0 l0_1 a1_0 l1_1 = some r) :
  Calls Try.prog 29 #[.agg #[.int .i64 a0_0, .slice A0_1 l0_1.length c0_1], .agg #[.int .i64 a1_0, .slice A1_1 l1_1.length c1_1]] w fun e w' => e = .returned (.bool r) ∧ Below w.heap.size w w' := by
 have hu38 := Try.underlying38
 have HR0_1 := Aside0.mk hr0_1
 have HC0_1 := Aside0.mk hc0_1
 clear hr0_1 hc0_1
 have HR1_1 := Aside0.mk hr1_1
 have HC1_1 := Aside0.mk hc1_1
 clear hr1_1 hc1_1
 have HB := Aside0.mk (Below.refl w.heap.size w)
 have H : (if a0_0 = a1_0 then (dragnetref09_Same.j0 k ((l0_1.length : Int) != (l1_1.length : Int)) a0_0 l0_1 a1_0 l1_1) else (dragnetref09_Same.j0 k true a0_0 l0_1 a1_0 l1_1)) = some r := h
 clear h
 have HC3 := Aside0.mk H
 clear H
 go_enter Try.func29, Try.ntmps29
 go_upto_region 1 with (first | ((with_reducible refine gate_dst (N := 2) rfl ?_); (try (refine gate_guard (by rfl) ?_; dsimp only)); refine box_event ?hg (N := 2) ?hd (cs := #[.int .i64 a0_0, .slice A0_1 l0_1.length c0_1]) (t := 38) ?hr ?_; (case hd => rfl); (case hg => rfl); (case hr => first | (go_simp; done) | (go_simp; rfl)); intro gb209 hg w4 hbox hb; have n0_ := bsA HB hb; have n1_ := Aside0.mk (hbox); have n2_ := szA HB hg; have n3_ := szA HB hg; clear HB; have HB := n0_; have BK209 := n1_; have GW209 := n2_; have GE209 := n3_; clear n0_ n1_ n2_ n3_; clear hb hbox hg) | ((with_reducible refine gate_dst (N := 3) rfl ?_); (try (refine gate_guard (by rfl) ?_; dsimp only)); refine box_event ?hg (N := 3) ?hd (cs := #[.int .i64 a1_0, .slice A1_1 l1_1.length c1_1]) (t := 38) ?hr ?_; (case hd => rfl); (case hg => rfl); (case hr => first | (go_simp; done) | (go_simp; rfl)); intro gb210 hg w5 hbox hb; have n0_ := bkA BK209 hb; have n1_ := bsA HB hb; have n2_ := Aside0.mk (hbox); have n3_ := szA HB hg; have n4_ := szA HB hg; have n5_ := neA BK209 hg; have n6_ := neB BK209 hg; clear BK209; clear HB; have BK209 := n0_; have HB := n1_; have BK210 := n2_; have GW210 := n3_; have GE210 := n4_; have NB209_210 := n5_; have NB210_209 := n6_; clear n0_ n1_ n2_ n3_ n4_ n5_ n6_; clear hb hbox hg))
 repeat (go_quiet (first | ((with_reducible refine gate_dst (N := 2) rfl ?_); (try (refine gate_guard (by rfl) ?_; dsimp only)); refine box_event ?hg (N := 2) ?hd (cs := #[.int .i64 a0_0, .slice A0_1 l0_1.length c0_1]) (t := 38) ?hr ?_; (case hd => rfl); (case hg => rfl); (case hr => first | (go_simp; done) | (go_simp; rfl)); intro gb209 hg w4 hbox hb; have n0_ := bsA HB hb; have n1_ := Aside0.mk (hbox); have n2_ := szA HB hg; have n3_ := szA HB hg; clear HB; have HB := n0_; have BK209 := n1_; have GW209 := n2_; have GE209 := n3_; clear n0_ n1_ n2_ n3_; clear hb hbox hg) | ((with_reducible refine gate_dst (N := 3) rfl ?_); (try (refine gate_guard (by rfl) ?_; dsimp only)); refine box_event ?hg (N := 3) ?hd (cs := #[.int .i64 a1_0, .slice A1_1 l1_1.length c1_1]) (t := 38) ?hr ?_; (case hd => rfl); (case hg => rfl); (case hr => first | (go_simp; done) | (go_simp; rfl)); intro gb210 hg w5 hbox hb; have n0_ := bkA BK209 hb; have n1_ := bsA HB hb; have n2_ := Aside0.mk (hbox); have n3_ := szA HB hg; have n4_ := szA HB hg; have n5_ := neA BK209 hg; have n6_ := neB BK209 hg; clear BK209; clear HB; have BK209 := n0_; have HB := n1_; have BK210 := n2_; have GW210 := n3_; have GE210 := n4_; have NB209_210 := n5_; have NB210_209 := n6_; clear n0_ n1_ n2_ n3_ n4_ n5_ n6_; clear hb hbox hg)); go_upto_region 1 with (first | ((with_reducible refine gate_dst (N := 2) rfl ?_); (try (refine gate_guard (by rfl) ?_; dsimp only)); refine box_event ?hg (N := 2) ?hd (cs := #[.int .i64 a0_0, .slice A0_1 l0_1.length c0_1]) (t := 38) ?hr ?_; (case hd => rfl); (case hg => rfl); (case hr => first | (go_simp; done) | (go_simp; rfl)); intro gb209 hg w4 hbox hb; have n0_ := bsA HB hb; have n1_ := Aside0.mk (hbox); have n2_ := szA HB hg; have n3_ := szA HB hg; clear HB; have HB := n0_; have BK209 := n1_; have GW209 := n2_; have GE209 := n3_; clear n0_ n1_ n2_ n3_; clear hb hbox hg) | ((with_reducible refine gate_dst (N := 3) rfl ?_); (try (refine gate_guard (by rfl) ?_; dsimp only)); refine box_event ?hg (N := 3) ?hd (cs := #[.int .i64 a1_0, .slice A1_1 l1_1.length c1_1]) (t := 38) ?hr ?_; (case hd => rfl); (case hg => rfl); (case hr => first | (go_simp; done) | (go_simp; rfl)); intro gb210 hg w5 hbox hb; have n0_ := bkA BK209 hb; have n1_ := bsA HB hb; have n2_ := Aside0.mk (hbox); have n3_ := szA HB hg; have n4_ := szA HB hg; have n5_ := neA BK209 hg; have n6_ := neB BK209 hg; clear BK209; clear HB; have BK209 := n0_; have HB := n1_; have BK210 := n2_; have GW210 := n3_; have GE210 := n4_; have NB209_210 := n5_; have NB210_209 := n6_; clear n0_ n1_ n2_ n3_ n4_ n5_ n6_; clear hb hbox hg)))
 (try simp only [Act.put, List.setIfInBounds_toArray, List.set_cons_zero, List.set_cons_succ])
 go_cut [19] (fun v19 wc => ∃ (kq : Nat) (x19_2 : Bool), v19 = .bool x19_2 ∧ Aside0 (dragnetref09_Same.j0 kq x19_2 a0_0 l0_1 a1_0 l1_1 = some r) ∧ Aside0 (kq ≤ k) ∧ Aside0 (wc.heap[gb209]? = some (.cells #[.int .i64 a0_0, (.slice A0_1 l0_1.length c0_1)] 38 (0, 0))) ∧ Aside0 (wc.heap[gb210]? = some (.cells #[.int .i64 a1_0, (.slice A1_1 l1_1.length c1_1)] 38 (0, 0))) ∧ Aside0 (Below w.heap.size w wc))
 case first =>
  have H := HC3.out
  clear HC3
  by_cases c6 : a0_0 = a1_0
  ·rw [if_pos c6] at H
   have c6b0 : (a0_0 == a1_0) = true := beq_iff_eq.mpr c6
   have c6b1 : (a0_0 != a1_0) = false := bne_eq_false_iff_eq.mpr c6
   clear c6
   (first | rw [c6b0] | (simp only [i64_w, i32_w]; rw [c6b0]) | skip)
   have H' := Aside0.mk H
   clear H
   have hnb7 := NB209_210.out
   have hnc7 := NB210_209.out
   have hcz8_0 : w5.cell? ⟨gb209, 0, none⟩ = some (.int .i64 a0_0) := (blk_cell BK209.out 0).trans rfl
   have hcz8_1 : w5.cell? ⟨gb209, 1, none⟩ = some (.slice A0_1 l0_1.length c0_1) := (blk_cell BK209.out 1).trans rfl
   have hfz8_0 := blk_frozen BK209.out 0
   have hfz8_1 := blk_frozen BK209.out 1
   have hcz9_0 : w5.cell? ⟨gb210, 0, none⟩ = some (.int .i64 a1_0) := (blk_cell BK210.out 0).trans rfl
   have hcz9_1 : w5.cell? ⟨gb210, 1, none⟩ = some (.slice A1_1 l1_1.length c1_1) := (blk_cell BK210.out 1).trans rfl
   have hfz9_0 := blk_frozen BK210.out 0
   have hfz9_1 := blk_frozen BK210.out 1
   go_wp2
   repeat (go_quiet (fail); try go_wp2)
   go_meet
   case rel => exact ⟨_, (((l0_1.length : Int) != (l1_1.length : Int))), (by first | rfl | (simp; done) | (simp [*]; done)), H', ⟨by first | omega | exact Nat.le_refl _⟩, ⟨by (with_reducible repeat (first | refine blk_drewN ?_ _ | refine blk_drew ?_ | refine blk_alloc ?_ _)); exact BK209.out⟩, ⟨by (with_reducible repeat (first | refine blk_drewN ?_ _ | refine blk_drew ?_ | refine blk_alloc ?_ _)); exact BK210.out⟩, ⟨by repeat (first | (with_reducible first | exact HB.out | apply below_alloc | apply pw_below_drewN | apply below_drew1 | refine below_set ?_ GE209.out | refine below_set ?_ GE210.out) | exact HB.out)⟩⟩
  ·rw [if_neg c6] at H
   have c6b0 : (a0_0 == a1_0) = false := beq_eq_false_iff_ne.mpr c6
   have c6b1 : (a0_0 != a1_0) = true := bne_iff_ne.mpr c6
   (first | rw [c6b0] | (simp only [i64_w, i32_w]; rw [c6b0]) | skip)
   have H' := Aside0.mk H
   clear H
   have hnb10 := NB209_210.out
   have hnc10 := NB210_209.out
   have hcz11_0 : w5.cell? ⟨gb209, 0, none⟩ = some (.int .i64 a0_0) := (blk_cell BK209.out 0).trans rfl
   have hcz11_1 : w5.cell? ⟨gb209, 1, none⟩ = some (.slice A0_1 l0_1.length c0_1) := (blk_cell BK209.out 1).trans rfl
   have hfz11_0 := blk_frozen BK209.out 0
   have hfz11_1 := blk_frozen BK209.out 1
   have hcz12_0 : w5.cell? ⟨gb210, 0, none⟩ = some (.int .i64 a1_0) := (blk_cell BK210.out 0).trans rfl
   have hcz12_1 : w5.cell? ⟨gb210, 1, none⟩ = some (.slice A1_1 l1_1.length c1_1) := (blk_cell BK210.out 1).trans rfl
   have hfz12_0 := blk_frozen BK210.out 0
   have hfz12_1 := blk_frozen BK210.out 1
   go_wp2
   repeat (go_quiet (fail); try go_wp2)
   go_meet
   case rel => exact ⟨_, (true), (by first | rfl | (simp; done) | (simp [*]; done)), H', ⟨by first | omega | exact Nat.le_refl _⟩, ⟨by (with_reducible repeat (first | refine blk_drewN ?_ _ | refine blk_drew ?_ | refine blk_alloc ?_ _)); exact BK209.out⟩, ⟨by (with_reducible repeat (first | refine blk_drewN ?_ _ | refine blk_drew ?_ | refine blk_alloc ?_ _)); exact BK210.out⟩, ⟨by repeat (first | (with_reducible first | exact HB.out | apply below_alloc | apply pw_below_drewN | apply below_drew1 | refine below_set ?_ GE209.out | refine below_set ?_ GE210.out) | exact HB.out)⟩⟩
 case rest =>
  clear HC3
  try clear c1
  try clear c2
  try clear p2
  try clear c6
  try clear c6b0
  try clear c6b1
  try clear c7
  try clear c10
  try clear hcz11_0
  try clear hcz11_1
  try clear hcz12_0
  try clear hcz12_1
  try clear hcz8_0
  try clear hcz8_1
  try clear hcz9_0
  try clear hcz9_1
  try clear hfz11_0
  try clear hfz11_1
  try clear hfz12_0
  try clear hfz12_1
  try clear hfz8_0
  try clear hfz8_1
  try clear hfz9_0
  try clear hfz9_1
  obtain ⟨kq, x19_2, rfl, HA, HJ2, BK209, BK210, HB⟩ := hcut
  cases kq with
  | zero => exact absurd HA.out (by simp [dragnetref09_Same.j0])
  | succ kj2 =>
   have H := HA.out
   clear HA
   simp only [dragnetref09_Same.j0] at H
   by_cases c13 : x19_2 = true
   ·subst c13
    have H1 : (some false) = some r := by rw [if_pos rfl] at H; exact H
    clear H
    have H := H1
    clear H1
    obtain rfl := Option.some.inj H
    go_wp2
    repeat (go_quiet (fail); try go_wp2)
    go_ret
    exact ⟨by first | rfl | (simp [errW_none, errW_some] <;> rfl) | (simp [*, errW_none, errW_some] <;> rfl), by repeat (first | (with_reducible first | exact HB.out | apply below_alloc | apply pw_below_drewN | apply below_drew1 | refine below_set ?_ GE209.out | refine below_set ?_ GE210.out) | exact HB.out)⟩
   ·replace c13 := Bool.eq_false_iff.mpr c13
    subst c13
    have H1 : (dragnetref09_Same.l0 kj2 0 a0_0 l0_1 a1_0 l1_1) = some r := by rw [if_neg (show ¬ (false = true) by decide)] at H; exact H
    clear H
    have H := H1
    clear H1
    have H' := Aside0.mk H
    clear H
    go_wp2
    repeat (go_quiet (fail); try go_wp2)
    go_loopg [5] kj2 (fun kq v5 w' => ∃ (x5_2 : Int), v5 = .int .i64 x5_2 ∧ Aside0 (dragnetref09_Same.l0 kq x5_2 a0_0 l0_1 a1_0 l1_1 = some r) ∧ Aside0 (kq ≤ kj2) ∧ Aside0 (w'.heap[gb209]? = some (.cells #[.int .i64 a0_0, (.slice A0_1 l0_1.length c0_1)] 38 (0, 0))) ∧ Aside0 (w'.heap[gb210]? = some (.cells #[.int .i64 a1_0, (.slice A1_1 l1_1.length c1_1)] 38 (0, 0))) ∧ Aside0 (Below w.heap.size w w'))
    case atStart => exact ⟨(0), (by first | rfl | (simp; done) | (simp [*]; done)), H', ⟨Nat.le_refl _⟩, ⟨by (with_reducible repeat (first | refine blk_drewN ?_ _ | refine blk_drew ?_ | refine blk_alloc ?_ _)); exact BK209.out⟩, ⟨by (with_reducible repeat (first | refine blk_drewN ?_ _ | refine blk_drew ?_ | refine blk_alloc ?_ _)); exact BK210.out⟩, ⟨by repeat (first | (with_reducible first | exact HB.out | apply below_alloc | apply pw_below_drewN | apply below_drew1 | refine below_set ?_ GE209.out | refine below_set ?_ GE210.out) | exact HB.out)⟩⟩
    case round =>
     clear H'
     try clear c1
     try clear c2
     try clear p2
     try clear c6
     try clear c6b0
     try clear c6b1
     try clear c7
     try clear c10
     try clear c13
     try clear hcz11_0
     try clear hcz11_1
     try clear hcz12_0
     try clear hcz12_1
     try clear hcz8_0
     try clear hcz8_1
     try clear hcz9_0
     try clear hcz9_1
     try clear hfz11_0
     try clear hfz11_1
     try clear hfz12_0
     try clear hfz12_1
     try clear hfz8_0
     try clear hfz8_1
     try clear hfz9_0
     try clear hfz9_1
     try clear p2
     obtain ⟨x5_2, rfl, HA, HK2, BK209, BK210, HB⟩ := hrel
     cases gk with
     | zero => exact absurd HA.out (by simp [dragnetref09_Same.l0])
     | succ k2 =>
      have H := HA.out
      clear HA
      simp only [dragnetref09_Same.l0] at H
      by_cases c14 : x5_2 < (l0_1.length : Int)
      ·rw [if_pos c14] at H
       have c14b0 : decide (x5_2 < (l0_1.length : Int)) = true := decide_eq_true c14
       clear c14
       by_cases c15 : 0 ≤ x5_2
       ·rw [if_pos c15] at H
        have c15b0 : decide (0 ≤ x5_2) = true := decide_eq_true c15
        clear c15
        by_cases c16 : x5_2 < (l1_1.length : Int)
        ·rw [if_pos c16] at H
         have c16b0 : decide (x5_2 < (l1_1.length : Int)) = true := decide_eq_true c16
         clear c16
         by_cases c17 : (rd l0_1 x5_2) = (rd l1_1 x5_2)
         ·rw [if_pos c17] at H
          have c17b0 : ((rd l0_1 x5_2) == (rd l1_1 x5_2)) = true := beq_iff_eq.mpr c17
          have c17b1 : ((rd l0_1 x5_2) != (rd l1_1 x5_2)) = false := bne_eq_false_iff_eq.mpr c17
          clear c17
          have H' := Aside0.mk H
          clear H
          have hnb18 := NB209_210.out
          have hnc18 := NB210_209.out
          have hcz19_0 : wr.cell? ⟨gb209, 0, none⟩ = some (.int .i64 a0_0) := (blk_cell BK209.out 0).trans rfl
          have hcz19_1 : wr.cell? ⟨gb209, 1, none⟩ = some (.slice A0_1 l0_1.length c0_1) := (blk_cell BK209.out 1).trans rfl
          have hfz19_0 := blk_frozen BK209.out 0
          have hfz19_1 := blk_frozen BK209.out 1
          have p211 : 0 ≤ (x5_2 : Int) := of_decide_eq_true (by first | (with_reducible assumption) | assumption)
          have q211 : x5_2 < (l0_1.length : Int) := of_decide_eq_true (by first | (with_reducible assumption) | assumption)
          obtain ⟨ad211, e211, hx211_0⟩ := Kd.at_int HR0_1.out x5_2 p211 q211
          cases e211
          replace hx211_0 := (HB.out.cell (World.block_lt_of_cell? w _ hx211_0)).trans hx211_0
          replace p211 := eq_true p211
          replace q211 := eq_true q211
          have hcz20_0 : wr.cell? ⟨gb210, 0, none⟩ = some (.int .i64 a1_0) := (blk_cell BK210.out 0).trans rfl
          have hcz20_1 : wr.cell? ⟨gb210, 1, none⟩ = some (.slice A1_1 l1_1.length c1_1) := (blk_cell BK210.out 1).trans rfl
          have hfz20_0 := blk_frozen BK210.out 0
          have hfz20_1 := blk_frozen BK210.out 1
          have p212 : 0 ≤ (x5_2 : Int) := of_decide_eq_true (by first | (with_reducible assumption) | assumption)
          have q212 : x5_2 < (l1_1.length : Int) := of_decide_eq_true (by first | (with_reducible assumption) | assumption)
          obtain ⟨ad212, e212, hx212_0⟩ := Kd.at_int HR1_1.out x5_2 p212 q212
          cases e212
          replace hx212_0 := (HB.out.cell (World.block_lt_of_cell? w _ hx212_0)).trans hx212_0
          replace p212 := eq_true p212
          replace q212 := eq_true q212
          go_wp2
          repeat (go_quiet (fail); try go_wp2)
          go_roundg k2
          case measure => have := HJ2.out; have := HK2.out; omega
          case rel => exact ⟨(wrap64 (x5_2 + 1)), (by first | rfl | (simp; done) | (simp [*]; done)), H', ⟨by have := HJ2.out; have := HK2.out; omega⟩, ⟨by (with_reducible repeat (first | refine blk_drewN ?_ _ | refine blk_drew ?_ | refine blk_alloc ?_ _)); exact BK209.out⟩, ⟨by (with_reducible repeat (first | refine blk_drewN ?_ _ | refine blk_drew ?_ | refine blk_alloc ?_ _)); exact BK210.out⟩, ⟨by repeat (first | (with_reducible first | exact HB.out | apply below_alloc | apply pw_below_drewN | apply below_drew1 | refine below_set ?_ GE209.out | refine below_set ?_ GE210.out) | exact HB.out)⟩⟩
         ·rw [if_neg c17] at H
          have c17b0 : ((rd l0_1 x5_2) == (rd l1_1 x5_2)) = false := beq_eq_false_iff_ne.mpr c17
          have c17b1 : ((rd l0_1 x5_2) != (rd l1_1 x5_2)) = true := bne_iff_ne.mpr c17
          obtain rfl := Option.some.inj H
          have hnb21 := NB209_210.out
          have hnc21 := NB210_209.out
          have hcz22_0 : wr.cell? ⟨gb209, 0, none⟩ = some (.int .i64 a0_0) := (blk_cell BK209.out 0).trans rfl
          have hcz22_1 : wr.cell? ⟨gb209, 1, none⟩ = some (.slice A0_1 l0_1.length c0_1) := (blk_cell BK209.out 1).trans rfl
          have hfz22_0 := blk_frozen BK209.out 0
          have hfz22_1 := blk_frozen BK209.out 1
          have p211 : 0 ≤ (x5_2 : Int) := of_decide_eq_true (by first | (with_reducible assumption) | assumption)
          have q211 : x5_2 < (l0_1.length : Int) := of_decide_eq_true (by first | (with_reducible assumption) | assumption)
          obtain ⟨ad211, e211, hx211_0⟩ := Kd.at_int HR0_1.out x5_2 p211 q211
          cases e211
          replace hx211_0 := (HB.out.cell (World.block_lt_of_cell? w _ hx211_0)).trans hx211_0
          replace p211 := eq_true p211
          replace q211 := eq_true q211
          have hcz23_0 : wr.cell? ⟨gb210, 0, none⟩ = some (.int .i64 a1_0) := (blk_cell BK210.out 0).trans rfl
          have hcz23_1 : wr.cell? ⟨gb210, 1, none⟩ = some (.slice A1_1 l1_1.length c1_1) := (blk_cell BK210.out 1).trans rfl
          have hfz23_0 := blk_frozen BK210.out 0
          have hfz23_1 := blk_frozen BK210.out 1
          have p212 : 0 ≤ (x5_2 : Int) := of_decide_eq_true (by first | (with_reducible assumption) | assumption)
          have q212 : x5_2 < (l1_1.length : Int) := of_decide_eq_true (by first | (with_reducible assumption) | assumption)
          obtain ⟨ad212, e212, hx212_0⟩ := Kd.at_int HR1_1.out x5_2 p212 q212
          cases e212
          replace hx212_0 := (HB.out.cell (World.block_lt_of_cell? w _ hx212_0)).trans hx212_0
          replace p212 := eq_true p212
          replace q212 := eq_true q212
          go_wp2
          repeat (go_quiet (fail); try go_wp2)
          go_ret
          exact ⟨by first | rfl | (simp [errW_none, errW_some] <;> rfl) | (simp [*, errW_none, errW_some] <;> rfl), by repeat (first | (with_reducible first | exact HB.out | apply below_alloc | apply pw_below_drewN | apply below_drew1 | refine below_set ?_ GE209.out | refine below_set ?_ GE210.out) | exact HB.out)⟩
        ·rw [if_neg c16] at H
         exact absurd H (by simp)
       ·rw [if_neg c15] at H
        exact absurd H (by simp)
      ·rw [if_neg c14] at H
       have c14b0 : decide (x5_2 < (l0_1.length : Int)) = false := decide_eq_false c14
       clear c14
       obtain rfl := Option.some.inj H
       have hnb24 := NB209_210.out
       have hnc24 := NB210_209.out
       have hcz25_0 : wr.cell? ⟨gb209, 0, none⟩ = some (.int .i64 a0_0) := (blk_cell BK209.out 0).trans rfl
       have hcz25_1 : wr.cell? ⟨gb209, 1, none⟩ = some (.slice A0_1 l0_1.length c0_1) := (blk_cell BK209.out 1).trans rfl
       have hfz25_0 := blk_frozen BK209.out 0
       have hfz25_1 := blk_frozen BK209.out 1
       go_wp2
       repeat (go_quiet (fail); try go_wp2)
       go_ret
       exact ⟨by first | rfl | (simp [errW_none, errW_some] <;> rfl) | (simp [*, errW_none, errW_some] <;> rfl), by repeat (first | (with_reducible first | exact HB.out | apply below_alloc | apply pw_below_drewN | apply below_drew1 | refine below_set ?_ GE209.out | refine below_set ?_ GE210.out) | exact HB.out)⟩

end Go.Proofs.Ytiaaicmkpjlplaa.P
