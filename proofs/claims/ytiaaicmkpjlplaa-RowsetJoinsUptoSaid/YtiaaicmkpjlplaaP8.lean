-- Written by a program of this session (wip/tools/tp.py: the kit's printer, turned to take functions that were proved by hand). Lean checks it.
import Derived.Test.YtiaaicmkpjlplaaP0
import Derived.Test.YtiaaicmkpjlplaaP6
import Derived.Test.YtiaaicmkpjlplaaP7
namespace Go.Proofs.Ytiaaicmkpjlplaa.P
open Go.RowKit Go.Proofs.YtiaaicmkpjlplaaW.PrintWords Go.Proofs.YtiaaicmkpjlplaaW.PrintLast Go.Proofs.YtiaaicmkpjlplaaW.PrintMore
attribute [local go_sem] max2_int min2_int max_two min_two max_three min_three max_four min_four   -- for this text's walks alone
set_option linter.unusedVariables false
set_option linter.unusedSimpArgs false

-- LEVEL 0
/-! ### dragnetref09_Join: function 28 -/
mutual
def dragnetref09_Join.j0 : Nat → Int → Bool → Int → List Int → Int → List Int → Option (Int × List Int × Int)
 | 0, _, _, _, _, _, _ => none
 | k + 1, x0, x25, x248000, x248001, x249000, x249001 => if x25 = true then (some (0, ([] : List Int), 1)) else ((dragnetref09_Bits.f k x248000 x248001).bind fun t252 => ((dragnetref09_Bits.f k x249000 x249001).bind fun t255 => (dragnetref09_Join.l0 k x0 t252 t255 0)))
def dragnetref09_Join.l0 : Nat → Int → List Bool → List Bool → Int → Option (Int × List Int × Int)
 | 0, _, _, _, _ => none
 | k + 1, x0, x8, x9, x10 => if x10 < (x8.length : Int) then (if x0 = 0 then (if 0 ≤ x10 then (if rdOf false x8 x10 = true then (if x10 < (x9.length : Int) then (dragnetref09_Join.l0 k x0 (x8.set (x10 : Int).toNat (rdOf false x9 x10)) x9 (wrap64 (x10 + 1))) else (none)) else (dragnetref09_Join.l0 k x0 (x8.set (x10 : Int).toNat false) x9 (wrap64 (x10 + 1)))) else (none)) else (if x0 = 1 then (if 0 ≤ x10 then (if rdOf false x8 x10 = true then (dragnetref09_Join.l0 k x0 (x8.set (x10 : Int).toNat true) x9 (wrap64 (x10 + 1))) else (if x10 < (x9.length : Int) then (dragnetref09_Join.l0 k x0 (x8.set (x10 : Int).toNat (rdOf false x9 x10)) x9 (wrap64 (x10 + 1))) else (none))) else (none)) else (if 0 ≤ x10 then (if rdOf false x8 x10 = true then (if x10 < (x9.length : Int) then (dragnetref09_Join.l0 k x0 (x8.set (x10 : Int).toNat (!(rdOf false x9 x10))) x9 (wrap64 (x10 + 1))) else (none)) else (dragnetref09_Join.l0 k x0 (x8.set (x10 : Int).toNat false) x9 (wrap64 (x10 + 1)))) else (none)))) else ((dragnetref09_Set.f k x8).bind fun bt258 => (some (bt258.1, bt258.2, 0)))
end
def dragnetref09_Join.f (k : Nat) (a0 : Int) (a1_0 : Int) (l1_1 : List Int) (a2_0 : Int) (l2_1 : List Int) : Option (Int × List Int × Int) := (dragnetref09_Formed.f k a1_0 l1_1).bind fun t250 => (if t250 = true then ((dragnetref09_Formed.f k a2_0 l2_1).bind fun t251 => (if t251 = true then (dragnetref09_Join.j0 k a0 (a1_0 != a2_0) a1_0 l1_1 a2_0 l2_1) else (dragnetref09_Join.j0 k a0 true a1_0 l1_1 a2_0 l2_1))) else (dragnetref09_Join.j0 k a0 true a1_0 l1_1 a2_0 l2_1))
theorem dragnetref09_Join.mono_l : ∀ k, (∀ y0 y1 y2 y3 y4 y5, LeO (dragnetref09_Join.j0 k y0 y1 y2 y3 y4 y5) (dragnetref09_Join.j0 (k + 1) y0 y1 y2 y3 y4 y5)) ∧ (∀ y0 y1 y2 y3, LeO (dragnetref09_Join.l0 k y0 y1 y2 y3) (dragnetref09_Join.l0 (k + 1) y0 y1 y2 y3))
 | 0 => ⟨fun _ _ _ _ _ _ r h => by simp [dragnetref09_Join.j0] at h, fun _ _ _ _ r h => by simp [dragnetref09_Join.l0] at h⟩
 | k + 1 => by
  obtain ⟨ih0, ih1⟩ := dragnetref09_Join.mono_l k
  refine ⟨?_, ?_⟩
  ·intro y0 y1 y2 y3 y4 y5
   unfold dragnetref09_Join.j0
   repeat' first
   | (with_reducible exact ih0 _ _ _ _ _ _)
   | (with_reducible exact ih1 _ _ _ _)
   | (with_reducible exact dragnetref09_Bits.mono _ _ _)
   | (with_reducible exact dragnetref09_Formed.mono _ _ _)
   | (with_reducible exact dragnetref09_Set.mono _ _)
   | (with_reducible exact LeO.refl _)
   | (with_reducible exact LeO.none _)
   | (with_reducible refine LeO.ite ?_ ?_)
   | (with_reducible refine LeO.bind ?_ (fun _ => ?_))
   | exact ih0 _ _ _ _ _ _
   | exact ih1 _ _ _ _
   | exact dragnetref09_Bits.mono _ _ _
   | exact dragnetref09_Formed.mono _ _ _
   | exact dragnetref09_Set.mono _ _
   | exact LeO.none _
   | refine LeO.ite ?_ ?_
   | refine LeO.bind ?_ (fun _ => ?_)
  ·intro y0 y1 y2 y3
   unfold dragnetref09_Join.l0
   repeat' first
   | (with_reducible exact ih0 _ _ _ _ _ _)
   | (with_reducible exact ih1 _ _ _ _)
   | (with_reducible exact dragnetref09_Bits.mono _ _ _)
   | (with_reducible exact dragnetref09_Formed.mono _ _ _)
   | (with_reducible exact dragnetref09_Set.mono _ _)
   | (with_reducible exact LeO.refl _)
   | (with_reducible exact LeO.none _)
   | (with_reducible refine LeO.ite ?_ ?_)
   | (with_reducible refine LeO.bind ?_ (fun _ => ?_))
   | exact ih0 _ _ _ _ _ _
   | exact ih1 _ _ _ _
   | exact dragnetref09_Bits.mono _ _ _
   | exact dragnetref09_Formed.mono _ _ _
   | exact dragnetref09_Set.mono _ _
   | exact LeO.none _
   | refine LeO.ite ?_ ?_
   | refine LeO.bind ?_ (fun _ => ?_)
theorem dragnetref09_Join.mono : ∀ a0 a1 a2 a3 a4 k, LeO (dragnetref09_Join.f k a0 a1 a2 a3 a4) (dragnetref09_Join.f (k + 1) a0 a1 a2 a3 a4) := by
 intro a0 a1 a2 a3 a4 k
 obtain ⟨ih0, ih1⟩ := dragnetref09_Join.mono_l k
 unfold dragnetref09_Join.f
 repeat' first
   | (with_reducible exact ih0 _ _ _ _ _ _)
   | (with_reducible exact ih1 _ _ _ _)
   | (with_reducible exact dragnetref09_Bits.mono _ _ _)
   | (with_reducible exact dragnetref09_Formed.mono _ _ _)
   | (with_reducible exact dragnetref09_Set.mono _ _)
   | (with_reducible exact LeO.refl _)
   | (with_reducible exact LeO.none _)
   | (with_reducible refine LeO.ite ?_ ?_)
   | (with_reducible refine LeO.bind ?_ (fun _ => ?_))
   | exact ih0 _ _ _ _ _ _
   | exact ih1 _ _ _ _
   | exact dragnetref09_Bits.mono _ _ _
   | exact dragnetref09_Formed.mono _ _ _
   | exact dragnetref09_Set.mono _ _
   | exact LeO.none _
   | refine LeO.ite ?_ ?_
   | refine LeO.bind ?_ (fun _ => ?_)
set_option maxHeartbeats 8000000 in
set_option maxRecDepth 100000 in
theorem dragnetref09_Join.calls (k : Nat) (a0 : Int) (a1_0 : Int) (A1_1 : Option Addr) (c1_1 : Nat) (l1_1 : List Int) (a2_0 : Int) (A2_1 : Option Addr) (c2_1 : Nat) (l2_1 : List Int) (r1 : Int) (r2 : List Int) (r3 : Int) (w : World) (hr1_1 : Kd.C (Kd.int .u64) w A1_1 l1_1.length l1_1) (hc1_1 : l1_1.length ≤ c1_1) (hr2_1 : Kd.C (Kd.int .u64) w A2_1 l2_1.length l2_1) (hc2_1 : l2_1.length ≤ c2_1) (h : dragnetref09_Join.f k a0 a1_0 l1_1 a2_0 l2_1 = some (r1, r2, r3)) :
  Calls Try.prog 28 #[.int .i64 a0, .agg #[.int .i64 a1_0, .slice A1_1 l1_1.length c1_1], .agg #[.int .i64 a2_0, .slice A2_1 l2_1.length c2_1]] w fun e w' => ∃ v1_ : Value, e = .returned (.tuple #[.agg #[.int .i64 r1, v1_], .int .i64 r3]) ∧ Kd.R (Kd.int .u64) 66 w' w.heap.size (fun _ => True) v1_ r2 ∧ Below w.heap.size w w' := by
 have hu38 := Try.underlying38
 have HR1_1 := Aside0.mk hr1_1
 have HC1_1 := Aside0.mk hc1_1
 clear hr1_1 hc1_1
 have HR2_1 := Aside0.mk hr2_1
 have HC2_1 := Aside0.mk hc2_1
 clear hr2_1 hc2_1
 have HB := Aside0.mk (Below.refl w.heap.size w)
 have H : ((dragnetref09_Formed.f k a1_0 l1_1).bind fun t250 => (if t250 = true then ((dragnetref09_Formed.f k a2_0 l2_1).bind fun t251 => (if t251 = true then (dragnetref09_Join.j0 k a0 (a1_0 != a2_0) a1_0 l1_1 a2_0 l2_1) else (dragnetref09_Join.j0 k a0 true a1_0 l1_1 a2_0 l2_1))) else (dragnetref09_Join.j0 k a0 true a1_0 l1_1 a2_0 l2_1))) = some (r1, r2, r3) := h
 clear h
 have HC4 := Aside0.mk H
 clear H
 go_enter Try.func28, Try.ntmps28
 go_upto_region 1 with (first | ((with_reducible refine gate_dst (N := 4) rfl ?_); refine box_event ?hg (N := 4) ?hd (cs := #[.int .i64 a1_0, .slice A1_1 l1_1.length c1_1]) (t := 38) ?hr ?_; (case hd => rfl); (case hg => rfl); (case hr => first | (go_simp; done) | (go_simp; rfl)); intro gb247 hg w5 hbox hb; have n0_ := bsA HB hb; have n1_ := Aside0.mk (hbox); have n2_ := szA HB hg; have n3_ := szA HB hg; clear HB; have HB := n0_; have BK247 := n1_; have GW247 := n2_; have GE247 := n3_; clear n0_ n1_ n2_ n3_; clear hb hbox hg) | ((with_reducible refine gate_dst (N := 5) rfl ?_); refine box_event ?hg (N := 5) ?hd (cs := #[.int .i64 a2_0, .slice A2_1 l2_1.length c2_1]) (t := 38) ?hr ?_; (case hd => rfl); (case hg => rfl); (case hr => first | (go_simp; done) | (go_simp; rfl)); intro gb248 hg w6 hbox hb; have n0_ := bkA BK247 hb; have n1_ := bsA HB hb; have n2_ := Aside0.mk (hbox); have n3_ := szA HB hg; have n4_ := szA HB hg; have n5_ := neA BK247 hg; have n6_ := neB BK247 hg; clear BK247; clear HB; have BK247 := n0_; have HB := n1_; have BK248 := n2_; have GW248 := n3_; have GE248 := n4_; have NB247_248 := n5_; have NB248_247 := n6_; clear n0_ n1_ n2_ n3_ n4_ n5_ n6_; clear hb hbox hg) | ((with_reducible refine gate_dst (N := 6) rfl ?_); refine box_event ?hg (N := 6) ?hd (cs := #[.int .i64 0, .slice none 0 0]) (t := 38) ?hr ?_; (case hd => rfl); (case hg => rfl); (case hr => first | (go_simp; done) | (go_simp; rfl)); intro gb249 hg w7 hbox hb; have n0_ := bkA BK247 hb; have n1_ := bkA BK248 hb; have n2_ := bsA HB hb; have n3_ := Aside0.mk (hbox); have n4_ := szA HB hg; have n5_ := szA HB hg; have n6_ := neA BK247 hg; have n7_ := neB BK247 hg; have n8_ := neA BK248 hg; have n9_ := neB BK248 hg; clear BK247; clear BK248; clear HB; have BK247 := n0_; have BK248 := n1_; have HB := n2_; have BK249 := n3_; have GW249 := n4_; have GE249 := n5_; have NB247_249 := n6_; have NB249_247 := n7_; have NB248_249 := n8_; have NB249_248 := n9_; clear n0_ n1_ n2_ n3_ n4_ n5_ n6_ n7_ n8_ n9_; clear hb hbox hg))
 (try simp only [Act.put, List.setIfInBounds_toArray, List.set_cons_zero, List.set_cons_succ])
 go_cut [25] (fun v25 wc => ∃ (kq : Nat) (x25_3 : Bool), v25 = .bool x25_3 ∧ Aside0 (dragnetref09_Join.j0 kq a0 x25_3 a1_0 l1_1 a2_0 l2_1 = some (r1, r2, r3)) ∧ Aside0 (kq ≤ k) ∧ Aside0 (wc.heap[gb247]? = some (.cells #[.int .i64 a1_0, (.slice A1_1 l1_1.length c1_1)] 38 (0, 0))) ∧ Aside0 (wc.heap[gb248]? = some (.cells #[.int .i64 a2_0, (.slice A2_1 l2_1.length c2_1)] 38 (0, 0))) ∧ Aside0 (wc.heap[gb249]? = some (.cells #[.int .i64 0, (.slice none 0 0)] 38 (0, 0))) ∧ Aside0 (Below w.heap.size w wc))
 case first =>
  have H := HC4.out
  clear HC4
  replace H := Option.bind_eq_some_iff.mp H
  obtain ⟨t250, A80, H⟩ := H
  replace H : (if t250 = true then ((dragnetref09_Formed.f k a2_0 l2_1).bind fun t251 => (if t251 = true then (dragnetref09_Join.j0 k a0 (a1_0 != a2_0) a1_0 l1_1 a2_0 l2_1) else (dragnetref09_Join.j0 k a0 true a1_0 l1_1 a2_0 l2_1))) else (dragnetref09_Join.j0 k a0 true a1_0 l1_1 a2_0 l2_1)) = some (r1, r2, r3) := H
  have A8 := Aside0.mk A80
  clear A80
  by_cases c9 : t250 = true
  ·subst c9
   have H1 : ((dragnetref09_Formed.f k a2_0 l2_1).bind fun t251 => (if t251 = true then (dragnetref09_Join.j0 k a0 (a1_0 != a2_0) a1_0 l1_1 a2_0 l2_1) else (dragnetref09_Join.j0 k a0 true a1_0 l1_1 a2_0 l2_1))) = some (r1, r2, r3) := by rw [if_pos rfl] at H; exact H
   clear H
   have H := H1
   clear H1
   replace H := Option.bind_eq_some_iff.mp H
   obtain ⟨t251, A100, H⟩ := H
   replace H : (if t251 = true then (dragnetref09_Join.j0 k a0 (a1_0 != a2_0) a1_0 l1_1 a2_0 l2_1) else (dragnetref09_Join.j0 k a0 true a1_0 l1_1 a2_0 l2_1)) = some (r1, r2, r3) := H
   have A10 := Aside0.mk A100
   clear A100
   by_cases c11 : t251 = true
   ·subst c11
    have H1 : (dragnetref09_Join.j0 k a0 (a1_0 != a2_0) a1_0 l1_1 a2_0 l2_1) = some (r1, r2, r3) := by rw [if_pos rfl] at H; exact H
    clear H
    have H := H1
    clear H1
    have H' := Aside0.mk H
    clear H
    have hnb12 := NB247_248.out
    have hnc12 := NB248_247.out
    have hnb13 := NB247_249.out
    have hnc13 := NB249_247.out
    have hcz14_0 : w7.cell? ⟨gb247, 0, none⟩ = some (.int .i64 a1_0) := (blk_cell BK247.out 0).trans rfl
    have hcz14_1 : w7.cell? ⟨gb247, 1, none⟩ = some (.slice A1_1 l1_1.length c1_1) := (blk_cell BK247.out 1).trans rfl
    have hfz14_0 := blk_frozen BK247.out 0
    have hfz14_1 := blk_frozen BK247.out 1
    go_wp2_with (first | ((with_reducible refine gate_callee (f := 50) rfl ?_); refine goesL_ (some 12) rfl rfl Try.func50 (by kernel_rfl) rfl #[.agg #[.int .i64 a1_0, .slice A1_1 l1_1.length c1_1]] rfl (by (try simp only [List.map_toArray, List.map_cons, List.map_nil]); first | done | rfl | (simp only [List.length_drop, List.length_take]; rfl)) ?_; (with_reducible refine (dragnetref09_Formed.calls k a1_0 _ _ l1_1 true _ ?side1 ?side2 A8.out).mono ?_); (case side1 => repeat (first | exact (Kd.C_below HR1_1.out HB.out) | (with_reducible refine Kd.C_alloc ?_ _) | (with_reducible refine Kd.C_drewN ?_ _) | (with_reducible refine Kd.C_drew ?_))); (case side2 => exact HC1_1.out); rintro e w15 ⟨rfl, hb⟩; refine ⟨_, rfl, ?_⟩; have n0_ := bkA BK247 hb; have n1_ := bkA BK248 hb; have n2_ := bkA BK249 hb; have n3_ := bsA HB hb; clear BK247; clear BK248; clear BK249; clear HB; have BK247 := n0_; have BK248 := n1_; have BK249 := n2_; have HB := n3_; clear n0_ n1_ n2_ n3_; (try clear hb); (try clear hb2); (try clear hk); (try clear hi); have hnb16 := NB248_249.out; have hnc16 := NB249_248.out; have hcz17_0 : w15.cell? ⟨gb248, 0, none⟩ = some (.int .i64 a2_0) := (blk_cell BK248.out 0).trans rfl; have hcz17_1 : w15.cell? ⟨gb248, 1, none⟩ = some (.slice A2_1 l2_1.length c2_1) := (blk_cell BK248.out 1).trans rfl; have hfz17_0 := blk_frozen BK248.out 0; have hfz17_1 := blk_frozen BK248.out 1) | (go_at_call 50; (with_reducible refine (dragnetref09_Formed.calls k a2_0 _ _ l2_1 true _ ?side1 ?side2 A10.out).mono ?_); (case side1 => repeat (first | exact (Kd.C_below HR2_1.out HB.out) | (with_reducible refine Kd.C_alloc ?_ _) | (with_reducible refine Kd.C_drewN ?_ _) | (with_reducible refine Kd.C_drew ?_))); (case side2 => exact HC2_1.out); rintro e w18 ⟨rfl, hb⟩; have n0_ := bkA BK247 hb; have n1_ := bkA BK248 hb; have n2_ := bkA BK249 hb; have n3_ := bsA HB hb; clear BK247; clear BK248; clear BK249; clear HB; have BK247 := n0_; have BK248 := n1_; have BK249 := n2_; have HB := n3_; clear n0_ n1_ n2_ n3_; (try clear hb); (try clear hb2); (try clear hk); (try clear hi); have hcz19_0 : w18.cell? ⟨gb247, 0, none⟩ = some (.int .i64 a1_0) := (blk_cell BK247.out 0).trans rfl; have hcz19_1 : w18.cell? ⟨gb247, 1, none⟩ = some (.slice A1_1 l1_1.length c1_1) := (blk_cell BK247.out 1).trans rfl; have hfz19_0 := blk_frozen BK247.out 0; have hfz19_1 := blk_frozen BK247.out 1; have hcz20_0 : w18.cell? ⟨gb248, 0, none⟩ = some (.int .i64 a2_0) := (blk_cell BK248.out 0).trans rfl; have hcz20_1 : w18.cell? ⟨gb248, 1, none⟩ = some (.slice A2_1 l2_1.length c2_1) := (blk_cell BK248.out 1).trans rfl; have hfz20_0 := blk_frozen BK248.out 0; have hfz20_1 := blk_frozen BK248.out 1))
    go_meet
    case rel => exact ⟨_, ((a1_0 != a2_0)), (by first | rfl | (simp; done) | (simp [*]; done)), H', ⟨by first | omega | exact Nat.le_refl _⟩, ⟨by (with_reducible repeat (first | refine blk_drewN ?_ _ | refine blk_drew ?_ | refine blk_alloc ?_ _)); exact BK247.out⟩, ⟨by (with_reducible repeat (first | refine blk_drewN ?_ _ | refine blk_drew ?_ | refine blk_alloc ?_ _)); exact BK248.out⟩, ⟨by (with_reducible repeat (first | refine blk_drewN ?_ _ | refine blk_drew ?_ | refine blk_alloc ?_ _)); exact BK249.out⟩, ⟨by repeat (first | (with_reducible first | exact HB.out | apply below_alloc | apply pw_below_drewN | apply below_drew1 | refine below_set ?_ GE247.out | refine below_set ?_ GE248.out | refine below_set ?_ GE249.out) | exact HB.out)⟩⟩
   ·replace c11 := Bool.eq_false_iff.mpr c11
    subst c11
    have H1 : (dragnetref09_Join.j0 k a0 true a1_0 l1_1 a2_0 l2_1) = some (r1, r2, r3) := by rw [if_neg (show ¬ (false = true) by decide)] at H; exact H
    clear H
    have H := H1
    clear H1
    have H' := Aside0.mk H
    clear H
    have hnb21 := NB247_248.out
    have hnc21 := NB248_247.out
    have hnb22 := NB247_249.out
    have hnc22 := NB249_247.out
    have hcz23_0 : w7.cell? ⟨gb247, 0, none⟩ = some (.int .i64 a1_0) := (blk_cell BK247.out 0).trans rfl
    have hcz23_1 : w7.cell? ⟨gb247, 1, none⟩ = some (.slice A1_1 l1_1.length c1_1) := (blk_cell BK247.out 1).trans rfl
    have hfz23_0 := blk_frozen BK247.out 0
    have hfz23_1 := blk_frozen BK247.out 1
    go_wp2_with (first | ((with_reducible refine gate_callee (f := 50) rfl ?_); refine goesL_ (some 12) rfl rfl Try.func50 (by kernel_rfl) rfl #[.agg #[.int .i64 a1_0, .slice A1_1 l1_1.length c1_1]] rfl (by (try simp only [List.map_toArray, List.map_cons, List.map_nil]); first | done | rfl | (simp only [List.length_drop, List.length_take]; rfl)) ?_; (with_reducible refine (dragnetref09_Formed.calls k a1_0 _ _ l1_1 true _ ?side1 ?side2 A8.out).mono ?_); (case side1 => repeat (first | exact (Kd.C_below HR1_1.out HB.out) | (with_reducible refine Kd.C_alloc ?_ _) | (with_reducible refine Kd.C_drewN ?_ _) | (with_reducible refine Kd.C_drew ?_))); (case side2 => exact HC1_1.out); rintro e w24 ⟨rfl, hb⟩; refine ⟨_, rfl, ?_⟩; have n0_ := bkA BK247 hb; have n1_ := bkA BK248 hb; have n2_ := bkA BK249 hb; have n3_ := bsA HB hb; clear BK247; clear BK248; clear BK249; clear HB; have BK247 := n0_; have BK248 := n1_; have BK249 := n2_; have HB := n3_; clear n0_ n1_ n2_ n3_; (try clear hb); (try clear hb2); (try clear hk); (try clear hi); have hnb25 := NB248_249.out; have hnc25 := NB249_248.out; have hcz26_0 : w24.cell? ⟨gb248, 0, none⟩ = some (.int .i64 a2_0) := (blk_cell BK248.out 0).trans rfl; have hcz26_1 : w24.cell? ⟨gb248, 1, none⟩ = some (.slice A2_1 l2_1.length c2_1) := (blk_cell BK248.out 1).trans rfl; have hfz26_0 := blk_frozen BK248.out 0; have hfz26_1 := blk_frozen BK248.out 1) | (go_at_call 50; (with_reducible refine (dragnetref09_Formed.calls k a2_0 _ _ l2_1 false _ ?side1 ?side2 A10.out).mono ?_); (case side1 => repeat (first | exact (Kd.C_below HR2_1.out HB.out) | (with_reducible refine Kd.C_alloc ?_ _) | (with_reducible refine Kd.C_drewN ?_ _) | (with_reducible refine Kd.C_drew ?_))); (case side2 => exact HC2_1.out); rintro e w27 ⟨rfl, hb⟩; have n0_ := bkA BK247 hb; have n1_ := bkA BK248 hb; have n2_ := bkA BK249 hb; have n3_ := bsA HB hb; clear BK247; clear BK248; clear BK249; clear HB; have BK247 := n0_; have BK248 := n1_; have BK249 := n2_; have HB := n3_; clear n0_ n1_ n2_ n3_; (try clear hb); (try clear hb2); (try clear hk); (try clear hi)))
    go_meet
    case rel => exact ⟨_, (true), (by first | rfl | (simp; done) | (simp [*]; done)), H', ⟨by first | omega | exact Nat.le_refl _⟩, ⟨by (with_reducible repeat (first | refine blk_drewN ?_ _ | refine blk_drew ?_ | refine blk_alloc ?_ _)); exact BK247.out⟩, ⟨by (with_reducible repeat (first | refine blk_drewN ?_ _ | refine blk_drew ?_ | refine blk_alloc ?_ _)); exact BK248.out⟩, ⟨by (with_reducible repeat (first | refine blk_drewN ?_ _ | refine blk_drew ?_ | refine blk_alloc ?_ _)); exact BK249.out⟩, ⟨by repeat (first | (with_reducible first | exact HB.out | apply below_alloc | apply pw_below_drewN | apply below_drew1 | refine below_set ?_ GE247.out | refine below_set ?_ GE248.out | refine below_set ?_ GE249.out) | exact HB.out)⟩⟩
  ·replace c9 := Bool.eq_false_iff.mpr c9
   subst c9
   have H1 : (dragnetref09_Join.j0 k a0 true a1_0 l1_1 a2_0 l2_1) = some (r1, r2, r3) := by rw [if_neg (show ¬ (false = true) by decide)] at H; exact H
   clear H
   have H := H1
   clear H1
   have H' := Aside0.mk H
   clear H
   have hnb28 := NB247_248.out
   have hnc28 := NB248_247.out
   have hnb29 := NB247_249.out
   have hnc29 := NB249_247.out
   have hcz30_0 : w7.cell? ⟨gb247, 0, none⟩ = some (.int .i64 a1_0) := (blk_cell BK247.out 0).trans rfl
   have hcz30_1 : w7.cell? ⟨gb247, 1, none⟩ = some (.slice A1_1 l1_1.length c1_1) := (blk_cell BK247.out 1).trans rfl
   have hfz30_0 := blk_frozen BK247.out 0
   have hfz30_1 := blk_frozen BK247.out 1
   go_wp2_with (first | ((with_reducible refine gate_callee (f := 50) rfl ?_); refine goesL_ (some 12) rfl rfl Try.func50 (by kernel_rfl) rfl #[.agg #[.int .i64 a1_0, .slice A1_1 l1_1.length c1_1]] rfl (by (try simp only [List.map_toArray, List.map_cons, List.map_nil]); first | done | rfl | (simp only [List.length_drop, List.length_take]; rfl)) ?_; (with_reducible refine (dragnetref09_Formed.calls k a1_0 _ _ l1_1 false _ ?side1 ?side2 A8.out).mono ?_); (case side1 => repeat (first | exact (Kd.C_below HR1_1.out HB.out) | (with_reducible refine Kd.C_alloc ?_ _) | (with_reducible refine Kd.C_drewN ?_ _) | (with_reducible refine Kd.C_drew ?_))); (case side2 => exact HC1_1.out); rintro e w31 ⟨rfl, hb⟩; refine ⟨_, rfl, ?_⟩; have n0_ := bkA BK247 hb; have n1_ := bkA BK248 hb; have n2_ := bkA BK249 hb; have n3_ := bsA HB hb; clear BK247; clear BK248; clear BK249; clear HB; have BK247 := n0_; have BK248 := n1_; have BK249 := n2_; have HB := n3_; clear n0_ n1_ n2_ n3_; (try clear hb); (try clear hb2); (try clear hk); (try clear hi)))
   go_meet
   case rel => exact ⟨_, (true), (by first | rfl | (simp; done) | (simp [*]; done)), H', ⟨by first | omega | exact Nat.le_refl _⟩, ⟨by (with_reducible repeat (first | refine blk_drewN ?_ _ | refine blk_drew ?_ | refine blk_alloc ?_ _)); exact BK247.out⟩, ⟨by (with_reducible repeat (first | refine blk_drewN ?_ _ | refine blk_drew ?_ | refine blk_alloc ?_ _)); exact BK248.out⟩, ⟨by (with_reducible repeat (first | refine blk_drewN ?_ _ | refine blk_drew ?_ | refine blk_alloc ?_ _)); exact BK249.out⟩, ⟨by repeat (first | (with_reducible first | exact HB.out | apply below_alloc | apply pw_below_drewN | apply below_drew1 | refine below_set ?_ GE247.out | refine below_set ?_ GE248.out | refine below_set ?_ GE249.out) | exact HB.out)⟩⟩
 case rest =>
  clear HC4
  try clear c1
  try clear c2
  try clear p2
  try clear c5
  try clear c9
  try clear c11
  try clear c12
  try clear c13
  try clear c16
  try clear c21
  try clear c22
  try clear c25
  try clear c28
  try clear c29
  try clear hcz14_0
  try clear hcz14_1
  try clear hcz17_0
  try clear hcz17_1
  try clear hcz19_0
  try clear hcz19_1
  try clear hcz20_0
  try clear hcz20_1
  try clear hcz23_0
  try clear hcz23_1
  try clear hcz26_0
  try clear hcz26_1
  try clear hcz30_0
  try clear hcz30_1
  try clear hfz14_0
  try clear hfz14_1
  try clear hfz17_0
  try clear hfz17_1
  try clear hfz19_0
  try clear hfz19_1
  try clear hfz20_0
  try clear hfz20_1
  try clear hfz23_0
  try clear hfz23_1
  try clear hfz26_0
  try clear hfz26_1
  try clear hfz30_0
  try clear hfz30_1
  obtain ⟨kq, x25_3, rfl, HA, HJ3, BK247, BK248, BK249, HB⟩ := hcut
  cases kq with
  | zero => exact absurd HA.out (by simp [dragnetref09_Join.j0])
  | succ kj3 =>
   have H := HA.out
   clear HA
   simp only [dragnetref09_Join.j0] at H
   by_cases c32 : x25_3 = true
   ·subst c32
    have H1 : (some (0, ([] : List Int), 1)) = some (r1, r2, r3) := by rw [if_pos rfl] at H; exact H
    clear H
    have H := H1
    clear H1
    simp only [Option.some.injEq, Prod.mk.injEq] at H
    obtain ⟨rfl, rfl, rfl⟩ := H
    have hnb33 := NB249_247.out
    have hnc33 := NB247_249.out
    have hnb34 := NB249_248.out
    have hnc34 := NB248_249.out
    have hcz35_0 : wc.cell? ⟨gb249, 0, none⟩ = some (.int .i64 0) := (blk_cell BK249.out 0).trans rfl
    have hcz35_1 : wc.cell? ⟨gb249, 1, none⟩ = some (.slice none 0 0) := (blk_cell BK249.out 1).trans rfl
    have hfz35_0 := blk_frozen BK249.out 0
    have hfz35_1 := blk_frozen BK249.out 1
    go_wp2
    refine bodyPost_ret (results_ct rfl _ _ gb249 38 #[.int .i64 0, .slice none 0 0] (0, 0) _ rfl (by (with_reducible repeat (first | refine blk_drewN ?_ _ | refine blk_drew ?_ | refine blk_alloc ?_ _)); refine blk_put (cs := #[.int .i64 0, .slice none 0 0]) ?_ 1 _ rfl; (with_reducible repeat (first | refine blk_drewN ?_ _ | refine blk_drew ?_ | refine blk_alloc ?_ _)); refine blk_put (cs := #[.int .i64 0, .slice none 0 0]) ?_ 0 _ rfl; (with_reducible repeat (first | refine blk_drewN ?_ _ | refine blk_drew ?_ | refine blk_alloc ?_ _)); exact BK249.out) Try.underlying38 rfl (by kernel_rfl)) rfl ?_
    exact ⟨_, by first | rfl | (simp [errW_none, errW_some] <;> rfl) | (simp [*, errW_none, errW_some] <;> rfl), by first | exact Kd.R_nil _ _ _ _ _ | exact Kd.N_nil _ _ _ _ _ | exact Kd.V_nil _ _ _ _ _ | exact Kd.Q_nil _ _ _ _ _ | exact Kd.S_nil _ _ _ _ _, by repeat (first | (with_reducible first | exact HB.out | apply below_alloc | apply pw_below_drewN | apply below_drew1 | refine below_set ?_ GE247.out | refine below_set ?_ GE248.out | refine below_set ?_ GE249.out) | exact HB.out)⟩
   ·replace c32 := Bool.eq_false_iff.mpr c32
    subst c32
    have H1 : ((dragnetref09_Bits.f kj3 a1_0 l1_1).bind fun t252 => ((dragnetref09_Bits.f kj3 a2_0 l2_1).bind fun t255 => (dragnetref09_Join.l0 kj3 a0 t252 t255 0))) = some (r1, r2, r3) := by rw [if_neg (show ¬ (false = true) by decide)] at H; exact H
    clear H
    have H := H1
    clear H1
    replace H := Option.bind_eq_some_iff.mp H
    obtain ⟨t252, A360, H⟩ := H
    replace H : ((dragnetref09_Bits.f kj3 a2_0 l2_1).bind fun t255 => (dragnetref09_Join.l0 kj3 a0 t252 t255 0)) = some (r1, r2, r3) := H
    have A36 := Aside0.mk A360
    clear A360
    replace H := Option.bind_eq_some_iff.mp H
    obtain ⟨t255, A370, H⟩ := H
    replace H : (dragnetref09_Join.l0 kj3 a0 t252 t255 0) = some (r1, r2, r3) := H
    have A37 := Aside0.mk A370
    clear A370
    have H' := Aside0.mk H
    clear H
    try go_wp2
    have n0_ := Aside0.mk (blk_drew BK247.out)
    have n1_ := Aside0.mk (blk_drew BK248.out)
    have n2_ := Aside0.mk (blk_drew BK249.out)
    have n3_ := Aside0.mk (below_drew1 HB.out)
    clear BK247
    clear BK248
    clear BK249
    clear HB
    have BK247 := n0_
    have BK248 := n1_
    have BK249 := n2_
    have HB := n3_
    clear n0_ n1_ n2_ n3_
    refine start_ (n := 6) (S := fun w' => w'.cell? ⟨gb247, 0, none⟩ = some (.int .i64 a1_0) ∧ w'.cell? ⟨gb247, 1, none⟩ = some (.slice A1_1 l1_1.length c1_1) ∧ w'.cell? ⟨gb248, 0, none⟩ = some (.int .i64 a2_0) ∧ w'.cell? ⟨gb248, 1, none⟩ = some (.slice A2_1 l2_1.length c2_1)) (ds := []) #[false, false, false, false, false, false] (by kernel_rfl) rfl rfl ⟨(blk_cell BK247.out 0).trans rfl, (blk_cell BK247.out 1).trans rfl, (blk_cell BK248.out 0).trans rfl, (blk_cell BK248.out 1).trans rfl⟩ (fun hHeld => ?_)
    generalize wc.drew = w38 at BK247 BK248 BK249 HB hHeld ⊢
    refine take_ (i := 0) (N := some 27) (v := ?_) (a' := ?_) #[true, false, false, false, false, false] rfl rfl (by kernel_rfl) (fun _ _ _ h => h) (Or.inl ⟨by rfl, ?_⟩) hHeld ?_ ?_
    rotate_left
    ·rintro w' ⟨s0, s1, s2, s3⟩
     go_simp
     with_reducible rfl
    rotate_left
    ·simp only [Act.put, List.setIfInBounds_toArray, List.set_cons_zero, List.set_cons_succ, i64_w, i32_w]
     rfl
    refine take_ (i := 2) (N := some 29) (v := ?_) (a' := ?_) #[true, false, true, false, false, false] rfl rfl (by kernel_rfl) (fun _ _ _ h => h) (Or.inl ⟨by rfl, ?_⟩) hHeld ?_ ?_
    rotate_left
    ·rintro w' ⟨s0, s1, s2, s3⟩
     go_simp
     with_reducible rfl
    rotate_left
    ·simp only [Act.put, List.setIfInBounds_toArray, List.set_cons_zero, List.set_cons_succ, i64_w, i32_w]
     rfl
    refine one_ (i := 1) (N := some 28) #[true, true, true, false, false, false] rfl rfl (by kernel_rfl) (by decide) (fun K hK => ?_)
    refine goes_ Try.func51 (by kernel_rfl) rfl #[.agg #[.int .i64 a1_0, .slice A1_1 l1_1.length c1_1]] (by rfl) rfl rfl (by (try simp only [List.map_toArray, List.map_cons, List.map_nil]); first | done | rfl | (simp only [List.length_drop, List.length_take]; rfl)) ?_
    with_reducible refine (dragnetref09_Bits.calls kj3 a1_0 _ _ l1_1 t252 _ ?side1 ?side2 A36.out).mono ?_
    (case side1 => repeat (first | exact (Kd.C_below HR1_1.out HB.out) | (with_reducible refine Kd.C_alloc ?_ _) | (with_reducible refine Kd.C_drewN ?_ _) | (with_reducible refine Kd.C_drew ?_)))
    (case side2 => exact HC1_1.out)
    rintro e w39 ⟨v253, rfl, ho0, hb⟩
    refine ⟨_, rfl, ?_⟩
    have n0_ := Aside0.mk (Kd.R_lower ho0 (below_size (by repeat (first | (with_reducible first | exact HB.out | apply below_alloc | apply pw_below_drewN | apply below_drew1 | refine below_set ?_ GE247.out | refine below_set ?_ GE248.out | refine below_set ?_ GE249.out) | exact HB.out))))
    have n1_ := bkA BK247 hb
    have n2_ := bkA BK248 hb
    have n3_ := bkA BK249 hb
    have n4_ := bsA HB hb
    clear BK247
    clear BK248
    clear BK249
    clear HB
    have HO254 := n0_
    have BK247 := n1_
    have BK248 := n2_
    have BK249 := n3_
    have HB := n4_
    clear n0_ n1_ n2_ n3_ n4_
    (try clear hb)
    (try clear hb2)
    (try clear hk)
    (try clear hi)
    (try clear ho0)
    refine hK.out _ _ ⟨(blk_cell BK247.out 0).trans rfl, (blk_cell BK247.out 1).trans rfl, (blk_cell BK248.out 0).trans rfl, (blk_cell BK248.out 1).trans rfl⟩ (fun hHeld => ?_)
    clear hK K
    refine norm_ (a' := ?_) ?_ ?_
    rotate_left
    ·show Act.put _ (some 28) _ = _
     simp only [Act.put, List.setIfInBounds_toArray, List.set_cons_zero, List.set_cons_succ, i64_w, i32_w]
     rfl
    refine one_ (i := 3) (N := some 30) #[true, true, true, true, false, false] rfl rfl (by kernel_rfl) (by decide) (fun K hK => ?_)
    refine goes_ Try.func51 (by kernel_rfl) rfl #[.agg #[.int .i64 a2_0, .slice A2_1 l2_1.length c2_1]] (by rfl) rfl rfl (by (try simp only [List.map_toArray, List.map_cons, List.map_nil]); first | done | rfl | (simp only [List.length_drop, List.length_take]; rfl)) ?_
    with_reducible refine (dragnetref09_Bits.calls kj3 a2_0 _ _ l2_1 t255 _ ?side1 ?side2 A37.out).mono ?_
    (case side1 => repeat (first | exact (Kd.C_below HR2_1.out HB.out) | (with_reducible refine Kd.C_alloc ?_ _) | (with_reducible refine Kd.C_drewN ?_ _) | (with_reducible refine Kd.C_drew ?_)))
    (case side2 => exact HC2_1.out)
    rintro e w40 ⟨v256, rfl, ho0, hb⟩
    refine ⟨_, rfl, ?_⟩
    have n0_ := Aside0.mk (Kd.R_elder' (by (with_reducible repeat (first | apply Kd.R_alloc | apply Kd.R_drewN | apply Kd.R_drew)); exact HO254.out) (Kd.R_base ho0) hb)
    have n1_ := Aside0.mk (Kd.R_lower (Kd.R_new' ho0 (Kd.R_lt (by (with_reducible repeat (first | apply Kd.R_alloc | apply Kd.R_drewN | apply Kd.R_drew)); exact HO254.out))) (below_size (by repeat (first | (with_reducible first | exact HB.out | apply below_alloc | apply pw_below_drewN | apply below_drew1 | refine below_set ?_ GE247.out | refine below_set ?_ GE248.out | refine below_set ?_ GE249.out) | exact HB.out))))
    have n2_ := bkA BK247 hb
    have n3_ := bkA BK248 hb
    have n4_ := bkA BK249 hb
    have n5_ := bsA HB hb
    clear HO254
    clear BK247
    clear BK248
    clear BK249
    clear HB
    have HO254 := n0_
    have HO257 := n1_
    have BK247 := n2_
    have BK248 := n3_
    have BK249 := n4_
    have HB := n5_
    clear n0_ n1_ n2_ n3_ n4_ n5_
    (try clear hb)
    (try clear hb2)
    (try clear hk)
    (try clear hi)
    (try clear ho0)
    refine hK.out _ _ ⟨(blk_cell BK247.out 0).trans rfl, (blk_cell BK247.out 1).trans rfl, (blk_cell BK248.out 0).trans rfl, (blk_cell BK248.out 1).trans rfl⟩ (fun hHeld => ?_)
    clear hK K
    refine norm_ (a' := ?_) ?_ ?_
    rotate_left
    ·show Act.put _ (some 30) _ = _
     simp only [Act.put, List.setIfInBounds_toArray, List.set_cons_zero, List.set_cons_succ, i64_w, i32_w]
     rfl
    refine pure_ (i := 4) (N := some 8) (v := ?_) (a' := ?_) #[true, true, true, true, true, false] rfl rfl (by kernel_rfl) (fun _ _ _ h => h) (Or.inl ⟨by rfl, ?_⟩) ?_ ?_
    rotate_left
    ·intro w'
     go_simp
     with_reducible rfl
    rotate_left
    ·simp only [Act.put, List.setIfInBounds_toArray, List.set_cons_zero, List.set_cons_succ, i64_w, i32_w]
     rfl
    refine pure_ (i := 5) (N := some 9) (v := ?_) (a' := ?_) #[true, true, true, true, true, true] rfl rfl (by kernel_rfl) (fun _ _ _ h => h) (Or.inl ⟨by rfl, ?_⟩) ?_ ?_
    rotate_left
    ·intro w'
     go_simp
     with_reducible rfl
    rotate_left
    ·simp only [Act.put, List.setIfInBounds_toArray, List.set_cons_zero, List.set_cons_succ, i64_w, i32_w]
     rfl
    refine done_ (by kernel_rfl) ?_
    try go_wp2
    go_loopg [10] kj3 (fun kq v10 w' => ∃ (x8_2 : List Bool) (x10_2 : Int), v10 = .int .i64 x10_2 ∧ Aside0 (dragnetref09_Join.l0 kq a0 x8_2 t255 x10_2 = some (r1, r2, r3)) ∧ Aside0 (kq ≤ kj3) ∧ Aside0 (Kd.R Kd.bool 4 w' w.heap.size (fun k_ => some k_ ≠ (v256 : Value).ownBlock) v253 x8_2) ∧ Aside0 (Kd.R Kd.bool 4 w' w.heap.size (fun k_ => some k_ ≠ (v253 : Value).ownBlock) v256 t255) ∧ Aside0 (w'.heap[gb247]? = some (.cells #[.int .i64 a1_0, (.slice A1_1 l1_1.length c1_1)] 38 (0, 0))) ∧ Aside0 (w'.heap[gb248]? = some (.cells #[.int .i64 a2_0, (.slice A2_1 l2_1.length c2_1)] 38 (0, 0))) ∧ Aside0 (w'.heap[gb249]? = some (.cells #[.int .i64 0, (.slice none 0 0)] 38 (0, 0))) ∧ Aside0 (Below w.heap.size w w'))
    case atStart => exact ⟨(t252), (0), (by first | rfl | (simp; done) | (simp [*]; done)), H', ⟨Nat.le_refl _⟩, ⟨by (with_reducible repeat (first | apply Kd.R_alloc | apply Kd.R_drewN | apply Kd.R_drew)); exact Kd.R_mono HO254.out (fun _ hk => hk.2)⟩, ⟨by (with_reducible repeat (first | apply Kd.R_alloc | apply Kd.R_drewN | apply Kd.R_drew)); exact Kd.R_mono HO257.out (fun _ hk => hk.2)⟩, ⟨by (with_reducible repeat (first | refine blk_drewN ?_ _ | refine blk_drew ?_ | refine blk_alloc ?_ _)); exact BK247.out⟩, ⟨by (with_reducible repeat (first | refine blk_drewN ?_ _ | refine blk_drew ?_ | refine blk_alloc ?_ _)); exact BK248.out⟩, ⟨by (with_reducible repeat (first | refine blk_drewN ?_ _ | refine blk_drew ?_ | refine blk_alloc ?_ _)); exact BK249.out⟩, ⟨by repeat (first | (with_reducible first | exact HB.out | apply below_alloc | apply pw_below_drewN | apply below_drew1 | refine below_set ?_ GE247.out | refine below_set ?_ GE248.out | refine below_set ?_ GE249.out) | exact HB.out)⟩⟩
    case round =>
     clear H'
     try clear c1
     try clear c2
     try clear p2
     try clear c3
     try clear c5
     try clear c9
     try clear c11
     try clear c12
     try clear c13
     try clear c16
     try clear c21
     try clear c22
     try clear c25
     try clear c28
     try clear c29
     try clear c32
     try clear c33
     try clear c34
     try clear hcz14_0
     try clear hcz14_1
     try clear hcz17_0
     try clear hcz17_1
     try clear hcz19_0
     try clear hcz19_1
     try clear hcz20_0
     try clear hcz20_1
     try clear hcz23_0
     try clear hcz23_1
     try clear hcz26_0
     try clear hcz26_1
     try clear hcz30_0
     try clear hcz30_1
     try clear hcz35_0
     try clear hcz35_1
     try clear hfz14_0
     try clear hfz14_1
     try clear hfz17_0
     try clear hfz17_1
     try clear hfz19_0
     try clear hfz19_1
     try clear hfz20_0
     try clear hfz20_1
     try clear hfz23_0
     try clear hfz23_1
     try clear hfz26_0
     try clear hfz26_1
     try clear hfz30_0
     try clear hfz30_1
     try clear hfz35_0
     try clear hfz35_1
     try clear p2
     obtain ⟨x8_2, x10_2, rfl, HA, HK2, HO_8, HO_9, BK247, BK248, BK249, HB⟩ := hrel
     cases gk with
     | zero => exact absurd HA.out (by simp [dragnetref09_Join.l0])
     | succ k2 =>
      have H := HA.out
      clear HA
      simp only [dragnetref09_Join.l0] at H
      by_cases c41 : x10_2 < (x8_2.length : Int)
      ·rw [if_pos c41] at H
       have c41b0 : decide (x10_2 < (x8_2.length : Int)) = true := decide_eq_true c41
       clear c41
       by_cases c42 : a0 = 0
       ·rw [if_pos c42] at H
        have c42b0 : (a0 == 0) = true := beq_iff_eq.mpr c42
        have c42b1 : (a0 != 0) = false := bne_eq_false_iff_eq.mpr c42
        clear c42
        by_cases c43 : 0 ≤ x10_2
        ·rw [if_pos c43] at H
         have c43b0 : decide (0 ≤ x10_2) = true := decide_eq_true c43
         clear c43
         obtain ⟨bq44, hbq44⟩ : ∃ b_ : Bool, b_ = (rdOf false x8_2 x10_2) := ⟨_, rfl⟩
         replace H : (if bq44 = true then (if x10_2 < (t255.length : Int) then (dragnetref09_Join.l0 k2 a0 (x8_2.set (x10_2 : Int).toNat (rdOf false t255 x10_2)) t255 (wrap64 (x10_2 + 1))) else (none)) else (dragnetref09_Join.l0 k2 a0 (x8_2.set (x10_2 : Int).toNat false) t255 (wrap64 (x10_2 + 1)))) = some (r1, r2, r3) := by rw [← hbq44] at H; exact H
         have Nbq44 := Aside0.mk hbq44
         clear hbq44
         by_cases c45 : bq44 = true
         ·subst c45
          have H1 : (if x10_2 < (t255.length : Int) then (dragnetref09_Join.l0 k2 a0 (x8_2.set (x10_2 : Int).toNat (rdOf false t255 x10_2)) t255 (wrap64 (x10_2 + 1))) else (none)) = some (r1, r2, r3) := by rw [if_pos rfl] at H; exact H
          clear H
          have H := H1
          clear H1
          by_cases c46 : x10_2 < (t255.length : Int)
          ·rw [if_pos c46] at H
           have c46b0 : decide (x10_2 < (t255.length : Int)) = true := decide_eq_true c46
           clear c46
           obtain ⟨y264, hy264⟩ : ∃ y_ : List Bool, y_ = (x8_2.set (x10_2 : Int).toNat (rdOf false t255 x10_2)) := ⟨_, rfl⟩
           replace H : (dragnetref09_Join.l0 k2 a0 y264 t255 (wrap64 (x10_2 + 1))) = some (r1, r2, r3) := by first | (rw [hy264]; with_reducible exact H) | (have H2_ := (Option.bind_some _ _).symm.trans H; rw [hy264]; with_reducible exact H2_) | (have H2_ := (Option.bind_some _ _).symm.trans H; with_reducible exact H2_) | with_reducible exact H | (rw [hy264]; exact H) | exact H
           have Ny264 := Aside0.mk hy264
           clear hy264
           have H' := Aside0.mk H
           clear H
           obtain ⟨Ao48, co48, eo48⟩ := Kd.R_slice HO_8.out
           subst eo48
           have p262 : 0 ≤ (x10_2 : Int) := of_decide_eq_true (by first | (with_reducible assumption) | assumption)
           have q262 : x10_2 < (x8_2.length : Int) := of_decide_eq_true (by first | (with_reducible assumption) | assumption)
           obtain ⟨ad262, e262, hx262_0⟩ := Kd.at_bool (Kd.R_reads' HO_8.out).2.2 x10_2 p262 q262
           (try rw [← Nbq44.out] at hx262_0)
           cases e262
           replace p262 := eq_true p262
           replace q262 := eq_true q262
           obtain ⟨Ao49, co49, eo49⟩ := Kd.R_slice HO_9.out
           subst eo49
           have p263 : 0 ≤ (x10_2 : Int) := of_decide_eq_true (by first | (with_reducible assumption) | assumption)
           have q263 : x10_2 < (t255.length : Int) := of_decide_eq_true (by first | (with_reducible assumption) | assumption)
           obtain ⟨ad263, e263, hx263_0⟩ := Kd.at_bool (Kd.R_reads' HO_9.out).2.2 x10_2 p263 q263
           (try rw [← Nbq44.out] at hx263_0)
           cases e263
           replace p263 := eq_true p263
           replace q263 := eq_true q263
           have p47 : 0 ≤ (x10_2 : Int) := of_decide_eq_true (by first | (with_reducible assumption) | assumption)
           have q47 : (x10_2 : Int) < ((x8_2.length : Int) : Int) := of_decide_eq_true (by first | (with_reducible assumption) | assumption)
           obtain ⟨go47, co47, eo47, gb47, gl47, cl47, HG47⟩ := Kd.R_form HO_8.out (by omega)
           (first | cases eo47 | (injection eo47 with ea_ en_ ec_; (first | subst ea_ | (injection ea_ with ea_; subst ea_)); subst ec_; clear en_))
           have GB47 := Aside0.mk gb47
           have GG47 := Aside0.mk HG47
           clear gb47 gl47 HG47
           (first | simp only [add_plain] at hx262_0 | skip)
           obtain ⟨hx47_0, hf47_0⟩ := Kd.R_celln false HO_8.out (x10_2 : Int) p47 q47
           replace p47 := eq_true p47
           replace q47 := eq_true q47
           have HP50 := Kd.R_putg HO_8.out (x10_2 : Int) (rdOf false t255 x10_2)
           go_wp2_with (first | ((with_reducible refine gate_store (t := 4) (p := 66) rfl ?_); refine store_event (t := 4) (p := 66) (v := ?vo_w51) (w1 := (wr.setCell ⟨go47, (x10_2 : Int).toNat, none⟩ (.bool (rdOf false t255 x10_2)))) ?hg ?ho ?hn ?hr ?_; (case ho => rfl); (case hg => rfl); (case hn => rfl); (case hr => first | (go_simp; done) | (go_simp; rfl)); intro w51 hw; have hg : wr.grownBy w51 (some go47) := (by rw [hw]; exact HP50.2); have hp_ : Kd.R Kd.bool 4 w51 w.heap.size (fun k_ => some k_ ≠ (.slice (some ad263) t255.length co49 : Value).ownBlock) (.slice (some ⟨go47, 0, none⟩) x8_2.length co48) y264 := (by rw [hw, Ny264.out]; exact HP50.1); clear HP50; have n0_ := Aside0.mk (hp_); have n1_ := Aside0.mk (Kd.R_after (v := (.slice (some ⟨go47, 0, none⟩) x8_2.length co48)) (v1 := (.slice (some ⟨go47, 0, none⟩) x8_2.length co48)) (ok := (fun _ => True)) (by (with_reducible repeat (first | apply Kd.R_alloc | apply Kd.R_drewN | apply Kd.R_drew)); exact Kd.R_mono HO_9.out (fun _ hk => ⟨trivial, hk⟩)) hg (.inl rfl)); have n2_ := Aside0.mk (blk_grown (g := gb247) (o := .cells #[.int .i64 a1_0, .slice A1_1 l1_1.length c1_1] 38 (0, 0)) (by (with_reducible repeat (first | refine blk_drewN ?_ _ | refine blk_drew ?_ | refine blk_alloc ?_ _)); exact BK247.out) hg (Kd.R_ne HO_8.out BK247.out (by decide))); have n3_ := Aside0.mk (blk_grown (g := gb248) (o := .cells #[.int .i64 a2_0, .slice A2_1 l2_1.length c2_1] 38 (0, 0)) (by (with_reducible repeat (first | refine blk_drewN ?_ _ | refine blk_drew ?_ | refine blk_alloc ?_ _)); exact BK248.out) hg (Kd.R_ne HO_8.out BK248.out (by decide))); have n4_ := Aside0.mk (blk_grown (g := gb249) (o := .cells #[.int .i64 0, .slice none 0 0] 38 (0, 0)) (by (with_reducible repeat (first | refine blk_drewN ?_ _ | refine blk_drew ?_ | refine blk_alloc ?_ _)); exact BK249.out) hg (Kd.R_ne HO_8.out BK249.out (by decide))); have n5_ := Aside0.mk ((by rw [hw]; exact below_set (HB.out) GB47.out : Below w.heap.size w w51)); clear HO_8; clear HO_9; clear BK247; clear BK248; clear BK249; clear HB; have HO_8 := n0_; have HO_9 := n1_; have BK247 := n2_; have BK248 := n3_; have BK249 := n4_; have HB := n5_; clear n0_ n1_ n2_ n3_ n4_ n5_; clear hg hw hp_))
           go_roundg k2
           case measure => have := HJ3.out; have := HK2.out; omega
           case rel => exact ⟨(y264), (wrap64 (x10_2 + 1)), (by first | rfl | (simp; done) | (simp [*]; done)), H', ⟨by have := HJ3.out; have := HK2.out; omega⟩, ⟨by (with_reducible repeat (first | apply Kd.R_alloc | apply Kd.R_drewN | apply Kd.R_drew)); exact HO_8.out⟩, ⟨by (with_reducible repeat (first | apply Kd.R_alloc | apply Kd.R_drewN | apply Kd.R_drew)); exact Kd.R_mono HO_9.out (fun _ hk => hk.2)⟩, ⟨by (with_reducible repeat (first | refine blk_drewN ?_ _ | refine blk_drew ?_ | refine blk_alloc ?_ _)); exact BK247.out⟩, ⟨by (with_reducible repeat (first | refine blk_drewN ?_ _ | refine blk_drew ?_ | refine blk_alloc ?_ _)); exact BK248.out⟩, ⟨by (with_reducible repeat (first | refine blk_drewN ?_ _ | refine blk_drew ?_ | refine blk_alloc ?_ _)); exact BK249.out⟩, ⟨by repeat (first | (with_reducible first | exact HB.out | apply below_alloc | apply pw_below_drewN | apply below_drew1 | refine below_set ?_ GE247.out | refine below_set ?_ GE248.out | refine below_set ?_ GE249.out) | exact HB.out)⟩⟩
          ·rw [if_neg c46] at H
           exact absurd H (by simp)
         ·replace c45 := Bool.eq_false_iff.mpr c45
          subst c45
          have H1 : (dragnetref09_Join.l0 k2 a0 (x8_2.set (x10_2 : Int).toNat false) t255 (wrap64 (x10_2 + 1))) = some (r1, r2, r3) := by rw [if_neg (show ¬ (false = true) by decide)] at H; exact H
          clear H
          have H := H1
          clear H1
          obtain ⟨y265, hy265⟩ : ∃ y_ : List Bool, y_ = (x8_2.set (x10_2 : Int).toNat false) := ⟨_, rfl⟩
          replace H : (dragnetref09_Join.l0 k2 a0 y265 t255 (wrap64 (x10_2 + 1))) = some (r1, r2, r3) := by first | (rw [hy265]; with_reducible exact H) | (have H2_ := (Option.bind_some _ _).symm.trans H; rw [hy265]; with_reducible exact H2_) | (have H2_ := (Option.bind_some _ _).symm.trans H; with_reducible exact H2_) | with_reducible exact H | (rw [hy265]; exact H) | exact H
          have Ny265 := Aside0.mk hy265
          clear hy265
          have H' := Aside0.mk H
          clear H
          obtain ⟨Ao53, co53, eo53⟩ := Kd.R_slice HO_8.out
          subst eo53
          have p262 : 0 ≤ (x10_2 : Int) := of_decide_eq_true (by first | (with_reducible assumption) | assumption)
          have q262 : x10_2 < (x8_2.length : Int) := of_decide_eq_true (by first | (with_reducible assumption) | assumption)
          obtain ⟨ad262, e262, hx262_0⟩ := Kd.at_bool (Kd.R_reads' HO_8.out).2.2 x10_2 p262 q262
          (try rw [← Nbq44.out] at hx262_0)
          cases e262
          replace p262 := eq_true p262
          replace q262 := eq_true q262
          have p52 : 0 ≤ (x10_2 : Int) := of_decide_eq_true (by first | (with_reducible assumption) | assumption)
          have q52 : (x10_2 : Int) < ((x8_2.length : Int) : Int) := of_decide_eq_true (by first | (with_reducible assumption) | assumption)
          obtain ⟨go52, co52, eo52, gb52, gl52, cl52, HG52⟩ := Kd.R_form HO_8.out (by omega)
          (first | cases eo52 | (injection eo52 with ea_ en_ ec_; (first | subst ea_ | (injection ea_ with ea_; subst ea_)); subst ec_; clear en_))
          have GB52 := Aside0.mk gb52
          have GG52 := Aside0.mk HG52
          clear gb52 gl52 HG52
          (first | simp only [add_plain] at hx262_0 | skip)
          obtain ⟨hx52_0, hf52_0⟩ := Kd.R_celln false HO_8.out (x10_2 : Int) p52 q52
          replace p52 := eq_true p52
          replace q52 := eq_true q52
          have HP54 := Kd.R_putg HO_8.out (x10_2 : Int) false
          go_wp2_with (first | ((with_reducible refine gate_store (t := 4) (p := 66) rfl ?_); refine store_event (t := 4) (p := 66) (v := ?vo_w55) (w1 := (wr.setCell ⟨go52, (x10_2 : Int).toNat, none⟩ (.bool false))) ?hg ?ho ?hn ?hr ?_; (case ho => rfl); (case hg => rfl); (case hn => rfl); (case hr => first | (go_simp; done) | (go_simp; rfl)); intro w55 hw; have hg : wr.grownBy w55 (some go52) := (by rw [hw]; exact HP54.2); have hp_ : Kd.R Kd.bool 4 w55 w.heap.size (fun k_ => some k_ ≠ (v256 : Value).ownBlock) (.slice (some ⟨go52, 0, none⟩) x8_2.length co53) y265 := (by rw [hw, Ny265.out]; exact HP54.1); clear HP54; have n0_ := Aside0.mk (hp_); have n1_ := Aside0.mk (Kd.R_after (v := (.slice (some ⟨go52, 0, none⟩) x8_2.length co53)) (v1 := (.slice (some ⟨go52, 0, none⟩) x8_2.length co53)) (ok := (fun _ => True)) (by (with_reducible repeat (first | apply Kd.R_alloc | apply Kd.R_drewN | apply Kd.R_drew)); exact Kd.R_mono HO_9.out (fun _ hk => ⟨trivial, hk⟩)) hg (.inl rfl)); have n2_ := Aside0.mk (blk_grown (g := gb247) (o := .cells #[.int .i64 a1_0, .slice A1_1 l1_1.length c1_1] 38 (0, 0)) (by (with_reducible repeat (first | refine blk_drewN ?_ _ | refine blk_drew ?_ | refine blk_alloc ?_ _)); exact BK247.out) hg (Kd.R_ne HO_8.out BK247.out (by decide))); have n3_ := Aside0.mk (blk_grown (g := gb248) (o := .cells #[.int .i64 a2_0, .slice A2_1 l2_1.length c2_1] 38 (0, 0)) (by (with_reducible repeat (first | refine blk_drewN ?_ _ | refine blk_drew ?_ | refine blk_alloc ?_ _)); exact BK248.out) hg (Kd.R_ne HO_8.out BK248.out (by decide))); have n4_ := Aside0.mk (blk_grown (g := gb249) (o := .cells #[.int .i64 0, .slice none 0 0] 38 (0, 0)) (by (with_reducible repeat (first | refine blk_drewN ?_ _ | refine blk_drew ?_ | refine blk_alloc ?_ _)); exact BK249.out) hg (Kd.R_ne HO_8.out BK249.out (by decide))); have n5_ := Aside0.mk ((by rw [hw]; exact below_set (HB.out) GB52.out : Below w.heap.size w w55)); clear HO_8; clear HO_9; clear BK247; clear BK248; clear BK249; clear HB; have HO_8 := n0_; have HO_9 := n1_; have BK247 := n2_; have BK248 := n3_; have BK249 := n4_; have HB := n5_; clear n0_ n1_ n2_ n3_ n4_ n5_; clear hg hw hp_))
          go_roundg k2
          case measure => have := HJ3.out; have := HK2.out; omega
          case rel => exact ⟨(y265), (wrap64 (x10_2 + 1)), (by first | rfl | (simp; done) | (simp [*]; done)), H', ⟨by have := HJ3.out; have := HK2.out; omega⟩, ⟨by (with_reducible repeat (first | apply Kd.R_alloc | apply Kd.R_drewN | apply Kd.R_drew)); exact HO_8.out⟩, ⟨by (with_reducible repeat (first | apply Kd.R_alloc | apply Kd.R_drewN | apply Kd.R_drew)); exact Kd.R_mono HO_9.out (fun _ hk => hk.2)⟩, ⟨by (with_reducible repeat (first | refine blk_drewN ?_ _ | refine blk_drew ?_ | refine blk_alloc ?_ _)); exact BK247.out⟩, ⟨by (with_reducible repeat (first | refine blk_drewN ?_ _ | refine blk_drew ?_ | refine blk_alloc ?_ _)); exact BK248.out⟩, ⟨by (with_reducible repeat (first | refine blk_drewN ?_ _ | refine blk_drew ?_ | refine blk_alloc ?_ _)); exact BK249.out⟩, ⟨by repeat (first | (with_reducible first | exact HB.out | apply below_alloc | apply pw_below_drewN | apply below_drew1 | refine below_set ?_ GE247.out | refine below_set ?_ GE248.out | refine below_set ?_ GE249.out) | exact HB.out)⟩⟩
        ·rw [if_neg c43] at H
         exact absurd H (by simp)
       ·rw [if_neg c42] at H
        have c42b0 : (a0 == 0) = false := beq_eq_false_iff_ne.mpr c42
        have c42b1 : (a0 != 0) = true := bne_iff_ne.mpr c42
        by_cases c56 : a0 = 1
        ·rw [if_pos c56] at H
         have c56b0 : (a0 == 1) = true := beq_iff_eq.mpr c56
         have c56b1 : (a0 != 1) = false := bne_eq_false_iff_eq.mpr c56
         clear c56
         by_cases c57 : 0 ≤ x10_2
         ·rw [if_pos c57] at H
          have c57b0 : decide (0 ≤ x10_2) = true := decide_eq_true c57
          clear c57
          obtain ⟨bq58, hbq58⟩ : ∃ b_ : Bool, b_ = (rdOf false x8_2 x10_2) := ⟨_, rfl⟩
          replace H : (if bq58 = true then (dragnetref09_Join.l0 k2 a0 (x8_2.set (x10_2 : Int).toNat true) t255 (wrap64 (x10_2 + 1))) else (if x10_2 < (t255.length : Int) then (dragnetref09_Join.l0 k2 a0 (x8_2.set (x10_2 : Int).toNat (rdOf false t255 x10_2)) t255 (wrap64 (x10_2 + 1))) else (none))) = some (r1, r2, r3) := by rw [← hbq58] at H; exact H
          have Nbq58 := Aside0.mk hbq58
          clear hbq58
          by_cases c59 : bq58 = true
          ·subst c59
           have H1 : (dragnetref09_Join.l0 k2 a0 (x8_2.set (x10_2 : Int).toNat true) t255 (wrap64 (x10_2 + 1))) = some (r1, r2, r3) := by rw [if_pos rfl] at H; exact H
           clear H
           have H := H1
           clear H1
           obtain ⟨y267, hy267⟩ : ∃ y_ : List Bool, y_ = (x8_2.set (x10_2 : Int).toNat true) := ⟨_, rfl⟩
           replace H : (dragnetref09_Join.l0 k2 a0 y267 t255 (wrap64 (x10_2 + 1))) = some (r1, r2, r3) := by first | (rw [hy267]; with_reducible exact H) | (have H2_ := (Option.bind_some _ _).symm.trans H; rw [hy267]; with_reducible exact H2_) | (have H2_ := (Option.bind_some _ _).symm.trans H; with_reducible exact H2_) | with_reducible exact H | (rw [hy267]; exact H) | exact H
           have Ny267 := Aside0.mk hy267
           clear hy267
           have H' := Aside0.mk H
           clear H
           obtain ⟨Ao61, co61, eo61⟩ := Kd.R_slice HO_8.out
           subst eo61
           have p266 : 0 ≤ (x10_2 : Int) := of_decide_eq_true (by first | (with_reducible assumption) | assumption)
           have q266 : x10_2 < (x8_2.length : Int) := of_decide_eq_true (by first | (with_reducible assumption) | assumption)
           obtain ⟨ad266, e266, hx266_0⟩ := Kd.at_bool (Kd.R_reads' HO_8.out).2.2 x10_2 p266 q266
           (try rw [← Nbq58.out] at hx266_0)
           cases e266
           replace p266 := eq_true p266
           replace q266 := eq_true q266
           have p60 : 0 ≤ (x10_2 : Int) := of_decide_eq_true (by first | (with_reducible assumption) | assumption)
           have q60 : (x10_2 : Int) < ((x8_2.length : Int) : Int) := of_decide_eq_true (by first | (with_reducible assumption) | assumption)
           obtain ⟨go60, co60, eo60, gb60, gl60, cl60, HG60⟩ := Kd.R_form HO_8.out (by omega)
           (first | cases eo60 | (injection eo60 with ea_ en_ ec_; (first | subst ea_ | (injection ea_ with ea_; subst ea_)); subst ec_; clear en_))
           have GB60 := Aside0.mk gb60
           have GG60 := Aside0.mk HG60
           clear gb60 gl60 HG60
           (first | simp only [add_plain] at hx266_0 | skip)
           obtain ⟨hx60_0, hf60_0⟩ := Kd.R_celln false HO_8.out (x10_2 : Int) p60 q60
           replace p60 := eq_true p60
           replace q60 := eq_true q60
           have HP62 := Kd.R_putg HO_8.out (x10_2 : Int) true
           go_wp2_with (first | ((with_reducible refine gate_store (t := 4) (p := 81) rfl ?_); refine store_event (t := 4) (p := 81) (v := ?vo_w63) (w1 := (wr.setCell ⟨go60, (x10_2 : Int).toNat, none⟩ (.bool true))) ?hg ?ho ?hn ?hr ?_; (case ho => rfl); (case hg => rfl); (case hn => rfl); (case hr => first | (go_simp; done) | (go_simp; rfl)); intro w63 hw; have hg : wr.grownBy w63 (some go60) := (by rw [hw]; exact HP62.2); have hp_ : Kd.R Kd.bool 4 w63 w.heap.size (fun k_ => some k_ ≠ (v256 : Value).ownBlock) (.slice (some ⟨go60, 0, none⟩) x8_2.length co61) y267 := (by rw [hw, Ny267.out]; exact HP62.1); clear HP62; have n0_ := Aside0.mk (hp_); have n1_ := Aside0.mk (Kd.R_after (v := (.slice (some ⟨go60, 0, none⟩) x8_2.length co61)) (v1 := (.slice (some ⟨go60, 0, none⟩) x8_2.length co61)) (ok := (fun _ => True)) (by (with_reducible repeat (first | apply Kd.R_alloc | apply Kd.R_drewN | apply Kd.R_drew)); exact Kd.R_mono HO_9.out (fun _ hk => ⟨trivial, hk⟩)) hg (.inl rfl)); have n2_ := Aside0.mk (blk_grown (g := gb247) (o := .cells #[.int .i64 a1_0, .slice A1_1 l1_1.length c1_1] 38 (0, 0)) (by (with_reducible repeat (first | refine blk_drewN ?_ _ | refine blk_drew ?_ | refine blk_alloc ?_ _)); exact BK247.out) hg (Kd.R_ne HO_8.out BK247.out (by decide))); have n3_ := Aside0.mk (blk_grown (g := gb248) (o := .cells #[.int .i64 a2_0, .slice A2_1 l2_1.length c2_1] 38 (0, 0)) (by (with_reducible repeat (first | refine blk_drewN ?_ _ | refine blk_drew ?_ | refine blk_alloc ?_ _)); exact BK248.out) hg (Kd.R_ne HO_8.out BK248.out (by decide))); have n4_ := Aside0.mk (blk_grown (g := gb249) (o := .cells #[.int .i64 0, .slice none 0 0] 38 (0, 0)) (by (with_reducible repeat (first | refine blk_drewN ?_ _ | refine blk_drew ?_ | refine blk_alloc ?_ _)); exact BK249.out) hg (Kd.R_ne HO_8.out BK249.out (by decide))); have n5_ := Aside0.mk ((by rw [hw]; exact below_set (HB.out) GB60.out : Below w.heap.size w w63)); clear HO_8; clear HO_9; clear BK247; clear BK248; clear BK249; clear HB; have HO_8 := n0_; have HO_9 := n1_; have BK247 := n2_; have BK248 := n3_; have BK249 := n4_; have HB := n5_; clear n0_ n1_ n2_ n3_ n4_ n5_; clear hg hw hp_))
           go_roundg k2
           case measure => have := HJ3.out; have := HK2.out; omega
           case rel => exact ⟨(y267), (wrap64 (x10_2 + 1)), (by first | rfl | (simp; done) | (simp [*]; done)), H', ⟨by have := HJ3.out; have := HK2.out; omega⟩, ⟨by (with_reducible repeat (first | apply Kd.R_alloc | apply Kd.R_drewN | apply Kd.R_drew)); exact HO_8.out⟩, ⟨by (with_reducible repeat (first | apply Kd.R_alloc | apply Kd.R_drewN | apply Kd.R_drew)); exact Kd.R_mono HO_9.out (fun _ hk => hk.2)⟩, ⟨by (with_reducible repeat (first | refine blk_drewN ?_ _ | refine blk_drew ?_ | refine blk_alloc ?_ _)); exact BK247.out⟩, ⟨by (with_reducible repeat (first | refine blk_drewN ?_ _ | refine blk_drew ?_ | refine blk_alloc ?_ _)); exact BK248.out⟩, ⟨by (with_reducible repeat (first | refine blk_drewN ?_ _ | refine blk_drew ?_ | refine blk_alloc ?_ _)); exact BK249.out⟩, ⟨by repeat (first | (with_reducible first | exact HB.out | apply below_alloc | apply pw_below_drewN | apply below_drew1 | refine below_set ?_ GE247.out | refine below_set ?_ GE248.out | refine below_set ?_ GE249.out) | exact HB.out)⟩⟩
          ·replace c59 := Bool.eq_false_iff.mpr c59
           subst c59
           have H1 : (if x10_2 < (t255.length : Int) then (dragnetref09_Join.l0 k2 a0 (x8_2.set (x10_2 : Int).toNat (rdOf false t255 x10_2)) t255 (wrap64 (x10_2 + 1))) else (none)) = some (r1, r2, r3) := by rw [if_neg (show ¬ (false = true) by decide)] at H; exact H
           clear H
           have H := H1
           clear H1
           by_cases c64 : x10_2 < (t255.length : Int)
           ·rw [if_pos c64] at H
            have c64b0 : decide (x10_2 < (t255.length : Int)) = true := decide_eq_true c64
            clear c64
            obtain ⟨y269, hy269⟩ : ∃ y_ : List Bool, y_ = (x8_2.set (x10_2 : Int).toNat (rdOf false t255 x10_2)) := ⟨_, rfl⟩
            replace H : (dragnetref09_Join.l0 k2 a0 y269 t255 (wrap64 (x10_2 + 1))) = some (r1, r2, r3) := by first | (rw [hy269]; with_reducible exact H) | (have H2_ := (Option.bind_some _ _).symm.trans H; rw [hy269]; with_reducible exact H2_) | (have H2_ := (Option.bind_some _ _).symm.trans H; with_reducible exact H2_) | with_reducible exact H | (rw [hy269]; exact H) | exact H
            have Ny269 := Aside0.mk hy269
            clear hy269
            have H' := Aside0.mk H
            clear H
            obtain ⟨Ao66, co66, eo66⟩ := Kd.R_slice HO_8.out
            subst eo66
            have p266 : 0 ≤ (x10_2 : Int) := of_decide_eq_true (by first | (with_reducible assumption) | assumption)
            have q266 : x10_2 < (x8_2.length : Int) := of_decide_eq_true (by first | (with_reducible assumption) | assumption)
            obtain ⟨ad266, e266, hx266_0⟩ := Kd.at_bool (Kd.R_reads' HO_8.out).2.2 x10_2 p266 q266
            (try rw [← Nbq58.out] at hx266_0)
            cases e266
            replace p266 := eq_true p266
            replace q266 := eq_true q266
            obtain ⟨Ao67, co67, eo67⟩ := Kd.R_slice HO_9.out
            subst eo67
            have p268 : 0 ≤ (x10_2 : Int) := of_decide_eq_true (by first | (with_reducible assumption) | assumption)
            have q268 : x10_2 < (t255.length : Int) := of_decide_eq_true (by first | (with_reducible assumption) | assumption)
            obtain ⟨ad268, e268, hx268_0⟩ := Kd.at_bool (Kd.R_reads' HO_9.out).2.2 x10_2 p268 q268
            (try rw [← Nbq58.out] at hx268_0)
            cases e268
            replace p268 := eq_true p268
            replace q268 := eq_true q268
            have p65 : 0 ≤ (x10_2 : Int) := of_decide_eq_true (by first | (with_reducible assumption) | assumption)
            have q65 : (x10_2 : Int) < ((x8_2.length : Int) : Int) := of_decide_eq_true (by first | (with_reducible assumption) | assumption)
            obtain ⟨go65, co65, eo65, gb65, gl65, cl65, HG65⟩ := Kd.R_form HO_8.out (by omega)
            (first | cases eo65 | (injection eo65 with ea_ en_ ec_; (first | subst ea_ | (injection ea_ with ea_; subst ea_)); subst ec_; clear en_))
            have GB65 := Aside0.mk gb65
            have GG65 := Aside0.mk HG65
            clear gb65 gl65 HG65
            (first | simp only [add_plain] at hx266_0 | skip)
            obtain ⟨hx65_0, hf65_0⟩ := Kd.R_celln false HO_8.out (x10_2 : Int) p65 q65
            replace p65 := eq_true p65
            replace q65 := eq_true q65
            have HP68 := Kd.R_putg HO_8.out (x10_2 : Int) (rdOf false t255 x10_2)
            go_wp2_with (first | ((with_reducible refine gate_store (t := 4) (p := 81) rfl ?_); refine store_event (t := 4) (p := 81) (v := ?vo_w69) (w1 := (wr.setCell ⟨go65, (x10_2 : Int).toNat, none⟩ (.bool (rdOf false t255 x10_2)))) ?hg ?ho ?hn ?hr ?_; (case ho => rfl); (case hg => rfl); (case hn => rfl); (case hr => first | (go_simp; done) | (go_simp; rfl)); intro w69 hw; have hg : wr.grownBy w69 (some go65) := (by rw [hw]; exact HP68.2); have hp_ : Kd.R Kd.bool 4 w69 w.heap.size (fun k_ => some k_ ≠ (.slice (some ad268) t255.length co67 : Value).ownBlock) (.slice (some ⟨go65, 0, none⟩) x8_2.length co66) y269 := (by rw [hw, Ny269.out]; exact HP68.1); clear HP68; have n0_ := Aside0.mk (hp_); have n1_ := Aside0.mk (Kd.R_after (v := (.slice (some ⟨go65, 0, none⟩) x8_2.length co66)) (v1 := (.slice (some ⟨go65, 0, none⟩) x8_2.length co66)) (ok := (fun _ => True)) (by (with_reducible repeat (first | apply Kd.R_alloc | apply Kd.R_drewN | apply Kd.R_drew)); exact Kd.R_mono HO_9.out (fun _ hk => ⟨trivial, hk⟩)) hg (.inl rfl)); have n2_ := Aside0.mk (blk_grown (g := gb247) (o := .cells #[.int .i64 a1_0, .slice A1_1 l1_1.length c1_1] 38 (0, 0)) (by (with_reducible repeat (first | refine blk_drewN ?_ _ | refine blk_drew ?_ | refine blk_alloc ?_ _)); exact BK247.out) hg (Kd.R_ne HO_8.out BK247.out (by decide))); have n3_ := Aside0.mk (blk_grown (g := gb248) (o := .cells #[.int .i64 a2_0, .slice A2_1 l2_1.length c2_1] 38 (0, 0)) (by (with_reducible repeat (first | refine blk_drewN ?_ _ | refine blk_drew ?_ | refine blk_alloc ?_ _)); exact BK248.out) hg (Kd.R_ne HO_8.out BK248.out (by decide))); have n4_ := Aside0.mk (blk_grown (g := gb249) (o := .cells #[.int .i64 0, .slice none 0 0] 38 (0, 0)) (by (with_reducible repeat (first | refine blk_drewN ?_ _ | refine blk_drew ?_ | refine blk_alloc ?_ _)); exact BK249.out) hg (Kd.R_ne HO_8.out BK249.out (by decide))); have n5_ := Aside0.mk ((by rw [hw]; exact below_set (HB.out) GB65.out : Below w.heap.size w w69)); clear HO_8; clear HO_9; clear BK247; clear BK248; clear BK249; clear HB; have HO_8 := n0_; have HO_9 := n1_; have BK247 := n2_; have BK248 := n3_; have BK249 := n4_; have HB := n5_; clear n0_ n1_ n2_ n3_ n4_ n5_; clear hg hw hp_))
            go_roundg k2
            case measure => have := HJ3.out; have := HK2.out; omega
            case rel => exact ⟨(y269), (wrap64 (x10_2 + 1)), (by first | rfl | (simp; done) | (simp [*]; done)), H', ⟨by have := HJ3.out; have := HK2.out; omega⟩, ⟨by (with_reducible repeat (first | apply Kd.R_alloc | apply Kd.R_drewN | apply Kd.R_drew)); exact HO_8.out⟩, ⟨by (with_reducible repeat (first | apply Kd.R_alloc | apply Kd.R_drewN | apply Kd.R_drew)); exact Kd.R_mono HO_9.out (fun _ hk => hk.2)⟩, ⟨by (with_reducible repeat (first | refine blk_drewN ?_ _ | refine blk_drew ?_ | refine blk_alloc ?_ _)); exact BK247.out⟩, ⟨by (with_reducible repeat (first | refine blk_drewN ?_ _ | refine blk_drew ?_ | refine blk_alloc ?_ _)); exact BK248.out⟩, ⟨by (with_reducible repeat (first | refine blk_drewN ?_ _ | refine blk_drew ?_ | refine blk_alloc ?_ _)); exact BK249.out⟩, ⟨by repeat (first | (with_reducible first | exact HB.out | apply below_alloc | apply pw_below_drewN | apply below_drew1 | refine below_set ?_ GE247.out | refine below_set ?_ GE248.out | refine below_set ?_ GE249.out) | exact HB.out)⟩⟩
           ·rw [if_neg c64] at H
            exact absurd H (by simp)
         ·rw [if_neg c57] at H
          exact absurd H (by simp)
        ·rw [if_neg c56] at H
         have c56b0 : (a0 == 1) = false := beq_eq_false_iff_ne.mpr c56
         have c56b1 : (a0 != 1) = true := bne_iff_ne.mpr c56
         by_cases c70 : 0 ≤ x10_2
         ·rw [if_pos c70] at H
          have c70b0 : decide (0 ≤ x10_2) = true := decide_eq_true c70
          clear c70
          obtain ⟨bq71, hbq71⟩ : ∃ b_ : Bool, b_ = (rdOf false x8_2 x10_2) := ⟨_, rfl⟩
          replace H : (if bq71 = true then (if x10_2 < (t255.length : Int) then (dragnetref09_Join.l0 k2 a0 (x8_2.set (x10_2 : Int).toNat (!(rdOf false t255 x10_2))) t255 (wrap64 (x10_2 + 1))) else (none)) else (dragnetref09_Join.l0 k2 a0 (x8_2.set (x10_2 : Int).toNat false) t255 (wrap64 (x10_2 + 1)))) = some (r1, r2, r3) := by rw [← hbq71] at H; exact H
          have Nbq71 := Aside0.mk hbq71
          clear hbq71
          by_cases c72 : bq71 = true
          ·subst c72
           have H1 : (if x10_2 < (t255.length : Int) then (dragnetref09_Join.l0 k2 a0 (x8_2.set (x10_2 : Int).toNat (!(rdOf false t255 x10_2))) t255 (wrap64 (x10_2 + 1))) else (none)) = some (r1, r2, r3) := by rw [if_pos rfl] at H; exact H
           clear H
           have H := H1
           clear H1
           by_cases c73 : x10_2 < (t255.length : Int)
           ·rw [if_pos c73] at H
            have c73b0 : decide (x10_2 < (t255.length : Int)) = true := decide_eq_true c73
            clear c73
            obtain ⟨y272, hy272⟩ : ∃ y_ : List Bool, y_ = (x8_2.set (x10_2 : Int).toNat (!(rdOf false t255 x10_2))) := ⟨_, rfl⟩
            replace H : (dragnetref09_Join.l0 k2 a0 y272 t255 (wrap64 (x10_2 + 1))) = some (r1, r2, r3) := by first | (rw [hy272]; with_reducible exact H) | (have H2_ := (Option.bind_some _ _).symm.trans H; rw [hy272]; with_reducible exact H2_) | (have H2_ := (Option.bind_some _ _).symm.trans H; with_reducible exact H2_) | with_reducible exact H | (rw [hy272]; exact H) | exact H
            have Ny272 := Aside0.mk hy272
            clear hy272
            have H' := Aside0.mk H
            clear H
            obtain ⟨Ao75, co75, eo75⟩ := Kd.R_slice HO_8.out
            subst eo75
            have p270 : 0 ≤ (x10_2 : Int) := of_decide_eq_true (by first | (with_reducible assumption) | assumption)
            have q270 : x10_2 < (x8_2.length : Int) := of_decide_eq_true (by first | (with_reducible assumption) | assumption)
            obtain ⟨ad270, e270, hx270_0⟩ := Kd.at_bool (Kd.R_reads' HO_8.out).2.2 x10_2 p270 q270
            (try rw [← Nbq71.out] at hx270_0)
            cases e270
            replace p270 := eq_true p270
            replace q270 := eq_true q270
            obtain ⟨Ao76, co76, eo76⟩ := Kd.R_slice HO_9.out
            subst eo76
            have p271 : 0 ≤ (x10_2 : Int) := of_decide_eq_true (by first | (with_reducible assumption) | assumption)
            have q271 : x10_2 < (t255.length : Int) := of_decide_eq_true (by first | (with_reducible assumption) | assumption)
            obtain ⟨ad271, e271, hx271_0⟩ := Kd.at_bool (Kd.R_reads' HO_9.out).2.2 x10_2 p271 q271
            (try rw [← Nbq71.out] at hx271_0)
            cases e271
            replace p271 := eq_true p271
            replace q271 := eq_true q271
            have p74 : 0 ≤ (x10_2 : Int) := of_decide_eq_true (by first | (with_reducible assumption) | assumption)
            have q74 : (x10_2 : Int) < ((x8_2.length : Int) : Int) := of_decide_eq_true (by first | (with_reducible assumption) | assumption)
            obtain ⟨go74, co74, eo74, gb74, gl74, cl74, HG74⟩ := Kd.R_form HO_8.out (by omega)
            (first | cases eo74 | (injection eo74 with ea_ en_ ec_; (first | subst ea_ | (injection ea_ with ea_; subst ea_)); subst ec_; clear en_))
            have GB74 := Aside0.mk gb74
            have GG74 := Aside0.mk HG74
            clear gb74 gl74 HG74
            (first | simp only [add_plain] at hx270_0 | skip)
            obtain ⟨hx74_0, hf74_0⟩ := Kd.R_celln false HO_8.out (x10_2 : Int) p74 q74
            replace p74 := eq_true p74
            replace q74 := eq_true q74
            have HP77 := Kd.R_putg HO_8.out (x10_2 : Int) (!(rdOf false t255 x10_2))
            go_wp2_with (first | ((with_reducible refine gate_store (t := 4) (p := 51) rfl ?_); refine store_event (t := 4) (p := 51) (v := ?vo_w78) (w1 := (wr.setCell ⟨go74, (x10_2 : Int).toNat, none⟩ (.bool (!(rdOf false t255 x10_2))))) ?hg ?ho ?hn ?hr ?_; (case ho => rfl); (case hg => rfl); (case hn => rfl); (case hr => first | (go_simp; done) | (go_simp; rfl)); intro w78 hw; have hg : wr.grownBy w78 (some go74) := (by rw [hw]; exact HP77.2); have hp_ : Kd.R Kd.bool 4 w78 w.heap.size (fun k_ => some k_ ≠ (.slice (some ad271) t255.length co76 : Value).ownBlock) (.slice (some ⟨go74, 0, none⟩) x8_2.length co75) y272 := (by rw [hw, Ny272.out]; exact HP77.1); clear HP77; have n0_ := Aside0.mk (hp_); have n1_ := Aside0.mk (Kd.R_after (v := (.slice (some ⟨go74, 0, none⟩) x8_2.length co75)) (v1 := (.slice (some ⟨go74, 0, none⟩) x8_2.length co75)) (ok := (fun _ => True)) (by (with_reducible repeat (first | apply Kd.R_alloc | apply Kd.R_drewN | apply Kd.R_drew)); exact Kd.R_mono HO_9.out (fun _ hk => ⟨trivial, hk⟩)) hg (.inl rfl)); have n2_ := Aside0.mk (blk_grown (g := gb247) (o := .cells #[.int .i64 a1_0, .slice A1_1 l1_1.length c1_1] 38 (0, 0)) (by (with_reducible repeat (first | refine blk_drewN ?_ _ | refine blk_drew ?_ | refine blk_alloc ?_ _)); exact BK247.out) hg (Kd.R_ne HO_8.out BK247.out (by decide))); have n3_ := Aside0.mk (blk_grown (g := gb248) (o := .cells #[.int .i64 a2_0, .slice A2_1 l2_1.length c2_1] 38 (0, 0)) (by (with_reducible repeat (first | refine blk_drewN ?_ _ | refine blk_drew ?_ | refine blk_alloc ?_ _)); exact BK248.out) hg (Kd.R_ne HO_8.out BK248.out (by decide))); have n4_ := Aside0.mk (blk_grown (g := gb249) (o := .cells #[.int .i64 0, .slice none 0 0] 38 (0, 0)) (by (with_reducible repeat (first | refine blk_drewN ?_ _ | refine blk_drew ?_ | refine blk_alloc ?_ _)); exact BK249.out) hg (Kd.R_ne HO_8.out BK249.out (by decide))); have n5_ := Aside0.mk ((by rw [hw]; exact below_set (HB.out) GB74.out : Below w.heap.size w w78)); clear HO_8; clear HO_9; clear BK247; clear BK248; clear BK249; clear HB; have HO_8 := n0_; have HO_9 := n1_; have BK247 := n2_; have BK248 := n3_; have BK249 := n4_; have HB := n5_; clear n0_ n1_ n2_ n3_ n4_ n5_; clear hg hw hp_))
            go_roundg k2
            case measure => have := HJ3.out; have := HK2.out; omega
            case rel => exact ⟨(y272), (wrap64 (x10_2 + 1)), (by first | rfl | (simp; done) | (simp [*]; done)), H', ⟨by have := HJ3.out; have := HK2.out; omega⟩, ⟨by (with_reducible repeat (first | apply Kd.R_alloc | apply Kd.R_drewN | apply Kd.R_drew)); exact HO_8.out⟩, ⟨by (with_reducible repeat (first | apply Kd.R_alloc | apply Kd.R_drewN | apply Kd.R_drew)); exact Kd.R_mono HO_9.out (fun _ hk => hk.2)⟩, ⟨by (with_reducible repeat (first | refine blk_drewN ?_ _ | refine blk_drew ?_ | refine blk_alloc ?_ _)); exact BK247.out⟩, ⟨by (with_reducible repeat (first | refine blk_drewN ?_ _ | refine blk_drew ?_ | refine blk_alloc ?_ _)); exact BK248.out⟩, ⟨by (with_reducible repeat (first | refine blk_drewN ?_ _ | refine blk_drew ?_ | refine blk_alloc ?_ _)); exact BK249.out⟩, ⟨by repeat (first | (with_reducible first | exact HB.out | apply below_alloc | apply pw_below_drewN | apply below_drew1 | refine below_set ?_ GE247.out | refine below_set ?_ GE248.out | refine below_set ?_ GE249.out) | exact HB.out)⟩⟩
           ·rw [if_neg c73] at H
            exact absurd H (by simp)
          ·replace c72 := Bool.eq_false_iff.mpr c72
           subst c72
           have H1 : (dragnetref09_Join.l0 k2 a0 (x8_2.set (x10_2 : Int).toNat false) t255 (wrap64 (x10_2 + 1))) = some (r1, r2, r3) := by rw [if_neg (show ¬ (false = true) by decide)] at H; exact H
           clear H
           have H := H1
           clear H1
           obtain ⟨y273, hy273⟩ : ∃ y_ : List Bool, y_ = (x8_2.set (x10_2 : Int).toNat false) := ⟨_, rfl⟩
           replace H : (dragnetref09_Join.l0 k2 a0 y273 t255 (wrap64 (x10_2 + 1))) = some (r1, r2, r3) := by first | (rw [hy273]; with_reducible exact H) | (have H2_ := (Option.bind_some _ _).symm.trans H; rw [hy273]; with_reducible exact H2_) | (have H2_ := (Option.bind_some _ _).symm.trans H; with_reducible exact H2_) | with_reducible exact H | (rw [hy273]; exact H) | exact H
           have Ny273 := Aside0.mk hy273
           clear hy273
           have H' := Aside0.mk H
           clear H
           obtain ⟨Ao80, co80, eo80⟩ := Kd.R_slice HO_8.out
           subst eo80
           have p270 : 0 ≤ (x10_2 : Int) := of_decide_eq_true (by first | (with_reducible assumption) | assumption)
           have q270 : x10_2 < (x8_2.length : Int) := of_decide_eq_true (by first | (with_reducible assumption) | assumption)
           obtain ⟨ad270, e270, hx270_0⟩ := Kd.at_bool (Kd.R_reads' HO_8.out).2.2 x10_2 p270 q270
           (try rw [← Nbq71.out] at hx270_0)
           cases e270
           replace p270 := eq_true p270
           replace q270 := eq_true q270
           have p79 : 0 ≤ (x10_2 : Int) := of_decide_eq_true (by first | (with_reducible assumption) | assumption)
           have q79 : (x10_2 : Int) < ((x8_2.length : Int) : Int) := of_decide_eq_true (by first | (with_reducible assumption) | assumption)
           obtain ⟨go79, co79, eo79, gb79, gl79, cl79, HG79⟩ := Kd.R_form HO_8.out (by omega)
           (first | cases eo79 | (injection eo79 with ea_ en_ ec_; (first | subst ea_ | (injection ea_ with ea_; subst ea_)); subst ec_; clear en_))
           have GB79 := Aside0.mk gb79
           have GG79 := Aside0.mk HG79
           clear gb79 gl79 HG79
           (first | simp only [add_plain] at hx270_0 | skip)
           obtain ⟨hx79_0, hf79_0⟩ := Kd.R_celln false HO_8.out (x10_2 : Int) p79 q79
           replace p79 := eq_true p79
           replace q79 := eq_true q79
           have HP81 := Kd.R_putg HO_8.out (x10_2 : Int) false
           go_wp2_with (first | ((with_reducible refine gate_store (t := 4) (p := 51) rfl ?_); refine store_event (t := 4) (p := 51) (v := ?vo_w82) (w1 := (wr.setCell ⟨go79, (x10_2 : Int).toNat, none⟩ (.bool false))) ?hg ?ho ?hn ?hr ?_; (case ho => rfl); (case hg => rfl); (case hn => rfl); (case hr => first | (go_simp; done) | (go_simp; rfl)); intro w82 hw; have hg : wr.grownBy w82 (some go79) := (by rw [hw]; exact HP81.2); have hp_ : Kd.R Kd.bool 4 w82 w.heap.size (fun k_ => some k_ ≠ (v256 : Value).ownBlock) (.slice (some ⟨go79, 0, none⟩) x8_2.length co80) y273 := (by rw [hw, Ny273.out]; exact HP81.1); clear HP81; have n0_ := Aside0.mk (hp_); have n1_ := Aside0.mk (Kd.R_after (v := (.slice (some ⟨go79, 0, none⟩) x8_2.length co80)) (v1 := (.slice (some ⟨go79, 0, none⟩) x8_2.length co80)) (ok := (fun _ => True)) (by (with_reducible repeat (first | apply Kd.R_alloc | apply Kd.R_drewN | apply Kd.R_drew)); exact Kd.R_mono HO_9.out (fun _ hk => ⟨trivial, hk⟩)) hg (.inl rfl)); have n2_ := Aside0.mk (blk_grown (g := gb247) (o := .cells #[.int .i64 a1_0, .slice A1_1 l1_1.length c1_1] 38 (0, 0)) (by (with_reducible repeat (first | refine blk_drewN ?_ _ | refine blk_drew ?_ | refine blk_alloc ?_ _)); exact BK247.out) hg (Kd.R_ne HO_8.out BK247.out (by decide))); have n3_ := Aside0.mk (blk_grown (g := gb248) (o := .cells #[.int .i64 a2_0, .slice A2_1 l2_1.length c2_1] 38 (0, 0)) (by (with_reducible repeat (first | refine blk_drewN ?_ _ | refine blk_drew ?_ | refine blk_alloc ?_ _)); exact BK248.out) hg (Kd.R_ne HO_8.out BK248.out (by decide))); have n4_ := Aside0.mk (blk_grown (g := gb249) (o := .cells #[.int .i64 0, .slice none 0 0] 38 (0, 0)) (by (with_reducible repeat (first | refine blk_drewN ?_ _ | refine blk_drew ?_ | refine blk_alloc ?_ _)); exact BK249.out) hg (Kd.R_ne HO_8.out BK249.out (by decide))); have n5_ := Aside0.mk ((by rw [hw]; exact below_set (HB.out) GB79.out : Below w.heap.size w w82)); clear HO_8; clear HO_9; clear BK247; clear BK248; clear BK249; clear HB; have HO_8 := n0_; have HO_9 := n1_; have BK247 := n2_; have BK248 := n3_; have BK249 := n4_; have HB := n5_; clear n0_ n1_ n2_ n3_ n4_ n5_; clear hg hw hp_))
           go_roundg k2
           case measure => have := HJ3.out; have := HK2.out; omega
           case rel => exact ⟨(y273), (wrap64 (x10_2 + 1)), (by first | rfl | (simp; done) | (simp [*]; done)), H', ⟨by have := HJ3.out; have := HK2.out; omega⟩, ⟨by (with_reducible repeat (first | apply Kd.R_alloc | apply Kd.R_drewN | apply Kd.R_drew)); exact HO_8.out⟩, ⟨by (with_reducible repeat (first | apply Kd.R_alloc | apply Kd.R_drewN | apply Kd.R_drew)); exact Kd.R_mono HO_9.out (fun _ hk => hk.2)⟩, ⟨by (with_reducible repeat (first | refine blk_drewN ?_ _ | refine blk_drew ?_ | refine blk_alloc ?_ _)); exact BK247.out⟩, ⟨by (with_reducible repeat (first | refine blk_drewN ?_ _ | refine blk_drew ?_ | refine blk_alloc ?_ _)); exact BK248.out⟩, ⟨by (with_reducible repeat (first | refine blk_drewN ?_ _ | refine blk_drew ?_ | refine blk_alloc ?_ _)); exact BK249.out⟩, ⟨by repeat (first | (with_reducible first | exact HB.out | apply below_alloc | apply pw_below_drewN | apply below_drew1 | refine below_set ?_ GE247.out | refine below_set ?_ GE248.out | refine below_set ?_ GE249.out) | exact HB.out)⟩⟩
         ·rw [if_neg c70] at H
          exact absurd H (by simp)
      ·rw [if_neg c41] at H
       have c41b0 : decide (x10_2 < (x8_2.length : Int)) = false := decide_eq_false c41
       clear c41
       replace H := Option.bind_eq_some_iff.mp H
       obtain ⟨⟨t258, t259⟩, A830, H⟩ := H
       replace H : (some (t258, t259, 0)) = some (r1, r2, r3) := H
       have A83 := Aside0.mk A830
       clear A830
       simp only [Option.some.injEq, Prod.mk.injEq] at H
       obtain ⟨rfl, rfl, rfl⟩ := H
       obtain ⟨Ao84, co84, eo84⟩ := Kd.R_slice HO_8.out
       subst eo84
       go_wp2_with (first | ((with_reducible refine gate_callee (f := 52) rfl ?_); refine goesL_ (some 83) rfl rfl Try.func52 (by kernel_rfl) rfl #[.slice Ao84 x8_2.length co84] rfl (by (try simp only [List.map_toArray, List.map_cons, List.map_nil]); first | done | rfl | (simp only [List.length_drop, List.length_take]; rfl)) ?_; (with_reducible refine (dragnetref09_Set.calls k2 _ _ x8_2 t258 t259 _ ?side1 ?side2 A83.out).mono ?_); (case side1 => repeat (first | exact (Kd.R_reads' HO_8.out).2.2 | (with_reducible refine Kd.C_alloc ?_ _) | (with_reducible refine Kd.C_drewN ?_ _) | (with_reducible refine Kd.C_drew ?_))); (case side2 => exact (Kd.R_reads' HO_8.out).2.1); rintro e w85 ⟨v260, rfl, ho0, hb⟩; refine ⟨_, rfl, ?_⟩; have n0_ := rbA HO_8 hb; have n1_ := rbA HO_9 hb; have n2_ := Aside0.mk (Kd.R_lower ho0 (below_size (by repeat (first | (with_reducible first | exact HB.out | apply below_alloc | apply pw_below_drewN | apply below_drew1 | refine below_set ?_ GE247.out | refine below_set ?_ GE248.out | refine below_set ?_ GE249.out) | exact HB.out)))); have n3_ := bkA BK247 hb; have n4_ := bkA BK248 hb; have n5_ := bkA BK249 hb; have n6_ := bsA HB hb; clear HO_8; clear HO_9; clear BK247; clear BK248; clear BK249; clear HB; have HO_8 := n0_; have HO_9 := n1_; have HO261 := n2_; have BK247 := n3_; have BK248 := n4_; have BK249 := n5_; have HB := n6_; clear n0_ n1_ n2_ n3_ n4_ n5_ n6_; (try clear hb); (try clear hb2); (try clear hk); (try clear hi); (try clear ho0); have hnb86 := NB249_247.out; have hnc86 := NB247_249.out; have hnb87 := NB249_248.out; have hnc87 := NB248_249.out; have hcz88_0 : w85.cell? ⟨gb249, 0, none⟩ = some (.int .i64 0) := (blk_cell BK249.out 0).trans rfl; have hcz88_1 : w85.cell? ⟨gb249, 1, none⟩ = some (.slice none 0 0) := (blk_cell BK249.out 1).trans rfl; have hfz88_0 := blk_frozen BK249.out 0; have hfz88_1 := blk_frozen BK249.out 1; obtain ⟨Ao89, co89, eo89⟩ := Kd.R_slice HO261.out; subst eo89))
       refine bodyPost_ret (results_ct rfl _ _ gb249 38 #[.int .i64 t258, .slice Ao89 t259.length co89] (0, 0) _ rfl (by (with_reducible repeat (first | refine blk_drewN ?_ _ | refine blk_drew ?_ | refine blk_alloc ?_ _)); refine blk_put (cs := #[.int .i64 t258, .slice none 0 0]) ?_ 1 _ rfl; (with_reducible repeat (first | refine blk_drewN ?_ _ | refine blk_drew ?_ | refine blk_alloc ?_ _)); refine blk_put (cs := #[.int .i64 0, .slice none 0 0]) ?_ 0 _ rfl; (with_reducible repeat (first | refine blk_drewN ?_ _ | refine blk_drew ?_ | refine blk_alloc ?_ _)); exact BK249.out) Try.underlying38 rfl (by kernel_rfl)) rfl ?_
       exact ⟨_, by first | rfl | (simp [errW_none, errW_some] <;> rfl) | (simp [*, errW_none, errW_some] <;> rfl), by (with_reducible repeat (first | apply Kd.R_alloc | apply Kd.R_drewN | apply Kd.R_drew)); exact Kd.R_mono (Kd.R_far (p := ⟨gb249, 1, none⟩) (Kd.R_far (p := ⟨gb249, 0, none⟩) (Kd.R_types HO261.out BK249.out (by decide)) (fun _ hk => hk.2) (.int .i64 t258)) (fun _ hk => hk.2) (.slice Ao89 t259.length co89)) (fun _ hk => trivial), by repeat (first | (with_reducible first | exact HB.out | apply below_alloc | apply pw_below_drewN | apply below_drew1 | refine below_set ?_ GE247.out | refine below_set ?_ GE248.out | refine below_set ?_ GE249.out) | exact HB.out)⟩

end Go.Proofs.Ytiaaicmkpjlplaa.P
