-- Written by a program of this session (wip/tools/tp.py: the kit's printer, turned to take functions that were proved by hand). Lean checks it.
import Derived.Test.YtehaodbheifokaaGreatDoorP0
import Derived.Test.YtehaodbheifokaaGreatDoorRead0
namespace Go.Proofs.YtehaodbheifokaaGreatDoor.P
open Go.RowKit Go.Proofs.YtehaodbheifokaaGreatDoorW.PrintWords Go.Proofs.YtehaodbheifokaaGreatDoorW.PrintLast Go.Proofs.YtehaodbheifokaaGreatDoorW.PrintMore
attribute [local go_sem] max2_int min2_int max_two min_two max_three min_three max_four min_four   -- for this text's walks alone
set_option linter.unusedVariables false
set_option linter.unusedSimpArgs false

-- LEVEL 6
-- PROVED BY HAND: function 95 (field_Read): Derived.Test.YtehaodbheifokaaGreatDoorRead0

-- LEVEL 6
/-! ### field_Get: function 72 -/
def field_Get.l0 : Nat → ByteArray → List (S110) → Int → Int → Option (ByteArray × Int × Int × ByteArray × Bool)
 | 0, _, _, _, _ => none
 | k + 1, x1, x9, x10, x11 => if x11 < x10 then (if 0 ≤ x11 then (if x11 < (x9.length : Int) then (if ((rd_T110 x9 x11).f0).toList = x1.toList then (some ((rd_T110 x9 x11).f0, (rd_T110 x9 x11).f1, (rd_T110 x9 x11).f2, (rd_T110 x9 x11).f3, true)) else (field_Get.l0 k x1 x9 x10 (wrap64 (x11 + 1)))) else (none)) else (none)) else (some ((⟨#[]⟩ : ByteArray), 0, 0, (⟨#[]⟩ : ByteArray), false))
def field_Get.f (k : Nat) (l0 : List Int) (a1 : ByteArray) : Option (ByteArray × Int × Int × ByteArray × Bool) := (field_Read.f l0).bind fun t135 => (field_Get.l0 k a1 t135 (t135.length : Int) 0)
theorem field_Get.mono_l : ∀ k, (∀ y0 y1 y2 y3, LeO (field_Get.l0 k y0 y1 y2 y3) (field_Get.l0 (k + 1) y0 y1 y2 y3))
 | 0 => fun _ _ _ _ r h => by simp [field_Get.l0] at h
 | k + 1 => by
  have ih0 := field_Get.mono_l k
  ·intro y0 y1 y2 y3
   unfold field_Get.l0
   repeat' first
   | (with_reducible exact ih0 _ _ _ _)
   | (with_reducible exact LeO.refl _)
   | (with_reducible exact LeO.none _)
   | (with_reducible refine LeO.ite ?_ ?_)
   | (with_reducible refine LeO.bind ?_ (fun _ => ?_))
   | exact ih0 _ _ _ _
   | exact LeO.none _
   | refine LeO.ite ?_ ?_
   | refine LeO.bind ?_ (fun _ => ?_)
theorem field_Get.mono : ∀ a0 a1 k, LeO (field_Get.f k a0 a1) (field_Get.f (k + 1) a0 a1) := by
 intro a0 a1 k
 have ih0 := field_Get.mono_l k
 unfold field_Get.f
 repeat' first
   | (with_reducible exact ih0 _ _ _ _)
   | (with_reducible exact LeO.refl _)
   | (with_reducible exact LeO.none _)
   | (with_reducible refine LeO.ite ?_ ?_)
   | (with_reducible refine LeO.bind ?_ (fun _ => ?_))
   | exact ih0 _ _ _ _
   | exact LeO.none _
   | refine LeO.ite ?_ ?_
   | refine LeO.bind ?_ (fun _ => ?_)
set_option maxHeartbeats 8000000 in
set_option maxRecDepth 100000 in
theorem field_Get.calls (k : Nat) (A0 : Option Addr) (c0 : Nat) (l0 : List Int) (a1 : ByteArray) (r1 : ByteArray) (r2 : Int) (r3 : Int) (r4 : ByteArray) (r5 : Bool) (w : World) (hr0 : Kd.C (Kd.int .u8) w A0 l0.length l0) (hc0 : l0.length ≤ c0) (h : field_Get.f k l0 a1 = some (r1, r2, r3, r4, r5)) (hx : FieldIn w := by exact FieldIn.go (by assumption) (by assumption)) :
  Calls Tryz.prog 72 #[.slice A0 l0.length c0, .string a1] w fun e w' => e = .returned (.tuple #[.agg #[.string r1, .int .i64 r2, .int .i64 r3, .string r4], .bool r5]) ∧ Below w.heap.size w w' := by
 have HX := Aside0.mk hx
 clear hx
 have hu110 := Tryz.underlying110
 have HR0 := Aside0.mk hr0
 have HC0 := Aside0.mk hc0
 clear hr0 hc0
 have HB := Aside0.mk (Below.refl w.heap.size w)
 have H : ((field_Read.f l0).bind fun t135 => (field_Get.l0 k a1 t135 (t135.length : Int) 0)) = some (r1, r2, r3, r4, r5) := h
 clear h
 replace H := Option.bind_eq_some_iff.mp H
 obtain ⟨t135, A30, H⟩ := H
 replace H : (field_Get.l0 k a1 t135 (t135.length : Int) 0) = some (r1, r2, r3, r4, r5) := H
 have A3 := Aside0.mk A30
 clear A30
 have H' := Aside0.mk H
 clear H
 go_enter Tryz.func72, Tryz.ntmps72
 go_wp2_with (first | ((with_reducible refine gate_dst (N := 4) rfl ?_); refine box_event ?hg (N := 4) ?hd (cs := #[.string (⟨#[]⟩ : ByteArray), .int .i64 0, .int .i64 0, .string (⟨#[]⟩ : ByteArray)]) (t := 110) ?hr ?_; (case hd => rfl); (case hg => rfl); (case hr => first | (go_simp; done) | (go_simp; rfl) | (go_simp; simp only [wAl, wAr, wSl, wSr, wW])); intro gb134 hg w4 hbox hb; have n0_ := bsA HB hb; have n1_ := Aside0.mk (hbox); have n2_ := szA HB hg; have n3_ := szA HB hg; clear HB; have HB := n0_; have BK134 := n1_; have GW134 := n2_; have GE134 := n3_; clear n0_ n1_ n2_ n3_; clear hb hbox hg) | ((with_reducible refine gate_callee (f := 95) rfl ?_); refine goesL_ (some 9) rfl rfl Tryz.func95 (by kernel_rfl) rfl #[.slice A0 l0.length c0] rfl (by (try simp only [List.map_toArray, List.map_cons, List.map_nil]); first | done | rfl | (simp only [List.length_drop, List.length_take]; rfl)) ?_; (with_reducible refine (field_Read.calls _ _ l0 t135 _ ?side1 ?side2 A3.out).mono ?_); (case side1 => repeat (first | exact (Kd.C_below HR0.out HB.out) | (with_reducible refine Kd.C_alloc ?_ _) | (with_reducible refine Kd.C_drewN ?_ _) | (with_reducible refine Kd.C_drew ?_))); (case side2 => exact HC0.out); rintro e w5 ⟨v136, rfl, ho0, hb⟩; refine ⟨_, rfl, ?_⟩; have n0_ := Aside0.mk (Kd.R_lower (Kd.R_newB ho0 (g := gb134) (o := .cells #[.string (⟨#[]⟩ : ByteArray), .int .i64 0, .int .i64 0, .string (⟨#[]⟩ : ByteArray)] 110 (0, 0)) (by (with_reducible repeat (first | refine blk_drewN ?_ _ | refine blk_drew ?_ | refine blk_alloc ?_ _)); exact BK134.out)) (below_size (by repeat (first | (with_reducible first | exact HB.out | apply below_alloc | apply pw_below_drewN | apply below_drew1 | refine below_set ?_ GE134.out) | exact HB.out)))); have n1_ := bkA BK134 hb; have n2_ := bsA HB hb; clear BK134; clear HB; have HO137 := n0_; have BK134 := n1_; have HB := n2_; clear n0_ n1_ n2_; (try clear hb); (try clear hb2); (try clear hk); (try clear hi); (try clear ho0); obtain ⟨Ao6, co6, eo6⟩ := Kd.R_slice HO137.out; subst eo6))
 go_loopg [11] k (fun kq v11 w' => ∃ (x11_1 : Int) (x135000_1 : ByteArray) (x135001_1 : Int) (x135002_1 : Int) (x135003_1 : ByteArray), v11 = .int .i64 x11_1 ∧ Aside0 (field_Get.l0 kq a1 t135 (t135.length : Int) x11_1 = some (r1, r2, r3, r4, r5)) ∧ Aside0 (kq ≤ k) ∧ Aside0 (Kd.R k110 110 w' w.heap.size (fun k_ => k_ ≠ gb134) (.slice Ao6 t135.length co6) t135) ∧ Aside0 (w'.heap[gb134]? = some (.cells #[.string x135000_1, .int .i64 x135001_1, .int .i64 x135002_1, .string x135003_1] 110 (0, 0))) ∧ Aside0 (Below w.heap.size w w'))
 case atStart => exact ⟨(0), ((⟨#[]⟩ : ByteArray)), (0), (0), ((⟨#[]⟩ : ByteArray)), (by first | rfl | (simp; done) | (simp [*]; done)), H', ⟨Nat.le_refl _⟩, ⟨by (with_reducible repeat (first | apply Kd.R_alloc | apply Kd.R_drewN | apply Kd.R_drew)); exact Kd.R_mono HO137.out (fun _ hk => hk.2)⟩, ⟨by (with_reducible repeat (first | refine blk_drewN ?_ _ | refine blk_drew ?_ | refine blk_alloc ?_ _)); exact BK134.out⟩, ⟨by repeat (first | (with_reducible first | exact HB.out | apply below_alloc | apply pw_below_drewN | apply below_drew1 | refine below_set ?_ GE134.out) | exact HB.out)⟩⟩
 case round =>
  clear H'
  try clear p2
  obtain ⟨x11_1, x135000_1, x135001_1, x135002_1, x135003_1, rfl, HA, HK1, HO_9, BK134, HB⟩ := hrel
  cases gk with
  | zero => exact absurd HA.out (by simp [field_Get.l0])
  | succ k1 =>
   have H := HA.out
   clear HA
   simp only [field_Get.l0] at H
   by_cases c7 : x11_1 < (t135.length : Int)
   ·rw [if_pos c7] at H
    have c7b0 : decide (x11_1 < (t135.length : Int)) = true := decide_eq_true c7
    clear c7
    by_cases c8 : 0 ≤ x11_1
    ·rw [if_pos c8] at H
     have c8b0 : decide (0 ≤ x11_1) = true := decide_eq_true c8
     clear c8
     by_cases c9 : x11_1 < (t135.length : Int)
     ·rw [if_pos c9] at H
      have c9b0 : decide (x11_1 < (t135.length : Int)) = true := decide_eq_true c9
      clear c9
      by_cases c10 : ((rd_T110 t135 x11_1).f0).toList = a1.toList
      ·rw [if_pos c10] at H
       have c10b0 : (((rd_T110 t135 x11_1).f0).toList == a1.toList) = true := beq_iff_eq.mpr c10
       have c10b1 : (((rd_T110 t135 x11_1).f0).toList != a1.toList) = false := bne_eq_false_iff_eq.mpr c10
       clear c10
       simp only [Option.some.injEq, Prod.mk.injEq] at H
       obtain ⟨rfl, rfl, rfl, rfl, rfl⟩ := H
       have p138 : 0 ≤ (x11_1 : Int) := of_decide_eq_true (by first | (with_reducible assumption) | assumption)
       have q138 : x11_1 < (t135.length : Int) := of_decide_eq_true (by first | (with_reducible assumption) | assumption)
       obtain ⟨ad138, e138, hx138_0, hx138_1, hx138_2, hx138_3⟩ := at_T110 (Kd.R_reads' HO_9.out).2.2 x11_1 p138 q138
       cases e138
       replace p138 := eq_true p138
       replace q138 := eq_true q138
       go_wp2_with (first | ((with_reducible refine gate_dst (N := 7) rfl ?_); refine box_event ?hg (N := 7) ?hd (cs := #[.string (⟨#[]⟩ : ByteArray), .int .i64 0, .int .i64 0, .string (⟨#[]⟩ : ByteArray)]) (t := 110) ?hr ?_; (case hd => rfl); (case hg => rfl); (case hr => first | (go_simp; done) | (go_simp; rfl) | (go_simp; simp only [wAl, wAr, wSl, wSr, wW])); intro gb139 hg w11 hbox hb; have n0_ := Aside0.mk (Kd.R_below (Kd.R_elderB (by (with_reducible repeat (first | apply Kd.R_alloc | apply Kd.R_drewN | apply Kd.R_drew)); exact HO_9.out) gb139 (Nat.le_of_eq hg.symm)) hb); have n1_ := bkA BK134 hb; have n2_ := bsA HB hb; have n3_ := Aside0.mk (hbox); have n4_ := szA HB hg; have n5_ := szA HB hg; have n6_ := neA BK134 hg; have n7_ := neB BK134 hg; clear HO_9; clear BK134; clear HB; have HO_9 := n0_; have BK134 := n1_; have HB := n2_; have BK139 := n3_; have GW139 := n4_; have GE139 := n5_; have NB134_139 := n6_; have NB139_134 := n7_; clear n0_ n1_ n2_ n3_ n4_ n5_ n6_ n7_; clear hb hbox hg; have hnb12 := NB139_134.out; have hnc12 := NB134_139.out; have hcz13_0 : w11.cell? ⟨gb139, 0, none⟩ = some (.string (⟨#[]⟩ : ByteArray)) := (blk_cell BK139.out 0).trans rfl; have hcz13_1 : w11.cell? ⟨gb139, 1, none⟩ = some (.int .i64 0) := (blk_cell BK139.out 1).trans rfl; have hcz13_2 : w11.cell? ⟨gb139, 2, none⟩ = some (.int .i64 0) := (blk_cell BK139.out 2).trans rfl; have hcz13_3 : w11.cell? ⟨gb139, 3, none⟩ = some (.string (⟨#[]⟩ : ByteArray)) := (blk_cell BK139.out 3).trans rfl; have hfz13_0 := blk_frozen BK139.out 0; have hfz13_1 := blk_frozen BK139.out 1; have hfz13_2 := blk_frozen BK139.out 2; have hfz13_3 := blk_frozen BK139.out 3; have hcz14_0 : w11.cell? ⟨gb134, 0, none⟩ = some (.string x135000_1) := (blk_cell BK134.out 0).trans rfl; have hcz14_1 : w11.cell? ⟨gb134, 1, none⟩ = some (.int .i64 x135001_1) := (blk_cell BK134.out 1).trans rfl; have hcz14_2 : w11.cell? ⟨gb134, 2, none⟩ = some (.int .i64 x135002_1) := (blk_cell BK134.out 2).trans rfl; have hcz14_3 : w11.cell? ⟨gb134, 3, none⟩ = some (.string x135003_1) := (blk_cell BK134.out 3).trans rfl; have hfz14_0 := blk_frozen BK134.out 0; have hfz14_1 := blk_frozen BK134.out 1; have hfz14_2 := blk_frozen BK134.out 2; have hfz14_3 := blk_frozen BK134.out 3))
       refine bodyPost_ret (results_ct rfl _ _ gb134 110 #[.string ((rd_T110 t135 x11_1).f0), .int .i64 ((rd_T110 t135 x11_1).f1), .int .i64 ((rd_T110 t135 x11_1).f2), .string ((rd_T110 t135 x11_1).f3)] (0, 0) _ rfl (by (with_reducible repeat (first | refine blk_drewN ?_ _ | refine blk_drew ?_ | refine blk_alloc ?_ _)); refine blk_put (cs := #[.string ((rd_T110 t135 x11_1).f0), .int .i64 ((rd_T110 t135 x11_1).f1), .int .i64 ((rd_T110 t135 x11_1).f2), .string x135003_1]) ?_ 3 _ rfl; (with_reducible repeat (first | refine blk_drewN ?_ _ | refine blk_drew ?_ | refine blk_alloc ?_ _)); refine blk_put (cs := #[.string ((rd_T110 t135 x11_1).f0), .int .i64 ((rd_T110 t135 x11_1).f1), .int .i64 x135002_1, .string x135003_1]) ?_ 2 _ rfl; (with_reducible repeat (first | refine blk_drewN ?_ _ | refine blk_drew ?_ | refine blk_alloc ?_ _)); refine blk_put (cs := #[.string ((rd_T110 t135 x11_1).f0), .int .i64 x135001_1, .int .i64 x135002_1, .string x135003_1]) ?_ 1 _ rfl; (with_reducible repeat (first | refine blk_drewN ?_ _ | refine blk_drew ?_ | refine blk_alloc ?_ _)); refine blk_put (cs := #[.string x135000_1, .int .i64 x135001_1, .int .i64 x135002_1, .string x135003_1]) ?_ 0 _ rfl; (with_reducible repeat (first | refine blk_drewN ?_ _ | refine blk_drew ?_ | refine blk_alloc ?_ _)); refine blk_far ?_ NB134_139.out _; (with_reducible repeat (first | refine blk_drewN ?_ _ | refine blk_drew ?_ | refine blk_alloc ?_ _)); refine blk_far ?_ NB134_139.out _; (with_reducible repeat (first | refine blk_drewN ?_ _ | refine blk_drew ?_ | refine blk_alloc ?_ _)); refine blk_far ?_ NB134_139.out _; (with_reducible repeat (first | refine blk_drewN ?_ _ | refine blk_drew ?_ | refine blk_alloc ?_ _)); refine blk_far ?_ NB134_139.out _; (with_reducible repeat (first | refine blk_drewN ?_ _ | refine blk_drew ?_ | refine blk_alloc ?_ _)); exact BK134.out) Tryz.underlying110 rfl (by kernel_rfl)) rfl ?_
       exact ⟨by first | rfl | (simp [errW_none, errW_some] <;> rfl) | (simp [*, errW_none, errW_some] <;> rfl), by repeat (first | (with_reducible first | exact HB.out | apply below_alloc | apply pw_below_drewN | apply below_drew1 | refine below_set ?_ GE134.out | refine below_set ?_ GE139.out) | exact HB.out)⟩
      ·rw [if_neg c10] at H
       have c10b0 : (((rd_T110 t135 x11_1).f0).toList == a1.toList) = false := beq_eq_false_iff_ne.mpr c10
       have c10b1 : (((rd_T110 t135 x11_1).f0).toList != a1.toList) = true := bne_iff_ne.mpr c10
       have H' := Aside0.mk H
       clear H
       have p138 : 0 ≤ (x11_1 : Int) := of_decide_eq_true (by first | (with_reducible assumption) | assumption)
       have q138 : x11_1 < (t135.length : Int) := of_decide_eq_true (by first | (with_reducible assumption) | assumption)
       obtain ⟨ad138, e138, hx138_0, hx138_1, hx138_2, hx138_3⟩ := at_T110 (Kd.R_reads' HO_9.out).2.2 x11_1 p138 q138
       cases e138
       replace p138 := eq_true p138
       replace q138 := eq_true q138
       go_wp2_with (first | ((with_reducible refine gate_dst (N := 7) rfl ?_); refine box_event ?hg (N := 7) ?hd (cs := #[.string (⟨#[]⟩ : ByteArray), .int .i64 0, .int .i64 0, .string (⟨#[]⟩ : ByteArray)]) (t := 110) ?hr ?_; (case hd => rfl); (case hg => rfl); (case hr => first | (go_simp; done) | (go_simp; rfl) | (go_simp; simp only [wAl, wAr, wSl, wSr, wW])); intro gb139 hg w15 hbox hb; have n0_ := Aside0.mk (Kd.R_below (Kd.R_elderB (by (with_reducible repeat (first | apply Kd.R_alloc | apply Kd.R_drewN | apply Kd.R_drew)); exact HO_9.out) gb139 (Nat.le_of_eq hg.symm)) hb); have n1_ := bkA BK134 hb; have n2_ := bsA HB hb; have n3_ := Aside0.mk (hbox); have n4_ := szA HB hg; have n5_ := szA HB hg; have n6_ := neA BK134 hg; have n7_ := neB BK134 hg; clear HO_9; clear BK134; clear HB; have HO_9 := n0_; have BK134 := n1_; have HB := n2_; have BK139 := n3_; have GW139 := n4_; have GE139 := n5_; have NB134_139 := n6_; have NB139_134 := n7_; clear n0_ n1_ n2_ n3_ n4_ n5_ n6_ n7_; clear hb hbox hg; have hnb16 := NB139_134.out; have hnc16 := NB134_139.out; have hcz17_0 : w15.cell? ⟨gb139, 0, none⟩ = some (.string (⟨#[]⟩ : ByteArray)) := (blk_cell BK139.out 0).trans rfl; have hcz17_1 : w15.cell? ⟨gb139, 1, none⟩ = some (.int .i64 0) := (blk_cell BK139.out 1).trans rfl; have hcz17_2 : w15.cell? ⟨gb139, 2, none⟩ = some (.int .i64 0) := (blk_cell BK139.out 2).trans rfl; have hcz17_3 : w15.cell? ⟨gb139, 3, none⟩ = some (.string (⟨#[]⟩ : ByteArray)) := (blk_cell BK139.out 3).trans rfl; have hfz17_0 := blk_frozen BK139.out 0; have hfz17_1 := blk_frozen BK139.out 1; have hfz17_2 := blk_frozen BK139.out 2; have hfz17_3 := blk_frozen BK139.out 3))
       go_roundg k1
       case measure => have := HK1.out; omega
       case rel => exact ⟨(wrap64 (x11_1 + 1)), (x135000_1), (x135001_1), (x135002_1), (x135003_1), (by first | rfl | (simp; done) | (simp [*]; done)), H', ⟨by have := HK1.out; omega⟩, ⟨by (with_reducible repeat (first | apply Kd.R_alloc | apply Kd.R_drewN | apply Kd.R_drew)); exact Kd.R_mono (Kd.R_far (p := ⟨gb139, 3, none⟩) (Kd.R_far (p := ⟨gb139, 2, none⟩) (Kd.R_far (p := ⟨gb139, 1, none⟩) (Kd.R_far (p := ⟨gb139, 0, none⟩) (Kd.R_mono HO_9.out (fun k_ hk => (⟨hk, hk.2⟩ : _ ∧ k_ ≠ gb139))) (fun _ hk => hk.2) (.string ((rd_T110 t135 x11_1).f0))) (fun _ hk => hk.2) (.int .i64 ((rd_T110 t135 x11_1).f1))) (fun _ hk => hk.2) (.int .i64 ((rd_T110 t135 x11_1).f2))) (fun _ hk => hk.2) (.string ((rd_T110 t135 x11_1).f3))) (fun _ hk => hk.1.1)⟩, ⟨by (with_reducible repeat (first | refine blk_drewN ?_ _ | refine blk_drew ?_ | refine blk_alloc ?_ _)); refine blk_far ?_ NB134_139.out _; (with_reducible repeat (first | refine blk_drewN ?_ _ | refine blk_drew ?_ | refine blk_alloc ?_ _)); refine blk_far ?_ NB134_139.out _; (with_reducible repeat (first | refine blk_drewN ?_ _ | refine blk_drew ?_ | refine blk_alloc ?_ _)); refine blk_far ?_ NB134_139.out _; (with_reducible repeat (first | refine blk_drewN ?_ _ | refine blk_drew ?_ | refine blk_alloc ?_ _)); refine blk_far ?_ NB134_139.out _; (with_reducible repeat (first | refine blk_drewN ?_ _ | refine blk_drew ?_ | refine blk_alloc ?_ _)); exact BK134.out⟩, ⟨by repeat (first | (with_reducible first | exact HB.out | apply below_alloc | apply pw_below_drewN | apply below_drew1 | refine below_set ?_ GE134.out | refine below_set ?_ GE139.out) | exact HB.out)⟩⟩
     ·rw [if_neg c9] at H
      exact absurd H (by simp)
    ·rw [if_neg c8] at H
     exact absurd H (by simp)
   ·rw [if_neg c7] at H
    have c7b0 : decide (x11_1 < (t135.length : Int)) = false := decide_eq_false c7
    clear c7
    simp only [Option.some.injEq, Prod.mk.injEq] at H
    obtain ⟨rfl, rfl, rfl, rfl, rfl⟩ := H
    have hcz18_0 : wr.cell? ⟨gb134, 0, none⟩ = some (.string x135000_1) := (blk_cell BK134.out 0).trans rfl
    have hcz18_1 : wr.cell? ⟨gb134, 1, none⟩ = some (.int .i64 x135001_1) := (blk_cell BK134.out 1).trans rfl
    have hcz18_2 : wr.cell? ⟨gb134, 2, none⟩ = some (.int .i64 x135002_1) := (blk_cell BK134.out 2).trans rfl
    have hcz18_3 : wr.cell? ⟨gb134, 3, none⟩ = some (.string x135003_1) := (blk_cell BK134.out 3).trans rfl
    have hfz18_0 := blk_frozen BK134.out 0
    have hfz18_1 := blk_frozen BK134.out 1
    have hfz18_2 := blk_frozen BK134.out 2
    have hfz18_3 := blk_frozen BK134.out 3
    go_wp2
    refine bodyPost_ret (results_ct rfl _ _ gb134 110 #[.string (⟨#[]⟩ : ByteArray), .int .i64 0, .int .i64 0, .string (⟨#[]⟩ : ByteArray)] (0, 0) _ rfl (by (with_reducible repeat (first | refine blk_drewN ?_ _ | refine blk_drew ?_ | refine blk_alloc ?_ _)); refine blk_put (cs := #[.string (⟨#[]⟩ : ByteArray), .int .i64 0, .int .i64 0, .string x135003_1]) ?_ 3 _ rfl; (with_reducible repeat (first | refine blk_drewN ?_ _ | refine blk_drew ?_ | refine blk_alloc ?_ _)); refine blk_put (cs := #[.string (⟨#[]⟩ : ByteArray), .int .i64 0, .int .i64 x135002_1, .string x135003_1]) ?_ 2 _ rfl; (with_reducible repeat (first | refine blk_drewN ?_ _ | refine blk_drew ?_ | refine blk_alloc ?_ _)); refine blk_put (cs := #[.string (⟨#[]⟩ : ByteArray), .int .i64 x135001_1, .int .i64 x135002_1, .string x135003_1]) ?_ 1 _ rfl; (with_reducible repeat (first | refine blk_drewN ?_ _ | refine blk_drew ?_ | refine blk_alloc ?_ _)); refine blk_put (cs := #[.string x135000_1, .int .i64 x135001_1, .int .i64 x135002_1, .string x135003_1]) ?_ 0 _ rfl; (with_reducible repeat (first | refine blk_drewN ?_ _ | refine blk_drew ?_ | refine blk_alloc ?_ _)); exact BK134.out) Tryz.underlying110 rfl (by kernel_rfl)) rfl ?_
    exact ⟨by first | rfl | (simp [errW_none, errW_some] <;> rfl) | (simp [*, errW_none, errW_some] <;> rfl), by repeat (first | (with_reducible first | exact HB.out | apply below_alloc | apply pw_below_drewN | apply below_drew1 | refine below_set ?_ GE134.out) | exact HB.out)⟩

-- LEVEL 6
-- NOT PRINTED: function 64 (match_reader_leaf)

end Go.Proofs.YtehaodbheifokaaGreatDoor.P
