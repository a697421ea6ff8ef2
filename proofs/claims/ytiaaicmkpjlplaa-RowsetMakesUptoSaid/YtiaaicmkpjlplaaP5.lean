-- Written by a program of this session (wip/tools/tp.py: the kit's printer, turned to take functions that were proved by hand). Lean checks it.
import Derived.Test.YtiaaicmkpjlplaaP0
import Derived.Test.YtiaaicmkpjlplaaP1
import Derived.Test.YtiaaicmkpjlplaaP3
import Derived.Test.YtiaaicmkpjlplaaP4
namespace Go.Proofs.Ytiaaicmkpjlplaa.P
open Go.RowKit Go.Proofs.YtiaaicmkpjlplaaW.PrintWords Go.Proofs.YtiaaicmkpjlplaaW.PrintLast Go.Proofs.YtiaaicmkpjlplaaW.PrintMore
attribute [local go_sem] max2_int min2_int max_two min_two max_three min_three max_four min_four   -- for this text's walks alone
set_option linter.unusedVariables false
set_option linter.unusedSimpArgs false

-- LEVEL 0
/-! ### dragnetref09_Full: function 35 -/
def dragnetref09_Full.l0 : Nat → List Bool → Int → Option (Int × List Int × Int)
 | 0, _, _ => none
 | k + 1, x6, x7 => if x7 < (x6.length : Int) then (if 0 ≤ x7 then (dragnetref09_Full.l0 k (x6.set (x7 : Int).toNat true) (wrap64 (x7 + 1))) else (none)) else ((dragnetref09_Set.f k x6).bind fun bt193 => (some (bt193.1, bt193.2, 0)))
def dragnetref09_Full.f (k : Nat) (a0 : Int) : Option (Int × List Int × Int) := (dragnetref09_Of.f k a0 ([] : List Int)).bind fun bt183 => (if bt183.2.2 = 0 then ((dragnetref09_Bits.f k bt183.1 bt183.2.1).bind fun t189 => (dragnetref09_Full.l0 k t189 0)) else (some (0, ([] : List Int), bt183.2.2)))
theorem dragnetref09_Full.mono_l : ∀ k, (∀ y0 y1, LeO (dragnetref09_Full.l0 k y0 y1) (dragnetref09_Full.l0 (k + 1) y0 y1))
 | 0 => fun _ _ r h => by simp [dragnetref09_Full.l0] at h
 | k + 1 => by
  have ih0 := dragnetref09_Full.mono_l k
  ·intro y0 y1
   unfold dragnetref09_Full.l0
   repeat' first
   | (with_reducible exact ih0 _ _)
   | (with_reducible exact dragnetref09_Bits.mono _ _ _)
   | (with_reducible exact dragnetref09_Of.mono _ _ _)
   | (with_reducible exact dragnetref09_Set.mono _ _)
   | (with_reducible exact LeO.refl _)
   | (with_reducible exact LeO.none _)
   | (with_reducible refine LeO.ite ?_ ?_)
   | (with_reducible refine LeO.bind ?_ (fun _ => ?_))
   | exact ih0 _ _
   | exact dragnetref09_Bits.mono _ _ _
   | exact dragnetref09_Of.mono _ _ _
   | exact dragnetref09_Set.mono _ _
   | exact LeO.none _
   | refine LeO.ite ?_ ?_
   | refine LeO.bind ?_ (fun _ => ?_)
theorem dragnetref09_Full.mono : ∀ a0 k, LeO (dragnetref09_Full.f k a0) (dragnetref09_Full.f (k + 1) a0) := by
 intro a0 k
 have ih0 := dragnetref09_Full.mono_l k
 unfold dragnetref09_Full.f
 repeat' first
   | (with_reducible exact ih0 _ _)
   | (with_reducible exact dragnetref09_Bits.mono _ _ _)
   | (with_reducible exact dragnetref09_Of.mono _ _ _)
   | (with_reducible exact dragnetref09_Set.mono _ _)
   | (with_reducible exact LeO.refl _)
   | (with_reducible exact LeO.none _)
   | (with_reducible refine LeO.ite ?_ ?_)
   | (with_reducible refine LeO.bind ?_ (fun _ => ?_))
   | exact ih0 _ _
   | exact dragnetref09_Bits.mono _ _ _
   | exact dragnetref09_Of.mono _ _ _
   | exact dragnetref09_Set.mono _ _
   | exact LeO.none _
   | refine LeO.ite ?_ ?_
   | refine LeO.bind ?_ (fun _ => ?_)
set_option maxHeartbeats 8000000 in
set_option maxRecDepth 100000 in
theorem dragnetref09_Full.calls (k : Nat) (a0 : Int) (r1 : Int) (r2 : List Int) (r3 : Int) (w : World) (h : dragnetref09_Full.f k a0 = some (r1, r2, r3)) :
  Calls Try.prog 35 #[.int .i64 a0] w fun e w' => ∃ v1_ : Value, e = .returned (.tuple #[.agg #[.int .i64 r1, v1_], .int .i64 r3]) ∧ Kd.R (Kd.int .u64) 66 w' w.heap.size (fun _ => True) v1_ r2 ∧ Below w.heap.size w w' := by
 have hu38 := Try.underlying38
 have HB := Aside0.mk (Below.refl w.heap.size w)
 have H : ((dragnetref09_Of.f k a0 ([] : List Int)).bind fun bt183 => (if bt183.2.2 = 0 then ((dragnetref09_Bits.f k bt183.1 bt183.2.1).bind fun t189 => (dragnetref09_Full.l0 k t189 0)) else (some (0, ([] : List Int), bt183.2.2)))) = some (r1, r2, r3) := h
 clear h
 replace H := Option.bind_eq_some_iff.mp H
 obtain ⟨⟨t183, t184, t187⟩, A20, H⟩ := H
 replace H : (if t187 = 0 then ((dragnetref09_Bits.f k t183 t184).bind fun t189 => (dragnetref09_Full.l0 k t189 0)) else (some (0, ([] : List Int), t187))) = some (r1, r2, r3) := H
 have A2 := Aside0.mk A20
 clear A20
 by_cases c3 : t187 = 0
 ·rw [if_pos c3] at H
  have c3b0 : (t187 == 0) = true := beq_iff_eq.mpr c3
  have c3b1 : (t187 != 0) = false := bne_eq_false_iff_eq.mpr c3
  clear c3
  replace H := Option.bind_eq_some_iff.mp H
  obtain ⟨t189, A40, H⟩ := H
  replace H : (dragnetref09_Full.l0 k t189 0) = some (r1, r2, r3) := H
  have A4 := Aside0.mk A40
  clear A40
  have H' := Aside0.mk H
  clear H
  go_enter Try.func35, Try.ntmps35
  go_wp2_with (first | ((with_reducible refine gate_dst (N := 2) rfl ?_); refine box_event ?hg (N := 2) ?hd (cs := #[.int .i64 0, .slice none 0 0]) (t := 38) ?hr ?_; (case hd => rfl); (case hg => rfl); (case hr => first | (go_simp; done) | (go_simp; rfl)); intro gb182 hg w5 hbox hb; have n0_ := bsA HB hb; have n1_ := Aside0.mk (hbox); have n2_ := szA HB hg; have n3_ := szA HB hg; clear HB; have HB := n0_; have BK182 := n1_; have GW182 := n2_; have GE182 := n3_; clear n0_ n1_ n2_ n3_; clear hb hbox hg) | ((with_reducible refine gate_callee (f := 33) rfl ?_); refine goesL_ (some 10) rfl rfl Try.func33 (by kernel_rfl) rfl #[.int .i64 a0, .slice none 0 0] rfl (by (try simp only [List.map_toArray, List.map_cons, List.map_nil]); first | done | rfl | (simp only [List.length_drop, List.length_take]; rfl)) ?_; (refine (dragnetref09_Of.calls k a0 _ _ ([] : List Int) t183 t184 t187 _ ?side1 ?side2 A2.out).mono ?_); (case side1 => exact Kd.C_nil _ _); (case side2 => exact Nat.le_refl _); rintro e w6 ⟨v185, rfl, ho0, hb⟩; refine ⟨_, rfl, ?_⟩; have n0_ := Aside0.mk (Kd.R_lower ho0 (below_size (by repeat (first | (with_reducible first | exact HB.out | apply below_alloc | apply pw_below_drewN | apply below_drew1 | refine below_set ?_ GE182.out) | exact HB.out)))); have n1_ := bkA BK182 hb; have n2_ := bsA HB hb; clear BK182; clear HB; have HO186 := n0_; have BK182 := n1_; have HB := n2_; clear n0_ n1_ n2_; (try clear hb); (try clear hb2); (try clear hk); (try clear hi); (try clear ho0)) | ((with_reducible refine gate_dst (N := 4) rfl ?_); refine box_event ?hg (N := 4) ?hd (cs := #[.int .i64 0, .slice none 0 0]) (t := 38) ?hr ?_; (case hd => rfl); (case hg => rfl); (case hr => first | (go_simp; done) | (go_simp; rfl)); intro gb188 hg w7 hbox hb; have n0_ := rbA HO186 hb; have n1_ := bkA BK182 hb; have n2_ := bsA HB hb; have n3_ := Aside0.mk (hbox); have n4_ := szA HB hg; have n5_ := szA HB hg; have n6_ := neA BK182 hg; have n7_ := neB BK182 hg; clear HO186; clear BK182; clear HB; have HO186 := n0_; have BK182 := n1_; have HB := n2_; have BK188 := n3_; have GW188 := n4_; have GE188 := n5_; have NB182_188 := n6_; have NB188_182 := n7_; clear n0_ n1_ n2_ n3_ n4_ n5_ n6_ n7_; clear hb hbox hg; have hnb8 := NB188_182.out; have hnc8 := NB182_188.out; have hcz9_0 : w7.cell? ⟨gb188, 0, none⟩ = some (.int .i64 0) := (blk_cell BK188.out 0).trans rfl; have hcz9_1 : w7.cell? ⟨gb188, 1, none⟩ = some (.slice none 0 0) := (blk_cell BK188.out 1).trans rfl; have hfz9_0 := blk_frozen BK188.out 0; have hfz9_1 := blk_frozen BK188.out 1; obtain ⟨Ao10, co10, eo10⟩ := Kd.R_slice HO186.out; subst eo10) | ((with_reducible refine gate_callee (f := 51) rfl ?_); refine goesL_ (some 18) rfl rfl Try.func51 (by kernel_rfl) rfl #[.agg #[.int .i64 t183, .slice Ao10 t184.length co10]] rfl (by (try simp only [List.map_toArray, List.map_cons, List.map_nil]); first | done | rfl | (simp only [List.length_drop, List.length_take]; rfl)) ?_; (with_reducible refine (dragnetref09_Bits.calls k t183 _ _ t184 t189 _ ?side1 ?side2 A4.out).mono ?_); (case side1 => refine (Kd.R_reads' (e := 66) (base := w.heap.size) (ok := fun k_ => True) (n := t184.length) (c := co10) ?_).2.2; exact (by (with_reducible repeat (first | apply Kd.R_alloc | apply Kd.R_drewN | apply Kd.R_drew)); exact (Kd.R_mono (Kd.R_far (p := ⟨gb188, 1, none⟩) (Kd.R_far (p := ⟨gb188, 0, none⟩) (Kd.R_types HO186.out BK188.out (by decide)) (fun _ hk => hk.2) (.int .i64 t183)) (fun _ hk => hk.2) (.slice Ao10 t184.length co10)) (fun _ h_ => h_.1)))); (case side2 => exact (Kd.R_reads' HO186.out).2.1); rintro e w11 ⟨v190, rfl, ho0, hb⟩; refine ⟨_, rfl, ?_⟩; have n0_ := Aside0.mk (Kd.R_below (by (with_reducible repeat (first | apply Kd.R_alloc | apply Kd.R_drewN | apply Kd.R_drew)); exact (Kd.R_mono (Kd.R_far (p := ⟨gb188, 1, none⟩) (Kd.R_far (p := ⟨gb188, 0, none⟩) (Kd.R_types HO186.out BK188.out (by decide)) (fun _ hk => hk.2) (.int .i64 t183)) (fun _ hk => hk.2) (.slice Ao10 t184.length co10)) (fun _ h_ => h_.1))) hb); have n1_ := Aside0.mk (Kd.R_lower ho0 (below_size (by repeat (first | (with_reducible first | exact HB.out | apply below_alloc | apply pw_below_drewN | apply below_drew1 | refine below_set ?_ GE182.out | refine below_set ?_ GE188.out) | exact HB.out)))); have n2_ := bkA BK182 hb; have n3_ := Aside0.mk (blk_below (g := gb188) (o := .cells #[.int .i64 t183, .slice Ao10 t184.length co10] 38 (0, 0)) (by (with_reducible repeat (first | refine blk_drewN ?_ _ | refine blk_drew ?_ | refine blk_alloc ?_ _)); refine blk_put (cs := #[.int .i64 t183, .slice none 0 0]) ?_ 1 _ rfl; (with_reducible repeat (first | refine blk_drewN ?_ _ | refine blk_drew ?_ | refine blk_alloc ?_ _)); refine blk_put (cs := #[.int .i64 0, .slice none 0 0]) ?_ 0 _ rfl; (with_reducible repeat (first | refine blk_drewN ?_ _ | refine blk_drew ?_ | refine blk_alloc ?_ _)); exact BK188.out) hb); have n4_ := bsA HB hb; clear HO186; clear BK182; clear BK188; clear HB; have HO186 := n0_; have HO191 := n1_; have BK182 := n2_; have BK188 := n3_; have HB := n4_; clear n0_ n1_ n2_ n3_ n4_; (try clear hb); (try clear hb2); (try clear hk); (try clear hi); (try clear ho0)))
  go_loopg [7] k (fun kq v7 w' => ∃ (x6_1 : List Bool) (x7_1 : Int), v7 = .int .i64 x7_1 ∧ Aside0 (dragnetref09_Full.l0 kq x6_1 x7_1 = some (r1, r2, r3)) ∧ Aside0 (kq ≤ k) ∧ Aside0 (Kd.R Kd.bool 4 w' w.heap.size (fun _ => True) v190 x6_1) ∧ Aside0 (Kd.R (Kd.int .u64) 66 w' w.heap.size (fun _ => True) (.slice Ao10 t184.length co10) t184) ∧ Aside0 (w'.heap[gb182]? = some (.cells #[.int .i64 0, (.slice none 0 0)] 38 (0, 0))) ∧ Aside0 (w'.heap[gb188]? = some (.cells #[.int .i64 t183, (.slice Ao10 t184.length co10)] 38 (0, 0))) ∧ Aside0 (Below w.heap.size w w'))
  case atStart => exact ⟨(t189), (0), (by first | rfl | (simp; done) | (simp [*]; done)), H', ⟨Nat.le_refl _⟩, ⟨by (with_reducible repeat (first | apply Kd.R_alloc | apply Kd.R_drewN | apply Kd.R_drew)); exact HO191.out⟩, ⟨by (with_reducible repeat (first | apply Kd.R_alloc | apply Kd.R_drewN | apply Kd.R_drew)); exact HO186.out⟩, ⟨by (with_reducible repeat (first | refine blk_drewN ?_ _ | refine blk_drew ?_ | refine blk_alloc ?_ _)); exact BK182.out⟩, ⟨by (with_reducible repeat (first | refine blk_drewN ?_ _ | refine blk_drew ?_ | refine blk_alloc ?_ _)); exact BK188.out⟩, ⟨by repeat (first | (with_reducible first | exact HB.out | apply below_alloc | apply pw_below_drewN | apply below_drew1 | refine below_set ?_ GE182.out | refine below_set ?_ GE188.out) | exact HB.out)⟩⟩
  case round =>
   clear H'
   try clear p2
   try clear c3
   try clear c3b0
   try clear c3b1
   try clear c5
   try clear c8
   try clear hcz9_0
   try clear hcz9_1
   try clear hfz9_0
   try clear hfz9_1
   obtain ⟨x6_1, x7_1, rfl, HA, HK1, HO_6, HO_189001, BK182, BK188, HB⟩ := hrel
   cases gk with
   | zero => exact absurd HA.out (by simp [dragnetref09_Full.l0])
   | succ k1 =>
    have H := HA.out
    clear HA
    simp only [dragnetref09_Full.l0] at H
    by_cases c12 : x7_1 < (x6_1.length : Int)
    ·rw [if_pos c12] at H
     have c12b0 : decide (x7_1 < (x6_1.length : Int)) = true := decide_eq_true c12
     clear c12
     by_cases c13 : 0 ≤ x7_1
     ·rw [if_pos c13] at H
      have c13b0 : decide (0 ≤ x7_1) = true := decide_eq_true c13
      clear c13
      obtain ⟨y192, hy192⟩ : ∃ y_ : List Bool, y_ = (x6_1.set (x7_1 : Int).toNat true) := ⟨_, rfl⟩
      replace H : (dragnetref09_Full.l0 k1 y192 (wrap64 (x7_1 + 1))) = some (r1, r2, r3) := by first | (rw [hy192]; with_reducible exact H) | (have H2_ := (Option.bind_some _ _).symm.trans H; rw [hy192]; with_reducible exact H2_) | (have H2_ := (Option.bind_some _ _).symm.trans H; with_reducible exact H2_) | with_reducible exact H | (rw [hy192]; exact H) | exact H
      have Ny192 := Aside0.mk hy192
      clear hy192
      have H' := Aside0.mk H
      clear H
      obtain ⟨Ao15, co15, eo15⟩ := Kd.R_slice HO_6.out
      subst eo15
      have p14 : 0 ≤ (x7_1 : Int) := of_decide_eq_true (by first | (with_reducible assumption) | assumption)
      have q14 : (x7_1 : Int) < ((x6_1.length : Int) : Int) := of_decide_eq_true (by first | (with_reducible assumption) | assumption)
      obtain ⟨go14, co14, eo14, gb14, gl14, cl14, HG14⟩ := Kd.R_form HO_6.out (by omega)
      (first | cases eo14 | (injection eo14 with ea_ en_ ec_; (first | subst ea_ | (injection ea_ with ea_; subst ea_)); subst ec_; clear en_))
      have GB14 := Aside0.mk gb14
      have GG14 := Aside0.mk HG14
      clear gb14 gl14 HG14
      obtain ⟨hx14_0, hf14_0⟩ := Kd.R_celln false HO_6.out (x7_1 : Int) p14 q14
      replace p14 := eq_true p14
      replace q14 := eq_true q14
      have HP16 := Kd.R_putg HO_6.out (x7_1 : Int) true
      go_wp2_with (first | ((with_reducible refine gate_store (t := 4) (p := 27) rfl ?_); refine store_event (t := 4) (p := 27) (v := ?vo_w17) (w1 := (wr.setCell ⟨go14, (x7_1 : Int).toNat, none⟩ (.bool true))) ?hg ?ho ?hn ?hr ?_; (case ho => rfl); (case hg => rfl); (case hn => rfl); (case hr => first | (go_simp; done) | (go_simp; rfl)); intro w17 hw; have hg : wr.grownBy w17 (some go14) := (by rw [hw]; exact HP16.2); have hp_ : Kd.R Kd.bool 4 w17 w.heap.size (fun _ => True) (.slice (some ⟨go14, 0, none⟩) x6_1.length co15) y192 := (by rw [hw, Ny192.out]; exact HP16.1); clear HP16; have n0_ := Aside0.mk (hp_); have n1_ := Aside0.mk (Kd.R_over' (v := (.slice (some ⟨go14, 0, none⟩) x6_1.length co15)) (by (with_reducible repeat (first | apply Kd.R_alloc | apply Kd.R_drewN | apply Kd.R_drew)); exact HO_189001.out) (Kd.R_typed HO_6.out) (by decide) hg); have n2_ := Aside0.mk (blk_grown (g := gb182) (o := .cells #[.int .i64 0, .slice none 0 0] 38 (0, 0)) (by (with_reducible repeat (first | refine blk_drewN ?_ _ | refine blk_drew ?_ | refine blk_alloc ?_ _)); exact BK182.out) hg (Kd.R_ne HO_6.out BK182.out (by decide))); have n3_ := Aside0.mk (blk_grown (g := gb188) (o := .cells #[.int .i64 t183, .slice Ao10 t184.length co10] 38 (0, 0)) (by (with_reducible repeat (first | refine blk_drewN ?_ _ | refine blk_drew ?_ | refine blk_alloc ?_ _)); exact BK188.out) hg (Kd.R_ne HO_6.out BK188.out (by decide))); have n4_ := Aside0.mk ((by rw [hw]; exact below_set (HB.out) GB14.out : Below w.heap.size w w17)); clear HO_6; clear HO_189001; clear BK182; clear BK188; clear HB; have HO_6 := n0_; have HO_189001 := n1_; have BK182 := n2_; have BK188 := n3_; have HB := n4_; clear n0_ n1_ n2_ n3_ n4_; clear hg hw hp_))
      go_roundg k1
      case measure => have := HK1.out; omega
      case rel => exact ⟨(y192), (wrap64 (x7_1 + 1)), (by first | rfl | (simp; done) | (simp [*]; done)), H', ⟨by have := HK1.out; omega⟩, ⟨by (with_reducible repeat (first | apply Kd.R_alloc | apply Kd.R_drewN | apply Kd.R_drew)); exact HO_6.out⟩, ⟨by (with_reducible repeat (first | apply Kd.R_alloc | apply Kd.R_drewN | apply Kd.R_drew)); exact HO_189001.out⟩, ⟨by (with_reducible repeat (first | refine blk_drewN ?_ _ | refine blk_drew ?_ | refine blk_alloc ?_ _)); exact BK182.out⟩, ⟨by (with_reducible repeat (first | refine blk_drewN ?_ _ | refine blk_drew ?_ | refine blk_alloc ?_ _)); exact BK188.out⟩, ⟨by repeat (first | (with_reducible first | exact HB.out | apply below_alloc | apply pw_below_drewN | apply below_drew1 | refine below_set ?_ GE182.out | refine below_set ?_ GE188.out) | exact HB.out)⟩⟩
     ·rw [if_neg c13] at H
      exact absurd H (by simp)
    ·rw [if_neg c12] at H
     have c12b0 : decide (x7_1 < (x6_1.length : Int)) = false := decide_eq_false c12
     clear c12
     replace H := Option.bind_eq_some_iff.mp H
     obtain ⟨⟨t193, t194⟩, A180, H⟩ := H
     replace H : (some (t193, t194, 0)) = some (r1, r2, r3) := H
     have A18 := Aside0.mk A180
     clear A180
     simp only [Option.some.injEq, Prod.mk.injEq] at H
     obtain ⟨rfl, rfl, rfl⟩ := H
     obtain ⟨Ao19, co19, eo19⟩ := Kd.R_slice HO_6.out
     subst eo19
     go_wp2_with (first | ((with_reducible refine gate_callee (f := 52) rfl ?_); refine goesL_ (some 29) rfl rfl Try.func52 (by kernel_rfl) rfl #[.slice Ao19 x6_1.length co19] rfl (by (try simp only [List.map_toArray, List.map_cons, List.map_nil]); first | done | rfl | (simp only [List.length_drop, List.length_take]; rfl)) ?_; (with_reducible refine (dragnetref09_Set.calls k1 _ _ x6_1 t193 t194 _ ?side1 ?side2 A18.out).mono ?_); (case side1 => repeat (first | exact (Kd.R_reads' HO_6.out).2.2 | (with_reducible refine Kd.C_alloc ?_ _) | (with_reducible refine Kd.C_drewN ?_ _) | (with_reducible refine Kd.C_drew ?_))); (case side2 => exact (Kd.R_reads' HO_6.out).2.1); rintro e w20 ⟨v195, rfl, ho0, hb⟩; refine ⟨_, rfl, ?_⟩; have n0_ := rbA HO_6 hb; have n1_ := Aside0.mk (Kd.R_elder' (by (with_reducible repeat (first | apply Kd.R_alloc | apply Kd.R_drewN | apply Kd.R_drew)); exact HO_189001.out) (Kd.R_base ho0) hb); have n2_ := Aside0.mk (Kd.R_lower (Kd.R_new' ho0 (Kd.R_lt (by (with_reducible repeat (first | apply Kd.R_alloc | apply Kd.R_drewN | apply Kd.R_drew)); exact HO_189001.out))) (below_size (by repeat (first | (with_reducible first | exact HB.out | apply below_alloc | apply pw_below_drewN | apply below_drew1 | refine below_set ?_ GE182.out | refine below_set ?_ GE188.out) | exact HB.out)))); have n3_ := bkA BK182 hb; have n4_ := bkA BK188 hb; have n5_ := bsA HB hb; clear HO_6; clear HO_189001; clear BK182; clear BK188; clear HB; have HO_6 := n0_; have HO_189001 := n1_; have HO196 := n2_; have BK182 := n3_; have BK188 := n4_; have HB := n5_; clear n0_ n1_ n2_ n3_ n4_ n5_; (try clear hb); (try clear hb2); (try clear hk); (try clear hi); (try clear ho0); have hnb21 := NB182_188.out; have hnc21 := NB188_182.out; have hcz22_0 : w20.cell? ⟨gb182, 0, none⟩ = some (.int .i64 0) := (blk_cell BK182.out 0).trans rfl; have hcz22_1 : w20.cell? ⟨gb182, 1, none⟩ = some (.slice none 0 0) := (blk_cell BK182.out 1).trans rfl; have hfz22_0 := blk_frozen BK182.out 0; have hfz22_1 := blk_frozen BK182.out 1; obtain ⟨Ao23, co23, eo23⟩ := Kd.R_slice HO196.out; subst eo23))
     refine bodyPost_ret (results_ct rfl _ _ gb182 38 #[.int .i64 t193, .slice Ao23 t194.length co23] (0, 0) _ rfl (by (with_reducible repeat (first | refine blk_drewN ?_ _ | refine blk_drew ?_ | refine blk_alloc ?_ _)); refine blk_put (cs := #[.int .i64 t193, .slice none 0 0]) ?_ 1 _ rfl; (with_reducible repeat (first | refine blk_drewN ?_ _ | refine blk_drew ?_ | refine blk_alloc ?_ _)); refine blk_put (cs := #[.int .i64 0, .slice none 0 0]) ?_ 0 _ rfl; (with_reducible repeat (first | refine blk_drewN ?_ _ | refine blk_drew ?_ | refine blk_alloc ?_ _)); exact BK182.out) Try.underlying38 rfl (by kernel_rfl)) rfl ?_
     exact ⟨_, by first | rfl | (simp [errW_none, errW_some] <;> rfl) | (simp [*, errW_none, errW_some] <;> rfl), by (with_reducible repeat (first | apply Kd.R_alloc | apply Kd.R_drewN | apply Kd.R_drew)); exact Kd.R_mono (Kd.R_far (p := ⟨gb182, 1, none⟩) (Kd.R_far (p := ⟨gb182, 0, none⟩) (Kd.R_types HO196.out BK182.out (by decide)) (fun _ hk => hk.2) (.int .i64 t193)) (fun _ hk => hk.2) (.slice Ao23 t194.length co23)) (fun _ hk => trivial), by repeat (first | (with_reducible first | exact HB.out | apply below_alloc | apply pw_below_drewN | apply below_drew1 | refine below_set ?_ GE182.out | refine below_set ?_ GE188.out) | exact HB.out)⟩
 ·rw [if_neg c3] at H
  have c3b0 : (t187 == 0) = false := beq_eq_false_iff_ne.mpr c3
  have c3b1 : (t187 != 0) = true := bne_iff_ne.mpr c3
  simp only [Option.some.injEq, Prod.mk.injEq] at H
  obtain ⟨rfl, rfl, rfl⟩ := H
  go_enter Try.func35, Try.ntmps35
  go_wp2_with (first | ((with_reducible refine gate_dst (N := 2) rfl ?_); refine box_event ?hg (N := 2) ?hd (cs := #[.int .i64 0, .slice none 0 0]) (t := 38) ?hr ?_; (case hd => rfl); (case hg => rfl); (case hr => first | (go_simp; done) | (go_simp; rfl)); intro gb182 hg w24 hbox hb; have n0_ := bsA HB hb; have n1_ := Aside0.mk (hbox); have n2_ := szA HB hg; have n3_ := szA HB hg; clear HB; have HB := n0_; have BK182 := n1_; have GW182 := n2_; have GE182 := n3_; clear n0_ n1_ n2_ n3_; clear hb hbox hg) | ((with_reducible refine gate_callee (f := 33) rfl ?_); refine goesL_ (some 10) rfl rfl Try.func33 (by kernel_rfl) rfl #[.int .i64 a0, .slice none 0 0] rfl (by (try simp only [List.map_toArray, List.map_cons, List.map_nil]); first | done | rfl | (simp only [List.length_drop, List.length_take]; rfl)) ?_; (refine (dragnetref09_Of.calls k a0 _ _ ([] : List Int) t183 t184 t187 _ ?side1 ?side2 A2.out).mono ?_); (case side1 => exact Kd.C_nil _ _); (case side2 => exact Nat.le_refl _); rintro e w25 ⟨v185, rfl, ho0, hb⟩; refine ⟨_, rfl, ?_⟩; have n0_ := Aside0.mk (Kd.R_lower ho0 (below_size (by repeat (first | (with_reducible first | exact HB.out | apply below_alloc | apply pw_below_drewN | apply below_drew1 | refine below_set ?_ GE182.out) | exact HB.out)))); have n1_ := bkA BK182 hb; have n2_ := bsA HB hb; clear BK182; clear HB; have HO186 := n0_; have BK182 := n1_; have HB := n2_; clear n0_ n1_ n2_; (try clear hb); (try clear hb2); (try clear hk); (try clear hi); (try clear ho0)) | ((with_reducible refine gate_dst (N := 4) rfl ?_); refine box_event ?hg (N := 4) ?hd (cs := #[.int .i64 0, .slice none 0 0]) (t := 38) ?hr ?_; (case hd => rfl); (case hg => rfl); (case hr => first | (go_simp; done) | (go_simp; rfl)); intro gb188 hg w26 hbox hb; have n0_ := rbA HO186 hb; have n1_ := bkA BK182 hb; have n2_ := bsA HB hb; have n3_ := Aside0.mk (hbox); have n4_ := szA HB hg; have n5_ := szA HB hg; have n6_ := neA BK182 hg; have n7_ := neB BK182 hg; clear HO186; clear BK182; clear HB; have HO186 := n0_; have BK182 := n1_; have HB := n2_; have BK188 := n3_; have GW188 := n4_; have GE188 := n5_; have NB182_188 := n6_; have NB188_182 := n7_; clear n0_ n1_ n2_ n3_ n4_ n5_ n6_ n7_; clear hb hbox hg; have hnb27 := NB188_182.out; have hnc27 := NB182_188.out; have hcz28_0 : w26.cell? ⟨gb188, 0, none⟩ = some (.int .i64 0) := (blk_cell BK188.out 0).trans rfl; have hcz28_1 : w26.cell? ⟨gb188, 1, none⟩ = some (.slice none 0 0) := (blk_cell BK188.out 1).trans rfl; have hfz28_0 := blk_frozen BK188.out 0; have hfz28_1 := blk_frozen BK188.out 1; obtain ⟨Ao29, co29, eo29⟩ := Kd.R_slice HO186.out; subst eo29; have hcz30_0 : w26.cell? ⟨gb182, 0, none⟩ = some (.int .i64 0) := (blk_cell BK182.out 0).trans rfl; have hcz30_1 : w26.cell? ⟨gb182, 1, none⟩ = some (.slice none 0 0) := (blk_cell BK182.out 1).trans rfl; have hfz30_0 := blk_frozen BK182.out 0; have hfz30_1 := blk_frozen BK182.out 1))
  refine bodyPost_ret (results_ct rfl _ _ gb182 38 #[.int .i64 0, .slice none 0 0] (0, 0) _ rfl (by (with_reducible repeat (first | refine blk_drewN ?_ _ | refine blk_drew ?_ | refine blk_alloc ?_ _)); refine blk_put (cs := #[.int .i64 0, .slice none 0 0]) ?_ 1 _ rfl; (with_reducible repeat (first | refine blk_drewN ?_ _ | refine blk_drew ?_ | refine blk_alloc ?_ _)); refine blk_put (cs := #[.int .i64 0, .slice none 0 0]) ?_ 0 _ rfl; (with_reducible repeat (first | refine blk_drewN ?_ _ | refine blk_drew ?_ | refine blk_alloc ?_ _)); refine blk_far ?_ NB182_188.out _; (with_reducible repeat (first | refine blk_drewN ?_ _ | refine blk_drew ?_ | refine blk_alloc ?_ _)); refine blk_far ?_ NB182_188.out _; (with_reducible repeat (first | refine blk_drewN ?_ _ | refine blk_drew ?_ | refine blk_alloc ?_ _)); exact BK182.out) Try.underlying38 rfl (by kernel_rfl)) rfl ?_
  exact ⟨_, by first | rfl | (simp [errW_none, errW_some] <;> rfl) | (simp [*, errW_none, errW_some] <;> rfl), by first | exact Kd.R_nil _ _ _ _ _ | exact Kd.N_nil _ _ _ _ _ | exact Kd.V_nil _ _ _ _ _ | exact Kd.Q_nil _ _ _ _ _ | exact Kd.S_nil _ _ _ _ _, by repeat (first | (with_reducible first | exact HB.out | apply below_alloc | apply pw_below_drewN | apply below_drew1 | refine below_set ?_ GE182.out | refine below_set ?_ GE188.out) | exact HB.out)⟩

-- LEVEL 0
/-! ### rowset_Within: function 36 -/
mutual
def rowset_Within.l0 : Nat → Int → Int → List Int → Int → Int → Int → List Int → Option (Int × List Int × Int)
 | 0, _, _, _, _, _, _, _ => none
 | k + 1, x0, x8, x25, x26, x27, x204000, x204001 => if x27 < x26 then (if 0 ≤ x27 then (if x27 < (x25.length : Int) then (if (rd x25 x27) < 0 then (rowset_Within.j1 k x0 x8 (rd x25 x27) x25 x26 x27 true x204000 x204001) else (rowset_Within.j1 k x0 x8 (rd x25 x27) x25 x26 x27 (decide ((rd x25 x27) ≥ x8)) x204000 x204001)) else (none)) else (none)) else (some (x204000, x204001, 0))
def rowset_Within.j1 : Nat → Int → Int → Int → List Int → Int → Int → Bool → Int → List Int → Option (Int × List Int × Int)
 | 0, _, _, _, _, _, _, _, _, _ => none
 | k + 1, x0, x8, x10, x25, x26, x27, x37, x204000, x204001 => if x37 = true then (some (0, ([] : List Int), 1)) else (rowset_Within.l1 k x0 x8 x10 (wrap64 (x10 * 16)) x25 x26 x27 x204000 x204001)
def rowset_Within.l1 : Nat → Int → Int → Int → Int → List Int → Int → Int → Int → List Int → Option (Int × List Int × Int)
 | 0, _, _, _, _, _, _, _, _, _ => none
 | k + 1, x0, x8, x10, x11, x25, x26, x27, x204000, x204001 => if x11 < (mn x0 (wrap64 ((wrap64 (x10 + 1)) * 16))) then (if 0 ≤ (wrap64 (Int.tdiv x11 64)) then (if (wrap64 (Int.tdiv x11 64)) < (x204001.length : Int) then (if 0 ≤ (Int.tmod x11 64) then (rowset_Within.l1 k x0 x8 x10 (wrap64 (x11 + 1)) x25 x26 x27 x204000 (x204001.set ((wrap64 (Int.tdiv x11 64)) : Int).toNat (Go.bits .or .u64 (rd x204001 (wrap64 (Int.tdiv x11 64))) (shl .u64 1 (Int.tmod x11 64))))) else (none)) else (none)) else (none)) else (rowset_Within.l0 k x0 x8 x25 x26 (wrap64 (x27 + 1)) x204000 x204001)
end
def rowset_Within.f (k : Nat) (a0 : Int) (l1 : List Int) : Option (Int × List Int × Int) := (rowset_empty.f a0).bind fun bt198 => (if bt198.2.2 = 0 then (rowset_Within.l0 k a0 (wrap64 (Int.tdiv (wrap64 ((wrap64 (a0 + 16)) - 1)) 16)) l1 (l1.length : Int) 0 bt198.1 bt198.2.1) else (some (0, ([] : List Int), bt198.2.2)))
theorem rowset_Within.mono_l : ∀ k, (∀ y0 y1 y2 y3 y4 y5 y6, LeO (rowset_Within.l0 k y0 y1 y2 y3 y4 y5 y6) (rowset_Within.l0 (k + 1) y0 y1 y2 y3 y4 y5 y6)) ∧ (∀ y0 y1 y2 y3 y4 y5 y6 y7 y8, LeO (rowset_Within.j1 k y0 y1 y2 y3 y4 y5 y6 y7 y8) (rowset_Within.j1 (k + 1) y0 y1 y2 y3 y4 y5 y6 y7 y8)) ∧ (∀ y0 y1 y2 y3 y4 y5 y6 y7 y8, LeO (rowset_Within.l1 k y0 y1 y2 y3 y4 y5 y6 y7 y8) (rowset_Within.l1 (k + 1) y0 y1 y2 y3 y4 y5 y6 y7 y8))
 | 0 => ⟨fun _ _ _ _ _ _ _ r h => by simp [rowset_Within.l0] at h, fun _ _ _ _ _ _ _ _ _ r h => by simp [rowset_Within.j1] at h, fun _ _ _ _ _ _ _ _ _ r h => by simp [rowset_Within.l1] at h⟩
 | k + 1 => by
  obtain ⟨ih0, ih1, ih2⟩ := rowset_Within.mono_l k
  refine ⟨?_, ?_, ?_⟩
  ·intro y0 y1 y2 y3 y4 y5 y6
   unfold rowset_Within.l0
   repeat' first
   | (with_reducible exact ih0 _ _ _ _ _ _ _)
   | (with_reducible exact ih1 _ _ _ _ _ _ _ _ _)
   | (with_reducible exact ih2 _ _ _ _ _ _ _ _ _)
   | (with_reducible exact LeO.refl _)
   | (with_reducible exact LeO.none _)
   | (with_reducible refine LeO.ite ?_ ?_)
   | (with_reducible refine LeO.bind ?_ (fun _ => ?_))
   | exact ih0 _ _ _ _ _ _ _
   | exact ih1 _ _ _ _ _ _ _ _ _
   | exact ih2 _ _ _ _ _ _ _ _ _
   | exact LeO.none _
   | refine LeO.ite ?_ ?_
   | refine LeO.bind ?_ (fun _ => ?_)
  ·intro y0 y1 y2 y3 y4 y5 y6 y7 y8
   unfold rowset_Within.j1
   repeat' first
   | (with_reducible exact ih0 _ _ _ _ _ _ _)
   | (with_reducible exact ih1 _ _ _ _ _ _ _ _ _)
   | (with_reducible exact ih2 _ _ _ _ _ _ _ _ _)
   | (with_reducible exact LeO.refl _)
   | (with_reducible exact LeO.none _)
   | (with_reducible refine LeO.ite ?_ ?_)
   | (with_reducible refine LeO.bind ?_ (fun _ => ?_))
   | exact ih0 _ _ _ _ _ _ _
   | exact ih1 _ _ _ _ _ _ _ _ _
   | exact ih2 _ _ _ _ _ _ _ _ _
   | exact LeO.none _
   | refine LeO.ite ?_ ?_
   | refine LeO.bind ?_ (fun _ => ?_)
  ·intro y0 y1 y2 y3 y4 y5 y6 y7 y8
   unfold rowset_Within.l1
   repeat' first
   | (with_reducible exact ih0 _ _ _ _ _ _ _)
   | (with_reducible exact ih1 _ _ _ _ _ _ _ _ _)
   | (with_reducible exact ih2 _ _ _ _ _ _ _ _ _)
   | (with_reducible exact LeO.refl _)
   | (with_reducible exact LeO.none _)
   | (with_reducible refine LeO.ite ?_ ?_)
   | (with_reducible refine LeO.bind ?_ (fun _ => ?_))
   | exact ih0 _ _ _ _ _ _ _
   | exact ih1 _ _ _ _ _ _ _ _ _
   | exact ih2 _ _ _ _ _ _ _ _ _
   | exact LeO.none _
   | refine LeO.ite ?_ ?_
   | refine LeO.bind ?_ (fun _ => ?_)
theorem rowset_Within.mono : ∀ a0 a1 k, LeO (rowset_Within.f k a0 a1) (rowset_Within.f (k + 1) a0 a1) := by
 intro a0 a1 k
 obtain ⟨ih0, ih1, ih2⟩ := rowset_Within.mono_l k
 unfold rowset_Within.f
 repeat' first
   | (with_reducible exact ih0 _ _ _ _ _ _ _)
   | (with_reducible exact ih1 _ _ _ _ _ _ _ _ _)
   | (with_reducible exact ih2 _ _ _ _ _ _ _ _ _)
   | (with_reducible exact LeO.refl _)
   | (with_reducible exact LeO.none _)
   | (with_reducible refine LeO.ite ?_ ?_)
   | (with_reducible refine LeO.bind ?_ (fun _ => ?_))
   | exact ih0 _ _ _ _ _ _ _
   | exact ih1 _ _ _ _ _ _ _ _ _
   | exact ih2 _ _ _ _ _ _ _ _ _
   | exact LeO.none _
   | refine LeO.ite ?_ ?_
   | refine LeO.bind ?_ (fun _ => ?_)
def rowset_Within.T13 : Bool × List (List Nat × List Nat) := (true, [([], []), ([0], [0]), ([], []), ([2], [2]), ([1, 3], [1, 3]), ([4], [4]), ([], []), ([6], [6]), ([7], [7]), ([5, 8], [5, 8]), ([1, 3, 0, 1, 2, 3, 4, 5, 6, 7, 8, 9], [1, 3]), ([10, 9, 0, 1, 2, 3, 4, 5, 6, 7, 8, 9], [9, 10])])
def rowset_Within.B13 : List Nat := [0, 1, 0, 4, 15, 31, 0, 64, 192, 511, 1023, 2047]
theorem rowset_Within.tab13 : rtab .any (opsOf Try.f36 13) = rowset_Within.T13 := by kernel_rfl
theorem rowset_Within.bits13 : waitsOk rowset_Within.T13.2 rowset_Within.B13 = true := by kernel_rfl
set_option maxHeartbeats 8000000 in
set_option maxRecDepth 100000 in
theorem rowset_Within.calls (k : Nat) (a0 : Int) (A1 : Option Addr) (c1 : Nat) (l1 : List Int) (r1 : Int) (r2 : List Int) (r3 : Int) (w : World) (hr1 : Kd.C (Kd.int .i64) w A1 l1.length l1) (hc1 : l1.length ≤ c1) (h : rowset_Within.f k a0 l1 = some (r1, r2, r3)) :
  Calls Try.prog 36 #[.int .i64 a0, .slice A1 l1.length c1] w fun e w' => ∃ v1_ : Value, e = .returned (.tuple #[.agg #[.int .i64 r1, v1_], .int .i64 r3]) ∧ Kd.R (Kd.int .u64) 66 w' w.heap.size (fun _ => True) v1_ r2 ∧ Below w.heap.size w w' := by
 have hu38 := Try.underlying38
 have HR1 := Aside0.mk hr1
 have HC1 := Aside0.mk hc1
 clear hr1 hc1
 have HB := Aside0.mk (Below.refl w.heap.size w)
 have H : ((rowset_empty.f a0).bind fun bt198 => (if bt198.2.2 = 0 then (rowset_Within.l0 k a0 (wrap64 (Int.tdiv (wrap64 ((wrap64 (a0 + 16)) - 1)) 16)) l1 (l1.length : Int) 0 bt198.1 bt198.2.1) else (some (0, ([] : List Int), bt198.2.2)))) = some (r1, r2, r3) := h
 clear h
 replace H := Option.bind_eq_some_iff.mp H
 obtain ⟨⟨t198, t199, t202⟩, A30, H⟩ := H
 replace H : (if t202 = 0 then (rowset_Within.l0 k a0 (wrap64 (Int.tdiv (wrap64 ((wrap64 (a0 + 16)) - 1)) 16)) l1 (l1.length : Int) 0 t198 t199) else (some (0, ([] : List Int), t202))) = some (r1, r2, r3) := H
 have A3 := Aside0.mk A30
 clear A30
 by_cases c4 : t202 = 0
 ·rw [if_pos c4] at H
  have c4b0 : (t202 == 0) = true := beq_iff_eq.mpr c4
  have c4b1 : (t202 != 0) = false := bne_eq_false_iff_eq.mpr c4
  clear c4
  have H' := Aside0.mk H
  clear H
  go_enter Try.func36, Try.ntmps36
  go_wp2_with (first | ((with_reducible refine gate_dst (N := 4) rfl ?_); refine box_event ?hg (N := 4) ?hd (cs := #[.int .i64 0, .slice none 0 0]) (t := 38) ?hr ?_; (case hd => rfl); (case hg => rfl); (case hr => first | (go_simp; done) | (go_simp; rfl)); intro gb197 hg w5 hbox hb; have n0_ := bsA HB hb; have n1_ := Aside0.mk (hbox); have n2_ := szA HB hg; have n3_ := szA HB hg; clear HB; have HB := n0_; have BK197 := n1_; have GW197 := n2_; have GE197 := n3_; clear n0_ n1_ n2_ n3_; clear hb hbox hg) | ((with_reducible refine gate_callee (f := 55) rfl ?_); refine goesL_ (some 14) rfl rfl Try.func55 (by kernel_rfl) rfl #[.int .i64 a0] rfl (by (try simp only [List.map_toArray, List.map_cons, List.map_nil]); first | done | rfl | (simp only [List.length_drop, List.length_take]; rfl)) ?_; (with_reducible refine (rowset_empty.calls a0 t198 t199 t202 _ A3.out).mono ?_); rintro e w6 ⟨v200, rfl, ho0, hb⟩; refine ⟨_, rfl, ?_⟩; have n0_ := Aside0.mk (Kd.R_lower ho0 (below_size (by repeat (first | (with_reducible first | exact HB.out | apply below_alloc | apply pw_below_drewN | apply below_drew1 | refine below_set ?_ GE197.out) | exact HB.out)))); have n1_ := bkA BK197 hb; have n2_ := bsA HB hb; clear BK197; clear HB; have HO201 := n0_; have BK197 := n1_; have HB := n2_; clear n0_ n1_ n2_; (try clear hb); (try clear hb2); (try clear hk); (try clear hi); (try clear ho0)) | ((with_reducible refine gate_dst (N := 6) rfl ?_); refine box_event ?hg (N := 6) ?hd (cs := #[.int .i64 0, .slice none 0 0]) (t := 38) ?hr ?_; (case hd => rfl); (case hg => rfl); (case hr => first | (go_simp; done) | (go_simp; rfl)); intro gb203 hg w7 hbox hb; have n0_ := rbA HO201 hb; have n1_ := bkA BK197 hb; have n2_ := bsA HB hb; have n3_ := Aside0.mk (hbox); have n4_ := szA HB hg; have n5_ := szA HB hg; have n6_ := neA BK197 hg; have n7_ := neB BK197 hg; clear HO201; clear BK197; clear HB; have HO201 := n0_; have BK197 := n1_; have HB := n2_; have BK203 := n3_; have GW203 := n4_; have GE203 := n5_; have NB197_203 := n6_; have NB203_197 := n7_; clear n0_ n1_ n2_ n3_ n4_ n5_ n6_ n7_; clear hb hbox hg; have hnb8 := NB203_197.out; have hnc8 := NB197_203.out; have hcz9_0 : w7.cell? ⟨gb203, 0, none⟩ = some (.int .i64 0) := (blk_cell BK203.out 0).trans rfl; have hcz9_1 : w7.cell? ⟨gb203, 1, none⟩ = some (.slice none 0 0) := (blk_cell BK203.out 1).trans rfl; have hfz9_0 := blk_frozen BK203.out 0; have hfz9_1 := blk_frozen BK203.out 1; obtain ⟨Ao10, co10, eo10⟩ := Kd.R_slice HO201.out; subst eo10))
  go_loopg [27] k (fun kq v27 w' => ∃ (x27_1 : Int) (x198000_1 : Int) (x204001_1 : List Int) (u204001 : Value), v27 = .int .i64 x27_1 ∧ Aside0 (rowset_Within.l0 kq a0 (wrap64 (Int.tdiv (wrap64 ((wrap64 (a0 + 16)) - 1)) 16)) l1 (l1.length : Int) x27_1 t198 x204001_1 = some (r1, r2, r3)) ∧ Aside0 (kq ≤ k) ∧ Aside0 (Kd.R (Kd.int .u64) 66 w' w.heap.size (fun _ => True) u204001 x204001_1) ∧ Aside0 (w'.heap[gb197]? = some (.cells #[.int .i64 x198000_1, (.slice none 0 0)] 38 (0, 0))) ∧ Aside0 (w'.heap[gb203]? = some (.cells #[.int .i64 t198, u204001] 38 (0, 0))) ∧ Aside0 (Below w.heap.size w w'))
  case atStart => exact ⟨(0), (0), (t199), (.slice Ao10 t199.length co10), (by first | rfl | (simp; done) | (simp [*]; done)), H', ⟨Nat.le_refl _⟩, ⟨by (with_reducible repeat (first | apply Kd.R_alloc | apply Kd.R_drewN | apply Kd.R_drew)); exact Kd.R_mono (Kd.R_far (p := ⟨gb203, 1, none⟩) (Kd.R_far (p := ⟨gb203, 0, none⟩) (Kd.R_types HO201.out BK203.out (by decide)) (fun _ hk => hk.2) (.int .i64 t198)) (fun _ hk => hk.2) (.slice Ao10 t199.length co10)) (fun _ hk => trivial)⟩, ⟨by (with_reducible repeat (first | refine blk_drewN ?_ _ | refine blk_drew ?_ | refine blk_alloc ?_ _)); refine blk_far ?_ NB197_203.out _; (with_reducible repeat (first | refine blk_drewN ?_ _ | refine blk_drew ?_ | refine blk_alloc ?_ _)); refine blk_far ?_ NB197_203.out _; (with_reducible repeat (first | refine blk_drewN ?_ _ | refine blk_drew ?_ | refine blk_alloc ?_ _)); exact BK197.out⟩, ⟨by (with_reducible repeat (first | refine blk_drewN ?_ _ | refine blk_drew ?_ | refine blk_alloc ?_ _)); refine blk_put (cs := #[.int .i64 t198, .slice none 0 0]) ?_ 1 _ rfl; (with_reducible repeat (first | refine blk_drewN ?_ _ | refine blk_drew ?_ | refine blk_alloc ?_ _)); refine blk_put (cs := #[.int .i64 0, .slice none 0 0]) ?_ 0 _ rfl; (with_reducible repeat (first | refine blk_drewN ?_ _ | refine blk_drew ?_ | refine blk_alloc ?_ _)); exact BK203.out⟩, ⟨by repeat (first | (with_reducible first | exact HB.out | apply below_alloc | apply pw_below_drewN | apply below_drew1 | refine below_set ?_ GE197.out | refine below_set ?_ GE203.out) | exact HB.out)⟩⟩
  case round =>
   clear H'
   try clear c1
   try clear p2
   try clear c3
   try clear c4
   try clear c4b0
   try clear c4b1
   try clear c5
   try clear p6
   try clear c8
   try clear hcz9_0
   try clear hcz9_1
   try clear hfz9_0
   try clear hfz9_1
   obtain ⟨x27_1, x198000_1, x204001_1, u204001, rfl, HA, HK1, HO_204001, BK197, BK203, HB⟩ := hrel
   cases gk with
   | zero => exact absurd HA.out (by simp [rowset_Within.l0])
   | succ k1 =>
    have H := HA.out
    clear HA
    simp only [rowset_Within.l0] at H
    by_cases c11 : x27_1 < (l1.length : Int)
    ·rw [if_pos c11] at H
     have c11b0 : decide (x27_1 < (l1.length : Int)) = true := decide_eq_true c11
     clear c11
     by_cases c12 : 0 ≤ x27_1
     ·rw [if_pos c12] at H
      have c12b0 : decide (0 ≤ x27_1) = true := decide_eq_true c12
      clear c12
      by_cases c13 : x27_1 < (l1.length : Int)
      ·rw [if_pos c13] at H
       have c13b0 : decide (x27_1 < (l1.length : Int)) = true := decide_eq_true c13
       clear c13
       have HC14 := Aside0.mk H
       clear H
       have p204 : 0 ≤ (x27_1 : Int) := of_decide_eq_true (by first | (with_reducible assumption) | assumption)
       have q204 : x27_1 < (l1.length : Int) := of_decide_eq_true (by first | (with_reducible assumption) | assumption)
       obtain ⟨ad204, e204, hx204_0⟩ := Kd.at_int HR1.out x27_1 p204 q204
       cases e204
       replace hx204_0 := (HB.out.cell (World.block_lt_of_cell? w _ hx204_0)).trans hx204_0
       replace p204 := eq_true p204
       replace q204 := eq_true q204
       go_upto_region 8 with (fail)
       go_cut [37] (fun v37 wc => ∃ (kq : Nat) (x37_13 : Bool), v37 = .bool x37_13 ∧ Aside0 (rowset_Within.j1 kq a0 (wrap64 (Int.tdiv (wrap64 ((wrap64 (a0 + 16)) - 1)) 16)) (rd l1 x27_1) l1 (l1.length : Int) x27_1 x37_13 t198 x204001_1 = some (r1, r2, r3)) ∧ Aside0 (kq ≤ k1) ∧ Aside0 (Kd.R (Kd.int .u64) 66 wc w.heap.size (fun _ => True) u204001 x204001_1) ∧ Aside0 (wc.heap[gb197]? = some (.cells #[.int .i64 x198000_1, (.slice none 0 0)] 38 (0, 0))) ∧ Aside0 (wc.heap[gb203]? = some (.cells #[.int .i64 t198, u204001] 38 (0, 0))) ∧ Aside0 (Below w.heap.size w wc))
       case first =>
        have H := HC14.out
        clear HC14
        by_cases c15 : (rd l1 x27_1) < 0
        ·rw [if_pos c15] at H
         have c15b0 : decide ((rd l1 x27_1) < 0) = true := decide_eq_true c15
         clear c15
         (first | rw [c15b0] | (simp only [i64_w, i32_w]; rw [c15b0]) | skip)
         have H' := Aside0.mk H
         clear H
         go_wp2
         go_meet
         case rel => exact ⟨_, (true), (by first | rfl | (simp; done) | (simp [*]; done)), H', ⟨by have := HK1.out; first | omega | exact Nat.le_refl _⟩, ⟨by (with_reducible repeat (first | apply Kd.R_alloc | apply Kd.R_drewN | apply Kd.R_drew)); exact HO_204001.out⟩, ⟨by (with_reducible repeat (first | refine blk_drewN ?_ _ | refine blk_drew ?_ | refine blk_alloc ?_ _)); exact BK197.out⟩, ⟨by (with_reducible repeat (first | refine blk_drewN ?_ _ | refine blk_drew ?_ | refine blk_alloc ?_ _)); exact BK203.out⟩, ⟨by repeat (first | (with_reducible first | exact HB.out | apply below_alloc | apply pw_below_drewN | apply below_drew1 | refine below_set ?_ GE197.out | refine below_set ?_ GE203.out) | exact HB.out)⟩⟩
        ·rw [if_neg c15] at H
         have c15b0 : decide ((rd l1 x27_1) < 0) = false := decide_eq_false c15
         clear c15
         (first | rw [c15b0] | (simp only [i64_w, i32_w]; rw [c15b0]) | skip)
         have H' := Aside0.mk H
         clear H
         go_wp2
         go_meet
         case rel => exact ⟨_, (decide ((rd l1 x27_1) ≥ (wrap64 (Int.tdiv (wrap64 ((wrap64 (a0 + 16)) - 1)) 16)))), (by first | rfl | (simp; done) | (simp [*]; done)), H', ⟨by have := HK1.out; first | omega | exact Nat.le_refl _⟩, ⟨by (with_reducible repeat (first | apply Kd.R_alloc | apply Kd.R_drewN | apply Kd.R_drew)); exact HO_204001.out⟩, ⟨by (with_reducible repeat (first | refine blk_drewN ?_ _ | refine blk_drew ?_ | refine blk_alloc ?_ _)); exact BK197.out⟩, ⟨by (with_reducible repeat (first | refine blk_drewN ?_ _ | refine blk_drew ?_ | refine blk_alloc ?_ _)); exact BK203.out⟩, ⟨by repeat (first | (with_reducible first | exact HB.out | apply below_alloc | apply pw_below_drewN | apply below_drew1 | refine below_set ?_ GE197.out | refine below_set ?_ GE203.out) | exact HB.out)⟩⟩
       case rest =>
        clear HC14
        try clear c1
        try clear p2
        try clear q2
        try clear hx2
        try clear c3
        try clear c4
        try clear c4b0
        try clear c4b1
        try clear c5
        try clear p6
        try clear c8
        try clear c11
        try clear c11b0
        try clear c12
        try clear c12b0
        try clear c13
        try clear c13b0
        try clear c15
        try clear c15b0
        try clear hcz9_0
        try clear hcz9_1
        try clear hfz9_0
        try clear hfz9_1
        try clear hx204_0
        try clear p2
        try clear p204
        try clear p6
        try clear q204
        obtain ⟨kq, x37_13, rfl, HA, HJ13, HO_204001, BK197, BK203, HB⟩ := hcut
        cases kq with
        | zero => exact absurd HA.out (by simp [rowset_Within.j1])
        | succ kj13 =>
         have H := HA.out
         clear HA
         simp only [rowset_Within.j1] at H
         by_cases c16 : x37_13 = true
         ·subst c16
          have H1 : (some (0, ([] : List Int), 1)) = some (r1, r2, r3) := by rw [if_pos rfl] at H; exact H
          clear H
          have H := H1
          clear H1
          simp only [Option.some.injEq, Prod.mk.injEq] at H
          obtain ⟨rfl, rfl, rfl⟩ := H
          have hnb17 := NB197_203.out
          have hnc17 := NB203_197.out
          have hcz18_0 : wc.cell? ⟨gb197, 0, none⟩ = some (.int .i64 x198000_1) := (blk_cell BK197.out 0).trans rfl
          have hcz18_1 : wc.cell? ⟨gb197, 1, none⟩ = some (.slice none 0 0) := (blk_cell BK197.out 1).trans rfl
          have hfz18_0 := blk_frozen BK197.out 0
          have hfz18_1 := blk_frozen BK197.out 1
          go_wp2
          refine bodyPost_ret (results_ct rfl _ _ gb197 38 #[.int .i64 0, .slice none 0 0] (0, 0) _ rfl (by (with_reducible repeat (first | refine blk_drewN ?_ _ | refine blk_drew ?_ | refine blk_alloc ?_ _)); refine blk_put (cs := #[.int .i64 0, .slice none 0 0]) ?_ 1 _ rfl; (with_reducible repeat (first | refine blk_drewN ?_ _ | refine blk_drew ?_ | refine blk_alloc ?_ _)); refine blk_put (cs := #[.int .i64 x198000_1, .slice none 0 0]) ?_ 0 _ rfl; (with_reducible repeat (first | refine blk_drewN ?_ _ | refine blk_drew ?_ | refine blk_alloc ?_ _)); exact BK197.out) Try.underlying38 rfl (by kernel_rfl)) rfl ?_
          exact ⟨_, by first | rfl | (simp [errW_none, errW_some] <;> rfl) | (simp [*, errW_none, errW_some] <;> rfl), by first | exact Kd.R_nil _ _ _ _ _ | exact Kd.N_nil _ _ _ _ _ | exact Kd.V_nil _ _ _ _ _ | exact Kd.Q_nil _ _ _ _ _ | exact Kd.S_nil _ _ _ _ _, by repeat (first | (with_reducible first | exact HB.out | apply below_alloc | apply pw_below_drewN | apply below_drew1 | refine below_set ?_ GE197.out | refine below_set ?_ GE203.out) | exact HB.out)⟩
         ·replace c16 := Bool.eq_false_iff.mpr c16
          subst c16
          have H1 : (rowset_Within.l1 kj13 a0 (wrap64 (Int.tdiv (wrap64 ((wrap64 (a0 + 16)) - 1)) 16)) (rd l1 x27_1) (wrap64 ((rd l1 x27_1) * 16)) l1 (l1.length : Int) x27_1 t198 x204001_1) = some (r1, r2, r3) := by rw [if_neg (show ¬ (false = true) by decide)] at H; exact H
          clear H
          have H := H1
          clear H1
          have H' := Aside0.mk H
          clear H
          go_wp2
          go_loopg [11] kj13 (fun kq v11 w' => ∃ (x11_3 : Int) (x204001_3 : List Int) (u204001 : Value), v11 = .int .i64 x11_3 ∧ Aside0 (rowset_Within.l1 kq a0 (wrap64 (Int.tdiv (wrap64 ((wrap64 (a0 + 16)) - 1)) 16)) (rd l1 x27_1) x11_3 l1 (l1.length : Int) x27_1 t198 x204001_3 = some (r1, r2, r3)) ∧ Aside0 (kq ≤ kj13) ∧ Aside0 (Kd.R (Kd.int .u64) 66 w' w.heap.size (fun _ => True) u204001 x204001_3) ∧ Aside0 (w'.heap[gb197]? = some (.cells #[.int .i64 x198000_1, (.slice none 0 0)] 38 (0, 0))) ∧ Aside0 (w'.heap[gb203]? = some (.cells #[.int .i64 t198, u204001] 38 (0, 0))) ∧ Aside0 (Below w.heap.size w w'))
          case atStart => exact ⟨(wrap64 ((rd l1 x27_1) * 16)), (x204001_1), (u204001), (by first | rfl | (simp; done) | (simp [*]; done)), H', ⟨Nat.le_refl _⟩, ⟨by (with_reducible repeat (first | apply Kd.R_alloc | apply Kd.R_drewN | apply Kd.R_drew)); exact HO_204001.out⟩, ⟨by (with_reducible repeat (first | refine blk_drewN ?_ _ | refine blk_drew ?_ | refine blk_alloc ?_ _)); exact BK197.out⟩, ⟨by (with_reducible repeat (first | refine blk_drewN ?_ _ | refine blk_drew ?_ | refine blk_alloc ?_ _)); exact BK203.out⟩, ⟨by repeat (first | (with_reducible first | exact HB.out | apply below_alloc | apply pw_below_drewN | apply below_drew1 | refine below_set ?_ GE197.out | refine below_set ?_ GE203.out) | exact HB.out)⟩⟩
          case round =>
           clear H'
           try clear c1
           try clear p2
           try clear q2
           try clear hx2
           try clear c3
           try clear c4
           try clear c4b0
           try clear c4b1
           try clear c5
           try clear p6
           try clear c8
           try clear c11
           try clear c11b0
           try clear c12
           try clear c12b0
           try clear c13
           try clear c13b0
           try clear c15
           try clear c15b0
           try clear c16
           try clear c17
           try clear hcz18_0
           try clear hcz18_1
           try clear hcz9_0
           try clear hcz9_1
           try clear hfz18_0
           try clear hfz18_1
           try clear hfz9_0
           try clear hfz9_1
           try clear hx204_0
           try clear p2
           try clear p204
           try clear p6
           try clear q2
           try clear q204
           obtain ⟨x11_3, x204001_3, u204001, rfl, HA, HK3, HO_204001, BK197, BK203, HB⟩ := hrel
           cases gk with
           | zero => exact absurd HA.out (by simp [rowset_Within.l1])
           | succ k3 =>
            have H := HA.out
            clear HA
            simp only [rowset_Within.l1] at H
            obtain ⟨ji19, hji19⟩ : ∃ j_ : Int, (mn a0 (wrap64 ((wrap64 ((rd l1 x27_1) + 1)) * 16))) = j_ := ⟨_, rfl⟩
            replace H : (if x11_3 < (ji19) then (if 0 ≤ (wrap64 (Int.tdiv x11_3 64)) then (if (wrap64 (Int.tdiv x11_3 64)) < (x204001_3.length : Int) then (if 0 ≤ (Int.tmod x11_3 64) then (rowset_Within.l1 k3 a0 (wrap64 (Int.tdiv (wrap64 ((wrap64 (a0 + 16)) - 1)) 16)) (rd l1 x27_1) (wrap64 (x11_3 + 1)) l1 (l1.length : Int) x27_1 t198 (x204001_3.set ((wrap64 (Int.tdiv x11_3 64)) : Int).toNat (Go.bits .or .u64 (rd x204001_3 (wrap64 (Int.tdiv x11_3 64))) (shl .u64 1 (Int.tmod x11_3 64))))) else (none)) else (none)) else (none)) else (rowset_Within.l0 k3 a0 (wrap64 (Int.tdiv (wrap64 ((wrap64 (a0 + 16)) - 1)) 16)) l1 (l1.length : Int) (wrap64 (x27_1 + 1)) t198 x204001_3)) = some (r1, r2, r3) := by first | (rw [hji19] at H; exact H) | (simp only [hji19] at H ⊢; exact H)
            have hji19_ : (if (wrap64 ((wrap64 ((rd l1 x27_1) + 1)) * 16)) < a0 then (wrap64 ((wrap64 ((rd l1 x27_1) + 1)) * 16)) else a0) = ji19 := hji19
            by_cases c20 : x11_3 < (ji19)
            ·rw [if_pos c20] at H
             have c20b0 : decide (x11_3 < (ji19)) = true := decide_eq_true c20
             clear c20
             obtain ⟨ji21, hji21⟩ : ∃ j_ : Int, (wrap64 (Int.tdiv x11_3 64)) = j_ := ⟨_, rfl⟩
             replace H : (if 0 ≤ (ji21) then (if (ji21) < (x204001_3.length : Int) then (if 0 ≤ (Int.tmod x11_3 64) then (rowset_Within.l1 k3 a0 (wrap64 (Int.tdiv (wrap64 ((wrap64 (a0 + 16)) - 1)) 16)) (rd l1 x27_1) (wrap64 (x11_3 + 1)) l1 (l1.length : Int) x27_1 t198 (x204001_3.set ((ji21) : Int).toNat (Go.bits .or .u64 (rd x204001_3 (ji21)) (shl .u64 1 (Int.tmod x11_3 64))))) else (none)) else (none)) else (none)) = some (r1, r2, r3) := by first | (rw [hji21] at H; exact H) | (simp only [hji21] at H ⊢; exact H)
             have hji21w : (IntKind.i64.wrap (Int.tdiv x11_3 64)) = ji21 := (i64_w _).trans hji21
             by_cases c22 : 0 ≤ (ji21)
             ·rw [if_pos c22] at H
              have c22b0 : decide (0 ≤ (ji21)) = true := decide_eq_true c22
              clear c22
              by_cases c23 : (ji21) < (x204001_3.length : Int)
              ·rw [if_pos c23] at H
               have c23b0 : decide ((ji21) < (x204001_3.length : Int)) = true := decide_eq_true c23
               clear c23
               obtain ⟨ji24, hji24⟩ : ∃ j_ : Int, (Int.tmod x11_3 64) = j_ := ⟨_, rfl⟩
               have hji24le : ji24 ≤ 64 := by have h_ := Int.tmod_lt_of_pos (x11_3) (show (0 : Int) < 64 by decide); rw [hji24] at h_; omega
               replace H : (if 0 ≤ (ji24) then (rowset_Within.l1 k3 a0 (wrap64 (Int.tdiv (wrap64 ((wrap64 (a0 + 16)) - 1)) 16)) (rd l1 x27_1) (wrap64 (x11_3 + 1)) l1 (l1.length : Int) x27_1 t198 (x204001_3.set ((ji21) : Int).toNat (Go.bits .or .u64 (rd x204001_3 (ji21)) (shl .u64 1 (ji24))))) else (none)) = some (r1, r2, r3) := by first | (rw [hji24] at H; exact H) | (simp only [hji24] at H ⊢; exact H)
               by_cases c25 : 0 ≤ (ji24)
               ·rw [if_pos c25] at H
                have c25b0 := eq_true c25
                have c25b1 : decide (0 ≤ (ji24)) = true := decide_eq_true c25
                clear c25
                obtain ⟨ji26, hji26⟩ : ∃ j_ : Int, (shl .u64 1 (ji24)) = j_ := ⟨_, rfl⟩
                replace H : (rowset_Within.l1 k3 a0 (wrap64 (Int.tdiv (wrap64 ((wrap64 (a0 + 16)) - 1)) 16)) (rd l1 x27_1) (wrap64 (x11_3 + 1)) l1 (l1.length : Int) x27_1 t198 (x204001_3.set ((ji21) : Int).toNat (Go.bits .or .u64 (rd x204001_3 (ji21)) (ji26)))) = some (r1, r2, r3) := by first | (rw [hji26] at H; exact H) | (simp only [hji26] at H ⊢; exact H)
                have hji26_ : (IntKind.u64.wrap (1 * 2 ^ min (ji24).toNat 64)) = ji26 := hji26
                have hji26z : (ji24) ≤ 64 → (IntKind.u64.wrap (1 * 2 ^ (ji24).toNat)) = ji26 := shl_small hji26
                have hji26u : (IntKind.u64.wrap (2 ^ min (ji24).toNat 64)) = ji26 := by have h_ := hji26_; rw [Int.one_mul] at h_; exact h_
                have hji26v : (ji24) ≤ 64 → (IntKind.u64.wrap (2 ^ (ji24).toNat)) = ji26 := fun hle_ => by have h_ := hji26z hle_; rw [Int.one_mul] at h_; exact h_
                obtain ⟨y206, hy206⟩ : ∃ y_ : List Int, y_ = (x204001_3.set ((ji21) : Int).toNat (Go.bits .or .u64 (rd x204001_3 (ji21)) (ji26))) := ⟨_, rfl⟩
                replace H : (rowset_Within.l1 k3 a0 (wrap64 (Int.tdiv (wrap64 ((wrap64 (a0 + 16)) - 1)) 16)) (rd l1 x27_1) (wrap64 (x11_3 + 1)) l1 (l1.length : Int) x27_1 t198 y206) = some (r1, r2, r3) := by first | (rw [hy206]; with_reducible exact H) | (have H2_ := (Option.bind_some _ _).symm.trans H; rw [hy206]; with_reducible exact H2_) | (have H2_ := (Option.bind_some _ _).symm.trans H; with_reducible exact H2_) | with_reducible exact H | (rw [hy206]; exact H) | exact H
                have Ny206 := Aside0.mk hy206
                clear hy206
                have H' := Aside0.mk H
                clear H
                try go_wp2
                have n0_ := Aside0.mk (Kd.R_drew HO_204001.out)
                have n1_ := Aside0.mk (blk_drew BK197.out)
                have n2_ := Aside0.mk (blk_drew BK203.out)
                have n3_ := Aside0.mk (below_drew1 HB.out)
                clear HO_204001
                clear BK197
                clear BK203
                clear HB
                have HO_204001 := n0_
                have BK197 := n1_
                have BK203 := n2_
                have HB := n3_
                clear n0_ n1_ n2_ n3_
                obtain ⟨Ao29, co29, eo29⟩ := Kd.R_slice HO_204001.out
                (first | subst eo29 | (injection eo29 with f1_ f2_ f3_; have f4_ := f1_.symm; have f5_ := f3_.symm; clear f1_ f2_ f3_; subst f4_; subst f5_))
                have p205 : 0 ≤ ((ji21) : Int) := of_decide_eq_true (by first | (with_reducible assumption) | assumption)
                have q205 : (ji21) < (x204001_3.length : Int) := of_decide_eq_true (by first | (with_reducible assumption) | assumption)
                obtain ⟨ad205, e205, hx205_0⟩ := Kd.at_int (Kd.R_reads' HO_204001.out).2.2 (ji21) p205 q205
                cases e205
                replace p205 := eq_true p205
                replace q205 := eq_true q205
                have p27 : 0 ≤ ((ji21) : Int) := of_decide_eq_true (by first | (with_reducible assumption) | assumption)
                have q27 : ((ji21) : Int) < ((x204001_3.length : Int) : Int) := of_decide_eq_true (by first | (with_reducible assumption) | assumption)
                obtain ⟨go27, co27, eo27, gb27, gl27, cl27, HG27⟩ := Kd.R_form HO_204001.out (by omega)
                (first | cases eo27 | (injection eo27 with ea_ en_ ec_; (first | subst ea_ | (injection ea_ with ea_; subst ea_)); subst ec_; clear en_))
                have GB27 := Aside0.mk gb27
                have GG27 := Aside0.mk HG27
                clear gb27 gl27 HG27
                (first | simp only [add_plain] at hx205_0 | skip)
                obtain ⟨hx27_0, hf27_0⟩ := Kd.R_celln 0 HO_204001.out ((ji21) : Int) p27 q27
                replace p27 := eq_true p27
                replace q27 := eq_true q27
                have HP30 := Kd.R_putn HO_204001.out ((ji21) : Int) (Go.bits .or .u64 (rd x204001_3 (ji21)) (ji26))
                rw [← Ny206.out] at HP30
                have HQ30 := Aside0.mk HP30
                clear HP30
                refine start_ (n := 12) (S := fun w' => w'.cell? ⟨gb203, 0, none⟩ = some (.int .i64 t198) ∧ w'.cell? ⟨gb203, 1, none⟩ = some (.slice (some ⟨go27, 0, none⟩) x204001_3.length co29) ∧ w'.cell? ⟨go27, ((ji21)).toNat, none⟩ = some (.int .u64 (rd x204001_3 (ji21)))) (ds := [11]) #[false, false, false, false, false, false, false, false, false, false, false, false] (by kernel_rfl) rfl rfl ⟨(blk_cell BK203.out 0).trans rfl, (blk_cell BK203.out 1).trans rfl, hx205_0⟩ (fun hHeld => ?_); refine with_tabW rowset_Within.tab13 rowset_Within.bits13 (fun HT_ HW_ => ?_)
                generalize wr.drew = w28 at HO_204001 BK197 BK203 HB GG27 HQ30 hf27_0 hx205_0 hx27_0 hHeld ⊢
                refine pure_ (i := 0) (N := some 50) (v := ?_) (a' := ?_) #[true, false, false, false, false, false, false, false, false, false, false, false] rfl rfl (any_of HT_.out (by kernel_rfl)) (fun _ _ _ h => h) (Or.inl ⟨by rfl, ?_⟩) ?_ ?_
                rotate_left
                ·intro w'
                 go_simp
                 with_reducible rfl
                rotate_left
                ·simp only [Act.put, List.setIfInBounds_toArray, List.set_cons_zero, List.set_cons_succ, i64_w, i32_w]
                 rfl
                refine pure_ (i := 2) (N := some 52) (v := ?_) (a' := ?_) #[true, false, true, false, false, false, false, false, false, false, false, false] rfl rfl (any_of HT_.out (by kernel_rfl)) (fun _ _ _ h => h) (Or.inl ⟨by rfl, ?_⟩) ?_ ?_
                rotate_left
                ·intro w'
                 go_simp
                 with_reducible rfl
                rotate_left
                ·simp only [Act.put, List.setIfInBounds_toArray, List.set_cons_zero, List.set_cons_succ, i64_w, i32_w]
                 rfl
                refine pure_ (i := 3) (N := some 53) (v := ?_) (a' := ?_) #[true, false, true, true, false, false, false, false, false, false, false, false] rfl rfl (any_of HT_.out (by kernel_rfl)) (fun _ _ _ h => h) (Or.inl ⟨by rfl, ?_⟩) ?_ ?_
                rotate_left
                ·intro w'
                 go_simp
                 with_reducible rfl
                rotate_left
                ·simp only [Act.put, List.setIfInBounds_toArray, List.set_cons_zero, List.set_cons_succ, i64_w, i32_w]
                 rfl
                refine pure_ (i := 6) (N := some 56) (v := ?_) (a' := ?_) #[true, false, true, true, false, false, true, false, false, false, false, false] rfl rfl (any_of HT_.out (by kernel_rfl)) (fun _ _ _ h => h) (Or.inl ⟨by rfl, ?_⟩) ?_ ?_
                rotate_left
                ·intro w'
                 go_simp
                 with_reducible rfl
                rotate_left
                ·simp only [Act.put, List.setIfInBounds_toArray, List.set_cons_zero, List.set_cons_succ, i64_w, i32_w]
                 rfl
                refine pure_ (i := 7) (N := some 57) (v := ?_) (a' := ?_) #[true, false, true, true, false, false, true, true, false, false, false, false] rfl rfl (any_of HT_.out (by kernel_rfl)) (fun _ _ _ h => h) (Or.inl ⟨by rfl, ?_⟩) ?_ ?_
                rotate_left
                ·intro w'
                 go_simp
                 with_reducible rfl
                rotate_left
                ·simp only [Act.put, List.setIfInBounds_toArray, List.set_cons_zero, List.set_cons_succ, i64_w, i32_w]
                 rfl
                refine pure_ (i := 8) (N := some 58) (v := ?_) (a' := ?_) #[true, false, true, true, false, false, true, true, true, false, false, false] rfl rfl (any_of HT_.out (by kernel_rfl)) (fun _ _ _ h => h) (Or.inl ⟨by rfl, ?_⟩) ?_ ?_
                rotate_left
                ·intro w'
                 go_simp
                 with_reducible rfl
                rotate_left
                ·simp only [Act.put, List.setIfInBounds_toArray, List.set_cons_zero, List.set_cons_succ, i64_w, i32_w]
                 rfl
                refine take_ (i := 1) (N := some 51) (v := ?_) (a' := ?_) #[true, true, true, true, false, false, true, true, true, false, false, false] rfl rfl (take_ofW HT_.out HW_.out (by kernel_rfl)) (fun _ _ _ h => h) (Or.inl ⟨by rfl, ?_⟩) hHeld ?_ ?_
                rotate_left
                ·rintro w' ⟨s0, s1, s2⟩
                 go_simp
                 with_reducible rfl
                rotate_left
                ·simp only [Act.put, List.setIfInBounds_toArray, List.set_cons_zero, List.set_cons_succ, i64_w, i32_w]
                 rfl
                refine pure_ (i := 4) (N := some 54) (v := ?_) (a' := ?_) #[true, true, true, true, true, false, true, true, true, false, false, false] rfl rfl (any_of HT_.out (by kernel_rfl)) (fun _ _ _ h => h) (Or.inl ⟨by rfl, ?_⟩) ?_ ?_
                rotate_left
                ·intro w'
                 go_simp
                 with_reducible rfl
                rotate_left
                ·simp only [Act.put, List.setIfInBounds_toArray, List.set_cons_zero, List.set_cons_succ, i64_w, i32_w]
                 rfl
                refine take_ (i := 5) (N := some 55) (v := ?_) (a' := ?_) #[true, true, true, true, true, true, true, true, true, false, false, false] rfl rfl (take_ofW HT_.out HW_.out (by kernel_rfl)) (fun _ _ _ h => h) (Or.inl ⟨by rfl, ?_⟩) hHeld ?_ ?_
                rotate_left
                ·rintro w' ⟨s0, s1, s2⟩
                 go_simp
                 with_reducible rfl
                rotate_left
                ·simp only [Act.put, List.setIfInBounds_toArray, List.set_cons_zero, List.set_cons_succ, i64_w, i32_w]
                 rfl
                refine pure_ (i := 9) (N := some 59) (v := ?_) (a' := ?_) #[true, true, true, true, true, true, true, true, true, true, false, false] rfl rfl (any_of HT_.out (by kernel_rfl)) (fun _ _ _ h => h) (Or.inl ⟨by rfl, ?_⟩) ?_ ?_
                rotate_left
                ·intro w'
                 go_simp
                 with_reducible rfl
                rotate_left
                ·simp only [Act.put, List.setIfInBounds_toArray, List.set_cons_zero, List.set_cons_succ, i64_w, i32_w]
                 rfl
                refine pure_ (i := 10) (N := some 60) (v := ?_) (a' := ?_) #[true, true, true, true, true, true, true, true, true, true, true, false] rfl rfl (any_of HT_.out (by kernel_rfl)) (fun _ _ _ h => h) (Or.inl ⟨by rfl, ?_⟩) ?_ ?_
                rotate_left
                ·intro w'
                 go_simp
                 with_reducible rfl
                rotate_left
                ·simp only [Act.put, List.setIfInBounds_toArray, List.set_cons_zero, List.set_cons_succ, i64_w, i32_w]
                 rfl
                refine last_ (i := 11) (N := none) #[true, true, true, true, true, true, true, true, true, true, true, true] rfl rfl (one_of HT_.out (by kernel_rfl)) (by decide) (fun K hK => ?_)
                refine skip_ (w1 := ?_) (by rfl) rfl ?_ ?_
                rotate_left
                ·go_simp
                 rfl
                refine hK.out _ _ ?_
                clear hK K
                refine done_ (done_of HT_.out (by kernel_rfl)) ?_
                try go_wp2
                go_roundg k3
                case measure => have := HK1.out; have := HJ13.out; have := HK3.out; omega
                case rel => exact ⟨(wrap64 (x11_3 + 1)), (y206), (.slice (some ⟨go27, 0, none⟩) x204001_3.length co29), (by first | rfl | (simp; done) | (simp [*]; done)), H', ⟨by have := HK1.out; have := HJ13.out; have := HK3.out; omega⟩, ⟨by (with_reducible repeat (first | apply Kd.R_alloc | apply Kd.R_drewN | apply Kd.R_drew)); exact HQ30.out⟩, ⟨by (with_reducible repeat (first | refine blk_drewN ?_ _ | refine blk_drew ?_ | refine blk_alloc ?_ _)); refine blk_far ?_ (by have h_ := Kd.R_ne HO_204001.out BK197.out (by decide); intro e_; exact h_ (by rw [e_]; rfl)) _; (with_reducible repeat (first | refine blk_drewN ?_ _ | refine blk_drew ?_ | refine blk_alloc ?_ _)); exact BK197.out⟩, ⟨by (with_reducible repeat (first | refine blk_drewN ?_ _ | refine blk_drew ?_ | refine blk_alloc ?_ _)); refine blk_far ?_ (by have h_ := Kd.R_ne HO_204001.out BK203.out (by decide); intro e_; exact h_ (by rw [e_]; rfl)) _; (with_reducible repeat (first | refine blk_drewN ?_ _ | refine blk_drew ?_ | refine blk_alloc ?_ _)); exact BK203.out⟩, ⟨by repeat (first | (with_reducible first | exact HB.out | apply below_alloc | apply pw_below_drewN | apply below_drew1 | refine below_set ?_ GB27.out | refine below_set ?_ GE197.out | refine below_set ?_ GE203.out) | exact HB.out)⟩⟩
               ·rw [if_neg c25] at H
                exact absurd H (by simp)
              ·rw [if_neg c23] at H
               exact absurd H (by simp)
             ·rw [if_neg c22] at H
              exact absurd H (by simp)
            ·rw [if_neg c20] at H
             have c20b0 : decide (x11_3 < (ji19)) = false := decide_eq_false c20
             clear c20
             have H' := Aside0.mk H
             clear H
             go_wp2
             go_roundg k3
             case measure => have := HK1.out; have := HJ13.out; have := HK3.out; omega
             case rel => exact ⟨(wrap64 (x27_1 + 1)), (x198000_1), (x204001_3), (u204001), (by first | rfl | (simp; done) | (simp [*]; done)), H', ⟨by have := HK1.out; have := HJ13.out; have := HK3.out; omega⟩, ⟨by (with_reducible repeat (first | apply Kd.R_alloc | apply Kd.R_drewN | apply Kd.R_drew)); exact HO_204001.out⟩, ⟨by (with_reducible repeat (first | refine blk_drewN ?_ _ | refine blk_drew ?_ | refine blk_alloc ?_ _)); exact BK197.out⟩, ⟨by (with_reducible repeat (first | refine blk_drewN ?_ _ | refine blk_drew ?_ | refine blk_alloc ?_ _)); exact BK203.out⟩, ⟨by repeat (first | (with_reducible first | exact HB.out | apply below_alloc | apply pw_below_drewN | apply below_drew1 | refine below_set ?_ GE197.out | refine below_set ?_ GE203.out) | exact HB.out)⟩⟩
      ·rw [if_neg c13] at H
       exact absurd H (by simp)
     ·rw [if_neg c12] at H
      exact absurd H (by simp)
    ·rw [if_neg c11] at H
     have c11b0 : decide (x27_1 < (l1.length : Int)) = false := decide_eq_false c11
     clear c11
     simp only [Option.some.injEq, Prod.mk.injEq] at H
     obtain ⟨rfl, rfl, rfl⟩ := H
     have hnb31 := NB203_197.out
     have hnc31 := NB197_203.out
     have hcz32_0 : wr.cell? ⟨gb203, 0, none⟩ = some (.int .i64 t198) := (blk_cell BK203.out 0).trans rfl
     have hcz32_1 : wr.cell? ⟨gb203, 1, none⟩ = some (u204001) := (blk_cell BK203.out 1).trans rfl
     have hfz32_0 := blk_frozen BK203.out 0
     have hfz32_1 := blk_frozen BK203.out 1
     have hcz33_0 : wr.cell? ⟨gb197, 0, none⟩ = some (.int .i64 x198000_1) := (blk_cell BK197.out 0).trans rfl
     have hcz33_1 : wr.cell? ⟨gb197, 1, none⟩ = some (.slice none 0 0) := (blk_cell BK197.out 1).trans rfl
     have hfz33_0 := blk_frozen BK197.out 0
     have hfz33_1 := blk_frozen BK197.out 1
     obtain ⟨Ao34, co34, eo34⟩ := Kd.R_slice HO_204001.out
     subst eo34
     go_wp2
     refine bodyPost_ret (results_ct rfl _ _ gb197 38 #[.int .i64 t198, .slice Ao34 x204001_1.length co34] (0, 0) _ rfl (by (with_reducible repeat (first | refine blk_drewN ?_ _ | refine blk_drew ?_ | refine blk_alloc ?_ _)); refine blk_put (cs := #[.int .i64 t198, .slice none 0 0]) ?_ 1 _ rfl; (with_reducible repeat (first | refine blk_drewN ?_ _ | refine blk_drew ?_ | refine blk_alloc ?_ _)); refine blk_put (cs := #[.int .i64 x198000_1, .slice none 0 0]) ?_ 0 _ rfl; (with_reducible repeat (first | refine blk_drewN ?_ _ | refine blk_drew ?_ | refine blk_alloc ?_ _)); exact BK197.out) Try.underlying38 rfl (by kernel_rfl)) rfl ?_
     exact ⟨_, by first | rfl | (simp [errW_none, errW_some] <;> rfl) | (simp [*, errW_none, errW_some] <;> rfl), by (with_reducible repeat (first | apply Kd.R_alloc | apply Kd.R_drewN | apply Kd.R_drew)); exact Kd.R_mono (Kd.R_far (p := ⟨gb197, 1, none⟩) (Kd.R_far (p := ⟨gb197, 0, none⟩) (Kd.R_types HO_204001.out BK197.out (by decide)) (fun _ hk => hk.2) (.int .i64 t198)) (fun _ hk => hk.2) (.slice Ao34 x204001_1.length co34)) (fun _ hk => trivial), by repeat (first | (with_reducible first | exact HB.out | apply below_alloc | apply pw_below_drewN | apply below_drew1 | refine below_set ?_ GE197.out | refine below_set ?_ GE203.out) | exact HB.out)⟩
 ·rw [if_neg c4] at H
  have c4b0 : (t202 == 0) = false := beq_eq_false_iff_ne.mpr c4
  have c4b1 : (t202 != 0) = true := bne_iff_ne.mpr c4
  simp only [Option.some.injEq, Prod.mk.injEq] at H
  obtain ⟨rfl, rfl, rfl⟩ := H
  go_enter Try.func36, Try.ntmps36
  go_wp2_with (first | ((with_reducible refine gate_dst (N := 4) rfl ?_); refine box_event ?hg (N := 4) ?hd (cs := #[.int .i64 0, .slice none 0 0]) (t := 38) ?hr ?_; (case hd => rfl); (case hg => rfl); (case hr => first | (go_simp; done) | (go_simp; rfl)); intro gb197 hg w35 hbox hb; have n0_ := bsA HB hb; have n1_ := Aside0.mk (hbox); have n2_ := szA HB hg; have n3_ := szA HB hg; clear HB; have HB := n0_; have BK197 := n1_; have GW197 := n2_; have GE197 := n3_; clear n0_ n1_ n2_ n3_; clear hb hbox hg) | ((with_reducible refine gate_callee (f := 55) rfl ?_); refine goesL_ (some 14) rfl rfl Try.func55 (by kernel_rfl) rfl #[.int .i64 a0] rfl (by (try simp only [List.map_toArray, List.map_cons, List.map_nil]); first | done | rfl | (simp only [List.length_drop, List.length_take]; rfl)) ?_; (with_reducible refine (rowset_empty.calls a0 t198 t199 t202 _ A3.out).mono ?_); rintro e w36 ⟨v200, rfl, ho0, hb⟩; refine ⟨_, rfl, ?_⟩; have n0_ := Aside0.mk (Kd.R_lower ho0 (below_size (by repeat (first | (with_reducible first | exact HB.out | apply below_alloc | apply pw_below_drewN | apply below_drew1 | refine below_set ?_ GE197.out) | exact HB.out)))); have n1_ := bkA BK197 hb; have n2_ := bsA HB hb; clear BK197; clear HB; have HO201 := n0_; have BK197 := n1_; have HB := n2_; clear n0_ n1_ n2_; (try clear hb); (try clear hb2); (try clear hk); (try clear hi); (try clear ho0)) | ((with_reducible refine gate_dst (N := 6) rfl ?_); refine box_event ?hg (N := 6) ?hd (cs := #[.int .i64 0, .slice none 0 0]) (t := 38) ?hr ?_; (case hd => rfl); (case hg => rfl); (case hr => first | (go_simp; done) | (go_simp; rfl)); intro gb203 hg w37 hbox hb; have n0_ := rbA HO201 hb; have n1_ := bkA BK197 hb; have n2_ := bsA HB hb; have n3_ := Aside0.mk (hbox); have n4_ := szA HB hg; have n5_ := szA HB hg; have n6_ := neA BK197 hg; have n7_ := neB BK197 hg; clear HO201; clear BK197; clear HB; have HO201 := n0_; have BK197 := n1_; have HB := n2_; have BK203 := n3_; have GW203 := n4_; have GE203 := n5_; have NB197_203 := n6_; have NB203_197 := n7_; clear n0_ n1_ n2_ n3_ n4_ n5_ n6_ n7_; clear hb hbox hg; have hnb38 := NB203_197.out; have hnc38 := NB197_203.out; have hcz39_0 : w37.cell? ⟨gb203, 0, none⟩ = some (.int .i64 0) := (blk_cell BK203.out 0).trans rfl; have hcz39_1 : w37.cell? ⟨gb203, 1, none⟩ = some (.slice none 0 0) := (blk_cell BK203.out 1).trans rfl; have hfz39_0 := blk_frozen BK203.out 0; have hfz39_1 := blk_frozen BK203.out 1; obtain ⟨Ao40, co40, eo40⟩ := Kd.R_slice HO201.out; subst eo40; have hcz41_0 : w37.cell? ⟨gb197, 0, none⟩ = some (.int .i64 0) := (blk_cell BK197.out 0).trans rfl; have hcz41_1 : w37.cell? ⟨gb197, 1, none⟩ = some (.slice none 0 0) := (blk_cell BK197.out 1).trans rfl; have hfz41_0 := blk_frozen BK197.out 0; have hfz41_1 := blk_frozen BK197.out 1))
  refine bodyPost_ret (results_ct rfl _ _ gb197 38 #[.int .i64 0, .slice none 0 0] (0, 0) _ rfl (by (with_reducible repeat (first | refine blk_drewN ?_ _ | refine blk_drew ?_ | refine blk_alloc ?_ _)); refine blk_put (cs := #[.int .i64 0, .slice none 0 0]) ?_ 1 _ rfl; (with_reducible repeat (first | refine blk_drewN ?_ _ | refine blk_drew ?_ | refine blk_alloc ?_ _)); refine blk_put (cs := #[.int .i64 0, .slice none 0 0]) ?_ 0 _ rfl; (with_reducible repeat (first | refine blk_drewN ?_ _ | refine blk_drew ?_ | refine blk_alloc ?_ _)); refine blk_far ?_ NB197_203.out _; (with_reducible repeat (first | refine blk_drewN ?_ _ | refine blk_drew ?_ | refine blk_alloc ?_ _)); refine blk_far ?_ NB197_203.out _; (with_reducible repeat (first | refine blk_drewN ?_ _ | refine blk_drew ?_ | refine blk_alloc ?_ _)); exact BK197.out) Try.underlying38 rfl (by kernel_rfl)) rfl ?_
  exact ⟨_, by first | rfl | (simp [errW_none, errW_some] <;> rfl) | (simp [*, errW_none, errW_some] <;> rfl), by first | exact Kd.R_nil _ _ _ _ _ | exact Kd.N_nil _ _ _ _ _ | exact Kd.V_nil _ _ _ _ _ | exact Kd.Q_nil _ _ _ _ _ | exact Kd.S_nil _ _ _ _ _, by repeat (first | (with_reducible first | exact HB.out | apply below_alloc | apply pw_below_drewN | apply below_drew1 | refine below_set ?_ GE197.out | refine below_set ?_ GE203.out) | exact HB.out)⟩

end Go.Proofs.Ytiaaicmkpjlplaa.P
