-- Written by a program of this session (wip/tools/tp.py: the kit's printer, turned to take functions that were proved by hand). Lean checks it.
import Derived.Test.YtiaaicmkpjlplaaP0
namespace Go.Proofs.Ytiaaicmkpjlplaa.P
open Go.RowKit Go.Proofs.YtiaaicmkpjlplaaW.PrintWords Go.Proofs.YtiaaicmkpjlplaaW.PrintLast Go.Proofs.YtiaaicmkpjlplaaW.PrintMore
attribute [local go_sem] max2_int min2_int max_two min_two max_three min_three max_four min_four   -- for this text's walks alone
set_option linter.unusedVariables false
set_option linter.unusedSimpArgs false

-- LEVEL 0
/-! ### dragnetref09_Bits: function 51 -/
def dragnetref09_Bits.l0 : Nat → List Bool → Int → Int → List Int → Option (List Bool)
 | 0, _, _, _, _ => none
 | k + 1, x3, x4, x222000, x222001 => if x4 < x222000 then (if 0 ≤ (wrap64 (Int.tdiv x4 64)) then (if (wrap64 (Int.tdiv x4 64)) < (x222001.length : Int) then (if 0 ≤ (Int.tmod x4 64) then (if 0 ≤ x4 then (if x4 < (x3.length : Int) then (dragnetref09_Bits.l0 k (x3.set (x4 : Int).toNat ((Int.tmod (shr .u64 (rd x222001 (wrap64 (Int.tdiv x4 64))) (Int.tmod x4 64)) 2) == 1)) (wrap64 (x4 + 1)) x222000 x222001) else (none)) else (none)) else (none)) else (none)) else (none)) else (some x3)
def dragnetref09_Bits.f (k : Nat) (a0_0 : Int) (l0_1 : List Int) : Option (List Bool) := if 0 ≤ a0_0 then (if (a0_0 : Int).toNat ≤ 281474976710656 then (dragnetref09_Bits.l0 k (List.replicate (a0_0 : Int).toNat false) 0 a0_0 l0_1) else (none)) else (none)
theorem dragnetref09_Bits.mono_l : ∀ k, (∀ y0 y1 y2 y3, LeO (dragnetref09_Bits.l0 k y0 y1 y2 y3) (dragnetref09_Bits.l0 (k + 1) y0 y1 y2 y3))
 | 0 => fun _ _ _ _ r h => by simp [dragnetref09_Bits.l0] at h
 | k + 1 => by
  have ih0 := dragnetref09_Bits.mono_l k
  ·intro y0 y1 y2 y3
   unfold dragnetref09_Bits.l0
   repeat' first
   | (with_reducible exact ih0 _ _ _ _)
   | (with_reducible exact LeO.refl _)
   | (with_reducible exact LeO.none _)
   | (with_reducible refine LeO.ite ?_ ?_)
   | (with_reducible refine LeO.bind ?_ (fun _ => ?_))
   | exact ih0 _ _ _ _
   | exact LeO.none _
   | refine LeO.ite ?_ ?_
   | refine LeO.bind ?_ (fun _ => ?_)
theorem dragnetref09_Bits.mono : ∀ a0 a1 k, LeO (dragnetref09_Bits.f k a0 a1) (dragnetref09_Bits.f (k + 1) a0 a1) := by
 intro a0 a1 k
 have ih0 := dragnetref09_Bits.mono_l k
 unfold dragnetref09_Bits.f
 repeat' first
   | (with_reducible exact ih0 _ _ _ _)
   | (with_reducible exact LeO.refl _)
   | (with_reducible exact LeO.none _)
   | (with_reducible refine LeO.ite ?_ ?_)
   | (with_reducible refine LeO.bind ?_ (fun _ => ?_))
   | exact ih0 _ _ _ _
   | exact LeO.none _
   | refine LeO.ite ?_ ?_
   | refine LeO.bind ?_ (fun _ => ?_)
set_option maxHeartbeats 8000000 in
set_option maxRecDepth 100000 in
theorem dragnetref09_Bits.calls (k : Nat) (a0_0 : Int) (A0_1 : Option Addr) (c0_1 : Nat) (l0_1 : List Int) (r : List Bool) (w : World) (hr0_1 : Kd.C (Kd.int .u64) w A0_1 l0_1.length l0_1) (hc0_1 : l0_1.length ≤ c0_1) (h : dragnetref09_Bits.f k a0_0 l0_1 = some r) :
  Calls Try.prog 51 #[.agg #[.int .i64 a0_0, .slice A0_1 l0_1.length c0_1]] w fun e w' => ∃ v0_ : Value, e = .returned (v0_) ∧ Kd.R Kd.bool 4 w' w.heap.size (fun _ => True) v0_ r ∧ Below w.heap.size w w' := by
 have hu38 := Try.underlying38
 have HR0_1 := Aside0.mk hr0_1
 have HC0_1 := Aside0.mk hc0_1
 clear hr0_1 hc0_1
 have HB := Aside0.mk (Below.refl w.heap.size w)
 have H : (if 0 ≤ a0_0 then (if (a0_0 : Int).toNat ≤ 281474976710656 then (dragnetref09_Bits.l0 k (List.replicate (a0_0 : Int).toNat false) 0 a0_0 l0_1) else (none)) else (none)) = some r := h
 clear h
 by_cases c2 : 0 ≤ a0_0
 ·rw [if_pos c2] at H
  have c2b0 := eq_true c2
  have c2b1 : decide (0 ≤ a0_0) = true := decide_eq_true c2
  clear c2
  by_cases c3 : (a0_0 : Int).toNat ≤ 281474976710656
  ·rw [if_pos c3] at H
   have c3b0 := eq_true c3
   have c3b1 : decide ((a0_0 : Int).toNat ≤ 281474976710656) = true := decide_eq_true c3
   clear c3
   obtain ⟨y222, hy222⟩ : ∃ y_ : List Bool, y_ = (List.replicate (a0_0 : Int).toNat false) := ⟨_, rfl⟩
   replace H : (dragnetref09_Bits.l0 k y222 0 a0_0 l0_1) = some r := by first | (rw [hy222]; with_reducible exact H) | (have H2_ := (Option.bind_some _ _).symm.trans H; rw [hy222]; with_reducible exact H2_) | (have H2_ := (Option.bind_some _ _).symm.trans H; with_reducible exact H2_) | with_reducible exact H | (rw [hy222]; exact H) | exact H
   have Ny222 := Aside0.mk hy222
   clear hy222
   have H' := Aside0.mk H
   clear H
   go_enter Try.func51, Try.ntmps51
   go_wp2_with (first | ((with_reducible refine gate_dst (N := 1) rfl ?_); refine box_event ?hg (N := 1) ?hd (cs := #[.int .i64 a0_0, .slice A0_1 l0_1.length c0_1]) (t := 38) ?hr ?_; (case hd => rfl); (case hg => rfl); (case hr => first | (go_simp; done) | (go_simp; rfl)); intro gb221 hg w4 hbox hb; have n0_ := bsA HB hb; have n1_ := Aside0.mk (hbox); have n2_ := szA HB hg; have n3_ := szA HB hg; clear HB; have HB := n0_; have BK221 := n1_; have GW221 := n2_; have GE221 := n3_; clear n0_ n1_ n2_ n3_; clear hb hbox hg; have hcz5_0 : w4.cell? ⟨gb221, 0, none⟩ = some (.int .i64 a0_0) := (blk_cell BK221.out 0).trans rfl; have hcz5_1 : w4.cell? ⟨gb221, 1, none⟩ = some (.slice A0_1 l0_1.length c0_1) := (blk_cell BK221.out 1).trans rfl; have hfz5_0 := blk_frozen BK221.out 0; have hfz5_1 := blk_frozen BK221.out 1) | ((with_reducible refine gate_dst (N := 7) rfl ?_); refine Kd.R_make Kd.bool _ 4 rfl (N := 7) rfl 70 _ _ rfl a0_0 rfl rfl Try.underlying70 (.bool false) 1 info4 rfl (by decide) (by omega) false (ok := fun _ => True) (okp := fun _ => True) rfl (fun _ hk => hk) trivial (of_decide_eq_true (by first | (with_reducible assumption) | assumption)) (Nat.le_trans (Nat.mul_le_mul_right _ (of_decide_eq_true (by first | (with_reducible assumption) | assumption) : a0_0.toNat ≤ 281474976710656)) (by omega)) (Below.refl _ _) (Nat.le_refl _) ?_; intro v223 w6 ho7 hb hg_ hnew_; clear hg_ hnew_; (first | rw [← Ny222.out] at ho7 | (simp only [Int.reduceToNat] at ho7; rw [← Ny222.out] at ho7)); have n0_ := Aside0.mk (Kd.R_lower ho7 (below_size (by repeat (first | (with_reducible first | exact HB.out | apply below_alloc | apply pw_below_drewN | apply below_drew1 | refine below_set ?_ GE221.out) | exact HB.out)))); have n1_ := bkA BK221 hb; have n2_ := bsA HB hb; clear BK221; clear HB; have HO224 := n0_; have BK221 := n1_; have HB := n2_; clear n0_ n1_ n2_; clear hb ho7))
   go_loopg [4] k (fun kq v4 w' => ∃ (x3_1 : List Bool) (x4_1 : Int), v4 = .int .i64 x4_1 ∧ Aside0 (dragnetref09_Bits.l0 kq x3_1 x4_1 a0_0 l0_1 = some r) ∧ Aside0 (kq ≤ k) ∧ Aside0 (Kd.R Kd.bool 4 w' w.heap.size (fun _ => True) v223 x3_1) ∧ Aside0 (w'.heap[gb221]? = some (.cells #[.int .i64 a0_0, (.slice A0_1 l0_1.length c0_1)] 38 (0, 0))) ∧ Aside0 (Below w.heap.size w w'))
   case atStart => exact ⟨(y222), (0), (by first | rfl | (simp; done) | (simp [*]; done)), H', ⟨Nat.le_refl _⟩, ⟨by (with_reducible repeat (first | apply Kd.R_alloc | apply Kd.R_drewN | apply Kd.R_drew)); exact HO224.out⟩, ⟨by (with_reducible repeat (first | refine blk_drewN ?_ _ | refine blk_drew ?_ | refine blk_alloc ?_ _)); exact BK221.out⟩, ⟨by repeat (first | (with_reducible first | exact HB.out | apply below_alloc | apply pw_below_drewN | apply below_drew1 | refine below_set ?_ GE221.out) | exact HB.out)⟩⟩
   case round =>
    clear H'
    try clear c2
    try clear c2b0
    try clear c2b1
    try clear p2
    try clear c3
    try clear c3b0
    try clear c3b1
    try clear c5
    try clear hcz5_0
    try clear hcz5_1
    try clear hfz5_0
    try clear hfz5_1
    obtain ⟨x3_1, x4_1, rfl, HA, HK1, HO_3, BK221, HB⟩ := hrel
    cases gk with
    | zero => exact absurd HA.out (by simp [dragnetref09_Bits.l0])
    | succ k1 =>
     have H := HA.out
     clear HA
     simp only [dragnetref09_Bits.l0] at H
     by_cases c8 : x4_1 < a0_0
     ·rw [if_pos c8] at H
      have c8b0 : decide (x4_1 < a0_0) = true := decide_eq_true c8
      clear c8
      obtain ⟨ji9, hji9⟩ : ∃ j_ : Int, (wrap64 (Int.tdiv x4_1 64)) = j_ := ⟨_, rfl⟩
      replace H : (if 0 ≤ (ji9) then (if (ji9) < (l0_1.length : Int) then (if 0 ≤ (Int.tmod x4_1 64) then (if 0 ≤ x4_1 then (if x4_1 < (x3_1.length : Int) then (dragnetref09_Bits.l0 k1 (x3_1.set (x4_1 : Int).toNat ((Int.tmod (shr .u64 (rd l0_1 (ji9)) (Int.tmod x4_1 64)) 2) == 1)) (wrap64 (x4_1 + 1)) a0_0 l0_1) else (none)) else (none)) else (none)) else (none)) else (none)) = some r := by first | (rw [hji9] at H; exact H) | (simp only [hji9] at H ⊢; exact H)
      have hji9w : (IntKind.i64.wrap (Int.tdiv x4_1 64)) = ji9 := (i64_w _).trans hji9
      by_cases c10 : 0 ≤ (ji9)
      ·rw [if_pos c10] at H
       have c10b0 : decide (0 ≤ (ji9)) = true := decide_eq_true c10
       clear c10
       by_cases c11 : (ji9) < (l0_1.length : Int)
       ·rw [if_pos c11] at H
        have c11b0 : decide ((ji9) < (l0_1.length : Int)) = true := decide_eq_true c11
        clear c11
        obtain ⟨ji12, hji12⟩ : ∃ j_ : Int, (Int.tmod x4_1 64) = j_ := ⟨_, rfl⟩
        have hji12le : ji12 ≤ 64 := by have h_ := Int.tmod_lt_of_pos (x4_1) (show (0 : Int) < 64 by decide); rw [hji12] at h_; omega
        replace H : (if 0 ≤ (ji12) then (if 0 ≤ x4_1 then (if x4_1 < (x3_1.length : Int) then (dragnetref09_Bits.l0 k1 (x3_1.set (x4_1 : Int).toNat ((Int.tmod (shr .u64 (rd l0_1 (ji9)) (ji12)) 2) == 1)) (wrap64 (x4_1 + 1)) a0_0 l0_1) else (none)) else (none)) else (none)) = some r := by first | (rw [hji12] at H; exact H) | (simp only [hji12] at H ⊢; exact H)
        by_cases c13 : 0 ≤ (ji12)
        ·rw [if_pos c13] at H
         have c13b0 := eq_true c13
         have c13b1 : decide (0 ≤ (ji12)) = true := decide_eq_true c13
         clear c13
         obtain ⟨ji14, hji14⟩ : ∃ j_ : Int, (shr .u64 (rd l0_1 (ji9)) (ji12)) = j_ := ⟨_, rfl⟩
         replace H : (if 0 ≤ x4_1 then (if x4_1 < (x3_1.length : Int) then (dragnetref09_Bits.l0 k1 (x3_1.set (x4_1 : Int).toNat ((Int.tmod (ji14) 2) == 1)) (wrap64 (x4_1 + 1)) a0_0 l0_1) else (none)) else (none)) = some r := by first | (rw [hji14] at H; exact H) | (simp only [hji14] at H ⊢; exact H)
         have hji14_ : ((rd l0_1 (ji9)) / 2 ^ min (ji12).toNat 64) = ji14 := hji14
         have hji14z : (ji12) ≤ 64 → ((rd l0_1 (ji9)) / 2 ^ (ji12).toNat) = ji14 := shr_small hji14
         by_cases c15 : 0 ≤ x4_1
         ·rw [if_pos c15] at H
          have c15b0 : decide (0 ≤ x4_1) = true := decide_eq_true c15
          clear c15
          by_cases c16 : x4_1 < (x3_1.length : Int)
          ·rw [if_pos c16] at H
           have c16b0 : decide (x4_1 < (x3_1.length : Int)) = true := decide_eq_true c16
           clear c16
           obtain ⟨y226, hy226⟩ : ∃ y_ : List Bool, y_ = (x3_1.set (x4_1 : Int).toNat ((Int.tmod (ji14) 2) == 1)) := ⟨_, rfl⟩
           replace H : (dragnetref09_Bits.l0 k1 y226 (wrap64 (x4_1 + 1)) a0_0 l0_1) = some r := by first | (rw [hy226]; with_reducible exact H) | (have H2_ := (Option.bind_some _ _).symm.trans H; rw [hy226]; with_reducible exact H2_) | (have H2_ := (Option.bind_some _ _).symm.trans H; with_reducible exact H2_) | with_reducible exact H | (rw [hy226]; exact H) | exact H
           have Ny226 := Aside0.mk hy226
           clear hy226
           have H' := Aside0.mk H
           clear H
           have hcz18_0 : wr.cell? ⟨gb221, 0, none⟩ = some (.int .i64 a0_0) := (blk_cell BK221.out 0).trans rfl
           have hcz18_1 : wr.cell? ⟨gb221, 1, none⟩ = some (.slice A0_1 l0_1.length c0_1) := (blk_cell BK221.out 1).trans rfl
           have hfz18_0 := blk_frozen BK221.out 0
           have hfz18_1 := blk_frozen BK221.out 1
           have p225 : 0 ≤ ((ji9) : Int) := of_decide_eq_true (by first | (with_reducible assumption) | assumption)
           have q225 : (ji9) < (l0_1.length : Int) := of_decide_eq_true (by first | (with_reducible assumption) | assumption)
           obtain ⟨ad225, e225, hx225_0⟩ := Kd.at_int HR0_1.out (ji9) p225 q225
           cases e225
           replace hx225_0 := (HB.out.cell (World.block_lt_of_cell? w _ hx225_0)).trans hx225_0
           replace p225 := eq_true p225
           replace q225 := eq_true q225
           have p17 : 0 ≤ (x4_1 : Int) := of_decide_eq_true (by first | (with_reducible assumption) | assumption)
           have q17 : (x4_1 : Int) < ((x3_1.length : Int) : Int) := of_decide_eq_true (by first | (with_reducible assumption) | assumption)
           obtain ⟨go17, co17, eo17, gb17, gl17, cl17, HG17⟩ := Kd.R_form HO_3.out (by omega)
           (first | cases eo17 | (injection eo17 with ea_ en_ ec_; (first | subst ea_ | (injection ea_ with ea_; subst ea_)); subst ec_; clear en_))
           have GB17 := Aside0.mk gb17
           have GG17 := Aside0.mk HG17
           clear gb17 gl17 HG17
           obtain ⟨hx17_0, hf17_0⟩ := Kd.R_celln false HO_3.out (x4_1 : Int) p17 q17
           replace p17 := eq_true p17
           replace q17 := eq_true q17
           have HP19 := Kd.R_putg HO_3.out (x4_1 : Int) ((Int.tmod (ji14) 2) == 1)
           go_wp2_with (first | ((with_reducible refine gate_store (t := 4) (p := 27) rfl ?_); refine store_event (t := 4) (p := 27) (v := ?vo_w20) (w1 := (wr.setCell ⟨go17, (x4_1 : Int).toNat, none⟩ (.bool ((Int.tmod (ji14) 2) == 1)))) ?hg ?ho ?hn ?hr ?_; (case ho => rfl); (case hg => rfl); (case hn => rfl); (case hr => first | (go_simp; done) | (go_simp; rfl)); intro w20 hw; have hg : wr.grownBy w20 (some go17) := (by rw [hw]; exact HP19.2); have hp_ : Kd.R Kd.bool 4 w20 w.heap.size (fun _ => True) (.slice (some ⟨go17, 0, none⟩) x3_1.length co17) y226 := (by rw [hw, Ny226.out]; exact HP19.1); clear HP19; have n0_ := Aside0.mk (hp_); have n1_ := Aside0.mk (blk_grown (g := gb221) (o := .cells #[.int .i64 a0_0, .slice (some ad225) l0_1.length c0_1] 38 (0, 0)) (by (with_reducible repeat (first | refine blk_drewN ?_ _ | refine blk_drew ?_ | refine blk_alloc ?_ _)); exact BK221.out) hg (Kd.R_ne HO_3.out BK221.out (by decide))); have n2_ := Aside0.mk ((by rw [hw]; exact below_set (HB.out) GB17.out : Below w.heap.size w w20)); clear HO_3; clear BK221; clear HB; have HO_3 := n0_; have BK221 := n1_; have HB := n2_; clear n0_ n1_ n2_; clear hg hw hp_))
           go_roundg k1
           case measure => have := HK1.out; omega
           case rel => exact ⟨(y226), (wrap64 (x4_1 + 1)), (by first | rfl | (simp; done) | (simp [*]; done)), H', ⟨by have := HK1.out; omega⟩, ⟨by (with_reducible repeat (first | apply Kd.R_alloc | apply Kd.R_drewN | apply Kd.R_drew)); exact HO_3.out⟩, ⟨by (with_reducible repeat (first | refine blk_drewN ?_ _ | refine blk_drew ?_ | refine blk_alloc ?_ _)); exact BK221.out⟩, ⟨by repeat (first | (with_reducible first | exact HB.out | apply below_alloc | apply pw_below_drewN | apply below_drew1 | refine below_set ?_ GE221.out) | exact HB.out)⟩⟩
          ·rw [if_neg c16] at H
           exact absurd H (by simp)
         ·rw [if_neg c15] at H
          exact absurd H (by simp)
        ·rw [if_neg c13] at H
         exact absurd H (by simp)
       ·rw [if_neg c11] at H
        exact absurd H (by simp)
      ·rw [if_neg c10] at H
       exact absurd H (by simp)
     ·rw [if_neg c8] at H
      have c8b0 : decide (x4_1 < a0_0) = false := decide_eq_false c8
      clear c8
      obtain rfl := Option.some.inj H
      have hcz21_0 : wr.cell? ⟨gb221, 0, none⟩ = some (.int .i64 a0_0) := (blk_cell BK221.out 0).trans rfl
      have hcz21_1 : wr.cell? ⟨gb221, 1, none⟩ = some (.slice A0_1 l0_1.length c0_1) := (blk_cell BK221.out 1).trans rfl
      have hfz21_0 := blk_frozen BK221.out 0
      have hfz21_1 := blk_frozen BK221.out 1
      go_wp2
      go_ret
      exact ⟨_, by first | rfl | (simp [errW_none, errW_some] <;> rfl) | (simp [*, errW_none, errW_some] <;> rfl), by (with_reducible repeat (first | apply Kd.R_alloc | apply Kd.R_drewN | apply Kd.R_drew)); exact HO_3.out, by repeat (first | (with_reducible first | exact HB.out | apply below_alloc | apply pw_below_drewN | apply below_drew1 | refine below_set ?_ GE221.out) | exact HB.out)⟩
  ·rw [if_neg c3] at H
   exact absurd H (by simp)
 ·rw [if_neg c2] at H
  exact absurd H (by simp)

-- LEVEL 0
/-! ### dragnetref09_Set: function 52 -/
def dragnetref09_Set.l0 : Nat → List Bool → Int → Int → List Int → Option (Int × List Int)
 | 0, _, _, _, _ => none
 | k + 1, x0, x4, x229000, x229001 => if x4 < (x0.length : Int) then (if (Int.tmod x4 64) = 0 then (if x229001.length < 17592186044416 then ((some (x229001 ++ [0] : List Int)).bind fun y229 => (if 0 ≤ x4 then (if rdOf false x0 x4 = true then (if 0 ≤ (wrap64 (Int.tdiv x4 64)) then (if (wrap64 (Int.tdiv x4 64)) < (y229.length : Int) then (if 0 ≤ (Int.tmod x4 64) then (dragnetref09_Set.l0 k x0 (wrap64 (x4 + 1)) x229000 (y229.set ((wrap64 (Int.tdiv x4 64)) : Int).toNat (IntKind.u64.wrap ((rd y229 (wrap64 (Int.tdiv x4 64))) + (shl .u64 1 (Int.tmod x4 64)))))) else (none)) else (none)) else (none)) else (dragnetref09_Set.l0 k x0 (wrap64 (x4 + 1)) x229000 y229)) else (none))) else (none)) else (if 0 ≤ x4 then (if rdOf false x0 x4 = true then (if 0 ≤ (wrap64 (Int.tdiv x4 64)) then (if (wrap64 (Int.tdiv x4 64)) < (x229001.length : Int) then (if 0 ≤ (Int.tmod x4 64) then (dragnetref09_Set.l0 k x0 (wrap64 (x4 + 1)) x229000 (x229001.set ((wrap64 (Int.tdiv x4 64)) : Int).toNat (IntKind.u64.wrap ((rd x229001 (wrap64 (Int.tdiv x4 64))) + (shl .u64 1 (Int.tmod x4 64)))))) else (none)) else (none)) else (none)) else (dragnetref09_Set.l0 k x0 (wrap64 (x4 + 1)) x229000 x229001)) else (none))) else (some (x229000, x229001))
def dragnetref09_Set.f (k : Nat) (l0 : List Bool) : Option (Int × List Int) := dragnetref09_Set.l0 k l0 0 (l0.length : Int) ([] : List Int)
theorem dragnetref09_Set.mono_l : ∀ k, (∀ y0 y1 y2 y3, LeO (dragnetref09_Set.l0 k y0 y1 y2 y3) (dragnetref09_Set.l0 (k + 1) y0 y1 y2 y3))
 | 0 => fun _ _ _ _ r h => by simp [dragnetref09_Set.l0] at h
 | k + 1 => by
  have ih0 := dragnetref09_Set.mono_l k
  ·intro y0 y1 y2 y3
   unfold dragnetref09_Set.l0
   repeat' first
   | (with_reducible exact ih0 _ _ _ _)
   | (with_reducible exact LeO.refl _)
   | (with_reducible exact LeO.none _)
   | (with_reducible refine LeO.ite ?_ ?_)
   | (with_reducible refine LeO.bind ?_ (fun _ => ?_))
   | exact ih0 _ _ _ _
   | exact LeO.none _
   | refine LeO.ite ?_ ?_
   | refine LeO.bind ?_ (fun _ => ?_)
theorem dragnetref09_Set.mono : ∀ a0 k, LeO (dragnetref09_Set.f k a0) (dragnetref09_Set.f (k + 1) a0) := by
 intro a0 k
 have ih0 := dragnetref09_Set.mono_l k
 unfold dragnetref09_Set.f
 repeat' first
   | (with_reducible exact ih0 _ _ _ _)
   | (with_reducible exact LeO.refl _)
   | (with_reducible exact LeO.none _)
   | (with_reducible refine LeO.ite ?_ ?_)
   | (with_reducible refine LeO.bind ?_ (fun _ => ?_))
   | exact ih0 _ _ _ _
   | exact LeO.none _
   | refine LeO.ite ?_ ?_
   | refine LeO.bind ?_ (fun _ => ?_)
def dragnetref09_Set.T8 : Bool × List (List Nat × List Nat) := (true, [([], []), ([0], [0]), ([], []), ([2], [2]), ([1, 3], [1, 3]), ([4], [4]), ([], []), ([6], [6]), ([7], [7]), ([5, 8], [5, 8]), ([1, 3, 0, 1, 2, 3, 4, 5, 6, 7, 8, 9], [1, 3]), ([10, 9, 0, 1, 2, 3, 4, 5, 6, 7, 8, 9], [9, 10])])
def dragnetref09_Set.B8 : List Nat := [0, 1, 0, 4, 15, 31, 0, 64, 192, 511, 1023, 2047]
theorem dragnetref09_Set.tab8 : rtab .any (opsOf Try.f52 8) = dragnetref09_Set.T8 := by kernel_rfl
theorem dragnetref09_Set.bits8 : waitsOk dragnetref09_Set.T8.2 dragnetref09_Set.B8 = true := by kernel_rfl
set_option maxHeartbeats 8000000 in
set_option maxRecDepth 100000 in
theorem dragnetref09_Set.calls (k : Nat) (A0 : Option Addr) (c0 : Nat) (l0 : List Bool) (r1 : Int) (r2 : List Int) (w : World) (hr0 : Kd.C Kd.bool w A0 l0.length l0) (hc0 : l0.length ≤ c0) (h : dragnetref09_Set.f k l0 = some (r1, r2)) :
  Calls Try.prog 52 #[.slice A0 l0.length c0] w fun e w' => ∃ v1_ : Value, e = .returned (.agg #[.int .i64 r1, v1_]) ∧ Kd.R (Kd.int .u64) 66 w' w.heap.size (fun _ => True) v1_ r2 ∧ Below w.heap.size w w' := by
 have hu38 := Try.underlying38
 have HR0 := Aside0.mk hr0
 have HC0 := Aside0.mk hc0
 clear hr0 hc0
 have HB := Aside0.mk (Below.refl w.heap.size w)
 have H : (dragnetref09_Set.l0 k l0 0 (l0.length : Int) ([] : List Int)) = some (r1, r2) := h
 clear h
 have H' := Aside0.mk H
 clear H
 go_enter Try.func52, Try.ntmps52
 go_wp2_with (first | ((with_reducible refine gate_dst (N := 2) rfl ?_); refine box_event ?hg (N := 2) ?hd (cs := #[.int .i64 0, .slice none 0 0]) (t := 38) ?hr ?_; (case hd => rfl); (case hg => rfl); (case hr => first | (go_simp; done) | (go_simp; rfl)); intro gb227 hg w2 hbox hb; have n0_ := bsA HB hb; have n1_ := Aside0.mk (hbox); have n2_ := szA HB hg; have n3_ := szA HB hg; clear HB; have HB := n0_; have BK227 := n1_; have GW227 := n2_; have GE227 := n3_; clear n0_ n1_ n2_ n3_; clear hb hbox hg) | ((with_reducible refine gate_dst (N := 3) rfl ?_); refine box_event ?hg (N := 3) ?hd (cs := #[.int .i64 0, .slice none 0 0]) (t := 38) ?hr ?_; (case hd => rfl); (case hg => rfl); (case hr => first | (go_simp; done) | (go_simp; rfl)); intro gb228 hg w3 hbox hb; have n0_ := bkA BK227 hb; have n1_ := bsA HB hb; have n2_ := Aside0.mk (hbox); have n3_ := szA HB hg; have n4_ := szA HB hg; have n5_ := neA BK227 hg; have n6_ := neB BK227 hg; clear BK227; clear HB; have BK227 := n0_; have HB := n1_; have BK228 := n2_; have GW228 := n3_; have GE228 := n4_; have NB227_228 := n5_; have NB228_227 := n6_; clear n0_ n1_ n2_ n3_ n4_ n5_ n6_; clear hb hbox hg; have hnb4 := NB228_227.out; have hnc4 := NB227_228.out; have hcz5_0 : w3.cell? ⟨gb228, 0, none⟩ = some (.int .i64 0) := (blk_cell BK228.out 0).trans rfl; have hcz5_1 : w3.cell? ⟨gb228, 1, none⟩ = some (.slice none 0 0) := (blk_cell BK228.out 1).trans rfl; have hfz5_0 := blk_frozen BK228.out 0; have hfz5_1 := blk_frozen BK228.out 1))
 go_loopg [4] k (fun kq v4 w' => ∃ (x4_1 : Int) (x229001_1 : List Int) (u229001 : Value), v4 = .int .i64 x4_1 ∧ Aside0 (dragnetref09_Set.l0 kq l0 x4_1 (l0.length : Int) x229001_1 = some (r1, r2)) ∧ Aside0 (kq ≤ k) ∧ Aside0 (Kd.R (Kd.int .u64) 66 w' w.heap.size (fun _ => True) u229001 x229001_1) ∧ Aside0 (w'.heap[gb227]? = some (.cells #[.int .i64 0, (.slice none 0 0)] 38 (0, 0))) ∧ Aside0 (w'.heap[gb228]? = some (.cells #[.int .i64 (l0.length : Int), u229001] 38 (0, 0))) ∧ Aside0 (Below w.heap.size w w'))
 case atStart => exact ⟨(0), (([] : List Int)), (.slice none 0 0), (by first | rfl | (simp; done) | (simp [*]; done)), H', ⟨Nat.le_refl _⟩, ⟨by first | exact Kd.R_nil _ _ _ _ _ | exact Kd.N_nil _ _ _ _ _ | exact Kd.V_nil _ _ _ _ _ | exact Kd.Q_nil _ _ _ _ _ | exact Kd.S_nil _ _ _ _ _⟩, ⟨by (with_reducible repeat (first | refine blk_drewN ?_ _ | refine blk_drew ?_ | refine blk_alloc ?_ _)); refine blk_far ?_ NB227_228.out _; (with_reducible repeat (first | refine blk_drewN ?_ _ | refine blk_drew ?_ | refine blk_alloc ?_ _)); refine blk_far ?_ NB227_228.out _; (with_reducible repeat (first | refine blk_drewN ?_ _ | refine blk_drew ?_ | refine blk_alloc ?_ _)); exact BK227.out⟩, ⟨by (with_reducible repeat (first | refine blk_drewN ?_ _ | refine blk_drew ?_ | refine blk_alloc ?_ _)); refine blk_put (cs := #[.int .i64 (l0.length : Int), .slice none 0 0]) ?_ 1 _ rfl; (with_reducible repeat (first | refine blk_drewN ?_ _ | refine blk_drew ?_ | refine blk_alloc ?_ _)); refine blk_put (cs := #[.int .i64 0, .slice none 0 0]) ?_ 0 _ rfl; (with_reducible repeat (first | refine blk_drewN ?_ _ | refine blk_drew ?_ | refine blk_alloc ?_ _)); exact BK228.out⟩, ⟨by repeat (first | (with_reducible first | exact HB.out | apply below_alloc | apply pw_below_drewN | apply below_drew1 | refine below_set ?_ GE227.out | refine below_set ?_ GE228.out) | exact HB.out)⟩⟩
 case round =>
  clear H'
  try clear p2
  try clear c4
  try clear c5
  try clear hcz5_0
  try clear hcz5_1
  try clear hfz5_0
  try clear hfz5_1
  obtain ⟨x4_1, x229001_1, u229001, rfl, HA, HK1, HO_229001, BK227, BK228, HB⟩ := hrel
  cases gk with
  | zero => exact absurd HA.out (by simp [dragnetref09_Set.l0])
  | succ k1 =>
   have H := HA.out
   clear HA
   simp only [dragnetref09_Set.l0] at H
   by_cases c6 : x4_1 < (l0.length : Int)
   ·rw [if_pos c6] at H
    have c6b0 : decide (x4_1 < (l0.length : Int)) = true := decide_eq_true c6
    clear c6
    by_cases c7 : (Int.tmod x4_1 64) = 0
    ·rw [if_pos c7] at H
     have c7b0 : ((Int.tmod x4_1 64) == 0) = true := beq_iff_eq.mpr c7
     have c7b1 : ((Int.tmod x4_1 64) != 0) = false := bne_eq_false_iff_eq.mpr c7
     clear c7
     by_cases c8 : x229001_1.length < 17592186044416
     ·rw [if_pos c8] at H
      have LMc8 := Aside0.mk c8
      clear c8
      obtain ⟨y229, hy229⟩ : ∃ y_ : List Int, y_ = (x229001_1 ++ [0]) := ⟨_, rfl⟩
      replace H : (if 0 ≤ x4_1 then (if rdOf false l0 x4_1 = true then (if 0 ≤ (wrap64 (Int.tdiv x4_1 64)) then (if (wrap64 (Int.tdiv x4_1 64)) < (y229.length : Int) then (if 0 ≤ (Int.tmod x4_1 64) then (dragnetref09_Set.l0 k1 l0 (wrap64 (x4_1 + 1)) (l0.length : Int) (y229.set ((wrap64 (Int.tdiv x4_1 64)) : Int).toNat (IntKind.u64.wrap ((rd y229 (wrap64 (Int.tdiv x4_1 64))) + (shl .u64 1 (Int.tmod x4_1 64)))))) else (none)) else (none)) else (none)) else (dragnetref09_Set.l0 k1 l0 (wrap64 (x4_1 + 1)) (l0.length : Int) y229)) else (none)) = some (r1, r2) := by first | (rw [hy229]; with_reducible exact H) | (have H2_ := (Option.bind_some _ _).symm.trans H; rw [hy229]; with_reducible exact H2_) | (have H2_ := (Option.bind_some _ _).symm.trans H; with_reducible exact H2_) | with_reducible exact H | (rw [hy229]; exact H) | exact H
      have Ny229 := Aside0.mk hy229
      clear hy229
      by_cases c9 : 0 ≤ x4_1
      ·rw [if_pos c9] at H
       have c9b0 : decide (0 ≤ x4_1) = true := decide_eq_true c9
       clear c9
       obtain ⟨bq10, hbq10⟩ : ∃ b_ : Bool, b_ = (rdOf false l0 x4_1) := ⟨_, rfl⟩
       replace H : (if bq10 = true then (if 0 ≤ (wrap64 (Int.tdiv x4_1 64)) then (if (wrap64 (Int.tdiv x4_1 64)) < (y229.length : Int) then (if 0 ≤ (Int.tmod x4_1 64) then (dragnetref09_Set.l0 k1 l0 (wrap64 (x4_1 + 1)) (l0.length : Int) (y229.set ((wrap64 (Int.tdiv x4_1 64)) : Int).toNat (IntKind.u64.wrap ((rd y229 (wrap64 (Int.tdiv x4_1 64))) + (shl .u64 1 (Int.tmod x4_1 64)))))) else (none)) else (none)) else (none)) else (dragnetref09_Set.l0 k1 l0 (wrap64 (x4_1 + 1)) (l0.length : Int) y229)) = some (r1, r2) := by rw [← hbq10] at H; exact H
       have Nbq10 := Aside0.mk hbq10
       clear hbq10
       by_cases c11 : bq10 = true
       ·subst c11
        have H1 : (if 0 ≤ (wrap64 (Int.tdiv x4_1 64)) then (if (wrap64 (Int.tdiv x4_1 64)) < (y229.length : Int) then (if 0 ≤ (Int.tmod x4_1 64) then (dragnetref09_Set.l0 k1 l0 (wrap64 (x4_1 + 1)) (l0.length : Int) (y229.set ((wrap64 (Int.tdiv x4_1 64)) : Int).toNat (IntKind.u64.wrap ((rd y229 (wrap64 (Int.tdiv x4_1 64))) + (shl .u64 1 (Int.tmod x4_1 64)))))) else (none)) else (none)) else (none)) = some (r1, r2) := by rw [if_pos rfl] at H; exact H
        clear H
        have H := H1
        clear H1
        obtain ⟨ji12, hji12⟩ : ∃ j_ : Int, (wrap64 (Int.tdiv x4_1 64)) = j_ := ⟨_, rfl⟩
        replace H : (if 0 ≤ (ji12) then (if (ji12) < (y229.length : Int) then (if 0 ≤ (Int.tmod x4_1 64) then (dragnetref09_Set.l0 k1 l0 (wrap64 (x4_1 + 1)) (l0.length : Int) (y229.set ((ji12) : Int).toNat (IntKind.u64.wrap ((rd y229 (ji12)) + (shl .u64 1 (Int.tmod x4_1 64)))))) else (none)) else (none)) else (none)) = some (r1, r2) := by first | (rw [hji12] at H; exact H) | (simp only [hji12] at H ⊢; exact H)
        have hji12w : (IntKind.i64.wrap (Int.tdiv x4_1 64)) = ji12 := (i64_w _).trans hji12
        by_cases c13 : 0 ≤ (ji12)
        ·rw [if_pos c13] at H
         have c13b0 : decide (0 ≤ (ji12)) = true := decide_eq_true c13
         clear c13
         by_cases c14 : (ji12) < (y229.length : Int)
         ·rw [if_pos c14] at H
          have c14b0 : decide ((ji12) < (y229.length : Int)) = true := decide_eq_true c14
          clear c14
          obtain ⟨ji15, hji15⟩ : ∃ j_ : Int, (Int.tmod x4_1 64) = j_ := ⟨_, rfl⟩
          have hji15le : ji15 ≤ 64 := by have h_ := Int.tmod_lt_of_pos (x4_1) (show (0 : Int) < 64 by decide); rw [hji15] at h_; omega
          replace H : (if 0 ≤ (ji15) then (dragnetref09_Set.l0 k1 l0 (wrap64 (x4_1 + 1)) (l0.length : Int) (y229.set ((ji12) : Int).toNat (IntKind.u64.wrap ((rd y229 (ji12)) + (shl .u64 1 (ji15)))))) else (none)) = some (r1, r2) := by first | (rw [hji15] at H; exact H) | (simp only [hji15] at H ⊢; exact H)
          (try rw [hji15] at c7b0)
          (try rw [hji15] at c7b1)
          by_cases c16 : 0 ≤ (ji15)
          ·rw [if_pos c16] at H
           have c16b0 := eq_true c16
           have c16b1 : decide (0 ≤ (ji15)) = true := decide_eq_true c16
           clear c16
           obtain ⟨ji17, hji17⟩ : ∃ j_ : Int, (shl .u64 1 (ji15)) = j_ := ⟨_, rfl⟩
           replace H : (dragnetref09_Set.l0 k1 l0 (wrap64 (x4_1 + 1)) (l0.length : Int) (y229.set ((ji12) : Int).toNat (IntKind.u64.wrap ((rd y229 (ji12)) + (ji17))))) = some (r1, r2) := by first | (rw [hji17] at H; exact H) | (simp only [hji17] at H ⊢; exact H)
           have hji17_ : (IntKind.u64.wrap (1 * 2 ^ min (ji15).toNat 64)) = ji17 := hji17
           have hji17z : (ji15) ≤ 64 → (IntKind.u64.wrap (1 * 2 ^ (ji15).toNat)) = ji17 := shl_small hji17
           have hji17u : (IntKind.u64.wrap (2 ^ min (ji15).toNat 64)) = ji17 := by have h_ := hji17_; rw [Int.one_mul] at h_; exact h_
           have hji17v : (ji15) ≤ 64 → (IntKind.u64.wrap (2 ^ (ji15).toNat)) = ji17 := fun hle_ => by have h_ := hji17z hle_; rw [Int.one_mul] at h_; exact h_
           obtain ⟨y234, hy234⟩ : ∃ y_ : List Int, y_ = (y229.set ((ji12) : Int).toNat (IntKind.u64.wrap ((rd y229 (ji12)) + (ji17)))) := ⟨_, rfl⟩
           replace H : (dragnetref09_Set.l0 k1 l0 (wrap64 (x4_1 + 1)) (l0.length : Int) y234) = some (r1, r2) := by first | (rw [hy234]; with_reducible exact H) | (have H2_ := (Option.bind_some _ _).symm.trans H; rw [hy234]; with_reducible exact H2_) | (have H2_ := (Option.bind_some _ _).symm.trans H; with_reducible exact H2_) | with_reducible exact H | (rw [hy234]; exact H) | exact H
           have Ny234 := Aside0.mk hy234
           clear hy234
           have H' := Aside0.mk H
           clear H
           have hnb19 := NB228_227.out
           have hnc19 := NB227_228.out
           have hcz20_0 : wr.cell? ⟨gb228, 0, none⟩ = some (.int .i64 (l0.length : Int)) := (blk_cell BK228.out 0).trans rfl
           have hcz20_1 : wr.cell? ⟨gb228, 1, none⟩ = some (u229001) := (blk_cell BK228.out 1).trans rfl
           have hfz20_0 := blk_frozen BK228.out 0
           have hfz20_1 := blk_frozen BK228.out 1
           try go_wp2_with (first | ((with_reducible refine gate_builtin (b := .append) (xs := #[.tmp 18, .tmp 19]) rfl ?_); at_builtin; refine Kd.R_append (Kd.int .u64) (w0 := w) w.heap.size rfl (.tmp 18) (.tmp 19) 36 66 (.int .u64 0) 8 rfl Try.underlying36 info66 rfl (by decide) (by omega) u229001 x229001_1 0 [.int .u64 0] (fun _ => True) (fun _ => False) rfl rfl ?aP (fun _ hk => hk.elim) ?aF ?aO ?aB ?aS ?aL ?_; (case aP => exact rfl); (case aB => exact (by repeat (first | (with_reducible first | exact HB.out | apply below_alloc | apply pw_below_drewN | apply below_drew1 | refine below_set ?_ GE227.out | refine below_set ?_ GE228.out) | exact HB.out))); (case aF => exact (fun _ _ => trivial)); (case aO => exact (by (with_reducible repeat (first | apply Kd.R_alloc | apply Kd.R_drewN | apply Kd.R_drew)); exact HO_229001.out)); (case aS => exact (below_size (by repeat (first | (with_reducible first | exact HB.out | apply below_alloc | apply pw_below_drewN | apply below_drew1 | refine below_set ?_ GE227.out | refine below_set ?_ GE228.out) | exact HB.out)))); (case aL => have := LMc8.out; omega); intro v230 w21 ho hb hg hat; rw [← Ny229.out] at ho; have n0_ := Aside0.mk (blk_grown (g := gb227) (o := .cells #[.int .i64 0, .slice none 0 0] 38 (0, 0)) (by (with_reducible repeat (first | refine blk_drewN ?_ _ | refine blk_drew ?_ | refine blk_alloc ?_ _)); exact BK227.out) hg (Kd.R_ne HO_229001.out BK227.out (by decide))); have n1_ := Aside0.mk (blk_grown (g := gb228) (o := .cells #[.int .i64 (l0.length : Int), u229001] 38 (0, 0)) (by (with_reducible repeat (first | refine blk_drewN ?_ _ | refine blk_drew ?_ | refine blk_alloc ?_ _)); exact BK228.out) hg (Kd.R_ne HO_229001.out BK228.out (by decide))); have n2_ := Aside0.mk (hb); have n3_ := Aside0.mk (ho); clear BK227; clear BK228; clear HB; clear HO_229001; have BK227 := n0_; have BK228 := n1_; have HB := n2_; have HO231 := n3_; clear n0_ n1_ n2_ n3_; clear ho hb hg hat; obtain ⟨Ao22, co22, eo22⟩ := Kd.R_slice HO231.out; subst eo22; have hcz23_0 : w21.cell? ⟨gb228, 0, none⟩ = some (.int .i64 (l0.length : Int)) := (blk_cell BK228.out 0).trans rfl; have hcz23_1 : w21.cell? ⟨gb228, 1, none⟩ = some (u229001) := (blk_cell BK228.out 1).trans rfl; have hfz23_0 := blk_frozen BK228.out 0; have hfz23_1 := blk_frozen BK228.out 1; have p232 : 0 ≤ (x4_1 : Int) := of_decide_eq_true (by first | (with_reducible assumption) | assumption); have q232 : x4_1 < (l0.length : Int) := of_decide_eq_true (by first | (with_reducible assumption) | assumption); obtain ⟨ad232, e232, hx232_0⟩ := Kd.at_bool HR0.out x4_1 p232 q232; (try rw [← Nbq10.out] at hx232_0); cases e232; have hn232_0 : ad232.block ≠ gb228 := Nat.ne_of_lt (Nat.lt_of_lt_of_le (by have := World.block_lt_of_cell? _ _ hx232_0; first | rwa [add_block] at this | exact this) GW228.out); replace hx232_0 := (HB.out.cell (World.block_lt_of_cell? w _ hx232_0)).trans hx232_0; replace hx232_0 := (cell_far (p := ⟨gb228, 1, none⟩) (by first | (rw [add_block]; exact hn232_0) | (show (Addr.add _ _).block ≠ _; rw [add_block]; exact hn232_0) | exact hn232_0) (.slice Ao22 y229.length co22)).trans hx232_0; clear hn232_0; replace p232 := eq_true p232; replace q232 := eq_true q232))
           have n0_ : Aside0 (Kd.R (Kd.int .u64) 66 (w21.setCell ⟨gb228, 1, none⟩ (.slice Ao22 y229.length co22)) w.heap.size (fun _ => True) (.slice Ao22 y229.length co22) y229) := ⟨by (with_reducible repeat (first | apply Kd.R_alloc | apply Kd.R_drewN | apply Kd.R_drew)); exact Kd.R_mono (Kd.R_far (p := ⟨gb228, 1, none⟩) (Kd.R_types HO231.out BK228.out (by decide)) (fun _ hk => hk.2) (.slice Ao22 y229.length co22)) (fun _ hk => trivial)⟩
           have n1_ : Aside0 ((w21.setCell ⟨gb228, 1, none⟩ (.slice Ao22 y229.length co22)).heap[gb227]? = some (.cells #[.int .i64 0, .slice none 0 0] 38 (0, 0))) := ⟨by (with_reducible repeat (first | refine blk_drewN ?_ _ | refine blk_drew ?_ | refine blk_alloc ?_ _)); refine blk_far ?_ NB227_228.out _; (with_reducible repeat (first | refine blk_drewN ?_ _ | refine blk_drew ?_ | refine blk_alloc ?_ _)); exact BK227.out⟩
           have n2_ : Aside0 ((w21.setCell ⟨gb228, 1, none⟩ (.slice Ao22 y229.length co22)).heap[gb228]? = some (.cells #[.int .i64 (l0.length : Int), .slice Ao22 y229.length co22] 38 (0, 0))) := ⟨by (with_reducible repeat (first | refine blk_drewN ?_ _ | refine blk_drew ?_ | refine blk_alloc ?_ _)); refine blk_put (cs := #[.int .i64 (l0.length : Int), u229001]) ?_ 1 _ rfl; (with_reducible repeat (first | refine blk_drewN ?_ _ | refine blk_drew ?_ | refine blk_alloc ?_ _)); exact BK228.out⟩
           have n3_ : Aside0 (Below w.heap.size w (w21.setCell ⟨gb228, 1, none⟩ (.slice Ao22 y229.length co22))) := ⟨by repeat (first | (with_reducible first | exact HB.out | apply below_alloc | apply pw_below_drewN | apply below_drew1 | refine below_set ?_ GE227.out | refine below_set ?_ GE228.out) | exact HB.out)⟩
           (try clear HO231)
           (try clear BK227)
           (try clear BK228)
           (try clear HB)
           generalize (w21.setCell ⟨gb228, 1, none⟩ (.slice Ao22 y229.length co22)) = w24 at n0_ n1_ n2_ n3_ ⊢
           have HO231 := n0_
           have BK227 := n1_
           have BK228 := n2_
           have HB := n3_
           clear n0_ n1_ n2_ n3_
           have n0_ := Aside0.mk (Kd.R_drew HO231.out)
           have n1_ := Aside0.mk (blk_drew BK227.out)
           have n2_ := Aside0.mk (blk_drew BK228.out)
           have n3_ := Aside0.mk (below_drew1 HB.out)
           clear HO231
           clear BK227
           clear BK228
           clear HB
           have HO231 := n0_
           have BK227 := n1_
           have BK228 := n2_
           have HB := n3_
           clear n0_ n1_ n2_ n3_
           have p233 : 0 ≤ ((ji12) : Int) := of_decide_eq_true (by first | (with_reducible assumption) | assumption)
           have q233 : (ji12) < (y229.length : Int) := of_decide_eq_true (by first | (with_reducible assumption) | assumption)
           obtain ⟨ad233, e233, hx233_0⟩ := Kd.at_int (Kd.R_reads' HO231.out).2.2 (ji12) p233 q233
           cases e233
           replace p233 := eq_true p233
           replace q233 := eq_true q233
           have p18 : 0 ≤ ((ji12) : Int) := of_decide_eq_true (by first | (with_reducible assumption) | assumption)
           have q18 : ((ji12) : Int) < ((y229.length : Int) : Int) := of_decide_eq_true (by first | (with_reducible assumption) | assumption)
           obtain ⟨go18, co18, eo18, gb18, gl18, cl18, HG18⟩ := Kd.R_form HO231.out (by omega)
           (first | cases eo18 | (injection eo18 with ea_ en_ ec_; (first | subst ea_ | (injection ea_ with ea_; subst ea_)); subst ec_; clear en_))
           have GB18 := Aside0.mk gb18
           have GG18 := Aside0.mk HG18
           clear gb18 gl18 HG18
           (first | simp only [add_plain] at hx233_0 | skip)
           obtain ⟨hx18_0, hf18_0⟩ := Kd.R_celln 0 HO231.out ((ji12) : Int) p18 q18
           replace p18 := eq_true p18
           replace q18 := eq_true q18
           have HP26 := Kd.R_putn HO231.out ((ji12) : Int) (IntKind.u64.wrap ((rd y229 (ji12)) + (ji17)))
           rw [← Ny234.out] at HP26
           have HQ26 := Aside0.mk HP26
           clear HP26
           refine start_ (n := 12) (S := fun w' => w'.cell? ⟨gb228, 0, none⟩ = some (.int .i64 (l0.length : Int)) ∧ w'.cell? ⟨gb228, 1, none⟩ = some (.slice (some ⟨go18, 0, none⟩) y229.length co22) ∧ w'.cell? ⟨go18, ((ji12)).toNat, none⟩ = some (.int .u64 (rd y229 (ji12)))) (ds := [11]) #[false, false, false, false, false, false, false, false, false, false, false, false] (by kernel_rfl) rfl rfl ⟨(blk_cell BK228.out 0).trans rfl, (blk_cell BK228.out 1).trans rfl, hx233_0⟩ (fun hHeld => ?_); refine with_tabW dragnetref09_Set.tab8 dragnetref09_Set.bits8 (fun HT_ HW_ => ?_)
           generalize w24.drew = w25 at HO231 BK227 BK228 HB GG18 HQ26 hf18_0 hx18_0 hx233_0 hHeld ⊢
           refine pure_ (i := 0) (N := some 26) (v := ?_) (a' := ?_) #[true, false, false, false, false, false, false, false, false, false, false, false] rfl rfl (any_of HT_.out (by kernel_rfl)) (fun _ _ _ h => h) (Or.inl ⟨by rfl, ?_⟩) ?_ ?_
           rotate_left
           ·intro w'
            go_simp
            with_reducible rfl
           rotate_left
           ·simp only [Act.put, List.setIfInBounds_toArray, List.set_cons_zero, List.set_cons_succ, i64_w, i32_w]
            rfl
           refine pure_ (i := 2) (N := some 28) (v := ?_) (a' := ?_) #[true, false, true, false, false, false, false, false, false, false, false, false] rfl rfl (any_of HT_.out (by kernel_rfl)) (fun _ _ _ h => h) (Or.inl ⟨by rfl, ?_⟩) ?_ ?_
           rotate_left
           ·intro w'
            go_simp
            with_reducible rfl
           rotate_left
           ·simp only [Act.put, List.setIfInBounds_toArray, List.set_cons_zero, List.set_cons_succ, i64_w, i32_w]
            rfl
           refine pure_ (i := 3) (N := some 29) (v := ?_) (a' := ?_) #[true, false, true, true, false, false, false, false, false, false, false, false] rfl rfl (any_of HT_.out (by kernel_rfl)) (fun _ _ _ h => h) (Or.inl ⟨by rfl, ?_⟩) ?_ ?_
           rotate_left
           ·intro w'
            go_simp
            with_reducible rfl
           rotate_left
           ·simp only [Act.put, List.setIfInBounds_toArray, List.set_cons_zero, List.set_cons_succ, i64_w, i32_w]
            rfl
           refine pure_ (i := 6) (N := some 32) (v := ?_) (a' := ?_) #[true, false, true, true, false, false, true, false, false, false, false, false] rfl rfl (any_of HT_.out (by kernel_rfl)) (fun _ _ _ h => h) (Or.inl ⟨by rfl, ?_⟩) ?_ ?_
           rotate_left
           ·intro w'
            go_simp
            with_reducible rfl
           rotate_left
           ·simp only [Act.put, List.setIfInBounds_toArray, List.set_cons_zero, List.set_cons_succ, i64_w, i32_w]
            rfl
           refine pure_ (i := 7) (N := some 33) (v := ?_) (a' := ?_) #[true, false, true, true, false, false, true, true, false, false, false, false] rfl rfl (any_of HT_.out (by kernel_rfl)) (fun _ _ _ h => h) (Or.inl ⟨by rfl, ?_⟩) ?_ ?_
           rotate_left
           ·intro w'
            go_simp
            with_reducible rfl
           rotate_left
           ·simp only [Act.put, List.setIfInBounds_toArray, List.set_cons_zero, List.set_cons_succ, i64_w, i32_w]
            rfl
           refine pure_ (i := 8) (N := some 34) (v := ?_) (a' := ?_) #[true, false, true, true, false, false, true, true, true, false, false, false] rfl rfl (any_of HT_.out (by kernel_rfl)) (fun _ _ _ h => h) (Or.inl ⟨by rfl, ?_⟩) ?_ ?_
           rotate_left
           ·intro w'
            go_simp
            with_reducible rfl
           rotate_left
           ·simp only [Act.put, List.setIfInBounds_toArray, List.set_cons_zero, List.set_cons_succ, i64_w, i32_w]
            rfl
           refine take_ (i := 1) (N := some 27) (v := ?_) (a' := ?_) #[true, true, true, true, false, false, true, true, true, false, false, false] rfl rfl (take_ofW HT_.out HW_.out (by kernel_rfl)) (fun _ _ _ h => h) (Or.inl ⟨by rfl, ?_⟩) hHeld ?_ ?_
           rotate_left
           ·rintro w' ⟨s0, s1, s2⟩
            go_simp
            with_reducible rfl
           rotate_left
           ·simp only [Act.put, List.setIfInBounds_toArray, List.set_cons_zero, List.set_cons_succ, i64_w, i32_w]
            rfl
           refine pure_ (i := 4) (N := some 30) (v := ?_) (a' := ?_) #[true, true, true, true, true, false, true, true, true, false, false, false] rfl rfl (any_of HT_.out (by kernel_rfl)) (fun _ _ _ h => h) (Or.inl ⟨by rfl, ?_⟩) ?_ ?_
           rotate_left
           ·intro w'
            go_simp
            with_reducible rfl
           rotate_left
           ·simp only [Act.put, List.setIfInBounds_toArray, List.set_cons_zero, List.set_cons_succ, i64_w, i32_w]
            rfl
           refine take_ (i := 5) (N := some 31) (v := ?_) (a' := ?_) #[true, true, true, true, true, true, true, true, true, false, false, false] rfl rfl (take_ofW HT_.out HW_.out (by kernel_rfl)) (fun _ _ _ h => h) (Or.inl ⟨by rfl, ?_⟩) hHeld ?_ ?_
           rotate_left
           ·rintro w' ⟨s0, s1, s2⟩
            go_simp
            with_reducible rfl
           rotate_left
           ·simp only [Act.put, List.setIfInBounds_toArray, List.set_cons_zero, List.set_cons_succ, i64_w, i32_w]
            rfl
           refine pure_ (i := 9) (N := some 35) (v := ?_) (a' := ?_) #[true, true, true, true, true, true, true, true, true, true, false, false] rfl rfl (any_of HT_.out (by kernel_rfl)) (fun _ _ _ h => h) (Or.inl ⟨by rfl, ?_⟩) ?_ ?_
           rotate_left
           ·intro w'
            go_simp
            with_reducible rfl
           rotate_left
           ·simp only [Act.put, List.setIfInBounds_toArray, List.set_cons_zero, List.set_cons_succ, i64_w, i32_w]
            rfl
           refine pure_ (i := 10) (N := some 36) (v := ?_) (a' := ?_) #[true, true, true, true, true, true, true, true, true, true, true, false] rfl rfl (any_of HT_.out (by kernel_rfl)) (fun _ _ _ h => h) (Or.inl ⟨by rfl, ?_⟩) ?_ ?_
           rotate_left
           ·intro w'
            go_simp
            with_reducible rfl
           rotate_left
           ·simp only [Act.put, List.setIfInBounds_toArray, List.set_cons_zero, List.set_cons_succ, i64_w, i32_w]
            rfl
           refine last_ (i := 11) (N := none) #[true, true, true, true, true, true, true, true, true, true, true, true] rfl rfl (one_of HT_.out (by kernel_rfl)) (by decide) (fun K hK => ?_)
           refine skip_ (w1 := ?_) (by rfl) rfl ?_ ?_
           rotate_left
           ·go_simp
            rfl
           refine hK.out _ _ ?_
           clear hK K
           refine done_ (done_of HT_.out (by kernel_rfl)) ?_
           try go_wp2
           go_roundg k1
           case measure => have := HK1.out; omega
           case rel => exact ⟨(wrap64 (x4_1 + 1)), (y234), (.slice (some ⟨go18, 0, none⟩) y229.length co22), (by first | rfl | (simp; done) | (simp [*]; done)), H', ⟨by have := HK1.out; omega⟩, ⟨by (with_reducible repeat (first | apply Kd.R_alloc | apply Kd.R_drewN | apply Kd.R_drew)); exact HQ26.out⟩, ⟨by (with_reducible repeat (first | refine blk_drewN ?_ _ | refine blk_drew ?_ | refine blk_alloc ?_ _)); refine blk_far ?_ (by have h_ := Kd.R_ne HO231.out BK227.out (by decide); intro e_; exact h_ (by rw [e_]; rfl)) _; (with_reducible repeat (first | refine blk_drewN ?_ _ | refine blk_drew ?_ | refine blk_alloc ?_ _)); exact BK227.out⟩, ⟨by (with_reducible repeat (first | refine blk_drewN ?_ _ | refine blk_drew ?_ | refine blk_alloc ?_ _)); refine blk_far ?_ (by have h_ := Kd.R_ne HO231.out BK228.out (by decide); intro e_; exact h_ (by rw [e_]; rfl)) _; (with_reducible repeat (first | refine blk_drewN ?_ _ | refine blk_drew ?_ | refine blk_alloc ?_ _)); exact BK228.out⟩, ⟨by repeat (first | (with_reducible first | exact HB.out | apply below_alloc | apply pw_below_drewN | apply below_drew1 | refine below_set ?_ GB18.out | refine below_set ?_ GE227.out | refine below_set ?_ GE228.out) | exact HB.out)⟩⟩
          ·rw [if_neg c16] at H
           exact absurd H (by simp)
         ·rw [if_neg c14] at H
          exact absurd H (by simp)
        ·rw [if_neg c13] at H
         exact absurd H (by simp)
       ·replace c11 := Bool.eq_false_iff.mpr c11
        subst c11
        have H1 : (dragnetref09_Set.l0 k1 l0 (wrap64 (x4_1 + 1)) (l0.length : Int) y229) = some (r1, r2) := by rw [if_neg (show ¬ (false = true) by decide)] at H; exact H
        clear H
        have H := H1
        clear H1
        have H' := Aside0.mk H
        clear H
        have hnb27 := NB228_227.out
        have hnc27 := NB227_228.out
        have hcz28_0 : wr.cell? ⟨gb228, 0, none⟩ = some (.int .i64 (l0.length : Int)) := (blk_cell BK228.out 0).trans rfl
        have hcz28_1 : wr.cell? ⟨gb228, 1, none⟩ = some (u229001) := (blk_cell BK228.out 1).trans rfl
        have hfz28_0 := blk_frozen BK228.out 0
        have hfz28_1 := blk_frozen BK228.out 1
        go_wp2_with (first | ((with_reducible refine gate_builtin (b := .append) (xs := #[.tmp 18, .tmp 19]) rfl ?_); at_builtin; refine Kd.R_append (Kd.int .u64) (w0 := w) w.heap.size rfl (.tmp 18) (.tmp 19) 36 66 (.int .u64 0) 8 rfl Try.underlying36 info66 rfl (by decide) (by omega) u229001 x229001_1 0 [.int .u64 0] (fun _ => True) (fun _ => False) rfl rfl ?aP (fun _ hk => hk.elim) ?aF ?aO ?aB ?aS ?aL ?_; (case aP => exact rfl); (case aB => exact (by repeat (first | (with_reducible first | exact HB.out | apply below_alloc | apply pw_below_drewN | apply below_drew1 | refine below_set ?_ GE227.out | refine below_set ?_ GE228.out) | exact HB.out))); (case aF => exact (fun _ _ => trivial)); (case aO => exact (by (with_reducible repeat (first | apply Kd.R_alloc | apply Kd.R_drewN | apply Kd.R_drew)); exact HO_229001.out)); (case aS => exact (below_size (by repeat (first | (with_reducible first | exact HB.out | apply below_alloc | apply pw_below_drewN | apply below_drew1 | refine below_set ?_ GE227.out | refine below_set ?_ GE228.out) | exact HB.out)))); (case aL => have := LMc8.out; omega); intro v230 w29 ho hb hg hat; rw [← Ny229.out] at ho; have n0_ := Aside0.mk (blk_grown (g := gb227) (o := .cells #[.int .i64 0, .slice none 0 0] 38 (0, 0)) (by (with_reducible repeat (first | refine blk_drewN ?_ _ | refine blk_drew ?_ | refine blk_alloc ?_ _)); exact BK227.out) hg (Kd.R_ne HO_229001.out BK227.out (by decide))); have n1_ := Aside0.mk (blk_grown (g := gb228) (o := .cells #[.int .i64 (l0.length : Int), u229001] 38 (0, 0)) (by (with_reducible repeat (first | refine blk_drewN ?_ _ | refine blk_drew ?_ | refine blk_alloc ?_ _)); exact BK228.out) hg (Kd.R_ne HO_229001.out BK228.out (by decide))); have n2_ := Aside0.mk (hb); have n3_ := Aside0.mk (ho); clear BK227; clear BK228; clear HB; clear HO_229001; have BK227 := n0_; have BK228 := n1_; have HB := n2_; have HO231 := n3_; clear n0_ n1_ n2_ n3_; clear ho hb hg hat; obtain ⟨Ao30, co30, eo30⟩ := Kd.R_slice HO231.out; subst eo30; have hcz31_0 : w29.cell? ⟨gb228, 0, none⟩ = some (.int .i64 (l0.length : Int)) := (blk_cell BK228.out 0).trans rfl; have hcz31_1 : w29.cell? ⟨gb228, 1, none⟩ = some (u229001) := (blk_cell BK228.out 1).trans rfl; have hfz31_0 := blk_frozen BK228.out 0; have hfz31_1 := blk_frozen BK228.out 1; have p232 : 0 ≤ (x4_1 : Int) := of_decide_eq_true (by first | (with_reducible assumption) | assumption); have q232 : x4_1 < (l0.length : Int) := of_decide_eq_true (by first | (with_reducible assumption) | assumption); obtain ⟨ad232, e232, hx232_0⟩ := Kd.at_bool HR0.out x4_1 p232 q232; (try rw [← Nbq10.out] at hx232_0); cases e232; have hn232_0 : ad232.block ≠ gb228 := Nat.ne_of_lt (Nat.lt_of_lt_of_le (by have := World.block_lt_of_cell? _ _ hx232_0; first | rwa [add_block] at this | exact this) GW228.out); replace hx232_0 := (HB.out.cell (World.block_lt_of_cell? w _ hx232_0)).trans hx232_0; replace hx232_0 := (cell_far (p := ⟨gb228, 1, none⟩) (by first | (rw [add_block]; exact hn232_0) | (show (Addr.add _ _).block ≠ _; rw [add_block]; exact hn232_0) | exact hn232_0) (.slice Ao30 y229.length co30)).trans hx232_0; clear hn232_0; replace p232 := eq_true p232; replace q232 := eq_true q232))
        go_roundg k1
        case measure => have := HK1.out; omega
        case rel => exact ⟨(wrap64 (x4_1 + 1)), (y229), (.slice Ao30 y229.length co30), (by first | rfl | (simp; done) | (simp [*]; done)), H', ⟨by have := HK1.out; omega⟩, ⟨by (with_reducible repeat (first | apply Kd.R_alloc | apply Kd.R_drewN | apply Kd.R_drew)); exact Kd.R_mono (Kd.R_far (p := ⟨gb228, 1, none⟩) (Kd.R_types HO231.out BK228.out (by decide)) (fun _ hk => hk.2) (.slice Ao30 y229.length co30)) (fun _ hk => trivial)⟩, ⟨by (with_reducible repeat (first | refine blk_drewN ?_ _ | refine blk_drew ?_ | refine blk_alloc ?_ _)); refine blk_far ?_ NB227_228.out _; (with_reducible repeat (first | refine blk_drewN ?_ _ | refine blk_drew ?_ | refine blk_alloc ?_ _)); exact BK227.out⟩, ⟨by (with_reducible repeat (first | refine blk_drewN ?_ _ | refine blk_drew ?_ | refine blk_alloc ?_ _)); refine blk_put (cs := #[.int .i64 (l0.length : Int), u229001]) ?_ 1 _ rfl; (with_reducible repeat (first | refine blk_drewN ?_ _ | refine blk_drew ?_ | refine blk_alloc ?_ _)); exact BK228.out⟩, ⟨by repeat (first | (with_reducible first | exact HB.out | apply below_alloc | apply pw_below_drewN | apply below_drew1 | refine below_set ?_ GE227.out | refine below_set ?_ GE228.out) | exact HB.out)⟩⟩
      ·rw [if_neg c9] at H
       exact absurd H (by simp)
     ·rw [if_neg c8] at H
      exact absurd H (by simp)
    ·rw [if_neg c7] at H
     have c7b0 : ((Int.tmod x4_1 64) == 0) = false := beq_eq_false_iff_ne.mpr c7
     have c7b1 : ((Int.tmod x4_1 64) != 0) = true := bne_iff_ne.mpr c7
     by_cases c32 : 0 ≤ x4_1
     ·rw [if_pos c32] at H
      have c32b0 : decide (0 ≤ x4_1) = true := decide_eq_true c32
      clear c32
      obtain ⟨bq33, hbq33⟩ : ∃ b_ : Bool, b_ = (rdOf false l0 x4_1) := ⟨_, rfl⟩
      replace H : (if bq33 = true then (if 0 ≤ (wrap64 (Int.tdiv x4_1 64)) then (if (wrap64 (Int.tdiv x4_1 64)) < (x229001_1.length : Int) then (if 0 ≤ (Int.tmod x4_1 64) then (dragnetref09_Set.l0 k1 l0 (wrap64 (x4_1 + 1)) (l0.length : Int) (x229001_1.set ((wrap64 (Int.tdiv x4_1 64)) : Int).toNat (IntKind.u64.wrap ((rd x229001_1 (wrap64 (Int.tdiv x4_1 64))) + (shl .u64 1 (Int.tmod x4_1 64)))))) else (none)) else (none)) else (none)) else (dragnetref09_Set.l0 k1 l0 (wrap64 (x4_1 + 1)) (l0.length : Int) x229001_1)) = some (r1, r2) := by rw [← hbq33] at H; exact H
      have Nbq33 := Aside0.mk hbq33
      clear hbq33
      by_cases c34 : bq33 = true
      ·subst c34
       have H1 : (if 0 ≤ (wrap64 (Int.tdiv x4_1 64)) then (if (wrap64 (Int.tdiv x4_1 64)) < (x229001_1.length : Int) then (if 0 ≤ (Int.tmod x4_1 64) then (dragnetref09_Set.l0 k1 l0 (wrap64 (x4_1 + 1)) (l0.length : Int) (x229001_1.set ((wrap64 (Int.tdiv x4_1 64)) : Int).toNat (IntKind.u64.wrap ((rd x229001_1 (wrap64 (Int.tdiv x4_1 64))) + (shl .u64 1 (Int.tmod x4_1 64)))))) else (none)) else (none)) else (none)) = some (r1, r2) := by rw [if_pos rfl] at H; exact H
       clear H
       have H := H1
       clear H1
       obtain ⟨ji35, hji35⟩ : ∃ j_ : Int, (wrap64 (Int.tdiv x4_1 64)) = j_ := ⟨_, rfl⟩
       replace H : (if 0 ≤ (ji35) then (if (ji35) < (x229001_1.length : Int) then (if 0 ≤ (Int.tmod x4_1 64) then (dragnetref09_Set.l0 k1 l0 (wrap64 (x4_1 + 1)) (l0.length : Int) (x229001_1.set ((ji35) : Int).toNat (IntKind.u64.wrap ((rd x229001_1 (ji35)) + (shl .u64 1 (Int.tmod x4_1 64)))))) else (none)) else (none)) else (none)) = some (r1, r2) := by first | (rw [hji35] at H; exact H) | (simp only [hji35] at H ⊢; exact H)
       have hji35w : (IntKind.i64.wrap (Int.tdiv x4_1 64)) = ji35 := (i64_w _).trans hji35
       by_cases c36 : 0 ≤ (ji35)
       ·rw [if_pos c36] at H
        have c36b0 : decide (0 ≤ (ji35)) = true := decide_eq_true c36
        clear c36
        by_cases c37 : (ji35) < (x229001_1.length : Int)
        ·rw [if_pos c37] at H
         have c37b0 : decide ((ji35) < (x229001_1.length : Int)) = true := decide_eq_true c37
         clear c37
         obtain ⟨ji38, hji38⟩ : ∃ j_ : Int, (Int.tmod x4_1 64) = j_ := ⟨_, rfl⟩
         have hji38le : ji38 ≤ 64 := by have h_ := Int.tmod_lt_of_pos (x4_1) (show (0 : Int) < 64 by decide); rw [hji38] at h_; omega
         replace H : (if 0 ≤ (ji38) then (dragnetref09_Set.l0 k1 l0 (wrap64 (x4_1 + 1)) (l0.length : Int) (x229001_1.set ((ji35) : Int).toNat (IntKind.u64.wrap ((rd x229001_1 (ji35)) + (shl .u64 1 (ji38)))))) else (none)) = some (r1, r2) := by first | (rw [hji38] at H; exact H) | (simp only [hji38] at H ⊢; exact H)
         (try rw [hji38] at c7b0)
         (try rw [hji38] at c7b1)
         by_cases c39 : 0 ≤ (ji38)
         ·rw [if_pos c39] at H
          have c39b0 := eq_true c39
          have c39b1 : decide (0 ≤ (ji38)) = true := decide_eq_true c39
          clear c39
          obtain ⟨ji40, hji40⟩ : ∃ j_ : Int, (shl .u64 1 (ji38)) = j_ := ⟨_, rfl⟩
          replace H : (dragnetref09_Set.l0 k1 l0 (wrap64 (x4_1 + 1)) (l0.length : Int) (x229001_1.set ((ji35) : Int).toNat (IntKind.u64.wrap ((rd x229001_1 (ji35)) + (ji40))))) = some (r1, r2) := by first | (rw [hji40] at H; exact H) | (simp only [hji40] at H ⊢; exact H)
          have hji40_ : (IntKind.u64.wrap (1 * 2 ^ min (ji38).toNat 64)) = ji40 := hji40
          have hji40z : (ji38) ≤ 64 → (IntKind.u64.wrap (1 * 2 ^ (ji38).toNat)) = ji40 := shl_small hji40
          have hji40u : (IntKind.u64.wrap (2 ^ min (ji38).toNat 64)) = ji40 := by have h_ := hji40_; rw [Int.one_mul] at h_; exact h_
          have hji40v : (ji38) ≤ 64 → (IntKind.u64.wrap (2 ^ (ji38).toNat)) = ji40 := fun hle_ => by have h_ := hji40z hle_; rw [Int.one_mul] at h_; exact h_
          obtain ⟨y237, hy237⟩ : ∃ y_ : List Int, y_ = (x229001_1.set ((ji35) : Int).toNat (IntKind.u64.wrap ((rd x229001_1 (ji35)) + (ji40)))) := ⟨_, rfl⟩
          replace H : (dragnetref09_Set.l0 k1 l0 (wrap64 (x4_1 + 1)) (l0.length : Int) y237) = some (r1, r2) := by first | (rw [hy237]; with_reducible exact H) | (have H2_ := (Option.bind_some _ _).symm.trans H; rw [hy237]; with_reducible exact H2_) | (have H2_ := (Option.bind_some _ _).symm.trans H; with_reducible exact H2_) | with_reducible exact H | (rw [hy237]; exact H) | exact H
          have Ny237 := Aside0.mk hy237
          clear hy237
          have H' := Aside0.mk H
          clear H
          have p235 : 0 ≤ (x4_1 : Int) := of_decide_eq_true (by first | (with_reducible assumption) | assumption)
          have q235 : x4_1 < (l0.length : Int) := of_decide_eq_true (by first | (with_reducible assumption) | assumption)
          obtain ⟨ad235, e235, hx235_0⟩ := Kd.at_bool HR0.out x4_1 p235 q235
          (try rw [← Nbq33.out] at hx235_0)
          cases e235
          replace hx235_0 := (HB.out.cell (World.block_lt_of_cell? w _ hx235_0)).trans hx235_0
          replace p235 := eq_true p235
          replace q235 := eq_true q235
          try go_wp2
          have n0_ := Aside0.mk (Kd.R_drew HO_229001.out)
          have n1_ := Aside0.mk (blk_drew BK227.out)
          have n2_ := Aside0.mk (blk_drew BK228.out)
          have n3_ := Aside0.mk (below_drew1 HB.out)
          clear HO_229001
          clear BK227
          clear BK228
          clear HB
          have HO_229001 := n0_
          have BK227 := n1_
          have BK228 := n2_
          have HB := n3_
          clear n0_ n1_ n2_ n3_
          obtain ⟨Ao43, co43, eo43⟩ := Kd.R_slice HO_229001.out
          (first | subst eo43 | (injection eo43 with f1_ f2_ f3_; have f4_ := f1_.symm; have f5_ := f3_.symm; clear f1_ f2_ f3_; subst f4_; subst f5_))
          have p236 : 0 ≤ ((ji35) : Int) := of_decide_eq_true (by first | (with_reducible assumption) | assumption)
          have q236 : (ji35) < (x229001_1.length : Int) := of_decide_eq_true (by first | (with_reducible assumption) | assumption)
          obtain ⟨ad236, e236, hx236_0⟩ := Kd.at_int (Kd.R_reads' HO_229001.out).2.2 (ji35) p236 q236
          cases e236
          replace p236 := eq_true p236
          replace q236 := eq_true q236
          have p41 : 0 ≤ ((ji35) : Int) := of_decide_eq_true (by first | (with_reducible assumption) | assumption)
          have q41 : ((ji35) : Int) < ((x229001_1.length : Int) : Int) := of_decide_eq_true (by first | (with_reducible assumption) | assumption)
          obtain ⟨go41, co41, eo41, gb41, gl41, cl41, HG41⟩ := Kd.R_form HO_229001.out (by omega)
          (first | cases eo41 | (injection eo41 with ea_ en_ ec_; (first | subst ea_ | (injection ea_ with ea_; subst ea_)); subst ec_; clear en_))
          have GB41 := Aside0.mk gb41
          have GG41 := Aside0.mk HG41
          clear gb41 gl41 HG41
          (first | simp only [add_plain] at hx236_0 | skip)
          obtain ⟨hx41_0, hf41_0⟩ := Kd.R_celln 0 HO_229001.out ((ji35) : Int) p41 q41
          replace p41 := eq_true p41
          replace q41 := eq_true q41
          have HP44 := Kd.R_putn HO_229001.out ((ji35) : Int) (IntKind.u64.wrap ((rd x229001_1 (ji35)) + (ji40)))
          rw [← Ny237.out] at HP44
          have HQ44 := Aside0.mk HP44
          clear HP44
          refine start_ (n := 12) (S := fun w' => w'.cell? ⟨gb228, 0, none⟩ = some (.int .i64 (l0.length : Int)) ∧ w'.cell? ⟨gb228, 1, none⟩ = some (.slice (some ⟨go41, 0, none⟩) x229001_1.length co43) ∧ w'.cell? ⟨go41, ((ji35)).toNat, none⟩ = some (.int .u64 (rd x229001_1 (ji35)))) (ds := [11]) #[false, false, false, false, false, false, false, false, false, false, false, false] (by kernel_rfl) rfl rfl ⟨(blk_cell BK228.out 0).trans rfl, (blk_cell BK228.out 1).trans rfl, hx236_0⟩ (fun hHeld => ?_); refine with_tabW dragnetref09_Set.tab8 dragnetref09_Set.bits8 (fun HT_ HW_ => ?_)
          generalize wr.drew = w42 at HO_229001 BK227 BK228 HB GG41 HQ44 hf41_0 hx236_0 hx41_0 hHeld ⊢
          refine pure_ (i := 0) (N := some 26) (v := ?_) (a' := ?_) #[true, false, false, false, false, false, false, false, false, false, false, false] rfl rfl (any_of HT_.out (by kernel_rfl)) (fun _ _ _ h => h) (Or.inl ⟨by rfl, ?_⟩) ?_ ?_
          rotate_left
          ·intro w'
           go_simp
           with_reducible rfl
          rotate_left
          ·simp only [Act.put, List.setIfInBounds_toArray, List.set_cons_zero, List.set_cons_succ, i64_w, i32_w]
           rfl
          refine pure_ (i := 2) (N := some 28) (v := ?_) (a' := ?_) #[true, false, true, false, false, false, false, false, false, false, false, false] rfl rfl (any_of HT_.out (by kernel_rfl)) (fun _ _ _ h => h) (Or.inl ⟨by rfl, ?_⟩) ?_ ?_
          rotate_left
          ·intro w'
           go_simp
           with_reducible rfl
          rotate_left
          ·simp only [Act.put, List.setIfInBounds_toArray, List.set_cons_zero, List.set_cons_succ, i64_w, i32_w]
           rfl
          refine pure_ (i := 3) (N := some 29) (v := ?_) (a' := ?_) #[true, false, true, true, false, false, false, false, false, false, false, false] rfl rfl (any_of HT_.out (by kernel_rfl)) (fun _ _ _ h => h) (Or.inl ⟨by rfl, ?_⟩) ?_ ?_
          rotate_left
          ·intro w'
           go_simp
           with_reducible rfl
          rotate_left
          ·simp only [Act.put, List.setIfInBounds_toArray, List.set_cons_zero, List.set_cons_succ, i64_w, i32_w]
           rfl
          refine pure_ (i := 6) (N := some 32) (v := ?_) (a' := ?_) #[true, false, true, true, false, false, true, false, false, false, false, false] rfl rfl (any_of HT_.out (by kernel_rfl)) (fun _ _ _ h => h) (Or.inl ⟨by rfl, ?_⟩) ?_ ?_
          rotate_left
          ·intro w'
           go_simp
           with_reducible rfl
          rotate_left
          ·simp only [Act.put, List.setIfInBounds_toArray, List.set_cons_zero, List.set_cons_succ, i64_w, i32_w]
           rfl
          refine pure_ (i := 7) (N := some 33) (v := ?_) (a' := ?_) #[true, false, true, true, false, false, true, true, false, false, false, false] rfl rfl (any_of HT_.out (by kernel_rfl)) (fun _ _ _ h => h) (Or.inl ⟨by rfl, ?_⟩) ?_ ?_
          rotate_left
          ·intro w'
           go_simp
           with_reducible rfl
          rotate_left
          ·simp only [Act.put, List.setIfInBounds_toArray, List.set_cons_zero, List.set_cons_succ, i64_w, i32_w]
           rfl
          refine pure_ (i := 8) (N := some 34) (v := ?_) (a' := ?_) #[true, false, true, true, false, false, true, true, true, false, false, false] rfl rfl (any_of HT_.out (by kernel_rfl)) (fun _ _ _ h => h) (Or.inl ⟨by rfl, ?_⟩) ?_ ?_
          rotate_left
          ·intro w'
           go_simp
           with_reducible rfl
          rotate_left
          ·simp only [Act.put, List.setIfInBounds_toArray, List.set_cons_zero, List.set_cons_succ, i64_w, i32_w]
           rfl
          refine take_ (i := 1) (N := some 27) (v := ?_) (a' := ?_) #[true, true, true, true, false, false, true, true, true, false, false, false] rfl rfl (take_ofW HT_.out HW_.out (by kernel_rfl)) (fun _ _ _ h => h) (Or.inl ⟨by rfl, ?_⟩) hHeld ?_ ?_
          rotate_left
          ·rintro w' ⟨s0, s1, s2⟩
           go_simp
           with_reducible rfl
          rotate_left
          ·simp only [Act.put, List.setIfInBounds_toArray, List.set_cons_zero, List.set_cons_succ, i64_w, i32_w]
           rfl
          refine pure_ (i := 4) (N := some 30) (v := ?_) (a' := ?_) #[true, true, true, true, true, false, true, true, true, false, false, false] rfl rfl (any_of HT_.out (by kernel_rfl)) (fun _ _ _ h => h) (Or.inl ⟨by rfl, ?_⟩) ?_ ?_
          rotate_left
          ·intro w'
           go_simp
           with_reducible rfl
          rotate_left
          ·simp only [Act.put, List.setIfInBounds_toArray, List.set_cons_zero, List.set_cons_succ, i64_w, i32_w]
           rfl
          refine take_ (i := 5) (N := some 31) (v := ?_) (a' := ?_) #[true, true, true, true, true, true, true, true, true, false, false, false] rfl rfl (take_ofW HT_.out HW_.out (by kernel_rfl)) (fun _ _ _ h => h) (Or.inl ⟨by rfl, ?_⟩) hHeld ?_ ?_
          rotate_left
          ·rintro w' ⟨s0, s1, s2⟩
           go_simp
           with_reducible rfl
          rotate_left
          ·simp only [Act.put, List.setIfInBounds_toArray, List.set_cons_zero, List.set_cons_succ, i64_w, i32_w]
           rfl
          refine pure_ (i := 9) (N := some 35) (v := ?_) (a' := ?_) #[true, true, true, true, true, true, true, true, true, true, false, false] rfl rfl (any_of HT_.out (by kernel_rfl)) (fun _ _ _ h => h) (Or.inl ⟨by rfl, ?_⟩) ?_ ?_
          rotate_left
          ·intro w'
           go_simp
           with_reducible rfl
          rotate_left
          ·simp only [Act.put, List.setIfInBounds_toArray, List.set_cons_zero, List.set_cons_succ, i64_w, i32_w]
           rfl
          refine pure_ (i := 10) (N := some 36) (v := ?_) (a' := ?_) #[true, true, true, true, true, true, true, true, true, true, true, false] rfl rfl (any_of HT_.out (by kernel_rfl)) (fun _ _ _ h => h) (Or.inl ⟨by rfl, ?_⟩) ?_ ?_
          rotate_left
          ·intro w'
           go_simp
           with_reducible rfl
          rotate_left
          ·simp only [Act.put, List.setIfInBounds_toArray, List.set_cons_zero, List.set_cons_succ, i64_w, i32_w]
           rfl
          refine last_ (i := 11) (N := none) #[true, true, true, true, true, true, true, true, true, true, true, true] rfl rfl (one_of HT_.out (by kernel_rfl)) (by decide) (fun K hK => ?_)
          refine skip_ (w1 := ?_) (by rfl) rfl ?_ ?_
          rotate_left
          ·go_simp
           rfl
          refine hK.out _ _ ?_
          clear hK K
          refine done_ (done_of HT_.out (by kernel_rfl)) ?_
          try go_wp2
          go_roundg k1
          case measure => have := HK1.out; omega
          case rel => exact ⟨(wrap64 (x4_1 + 1)), (y237), (.slice (some ⟨go41, 0, none⟩) x229001_1.length co43), (by first | rfl | (simp; done) | (simp [*]; done)), H', ⟨by have := HK1.out; omega⟩, ⟨by (with_reducible repeat (first | apply Kd.R_alloc | apply Kd.R_drewN | apply Kd.R_drew)); exact HQ44.out⟩, ⟨by (with_reducible repeat (first | refine blk_drewN ?_ _ | refine blk_drew ?_ | refine blk_alloc ?_ _)); refine blk_far ?_ (by have h_ := Kd.R_ne HO_229001.out BK227.out (by decide); intro e_; exact h_ (by rw [e_]; rfl)) _; (with_reducible repeat (first | refine blk_drewN ?_ _ | refine blk_drew ?_ | refine blk_alloc ?_ _)); exact BK227.out⟩, ⟨by (with_reducible repeat (first | refine blk_drewN ?_ _ | refine blk_drew ?_ | refine blk_alloc ?_ _)); refine blk_far ?_ (by have h_ := Kd.R_ne HO_229001.out BK228.out (by decide); intro e_; exact h_ (by rw [e_]; rfl)) _; (with_reducible repeat (first | refine blk_drewN ?_ _ | refine blk_drew ?_ | refine blk_alloc ?_ _)); exact BK228.out⟩, ⟨by repeat (first | (with_reducible first | exact HB.out | apply below_alloc | apply pw_below_drewN | apply below_drew1 | refine below_set ?_ GB41.out | refine below_set ?_ GE227.out | refine below_set ?_ GE228.out) | exact HB.out)⟩⟩
         ·rw [if_neg c39] at H
          exact absurd H (by simp)
        ·rw [if_neg c37] at H
         exact absurd H (by simp)
       ·rw [if_neg c36] at H
        exact absurd H (by simp)
      ·replace c34 := Bool.eq_false_iff.mpr c34
       subst c34
       have H1 : (dragnetref09_Set.l0 k1 l0 (wrap64 (x4_1 + 1)) (l0.length : Int) x229001_1) = some (r1, r2) := by rw [if_neg (show ¬ (false = true) by decide)] at H; exact H
       clear H
       have H := H1
       clear H1
       have H' := Aside0.mk H
       clear H
       have p235 : 0 ≤ (x4_1 : Int) := of_decide_eq_true (by first | (with_reducible assumption) | assumption)
       have q235 : x4_1 < (l0.length : Int) := of_decide_eq_true (by first | (with_reducible assumption) | assumption)
       obtain ⟨ad235, e235, hx235_0⟩ := Kd.at_bool HR0.out x4_1 p235 q235
       (try rw [← Nbq33.out] at hx235_0)
       cases e235
       replace hx235_0 := (HB.out.cell (World.block_lt_of_cell? w _ hx235_0)).trans hx235_0
       replace p235 := eq_true p235
       replace q235 := eq_true q235
       go_wp2
       go_roundg k1
       case measure => have := HK1.out; omega
       case rel => exact ⟨(wrap64 (x4_1 + 1)), (x229001_1), (u229001), (by first | rfl | (simp; done) | (simp [*]; done)), H', ⟨by have := HK1.out; omega⟩, ⟨by (with_reducible repeat (first | apply Kd.R_alloc | apply Kd.R_drewN | apply Kd.R_drew)); exact HO_229001.out⟩, ⟨by (with_reducible repeat (first | refine blk_drewN ?_ _ | refine blk_drew ?_ | refine blk_alloc ?_ _)); exact BK227.out⟩, ⟨by (with_reducible repeat (first | refine blk_drewN ?_ _ | refine blk_drew ?_ | refine blk_alloc ?_ _)); exact BK228.out⟩, ⟨by repeat (first | (with_reducible first | exact HB.out | apply below_alloc | apply pw_below_drewN | apply below_drew1 | refine below_set ?_ GE227.out | refine below_set ?_ GE228.out) | exact HB.out)⟩⟩
     ·rw [if_neg c32] at H
      exact absurd H (by simp)
   ·rw [if_neg c6] at H
    have c6b0 : decide (x4_1 < (l0.length : Int)) = false := decide_eq_false c6
    clear c6
    simp only [Option.some.injEq, Prod.mk.injEq] at H
    obtain ⟨rfl, rfl⟩ := H
    have hnb45 := NB228_227.out
    have hnc45 := NB227_228.out
    have hcz46_0 : wr.cell? ⟨gb228, 0, none⟩ = some (.int .i64 (l0.length : Int)) := (blk_cell BK228.out 0).trans rfl
    have hcz46_1 : wr.cell? ⟨gb228, 1, none⟩ = some (u229001) := (blk_cell BK228.out 1).trans rfl
    have hfz46_0 := blk_frozen BK228.out 0
    have hfz46_1 := blk_frozen BK228.out 1
    have hcz47_0 : wr.cell? ⟨gb227, 0, none⟩ = some (.int .i64 0) := (blk_cell BK227.out 0).trans rfl
    have hcz47_1 : wr.cell? ⟨gb227, 1, none⟩ = some (.slice none 0 0) := (blk_cell BK227.out 1).trans rfl
    have hfz47_0 := blk_frozen BK227.out 0
    have hfz47_1 := blk_frozen BK227.out 1
    obtain ⟨Ao48, co48, eo48⟩ := Kd.R_slice HO_229001.out
    subst eo48
    go_wp2
    refine bodyPost_ret (results_cell_row rfl _ _ gb227 38 #[.int .i64 (l0.length : Int), .slice Ao48 x229001_1.length co48] (0, 0) _ rfl (by (with_reducible repeat (first | refine blk_drewN ?_ _ | refine blk_drew ?_ | refine blk_alloc ?_ _)); refine blk_put (cs := #[.int .i64 (l0.length : Int), .slice none 0 0]) ?_ 1 _ rfl; (with_reducible repeat (first | refine blk_drewN ?_ _ | refine blk_drew ?_ | refine blk_alloc ?_ _)); refine blk_put (cs := #[.int .i64 0, .slice none 0 0]) ?_ 0 _ rfl; (with_reducible repeat (first | refine blk_drewN ?_ _ | refine blk_drew ?_ | refine blk_alloc ?_ _)); exact BK227.out) Try.underlying38 rfl (by kernel_rfl)) rfl ?_
    exact ⟨_, by first | rfl | (simp [errW_none, errW_some] <;> rfl) | (simp [*, errW_none, errW_some] <;> rfl), by (with_reducible repeat (first | apply Kd.R_alloc | apply Kd.R_drewN | apply Kd.R_drew)); exact Kd.R_mono (Kd.R_far (p := ⟨gb227, 1, none⟩) (Kd.R_far (p := ⟨gb227, 0, none⟩) (Kd.R_types HO_229001.out BK227.out (by decide)) (fun _ hk => hk.2) (.int .i64 (l0.length : Int))) (fun _ hk => hk.2) (.slice Ao48 x229001_1.length co48)) (fun _ hk => trivial), by repeat (first | (with_reducible first | exact HB.out | apply below_alloc | apply pw_below_drewN | apply below_drew1 | refine below_set ?_ GE227.out | refine below_set ?_ GE228.out) | exact HB.out)⟩

end Go.Proofs.Ytiaaicmkpjlplaa.P
