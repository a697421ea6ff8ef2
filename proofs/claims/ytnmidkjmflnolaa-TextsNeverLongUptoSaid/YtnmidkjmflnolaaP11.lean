-- Written by a program of this session (wip/tools/tp.py: the kit's printer, turned to take functions that were proved by hand). Lean checks it.
import Derived.Test.YtnmidkjmflnolaaP0
import Derived.Test.YtnmidkjmflnolaaP10
import Derived.Test.YtnmidkjmflnolaaBytesClone
import Derived.Test.YtnmidkjmflnolaaJoin
import Derived.Test.YtnmidkjmflnolaaLzAll
import Derived.Test.YtnmidkjmflnolaaPutList
import Derived.Test.YtnmidkjmflnolaaSymEncode
import Derived.Test.YtnmidkjmflnolaaTables
import Derived.Test.YtnmidkjmflnolaaTrainAll
namespace Go.Proofs.Ytnmidkjmflnolaa.P
open Go.RowKit Go.Proofs.YtnmidkjmflnolaaW.PrintWords Go.Proofs.YtnmidkjmflnolaaW.PrintLast Go.Proofs.YtnmidkjmflnolaaW.PrintMore
attribute [local go_sem] max2_int min2_int max_two min_two max_three min_three max_four min_four   -- for this text's walks alone
set_option linter.unusedVariables false
set_option linter.unusedSimpArgs false

-- LEVEL 3
-- PROVED BY HAND: function 24 (sym_PutTable): Derived.Test.YtnmidkjmflnolaaTables

-- LEVEL 3
-- PROVED BY HAND: function 57 (pfor_PutList): Derived.Test.YtnmidkjmflnolaaPutList

-- LEVEL 3
/-! ### texts_Put: function 33 -/
mutual
def texts_Put.j0 : Nat → List Int → List (List Int) → Bool → Option (List Int × Int)
 | 0, _, _, _ => none
 | k + 1, x0, x1, x25 => if x25 = true then (some (([] : List Int), 1)) else (if 0 ≤ (x1.length : Int) then (if ((x1.length : Int) : Int).toNat ≤ 35184372088832 then (texts_Put.l0 k x0 x1 (List.replicate ((x1.length : Int) : Int).toNat 0) x1 (x1.length : Int) 0) else (none)) else (none))
def texts_Put.l0 : Nat → List Int → List (List Int) → List Int → List (List Int) → Int → Int → Option (List Int × Int)
 | 0, _, _, _, _, _, _ => none
 | k + 1, x0, x1, x6, x29, x30, x31 => if x31 < x30 then (if 0 ≤ x31 then (if x31 < (x29.length : Int) then (if ((rd_L4 x29 x31).length : Int) > 65536 then (some (([] : List Int), 5)) else (if x31 < (x6.length : Int) then (texts_Put.l0 k x0 x1 (x6.set (x31 : Int).toNat (IntKind.u64.wrap (((rd_L4 x29 x31).length : Int)))) x29 x30 (wrap64 (x31 + 1))) else (none))) else (none)) else (none)) else ((bytes_Join.f x1 ([] : List Int)).bind fun t217 => ((lz_Pack.f k t217).bind fun t220 => ((sym_Train.f x1).bind fun t223 => ((sym_PutTable.f ([] : List Int) t223).bind fun bt226 => ((sym_Encode.f k t223 t217).bind fun bt230 => (if (wrap64 ((bt226.1.length : Int) + (bt230.1.length : Int))) < (t220.length : Int) then (if bt226.1.length + bt230.1.length < 140737488355328 then ((bytes_Clone.f x0).bind fun t237 => (if t237.length < 140737488355328 then ((pfor_PutList.f k (t237 ++ [2]) x6).bind fun t243 => ((num_PutRow.f t243 (bt226.1 ++ bt230.1)).bind fun t246 => (some (t246, 0)))) else (none))) else (none)) else ((bytes_Clone.f x0).bind fun t249 => (if t249.length < 140737488355328 then ((pfor_PutList.f k (t249 ++ [1]) x6).bind fun t255 => ((num_PutRow.f t255 t220).bind fun t258 => (some (t258, 0)))) else (none)))))))))
end
def texts_Put.f (k : Nat) (l0 : List Int) (l1 : List (List Int)) : Option (List Int × Int) := if (l1.length : Int) < 1 then (texts_Put.j0 k l0 l1 true) else (texts_Put.j0 k l0 l1 (decide ((l1.length : Int) > 16)))
theorem texts_Put.mono_l : ∀ k, (∀ y0 y1 y2, LeO (texts_Put.j0 k y0 y1 y2) (texts_Put.j0 (k + 1) y0 y1 y2)) ∧ (∀ y0 y1 y2 y3 y4 y5, LeO (texts_Put.l0 k y0 y1 y2 y3 y4 y5) (texts_Put.l0 (k + 1) y0 y1 y2 y3 y4 y5))
 | 0 => ⟨fun _ _ _ r h => by simp [texts_Put.j0] at h, fun _ _ _ _ _ _ r h => by simp [texts_Put.l0] at h⟩
 | k + 1 => by
  obtain ⟨ih0, ih1⟩ := texts_Put.mono_l k
  refine ⟨?_, ?_⟩
  ·intro y0 y1 y2
   unfold texts_Put.j0
   repeat' first
   | (with_reducible exact ih0 _ _ _)
   | (with_reducible exact ih1 _ _ _ _ _ _)
   | (with_reducible exact lz_Pack.mono _ _)
   | (with_reducible exact pfor_PutList.mono _ _ _)
   | (with_reducible exact sym_Encode.mono _ _ _)
   | (with_reducible exact LeO.refl _)
   | (with_reducible exact LeO.none _)
   | (with_reducible refine LeO.ite ?_ ?_)
   | (with_reducible refine LeO.bind ?_ (fun _ => ?_))
   | exact ih0 _ _ _
   | exact ih1 _ _ _ _ _ _
   | exact lz_Pack.mono _ _
   | exact pfor_PutList.mono _ _ _
   | exact sym_Encode.mono _ _ _
   | exact LeO.none _
   | refine LeO.ite ?_ ?_
   | refine LeO.bind ?_ (fun _ => ?_)
  ·intro y0 y1 y2 y3 y4 y5
   unfold texts_Put.l0
   repeat' first
   | (with_reducible exact ih0 _ _ _)
   | (with_reducible exact ih1 _ _ _ _ _ _)
   | (with_reducible exact lz_Pack.mono _ _)
   | (with_reducible exact pfor_PutList.mono _ _ _)
   | (with_reducible exact sym_Encode.mono _ _ _)
   | (with_reducible exact LeO.refl _)
   | (with_reducible exact LeO.none _)
   | (with_reducible refine LeO.ite ?_ ?_)
   | (with_reducible refine LeO.bind ?_ (fun _ => ?_))
   | exact ih0 _ _ _
   | exact ih1 _ _ _ _ _ _
   | exact lz_Pack.mono _ _
   | exact pfor_PutList.mono _ _ _
   | exact sym_Encode.mono _ _ _
   | exact LeO.none _
   | refine LeO.ite ?_ ?_
   | refine LeO.bind ?_ (fun _ => ?_)
theorem texts_Put.mono : ∀ a0 a1 k, LeO (texts_Put.f k a0 a1) (texts_Put.f (k + 1) a0 a1) := by
 intro a0 a1 k
 obtain ⟨ih0, ih1⟩ := texts_Put.mono_l k
 unfold texts_Put.f
 repeat' first
   | (with_reducible exact ih0 _ _ _)
   | (with_reducible exact ih1 _ _ _ _ _ _)
   | (with_reducible exact lz_Pack.mono _ _)
   | (with_reducible exact pfor_PutList.mono _ _ _)
   | (with_reducible exact sym_Encode.mono _ _ _)
   | (with_reducible exact LeO.refl _)
   | (with_reducible exact LeO.none _)
   | (with_reducible refine LeO.ite ?_ ?_)
   | (with_reducible refine LeO.bind ?_ (fun _ => ?_))
   | exact ih0 _ _ _
   | exact ih1 _ _ _ _ _ _
   | exact lz_Pack.mono _ _
   | exact pfor_PutList.mono _ _ _
   | exact sym_Encode.mono _ _ _
   | exact LeO.none _
   | refine LeO.ite ?_ ?_
   | refine LeO.bind ?_ (fun _ => ?_)
set_option maxHeartbeats 8000000 in
set_option maxRecDepth 100000 in
theorem texts_Put.calls (k : Nat) (A0 : Option Addr) (c0 : Nat) (l0 : List Int) (A1 : Option Addr) (c1 : Nat) (l1 : List (List Int)) (r1 : List Int) (r2 : Int) (w : World) (hr0 : Kd.C (Kd.int .u8) w A0 l0.length l0) (hc0 : l0.length ≤ c0) (hr1 : Kd.C (Kd.slice 5 (Kd.int .u8)) w A1 l1.length l1) (hc1 : l1.length ≤ c1) (h : texts_Put.f k l0 l1 = some (r1, r2)) :
  Calls Try.prog 33 #[.slice A0 l0.length c0, .slice A1 l1.length c1] w fun e w' => ∃ v0_ : Value, e = .returned (.tuple #[v0_, .int .i64 r2]) ∧ Kd.R (Kd.int .u8) 5 w' w.heap.size (fun _ => True) v0_ r1 ∧ Below w.heap.size w w' := by
 have HR0 := Aside0.mk hr0
 have HC0 := Aside0.mk hc0
 clear hr0 hc0
 have HR1 := Aside0.mk hr1
 have HC1 := Aside0.mk hc1
 clear hr1 hc1
 have HB := Aside0.mk (Below.refl w.heap.size w)
 have H : (if (l1.length : Int) < 1 then (texts_Put.j0 k l0 l1 true) else (texts_Put.j0 k l0 l1 (decide ((l1.length : Int) > 16)))) = some (r1, r2) := h
 clear h
 have HC3 := Aside0.mk H
 clear H
 go_enter Try.func33, Try.ntmps33
 go_upto_region 1 with (fail)
 go_cut [25] (fun v25 wc => ∃ (kq : Nat) (x25_2 : Bool), v25 = .bool x25_2 ∧ Aside0 (texts_Put.j0 kq l0 l1 x25_2 = some (r1, r2)) ∧ Aside0 (kq ≤ k) ∧ Aside0 (Below w.heap.size w wc))
 case first =>
  have H := HC3.out
  clear HC3
  by_cases c4 : (l1.length : Int) < 1
  ·rw [if_pos c4] at H
   have c4b0 : decide ((l1.length : Int) < 1) = true := decide_eq_true c4
   have c4b1 : decide (l1.length < 1) = true := decide_eq_true (by omega)
   clear c4
   (first | rw [c4b0] | (simp only [i64_w, i32_w]; rw [c4b0]) | skip)
   have H' := Aside0.mk H
   clear H
   go_wp2
   go_meet
   case rel => exact ⟨_, (true), (by first | rfl | (simp; done) | (simp [*]; done)), H', ⟨by first | omega | exact Nat.le_refl _⟩, ⟨by repeat (first | (with_reducible first | exact HB.out | apply below_alloc | apply pw_below_drewN | apply below_drew1) | exact HB.out)⟩⟩
  ·rw [if_neg c4] at H
   have c4b0 : decide ((l1.length : Int) < 1) = false := decide_eq_false c4
   have c4b1 : decide (l1.length < 1) = false := decide_eq_false (by omega)
   clear c4
   (first | rw [c4b0] | (simp only [i64_w, i32_w]; rw [c4b0]) | skip)
   have H' := Aside0.mk H
   clear H
   go_wp2
   go_meet
   case rel => exact ⟨_, (decide ((l1.length : Int) > 16)), (by first | rfl | (simp; done) | (simp [*]; done)), H', ⟨by first | omega | exact Nat.le_refl _⟩, ⟨by repeat (first | (with_reducible first | exact HB.out | apply below_alloc | apply pw_below_drewN | apply below_drew1) | exact HB.out)⟩⟩
 case rest =>
  clear HC3
  try clear c1
  try clear p2
  try clear c3
  try clear c4
  try clear c4b0
  try clear c4b1
  obtain ⟨kq, x25_2, rfl, HA, HJ2, HB⟩ := hcut
  cases kq with
  | zero => exact absurd HA.out (by simp [texts_Put.j0])
  | succ kj2 =>
   have H := HA.out
   clear HA
   simp only [texts_Put.j0] at H
   by_cases c5 : x25_2 = true
   ·subst c5
    have H1 : (some (([] : List Int), 1)) = some (r1, r2) := by rw [if_pos rfl] at H; exact H
    clear H
    have H := H1
    clear H1
    simp only [Option.some.injEq, Prod.mk.injEq] at H
    obtain ⟨rfl, rfl⟩ := H
    go_wp2
    go_ret2
    exact ⟨_, by first | rfl | (simp [errW_none, errW_some] <;> rfl) | (simp [*, errW_none, errW_some] <;> rfl), by first | exact Kd.R_nil _ _ _ _ _ | exact Kd.N_nil _ _ _ _ _ | exact Kd.V_nil _ _ _ _ _ | exact Kd.Q_nil _ _ _ _ _ | exact Kd.S_nil _ _ _ _ _, by repeat (first | (with_reducible first | exact HB.out | apply below_alloc | apply pw_below_drewN | apply below_drew1) | exact HB.out)⟩
   ·replace c5 := Bool.eq_false_iff.mpr c5
    subst c5
    have H1 : (if 0 ≤ (l1.length : Int) then (if ((l1.length : Int) : Int).toNat ≤ 35184372088832 then (texts_Put.l0 kj2 l0 l1 (List.replicate ((l1.length : Int) : Int).toNat 0) l1 (l1.length : Int) 0) else (none)) else (none)) = some (r1, r2) := by rw [if_neg (show ¬ (false = true) by decide)] at H; exact H
    clear H
    have H := H1
    clear H1
    by_cases c6 : 0 ≤ (l1.length : Int)
    ·rw [if_pos c6] at H
     have c6b0 := eq_true c6
     have c6b1 : decide (0 ≤ (l1.length : Int)) = true := decide_eq_true c6
     clear c6
     by_cases c7 : ((l1.length : Int) : Int).toNat ≤ 35184372088832
     ·rw [if_pos c7] at H
      have c7b0 := eq_true c7
      have c7b1 : decide (((l1.length : Int) : Int).toNat ≤ 35184372088832) = true := decide_eq_true c7
      (try simp only [Int.toNat_natCast] at c7b1)
      clear c7
      obtain ⟨y212, hy212⟩ : ∃ y_ : List Int, y_ = (List.replicate ((l1.length : Int) : Int).toNat 0) := ⟨_, rfl⟩
      replace H : (texts_Put.l0 kj2 l0 l1 y212 l1 (l1.length : Int) 0) = some (r1, r2) := by first | (rw [hy212]; with_reducible exact H) | (have H2_ := (Option.bind_some _ _).symm.trans H; rw [hy212]; with_reducible exact H2_) | (have H2_ := (Option.bind_some _ _).symm.trans H; with_reducible exact H2_) | with_reducible exact H | (rw [hy212]; exact H) | exact H
      have Ny212 := Aside0.mk hy212
      clear hy212
      have H' := Aside0.mk H
      clear H
      go_wp2_with (first | ((with_reducible refine gate_dst (N := 28) rfl ?_); (try (refine gate_guard (by rfl) ?_; dsimp only)); refine Kd.R_make (Kd.int .u64) _ 60 rfl (N := 28) rfl 85 _ _ rfl (l1.length : Int) rfl rfl Try.underlying85 (.int .u64 0) 8 info60 rfl (by decide) (by omega) 0 (ok := fun _ => True) (okp := fun _ => True) rfl (fun _ hk => hk) trivial (of_decide_eq_true (by first | (with_reducible assumption) | assumption)) (Nat.le_trans (Nat.mul_le_mul_right _ (of_decide_eq_true (by first | (with_reducible assumption) | assumption) : (l1.length : Int).toNat ≤ 35184372088832)) (by omega)) (Below.refl _ _) (Nat.le_refl _) ?_; intro v213 w8 ho9 hb hg_ hnew_; clear hg_ hnew_; (first | rw [← Ny212.out] at ho9 | (simp only [Int.reduceToNat] at ho9; rw [← Ny212.out] at ho9)); have n0_ := Aside0.mk (Kd.R_lower ho9 (below_size (by repeat (first | (with_reducible first | exact HB.out | apply below_alloc | apply pw_below_drewN | apply below_drew1) | exact HB.out)))); have n1_ := bsA HB hb; clear HB; have HO214 := n0_; have HB := n1_; clear n0_ n1_; clear hb ho9))
      go_loopg [31] kj2 (fun kq v31 w' => ∃ (x6_2 : List Int) (x31_2 : Int), v31 = .int .i64 x31_2 ∧ Aside0 (texts_Put.l0 kq l0 l1 x6_2 l1 (l1.length : Int) x31_2 = some (r1, r2)) ∧ Aside0 (kq ≤ kj2) ∧ Aside0 (Kd.R (Kd.int .u64) 60 w' w.heap.size (fun _ => True) v213 x6_2) ∧ Aside0 (Below w.heap.size w w'))
      case atStart => exact ⟨(y212), (0), (by first | rfl | (simp; done) | (simp [*]; done)), H', ⟨Nat.le_refl _⟩, ⟨by (with_reducible repeat (first | apply Kd.R_alloc | apply Kd.R_drewN | apply Kd.R_drew)); exact HO214.out⟩, ⟨by repeat (first | (with_reducible first | exact HB.out | apply below_alloc | apply pw_below_drewN | apply below_drew1) | exact HB.out)⟩⟩
      case round =>
       clear H'
       try clear c1
       try clear p2
       try clear c3
       try clear c4
       try clear c4b0
       try clear c4b1
       try clear c5
       try clear c6
       try clear c6b0
       try clear c6b1
       try clear c7
       try clear c7b0
       try clear c7b1
       try clear p2
       obtain ⟨x6_2, x31_2, rfl, HA, HK2, HO_6, HB⟩ := hrel
       cases gk with
       | zero => exact absurd HA.out (by simp [texts_Put.l0])
       | succ k2 =>
        have H := HA.out
        clear HA
        simp only [texts_Put.l0] at H
        by_cases c10 : x31_2 < (l1.length : Int)
        ·rw [if_pos c10] at H
         have c10b0 : decide (x31_2 < (l1.length : Int)) = true := decide_eq_true c10
         clear c10
         by_cases c11 : 0 ≤ x31_2
         ·rw [if_pos c11] at H
          have c11b0 : decide (0 ≤ x31_2) = true := decide_eq_true c11
          clear c11
          by_cases c12 : x31_2 < (l1.length : Int)
          ·rw [if_pos c12] at H
           have c12b0 : decide (x31_2 < (l1.length : Int)) = true := decide_eq_true c12
           clear c12
           by_cases c13 : ((rd_L4 l1 x31_2).length : Int) > 65536
           ·rw [if_pos c13] at H
            have c13b0 : decide (65536 < ((rd_L4 l1 x31_2).length : Int)) = true := decide_eq_true c13
            have c13b1 : decide (65536 < (rd_L4 l1 x31_2).length) = true := decide_eq_true (by omega)
            clear c13
            simp only [Option.some.injEq, Prod.mk.injEq] at H
            obtain ⟨rfl, rfl⟩ := H
            have p215 : 0 ≤ (x31_2 : Int) := of_decide_eq_true (by first | (with_reducible assumption) | assumption)
            have q215 : x31_2 < (l1.length : Int) := of_decide_eq_true (by first | (with_reducible assumption) | assumption)
            obtain ⟨ad215, A215_0, c215_0, e215, hx215_0, hl215_0, hi215_0⟩ := at_L4 HR1.out x31_2 p215 q215
            cases e215
            replace hx215_0 := (HB.out.cell (World.block_lt_of_cell? w _ hx215_0)).trans hx215_0
            have HR215_0 := Aside0.mk hi215_0
            have HC215_0 := Aside0.mk hl215_0
            clear hi215_0 hl215_0
            replace p215 := eq_true p215
            replace q215 := eq_true q215
            go_wp2
            go_ret2
            exact ⟨_, by first | rfl | (simp [errW_none, errW_some] <;> rfl) | (simp [*, errW_none, errW_some] <;> rfl), by first | exact Kd.R_nil _ _ _ _ _ | exact Kd.N_nil _ _ _ _ _ | exact Kd.V_nil _ _ _ _ _ | exact Kd.Q_nil _ _ _ _ _ | exact Kd.S_nil _ _ _ _ _, by repeat (first | (with_reducible first | exact HB.out | apply below_alloc | apply pw_below_drewN | apply below_drew1) | exact HB.out)⟩
           ·rw [if_neg c13] at H
            have c13b0 : decide (65536 < ((rd_L4 l1 x31_2).length : Int)) = false := decide_eq_false c13
            have c13b1 : decide (65536 < (rd_L4 l1 x31_2).length) = false := decide_eq_false (by omega)
            clear c13
            by_cases c14 : x31_2 < (x6_2.length : Int)
            ·rw [if_pos c14] at H
             have c14b0 : decide (x31_2 < (x6_2.length : Int)) = true := decide_eq_true c14
             clear c14
             obtain ⟨y216, hy216⟩ : ∃ y_ : List Int, y_ = (x6_2.set (x31_2 : Int).toNat (IntKind.u64.wrap (((rd_L4 l1 x31_2).length : Int)))) := ⟨_, rfl⟩
             replace H : (texts_Put.l0 k2 l0 l1 y216 l1 (l1.length : Int) (wrap64 (x31_2 + 1))) = some (r1, r2) := by first | (rw [hy216]; with_reducible exact H) | (have H2_ := (Option.bind_some _ _).symm.trans H; rw [hy216]; with_reducible exact H2_) | (have H2_ := (Option.bind_some _ _).symm.trans H; with_reducible exact H2_) | with_reducible exact H | (rw [hy216]; exact H) | exact H
             have Ny216 := Aside0.mk hy216
             clear hy216
             have H' := Aside0.mk H
             clear H
             have p215 : 0 ≤ (x31_2 : Int) := of_decide_eq_true (by first | (with_reducible assumption) | assumption)
             have q215 : x31_2 < (l1.length : Int) := of_decide_eq_true (by first | (with_reducible assumption) | assumption)
             obtain ⟨ad215, A215_0, c215_0, e215, hx215_0, hl215_0, hi215_0⟩ := at_L4 HR1.out x31_2 p215 q215
             cases e215
             replace hx215_0 := (HB.out.cell (World.block_lt_of_cell? w _ hx215_0)).trans hx215_0
             have HR215_0 := Aside0.mk hi215_0
             have HC215_0 := Aside0.mk hl215_0
             clear hi215_0 hl215_0
             replace p215 := eq_true p215
             replace q215 := eq_true q215
             have p15 : 0 ≤ (x31_2 : Int) := of_decide_eq_true (by first | (with_reducible assumption) | assumption)
             have q15 : (x31_2 : Int) < ((x6_2.length : Int) : Int) := of_decide_eq_true (by first | (with_reducible assumption) | assumption)
             obtain ⟨go15, co15, eo15, gb15, gl15, cl15, HG15⟩ := Kd.R_form HO_6.out (by omega)
             (first | cases eo15 | (injection eo15 with ea_ en_ ec_; (first | subst ea_ | (injection ea_ with ea_; subst ea_)); subst ec_; clear en_))
             have GB15 := Aside0.mk gb15
             have GG15 := Aside0.mk HG15
             clear gb15 gl15 HG15
             obtain ⟨hx15_0, hf15_0⟩ := Kd.R_celln 0 HO_6.out (x31_2 : Int) p15 q15
             replace p15 := eq_true p15
             replace q15 := eq_true q15
             have HP16 := Kd.R_putg HO_6.out (x31_2 : Int) (IntKind.u64.wrap (((rd_L4 l1 x31_2).length : Int)))
             go_wp2_with (first | ((with_reducible refine gate_store (t := 60) (p := 44) rfl ?_); refine store_event (t := 60) (p := 44) (v := ?vo_w17) (w1 := (wr.setCell ⟨go15, (x31_2 : Int).toNat, none⟩ (.int .u64 (IntKind.u64.wrap (((rd_L4 l1 x31_2).length : Int)))))) ?hg ?ho ?hn ?hr ?_; (case ho => rfl); (case hg => rfl); (case hn => rfl); (case hr => first | (go_simp; done) | (go_simp; rfl) | (go_simp; simp only [wAl, wAr, wSl, wSr, wW])); intro w17 hw; have hg : wr.grownBy w17 (some go15) := (by rw [hw]; exact HP16.2); have hp_ : Kd.R (Kd.int .u64) 60 w17 w.heap.size (fun _ => True) (.slice (some ⟨go15, 0, none⟩) x6_2.length co15) y216 := (by rw [hw, Ny216.out]; exact HP16.1); clear HP16; have n0_ := Aside0.mk (hp_); have n1_ := Aside0.mk ((by rw [hw]; exact below_set (HB.out) GB15.out : Below w.heap.size w w17)); clear HO_6; clear HB; have HO_6 := n0_; have HB := n1_; clear n0_ n1_; clear hg hw hp_))
             go_roundg k2
             case measure => have := HJ2.out; have := HK2.out; omega
             case rel => exact ⟨(y216), (wrap64 (x31_2 + 1)), (by first | rfl | (simp; done) | (simp [*]; done)), H', ⟨by have := HJ2.out; have := HK2.out; omega⟩, ⟨by (with_reducible repeat (first | apply Kd.R_alloc | apply Kd.R_drewN | apply Kd.R_drew)); exact HO_6.out⟩, ⟨by repeat (first | (with_reducible first | exact HB.out | apply below_alloc | apply pw_below_drewN | apply below_drew1) | exact HB.out)⟩⟩
            ·rw [if_neg c14] at H
             exact absurd H (by simp)
          ·rw [if_neg c12] at H
           exact absurd H (by simp)
         ·rw [if_neg c11] at H
          exact absurd H (by simp)
        ·rw [if_neg c10] at H
         have c10b0 : decide (x31_2 < (l1.length : Int)) = false := decide_eq_false c10
         clear c10
         replace H := Option.bind_eq_some_iff.mp H
         obtain ⟨t217, A180, H⟩ := H
         replace H : ((lz_Pack.f k2 t217).bind fun t220 => ((sym_Train.f l1).bind fun t223 => ((sym_PutTable.f ([] : List Int) t223).bind fun bt226 => ((sym_Encode.f k2 t223 t217).bind fun bt230 => (if (wrap64 ((bt226.1.length : Int) + (bt230.1.length : Int))) < (t220.length : Int) then (if bt226.1.length + bt230.1.length < 140737488355328 then ((bytes_Clone.f l0).bind fun t237 => (if t237.length < 140737488355328 then ((pfor_PutList.f k2 (t237 ++ [2]) x6_2).bind fun t243 => ((num_PutRow.f t243 (bt226.1 ++ bt230.1)).bind fun t246 => (some (t246, 0)))) else (none))) else (none)) else ((bytes_Clone.f l0).bind fun t249 => (if t249.length < 140737488355328 then ((pfor_PutList.f k2 (t249 ++ [1]) x6_2).bind fun t255 => ((num_PutRow.f t255 t220).bind fun t258 => (some (t258, 0)))) else (none)))))))) = some (r1, r2) := H
         have A18 := Aside0.mk A180
         clear A180
         replace H := Option.bind_eq_some_iff.mp H
         obtain ⟨t220, A190, H⟩ := H
         replace H : ((sym_Train.f l1).bind fun t223 => ((sym_PutTable.f ([] : List Int) t223).bind fun bt226 => ((sym_Encode.f k2 t223 t217).bind fun bt230 => (if (wrap64 ((bt226.1.length : Int) + (bt230.1.length : Int))) < (t220.length : Int) then (if bt226.1.length + bt230.1.length < 140737488355328 then ((bytes_Clone.f l0).bind fun t237 => (if t237.length < 140737488355328 then ((pfor_PutList.f k2 (t237 ++ [2]) x6_2).bind fun t243 => ((num_PutRow.f t243 (bt226.1 ++ bt230.1)).bind fun t246 => (some (t246, 0)))) else (none))) else (none)) else ((bytes_Clone.f l0).bind fun t249 => (if t249.length < 140737488355328 then ((pfor_PutList.f k2 (t249 ++ [1]) x6_2).bind fun t255 => ((num_PutRow.f t255 t220).bind fun t258 => (some (t258, 0)))) else (none))))))) = some (r1, r2) := H
         have A19 := Aside0.mk A190
         clear A190
         replace H := Option.bind_eq_some_iff.mp H
         obtain ⟨t223, A200, H⟩ := H
         replace H : ((sym_PutTable.f ([] : List Int) t223).bind fun bt226 => ((sym_Encode.f k2 t223 t217).bind fun bt230 => (if (wrap64 ((bt226.1.length : Int) + (bt230.1.length : Int))) < (t220.length : Int) then (if bt226.1.length + bt230.1.length < 140737488355328 then ((bytes_Clone.f l0).bind fun t237 => (if t237.length < 140737488355328 then ((pfor_PutList.f k2 (t237 ++ [2]) x6_2).bind fun t243 => ((num_PutRow.f t243 (bt226.1 ++ bt230.1)).bind fun t246 => (some (t246, 0)))) else (none))) else (none)) else ((bytes_Clone.f l0).bind fun t249 => (if t249.length < 140737488355328 then ((pfor_PutList.f k2 (t249 ++ [1]) x6_2).bind fun t255 => ((num_PutRow.f t255 t220).bind fun t258 => (some (t258, 0)))) else (none)))))) = some (r1, r2) := H
         have A20 := Aside0.mk A200
         clear A200
         replace H := Option.bind_eq_some_iff.mp H
         obtain ⟨⟨t226, t227⟩, A210, H⟩ := H
         replace H : ((sym_Encode.f k2 t223 t217).bind fun bt230 => (if (wrap64 ((t226.length : Int) + (bt230.1.length : Int))) < (t220.length : Int) then (if t226.length + bt230.1.length < 140737488355328 then ((bytes_Clone.f l0).bind fun t237 => (if t237.length < 140737488355328 then ((pfor_PutList.f k2 (t237 ++ [2]) x6_2).bind fun t243 => ((num_PutRow.f t243 (t226 ++ bt230.1)).bind fun t246 => (some (t246, 0)))) else (none))) else (none)) else ((bytes_Clone.f l0).bind fun t249 => (if t249.length < 140737488355328 then ((pfor_PutList.f k2 (t249 ++ [1]) x6_2).bind fun t255 => ((num_PutRow.f t255 t220).bind fun t258 => (some (t258, 0)))) else (none))))) = some (r1, r2) := H
         have A21 := Aside0.mk A210
         clear A210
         replace H := Option.bind_eq_some_iff.mp H
         obtain ⟨⟨t230, t231⟩, A220, H⟩ := H
         replace H : (if (wrap64 ((t226.length : Int) + (t230.length : Int))) < (t220.length : Int) then (if t226.length + t230.length < 140737488355328 then ((bytes_Clone.f l0).bind fun t237 => (if t237.length < 140737488355328 then ((pfor_PutList.f k2 (t237 ++ [2]) x6_2).bind fun t243 => ((num_PutRow.f t243 (t226 ++ t230)).bind fun t246 => (some (t246, 0)))) else (none))) else (none)) else ((bytes_Clone.f l0).bind fun t249 => (if t249.length < 140737488355328 then ((pfor_PutList.f k2 (t249 ++ [1]) x6_2).bind fun t255 => ((num_PutRow.f t255 t220).bind fun t258 => (some (t258, 0)))) else (none)))) = some (r1, r2) := H
         have A22 := Aside0.mk A220
         clear A220
         by_cases c23 : (wrap64 ((t226.length : Int) + (t230.length : Int))) < (t220.length : Int)
         ·rw [if_pos c23] at H
          have c23b0 : decide ((wrap64 ((t226.length : Int) + (t230.length : Int))) < (t220.length : Int)) = true := decide_eq_true c23
          clear c23
          by_cases c24 : t226.length + t230.length < 140737488355328
          ·rw [if_pos c24] at H
           have LMc24 := Aside0.mk c24
           clear c24
           obtain ⟨y234, hy234⟩ : ∃ y_ : List Int, y_ = (t226 ++ t230) := ⟨_, rfl⟩
           replace H : ((bytes_Clone.f l0).bind fun t237 => (if t237.length < 140737488355328 then ((pfor_PutList.f k2 (t237 ++ [2]) x6_2).bind fun t243 => ((num_PutRow.f t243 y234).bind fun t246 => (some (t246, 0)))) else (none))) = some (r1, r2) := by first | (rw [hy234]; with_reducible exact H) | (have H2_ := (Option.bind_some _ _).symm.trans H; rw [hy234]; with_reducible exact H2_) | (have H2_ := (Option.bind_some _ _).symm.trans H; with_reducible exact H2_) | with_reducible exact H | (rw [hy234]; exact H) | exact H
           have Ny234 := Aside0.mk hy234
           clear hy234
           replace H := Option.bind_eq_some_iff.mp H
           obtain ⟨t237, A250, H⟩ := H
           replace H : (if t237.length < 140737488355328 then ((pfor_PutList.f k2 (t237 ++ [2]) x6_2).bind fun t243 => ((num_PutRow.f t243 y234).bind fun t246 => (some (t246, 0)))) else (none)) = some (r1, r2) := H
           have A25 := Aside0.mk A250
           clear A250
           by_cases c26 : t237.length < 140737488355328
           ·rw [if_pos c26] at H
            have LMc26 := Aside0.mk c26
            clear c26
            obtain ⟨y240, hy240⟩ : ∃ y_ : List Int, y_ = (t237 ++ [2]) := ⟨_, rfl⟩
            replace H : ((pfor_PutList.f k2 y240 x6_2).bind fun t243 => ((num_PutRow.f t243 y234).bind fun t246 => (some (t246, 0)))) = some (r1, r2) := by first | (rw [hy240]; with_reducible exact H) | (have H2_ := (Option.bind_some _ _).symm.trans H; rw [hy240]; with_reducible exact H2_) | (have H2_ := (Option.bind_some _ _).symm.trans H; with_reducible exact H2_) | with_reducible exact H | (rw [hy240]; exact H) | exact H
            have Ny240 := Aside0.mk hy240
            clear hy240
            replace H := Option.bind_eq_some_iff.mp H
            obtain ⟨t243, A270, H⟩ := H
            replace H : ((num_PutRow.f t243 y234).bind fun t246 => (some (t246, 0))) = some (r1, r2) := H
            have A27 := Aside0.mk A270
            clear A270
            replace H := Option.bind_eq_some_iff.mp H
            obtain ⟨t246, A280, H⟩ := H
            replace H : (some (t246, 0)) = some (r1, r2) := H
            have A28 := Aside0.mk A280
            clear A280
            simp only [Option.some.injEq, Prod.mk.injEq] at H
            obtain ⟨rfl, rfl⟩ := H
            go_wp2_with (first | ((with_reducible refine gate_callee (f := 54) rfl ?_); refine goesL_ (some 47) rfl rfl Try.func54 (by kernel_rfl) rfl #[.slice A1 l1.length c1, .slice none 0 0] rfl (by (try simp only [List.map_toArray, List.map_cons, List.map_nil]); first | done | rfl | (simp only [List.length_drop, List.length_take]; rfl)) ?_; (refine (bytes_Join.calls _ _ l1 _ _ ([] : List Int) t217 _ ?side1 ?side2 ?side3 ?side4 A18.out).mono ?_); (case side1 => repeat (first | exact (Kd.C_below HR1.out HB.out) | (with_reducible refine Kd.C_alloc ?_ _) | (with_reducible refine Kd.C_drewN ?_ _) | (with_reducible refine Kd.C_drew ?_))); (case side2 => exact HC1.out); (case side3 => exact Kd.C_nil _ _); (case side4 => exact Nat.le_refl _); rintro e w29 ⟨v218, rfl, ho0, hb⟩; refine ⟨_, rfl, ?_⟩; have n0_ := rbA HO_6 hb; have n1_ := Aside0.mk (Kr.lower ho0 (below_size (by repeat (first | (with_reducible first | exact HB.out | apply below_alloc | apply pw_below_drewN | apply below_drew1) | exact HB.out)))); have n2_ := bsA HB hb; clear HO_6; clear HB; have HO_6 := n0_; have HO219 := n1_; have HB := n2_; clear n0_ n1_ n2_; (try clear hb); (try clear hb2); (try clear hk); (try clear hi); (try clear ho0); obtain ⟨Ao30, co30, eo30⟩ := Kr.slice HO219.out; subst eo30) | ((with_reducible refine gate_callee (f := 55) rfl ?_); refine goesL_ (some 49) rfl rfl Try.func55 (by kernel_rfl) rfl #[.slice Ao30 t217.length co30] rfl (by (try simp only [List.map_toArray, List.map_cons, List.map_nil]); first | done | rfl | (simp only [List.length_drop, List.length_take]; rfl)) ?_; (with_reducible refine (lz_Pack.calls k2 _ _ t217 t220 _ ?side1 ?side2 A19.out).mono ?_); (case side1 => repeat (first | exact (Kr.reads' HO219.out).2.2 | (with_reducible refine Kd.C_alloc ?_ _) | (with_reducible refine Kd.C_drewN ?_ _) | (with_reducible refine Kd.C_drew ?_))); (case side2 => exact (Kr.reads' HO219.out).2.1); rintro e w31 ⟨v221, rfl, ho0, hb⟩; refine ⟨_, rfl, ?_⟩; have n0_ := rbA HO_6 hb; have n1_ := rbK HO219 hb; have n2_ := Aside0.mk (Kd.R_lower (Kd.R_new' (u := .slice none 0 0) ho0 (fun _ hk => by cases hk)) (below_size (by repeat (first | (with_reducible first | exact HB.out | apply below_alloc | apply pw_below_drewN | apply below_drew1) | exact HB.out)))); have n3_ := bsA HB hb; clear HO_6; clear HO219; clear HB; have HO_6 := n0_; have HO219 := n1_; have HO222 := n2_; have HB := n3_; clear n0_ n1_ n2_ n3_; (try clear hb); (try clear hb2); (try clear hk); (try clear hi); (try clear ho0)) | ((with_reducible refine gate_callee (f := 28) rfl ?_); refine goesL_ (some 51) rfl rfl Try.func28 (by kernel_rfl) rfl #[.slice A1 l1.length c1] rfl (by (try simp only [List.map_toArray, List.map_cons, List.map_nil]); first | done | rfl | (simp only [List.length_drop, List.length_take]; rfl)) ?_; (with_reducible refine (sym_Train.calls _ _ l1 t223 _ ?side1 ?side2 A20.out).mono ?_); (case side1 => repeat (first | exact (Kd.C_below HR1.out HB.out) | (with_reducible refine Kd.C_alloc ?_ _) | (with_reducible refine Kd.C_drewN ?_ _) | (with_reducible refine Kd.C_drew ?_))); (case side2 => exact HC1.out); rintro e w32 ⟨v224, rfl, ho0, hb⟩; refine ⟨_, rfl, ?_⟩; have n0_ := rbA HO_6 hb; have n1_ := rbK HO219 hb; have n2_ := rbA HO222 hb; have n3_ := Aside0.mk (Kd.R_lower ho0 (below_size (by repeat (first | (with_reducible first | exact HB.out | apply below_alloc | apply pw_below_drewN | apply below_drew1) | exact HB.out)))); have n4_ := bsA HB hb; clear HO_6; clear HO219; clear HO222; clear HB; have HO_6 := n0_; have HO219 := n1_; have HO222 := n2_; have HO225 := n3_; have HB := n4_; clear n0_ n1_ n2_ n3_ n4_; (try clear hb); (try clear hb2); (try clear hk); (try clear hi); (try clear ho0); obtain ⟨Ao33, co33, eo33⟩ := Kd.R_slice HO225.out; subst eo33) | ((with_reducible refine gate_callee (f := 24) rfl ?_); refine goesL_ (some 54) rfl rfl Try.func24 (by kernel_rfl) rfl #[.slice none 0 0, .slice Ao33 t223.length co33] rfl (by (try simp only [List.map_toArray, List.map_cons, List.map_nil]); first | done | rfl | (simp only [List.length_drop, List.length_take]; rfl)) ?_; (refine (sym_PutTable.calls _ _ ([] : List Int) _ _ t223 t226 t227 _ ?side1 ?side2 ?side3 ?side4 A21.out).mono ?_); (case side1 => exact Kd.C_nil _ _); (case side2 => exact Nat.le_refl _); (case side3 => repeat (first | exact (Kd.R_reads' HO225.out).2.2 | (with_reducible refine Kd.C_alloc ?_ _) | (with_reducible refine Kd.C_drewN ?_ _) | (with_reducible refine Kd.C_drew ?_))); (case side4 => exact (Kd.R_reads' HO225.out).2.1); rintro e w34 ⟨v228, rfl, ho0, hb⟩; refine ⟨_, rfl, ?_⟩; have n0_ := rbA HO_6 hb; have n1_ := rbK HO219 hb; have n2_ := Aside0.mk (Kd.R_elder' (by (with_reducible repeat (first | apply Kd.R_alloc | apply Kd.R_drewN | apply Kd.R_drew)); exact HO222.out) (Kd.R_base ho0) hb); have n3_ := rbA HO225 hb; have n4_ := Aside0.mk (Kd.R_lower (Kd.R_new' (Kd.R_new' (u := .slice none 0 0) ho0 (fun _ hk => by cases hk)) (Kd.R_lt (by (with_reducible repeat (first | apply Kd.R_alloc | apply Kd.R_drewN | apply Kd.R_drew)); exact HO222.out))) (below_size (by repeat (first | (with_reducible first | exact HB.out | apply below_alloc | apply pw_below_drewN | apply below_drew1) | exact HB.out)))); have n5_ := bsA HB hb; clear HO_6; clear HO219; clear HO222; clear HO225; clear HB; have HO_6 := n0_; have HO219 := n1_; have HO222 := n2_; have HO225 := n3_; have HO229 := n4_; have HB := n5_; clear n0_ n1_ n2_ n3_ n4_ n5_; (try clear hb); (try clear hb2); (try clear hk); (try clear hi); (try clear ho0)) | ((with_reducible refine gate_callee (f := 16) rfl ?_); refine goesL_ (some 60) rfl rfl Try.func16 (by kernel_rfl) rfl #[.slice Ao33 t223.length co33, .slice Ao30 t217.length co30] rfl (by (try simp only [List.map_toArray, List.map_cons, List.map_nil]); first | done | rfl | (simp only [List.length_drop, List.length_take]; rfl)) ?_; (with_reducible refine (sym_Encode.calls k2 _ _ t223 _ _ t217 t230 t231 _ ?side1 ?side2 ?side3 ?side4 A22.out).mono ?_); (case side1 => repeat (first | exact (Kd.R_reads' HO225.out).2.2 | (with_reducible refine Kd.C_alloc ?_ _) | (with_reducible refine Kd.C_drewN ?_ _) | (with_reducible refine Kd.C_drew ?_))); (case side2 => exact (Kd.R_reads' HO225.out).2.1); (case side3 => repeat (first | exact (Kr.reads' HO219.out).2.2 | (with_reducible refine Kd.C_alloc ?_ _) | (with_reducible refine Kd.C_drewN ?_ _) | (with_reducible refine Kd.C_drew ?_))); (case side4 => exact (Kr.reads' HO219.out).2.1); rintro e w35 ⟨v232, rfl, ho0, hb⟩; refine ⟨_, rfl, ?_⟩; have n0_ := rbA HO_6 hb; have n1_ := rbK HO219 hb; have n2_ := Aside0.mk (Kd.R_elder' (by (with_reducible repeat (first | apply Kd.R_alloc | apply Kd.R_drewN | apply Kd.R_drew)); exact HO222.out) (Kd.R_base ho0) hb); have n3_ := rbA HO225 hb; have n4_ := Aside0.mk (Kd.R_elder' (by (with_reducible repeat (first | apply Kd.R_alloc | apply Kd.R_drewN | apply Kd.R_drew)); exact HO229.out) (Kd.R_base ho0) hb); have n5_ := Aside0.mk (Kd.R_lower (Kd.R_new' (Kd.R_new' (Kd.R_new' (u := .slice none 0 0) ho0 (fun _ hk => by cases hk)) (Kd.R_lt (by (with_reducible repeat (first | apply Kd.R_alloc | apply Kd.R_drewN | apply Kd.R_drew)); exact HO222.out))) (Kd.R_lt (by (with_reducible repeat (first | apply Kd.R_alloc | apply Kd.R_drewN | apply Kd.R_drew)); exact HO229.out))) (below_size (by repeat (first | (with_reducible first | exact HB.out | apply below_alloc | apply pw_below_drewN | apply below_drew1) | exact HB.out)))); have n6_ := bsA HB hb; clear HO_6; clear HO219; clear HO222; clear HO225; clear HO229; clear HB; have HO_6 := n0_; have HO219 := n1_; have HO222 := n2_; have HO225 := n3_; have HO229 := n4_; have HO233 := n5_; have HB := n6_; clear n0_ n1_ n2_ n3_ n4_ n5_ n6_; (try clear hb); (try clear hb2); (try clear hk); (try clear hi); (try clear ho0); obtain ⟨Ao36, co36, eo36⟩ := Kd.R_slice HO229.out; subst eo36; obtain ⟨Ao37, co37, eo37⟩ := Kd.R_slice HO233.out; subst eo37; obtain ⟨Ao38, co38, eo38⟩ := Kd.R_slice HO222.out; subst eo38) | ((with_reducible refine gate_builtin (b := .append) (xs := #[.tmp 71, .tmp 72]) rfl ?_); (try (refine gate_guard (by rfl) ?_; dsimp only)); at_builtin; refine Kd.R_append_rows (Kd.int .u8) (w0 := w) w.heap.size rfl (.tmp 71) (.tmp 72) 23 5 (.int .u8 0) 1 rfl Try.underlying23 info5 rfl (by decide) (by omega) (.slice Ao36 t226.length co36) t226 t230 _ _ _ (fun k_ => some k_ ≠ (.slice none 0 0 : Value).ownBlock ∧ some k_ ≠ (.slice Ao38 t220.length co38 : Value).ownBlock ∧ some k_ ≠ (.slice Ao37 t230.length co37 : Value).ownBlock) (fun _ => False) rfl rfl ?aO ?aR (fun _ _ h => h) (fun _ h => h.elim) ?aF ?aB ?aS ?aL ?_; (case aR => repeat (first | exact (Kd.R_reads' HO233.out).2.2 | (with_reducible refine Kd.C_alloc ?_ _) | (with_reducible refine Kd.C_drewN ?_ _) | (with_reducible refine Kd.C_drew ?_))); (case aB => exact (by repeat (first | (with_reducible first | exact HB.out | apply below_alloc | apply pw_below_drewN | apply below_drew1) | exact HB.out))); (case aF => exact (fun k_ hk => ⟨(by simp [Value.ownBlock]), Kd.fresh' (Kd.R_lt (by (with_reducible repeat (first | apply Kd.R_alloc | apply Kd.R_drewN | apply Kd.R_drew)); exact HO222.out)) k_ hk, Kd.fresh' (Kd.R_lt (by (with_reducible repeat (first | apply Kd.R_alloc | apply Kd.R_drewN | apply Kd.R_drew)); exact HO233.out)) k_ hk⟩)); (case aO => exact (by (with_reducible repeat (first | apply Kd.R_alloc | apply Kd.R_drewN | apply Kd.R_drew)); exact Kd.R_mono HO229.out (fun _ hk => ⟨hk.1.1.2, ⟨hk.1.2, hk.2⟩⟩))); (case aS => exact (below_size (by repeat (first | (with_reducible first | exact HB.out | apply below_alloc | apply pw_below_drewN | apply below_drew1) | exact HB.out)))); (case aL => have := LMc24.out; omega); intro v235 w39 ho hb hg hat; rw [← Ny234.out] at ho; have n0_ := Aside0.mk (Kd.R_over' (by (with_reducible repeat (first | apply Kd.R_alloc | apply Kd.R_drewN | apply Kd.R_drew)); exact HO_6.out) (Kd.R_typed (by (with_reducible repeat (first | apply Kd.R_alloc | apply Kd.R_drewN | apply Kd.R_drew)); exact HO229.out)) (by decide) hg); have n1_ := Aside0.mk trivial; have n2_ := Aside0.mk (Kd.R_after (ok := (fun k_ => some k_ ≠ (.slice none 0 0 : Value).ownBlock ∧ some k_ ≠ (.slice Ao37 t230.length co37 : Value).ownBlock)) (by (with_reducible repeat (first | apply Kd.R_alloc | apply Kd.R_drewN | apply Kd.R_drew)); exact Kd.R_mono HO222.out (fun _ hk => ⟨⟨hk.1.1.2, hk.2⟩, hk.1.2⟩)) hg hat); have n3_ := Aside0.mk (Kd.R_over' (by (with_reducible repeat (first | apply Kd.R_alloc | apply Kd.R_drewN | apply Kd.R_drew)); exact HO225.out) (Kd.R_typed (by (with_reducible repeat (first | apply Kd.R_alloc | apply Kd.R_drewN | apply Kd.R_drew)); exact HO229.out)) (by decide) hg); have n4_ := Aside0.mk (Kd.R_after (ok := (fun k_ => some k_ ≠ (.slice none 0 0 : Value).ownBlock ∧ some k_ ≠ (.slice Ao38 t220.length co38 : Value).ownBlock)) (by (with_reducible repeat (first | apply Kd.R_alloc | apply Kd.R_drewN | apply Kd.R_drew)); exact Kd.R_mono HO233.out (fun _ hk => ⟨⟨hk.1.1.2, hk.1.2⟩, hk.2⟩)) hg hat); have n5_ := Aside0.mk (hb); have n6_ := Aside0.mk (ho); clear HO_6; clear HO219; clear HO222; clear HO225; clear HO233; clear HB; clear HO229; have HO_6 := n0_; have HO219 := n1_; have HO222 := n2_; have HO225 := n3_; have HO233 := n4_; have HB := n5_; have HO236 := n6_; clear n0_ n1_ n2_ n3_ n4_ n5_ n6_; clear ho hb hg hat) | ((with_reducible refine gate_callee (f := 56) rfl ?_); refine goesL_ (some 75) rfl rfl Try.func56 (by kernel_rfl) rfl #[.slice A0 l0.length c0] rfl (by (try simp only [List.map_toArray, List.map_cons, List.map_nil]); first | done | rfl | (simp only [List.length_drop, List.length_take]; rfl)) ?_; (with_reducible refine (bytes_Clone.calls _ _ l0 t237 _ ?side1 ?side2 A25.out).mono ?_); (case side1 => repeat (first | exact (Kd.C_below HR0.out HB.out) | (with_reducible refine Kd.C_alloc ?_ _) | (with_reducible refine Kd.C_drewN ?_ _) | (with_reducible refine Kd.C_drew ?_))); (case side2 => exact HC0.out); rintro e w40 ⟨v238, rfl, ho0, hb⟩; refine ⟨_, rfl, ?_⟩; have n0_ := rbA HO_6 hb; have n1_ := Aside0.mk trivial; have n2_ := Aside0.mk (Kd.R_elder' (by (with_reducible repeat (first | apply Kd.R_alloc | apply Kd.R_drewN | apply Kd.R_drew)); exact HO222.out) (Kd.R_base ho0) hb); have n3_ := rbA HO225 hb; have n4_ := Aside0.mk (Kd.R_elder' (by (with_reducible repeat (first | apply Kd.R_alloc | apply Kd.R_drewN | apply Kd.R_drew)); exact HO233.out) (Kd.R_base ho0) hb); have n5_ := Aside0.mk (Kd.R_elder' (by (with_reducible repeat (first | apply Kd.R_alloc | apply Kd.R_drewN | apply Kd.R_drew)); exact HO236.out) (Kd.R_base ho0) hb); have n6_ := Aside0.mk (Kd.R_lower (Kd.R_new' (Kd.R_new' (Kd.R_new' (Kd.R_new' (u := .slice none 0 0) ho0 (fun _ hk => by cases hk)) (Kd.R_lt (by (with_reducible repeat (first | apply Kd.R_alloc | apply Kd.R_drewN | apply Kd.R_drew)); exact HO222.out))) (Kd.R_lt (by (with_reducible repeat (first | apply Kd.R_alloc | apply Kd.R_drewN | apply Kd.R_drew)); exact HO233.out))) (Kd.R_lt (by (with_reducible repeat (first | apply Kd.R_alloc | apply Kd.R_drewN | apply Kd.R_drew)); exact HO236.out))) (below_size (by repeat (first | (with_reducible first | exact HB.out | apply below_alloc | apply pw_below_drewN | apply below_drew1) | exact HB.out)))); have n7_ := bsA HB hb; clear HO_6; clear HO219; clear HO222; clear HO225; clear HO233; clear HO236; clear HB; have HO_6 := n0_; have HO219 := n1_; have HO222 := n2_; have HO225 := n3_; have HO233 := n4_; have HO236 := n5_; have HO239 := n6_; have HB := n7_; clear n0_ n1_ n2_ n3_ n4_ n5_ n6_ n7_; (try clear hb); (try clear hb2); (try clear hk); (try clear hi); (try clear ho0)) | ((with_reducible refine gate_builtin (b := .append) (xs := #[.tmp 75, .tmp 77]) rfl ?_); (try (refine gate_guard (by rfl) ?_; dsimp only)); at_builtin; refine Kd.R_append (Kd.int .u8) (w0 := w) w.heap.size rfl (.tmp 75) (.tmp 77) 23 5 (.int .u8 0) 1 rfl Try.underlying23 info5 rfl (by decide) (by omega) v238 t237 2 [.int .u8 2] (fun k_ => some k_ ≠ (.slice none 0 0 : Value).ownBlock ∧ some k_ ≠ (.slice Ao38 t220.length co38 : Value).ownBlock ∧ some k_ ≠ (.slice Ao37 t230.length co37 : Value).ownBlock ∧ some k_ ≠ (v235 : Value).ownBlock) (fun _ => False) rfl rfl ?aP (fun _ hk => hk.elim) ?aF ?aO ?aB ?aS ?aL ?_; (case aP => exact rfl); (case aB => exact (by repeat (first | (with_reducible first | exact HB.out | apply below_alloc | apply pw_below_drewN | apply below_drew1) | exact HB.out))); (case aF => exact (fun k_ hk => ⟨(by simp [Value.ownBlock]), Kd.fresh' (Kd.R_lt (by (with_reducible repeat (first | apply Kd.R_alloc | apply Kd.R_drewN | apply Kd.R_drew)); exact HO222.out)) k_ hk, Kd.fresh' (Kd.R_lt (by (with_reducible repeat (first | apply Kd.R_alloc | apply Kd.R_drewN | apply Kd.R_drew)); exact HO233.out)) k_ hk, Kd.fresh' (Kd.R_lt (by (with_reducible repeat (first | apply Kd.R_alloc | apply Kd.R_drewN | apply Kd.R_drew)); exact HO236.out)) k_ hk⟩)); (case aO => exact (by (with_reducible repeat (first | apply Kd.R_alloc | apply Kd.R_drewN | apply Kd.R_drew)); exact Kd.R_mono HO239.out (fun _ hk => ⟨hk.1.1.1.2, ⟨hk.1.1.2, ⟨hk.1.2, hk.2⟩⟩⟩))); (case aS => exact (below_size (by repeat (first | (with_reducible first | exact HB.out | apply below_alloc | apply pw_below_drewN | apply below_drew1) | exact HB.out)))); (case aL => have := LMc26.out; omega); intro v241 w41 ho hb hg hat; rw [← Ny240.out] at ho; have n0_ := Aside0.mk (Kd.R_over' (by (with_reducible repeat (first | apply Kd.R_alloc | apply Kd.R_drewN | apply Kd.R_drew)); exact HO_6.out) (Kd.R_typed (by (with_reducible repeat (first | apply Kd.R_alloc | apply Kd.R_drewN | apply Kd.R_drew)); exact HO239.out)) (by decide) hg); have n1_ := Aside0.mk trivial; have n2_ := Aside0.mk (Kd.R_after (ok := (fun k_ => some k_ ≠ (.slice none 0 0 : Value).ownBlock ∧ some k_ ≠ (.slice Ao37 t230.length co37 : Value).ownBlock ∧ some k_ ≠ (v235 : Value).ownBlock)) (by (with_reducible repeat (first | apply Kd.R_alloc | apply Kd.R_drewN | apply Kd.R_drew)); exact Kd.R_mono HO222.out (fun _ hk => ⟨⟨hk.1.1.1, ⟨hk.1.1.2, hk.1.2⟩⟩, hk.2⟩)) hg hat); have n3_ := Aside0.mk (Kd.R_over' (by (with_reducible repeat (first | apply Kd.R_alloc | apply Kd.R_drewN | apply Kd.R_drew)); exact HO225.out) (Kd.R_typed (by (with_reducible repeat (first | apply Kd.R_alloc | apply Kd.R_drewN | apply Kd.R_drew)); exact HO239.out)) (by decide) hg); have n4_ := Aside0.mk (Kd.R_after (ok := (fun k_ => some k_ ≠ (.slice none 0 0 : Value).ownBlock ∧ some k_ ≠ (.slice Ao38 t220.length co38 : Value).ownBlock ∧ some k_ ≠ (v235 : Value).ownBlock)) (by (with_reducible repeat (first | apply Kd.R_alloc | apply Kd.R_drewN | apply Kd.R_drew)); exact Kd.R_mono HO233.out (fun _ hk => ⟨⟨hk.1.1.1, ⟨hk.1.1.2, hk.1.2⟩⟩, hk.2⟩)) hg hat); have n5_ := Aside0.mk (Kd.R_after (ok := (fun k_ => some k_ ≠ (.slice none 0 0 : Value).ownBlock ∧ some k_ ≠ (.slice Ao38 t220.length co38 : Value).ownBlock ∧ some k_ ≠ (.slice Ao37 t230.length co37 : Value).ownBlock)) (by (with_reducible repeat (first | apply Kd.R_alloc | apply Kd.R_drewN | apply Kd.R_drew)); exact HO236.out) hg hat); have n6_ := Aside0.mk (hb); have n7_ := Aside0.mk (ho); clear HO_6; clear HO219; clear HO222; clear HO225; clear HO233; clear HO236; clear HB; clear HO239; have HO_6 := n0_; have HO219 := n1_; have HO222 := n2_; have HO225 := n3_; have HO233 := n4_; have HO236 := n5_; have HB := n6_; have HO242 := n7_; clear n0_ n1_ n2_ n3_ n4_ n5_ n6_ n7_; clear ho hb hg hat; obtain ⟨Ao42, co42, eo42⟩ := Kd.R_slice HO242.out; subst eo42; obtain ⟨Ao43, co43, eo43⟩ := Kd.R_slice HO_6.out; subst eo43) | ((with_reducible refine gate_callee (f := 57) rfl ?_); refine goesL_ (some 81) rfl rfl Try.func57 (by kernel_rfl) rfl #[.slice Ao42 y240.length co42, .slice Ao43 x6_2.length co43] rfl (by (try simp only [List.map_toArray, List.map_cons, List.map_nil]); first | done | rfl | (simp only [List.length_drop, List.length_take]; rfl)) ?_; (with_reducible refine (pfor_PutList.calls k2 _ _ y240 _ _ x6_2 t243 _ ?side1 ?side2 ?side3 ?side4 A27.out).mono ?_); (case side1 => repeat (first | exact (Kd.R_reads' HO242.out).2.2 | (with_reducible refine Kd.C_alloc ?_ _) | (with_reducible refine Kd.C_drewN ?_ _) | (with_reducible refine Kd.C_drew ?_))); (case side2 => exact (Kd.R_reads' HO242.out).2.1); (case side3 => repeat (first | exact (Kd.R_reads' HO_6.out).2.2 | (with_reducible refine Kd.C_alloc ?_ _) | (with_reducible refine Kd.C_drewN ?_ _) | (with_reducible refine Kd.C_drew ?_))); (case side4 => exact (Kd.R_reads' HO_6.out).2.1); rintro e w44 ⟨v244, rfl, ho0, hb⟩; refine ⟨_, rfl, ?_⟩; have n0_ := rbA HO_6 hb; have n1_ := Aside0.mk trivial; have n2_ := Aside0.mk (Kd.R_elder' (by (with_reducible repeat (first | apply Kd.R_alloc | apply Kd.R_drewN | apply Kd.R_drew)); exact HO222.out) (Kd.R_base ho0) hb); have n3_ := rbA HO225 hb; have n4_ := Aside0.mk (Kd.R_elder' (by (with_reducible repeat (first | apply Kd.R_alloc | apply Kd.R_drewN | apply Kd.R_drew)); exact HO233.out) (Kd.R_base ho0) hb); have n5_ := Aside0.mk (Kd.R_elder' (by (with_reducible repeat (first | apply Kd.R_alloc | apply Kd.R_drewN | apply Kd.R_drew)); exact HO236.out) (Kd.R_base ho0) hb); have n6_ := Aside0.mk (Kd.R_elder' (by (with_reducible repeat (first | apply Kd.R_alloc | apply Kd.R_drewN | apply Kd.R_drew)); exact HO242.out) (Kd.R_base ho0) hb); have n7_ := Aside0.mk (Kd.R_lower (Kd.R_new' (Kd.R_new' (Kd.R_new' (Kd.R_new' (Kd.R_new' (u := .slice none 0 0) ho0 (fun _ hk => by cases hk)) (Kd.R_lt (by (with_reducible repeat (first | apply Kd.R_alloc | apply Kd.R_drewN | apply Kd.R_drew)); exact HO222.out))) (Kd.R_lt (by (with_reducible repeat (first | apply Kd.R_alloc | apply Kd.R_drewN | apply Kd.R_drew)); exact HO233.out))) (Kd.R_lt (by (with_reducible repeat (first | apply Kd.R_alloc | apply Kd.R_drewN | apply Kd.R_drew)); exact HO236.out))) (Kd.R_lt (by (with_reducible repeat (first | apply Kd.R_alloc | apply Kd.R_drewN | apply Kd.R_drew)); exact HO242.out))) (below_size (by repeat (first | (with_reducible first | exact HB.out | apply below_alloc | apply pw_below_drewN | apply below_drew1) | exact HB.out)))); have n8_ := bsA HB hb; clear HO_6; clear HO219; clear HO222; clear HO225; clear HO233; clear HO236; clear HO242; clear HB; have HO_6 := n0_; have HO219 := n1_; have HO222 := n2_; have HO225 := n3_; have HO233 := n4_; have HO236 := n5_; have HO242 := n6_; have HO245 := n7_; have HB := n8_; clear n0_ n1_ n2_ n3_ n4_ n5_ n6_ n7_ n8_; (try clear hb); (try clear hb2); (try clear hk); (try clear hi); (try clear ho0); obtain ⟨Ao45, co45, eo45⟩ := Kd.R_slice HO245.out; subst eo45; obtain ⟨Ao46, co46, eo46⟩ := Kd.R_slice HO236.out; subst eo46) | ((with_reducible refine gate_callee (f := 40) rfl ?_); refine goesL_ (some 83) rfl rfl Try.func40 (by kernel_rfl) rfl #[.slice Ao45 t243.length co45, .slice Ao46 y234.length co46] rfl (by (try simp only [List.map_toArray, List.map_cons, List.map_nil]); first | done | rfl | (simp only [List.length_drop, List.length_take]; rfl)) ?_; (with_reducible refine (num_PutRow.calls _ _ t243 _ _ y234 t246 _ ?side1 ?side2 ?side3 ?side4 A28.out).mono ?_); (case side1 => repeat (first | exact (Kd.R_reads' HO245.out).2.2 | (with_reducible refine Kd.C_alloc ?_ _) | (with_reducible refine Kd.C_drewN ?_ _) | (with_reducible refine Kd.C_drew ?_))); (case side2 => exact (Kd.R_reads' HO245.out).2.1); (case side3 => repeat (first | exact (Kd.R_reads' HO236.out).2.2 | (with_reducible refine Kd.C_alloc ?_ _) | (with_reducible refine Kd.C_drewN ?_ _) | (with_reducible refine Kd.C_drew ?_))); (case side4 => exact (Kd.R_reads' HO236.out).2.1); rintro e w47 ⟨v247, rfl, ho0, hb⟩; refine ⟨_, rfl, ?_⟩; have n0_ := rbA HO_6 hb; have n1_ := Aside0.mk trivial; have n2_ := Aside0.mk (Kd.R_elder' (by (with_reducible repeat (first | apply Kd.R_alloc | apply Kd.R_drewN | apply Kd.R_drew)); exact HO222.out) (Kd.R_base ho0) hb); have n3_ := rbA HO225 hb; have n4_ := Aside0.mk (Kd.R_elder' (by (with_reducible repeat (first | apply Kd.R_alloc | apply Kd.R_drewN | apply Kd.R_drew)); exact HO233.out) (Kd.R_base ho0) hb); have n5_ := Aside0.mk (Kd.R_elder' (by (with_reducible repeat (first | apply Kd.R_alloc | apply Kd.R_drewN | apply Kd.R_drew)); exact HO236.out) (Kd.R_base ho0) hb); have n6_ := Aside0.mk (Kd.R_elder' (by (with_reducible repeat (first | apply Kd.R_alloc | apply Kd.R_drewN | apply Kd.R_drew)); exact HO242.out) (Kd.R_base ho0) hb); have n7_ := Aside0.mk (Kd.R_elder' (by (with_reducible repeat (first | apply Kd.R_alloc | apply Kd.R_drewN | apply Kd.R_drew)); exact HO245.out) (Kd.R_base ho0) hb); have n8_ := Aside0.mk (Kd.R_lower (Kd.R_new' (Kd.R_new' (Kd.R_new' (Kd.R_new' (Kd.R_new' (Kd.R_new' (u := .slice none 0 0) ho0 (fun _ hk => by cases hk)) (Kd.R_lt (by (with_reducible repeat (first | apply Kd.R_alloc | apply Kd.R_drewN | apply Kd.R_drew)); exact HO222.out))) (Kd.R_lt (by (with_reducible repeat (first | apply Kd.R_alloc | apply Kd.R_drewN | apply Kd.R_drew)); exact HO233.out))) (Kd.R_lt (by (with_reducible repeat (first | apply Kd.R_alloc | apply Kd.R_drewN | apply Kd.R_drew)); exact HO236.out))) (Kd.R_lt (by (with_reducible repeat (first | apply Kd.R_alloc | apply Kd.R_drewN | apply Kd.R_drew)); exact HO242.out))) (Kd.R_lt (by (with_reducible repeat (first | apply Kd.R_alloc | apply Kd.R_drewN | apply Kd.R_drew)); exact HO245.out))) (below_size (by repeat (first | (with_reducible first | exact HB.out | apply below_alloc | apply pw_below_drewN | apply below_drew1) | exact HB.out)))); have n9_ := bsA HB hb; clear HO_6; clear HO219; clear HO222; clear HO225; clear HO233; clear HO236; clear HO242; clear HO245; clear HB; have HO_6 := n0_; have HO219 := n1_; have HO222 := n2_; have HO225 := n3_; have HO233 := n4_; have HO236 := n5_; have HO242 := n6_; have HO245 := n7_; have HO248 := n8_; have HB := n9_; clear n0_ n1_ n2_ n3_ n4_ n5_ n6_ n7_ n8_ n9_; (try clear hb); (try clear hb2); (try clear hk); (try clear hi); (try clear ho0)))
            go_ret2
            exact ⟨_, by first | rfl | (simp [errW_none, errW_some] <;> rfl) | (simp [*, errW_none, errW_some] <;> rfl), by (with_reducible repeat (first | apply Kd.R_alloc | apply Kd.R_drewN | apply Kd.R_drew)); exact Kd.R_mono HO248.out (fun _ hk => trivial), by repeat (first | (with_reducible first | exact HB.out | apply below_alloc | apply pw_below_drewN | apply below_drew1) | exact HB.out)⟩
           ·rw [if_neg c26] at H
            exact absurd H (by simp)
          ·rw [if_neg c24] at H
           exact absurd H (by simp)
         ·rw [if_neg c23] at H
          have c23b0 : decide ((wrap64 ((t226.length : Int) + (t230.length : Int))) < (t220.length : Int)) = false := decide_eq_false c23
          clear c23
          replace H := Option.bind_eq_some_iff.mp H
          obtain ⟨t249, A480, H⟩ := H
          replace H : (if t249.length < 140737488355328 then ((pfor_PutList.f k2 (t249 ++ [1]) x6_2).bind fun t255 => ((num_PutRow.f t255 t220).bind fun t258 => (some (t258, 0)))) else (none)) = some (r1, r2) := H
          have A48 := Aside0.mk A480
          clear A480
          by_cases c49 : t249.length < 140737488355328
          ·rw [if_pos c49] at H
           have LMc49 := Aside0.mk c49
           clear c49
           obtain ⟨y252, hy252⟩ : ∃ y_ : List Int, y_ = (t249 ++ [1]) := ⟨_, rfl⟩
           replace H : ((pfor_PutList.f k2 y252 x6_2).bind fun t255 => ((num_PutRow.f t255 t220).bind fun t258 => (some (t258, 0)))) = some (r1, r2) := by first | (rw [hy252]; with_reducible exact H) | (have H2_ := (Option.bind_some _ _).symm.trans H; rw [hy252]; with_reducible exact H2_) | (have H2_ := (Option.bind_some _ _).symm.trans H; with_reducible exact H2_) | with_reducible exact H | (rw [hy252]; exact H) | exact H
           have Ny252 := Aside0.mk hy252
           clear hy252
           replace H := Option.bind_eq_some_iff.mp H
           obtain ⟨t255, A500, H⟩ := H
           replace H : ((num_PutRow.f t255 t220).bind fun t258 => (some (t258, 0))) = some (r1, r2) := H
           have A50 := Aside0.mk A500
           clear A500
           replace H := Option.bind_eq_some_iff.mp H
           obtain ⟨t258, A510, H⟩ := H
           replace H : (some (t258, 0)) = some (r1, r2) := H
           have A51 := Aside0.mk A510
           clear A510
           simp only [Option.some.injEq, Prod.mk.injEq] at H
           obtain ⟨rfl, rfl⟩ := H
           go_wp2_with (first | ((with_reducible refine gate_callee (f := 54) rfl ?_); refine goesL_ (some 47) rfl rfl Try.func54 (by kernel_rfl) rfl #[.slice A1 l1.length c1, .slice none 0 0] rfl (by (try simp only [List.map_toArray, List.map_cons, List.map_nil]); first | done | rfl | (simp only [List.length_drop, List.length_take]; rfl)) ?_; (refine (bytes_Join.calls _ _ l1 _ _ ([] : List Int) t217 _ ?side1 ?side2 ?side3 ?side4 A18.out).mono ?_); (case side1 => repeat (first | exact (Kd.C_below HR1.out HB.out) | (with_reducible refine Kd.C_alloc ?_ _) | (with_reducible refine Kd.C_drewN ?_ _) | (with_reducible refine Kd.C_drew ?_))); (case side2 => exact HC1.out); (case side3 => exact Kd.C_nil _ _); (case side4 => exact Nat.le_refl _); rintro e w52 ⟨v218, rfl, ho0, hb⟩; refine ⟨_, rfl, ?_⟩; have n0_ := rbA HO_6 hb; have n1_ := Aside0.mk (Kr.lower ho0 (below_size (by repeat (first | (with_reducible first | exact HB.out | apply below_alloc | apply pw_below_drewN | apply below_drew1) | exact HB.out)))); have n2_ := bsA HB hb; clear HO_6; clear HB; have HO_6 := n0_; have HO219 := n1_; have HB := n2_; clear n0_ n1_ n2_; (try clear hb); (try clear hb2); (try clear hk); (try clear hi); (try clear ho0); obtain ⟨Ao53, co53, eo53⟩ := Kr.slice HO219.out; subst eo53) | ((with_reducible refine gate_callee (f := 55) rfl ?_); refine goesL_ (some 49) rfl rfl Try.func55 (by kernel_rfl) rfl #[.slice Ao53 t217.length co53] rfl (by (try simp only [List.map_toArray, List.map_cons, List.map_nil]); first | done | rfl | (simp only [List.length_drop, List.length_take]; rfl)) ?_; (with_reducible refine (lz_Pack.calls k2 _ _ t217 t220 _ ?side1 ?side2 A19.out).mono ?_); (case side1 => repeat (first | exact (Kr.reads' HO219.out).2.2 | (with_reducible refine Kd.C_alloc ?_ _) | (with_reducible refine Kd.C_drewN ?_ _) | (with_reducible refine Kd.C_drew ?_))); (case side2 => exact (Kr.reads' HO219.out).2.1); rintro e w54 ⟨v221, rfl, ho0, hb⟩; refine ⟨_, rfl, ?_⟩; have n0_ := rbA HO_6 hb; have n1_ := rbK HO219 hb; have n2_ := Aside0.mk (Kd.R_lower (Kd.R_new' (u := .slice none 0 0) ho0 (fun _ hk => by cases hk)) (below_size (by repeat (first | (with_reducible first | exact HB.out | apply below_alloc | apply pw_below_drewN | apply below_drew1) | exact HB.out)))); have n3_ := bsA HB hb; clear HO_6; clear HO219; clear HB; have HO_6 := n0_; have HO219 := n1_; have HO222 := n2_; have HB := n3_; clear n0_ n1_ n2_ n3_; (try clear hb); (try clear hb2); (try clear hk); (try clear hi); (try clear ho0)) | ((with_reducible refine gate_callee (f := 28) rfl ?_); refine goesL_ (some 51) rfl rfl Try.func28 (by kernel_rfl) rfl #[.slice A1 l1.length c1] rfl (by (try simp only [List.map_toArray, List.map_cons, List.map_nil]); first | done | rfl | (simp only [List.length_drop, List.length_take]; rfl)) ?_; (with_reducible refine (sym_Train.calls _ _ l1 t223 _ ?side1 ?side2 A20.out).mono ?_); (case side1 => repeat (first | exact (Kd.C_below HR1.out HB.out) | (with_reducible refine Kd.C_alloc ?_ _) | (with_reducible refine Kd.C_drewN ?_ _) | (with_reducible refine Kd.C_drew ?_))); (case side2 => exact HC1.out); rintro e w55 ⟨v224, rfl, ho0, hb⟩; refine ⟨_, rfl, ?_⟩; have n0_ := rbA HO_6 hb; have n1_ := rbK HO219 hb; have n2_ := rbA HO222 hb; have n3_ := Aside0.mk (Kd.R_lower ho0 (below_size (by repeat (first | (with_reducible first | exact HB.out | apply below_alloc | apply pw_below_drewN | apply below_drew1) | exact HB.out)))); have n4_ := bsA HB hb; clear HO_6; clear HO219; clear HO222; clear HB; have HO_6 := n0_; have HO219 := n1_; have HO222 := n2_; have HO225 := n3_; have HB := n4_; clear n0_ n1_ n2_ n3_ n4_; (try clear hb); (try clear hb2); (try clear hk); (try clear hi); (try clear ho0); obtain ⟨Ao56, co56, eo56⟩ := Kd.R_slice HO225.out; subst eo56) | ((with_reducible refine gate_callee (f := 24) rfl ?_); refine goesL_ (some 54) rfl rfl Try.func24 (by kernel_rfl) rfl #[.slice none 0 0, .slice Ao56 t223.length co56] rfl (by (try simp only [List.map_toArray, List.map_cons, List.map_nil]); first | done | rfl | (simp only [List.length_drop, List.length_take]; rfl)) ?_; (refine (sym_PutTable.calls _ _ ([] : List Int) _ _ t223 t226 t227 _ ?side1 ?side2 ?side3 ?side4 A21.out).mono ?_); (case side1 => exact Kd.C_nil _ _); (case side2 => exact Nat.le_refl _); (case side3 => repeat (first | exact (Kd.R_reads' HO225.out).2.2 | (with_reducible refine Kd.C_alloc ?_ _) | (with_reducible refine Kd.C_drewN ?_ _) | (with_reducible refine Kd.C_drew ?_))); (case side4 => exact (Kd.R_reads' HO225.out).2.1); rintro e w57 ⟨v228, rfl, ho0, hb⟩; refine ⟨_, rfl, ?_⟩; have n0_ := rbA HO_6 hb; have n1_ := rbK HO219 hb; have n2_ := Aside0.mk (Kd.R_elder' (by (with_reducible repeat (first | apply Kd.R_alloc | apply Kd.R_drewN | apply Kd.R_drew)); exact HO222.out) (Kd.R_base ho0) hb); have n3_ := rbA HO225 hb; have n4_ := Aside0.mk (Kd.R_lower (Kd.R_new' (Kd.R_new' (u := .slice none 0 0) ho0 (fun _ hk => by cases hk)) (Kd.R_lt (by (with_reducible repeat (first | apply Kd.R_alloc | apply Kd.R_drewN | apply Kd.R_drew)); exact HO222.out))) (below_size (by repeat (first | (with_reducible first | exact HB.out | apply below_alloc | apply pw_below_drewN | apply below_drew1) | exact HB.out)))); have n5_ := bsA HB hb; clear HO_6; clear HO219; clear HO222; clear HO225; clear HB; have HO_6 := n0_; have HO219 := n1_; have HO222 := n2_; have HO225 := n3_; have HO229 := n4_; have HB := n5_; clear n0_ n1_ n2_ n3_ n4_ n5_; (try clear hb); (try clear hb2); (try clear hk); (try clear hi); (try clear ho0)) | ((with_reducible refine gate_callee (f := 16) rfl ?_); refine goesL_ (some 60) rfl rfl Try.func16 (by kernel_rfl) rfl #[.slice Ao56 t223.length co56, .slice Ao53 t217.length co53] rfl (by (try simp only [List.map_toArray, List.map_cons, List.map_nil]); first | done | rfl | (simp only [List.length_drop, List.length_take]; rfl)) ?_; (with_reducible refine (sym_Encode.calls k2 _ _ t223 _ _ t217 t230 t231 _ ?side1 ?side2 ?side3 ?side4 A22.out).mono ?_); (case side1 => repeat (first | exact (Kd.R_reads' HO225.out).2.2 | (with_reducible refine Kd.C_alloc ?_ _) | (with_reducible refine Kd.C_drewN ?_ _) | (with_reducible refine Kd.C_drew ?_))); (case side2 => exact (Kd.R_reads' HO225.out).2.1); (case side3 => repeat (first | exact (Kr.reads' HO219.out).2.2 | (with_reducible refine Kd.C_alloc ?_ _) | (with_reducible refine Kd.C_drewN ?_ _) | (with_reducible refine Kd.C_drew ?_))); (case side4 => exact (Kr.reads' HO219.out).2.1); rintro e w58 ⟨v232, rfl, ho0, hb⟩; refine ⟨_, rfl, ?_⟩; have n0_ := rbA HO_6 hb; have n1_ := rbK HO219 hb; have n2_ := Aside0.mk (Kd.R_elder' (by (with_reducible repeat (first | apply Kd.R_alloc | apply Kd.R_drewN | apply Kd.R_drew)); exact HO222.out) (Kd.R_base ho0) hb); have n3_ := rbA HO225 hb; have n4_ := Aside0.mk (Kd.R_elder' (by (with_reducible repeat (first | apply Kd.R_alloc | apply Kd.R_drewN | apply Kd.R_drew)); exact HO229.out) (Kd.R_base ho0) hb); have n5_ := Aside0.mk (Kd.R_lower (Kd.R_new' (Kd.R_new' (Kd.R_new' (u := .slice none 0 0) ho0 (fun _ hk => by cases hk)) (Kd.R_lt (by (with_reducible repeat (first | apply Kd.R_alloc | apply Kd.R_drewN | apply Kd.R_drew)); exact HO222.out))) (Kd.R_lt (by (with_reducible repeat (first | apply Kd.R_alloc | apply Kd.R_drewN | apply Kd.R_drew)); exact HO229.out))) (below_size (by repeat (first | (with_reducible first | exact HB.out | apply below_alloc | apply pw_below_drewN | apply below_drew1) | exact HB.out)))); have n6_ := bsA HB hb; clear HO_6; clear HO219; clear HO222; clear HO225; clear HO229; clear HB; have HO_6 := n0_; have HO219 := n1_; have HO222 := n2_; have HO225 := n3_; have HO229 := n4_; have HO233 := n5_; have HB := n6_; clear n0_ n1_ n2_ n3_ n4_ n5_ n6_; (try clear hb); (try clear hb2); (try clear hk); (try clear hi); (try clear ho0); obtain ⟨Ao59, co59, eo59⟩ := Kd.R_slice HO229.out; subst eo59; obtain ⟨Ao60, co60, eo60⟩ := Kd.R_slice HO233.out; subst eo60; obtain ⟨Ao61, co61, eo61⟩ := Kd.R_slice HO222.out; subst eo61) | ((with_reducible refine gate_callee (f := 56) rfl ?_); refine goesL_ (some 75) rfl rfl Try.func56 (by kernel_rfl) rfl #[.slice A0 l0.length c0] rfl (by (try simp only [List.map_toArray, List.map_cons, List.map_nil]); first | done | rfl | (simp only [List.length_drop, List.length_take]; rfl)) ?_; (with_reducible refine (bytes_Clone.calls _ _ l0 t249 _ ?side1 ?side2 A48.out).mono ?_); (case side1 => repeat (first | exact (Kd.C_below HR0.out HB.out) | (with_reducible refine Kd.C_alloc ?_ _) | (with_reducible refine Kd.C_drewN ?_ _) | (with_reducible refine Kd.C_drew ?_))); (case side2 => exact HC0.out); rintro e w62 ⟨v250, rfl, ho0, hb⟩; refine ⟨_, rfl, ?_⟩; have n0_ := rbA HO_6 hb; have n1_ := rbK HO219 hb; have n2_ := Aside0.mk (Kd.R_elder' (by (with_reducible repeat (first | apply Kd.R_alloc | apply Kd.R_drewN | apply Kd.R_drew)); exact HO222.out) (Kd.R_base ho0) hb); have n3_ := rbA HO225 hb; have n4_ := Aside0.mk (Kd.R_elder' (by (with_reducible repeat (first | apply Kd.R_alloc | apply Kd.R_drewN | apply Kd.R_drew)); exact HO229.out) (Kd.R_base ho0) hb); have n5_ := Aside0.mk (Kd.R_elder' (by (with_reducible repeat (first | apply Kd.R_alloc | apply Kd.R_drewN | apply Kd.R_drew)); exact HO233.out) (Kd.R_base ho0) hb); have n6_ := Aside0.mk (Kd.R_lower (Kd.R_new' (Kd.R_new' (Kd.R_new' (Kd.R_new' (u := .slice none 0 0) ho0 (fun _ hk => by cases hk)) (Kd.R_lt (by (with_reducible repeat (first | apply Kd.R_alloc | apply Kd.R_drewN | apply Kd.R_drew)); exact HO222.out))) (Kd.R_lt (by (with_reducible repeat (first | apply Kd.R_alloc | apply Kd.R_drewN | apply Kd.R_drew)); exact HO229.out))) (Kd.R_lt (by (with_reducible repeat (first | apply Kd.R_alloc | apply Kd.R_drewN | apply Kd.R_drew)); exact HO233.out))) (below_size (by repeat (first | (with_reducible first | exact HB.out | apply below_alloc | apply pw_below_drewN | apply below_drew1) | exact HB.out)))); have n7_ := bsA HB hb; clear HO_6; clear HO219; clear HO222; clear HO225; clear HO229; clear HO233; clear HB; have HO_6 := n0_; have HO219 := n1_; have HO222 := n2_; have HO225 := n3_; have HO229 := n4_; have HO233 := n5_; have HO251 := n6_; have HB := n7_; clear n0_ n1_ n2_ n3_ n4_ n5_ n6_ n7_; (try clear hb); (try clear hb2); (try clear hk); (try clear hi); (try clear ho0)) | ((with_reducible refine gate_builtin (b := .append) (xs := #[.tmp 75, .tmp 77]) rfl ?_); (try (refine gate_guard (by rfl) ?_; dsimp only)); at_builtin; refine Kd.R_append (Kd.int .u8) (w0 := w) w.heap.size rfl (.tmp 75) (.tmp 77) 23 5 (.int .u8 0) 1 rfl Try.underlying23 info5 rfl (by decide) (by omega) v250 t249 1 [.int .u8 1] (fun k_ => some k_ ≠ (.slice none 0 0 : Value).ownBlock ∧ some k_ ≠ (.slice Ao61 t220.length co61 : Value).ownBlock ∧ some k_ ≠ (.slice Ao59 t226.length co59 : Value).ownBlock ∧ some k_ ≠ (.slice Ao60 t230.length co60 : Value).ownBlock) (fun _ => False) rfl rfl ?aP (fun _ hk => hk.elim) ?aF ?aO ?aB ?aS ?aL ?_; (case aP => exact rfl); (case aB => exact (by repeat (first | (with_reducible first | exact HB.out | apply below_alloc | apply pw_below_drewN | apply below_drew1) | exact HB.out))); (case aF => exact (fun k_ hk => ⟨(by simp [Value.ownBlock]), Kd.fresh' (Kd.R_lt (by (with_reducible repeat (first | apply Kd.R_alloc | apply Kd.R_drewN | apply Kd.R_drew)); exact HO222.out)) k_ hk, Kd.fresh' (Kd.R_lt (by (with_reducible repeat (first | apply Kd.R_alloc | apply Kd.R_drewN | apply Kd.R_drew)); exact HO229.out)) k_ hk, Kd.fresh' (Kd.R_lt (by (with_reducible repeat (first | apply Kd.R_alloc | apply Kd.R_drewN | apply Kd.R_drew)); exact HO233.out)) k_ hk⟩)); (case aO => exact (by (with_reducible repeat (first | apply Kd.R_alloc | apply Kd.R_drewN | apply Kd.R_drew)); exact Kd.R_mono HO251.out (fun _ hk => ⟨hk.1.1.1.2, ⟨hk.1.1.2, ⟨hk.1.2, hk.2⟩⟩⟩))); (case aS => exact (below_size (by repeat (first | (with_reducible first | exact HB.out | apply below_alloc | apply pw_below_drewN | apply below_drew1) | exact HB.out)))); (case aL => have := LMc49.out; omega); intro v253 w63 ho hb hg hat; rw [← Ny252.out] at ho; have n0_ := Aside0.mk (Kd.R_over' (by (with_reducible repeat (first | apply Kd.R_alloc | apply Kd.R_drewN | apply Kd.R_drew)); exact HO_6.out) (Kd.R_typed (by (with_reducible repeat (first | apply Kd.R_alloc | apply Kd.R_drewN | apply Kd.R_drew)); exact HO251.out)) (by decide) hg); have n1_ := Aside0.mk trivial; have n2_ := Aside0.mk (Kd.R_after (ok := (fun k_ => some k_ ≠ (.slice none 0 0 : Value).ownBlock ∧ some k_ ≠ (.slice Ao59 t226.length co59 : Value).ownBlock ∧ some k_ ≠ (.slice Ao60 t230.length co60 : Value).ownBlock)) (by (with_reducible repeat (first | apply Kd.R_alloc | apply Kd.R_drewN | apply Kd.R_drew)); exact Kd.R_mono HO222.out (fun _ hk => ⟨⟨hk.1.1.1.2, ⟨hk.1.1.2, hk.1.2⟩⟩, hk.2⟩)) hg hat); have n3_ := Aside0.mk (Kd.R_over' (by (with_reducible repeat (first | apply Kd.R_alloc | apply Kd.R_drewN | apply Kd.R_drew)); exact HO225.out) (Kd.R_typed (by (with_reducible repeat (first | apply Kd.R_alloc | apply Kd.R_drewN | apply Kd.R_drew)); exact HO251.out)) (by decide) hg); have n4_ := Aside0.mk (Kd.R_after (ok := (fun k_ => some k_ ≠ (.slice none 0 0 : Value).ownBlock ∧ some k_ ≠ (.slice Ao61 t220.length co61 : Value).ownBlock ∧ some k_ ≠ (.slice Ao60 t230.length co60 : Value).ownBlock)) (by (with_reducible repeat (first | apply Kd.R_alloc | apply Kd.R_drewN | apply Kd.R_drew)); exact Kd.R_mono HO229.out (fun _ hk => ⟨⟨hk.1.1.1.2, ⟨hk.1.1.2, hk.1.2⟩⟩, hk.2⟩)) hg hat); have n5_ := Aside0.mk (Kd.R_after (ok := (fun k_ => some k_ ≠ (.slice none 0 0 : Value).ownBlock ∧ some k_ ≠ (.slice Ao61 t220.length co61 : Value).ownBlock ∧ some k_ ≠ (.slice Ao59 t226.length co59 : Value).ownBlock)) (by (with_reducible repeat (first | apply Kd.R_alloc | apply Kd.R_drewN | apply Kd.R_drew)); exact Kd.R_mono HO233.out (fun _ hk => ⟨⟨hk.1.1.1.2, ⟨hk.1.1.2, hk.1.2⟩⟩, hk.2⟩)) hg hat); have n6_ := Aside0.mk (hb); have n7_ := Aside0.mk (ho); clear HO_6; clear HO219; clear HO222; clear HO225; clear HO229; clear HO233; clear HB; clear HO251; have HO_6 := n0_; have HO219 := n1_; have HO222 := n2_; have HO225 := n3_; have HO229 := n4_; have HO233 := n5_; have HB := n6_; have HO254 := n7_; clear n0_ n1_ n2_ n3_ n4_ n5_ n6_ n7_; clear ho hb hg hat; obtain ⟨Ao64, co64, eo64⟩ := Kd.R_slice HO254.out; subst eo64; obtain ⟨Ao65, co65, eo65⟩ := Kd.R_slice HO_6.out; subst eo65) | ((with_reducible refine gate_callee (f := 57) rfl ?_); refine goesL_ (some 81) rfl rfl Try.func57 (by kernel_rfl) rfl #[.slice Ao64 y252.length co64, .slice Ao65 x6_2.length co65] rfl (by (try simp only [List.map_toArray, List.map_cons, List.map_nil]); first | done | rfl | (simp only [List.length_drop, List.length_take]; rfl)) ?_; (with_reducible refine (pfor_PutList.calls k2 _ _ y252 _ _ x6_2 t255 _ ?side1 ?side2 ?side3 ?side4 A50.out).mono ?_); (case side1 => repeat (first | exact (Kd.R_reads' HO254.out).2.2 | (with_reducible refine Kd.C_alloc ?_ _) | (with_reducible refine Kd.C_drewN ?_ _) | (with_reducible refine Kd.C_drew ?_))); (case side2 => exact (Kd.R_reads' HO254.out).2.1); (case side3 => repeat (first | exact (Kd.R_reads' HO_6.out).2.2 | (with_reducible refine Kd.C_alloc ?_ _) | (with_reducible refine Kd.C_drewN ?_ _) | (with_reducible refine Kd.C_drew ?_))); (case side4 => exact (Kd.R_reads' HO_6.out).2.1); rintro e w66 ⟨v256, rfl, ho0, hb⟩; refine ⟨_, rfl, ?_⟩; have n0_ := rbA HO_6 hb; have n1_ := Aside0.mk trivial; have n2_ := Aside0.mk (Kd.R_elder' (by (with_reducible repeat (first | apply Kd.R_alloc | apply Kd.R_drewN | apply Kd.R_drew)); exact HO222.out) (Kd.R_base ho0) hb); have n3_ := rbA HO225 hb; have n4_ := Aside0.mk (Kd.R_elder' (by (with_reducible repeat (first | apply Kd.R_alloc | apply Kd.R_drewN | apply Kd.R_drew)); exact HO229.out) (Kd.R_base ho0) hb); have n5_ := Aside0.mk (Kd.R_elder' (by (with_reducible repeat (first | apply Kd.R_alloc | apply Kd.R_drewN | apply Kd.R_drew)); exact HO233.out) (Kd.R_base ho0) hb); have n6_ := Aside0.mk (Kd.R_elder' (by (with_reducible repeat (first | apply Kd.R_alloc | apply Kd.R_drewN | apply Kd.R_drew)); exact HO254.out) (Kd.R_base ho0) hb); have n7_ := Aside0.mk (Kd.R_lower (Kd.R_new' (Kd.R_new' (Kd.R_new' (Kd.R_new' (Kd.R_new' (u := .slice none 0 0) ho0 (fun _ hk => by cases hk)) (Kd.R_lt (by (with_reducible repeat (first | apply Kd.R_alloc | apply Kd.R_drewN | apply Kd.R_drew)); exact HO222.out))) (Kd.R_lt (by (with_reducible repeat (first | apply Kd.R_alloc | apply Kd.R_drewN | apply Kd.R_drew)); exact HO229.out))) (Kd.R_lt (by (with_reducible repeat (first | apply Kd.R_alloc | apply Kd.R_drewN | apply Kd.R_drew)); exact HO233.out))) (Kd.R_lt (by (with_reducible repeat (first | apply Kd.R_alloc | apply Kd.R_drewN | apply Kd.R_drew)); exact HO254.out))) (below_size (by repeat (first | (with_reducible first | exact HB.out | apply below_alloc | apply pw_below_drewN | apply below_drew1) | exact HB.out)))); have n8_ := bsA HB hb; clear HO_6; clear HO219; clear HO222; clear HO225; clear HO229; clear HO233; clear HO254; clear HB; have HO_6 := n0_; have HO219 := n1_; have HO222 := n2_; have HO225 := n3_; have HO229 := n4_; have HO233 := n5_; have HO254 := n6_; have HO257 := n7_; have HB := n8_; clear n0_ n1_ n2_ n3_ n4_ n5_ n6_ n7_ n8_; (try clear hb); (try clear hb2); (try clear hk); (try clear hi); (try clear ho0); obtain ⟨Ao67, co67, eo67⟩ := Kd.R_slice HO257.out; subst eo67) | ((with_reducible refine gate_callee (f := 40) rfl ?_); refine goesL_ (some 83) rfl rfl Try.func40 (by kernel_rfl) rfl #[.slice Ao67 t255.length co67, .slice Ao61 t220.length co61] rfl (by (try simp only [List.map_toArray, List.map_cons, List.map_nil]); first | done | rfl | (simp only [List.length_drop, List.length_take]; rfl)) ?_; (with_reducible refine (num_PutRow.calls _ _ t255 _ _ t220 t258 _ ?side1 ?side2 ?side3 ?side4 A51.out).mono ?_); (case side1 => repeat (first | exact (Kd.R_reads' HO257.out).2.2 | (with_reducible refine Kd.C_alloc ?_ _) | (with_reducible refine Kd.C_drewN ?_ _) | (with_reducible refine Kd.C_drew ?_))); (case side2 => exact (Kd.R_reads' HO257.out).2.1); (case side3 => repeat (first | exact (Kd.R_reads' HO222.out).2.2 | (with_reducible refine Kd.C_alloc ?_ _) | (with_reducible refine Kd.C_drewN ?_ _) | (with_reducible refine Kd.C_drew ?_))); (case side4 => exact (Kd.R_reads' HO222.out).2.1); rintro e w68 ⟨v259, rfl, ho0, hb⟩; refine ⟨_, rfl, ?_⟩; have n0_ := rbA HO_6 hb; have n1_ := Aside0.mk trivial; have n2_ := Aside0.mk (Kd.R_elder' (by (with_reducible repeat (first | apply Kd.R_alloc | apply Kd.R_drewN | apply Kd.R_drew)); exact HO222.out) (Kd.R_base ho0) hb); have n3_ := rbA HO225 hb; have n4_ := Aside0.mk (Kd.R_elder' (by (with_reducible repeat (first | apply Kd.R_alloc | apply Kd.R_drewN | apply Kd.R_drew)); exact HO229.out) (Kd.R_base ho0) hb); have n5_ := Aside0.mk (Kd.R_elder' (by (with_reducible repeat (first | apply Kd.R_alloc | apply Kd.R_drewN | apply Kd.R_drew)); exact HO233.out) (Kd.R_base ho0) hb); have n6_ := Aside0.mk (Kd.R_elder' (by (with_reducible repeat (first | apply Kd.R_alloc | apply Kd.R_drewN | apply Kd.R_drew)); exact HO254.out) (Kd.R_base ho0) hb); have n7_ := Aside0.mk (Kd.R_elder' (by (with_reducible repeat (first | apply Kd.R_alloc | apply Kd.R_drewN | apply Kd.R_drew)); exact HO257.out) (Kd.R_base ho0) hb); have n8_ := Aside0.mk (Kd.R_lower (Kd.R_new' (Kd.R_new' (Kd.R_new' (Kd.R_new' (Kd.R_new' (Kd.R_new' (u := .slice none 0 0) ho0 (fun _ hk => by cases hk)) (Kd.R_lt (by (with_reducible repeat (first | apply Kd.R_alloc | apply Kd.R_drewN | apply Kd.R_drew)); exact HO222.out))) (Kd.R_lt (by (with_reducible repeat (first | apply Kd.R_alloc | apply Kd.R_drewN | apply Kd.R_drew)); exact HO229.out))) (Kd.R_lt (by (with_reducible repeat (first | apply Kd.R_alloc | apply Kd.R_drewN | apply Kd.R_drew)); exact HO233.out))) (Kd.R_lt (by (with_reducible repeat (first | apply Kd.R_alloc | apply Kd.R_drewN | apply Kd.R_drew)); exact HO254.out))) (Kd.R_lt (by (with_reducible repeat (first | apply Kd.R_alloc | apply Kd.R_drewN | apply Kd.R_drew)); exact HO257.out))) (below_size (by repeat (first | (with_reducible first | exact HB.out | apply below_alloc | apply pw_below_drewN | apply below_drew1) | exact HB.out)))); have n9_ := bsA HB hb; clear HO_6; clear HO219; clear HO222; clear HO225; clear HO229; clear HO233; clear HO254; clear HO257; clear HB; have HO_6 := n0_; have HO219 := n1_; have HO222 := n2_; have HO225 := n3_; have HO229 := n4_; have HO233 := n5_; have HO254 := n6_; have HO257 := n7_; have HO260 := n8_; have HB := n9_; clear n0_ n1_ n2_ n3_ n4_ n5_ n6_ n7_ n8_ n9_; (try clear hb); (try clear hb2); (try clear hk); (try clear hi); (try clear ho0)))
           go_ret2
           exact ⟨_, by first | rfl | (simp [errW_none, errW_some] <;> rfl) | (simp [*, errW_none, errW_some] <;> rfl), by (with_reducible repeat (first | apply Kd.R_alloc | apply Kd.R_drewN | apply Kd.R_drew)); exact Kd.R_mono HO260.out (fun _ hk => trivial), by repeat (first | (with_reducible first | exact HB.out | apply below_alloc | apply pw_below_drewN | apply below_drew1) | exact HB.out)⟩
          ·rw [if_neg c49] at H
           exact absurd H (by simp)
     ·rw [if_neg c7] at H
      exact absurd H (by simp)
    ·rw [if_neg c6] at H
     exact absurd H (by simp)

end Go.Proofs.Ytnmidkjmflnolaa.P
