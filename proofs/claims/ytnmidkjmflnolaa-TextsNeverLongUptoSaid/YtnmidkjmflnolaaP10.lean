-- Written by a program of this session (wip/tools/tp.py: the kit's printer, turned to take functions that were proved by hand). Lean checks it.
import Derived.Test.YtnmidkjmflnolaaP0
import Derived.Test.YtnmidkjmflnolaaP1
import Derived.Test.YtnmidkjmflnolaaP8
import Derived.Test.YtnmidkjmflnolaaClone
import Derived.Test.YtnmidkjmflnolaaPut
namespace Go.Proofs.Ytnmidkjmflnolaa.P
open Go.RowKit Go.Proofs.YtnmidkjmflnolaaW.PrintWords Go.Proofs.YtnmidkjmflnolaaW.PrintLast Go.Proofs.YtnmidkjmflnolaaW.PrintMore
attribute [local go_sem] max2_int min2_int max_two min_two max_three min_three max_four min_four   -- for this text's walks alone
set_option linter.unusedVariables false
set_option linter.unusedSimpArgs false

-- LEVEL 2
-- PROVED BY HAND: function 16 (sym_Encode): Derived.Test.YtnmidkjmflnolaaSymEncode

-- LEVEL 2
-- PROVED BY HAND: function 39 (num_Put): Derived.Test.YtnmidkjmflnolaaPut

-- LEVEL 2
/-! ### num_PutRow: function 40 -/
def num_PutRow.f (l0 : List Int) (l1 : List Int) : Option (List Int) := (num_Put.f l0 (IntKind.u64.wrap ((l1.length : Int)))).bind fun t108 => (if t108.length + l1.length < 140737488355328 then (some (t108 ++ l1)) else (none))
set_option maxHeartbeats 8000000 in
set_option maxRecDepth 100000 in
theorem num_PutRow.calls (A0 : Option Addr) (c0 : Nat) (l0 : List Int) (A1 : Option Addr) (c1 : Nat) (l1 : List Int) (r : List Int) (w : World) (hr0 : Kd.C (Kd.int .u8) w A0 l0.length l0) (hc0 : l0.length ≤ c0) (hr1 : Kd.C (Kd.int .u8) w A1 l1.length l1) (hc1 : l1.length ≤ c1) (h : num_PutRow.f l0 l1 = some r) :
  Calls Try.prog 40 #[.slice A0 l0.length c0, .slice A1 l1.length c1] w fun e w' => ∃ v0_ : Value, e = .returned (v0_) ∧ Kd.R (Kd.int .u8) 5 w' w.heap.size (fun _ => True) v0_ r ∧ Below w.heap.size w w' := by
 have HR0 := Aside0.mk hr0
 have HC0 := Aside0.mk hc0
 clear hr0 hc0
 have HR1 := Aside0.mk hr1
 have HC1 := Aside0.mk hc1
 clear hr1 hc1
 have HB := Aside0.mk (Below.refl w.heap.size w)
 have H : ((num_Put.f l0 (IntKind.u64.wrap ((l1.length : Int)))).bind fun t108 => (if t108.length + l1.length < 140737488355328 then (some (t108 ++ l1)) else (none))) = some r := h
 clear h
 replace H := Option.bind_eq_some_iff.mp H
 obtain ⟨t108, A30, H⟩ := H
 replace H : (if t108.length + l1.length < 140737488355328 then (some (t108 ++ l1)) else (none)) = some r := H
 have A3 := Aside0.mk A30
 clear A30
 by_cases c4 : t108.length + l1.length < 140737488355328
 ·rw [if_pos c4] at H
  have LMc4 := Aside0.mk c4
  clear c4
  obtain ⟨y111, hy111⟩ : ∃ y_ : List Int, y_ = (t108 ++ l1) := ⟨_, rfl⟩
  replace H : (some y111) = some r := by first | (rw [hy111]; with_reducible exact H) | (have H2_ := (Option.bind_some _ _).symm.trans H; rw [hy111]; with_reducible exact H2_) | (have H2_ := (Option.bind_some _ _).symm.trans H; with_reducible exact H2_) | with_reducible exact H | (rw [hy111]; exact H) | exact H
  have Ny111 := Aside0.mk hy111
  clear hy111
  obtain rfl := Option.some.inj H
  go_enter Try.func40, Try.ntmps40
  go_wp2_with (first | ((with_reducible refine gate_callee (f := 39) rfl ?_); refine goesL_ (some 9) rfl rfl Try.func39 (by kernel_rfl) rfl #[.slice A0 l0.length c0, .int .u64 (IntKind.u64.wrap ((l1.length : Int)))] rfl (by (try simp only [List.map_toArray, List.map_cons, List.map_nil]); first | done | rfl | (simp only [List.length_drop, List.length_take]; rfl)) ?_; (with_reducible refine (num_Put.calls _ _ l0 (IntKind.u64.wrap ((l1.length : Int))) t108 _ ?side1 ?side2 A3.out).mono ?_); (case side1 => repeat (first | exact HR0.out | (with_reducible refine Kd.C_alloc ?_ _) | (with_reducible refine Kd.C_drewN ?_ _) | (with_reducible refine Kd.C_drew ?_))); (case side2 => exact HC0.out); rintro e w5 ⟨v109, rfl, ho0, hb⟩; refine ⟨_, rfl, ?_⟩; have n0_ := Aside0.mk (Kd.R_lower ho0 (below_size (by repeat (first | (with_reducible first | exact HB.out | apply below_alloc | apply pw_below_drewN | apply below_drew1) | exact HB.out)))); have n1_ := bsA HB hb; clear HB; have HO110 := n0_; have HB := n1_; clear n0_ n1_; (try clear hb); (try clear hb2); (try clear hk); (try clear hi); (try clear ho0)) | ((with_reducible refine gate_builtin (b := .append) (xs := #[.tmp 9, .tmp 10]) rfl ?_); at_builtin; refine Kd.R_append_rows (Kd.int .u8) (w0 := w) w.heap.size rfl (.tmp 9) (.tmp 10) 23 5 (.int .u8 0) 1 rfl Try.underlying23 info5 rfl (by decide) (by omega) v109 t108 l1 _ _ _ (fun _ => True) (fun _ => False) rfl rfl ?aO ?aR (fun _ _ h => h) (fun _ h => h.elim) ?aF ?aB ?aS ?aL ?_; (case aR => repeat (first | exact (Kd.C_below HR1.out HB.out) | (with_reducible refine Kd.C_alloc ?_ _) | (with_reducible refine Kd.C_drewN ?_ _) | (with_reducible refine Kd.C_drew ?_))); (case aB => exact (by repeat (first | (with_reducible first | exact HB.out | apply below_alloc | apply pw_below_drewN | apply below_drew1) | exact HB.out))); (case aF => exact (fun _ _ => trivial)); (case aO => exact (by (with_reducible repeat (first | apply Kd.R_alloc | apply Kd.R_drewN | apply Kd.R_drew)); exact HO110.out)); (case aS => exact (below_size (by repeat (first | (with_reducible first | exact HB.out | apply below_alloc | apply pw_below_drewN | apply below_drew1) | exact HB.out)))); (case aL => have := LMc4.out; omega); intro v112 w6 ho hb hg hat; rw [← Ny111.out] at ho; have n0_ := Aside0.mk (hb); have n1_ := Aside0.mk (ho); clear HB; clear HO110; have HB := n0_; have HO113 := n1_; clear n0_ n1_; clear ho hb hg hat))
  go_ret
  exact ⟨_, by first | rfl | (simp [errW_none, errW_some] <;> rfl) | (simp [*, errW_none, errW_some] <;> rfl), by (with_reducible repeat (first | apply Kd.R_alloc | apply Kd.R_drewN | apply Kd.R_drew)); exact HO113.out, by repeat (first | (with_reducible first | exact HB.out | apply below_alloc | apply pw_below_drewN | apply below_drew1) | exact HB.out)⟩
 ·rw [if_neg c4] at H
  exact absurd H (by simp)

-- LEVEL 2
-- PROVED BY HAND: function 28 (sym_Train): Derived.Test.YtnmidkjmflnolaaTrainAll

-- LEVEL 2
/-! ### pfor_size: function 120 -/
def pfor_size.f (a0 : Int) : Option (Int) := (num_Put.f ([] : List Int) a0).bind fun t140 => (some (t140.length : Int))
set_option maxHeartbeats 8000000 in
set_option maxRecDepth 100000 in
theorem pfor_size.calls (a0 : Int) (r : Int) (w : World) (h : pfor_size.f a0 = some r) :
  Calls Try.prog 120 #[.int .u64 a0] w fun e w' => e = .returned (.int .i64 r) ∧ Below w.heap.size w w' := by
 have HB := Aside0.mk (Below.refl w.heap.size w)
 have H : ((num_Put.f ([] : List Int) a0).bind fun t140 => (some (t140.length : Int))) = some r := h
 clear h
 replace H := Option.bind_eq_some_iff.mp H
 obtain ⟨t140, A20, H⟩ := H
 replace H : (some (t140.length : Int)) = some r := H
 have A2 := Aside0.mk A20
 clear A20
 obtain rfl := Option.some.inj H
 go_enter Try.func120, Try.ntmps120
 go_wp2_with (first | ((with_reducible refine gate_callee (f := 39) rfl ?_); refine goesL_ (some 4) rfl rfl Try.func39 (by kernel_rfl) rfl #[.slice none 0 0, .int .u64 a0] rfl (by (try simp only [List.map_toArray, List.map_cons, List.map_nil]); first | done | rfl | (simp only [List.length_drop, List.length_take]; rfl)) ?_; (refine (num_Put.calls _ _ ([] : List Int) a0 t140 _ ?side1 ?side2 A2.out).mono ?_); (case side1 => exact Kd.C_nil _ _); (case side2 => exact Nat.le_refl _); rintro e w3 ⟨v141, rfl, ho0, hb⟩; refine ⟨_, rfl, ?_⟩; have n0_ := Aside0.mk (Kd.R_lower ho0 (below_size (by repeat (first | (with_reducible first | exact HB.out | apply below_alloc | apply pw_below_drewN | apply below_drew1) | exact HB.out)))); have n1_ := bsA HB hb; clear HB; have HO142 := n0_; have HB := n1_; clear n0_ n1_; (try clear hb); (try clear hb2); (try clear hk); (try clear hi); (try clear ho0); obtain ⟨Ao4, co4, eo4⟩ := Kd.R_slice HO142.out; subst eo4))
 go_ret
 exact ⟨by first | rfl | (simp [errW_none, errW_some] <;> rfl) | (simp [*, errW_none, errW_some] <;> rfl), by repeat (first | (with_reducible first | exact HB.out | apply below_alloc | apply pw_below_drewN | apply below_drew1) | exact HB.out)⟩

-- LEVEL 2
/-! ### pfor_width: function 101 -/
mutual
def pfor_width.l0 : Nat → List Int → Int → Int → Int → Option (Int)
 | 0, _, _, _, _ => none
 | k + 1, x0, x3, x4, x5 => if x5 ≤ 64 then (pfor_width.l1 k x0 x3 x4 x5 (wrap64 (Int.tdiv (wrap64 ((wrap64 ((x0.length : Int) * x5)) + 7)) 8)) x0 (x0.length : Int) 0) else (some x3)
def pfor_width.l1 : Nat → List Int → Int → Int → Int → Int → List Int → Int → Int → Option (Int)
 | 0, _, _, _, _, _, _, _, _ => none
 | k + 1, x0, x3, x4, x5, x6, x20, x21, x22 => if x22 < x21 then (if 0 ≤ x22 then (if x22 < (x20.length : Int) then ((pfor_high.f (rd x20 x22) x5).bind fun t144 => (if t144 > 0 then ((pfor_size.f t144).bind fun t145 => (pfor_width.l1 k x0 x3 x4 x5 (wrap64 (x6 + (wrap64 (1 + t145)))) x20 x21 (wrap64 (x22 + 1)))) else (pfor_width.l1 k x0 x3 x4 x5 x6 x20 x21 (wrap64 (x22 + 1))))) else (none)) else (none)) else (if x4 < 0 then (pfor_width.l0 k x0 x5 x6 (wrap64 (x5 + 1))) else (if x6 < x4 then (pfor_width.l0 k x0 x5 x6 (wrap64 (x5 + 1))) else (pfor_width.l0 k x0 x3 x4 (wrap64 (x5 + 1)))))
end
def pfor_width.f (k : Nat) (l0 : List Int) : Option (Int) := pfor_width.l0 k l0 0 (-1) 0
theorem pfor_width.mono_l : ∀ k, (∀ y0 y1 y2 y3, LeO (pfor_width.l0 k y0 y1 y2 y3) (pfor_width.l0 (k + 1) y0 y1 y2 y3)) ∧ (∀ y0 y1 y2 y3 y4 y5 y6 y7, LeO (pfor_width.l1 k y0 y1 y2 y3 y4 y5 y6 y7) (pfor_width.l1 (k + 1) y0 y1 y2 y3 y4 y5 y6 y7))
 | 0 => ⟨fun _ _ _ _ r h => by simp [pfor_width.l0] at h, fun _ _ _ _ _ _ _ _ r h => by simp [pfor_width.l1] at h⟩
 | k + 1 => by
  obtain ⟨ih0, ih1⟩ := pfor_width.mono_l k
  refine ⟨?_, ?_⟩
  ·intro y0 y1 y2 y3
   unfold pfor_width.l0
   repeat' first
   | (with_reducible exact ih0 _ _ _ _)
   | (with_reducible exact ih1 _ _ _ _ _ _ _ _)
   | (with_reducible exact LeO.refl _)
   | (with_reducible exact LeO.none _)
   | (with_reducible refine LeO.ite ?_ ?_)
   | (with_reducible refine LeO.bind ?_ (fun _ => ?_))
   | exact ih0 _ _ _ _
   | exact ih1 _ _ _ _ _ _ _ _
   | exact LeO.none _
   | refine LeO.ite ?_ ?_
   | refine LeO.bind ?_ (fun _ => ?_)
  ·intro y0 y1 y2 y3 y4 y5 y6 y7
   unfold pfor_width.l1
   repeat' first
   | (with_reducible exact ih0 _ _ _ _)
   | (with_reducible exact ih1 _ _ _ _ _ _ _ _)
   | (with_reducible exact LeO.refl _)
   | (with_reducible exact LeO.none _)
   | (with_reducible refine LeO.ite ?_ ?_)
   | (with_reducible refine LeO.bind ?_ (fun _ => ?_))
   | exact ih0 _ _ _ _
   | exact ih1 _ _ _ _ _ _ _ _
   | exact LeO.none _
   | refine LeO.ite ?_ ?_
   | refine LeO.bind ?_ (fun _ => ?_)
theorem pfor_width.mono : ∀ a0 k, LeO (pfor_width.f k a0) (pfor_width.f (k + 1) a0) := by
 intro a0 k
 obtain ⟨ih0, ih1⟩ := pfor_width.mono_l k
 unfold pfor_width.f
 repeat' first
   | (with_reducible exact ih0 _ _ _ _)
   | (with_reducible exact ih1 _ _ _ _ _ _ _ _)
   | (with_reducible exact LeO.refl _)
   | (with_reducible exact LeO.none _)
   | (with_reducible refine LeO.ite ?_ ?_)
   | (with_reducible refine LeO.bind ?_ (fun _ => ?_))
   | exact ih0 _ _ _ _
   | exact ih1 _ _ _ _ _ _ _ _
   | exact LeO.none _
   | refine LeO.ite ?_ ?_
   | refine LeO.bind ?_ (fun _ => ?_)
set_option maxHeartbeats 8000000 in
set_option maxRecDepth 100000 in
theorem pfor_width.calls (k : Nat) (A0 : Option Addr) (c0 : Nat) (l0 : List Int) (r : Int) (w : World) (hr0 : Kd.C (Kd.int .u64) w A0 l0.length l0) (hc0 : l0.length ≤ c0) (h : pfor_width.f k l0 = some r) :
  Calls Try.prog 101 #[.slice A0 l0.length c0] w fun e w' => e = .returned (.int .i64 r) ∧ Below w.heap.size w w' := by
 have HR0 := Aside0.mk hr0
 have HC0 := Aside0.mk hc0
 clear hr0 hc0
 have HB := Aside0.mk (Below.refl w.heap.size w)
 have H : (pfor_width.l0 k l0 0 (-1) 0) = some r := h
 clear h
 have H' := Aside0.mk H
 clear H
 go_enter Try.func101, Try.ntmps101
 go_wp2
 go_loopg [3, 4, 5] k (fun kq v3 v4 v5 w' => ∃ (x3_1 : Int) (x4_1 : Int) (x5_1 : Int), v3 = .int .i64 x3_1 ∧ v4 = .int .i64 x4_1 ∧ v5 = .int .i64 x5_1 ∧ Aside0 (pfor_width.l0 kq l0 x3_1 x4_1 x5_1 = some r) ∧ Aside0 (kq ≤ k) ∧ Aside0 (Below w.heap.size w w'))
 case atStart => exact ⟨(0), ((-1)), (0), (by first | rfl | (simp; done) | (simp [*]; done)), (by first | rfl | (simp; done) | (simp [*]; done)), (by first | rfl | (simp; done) | (simp [*]; done)), H', ⟨Nat.le_refl _⟩, ⟨by repeat (first | (with_reducible first | exact HB.out | apply below_alloc | apply pw_below_drewN | apply below_drew1) | exact HB.out)⟩⟩
 case round =>
  clear H'
  try clear c1
  obtain ⟨x3_1, x4_1, x5_1, rfl, rfl, rfl, HA, HK1, HB⟩ := hrel
  cases gk with
  | zero => exact absurd HA.out (by simp [pfor_width.l0])
  | succ k1 =>
   have H := HA.out
   clear HA
   simp only [pfor_width.l0] at H
   by_cases c2 : x5_1 ≤ 64
   ·rw [if_pos c2] at H
    have c2b0 : decide (x5_1 ≤ 64) = true := decide_eq_true c2
    clear c2
    have H' := Aside0.mk H
    clear H
    go_wp2
    go_loopg [6, 22] k1 (fun kq v6 v22 w' => ∃ (x6_2 : Int) (x22_2 : Int), v6 = .int .i64 x6_2 ∧ v22 = .int .i64 x22_2 ∧ Aside0 (pfor_width.l1 kq l0 x3_1 x4_1 x5_1 x6_2 l0 (l0.length : Int) x22_2 = some r) ∧ Aside0 (kq ≤ k1) ∧ Aside0 (Below w.heap.size w w'))
    case atStart => exact ⟨(wrap64 (Int.tdiv (wrap64 ((wrap64 ((l0.length : Int) * x5_1)) + 7)) 8)), (0), (by first | rfl | (simp; done) | (simp [*]; done)), (by first | rfl | (simp; done) | (simp [*]; done)), H', ⟨Nat.le_refl _⟩, ⟨by repeat (first | (with_reducible first | exact HB.out | apply below_alloc | apply pw_below_drewN | apply below_drew1) | exact HB.out)⟩⟩
    case round =>
     clear H'
     try clear c1
     try clear c2
     try clear c2b0
     try clear p2
     obtain ⟨x6_2, x22_2, rfl, rfl, HA, HK2, HB⟩ := hrel
     cases gk with
     | zero => exact absurd HA.out (by simp [pfor_width.l1])
     | succ k2 =>
      have H := HA.out
      clear HA
      simp only [pfor_width.l1] at H
      by_cases c3 : x22_2 < (l0.length : Int)
      ·rw [if_pos c3] at H
       have c3b0 : decide (x22_2 < (l0.length : Int)) = true := decide_eq_true c3
       clear c3
       by_cases c4 : 0 ≤ x22_2
       ·rw [if_pos c4] at H
        have c4b0 : decide (0 ≤ x22_2) = true := decide_eq_true c4
        clear c4
        by_cases c5 : x22_2 < (l0.length : Int)
        ·rw [if_pos c5] at H
         have c5b0 : decide (x22_2 < (l0.length : Int)) = true := decide_eq_true c5
         clear c5
         replace H := Option.bind_eq_some_iff.mp H
         obtain ⟨t144, A60, H⟩ := H
         replace H : (if t144 > 0 then ((pfor_size.f t144).bind fun t145 => (pfor_width.l1 k2 l0 x3_1 x4_1 x5_1 (wrap64 (x6_2 + (wrap64 (1 + t145)))) l0 (l0.length : Int) (wrap64 (x22_2 + 1)))) else (pfor_width.l1 k2 l0 x3_1 x4_1 x5_1 x6_2 l0 (l0.length : Int) (wrap64 (x22_2 + 1)))) = some r := H
         have A6 := Aside0.mk A60
         clear A60
         by_cases c7 : t144 > 0
         ·rw [if_pos c7] at H
          have c7b0 : decide (0 < t144) = true := decide_eq_true c7
          clear c7
          replace H := Option.bind_eq_some_iff.mp H
          obtain ⟨t145, A80, H⟩ := H
          replace H : (pfor_width.l1 k2 l0 x3_1 x4_1 x5_1 (wrap64 (x6_2 + (wrap64 (1 + t145)))) l0 (l0.length : Int) (wrap64 (x22_2 + 1))) = some r := H
          have A8 := Aside0.mk A80
          clear A80
          have H' := Aside0.mk H
          clear H
          have p143 : 0 ≤ (x22_2 : Int) := of_decide_eq_true (by first | (with_reducible assumption) | assumption)
          have q143 : x22_2 < (l0.length : Int) := of_decide_eq_true (by first | (with_reducible assumption) | assumption)
          obtain ⟨ad143, e143, hx143_0⟩ := Kd.at_int HR0.out x22_2 p143 q143
          cases e143
          replace hx143_0 := (HB.out.cell (World.block_lt_of_cell? w _ hx143_0)).trans hx143_0
          replace p143 := eq_true p143
          replace q143 := eq_true q143
          go_wp2_with (first | ((with_reducible refine gate_callee (f := 102) rfl ?_); refine goesL_ (some 28) rfl rfl Try.func102 (by kernel_rfl) rfl #[.int .u64 (rd l0 x22_2), .int .i64 x5_1] rfl (by (try simp only [List.map_toArray, List.map_cons, List.map_nil]); first | done | rfl | (simp only [List.length_drop, List.length_take]; rfl)) ?_; (with_reducible refine (pfor_high.calls (rd l0 x22_2) x5_1 t144 _ A6.out).mono ?_); rintro e w' ⟨rfl, ⟨nd, rfl⟩⟩; refine ⟨_, rfl, ?_⟩) | ((with_reducible refine gate_callee (f := 120) rfl ?_); refine goesL_ (some 33) rfl rfl Try.func120 (by kernel_rfl) rfl #[.int .u64 t144] rfl (by (try simp only [List.map_toArray, List.map_cons, List.map_nil]); first | done | rfl | (simp only [List.length_drop, List.length_take]; rfl)) ?_; (with_reducible refine (pfor_size.calls t144 t145 _ A8.out).mono ?_); rintro e w9 ⟨rfl, hb⟩; refine ⟨_, rfl, ?_⟩; have n0_ := bsA HB hb; clear HB; have HB := n0_; clear n0_; (try clear hb); (try clear hb2); (try clear hk); (try clear hi)))
          go_roundg k2
          case measure => have := HK1.out; have := HK2.out; omega
          case rel => exact ⟨(wrap64 (x6_2 + (wrap64 (1 + t145)))), (wrap64 (x22_2 + 1)), (by first | rfl | (simp; done) | (simp [*]; done)), (by first | rfl | (simp; done) | (simp [*]; done)), H', ⟨by have := HK1.out; have := HK2.out; omega⟩, ⟨by repeat (first | (with_reducible first | exact HB.out | apply below_alloc | apply pw_below_drewN | apply below_drew1) | exact HB.out)⟩⟩
         ·rw [if_neg c7] at H
          have c7b0 : decide (0 < t144) = false := decide_eq_false c7
          clear c7
          have H' := Aside0.mk H
          clear H
          have p143 : 0 ≤ (x22_2 : Int) := of_decide_eq_true (by first | (with_reducible assumption) | assumption)
          have q143 : x22_2 < (l0.length : Int) := of_decide_eq_true (by first | (with_reducible assumption) | assumption)
          obtain ⟨ad143, e143, hx143_0⟩ := Kd.at_int HR0.out x22_2 p143 q143
          cases e143
          replace hx143_0 := (HB.out.cell (World.block_lt_of_cell? w _ hx143_0)).trans hx143_0
          replace p143 := eq_true p143
          replace q143 := eq_true q143
          go_wp2_with (first | ((with_reducible refine gate_callee (f := 102) rfl ?_); refine goesL_ (some 28) rfl rfl Try.func102 (by kernel_rfl) rfl #[.int .u64 (rd l0 x22_2), .int .i64 x5_1] rfl (by (try simp only [List.map_toArray, List.map_cons, List.map_nil]); first | done | rfl | (simp only [List.length_drop, List.length_take]; rfl)) ?_; (with_reducible refine (pfor_high.calls (rd l0 x22_2) x5_1 t144 _ A6.out).mono ?_); rintro e w' ⟨rfl, ⟨nd, rfl⟩⟩; refine ⟨_, rfl, ?_⟩))
          go_roundg k2
          case measure => have := HK1.out; have := HK2.out; omega
          case rel => exact ⟨(x6_2), (wrap64 (x22_2 + 1)), (by first | rfl | (simp; done) | (simp [*]; done)), (by first | rfl | (simp; done) | (simp [*]; done)), H', ⟨by have := HK1.out; have := HK2.out; omega⟩, ⟨by repeat (first | (with_reducible first | exact HB.out | apply below_alloc | apply pw_below_drewN | apply below_drew1) | exact HB.out)⟩⟩
        ·rw [if_neg c5] at H
         exact absurd H (by simp)
       ·rw [if_neg c4] at H
        exact absurd H (by simp)
      ·rw [if_neg c3] at H
       have c3b0 : decide (x22_2 < (l0.length : Int)) = false := decide_eq_false c3
       clear c3
       by_cases c10 : x4_1 < 0
       ·rw [if_pos c10] at H
        have c10b0 : decide (x4_1 < 0) = true := decide_eq_true c10
        clear c10
        have H' := Aside0.mk H
        clear H
        go_wp2
        go_roundg k2
        case measure => have := HK1.out; have := HK2.out; omega
        case rel => exact ⟨(x5_1), (x6_2), (wrap64 (x5_1 + 1)), (by first | rfl | (simp; done) | (simp [*]; done)), (by first | rfl | (simp; done) | (simp [*]; done)), (by first | rfl | (simp; done) | (simp [*]; done)), H', ⟨by have := HK1.out; have := HK2.out; omega⟩, ⟨by repeat (first | (with_reducible first | exact HB.out | apply below_alloc | apply pw_below_drewN | apply below_drew1) | exact HB.out)⟩⟩
       ·rw [if_neg c10] at H
        have c10b0 : decide (x4_1 < 0) = false := decide_eq_false c10
        clear c10
        by_cases c11 : x6_2 < x4_1
        ·rw [if_pos c11] at H
         have c11b0 : decide (x6_2 < x4_1) = true := decide_eq_true c11
         clear c11
         have H' := Aside0.mk H
         clear H
         go_wp2
         go_roundg k2
         case measure => have := HK1.out; have := HK2.out; omega
         case rel => exact ⟨(x5_1), (x6_2), (wrap64 (x5_1 + 1)), (by first | rfl | (simp; done) | (simp [*]; done)), (by first | rfl | (simp; done) | (simp [*]; done)), (by first | rfl | (simp; done) | (simp [*]; done)), H', ⟨by have := HK1.out; have := HK2.out; omega⟩, ⟨by repeat (first | (with_reducible first | exact HB.out | apply below_alloc | apply pw_below_drewN | apply below_drew1) | exact HB.out)⟩⟩
        ·rw [if_neg c11] at H
         have c11b0 : decide (x6_2 < x4_1) = false := decide_eq_false c11
         clear c11
         have H' := Aside0.mk H
         clear H
         go_wp2
         go_roundg k2
         case measure => have := HK1.out; have := HK2.out; omega
         case rel => exact ⟨(x3_1), (x4_1), (wrap64 (x5_1 + 1)), (by first | rfl | (simp; done) | (simp [*]; done)), (by first | rfl | (simp; done) | (simp [*]; done)), (by first | rfl | (simp; done) | (simp [*]; done)), H', ⟨by have := HK1.out; have := HK2.out; omega⟩, ⟨by repeat (first | (with_reducible first | exact HB.out | apply below_alloc | apply pw_below_drewN | apply below_drew1) | exact HB.out)⟩⟩
   ·rw [if_neg c2] at H
    have c2b0 : decide (x5_1 ≤ 64) = false := decide_eq_false c2
    clear c2
    obtain rfl := Option.some.inj H
    go_wp2
    go_ret
    exact ⟨by first | rfl | (simp [errW_none, errW_some] <;> rfl) | (simp [*, errW_none, errW_some] <;> rfl), by repeat (first | (with_reducible first | exact HB.out | apply below_alloc | apply pw_below_drewN | apply below_drew1) | exact HB.out)⟩

-- LEVEL 2
/-! ### pfor_PutBlock: function 79 -/
mutual
def pfor_PutBlock.j0 : Nat → List Int → List Int → Bool → Option (List Int × Int)
 | 0, _, _, _ => none
 | k + 1, x0, x1, x27 => if x27 = true then (some (([] : List Int), 1)) else ((slices_Min_uint64_uint64.f k x1).bind fun t167 => (if 0 ≤ (x1.length : Int) then (if ((x1.length : Int) : Int).toNat ≤ 35184372088832 then (pfor_PutBlock.l0 k x0 x1 t167 (List.replicate ((x1.length : Int) : Int).toNat 0) x1 (x1.length : Int) 0) else (none)) else (none)))
def pfor_PutBlock.l0 : Nat → List Int → List Int → Int → List Int → List Int → Int → Int → Option (List Int × Int)
 | 0, _, _, _, _, _, _, _ => none
 | k + 1, x0, x1, x6, x7, x33, x34, x35 => if x35 < x34 then (if 0 ≤ x35 then (if x35 < (x33.length : Int) then (if x35 < (x7.length : Int) then (pfor_PutBlock.l0 k x0 x1 x6 (x7.set (x35 : Int).toNat (IntKind.u64.wrap ((rd x33 x35) - x6))) x33 x34 (wrap64 (x35 + 1))) else (none)) else (none)) else (none)) else ((pfor_width.f k x7).bind fun t173 => (if 0 ≤ (x1.length : Int) then (if ((x1.length : Int) : Int).toNat ≤ 35184372088832 then (pfor_PutBlock.l1 k x0 x1 x6 t173 ([] : List Int) 0 (List.replicate ((x1.length : Int) : Int).toNat 0) x7 (x7.length : Int) 0) else (none)) else (none)))
def pfor_PutBlock.l1 : Nat → List Int → List Int → Int → Int → List Int → Int → List Int → List Int → Int → Int → Option (List Int × Int)
 | 0, _, _, _, _, _, _, _, _, _, _ => none
 | k + 1, x0, x1, x6, x10, x11, x12, x13, x52, x53, x54 => if x54 < x53 then (if 0 ≤ x54 then (if x54 < (x52.length : Int) then ((pfor_high.f (rd x52 x54) x10).bind fun t178 => (if x54 < (x13.length : Int) then ((some (x13.set (x54 : Int).toNat (rd x52 x54) : List Int)).bind fun y179 => (if t178 > 0 then (if 0 ≤ x10 then (if x11.length < 140737488355328 then ((num_Put.f (x11 ++ [(x54) % 256]) t178).bind fun t184 => (pfor_PutBlock.l1 k x0 x1 x6 x10 t184 (wrap64 (x12 + 1)) (y179.set (x54 : Int).toNat (Go.bits .andNot .u64 (rd x52 x54) (shl .u64 t178 x10))) x52 x53 (wrap64 (x54 + 1)))) else (none)) else (none)) else (pfor_PutBlock.l1 k x0 x1 x6 x10 x11 x12 y179 x52 x53 (wrap64 (x54 + 1))))) else (none))) else (none)) else (none)) else ((bits_Pack.f k x13 x10).bind fun bt187 => (if bt187.2 = 0 then ((slices_Clone_byte.f x0).bind fun t191 => (if t191.length < 140737488355328 then ((num_Put.f (t191 ++ [((x1.length : Int)) % 256]) x6).bind fun t197 => ((some (([(x10) % 256, (x12) % 256] : List Int) : List Int)).bind fun y200 => (if t197.length + y200.length < 140737488355328 then ((slices_Concat_byte_byte.f k (([(t197 ++ y200), bt187.1, x11] : List (List Int)))).bind fun t209 => (some (t209, 0))) else (none)))) else (none))) else (some (([] : List Int), bt187.2))))
end
def pfor_PutBlock.f (k : Nat) (l0 : List Int) (l1 : List Int) : Option (List Int × Int) := if (l1.length : Int) < 1 then (pfor_PutBlock.j0 k l0 l1 true) else (pfor_PutBlock.j0 k l0 l1 (decide ((l1.length : Int) > 32)))
theorem pfor_PutBlock.mono_l : ∀ k, (∀ y0 y1 y2, LeO (pfor_PutBlock.j0 k y0 y1 y2) (pfor_PutBlock.j0 (k + 1) y0 y1 y2)) ∧ (∀ y0 y1 y2 y3 y4 y5 y6, LeO (pfor_PutBlock.l0 k y0 y1 y2 y3 y4 y5 y6) (pfor_PutBlock.l0 (k + 1) y0 y1 y2 y3 y4 y5 y6)) ∧ (∀ y0 y1 y2 y3 y4 y5 y6 y7 y8 y9, LeO (pfor_PutBlock.l1 k y0 y1 y2 y3 y4 y5 y6 y7 y8 y9) (pfor_PutBlock.l1 (k + 1) y0 y1 y2 y3 y4 y5 y6 y7 y8 y9))
 | 0 => ⟨fun _ _ _ r h => by simp [pfor_PutBlock.j0] at h, fun _ _ _ _ _ _ _ r h => by simp [pfor_PutBlock.l0] at h, fun _ _ _ _ _ _ _ _ _ _ r h => by simp [pfor_PutBlock.l1] at h⟩
 | k + 1 => by
  obtain ⟨ih0, ih1, ih2⟩ := pfor_PutBlock.mono_l k
  refine ⟨?_, ?_, ?_⟩
  ·intro y0 y1 y2
   unfold pfor_PutBlock.j0
   repeat' first
   | (with_reducible exact ih0 _ _ _)
   | (with_reducible exact ih1 _ _ _ _ _ _ _)
   | (with_reducible exact ih2 _ _ _ _ _ _ _ _ _ _)
   | (with_reducible exact bits_Pack.mono _ _ _)
   | (with_reducible exact pfor_width.mono _ _)
   | (with_reducible exact slices_Concat_byte_byte.mono _ _)
   | (with_reducible exact slices_Min_uint64_uint64.mono _ _)
   | (with_reducible exact LeO.refl _)
   | (with_reducible exact LeO.none _)
   | (with_reducible refine LeO.ite ?_ ?_)
   | (with_reducible refine LeO.bind ?_ (fun _ => ?_))
   | exact ih0 _ _ _
   | exact ih1 _ _ _ _ _ _ _
   | exact ih2 _ _ _ _ _ _ _ _ _ _
   | exact bits_Pack.mono _ _ _
   | exact pfor_width.mono _ _
   | exact slices_Concat_byte_byte.mono _ _
   | exact slices_Min_uint64_uint64.mono _ _
   | exact LeO.none _
   | refine LeO.ite ?_ ?_
   | refine LeO.bind ?_ (fun _ => ?_)
  ·intro y0 y1 y2 y3 y4 y5 y6
   unfold pfor_PutBlock.l0
   repeat' first
   | (with_reducible exact ih0 _ _ _)
   | (with_reducible exact ih1 _ _ _ _ _ _ _)
   | (with_reducible exact ih2 _ _ _ _ _ _ _ _ _ _)
   | (with_reducible exact bits_Pack.mono _ _ _)
   | (with_reducible exact pfor_width.mono _ _)
   | (with_reducible exact slices_Concat_byte_byte.mono _ _)
   | (with_reducible exact slices_Min_uint64_uint64.mono _ _)
   | (with_reducible exact LeO.refl _)
   | (with_reducible exact LeO.none _)
   | (with_reducible refine LeO.ite ?_ ?_)
   | (with_reducible refine LeO.bind ?_ (fun _ => ?_))
   | exact ih0 _ _ _
   | exact ih1 _ _ _ _ _ _ _
   | exact ih2 _ _ _ _ _ _ _ _ _ _
   | exact bits_Pack.mono _ _ _
   | exact pfor_width.mono _ _
   | exact slices_Concat_byte_byte.mono _ _
   | exact slices_Min_uint64_uint64.mono _ _
   | exact LeO.none _
   | refine LeO.ite ?_ ?_
   | refine LeO.bind ?_ (fun _ => ?_)
  ·intro y0 y1 y2 y3 y4 y5 y6 y7 y8 y9
   unfold pfor_PutBlock.l1
   repeat' first
   | (with_reducible exact ih0 _ _ _)
   | (with_reducible exact ih1 _ _ _ _ _ _ _)
   | (with_reducible exact ih2 _ _ _ _ _ _ _ _ _ _)
   | (with_reducible exact bits_Pack.mono _ _ _)
   | (with_reducible exact pfor_width.mono _ _)
   | (with_reducible exact slices_Concat_byte_byte.mono _ _)
   | (with_reducible exact slices_Min_uint64_uint64.mono _ _)
   | (with_reducible exact LeO.refl _)
   | (with_reducible exact LeO.none _)
   | (with_reducible refine LeO.ite ?_ ?_)
   | (with_reducible refine LeO.bind ?_ (fun _ => ?_))
   | exact ih0 _ _ _
   | exact ih1 _ _ _ _ _ _ _
   | exact ih2 _ _ _ _ _ _ _ _ _ _
   | exact bits_Pack.mono _ _ _
   | exact pfor_width.mono _ _
   | exact slices_Concat_byte_byte.mono _ _
   | exact slices_Min_uint64_uint64.mono _ _
   | exact LeO.none _
   | refine LeO.ite ?_ ?_
   | refine LeO.bind ?_ (fun _ => ?_)
theorem pfor_PutBlock.mono : ∀ a0 a1 k, LeO (pfor_PutBlock.f k a0 a1) (pfor_PutBlock.f (k + 1) a0 a1) := by
 intro a0 a1 k
 obtain ⟨ih0, ih1, ih2⟩ := pfor_PutBlock.mono_l k
 unfold pfor_PutBlock.f
 repeat' first
   | (with_reducible exact ih0 _ _ _)
   | (with_reducible exact ih1 _ _ _ _ _ _ _)
   | (with_reducible exact ih2 _ _ _ _ _ _ _ _ _ _)
   | (with_reducible exact bits_Pack.mono _ _ _)
   | (with_reducible exact pfor_width.mono _ _)
   | (with_reducible exact slices_Concat_byte_byte.mono _ _)
   | (with_reducible exact slices_Min_uint64_uint64.mono _ _)
   | (with_reducible exact LeO.refl _)
   | (with_reducible exact LeO.none _)
   | (with_reducible refine LeO.ite ?_ ?_)
   | (with_reducible refine LeO.bind ?_ (fun _ => ?_))
   | exact ih0 _ _ _
   | exact ih1 _ _ _ _ _ _ _
   | exact ih2 _ _ _ _ _ _ _ _ _ _
   | exact bits_Pack.mono _ _ _
   | exact pfor_width.mono _ _
   | exact slices_Concat_byte_byte.mono _ _
   | exact slices_Min_uint64_uint64.mono _ _
   | exact LeO.none _
   | refine LeO.ite ?_ ?_
   | refine LeO.bind ?_ (fun _ => ?_)
set_option maxHeartbeats 8000000 in
set_option maxRecDepth 100000 in
theorem pfor_PutBlock.calls (k : Nat) (A0 : Option Addr) (c0 : Nat) (l0 : List Int) (A1 : Option Addr) (c1 : Nat) (l1 : List Int) (r1 : List Int) (r2 : Int) (w : World) (hr0 : Kd.C (Kd.int .u8) w A0 l0.length l0) (hc0 : l0.length ≤ c0) (hr1 : Kd.C (Kd.int .u64) w A1 l1.length l1) (hc1 : l1.length ≤ c1) (h : pfor_PutBlock.f k l0 l1 = some (r1, r2)) :
  Calls Try.prog 79 #[.slice A0 l0.length c0, .slice A1 l1.length c1] w fun e w' => ∃ v0_ : Value, e = .returned (.tuple #[v0_, .int .i64 r2]) ∧ Kd.R (Kd.int .u8) 5 w' w.heap.size (fun _ => True) v0_ r1 ∧ Below w.heap.size w w' := by
 have HR0 := Aside0.mk hr0
 have HC0 := Aside0.mk hc0
 clear hr0 hc0
 have HR1 := Aside0.mk hr1
 have HC1 := Aside0.mk hc1
 clear hr1 hc1
 have HB := Aside0.mk (Below.refl w.heap.size w)
 have H : (if (l1.length : Int) < 1 then (pfor_PutBlock.j0 k l0 l1 true) else (pfor_PutBlock.j0 k l0 l1 (decide ((l1.length : Int) > 32)))) = some (r1, r2) := h
 clear h
 have HC3 := Aside0.mk H
 clear H
 go_enter Try.func79, Try.ntmps79
 go_upto_region 1 with (fail)
 go_cut [27] (fun v27 wc => ∃ (kq : Nat) (x27_2 : Bool), v27 = .bool x27_2 ∧ Aside0 (pfor_PutBlock.j0 kq l0 l1 x27_2 = some (r1, r2)) ∧ Aside0 (kq ≤ k) ∧ Aside0 (Below w.heap.size w wc))
 case first =>
  have H := HC3.out
  clear HC3
  by_cases c4 : (l1.length : Int) < 1
  ·rw [if_pos c4] at H
   have c4b0 : decide ((l1.length : Int) < 1) = true := decide_eq_true c4
   have c4b1 : decide (l1.length < 1) = true := decide_eq_true (by omega)
   clear c4
   (first | rw [c4b0] | (simp only [i64_w, i32_w]; rw [c4b0]) | skip)
   have H' := Aside0.mk H
   clear H
   go_wp2
   go_meet
   case rel => exact ⟨_, (true), (by first | rfl | (simp; done) | (simp [*]; done)), H', ⟨by first | omega | exact Nat.le_refl _⟩, ⟨by repeat (first | (with_reducible first | exact HB.out | apply below_alloc | apply pw_below_drewN | apply below_drew1) | exact HB.out)⟩⟩
  ·rw [if_neg c4] at H
   have c4b0 : decide ((l1.length : Int) < 1) = false := decide_eq_false c4
   have c4b1 : decide (l1.length < 1) = false := decide_eq_false (by omega)
   clear c4
   (first | rw [c4b0] | (simp only [i64_w, i32_w]; rw [c4b0]) | skip)
   have H' := Aside0.mk H
   clear H
   go_wp2
   go_meet
   case rel => exact ⟨_, (decide ((l1.length : Int) > 32)), (by first | rfl | (simp; done) | (simp [*]; done)), H', ⟨by first | omega | exact Nat.le_refl _⟩, ⟨by repeat (first | (with_reducible first | exact HB.out | apply below_alloc | apply pw_below_drewN | apply below_drew1) | exact HB.out)⟩⟩
 case rest =>
  clear HC3
  try clear c1
  try clear p2
  try clear c4
  try clear c4b0
  try clear c4b1
  obtain ⟨kq, x27_2, rfl, HA, HJ2, HB⟩ := hcut
  cases kq with
  | zero => exact absurd HA.out (by simp [pfor_PutBlock.j0])
  | succ kj2 =>
   have H := HA.out
   clear HA
   simp only [pfor_PutBlock.j0] at H
   by_cases c5 : x27_2 = true
   ·subst c5
    have H1 : (some (([] : List Int), 1)) = some (r1, r2) := by rw [if_pos rfl] at H; exact H
    clear H
    have H := H1
    clear H1
    simp only [Option.some.injEq, Prod.mk.injEq] at H
    obtain ⟨rfl, rfl⟩ := H
    go_wp2
    go_ret2
    exact ⟨_, by first | rfl | (simp [errW_none, errW_some] <;> rfl) | (simp [*, errW_none, errW_some] <;> rfl), by first | exact Kd.R_nil _ _ _ _ _ | exact Kd.N_nil _ _ _ _ _ | exact Kd.V_nil _ _ _ _ _ | exact Kd.Q_nil _ _ _ _ _ | exact Kd.S_nil _ _ _ _ _, by repeat (first | (with_reducible first | exact HB.out | apply below_alloc | apply pw_below_drewN | apply below_drew1) | exact HB.out)⟩
   ·replace c5 := Bool.eq_false_iff.mpr c5
    subst c5
    have H1 : ((slices_Min_uint64_uint64.f kj2 l1).bind fun t167 => (if 0 ≤ (l1.length : Int) then (if ((l1.length : Int) : Int).toNat ≤ 35184372088832 then (pfor_PutBlock.l0 kj2 l0 l1 t167 (List.replicate ((l1.length : Int) : Int).toNat 0) l1 (l1.length : Int) 0) else (none)) else (none))) = some (r1, r2) := by rw [if_neg (show ¬ (false = true) by decide)] at H; exact H
    clear H
    have H := H1
    clear H1
    replace H := Option.bind_eq_some_iff.mp H
    obtain ⟨t167, A60, H⟩ := H
    replace H : (if 0 ≤ (l1.length : Int) then (if ((l1.length : Int) : Int).toNat ≤ 35184372088832 then (pfor_PutBlock.l0 kj2 l0 l1 t167 (List.replicate ((l1.length : Int) : Int).toNat 0) l1 (l1.length : Int) 0) else (none)) else (none)) = some (r1, r2) := H
    have A6 := Aside0.mk A60
    clear A60
    by_cases c7 : 0 ≤ (l1.length : Int)
    ·rw [if_pos c7] at H
     have c7b0 := eq_true c7
     have c7b1 : decide (0 ≤ (l1.length : Int)) = true := decide_eq_true c7
     clear c7
     by_cases c8 : ((l1.length : Int) : Int).toNat ≤ 35184372088832
     ·rw [if_pos c8] at H
      have c8b0 := eq_true c8
      have c8b1 : decide (((l1.length : Int) : Int).toNat ≤ 35184372088832) = true := decide_eq_true c8
      (try simp only [Int.toNat_natCast] at c8b1)
      clear c8
      obtain ⟨y168, hy168⟩ : ∃ y_ : List Int, y_ = (List.replicate ((l1.length : Int) : Int).toNat 0) := ⟨_, rfl⟩
      replace H : (pfor_PutBlock.l0 kj2 l0 l1 t167 y168 l1 (l1.length : Int) 0) = some (r1, r2) := by first | (rw [hy168]; with_reducible exact H) | (have H2_ := (Option.bind_some _ _).symm.trans H; rw [hy168]; with_reducible exact H2_) | (have H2_ := (Option.bind_some _ _).symm.trans H; with_reducible exact H2_) | with_reducible exact H | (rw [hy168]; exact H) | exact H
      have Ny168 := Aside0.mk hy168
      clear hy168
      have H' := Aside0.mk H
      clear H
      go_wp2_with (first | ((with_reducible refine gate_callee (f := 100) rfl ?_); refine goesL_ (some 29) rfl rfl Try.func100 (by kernel_rfl) rfl #[.slice A1 l1.length c1] rfl (by (try simp only [List.map_toArray, List.map_cons, List.map_nil]); first | done | rfl | (simp only [List.length_drop, List.length_take]; rfl)) ?_; (with_reducible refine (slices_Min_uint64_uint64.calls kj2 _ _ l1 t167 _ ?side1 ?side2 A6.out).mono ?_); (case side1 => repeat (first | exact (Kd.C_below HR1.out HB.out) | (with_reducible refine Kd.C_alloc ?_ _) | (with_reducible refine Kd.C_drewN ?_ _) | (with_reducible refine Kd.C_drew ?_))); (case side2 => exact HC1.out); rintro e w9 ⟨rfl, hb⟩; refine ⟨_, rfl, ?_⟩; have n0_ := bsA HB hb; clear HB; have HB := n0_; clear n0_; (try clear hb); (try clear hb2); (try clear hk); (try clear hi)) | ((with_reducible refine gate_dst (N := 32) rfl ?_); (try (refine gate_guard (by rfl) ?_; dsimp only)); refine Kd.R_make (Kd.int .u64) _ 60 rfl (N := 32) rfl 85 _ _ rfl (l1.length : Int) rfl rfl Try.underlying85 (.int .u64 0) 8 info60 rfl (by decide) (by omega) 0 (ok := fun _ => True) (okp := fun _ => True) rfl (fun _ hk => hk) trivial (of_decide_eq_true (by first | (with_reducible assumption) | assumption)) (Nat.le_trans (Nat.mul_le_mul_right _ (of_decide_eq_true (by first | (with_reducible assumption) | assumption) : (l1.length : Int).toNat ≤ 35184372088832)) (by omega)) (Below.refl _ _) (Nat.le_refl _) ?_; intro v169 w10 ho11 hb hg_ hnew_; clear hg_ hnew_; (first | rw [← Ny168.out] at ho11 | (simp only [Int.reduceToNat] at ho11; rw [← Ny168.out] at ho11)); have n0_ := Aside0.mk (Kd.R_lower ho11 (below_size (by repeat (first | (with_reducible first | exact HB.out | apply below_alloc | apply pw_below_drewN | apply below_drew1) | exact HB.out)))); have n1_ := bsA HB hb; clear HB; have HO170 := n0_; have HB := n1_; clear n0_ n1_; clear hb ho11))
      go_loopg [35] kj2 (fun kq v35 w' => ∃ (x7_2 : List Int) (x35_2 : Int), v35 = .int .i64 x35_2 ∧ Aside0 (pfor_PutBlock.l0 kq l0 l1 t167 x7_2 l1 (l1.length : Int) x35_2 = some (r1, r2)) ∧ Aside0 (kq ≤ kj2) ∧ Aside0 (Kd.R (Kd.int .u64) 60 w' w.heap.size (fun _ => True) v169 x7_2) ∧ Aside0 (Below w.heap.size w w'))
      case atStart => exact ⟨(y168), (0), (by first | rfl | (simp; done) | (simp [*]; done)), H', ⟨Nat.le_refl _⟩, ⟨by (with_reducible repeat (first | apply Kd.R_alloc | apply Kd.R_drewN | apply Kd.R_drew)); exact HO170.out⟩, ⟨by repeat (first | (with_reducible first | exact HB.out | apply below_alloc | apply pw_below_drewN | apply below_drew1) | exact HB.out)⟩⟩
      case round =>
       clear H'
       try clear c1
       try clear p2
       try clear c4
       try clear c4b0
       try clear c4b1
       try clear c5
       try clear c7
       try clear c7b0
       try clear c7b1
       try clear c8
       try clear c8b0
       try clear c8b1
       try clear c10
       try clear p2
       obtain ⟨x7_2, x35_2, rfl, HA, HK2, HO_7, HB⟩ := hrel
       cases gk with
       | zero => exact absurd HA.out (by simp [pfor_PutBlock.l0])
       | succ k2 =>
        have H := HA.out
        clear HA
        simp only [pfor_PutBlock.l0] at H
        by_cases c12 : x35_2 < (l1.length : Int)
        ·rw [if_pos c12] at H
         have c12b0 : decide (x35_2 < (l1.length : Int)) = true := decide_eq_true c12
         clear c12
         by_cases c13 : 0 ≤ x35_2
         ·rw [if_pos c13] at H
          have c13b0 : decide (0 ≤ x35_2) = true := decide_eq_true c13
          clear c13
          by_cases c14 : x35_2 < (l1.length : Int)
          ·rw [if_pos c14] at H
           have c14b0 : decide (x35_2 < (l1.length : Int)) = true := decide_eq_true c14
           clear c14
           by_cases c15 : x35_2 < (x7_2.length : Int)
           ·rw [if_pos c15] at H
            have c15b0 : decide (x35_2 < (x7_2.length : Int)) = true := decide_eq_true c15
            clear c15
            obtain ⟨y172, hy172⟩ : ∃ y_ : List Int, y_ = (x7_2.set (x35_2 : Int).toNat (IntKind.u64.wrap ((rd l1 x35_2) - t167))) := ⟨_, rfl⟩
            replace H : (pfor_PutBlock.l0 k2 l0 l1 t167 y172 l1 (l1.length : Int) (wrap64 (x35_2 + 1))) = some (r1, r2) := by first | (rw [hy172]; with_reducible exact H) | (have H2_ := (Option.bind_some _ _).symm.trans H; rw [hy172]; with_reducible exact H2_) | (have H2_ := (Option.bind_some _ _).symm.trans H; with_reducible exact H2_) | with_reducible exact H | (rw [hy172]; exact H) | exact H
            have Ny172 := Aside0.mk hy172
            clear hy172
            have H' := Aside0.mk H
            clear H
            have p171 : 0 ≤ (x35_2 : Int) := of_decide_eq_true (by first | (with_reducible assumption) | assumption)
            have q171 : x35_2 < (l1.length : Int) := of_decide_eq_true (by first | (with_reducible assumption) | assumption)
            obtain ⟨ad171, e171, hx171_0⟩ := Kd.at_int HR1.out x35_2 p171 q171
            cases e171
            replace hx171_0 := (HB.out.cell (World.block_lt_of_cell? w _ hx171_0)).trans hx171_0
            replace p171 := eq_true p171
            replace q171 := eq_true q171
            have p16 : 0 ≤ (x35_2 : Int) := of_decide_eq_true (by first | (with_reducible assumption) | assumption)
            have q16 : (x35_2 : Int) < ((x7_2.length : Int) : Int) := of_decide_eq_true (by first | (with_reducible assumption) | assumption)
            obtain ⟨go16, co16, eo16, gb16, gl16, cl16, HG16⟩ := Kd.R_form HO_7.out (by omega)
            (first | cases eo16 | (injection eo16 with ea_ en_ ec_; (first | subst ea_ | (injection ea_ with ea_; subst ea_)); subst ec_; clear en_))
            have GB16 := Aside0.mk gb16
            have GG16 := Aside0.mk HG16
            clear gb16 gl16 HG16
            obtain ⟨hx16_0, hf16_0⟩ := Kd.R_celln 0 HO_7.out (x35_2 : Int) p16 q16
            replace p16 := eq_true p16
            replace q16 := eq_true q16
            have HP17 := Kd.R_putg HO_7.out (x35_2 : Int) (IntKind.u64.wrap ((rd l1 x35_2) - t167))
            go_wp2_with (first | ((with_reducible refine gate_store (t := 60) (p := 45) rfl ?_); refine store_event (t := 60) (p := 45) (v := ?vo_w18) (w1 := (wr.setCell ⟨go16, (x35_2 : Int).toNat, none⟩ (.int .u64 (IntKind.u64.wrap ((rd l1 x35_2) - t167))))) ?hg ?ho ?hn ?hr ?_; (case ho => rfl); (case hg => rfl); (case hn => rfl); (case hr => first | (go_simp; done) | (go_simp; rfl) | (go_simp; simp only [wAl, wAr, wSl, wSr, wW])); intro w18 hw; have hg : wr.grownBy w18 (some go16) := (by rw [hw]; exact HP17.2); have hp_ : Kd.R (Kd.int .u64) 60 w18 w.heap.size (fun _ => True) (.slice (some ⟨go16, 0, none⟩) x7_2.length co16) y172 := (by rw [hw, Ny172.out]; exact HP17.1); clear HP17; have n0_ := Aside0.mk (hp_); have n1_ := Aside0.mk ((by rw [hw]; exact below_set (HB.out) GB16.out : Below w.heap.size w w18)); clear HO_7; clear HB; have HO_7 := n0_; have HB := n1_; clear n0_ n1_; clear hg hw hp_))
            go_roundg k2
            case measure => have := HJ2.out; have := HK2.out; omega
            case rel => exact ⟨(y172), (wrap64 (x35_2 + 1)), (by first | rfl | (simp; done) | (simp [*]; done)), H', ⟨by have := HJ2.out; have := HK2.out; omega⟩, ⟨by (with_reducible repeat (first | apply Kd.R_alloc | apply Kd.R_drewN | apply Kd.R_drew)); exact HO_7.out⟩, ⟨by repeat (first | (with_reducible first | exact HB.out | apply below_alloc | apply pw_below_drewN | apply below_drew1) | exact HB.out)⟩⟩
           ·rw [if_neg c15] at H
            exact absurd H (by simp)
          ·rw [if_neg c14] at H
           exact absurd H (by simp)
         ·rw [if_neg c13] at H
          exact absurd H (by simp)
        ·rw [if_neg c12] at H
         have c12b0 : decide (x35_2 < (l1.length : Int)) = false := decide_eq_false c12
         clear c12
         replace H := Option.bind_eq_some_iff.mp H
         obtain ⟨t173, A190, H⟩ := H
         replace H : (if 0 ≤ (l1.length : Int) then (if ((l1.length : Int) : Int).toNat ≤ 35184372088832 then (pfor_PutBlock.l1 k2 l0 l1 t167 t173 ([] : List Int) 0 (List.replicate ((l1.length : Int) : Int).toNat 0) x7_2 (x7_2.length : Int) 0) else (none)) else (none)) = some (r1, r2) := H
         have A19 := Aside0.mk A190
         clear A190
         by_cases c20 : 0 ≤ (l1.length : Int)
         ·rw [if_pos c20] at H
          have c20b0 := eq_true c20
          have c20b1 : decide (0 ≤ (l1.length : Int)) = true := decide_eq_true c20
          clear c20
          by_cases c21 : ((l1.length : Int) : Int).toNat ≤ 35184372088832
          ·rw [if_pos c21] at H
           have c21b0 := eq_true c21
           have c21b1 : decide (((l1.length : Int) : Int).toNat ≤ 35184372088832) = true := decide_eq_true c21
           (try simp only [Int.toNat_natCast] at c21b1)
           clear c21
           obtain ⟨y174, hy174⟩ : ∃ y_ : List Int, y_ = (List.replicate ((l1.length : Int) : Int).toNat 0) := ⟨_, rfl⟩
           replace H : (pfor_PutBlock.l1 k2 l0 l1 t167 t173 ([] : List Int) 0 y174 x7_2 (x7_2.length : Int) 0) = some (r1, r2) := by first | (rw [hy174]; with_reducible exact H) | (have H2_ := (Option.bind_some _ _).symm.trans H; rw [hy174]; with_reducible exact H2_) | (have H2_ := (Option.bind_some _ _).symm.trans H; with_reducible exact H2_) | with_reducible exact H | (rw [hy174]; exact H) | exact H
           have Ny174 := Aside0.mk hy174
           clear hy174
           have H' := Aside0.mk H
           clear H
           obtain ⟨Ao22, co22, eo22⟩ := Kd.R_slice HO_7.out
           subst eo22
           go_wp2_with (first | ((with_reducible refine gate_callee (f := 101) rfl ?_); refine goesL_ (some 48) rfl rfl Try.func101 (by kernel_rfl) rfl #[.slice Ao22 x7_2.length co22] rfl (by (try simp only [List.map_toArray, List.map_cons, List.map_nil]); first | done | rfl | (simp only [List.length_drop, List.length_take]; rfl)) ?_; (with_reducible refine (pfor_width.calls k2 _ _ x7_2 t173 _ ?side1 ?side2 A19.out).mono ?_); (case side1 => repeat (first | exact (Kd.R_reads' HO_7.out).2.2 | (with_reducible refine Kd.C_alloc ?_ _) | (with_reducible refine Kd.C_drewN ?_ _) | (with_reducible refine Kd.C_drew ?_))); (case side2 => exact (Kd.R_reads' HO_7.out).2.1); rintro e w23 ⟨rfl, hb⟩; refine ⟨_, rfl, ?_⟩; have n0_ := rbA HO_7 hb; have n1_ := bsA HB hb; clear HO_7; clear HB; have HO_7 := n0_; have HB := n1_; clear n0_ n1_; (try clear hb); (try clear hb2); (try clear hk); (try clear hi)) | ((with_reducible refine gate_dst (N := 51) rfl ?_); (try (refine gate_guard (by rfl) ?_; dsimp only)); refine Kd.R_make (Kd.int .u64) _ 60 rfl (N := 51) rfl 85 _ _ rfl (l1.length : Int) rfl rfl Try.underlying85 (.int .u64 0) 8 info60 rfl (by decide) (by omega) 0 (ok := fun _ => True) (okp := fun _ => True) rfl (fun _ hk => hk) trivial (of_decide_eq_true (by first | (with_reducible assumption) | assumption)) (Nat.le_trans (Nat.mul_le_mul_right _ (of_decide_eq_true (by first | (with_reducible assumption) | assumption) : (l1.length : Int).toNat ≤ 35184372088832)) (by omega)) (Below.refl _ _) (Nat.le_refl _) ?_; intro v175 w24 ho25 hb hg_ hnew_; clear hg_ hnew_; (first | rw [← Ny174.out] at ho25 | (simp only [Int.reduceToNat] at ho25; rw [← Ny174.out] at ho25)); have n0_ := Aside0.mk (Kd.R_elder' (by (with_reducible repeat (first | apply Kd.R_alloc | apply Kd.R_drewN | apply Kd.R_drew)); exact HO_7.out) (Kd.R_base ho25) hb); have n1_ := Aside0.mk (Kd.R_lower (Kd.R_new' ho25 (Kd.R_lt (by (with_reducible repeat (first | apply Kd.R_alloc | apply Kd.R_drewN | apply Kd.R_drew)); exact HO_7.out))) (below_size (by repeat (first | (with_reducible first | exact HB.out | apply below_alloc | apply pw_below_drewN | apply below_drew1) | exact HB.out)))); have n2_ := bsA HB hb; clear HO_7; clear HB; have HO_7 := n0_; have HO176 := n1_; have HB := n2_; clear n0_ n1_ n2_; clear hb ho25))
           go_loopg [11, 12, 54] k2 (fun kq v11 v12 v54 w' => ∃ (x11_3 : List Int) (x12_3 : Int) (x13_3 : List Int) (x54_3 : Int), v12 = .int .i64 x12_3 ∧ v54 = .int .i64 x54_3 ∧ Aside0 (pfor_PutBlock.l1 kq l0 l1 t167 t173 x11_3 x12_3 x13_3 x7_2 (x7_2.length : Int) x54_3 = some (r1, r2)) ∧ Aside0 (kq ≤ k2) ∧ Aside0 (Kd.R (Kd.int .u8) 5 w' w.heap.size (fun _ => True) v11 x11_3) ∧ Aside0 (Kd.R (Kd.int .u64) 60 w' w.heap.size (fun k_ => some k_ ≠ ((.slice Ao22 x7_2.length co22) : Value).ownBlock) v175 x13_3) ∧ Aside0 (Kd.R (Kd.int .u64) 60 w' w.heap.size (fun k_ => some k_ ≠ (v175 : Value).ownBlock) (.slice Ao22 x7_2.length co22) x7_2) ∧ Aside0 (Below w.heap.size w w'))
           case atStart => exact ⟨(([] : List Int)), (0), (y174), (0), (by first | rfl | (simp; done) | (simp [*]; done)), (by first | rfl | (simp; done) | (simp [*]; done)), H', ⟨Nat.le_refl _⟩, ⟨by first | exact Kd.R_nil _ _ _ _ _ | exact Kd.N_nil _ _ _ _ _ | exact Kd.V_nil _ _ _ _ _ | exact Kd.Q_nil _ _ _ _ _ | exact Kd.S_nil _ _ _ _ _⟩, ⟨by (with_reducible repeat (first | apply Kd.R_alloc | apply Kd.R_drewN | apply Kd.R_drew)); exact Kd.R_mono HO176.out (fun _ hk => hk.2)⟩, ⟨by (with_reducible repeat (first | apply Kd.R_alloc | apply Kd.R_drewN | apply Kd.R_drew)); exact Kd.R_mono HO_7.out (fun _ hk => hk.2)⟩, ⟨by repeat (first | (with_reducible first | exact HB.out | apply below_alloc | apply pw_below_drewN | apply below_drew1) | exact HB.out)⟩⟩
           case round =>
            clear H'
            try clear c1
            try clear p1
            try clear q1
            try clear hx1
            try clear c2
            try clear p2
            try clear c4
            try clear c4b0
            try clear c4b1
            try clear c5
            try clear p6
            try clear c7
            try clear c7b0
            try clear c7b1
            try clear c8
            try clear c8b0
            try clear c8b1
            try clear c10
            try clear c12
            try clear c12b0
            try clear c13
            try clear c13b0
            try clear c14
            try clear c14b0
            try clear c15
            try clear c15b0
            try clear p16
            try clear q16
            try clear hx16
            try clear hf16
            try clear p17
            try clear q17
            try clear hx17
            try clear c20
            try clear c20b0
            try clear c20b1
            try clear c21
            try clear c21b0
            try clear c21b1
            try clear hx16_0
            try clear hx171_0
            try clear p16
            try clear p171
            try clear p2
            try clear q16
            try clear q171
            obtain ⟨x11_3, x12_3, x13_3, x54_3, rfl, rfl, HA, HK3, HO_11, HO_13, HO_52, HB⟩ := hrel
            cases gk with
            | zero => exact absurd HA.out (by simp [pfor_PutBlock.l1])
            | succ k3 =>
             have H := HA.out
             clear HA
             simp only [pfor_PutBlock.l1] at H
             by_cases c26 : x54_3 < (x7_2.length : Int)
             ·rw [if_pos c26] at H
              have c26b0 : decide (x54_3 < (x7_2.length : Int)) = true := decide_eq_true c26
              clear c26
              by_cases c27 : 0 ≤ x54_3
              ·rw [if_pos c27] at H
               have c27b0 : decide (0 ≤ x54_3) = true := decide_eq_true c27
               clear c27
               by_cases c28 : x54_3 < (x7_2.length : Int)
               ·rw [if_pos c28] at H
                have c28b0 : decide (x54_3 < (x7_2.length : Int)) = true := decide_eq_true c28
                clear c28
                replace H := Option.bind_eq_some_iff.mp H
                obtain ⟨t178, A290, H⟩ := H
                replace H : (if x54_3 < (x13_3.length : Int) then ((some (x13_3.set (x54_3 : Int).toNat (rd x7_2 x54_3) : List Int)).bind fun y179 => (if t178 > 0 then (if 0 ≤ t173 then (if x11_3.length < 140737488355328 then ((num_Put.f (x11_3 ++ [(x54_3) % 256]) t178).bind fun t184 => (pfor_PutBlock.l1 k3 l0 l1 t167 t173 t184 (wrap64 (x12_3 + 1)) (y179.set (x54_3 : Int).toNat (Go.bits .andNot .u64 (rd x7_2 x54_3) (shl .u64 t178 t173))) x7_2 (x7_2.length : Int) (wrap64 (x54_3 + 1)))) else (none)) else (none)) else (pfor_PutBlock.l1 k3 l0 l1 t167 t173 x11_3 x12_3 y179 x7_2 (x7_2.length : Int) (wrap64 (x54_3 + 1))))) else (none)) = some (r1, r2) := H
                have A29 := Aside0.mk A290
                clear A290
                by_cases c30 : x54_3 < (x13_3.length : Int)
                ·rw [if_pos c30] at H
                 have c30b0 : decide (x54_3 < (x13_3.length : Int)) = true := decide_eq_true c30
                 clear c30
                 obtain ⟨y179, hy179⟩ : ∃ y_ : List Int, y_ = (x13_3.set (x54_3 : Int).toNat (rd x7_2 x54_3)) := ⟨_, rfl⟩
                 replace H : (if t178 > 0 then (if 0 ≤ t173 then (if x11_3.length < 140737488355328 then ((num_Put.f (x11_3 ++ [(x54_3) % 256]) t178).bind fun t184 => (pfor_PutBlock.l1 k3 l0 l1 t167 t173 t184 (wrap64 (x12_3 + 1)) (y179.set (x54_3 : Int).toNat (Go.bits .andNot .u64 (rd x7_2 x54_3) (shl .u64 t178 t173))) x7_2 (x7_2.length : Int) (wrap64 (x54_3 + 1)))) else (none)) else (none)) else (pfor_PutBlock.l1 k3 l0 l1 t167 t173 x11_3 x12_3 y179 x7_2 (x7_2.length : Int) (wrap64 (x54_3 + 1)))) = some (r1, r2) := by first | (rw [hy179]; with_reducible exact H) | (have H2_ := (Option.bind_some _ _).symm.trans H; rw [hy179]; with_reducible exact H2_) | (have H2_ := (Option.bind_some _ _).symm.trans H; with_reducible exact H2_) | with_reducible exact H | (rw [hy179]; exact H) | exact H
                 have Ny179 := Aside0.mk hy179
                 clear hy179
                 by_cases c32 : t178 > 0
                 ·rw [if_pos c32] at H
                  have c32b0 : decide (0 < t178) = true := decide_eq_true c32
                  clear c32
                  by_cases c33 : 0 ≤ t173
                  ·rw [if_pos c33] at H
                   have c33b0 := eq_true c33
                   have c33b1 : decide (0 ≤ t173) = true := decide_eq_true c33
                   clear c33
                   obtain ⟨ji34, hji34⟩ : ∃ j_ : Int, (shl .u64 t178 t173) = j_ := ⟨_, rfl⟩
                   replace H : (if x11_3.length < 140737488355328 then ((num_Put.f (x11_3 ++ [(x54_3) % 256]) t178).bind fun t184 => (pfor_PutBlock.l1 k3 l0 l1 t167 t173 t184 (wrap64 (x12_3 + 1)) (y179.set (x54_3 : Int).toNat (Go.bits .andNot .u64 (rd x7_2 x54_3) (ji34))) x7_2 (x7_2.length : Int) (wrap64 (x54_3 + 1)))) else (none)) = some (r1, r2) := by first | (rw [hji34] at H; exact H) | (simp only [hji34] at H ⊢; exact H)
                   (try rw [hji34] at A29)
                   have hji34_ : (IntKind.u64.wrap (t178 * 2 ^ min t173.toNat 64)) = ji34 := hji34
                   have hji34z : t173 ≤ 64 → (IntKind.u64.wrap (t178 * 2 ^ t173.toNat)) = ji34 := shl_small hji34
                   obtain ⟨y180, hy180⟩ : ∃ y_ : List Int, y_ = (y179.set (x54_3 : Int).toNat (Go.bits .andNot .u64 (rd x7_2 x54_3) (ji34))) := ⟨_, rfl⟩
                   replace H : (if x11_3.length < 140737488355328 then ((num_Put.f (x11_3 ++ [(x54_3) % 256]) t178).bind fun t184 => (pfor_PutBlock.l1 k3 l0 l1 t167 t173 t184 (wrap64 (x12_3 + 1)) y180 x7_2 (x7_2.length : Int) (wrap64 (x54_3 + 1)))) else (none)) = some (r1, r2) := by first | (rw [hy180]; with_reducible exact H) | (have H2_ := (Option.bind_some _ _).symm.trans H; rw [hy180]; with_reducible exact H2_) | (have H2_ := (Option.bind_some _ _).symm.trans H; with_reducible exact H2_) | with_reducible exact H | (rw [hy180]; exact H) | exact H
                   have Ny180 := Aside0.mk hy180
                   clear hy180
                   by_cases c36 : x11_3.length < 140737488355328
                   ·rw [if_pos c36] at H
                    have LMc36 := Aside0.mk c36
                    clear c36
                    obtain ⟨y181, hy181⟩ : ∃ y_ : List Int, y_ = (x11_3 ++ [(x54_3) % 256]) := ⟨_, rfl⟩
                    replace H : ((num_Put.f y181 t178).bind fun t184 => (pfor_PutBlock.l1 k3 l0 l1 t167 t173 t184 (wrap64 (x12_3 + 1)) y180 x7_2 (x7_2.length : Int) (wrap64 (x54_3 + 1)))) = some (r1, r2) := by first | (rw [hy181]; with_reducible exact H) | (have H2_ := (Option.bind_some _ _).symm.trans H; rw [hy181]; with_reducible exact H2_) | (have H2_ := (Option.bind_some _ _).symm.trans H; with_reducible exact H2_) | with_reducible exact H | (rw [hy181]; exact H) | exact H
                    have Ny181 := Aside0.mk hy181
                    clear hy181
                    replace H := Option.bind_eq_some_iff.mp H
                    obtain ⟨t184, A370, H⟩ := H
                    replace H : (pfor_PutBlock.l1 k3 l0 l1 t167 t173 t184 (wrap64 (x12_3 + 1)) y180 x7_2 (x7_2.length : Int) (wrap64 (x54_3 + 1))) = some (r1, r2) := H
                    have A37 := Aside0.mk A370
                    clear A370
                    have H' := Aside0.mk H
                    clear H
                    have p177 : 0 ≤ (x54_3 : Int) := of_decide_eq_true (by first | (with_reducible assumption) | assumption)
                    have q177 : x54_3 < (x7_2.length : Int) := of_decide_eq_true (by first | (with_reducible assumption) | assumption)
                    obtain ⟨ad177, e177, hx177_0⟩ := Kd.at_int (Kd.R_reads' HO_52.out).2.2 x54_3 p177 q177
                    cases e177
                    replace p177 := eq_true p177
                    replace q177 := eq_true q177
                    go_wp2_with (first | ((with_reducible refine gate_callee (f := 102) rfl ?_); refine goesL_ (some 61) rfl rfl Try.func102 (by kernel_rfl) rfl #[.int .u64 (rd x7_2 x54_3), .int .i64 t173] rfl (by (try simp only [List.map_toArray, List.map_cons, List.map_nil]); first | done | rfl | (simp only [List.length_drop, List.length_take]; rfl)) ?_; (with_reducible refine (pfor_high.calls (rd x7_2 x54_3) t173 t178 _ A29.out).mono ?_); rintro e w' ⟨rfl, ⟨nd, rfl⟩⟩; refine ⟨_, rfl, ?_⟩; (try (rw [drewN_self wr]; generalize hq_ : World.drewN wr _ = wr; have n0_ : Aside0 (Kd.R (Kd.int .u8) 5 wr w.heap.size (fun _ => True) u11 x11_3) := ⟨by rw [← hq_]; exact (by (with_reducible repeat (first | apply Kd.R_alloc | apply Kd.R_drewN | apply Kd.R_drew)); exact HO_11.out)⟩; have n1_ : Aside0 (Kd.R (Kd.int .u64) 60 wr w.heap.size (fun k_ => some k_ ≠ (.slice (some ad177) x7_2.length co22 : Value).ownBlock) v175 x13_3) := ⟨by rw [← hq_]; exact (by (with_reducible repeat (first | apply Kd.R_alloc | apply Kd.R_drewN | apply Kd.R_drew)); exact HO_13.out)⟩; have n2_ : Aside0 (Kd.R (Kd.int .u64) 60 wr w.heap.size (fun k_ => some k_ ≠ (v175 : Value).ownBlock) (.slice (some ad177) x7_2.length co22) x7_2) := ⟨by rw [← hq_]; exact (by (with_reducible repeat (first | apply Kd.R_alloc | apply Kd.R_drewN | apply Kd.R_drew)); exact HO_52.out)⟩; have n3_ : Aside0 (Below w.heap.size w wr) := ⟨by rw [← hq_]; exact (by repeat (first | (with_reducible first | exact HB.out | apply below_alloc | apply pw_below_drewN | apply below_drew1) | exact HB.out))⟩; clear HO_11 HO_13 HO_52 HB hq_; have HO_11 := n0_; have HO_13 := n1_; have HO_52 := n2_; have HB := n3_; clear n0_ n1_ n2_ n3_)); have p31 : 0 ≤ (x54_3 : Int) := of_decide_eq_true (by first | (with_reducible assumption) | assumption); have q31 : (x54_3 : Int) < ((x13_3.length : Int) : Int) := of_decide_eq_true (by first | (with_reducible assumption) | assumption); obtain ⟨go31, co31, eo31, gb31, gl31, cl31, HG31⟩ := Kd.R_form HO_13.out (by omega); (first | cases eo31 | (injection eo31 with ea_ en_ ec_; (first | subst ea_ | (injection ea_ with ea_; subst ea_)); subst ec_; clear en_)); have GB31 := Aside0.mk gb31; have GG31 := Aside0.mk HG31; clear gb31 gl31 HG31; obtain ⟨hx31_0, hf31_0⟩ := Kd.R_celln 0 HO_13.out (x54_3 : Int) p31 q31; replace p31 := eq_true p31; replace q31 := eq_true q31; obtain ⟨hy38_, hz38_⟩ := Kd.R_celln 0 HO_13.out (x54_3 : Int) (of_decide_eq_true (by first | (with_reducible assumption) | assumption)) (of_decide_eq_true (by first | (with_reducible assumption) | assumption)); have HP38 := Kd.R_putg HO_13.out (x54_3 : Int) (rd x7_2 x54_3)) | ((with_reducible refine gate_store (t := 60) (p := 65) rfl ?_); refine store_event (t := 60) (p := 65) (v := ?vo_w39) (w1 := (wr.setCell ⟨go31, (x54_3 : Int).toNat, none⟩ (.int .u64 (rd x7_2 x54_3)))) ?hg ?ho ?hn ?hr ?_; (case ho => rfl); (case hg => rfl); (case hn => rfl); (case hr => first | (go_simp; done) | (go_simp; rfl) | (go_simp; simp only [wAl, wAr, wSl, wSr, wW])); intro w39 hw; have hg : wr.grownBy w39 (some go31) := (by rw [hw]; exact HP38.2); have hp_ : Kd.R (Kd.int .u64) 60 w39 w.heap.size (fun k_ => some k_ ≠ (.slice (some ad177) x7_2.length co22 : Value).ownBlock) (.slice (some ⟨go31, 0, none⟩) x13_3.length co31) y179 := (by rw [hw, Ny179.out]; exact HP38.1); clear HP38; have n0_ := Aside0.mk (Kd.R_over' (v := (.slice (some ⟨go31, 0, none⟩) x13_3.length co31)) (by (with_reducible repeat (first | apply Kd.R_alloc | apply Kd.R_drewN | apply Kd.R_drew)); exact HO_11.out) (Kd.R_typed HO_13.out) (by decide) hg); have n1_ := Aside0.mk (hp_); have n2_ := Aside0.mk (Kd.R_after (v := (.slice (some ⟨go31, 0, none⟩) x13_3.length co31)) (v1 := (.slice (some ⟨go31, 0, none⟩) x13_3.length co31)) (ok := (fun _ => True)) (by (with_reducible repeat (first | apply Kd.R_alloc | apply Kd.R_drewN | apply Kd.R_drew)); exact Kd.R_mono HO_52.out (fun _ hk => ⟨trivial, hk⟩)) hg (.inl rfl)); have n3_ := Aside0.mk ((by rw [hw]; exact below_set (HB.out) GB31.out : Below w.heap.size w w39)); clear HO_11; clear HO_13; clear HO_52; clear HB; have HO_11 := n0_; have HO_13 := n1_; have HO_52 := n2_; have HB := n3_; clear n0_ n1_ n2_ n3_; clear hg hw hp_; have p35 : 0 ≤ (x54_3 : Int) := of_decide_eq_true (by first | (with_reducible assumption) | assumption); have q35 : (x54_3 : Int) < ((x13_3.length : Int) : Int) := of_decide_eq_true (by first | (with_reducible assumption) | assumption); obtain ⟨hx35_0, hf35_0⟩ := Kd.R_celln 0 HO_13.out (x54_3 : Int) p35 q35; replace p35 := eq_true p35; replace q35 := eq_true q35; obtain ⟨hy40_, hz40_⟩ := Kd.R_celln 0 HO_13.out (x54_3 : Int) (of_decide_eq_true (by first | (with_reducible assumption) | assumption)) (of_decide_eq_true (by first | (with_reducible assumption) | assumption)); have HP40 := Kd.R_putg HO_13.out (x54_3 : Int) (Go.bits .andNot .u64 (rd x7_2 x54_3) (ji34))) | ((with_reducible refine gate_store (t := 60) (p := 75) rfl ?_); refine store_event (t := 60) (p := 75) (v := ?vo_w41) (w1 := (w39.setCell ⟨go31, (x54_3 : Int).toNat, none⟩ (.int .u64 (Go.bits .andNot .u64 (rd x7_2 x54_3) (ji34))))) ?hg ?ho ?hn ?hr ?_; (case ho => rfl); (case hg => rfl); (case hn => rfl); (case hr => first | (go_simp; done) | (go_simp; rfl) | (go_simp; simp only [wAl, wAr, wSl, wSr, wW])); intro w41 hw; have hg : w39.grownBy w41 (some go31) := (by rw [hw]; exact HP40.2); have hp_ : Kd.R (Kd.int .u64) 60 w41 w.heap.size (fun k_ => some k_ ≠ (.slice (some ad177) x7_2.length co22 : Value).ownBlock) (.slice (some ⟨go31, 0, none⟩) x13_3.length co31) y180 := (by rw [hw, Ny180.out]; exact HP40.1); clear HP40; have n0_ := Aside0.mk (Kd.R_over' (v := (.slice (some ⟨go31, 0, none⟩) x13_3.length co31)) (by (with_reducible repeat (first | apply Kd.R_alloc | apply Kd.R_drewN | apply Kd.R_drew)); exact HO_11.out) (Kd.R_typed HO_13.out) (by decide) hg); have n1_ := Aside0.mk (hp_); have n2_ := Aside0.mk (Kd.R_after (v := (.slice (some ⟨go31, 0, none⟩) x13_3.length co31)) (v1 := (.slice (some ⟨go31, 0, none⟩) x13_3.length co31)) (ok := (fun _ => True)) (by (with_reducible repeat (first | apply Kd.R_alloc | apply Kd.R_drewN | apply Kd.R_drew)); exact HO_52.out) hg (.inl rfl)); have n3_ := Aside0.mk ((by rw [hw]; exact below_set (HB.out) GB31.out : Below w.heap.size w w41)); clear HO_11; clear HO_13; clear HO_52; clear HB; have HO_11 := n0_; have HO_13 := n1_; have HO_52 := n2_; have HB := n3_; clear n0_ n1_ n2_ n3_; clear hg hw hp_) | ((with_reducible refine gate_builtin (b := .append) (xs := #[.tmp 76, .tmp 79]) rfl ?_); (try (refine gate_guard (by rfl) ?_; dsimp only)); at_builtin; refine Kd.R_append (Kd.int .u8) (w0 := w) w.heap.size rfl (.tmp 76) (.tmp 79) 23 5 (.int .u8 0) 1 rfl Try.underlying23 info5 rfl (by decide) (by omega) u11 x11_3 ((x54_3) % 256) [.int .u8 ((x54_3) % 256)] (fun _ => True) (fun _ => False) rfl rfl ?aP (fun _ hk => hk.elim) ?aF ?aO ?aB ?aS ?aL ?_; (case aP => exact rfl); (case aB => exact (by repeat (first | (with_reducible first | exact HB.out | apply below_alloc | apply pw_below_drewN | apply below_drew1) | exact HB.out))); (case aF => exact (fun _ _ => trivial)); (case aO => exact (by (with_reducible repeat (first | apply Kd.R_alloc | apply Kd.R_drewN | apply Kd.R_drew)); exact HO_11.out)); (case aS => exact (below_size (by repeat (first | (with_reducible first | exact HB.out | apply below_alloc | apply pw_below_drewN | apply below_drew1) | exact HB.out)))); (case aL => have := LMc36.out; omega); intro v182 w42 ho hb hg hat; rw [← Ny181.out] at ho; have n0_ := Aside0.mk (Kd.R_over' (by (with_reducible repeat (first | apply Kd.R_alloc | apply Kd.R_drewN | apply Kd.R_drew)); exact HO_13.out) (Kd.R_typed (by (with_reducible repeat (first | apply Kd.R_alloc | apply Kd.R_drewN | apply Kd.R_drew)); exact HO_11.out)) (by decide) hg); have n1_ := Aside0.mk (Kd.R_over' (by (with_reducible repeat (first | apply Kd.R_alloc | apply Kd.R_drewN | apply Kd.R_drew)); exact HO_52.out) (Kd.R_typed (by (with_reducible repeat (first | apply Kd.R_alloc | apply Kd.R_drewN | apply Kd.R_drew)); exact HO_11.out)) (by decide) hg); have n2_ := Aside0.mk (hb); have n3_ := Aside0.mk (ho); clear HO_13; clear HO_52; clear HB; clear HO_11; have HO_13 := n0_; have HO_52 := n1_; have HB := n2_; have HO183 := n3_; clear n0_ n1_ n2_ n3_; clear ho hb hg hat; obtain ⟨Ao43, co43, eo43⟩ := Kd.R_slice HO183.out; subst eo43) | ((with_reducible refine gate_callee (f := 39) rfl ?_); refine goesL_ (some 82) rfl rfl Try.func39 (by kernel_rfl) rfl #[.slice Ao43 y181.length co43, .int .u64 t178] rfl (by (try simp only [List.map_toArray, List.map_cons, List.map_nil]); first | done | rfl | (simp only [List.length_drop, List.length_take]; rfl)) ?_; (with_reducible refine (num_Put.calls _ _ y181 t178 t184 _ ?side1 ?side2 A37.out).mono ?_); (case side1 => repeat (first | exact (Kd.R_reads' HO183.out).2.2 | (with_reducible refine Kd.C_alloc ?_ _) | (with_reducible refine Kd.C_drewN ?_ _) | (with_reducible refine Kd.C_drew ?_))); (case side2 => exact (Kd.R_reads' HO183.out).2.1); rintro e w44 ⟨v185, rfl, ho0, hb⟩; refine ⟨_, rfl, ?_⟩; have n0_ := rbA HO_13 hb; have n1_ := rbA HO_52 hb; have n2_ := Aside0.mk (Kd.R_elder' (by (with_reducible repeat (first | apply Kd.R_alloc | apply Kd.R_drewN | apply Kd.R_drew)); exact HO183.out) (Kd.R_base ho0) hb); have n3_ := Aside0.mk (Kd.R_lower (Kd.R_new' ho0 (Kd.R_lt (by (with_reducible repeat (first | apply Kd.R_alloc | apply Kd.R_drewN | apply Kd.R_drew)); exact HO183.out))) (below_size (by repeat (first | (with_reducible first | exact HB.out | apply below_alloc | apply pw_below_drewN | apply below_drew1) | exact HB.out)))); have n4_ := bsA HB hb; clear HO_13; clear HO_52; clear HO183; clear HB; have HO_13 := n0_; have HO_52 := n1_; have HO183 := n2_; have HO186 := n3_; have HB := n4_; clear n0_ n1_ n2_ n3_ n4_; (try clear hb); (try clear hb2); (try clear hk); (try clear hi); (try clear ho0)))
                    go_roundg k3
                    case measure => have := HJ2.out; have := HK2.out; have := HK3.out; omega
                    case rel => exact ⟨(t184), (wrap64 (x12_3 + 1)), (y180), (wrap64 (x54_3 + 1)), (by first | rfl | (simp; done) | (simp [*]; done)), (by first | rfl | (simp; done) | (simp [*]; done)), H', ⟨by have := HJ2.out; have := HK2.out; have := HK3.out; omega⟩, ⟨by (with_reducible repeat (first | apply Kd.R_alloc | apply Kd.R_drewN | apply Kd.R_drew)); exact Kd.R_mono HO186.out (fun _ hk => trivial)⟩, ⟨by (with_reducible repeat (first | apply Kd.R_alloc | apply Kd.R_drewN | apply Kd.R_drew)); exact HO_13.out⟩, ⟨by (with_reducible repeat (first | apply Kd.R_alloc | apply Kd.R_drewN | apply Kd.R_drew)); exact Kd.R_mono HO_52.out (fun _ hk => hk.2)⟩, ⟨by repeat (first | (with_reducible first | exact HB.out | apply below_alloc | apply pw_below_drewN | apply below_drew1) | exact HB.out)⟩⟩
                   ·rw [if_neg c36] at H
                    exact absurd H (by simp)
                  ·rw [if_neg c33] at H
                   exact absurd H (by simp)
                 ·rw [if_neg c32] at H
                  have c32b0 : decide (0 < t178) = false := decide_eq_false c32
                  clear c32
                  have H' := Aside0.mk H
                  clear H
                  have p177 : 0 ≤ (x54_3 : Int) := of_decide_eq_true (by first | (with_reducible assumption) | assumption)
                  have q177 : x54_3 < (x7_2.length : Int) := of_decide_eq_true (by first | (with_reducible assumption) | assumption)
                  obtain ⟨ad177, e177, hx177_0⟩ := Kd.at_int (Kd.R_reads' HO_52.out).2.2 x54_3 p177 q177
                  cases e177
                  replace p177 := eq_true p177
                  replace q177 := eq_true q177
                  go_wp2_with (first | ((with_reducible refine gate_callee (f := 102) rfl ?_); refine goesL_ (some 61) rfl rfl Try.func102 (by kernel_rfl) rfl #[.int .u64 (rd x7_2 x54_3), .int .i64 t173] rfl (by (try simp only [List.map_toArray, List.map_cons, List.map_nil]); first | done | rfl | (simp only [List.length_drop, List.length_take]; rfl)) ?_; (with_reducible refine (pfor_high.calls (rd x7_2 x54_3) t173 t178 _ A29.out).mono ?_); rintro e w' ⟨rfl, ⟨nd, rfl⟩⟩; refine ⟨_, rfl, ?_⟩; (try (rw [drewN_self wr]; generalize hq_ : World.drewN wr _ = wr; have n0_ : Aside0 (Kd.R (Kd.int .u8) 5 wr w.heap.size (fun _ => True) u11 x11_3) := ⟨by rw [← hq_]; exact (by (with_reducible repeat (first | apply Kd.R_alloc | apply Kd.R_drewN | apply Kd.R_drew)); exact HO_11.out)⟩; have n1_ : Aside0 (Kd.R (Kd.int .u64) 60 wr w.heap.size (fun k_ => some k_ ≠ (.slice (some ad177) x7_2.length co22 : Value).ownBlock) v175 x13_3) := ⟨by rw [← hq_]; exact (by (with_reducible repeat (first | apply Kd.R_alloc | apply Kd.R_drewN | apply Kd.R_drew)); exact HO_13.out)⟩; have n2_ : Aside0 (Kd.R (Kd.int .u64) 60 wr w.heap.size (fun k_ => some k_ ≠ (v175 : Value).ownBlock) (.slice (some ad177) x7_2.length co22) x7_2) := ⟨by rw [← hq_]; exact (by (with_reducible repeat (first | apply Kd.R_alloc | apply Kd.R_drewN | apply Kd.R_drew)); exact HO_52.out)⟩; have n3_ : Aside0 (Below w.heap.size w wr) := ⟨by rw [← hq_]; exact (by repeat (first | (with_reducible first | exact HB.out | apply below_alloc | apply pw_below_drewN | apply below_drew1) | exact HB.out))⟩; clear HO_11 HO_13 HO_52 HB hq_; have HO_11 := n0_; have HO_13 := n1_; have HO_52 := n2_; have HB := n3_; clear n0_ n1_ n2_ n3_)); have p31 : 0 ≤ (x54_3 : Int) := of_decide_eq_true (by first | (with_reducible assumption) | assumption); have q31 : (x54_3 : Int) < ((x13_3.length : Int) : Int) := of_decide_eq_true (by first | (with_reducible assumption) | assumption); obtain ⟨go31, co31, eo31, gb31, gl31, cl31, HG31⟩ := Kd.R_form HO_13.out (by omega); (first | cases eo31 | (injection eo31 with ea_ en_ ec_; (first | subst ea_ | (injection ea_ with ea_; subst ea_)); subst ec_; clear en_)); have GB31 := Aside0.mk gb31; have GG31 := Aside0.mk HG31; clear gb31 gl31 HG31; obtain ⟨hx31_0, hf31_0⟩ := Kd.R_celln 0 HO_13.out (x54_3 : Int) p31 q31; replace p31 := eq_true p31; replace q31 := eq_true q31; obtain ⟨hy45_, hz45_⟩ := Kd.R_celln 0 HO_13.out (x54_3 : Int) (of_decide_eq_true (by first | (with_reducible assumption) | assumption)) (of_decide_eq_true (by first | (with_reducible assumption) | assumption)); have HP45 := Kd.R_putg HO_13.out (x54_3 : Int) (rd x7_2 x54_3)) | ((with_reducible refine gate_store (t := 60) (p := 65) rfl ?_); refine store_event (t := 60) (p := 65) (v := ?vo_w46) (w1 := (wr.setCell ⟨go31, (x54_3 : Int).toNat, none⟩ (.int .u64 (rd x7_2 x54_3)))) ?hg ?ho ?hn ?hr ?_; (case ho => rfl); (case hg => rfl); (case hn => rfl); (case hr => first | (go_simp; done) | (go_simp; rfl) | (go_simp; simp only [wAl, wAr, wSl, wSr, wW])); intro w46 hw; have hg : wr.grownBy w46 (some go31) := (by rw [hw]; exact HP45.2); have hp_ : Kd.R (Kd.int .u64) 60 w46 w.heap.size (fun k_ => some k_ ≠ (.slice (some ad177) x7_2.length co22 : Value).ownBlock) (.slice (some ⟨go31, 0, none⟩) x13_3.length co31) y179 := (by rw [hw, Ny179.out]; exact HP45.1); clear HP45; have n0_ := Aside0.mk (Kd.R_over' (v := (.slice (some ⟨go31, 0, none⟩) x13_3.length co31)) (by (with_reducible repeat (first | apply Kd.R_alloc | apply Kd.R_drewN | apply Kd.R_drew)); exact HO_11.out) (Kd.R_typed HO_13.out) (by decide) hg); have n1_ := Aside0.mk (hp_); have n2_ := Aside0.mk (Kd.R_after (v := (.slice (some ⟨go31, 0, none⟩) x13_3.length co31)) (v1 := (.slice (some ⟨go31, 0, none⟩) x13_3.length co31)) (ok := (fun _ => True)) (by (with_reducible repeat (first | apply Kd.R_alloc | apply Kd.R_drewN | apply Kd.R_drew)); exact Kd.R_mono HO_52.out (fun _ hk => ⟨trivial, hk⟩)) hg (.inl rfl)); have n3_ := Aside0.mk ((by rw [hw]; exact below_set (HB.out) GB31.out : Below w.heap.size w w46)); clear HO_11; clear HO_13; clear HO_52; clear HB; have HO_11 := n0_; have HO_13 := n1_; have HO_52 := n2_; have HB := n3_; clear n0_ n1_ n2_ n3_; clear hg hw hp_))
                  go_roundg k3
                  case measure => have := HJ2.out; have := HK2.out; have := HK3.out; omega
                  case rel => exact ⟨(x11_3), (x12_3), (y179), (wrap64 (x54_3 + 1)), (by first | rfl | (simp; done) | (simp [*]; done)), (by first | rfl | (simp; done) | (simp [*]; done)), H', ⟨by have := HJ2.out; have := HK2.out; have := HK3.out; omega⟩, ⟨by (with_reducible repeat (first | apply Kd.R_alloc | apply Kd.R_drewN | apply Kd.R_drew)); exact HO_11.out⟩, ⟨by (with_reducible repeat (first | apply Kd.R_alloc | apply Kd.R_drewN | apply Kd.R_drew)); exact HO_13.out⟩, ⟨by (with_reducible repeat (first | apply Kd.R_alloc | apply Kd.R_drewN | apply Kd.R_drew)); exact Kd.R_mono HO_52.out (fun _ hk => hk.2)⟩, ⟨by repeat (first | (with_reducible first | exact HB.out | apply below_alloc | apply pw_below_drewN | apply below_drew1) | exact HB.out)⟩⟩
                ·rw [if_neg c30] at H
                 exact absurd H (by simp)
               ·rw [if_neg c28] at H
                exact absurd H (by simp)
              ·rw [if_neg c27] at H
               exact absurd H (by simp)
             ·rw [if_neg c26] at H
              have c26b0 : decide (x54_3 < (x7_2.length : Int)) = false := decide_eq_false c26
              clear c26
              replace H := Option.bind_eq_some_iff.mp H
              obtain ⟨⟨t187, t188⟩, A470, H⟩ := H
              replace H : (if t188 = 0 then ((slices_Clone_byte.f l0).bind fun t191 => (if t191.length < 140737488355328 then ((num_Put.f (t191 ++ [((l1.length : Int)) % 256]) t167).bind fun t197 => ((some (([(t173) % 256, (x12_3) % 256] : List Int) : List Int)).bind fun y200 => (if t197.length + y200.length < 140737488355328 then ((slices_Concat_byte_byte.f k3 (([(t197 ++ y200), t187, x11_3] : List (List Int)))).bind fun t209 => (some (t209, 0))) else (none)))) else (none))) else (some (([] : List Int), t188))) = some (r1, r2) := H
              have A47 := Aside0.mk A470
              clear A470
              by_cases c48 : t188 = 0
              ·rw [if_pos c48] at H
               have c48b0 : (t188 == 0) = true := beq_iff_eq.mpr c48
               have c48b1 : (t188 != 0) = false := bne_eq_false_iff_eq.mpr c48
               clear c48
               replace H := Option.bind_eq_some_iff.mp H
               obtain ⟨t191, A490, H⟩ := H
               replace H : (if t191.length < 140737488355328 then ((num_Put.f (t191 ++ [((l1.length : Int)) % 256]) t167).bind fun t197 => ((some (([(t173) % 256, (x12_3) % 256] : List Int) : List Int)).bind fun y200 => (if t197.length + y200.length < 140737488355328 then ((slices_Concat_byte_byte.f k3 (([(t197 ++ y200), t187, x11_3] : List (List Int)))).bind fun t209 => (some (t209, 0))) else (none)))) else (none)) = some (r1, r2) := H
               have A49 := Aside0.mk A490
               clear A490
               by_cases c50 : t191.length < 140737488355328
               ·rw [if_pos c50] at H
                have LMc50 := Aside0.mk c50
                clear c50
                obtain ⟨y194, hy194⟩ : ∃ y_ : List Int, y_ = (t191 ++ [((l1.length : Int)) % 256]) := ⟨_, rfl⟩
                replace H : ((num_Put.f y194 t167).bind fun t197 => ((some (([(t173) % 256, (x12_3) % 256] : List Int) : List Int)).bind fun y200 => (if t197.length + y200.length < 140737488355328 then ((slices_Concat_byte_byte.f k3 (([(t197 ++ y200), t187, x11_3] : List (List Int)))).bind fun t209 => (some (t209, 0))) else (none)))) = some (r1, r2) := by first | (rw [hy194]; with_reducible exact H) | (have H2_ := (Option.bind_some _ _).symm.trans H; rw [hy194]; with_reducible exact H2_) | (have H2_ := (Option.bind_some _ _).symm.trans H; with_reducible exact H2_) | with_reducible exact H | (rw [hy194]; exact H) | exact H
                have Ny194 := Aside0.mk hy194
                clear hy194
                replace H := Option.bind_eq_some_iff.mp H
                obtain ⟨t197, A510, H⟩ := H
                replace H : ((some (([(t173) % 256, (x12_3) % 256] : List Int) : List Int)).bind fun y200 => (if t197.length + y200.length < 140737488355328 then ((slices_Concat_byte_byte.f k3 (([(t197 ++ y200), t187, x11_3] : List (List Int)))).bind fun t209 => (some (t209, 0))) else (none))) = some (r1, r2) := H
                have A51 := Aside0.mk A510
                clear A510
                obtain ⟨y200, hy200⟩ : ∃ y_ : List Int, y_ = (([(t173) % 256, (x12_3) % 256] : List Int)) := ⟨_, rfl⟩
                replace H : (if t197.length + y200.length < 140737488355328 then ((slices_Concat_byte_byte.f k3 (([(t197 ++ y200), t187, x11_3] : List (List Int)))).bind fun t209 => (some (t209, 0))) else (none)) = some (r1, r2) := by first | (rw [hy200]; with_reducible exact H) | (have H2_ := (Option.bind_some _ _).symm.trans H; rw [hy200]; with_reducible exact H2_) | (have H2_ := (Option.bind_some _ _).symm.trans H; with_reducible exact H2_) | with_reducible exact H | (rw [hy200]; exact H) | exact H
                have Ny200 := Aside0.mk hy200
                clear hy200
                by_cases c52 : t197.length + y200.length < 140737488355328
                ·rw [if_pos c52] at H
                 have LMc52 := Aside0.mk c52
                 clear c52
                 obtain ⟨y203, hy203⟩ : ∃ y_ : List Int, y_ = (t197 ++ y200) := ⟨_, rfl⟩
                 replace H : ((slices_Concat_byte_byte.f k3 (([y203, t187, x11_3] : List (List Int)))).bind fun t209 => (some (t209, 0))) = some (r1, r2) := by first | (rw [hy203]; with_reducible exact H) | (have H2_ := (Option.bind_some _ _).symm.trans H; rw [hy203]; with_reducible exact H2_) | (have H2_ := (Option.bind_some _ _).symm.trans H; with_reducible exact H2_) | with_reducible exact H | (rw [hy203]; exact H) | exact H
                 have Ny203 := Aside0.mk hy203
                 clear hy203
                 obtain ⟨y206, hy206⟩ : ∃ y_ : List (List Int), y_ = (([y203, t187, x11_3] : List (List Int))) := ⟨_, rfl⟩
                 replace H : ((slices_Concat_byte_byte.f k3 y206).bind fun t209 => (some (t209, 0))) = some (r1, r2) := by first | (rw [hy206]; with_reducible exact H) | (have H2_ := (Option.bind_some _ _).symm.trans H; rw [hy206]; with_reducible exact H2_) | (have H2_ := (Option.bind_some _ _).symm.trans H; with_reducible exact H2_) | with_reducible exact H | (rw [hy206]; exact H) | exact H
                 have Ny206 := Aside0.mk hy206
                 clear hy206
                 replace H := Option.bind_eq_some_iff.mp H
                 obtain ⟨t209, A530, H⟩ := H
                 replace H : (some (t209, 0)) = some (r1, r2) := H
                 have A53 := Aside0.mk A530
                 clear A530
                 simp only [Option.some.injEq, Prod.mk.injEq] at H
                 obtain ⟨rfl, rfl⟩ := H
                 obtain ⟨Ao54, co54, eo54⟩ := Kd.R_slice HO_13.out
                 subst eo54
                 go_wp2_with (first | ((with_reducible refine gate_callee (f := 103) rfl ?_); refine goesL_ (some 89) rfl rfl Try.func103 (by kernel_rfl) rfl #[.slice Ao54 x13_3.length co54, .int .i64 t173] rfl (by (try simp only [List.map_toArray, List.map_cons, List.map_nil]); first | done | rfl | (simp only [List.length_drop, List.length_take]; rfl)) ?_; (with_reducible refine (bits_Pack.calls k3 _ _ x13_3 t173 t187 t188 _ ?side1 ?side2 A47.out).mono ?_); (case side1 => repeat (first | exact (Kd.R_reads' HO_13.out).2.2 | (with_reducible refine Kd.C_alloc ?_ _) | (with_reducible refine Kd.C_drewN ?_ _) | (with_reducible refine Kd.C_drew ?_))); (case side2 => exact (Kd.R_reads' HO_13.out).2.1); rintro e w55 ⟨v189, rfl, ho0, hb⟩; refine ⟨_, rfl, ?_⟩; have n0_ := Aside0.mk (Kd.R_elder' (by (with_reducible repeat (first | apply Kd.R_alloc | apply Kd.R_drewN | apply Kd.R_drew)); exact HO_11.out) (Kd.R_base ho0) hb); have n1_ := rbA HO_13 hb; have n2_ := rbA HO_52 hb; have n3_ := Aside0.mk (Kd.R_lower (Kd.R_new' ho0 (Kd.R_lt (by (with_reducible repeat (first | apply Kd.R_alloc | apply Kd.R_drewN | apply Kd.R_drew)); exact HO_11.out))) (below_size (by repeat (first | (with_reducible first | exact HB.out | apply below_alloc | apply pw_below_drewN | apply below_drew1) | exact HB.out)))); have n4_ := bsA HB hb; clear HO_11; clear HO_13; clear HO_52; clear HB; have HO_11 := n0_; have HO_13 := n1_; have HO_52 := n2_; have HO190 := n3_; have HB := n4_; clear n0_ n1_ n2_ n3_ n4_; (try clear hb); (try clear hb2); (try clear hk); (try clear hi); (try clear ho0)) | ((with_reducible refine gate_callee (f := 67) rfl ?_); refine goesL_ (some 96) rfl rfl Try.func67 (by kernel_rfl) rfl #[.slice A0 l0.length c0] rfl (by (try simp only [List.map_toArray, List.map_cons, List.map_nil]); first | done | rfl | (simp only [List.length_drop, List.length_take]; rfl)) ?_; (with_reducible refine (slices_Clone_byte.calls _ _ l0 t191 _ ?side1 ?side2 A49.out).mono ?_); (case side1 => repeat (first | exact (Kd.C_below HR0.out HB.out) | (with_reducible refine Kd.C_alloc ?_ _) | (with_reducible refine Kd.C_drewN ?_ _) | (with_reducible refine Kd.C_drew ?_))); (case side2 => exact HC0.out); rintro e w56 ⟨v192, rfl, ho0, hb⟩; refine ⟨_, rfl, ?_⟩; have n0_ := Aside0.mk (Kd.R_elder' (by (with_reducible repeat (first | apply Kd.R_alloc | apply Kd.R_drewN | apply Kd.R_drew)); exact HO_11.out) (Kd.R_base ho0) hb); have n1_ := rbA HO_13 hb; have n2_ := rbA HO_52 hb; have n3_ := Aside0.mk (Kd.R_elder' (by (with_reducible repeat (first | apply Kd.R_alloc | apply Kd.R_drewN | apply Kd.R_drew)); exact HO190.out) (Kd.R_base ho0) hb); have n4_ := Aside0.mk (Kd.R_lower (Kd.R_new' (Kd.R_new' ho0 (Kd.R_lt (by (with_reducible repeat (first | apply Kd.R_alloc | apply Kd.R_drewN | apply Kd.R_drew)); exact HO_11.out))) (Kd.R_lt (by (with_reducible repeat (first | apply Kd.R_alloc | apply Kd.R_drewN | apply Kd.R_drew)); exact HO190.out))) (below_size (by repeat (first | (with_reducible first | exact HB.out | apply below_alloc | apply pw_below_drewN | apply below_drew1) | exact HB.out)))); have n5_ := bsA HB hb; clear HO_11; clear HO_13; clear HO_52; clear HO190; clear HB; have HO_11 := n0_; have HO_13 := n1_; have HO_52 := n2_; have HO190 := n3_; have HO193 := n4_; have HB := n5_; clear n0_ n1_ n2_ n3_ n4_ n5_; (try clear hb); (try clear hb2); (try clear hk); (try clear hi); (try clear ho0)) | ((with_reducible refine gate_builtin (b := .append) (xs := #[.tmp 96, .tmp 100]) rfl ?_); (try (refine gate_guard (by rfl) ?_; dsimp only)); at_builtin; refine Kd.R_append (Kd.int .u8) (w0 := w) w.heap.size rfl (.tmp 96) (.tmp 100) 23 5 (.int .u8 0) 1 rfl Try.underlying23 info5 rfl (by decide) (by omega) v192 t191 (((l1.length : Int)) % 256) [.int .u8 (((l1.length : Int)) % 256)] (fun k_ => some k_ ≠ (u11 : Value).ownBlock ∧ some k_ ≠ (v189 : Value).ownBlock) (fun _ => False) rfl rfl ?aP (fun _ hk => hk.elim) ?aF ?aO ?aB ?aS ?aL ?_; (case aP => exact rfl); (case aB => exact (by repeat (first | (with_reducible first | exact HB.out | apply below_alloc | apply pw_below_drewN | apply below_drew1) | exact HB.out))); (case aF => exact (fun k_ hk => ⟨Kd.fresh' (Kd.R_lt (by (with_reducible repeat (first | apply Kd.R_alloc | apply Kd.R_drewN | apply Kd.R_drew)); exact HO_11.out)) k_ hk, Kd.fresh' (Kd.R_lt (by (with_reducible repeat (first | apply Kd.R_alloc | apply Kd.R_drewN | apply Kd.R_drew)); exact HO190.out)) k_ hk⟩)); (case aO => exact (by (with_reducible repeat (first | apply Kd.R_alloc | apply Kd.R_drewN | apply Kd.R_drew)); exact Kd.R_mono HO193.out (fun _ hk => ⟨hk.1.2, hk.2⟩))); (case aS => exact (below_size (by repeat (first | (with_reducible first | exact HB.out | apply below_alloc | apply pw_below_drewN | apply below_drew1) | exact HB.out)))); (case aL => have := LMc50.out; omega); intro v195 w57 ho hb hg hat; rw [← Ny194.out] at ho; have n0_ := Aside0.mk (Kd.R_after (ok := (fun k_ => some k_ ≠ (v189 : Value).ownBlock)) (by (with_reducible repeat (first | apply Kd.R_alloc | apply Kd.R_drewN | apply Kd.R_drew)); exact Kd.R_mono HO_11.out (fun _ hk => ⟨hk.1.2, hk.2⟩)) hg hat); have n1_ := Aside0.mk (Kd.R_over' (by (with_reducible repeat (first | apply Kd.R_alloc | apply Kd.R_drewN | apply Kd.R_drew)); exact HO_13.out) (Kd.R_typed (by (with_reducible repeat (first | apply Kd.R_alloc | apply Kd.R_drewN | apply Kd.R_drew)); exact HO193.out)) (by decide) hg); have n2_ := Aside0.mk (Kd.R_over' (by (with_reducible repeat (first | apply Kd.R_alloc | apply Kd.R_drewN | apply Kd.R_drew)); exact HO_52.out) (Kd.R_typed (by (with_reducible repeat (first | apply Kd.R_alloc | apply Kd.R_drewN | apply Kd.R_drew)); exact HO193.out)) (by decide) hg); have n3_ := Aside0.mk (Kd.R_after (ok := (fun k_ => some k_ ≠ (u11 : Value).ownBlock)) (by (with_reducible repeat (first | apply Kd.R_alloc | apply Kd.R_drewN | apply Kd.R_drew)); exact Kd.R_mono HO190.out (fun _ hk => ⟨hk.1.2, hk.2⟩)) hg hat); have n4_ := Aside0.mk (hb); have n5_ := Aside0.mk (ho); clear HO_11; clear HO_13; clear HO_52; clear HO190; clear HB; clear HO193; have HO_11 := n0_; have HO_13 := n1_; have HO_52 := n2_; have HO190 := n3_; have HB := n4_; have HO196 := n5_; clear n0_ n1_ n2_ n3_ n4_ n5_; clear ho hb hg hat; obtain ⟨Ao58, co58, eo58⟩ := Kd.R_slice HO196.out; subst eo58) | ((with_reducible refine gate_callee (f := 39) rfl ?_); refine goesL_ (some 103) rfl rfl Try.func39 (by kernel_rfl) rfl #[.slice Ao58 y194.length co58, .int .u64 t167] rfl (by (try simp only [List.map_toArray, List.map_cons, List.map_nil]); first | done | rfl | (simp only [List.length_drop, List.length_take]; rfl)) ?_; (with_reducible refine (num_Put.calls _ _ y194 t167 t197 _ ?side1 ?side2 A51.out).mono ?_); (case side1 => repeat (first | exact (Kd.R_reads' HO196.out).2.2 | (with_reducible refine Kd.C_alloc ?_ _) | (with_reducible refine Kd.C_drewN ?_ _) | (with_reducible refine Kd.C_drew ?_))); (case side2 => exact (Kd.R_reads' HO196.out).2.1); rintro e w59 ⟨v198, rfl, ho0, hb⟩; refine ⟨_, rfl, ?_⟩; have n0_ := Aside0.mk (Kd.R_elder' (by (with_reducible repeat (first | apply Kd.R_alloc | apply Kd.R_drewN | apply Kd.R_drew)); exact HO_11.out) (Kd.R_base ho0) hb); have n1_ := rbA HO_13 hb; have n2_ := rbA HO_52 hb; have n3_ := Aside0.mk (Kd.R_elder' (by (with_reducible repeat (first | apply Kd.R_alloc | apply Kd.R_drewN | apply Kd.R_drew)); exact HO190.out) (Kd.R_base ho0) hb); have n4_ := Aside0.mk (Kd.R_elder' (by (with_reducible repeat (first | apply Kd.R_alloc | apply Kd.R_drewN | apply Kd.R_drew)); exact HO196.out) (Kd.R_base ho0) hb); have n5_ := Aside0.mk (Kd.R_lower (Kd.R_new' (Kd.R_new' (Kd.R_new' ho0 (Kd.R_lt (by (with_reducible repeat (first | apply Kd.R_alloc | apply Kd.R_drewN | apply Kd.R_drew)); exact HO_11.out))) (Kd.R_lt (by (with_reducible repeat (first | apply Kd.R_alloc | apply Kd.R_drewN | apply Kd.R_drew)); exact HO190.out))) (Kd.R_lt (by (with_reducible repeat (first | apply Kd.R_alloc | apply Kd.R_drewN | apply Kd.R_drew)); exact HO196.out))) (below_size (by repeat (first | (with_reducible first | exact HB.out | apply below_alloc | apply pw_below_drewN | apply below_drew1) | exact HB.out)))); have n6_ := bsA HB hb; clear HO_11; clear HO_13; clear HO_52; clear HO190; clear HO196; clear HB; have HO_11 := n0_; have HO_13 := n1_; have HO_52 := n2_; have HO190 := n3_; have HO196 := n4_; have HO199 := n5_; have HB := n6_; clear n0_ n1_ n2_ n3_ n4_ n5_ n6_; (try clear hb); (try clear hb2); (try clear hk); (try clear hi); (try clear ho0)) | ((with_reducible refine gate_dst (N := 109) rfl ?_); (try (refine gate_guard (by rfl) ?_; dsimp only)); refine Kd.R_lit (Kd.int .u8) _ 5 ?hg (N := 109) ?hd (xs := ([(t173) % 256, (x12_3) % 256] : List Int)) (inner := [.int .u8 ((t173) % 256), .int .u8 ((x12_3) % 256)]) (ok := fun _ => True) (okp := fun _ => True) ?hr ?hp (fun _ hk => hk) trivial (Below.refl _ _) (Nat.le_refl _) (by simp) ?_; (case hd => rfl); (case hg => rfl); (case hr => first | (go_simp; done) | (go_simp; rfl) | (go_simp; simp only [wAl, wAr, wSl, wSr, wW])); (case hp => exact (Reps.one (show Kd.M (Kd.int .u8) _ _ _ ((t173) % 256) [.int .u8 ((t173) % 256)] from rfl) (Reps.one (show Kd.M (Kd.int .u8) _ _ _ ((x12_3) % 256) [.int .u8 ((x12_3) % 256)] from rfl) (Reps.none _ _)))); intro v201 w60 ho61 hb hg_ hnew_; clear hg_ hnew_; (first | rw [← Ny200.out] at ho61 | (simp only [Int.reduceToNat] at ho61; rw [← Ny200.out] at ho61)); have n0_ := Aside0.mk (Kd.R_elder' (by (with_reducible repeat (first | apply Kd.R_alloc | apply Kd.R_drewN | apply Kd.R_drew)); exact HO_11.out) (Kd.R_base ho61) hb); have n1_ := rbA HO_13 hb; have n2_ := rbA HO_52 hb; have n3_ := Aside0.mk (Kd.R_elder' (by (with_reducible repeat (first | apply Kd.R_alloc | apply Kd.R_drewN | apply Kd.R_drew)); exact HO190.out) (Kd.R_base ho61) hb); have n4_ := Aside0.mk (Kd.R_elder' (by (with_reducible repeat (first | apply Kd.R_alloc | apply Kd.R_drewN | apply Kd.R_drew)); exact HO196.out) (Kd.R_base ho61) hb); have n5_ := Aside0.mk (Kd.R_elder' (by (with_reducible repeat (first | apply Kd.R_alloc | apply Kd.R_drewN | apply Kd.R_drew)); exact HO199.out) (Kd.R_base ho61) hb); have n6_ := Aside0.mk (Kd.R_lower (Kd.R_new' (Kd.R_new' (Kd.R_new' (Kd.R_new' ho61 (Kd.R_lt (by (with_reducible repeat (first | apply Kd.R_alloc | apply Kd.R_drewN | apply Kd.R_drew)); exact HO_11.out))) (Kd.R_lt (by (with_reducible repeat (first | apply Kd.R_alloc | apply Kd.R_drewN | apply Kd.R_drew)); exact HO190.out))) (Kd.R_lt (by (with_reducible repeat (first | apply Kd.R_alloc | apply Kd.R_drewN | apply Kd.R_drew)); exact HO196.out))) (Kd.R_lt (by (with_reducible repeat (first | apply Kd.R_alloc | apply Kd.R_drewN | apply Kd.R_drew)); exact HO199.out))) (below_size (by repeat (first | (with_reducible first | exact HB.out | apply below_alloc | apply pw_below_drewN | apply below_drew1) | exact HB.out)))); have n7_ := bsA HB hb; clear HO_11; clear HO_13; clear HO_52; clear HO190; clear HO196; clear HO199; clear HB; have HO_11 := n0_; have HO_13 := n1_; have HO_52 := n2_; have HO190 := n3_; have HO196 := n4_; have HO199 := n5_; have HO202 := n6_; have HB := n7_; clear n0_ n1_ n2_ n3_ n4_ n5_ n6_ n7_; clear hb ho61; obtain ⟨Ao63, co63, eo63⟩ := Kd.R_slice HO202.out; subst eo63) | ((with_reducible refine gate_builtin (b := .append) (xs := #[.tmp 104, .tmp 109]) rfl ?_); (try (refine gate_guard (by rfl) ?_; dsimp only)); at_builtin; refine Kd.R_append_rows (Kd.int .u8) (w0 := w) w.heap.size rfl (.tmp 104) (.tmp 109) 23 5 (.int .u8 0) 1 rfl Try.underlying23 info5 rfl (by decide) (by omega) v198 t197 y200 _ _ _ (fun k_ => some k_ ≠ (u11 : Value).ownBlock ∧ some k_ ≠ (v189 : Value).ownBlock ∧ some k_ ≠ (.slice Ao58 y194.length co58 : Value).ownBlock ∧ some k_ ≠ (.slice Ao63 y200.length co63 : Value).ownBlock) (fun _ => False) rfl rfl ?aO ?aR (fun _ _ h => h) (fun _ h => h.elim) ?aF ?aB ?aS ?aL ?_; (case aR => repeat (first | exact (Kd.R_reads' HO202.out).2.2 | (with_reducible refine Kd.C_alloc ?_ _) | (with_reducible refine Kd.C_drewN ?_ _) | (with_reducible refine Kd.C_drew ?_))); (case aB => exact (by repeat (first | (with_reducible first | exact HB.out | apply below_alloc | apply pw_below_drewN | apply below_drew1) | exact HB.out))); (case aF => exact (fun k_ hk => ⟨Kd.fresh' (Kd.R_lt (by (with_reducible repeat (first | apply Kd.R_alloc | apply Kd.R_drewN | apply Kd.R_drew)); exact HO_11.out)) k_ hk, Kd.fresh' (Kd.R_lt (by (with_reducible repeat (first | apply Kd.R_alloc | apply Kd.R_drewN | apply Kd.R_drew)); exact HO190.out)) k_ hk, Kd.fresh' (Kd.R_lt (by (with_reducible repeat (first | apply Kd.R_alloc | apply Kd.R_drewN | apply Kd.R_drew)); exact HO196.out)) k_ hk, Kd.fresh' (Kd.R_lt (by (with_reducible repeat (first | apply Kd.R_alloc | apply Kd.R_drewN | apply Kd.R_drew)); exact HO202.out)) k_ hk⟩)); (case aO => exact (by (with_reducible repeat (first | apply Kd.R_alloc | apply Kd.R_drewN | apply Kd.R_drew)); exact Kd.R_mono HO199.out (fun _ hk => ⟨hk.1.1.1.2, ⟨hk.1.1.2, ⟨hk.1.2, hk.2⟩⟩⟩))); (case aS => exact (below_size (by repeat (first | (with_reducible first | exact HB.out | apply below_alloc | apply pw_below_drewN | apply below_drew1) | exact HB.out)))); (case aL => have := LMc52.out; omega); intro v204 w62 ho hb hg hat; rw [← Ny203.out] at ho; have n0_ := Aside0.mk (Kd.R_after (ok := (fun k_ => some k_ ≠ (v189 : Value).ownBlock ∧ some k_ ≠ (.slice Ao58 y194.length co58 : Value).ownBlock ∧ some k_ ≠ (.slice Ao63 y200.length co63 : Value).ownBlock)) (by (with_reducible repeat (first | apply Kd.R_alloc | apply Kd.R_drewN | apply Kd.R_drew)); exact Kd.R_mono HO_11.out (fun _ hk => ⟨⟨hk.1.1.1, ⟨hk.1.1.2, hk.2⟩⟩, hk.1.2⟩)) hg hat); have n1_ := Aside0.mk (Kd.R_over' (by (with_reducible repeat (first | apply Kd.R_alloc | apply Kd.R_drewN | apply Kd.R_drew)); exact HO_13.out) (Kd.R_typed (by (with_reducible repeat (first | apply Kd.R_alloc | apply Kd.R_drewN | apply Kd.R_drew)); exact HO199.out)) (by decide) hg); have n2_ := Aside0.mk (Kd.R_over' (by (with_reducible repeat (first | apply Kd.R_alloc | apply Kd.R_drewN | apply Kd.R_drew)); exact HO_52.out) (Kd.R_typed (by (with_reducible repeat (first | apply Kd.R_alloc | apply Kd.R_drewN | apply Kd.R_drew)); exact HO199.out)) (by decide) hg); have n3_ := Aside0.mk (Kd.R_after (ok := (fun k_ => some k_ ≠ (u11 : Value).ownBlock ∧ some k_ ≠ (.slice Ao58 y194.length co58 : Value).ownBlock ∧ some k_ ≠ (.slice Ao63 y200.length co63 : Value).ownBlock)) (by (with_reducible repeat (first | apply Kd.R_alloc | apply Kd.R_drewN | apply Kd.R_drew)); exact Kd.R_mono HO190.out (fun _ hk => ⟨⟨hk.1.1.1, ⟨hk.1.1.2, hk.2⟩⟩, hk.1.2⟩)) hg hat); have n4_ := Aside0.mk (Kd.R_after (ok := (fun k_ => some k_ ≠ (u11 : Value).ownBlock ∧ some k_ ≠ (v189 : Value).ownBlock ∧ some k_ ≠ (.slice Ao63 y200.length co63 : Value).ownBlock)) (by (with_reducible repeat (first | apply Kd.R_alloc | apply Kd.R_drewN | apply Kd.R_drew)); exact Kd.R_mono HO196.out (fun _ hk => ⟨⟨hk.1.1.1, ⟨hk.1.1.2, hk.2⟩⟩, hk.1.2⟩)) hg hat); have n5_ := Aside0.mk (Kd.R_after (ok := (fun k_ => some k_ ≠ (u11 : Value).ownBlock ∧ some k_ ≠ (v189 : Value).ownBlock ∧ some k_ ≠ (.slice Ao58 y194.length co58 : Value).ownBlock)) (by (with_reducible repeat (first | apply Kd.R_alloc | apply Kd.R_drewN | apply Kd.R_drew)); exact Kd.R_mono HO202.out (fun _ hk => ⟨⟨hk.1.1.1.2, ⟨hk.1.1.2, hk.1.2⟩⟩, hk.2⟩)) hg hat); have n6_ := Aside0.mk (hb); have n7_ := Aside0.mk (ho); clear HO_11; clear HO_13; clear HO_52; clear HO190; clear HO196; clear HO202; clear HB; clear HO199; have HO_11 := n0_; have HO_13 := n1_; have HO_52 := n2_; have HO190 := n3_; have HO196 := n4_; have HO202 := n5_; have HB := n6_; have HO205 := n7_; clear n0_ n1_ n2_ n3_ n4_ n5_ n6_ n7_; clear ho hb hg hat; obtain ⟨Ao64, co64, eo64⟩ := Kd.R_slice HO205.out; subst eo64; obtain ⟨Ao65, co65, eo65⟩ := Kd.R_slice HO190.out; subst eo65; obtain ⟨Ao66, co66, eo66⟩ := Kd.R_slice HO_11.out; subst eo66) | ((with_reducible refine gate_dst (N := 114) rfl ?_); (try (refine gate_guard (by rfl) ?_; dsimp only)); refine Kd.N_lit (Kd.slice 5 (Kd.int .u8)) _ 23 ?hg (N' := 114) ?hd (xs := ([y203, t187, x11_3] : List (List Int))) (inner := [.slice Ao64 y203.length co64, .slice Ao65 t187.length co65, .slice Ao66 x11_3.length co66]) (ok := (fun k_ => some k_ ≠ (.slice Ao54 x13_3.length co54 : Value).ownBlock ∧ some k_ ≠ (.slice Ao22 x7_2.length co22 : Value).ownBlock ∧ some k_ ≠ (.slice Ao58 y194.length co58 : Value).ownBlock ∧ some k_ ≠ (.slice Ao63 y200.length co63 : Value).ownBlock)) (okp := (fun k_ => some k_ ≠ (.slice Ao54 x13_3.length co54 : Value).ownBlock ∧ some k_ ≠ (.slice Ao22 x7_2.length co22 : Value).ownBlock ∧ some k_ ≠ (.slice Ao58 y194.length co58 : Value).ownBlock ∧ some k_ ≠ (.slice Ao63 y200.length co63 : Value).ownBlock)) ?hr ?hp (fun _ hk => hk) ((show ∀ k_, w62.heap.size ≤ k_ → (fun k_ => some k_ ≠ (.slice Ao54 x13_3.length co54 : Value).ownBlock ∧ some k_ ≠ (.slice Ao22 x7_2.length co22 : Value).ownBlock ∧ some k_ ≠ (.slice Ao58 y194.length co58 : Value).ownBlock ∧ some k_ ≠ (.slice Ao63 y200.length co63 : Value).ownBlock) k_ from fun k_ hk => ⟨Kd.fresh' (Kd.R_lt (by (with_reducible repeat (first | apply Kd.R_alloc | apply Kd.R_drewN | apply Kd.R_drew)); exact HO_13.out)) k_ hk, Kd.fresh' (Kd.R_lt (by (with_reducible repeat (first | apply Kd.R_alloc | apply Kd.R_drewN | apply Kd.R_drew)); exact HO_52.out)) k_ hk, Kd.fresh' (Kd.R_lt (by (with_reducible repeat (first | apply Kd.R_alloc | apply Kd.R_drewN | apply Kd.R_drew)); exact HO196.out)) k_ hk, Kd.fresh' (Kd.R_lt (by (with_reducible repeat (first | apply Kd.R_alloc | apply Kd.R_drewN | apply Kd.R_drew)); exact HO202.out)) k_ hk⟩) _ (Nat.le_refl _)) (Below.refl _ _) (Nat.le_refl _) (by simp) ?_; (case hd => rfl); (case hg => rfl); (case hr => first | (go_simp; done) | (go_simp; rfl) | (go_simp; simp only [wAl, wAr, wSl, wSr, wW])); (case hp => exact (Reps.one (show Kd.FK (Kd.slice 5 (Kd.int .u8)) _ _ y203 [.slice Ao64 y203.length co64] from (Kd.FK_slice_mk (Kd.R_reads' (Kd.R_mono (ok' := (fun k_ => some k_ ≠ (.slice Ao54 x13_3.length co54 : Value).ownBlock ∧ some k_ ≠ (.slice Ao22 x7_2.length co22 : Value).ownBlock ∧ some k_ ≠ (.slice Ao58 y194.length co58 : Value).ownBlock ∧ some k_ ≠ (.slice Ao63 y200.length co63 : Value).ownBlock)) (Kd.R_apart' (Kd.R_apart' (HO205.out) (Kd.R_typed HO_13.out) (by decide)) (Kd.R_typed HO_52.out) (by decide)) (fun k_ hk => ⟨hk.1.2, ⟨hk.2, ⟨hk.1.1.2.2.1, hk.1.1.2.2.2⟩⟩⟩))).2.1 (Kd.R_F (Kd.R_mono (ok' := (fun k_ => some k_ ≠ (.slice Ao54 x13_3.length co54 : Value).ownBlock ∧ some k_ ≠ (.slice Ao22 x7_2.length co22 : Value).ownBlock ∧ some k_ ≠ (.slice Ao58 y194.length co58 : Value).ownBlock ∧ some k_ ≠ (.slice Ao63 y200.length co63 : Value).ownBlock)) (Kd.R_apart' (Kd.R_apart' (HO205.out) (Kd.R_typed HO_13.out) (by decide)) (Kd.R_typed HO_52.out) (by decide)) (fun k_ hk => ⟨hk.1.2, ⟨hk.2, ⟨hk.1.1.2.2.1, hk.1.1.2.2.2⟩⟩⟩))))) (Reps.one (show Kd.FK (Kd.slice 5 (Kd.int .u8)) _ _ t187 [.slice Ao65 t187.length co65] from (Kd.FK_slice_mk (Kd.R_reads' (Kd.R_mono (ok' := (fun k_ => some k_ ≠ (.slice Ao54 x13_3.length co54 : Value).ownBlock ∧ some k_ ≠ (.slice Ao22 x7_2.length co22 : Value).ownBlock ∧ some k_ ≠ (.slice Ao58 y194.length co58 : Value).ownBlock ∧ some k_ ≠ (.slice Ao63 y200.length co63 : Value).ownBlock)) (Kd.R_apart' (Kd.R_apart' (HO190.out) (Kd.R_typed HO_13.out) (by decide)) (Kd.R_typed HO_52.out) (by decide)) (fun k_ hk => ⟨hk.1.2, ⟨hk.2, ⟨hk.1.1.1.2.1, hk.1.1.1.2.2⟩⟩⟩))).2.1 (Kd.R_F (Kd.R_mono (ok' := (fun k_ => some k_ ≠ (.slice Ao54 x13_3.length co54 : Value).ownBlock ∧ some k_ ≠ (.slice Ao22 x7_2.length co22 : Value).ownBlock ∧ some k_ ≠ (.slice Ao58 y194.length co58 : Value).ownBlock ∧ some k_ ≠ (.slice Ao63 y200.length co63 : Value).ownBlock)) (Kd.R_apart' (Kd.R_apart' (HO190.out) (Kd.R_typed HO_13.out) (by decide)) (Kd.R_typed HO_52.out) (by decide)) (fun k_ hk => ⟨hk.1.2, ⟨hk.2, ⟨hk.1.1.1.2.1, hk.1.1.1.2.2⟩⟩⟩))))) (Reps.one (show Kd.FK (Kd.slice 5 (Kd.int .u8)) _ _ x11_3 [.slice Ao66 x11_3.length co66] from (Kd.FK_slice_mk (Kd.R_reads' (Kd.R_mono (ok' := (fun k_ => some k_ ≠ (.slice Ao54 x13_3.length co54 : Value).ownBlock ∧ some k_ ≠ (.slice Ao22 x7_2.length co22 : Value).ownBlock ∧ some k_ ≠ (.slice Ao58 y194.length co58 : Value).ownBlock ∧ some k_ ≠ (.slice Ao63 y200.length co63 : Value).ownBlock)) (Kd.R_apart' (Kd.R_apart' (HO_11.out) (Kd.R_typed HO_13.out) (by decide)) (Kd.R_typed HO_52.out) (by decide)) (fun k_ hk => ⟨hk.1.2, ⟨hk.2, ⟨hk.1.1.1.2.1, hk.1.1.1.2.2⟩⟩⟩))).2.1 (Kd.R_F (Kd.R_mono (ok' := (fun k_ => some k_ ≠ (.slice Ao54 x13_3.length co54 : Value).ownBlock ∧ some k_ ≠ (.slice Ao22 x7_2.length co22 : Value).ownBlock ∧ some k_ ≠ (.slice Ao58 y194.length co58 : Value).ownBlock ∧ some k_ ≠ (.slice Ao63 y200.length co63 : Value).ownBlock)) (Kd.R_apart' (Kd.R_apart' (HO_11.out) (Kd.R_typed HO_13.out) (by decide)) (Kd.R_typed HO_52.out) (by decide)) (fun k_ hk => ⟨hk.1.2, ⟨hk.2, ⟨hk.1.1.1.2.1, hk.1.1.1.2.2⟩⟩⟩))))) (Reps.none _ _))))); intro v207 w67 ho68 hb hg_ hnew_; clear hg_ hnew_; (first | rw [← Ny206.out] at ho68 | (simp only [Int.reduceToNat] at ho68; rw [← Ny206.out] at ho68)); have n0_ := rbA HO_13 hb; have n1_ := rbA HO_52 hb; have n2_ := rbA HO196 hb; have n3_ := rbA HO202 hb; have n4_ := Aside0.mk (Kd.N_lower ho68 (below_size (by repeat (first | (with_reducible first | exact HB.out | apply below_alloc | apply pw_below_drewN | apply below_drew1) | exact HB.out)))); have n5_ := bsA HB hb; clear HO_13; clear HO_52; clear HO196; clear HO202; clear HB; clear HO190; clear HO205; clear HO_11; have HO_13 := n0_; have HO_52 := n1_; have HO196 := n2_; have HO202 := n3_; have HO208 := n4_; have HB := n5_; clear n0_ n1_ n2_ n3_ n4_ n5_; clear hb ho68; obtain ⟨Ao69, co69, eo69⟩ := Kd.N_slice HO208.out; subst eo69) | ((with_reducible refine gate_callee (f := 104) rfl ?_); refine goesL_ (some 115) rfl rfl Try.func104 (by kernel_rfl) rfl #[.slice Ao69 y206.length co69] rfl (by (try simp only [List.map_toArray, List.map_cons, List.map_nil]); first | done | rfl | (simp only [List.length_drop, List.length_take]; rfl)) ?_; (with_reducible refine (slices_Concat_byte_byte.calls k3 _ _ y206 t209 _ ?side1 ?side2 A53.out).mono ?_); (case side1 => repeat (first | exact (Kd.N_reads' HO208.out).2.2 | (with_reducible refine Kd.C_alloc ?_ _) | (with_reducible refine Kd.C_drewN ?_ _) | (with_reducible refine Kd.C_drew ?_))); (case side2 => exact (Kd.N_reads' HO208.out).2.1); rintro e w70 ⟨v210, rfl, ho0, hb⟩; refine ⟨_, rfl, ?_⟩; have n0_ := rbA HO_13 hb; have n1_ := rbA HO_52 hb; have n2_ := Aside0.mk (Kd.R_elder' (by (with_reducible repeat (first | apply Kd.R_alloc | apply Kd.R_drewN | apply Kd.R_drew)); exact HO196.out) (Kd.R_base ho0) hb); have n3_ := Aside0.mk (Kd.R_elder' (by (with_reducible repeat (first | apply Kd.R_alloc | apply Kd.R_drewN | apply Kd.R_drew)); exact HO202.out) (Kd.R_base ho0) hb); have n4_ := Aside0.mk (Kd.N_elder' (by (with_reducible repeat (first | apply Kd.N_alloc | apply Kd.N_drewN | apply Kd.N_drew)); exact HO208.out) (Kd.R_base ho0) hb); have n5_ := Aside0.mk (Kd.R_lower (Kd.R_new' (Kd.R_new' ho0 (Kd.R_lt (by (with_reducible repeat (first | apply Kd.R_alloc | apply Kd.R_drewN | apply Kd.R_drew)); exact HO196.out))) (Kd.R_lt (by (with_reducible repeat (first | apply Kd.R_alloc | apply Kd.R_drewN | apply Kd.R_drew)); exact HO202.out))) (below_size (by repeat (first | (with_reducible first | exact HB.out | apply below_alloc | apply pw_below_drewN | apply below_drew1) | exact HB.out)))); have n6_ := bsA HB hb; clear HO_13; clear HO_52; clear HO196; clear HO202; clear HO208; clear HB; have HO_13 := n0_; have HO_52 := n1_; have HO196 := n2_; have HO202 := n3_; have HO208 := n4_; have HO211 := n5_; have HB := n6_; clear n0_ n1_ n2_ n3_ n4_ n5_ n6_; (try clear hb); (try clear hb2); (try clear hk); (try clear hi); (try clear ho0)))
                 go_ret2
                 exact ⟨_, by first | rfl | (simp [errW_none, errW_some] <;> rfl) | (simp [*, errW_none, errW_some] <;> rfl), by (with_reducible repeat (first | apply Kd.R_alloc | apply Kd.R_drewN | apply Kd.R_drew)); exact Kd.R_mono HO211.out (fun _ hk => trivial), by repeat (first | (with_reducible first | exact HB.out | apply below_alloc | apply pw_below_drewN | apply below_drew1) | exact HB.out)⟩
                ·rw [if_neg c52] at H
                 exact absurd H (by simp)
               ·rw [if_neg c50] at H
                exact absurd H (by simp)
              ·rw [if_neg c48] at H
               have c48b0 : (t188 == 0) = false := beq_eq_false_iff_ne.mpr c48
               have c48b1 : (t188 != 0) = true := bne_iff_ne.mpr c48
               simp only [Option.some.injEq, Prod.mk.injEq] at H
               obtain ⟨rfl, rfl⟩ := H
               obtain ⟨Ao71, co71, eo71⟩ := Kd.R_slice HO_13.out
               subst eo71
               go_wp2_with (first | ((with_reducible refine gate_callee (f := 103) rfl ?_); refine goesL_ (some 89) rfl rfl Try.func103 (by kernel_rfl) rfl #[.slice Ao71 x13_3.length co71, .int .i64 t173] rfl (by (try simp only [List.map_toArray, List.map_cons, List.map_nil]); first | done | rfl | (simp only [List.length_drop, List.length_take]; rfl)) ?_; (with_reducible refine (bits_Pack.calls k3 _ _ x13_3 t173 t187 t188 _ ?side1 ?side2 A47.out).mono ?_); (case side1 => repeat (first | exact (Kd.R_reads' HO_13.out).2.2 | (with_reducible refine Kd.C_alloc ?_ _) | (with_reducible refine Kd.C_drewN ?_ _) | (with_reducible refine Kd.C_drew ?_))); (case side2 => exact (Kd.R_reads' HO_13.out).2.1); rintro e w72 ⟨v189, rfl, ho0, hb⟩; refine ⟨_, rfl, ?_⟩; have n0_ := Aside0.mk (Kd.R_elder' (by (with_reducible repeat (first | apply Kd.R_alloc | apply Kd.R_drewN | apply Kd.R_drew)); exact HO_11.out) (Kd.R_base ho0) hb); have n1_ := rbA HO_13 hb; have n2_ := rbA HO_52 hb; have n3_ := Aside0.mk (Kd.R_lower (Kd.R_new' ho0 (Kd.R_lt (by (with_reducible repeat (first | apply Kd.R_alloc | apply Kd.R_drewN | apply Kd.R_drew)); exact HO_11.out))) (below_size (by repeat (first | (with_reducible first | exact HB.out | apply below_alloc | apply pw_below_drewN | apply below_drew1) | exact HB.out)))); have n4_ := bsA HB hb; clear HO_11; clear HO_13; clear HO_52; clear HB; have HO_11 := n0_; have HO_13 := n1_; have HO_52 := n2_; have HO190 := n3_; have HB := n4_; clear n0_ n1_ n2_ n3_ n4_; (try clear hb); (try clear hb2); (try clear hk); (try clear hi); (try clear ho0)))
               go_ret2
               exact ⟨_, by first | rfl | (simp [errW_none, errW_some] <;> rfl) | (simp [*, errW_none, errW_some] <;> rfl), by first | exact Kd.R_nil _ _ _ _ _ | exact Kd.N_nil _ _ _ _ _ | exact Kd.V_nil _ _ _ _ _ | exact Kd.Q_nil _ _ _ _ _ | exact Kd.S_nil _ _ _ _ _, by repeat (first | (with_reducible first | exact HB.out | apply below_alloc | apply pw_below_drewN | apply below_drew1) | exact HB.out)⟩
          ·rw [if_neg c21] at H
           exact absurd H (by simp)
         ·rw [if_neg c20] at H
          exact absurd H (by simp)
     ·rw [if_neg c8] at H
      exact absurd H (by simp)
    ·rw [if_neg c7] at H
     exact absurd H (by simp)

end Go.Proofs.Ytnmidkjmflnolaa.P
