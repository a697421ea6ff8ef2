/- Joined by wip/tools/pack.py, pruned: P7. -/
import Derived.Test.YtehaodbheifokaaGreatDoorMq25
set_option maxHeartbeats 8000000
set_option maxRecDepth 100000
set_option linter.unusedVariables false
set_option linter.unusedSimpArgs false
section
namespace Go.Proofs.YtehaodbheifokaaGreatDoor.P
open Go.RowKit Go.Proofs.YtehaodbheifokaaGreatDoorW.PrintWords Go.Proofs.YtehaodbheifokaaGreatDoorW.PrintLast Go.Proofs.YtehaodbheifokaaGreatDoorW.PrintMore
attribute [local go_sem] max2_int min2_int max_two min_two max_three min_three max_four min_four  
mutual
def dragnetref08_Read.l0 : Nat → List Int → List (S110) → Int → Option ((List (S110)))
 | 0, _, _, _ => none
 | k + 1, x0, x3, x4 => if x4 < (x0.length : Int) then (if 0 ≤ x4 then ((dragnetref08_blank.f (rd x0 x4)).bind fun t198 => (if t198 = true then (dragnetref08_Read.l0 k x0 x3 (wrap64 (x4 + 1))) else (dragnetref08_Read.l1 k x0 x3 x4 x4))) else (none)) else (some x3)
def dragnetref08_Read.j2 : Nat → List Int → List (S110) → Int → Int → Option ((List (S110)))
 | 0, _, _, _, _ => none
 | k + 1, x0, x3, x4, x5 => if 0 ≤ x5 then (if x5 ≤ x4 then (if x4 ≤ (x0.length : Int) then ((dragnetref08_One.f k (strOfNums ((x0.take (x4 : Int).toNat).drop (x5 : Int).toNat))).bind fun bt202 => ((dragnetref08_At.f k x3 bt202.1).bind fun bt208 => (if bt202.2.2.2.2 = true then (if bt208.2.2.2.2 = true then (dragnetref08_Read.l0 k x0 x3 (wrap64 (x4 + 1))) else (if (x3.length : Int) < 16 then (if x3.length < 2932031007402 then (dragnetref08_Read.l0 k x0 (x3 ++ [(⟨bt202.1, bt202.2.1, bt202.2.2.1, bt202.2.2.2.1⟩ : S110)]) (wrap64 (x4 + 1))) else (none)) else (dragnetref08_Read.l0 k x0 x3 (wrap64 (x4 + 1))))) else (dragnetref08_Read.l0 k x0 x3 (wrap64 (x4 + 1)))))) else (none)) else (none)) else (none)
def dragnetref08_Read.l1 : Nat → List Int → List (S110) → Int → Int → Option ((List (S110)))
 | 0, _, _, _, _ => none
 | k + 1, x0, x3, x4, x5 => if x4 < (x0.length : Int) then (if 0 ≤ x4 then ((dragnetref08_blank.f (rd x0 x4)).bind fun t200 => (if t200 = true then (dragnetref08_Read.j2 k x0 x3 x4 x5) else (dragnetref08_Read.l1 k x0 x3 (wrap64 (x4 + 1)) x5))) else (none)) else (dragnetref08_Read.j2 k x0 x3 x4 x5)
end
def dragnetref08_Read.f (k : Nat) (l0 : List Int) : Option ((List (S110))) := dragnetref08_Read.l0 k l0 ([] : List (S110)) 0
theorem dragnetref08_Read.calls (k : Nat) (A0 : Option Addr) (c0 : Nat) (l0 : List Int) (r : List (S110)) (w : World) (hr0 : Kd.C (Kd.int .u8) w A0 l0.length l0) (hc0 : l0.length ≤ c0) (h : dragnetref08_Read.f k l0 = some r) :
  Calls Tryz.prog 93 #[.slice A0 l0.length c0] w fun e w' => ∃ v0_ : Value, e = .returned (v0_) ∧ Kd.R k110 110 w' w.heap.size (fun _ => True) v0_ r ∧ Below w.heap.size w w' := by
 have hu110 := Tryz.underlying110
 have HR0 := Aside0.mk hr0
 have HC0 := Aside0.mk hc0
 clear hr0 hc0
 have HB := Aside0.mk (Below.refl w.heap.size w)
 have H : (dragnetref08_Read.l0 k l0 ([] : List (S110)) 0) = some r := h
 clear h
 have H' := Aside0.mk H
 clear H
 go_enter Tryz.func93, Tryz.ntmps93
 go_wp2
 go_loopg [3, 4] k (fun kq v3 v4 w' => ∃ (x3_1 : List (S110)) (x4_1 : Int), v4 = .int .i64 x4_1 ∧ Aside0 (dragnetref08_Read.l0 kq l0 x3_1 x4_1 = some r) ∧ Aside0 (kq ≤ k) ∧ Aside0 (Kd.R k110 110 w' w.heap.size (fun _ => True) v3 x3_1) ∧ Aside0 (Below w.heap.size w w'))
 case atStart => exact ⟨(([] : List (S110))), (0), rs_, H', ⟨Nat.le_refl _⟩, ⟨by first | exact Kd.R_nil _ _ _ _ _ | exact Kd.N_nil _ _ _ _ _ | exact Kd.V_nil _ _ _ _ _ | exact Kd.Q_nil _ _ _ _ _ | exact Kd.S_nil _ _ _ _ _⟩, ⟨by repeat (first | (with_reducible first | exact HB.out | apply below_alloc | apply pw_below_drewN | apply below_drew1) | exact HB.out)⟩⟩
 case round =>
  clear H'
  obtain ⟨x3_1, x4_1, rfl, HA, HK1, HO_3, HB⟩ := hrel
  cases gk with
  | zero => exact absurd HA.out (by simp [dragnetref08_Read.l0])
  | succ k1 =>
   have H := HA.out
   clear HA
   simp only [dragnetref08_Read.l0] at H
   by_cases c2 : x4_1 < (l0.length : Int)
   ·rw [if_pos c2] at H
    have c2b0 : decide (x4_1 < (l0.length : Int)) = true := decide_eq_true c2
    clear c2
    by_cases c3 : 0 ≤ x4_1
    ·rw [if_pos c3] at H
     have c3b0 : decide (0 ≤ x4_1) = true := decide_eq_true c3
     clear c3
     replace H := Option.bind_eq_some_iff.mp H
     obtain ⟨t198, A40, H⟩ := H
     replace H : (if t198 = true then (dragnetref08_Read.l0 k1 l0 x3_1 (wrap64 (x4_1 + 1))) else (dragnetref08_Read.l1 k1 l0 x3_1 x4_1 x4_1)) = some r := H
     have A4 := Aside0.mk A40
     clear A40
     by_cases c5 : t198 = true
     ·subst c5
      have H1 : (dragnetref08_Read.l0 k1 l0 x3_1 (wrap64 (x4_1 + 1))) = some r := by rw [if_pos rfl] at H; exact H
      clear H
      have H := H1
      clear H1
      have H' := Aside0.mk H
      clear H
      have p197 : 0 ≤ (x4_1 : Int) := of_decide_eq_true as_
      have q197 : x4_1 < (l0.length : Int) := of_decide_eq_true as_
      obtain ⟨ad197, e197, hx197_0⟩ := Kd.at_int HR0.out x4_1 p197 q197
      cases e197
      replace hx197_0 := (HB.out.cell (World.block_lt_of_cell? w _ hx197_0)).trans hx197_0
      replace p197 := eq_true p197
      replace q197 := eq_true q197
      go_wp2_with (first | ((with_reducible refine gate_callee (f := 110) rfl ?_); refine goesL_ (some 20) rfl rfl Tryz.func110 (by kernel_rfl) rfl #[.int .u8 (rd l0 x4_1)] rfl mp_ ?_; (with_reducible refine (dragnetref08_blank.calls (rd l0 x4_1) true _ A4.out).mono ?_); rintro e w' ⟨rfl, ⟨nd, rfl⟩⟩; refine ⟨_, rfl, ?_⟩))
      go_roundg k1
      case measure => have := HK1.out; omega
      case rel => exact ⟨(x3_1), (wrap64 (x4_1 + 1)), rs_, H', ⟨by have := HK1.out; omega⟩, ⟨by (with_reducible repeat (first | apply Kd.R_alloc | apply Kd.R_drewN | apply Kd.R_drew)); exact HO_3.out⟩, ⟨by repeat (first | (with_reducible first | exact HB.out | apply below_alloc | apply pw_below_drewN | apply below_drew1) | exact HB.out)⟩⟩
     ·replace c5 := Bool.eq_false_iff.mpr c5
      subst c5
      have H1 : (dragnetref08_Read.l1 k1 l0 x3_1 x4_1 x4_1) = some r := by rw [if_neg (show ¬ (false = true) by decide)] at H; exact H
      clear H
      have H := H1
      clear H1
      have HC6 := Aside0.mk H
      clear H
      have p197 : 0 ≤ (x4_1 : Int) := of_decide_eq_true as_
      have q197 : x4_1 < (l0.length : Int) := of_decide_eq_true as_
      obtain ⟨ad197, e197, hx197_0⟩ := Kd.at_int HR0.out x4_1 p197 q197
      cases e197
      replace hx197_0 := (HB.out.cell (World.block_lt_of_cell? w _ hx197_0)).trans hx197_0
      replace p197 := eq_true p197
      replace q197 := eq_true q197
      go_upto_block 2 with (first | ((with_reducible refine gate_callee (f := 110) rfl ?_); refine goesL_ (some 20) rfl rfl Tryz.func110 (by kernel_rfl) rfl #[.int .u8 (rd l0 x4_1)] rfl mp_ ?_; (with_reducible refine (dragnetref08_blank.calls (rd l0 x4_1) false _ A4.out).mono ?_); rintro e w' ⟨rfl, ⟨nd, rfl⟩⟩; refine ⟨_, rfl, ?_⟩))
      (try simp only [Act.put, List.setIfInBounds_toArray, List.set_cons_zero, List.set_cons_succ])
      go_cut [4] (fun v4 wc => ∃ (kq : Nat) (x4_5 : Int), v4 = .int .i64 x4_5 ∧ Aside0 (dragnetref08_Read.j2 kq l0 x3_1 x4_5 x4_1 = some r) ∧ Aside0 (kq ≤ k1) ∧ Aside0 (Kd.R k110 110 wc w.heap.size (fun _ => True) u3 x3_1) ∧ Aside0 (Below w.heap.size w wc))
      case first =>
       have H := HC6.out
       clear HC6
       have H' := Aside0.mk H
       clear H
       go_wp2
       go_loopg [4] k1 (fun kq v4 w' => ∃ (x4_2 : Int), v4 = .int .i64 x4_2 ∧ Aside0 (dragnetref08_Read.l1 kq l0 x3_1 x4_2 x4_1 = some r) ∧ Aside0 (kq ≤ k1) ∧ Aside0 (Kd.R k110 110 w' w.heap.size (fun _ => True) u3 x3_1) ∧ Aside0 (Below w.heap.size w w'))
       case atStart => exact ⟨(x4_1), rs_, H', ⟨Nat.le_refl _⟩, ⟨by (with_reducible repeat (first | apply Kd.R_alloc | apply Kd.R_drewN | apply Kd.R_drew)); exact HO_3.out⟩, ⟨by repeat (first | (with_reducible first | exact HB.out | apply below_alloc | apply pw_below_drewN | apply below_drew1) | exact HB.out)⟩⟩
       case round =>
        clear H'
        try clear c1
        try clear p1
        try clear q1
        try clear hx1
        try clear c2
        try clear c2b0
        try clear p2
        try clear c3
        try clear c3b0
        try clear c5
        try clear p6
        try clear hx197_0
        try clear p197
        try clear q197
        obtain ⟨x4_2, rfl, HA, HK2, HO_3, HB⟩ := hrel
        cases gk with
        | zero => exact absurd HA.out (by simp [dragnetref08_Read.l1])
        | succ k2 =>
         have H := HA.out
         clear HA
         simp only [dragnetref08_Read.l1] at H
         by_cases c7 : x4_2 < (l0.length : Int)
         ·rw [if_pos c7] at H
          have c7b0 : decide (x4_2 < (l0.length : Int)) = true := decide_eq_true c7
          clear c7
          (first | rw [c7b0] | (simp only [i64_w, i32_w]; rw [c7b0]) | skip)
          by_cases c8 : 0 ≤ x4_2
          ·rw [if_pos c8] at H
           have c8b0 : decide (0 ≤ x4_2) = true := decide_eq_true c8
           clear c8
           replace H := Option.bind_eq_some_iff.mp H
           obtain ⟨t200, A90, H⟩ := H
           replace H : (if t200 = true then (dragnetref08_Read.j2 k2 l0 x3_1 x4_2 x4_1) else (dragnetref08_Read.l1 k2 l0 x3_1 (wrap64 (x4_2 + 1)) x4_1)) = some r := H
           have A9 := Aside0.mk A90
           clear A90
           by_cases c10 : t200 = true
           ·subst c10
            have H1 : (dragnetref08_Read.j2 k2 l0 x3_1 x4_2 x4_1) = some r := by rw [if_pos rfl] at H; exact H
            clear H
            have H := H1
            clear H1
            have H' := Aside0.mk H
            clear H
            have p199 : 0 ≤ (x4_2 : Int) := of_decide_eq_true as_
            have q199 : x4_2 < (l0.length : Int) := of_decide_eq_true as_
            obtain ⟨ad199, e199, hx199_0⟩ := Kd.at_int HR0.out x4_2 p199 q199
            obtain rfl : ad197 = ad199 := (by injection e199)
            replace hx199_0 := (HB.out.cell (World.block_lt_of_cell? w _ hx199_0)).trans hx199_0
            replace p199 := eq_true p199
            replace q199 := eq_true q199
            go_wp2_with (first | (go_at_call 110; (with_reducible refine (dragnetref08_blank.calls (rd l0 x4_2) true _ A9.out).mono ?_); rintro e w' ⟨rfl, ⟨nd, rfl⟩⟩))
            go_meet
            case rel => exact ⟨_, (x4_2), rs_, H', ⟨by have := HK1.out; have := HK2.out; first | omega | exact Nat.le_refl _⟩, ⟨by (with_reducible repeat (first | apply Kd.R_alloc | apply Kd.R_drewN | apply Kd.R_drew)); exact HO_3.out⟩, ⟨by repeat (first | (with_reducible first | exact HB.out | apply below_alloc | apply pw_below_drewN | apply below_drew1) | exact HB.out)⟩⟩
           ·replace c10 := Bool.eq_false_iff.mpr c10
            subst c10
            have H1 : (dragnetref08_Read.l1 k2 l0 x3_1 (wrap64 (x4_2 + 1)) x4_1) = some r := by rw [if_neg (show ¬ (false = true) by decide)] at H; exact H
            clear H
            have H := H1
            clear H1
            have H' := Aside0.mk H
            clear H
            have p199 : 0 ≤ (x4_2 : Int) := of_decide_eq_true as_
            have q199 : x4_2 < (l0.length : Int) := of_decide_eq_true as_
            obtain ⟨ad199, e199, hx199_0⟩ := Kd.at_int HR0.out x4_2 p199 q199
            obtain rfl : ad197 = ad199 := (by injection e199)
            replace hx199_0 := (HB.out.cell (World.block_lt_of_cell? w _ hx199_0)).trans hx199_0
            replace p199 := eq_true p199
            replace q199 := eq_true q199
            go_wp2_with (first | (go_at_call 110; (with_reducible refine (dragnetref08_blank.calls (rd l0 x4_2) false _ A9.out).mono ?_); rintro e w' ⟨rfl, ⟨nd, rfl⟩⟩))
            go_roundg k2
            case measure => have := HK1.out; have := HK2.out; omega
            case rel => exact ⟨(wrap64 (x4_2 + 1)), rs_, H', ⟨by have := HK1.out; have := HK2.out; omega⟩, ⟨by (with_reducible repeat (first | apply Kd.R_alloc | apply Kd.R_drewN | apply Kd.R_drew)); exact HO_3.out⟩, ⟨by repeat (first | (with_reducible first | exact HB.out | apply below_alloc | apply pw_below_drewN | apply below_drew1) | exact HB.out)⟩⟩
          ·rw [if_neg c8] at H
           exact absurd H (by simp)
         ·rw [if_neg c7] at H
          have c7b0 : decide (x4_2 < (l0.length : Int)) = false := decide_eq_false c7
          clear c7
          (first | rw [c7b0] | (simp only [i64_w, i32_w]; rw [c7b0]) | skip)
          have H' := Aside0.mk H
          clear H
          go_wp2
          go_meet
          case rel => exact ⟨_, (x4_2), rs_, H', ⟨by have := HK1.out; have := HK2.out; first | omega | exact Nat.le_refl _⟩, ⟨by (with_reducible repeat (first | apply Kd.R_alloc | apply Kd.R_drewN | apply Kd.R_drew)); exact HO_3.out⟩, ⟨by repeat (first | (with_reducible first | exact HB.out | apply below_alloc | apply pw_below_drewN | apply below_drew1) | exact HB.out)⟩⟩
      case rest =>
       clear HC6
       try clear c1
       try clear p1
       try clear q1
       try clear hx1
       try clear c2
       try clear c2b0
       try clear p2
       try clear c3
       try clear c3b0
       try clear c5
       try clear p6
       try clear c7
       try clear c7b0
       try clear c8
       try clear c8b0
       try clear c9
       try clear c10
       try clear hx197_0
       try clear hx199_0
       try clear p1
       try clear p197
       try clear p199
       try clear p2
       try clear p6
       try clear q1
       try clear q197
       try clear q199
       obtain ⟨kq, x4_5, rfl, HA, HJ5, HO_3, HB⟩ := hcut
       cases kq with
       | zero => exact absurd HA.out (by simp [dragnetref08_Read.j2])
       | succ kj5 =>
        have H := HA.out
        clear HA
        simp only [dragnetref08_Read.j2] at H
        by_cases c11 : 0 ≤ x4_1
        ·rw [if_pos c11] at H
         have c11b0 := eq_true c11
         have c11b1 : decide (0 ≤ x4_1) = true := decide_eq_true c11
         clear c11
         by_cases c12 : x4_1 ≤ x4_5
         ·rw [if_pos c12] at H
          have c12b0 := eq_true c12
          have c12b1 : decide (x4_1 ≤ x4_5) = true := decide_eq_true c12
          clear c12
          by_cases c13 : x4_5 ≤ (l0.length : Int)
          ·rw [if_pos c13] at H
           have c13b0 := eq_true c13
           have c13b1 : decide (x4_5 ≤ (l0.length : Int)) = true := decide_eq_true c13
           clear c13
           replace H := Option.bind_eq_some_iff.mp H
           obtain ⟨⟨t202, t203, t204, t205, t206⟩, A140, H⟩ := H
           replace H : ((dragnetref08_At.f kj5 x3_1 t202).bind fun bt208 => (if t206 = true then (if bt208.2.2.2.2 = true then (dragnetref08_Read.l0 kj5 l0 x3_1 (wrap64 (x4_5 + 1))) else (if (x3_1.length : Int) < 16 then (if x3_1.length < 2932031007402 then (dragnetref08_Read.l0 kj5 l0 (x3_1 ++ [(⟨t202, t203, t204, t205⟩ : S110)]) (wrap64 (x4_5 + 1))) else (none)) else (dragnetref08_Read.l0 kj5 l0 x3_1 (wrap64 (x4_5 + 1))))) else (dragnetref08_Read.l0 kj5 l0 x3_1 (wrap64 (x4_5 + 1))))) = some r := H
           have A14 := Aside0.mk A140
           clear A140
           replace H := Option.bind_eq_some_iff.mp H
           obtain ⟨⟨t208, t209, t210, t211, t212⟩, A150, H⟩ := H
           replace H : (if t206 = true then (if t212 = true then (dragnetref08_Read.l0 kj5 l0 x3_1 (wrap64 (x4_5 + 1))) else (if (x3_1.length : Int) < 16 then (if x3_1.length < 2932031007402 then (dragnetref08_Read.l0 kj5 l0 (x3_1 ++ [(⟨t202, t203, t204, t205⟩ : S110)]) (wrap64 (x4_5 + 1))) else (none)) else (dragnetref08_Read.l0 kj5 l0 x3_1 (wrap64 (x4_5 + 1))))) else (dragnetref08_Read.l0 kj5 l0 x3_1 (wrap64 (x4_5 + 1)))) = some r := H
           have A15 := Aside0.mk A150
           clear A150
           by_cases c16 : t206 = true
           ·subst c16
            have H1 : (if t212 = true then (dragnetref08_Read.l0 kj5 l0 x3_1 (wrap64 (x4_5 + 1))) else (if (x3_1.length : Int) < 16 then (if x3_1.length < 2932031007402 then (dragnetref08_Read.l0 kj5 l0 (x3_1 ++ [(⟨t202, t203, t204, t205⟩ : S110)]) (wrap64 (x4_5 + 1))) else (none)) else (dragnetref08_Read.l0 kj5 l0 x3_1 (wrap64 (x4_5 + 1))))) = some r := by rw [if_pos rfl] at H; exact H
            clear H
            have H := H1
            clear H1
            by_cases c17 : t212 = true
            ·subst c17
             have H1 : (dragnetref08_Read.l0 kj5 l0 x3_1 (wrap64 (x4_5 + 1))) = some r := by rw [if_pos rfl] at H; exact H
             clear H
             have H := H1
             clear H1
             have H' := Aside0.mk H
             clear H
             obtain ⟨i018, hi018, _, hsz18, _⟩ := info_parts info5
             obtain ⟨A18, hcut18, hA18, hC18⟩ := print_mid_of (P := Tryz.prog) (Value.int .u8) 0 25 5 .i64 .i64 Tryz.underlying25 hi018 hsz18 (some ad197) c0 l0 x4_1 x4_5 (of_decide_eq_true as_) (by first | omega | exact of_decide_eq_true as_) (of_decide_eq_true as_) HC0.out
             have HR201 := Aside0.mk (Kd.C_of_reads (h1 := fun _ => rfl) (hA18 _ (Kd.reads_of_C HR0.out)))
             have HC201 := Aside0.mk hC18
             clear hA18 hC18 hi018 hsz18
             have hcv19 := Kd.C_string (P := Tryz.prog) (A := A18) (c := (c0 - x4_1.toNat)) Tryz.underlying25 Tryz.underlying5 Tryz.underlying9 (Kd.C_below HR201.out HB.out)
             have hcv20 := fun (i_ : Nat) => Kd.C_string (P := Tryz.prog) (A := A18) (c := (c0 - x4_1.toNat)) Tryz.underlying25 Tryz.underlying5 Tryz.underlying9 (Kd.C_drewN (Kd.C_below HR201.out HB.out) i_)
             have hcv21 := fun (i_ j_ : Nat) => Kd.C_string (P := Tryz.prog) (A := A18) (c := (c0 - x4_1.toNat)) Tryz.underlying25 Tryz.underlying5 Tryz.underlying9 (Kd.C_drewN (Kd.C_drewN (Kd.C_below HR201.out HB.out) i_) j_)
             have hcv22 := Kd.C_string (P := Tryz.prog) (A := A18) (c := (c0 - x4_1.toNat)) Tryz.underlying25 Tryz.underlying5 Tryz.underlying9 (Kd.C_below HR201.out HB.out)
             (try simp only [List.length_take, List.length_drop, Int.toNat_natCast, Nat.min_eq_left (show (x4_5 : Int).toNat ≤ l0.length by have h_ := of_decide_eq_true (show decide (x4_5 ≤ (l0.length : Int)) = true by assumption); omega)] at hcv22)
             have hcv23 := fun (i_ : Nat) => Kd.C_string (P := Tryz.prog) (A := A18) (c := (c0 - x4_1.toNat)) Tryz.underlying25 Tryz.underlying5 Tryz.underlying9 (Kd.C_drewN (Kd.C_below HR201.out HB.out) i_)
             (try simp only [List.length_take, List.length_drop, Int.toNat_natCast, Nat.min_eq_left (show (x4_5 : Int).toNat ≤ l0.length by have h_ := of_decide_eq_true (show decide (x4_5 ≤ (l0.length : Int)) = true by assumption); omega)] at hcv23)
             have hcv24 := fun (i_ j_ : Nat) => Kd.C_string (P := Tryz.prog) (A := A18) (c := (c0 - x4_1.toNat)) Tryz.underlying25 Tryz.underlying5 Tryz.underlying9 (Kd.C_drewN (Kd.C_drewN (Kd.C_below HR201.out HB.out) i_) j_)
             (try simp only [List.length_take, List.length_drop, Int.toNat_natCast, Nat.min_eq_left (show (x4_5 : Int).toNat ≤ l0.length by have h_ := of_decide_eq_true (show decide (x4_5 ≤ (l0.length : Int)) = true by assumption); omega)] at hcv24)
             go_wp2_with (first | ((with_reducible refine gate_callee (f := 111) rfl ?_); refine goesL_ (some 42) rfl rfl Tryz.func111 (by kernel_rfl) rfl #[.string (strOfNums ((l0.take (x4_5 : Int).toNat).drop (x4_1 : Int).toNat))] rfl mp_ ?_; (with_reducible refine (dragnetref08_One.calls kj5 (strOfNums ((l0.take (x4_5 : Int).toNat).drop (x4_1 : Int).toNat)) t202 t203 t204 t205 true _ A14.out).mono ?_); rintro e w25 ⟨rfl, hb⟩; refine ⟨_, rfl, ?_⟩; have n0_ := rbA HO_3 hb; have n1_ := bsA HB hb; clear HO_3; clear HB; have HO_3 := n0_; have HB := n1_; clear n0_ n1_; (try clear hb); (try clear hb2); (try clear hk); (try clear hi)) | ((with_reducible refine gate_dst (N := 6) rfl ?_); (try (refine gate_guard (by rfl) ?_; dsimp only)); refine box_event ?hg (N := 6) ?hd (cs := #[.string (⟨#[]⟩ : ByteArray), .int .i64 0, .int .i64 0, .string (⟨#[]⟩ : ByteArray)]) (t := 110) ?hr ?_; (case hd => rfl); (case hg => rfl); (case hr => first | (go_simp; done) | (go_simp; rfl) | (go_simp; simp only [wAl, wAr, wSl, wSr, wW])); intro gb207 hg w26 hbox hb; have n0_ := Aside0.mk (Kd.R_below (Kd.R_elderB (by (with_reducible repeat (first | apply Kd.R_alloc | apply Kd.R_drewN | apply Kd.R_drew)); exact HO_3.out) gb207 (Nat.le_of_eq hg.symm)) hb); have n1_ := bsA HB hb; have n2_ := Aside0.mk (hbox); have n3_ := szA HB hg; have n4_ := szA HB hg; clear HO_3; clear HB; have HO_3 := n0_; have HB := n1_; have BK207 := n2_; have GW207 := n3_; have GE207 := n4_; clear n0_ n1_ n2_ n3_ n4_; clear hb hbox hg; have hcz27_0 : w26.cell? ⟨gb207, 0, none⟩ = some (.string (⟨#[]⟩ : ByteArray)) := (blk_cell BK207.out 0).trans rfl; have hcz27_1 : w26.cell? ⟨gb207, 1, none⟩ = some (.int .i64 0) := (blk_cell BK207.out 1).trans rfl; have hcz27_2 : w26.cell? ⟨gb207, 2, none⟩ = some (.int .i64 0) := (blk_cell BK207.out 2).trans rfl; have hcz27_3 : w26.cell? ⟨gb207, 3, none⟩ = some (.string (⟨#[]⟩ : ByteArray)) := (blk_cell BK207.out 3).trans rfl; have hfz27_0 := blk_frozen BK207.out 0; have hfz27_1 := blk_frozen BK207.out 1; have hfz27_2 := blk_frozen BK207.out 2; have hfz27_3 := blk_frozen BK207.out 3; obtain ⟨Ao28, co28, eo28⟩ := Kd.R_slice HO_3.out; subst eo28) | ((with_reducible refine gate_callee (f := 92) rfl ?_); refine goesL_ (some 49) rfl rfl Tryz.func92 (by kernel_rfl) rfl #[.slice Ao28 x3_1.length co28, .string t202] rfl mp_ ?_; (with_reducible refine (dragnetref08_At.calls kj5 _ _ x3_1 t202 t208 t209 t210 t211 true _ ?side1 ?side2 A15.out).mono ?_); (case side1 => refine (Kd.R_reads' (e := 110) (base := w.heap.size) (ok := fun k_ => (True ∧ k_ ≠ gb207)) (n := x3_1.length) (c := co28) ?_).2.2; exact (by (with_reducible repeat (first | apply Kd.R_alloc | apply Kd.R_drewN | apply Kd.R_drew)); exact (Kd.R_mono (Kd.R_far (p := ⟨gb207, 3, none⟩) (Kd.R_far (p := ⟨gb207, 2, none⟩) (Kd.R_far (p := ⟨gb207, 1, none⟩) (Kd.R_far (p := ⟨gb207, 0, none⟩) (Kd.R_mono HO_3.out (fun k_ hk => (⟨hk, hk.2⟩ : _ ∧ k_ ≠ gb207))) (fun _ hk => hk.2) (.string t202)) (fun _ hk => hk.2) (.int .i64 t203)) (fun _ hk => hk.2) (.int .i64 t204)) (fun _ hk => hk.2) (.string t205)) (fun _ h_ => h_.1)))); (case side2 => exact (Kd.R_reads' HO_3.out).2.1); rintro e w29 ⟨rfl, hb⟩; refine ⟨_, rfl, ?_⟩; have n0_ := Aside0.mk (Kd.R_below (by (with_reducible repeat (first | apply Kd.R_alloc | apply Kd.R_drewN | apply Kd.R_drew)); exact (Kd.R_mono (Kd.R_far (p := ⟨gb207, 3, none⟩) (Kd.R_far (p := ⟨gb207, 2, none⟩) (Kd.R_far (p := ⟨gb207, 1, none⟩) (Kd.R_far (p := ⟨gb207, 0, none⟩) (Kd.R_mono HO_3.out (fun k_ hk => (⟨hk, hk.2⟩ : _ ∧ k_ ≠ gb207))) (fun _ hk => hk.2) (.string t202)) (fun _ hk => hk.2) (.int .i64 t203)) (fun _ hk => hk.2) (.int .i64 t204)) (fun _ hk => hk.2) (.string t205)) (fun _ h_ => h_.1))) hb); have n1_ := Aside0.mk (blk_below (g := gb207) (o := .cells #[.string t202, .int .i64 t203, .int .i64 t204, .string t205] 110 (0, 0)) (by (with_reducible repeat (first | refine blk_drewN ?_ _ | refine blk_drew ?_ | refine blk_alloc ?_ _)); refine blk_put (cs := #[.string t202, .int .i64 t203, .int .i64 t204, .string (⟨#[]⟩ : ByteArray)]) ?_ 3 _ rfl; (with_reducible repeat (first | refine blk_drewN ?_ _ | refine blk_drew ?_ | refine blk_alloc ?_ _)); refine blk_put (cs := #[.string t202, .int .i64 t203, .int .i64 0, .string (⟨#[]⟩ : ByteArray)]) ?_ 2 _ rfl; (with_reducible repeat (first | refine blk_drewN ?_ _ | refine blk_drew ?_ | refine blk_alloc ?_ _)); refine blk_put (cs := #[.string t202, .int .i64 0, .int .i64 0, .string (⟨#[]⟩ : ByteArray)]) ?_ 1 _ rfl; (with_reducible repeat (first | refine blk_drewN ?_ _ | refine blk_drew ?_ | refine blk_alloc ?_ _)); refine blk_put (cs := #[.string (⟨#[]⟩ : ByteArray), .int .i64 0, .int .i64 0, .string (⟨#[]⟩ : ByteArray)]) ?_ 0 _ rfl; (with_reducible repeat (first | refine blk_drewN ?_ _ | refine blk_drew ?_ | refine blk_alloc ?_ _)); exact BK207.out) hb); have n2_ := bsA HB hb; clear HO_3; clear BK207; clear HB; have HO_3 := n0_; have BK207 := n1_; have HB := n2_; clear n0_ n1_ n2_; (try clear hb); (try clear hb2); (try clear hk); (try clear hi)) | ((with_reducible refine gate_dst (N := 8) rfl ?_); (try (refine gate_guard (by rfl) ?_; dsimp only)); refine box_event ?hg (N := 8) ?hd (cs := #[.string (⟨#[]⟩ : ByteArray), .int .i64 0, .int .i64 0, .string (⟨#[]⟩ : ByteArray)]) (t := 110) ?hr ?_; (case hd => rfl); (case hg => rfl); (case hr => first | (go_simp; done) | (go_simp; rfl) | (go_simp; simp only [wAl, wAr, wSl, wSr, wW])); intro gb213 hg w30 hbox hb; have n0_ := Aside0.mk (Kd.R_below (Kd.R_elderB (by (with_reducible repeat (first | apply Kd.R_alloc | apply Kd.R_drewN | apply Kd.R_drew)); exact HO_3.out) gb213 (Nat.le_of_eq hg.symm)) hb); have n1_ := bkA BK207 hb; have n2_ := bsA HB hb; have n3_ := Aside0.mk (hbox); have n4_ := szA HB hg; have n5_ := szA HB hg; have n6_ := neA BK207 hg; have n7_ := neB BK207 hg; clear HO_3; clear BK207; clear HB; have HO_3 := n0_; have BK207 := n1_; have HB := n2_; have BK213 := n3_; have GW213 := n4_; have GE213 := n5_; have NB207_213 := n6_; have NB213_207 := n7_; clear n0_ n1_ n2_ n3_ n4_ n5_ n6_ n7_; clear hb hbox hg; have hnb31 := NB213_207.out; have hnc31 := NB207_213.out; have hcz32_0 : w30.cell? ⟨gb213, 0, none⟩ = some (.string (⟨#[]⟩ : ByteArray)) := (blk_cell BK213.out 0).trans rfl; have hcz32_1 : w30.cell? ⟨gb213, 1, none⟩ = some (.int .i64 0) := (blk_cell BK213.out 1).trans rfl; have hcz32_2 : w30.cell? ⟨gb213, 2, none⟩ = some (.int .i64 0) := (blk_cell BK213.out 2).trans rfl; have hcz32_3 : w30.cell? ⟨gb213, 3, none⟩ = some (.string (⟨#[]⟩ : ByteArray)) := (blk_cell BK213.out 3).trans rfl; have hfz32_0 := blk_frozen BK213.out 0; have hfz32_1 := blk_frozen BK213.out 1; have hfz32_2 := blk_frozen BK213.out 2; have hfz32_3 := blk_frozen BK213.out 3))
             go_roundg kj5
             case measure => have := HK1.out; have := HJ5.out; omega
             case rel => exact ⟨(x3_1), (wrap64 (x4_5 + 1)), rs_, H', ⟨by have := HK1.out; have := HJ5.out; omega⟩, ⟨by (with_reducible repeat (first | apply Kd.R_alloc | apply Kd.R_drewN | apply Kd.R_drew)); exact Kd.R_mono (Kd.R_far (p := ⟨gb213, 3, none⟩) (Kd.R_far (p := ⟨gb213, 2, none⟩) (Kd.R_far (p := ⟨gb213, 1, none⟩) (Kd.R_far (p := ⟨gb213, 0, none⟩) (Kd.R_mono HO_3.out (fun k_ hk => (⟨hk, hk.2⟩ : _ ∧ k_ ≠ gb213))) (fun _ hk => hk.2) (.string t208)) (fun _ hk => hk.2) (.int .i64 t209)) (fun _ hk => hk.2) (.int .i64 t210)) (fun _ hk => hk.2) (.string t211)) (fun _ hk => trivial)⟩, ⟨by repeat (first | (with_reducible first | exact HB.out | apply below_alloc | apply pw_below_drewN | apply below_drew1 | refine below_set ?_ GE207.out | refine below_set ?_ GE213.out) | exact HB.out)⟩⟩
            ·replace c17 := Bool.eq_false_iff.mpr c17
             subst c17
             have H1 : (if (x3_1.length : Int) < 16 then (if x3_1.length < 2932031007402 then (dragnetref08_Read.l0 kj5 l0 (x3_1 ++ [(⟨t202, t203, t204, t205⟩ : S110)]) (wrap64 (x4_5 + 1))) else (none)) else (dragnetref08_Read.l0 kj5 l0 x3_1 (wrap64 (x4_5 + 1)))) = some r := by rw [if_neg (show ¬ (false = true) by decide)] at H; exact H
             clear H
             have H := H1
             clear H1
             by_cases c33 : (x3_1.length : Int) < 16
             ·rw [if_pos c33] at H
              have c33b0 : decide ((x3_1.length : Int) < 16) = true := decide_eq_true c33
              have c33b1 : decide (x3_1.length < 16) = true := decide_eq_true (by omega)
              clear c33
              by_cases c34 : x3_1.length < 2932031007402
              ·rw [if_pos c34] at H
               have LMc34 := Aside0.mk c34
               clear c34
               obtain ⟨y214, hy214⟩ : ∃ y_ : List (S110), y_ = (x3_1 ++ [(⟨t202, t203, t204, t205⟩ : S110)]) := ⟨_, rfl⟩
               replace H : (dragnetref08_Read.l0 kj5 l0 y214 (wrap64 (x4_5 + 1))) = some r := by first | (rw [hy214]; with_reducible exact H) | (have H2_ := (Option.bind_some _ _).symm.trans H; rw [hy214]; with_reducible exact H2_) | (have H2_ := (Option.bind_some _ _).symm.trans H; with_reducible exact H2_) | with_reducible exact H | (rw [hy214]; exact H) | exact H
               have Ny214 := Aside0.mk hy214
               clear hy214
               have H' := Aside0.mk H
               clear H
               obtain ⟨i035, hi035, _, hsz35, _⟩ := info_parts info5
               obtain ⟨A35, hcut35, hA35, hC35⟩ := print_mid_of (P := Tryz.prog) (Value.int .u8) 0 25 5 .i64 .i64 Tryz.underlying25 hi035 hsz35 (some ad197) c0 l0 x4_1 x4_5 (of_decide_eq_true as_) (by first | omega | exact of_decide_eq_true as_) (of_decide_eq_true as_) HC0.out
               have HR201 := Aside0.mk (Kd.C_of_reads (h1 := fun _ => rfl) (hA35 _ (Kd.reads_of_C HR0.out)))
               have HC201 := Aside0.mk hC35
               clear hA35 hC35 hi035 hsz35
               have hcv36 := Kd.C_string (P := Tryz.prog) (A := A35) (c := (c0 - x4_1.toNat)) Tryz.underlying25 Tryz.underlying5 Tryz.underlying9 (Kd.C_below HR201.out HB.out)
               have hcv37 := fun (i_ : Nat) => Kd.C_string (P := Tryz.prog) (A := A35) (c := (c0 - x4_1.toNat)) Tryz.underlying25 Tryz.underlying5 Tryz.underlying9 (Kd.C_drewN (Kd.C_below HR201.out HB.out) i_)
               have hcv38 := fun (i_ j_ : Nat) => Kd.C_string (P := Tryz.prog) (A := A35) (c := (c0 - x4_1.toNat)) Tryz.underlying25 Tryz.underlying5 Tryz.underlying9 (Kd.C_drewN (Kd.C_drewN (Kd.C_below HR201.out HB.out) i_) j_)
               have hcv39 := Kd.C_string (P := Tryz.prog) (A := A35) (c := (c0 - x4_1.toNat)) Tryz.underlying25 Tryz.underlying5 Tryz.underlying9 (Kd.C_below HR201.out HB.out)
               (try simp only [List.length_take, List.length_drop, Int.toNat_natCast, Nat.min_eq_left (show (x4_5 : Int).toNat ≤ l0.length by have h_ := of_decide_eq_true (show decide (x4_5 ≤ (l0.length : Int)) = true by assumption); omega)] at hcv39)
               have hcv40 := fun (i_ : Nat) => Kd.C_string (P := Tryz.prog) (A := A35) (c := (c0 - x4_1.toNat)) Tryz.underlying25 Tryz.underlying5 Tryz.underlying9 (Kd.C_drewN (Kd.C_below HR201.out HB.out) i_)
               (try simp only [List.length_take, List.length_drop, Int.toNat_natCast, Nat.min_eq_left (show (x4_5 : Int).toNat ≤ l0.length by have h_ := of_decide_eq_true (show decide (x4_5 ≤ (l0.length : Int)) = true by assumption); omega)] at hcv40)
               have hcv41 := fun (i_ j_ : Nat) => Kd.C_string (P := Tryz.prog) (A := A35) (c := (c0 - x4_1.toNat)) Tryz.underlying25 Tryz.underlying5 Tryz.underlying9 (Kd.C_drewN (Kd.C_drewN (Kd.C_below HR201.out HB.out) i_) j_)
               (try simp only [List.length_take, List.length_drop, Int.toNat_natCast, Nat.min_eq_left (show (x4_5 : Int).toNat ≤ l0.length by have h_ := of_decide_eq_true (show decide (x4_5 ≤ (l0.length : Int)) = true by assumption); omega)] at hcv41)
               go_wp2_with (first | ((with_reducible refine gate_callee (f := 111) rfl ?_); refine goesL_ (some 42) rfl rfl Tryz.func111 (by kernel_rfl) rfl #[.string (strOfNums ((l0.take (x4_5 : Int).toNat).drop (x4_1 : Int).toNat))] rfl mp_ ?_; (with_reducible refine (dragnetref08_One.calls kj5 (strOfNums ((l0.take (x4_5 : Int).toNat).drop (x4_1 : Int).toNat)) t202 t203 t204 t205 true _ A14.out).mono ?_); rintro e w42 ⟨rfl, hb⟩; refine ⟨_, rfl, ?_⟩; have n0_ := rbA HO_3 hb; have n1_ := bsA HB hb; clear HO_3; clear HB; have HO_3 := n0_; have HB := n1_; clear n0_ n1_; (try clear hb); (try clear hb2); (try clear hk); (try clear hi)) | ((with_reducible refine gate_dst (N := 6) rfl ?_); (try (refine gate_guard (by rfl) ?_; dsimp only)); refine box_event ?hg (N := 6) ?hd (cs := #[.string (⟨#[]⟩ : ByteArray), .int .i64 0, .int .i64 0, .string (⟨#[]⟩ : ByteArray)]) (t := 110) ?hr ?_; (case hd => rfl); (case hg => rfl); (case hr => first | (go_simp; done) | (go_simp; rfl) | (go_simp; simp only [wAl, wAr, wSl, wSr, wW])); intro gb207 hg w43 hbox hb; have n0_ := Aside0.mk (Kd.R_below (Kd.R_elderB (by (with_reducible repeat (first | apply Kd.R_alloc | apply Kd.R_drewN | apply Kd.R_drew)); exact HO_3.out) gb207 (Nat.le_of_eq hg.symm)) hb); have n1_ := bsA HB hb; have n2_ := Aside0.mk (hbox); have n3_ := szA HB hg; have n4_ := szA HB hg; clear HO_3; clear HB; have HO_3 := n0_; have HB := n1_; have BK207 := n2_; have GW207 := n3_; have GE207 := n4_; clear n0_ n1_ n2_ n3_ n4_; clear hb hbox hg; have hcz44_0 : w43.cell? ⟨gb207, 0, none⟩ = some (.string (⟨#[]⟩ : ByteArray)) := (blk_cell BK207.out 0).trans rfl; have hcz44_1 : w43.cell? ⟨gb207, 1, none⟩ = some (.int .i64 0) := (blk_cell BK207.out 1).trans rfl; have hcz44_2 : w43.cell? ⟨gb207, 2, none⟩ = some (.int .i64 0) := (blk_cell BK207.out 2).trans rfl; have hcz44_3 : w43.cell? ⟨gb207, 3, none⟩ = some (.string (⟨#[]⟩ : ByteArray)) := (blk_cell BK207.out 3).trans rfl; have hfz44_0 := blk_frozen BK207.out 0; have hfz44_1 := blk_frozen BK207.out 1; have hfz44_2 := blk_frozen BK207.out 2; have hfz44_3 := blk_frozen BK207.out 3; obtain ⟨Ao45, co45, eo45⟩ := Kd.R_slice HO_3.out; subst eo45) | ((with_reducible refine gate_callee (f := 92) rfl ?_); refine goesL_ (some 49) rfl rfl Tryz.func92 (by kernel_rfl) rfl #[.slice Ao45 x3_1.length co45, .string t202] rfl mp_ ?_; (with_reducible refine (dragnetref08_At.calls kj5 _ _ x3_1 t202 t208 t209 t210 t211 false _ ?side1 ?side2 A15.out).mono ?_); (case side1 => refine (Kd.R_reads' (e := 110) (base := w.heap.size) (ok := fun k_ => (True ∧ k_ ≠ gb207)) (n := x3_1.length) (c := co45) ?_).2.2; exact (by (with_reducible repeat (first | apply Kd.R_alloc | apply Kd.R_drewN | apply Kd.R_drew)); exact (Kd.R_mono (Kd.R_far (p := ⟨gb207, 3, none⟩) (Kd.R_far (p := ⟨gb207, 2, none⟩) (Kd.R_far (p := ⟨gb207, 1, none⟩) (Kd.R_far (p := ⟨gb207, 0, none⟩) (Kd.R_mono HO_3.out (fun k_ hk => (⟨hk, hk.2⟩ : _ ∧ k_ ≠ gb207))) (fun _ hk => hk.2) (.string t202)) (fun _ hk => hk.2) (.int .i64 t203)) (fun _ hk => hk.2) (.int .i64 t204)) (fun _ hk => hk.2) (.string t205)) (fun _ h_ => h_.1)))); (case side2 => exact (Kd.R_reads' HO_3.out).2.1); rintro e w46 ⟨rfl, hb⟩; refine ⟨_, rfl, ?_⟩; have n0_ := Aside0.mk (Kd.R_below (by (with_reducible repeat (first | apply Kd.R_alloc | apply Kd.R_drewN | apply Kd.R_drew)); exact (Kd.R_mono (Kd.R_far (p := ⟨gb207, 3, none⟩) (Kd.R_far (p := ⟨gb207, 2, none⟩) (Kd.R_far (p := ⟨gb207, 1, none⟩) (Kd.R_far (p := ⟨gb207, 0, none⟩) (Kd.R_mono HO_3.out (fun k_ hk => (⟨hk, hk.2⟩ : _ ∧ k_ ≠ gb207))) (fun _ hk => hk.2) (.string t202)) (fun _ hk => hk.2) (.int .i64 t203)) (fun _ hk => hk.2) (.int .i64 t204)) (fun _ hk => hk.2) (.string t205)) (fun _ h_ => h_.1))) hb); have n1_ := Aside0.mk (blk_below (g := gb207) (o := .cells #[.string t202, .int .i64 t203, .int .i64 t204, .string t205] 110 (0, 0)) (by (with_reducible repeat (first | refine blk_drewN ?_ _ | refine blk_drew ?_ | refine blk_alloc ?_ _)); refine blk_put (cs := #[.string t202, .int .i64 t203, .int .i64 t204, .string (⟨#[]⟩ : ByteArray)]) ?_ 3 _ rfl; (with_reducible repeat (first | refine blk_drewN ?_ _ | refine blk_drew ?_ | refine blk_alloc ?_ _)); refine blk_put (cs := #[.string t202, .int .i64 t203, .int .i64 0, .string (⟨#[]⟩ : ByteArray)]) ?_ 2 _ rfl; (with_reducible repeat (first | refine blk_drewN ?_ _ | refine blk_drew ?_ | refine blk_alloc ?_ _)); refine blk_put (cs := #[.string t202, .int .i64 0, .int .i64 0, .string (⟨#[]⟩ : ByteArray)]) ?_ 1 _ rfl; (with_reducible repeat (first | refine blk_drewN ?_ _ | refine blk_drew ?_ | refine blk_alloc ?_ _)); refine blk_put (cs := #[.string (⟨#[]⟩ : ByteArray), .int .i64 0, .int .i64 0, .string (⟨#[]⟩ : ByteArray)]) ?_ 0 _ rfl; (with_reducible repeat (first | refine blk_drewN ?_ _ | refine blk_drew ?_ | refine blk_alloc ?_ _)); exact BK207.out) hb); have n2_ := bsA HB hb; clear HO_3; clear BK207; clear HB; have HO_3 := n0_; have BK207 := n1_; have HB := n2_; clear n0_ n1_ n2_; (try clear hb); (try clear hb2); (try clear hk); (try clear hi)) | ((with_reducible refine gate_dst (N := 8) rfl ?_); (try (refine gate_guard (by rfl) ?_; dsimp only)); refine box_event ?hg (N := 8) ?hd (cs := #[.string (⟨#[]⟩ : ByteArray), .int .i64 0, .int .i64 0, .string (⟨#[]⟩ : ByteArray)]) (t := 110) ?hr ?_; (case hd => rfl); (case hg => rfl); (case hr => first | (go_simp; done) | (go_simp; rfl) | (go_simp; simp only [wAl, wAr, wSl, wSr, wW])); intro gb213 hg w47 hbox hb; have n0_ := Aside0.mk (Kd.R_below (Kd.R_elderB (by (with_reducible repeat (first | apply Kd.R_alloc | apply Kd.R_drewN | apply Kd.R_drew)); exact HO_3.out) gb213 (Nat.le_of_eq hg.symm)) hb); have n1_ := bkA BK207 hb; have n2_ := bsA HB hb; have n3_ := Aside0.mk (hbox); have n4_ := szA HB hg; have n5_ := szA HB hg; have n6_ := neA BK207 hg; have n7_ := neB BK207 hg; clear HO_3; clear BK207; clear HB; have HO_3 := n0_; have BK207 := n1_; have HB := n2_; have BK213 := n3_; have GW213 := n4_; have GE213 := n5_; have NB207_213 := n6_; have NB213_207 := n7_; clear n0_ n1_ n2_ n3_ n4_ n5_ n6_ n7_; clear hb hbox hg; have hnb48 := NB213_207.out; have hnc48 := NB207_213.out; have hcz49_0 : w47.cell? ⟨gb213, 0, none⟩ = some (.string (⟨#[]⟩ : ByteArray)) := (blk_cell BK213.out 0).trans rfl; have hcz49_1 : w47.cell? ⟨gb213, 1, none⟩ = some (.int .i64 0) := (blk_cell BK213.out 1).trans rfl; have hcz49_2 : w47.cell? ⟨gb213, 2, none⟩ = some (.int .i64 0) := (blk_cell BK213.out 2).trans rfl; have hcz49_3 : w47.cell? ⟨gb213, 3, none⟩ = some (.string (⟨#[]⟩ : ByteArray)) := (blk_cell BK213.out 3).trans rfl; have hfz49_0 := blk_frozen BK213.out 0; have hfz49_1 := blk_frozen BK213.out 1; have hfz49_2 := blk_frozen BK213.out 2; have hfz49_3 := blk_frozen BK213.out 3; have hcz50_0 : w47.cell? ⟨gb207, 0, none⟩ = some (.string t202) := (blk_cell BK207.out 0).trans rfl; have hcz50_1 : w47.cell? ⟨gb207, 1, none⟩ = some (.int .i64 t203) := (blk_cell BK207.out 1).trans rfl; have hcz50_2 : w47.cell? ⟨gb207, 2, none⟩ = some (.int .i64 t204) := (blk_cell BK207.out 2).trans rfl; have hcz50_3 : w47.cell? ⟨gb207, 3, none⟩ = some (.string t205) := (blk_cell BK207.out 3).trans rfl; have hfz50_0 := blk_frozen BK207.out 0; have hfz50_1 := blk_frozen BK207.out 1; have hfz50_2 := blk_frozen BK207.out 2; have hfz50_3 := blk_frozen BK207.out 3) | ((with_reducible refine gate_builtin (b := .append) (xs := #[.tmp 62, .tmp 64]) rfl ?_); (try (refine gate_guard (by rfl) ?_; dsimp only)); at_builtin; refine Kd.R_append k110 (w0 := w) w.heap.size rfl (.tmp 62) (.tmp 64) 130 110 (.agg #[(.string ⟨#[]⟩), (.int .i64 0), (.int .i64 0), (.string ⟨#[]⟩)]) 48 rfl Tryz.underlying130 info110 rfl (by decide) (by omega) (.slice Ao45 x3_1.length co45) x3_1 (⟨t202, t203, t204, t205⟩ : S110) [.string t202, .int .i64 t203, .int .i64 t204, .string t205] (fun k_ => k_ ≠ gb207 ∧ k_ ≠ gb213) (fun _ => False) rfl (by first | (go_simp; done) | (go_simp; rfl)) ?aP (fun _ hk => hk.elim) ?aF ?aO ?aB ?aS ?aL ?_; (case aP => exact k110_mkM _ _ _ (⟨t202, t203, t204, t205⟩ : S110)); (case aB => exact (by repeat (first | (with_reducible first | exact HB.out | apply below_alloc | apply pw_below_drewN | apply below_drew1 | refine below_set ?_ GE207.out | refine below_set ?_ GE213.out) | exact HB.out))); (case aF => exact (fun k_ hk => ⟨Kd.freshB (g := gb207) (o := .cells #[.string t202, .int .i64 t203, .int .i64 t204, .string t205] 110 (0, 0)) (by (with_reducible repeat (first | refine blk_drewN ?_ _ | refine blk_drew ?_ | refine blk_alloc ?_ _)); refine blk_far ?_ NB207_213.out _; (with_reducible repeat (first | refine blk_drewN ?_ _ | refine blk_drew ?_ | refine blk_alloc ?_ _)); refine blk_far ?_ NB207_213.out _; (with_reducible repeat (first | refine blk_drewN ?_ _ | refine blk_drew ?_ | refine blk_alloc ?_ _)); refine blk_far ?_ NB207_213.out _; (with_reducible repeat (first | refine blk_drewN ?_ _ | refine blk_drew ?_ | refine blk_alloc ?_ _)); refine blk_far ?_ NB207_213.out _; (with_reducible repeat (first | refine blk_drewN ?_ _ | refine blk_drew ?_ | refine blk_alloc ?_ _)); exact BK207.out) k_ hk, Kd.freshB (g := gb213) (o := .cells #[.string t208, .int .i64 t209, .int .i64 t210, .string t211] 110 (0, 0)) (by (with_reducible repeat (first | refine blk_drewN ?_ _ | refine blk_drew ?_ | refine blk_alloc ?_ _)); refine blk_put (cs := #[.string t208, .int .i64 t209, .int .i64 t210, .string (⟨#[]⟩ : ByteArray)]) ?_ 3 _ rfl; (with_reducible repeat (first | refine blk_drewN ?_ _ | refine blk_drew ?_ | refine blk_alloc ?_ _)); refine blk_put (cs := #[.string t208, .int .i64 t209, .int .i64 0, .string (⟨#[]⟩ : ByteArray)]) ?_ 2 _ rfl; (with_reducible repeat (first | refine blk_drewN ?_ _ | refine blk_drew ?_ | refine blk_alloc ?_ _)); refine blk_put (cs := #[.string t208, .int .i64 0, .int .i64 0, .string (⟨#[]⟩ : ByteArray)]) ?_ 1 _ rfl; (with_reducible repeat (first | refine blk_drewN ?_ _ | refine blk_drew ?_ | refine blk_alloc ?_ _)); refine blk_put (cs := #[.string (⟨#[]⟩ : ByteArray), .int .i64 0, .int .i64 0, .string (⟨#[]⟩ : ByteArray)]) ?_ 0 _ rfl; (with_reducible repeat (first | refine blk_drewN ?_ _ | refine blk_drew ?_ | refine blk_alloc ?_ _)); exact BK213.out) k_ hk⟩)); (case aO => exact (by (with_reducible repeat (first | apply Kd.R_alloc | apply Kd.R_drewN | apply Kd.R_drew)); exact Kd.R_mono (Kd.R_far (p := ⟨gb213, 3, none⟩) (Kd.R_far (p := ⟨gb213, 2, none⟩) (Kd.R_far (p := ⟨gb213, 1, none⟩) (Kd.R_far (p := ⟨gb213, 0, none⟩) (Kd.R_mono HO_3.out (fun k_ hk => (⟨hk, hk.2⟩ : _ ∧ k_ ≠ gb213))) (fun _ hk => hk.2) (.string t208)) (fun _ hk => hk.2) (.int .i64 t209)) (fun _ hk => hk.2) (.int .i64 t210)) (fun _ hk => hk.2) (.string t211)) (fun _ hk => ⟨hk.1.1.2, hk.1.2⟩))); (case aS => exact (below_size (by repeat (first | (with_reducible first | exact HB.out | apply below_alloc | apply pw_below_drewN | apply below_drew1 | refine below_set ?_ GE207.out | refine below_set ?_ GE213.out) | exact HB.out)))); (case aL => have := LMc34.out; omega); intro v215 w51 ho hb hg hat; rw [← Ny214.out] at ho; have n0_ := Aside0.mk (blk_grown (g := gb207) (o := .cells #[.string t202, .int .i64 t203, .int .i64 t204, .string t205] 110 (0, 0)) (by (with_reducible repeat (first | refine blk_drewN ?_ _ | refine blk_drew ?_ | refine blk_alloc ?_ _)); refine blk_far ?_ NB207_213.out _; (with_reducible repeat (first | refine blk_drewN ?_ _ | refine blk_drew ?_ | refine blk_alloc ?_ _)); refine blk_far ?_ NB207_213.out _; (with_reducible repeat (first | refine blk_drewN ?_ _ | refine blk_drew ?_ | refine blk_alloc ?_ _)); refine blk_far ?_ NB207_213.out _; (with_reducible repeat (first | refine blk_drewN ?_ _ | refine blk_drew ?_ | refine blk_alloc ?_ _)); refine blk_far ?_ NB207_213.out _; (with_reducible repeat (first | refine blk_drewN ?_ _ | refine blk_drew ?_ | refine blk_alloc ?_ _)); exact BK207.out) hg (Kd.R_away HO_3.out (fun _ hk => hk.1.2))); have n1_ := Aside0.mk (blk_grown (g := gb213) (o := .cells #[.string t208, .int .i64 t209, .int .i64 t210, .string t211] 110 (0, 0)) (by (with_reducible repeat (first | refine blk_drewN ?_ _ | refine blk_drew ?_ | refine blk_alloc ?_ _)); refine blk_put (cs := #[.string t208, .int .i64 t209, .int .i64 t210, .string (⟨#[]⟩ : ByteArray)]) ?_ 3 _ rfl; (with_reducible repeat (first | refine blk_drewN ?_ _ | refine blk_drew ?_ | refine blk_alloc ?_ _)); refine blk_put (cs := #[.string t208, .int .i64 t209, .int .i64 0, .string (⟨#[]⟩ : ByteArray)]) ?_ 2 _ rfl; (with_reducible repeat (first | refine blk_drewN ?_ _ | refine blk_drew ?_ | refine blk_alloc ?_ _)); refine blk_put (cs := #[.string t208, .int .i64 0, .int .i64 0, .string (⟨#[]⟩ : ByteArray)]) ?_ 1 _ rfl; (with_reducible repeat (first | refine blk_drewN ?_ _ | refine blk_drew ?_ | refine blk_alloc ?_ _)); refine blk_put (cs := #[.string (⟨#[]⟩ : ByteArray), .int .i64 0, .int .i64 0, .string (⟨#[]⟩ : ByteArray)]) ?_ 0 _ rfl; (with_reducible repeat (first | refine blk_drewN ?_ _ | refine blk_drew ?_ | refine blk_alloc ?_ _)); exact BK213.out) hg (Kd.R_away HO_3.out (fun _ hk => hk.2))); have n2_ := Aside0.mk (hb); have n3_ := Aside0.mk (ho); clear BK207; clear BK213; clear HB; clear HO_3; have BK207 := n0_; have BK213 := n1_; have HB := n2_; have HO216 := n3_; clear n0_ n1_ n2_ n3_; clear ho hb hg hat))
               go_roundg kj5
               case measure => have := HK1.out; have := HJ5.out; omega
               case rel => exact ⟨(y214), (wrap64 (x4_5 + 1)), rs_, H', ⟨by have := HK1.out; have := HJ5.out; omega⟩, ⟨by (with_reducible repeat (first | apply Kd.R_alloc | apply Kd.R_drewN | apply Kd.R_drew)); exact Kd.R_mono HO216.out (fun _ hk => trivial)⟩, ⟨by repeat (first | (with_reducible first | exact HB.out | apply below_alloc | apply pw_below_drewN | apply below_drew1 | refine below_set ?_ GE207.out | refine below_set ?_ GE213.out) | exact HB.out)⟩⟩
              ·rw [if_neg c34] at H
               exact absurd H (by simp)
             ·rw [if_neg c33] at H
              have c33b0 : decide ((x3_1.length : Int) < 16) = false := decide_eq_false c33
              have c33b1 : decide (x3_1.length < 16) = false := decide_eq_false (by omega)
              clear c33
              have H' := Aside0.mk H
              clear H
              obtain ⟨i052, hi052, _, hsz52, _⟩ := info_parts info5
              obtain ⟨A52, hcut52, hA52, hC52⟩ := print_mid_of (P := Tryz.prog) (Value.int .u8) 0 25 5 .i64 .i64 Tryz.underlying25 hi052 hsz52 (some ad197) c0 l0 x4_1 x4_5 (of_decide_eq_true as_) (by first | omega | exact of_decide_eq_true as_) (of_decide_eq_true as_) HC0.out
              have HR201 := Aside0.mk (Kd.C_of_reads (h1 := fun _ => rfl) (hA52 _ (Kd.reads_of_C HR0.out)))
              have HC201 := Aside0.mk hC52
              clear hA52 hC52 hi052 hsz52
              have hcv53 := Kd.C_string (P := Tryz.prog) (A := A52) (c := (c0 - x4_1.toNat)) Tryz.underlying25 Tryz.underlying5 Tryz.underlying9 (Kd.C_below HR201.out HB.out)
              have hcv54 := fun (i_ : Nat) => Kd.C_string (P := Tryz.prog) (A := A52) (c := (c0 - x4_1.toNat)) Tryz.underlying25 Tryz.underlying5 Tryz.underlying9 (Kd.C_drewN (Kd.C_below HR201.out HB.out) i_)
              have hcv55 := fun (i_ j_ : Nat) => Kd.C_string (P := Tryz.prog) (A := A52) (c := (c0 - x4_1.toNat)) Tryz.underlying25 Tryz.underlying5 Tryz.underlying9 (Kd.C_drewN (Kd.C_drewN (Kd.C_below HR201.out HB.out) i_) j_)
              have hcv56 := Kd.C_string (P := Tryz.prog) (A := A52) (c := (c0 - x4_1.toNat)) Tryz.underlying25 Tryz.underlying5 Tryz.underlying9 (Kd.C_below HR201.out HB.out)
              (try simp only [List.length_take, List.length_drop, Int.toNat_natCast, Nat.min_eq_left (show (x4_5 : Int).toNat ≤ l0.length by have h_ := of_decide_eq_true (show decide (x4_5 ≤ (l0.length : Int)) = true by assumption); omega)] at hcv56)
              have hcv57 := fun (i_ : Nat) => Kd.C_string (P := Tryz.prog) (A := A52) (c := (c0 - x4_1.toNat)) Tryz.underlying25 Tryz.underlying5 Tryz.underlying9 (Kd.C_drewN (Kd.C_below HR201.out HB.out) i_)
              (try simp only [List.length_take, List.length_drop, Int.toNat_natCast, Nat.min_eq_left (show (x4_5 : Int).toNat ≤ l0.length by have h_ := of_decide_eq_true (show decide (x4_5 ≤ (l0.length : Int)) = true by assumption); omega)] at hcv57)
              have hcv58 := fun (i_ j_ : Nat) => Kd.C_string (P := Tryz.prog) (A := A52) (c := (c0 - x4_1.toNat)) Tryz.underlying25 Tryz.underlying5 Tryz.underlying9 (Kd.C_drewN (Kd.C_drewN (Kd.C_below HR201.out HB.out) i_) j_)
              (try simp only [List.length_take, List.length_drop, Int.toNat_natCast, Nat.min_eq_left (show (x4_5 : Int).toNat ≤ l0.length by have h_ := of_decide_eq_true (show decide (x4_5 ≤ (l0.length : Int)) = true by assumption); omega)] at hcv58)
              go_wp2_with (first | ((with_reducible refine gate_callee (f := 111) rfl ?_); refine goesL_ (some 42) rfl rfl Tryz.func111 (by kernel_rfl) rfl #[.string (strOfNums ((l0.take (x4_5 : Int).toNat).drop (x4_1 : Int).toNat))] rfl mp_ ?_; (with_reducible refine (dragnetref08_One.calls kj5 (strOfNums ((l0.take (x4_5 : Int).toNat).drop (x4_1 : Int).toNat)) t202 t203 t204 t205 true _ A14.out).mono ?_); rintro e w59 ⟨rfl, hb⟩; refine ⟨_, rfl, ?_⟩; have n0_ := rbA HO_3 hb; have n1_ := bsA HB hb; clear HO_3; clear HB; have HO_3 := n0_; have HB := n1_; clear n0_ n1_; (try clear hb); (try clear hb2); (try clear hk); (try clear hi)) | ((with_reducible refine gate_dst (N := 6) rfl ?_); (try (refine gate_guard (by rfl) ?_; dsimp only)); refine box_event ?hg (N := 6) ?hd (cs := #[.string (⟨#[]⟩ : ByteArray), .int .i64 0, .int .i64 0, .string (⟨#[]⟩ : ByteArray)]) (t := 110) ?hr ?_; (case hd => rfl); (case hg => rfl); (case hr => first | (go_simp; done) | (go_simp; rfl) | (go_simp; simp only [wAl, wAr, wSl, wSr, wW])); intro gb207 hg w60 hbox hb; have n0_ := Aside0.mk (Kd.R_below (Kd.R_elderB (by (with_reducible repeat (first | apply Kd.R_alloc | apply Kd.R_drewN | apply Kd.R_drew)); exact HO_3.out) gb207 (Nat.le_of_eq hg.symm)) hb); have n1_ := bsA HB hb; have n2_ := Aside0.mk (hbox); have n3_ := szA HB hg; have n4_ := szA HB hg; clear HO_3; clear HB; have HO_3 := n0_; have HB := n1_; have BK207 := n2_; have GW207 := n3_; have GE207 := n4_; clear n0_ n1_ n2_ n3_ n4_; clear hb hbox hg; have hcz61_0 : w60.cell? ⟨gb207, 0, none⟩ = some (.string (⟨#[]⟩ : ByteArray)) := (blk_cell BK207.out 0).trans rfl; have hcz61_1 : w60.cell? ⟨gb207, 1, none⟩ = some (.int .i64 0) := (blk_cell BK207.out 1).trans rfl; have hcz61_2 : w60.cell? ⟨gb207, 2, none⟩ = some (.int .i64 0) := (blk_cell BK207.out 2).trans rfl; have hcz61_3 : w60.cell? ⟨gb207, 3, none⟩ = some (.string (⟨#[]⟩ : ByteArray)) := (blk_cell BK207.out 3).trans rfl; have hfz61_0 := blk_frozen BK207.out 0; have hfz61_1 := blk_frozen BK207.out 1; have hfz61_2 := blk_frozen BK207.out 2; have hfz61_3 := blk_frozen BK207.out 3; obtain ⟨Ao62, co62, eo62⟩ := Kd.R_slice HO_3.out; subst eo62) | ((with_reducible refine gate_callee (f := 92) rfl ?_); refine goesL_ (some 49) rfl rfl Tryz.func92 (by kernel_rfl) rfl #[.slice Ao62 x3_1.length co62, .string t202] rfl mp_ ?_; (with_reducible refine (dragnetref08_At.calls kj5 _ _ x3_1 t202 t208 t209 t210 t211 false _ ?side1 ?side2 A15.out).mono ?_); (case side1 => refine (Kd.R_reads' (e := 110) (base := w.heap.size) (ok := fun k_ => (True ∧ k_ ≠ gb207)) (n := x3_1.length) (c := co62) ?_).2.2; exact (by (with_reducible repeat (first | apply Kd.R_alloc | apply Kd.R_drewN | apply Kd.R_drew)); exact (Kd.R_mono (Kd.R_far (p := ⟨gb207, 3, none⟩) (Kd.R_far (p := ⟨gb207, 2, none⟩) (Kd.R_far (p := ⟨gb207, 1, none⟩) (Kd.R_far (p := ⟨gb207, 0, none⟩) (Kd.R_mono HO_3.out (fun k_ hk => (⟨hk, hk.2⟩ : _ ∧ k_ ≠ gb207))) (fun _ hk => hk.2) (.string t202)) (fun _ hk => hk.2) (.int .i64 t203)) (fun _ hk => hk.2) (.int .i64 t204)) (fun _ hk => hk.2) (.string t205)) (fun _ h_ => h_.1)))); (case side2 => exact (Kd.R_reads' HO_3.out).2.1); rintro e w63 ⟨rfl, hb⟩; refine ⟨_, rfl, ?_⟩; have n0_ := Aside0.mk (Kd.R_below (by (with_reducible repeat (first | apply Kd.R_alloc | apply Kd.R_drewN | apply Kd.R_drew)); exact (Kd.R_mono (Kd.R_far (p := ⟨gb207, 3, none⟩) (Kd.R_far (p := ⟨gb207, 2, none⟩) (Kd.R_far (p := ⟨gb207, 1, none⟩) (Kd.R_far (p := ⟨gb207, 0, none⟩) (Kd.R_mono HO_3.out (fun k_ hk => (⟨hk, hk.2⟩ : _ ∧ k_ ≠ gb207))) (fun _ hk => hk.2) (.string t202)) (fun _ hk => hk.2) (.int .i64 t203)) (fun _ hk => hk.2) (.int .i64 t204)) (fun _ hk => hk.2) (.string t205)) (fun _ h_ => h_.1))) hb); have n1_ := Aside0.mk (blk_below (g := gb207) (o := .cells #[.string t202, .int .i64 t203, .int .i64 t204, .string t205] 110 (0, 0)) (by (with_reducible repeat (first | refine blk_drewN ?_ _ | refine blk_drew ?_ | refine blk_alloc ?_ _)); refine blk_put (cs := #[.string t202, .int .i64 t203, .int .i64 t204, .string (⟨#[]⟩ : ByteArray)]) ?_ 3 _ rfl; (with_reducible repeat (first | refine blk_drewN ?_ _ | refine blk_drew ?_ | refine blk_alloc ?_ _)); refine blk_put (cs := #[.string t202, .int .i64 t203, .int .i64 0, .string (⟨#[]⟩ : ByteArray)]) ?_ 2 _ rfl; (with_reducible repeat (first | refine blk_drewN ?_ _ | refine blk_drew ?_ | refine blk_alloc ?_ _)); refine blk_put (cs := #[.string t202, .int .i64 0, .int .i64 0, .string (⟨#[]⟩ : ByteArray)]) ?_ 1 _ rfl; (with_reducible repeat (first | refine blk_drewN ?_ _ | refine blk_drew ?_ | refine blk_alloc ?_ _)); refine blk_put (cs := #[.string (⟨#[]⟩ : ByteArray), .int .i64 0, .int .i64 0, .string (⟨#[]⟩ : ByteArray)]) ?_ 0 _ rfl; (with_reducible repeat (first | refine blk_drewN ?_ _ | refine blk_drew ?_ | refine blk_alloc ?_ _)); exact BK207.out) hb); have n2_ := bsA HB hb; clear HO_3; clear BK207; clear HB; have HO_3 := n0_; have BK207 := n1_; have HB := n2_; clear n0_ n1_ n2_; (try clear hb); (try clear hb2); (try clear hk); (try clear hi)) | ((with_reducible refine gate_dst (N := 8) rfl ?_); (try (refine gate_guard (by rfl) ?_; dsimp only)); refine box_event ?hg (N := 8) ?hd (cs := #[.string (⟨#[]⟩ : ByteArray), .int .i64 0, .int .i64 0, .string (⟨#[]⟩ : ByteArray)]) (t := 110) ?hr ?_; (case hd => rfl); (case hg => rfl); (case hr => first | (go_simp; done) | (go_simp; rfl) | (go_simp; simp only [wAl, wAr, wSl, wSr, wW])); intro gb213 hg w64 hbox hb; have n0_ := Aside0.mk (Kd.R_below (Kd.R_elderB (by (with_reducible repeat (first | apply Kd.R_alloc | apply Kd.R_drewN | apply Kd.R_drew)); exact HO_3.out) gb213 (Nat.le_of_eq hg.symm)) hb); have n1_ := bkA BK207 hb; have n2_ := bsA HB hb; have n3_ := Aside0.mk (hbox); have n4_ := szA HB hg; have n5_ := szA HB hg; have n6_ := neA BK207 hg; have n7_ := neB BK207 hg; clear HO_3; clear BK207; clear HB; have HO_3 := n0_; have BK207 := n1_; have HB := n2_; have BK213 := n3_; have GW213 := n4_; have GE213 := n5_; have NB207_213 := n6_; have NB213_207 := n7_; clear n0_ n1_ n2_ n3_ n4_ n5_ n6_ n7_; clear hb hbox hg; have hnb65 := NB213_207.out; have hnc65 := NB207_213.out; have hcz66_0 : w64.cell? ⟨gb213, 0, none⟩ = some (.string (⟨#[]⟩ : ByteArray)) := (blk_cell BK213.out 0).trans rfl; have hcz66_1 : w64.cell? ⟨gb213, 1, none⟩ = some (.int .i64 0) := (blk_cell BK213.out 1).trans rfl; have hcz66_2 : w64.cell? ⟨gb213, 2, none⟩ = some (.int .i64 0) := (blk_cell BK213.out 2).trans rfl; have hcz66_3 : w64.cell? ⟨gb213, 3, none⟩ = some (.string (⟨#[]⟩ : ByteArray)) := (blk_cell BK213.out 3).trans rfl; have hfz66_0 := blk_frozen BK213.out 0; have hfz66_1 := blk_frozen BK213.out 1; have hfz66_2 := blk_frozen BK213.out 2; have hfz66_3 := blk_frozen BK213.out 3))
              go_roundg kj5
              case measure => have := HK1.out; have := HJ5.out; omega
              case rel => exact ⟨(x3_1), (wrap64 (x4_5 + 1)), rs_, H', ⟨by have := HK1.out; have := HJ5.out; omega⟩, ⟨by (with_reducible repeat (first | apply Kd.R_alloc | apply Kd.R_drewN | apply Kd.R_drew)); exact Kd.R_mono (Kd.R_far (p := ⟨gb213, 3, none⟩) (Kd.R_far (p := ⟨gb213, 2, none⟩) (Kd.R_far (p := ⟨gb213, 1, none⟩) (Kd.R_far (p := ⟨gb213, 0, none⟩) (Kd.R_mono HO_3.out (fun k_ hk => (⟨hk, hk.2⟩ : _ ∧ k_ ≠ gb213))) (fun _ hk => hk.2) (.string t208)) (fun _ hk => hk.2) (.int .i64 t209)) (fun _ hk => hk.2) (.int .i64 t210)) (fun _ hk => hk.2) (.string t211)) (fun _ hk => trivial)⟩, ⟨by repeat (first | (with_reducible first | exact HB.out | apply below_alloc | apply pw_below_drewN | apply below_drew1 | refine below_set ?_ GE207.out | refine below_set ?_ GE213.out) | exact HB.out)⟩⟩
           ·replace c16 := Bool.eq_false_iff.mpr c16
            subst c16
            have H1 : (dragnetref08_Read.l0 kj5 l0 x3_1 (wrap64 (x4_5 + 1))) = some r := by rw [if_neg (show ¬ (false = true) by decide)] at H; exact H
            clear H
            have H := H1
            clear H1
            have H' := Aside0.mk H
            clear H
            obtain ⟨i067, hi067, _, hsz67, _⟩ := info_parts info5
            obtain ⟨A67, hcut67, hA67, hC67⟩ := print_mid_of (P := Tryz.prog) (Value.int .u8) 0 25 5 .i64 .i64 Tryz.underlying25 hi067 hsz67 (some ad197) c0 l0 x4_1 x4_5 (of_decide_eq_true as_) (by first | omega | exact of_decide_eq_true as_) (of_decide_eq_true as_) HC0.out
            have HR201 := Aside0.mk (Kd.C_of_reads (h1 := fun _ => rfl) (hA67 _ (Kd.reads_of_C HR0.out)))
            have HC201 := Aside0.mk hC67
            clear hA67 hC67 hi067 hsz67
            have hcv68 := Kd.C_string (P := Tryz.prog) (A := A67) (c := (c0 - x4_1.toNat)) Tryz.underlying25 Tryz.underlying5 Tryz.underlying9 (Kd.C_below HR201.out HB.out)
            have hcv69 := fun (i_ : Nat) => Kd.C_string (P := Tryz.prog) (A := A67) (c := (c0 - x4_1.toNat)) Tryz.underlying25 Tryz.underlying5 Tryz.underlying9 (Kd.C_drewN (Kd.C_below HR201.out HB.out) i_)
            have hcv70 := fun (i_ j_ : Nat) => Kd.C_string (P := Tryz.prog) (A := A67) (c := (c0 - x4_1.toNat)) Tryz.underlying25 Tryz.underlying5 Tryz.underlying9 (Kd.C_drewN (Kd.C_drewN (Kd.C_below HR201.out HB.out) i_) j_)
            have hcv71 := Kd.C_string (P := Tryz.prog) (A := A67) (c := (c0 - x4_1.toNat)) Tryz.underlying25 Tryz.underlying5 Tryz.underlying9 (Kd.C_below HR201.out HB.out)
            (try simp only [List.length_take, List.length_drop, Int.toNat_natCast, Nat.min_eq_left (show (x4_5 : Int).toNat ≤ l0.length by have h_ := of_decide_eq_true (show decide (x4_5 ≤ (l0.length : Int)) = true by assumption); omega)] at hcv71)
            have hcv72 := fun (i_ : Nat) => Kd.C_string (P := Tryz.prog) (A := A67) (c := (c0 - x4_1.toNat)) Tryz.underlying25 Tryz.underlying5 Tryz.underlying9 (Kd.C_drewN (Kd.C_below HR201.out HB.out) i_)
            (try simp only [List.length_take, List.length_drop, Int.toNat_natCast, Nat.min_eq_left (show (x4_5 : Int).toNat ≤ l0.length by have h_ := of_decide_eq_true (show decide (x4_5 ≤ (l0.length : Int)) = true by assumption); omega)] at hcv72)
            have hcv73 := fun (i_ j_ : Nat) => Kd.C_string (P := Tryz.prog) (A := A67) (c := (c0 - x4_1.toNat)) Tryz.underlying25 Tryz.underlying5 Tryz.underlying9 (Kd.C_drewN (Kd.C_drewN (Kd.C_below HR201.out HB.out) i_) j_)
            (try simp only [List.length_take, List.length_drop, Int.toNat_natCast, Nat.min_eq_left (show (x4_5 : Int).toNat ≤ l0.length by have h_ := of_decide_eq_true (show decide (x4_5 ≤ (l0.length : Int)) = true by assumption); omega)] at hcv73)
            go_wp2_with (first | ((with_reducible refine gate_callee (f := 111) rfl ?_); refine goesL_ (some 42) rfl rfl Tryz.func111 (by kernel_rfl) rfl #[.string (strOfNums ((l0.take (x4_5 : Int).toNat).drop (x4_1 : Int).toNat))] rfl mp_ ?_; (with_reducible refine (dragnetref08_One.calls kj5 (strOfNums ((l0.take (x4_5 : Int).toNat).drop (x4_1 : Int).toNat)) t202 t203 t204 t205 false _ A14.out).mono ?_); rintro e w74 ⟨rfl, hb⟩; refine ⟨_, rfl, ?_⟩; have n0_ := rbA HO_3 hb; have n1_ := bsA HB hb; clear HO_3; clear HB; have HO_3 := n0_; have HB := n1_; clear n0_ n1_; (try clear hb); (try clear hb2); (try clear hk); (try clear hi)) | ((with_reducible refine gate_dst (N := 6) rfl ?_); (try (refine gate_guard (by rfl) ?_; dsimp only)); refine box_event ?hg (N := 6) ?hd (cs := #[.string (⟨#[]⟩ : ByteArray), .int .i64 0, .int .i64 0, .string (⟨#[]⟩ : ByteArray)]) (t := 110) ?hr ?_; (case hd => rfl); (case hg => rfl); (case hr => first | (go_simp; done) | (go_simp; rfl) | (go_simp; simp only [wAl, wAr, wSl, wSr, wW])); intro gb207 hg w75 hbox hb; have n0_ := Aside0.mk (Kd.R_below (Kd.R_elderB (by (with_reducible repeat (first | apply Kd.R_alloc | apply Kd.R_drewN | apply Kd.R_drew)); exact HO_3.out) gb207 (Nat.le_of_eq hg.symm)) hb); have n1_ := bsA HB hb; have n2_ := Aside0.mk (hbox); have n3_ := szA HB hg; have n4_ := szA HB hg; clear HO_3; clear HB; have HO_3 := n0_; have HB := n1_; have BK207 := n2_; have GW207 := n3_; have GE207 := n4_; clear n0_ n1_ n2_ n3_ n4_; clear hb hbox hg; have hcz76_0 : w75.cell? ⟨gb207, 0, none⟩ = some (.string (⟨#[]⟩ : ByteArray)) := (blk_cell BK207.out 0).trans rfl; have hcz76_1 : w75.cell? ⟨gb207, 1, none⟩ = some (.int .i64 0) := (blk_cell BK207.out 1).trans rfl; have hcz76_2 : w75.cell? ⟨gb207, 2, none⟩ = some (.int .i64 0) := (blk_cell BK207.out 2).trans rfl; have hcz76_3 : w75.cell? ⟨gb207, 3, none⟩ = some (.string (⟨#[]⟩ : ByteArray)) := (blk_cell BK207.out 3).trans rfl; have hfz76_0 := blk_frozen BK207.out 0; have hfz76_1 := blk_frozen BK207.out 1; have hfz76_2 := blk_frozen BK207.out 2; have hfz76_3 := blk_frozen BK207.out 3; obtain ⟨Ao77, co77, eo77⟩ := Kd.R_slice HO_3.out; subst eo77) | ((with_reducible refine gate_callee (f := 92) rfl ?_); refine goesL_ (some 49) rfl rfl Tryz.func92 (by kernel_rfl) rfl #[.slice Ao77 x3_1.length co77, .string t202] rfl mp_ ?_; (with_reducible refine (dragnetref08_At.calls kj5 _ _ x3_1 t202 t208 t209 t210 t211 t212 _ ?side1 ?side2 A15.out).mono ?_); (case side1 => refine (Kd.R_reads' (e := 110) (base := w.heap.size) (ok := fun k_ => (True ∧ k_ ≠ gb207)) (n := x3_1.length) (c := co77) ?_).2.2; exact (by (with_reducible repeat (first | apply Kd.R_alloc | apply Kd.R_drewN | apply Kd.R_drew)); exact (Kd.R_mono (Kd.R_far (p := ⟨gb207, 3, none⟩) (Kd.R_far (p := ⟨gb207, 2, none⟩) (Kd.R_far (p := ⟨gb207, 1, none⟩) (Kd.R_far (p := ⟨gb207, 0, none⟩) (Kd.R_mono HO_3.out (fun k_ hk => (⟨hk, hk.2⟩ : _ ∧ k_ ≠ gb207))) (fun _ hk => hk.2) (.string t202)) (fun _ hk => hk.2) (.int .i64 t203)) (fun _ hk => hk.2) (.int .i64 t204)) (fun _ hk => hk.2) (.string t205)) (fun _ h_ => h_.1)))); (case side2 => exact (Kd.R_reads' HO_3.out).2.1); rintro e w78 ⟨rfl, hb⟩; refine ⟨_, rfl, ?_⟩; have n0_ := Aside0.mk (Kd.R_below (by (with_reducible repeat (first | apply Kd.R_alloc | apply Kd.R_drewN | apply Kd.R_drew)); exact (Kd.R_mono (Kd.R_far (p := ⟨gb207, 3, none⟩) (Kd.R_far (p := ⟨gb207, 2, none⟩) (Kd.R_far (p := ⟨gb207, 1, none⟩) (Kd.R_far (p := ⟨gb207, 0, none⟩) (Kd.R_mono HO_3.out (fun k_ hk => (⟨hk, hk.2⟩ : _ ∧ k_ ≠ gb207))) (fun _ hk => hk.2) (.string t202)) (fun _ hk => hk.2) (.int .i64 t203)) (fun _ hk => hk.2) (.int .i64 t204)) (fun _ hk => hk.2) (.string t205)) (fun _ h_ => h_.1))) hb); have n1_ := Aside0.mk (blk_below (g := gb207) (o := .cells #[.string t202, .int .i64 t203, .int .i64 t204, .string t205] 110 (0, 0)) (by (with_reducible repeat (first | refine blk_drewN ?_ _ | refine blk_drew ?_ | refine blk_alloc ?_ _)); refine blk_put (cs := #[.string t202, .int .i64 t203, .int .i64 t204, .string (⟨#[]⟩ : ByteArray)]) ?_ 3 _ rfl; (with_reducible repeat (first | refine blk_drewN ?_ _ | refine blk_drew ?_ | refine blk_alloc ?_ _)); refine blk_put (cs := #[.string t202, .int .i64 t203, .int .i64 0, .string (⟨#[]⟩ : ByteArray)]) ?_ 2 _ rfl; (with_reducible repeat (first | refine blk_drewN ?_ _ | refine blk_drew ?_ | refine blk_alloc ?_ _)); refine blk_put (cs := #[.string t202, .int .i64 0, .int .i64 0, .string (⟨#[]⟩ : ByteArray)]) ?_ 1 _ rfl; (with_reducible repeat (first | refine blk_drewN ?_ _ | refine blk_drew ?_ | refine blk_alloc ?_ _)); refine blk_put (cs := #[.string (⟨#[]⟩ : ByteArray), .int .i64 0, .int .i64 0, .string (⟨#[]⟩ : ByteArray)]) ?_ 0 _ rfl; (with_reducible repeat (first | refine blk_drewN ?_ _ | refine blk_drew ?_ | refine blk_alloc ?_ _)); exact BK207.out) hb); have n2_ := bsA HB hb; clear HO_3; clear BK207; clear HB; have HO_3 := n0_; have BK207 := n1_; have HB := n2_; clear n0_ n1_ n2_; (try clear hb); (try clear hb2); (try clear hk); (try clear hi)) | ((with_reducible refine gate_dst (N := 8) rfl ?_); (try (refine gate_guard (by rfl) ?_; dsimp only)); refine box_event ?hg (N := 8) ?hd (cs := #[.string (⟨#[]⟩ : ByteArray), .int .i64 0, .int .i64 0, .string (⟨#[]⟩ : ByteArray)]) (t := 110) ?hr ?_; (case hd => rfl); (case hg => rfl); (case hr => first | (go_simp; done) | (go_simp; rfl) | (go_simp; simp only [wAl, wAr, wSl, wSr, wW])); intro gb213 hg w79 hbox hb; have n0_ := Aside0.mk (Kd.R_below (Kd.R_elderB (by (with_reducible repeat (first | apply Kd.R_alloc | apply Kd.R_drewN | apply Kd.R_drew)); exact HO_3.out) gb213 (Nat.le_of_eq hg.symm)) hb); have n1_ := bkA BK207 hb; have n2_ := bsA HB hb; have n3_ := Aside0.mk (hbox); have n4_ := szA HB hg; have n5_ := szA HB hg; have n6_ := neA BK207 hg; have n7_ := neB BK207 hg; clear HO_3; clear BK207; clear HB; have HO_3 := n0_; have BK207 := n1_; have HB := n2_; have BK213 := n3_; have GW213 := n4_; have GE213 := n5_; have NB207_213 := n6_; have NB213_207 := n7_; clear n0_ n1_ n2_ n3_ n4_ n5_ n6_ n7_; clear hb hbox hg; have hnb80 := NB213_207.out; have hnc80 := NB207_213.out; have hcz81_0 : w79.cell? ⟨gb213, 0, none⟩ = some (.string (⟨#[]⟩ : ByteArray)) := (blk_cell BK213.out 0).trans rfl; have hcz81_1 : w79.cell? ⟨gb213, 1, none⟩ = some (.int .i64 0) := (blk_cell BK213.out 1).trans rfl; have hcz81_2 : w79.cell? ⟨gb213, 2, none⟩ = some (.int .i64 0) := (blk_cell BK213.out 2).trans rfl; have hcz81_3 : w79.cell? ⟨gb213, 3, none⟩ = some (.string (⟨#[]⟩ : ByteArray)) := (blk_cell BK213.out 3).trans rfl; have hfz81_0 := blk_frozen BK213.out 0; have hfz81_1 := blk_frozen BK213.out 1; have hfz81_2 := blk_frozen BK213.out 2; have hfz81_3 := blk_frozen BK213.out 3))
            go_roundg kj5
            case measure => have := HK1.out; have := HJ5.out; omega
            case rel => exact ⟨(x3_1), (wrap64 (x4_5 + 1)), rs_, H', ⟨by have := HK1.out; have := HJ5.out; omega⟩, ⟨by (with_reducible repeat (first | apply Kd.R_alloc | apply Kd.R_drewN | apply Kd.R_drew)); exact Kd.R_mono (Kd.R_far (p := ⟨gb213, 3, none⟩) (Kd.R_far (p := ⟨gb213, 2, none⟩) (Kd.R_far (p := ⟨gb213, 1, none⟩) (Kd.R_far (p := ⟨gb213, 0, none⟩) (Kd.R_mono HO_3.out (fun k_ hk => (⟨hk, hk.2⟩ : _ ∧ k_ ≠ gb213))) (fun _ hk => hk.2) (.string t208)) (fun _ hk => hk.2) (.int .i64 t209)) (fun _ hk => hk.2) (.int .i64 t210)) (fun _ hk => hk.2) (.string t211)) (fun _ hk => trivial)⟩, ⟨by repeat (first | (with_reducible first | exact HB.out | apply below_alloc | apply pw_below_drewN | apply below_drew1 | refine below_set ?_ GE207.out | refine below_set ?_ GE213.out) | exact HB.out)⟩⟩
          ·rw [if_neg c13] at H
           exact absurd H (by simp)
         ·rw [if_neg c12] at H
          exact absurd H (by simp)
        ·rw [if_neg c11] at H
         exact absurd H (by simp)
    ·rw [if_neg c3] at H
     exact absurd H (by simp)
   ·rw [if_neg c2] at H
    have c2b0 : decide (x4_1 < (l0.length : Int)) = false := decide_eq_false c2
    clear c2
    obtain rfl := Option.some.inj H
    go_wp2
    go_ret
    exact ⟨_, by first | rfl | (simp [errW_none, errW_some] <;> rfl) | (simp [*, errW_none, errW_some] <;> rfl), by (with_reducible repeat (first | apply Kd.R_alloc | apply Kd.R_drewN | apply Kd.R_drew)); exact HO_3.out, by repeat (first | (with_reducible first | exact HB.out | apply below_alloc | apply pw_below_drewN | apply below_drew1) | exact HB.out)⟩
def dragnetref08_Get.f (k : Nat) (l0 : List Int) (a1 : ByteArray) : Option (ByteArray × Int × Int × ByteArray × Bool) := (dragnetref08_Read.f k l0).bind fun t218 => ((dragnetref08_At.f k t218 a1).bind fun bt221 => (some (bt221.1, bt221.2.1, bt221.2.2.1, bt221.2.2.2.1, bt221.2.2.2.2)))
theorem dragnetref08_Get.calls (k : Nat) (A0 : Option Addr) (c0 : Nat) (l0 : List Int) (a1 : ByteArray) (r1 : ByteArray) (r2 : Int) (r3 : Int) (r4 : ByteArray) (r5 : Bool) (w : World) (hr0 : Kd.C (Kd.int .u8) w A0 l0.length l0) (hc0 : l0.length ≤ c0) (h : dragnetref08_Get.f k l0 a1 = some (r1, r2, r3, r4, r5)) :
  Calls Tryz.prog 66 #[.slice A0 l0.length c0, .string a1] w fun e w' => e = .returned (.tuple #[.agg #[.string r1, .int .i64 r2, .int .i64 r3, .string r4], .bool r5]) ∧ Below w.heap.size w w' := by
 have hu110 := Tryz.underlying110
 have HR0 := Aside0.mk hr0
 have HC0 := Aside0.mk hc0
 clear hr0 hc0
 have HB := Aside0.mk (Below.refl w.heap.size w)
 have H : ((dragnetref08_Read.f k l0).bind fun t218 => ((dragnetref08_At.f k t218 a1).bind fun bt221 => (some (bt221.1, bt221.2.1, bt221.2.2.1, bt221.2.2.2.1, bt221.2.2.2.2)))) = some (r1, r2, r3, r4, r5) := h
 clear h
 replace H := Option.bind_eq_some_iff.mp H
 obtain ⟨t218, A30, H⟩ := H
 replace H : ((dragnetref08_At.f k t218 a1).bind fun bt221 => (some (bt221.1, bt221.2.1, bt221.2.2.1, bt221.2.2.2.1, bt221.2.2.2.2))) = some (r1, r2, r3, r4, r5) := H
 have A3 := Aside0.mk A30
 clear A30
 replace H := Option.bind_eq_some_iff.mp H
 obtain ⟨⟨t221, t222, t223, t224, t225⟩, A40, H⟩ := H
 replace H : (some (t221, t222, t223, t224, t225)) = some (r1, r2, r3, r4, r5) := H
 have A4 := Aside0.mk A40
 clear A40
 simp only [Option.some.injEq, Prod.mk.injEq] at H
 obtain ⟨rfl, rfl, rfl, rfl, rfl⟩ := H
 go_enter Tryz.func66, Tryz.ntmps66
 go_wp2_with (first | ((with_reducible refine gate_dst (N := 4) rfl ?_); refine box_event ?hg (N := 4) ?hd (cs := #[.string (⟨#[]⟩ : ByteArray), .int .i64 0, .int .i64 0, .string (⟨#[]⟩ : ByteArray)]) (t := 110) ?hr ?_; (case hd => rfl); (case hg => rfl); (case hr => first | (go_simp; done) | (go_simp; rfl) | (go_simp; simp only [wAl, wAr, wSl, wSr, wW])); intro gb217 hg w5 hbox hb; have n0_ := bsA HB hb; have n1_ := Aside0.mk (hbox); have n2_ := szA HB hg; have n3_ := szA HB hg; clear HB; have HB := n0_; have BK217 := n1_; have GW217 := n2_; have GE217 := n3_; clear n0_ n1_ n2_ n3_; clear hb hbox hg) | ((with_reducible refine gate_callee (f := 93) rfl ?_); refine goesL_ (some 7) rfl rfl Tryz.func93 (by kernel_rfl) rfl #[.slice A0 l0.length c0] rfl mp_ ?_; (with_reducible refine (dragnetref08_Read.calls k _ _ l0 t218 _ ?side1 ?side2 A3.out).mono ?_); (case side1 => repeat (first | exact (Kd.C_below HR0.out HB.out) | (with_reducible refine Kd.C_alloc ?_ _) | (with_reducible refine Kd.C_drewN ?_ _) | (with_reducible refine Kd.C_drew ?_))); (case side2 => exact HC0.out); rintro e w6 ⟨v219, rfl, ho0, hb⟩; refine ⟨_, rfl, ?_⟩; have n0_ := Aside0.mk (Kd.R_lower (Kd.R_newB ho0 (g := gb217) (o := .cells #[.string (⟨#[]⟩ : ByteArray), .int .i64 0, .int .i64 0, .string (⟨#[]⟩ : ByteArray)] 110 (0, 0)) (bU_ BK217.out)) (below_size (by repeat (first | (with_reducible first | exact HB.out | apply below_alloc | apply pw_below_drewN | apply below_drew1 | refine below_set ?_ GE217.out) | exact HB.out)))); have n1_ := bkA BK217 hb; have n2_ := bsA HB hb; clear BK217; clear HB; have HO220 := n0_; have BK217 := n1_; have HB := n2_; clear n0_ n1_ n2_; (try clear hb); (try clear hb2); (try clear hk); (try clear hi); (try clear ho0); obtain ⟨Ao7, co7, eo7⟩ := Kd.R_slice HO220.out; subst eo7) | ((with_reducible refine gate_callee (f := 92) rfl ?_); refine goesL_ (some 9) rfl rfl Tryz.func92 (by kernel_rfl) rfl #[.slice Ao7 t218.length co7, .string a1] rfl mp_ ?_; (with_reducible refine (dragnetref08_At.calls k _ _ t218 a1 t221 t222 t223 t224 t225 _ ?side1 ?side2 A4.out).mono ?_); (case side1 => repeat (first | exact (Kd.R_reads' HO220.out).2.2 | (with_reducible refine Kd.C_alloc ?_ _) | (with_reducible refine Kd.C_drewN ?_ _) | (with_reducible refine Kd.C_drew ?_))); (case side2 => exact (Kd.R_reads' HO220.out).2.1); rintro e w8 ⟨rfl, hb⟩; refine ⟨_, rfl, ?_⟩; have n0_ := rbA HO220 hb; have n1_ := bkA BK217 hb; have n2_ := bsA HB hb; clear HO220; clear BK217; clear HB; have HO220 := n0_; have BK217 := n1_; have HB := n2_; clear n0_ n1_ n2_; (try clear hb); (try clear hb2); (try clear hk); (try clear hi); have hcz9_0 : w8.cell? ⟨gb217, 0, none⟩ = some (.string (⟨#[]⟩ : ByteArray)) := (blk_cell BK217.out 0).trans rfl; have hcz9_1 : w8.cell? ⟨gb217, 1, none⟩ = some (.int .i64 0) := (blk_cell BK217.out 1).trans rfl; have hcz9_2 : w8.cell? ⟨gb217, 2, none⟩ = some (.int .i64 0) := (blk_cell BK217.out 2).trans rfl; have hcz9_3 : w8.cell? ⟨gb217, 3, none⟩ = some (.string (⟨#[]⟩ : ByteArray)) := (blk_cell BK217.out 3).trans rfl; have hfz9_0 := blk_frozen BK217.out 0; have hfz9_1 := blk_frozen BK217.out 1; have hfz9_2 := blk_frozen BK217.out 2; have hfz9_3 := blk_frozen BK217.out 3))
 refine bodyPost_ret (results_ct rfl _ _ gb217 110 #[.string t221, .int .i64 t222, .int .i64 t223, .string t224] (0, 0) _ rfl (by (with_reducible repeat (first | refine blk_drewN ?_ _ | refine blk_drew ?_ | refine blk_alloc ?_ _)); refine blk_put (cs := #[.string t221, .int .i64 t222, .int .i64 t223, .string (⟨#[]⟩ : ByteArray)]) ?_ 3 _ rfl; (with_reducible repeat (first | refine blk_drewN ?_ _ | refine blk_drew ?_ | refine blk_alloc ?_ _)); refine blk_put (cs := #[.string t221, .int .i64 t222, .int .i64 0, .string (⟨#[]⟩ : ByteArray)]) ?_ 2 _ rfl; (with_reducible repeat (first | refine blk_drewN ?_ _ | refine blk_drew ?_ | refine blk_alloc ?_ _)); refine blk_put (cs := #[.string t221, .int .i64 0, .int .i64 0, .string (⟨#[]⟩ : ByteArray)]) ?_ 1 _ rfl; (with_reducible repeat (first | refine blk_drewN ?_ _ | refine blk_drew ?_ | refine blk_alloc ?_ _)); refine blk_put (cs := #[.string (⟨#[]⟩ : ByteArray), .int .i64 0, .int .i64 0, .string (⟨#[]⟩ : ByteArray)]) ?_ 0 _ rfl; (with_reducible repeat (first | refine blk_drewN ?_ _ | refine blk_drew ?_ | refine blk_alloc ?_ _)); exact BK217.out) Tryz.underlying110 rfl (by kernel_rfl)) rfl ?_
 exact ⟨by first | rfl | (simp [errW_none, errW_some] <;> rfl) | (simp [*, errW_none, errW_some] <;> rfl), by repeat (first | (with_reducible first | exact HB.out | apply below_alloc | apply pw_below_drewN | apply below_drew1 | refine below_set ?_ GE217.out) | exact HB.out)⟩
def dragnetref08_Digits.l0 : Nat → Int → ByteArray → Option (ByteArray)
 | 0, _, _ => none
 | k + 1, x0, x3 => if x0 ≥ 10 then ((some (([(IntKind.u64.wrap (48 + (Int.tmod (IntKind.u64.wrap (Int.tdiv x0 10)) 10))) % 256] : List Int) : List Int)).bind fun y229 => (if (strOfNums y229).size + x3.size ≤ 9223372036854775807 then (dragnetref08_Digits.l0 k (IntKind.u64.wrap (Int.tdiv x0 10)) ((strOfNums y229) ++ x3)) else (none))) else (some x3)
def dragnetref08_Digits.f (k : Nat) (a0 : Int) : Option (ByteArray) := dragnetref08_Digits.l0 k a0 (strOfNums (([(IntKind.u64.wrap (48 + (Int.tmod a0 10))) % 256] : List Int)))
theorem dragnetref08_Digits.calls (k : Nat) (a0 : Int) (r : ByteArray) (w : World) (h : dragnetref08_Digits.f k a0 = some r) :
  Calls Tryz.prog 112 #[.int .u64 a0] w fun e w' => e = .returned (.string r) ∧ Below w.heap.size w w' := by
 have HB := Aside0.mk (Below.refl w.heap.size w)
 have H : (dragnetref08_Digits.l0 k a0 (strOfNums (([(IntKind.u64.wrap (48 + (Int.tmod a0 10))) % 256] : List Int)))) = some r := h
 clear h
 obtain ⟨y226, hy226⟩ : ∃ y_ : List Int, y_ = (([(IntKind.u64.wrap (48 + (Int.tmod a0 10))) % 256] : List Int)) := ⟨_, rfl⟩
 replace H : (dragnetref08_Digits.l0 k a0 (strOfNums y226)) = some r := by first | (rw [hy226]; with_reducible exact H) | (have H2_ := (Option.bind_some _ _).symm.trans H; rw [hy226]; with_reducible exact H2_) | (have H2_ := (Option.bind_some _ _).symm.trans H; with_reducible exact H2_) | with_reducible exact H | (rw [hy226]; exact H) | exact H
 have Ny226 := Aside0.mk hy226
 clear hy226
 have H' := Aside0.mk H
 clear H
 go_enter Tryz.func112, Tryz.ntmps112
 go_wp2_with (first | ((with_reducible refine gate_dst (N := 8) rfl ?_); refine Kd.R_lit (Kd.int .u8) _ 5 ?hg (N := 8) ?hd (xs := ([(IntKind.u64.wrap (48 + (Int.tmod a0 10))) % 256] : List Int)) (inner := [.int .u8 ((IntKind.u64.wrap (48 + (Int.tmod a0 10))) % 256)]) (ok := fun _ => True) (okp := fun _ => True) ?hr ?hp (fun _ hk => hk) trivial (Below.refl _ _) (Nat.le_refl _) (by simp) ?_; (case hd => rfl); (case hg => rfl); (case hr => first | (go_simp; done) | (go_simp; rfl) | (go_simp; simp only [wAl, wAr, wSl, wSr, wW])); (case hp => exact (Reps.one (show Kd.M (Kd.int .u8) _ _ _ ((IntKind.u64.wrap (48 + (Int.tmod a0 10))) % 256) [.int .u8 ((IntKind.u64.wrap (48 + (Int.tmod a0 10))) % 256)] from rfl) (Reps.none _ _))); intro v227 w2 ho3 hb hg_ hnew_; clear hg_ hnew_; (first | rw [← Ny226.out] at ho3 | (simp only [Int.reduceToNat] at ho3; rw [← Ny226.out] at ho3)); have n0_ := Aside0.mk (Kd.R_lower ho3 (below_size (by repeat (first | (with_reducible first | exact HB.out | apply below_alloc | apply pw_below_drewN | apply below_drew1) | exact HB.out)))); have n1_ := bsA HB hb; clear HB; have HO228 := n0_; have HB := n1_; clear n0_ n1_; clear hb ho3; have hcv4 := own_string (P := Tryz.prog) Tryz.underlying25 Tryz.underlying5 Tryz.underlying9 (Kd.own_of_R HO228.out)))
 go_loopg [0, 3] k (fun kq v0 v3 w' => ∃ (x0_1 : Int) (x3_1 : ByteArray), v0 = .int .u64 x0_1 ∧ v3 = .string x3_1 ∧ Aside0 (dragnetref08_Digits.l0 kq x0_1 x3_1 = some r) ∧ Aside0 (kq ≤ k) ∧ Aside0 (Below w.heap.size w w'))
 case atStart => exact ⟨(a0), (strOfNums y226), rs_, rs_, H', ⟨Nat.le_refl _⟩, ⟨by repeat (first | (with_reducible first | exact HB.out | apply below_alloc | apply pw_below_drewN | apply below_drew1) | exact HB.out)⟩⟩
 case round =>
  clear H'
  try clear c1
  try clear p2
  try clear hcv4
  obtain ⟨x0_1, x3_1, rfl, rfl, HA, HK1, HB⟩ := hrel
  cases gk with
  | zero => exact absurd HA.out (by simp [dragnetref08_Digits.l0])
  | succ k1 =>
   have H := HA.out
   clear HA
   simp only [dragnetref08_Digits.l0] at H
   by_cases c5 : x0_1 ≥ 10
   ·rw [if_pos c5] at H
    have c5b0 : decide (10 ≤ x0_1) = true := decide_eq_true c5
    clear c5
    obtain ⟨y229, hy229⟩ : ∃ y_ : List Int, y_ = (([(IntKind.u64.wrap (48 + (Int.tmod (IntKind.u64.wrap (Int.tdiv x0_1 10)) 10))) % 256] : List Int)) := ⟨_, rfl⟩
    replace H : (if (strOfNums y229).size + x3_1.size ≤ 9223372036854775807 then (dragnetref08_Digits.l0 k1 (IntKind.u64.wrap (Int.tdiv x0_1 10)) ((strOfNums y229) ++ x3_1)) else (none)) = some r := by first | (rw [hy229]; with_reducible exact H) | (have H2_ := (Option.bind_some _ _).symm.trans H; rw [hy229]; with_reducible exact H2_) | (have H2_ := (Option.bind_some _ _).symm.trans H; with_reducible exact H2_) | with_reducible exact H | (rw [hy229]; exact H) | exact H
    have Ny229 := Aside0.mk hy229
    clear hy229
    by_cases c6 : (strOfNums y229).size + x3_1.size ≤ 9223372036854775807
    ·rw [if_pos c6] at H
     have c6b0 := eq_true c6
     have c6b1 : decide ((strOfNums y229).size + x3_1.size ≤ 9223372036854775807) = true := decide_eq_true c6
     try have c6b2 : (9223372036854775807 < (strOfNums y229).size + x3_1.size) = False := eq_false (Nat.not_lt.2 c6)
     have H' := Aside0.mk H
     clear H
     go_wp2_with (first | ((with_reducible refine gate_dst (N := 18) rfl ?_); refine Kd.R_lit (Kd.int .u8) _ 5 ?hg (N := 18) ?hd (xs := ([(IntKind.u64.wrap (48 + (Int.tmod (IntKind.u64.wrap (Int.tdiv x0_1 10)) 10))) % 256] : List Int)) (inner := [.int .u8 ((IntKind.u64.wrap (48 + (Int.tmod (IntKind.u64.wrap (Int.tdiv x0_1 10)) 10))) % 256)]) (ok := fun _ => True) (okp := fun _ => True) ?hr ?hp (fun _ hk => hk) trivial (Below.refl _ _) (Nat.le_refl _) (by simp) ?_; (case hd => rfl); (case hg => rfl); (case hr => first | (go_simp; done) | (go_simp; rfl) | (go_simp; simp only [wAl, wAr, wSl, wSr, wW])); (case hp => exact (Reps.one (show Kd.M (Kd.int .u8) _ _ _ ((IntKind.u64.wrap (48 + (Int.tmod (IntKind.u64.wrap (Int.tdiv x0_1 10)) 10))) % 256) [.int .u8 ((IntKind.u64.wrap (48 + (Int.tmod (IntKind.u64.wrap (Int.tdiv x0_1 10)) 10))) % 256)] from rfl) (Reps.none _ _))); intro v230 w7 ho8 hb hg_ hnew_; clear hg_ hnew_; (first | rw [← Ny229.out] at ho8 | (simp only [Int.reduceToNat] at ho8; rw [← Ny229.out] at ho8)); have n0_ := Aside0.mk (Kd.R_lower ho8 (below_size (by repeat (first | (with_reducible first | exact HB.out | apply below_alloc | apply pw_below_drewN | apply below_drew1) | exact HB.out)))); have n1_ := bsA HB hb; clear HB; have HO231 := n0_; have HB := n1_; clear n0_ n1_; clear hb ho8; have hcv9 := own_string (P := Tryz.prog) Tryz.underlying25 Tryz.underlying5 Tryz.underlying9 (Kd.own_of_R HO231.out)))
     go_roundg k1
     case measure => have := HK1.out; omega
     case rel => exact ⟨(IntKind.u64.wrap (Int.tdiv x0_1 10)), ((strOfNums y229) ++ x3_1), rs_, rs_, H', ⟨by have := HK1.out; omega⟩, ⟨by repeat (first | (with_reducible first | exact HB.out | apply below_alloc | apply pw_below_drewN | apply below_drew1) | exact HB.out)⟩⟩
    ·rw [if_neg c6] at H
     exact absurd H (by simp)
   ·rw [if_neg c5] at H
    have c5b0 : decide (10 ≤ x0_1) = false := decide_eq_false c5
    clear c5
    obtain rfl := Option.some.inj H
    go_wp2
    go_ret
    exact ⟨by first | rfl | (simp [errW_none, errW_some] <;> rfl) | (simp [*, errW_none, errW_some] <;> rfl), by repeat (first | (with_reducible first | exact HB.out | apply below_alloc | apply pw_below_drewN | apply below_drew1) | exact HB.out)⟩
def dragnetref08_Text.f (k : Nat) (a0 : Int) : Option (ByteArray) := if a0 ≥ 0 then ((dragnetref08_Digits.f k (IntKind.u64.wrap (a0))).bind fun t232 => (some t232)) else ((dragnetref08_Digits.f k (IntKind.u64.wrap ((IntKind.u64.wrap (wrap64 (-(wrap64 (a0 + 1))))) + 1))).bind fun t233 => (if 1 + t233.size ≤ 9223372036854775807 then (some ((⟨#[45]⟩ : ByteArray) ++ t233)) else (none)))
theorem dragnetref08_Text.calls (k : Nat) (a0 : Int) (r : ByteArray) (w : World) (h : dragnetref08_Text.f k a0 = some r) :
  Calls Tryz.prog 94 #[.int .i64 a0] w fun e w' => e = .returned (.string r) ∧ Below w.heap.size w w' := by
 have HB := Aside0.mk (Below.refl w.heap.size w)
 have H : (if a0 ≥ 0 then ((dragnetref08_Digits.f k (IntKind.u64.wrap (a0))).bind fun t232 => (some t232)) else ((dragnetref08_Digits.f k (IntKind.u64.wrap ((IntKind.u64.wrap (wrap64 (-(wrap64 (a0 + 1))))) + 1))).bind fun t233 => (if 1 + t233.size ≤ 9223372036854775807 then (some ((⟨#[45]⟩ : ByteArray) ++ t233)) else (none)))) = some r := h
 clear h
 by_cases c2 : a0 ≥ 0
 ·rw [if_pos c2] at H
  have c2b0 : decide (0 ≤ a0) = true := decide_eq_true c2
  clear c2
  replace H := Option.bind_eq_some_iff.mp H
  obtain ⟨t232, A30, H⟩ := H
  replace H : (some t232) = some r := H
  have A3 := Aside0.mk A30
  clear A30
  obtain rfl := Option.some.inj H
  go_enter Tryz.func94, Tryz.ntmps94
  go_wp2_with (first | ((with_reducible refine gate_callee (f := 112) rfl ?_); refine goesL_ (some 7) rfl rfl Tryz.func112 (by kernel_rfl) rfl #[.int .u64 (IntKind.u64.wrap (a0))] rfl mp_ ?_; (with_reducible refine (dragnetref08_Digits.calls k (IntKind.u64.wrap (a0)) t232 _ A3.out).mono ?_); rintro e w4 ⟨rfl, hb⟩; refine ⟨_, rfl, ?_⟩; have n0_ := bsA HB hb; clear HB; have HB := n0_; clear n0_; (try clear hb); (try clear hb2); (try clear hk); (try clear hi)))
  go_ret
  exact ⟨by first | rfl | (simp [errW_none, errW_some] <;> rfl) | (simp [*, errW_none, errW_some] <;> rfl), by repeat (first | (with_reducible first | exact HB.out | apply below_alloc | apply pw_below_drewN | apply below_drew1) | exact HB.out)⟩
 ·rw [if_neg c2] at H
  have c2b0 : decide (0 ≤ a0) = false := decide_eq_false c2
  clear c2
  replace H := Option.bind_eq_some_iff.mp H
  obtain ⟨t233, A50, H⟩ := H
  replace H : (if 1 + t233.size ≤ 9223372036854775807 then (some ((⟨#[45]⟩ : ByteArray) ++ t233)) else (none)) = some r := H
  have A5 := Aside0.mk A50
  clear A50
  by_cases c6 : 1 + t233.size ≤ 9223372036854775807
  ·rw [if_pos c6] at H
   have c6b0 := eq_true c6
   have c6b1 : decide (1 + t233.size ≤ 9223372036854775807) = true := decide_eq_true c6
   try have c6b2 : (9223372036854775807 < 1 + t233.size) = False := eq_false (Nat.not_lt.2 c6)
   obtain rfl := Option.some.inj H
   go_enter Tryz.func94, Tryz.ntmps94
   go_wp2_with (first | ((with_reducible refine gate_callee (f := 112) rfl ?_); refine goesL_ (some 13) rfl rfl Tryz.func112 (by kernel_rfl) rfl #[.int .u64 (IntKind.u64.wrap ((IntKind.u64.wrap (wrap64 (-(wrap64 (a0 + 1))))) + 1))] rfl mp_ ?_; (with_reducible refine (dragnetref08_Digits.calls k (IntKind.u64.wrap ((IntKind.u64.wrap (wrap64 (-(wrap64 (a0 + 1))))) + 1)) t233 _ A5.out).mono ?_); rintro e w7 ⟨rfl, hb⟩; refine ⟨_, rfl, ?_⟩; have n0_ := bsA HB hb; clear HB; have HB := n0_; clear n0_; (try clear hb); (try clear hb2); (try clear hk); (try clear hi)))
   go_ret
   exact ⟨by first | rfl | (simp [errW_none, errW_some] <;> rfl) | (simp [*, errW_none, errW_some] <;> rfl), by repeat (first | (with_reducible first | exact HB.out | apply below_alloc | apply pw_below_drewN | apply below_drew1) | exact HB.out)⟩
  ·rw [if_neg c6] at H
   exact absurd H (by simp)
def dragnetref08_Show.f (k : Nat) (a0_0 : ByteArray) (a0_1 : Int) (a0_2 : Int) (a0_3 : ByteArray) : Option (ByteArray) := if a0_1 = 1 then ((dragnetref08_Text.f k a0_2).bind fun t235 => (some t235)) else (some a0_3)
theorem dragnetref08_Show.calls (k : Nat) (a0_0 : ByteArray) (a0_1 : Int) (a0_2 : Int) (a0_3 : ByteArray) (r : ByteArray) (w : World) (h : dragnetref08_Show.f k a0_0 a0_1 a0_2 a0_3 = some r) :
  Calls Tryz.prog 67 #[.agg #[.string a0_0, .int .i64 a0_1, .int .i64 a0_2, .string a0_3]] w fun e w' => e = .returned (.string r) ∧ Below w.heap.size w w' := by
 have hu110 := Tryz.underlying110
 have HB := Aside0.mk (Below.refl w.heap.size w)
 have H : (if a0_1 = 1 then ((dragnetref08_Text.f k a0_2).bind fun t235 => (some t235)) else (some a0_3)) = some r := h
 clear h
 by_cases c2 : a0_1 = 1
 ·rw [if_pos c2] at H
  have c2b0 : (a0_1 == 1) = true := beq_iff_eq.mpr c2
  have c2b1 : (a0_1 != 1) = false := bne_eq_false_iff_eq.mpr c2
  clear c2
  replace H := Option.bind_eq_some_iff.mp H
  obtain ⟨t235, A30, H⟩ := H
  replace H : (some t235) = some r := H
  have A3 := Aside0.mk A30
  clear A30
  obtain rfl := Option.some.inj H
  go_enter Tryz.func67, Tryz.ntmps67
  go_wp2_with (first | ((with_reducible refine gate_dst (N := 1) rfl ?_); refine box_event ?hg (N := 1) ?hd (cs := #[.string a0_0, .int .i64 a0_1, .int .i64 a0_2, .string a0_3]) (t := 110) ?hr ?_; (case hd => rfl); (case hg => rfl); (case hr => first | (go_simp; done) | (go_simp; rfl) | (go_simp; simp only [wAl, wAr, wSl, wSr, wW])); intro gb234 hg w4 hbox hb; have n0_ := bsA HB hb; have n1_ := Aside0.mk (hbox); have n2_ := szA HB hg; have n3_ := szA HB hg; clear HB; have HB := n0_; have BK234 := n1_; have GW234 := n2_; have GE234 := n3_; clear n0_ n1_ n2_ n3_; clear hb hbox hg; have hcz5_0 : w4.cell? ⟨gb234, 0, none⟩ = some (.string a0_0) := (blk_cell BK234.out 0).trans rfl; have hcz5_1 : w4.cell? ⟨gb234, 1, none⟩ = some (.int .i64 a0_1) := (blk_cell BK234.out 1).trans rfl; have hcz5_2 : w4.cell? ⟨gb234, 2, none⟩ = some (.int .i64 a0_2) := (blk_cell BK234.out 2).trans rfl; have hcz5_3 : w4.cell? ⟨gb234, 3, none⟩ = some (.string a0_3) := (blk_cell BK234.out 3).trans rfl; have hfz5_0 := blk_frozen BK234.out 0; have hfz5_1 := blk_frozen BK234.out 1; have hfz5_2 := blk_frozen BK234.out 2; have hfz5_3 := blk_frozen BK234.out 3) | ((with_reducible refine gate_callee (f := 94) rfl ?_); refine goesL_ (some 8) rfl rfl Tryz.func94 (by kernel_rfl) rfl #[.int .i64 a0_2] rfl mp_ ?_; (with_reducible refine (dragnetref08_Text.calls k a0_2 t235 _ A3.out).mono ?_); rintro e w6 ⟨rfl, hb⟩; refine ⟨_, rfl, ?_⟩; have n0_ := bkA BK234 hb; have n1_ := bsA HB hb; clear BK234; clear HB; have BK234 := n0_; have HB := n1_; clear n0_ n1_; (try clear hb); (try clear hb2); (try clear hk); (try clear hi)))
  go_ret
  exact ⟨by first | rfl | (simp [errW_none, errW_some] <;> rfl) | (simp [*, errW_none, errW_some] <;> rfl), by repeat (first | (with_reducible first | exact HB.out | apply below_alloc | apply pw_below_drewN | apply below_drew1 | refine below_set ?_ GE234.out) | exact HB.out)⟩
 ·rw [if_neg c2] at H
  have c2b0 : (a0_1 == 1) = false := beq_eq_false_iff_ne.mpr c2
  have c2b1 : (a0_1 != 1) = true := bne_iff_ne.mpr c2
  obtain rfl := Option.some.inj H
  go_enter Tryz.func67, Tryz.ntmps67
  go_wp2_with (first | ((with_reducible refine gate_dst (N := 1) rfl ?_); refine box_event ?hg (N := 1) ?hd (cs := #[.string a0_0, .int .i64 a0_1, .int .i64 a0_2, .string a0_3]) (t := 110) ?hr ?_; (case hd => rfl); (case hg => rfl); (case hr => first | (go_simp; done) | (go_simp; rfl) | (go_simp; simp only [wAl, wAr, wSl, wSr, wW])); intro gb234 hg w7 hbox hb; have n0_ := bsA HB hb; have n1_ := Aside0.mk (hbox); have n2_ := szA HB hg; have n3_ := szA HB hg; clear HB; have HB := n0_; have BK234 := n1_; have GW234 := n2_; have GE234 := n3_; clear n0_ n1_ n2_ n3_; clear hb hbox hg; have hcz8_0 : w7.cell? ⟨gb234, 0, none⟩ = some (.string a0_0) := (blk_cell BK234.out 0).trans rfl; have hcz8_1 : w7.cell? ⟨gb234, 1, none⟩ = some (.int .i64 a0_1) := (blk_cell BK234.out 1).trans rfl; have hcz8_2 : w7.cell? ⟨gb234, 2, none⟩ = some (.int .i64 a0_2) := (blk_cell BK234.out 2).trans rfl; have hcz8_3 : w7.cell? ⟨gb234, 3, none⟩ = some (.string a0_3) := (blk_cell BK234.out 3).trans rfl; have hfz8_0 := blk_frozen BK234.out 0; have hfz8_1 := blk_frozen BK234.out 1; have hfz8_2 := blk_frozen BK234.out 2; have hfz8_3 := blk_frozen BK234.out 3))
  go_ret
  exact ⟨by first | rfl | (simp [errW_none, errW_some] <;> rfl) | (simp [*, errW_none, errW_some] <;> rfl), by repeat (first | (with_reducible first | exact HB.out | apply below_alloc | apply pw_below_drewN | apply below_drew1 | refine below_set ?_ GE234.out) | exact HB.out)⟩
end Go.Proofs.YtehaodbheifokaaGreatDoor.P
end
