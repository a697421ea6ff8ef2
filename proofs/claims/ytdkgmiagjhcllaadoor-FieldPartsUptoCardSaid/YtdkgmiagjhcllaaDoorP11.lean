-- Written by a program of this session (wip/tools/tp.py: the kit's printer, turned to take functions that were proved by hand). Lean checks it.
import Derived.Test.YtdkgmiagjhcllaaDoorP0
import Derived.Test.YtdkgmiagjhcllaaDoorP2
import Derived.Test.YtdkgmiagjhcllaaDoorP5
import Derived.Test.YtdkgmiagjhcllaaDoorAlive8
import Derived.Test.YtdkgmiagjhcllaaDoorRead0
namespace Go.Proofs.YtdkgmiagjhcllaaDoor.P
open Go.RowKit Go.Proofs.YtdkgmiagjhcllaaDoorW.PrintWords Go.Proofs.YtdkgmiagjhcllaaDoorW.PrintLast Go.Proofs.YtdkgmiagjhcllaaDoorW.PrintMore
attribute [local go_sem] max2_int min2_int max_two min_two max_three min_three max_four min_four   -- for this text's walks alone
set_option linter.unusedVariables false
set_option linter.unusedSimpArgs false

-- LEVEL 6
-- PROVED BY HAND: function 9 (dragnetlaw08_alive): Derived.Test.YtdkgmiagjhcllaaDoorAlive8

-- LEVEL 6
/-! ### dragnetlaw08_FieldParts: function 4 -/
def dragnetlaw08_FieldParts.l0 : Nat → List Int → List Int → List (S28) → List (S28) → Int → Option (Bool)
 | 0, _, _, _, _, _ => none
 | k + 1, x0, x1, x5, x6, x7 => if x7 < (x6.length : Int) then (if 0 ≤ x7 then ((dragnetref08_At.f k x5 ((rd_T28 x6 x7).f0)).bind fun bt174 => (if bt174.2.2.2.2 = true then (dragnetlaw08_FieldParts.l0 k x0 x1 x5 x6 (wrap64 (x7 + 1))) else (if (x5.length : Int) < 16 then (if x5.length < 2932031007402 then (dragnetlaw08_FieldParts.l0 k x0 x1 (x5 ++ [(⟨(rd_T28 x6 x7).f0, (rd_T28 x6 x7).f1, (rd_T28 x6 x7).f2, (rd_T28 x6 x7).f3⟩ : S28)]) x6 (wrap64 (x7 + 1))) else (none)) else (dragnetlaw08_FieldParts.l0 k x0 x1 x5 x6 (wrap64 (x7 + 1)))))) else (none)) else ((dragnetref01_Copy.f x0).bind fun t184 => (if t184.length < 140737488355328 then ((some (t184 ++ [32] : List Int)).bind fun y187 => (if y187.length + x1.length < 140737488355328 then ((field_Read.f (y187 ++ x1)).bind fun t193 => (if (x6.length : Int) = 16 then (if (t193.length : Int) ≥ (x5.length : Int) then (if 0 ≤ (x5.length : Int) then (if (x5.length : Int) ≤ (t193.length : Int) then ((dragnetref08_Same.f k (t193.take ((x5.length : Int) : Int).toNat) x5).bind fun t200 => (some t200)) else (none)) else (none)) else (some false)) else ((dragnetref08_Same.f k t193 x5).bind fun t201 => (some t201)))) else (none))) else (none)))
def dragnetlaw08_FieldParts.f (k : Nat) (l0 : List Int) (l1 : List Int) : Option (Bool) := (dragnetlaw08_alive.f).bind fun t166 => (if t166 = true then ((dragnetref08_Read.f k l0).bind fun t167 => ((field_Read.f l1).bind fun t170 => (dragnetlaw08_FieldParts.l0 k l0 l1 t167 t170 0))) else (some false))
theorem dragnetlaw08_FieldParts.mono_l : ∀ k, (∀ y0 y1 y2 y3 y4, LeO (dragnetlaw08_FieldParts.l0 k y0 y1 y2 y3 y4) (dragnetlaw08_FieldParts.l0 (k + 1) y0 y1 y2 y3 y4))
 | 0 => fun _ _ _ _ _ r h => by simp [dragnetlaw08_FieldParts.l0] at h
 | k + 1 => by
  have ih0 := dragnetlaw08_FieldParts.mono_l k
  ·intro y0 y1 y2 y3 y4
   unfold dragnetlaw08_FieldParts.l0
   repeat' first
   | (with_reducible exact ih0 _ _ _ _ _)
   | (with_reducible exact dragnetref08_At.mono _ _ _)
   | (with_reducible exact dragnetref08_Read.mono _ _)
   | (with_reducible exact dragnetref08_Same.mono _ _ _)
   | (with_reducible exact LeO.refl _)
   | (with_reducible exact LeO.none _)
   | (with_reducible refine LeO.ite ?_ ?_)
   | (with_reducible refine LeO.bind ?_ (fun _ => ?_))
   | exact ih0 _ _ _ _ _
   | exact dragnetref08_At.mono _ _ _
   | exact dragnetref08_Read.mono _ _
   | exact dragnetref08_Same.mono _ _ _
   | exact LeO.none _
   | refine LeO.ite ?_ ?_
   | refine LeO.bind ?_ (fun _ => ?_)
theorem dragnetlaw08_FieldParts.mono : ∀ a0 a1 k, LeO (dragnetlaw08_FieldParts.f k a0 a1) (dragnetlaw08_FieldParts.f (k + 1) a0 a1) := by
 intro a0 a1 k
 have ih0 := dragnetlaw08_FieldParts.mono_l k
 unfold dragnetlaw08_FieldParts.f
 repeat' first
   | (with_reducible exact ih0 _ _ _ _ _)
   | (with_reducible exact dragnetref08_At.mono _ _ _)
   | (with_reducible exact dragnetref08_Read.mono _ _)
   | (with_reducible exact dragnetref08_Same.mono _ _ _)
   | (with_reducible exact LeO.refl _)
   | (with_reducible exact LeO.none _)
   | (with_reducible refine LeO.ite ?_ ?_)
   | (with_reducible refine LeO.bind ?_ (fun _ => ?_))
   | exact ih0 _ _ _ _ _
   | exact dragnetref08_At.mono _ _ _
   | exact dragnetref08_Read.mono _ _
   | exact dragnetref08_Same.mono _ _ _
   | exact LeO.none _
   | refine LeO.ite ?_ ?_
   | refine LeO.bind ?_ (fun _ => ?_)
set_option maxHeartbeats 8000000 in
set_option maxRecDepth 100000 in
theorem dragnetlaw08_FieldParts.calls (k : Nat) (A0 : Option Addr) (c0 : Nat) (l0 : List Int) (A1 : Option Addr) (c1 : Nat) (l1 : List Int) (w : World) (hr0 : Kd.C (Kd.int .u8) w A0 l0.length l0) (hc0 : l0.length ≤ c0) (hr1 : Kd.C (Kd.int .u8) w A1 l1.length l1) (hc1 : l1.length ≤ c1) (h : dragnetlaw08_FieldParts.f k l0 l1 = some true) (hx : FieldIn w := by exact FieldIn.go (by assumption) (by assumption)) :
  Calls Tryd.prog 4 #[.slice A0 l0.length c0, .slice A1 l1.length c1] w fun e w' => e = .returned (.bool true) ∧ Below w.heap.size w w' := by
 have HX := Aside0.mk hx
 clear hx
 have hu28 := Tryd.underlying28
 have HR0 := Aside0.mk hr0
 have HC0 := Aside0.mk hc0
 clear hr0 hc0
 have HR1 := Aside0.mk hr1
 have HC1 := Aside0.mk hc1
 clear hr1 hc1
 have HB := Aside0.mk (Below.refl w.heap.size w)
 have H : ((dragnetlaw08_alive.f).bind fun t166 => (if t166 = true then ((dragnetref08_Read.f k l0).bind fun t167 => ((field_Read.f l1).bind fun t170 => (dragnetlaw08_FieldParts.l0 k l0 l1 t167 t170 0))) else (some false))) = some true := h
 clear h
 replace H := Option.bind_eq_some_iff.mp H
 obtain ⟨t166, A30, H⟩ := H
 replace H : (if t166 = true then ((dragnetref08_Read.f k l0).bind fun t167 => ((field_Read.f l1).bind fun t170 => (dragnetlaw08_FieldParts.l0 k l0 l1 t167 t170 0))) else (some false)) = some true := H
 have A3 := Aside0.mk A30
 clear A30
 by_cases c4 : t166 = true
 ·subst c4
  have H1 : ((dragnetref08_Read.f k l0).bind fun t167 => ((field_Read.f l1).bind fun t170 => (dragnetlaw08_FieldParts.l0 k l0 l1 t167 t170 0))) = some true := by rw [if_pos rfl] at H; exact H
  clear H
  have H := H1
  clear H1
  replace H := Option.bind_eq_some_iff.mp H
  obtain ⟨t167, A50, H⟩ := H
  replace H : ((field_Read.f l1).bind fun t170 => (dragnetlaw08_FieldParts.l0 k l0 l1 t167 t170 0)) = some true := H
  have A5 := Aside0.mk A50
  clear A50
  replace H := Option.bind_eq_some_iff.mp H
  obtain ⟨t170, A60, H⟩ := H
  replace H : (dragnetlaw08_FieldParts.l0 k l0 l1 t167 t170 0) = some true := H
  have A6 := Aside0.mk A60
  clear A60
  have H' := Aside0.mk H
  clear H
  go_enter Tryd.func4, Tryd.ntmps4
  go_wp2_with (first | ((with_reducible refine gate_callee (f := 9) rfl ?_); refine goesL_ (some 11) rfl rfl Tryd.func9 (by kernel_rfl) rfl #[] rfl (by (try simp only [List.map_toArray, List.map_cons, List.map_nil]); first | done | rfl | (simp only [List.length_drop, List.length_take]; rfl)) ?_; (with_reducible refine (dragnetlaw08_alive.calls  true _ A3.out).mono ?_); rintro e w7 ⟨rfl, hb⟩; refine ⟨_, rfl, ?_⟩; have n0_ := bsA HB hb; clear HB; have HB := n0_; clear n0_; (try clear hb); (try clear hb2); (try clear hk); (try clear hi)) | ((with_reducible refine gate_callee (f := 12) rfl ?_); refine goesL_ (some 14) rfl rfl Tryd.func12 (by kernel_rfl) rfl #[.slice A0 l0.length c0] rfl (by (try simp only [List.map_toArray, List.map_cons, List.map_nil]); first | done | rfl | (simp only [List.length_drop, List.length_take]; rfl)) ?_; (with_reducible refine (dragnetref08_Read.calls k _ _ l0 t167 _ ?side1 ?side2 A5.out).mono ?_); (case side1 => repeat (first | exact (Kd.C_below HR0.out HB.out) | (with_reducible refine Kd.C_alloc ?_ _) | (with_reducible refine Kd.C_drewN ?_ _) | (with_reducible refine Kd.C_drew ?_))); (case side2 => exact HC0.out); rintro e w8 ⟨v168, rfl, ho0, hb⟩; refine ⟨_, rfl, ?_⟩; have n0_ := Aside0.mk (Kd.R_lower ho0 (below_size (by repeat (first | (with_reducible first | exact HB.out | apply below_alloc | apply pw_below_drewN | apply below_drew1) | exact HB.out)))); have n1_ := bsA HB hb; clear HB; have HO169 := n0_; have HB := n1_; clear n0_ n1_; (try clear hb); (try clear hb2); (try clear hk); (try clear hi); (try clear ho0)) | ((with_reducible refine gate_callee (f := 13) rfl ?_); refine goesL_ (some 16) rfl rfl Tryd.func13 (by kernel_rfl) rfl #[.slice A1 l1.length c1] rfl (by (try simp only [List.map_toArray, List.map_cons, List.map_nil]); first | done | rfl | (simp only [List.length_drop, List.length_take]; rfl)) ?_; (with_reducible refine (field_Read.calls _ _ l1 t170 _ ?side1 ?side2 A6.out).mono ?_); (case side1 => repeat (first | exact (Kd.C_below HR1.out HB.out) | (with_reducible refine Kd.C_alloc ?_ _) | (with_reducible refine Kd.C_drewN ?_ _) | (with_reducible refine Kd.C_drew ?_))); (case side2 => exact HC1.out); rintro e w9 ⟨v171, rfl, ho0, hb⟩; refine ⟨_, rfl, ?_⟩; have n0_ := Aside0.mk (Kd.R_elder' (by (with_reducible repeat (first | apply Kd.R_alloc | apply Kd.R_drewN | apply Kd.R_drew)); exact HO169.out) (Kd.R_base ho0) hb); have n1_ := Aside0.mk (Kd.R_lower (Kd.R_new' ho0 (Kd.R_lt (by (with_reducible repeat (first | apply Kd.R_alloc | apply Kd.R_drewN | apply Kd.R_drew)); exact HO169.out))) (below_size (by repeat (first | (with_reducible first | exact HB.out | apply below_alloc | apply pw_below_drewN | apply below_drew1) | exact HB.out)))); have n2_ := bsA HB hb; clear HO169; clear HB; have HO169 := n0_; have HO172 := n1_; have HB := n2_; clear n0_ n1_ n2_; (try clear hb); (try clear hb2); (try clear hk); (try clear hi); (try clear ho0)))
  go_loopg [5, 7] k (fun kq v5 v7 w' => ∃ (x5_1 : List (S28)) (x7_1 : Int), v7 = .int .i64 x7_1 ∧ Aside0 (dragnetlaw08_FieldParts.l0 kq l0 l1 x5_1 t170 x7_1 = some true) ∧ Aside0 (kq ≤ k) ∧ Aside0 (Kd.R k28 28 w' w.heap.size (fun k_ => some k_ ≠ (v171 : Value).ownBlock) v5 x5_1) ∧ Aside0 (Kd.R k28 28 w' w.heap.size (fun k_ => some k_ ≠ (v5 : Value).ownBlock) v171 t170) ∧ Aside0 (Below w.heap.size w w'))
  case atStart => exact ⟨(t167), (0), (by first | rfl | (simp; done) | (simp [*]; done)), H', ⟨Nat.le_refl _⟩, ⟨by (with_reducible repeat (first | apply Kd.R_alloc | apply Kd.R_drewN | apply Kd.R_drew)); exact Kd.R_mono HO169.out (fun _ hk => hk.2)⟩, ⟨by (with_reducible repeat (first | apply Kd.R_alloc | apply Kd.R_drewN | apply Kd.R_drew)); exact Kd.R_mono HO172.out (fun _ hk => hk.2)⟩, ⟨by repeat (first | (with_reducible first | exact HB.out | apply below_alloc | apply pw_below_drewN | apply below_drew1) | exact HB.out)⟩⟩
  case round =>
   clear H'
   try clear c1
   try clear p2
   try clear c4
   try clear c9
   obtain ⟨x5_1, x7_1, rfl, HA, HK1, HO_5, HO_6, HB⟩ := hrel
   cases gk with
   | zero => exact absurd HA.out (by simp [dragnetlaw08_FieldParts.l0])
   | succ k1 =>
    have H := HA.out
    clear HA
    simp only [dragnetlaw08_FieldParts.l0] at H
    by_cases c10 : x7_1 < (t170.length : Int)
    ·rw [if_pos c10] at H
     have c10b0 : decide (x7_1 < (t170.length : Int)) = true := decide_eq_true c10
     clear c10
     by_cases c11 : 0 ≤ x7_1
     ·rw [if_pos c11] at H
      have c11b0 : decide (0 ≤ x7_1) = true := decide_eq_true c11
      clear c11
      replace H := Option.bind_eq_some_iff.mp H
      obtain ⟨⟨t174, t175, t176, t177, t178⟩, A120, H⟩ := H
      replace H : (if t178 = true then (dragnetlaw08_FieldParts.l0 k1 l0 l1 x5_1 t170 (wrap64 (x7_1 + 1))) else (if (x5_1.length : Int) < 16 then (if x5_1.length < 2932031007402 then (dragnetlaw08_FieldParts.l0 k1 l0 l1 (x5_1 ++ [(⟨(rd_T28 t170 x7_1).f0, (rd_T28 t170 x7_1).f1, (rd_T28 t170 x7_1).f2, (rd_T28 t170 x7_1).f3⟩ : S28)]) t170 (wrap64 (x7_1 + 1))) else (none)) else (dragnetlaw08_FieldParts.l0 k1 l0 l1 x5_1 t170 (wrap64 (x7_1 + 1))))) = some true := H
      have A12 := Aside0.mk A120
      clear A120
      by_cases c13 : t178 = true
      ·subst c13
       have H1 : (dragnetlaw08_FieldParts.l0 k1 l0 l1 x5_1 t170 (wrap64 (x7_1 + 1))) = some true := by rw [if_pos rfl] at H; exact H
       clear H
       have H := H1
       clear H1
       have H' := Aside0.mk H
       clear H
       obtain ⟨Ao14, co14, eo14⟩ := Kd.R_slice HO_6.out
       subst eo14
       have p173 : 0 ≤ (x7_1 : Int) := of_decide_eq_true (by first | (with_reducible assumption) | assumption)
       have q173 : x7_1 < (t170.length : Int) := of_decide_eq_true (by first | (with_reducible assumption) | assumption)
       obtain ⟨ad173, e173, hx173_0, hx173_1, hx173_2, hx173_3⟩ := at_T28 (Kd.R_reads' HO_6.out).2.2 x7_1 p173 q173
       cases e173
       replace p173 := eq_true p173
       replace q173 := eq_true q173
       obtain ⟨Ao15, co15, eo15⟩ := Kd.R_slice HO_5.out
       subst eo15
       go_wp2_with (first | ((with_reducible refine gate_callee (f := 14) rfl ?_); refine goesL_ (some 30) rfl rfl Tryd.func14 (by kernel_rfl) rfl #[.slice Ao15 x5_1.length co15, .string ((rd_T28 t170 x7_1).f0)] rfl (by (try simp only [List.map_toArray, List.map_cons, List.map_nil]); first | done | rfl | (simp only [List.length_drop, List.length_take]; rfl)) ?_; (with_reducible refine (dragnetref08_At.calls k1 _ _ x5_1 ((rd_T28 t170 x7_1).f0) t174 t175 t176 t177 true _ ?side1 ?side2 A12.out).mono ?_); (case side1 => repeat (first | exact (Kd.R_reads' HO_5.out).2.2 | (with_reducible refine Kd.C_alloc ?_ _) | (with_reducible refine Kd.C_drewN ?_ _) | (with_reducible refine Kd.C_drew ?_))); (case side2 => exact (Kd.R_reads' HO_5.out).2.1); rintro e w16 ⟨rfl, hb⟩; refine ⟨_, rfl, ?_⟩; have n0_ := rbA HO_5 hb; have n1_ := rbA HO_6 hb; have n2_ := bsA HB hb; clear HO_5; clear HO_6; clear HB; have HO_5 := n0_; have HO_6 := n1_; have HB := n2_; clear n0_ n1_ n2_; (try clear hb); (try clear hb2); (try clear hk); (try clear hi)) | ((with_reducible refine gate_dst (N := 8) rfl ?_); (try (refine gate_guard (by rfl) ?_; dsimp only)); refine box_event ?hg (N := 8) ?hd (cs := #[.string (⟨#[]⟩ : ByteArray), .int .i64 0, .int .i64 0, .string (⟨#[]⟩ : ByteArray)]) (t := 28) ?hr ?_; (case hd => rfl); (case hg => rfl); (case hr => first | (go_simp; done) | (go_simp; rfl)); intro gb179 hg w17 hbox hb; have n0_ := Aside0.mk (Kd.R_below (Kd.R_elderB (by (with_reducible repeat (first | apply Kd.R_alloc | apply Kd.R_drewN | apply Kd.R_drew)); exact HO_5.out) gb179 (Nat.le_of_eq hg.symm)) hb); have n1_ := Aside0.mk (Kd.R_below (Kd.R_elderB (by (with_reducible repeat (first | apply Kd.R_alloc | apply Kd.R_drewN | apply Kd.R_drew)); exact HO_6.out) gb179 (Nat.le_of_eq hg.symm)) hb); have n2_ := bsA HB hb; have n3_ := Aside0.mk (hbox); have n4_ := szA HB hg; have n5_ := szA HB hg; clear HO_5; clear HO_6; clear HB; have HO_5 := n0_; have HO_6 := n1_; have HB := n2_; have BK179 := n3_; have GW179 := n4_; have GE179 := n5_; clear n0_ n1_ n2_ n3_ n4_ n5_; clear hb hbox hg; have hcz18_0 : w17.cell? ⟨gb179, 0, none⟩ = some (.string (⟨#[]⟩ : ByteArray)) := (blk_cell BK179.out 0).trans rfl; have hcz18_1 : w17.cell? ⟨gb179, 1, none⟩ = some (.int .i64 0) := (blk_cell BK179.out 1).trans rfl; have hcz18_2 : w17.cell? ⟨gb179, 2, none⟩ = some (.int .i64 0) := (blk_cell BK179.out 2).trans rfl; have hcz18_3 : w17.cell? ⟨gb179, 3, none⟩ = some (.string (⟨#[]⟩ : ByteArray)) := (blk_cell BK179.out 3).trans rfl; have hfz18_0 := blk_frozen BK179.out 0; have hfz18_1 := blk_frozen BK179.out 1; have hfz18_2 := blk_frozen BK179.out 2; have hfz18_3 := blk_frozen BK179.out 3))
       go_roundg k1
       case measure => have := HK1.out; omega
       case rel => exact ⟨(x5_1), (wrap64 (x7_1 + 1)), (by first | rfl | (simp; done) | (simp [*]; done)), H', ⟨by have := HK1.out; omega⟩, ⟨by (with_reducible repeat (first | apply Kd.R_alloc | apply Kd.R_drewN | apply Kd.R_drew)); exact Kd.R_mono (Kd.R_far (p := ⟨gb179, 3, none⟩) (Kd.R_far (p := ⟨gb179, 2, none⟩) (Kd.R_far (p := ⟨gb179, 1, none⟩) (Kd.R_far (p := ⟨gb179, 0, none⟩) (Kd.R_mono HO_5.out (fun k_ hk => (⟨hk, hk.2⟩ : _ ∧ k_ ≠ gb179))) (fun _ hk => hk.2) (.string t174)) (fun _ hk => hk.2) (.int .i64 t175)) (fun _ hk => hk.2) (.int .i64 t176)) (fun _ hk => hk.2) (.string t177)) (fun _ hk => hk.1.1)⟩, ⟨by (with_reducible repeat (first | apply Kd.R_alloc | apply Kd.R_drewN | apply Kd.R_drew)); exact Kd.R_mono (Kd.R_far (p := ⟨gb179, 3, none⟩) (Kd.R_far (p := ⟨gb179, 2, none⟩) (Kd.R_far (p := ⟨gb179, 1, none⟩) (Kd.R_far (p := ⟨gb179, 0, none⟩) (Kd.R_mono HO_6.out (fun k_ hk => (⟨hk, hk.2⟩ : _ ∧ k_ ≠ gb179))) (fun _ hk => hk.2) (.string t174)) (fun _ hk => hk.2) (.int .i64 t175)) (fun _ hk => hk.2) (.int .i64 t176)) (fun _ hk => hk.2) (.string t177)) (fun _ hk => hk.1.1)⟩, ⟨by repeat (first | (with_reducible first | exact HB.out | apply below_alloc | apply pw_below_drewN | apply below_drew1 | refine below_set ?_ GE179.out) | exact HB.out)⟩⟩
      ·replace c13 := Bool.eq_false_iff.mpr c13
       subst c13
       have H1 : (if (x5_1.length : Int) < 16 then (if x5_1.length < 2932031007402 then (dragnetlaw08_FieldParts.l0 k1 l0 l1 (x5_1 ++ [(⟨(rd_T28 t170 x7_1).f0, (rd_T28 t170 x7_1).f1, (rd_T28 t170 x7_1).f2, (rd_T28 t170 x7_1).f3⟩ : S28)]) t170 (wrap64 (x7_1 + 1))) else (none)) else (dragnetlaw08_FieldParts.l0 k1 l0 l1 x5_1 t170 (wrap64 (x7_1 + 1)))) = some true := by rw [if_neg (show ¬ (false = true) by decide)] at H; exact H
       clear H
       have H := H1
       clear H1
       by_cases c19 : (x5_1.length : Int) < 16
       ·rw [if_pos c19] at H
        have c19b0 : decide ((x5_1.length : Int) < 16) = true := decide_eq_true c19
        have c19b1 : decide (x5_1.length < 16) = true := decide_eq_true (by omega)
        clear c19
        by_cases c20 : x5_1.length < 2932031007402
        ·rw [if_pos c20] at H
         have LMc20 := Aside0.mk c20
         clear c20
         obtain ⟨y181, hy181⟩ : ∃ y_ : List (S28), y_ = (x5_1 ++ [(⟨(rd_T28 t170 x7_1).f0, (rd_T28 t170 x7_1).f1, (rd_T28 t170 x7_1).f2, (rd_T28 t170 x7_1).f3⟩ : S28)]) := ⟨_, rfl⟩
         replace H : (dragnetlaw08_FieldParts.l0 k1 l0 l1 y181 t170 (wrap64 (x7_1 + 1))) = some true := by first | (rw [hy181]; with_reducible exact H) | (have H2_ := (Option.bind_some _ _).symm.trans H; rw [hy181]; with_reducible exact H2_) | (have H2_ := (Option.bind_some _ _).symm.trans H; with_reducible exact H2_) | with_reducible exact H | (rw [hy181]; exact H) | exact H
         have Ny181 := Aside0.mk hy181
         clear hy181
         have H' := Aside0.mk H
         clear H
         obtain ⟨Ao21, co21, eo21⟩ := Kd.R_slice HO_6.out
         subst eo21
         have p173 : 0 ≤ (x7_1 : Int) := of_decide_eq_true (by first | (with_reducible assumption) | assumption)
         have q173 : x7_1 < (t170.length : Int) := of_decide_eq_true (by first | (with_reducible assumption) | assumption)
         obtain ⟨ad173, e173, hx173_0, hx173_1, hx173_2, hx173_3⟩ := at_T28 (Kd.R_reads' HO_6.out).2.2 x7_1 p173 q173
         cases e173
         replace p173 := eq_true p173
         replace q173 := eq_true q173
         obtain ⟨Ao22, co22, eo22⟩ := Kd.R_slice HO_5.out
         subst eo22
         go_wp2_with (first | ((with_reducible refine gate_callee (f := 14) rfl ?_); refine goesL_ (some 30) rfl rfl Tryd.func14 (by kernel_rfl) rfl #[.slice Ao22 x5_1.length co22, .string ((rd_T28 t170 x7_1).f0)] rfl (by (try simp only [List.map_toArray, List.map_cons, List.map_nil]); first | done | rfl | (simp only [List.length_drop, List.length_take]; rfl)) ?_; (with_reducible refine (dragnetref08_At.calls k1 _ _ x5_1 ((rd_T28 t170 x7_1).f0) t174 t175 t176 t177 false _ ?side1 ?side2 A12.out).mono ?_); (case side1 => repeat (first | exact (Kd.R_reads' HO_5.out).2.2 | (with_reducible refine Kd.C_alloc ?_ _) | (with_reducible refine Kd.C_drewN ?_ _) | (with_reducible refine Kd.C_drew ?_))); (case side2 => exact (Kd.R_reads' HO_5.out).2.1); rintro e w23 ⟨rfl, hb⟩; refine ⟨_, rfl, ?_⟩; have n0_ := rbA HO_5 hb; have n1_ := rbA HO_6 hb; have n2_ := bsA HB hb; clear HO_5; clear HO_6; clear HB; have HO_5 := n0_; have HO_6 := n1_; have HB := n2_; clear n0_ n1_ n2_; (try clear hb); (try clear hb2); (try clear hk); (try clear hi)) | ((with_reducible refine gate_dst (N := 8) rfl ?_); (try (refine gate_guard (by rfl) ?_; dsimp only)); refine box_event ?hg (N := 8) ?hd (cs := #[.string (⟨#[]⟩ : ByteArray), .int .i64 0, .int .i64 0, .string (⟨#[]⟩ : ByteArray)]) (t := 28) ?hr ?_; (case hd => rfl); (case hg => rfl); (case hr => first | (go_simp; done) | (go_simp; rfl)); intro gb179 hg w24 hbox hb; have n0_ := Aside0.mk (Kd.R_below (Kd.R_elderB (by (with_reducible repeat (first | apply Kd.R_alloc | apply Kd.R_drewN | apply Kd.R_drew)); exact HO_5.out) gb179 (Nat.le_of_eq hg.symm)) hb); have n1_ := Aside0.mk (Kd.R_below (Kd.R_elderB (by (with_reducible repeat (first | apply Kd.R_alloc | apply Kd.R_drewN | apply Kd.R_drew)); exact HO_6.out) gb179 (Nat.le_of_eq hg.symm)) hb); have n2_ := bsA HB hb; have n3_ := Aside0.mk (hbox); have n4_ := szA HB hg; have n5_ := szA HB hg; clear HO_5; clear HO_6; clear HB; have HO_5 := n0_; have HO_6 := n1_; have HB := n2_; have BK179 := n3_; have GW179 := n4_; have GE179 := n5_; clear n0_ n1_ n2_ n3_ n4_ n5_; clear hb hbox hg; have hcz25_0 : w24.cell? ⟨gb179, 0, none⟩ = some (.string (⟨#[]⟩ : ByteArray)) := (blk_cell BK179.out 0).trans rfl; have hcz25_1 : w24.cell? ⟨gb179, 1, none⟩ = some (.int .i64 0) := (blk_cell BK179.out 1).trans rfl; have hcz25_2 : w24.cell? ⟨gb179, 2, none⟩ = some (.int .i64 0) := (blk_cell BK179.out 2).trans rfl; have hcz25_3 : w24.cell? ⟨gb179, 3, none⟩ = some (.string (⟨#[]⟩ : ByteArray)) := (blk_cell BK179.out 3).trans rfl; have hfz25_0 := blk_frozen BK179.out 0; have hfz25_1 := blk_frozen BK179.out 1; have hfz25_2 := blk_frozen BK179.out 2; have hfz25_3 := blk_frozen BK179.out 3; have p180 : 0 ≤ (x7_1 : Int) := of_decide_eq_true (by first | (with_reducible assumption) | assumption); have q180 : x7_1 < (t170.length : Int) := of_decide_eq_true (by first | (with_reducible assumption) | assumption); obtain ⟨ad180, e180, hx180_0, hx180_1, hx180_2, hx180_3⟩ := at_T28 (Kd.R_reads' HO_6.out).2.2 x7_1 p180 q180; obtain rfl : ad173 = ad180 := (by injection e180); have hn180_0 : ad173.block ≠ gb179 := Kd.own_blk (rnA HO_6 BK179); have hn180_1 : ad173.block ≠ gb179 := Kd.own_blk (rnA HO_6 BK179); have hn180_2 : ad173.block ≠ gb179 := Kd.own_blk (rnA HO_6 BK179); have hn180_3 : ad173.block ≠ gb179 := Kd.own_blk (rnA HO_6 BK179); replace hx180_0 := (cell_far (p := ⟨gb179, 0, none⟩) (by first | (rw [add_block]; exact hn180_0) | (show (Addr.add _ _).block ≠ _; rw [add_block]; exact hn180_0) | exact hn180_0) (.string t174)).trans hx180_0; replace hx180_1 := (cell_far (p := ⟨gb179, 0, none⟩) (by first | (rw [add_block]; exact hn180_0) | (show (Addr.add _ _).block ≠ _; rw [add_block]; exact hn180_0) | exact hn180_0) (.string t174)).trans hx180_1; replace hx180_2 := (cell_far (p := ⟨gb179, 0, none⟩) (by first | (rw [add_block]; exact hn180_0) | (show (Addr.add _ _).block ≠ _; rw [add_block]; exact hn180_0) | exact hn180_0) (.string t174)).trans hx180_2; replace hx180_3 := (cell_far (p := ⟨gb179, 0, none⟩) (by first | (rw [add_block]; exact hn180_0) | (show (Addr.add _ _).block ≠ _; rw [add_block]; exact hn180_0) | exact hn180_0) (.string t174)).trans hx180_3; replace hx180_0 := (cell_far (p := ⟨gb179, 1, none⟩) (by first | (rw [add_block]; exact hn180_1) | (show (Addr.add _ _).block ≠ _; rw [add_block]; exact hn180_1) | exact hn180_1) (.int .i64 t175)).trans hx180_0; replace hx180_1 := (cell_far (p := ⟨gb179, 1, none⟩) (by first | (rw [add_block]; exact hn180_1) | (show (Addr.add _ _).block ≠ _; rw [add_block]; exact hn180_1) | exact hn180_1) (.int .i64 t175)).trans hx180_1; replace hx180_2 := (cell_far (p := ⟨gb179, 1, none⟩) (by first | (rw [add_block]; exact hn180_1) | (show (Addr.add _ _).block ≠ _; rw [add_block]; exact hn180_1) | exact hn180_1) (.int .i64 t175)).trans hx180_2; replace hx180_3 := (cell_far (p := ⟨gb179, 1, none⟩) (by first | (rw [add_block]; exact hn180_1) | (show (Addr.add _ _).block ≠ _; rw [add_block]; exact hn180_1) | exact hn180_1) (.int .i64 t175)).trans hx180_3; replace hx180_0 := (cell_far (p := ⟨gb179, 2, none⟩) (by first | (rw [add_block]; exact hn180_2) | (show (Addr.add _ _).block ≠ _; rw [add_block]; exact hn180_2) | exact hn180_2) (.int .i64 t176)).trans hx180_0; replace hx180_1 := (cell_far (p := ⟨gb179, 2, none⟩) (by first | (rw [add_block]; exact hn180_2) | (show (Addr.add _ _).block ≠ _; rw [add_block]; exact hn180_2) | exact hn180_2) (.int .i64 t176)).trans hx180_1; replace hx180_2 := (cell_far (p := ⟨gb179, 2, none⟩) (by first | (rw [add_block]; exact hn180_2) | (show (Addr.add _ _).block ≠ _; rw [add_block]; exact hn180_2) | exact hn180_2) (.int .i64 t176)).trans hx180_2; replace hx180_3 := (cell_far (p := ⟨gb179, 2, none⟩) (by first | (rw [add_block]; exact hn180_2) | (show (Addr.add _ _).block ≠ _; rw [add_block]; exact hn180_2) | exact hn180_2) (.int .i64 t176)).trans hx180_3; replace hx180_0 := (cell_far (p := ⟨gb179, 3, none⟩) (by first | (rw [add_block]; exact hn180_3) | (show (Addr.add _ _).block ≠ _; rw [add_block]; exact hn180_3) | exact hn180_3) (.string t177)).trans hx180_0; replace hx180_1 := (cell_far (p := ⟨gb179, 3, none⟩) (by first | (rw [add_block]; exact hn180_3) | (show (Addr.add _ _).block ≠ _; rw [add_block]; exact hn180_3) | exact hn180_3) (.string t177)).trans hx180_1; replace hx180_2 := (cell_far (p := ⟨gb179, 3, none⟩) (by first | (rw [add_block]; exact hn180_3) | (show (Addr.add _ _).block ≠ _; rw [add_block]; exact hn180_3) | exact hn180_3) (.string t177)).trans hx180_2; replace hx180_3 := (cell_far (p := ⟨gb179, 3, none⟩) (by first | (rw [add_block]; exact hn180_3) | (show (Addr.add _ _).block ≠ _; rw [add_block]; exact hn180_3) | exact hn180_3) (.string t177)).trans hx180_3; clear hn180_0; clear hn180_1; clear hn180_2; clear hn180_3; replace p180 := eq_true p180; replace q180 := eq_true q180) | ((with_reducible refine gate_builtin (b := .append) (xs := #[.tmp 40, .tmp 45]) rfl ?_); (try (refine gate_guard (by rfl) ?_; dsimp only)); at_builtin; refine Kd.R_append k28 (w0 := w) w.heap.size rfl (.tmp 40) (.tmp 45) 25 28 (.agg #[(.string ⟨#[]⟩), (.int .i64 0), (.int .i64 0), (.string ⟨#[]⟩)]) 48 rfl Tryd.underlying25 info28 rfl (by decide) (by omega) (.slice Ao22 x5_1.length co22) x5_1 (⟨(rd_T28 t170 x7_1).f0, (rd_T28 t170 x7_1).f1, (rd_T28 t170 x7_1).f2, (rd_T28 t170 x7_1).f3⟩ : S28) [.string ((rd_T28 t170 x7_1).f0), .int .i64 ((rd_T28 t170 x7_1).f1), .int .i64 ((rd_T28 t170 x7_1).f2), .string ((rd_T28 t170 x7_1).f3)] (fun k_ => some k_ ≠ (.slice (some ad173) t170.length co21 : Value).ownBlock ∧ k_ ≠ gb179) (fun _ => False) rfl (by first | (go_simp; done) | (go_simp; rfl)) ?aP (fun _ hk => hk.elim) ?aF ?aO ?aB ?aS ?aL ?_; (case aP => exact k28_mkM _ _ _ (⟨(rd_T28 t170 x7_1).f0, (rd_T28 t170 x7_1).f1, (rd_T28 t170 x7_1).f2, (rd_T28 t170 x7_1).f3⟩ : S28)); (case aB => exact (by repeat (first | (with_reducible first | exact HB.out | apply below_alloc | apply pw_below_drewN | apply below_drew1 | refine below_set ?_ GE179.out) | exact HB.out))); (case aF => exact (fun k_ hk => ⟨Kd.fresh' (Kd.R_lt (by (with_reducible repeat (first | apply Kd.R_alloc | apply Kd.R_drewN | apply Kd.R_drew)); exact (Kd.R_mono (Kd.R_far (p := ⟨gb179, 3, none⟩) (Kd.R_far (p := ⟨gb179, 2, none⟩) (Kd.R_far (p := ⟨gb179, 1, none⟩) (Kd.R_far (p := ⟨gb179, 0, none⟩) (Kd.R_mono HO_6.out (fun k_ hk => (⟨hk, hk.2⟩ : _ ∧ k_ ≠ gb179))) (fun _ hk => hk.2) (.string t174)) (fun _ hk => hk.2) (.int .i64 t175)) (fun _ hk => hk.2) (.int .i64 t176)) (fun _ hk => hk.2) (.string t177)) (fun _ h_ => h_.1)))) k_ hk, Kd.freshB (g := gb179) (o := .cells #[.string t174, .int .i64 t175, .int .i64 t176, .string t177] 28 (0, 0)) (by (with_reducible repeat (first | refine blk_drewN ?_ _ | refine blk_drew ?_ | refine blk_alloc ?_ _)); refine blk_put (cs := #[.string t174, .int .i64 t175, .int .i64 t176, .string (⟨#[]⟩ : ByteArray)]) ?_ 3 _ rfl; (with_reducible repeat (first | refine blk_drewN ?_ _ | refine blk_drew ?_ | refine blk_alloc ?_ _)); refine blk_put (cs := #[.string t174, .int .i64 t175, .int .i64 0, .string (⟨#[]⟩ : ByteArray)]) ?_ 2 _ rfl; (with_reducible repeat (first | refine blk_drewN ?_ _ | refine blk_drew ?_ | refine blk_alloc ?_ _)); refine blk_put (cs := #[.string t174, .int .i64 0, .int .i64 0, .string (⟨#[]⟩ : ByteArray)]) ?_ 1 _ rfl; (with_reducible repeat (first | refine blk_drewN ?_ _ | refine blk_drew ?_ | refine blk_alloc ?_ _)); refine blk_put (cs := #[.string (⟨#[]⟩ : ByteArray), .int .i64 0, .int .i64 0, .string (⟨#[]⟩ : ByteArray)]) ?_ 0 _ rfl; (with_reducible repeat (first | refine blk_drewN ?_ _ | refine blk_drew ?_ | refine blk_alloc ?_ _)); exact BK179.out) k_ hk⟩)); (case aO => exact (by (with_reducible repeat (first | apply Kd.R_alloc | apply Kd.R_drewN | apply Kd.R_drew)); exact Kd.R_mono (Kd.R_far (p := ⟨gb179, 3, none⟩) (Kd.R_far (p := ⟨gb179, 2, none⟩) (Kd.R_far (p := ⟨gb179, 1, none⟩) (Kd.R_far (p := ⟨gb179, 0, none⟩) (Kd.R_mono HO_5.out (fun k_ hk => (⟨hk, hk.2⟩ : _ ∧ k_ ≠ gb179))) (fun _ hk => hk.2) (.string t174)) (fun _ hk => hk.2) (.int .i64 t175)) (fun _ hk => hk.2) (.int .i64 t176)) (fun _ hk => hk.2) (.string t177)) (fun _ hk => ⟨hk.1.1, hk.1.2⟩))); (case aS => exact (below_size (by repeat (first | (with_reducible first | exact HB.out | apply below_alloc | apply pw_below_drewN | apply below_drew1 | refine below_set ?_ GE179.out) | exact HB.out)))); (case aL => have := LMc20.out; omega); intro v182 w26 ho hb hg hat; rw [← Ny181.out] at ho; have n0_ := Aside0.mk (Kd.R_after (ok := (fun k_ => k_ ≠ gb179)) (by (with_reducible repeat (first | apply Kd.R_alloc | apply Kd.R_drewN | apply Kd.R_drew)); exact Kd.R_mono (Kd.R_far (p := ⟨gb179, 3, none⟩) (Kd.R_far (p := ⟨gb179, 2, none⟩) (Kd.R_far (p := ⟨gb179, 1, none⟩) (Kd.R_far (p := ⟨gb179, 0, none⟩) (Kd.R_mono HO_6.out (fun k_ hk => (⟨hk, hk.2⟩ : _ ∧ k_ ≠ gb179))) (fun _ hk => hk.2) (.string t174)) (fun _ hk => hk.2) (.int .i64 t175)) (fun _ hk => hk.2) (.int .i64 t176)) (fun _ hk => hk.2) (.string t177)) (fun _ hk => ⟨hk.1.2, hk.1.1⟩)) hg hat); have n1_ := Aside0.mk (blk_grown (g := gb179) (o := .cells #[.string t174, .int .i64 t175, .int .i64 t176, .string t177] 28 (0, 0)) (by (with_reducible repeat (first | refine blk_drewN ?_ _ | refine blk_drew ?_ | refine blk_alloc ?_ _)); refine blk_put (cs := #[.string t174, .int .i64 t175, .int .i64 t176, .string (⟨#[]⟩ : ByteArray)]) ?_ 3 _ rfl; (with_reducible repeat (first | refine blk_drewN ?_ _ | refine blk_drew ?_ | refine blk_alloc ?_ _)); refine blk_put (cs := #[.string t174, .int .i64 t175, .int .i64 0, .string (⟨#[]⟩ : ByteArray)]) ?_ 2 _ rfl; (with_reducible repeat (first | refine blk_drewN ?_ _ | refine blk_drew ?_ | refine blk_alloc ?_ _)); refine blk_put (cs := #[.string t174, .int .i64 0, .int .i64 0, .string (⟨#[]⟩ : ByteArray)]) ?_ 1 _ rfl; (with_reducible repeat (first | refine blk_drewN ?_ _ | refine blk_drew ?_ | refine blk_alloc ?_ _)); refine blk_put (cs := #[.string (⟨#[]⟩ : ByteArray), .int .i64 0, .int .i64 0, .string (⟨#[]⟩ : ByteArray)]) ?_ 0 _ rfl; (with_reducible repeat (first | refine blk_drewN ?_ _ | refine blk_drew ?_ | refine blk_alloc ?_ _)); exact BK179.out) hg (Kd.R_away HO_5.out (fun _ hk => hk.2))); have n2_ := Aside0.mk (hb); have n3_ := Aside0.mk (ho); clear HO_6; clear BK179; clear HB; clear HO_5; have HO_6 := n0_; have BK179 := n1_; have HB := n2_; have HO183 := n3_; clear n0_ n1_ n2_ n3_; clear ho hb hg hat))
         go_roundg k1
         case measure => have := HK1.out; omega
         case rel => exact ⟨(y181), (wrap64 (x7_1 + 1)), (by first | rfl | (simp; done) | (simp [*]; done)), H', ⟨by have := HK1.out; omega⟩, ⟨by (with_reducible repeat (first | apply Kd.R_alloc | apply Kd.R_drewN | apply Kd.R_drew)); exact Kd.R_mono HO183.out (fun _ hk => hk.1)⟩, ⟨by (with_reducible repeat (first | apply Kd.R_alloc | apply Kd.R_drewN | apply Kd.R_drew)); exact Kd.R_mono HO_6.out (fun _ hk => hk.2)⟩, ⟨by repeat (first | (with_reducible first | exact HB.out | apply below_alloc | apply pw_below_drewN | apply below_drew1 | refine below_set ?_ GE179.out) | exact HB.out)⟩⟩
        ·rw [if_neg c20] at H
         exact absurd H (by simp)
       ·rw [if_neg c19] at H
        have c19b0 : decide ((x5_1.length : Int) < 16) = false := decide_eq_false c19
        have c19b1 : decide (x5_1.length < 16) = false := decide_eq_false (by omega)
        clear c19
        have H' := Aside0.mk H
        clear H
        obtain ⟨Ao27, co27, eo27⟩ := Kd.R_slice HO_6.out
        subst eo27
        have p173 : 0 ≤ (x7_1 : Int) := of_decide_eq_true (by first | (with_reducible assumption) | assumption)
        have q173 : x7_1 < (t170.length : Int) := of_decide_eq_true (by first | (with_reducible assumption) | assumption)
        obtain ⟨ad173, e173, hx173_0, hx173_1, hx173_2, hx173_3⟩ := at_T28 (Kd.R_reads' HO_6.out).2.2 x7_1 p173 q173
        cases e173
        replace p173 := eq_true p173
        replace q173 := eq_true q173
        obtain ⟨Ao28, co28, eo28⟩ := Kd.R_slice HO_5.out
        subst eo28
        go_wp2_with (first | ((with_reducible refine gate_callee (f := 14) rfl ?_); refine goesL_ (some 30) rfl rfl Tryd.func14 (by kernel_rfl) rfl #[.slice Ao28 x5_1.length co28, .string ((rd_T28 t170 x7_1).f0)] rfl (by (try simp only [List.map_toArray, List.map_cons, List.map_nil]); first | done | rfl | (simp only [List.length_drop, List.length_take]; rfl)) ?_; (with_reducible refine (dragnetref08_At.calls k1 _ _ x5_1 ((rd_T28 t170 x7_1).f0) t174 t175 t176 t177 false _ ?side1 ?side2 A12.out).mono ?_); (case side1 => repeat (first | exact (Kd.R_reads' HO_5.out).2.2 | (with_reducible refine Kd.C_alloc ?_ _) | (with_reducible refine Kd.C_drewN ?_ _) | (with_reducible refine Kd.C_drew ?_))); (case side2 => exact (Kd.R_reads' HO_5.out).2.1); rintro e w29 ⟨rfl, hb⟩; refine ⟨_, rfl, ?_⟩; have n0_ := rbA HO_5 hb; have n1_ := rbA HO_6 hb; have n2_ := bsA HB hb; clear HO_5; clear HO_6; clear HB; have HO_5 := n0_; have HO_6 := n1_; have HB := n2_; clear n0_ n1_ n2_; (try clear hb); (try clear hb2); (try clear hk); (try clear hi)) | ((with_reducible refine gate_dst (N := 8) rfl ?_); (try (refine gate_guard (by rfl) ?_; dsimp only)); refine box_event ?hg (N := 8) ?hd (cs := #[.string (⟨#[]⟩ : ByteArray), .int .i64 0, .int .i64 0, .string (⟨#[]⟩ : ByteArray)]) (t := 28) ?hr ?_; (case hd => rfl); (case hg => rfl); (case hr => first | (go_simp; done) | (go_simp; rfl)); intro gb179 hg w30 hbox hb; have n0_ := Aside0.mk (Kd.R_below (Kd.R_elderB (by (with_reducible repeat (first | apply Kd.R_alloc | apply Kd.R_drewN | apply Kd.R_drew)); exact HO_5.out) gb179 (Nat.le_of_eq hg.symm)) hb); have n1_ := Aside0.mk (Kd.R_below (Kd.R_elderB (by (with_reducible repeat (first | apply Kd.R_alloc | apply Kd.R_drewN | apply Kd.R_drew)); exact HO_6.out) gb179 (Nat.le_of_eq hg.symm)) hb); have n2_ := bsA HB hb; have n3_ := Aside0.mk (hbox); have n4_ := szA HB hg; have n5_ := szA HB hg; clear HO_5; clear HO_6; clear HB; have HO_5 := n0_; have HO_6 := n1_; have HB := n2_; have BK179 := n3_; have GW179 := n4_; have GE179 := n5_; clear n0_ n1_ n2_ n3_ n4_ n5_; clear hb hbox hg; have hcz31_0 : w30.cell? ⟨gb179, 0, none⟩ = some (.string (⟨#[]⟩ : ByteArray)) := (blk_cell BK179.out 0).trans rfl; have hcz31_1 : w30.cell? ⟨gb179, 1, none⟩ = some (.int .i64 0) := (blk_cell BK179.out 1).trans rfl; have hcz31_2 : w30.cell? ⟨gb179, 2, none⟩ = some (.int .i64 0) := (blk_cell BK179.out 2).trans rfl; have hcz31_3 : w30.cell? ⟨gb179, 3, none⟩ = some (.string (⟨#[]⟩ : ByteArray)) := (blk_cell BK179.out 3).trans rfl; have hfz31_0 := blk_frozen BK179.out 0; have hfz31_1 := blk_frozen BK179.out 1; have hfz31_2 := blk_frozen BK179.out 2; have hfz31_3 := blk_frozen BK179.out 3))
        go_roundg k1
        case measure => have := HK1.out; omega
        case rel => exact ⟨(x5_1), (wrap64 (x7_1 + 1)), (by first | rfl | (simp; done) | (simp [*]; done)), H', ⟨by have := HK1.out; omega⟩, ⟨by (with_reducible repeat (first | apply Kd.R_alloc | apply Kd.R_drewN | apply Kd.R_drew)); exact Kd.R_mono (Kd.R_far (p := ⟨gb179, 3, none⟩) (Kd.R_far (p := ⟨gb179, 2, none⟩) (Kd.R_far (p := ⟨gb179, 1, none⟩) (Kd.R_far (p := ⟨gb179, 0, none⟩) (Kd.R_mono HO_5.out (fun k_ hk => (⟨hk, hk.2⟩ : _ ∧ k_ ≠ gb179))) (fun _ hk => hk.2) (.string t174)) (fun _ hk => hk.2) (.int .i64 t175)) (fun _ hk => hk.2) (.int .i64 t176)) (fun _ hk => hk.2) (.string t177)) (fun _ hk => hk.1.1)⟩, ⟨by (with_reducible repeat (first | apply Kd.R_alloc | apply Kd.R_drewN | apply Kd.R_drew)); exact Kd.R_mono (Kd.R_far (p := ⟨gb179, 3, none⟩) (Kd.R_far (p := ⟨gb179, 2, none⟩) (Kd.R_far (p := ⟨gb179, 1, none⟩) (Kd.R_far (p := ⟨gb179, 0, none⟩) (Kd.R_mono HO_6.out (fun k_ hk => (⟨hk, hk.2⟩ : _ ∧ k_ ≠ gb179))) (fun _ hk => hk.2) (.string t174)) (fun _ hk => hk.2) (.int .i64 t175)) (fun _ hk => hk.2) (.int .i64 t176)) (fun _ hk => hk.2) (.string t177)) (fun _ hk => hk.1.1)⟩, ⟨by repeat (first | (with_reducible first | exact HB.out | apply below_alloc | apply pw_below_drewN | apply below_drew1 | refine below_set ?_ GE179.out) | exact HB.out)⟩⟩
     ·rw [if_neg c11] at H
      exact absurd H (by simp)
    ·rw [if_neg c10] at H
     have c10b0 : decide (x7_1 < (t170.length : Int)) = false := decide_eq_false c10
     clear c10
     replace H := Option.bind_eq_some_iff.mp H
     obtain ⟨t184, A320, H⟩ := H
     replace H : (if t184.length < 140737488355328 then ((some (t184 ++ [32] : List Int)).bind fun y187 => (if y187.length + l1.length < 140737488355328 then ((field_Read.f (y187 ++ l1)).bind fun t193 => (if (t170.length : Int) = 16 then (if (t193.length : Int) ≥ (x5_1.length : Int) then (if 0 ≤ (x5_1.length : Int) then (if (x5_1.length : Int) ≤ (t193.length : Int) then ((dragnetref08_Same.f k1 (t193.take ((x5_1.length : Int) : Int).toNat) x5_1).bind fun t200 => (some t200)) else (none)) else (none)) else (some false)) else ((dragnetref08_Same.f k1 t193 x5_1).bind fun t201 => (some t201)))) else (none))) else (none)) = some true := H
     have A32 := Aside0.mk A320
     clear A320
     by_cases c33 : t184.length < 140737488355328
     ·rw [if_pos c33] at H
      have LMc33 := Aside0.mk c33
      clear c33
      obtain ⟨y187, hy187⟩ : ∃ y_ : List Int, y_ = (t184 ++ [32]) := ⟨_, rfl⟩
      replace H : (if y187.length + l1.length < 140737488355328 then ((field_Read.f (y187 ++ l1)).bind fun t193 => (if (t170.length : Int) = 16 then (if (t193.length : Int) ≥ (x5_1.length : Int) then (if 0 ≤ (x5_1.length : Int) then (if (x5_1.length : Int) ≤ (t193.length : Int) then ((dragnetref08_Same.f k1 (t193.take ((x5_1.length : Int) : Int).toNat) x5_1).bind fun t200 => (some t200)) else (none)) else (none)) else (some false)) else ((dragnetref08_Same.f k1 t193 x5_1).bind fun t201 => (some t201)))) else (none)) = some true := by first | (rw [hy187]; with_reducible exact H) | (have H2_ := (Option.bind_some _ _).symm.trans H; rw [hy187]; with_reducible exact H2_) | (have H2_ := (Option.bind_some _ _).symm.trans H; with_reducible exact H2_) | with_reducible exact H | (rw [hy187]; exact H) | exact H
      have Ny187 := Aside0.mk hy187
      clear hy187
      by_cases c34 : y187.length + l1.length < 140737488355328
      ·rw [if_pos c34] at H
       have LMc34 := Aside0.mk c34
       clear c34
       obtain ⟨y190, hy190⟩ : ∃ y_ : List Int, y_ = (y187 ++ l1) := ⟨_, rfl⟩
       replace H : ((field_Read.f y190).bind fun t193 => (if (t170.length : Int) = 16 then (if (t193.length : Int) ≥ (x5_1.length : Int) then (if 0 ≤ (x5_1.length : Int) then (if (x5_1.length : Int) ≤ (t193.length : Int) then ((dragnetref08_Same.f k1 (t193.take ((x5_1.length : Int) : Int).toNat) x5_1).bind fun t200 => (some t200)) else (none)) else (none)) else (some false)) else ((dragnetref08_Same.f k1 t193 x5_1).bind fun t201 => (some t201)))) = some true := by first | (rw [hy190]; with_reducible exact H) | (have H2_ := (Option.bind_some _ _).symm.trans H; rw [hy190]; with_reducible exact H2_) | (have H2_ := (Option.bind_some _ _).symm.trans H; with_reducible exact H2_) | with_reducible exact H | (rw [hy190]; exact H) | exact H
       have Ny190 := Aside0.mk hy190
       clear hy190
       replace H := Option.bind_eq_some_iff.mp H
       obtain ⟨t193, A350, H⟩ := H
       replace H : (if (t170.length : Int) = 16 then (if (t193.length : Int) ≥ (x5_1.length : Int) then (if 0 ≤ (x5_1.length : Int) then (if (x5_1.length : Int) ≤ (t193.length : Int) then ((dragnetref08_Same.f k1 (t193.take ((x5_1.length : Int) : Int).toNat) x5_1).bind fun t200 => (some t200)) else (none)) else (none)) else (some false)) else ((dragnetref08_Same.f k1 t193 x5_1).bind fun t201 => (some t201))) = some true := H
       have A35 := Aside0.mk A350
       clear A350
       by_cases c36 : (t170.length : Int) = 16
       ·rw [if_pos c36] at H
        have c36b0 : ((t170.length : Int) == 16) = true := beq_iff_eq.mpr c36
        have c36b1 : ((t170.length : Int) != 16) = false := bne_eq_false_iff_eq.mpr c36
        clear c36
        by_cases c37 : (t193.length : Int) ≥ (x5_1.length : Int)
        ·rw [if_pos c37] at H
         have c37b0 : decide ((x5_1.length : Int) ≤ (t193.length : Int)) = true := decide_eq_true c37
         have c37b1 : decide (x5_1.length ≤ t193.length) = true := decide_eq_true (Int.ofNat_le.mp c37)
         clear c37
         by_cases c38 : 0 ≤ (x5_1.length : Int)
         ·rw [if_pos c38] at H
          have c38b0 := eq_true c38
          have c38b1 : decide (0 ≤ (x5_1.length : Int)) = true := decide_eq_true c38
          clear c38
          by_cases c39 : (x5_1.length : Int) ≤ (t193.length : Int)
          ·rw [if_pos c39] at H
           have c39b0 := eq_true c39
           have c39b1 : decide ((x5_1.length : Int) ≤ (t193.length : Int)) = true := decide_eq_true c39
           clear c39
           obtain ⟨y196, hy196⟩ : ∃ y_ : List (S28), y_ = (t193.take ((x5_1.length : Int) : Int).toNat) := ⟨_, rfl⟩
           replace H : ((dragnetref08_Same.f k1 y196 x5_1).bind fun t200 => (some t200)) = some true := by first | (rw [hy196]; with_reducible exact H) | (have H2_ := (Option.bind_some _ _).symm.trans H; rw [hy196]; with_reducible exact H2_) | (have H2_ := (Option.bind_some _ _).symm.trans H; with_reducible exact H2_) | with_reducible exact H | (rw [hy196]; exact H) | exact H
           have Ny196 := Aside0.mk hy196
           clear hy196
           replace H := Option.bind_eq_some_iff.mp H
           obtain ⟨t200, A400, H⟩ := H
           replace H : (some t200) = some true := H
           have A40 := Aside0.mk A400
           clear A400
           have Hr_ := Option.some.inj H
           obtain ⟨Ao41, co41, eo41⟩ := Kd.R_slice HO_6.out
           subst eo41
           go_wp2_with (first | ((with_reducible refine gate_callee (f := 15) rfl ?_); refine goesL_ (some 48) rfl rfl Tryd.func15 (by kernel_rfl) rfl #[.slice A0 l0.length c0] rfl (by (try simp only [List.map_toArray, List.map_cons, List.map_nil]); first | done | rfl | (simp only [List.length_drop, List.length_take]; rfl)) ?_; (with_reducible refine (dragnetref01_Copy.calls _ _ l0 t184 _ ?side1 ?side2 A32.out).mono ?_); (case side1 => repeat (first | exact (Kd.C_below HR0.out HB.out) | (with_reducible refine Kd.C_alloc ?_ _) | (with_reducible refine Kd.C_drewN ?_ _) | (with_reducible refine Kd.C_drew ?_))); (case side2 => exact HC0.out); rintro e w42 ⟨v185, rfl, ho0, hb⟩; refine ⟨_, rfl, ?_⟩; have n0_ := rbA HO_5 hb; have n1_ := rbA HO_6 hb; have n2_ := Aside0.mk (Kd.R_lower ho0 (below_size (by repeat (first | (with_reducible first | exact HB.out | apply below_alloc | apply pw_below_drewN | apply below_drew1) | exact HB.out)))); have n3_ := bsA HB hb; clear HO_5; clear HO_6; clear HB; have HO_5 := n0_; have HO_6 := n1_; have HO186 := n2_; have HB := n3_; clear n0_ n1_ n2_ n3_; (try clear hb); (try clear hb2); (try clear hk); (try clear hi); (try clear ho0)) | ((with_reducible refine gate_builtin (b := .append) (xs := #[.tmp 48, .tmp 49]) rfl ?_); (try (refine gate_guard (by rfl) ?_; dsimp only)); at_builtin; refine Kd.R_append (Kd.int .u8) (w0 := w) w.heap.size rfl (.tmp 48) (.tmp 49) 24 5 (.int .u8 0) 1 rfl Tryd.underlying24 info5 rfl (by decide) (by omega) v185 t184 32 [.int .u8 32] (fun _ => True) (fun _ => False) rfl rfl ?aP (fun _ hk => hk.elim) ?aF ?aO ?aB ?aS ?aL ?_; (case aP => exact rfl); (case aB => exact (by repeat (first | (with_reducible first | exact HB.out | apply below_alloc | apply pw_below_drewN | apply below_drew1) | exact HB.out))); (case aF => exact (fun _ _ => trivial)); (case aO => exact (by (with_reducible repeat (first | apply Kd.R_alloc | apply Kd.R_drewN | apply Kd.R_drew)); exact HO186.out)); (case aS => exact (below_size (by repeat (first | (with_reducible first | exact HB.out | apply below_alloc | apply pw_below_drewN | apply below_drew1) | exact HB.out)))); (case aL => have := LMc33.out; omega); intro v188 w43 ho hb hg hat; rw [← Ny187.out] at ho; have n0_ := Aside0.mk (Kd.R_over' (by (with_reducible repeat (first | apply Kd.R_alloc | apply Kd.R_drewN | apply Kd.R_drew)); exact HO_5.out) (Kd.R_typed (by (with_reducible repeat (first | apply Kd.R_alloc | apply Kd.R_drewN | apply Kd.R_drew)); exact HO186.out)) (by decide) hg); have n1_ := Aside0.mk (Kd.R_over' (by (with_reducible repeat (first | apply Kd.R_alloc | apply Kd.R_drewN | apply Kd.R_drew)); exact HO_6.out) (Kd.R_typed (by (with_reducible repeat (first | apply Kd.R_alloc | apply Kd.R_drewN | apply Kd.R_drew)); exact HO186.out)) (by decide) hg); have n2_ := Aside0.mk (hb); have n3_ := Aside0.mk (ho); clear HO_5; clear HO_6; clear HB; clear HO186; have HO_5 := n0_; have HO_6 := n1_; have HB := n2_; have HO189 := n3_; clear n0_ n1_ n2_ n3_; clear ho hb hg hat) | ((with_reducible refine gate_builtin (b := .append) (xs := #[.tmp 50, .tmp 51]) rfl ?_); (try (refine gate_guard (by rfl) ?_; dsimp only)); at_builtin; refine Kd.R_append_rows (Kd.int .u8) (w0 := w) w.heap.size rfl (.tmp 50) (.tmp 51) 24 5 (.int .u8 0) 1 rfl Tryd.underlying24 info5 rfl (by decide) (by omega) v188 y187 l1 _ _ _ (fun _ => True) (fun _ => False) rfl rfl ?aO ?aR (fun _ _ h => h) (fun _ h => h.elim) ?aF ?aB ?aS ?aL ?_; (case aR => repeat (first | exact (Kd.C_below HR1.out HB.out) | (with_reducible refine Kd.C_alloc ?_ _) | (with_reducible refine Kd.C_drewN ?_ _) | (with_reducible refine Kd.C_drew ?_))); (case aB => exact (by repeat (first | (with_reducible first | exact HB.out | apply below_alloc | apply pw_below_drewN | apply below_drew1) | exact HB.out))); (case aF => exact (fun _ _ => trivial)); (case aO => exact (by (with_reducible repeat (first | apply Kd.R_alloc | apply Kd.R_drewN | apply Kd.R_drew)); exact HO189.out)); (case aS => exact (below_size (by repeat (first | (with_reducible first | exact HB.out | apply below_alloc | apply pw_below_drewN | apply below_drew1) | exact HB.out)))); (case aL => have := LMc34.out; omega); intro v191 w44 ho hb hg hat; rw [← Ny190.out] at ho; have n0_ := Aside0.mk (Kd.R_over' (by (with_reducible repeat (first | apply Kd.R_alloc | apply Kd.R_drewN | apply Kd.R_drew)); exact HO_5.out) (Kd.R_typed (by (with_reducible repeat (first | apply Kd.R_alloc | apply Kd.R_drewN | apply Kd.R_drew)); exact HO189.out)) (by decide) hg); have n1_ := Aside0.mk (Kd.R_over' (by (with_reducible repeat (first | apply Kd.R_alloc | apply Kd.R_drewN | apply Kd.R_drew)); exact HO_6.out) (Kd.R_typed (by (with_reducible repeat (first | apply Kd.R_alloc | apply Kd.R_drewN | apply Kd.R_drew)); exact HO189.out)) (by decide) hg); have n2_ := Aside0.mk (hb); have n3_ := Aside0.mk (ho); clear HO_5; clear HO_6; clear HB; clear HO189; have HO_5 := n0_; have HO_6 := n1_; have HB := n2_; have HO192 := n3_; clear n0_ n1_ n2_ n3_; clear ho hb hg hat; obtain ⟨Ao45, co45, eo45⟩ := Kd.R_slice HO192.out; subst eo45) | ((with_reducible refine gate_callee (f := 13) rfl ?_); refine goesL_ (some 53) rfl rfl Tryd.func13 (by kernel_rfl) rfl #[.slice Ao45 y190.length co45] rfl (by (try simp only [List.map_toArray, List.map_cons, List.map_nil]); first | done | rfl | (simp only [List.length_drop, List.length_take]; rfl)) ?_; (with_reducible refine (field_Read.calls _ _ y190 t193 _ ?side1 ?side2 A35.out).mono ?_); (case side1 => repeat (first | exact (Kd.R_reads' HO192.out).2.2 | (with_reducible refine Kd.C_alloc ?_ _) | (with_reducible refine Kd.C_drewN ?_ _) | (with_reducible refine Kd.C_drew ?_))); (case side2 => exact (Kd.R_reads' HO192.out).2.1); rintro e w46 ⟨v194, rfl, ho0, hb⟩; refine ⟨_, rfl, ?_⟩; have n0_ := Aside0.mk (Kd.R_elder' (by (with_reducible repeat (first | apply Kd.R_alloc | apply Kd.R_drewN | apply Kd.R_drew)); exact HO_5.out) (Kd.R_base ho0) hb); have n1_ := Aside0.mk (Kd.R_elder' (by (with_reducible repeat (first | apply Kd.R_alloc | apply Kd.R_drewN | apply Kd.R_drew)); exact HO_6.out) (Kd.R_base ho0) hb); have n2_ := rbA HO192 hb; have n3_ := Aside0.mk (Kd.R_lower (Kd.R_new' (Kd.R_new' ho0 (Kd.R_lt (by (with_reducible repeat (first | apply Kd.R_alloc | apply Kd.R_drewN | apply Kd.R_drew)); exact HO_5.out))) (Kd.R_lt (by (with_reducible repeat (first | apply Kd.R_alloc | apply Kd.R_drewN | apply Kd.R_drew)); exact HO_6.out))) (below_size (by repeat (first | (with_reducible first | exact HB.out | apply below_alloc | apply pw_below_drewN | apply below_drew1) | exact HB.out)))); have n4_ := bsA HB hb; clear HO_5; clear HO_6; clear HO192; clear HB; have HO_5 := n0_; have HO_6 := n1_; have HO192 := n2_; have HO195 := n3_; have HB := n4_; clear n0_ n1_ n2_ n3_ n4_; (try clear hb); (try clear hb2); (try clear hk); (try clear hi); (try clear ho0); obtain ⟨Ao47, co47, eo47⟩ := Kd.R_slice HO195.out; subst eo47; obtain ⟨Ao48, co48, eo48⟩ := Kd.R_slice HO_5.out; subst eo48; have q49 : ((x5_1.length : Int) : Int) ≤ ((t193.length : Int) : Int) := of_decide_eq_true (by first | (with_reducible assumption) | assumption); obtain ⟨i049, hi049, _, hsz49, _⟩ := info_parts info28; have hroom49 : t193.length ≤ co47 := (Kd.R_reads' HO195.out).2.1; have hC49 : Kd.C k28 _ Ao47 t193.length t193 := (Kd.R_reads' HO195.out).2.2; have hcut49 := cut_to (P := Tryd.prog) 25 28 .i64 Tryd.underlying25 hi049 Ao47 t193.length co47 (x5_1.length : Int) (of_decide_eq_true (by first | (with_reducible assumption) | assumption)) q49 hroom49; have hr49 := Kd.C_take (m := ((x5_1.length : Int) : Int).toNat) hC49 (by omega); have hy49 : y196.length = ((x5_1.length : Int) : Int).toNat := (by rw [Ny196.out, List.length_take]; omega); rw [← Ny196.out] at hr49; rw [← hy49] at hcut49; have HR199 := Aside0.mk hr49; have HC199 := Aside0.mk (show y196.length ≤ co47 from by omega); clear hr49 hC49 hroom49 hi049 hsz49; have KY49 := Aside0.mk hy49; clear hy49; have KL49 := Aside0.mk (show ((x5_1.length : Int) : Int).toNat ≤ t193.length from by omega); replace q49 := eq_true q49) | (go_at_call 16; (with_reducible refine (dragnetref08_Same.calls k1 _ _ y196 _ _ x5_1 t200 _ ?side1 ?side2 ?side3 ?side4 A40.out).mono ?_); (case side1 => repeat (first | exact (by repeat (first | (with_reducible exact HR199.out) | (with_reducible refine Kd.C_alloc ?_ _) | (with_reducible refine Kd.C_drewN ?_ _) | (with_reducible refine Kd.C_drew ?_) | exact HR199.out)) | (with_reducible refine Kd.C_alloc ?_ _) | (with_reducible refine Kd.C_drewN ?_ _) | (with_reducible refine Kd.C_drew ?_))); (case side2 => exact HC199.out); (case side3 => repeat (first | exact (Kd.R_reads' HO_5.out).2.2 | (with_reducible refine Kd.C_alloc ?_ _) | (with_reducible refine Kd.C_drewN ?_ _) | (with_reducible refine Kd.C_drew ?_))); (case side4 => exact (Kd.R_reads' HO_5.out).2.1); rintro e w' ⟨rfl, ⟨nd, rfl⟩⟩))
           go_ret
           exact ⟨by first | rfl | (simp [errW_none, errW_some] <;> rfl) | (simp [*, errW_none, errW_some] <;> rfl), by repeat (first | (with_reducible first | exact HB.out | apply below_alloc | apply pw_below_drewN | apply below_drew1) | exact HB.out)⟩
          ·rw [if_neg c39] at H
           exact absurd H (by simp)
         ·rw [if_neg c38] at H
          exact absurd H (by simp)
        ·rw [if_neg c37] at H
         have c37b0 : decide ((x5_1.length : Int) ≤ (t193.length : Int)) = false := decide_eq_false c37
         have c37b1 : decide (x5_1.length ≤ t193.length) = false := decide_eq_false (fun h => c37 (Int.ofNat_le.mpr h))
         clear c37
         exact absurd H (by simp)
       ·rw [if_neg c36] at H
        have c36b0 : ((t170.length : Int) == 16) = false := beq_eq_false_iff_ne.mpr c36
        have c36b1 : ((t170.length : Int) != 16) = true := bne_iff_ne.mpr c36
        replace H := Option.bind_eq_some_iff.mp H
        obtain ⟨t201, A500, H⟩ := H
        replace H : (some t201) = some true := H
        have A50 := Aside0.mk A500
        clear A500
        have Hr_ := Option.some.inj H
        obtain ⟨Ao51, co51, eo51⟩ := Kd.R_slice HO_6.out
        subst eo51
        go_wp2_with (first | ((with_reducible refine gate_callee (f := 15) rfl ?_); refine goesL_ (some 48) rfl rfl Tryd.func15 (by kernel_rfl) rfl #[.slice A0 l0.length c0] rfl (by (try simp only [List.map_toArray, List.map_cons, List.map_nil]); first | done | rfl | (simp only [List.length_drop, List.length_take]; rfl)) ?_; (with_reducible refine (dragnetref01_Copy.calls _ _ l0 t184 _ ?side1 ?side2 A32.out).mono ?_); (case side1 => repeat (first | exact (Kd.C_below HR0.out HB.out) | (with_reducible refine Kd.C_alloc ?_ _) | (with_reducible refine Kd.C_drewN ?_ _) | (with_reducible refine Kd.C_drew ?_))); (case side2 => exact HC0.out); rintro e w52 ⟨v185, rfl, ho0, hb⟩; refine ⟨_, rfl, ?_⟩; have n0_ := rbA HO_5 hb; have n1_ := rbA HO_6 hb; have n2_ := Aside0.mk (Kd.R_lower ho0 (below_size (by repeat (first | (with_reducible first | exact HB.out | apply below_alloc | apply pw_below_drewN | apply below_drew1) | exact HB.out)))); have n3_ := bsA HB hb; clear HO_5; clear HO_6; clear HB; have HO_5 := n0_; have HO_6 := n1_; have HO186 := n2_; have HB := n3_; clear n0_ n1_ n2_ n3_; (try clear hb); (try clear hb2); (try clear hk); (try clear hi); (try clear ho0)) | ((with_reducible refine gate_builtin (b := .append) (xs := #[.tmp 48, .tmp 49]) rfl ?_); (try (refine gate_guard (by rfl) ?_; dsimp only)); at_builtin; refine Kd.R_append (Kd.int .u8) (w0 := w) w.heap.size rfl (.tmp 48) (.tmp 49) 24 5 (.int .u8 0) 1 rfl Tryd.underlying24 info5 rfl (by decide) (by omega) v185 t184 32 [.int .u8 32] (fun _ => True) (fun _ => False) rfl rfl ?aP (fun _ hk => hk.elim) ?aF ?aO ?aB ?aS ?aL ?_; (case aP => exact rfl); (case aB => exact (by repeat (first | (with_reducible first | exact HB.out | apply below_alloc | apply pw_below_drewN | apply below_drew1) | exact HB.out))); (case aF => exact (fun _ _ => trivial)); (case aO => exact (by (with_reducible repeat (first | apply Kd.R_alloc | apply Kd.R_drewN | apply Kd.R_drew)); exact HO186.out)); (case aS => exact (below_size (by repeat (first | (with_reducible first | exact HB.out | apply below_alloc | apply pw_below_drewN | apply below_drew1) | exact HB.out)))); (case aL => have := LMc33.out; omega); intro v188 w53 ho hb hg hat; rw [← Ny187.out] at ho; have n0_ := Aside0.mk (Kd.R_over' (by (with_reducible repeat (first | apply Kd.R_alloc | apply Kd.R_drewN | apply Kd.R_drew)); exact HO_5.out) (Kd.R_typed (by (with_reducible repeat (first | apply Kd.R_alloc | apply Kd.R_drewN | apply Kd.R_drew)); exact HO186.out)) (by decide) hg); have n1_ := Aside0.mk (Kd.R_over' (by (with_reducible repeat (first | apply Kd.R_alloc | apply Kd.R_drewN | apply Kd.R_drew)); exact HO_6.out) (Kd.R_typed (by (with_reducible repeat (first | apply Kd.R_alloc | apply Kd.R_drewN | apply Kd.R_drew)); exact HO186.out)) (by decide) hg); have n2_ := Aside0.mk (hb); have n3_ := Aside0.mk (ho); clear HO_5; clear HO_6; clear HB; clear HO186; have HO_5 := n0_; have HO_6 := n1_; have HB := n2_; have HO189 := n3_; clear n0_ n1_ n2_ n3_; clear ho hb hg hat) | ((with_reducible refine gate_builtin (b := .append) (xs := #[.tmp 50, .tmp 51]) rfl ?_); (try (refine gate_guard (by rfl) ?_; dsimp only)); at_builtin; refine Kd.R_append_rows (Kd.int .u8) (w0 := w) w.heap.size rfl (.tmp 50) (.tmp 51) 24 5 (.int .u8 0) 1 rfl Tryd.underlying24 info5 rfl (by decide) (by omega) v188 y187 l1 _ _ _ (fun _ => True) (fun _ => False) rfl rfl ?aO ?aR (fun _ _ h => h) (fun _ h => h.elim) ?aF ?aB ?aS ?aL ?_; (case aR => repeat (first | exact (Kd.C_below HR1.out HB.out) | (with_reducible refine Kd.C_alloc ?_ _) | (with_reducible refine Kd.C_drewN ?_ _) | (with_reducible refine Kd.C_drew ?_))); (case aB => exact (by repeat (first | (with_reducible first | exact HB.out | apply below_alloc | apply pw_below_drewN | apply below_drew1) | exact HB.out))); (case aF => exact (fun _ _ => trivial)); (case aO => exact (by (with_reducible repeat (first | apply Kd.R_alloc | apply Kd.R_drewN | apply Kd.R_drew)); exact HO189.out)); (case aS => exact (below_size (by repeat (first | (with_reducible first | exact HB.out | apply below_alloc | apply pw_below_drewN | apply below_drew1) | exact HB.out)))); (case aL => have := LMc34.out; omega); intro v191 w54 ho hb hg hat; rw [← Ny190.out] at ho; have n0_ := Aside0.mk (Kd.R_over' (by (with_reducible repeat (first | apply Kd.R_alloc | apply Kd.R_drewN | apply Kd.R_drew)); exact HO_5.out) (Kd.R_typed (by (with_reducible repeat (first | apply Kd.R_alloc | apply Kd.R_drewN | apply Kd.R_drew)); exact HO189.out)) (by decide) hg); have n1_ := Aside0.mk (Kd.R_over' (by (with_reducible repeat (first | apply Kd.R_alloc | apply Kd.R_drewN | apply Kd.R_drew)); exact HO_6.out) (Kd.R_typed (by (with_reducible repeat (first | apply Kd.R_alloc | apply Kd.R_drewN | apply Kd.R_drew)); exact HO189.out)) (by decide) hg); have n2_ := Aside0.mk (hb); have n3_ := Aside0.mk (ho); clear HO_5; clear HO_6; clear HB; clear HO189; have HO_5 := n0_; have HO_6 := n1_; have HB := n2_; have HO192 := n3_; clear n0_ n1_ n2_ n3_; clear ho hb hg hat; obtain ⟨Ao55, co55, eo55⟩ := Kd.R_slice HO192.out; subst eo55) | ((with_reducible refine gate_callee (f := 13) rfl ?_); refine goesL_ (some 53) rfl rfl Tryd.func13 (by kernel_rfl) rfl #[.slice Ao55 y190.length co55] rfl (by (try simp only [List.map_toArray, List.map_cons, List.map_nil]); first | done | rfl | (simp only [List.length_drop, List.length_take]; rfl)) ?_; (with_reducible refine (field_Read.calls _ _ y190 t193 _ ?side1 ?side2 A35.out).mono ?_); (case side1 => repeat (first | exact (Kd.R_reads' HO192.out).2.2 | (with_reducible refine Kd.C_alloc ?_ _) | (with_reducible refine Kd.C_drewN ?_ _) | (with_reducible refine Kd.C_drew ?_))); (case side2 => exact (Kd.R_reads' HO192.out).2.1); rintro e w56 ⟨v194, rfl, ho0, hb⟩; refine ⟨_, rfl, ?_⟩; have n0_ := Aside0.mk (Kd.R_elder' (by (with_reducible repeat (first | apply Kd.R_alloc | apply Kd.R_drewN | apply Kd.R_drew)); exact HO_5.out) (Kd.R_base ho0) hb); have n1_ := Aside0.mk (Kd.R_elder' (by (with_reducible repeat (first | apply Kd.R_alloc | apply Kd.R_drewN | apply Kd.R_drew)); exact HO_6.out) (Kd.R_base ho0) hb); have n2_ := rbA HO192 hb; have n3_ := Aside0.mk (Kd.R_lower (Kd.R_new' (Kd.R_new' ho0 (Kd.R_lt (by (with_reducible repeat (first | apply Kd.R_alloc | apply Kd.R_drewN | apply Kd.R_drew)); exact HO_5.out))) (Kd.R_lt (by (with_reducible repeat (first | apply Kd.R_alloc | apply Kd.R_drewN | apply Kd.R_drew)); exact HO_6.out))) (below_size (by repeat (first | (with_reducible first | exact HB.out | apply below_alloc | apply pw_below_drewN | apply below_drew1) | exact HB.out)))); have n4_ := bsA HB hb; clear HO_5; clear HO_6; clear HO192; clear HB; have HO_5 := n0_; have HO_6 := n1_; have HO192 := n2_; have HO195 := n3_; have HB := n4_; clear n0_ n1_ n2_ n3_ n4_; (try clear hb); (try clear hb2); (try clear hk); (try clear hi); (try clear ho0); obtain ⟨Ao57, co57, eo57⟩ := Kd.R_slice HO195.out; subst eo57; obtain ⟨Ao58, co58, eo58⟩ := Kd.R_slice HO_5.out; subst eo58) | ((with_reducible refine gate_callee (f := 16) rfl ?_); refine goesL_ (some 72) rfl rfl Tryd.func16 (by kernel_rfl) rfl #[.slice Ao57 t193.length co57, .slice Ao58 x5_1.length co58] rfl (by (try simp only [List.map_toArray, List.map_cons, List.map_nil]); first | done | rfl | (simp only [List.length_drop, List.length_take]; rfl)) ?_; (with_reducible refine (dragnetref08_Same.calls k1 _ _ t193 _ _ x5_1 t201 _ ?side1 ?side2 ?side3 ?side4 A50.out).mono ?_); (case side1 => repeat (first | exact (Kd.R_reads' HO195.out).2.2 | (with_reducible refine Kd.C_alloc ?_ _) | (with_reducible refine Kd.C_drewN ?_ _) | (with_reducible refine Kd.C_drew ?_))); (case side2 => exact (Kd.R_reads' HO195.out).2.1); (case side3 => repeat (first | exact (Kd.R_reads' HO_5.out).2.2 | (with_reducible refine Kd.C_alloc ?_ _) | (with_reducible refine Kd.C_drewN ?_ _) | (with_reducible refine Kd.C_drew ?_))); (case side4 => exact (Kd.R_reads' HO_5.out).2.1); rintro e w' ⟨rfl, ⟨nd, rfl⟩⟩; refine ⟨_, rfl, ?_⟩))
        go_ret
        exact ⟨by first | rfl | (simp [errW_none, errW_some] <;> rfl) | (simp [*, errW_none, errW_some] <;> rfl), by repeat (first | (with_reducible first | exact HB.out | apply below_alloc | apply pw_below_drewN | apply below_drew1) | exact HB.out)⟩
      ·rw [if_neg c34] at H
       exact absurd H (by simp)
     ·rw [if_neg c33] at H
      exact absurd H (by simp)
 ·replace c4 := Bool.eq_false_iff.mpr c4
  subst c4
  have H1 : (some false) = some true := by rw [if_neg (show ¬ (false = true) by decide)] at H; exact H
  clear H
  have H := H1
  clear H1
  exact absurd H (by simp)

end Go.Proofs.YtdkgmiagjhcllaaDoor.P
