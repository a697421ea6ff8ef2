-- Written by a program of this session (wip/tools/tp.py: the kit's printer, turned to take functions that were proved by hand). Lean checks it.
import Derived.Test.YtdkgmiagjhcllaaDoorP0
import Derived.Test.YtdkgmiagjhcllaaDoorP2
import Derived.Test.YtdkgmiagjhcllaaDoorP5
import Derived.Test.YtdkgmiagjhcllaaDoorAlive8
import Derived.Test.YtdkgmiagjhcllaaDoorBytes
import Derived.Test.YtdkgmiagjhcllaaDoorNumber
import Derived.Test.YtdkgmiagjhcllaaDoorRead0
namespace Go.Proofs.YtdkgmiagjhcllaaDoor.P
open Go.RowKit Go.Proofs.YtdkgmiagjhcllaaDoorW.PrintWords Go.Proofs.YtdkgmiagjhcllaaDoorW.PrintLast Go.Proofs.YtdkgmiagjhcllaaDoorW.PrintMore
attribute [local go_sem] max2_int min2_int max_two min_two max_three min_three max_four min_four   -- for this text's walks alone
set_option linter.unusedVariables false
set_option linter.unusedSimpArgs false

-- LEVEL 6
/-! ### dragnetlaw08_FieldBack: function 6 -/
mutual
def dragnetlaw08_FieldBack.j0 : Nat → ByteArray → Int → Bool → Bool → ByteArray → Int → Int → ByteArray → Option (Bool)
 | 0, _, _, _, _, _, _, _, _ => none
 | k + 1, x3, x4, x5, x25, x138000, x138001, x138002, x138003 => if x25 = true then (some true) else (dragnetlaw08_FieldBack.l0 k x3 x4 x5 0 x138000 x138001 x138002 x138003)
def dragnetlaw08_FieldBack.l0 : Nat → ByteArray → Int → Bool → Int → ByteArray → Int → Int → ByteArray → Option (Bool)
 | 0, _, _, _, _, _, _, _, _ => none
 | k + 1, x3, x4, x5, x6, x138000, x138001, x138002, x138003 => if x6 < (x3.size : Int) then (if 0 ≤ x6 then (if (bt x3 x6) = 9 then (some true) else (if (bt x3 x6) = 10 then (some true) else (if (bt x3 x6) = 13 then (some true) else (if (bt x3 x6) = 32 then (some true) else (dragnetlaw08_FieldBack.l0 k x3 x4 x5 (wrap64 (x6 + 1)) x138000 x138001 x138002 x138003))))) else (none)) else (if x5 = true then (if x138000.size + 1 ≤ 9223372036854775807 then (if (x138000 ++ (⟨#[61]⟩ : ByteArray)).size + x3.size ≤ 9223372036854775807 then ((string_bytes.f ((x138000 ++ (⟨#[61]⟩ : ByteArray)) ++ x3)).bind fun t144 => ((field_Read.f t144).bind fun t147 => ((dragnetref08_Same.f k t147 (([(⟨x138000, 1, x4, (⟨#[]⟩ : ByteArray)⟩ : S28)] : List (S28)))).bind fun t153 => (some t153)))) else (none)) else (none)) else (if x138000.size + 1 ≤ 9223372036854775807 then (if (x138000 ++ (⟨#[61]⟩ : ByteArray)).size + x3.size ≤ 9223372036854775807 then ((string_bytes.f ((x138000 ++ (⟨#[61]⟩ : ByteArray)) ++ x3)).bind fun t154 => ((field_Read.f t154).bind fun t157 => ((dragnetref08_Same.f k t157 (([(⟨x138000, 2, 0, x3⟩ : S28)] : List (S28)))).bind fun t163 => (some t163)))) else (none)) else (none)))
end
def dragnetlaw08_FieldBack.f (k : Nat) (a0_0 : ByteArray) (a0_1 : Int) (a0_2 : Int) (a0_3 : ByteArray) : Option (Bool) := (dragnetlaw08_alive.f).bind fun t138 => (if t138 = true then ((field_Show.f a0_0 a0_1 a0_2 a0_3).bind fun t139 => ((field_Number.f t139).bind fun bt140 => ((field_IsKey.f k a0_0).bind fun t142 => (if t142 = true then (dragnetlaw08_FieldBack.j0 k t139 bt140.1 bt140.2 (decide ((t139.size : Int) > 64)) a0_0 a0_1 a0_2 a0_3) else (dragnetlaw08_FieldBack.j0 k t139 bt140.1 bt140.2 true a0_0 a0_1 a0_2 a0_3))))) else (some false))
theorem dragnetlaw08_FieldBack.mono_l : ∀ k, (∀ y0 y1 y2 y3 y4 y5 y6 y7, LeO (dragnetlaw08_FieldBack.j0 k y0 y1 y2 y3 y4 y5 y6 y7) (dragnetlaw08_FieldBack.j0 (k + 1) y0 y1 y2 y3 y4 y5 y6 y7)) ∧ (∀ y0 y1 y2 y3 y4 y5 y6 y7, LeO (dragnetlaw08_FieldBack.l0 k y0 y1 y2 y3 y4 y5 y6 y7) (dragnetlaw08_FieldBack.l0 (k + 1) y0 y1 y2 y3 y4 y5 y6 y7))
 | 0 => ⟨fun _ _ _ _ _ _ _ _ r h => by simp [dragnetlaw08_FieldBack.j0] at h, fun _ _ _ _ _ _ _ _ r h => by simp [dragnetlaw08_FieldBack.l0] at h⟩
 | k + 1 => by
  obtain ⟨ih0, ih1⟩ := dragnetlaw08_FieldBack.mono_l k
  refine ⟨?_, ?_⟩
  ·intro y0 y1 y2 y3 y4 y5 y6 y7
   unfold dragnetlaw08_FieldBack.j0
   repeat' first
   | (with_reducible exact ih0 _ _ _ _ _ _ _ _)
   | (with_reducible exact ih1 _ _ _ _ _ _ _ _)
   | (with_reducible exact dragnetref08_Same.mono _ _ _)
   | (with_reducible exact field_IsKey.mono _ _)
   | (with_reducible exact LeO.refl _)
   | (with_reducible exact LeO.none _)
   | (with_reducible refine LeO.ite ?_ ?_)
   | (with_reducible refine LeO.bind ?_ (fun _ => ?_))
   | exact ih0 _ _ _ _ _ _ _ _
   | exact ih1 _ _ _ _ _ _ _ _
   | exact dragnetref08_Same.mono _ _ _
   | exact field_IsKey.mono _ _
   | exact LeO.none _
   | refine LeO.ite ?_ ?_
   | refine LeO.bind ?_ (fun _ => ?_)
  ·intro y0 y1 y2 y3 y4 y5 y6 y7
   unfold dragnetlaw08_FieldBack.l0
   repeat' first
   | (with_reducible exact ih0 _ _ _ _ _ _ _ _)
   | (with_reducible exact ih1 _ _ _ _ _ _ _ _)
   | (with_reducible exact dragnetref08_Same.mono _ _ _)
   | (with_reducible exact field_IsKey.mono _ _)
   | (with_reducible exact LeO.refl _)
   | (with_reducible exact LeO.none _)
   | (with_reducible refine LeO.ite ?_ ?_)
   | (with_reducible refine LeO.bind ?_ (fun _ => ?_))
   | exact ih0 _ _ _ _ _ _ _ _
   | exact ih1 _ _ _ _ _ _ _ _
   | exact dragnetref08_Same.mono _ _ _
   | exact field_IsKey.mono _ _
   | exact LeO.none _
   | refine LeO.ite ?_ ?_
   | refine LeO.bind ?_ (fun _ => ?_)
theorem dragnetlaw08_FieldBack.mono : ∀ a0 a1 a2 a3 k, LeO (dragnetlaw08_FieldBack.f k a0 a1 a2 a3) (dragnetlaw08_FieldBack.f (k + 1) a0 a1 a2 a3) := by
 intro a0 a1 a2 a3 k
 obtain ⟨ih0, ih1⟩ := dragnetlaw08_FieldBack.mono_l k
 unfold dragnetlaw08_FieldBack.f
 repeat' first
   | (with_reducible exact ih0 _ _ _ _ _ _ _ _)
   | (with_reducible exact ih1 _ _ _ _ _ _ _ _)
   | (with_reducible exact dragnetref08_Same.mono _ _ _)
   | (with_reducible exact field_IsKey.mono _ _)
   | (with_reducible exact LeO.refl _)
   | (with_reducible exact LeO.none _)
   | (with_reducible refine LeO.ite ?_ ?_)
   | (with_reducible refine LeO.bind ?_ (fun _ => ?_))
   | exact ih0 _ _ _ _ _ _ _ _
   | exact ih1 _ _ _ _ _ _ _ _
   | exact dragnetref08_Same.mono _ _ _
   | exact field_IsKey.mono _ _
   | exact LeO.none _
   | refine LeO.ite ?_ ?_
   | refine LeO.bind ?_ (fun _ => ?_)
def dragnetlaw08_FieldBack.T15 : Bool × List (List Nat × List Nat) := (true, [([], []), ([0], [0]), ([1], [1]), ([], []), ([2, 3], [2, 3]), ([4], [4]), ([5], [5]), ([], []), ([7], [7]), ([6, 8, 6], [6, 8]), ([9, 9, 0, 1, 2, 3, 4, 5, 6, 7, 8, 9], [9])])
def dragnetlaw08_FieldBack.B15 : List Nat := [0, 1, 3, 0, 15, 31, 63, 0, 128, 511, 1023]
theorem dragnetlaw08_FieldBack.tab15 : rtab .any (opsOf Tryd.f6 15) = dragnetlaw08_FieldBack.T15 := by kernel_rfl
theorem dragnetlaw08_FieldBack.bits15 : waitsOk dragnetlaw08_FieldBack.T15.2 dragnetlaw08_FieldBack.B15 = true := by kernel_rfl
set_option maxHeartbeats 8000000 in
set_option maxRecDepth 100000 in
theorem dragnetlaw08_FieldBack.calls (k : Nat) (a0_0 : ByteArray) (a0_1 : Int) (a0_2 : Int) (a0_3 : ByteArray) (w : World) (h : dragnetlaw08_FieldBack.f k a0_0 a0_1 a0_2 a0_3 = some true) (hx : FieldIn w := by exact FieldIn.go (by assumption) (by assumption)) :
  Calls Tryd.prog 6 #[.agg #[.string a0_0, .int .i64 a0_1, .int .i64 a0_2, .string a0_3]] w fun e w' => e = .returned (.bool true) ∧ Below w.heap.size w w' := by
 have HX := Aside0.mk hx
 clear hx
 have hu28 := Tryd.underlying28
 have HB := Aside0.mk (Below.refl w.heap.size w)
 have H : ((dragnetlaw08_alive.f).bind fun t138 => (if t138 = true then ((field_Show.f a0_0 a0_1 a0_2 a0_3).bind fun t139 => ((field_Number.f t139).bind fun bt140 => ((field_IsKey.f k a0_0).bind fun t142 => (if t142 = true then (dragnetlaw08_FieldBack.j0 k t139 bt140.1 bt140.2 (decide ((t139.size : Int) > 64)) a0_0 a0_1 a0_2 a0_3) else (dragnetlaw08_FieldBack.j0 k t139 bt140.1 bt140.2 true a0_0 a0_1 a0_2 a0_3))))) else (some false))) = some true := h
 clear h
 replace H := Option.bind_eq_some_iff.mp H
 obtain ⟨t138, A20, H⟩ := H
 replace H : (if t138 = true then ((field_Show.f a0_0 a0_1 a0_2 a0_3).bind fun t139 => ((field_Number.f t139).bind fun bt140 => ((field_IsKey.f k a0_0).bind fun t142 => (if t142 = true then (dragnetlaw08_FieldBack.j0 k t139 bt140.1 bt140.2 (decide ((t139.size : Int) > 64)) a0_0 a0_1 a0_2 a0_3) else (dragnetlaw08_FieldBack.j0 k t139 bt140.1 bt140.2 true a0_0 a0_1 a0_2 a0_3))))) else (some false)) = some true := H
 have A2 := Aside0.mk A20
 clear A20
 by_cases c3 : t138 = true
 ·subst c3
  have H1 : ((field_Show.f a0_0 a0_1 a0_2 a0_3).bind fun t139 => ((field_Number.f t139).bind fun bt140 => ((field_IsKey.f k a0_0).bind fun t142 => (if t142 = true then (dragnetlaw08_FieldBack.j0 k t139 bt140.1 bt140.2 (decide ((t139.size : Int) > 64)) a0_0 a0_1 a0_2 a0_3) else (dragnetlaw08_FieldBack.j0 k t139 bt140.1 bt140.2 true a0_0 a0_1 a0_2 a0_3))))) = some true := by rw [if_pos rfl] at H; exact H
  clear H
  have H := H1
  clear H1
  replace H := Option.bind_eq_some_iff.mp H
  obtain ⟨t139, A40, H⟩ := H
  replace H : ((field_Number.f t139).bind fun bt140 => ((field_IsKey.f k a0_0).bind fun t142 => (if t142 = true then (dragnetlaw08_FieldBack.j0 k t139 bt140.1 bt140.2 (decide ((t139.size : Int) > 64)) a0_0 a0_1 a0_2 a0_3) else (dragnetlaw08_FieldBack.j0 k t139 bt140.1 bt140.2 true a0_0 a0_1 a0_2 a0_3)))) = some true := H
  have A4 := Aside0.mk A40
  clear A40
  replace H := Option.bind_eq_some_iff.mp H
  obtain ⟨⟨t140, t141⟩, A50, H⟩ := H
  replace H : ((field_IsKey.f k a0_0).bind fun t142 => (if t142 = true then (dragnetlaw08_FieldBack.j0 k t139 t140 t141 (decide ((t139.size : Int) > 64)) a0_0 a0_1 a0_2 a0_3) else (dragnetlaw08_FieldBack.j0 k t139 t140 t141 true a0_0 a0_1 a0_2 a0_3))) = some true := H
  have A5 := Aside0.mk A50
  clear A50
  have HC6 := Aside0.mk H
  clear H
  go_enter Tryd.func6, Tryd.ntmps6
  go_upto_region 5 with (first | ((with_reducible refine gate_dst (N := 1) rfl ?_); (try (refine gate_guard (by rfl) ?_; dsimp only)); refine box_event ?hg (N := 1) ?hd (cs := #[.string a0_0, .int .i64 a0_1, .int .i64 a0_2, .string a0_3]) (t := 28) ?hr ?_; (case hd => rfl); (case hg => rfl); (case hr => first | (go_simp; done) | (go_simp; rfl)); intro gb137 hg w7 hbox hb; have n0_ := bsA HB hb; have n1_ := Aside0.mk (hbox); have n2_ := szA HB hg; have n3_ := szA HB hg; clear HB; have HB := n0_; have BK137 := n1_; have GW137 := n2_; have GE137 := n3_; clear n0_ n1_ n2_ n3_; clear hb hbox hg) | ((with_reducible refine gate_callee (f := 9) rfl ?_); refine goesL_ (some 8) rfl rfl Tryd.func9 (by kernel_rfl) rfl #[] rfl (by (try simp only [List.map_toArray, List.map_cons, List.map_nil]); first | done | rfl | (simp only [List.length_drop, List.length_take]; rfl)) ?_; (with_reducible refine (dragnetlaw08_alive.calls  true _ A2.out).mono ?_); rintro e w8 ⟨rfl, hb⟩; refine ⟨_, rfl, ?_⟩; have n0_ := bkA BK137 hb; have n1_ := bsA HB hb; clear BK137; clear HB; have BK137 := n0_; have HB := n1_; clear n0_ n1_; (try clear hb); (try clear hb2); (try clear hk); (try clear hi); have hcz9_0 : w8.cell? ⟨gb137, 0, none⟩ = some (.string a0_0) := (blk_cell BK137.out 0).trans rfl; have hcz9_1 : w8.cell? ⟨gb137, 1, none⟩ = some (.int .i64 a0_1) := (blk_cell BK137.out 1).trans rfl; have hcz9_2 : w8.cell? ⟨gb137, 2, none⟩ = some (.int .i64 a0_2) := (blk_cell BK137.out 2).trans rfl; have hcz9_3 : w8.cell? ⟨gb137, 3, none⟩ = some (.string a0_3) := (blk_cell BK137.out 3).trans rfl; have hfz9_0 := blk_frozen BK137.out 0; have hfz9_1 := blk_frozen BK137.out 1; have hfz9_2 := blk_frozen BK137.out 2; have hfz9_3 := blk_frozen BK137.out 3) | ((with_reducible refine gate_callee (f := 19) rfl ?_); refine goesL_ (some 11) rfl rfl Tryd.func19 (by kernel_rfl) rfl #[.agg #[.string a0_0, .int .i64 a0_1, .int .i64 a0_2, .string a0_3]] rfl (by (try simp only [List.map_toArray, List.map_cons, List.map_nil]); first | done | rfl | (simp only [List.length_drop, List.length_take]; rfl)) ?_; (with_reducible refine (field_Show.calls a0_0 a0_1 a0_2 a0_3 t139 _ A4.out).mono ?_); rintro e w10 ⟨rfl, hb⟩; refine ⟨_, rfl, ?_⟩; have n0_ := bkA BK137 hb; have n1_ := bsA HB hb; clear BK137; clear HB; have BK137 := n0_; have HB := n1_; clear n0_ n1_; (try clear hb); (try clear hb2); (try clear hk); (try clear hi)) | ((with_reducible refine gate_callee (f := 17) rfl ?_); refine goesL_ (some 14) rfl rfl Tryd.func17 (by kernel_rfl) rfl #[.string t139] rfl (by (try simp only [List.map_toArray, List.map_cons, List.map_nil]); first | done | rfl | (simp only [List.length_drop, List.length_take]; rfl)) ?_; (with_reducible refine (field_Number.calls t139 t140 t141 _ A5.out).mono ?_); rintro e w11 ⟨rfl, hb⟩; refine ⟨_, rfl, ?_⟩; have n0_ := bkA BK137 hb; have n1_ := bsA HB hb; clear BK137; clear HB; have BK137 := n0_; have HB := n1_; clear n0_ n1_; (try clear hb); (try clear hb2); (try clear hk); (try clear hi)))
  (try simp only [Act.put, List.setIfInBounds_toArray, List.set_cons_zero, List.set_cons_succ])
  go_cut [25] (fun v25 wc => ∃ (kq : Nat) (x25_5 : Bool), v25 = .bool x25_5 ∧ Aside0 (dragnetlaw08_FieldBack.j0 kq t139 t140 t141 x25_5 a0_0 a0_1 a0_2 a0_3 = some true) ∧ Aside0 (kq ≤ k) ∧ Aside0 (wc.heap[gb137]? = some (.cells #[.string a0_0, .int .i64 a0_1, .int .i64 a0_2, .string a0_3] 28 (0, 0))) ∧ Aside0 (Below w.heap.size w wc))
  case first =>
   have H := HC6.out
   clear HC6
   replace H := Option.bind_eq_some_iff.mp H
   obtain ⟨t142, A120, H⟩ := H
   replace H : (if t142 = true then (dragnetlaw08_FieldBack.j0 k t139 t140 t141 (decide ((t139.size : Int) > 64)) a0_0 a0_1 a0_2 a0_3) else (dragnetlaw08_FieldBack.j0 k t139 t140 t141 true a0_0 a0_1 a0_2 a0_3)) = some true := H
   have A12 := Aside0.mk A120
   clear A120
   by_cases c13 : t142 = true
   ·subst c13
    have H1 : (dragnetlaw08_FieldBack.j0 k t139 t140 t141 (decide ((t139.size : Int) > 64)) a0_0 a0_1 a0_2 a0_3) = some true := by rw [if_pos rfl] at H; exact H
    clear H
    have H := H1
    clear H1
    have H' := Aside0.mk H
    clear H
    have hcz14_0 : w11.cell? ⟨gb137, 0, none⟩ = some (.string a0_0) := (blk_cell BK137.out 0).trans rfl
    have hcz14_1 : w11.cell? ⟨gb137, 1, none⟩ = some (.int .i64 a0_1) := (blk_cell BK137.out 1).trans rfl
    have hcz14_2 : w11.cell? ⟨gb137, 2, none⟩ = some (.int .i64 a0_2) := (blk_cell BK137.out 2).trans rfl
    have hcz14_3 : w11.cell? ⟨gb137, 3, none⟩ = some (.string a0_3) := (blk_cell BK137.out 3).trans rfl
    have hfz14_0 := blk_frozen BK137.out 0
    have hfz14_1 := blk_frozen BK137.out 1
    have hfz14_2 := blk_frozen BK137.out 2
    have hfz14_3 := blk_frozen BK137.out 3
    go_wp2_with (first | ((with_reducible refine gate_callee (f := 10) rfl ?_); refine goesL_ (some 19) rfl rfl Tryd.func10 (by kernel_rfl) rfl #[.string a0_0] rfl (by (try simp only [List.map_toArray, List.map_cons, List.map_nil]); first | done | rfl | (simp only [List.length_drop, List.length_take]; rfl)) ?_; (with_reducible refine (field_IsKey.calls k a0_0 true _ A12.out).mono ?_); rintro e w' ⟨rfl, ⟨nd, rfl⟩⟩; refine ⟨_, rfl, ?_⟩))
    go_meet
    case rel => exact ⟨_, (decide ((t139.size : Int) > 64)), (by first | rfl | (simp; done) | (simp [*]; done)), H', ⟨by first | omega | exact Nat.le_refl _⟩, ⟨by (with_reducible repeat (first | refine blk_drewN ?_ _ | refine blk_drew ?_ | refine blk_alloc ?_ _)); exact BK137.out⟩, ⟨by repeat (first | (with_reducible first | exact HB.out | apply below_alloc | apply pw_below_drewN | apply below_drew1 | refine below_set ?_ GE137.out) | exact HB.out)⟩⟩
   ·replace c13 := Bool.eq_false_iff.mpr c13
    subst c13
    have H1 : (dragnetlaw08_FieldBack.j0 k t139 t140 t141 true a0_0 a0_1 a0_2 a0_3) = some true := by rw [if_neg (show ¬ (false = true) by decide)] at H; exact H
    clear H
    have H := H1
    clear H1
    have H' := Aside0.mk H
    clear H
    have hcz15_0 : w11.cell? ⟨gb137, 0, none⟩ = some (.string a0_0) := (blk_cell BK137.out 0).trans rfl
    have hcz15_1 : w11.cell? ⟨gb137, 1, none⟩ = some (.int .i64 a0_1) := (blk_cell BK137.out 1).trans rfl
    have hcz15_2 : w11.cell? ⟨gb137, 2, none⟩ = some (.int .i64 a0_2) := (blk_cell BK137.out 2).trans rfl
    have hcz15_3 : w11.cell? ⟨gb137, 3, none⟩ = some (.string a0_3) := (blk_cell BK137.out 3).trans rfl
    have hfz15_0 := blk_frozen BK137.out 0
    have hfz15_1 := blk_frozen BK137.out 1
    have hfz15_2 := blk_frozen BK137.out 2
    have hfz15_3 := blk_frozen BK137.out 3
    go_wp2_with (first | ((with_reducible refine gate_callee (f := 10) rfl ?_); refine goesL_ (some 19) rfl rfl Tryd.func10 (by kernel_rfl) rfl #[.string a0_0] rfl (by (try simp only [List.map_toArray, List.map_cons, List.map_nil]); first | done | rfl | (simp only [List.length_drop, List.length_take]; rfl)) ?_; (with_reducible refine (field_IsKey.calls k a0_0 false _ A12.out).mono ?_); rintro e w' ⟨rfl, ⟨nd, rfl⟩⟩; refine ⟨_, rfl, ?_⟩))
    go_meet
    case rel => exact ⟨_, (true), (by first | rfl | (simp; done) | (simp [*]; done)), H', ⟨by first | omega | exact Nat.le_refl _⟩, ⟨by (with_reducible repeat (first | refine blk_drewN ?_ _ | refine blk_drew ?_ | refine blk_alloc ?_ _)); exact BK137.out⟩, ⟨by repeat (first | (with_reducible first | exact HB.out | apply below_alloc | apply pw_below_drewN | apply below_drew1 | refine below_set ?_ GE137.out) | exact HB.out)⟩⟩
  case rest =>
   clear HC6
   try clear c1
   try clear p2
   try clear c3
   try clear c6
   try clear c9
   try clear c10
   try clear c13
   try clear hcz14_0
   try clear hcz14_1
   try clear hcz14_2
   try clear hcz14_3
   try clear hcz15_0
   try clear hcz15_1
   try clear hcz15_2
   try clear hcz15_3
   try clear hcz9_0
   try clear hcz9_1
   try clear hcz9_2
   try clear hcz9_3
   try clear hfz14_0
   try clear hfz14_1
   try clear hfz14_2
   try clear hfz14_3
   try clear hfz15_0
   try clear hfz15_1
   try clear hfz15_2
   try clear hfz15_3
   try clear hfz9_0
   try clear hfz9_1
   try clear hfz9_2
   try clear hfz9_3
   obtain ⟨kq, x25_5, rfl, HA, HJ5, BK137, HB⟩ := hcut
   cases kq with
   | zero => exact absurd HA.out (by simp [dragnetlaw08_FieldBack.j0])
   | succ kj5 =>
    have H := HA.out
    clear HA
    simp only [dragnetlaw08_FieldBack.j0] at H
    by_cases c16 : x25_5 = true
    ·subst c16
     have H1 : (some true) = some true := rfl
     clear H
     have H := H1
     clear H1
     have Hr_ := Option.some.inj H
     go_wp2
     go_ret
     exact ⟨by first | rfl | (simp [errW_none, errW_some] <;> rfl) | (simp [*, errW_none, errW_some] <;> rfl), by repeat (first | (with_reducible first | exact HB.out | apply below_alloc | apply pw_below_drewN | apply below_drew1 | refine below_set ?_ GE137.out) | exact HB.out)⟩
    ·replace c16 := Bool.eq_false_iff.mpr c16
     subst c16
     have H1 : (dragnetlaw08_FieldBack.l0 kj5 t139 t140 t141 0 a0_0 a0_1 a0_2 a0_3) = some true := by rw [if_neg (show ¬ (false = true) by decide)] at H; exact H
     clear H
     have H := H1
     clear H1
     have H' := Aside0.mk H
     clear H
     go_wp2
     go_loopg [6] kj5 (fun kq v6 w' => ∃ (x6_2 : Int), v6 = .int .i64 x6_2 ∧ Aside0 (dragnetlaw08_FieldBack.l0 kq t139 t140 t141 x6_2 a0_0 a0_1 a0_2 a0_3 = some true) ∧ Aside0 (kq ≤ kj5) ∧ Aside0 (w'.heap[gb137]? = some (.cells #[.string a0_0, .int .i64 a0_1, .int .i64 a0_2, .string a0_3] 28 (0, 0))) ∧ Aside0 (Below w.heap.size w w'))
     case atStart => exact ⟨(0), (by first | rfl | (simp; done) | (simp [*]; done)), H', ⟨Nat.le_refl _⟩, ⟨by (with_reducible repeat (first | refine blk_drewN ?_ _ | refine blk_drew ?_ | refine blk_alloc ?_ _)); exact BK137.out⟩, ⟨by repeat (first | (with_reducible first | exact HB.out | apply below_alloc | apply pw_below_drewN | apply below_drew1 | refine below_set ?_ GE137.out) | exact HB.out)⟩⟩
     case round =>
      clear H'
      try clear c1
      try clear p2
      try clear c3
      try clear c6
      try clear c9
      try clear c10
      try clear c13
      try clear c16
      try clear hcz14_0
      try clear hcz14_1
      try clear hcz14_2
      try clear hcz14_3
      try clear hcz15_0
      try clear hcz15_1
      try clear hcz15_2
      try clear hcz15_3
      try clear hcz9_0
      try clear hcz9_1
      try clear hcz9_2
      try clear hcz9_3
      try clear hfz14_0
      try clear hfz14_1
      try clear hfz14_2
      try clear hfz14_3
      try clear hfz15_0
      try clear hfz15_1
      try clear hfz15_2
      try clear hfz15_3
      try clear hfz9_0
      try clear hfz9_1
      try clear hfz9_2
      try clear hfz9_3
      try clear p2
      obtain ⟨x6_2, rfl, HA, HK2, BK137, HB⟩ := hrel
      cases gk with
      | zero => exact absurd HA.out (by simp [dragnetlaw08_FieldBack.l0])
      | succ k2 =>
       have H := HA.out
       clear HA
       simp only [dragnetlaw08_FieldBack.l0] at H
       by_cases c17 : x6_2 < (t139.size : Int)
       ·rw [if_pos c17] at H
        have c17b0 : decide (x6_2 < (t139.size : Int)) = true := decide_eq_true c17
        clear c17
        by_cases c18 : 0 ≤ x6_2
        ·rw [if_pos c18] at H
         have c18b0 : decide (0 ≤ x6_2) = true := decide_eq_true c18
         clear c18
         by_cases c20 : (bt t139 x6_2) = 9
         ·rw [if_pos c20] at H
          have c20b0 : ((bt t139 x6_2) == 9) = true := beq_iff_eq.mpr c20
          have c20b1 : ((bt t139 x6_2) != 9) = false := bne_eq_false_iff_eq.mpr c20
          clear c20
          have Hr_ := Option.some.inj H
          have p19 : 0 ≤ (x6_2 : Int) := of_decide_eq_true (by first | (with_reducible assumption) | assumption)
          have q19 : x6_2 < (t139.size : Int) := of_decide_eq_true (by first | (with_reducible assumption) | assumption)
          have hx19 := bt_at t139 x6_2
          replace p19 := eq_true p19
          replace q19 := eq_true q19
          go_wp2
          go_ret
          exact ⟨by first | rfl | (simp [errW_none, errW_some] <;> rfl) | (simp [*, errW_none, errW_some] <;> rfl), by repeat (first | (with_reducible first | exact HB.out | apply below_alloc | apply pw_below_drewN | apply below_drew1 | refine below_set ?_ GE137.out) | exact HB.out)⟩
         ·rw [if_neg c20] at H
          have c20b0 : ((bt t139 x6_2) == 9) = false := beq_eq_false_iff_ne.mpr c20
          have c20b1 : ((bt t139 x6_2) != 9) = true := bne_iff_ne.mpr c20
          by_cases c22 : (bt t139 x6_2) = 10
          ·rw [if_pos c22] at H
           have c22b0 : ((bt t139 x6_2) == 10) = true := beq_iff_eq.mpr c22
           have c22b1 : ((bt t139 x6_2) != 10) = false := bne_eq_false_iff_eq.mpr c22
           clear c22
           have Hr_ := Option.some.inj H
           have p19 : 0 ≤ (x6_2 : Int) := of_decide_eq_true (by first | (with_reducible assumption) | assumption)
           have q19 : x6_2 < (t139.size : Int) := of_decide_eq_true (by first | (with_reducible assumption) | assumption)
           have hx19 := bt_at t139 x6_2
           replace p19 := eq_true p19
           replace q19 := eq_true q19
           have p21 : 0 ≤ (x6_2 : Int) := of_decide_eq_true (by first | (with_reducible assumption) | assumption)
           have q21 : x6_2 < (t139.size : Int) := of_decide_eq_true (by first | (with_reducible assumption) | assumption)
           have hx21 := bt_at t139 x6_2
           replace p21 := eq_true p21
           replace q21 := eq_true q21
           go_wp2
           go_ret
           exact ⟨by first | rfl | (simp [errW_none, errW_some] <;> rfl) | (simp [*, errW_none, errW_some] <;> rfl), by repeat (first | (with_reducible first | exact HB.out | apply below_alloc | apply pw_below_drewN | apply below_drew1 | refine below_set ?_ GE137.out) | exact HB.out)⟩
          ·rw [if_neg c22] at H
           have c22b0 : ((bt t139 x6_2) == 10) = false := beq_eq_false_iff_ne.mpr c22
           have c22b1 : ((bt t139 x6_2) != 10) = true := bne_iff_ne.mpr c22
           by_cases c24 : (bt t139 x6_2) = 13
           ·rw [if_pos c24] at H
            have c24b0 : ((bt t139 x6_2) == 13) = true := beq_iff_eq.mpr c24
            have c24b1 : ((bt t139 x6_2) != 13) = false := bne_eq_false_iff_eq.mpr c24
            clear c24
            have Hr_ := Option.some.inj H
            have p19 : 0 ≤ (x6_2 : Int) := of_decide_eq_true (by first | (with_reducible assumption) | assumption)
            have q19 : x6_2 < (t139.size : Int) := of_decide_eq_true (by first | (with_reducible assumption) | assumption)
            have hx19 := bt_at t139 x6_2
            replace p19 := eq_true p19
            replace q19 := eq_true q19
            have p21 : 0 ≤ (x6_2 : Int) := of_decide_eq_true (by first | (with_reducible assumption) | assumption)
            have q21 : x6_2 < (t139.size : Int) := of_decide_eq_true (by first | (with_reducible assumption) | assumption)
            have hx21 := bt_at t139 x6_2
            replace p21 := eq_true p21
            replace q21 := eq_true q21
            have p23 : 0 ≤ (x6_2 : Int) := of_decide_eq_true (by first | (with_reducible assumption) | assumption)
            have q23 : x6_2 < (t139.size : Int) := of_decide_eq_true (by first | (with_reducible assumption) | assumption)
            have hx23 := bt_at t139 x6_2
            replace p23 := eq_true p23
            replace q23 := eq_true q23
            go_wp2
            go_ret
            exact ⟨by first | rfl | (simp [errW_none, errW_some] <;> rfl) | (simp [*, errW_none, errW_some] <;> rfl), by repeat (first | (with_reducible first | exact HB.out | apply below_alloc | apply pw_below_drewN | apply below_drew1 | refine below_set ?_ GE137.out) | exact HB.out)⟩
           ·rw [if_neg c24] at H
            have c24b0 : ((bt t139 x6_2) == 13) = false := beq_eq_false_iff_ne.mpr c24
            have c24b1 : ((bt t139 x6_2) != 13) = true := bne_iff_ne.mpr c24
            by_cases c26 : (bt t139 x6_2) = 32
            ·rw [if_pos c26] at H
             have c26b0 : ((bt t139 x6_2) == 32) = true := beq_iff_eq.mpr c26
             have c26b1 : ((bt t139 x6_2) != 32) = false := bne_eq_false_iff_eq.mpr c26
             clear c26
             have Hr_ := Option.some.inj H
             have p19 : 0 ≤ (x6_2 : Int) := of_decide_eq_true (by first | (with_reducible assumption) | assumption)
             have q19 : x6_2 < (t139.size : Int) := of_decide_eq_true (by first | (with_reducible assumption) | assumption)
             have hx19 := bt_at t139 x6_2
             replace p19 := eq_true p19
             replace q19 := eq_true q19
             have p21 : 0 ≤ (x6_2 : Int) := of_decide_eq_true (by first | (with_reducible assumption) | assumption)
             have q21 : x6_2 < (t139.size : Int) := of_decide_eq_true (by first | (with_reducible assumption) | assumption)
             have hx21 := bt_at t139 x6_2
             replace p21 := eq_true p21
             replace q21 := eq_true q21
             have p23 : 0 ≤ (x6_2 : Int) := of_decide_eq_true (by first | (with_reducible assumption) | assumption)
             have q23 : x6_2 < (t139.size : Int) := of_decide_eq_true (by first | (with_reducible assumption) | assumption)
             have hx23 := bt_at t139 x6_2
             replace p23 := eq_true p23
             replace q23 := eq_true q23
             have p25 : 0 ≤ (x6_2 : Int) := of_decide_eq_true (by first | (with_reducible assumption) | assumption)
             have q25 : x6_2 < (t139.size : Int) := of_decide_eq_true (by first | (with_reducible assumption) | assumption)
             have hx25 := bt_at t139 x6_2
             replace p25 := eq_true p25
             replace q25 := eq_true q25
             go_wp2
             go_ret
             exact ⟨by first | rfl | (simp [errW_none, errW_some] <;> rfl) | (simp [*, errW_none, errW_some] <;> rfl), by repeat (first | (with_reducible first | exact HB.out | apply below_alloc | apply pw_below_drewN | apply below_drew1 | refine below_set ?_ GE137.out) | exact HB.out)⟩
            ·rw [if_neg c26] at H
             have c26b0 : ((bt t139 x6_2) == 32) = false := beq_eq_false_iff_ne.mpr c26
             have c26b1 : ((bt t139 x6_2) != 32) = true := bne_iff_ne.mpr c26
             have H' := Aside0.mk H
             clear H
             have p19 : 0 ≤ (x6_2 : Int) := of_decide_eq_true (by first | (with_reducible assumption) | assumption)
             have q19 : x6_2 < (t139.size : Int) := of_decide_eq_true (by first | (with_reducible assumption) | assumption)
             have hx19 := bt_at t139 x6_2
             replace p19 := eq_true p19
             replace q19 := eq_true q19
             have p21 : 0 ≤ (x6_2 : Int) := of_decide_eq_true (by first | (with_reducible assumption) | assumption)
             have q21 : x6_2 < (t139.size : Int) := of_decide_eq_true (by first | (with_reducible assumption) | assumption)
             have hx21 := bt_at t139 x6_2
             replace p21 := eq_true p21
             replace q21 := eq_true q21
             have p23 : 0 ≤ (x6_2 : Int) := of_decide_eq_true (by first | (with_reducible assumption) | assumption)
             have q23 : x6_2 < (t139.size : Int) := of_decide_eq_true (by first | (with_reducible assumption) | assumption)
             have hx23 := bt_at t139 x6_2
             replace p23 := eq_true p23
             replace q23 := eq_true q23
             have p25 : 0 ≤ (x6_2 : Int) := of_decide_eq_true (by first | (with_reducible assumption) | assumption)
             have q25 : x6_2 < (t139.size : Int) := of_decide_eq_true (by first | (with_reducible assumption) | assumption)
             have hx25 := bt_at t139 x6_2
             replace p25 := eq_true p25
             replace q25 := eq_true q25
             go_wp2
             go_roundg k2
             case measure => have := HJ5.out; have := HK2.out; omega
             case rel => exact ⟨(wrap64 (x6_2 + 1)), (by first | rfl | (simp; done) | (simp [*]; done)), H', ⟨by have := HJ5.out; have := HK2.out; omega⟩, ⟨by (with_reducible repeat (first | refine blk_drewN ?_ _ | refine blk_drew ?_ | refine blk_alloc ?_ _)); exact BK137.out⟩, ⟨by repeat (first | (with_reducible first | exact HB.out | apply below_alloc | apply pw_below_drewN | apply below_drew1 | refine below_set ?_ GE137.out) | exact HB.out)⟩⟩
        ·rw [if_neg c18] at H
         exact absurd H (by simp)
       ·rw [if_neg c17] at H
        have c17b0 : decide (x6_2 < (t139.size : Int)) = false := decide_eq_false c17
        clear c17
        by_cases c27 : t141 = true
        ·subst c27
         have H1 : (if a0_0.size + 1 ≤ 9223372036854775807 then (if (a0_0 ++ (⟨#[61]⟩ : ByteArray)).size + t139.size ≤ 9223372036854775807 then ((string_bytes.f ((a0_0 ++ (⟨#[61]⟩ : ByteArray)) ++ t139)).bind fun t144 => ((field_Read.f t144).bind fun t147 => ((dragnetref08_Same.f k2 t147 (([(⟨a0_0, 1, t140, (⟨#[]⟩ : ByteArray)⟩ : S28)] : List (S28)))).bind fun t153 => (some t153)))) else (none)) else (none)) = some true := by rw [if_pos rfl] at H; exact H
         clear H
         have H := H1
         clear H1
         by_cases c28 : a0_0.size + 1 ≤ 9223372036854775807
         ·rw [if_pos c28] at H
          have c28b0 := eq_true c28
          have c28b1 : decide (a0_0.size + 1 ≤ 9223372036854775807) = true := decide_eq_true c28
          try have c28b2 : (9223372036854775807 < a0_0.size + 1) = False := eq_false (Nat.not_lt.2 c28)
          by_cases c29 : (a0_0 ++ (⟨#[61]⟩ : ByteArray)).size + t139.size ≤ 9223372036854775807
          ·rw [if_pos c29] at H
           have c29b0 := eq_true c29
           have c29b1 : decide ((a0_0 ++ (⟨#[61]⟩ : ByteArray)).size + t139.size ≤ 9223372036854775807) = true := decide_eq_true c29
           try have c29b2 : (9223372036854775807 < (a0_0 ++ (⟨#[61]⟩ : ByteArray)).size + t139.size) = False := eq_false (Nat.not_lt.2 c29)
           try have c29b3 : (9223372036854775807 < a0_0.size + 1 + t139.size) = False := (by have h_ := c29b2; simp only [ByteArray.size_append] at h_; exact h_)
           replace H := Option.bind_eq_some_iff.mp H
           obtain ⟨t144, A300, H⟩ := H
           replace H : ((field_Read.f t144).bind fun t147 => ((dragnetref08_Same.f k2 t147 (([(⟨a0_0, 1, t140, (⟨#[]⟩ : ByteArray)⟩ : S28)] : List (S28)))).bind fun t153 => (some t153))) = some true := H
           have A30 := Aside0.mk A300
           clear A300
           replace H := Option.bind_eq_some_iff.mp H
           obtain ⟨t147, A310, H⟩ := H
           replace H : ((dragnetref08_Same.f k2 t147 (([(⟨a0_0, 1, t140, (⟨#[]⟩ : ByteArray)⟩ : S28)] : List (S28)))).bind fun t153 => (some t153)) = some true := H
           have A31 := Aside0.mk A310
           clear A310
           obtain ⟨y150, hy150⟩ : ∃ y_ : List (S28), y_ = (([(⟨a0_0, 1, t140, (⟨#[]⟩ : ByteArray)⟩ : S28)] : List (S28))) := ⟨_, rfl⟩
           replace H : ((dragnetref08_Same.f k2 t147 y150).bind fun t153 => (some t153)) = some true := by first | (rw [hy150]; with_reducible exact H) | (have H2_ := (Option.bind_some _ _).symm.trans H; rw [hy150]; with_reducible exact H2_) | (have H2_ := (Option.bind_some _ _).symm.trans H; with_reducible exact H2_) | with_reducible exact H | (rw [hy150]; exact H) | exact H
           have Ny150 := Aside0.mk hy150
           clear hy150
           replace H := Option.bind_eq_some_iff.mp H
           obtain ⟨t153, A320, H⟩ := H
           replace H : (some t153) = some true := H
           have A32 := Aside0.mk A320
           clear A320
           have Hr_ := Option.some.inj H
           have hcz33_0 : wr.cell? ⟨gb137, 0, none⟩ = some (.string a0_0) := (blk_cell BK137.out 0).trans rfl
           have hcz33_1 : wr.cell? ⟨gb137, 1, none⟩ = some (.int .i64 a0_1) := (blk_cell BK137.out 1).trans rfl
           have hcz33_2 : wr.cell? ⟨gb137, 2, none⟩ = some (.int .i64 a0_2) := (blk_cell BK137.out 2).trans rfl
           have hcz33_3 : wr.cell? ⟨gb137, 3, none⟩ = some (.string a0_3) := (blk_cell BK137.out 3).trans rfl
           have hfz33_0 := blk_frozen BK137.out 0
           have hfz33_1 := blk_frozen BK137.out 1
           have hfz33_2 := blk_frozen BK137.out 2
           have hfz33_3 := blk_frozen BK137.out 3
           try go_wp2_with (first | ((with_reducible refine gate_dst (N := 7) rfl ?_); (try (refine gate_guard (by rfl) ?_; dsimp only)); refine box_event ?hg (N := 7) ?hd (cs := #[.string (⟨#[]⟩ : ByteArray), .int .i64 0, .int .i64 0, .string (⟨#[]⟩ : ByteArray)]) (t := 28) ?hr ?_; (case hd => rfl); (case hg => rfl); (case hr => first | (go_simp; done) | (go_simp; rfl)); intro gb143 hg w34 hbox hb; have n0_ := bkA BK137 hb; have n1_ := bsA HB hb; have n2_ := Aside0.mk (hbox); have n3_ := szA HB hg; have n4_ := szA HB hg; have n5_ := neA BK137 hg; have n6_ := neB BK137 hg; clear BK137; clear HB; have BK137 := n0_; have HB := n1_; have BK143 := n2_; have GW143 := n3_; have GE143 := n4_; have NB137_143 := n5_; have NB143_137 := n6_; clear n0_ n1_ n2_ n3_ n4_ n5_ n6_; clear hb hbox hg; have hnb35 := NB143_137.out; have hnc35 := NB137_143.out; have hcz36_0 : w34.cell? ⟨gb143, 0, none⟩ = some (.string (⟨#[]⟩ : ByteArray)) := (blk_cell BK143.out 0).trans rfl; have hcz36_1 : w34.cell? ⟨gb143, 1, none⟩ = some (.int .i64 0) := (blk_cell BK143.out 1).trans rfl; have hcz36_2 : w34.cell? ⟨gb143, 2, none⟩ = some (.int .i64 0) := (blk_cell BK143.out 2).trans rfl; have hcz36_3 : w34.cell? ⟨gb143, 3, none⟩ = some (.string (⟨#[]⟩ : ByteArray)) := (blk_cell BK143.out 3).trans rfl; have hfz36_0 := blk_frozen BK143.out 0; have hfz36_1 := blk_frozen BK143.out 1; have hfz36_2 := blk_frozen BK143.out 2; have hfz36_3 := blk_frozen BK143.out 3; have hcz37_0 : w34.cell? ⟨gb137, 0, none⟩ = some (.string a0_0) := (blk_cell BK137.out 0).trans rfl; have hcz37_1 : w34.cell? ⟨gb137, 1, none⟩ = some (.int .i64 a0_1) := (blk_cell BK137.out 1).trans rfl; have hcz37_2 : w34.cell? ⟨gb137, 2, none⟩ = some (.int .i64 a0_2) := (blk_cell BK137.out 2).trans rfl; have hcz37_3 : w34.cell? ⟨gb137, 3, none⟩ = some (.string a0_3) := (blk_cell BK137.out 3).trans rfl; have hfz37_0 := blk_frozen BK137.out 0; have hfz37_1 := blk_frozen BK137.out 1; have hfz37_2 := blk_frozen BK137.out 2; have hfz37_3 := blk_frozen BK137.out 3))
           have n0_ : Aside0 (((((((((w34.setCell ⟨gb143, 0, none⟩ (.string a0_0)).setCell ⟨gb143, 1, none⟩ (.int .i64 2)).setCell ⟨gb143, 2, none⟩ (.int .i64 0)).setCell ⟨gb143, 3, none⟩ (.string t139)).setCell ⟨gb143, 0, none⟩ (.string a0_0)).setCell ⟨gb143, 1, none⟩ (.int .i64 1)).setCell ⟨gb143, 2, none⟩ (.int .i64 t140)).setCell ⟨gb143, 3, none⟩ (.string (⟨#[]⟩ : ByteArray))).heap[gb137]? = some (.cells #[.string a0_0, .int .i64 a0_1, .int .i64 a0_2, .string a0_3] 28 (0, 0))) := ⟨by (with_reducible repeat (first | refine blk_drewN ?_ _ | refine blk_drew ?_ | refine blk_alloc ?_ _)); refine blk_far ?_ NB137_143.out _; (with_reducible repeat (first | refine blk_drewN ?_ _ | refine blk_drew ?_ | refine blk_alloc ?_ _)); refine blk_far ?_ NB137_143.out _; (with_reducible repeat (first | refine blk_drewN ?_ _ | refine blk_drew ?_ | refine blk_alloc ?_ _)); refine blk_far ?_ NB137_143.out _; (with_reducible repeat (first | refine blk_drewN ?_ _ | refine blk_drew ?_ | refine blk_alloc ?_ _)); refine blk_far ?_ NB137_143.out _; (with_reducible repeat (first | refine blk_drewN ?_ _ | refine blk_drew ?_ | refine blk_alloc ?_ _)); refine blk_far ?_ NB137_143.out _; (with_reducible repeat (first | refine blk_drewN ?_ _ | refine blk_drew ?_ | refine blk_alloc ?_ _)); refine blk_far ?_ NB137_143.out _; (with_reducible repeat (first | refine blk_drewN ?_ _ | refine blk_drew ?_ | refine blk_alloc ?_ _)); refine blk_far ?_ NB137_143.out _; (with_reducible repeat (first | refine blk_drewN ?_ _ | refine blk_drew ?_ | refine blk_alloc ?_ _)); refine blk_far ?_ NB137_143.out _; (with_reducible repeat (first | refine blk_drewN ?_ _ | refine blk_drew ?_ | refine blk_alloc ?_ _)); exact BK137.out⟩
           have n1_ : Aside0 (((((((((w34.setCell ⟨gb143, 0, none⟩ (.string a0_0)).setCell ⟨gb143, 1, none⟩ (.int .i64 2)).setCell ⟨gb143, 2, none⟩ (.int .i64 0)).setCell ⟨gb143, 3, none⟩ (.string t139)).setCell ⟨gb143, 0, none⟩ (.string a0_0)).setCell ⟨gb143, 1, none⟩ (.int .i64 1)).setCell ⟨gb143, 2, none⟩ (.int .i64 t140)).setCell ⟨gb143, 3, none⟩ (.string (⟨#[]⟩ : ByteArray))).heap[gb143]? = some (.cells #[.string a0_0, .int .i64 1, .int .i64 t140, .string (⟨#[]⟩ : ByteArray)] 28 (0, 0))) := ⟨by (with_reducible repeat (first | refine blk_drewN ?_ _ | refine blk_drew ?_ | refine blk_alloc ?_ _)); refine blk_put (cs := #[.string a0_0, .int .i64 1, .int .i64 t140, .string t139]) ?_ 3 _ rfl; (with_reducible repeat (first | refine blk_drewN ?_ _ | refine blk_drew ?_ | refine blk_alloc ?_ _)); refine blk_put (cs := #[.string a0_0, .int .i64 1, .int .i64 0, .string t139]) ?_ 2 _ rfl; (with_reducible repeat (first | refine blk_drewN ?_ _ | refine blk_drew ?_ | refine blk_alloc ?_ _)); refine blk_put (cs := #[.string a0_0, .int .i64 2, .int .i64 0, .string t139]) ?_ 1 _ rfl; (with_reducible repeat (first | refine blk_drewN ?_ _ | refine blk_drew ?_ | refine blk_alloc ?_ _)); refine blk_put (cs := #[.string a0_0, .int .i64 2, .int .i64 0, .string t139]) ?_ 0 _ rfl; (with_reducible repeat (first | refine blk_drewN ?_ _ | refine blk_drew ?_ | refine blk_alloc ?_ _)); refine blk_put (cs := #[.string a0_0, .int .i64 2, .int .i64 0, .string (⟨#[]⟩ : ByteArray)]) ?_ 3 _ rfl; (with_reducible repeat (first | refine blk_drewN ?_ _ | refine blk_drew ?_ | refine blk_alloc ?_ _)); refine blk_put (cs := #[.string a0_0, .int .i64 2, .int .i64 0, .string (⟨#[]⟩ : ByteArray)]) ?_ 2 _ rfl; (with_reducible repeat (first | refine blk_drewN ?_ _ | refine blk_drew ?_ | refine blk_alloc ?_ _)); refine blk_put (cs := #[.string a0_0, .int .i64 0, .int .i64 0, .string (⟨#[]⟩ : ByteArray)]) ?_ 1 _ rfl; (with_reducible repeat (first | refine blk_drewN ?_ _ | refine blk_drew ?_ | refine blk_alloc ?_ _)); refine blk_put (cs := #[.string (⟨#[]⟩ : ByteArray), .int .i64 0, .int .i64 0, .string (⟨#[]⟩ : ByteArray)]) ?_ 0 _ rfl; (with_reducible repeat (first | refine blk_drewN ?_ _ | refine blk_drew ?_ | refine blk_alloc ?_ _)); exact BK143.out⟩
           have n2_ : Aside0 (Below w.heap.size w ((((((((w34.setCell ⟨gb143, 0, none⟩ (.string a0_0)).setCell ⟨gb143, 1, none⟩ (.int .i64 2)).setCell ⟨gb143, 2, none⟩ (.int .i64 0)).setCell ⟨gb143, 3, none⟩ (.string t139)).setCell ⟨gb143, 0, none⟩ (.string a0_0)).setCell ⟨gb143, 1, none⟩ (.int .i64 1)).setCell ⟨gb143, 2, none⟩ (.int .i64 t140)).setCell ⟨gb143, 3, none⟩ (.string (⟨#[]⟩ : ByteArray)))) := ⟨by repeat (first | (with_reducible first | exact HB.out | apply below_alloc | apply pw_below_drewN | apply below_drew1 | refine below_set ?_ GE137.out | refine below_set ?_ GE143.out) | exact HB.out)⟩
           (try clear BK137)
           (try clear BK143)
           (try clear HB)
           (try simp only [sc_drewN])
           generalize ((((((((w34.setCell ⟨gb143, 0, none⟩ (.string a0_0)).setCell ⟨gb143, 1, none⟩ (.int .i64 2)).setCell ⟨gb143, 2, none⟩ (.int .i64 0)).setCell ⟨gb143, 3, none⟩ (.string t139)).setCell ⟨gb143, 0, none⟩ (.string a0_0)).setCell ⟨gb143, 1, none⟩ (.int .i64 1)).setCell ⟨gb143, 2, none⟩ (.int .i64 t140)).setCell ⟨gb143, 3, none⟩ (.string (⟨#[]⟩ : ByteArray))) = w38 at n0_ n1_ n2_ ⊢
           have BK137 := n0_
           have BK143 := n1_
           have HB := n2_
           clear n0_ n1_ n2_
           have n0_ := Aside0.mk (blk_drew BK137.out)
           have n1_ := Aside0.mk (blk_drew BK143.out)
           have n2_ := Aside0.mk (below_drew1 HB.out)
           clear BK137
           clear BK143
           clear HB
           have BK137 := n0_
           have BK143 := n1_
           have HB := n2_
           clear n0_ n1_ n2_
           refine start_ (n := 11) (S := fun w' => w'.cell? ⟨gb137, 0, none⟩ = some (.string a0_0) ∧ w'.cell? ⟨gb137, 1, none⟩ = some (.int .i64 a0_1) ∧ w'.cell? ⟨gb137, 2, none⟩ = some (.int .i64 a0_2) ∧ w'.cell? ⟨gb137, 3, none⟩ = some (.string a0_3) ∧ w'.cell? ⟨gb143, 0, none⟩ = some (.string a0_0) ∧ w'.cell? ⟨gb143, 1, none⟩ = some (.int .i64 1) ∧ w'.cell? ⟨gb143, 2, none⟩ = some (.int .i64 t140) ∧ w'.cell? ⟨gb143, 3, none⟩ = some (.string (⟨#[]⟩ : ByteArray))) (ds := []) #[false, false, false, false, false, false, false, false, false, false, false] (by kernel_rfl) rfl rfl ⟨(blk_cell BK137.out 0).trans rfl, (blk_cell BK137.out 1).trans rfl, (blk_cell BK137.out 2).trans rfl, (blk_cell BK137.out 3).trans rfl, (blk_cell BK143.out 0).trans rfl, (blk_cell BK143.out 1).trans rfl, (blk_cell BK143.out 2).trans rfl, (blk_cell BK143.out 3).trans rfl⟩ (fun hHeld => ?_); refine with_tabW dragnetlaw08_FieldBack.tab15 dragnetlaw08_FieldBack.bits15 (fun HT_ HW_ => ?_)
           generalize w38.drew = w39 at BK137 BK143 HB hHeld ⊢
           refine pure_ (i := 0) (N := some 63) (v := ?_) (a' := ?_) #[true, false, false, false, false, false, false, false, false, false, false] rfl rfl (any_of HT_.out (by kernel_rfl)) (fun _ _ _ h => h) (Or.inl ⟨by rfl, ?_⟩) ?_ ?_
           rotate_left
           ·intro w'
            go_simp
            with_reducible rfl
           rotate_left
           ·simp only [Act.put, List.setIfInBounds_toArray, List.set_cons_zero, List.set_cons_succ, i64_w, i32_w]
            rfl
           refine pure_ (i := 3) (N := some 66) (v := ?_) (a' := ?_) #[true, false, false, true, false, false, false, false, false, false, false] rfl rfl (any_of HT_.out (by kernel_rfl)) (fun _ _ _ h => h) (Or.inl ⟨by rfl, ?_⟩) ?_ ?_
           rotate_left
           ·intro w'
            go_simp
            with_reducible rfl
           rotate_left
           ·simp only [Act.put, List.setIfInBounds_toArray, List.set_cons_zero, List.set_cons_succ, i64_w, i32_w]
            rfl
           refine take_ (i := 1) (N := some 64) (v := ?_) (a' := ?_) #[true, true, false, true, false, false, false, false, false, false, false] rfl rfl (take_ofW HT_.out HW_.out (by kernel_rfl)) (fun _ _ _ h => h) (Or.inl ⟨by rfl, ?_⟩) hHeld ?_ ?_
           rotate_left
           ·rintro w' ⟨s0, s1, s2, s3, s4, s5, s6, s7⟩
            go_simp
            with_reducible rfl
           rotate_left
           ·simp only [Act.put, List.setIfInBounds_toArray, List.set_cons_zero, List.set_cons_succ, i64_w, i32_w]
            rfl
           refine pure_ (i := 2) (N := some 65) (v := ?_) (a' := ?_) #[true, true, true, true, false, false, false, false, false, false, false] rfl rfl (any_of HT_.out (by kernel_rfl)) (fun _ _ _ h => h) (Or.inl ⟨by rfl, ?_⟩) ?_ ?_
           rotate_left
           ·intro w'
            go_simp
            with_reducible rfl
           rotate_left
           ·simp only [Act.put, List.setIfInBounds_toArray, List.set_cons_zero, List.set_cons_succ, i64_w, i32_w]
            rfl
           refine pure_ (i := 4) (N := some 67) (v := ?_) (a' := ?_) #[true, true, true, true, true, false, false, false, false, false, false] rfl rfl (any_of HT_.out (by kernel_rfl)) (fun _ _ _ h => h) (Or.inl ⟨by rfl, ?_⟩) ?_ ?_
           rotate_left
           ·intro w'
            go_simp
            with_reducible rfl
           rotate_left
           ·simp only [Act.put, List.setIfInBounds_toArray, List.set_cons_zero, List.set_cons_succ, i64_w, i32_w]
            rfl
           refine take_ (i := 7) (N := some 70) (v := ?_) (a' := ?_) #[true, true, true, true, true, false, false, true, false, false, false] rfl rfl (take_ofW HT_.out HW_.out (by kernel_rfl)) (fun _ _ _ h => h) (Or.inl ⟨by rfl, ?_⟩) hHeld ?_ ?_
           rotate_left
           ·rintro w' ⟨s0, s1, s2, s3, s4, s5, s6, s7⟩
            go_simp
            with_reducible rfl
           rotate_left
           ·simp only [Act.put, List.setIfInBounds_toArray, List.set_cons_zero, List.set_cons_succ, i64_w, i32_w]
            rfl
           refine join_ (σ := Value × Value × Value) 2 #[true, true, true, true, true, true, true, true, true, false, false] (fun s_ => [(68, s_.1), (69, s_.2.1), (71, s_.2.2)]) (fun s_ w' => (w'.cell? ⟨gb137, 0, none⟩ = some (.string a0_0) ∧ w'.cell? ⟨gb137, 1, none⟩ = some (.int .i64 a0_1) ∧ w'.cell? ⟨gb137, 2, none⟩ = some (.int .i64 a0_2) ∧ w'.cell? ⟨gb137, 3, none⟩ = some (.string a0_3) ∧ w'.cell? ⟨gb143, 0, none⟩ = some (.string a0_0) ∧ w'.cell? ⟨gb143, 1, none⟩ = some (.int .i64 1) ∧ w'.cell? ⟨gb143, 2, none⟩ = some (.int .i64 t140) ∧ w'.cell? ⟨gb143, 3, none⟩ = some (.string (⟨#[]⟩ : ByteArray))) ∧ (Kr (Kd.int .u8) 5 w' w.heap.size (fun _ => True) s_.1 t144) ∧ (Kd.R k28 28 w' w.heap.size (fun k_ => some k_ ≠ (s_.2.2 : Value).ownBlock ∧ k_ ≠ gb137 ∧ k_ ≠ gb143) s_.2.1 t147) ∧ (Kd.R k28 28 w' w.heap.size (fun k_ => some k_ ≠ (s_.2.1 : Value).ownBlock ∧ k_ ≠ gb137 ∧ k_ ≠ gb143) s_.2.2 y150) ∧ (w'.heap[gb137]? = some (.cells #[.string a0_0, .int .i64 a0_1, .int .i64 a0_2, .string a0_3] 28 (0, 0))) ∧ (w'.heap[gb143]? = some (.cells #[.string a0_0, .int .i64 1, .int .i64 t140, .string (⟨#[]⟩ : ByteArray)] 28 (0, 0))) ∧ (Below w.heap.size w w')) ?_ ?_
           rotate_left
           ·intro hCont
            refine two_ (i := 5) (j := 8) (Ni := some 68) (Nj := some 71) #[true, true, true, true, true, true, false, true, false, false, false] #[true, true, true, true, true, false, false, true, true, false, false] rfl rfl rfl rfl (two_of HT_.out (by kernel_rfl)) (by decide) (by decide) (fun K hK => ?_) (fun K hK => ?_)
            ·skip
             refine conv_ ((a0_0 ++ (⟨#[61]⟩ : ByteArray)) ++ t139) (by rfl) rfl rfl (by (try simp only [List.map_toArray, List.map_cons, List.map_nil]); first | done | rfl | (simp only [List.length_drop, List.length_take]; rfl)) ?_
             with_reducible refine (string_bytes.calls ((a0_0 ++ (⟨#[61]⟩ : ByteArray)) ++ t139) t144 _ A30.out).mono ?_
             rintro e w40 ⟨v145, rfl, ho0, hb⟩
             refine ⟨_, rfl, ?_⟩
             have n0_ := Aside0.mk (Kr.lower ho0 (below_size (by repeat (first | (with_reducible first | exact HB.out | apply below_alloc | apply pw_below_drewN | apply below_drew1 | refine below_set ?_ GE137.out | refine below_set ?_ GE143.out) | exact HB.out))))
             have n1_ := bkA BK137 hb
             have n2_ := bkA BK143 hb
             have n3_ := bsA HB hb
             clear BK137
             clear BK143
             clear HB
             have HO146 := n0_
             have BK137 := n1_
             have BK143 := n2_
             have HB := n3_
             clear n0_ n1_ n2_ n3_
             (try clear hb)
             (try clear hb2)
             (try clear hk)
             (try clear hi)
             (try clear ho0)
             obtain ⟨Ao41, co41, eo41⟩ := Kr.slice HO146.out
             (first | subst eo41 | (injection eo41 with f1_ f2_ f3_; have f4_ := f1_.symm; have f5_ := f3_.symm; clear f1_ f2_ f3_; subst f4_; subst f5_))
             refine hK.out _ _ ⟨(blk_cell BK137.out 0).trans rfl, (blk_cell BK137.out 1).trans rfl, (blk_cell BK137.out 2).trans rfl, (blk_cell BK137.out 3).trans rfl, (blk_cell BK143.out 0).trans rfl, (blk_cell BK143.out 1).trans rfl, (blk_cell BK143.out 2).trans rfl, (blk_cell BK143.out 3).trans rfl⟩ (fun hHeld => ?_)
             clear hK K
             refine norm_ (a' := ?_) ?_ ?_
             rotate_left
             ·show Act.put _ (some 68) _ = _
              simp only [Act.put, List.setIfInBounds_toArray, List.set_cons_zero, List.set_cons_succ, i64_w, i32_w]
              rfl
             refine two_ (i := 6) (j := 8) (Ni := some 69) (Nj := some 71) #[true, true, true, true, true, true, true, true, false, false, false] #[true, true, true, true, true, true, false, true, true, false, false] rfl rfl rfl rfl (two_of HT_.out (by kernel_rfl)) (by decide) (by decide) (fun K hK => ?_) (fun K hK => ?_)
             ·skip
              refine goes_ Tryd.func13 (by kernel_rfl) rfl #[.slice Ao41 t144.length co41] (by rfl) rfl rfl (by (try simp only [List.map_toArray, List.map_cons, List.map_nil]); first | done | rfl | (simp only [List.length_drop, List.length_take]; rfl)) ?_
              with_reducible refine (field_Read.calls _ _ t144 t147 _ ?side1 ?side2 A31.out).mono ?_
              (case side1 => repeat (first | exact (Kr.reads' HO146.out).2.2 | (with_reducible refine Kd.C_alloc ?_ _) | (with_reducible refine Kd.C_drewN ?_ _) | (with_reducible refine Kd.C_drew ?_)))
              (case side2 => exact (Kr.reads' HO146.out).2.1)
              rintro e w42 ⟨v148, rfl, ho0, hb⟩
              refine ⟨_, rfl, ?_⟩
              have n0_ := rbK HO146 hb
              have n1_ := Aside0.mk (Kd.R_lower (Kd.R_newB (Kd.R_newB ho0 (g := gb137) (o := .cells #[.string a0_0, .int .i64 a0_1, .int .i64 a0_2, .string a0_3] 28 (0, 0)) (by (with_reducible repeat (first | refine blk_drewN ?_ _ | refine blk_drew ?_ | refine blk_alloc ?_ _)); exact BK137.out)) (g := gb143) (o := .cells #[.string a0_0, .int .i64 1, .int .i64 t140, .string (⟨#[]⟩ : ByteArray)] 28 (0, 0)) (by (with_reducible repeat (first | refine blk_drewN ?_ _ | refine blk_drew ?_ | refine blk_alloc ?_ _)); exact BK143.out)) (below_size (by repeat (first | (with_reducible first | exact HB.out | apply below_alloc | apply pw_below_drewN | apply below_drew1 | refine below_set ?_ GE137.out | refine below_set ?_ GE143.out) | exact HB.out))))
              have n2_ := bkA BK137 hb
              have n3_ := bkA BK143 hb
              have n4_ := bsA HB hb
              clear HO146
              clear BK137
              clear BK143
              clear HB
              have HO146 := n0_
              have HO149 := n1_
              have BK137 := n2_
              have BK143 := n3_
              have HB := n4_
              clear n0_ n1_ n2_ n3_ n4_
              (try clear hb)
              (try clear hb2)
              (try clear hk)
              (try clear hi)
              (try clear ho0)
              refine hK.out _ _ ⟨(blk_cell BK137.out 0).trans rfl, (blk_cell BK137.out 1).trans rfl, (blk_cell BK137.out 2).trans rfl, (blk_cell BK137.out 3).trans rfl, (blk_cell BK143.out 0).trans rfl, (blk_cell BK143.out 1).trans rfl, (blk_cell BK143.out 2).trans rfl, (blk_cell BK143.out 3).trans rfl⟩ (fun hHeld => ?_)
              clear hK K
              refine norm_ (a' := ?_) ?_ ?_
              rotate_left
              ·show Act.put _ (some 69) _ = _
               simp only [Act.put, List.setIfInBounds_toArray, List.set_cons_zero, List.set_cons_succ, i64_w, i32_w]
               rfl
              refine one_ (i := 8) (N := some 71) #[true, true, true, true, true, true, true, true, true, false, false] rfl rfl (one_of HT_.out (by kernel_rfl)) (by decide) (fun K hK => ?_)
              refine Kd.R_lit_step k28 _ 28 ?hg (N := 71) ?hd (xs := ([(⟨a0_0, 1, t140, (⟨#[]⟩ : ByteArray)⟩ : S28)] : List (S28))) (inner := [.string a0_0, .int .i64 1, .int .i64 t140, .string (⟨#[]⟩ : ByteArray)]) (ok := fun _ => True) (okp := fun _ => True) ?hr ?hp (fun _ hk => hk) trivial (Below.refl _ _) (Nat.le_refl _) (by simp) ?_; (case hd => rfl); (case hg => rfl); (case hr => first | (go_simp; done) | (go_simp; rfl)); (case hp => exact (Reps.c4 (show Kd.M k28 _ _ _ (⟨a0_0, 1, t140, (⟨#[]⟩ : ByteArray)⟩ : S28) [.string a0_0, .int .i64 1, .int .i64 t140, .string (⟨#[]⟩ : ByteArray)] from (k28_mkM _ _ _ (⟨a0_0, 1, t140, (⟨#[]⟩ : ByteArray)⟩ : S28) )) (Reps.none _ _)))
              intro v151 w43 ho44 hb hg_ hnew_
              clear hg_ hnew_
              (first | rw [← Ny150.out] at ho44 | (simp only [Int.reduceToNat] at ho44; rw [← Ny150.out] at ho44))
              have n0_ := rbK HO146 hb
              have n1_ := Aside0.mk (Kd.R_elder' (by (with_reducible repeat (first | apply Kd.R_alloc | apply Kd.R_drewN | apply Kd.R_drew)); exact HO149.out) (Kd.R_base ho44) hb)
              have n2_ := Aside0.mk (Kd.R_lower (Kd.R_newB (Kd.R_newB (Kd.R_new' ho44 (Kd.R_lt (by (with_reducible repeat (first | apply Kd.R_alloc | apply Kd.R_drewN | apply Kd.R_drew)); exact HO149.out))) (g := gb137) (o := .cells #[.string a0_0, .int .i64 a0_1, .int .i64 a0_2, .string a0_3] 28 (0, 0)) (by (with_reducible repeat (first | refine blk_drewN ?_ _ | refine blk_drew ?_ | refine blk_alloc ?_ _)); exact BK137.out)) (g := gb143) (o := .cells #[.string a0_0, .int .i64 1, .int .i64 t140, .string (⟨#[]⟩ : ByteArray)] 28 (0, 0)) (by (with_reducible repeat (first | refine blk_drewN ?_ _ | refine blk_drew ?_ | refine blk_alloc ?_ _)); exact BK143.out)) (below_size (by repeat (first | (with_reducible first | exact HB.out | apply below_alloc | apply pw_below_drewN | apply below_drew1 | refine below_set ?_ GE137.out | refine below_set ?_ GE143.out) | exact HB.out))))
              have n3_ := bkA BK137 hb
              have n4_ := bkA BK143 hb
              have n5_ := bsA HB hb
              clear HO146
              clear HO149
              clear BK137
              clear BK143
              clear HB
              have HO146 := n0_
              have HO149 := n1_
              have HO152 := n2_
              have BK137 := n3_
              have BK143 := n4_
              have HB := n5_
              clear n0_ n1_ n2_ n3_ n4_ n5_
              clear hb ho44
              refine hK.out _ _ ⟨(blk_cell BK137.out 0).trans rfl, (blk_cell BK137.out 1).trans rfl, (blk_cell BK137.out 2).trans rfl, (blk_cell BK137.out 3).trans rfl, (blk_cell BK143.out 0).trans rfl, (blk_cell BK143.out 1).trans rfl, (blk_cell BK143.out 2).trans rfl, (blk_cell BK143.out 3).trans rfl⟩ (fun hHeld => ?_)
              clear hK K
              refine norm_ (a' := ?_) ?_ ?_
              rotate_left
              ·show Act.put _ (some 71) _ = _
               simp only [Act.put, List.setIfInBounds_toArray, List.set_cons_zero, List.set_cons_succ, i64_w, i32_w]
               rfl
              exact norm_ (by simp only [putAll, Act.put, List.setIfInBounds_toArray, List.set_cons_zero, List.set_cons_succ]) (hCont (.slice Ao41 t144.length co41, v148, v151) _ ⟨hHeld, (by (with_reducible repeat (first | apply Kr.alloc | apply Kr.drewN | apply Kr.drew)); exact HO146.out), (by (with_reducible repeat (first | apply Kd.R_alloc | apply Kd.R_drewN | apply Kd.R_drew)); exact Kd.R_mono HO149.out (fun _ hk => ⟨hk.2, ⟨hk.1.1.2, hk.1.2⟩⟩)), (by (with_reducible repeat (first | apply Kd.R_alloc | apply Kd.R_drewN | apply Kd.R_drew)); exact Kd.R_mono HO152.out (fun _ hk => ⟨hk.1.1.2, ⟨hk.1.2, hk.2⟩⟩)), (by (with_reducible repeat (first | refine blk_drewN ?_ _ | refine blk_drew ?_ | refine blk_alloc ?_ _)); exact BK137.out), (by (with_reducible repeat (first | refine blk_drewN ?_ _ | refine blk_drew ?_ | refine blk_alloc ?_ _)); exact BK143.out), (by repeat (first | (with_reducible first | exact HB.out | apply below_alloc | apply pw_below_drewN | apply below_drew1 | refine below_set ?_ GE137.out | refine below_set ?_ GE143.out) | exact HB.out))⟩)
             ·skip
              refine Kd.R_lit_step k28 _ 28 ?hg (N := 71) ?hd (xs := ([(⟨a0_0, 1, t140, (⟨#[]⟩ : ByteArray)⟩ : S28)] : List (S28))) (inner := [.string a0_0, .int .i64 1, .int .i64 t140, .string (⟨#[]⟩ : ByteArray)]) (ok := fun _ => True) (okp := fun _ => True) ?hr ?hp (fun _ hk => hk) trivial (Below.refl _ _) (Nat.le_refl _) (by simp) ?_; (case hd => rfl); (case hg => rfl); (case hr => first | (go_simp; done) | (go_simp; rfl)); (case hp => exact (Reps.c4 (show Kd.M k28 _ _ _ (⟨a0_0, 1, t140, (⟨#[]⟩ : ByteArray)⟩ : S28) [.string a0_0, .int .i64 1, .int .i64 t140, .string (⟨#[]⟩ : ByteArray)] from (k28_mkM _ _ _ (⟨a0_0, 1, t140, (⟨#[]⟩ : ByteArray)⟩ : S28) )) (Reps.none _ _)))
              intro v151 w41 ho42 hb hg_ hnew_
              clear hg_ hnew_
              (first | rw [← Ny150.out] at ho42 | (simp only [Int.reduceToNat] at ho42; rw [← Ny150.out] at ho42))
              have n0_ := rbK HO146 hb
              have n1_ := Aside0.mk (Kd.R_lower (Kd.R_newB (Kd.R_newB ho42 (g := gb137) (o := .cells #[.string a0_0, .int .i64 a0_1, .int .i64 a0_2, .string a0_3] 28 (0, 0)) (by (with_reducible repeat (first | refine blk_drewN ?_ _ | refine blk_drew ?_ | refine blk_alloc ?_ _)); exact BK137.out)) (g := gb143) (o := .cells #[.string a0_0, .int .i64 1, .int .i64 t140, .string (⟨#[]⟩ : ByteArray)] 28 (0, 0)) (by (with_reducible repeat (first | refine blk_drewN ?_ _ | refine blk_drew ?_ | refine blk_alloc ?_ _)); exact BK143.out)) (below_size (by repeat (first | (with_reducible first | exact HB.out | apply below_alloc | apply pw_below_drewN | apply below_drew1 | refine below_set ?_ GE137.out | refine below_set ?_ GE143.out) | exact HB.out))))
              have n2_ := bkA BK137 hb
              have n3_ := bkA BK143 hb
              have n4_ := bsA HB hb
              clear HO146
              clear BK137
              clear BK143
              clear HB
              have HO146 := n0_
              have HO152 := n1_
              have BK137 := n2_
              have BK143 := n3_
              have HB := n4_
              clear n0_ n1_ n2_ n3_ n4_
              clear hb ho42
              obtain ⟨Ao43, co43, eo43⟩ := Kr.slice HO146.out
              (first | subst eo43 | (injection eo43 with f1_ f2_ f3_; have f4_ := f1_.symm; have f5_ := f3_.symm; clear f1_ f2_ f3_; subst f4_; subst f5_))
              refine hK.out _ _ ⟨(blk_cell BK137.out 0).trans rfl, (blk_cell BK137.out 1).trans rfl, (blk_cell BK137.out 2).trans rfl, (blk_cell BK137.out 3).trans rfl, (blk_cell BK143.out 0).trans rfl, (blk_cell BK143.out 1).trans rfl, (blk_cell BK143.out 2).trans rfl, (blk_cell BK143.out 3).trans rfl⟩ (fun hHeld => ?_)
              clear hK K
              refine norm_ (a' := ?_) ?_ ?_
              rotate_left
              ·show Act.put _ (some 71) _ = _
               simp only [Act.put, List.setIfInBounds_toArray, List.set_cons_zero, List.set_cons_succ, i64_w, i32_w]
               rfl
              refine one_ (i := 6) (N := some 69) #[true, true, true, true, true, true, true, true, true, false, false] rfl rfl (one_of HT_.out (by kernel_rfl)) (by decide) (fun K hK => ?_)
              refine goes_ Tryd.func13 (by kernel_rfl) rfl #[.slice Ao43 t144.length co43] (by rfl) rfl rfl (by (try simp only [List.map_toArray, List.map_cons, List.map_nil]); first | done | rfl | (simp only [List.length_drop, List.length_take]; rfl)) ?_
              with_reducible refine (field_Read.calls _ _ t144 t147 _ ?side1 ?side2 A31.out).mono ?_
              (case side1 => repeat (first | exact (Kr.reads' HO146.out).2.2 | (with_reducible refine Kd.C_alloc ?_ _) | (with_reducible refine Kd.C_drewN ?_ _) | (with_reducible refine Kd.C_drew ?_)))
              (case side2 => exact (Kr.reads' HO146.out).2.1)
              rintro e w44 ⟨v148, rfl, ho0, hb⟩
              refine ⟨_, rfl, ?_⟩
              have n0_ := rbK HO146 hb
              have n1_ := Aside0.mk (Kd.R_elder' (by (with_reducible repeat (first | apply Kd.R_alloc | apply Kd.R_drewN | apply Kd.R_drew)); exact HO152.out) (Kd.R_base ho0) hb)
              have n2_ := Aside0.mk (Kd.R_lower (Kd.R_newB (Kd.R_newB (Kd.R_new' ho0 (Kd.R_lt (by (with_reducible repeat (first | apply Kd.R_alloc | apply Kd.R_drewN | apply Kd.R_drew)); exact HO152.out))) (g := gb137) (o := .cells #[.string a0_0, .int .i64 a0_1, .int .i64 a0_2, .string a0_3] 28 (0, 0)) (by (with_reducible repeat (first | refine blk_drewN ?_ _ | refine blk_drew ?_ | refine blk_alloc ?_ _)); exact BK137.out)) (g := gb143) (o := .cells #[.string a0_0, .int .i64 1, .int .i64 t140, .string (⟨#[]⟩ : ByteArray)] 28 (0, 0)) (by (with_reducible repeat (first | refine blk_drewN ?_ _ | refine blk_drew ?_ | refine blk_alloc ?_ _)); exact BK143.out)) (below_size (by repeat (first | (with_reducible first | exact HB.out | apply below_alloc | apply pw_below_drewN | apply below_drew1 | refine below_set ?_ GE137.out | refine below_set ?_ GE143.out) | exact HB.out))))
              have n3_ := bkA BK137 hb
              have n4_ := bkA BK143 hb
              have n5_ := bsA HB hb
              clear HO146
              clear HO152
              clear BK137
              clear BK143
              clear HB
              have HO146 := n0_
              have HO152 := n1_
              have HO149 := n2_
              have BK137 := n3_
              have BK143 := n4_
              have HB := n5_
              clear n0_ n1_ n2_ n3_ n4_ n5_
              (try clear hb)
              (try clear hb2)
              (try clear hk)
              (try clear hi)
              (try clear ho0)
              refine hK.out _ _ ⟨(blk_cell BK137.out 0).trans rfl, (blk_cell BK137.out 1).trans rfl, (blk_cell BK137.out 2).trans rfl, (blk_cell BK137.out 3).trans rfl, (blk_cell BK143.out 0).trans rfl, (blk_cell BK143.out 1).trans rfl, (blk_cell BK143.out 2).trans rfl, (blk_cell BK143.out 3).trans rfl⟩ (fun hHeld => ?_)
              clear hK K
              refine norm_ (a' := ?_) ?_ ?_
              rotate_left
              ·show Act.put _ (some 69) _ = _
               simp only [Act.put, List.setIfInBounds_toArray, List.set_cons_zero, List.set_cons_succ, i64_w, i32_w]
               rfl
              exact norm_ (by simp only [putAll, Act.put, List.setIfInBounds_toArray, List.set_cons_zero, List.set_cons_succ]) (hCont (.slice Ao43 t144.length co43, v148, v151) _ ⟨hHeld, (by (with_reducible repeat (first | apply Kr.alloc | apply Kr.drewN | apply Kr.drew)); exact HO146.out), (by (with_reducible repeat (first | apply Kd.R_alloc | apply Kd.R_drewN | apply Kd.R_drew)); exact Kd.R_mono HO149.out (fun _ hk => ⟨hk.1.1.2, ⟨hk.1.2, hk.2⟩⟩)), (by (with_reducible repeat (first | apply Kd.R_alloc | apply Kd.R_drewN | apply Kd.R_drew)); exact Kd.R_mono HO152.out (fun _ hk => ⟨hk.2, ⟨hk.1.1.2, hk.1.2⟩⟩)), (by (with_reducible repeat (first | refine blk_drewN ?_ _ | refine blk_drew ?_ | refine blk_alloc ?_ _)); exact BK137.out), (by (with_reducible repeat (first | refine blk_drewN ?_ _ | refine blk_drew ?_ | refine blk_alloc ?_ _)); exact BK143.out), (by repeat (first | (with_reducible first | exact HB.out | apply below_alloc | apply pw_below_drewN | apply below_drew1 | refine below_set ?_ GE137.out | refine below_set ?_ GE143.out) | exact HB.out))⟩)
            ·skip
             refine Kd.R_lit_step k28 _ 28 ?hg (N := 71) ?hd (xs := ([(⟨a0_0, 1, t140, (⟨#[]⟩ : ByteArray)⟩ : S28)] : List (S28))) (inner := [.string a0_0, .int .i64 1, .int .i64 t140, .string (⟨#[]⟩ : ByteArray)]) (ok := fun _ => True) (okp := fun _ => True) ?hr ?hp (fun _ hk => hk) trivial (Below.refl _ _) (Nat.le_refl _) (by simp) ?_; (case hd => rfl); (case hg => rfl); (case hr => first | (go_simp; done) | (go_simp; rfl)); (case hp => exact (Reps.c4 (show Kd.M k28 _ _ _ (⟨a0_0, 1, t140, (⟨#[]⟩ : ByteArray)⟩ : S28) [.string a0_0, .int .i64 1, .int .i64 t140, .string (⟨#[]⟩ : ByteArray)] from (k28_mkM _ _ _ (⟨a0_0, 1, t140, (⟨#[]⟩ : ByteArray)⟩ : S28) )) (Reps.none _ _)))
             intro v151 w40 ho41 hb hg_ hnew_
             clear hg_ hnew_
             (first | rw [← Ny150.out] at ho41 | (simp only [Int.reduceToNat] at ho41; rw [← Ny150.out] at ho41))
             have n0_ := Aside0.mk (Kd.R_lower (Kd.R_newB (Kd.R_newB ho41 (g := gb137) (o := .cells #[.string a0_0, .int .i64 a0_1, .int .i64 a0_2, .string a0_3] 28 (0, 0)) (by (with_reducible repeat (first | refine blk_drewN ?_ _ | refine blk_drew ?_ | refine blk_alloc ?_ _)); exact BK137.out)) (g := gb143) (o := .cells #[.string a0_0, .int .i64 1, .int .i64 t140, .string (⟨#[]⟩ : ByteArray)] 28 (0, 0)) (by (with_reducible repeat (first | refine blk_drewN ?_ _ | refine blk_drew ?_ | refine blk_alloc ?_ _)); exact BK143.out)) (below_size (by repeat (first | (with_reducible first | exact HB.out | apply below_alloc | apply pw_below_drewN | apply below_drew1 | refine below_set ?_ GE137.out | refine below_set ?_ GE143.out) | exact HB.out))))
             have n1_ := bkA BK137 hb
             have n2_ := bkA BK143 hb
             have n3_ := bsA HB hb
             clear BK137
             clear BK143
             clear HB
             have HO152 := n0_
             have BK137 := n1_
             have BK143 := n2_
             have HB := n3_
             clear n0_ n1_ n2_ n3_
             clear hb ho41
             refine hK.out _ _ ⟨(blk_cell BK137.out 0).trans rfl, (blk_cell BK137.out 1).trans rfl, (blk_cell BK137.out 2).trans rfl, (blk_cell BK137.out 3).trans rfl, (blk_cell BK143.out 0).trans rfl, (blk_cell BK143.out 1).trans rfl, (blk_cell BK143.out 2).trans rfl, (blk_cell BK143.out 3).trans rfl⟩ (fun hHeld => ?_)
             clear hK K
             refine norm_ (a' := ?_) ?_ ?_
             rotate_left
             ·show Act.put _ (some 71) _ = _
              simp only [Act.put, List.setIfInBounds_toArray, List.set_cons_zero, List.set_cons_succ, i64_w, i32_w]
              rfl
             refine one_ (i := 5) (N := some 68) #[true, true, true, true, true, true, false, true, true, false, false] rfl rfl (one_of HT_.out (by kernel_rfl)) (by decide) (fun K hK => ?_)
             refine conv_ ((a0_0 ++ (⟨#[61]⟩ : ByteArray)) ++ t139) (by rfl) rfl rfl (by (try simp only [List.map_toArray, List.map_cons, List.map_nil]); first | done | rfl | (simp only [List.length_drop, List.length_take]; rfl)) ?_
             with_reducible refine (string_bytes.calls ((a0_0 ++ (⟨#[61]⟩ : ByteArray)) ++ t139) t144 _ A30.out).mono ?_
             rintro e w42 ⟨v145, rfl, ho0, hb⟩
             refine ⟨_, rfl, ?_⟩
             have n0_ := rbA HO152 hb
             have n1_ := Aside0.mk (Kr.lower ho0 (below_size (by repeat (first | (with_reducible first | exact HB.out | apply below_alloc | apply pw_below_drewN | apply below_drew1 | refine below_set ?_ GE137.out | refine below_set ?_ GE143.out) | exact HB.out))))
             have n2_ := bkA BK137 hb
             have n3_ := bkA BK143 hb
             have n4_ := bsA HB hb
             clear HO152
             clear BK137
             clear BK143
             clear HB
             have HO152 := n0_
             have HO146 := n1_
             have BK137 := n2_
             have BK143 := n3_
             have HB := n4_
             clear n0_ n1_ n2_ n3_ n4_
             (try clear hb)
             (try clear hb2)
             (try clear hk)
             (try clear hi)
             (try clear ho0)
             obtain ⟨Ao43, co43, eo43⟩ := Kr.slice HO146.out
             (first | subst eo43 | (injection eo43 with f1_ f2_ f3_; have f4_ := f1_.symm; have f5_ := f3_.symm; clear f1_ f2_ f3_; subst f4_; subst f5_))
             refine hK.out _ _ ⟨(blk_cell BK137.out 0).trans rfl, (blk_cell BK137.out 1).trans rfl, (blk_cell BK137.out 2).trans rfl, (blk_cell BK137.out 3).trans rfl, (blk_cell BK143.out 0).trans rfl, (blk_cell BK143.out 1).trans rfl, (blk_cell BK143.out 2).trans rfl, (blk_cell BK143.out 3).trans rfl⟩ (fun hHeld => ?_)
             clear hK K
             refine norm_ (a' := ?_) ?_ ?_
             rotate_left
             ·show Act.put _ (some 68) _ = _
              simp only [Act.put, List.setIfInBounds_toArray, List.set_cons_zero, List.set_cons_succ, i64_w, i32_w]
              rfl
             refine one_ (i := 6) (N := some 69) #[true, true, true, true, true, true, true, true, true, false, false] rfl rfl (one_of HT_.out (by kernel_rfl)) (by decide) (fun K hK => ?_)
             refine goes_ Tryd.func13 (by kernel_rfl) rfl #[.slice Ao43 t144.length co43] (by rfl) rfl rfl (by (try simp only [List.map_toArray, List.map_cons, List.map_nil]); first | done | rfl | (simp only [List.length_drop, List.length_take]; rfl)) ?_
             with_reducible refine (field_Read.calls _ _ t144 t147 _ ?side1 ?side2 A31.out).mono ?_
             (case side1 => repeat (first | exact (Kr.reads' HO146.out).2.2 | (with_reducible refine Kd.C_alloc ?_ _) | (with_reducible refine Kd.C_drewN ?_ _) | (with_reducible refine Kd.C_drew ?_)))
             (case side2 => exact (Kr.reads' HO146.out).2.1)
             rintro e w44 ⟨v148, rfl, ho0, hb⟩
             refine ⟨_, rfl, ?_⟩
             have n0_ := Aside0.mk (Kd.R_elder' (by (with_reducible repeat (first | apply Kd.R_alloc | apply Kd.R_drewN | apply Kd.R_drew)); exact HO152.out) (Kd.R_base ho0) hb)
             have n1_ := rbK HO146 hb
             have n2_ := Aside0.mk (Kd.R_lower (Kd.R_newB (Kd.R_newB (Kd.R_new' ho0 (Kd.R_lt (by (with_reducible repeat (first | apply Kd.R_alloc | apply Kd.R_drewN | apply Kd.R_drew)); exact HO152.out))) (g := gb137) (o := .cells #[.string a0_0, .int .i64 a0_1, .int .i64 a0_2, .string a0_3] 28 (0, 0)) (by (with_reducible repeat (first | refine blk_drewN ?_ _ | refine blk_drew ?_ | refine blk_alloc ?_ _)); exact BK137.out)) (g := gb143) (o := .cells #[.string a0_0, .int .i64 1, .int .i64 t140, .string (⟨#[]⟩ : ByteArray)] 28 (0, 0)) (by (with_reducible repeat (first | refine blk_drewN ?_ _ | refine blk_drew ?_ | refine blk_alloc ?_ _)); exact BK143.out)) (below_size (by repeat (first | (with_reducible first | exact HB.out | apply below_alloc | apply pw_below_drewN | apply below_drew1 | refine below_set ?_ GE137.out | refine below_set ?_ GE143.out) | exact HB.out))))
             have n3_ := bkA BK137 hb
             have n4_ := bkA BK143 hb
             have n5_ := bsA HB hb
             clear HO152
             clear HO146
             clear BK137
             clear BK143
             clear HB
             have HO152 := n0_
             have HO146 := n1_
             have HO149 := n2_
             have BK137 := n3_
             have BK143 := n4_
             have HB := n5_
             clear n0_ n1_ n2_ n3_ n4_ n5_
             (try clear hb)
             (try clear hb2)
             (try clear hk)
             (try clear hi)
             (try clear ho0)
             refine hK.out _ _ ⟨(blk_cell BK137.out 0).trans rfl, (blk_cell BK137.out 1).trans rfl, (blk_cell BK137.out 2).trans rfl, (blk_cell BK137.out 3).trans rfl, (blk_cell BK143.out 0).trans rfl, (blk_cell BK143.out 1).trans rfl, (blk_cell BK143.out 2).trans rfl, (blk_cell BK143.out 3).trans rfl⟩ (fun hHeld => ?_)
             clear hK K
             refine norm_ (a' := ?_) ?_ ?_
             rotate_left
             ·show Act.put _ (some 69) _ = _
              simp only [Act.put, List.setIfInBounds_toArray, List.set_cons_zero, List.set_cons_succ, i64_w, i32_w]
              rfl
             exact norm_ (by simp only [putAll, Act.put, List.setIfInBounds_toArray, List.set_cons_zero, List.set_cons_succ]) (hCont (.slice Ao43 t144.length co43, v148, v151) _ ⟨hHeld, (by (with_reducible repeat (first | apply Kr.alloc | apply Kr.drewN | apply Kr.drew)); exact HO146.out), (by (with_reducible repeat (first | apply Kd.R_alloc | apply Kd.R_drewN | apply Kd.R_drew)); exact Kd.R_mono HO149.out (fun _ hk => ⟨hk.1.1.2, ⟨hk.1.2, hk.2⟩⟩)), (by (with_reducible repeat (first | apply Kd.R_alloc | apply Kd.R_drewN | apply Kd.R_drew)); exact Kd.R_mono HO152.out (fun _ hk => ⟨hk.2, ⟨hk.1.1.2, hk.1.2⟩⟩)), (by (with_reducible repeat (first | refine blk_drewN ?_ _ | refine blk_drew ?_ | refine blk_alloc ?_ _)); exact BK137.out), (by (with_reducible repeat (first | refine blk_drewN ?_ _ | refine blk_drew ?_ | refine blk_alloc ?_ _)); exact BK143.out), (by repeat (first | (with_reducible first | exact HB.out | apply below_alloc | apply pw_below_drewN | apply below_drew1 | refine below_set ?_ GE137.out | refine below_set ?_ GE143.out) | exact HB.out))⟩)
           rintro ⟨v145, v148, v151⟩ w45 ⟨hS_, h0_, h1_, h2_, h3_, h4_, h5_⟩
           have n0_ : Aside0 (Kr (Kd.int .u8) 5 w45 w.heap.size (fun _ => True) v145 t144) := ⟨h0_⟩
           have n1_ : Aside0 (Kd.R k28 28 w45 w.heap.size (fun k_ => some k_ ≠ (v151 : Value).ownBlock ∧ k_ ≠ gb137 ∧ k_ ≠ gb143) v148 t147) := ⟨h1_⟩
           have n2_ : Aside0 (Kd.R k28 28 w45 w.heap.size (fun k_ => some k_ ≠ (v148 : Value).ownBlock ∧ k_ ≠ gb137 ∧ k_ ≠ gb143) v151 y150) := ⟨h2_⟩
           have n3_ : Aside0 (w45.heap[gb137]? = some (.cells #[.string a0_0, .int .i64 a0_1, .int .i64 a0_2, .string a0_3] 28 (0, 0))) := ⟨h3_⟩
           have n4_ : Aside0 (w45.heap[gb143]? = some (.cells #[.string a0_0, .int .i64 1, .int .i64 t140, .string (⟨#[]⟩ : ByteArray)] 28 (0, 0))) := ⟨h4_⟩
           have n5_ : Aside0 (Below w.heap.size w w45) := ⟨h5_⟩
           clear BK137
           clear BK143
           clear HB
           clear h0_ h1_ h2_ h3_ h4_ h5_
           have HO146 := n0_
           have HO149 := n1_
           have HO152 := n2_
           have BK137 := n3_
           have BK143 := n4_
           have HB := n5_
           clear n0_ n1_ n2_ n3_ n4_ n5_
           have hHeld : w45.cell? ⟨gb137, 0, none⟩ = some (.string a0_0) ∧ w45.cell? ⟨gb137, 1, none⟩ = some (.int .i64 a0_1) ∧ w45.cell? ⟨gb137, 2, none⟩ = some (.int .i64 a0_2) ∧ w45.cell? ⟨gb137, 3, none⟩ = some (.string a0_3) ∧ w45.cell? ⟨gb143, 0, none⟩ = some (.string a0_0) ∧ w45.cell? ⟨gb143, 1, none⟩ = some (.int .i64 1) ∧ w45.cell? ⟨gb143, 2, none⟩ = some (.int .i64 t140) ∧ w45.cell? ⟨gb143, 3, none⟩ = some (.string (⟨#[]⟩ : ByteArray)) := hS_
           obtain ⟨Ao46, co46, eo46⟩ := Kd.R_slice HO149.out
           (first | subst eo46 | (injection eo46 with f1_ f2_ f3_; have f4_ := f1_.symm; have f5_ := f3_.symm; clear f1_ f2_ f3_; subst f4_; subst f5_))
           obtain ⟨Ao47, co47, eo47⟩ := Kd.R_slice HO152.out
           (first | subst eo47 | (injection eo47 with f1_ f2_ f3_; have f4_ := f1_.symm; have f5_ := f3_.symm; clear f1_ f2_ f3_; subst f4_; subst f5_))
           refine norm_ (a' := ?_) ?_ ?_
           rotate_left
           ·simp only [putAll, Act.put, List.setIfInBounds_toArray, List.set_cons_zero, List.set_cons_succ]
            rfl
           refine one_ (i := 9) (N := some 72) #[true, true, true, true, true, true, true, true, true, true, false] rfl rfl (one_of HT_.out (by kernel_rfl)) (by decide) (fun K hK => ?_)
           refine goes_ Tryd.func16 (by kernel_rfl) rfl #[.slice Ao46 t147.length co46, .slice Ao47 y150.length co47] (by rfl) rfl rfl (by (try simp only [List.map_toArray, List.map_cons, List.map_nil]); first | done | rfl | (simp only [List.length_drop, List.length_take]; rfl)) ?_
           with_reducible refine (dragnetref08_Same.calls k2 _ _ t147 _ _ y150 t153 _ ?side1 ?side2 ?side3 ?side4 A32.out).mono ?_
           (case side1 => repeat (first | exact (Kd.R_reads' HO149.out).2.2 | (with_reducible refine Kd.C_alloc ?_ _) | (with_reducible refine Kd.C_drewN ?_ _) | (with_reducible refine Kd.C_drew ?_)))
           (case side2 => exact (Kd.R_reads' HO149.out).2.1)
           (case side3 => repeat (first | exact (Kd.R_reads' HO152.out).2.2 | (with_reducible refine Kd.C_alloc ?_ _) | (with_reducible refine Kd.C_drewN ?_ _) | (with_reducible refine Kd.C_drew ?_)))
           (case side4 => exact (Kd.R_reads' HO152.out).2.1)
           rintro e w' ⟨rfl, ⟨nd, rfl⟩⟩
           refine ⟨_, rfl, ?_⟩
           refine hK.out _ _ ⟨(blk_cell BK137.out 0).trans rfl, (blk_cell BK137.out 1).trans rfl, (blk_cell BK137.out 2).trans rfl, (blk_cell BK137.out 3).trans rfl, (blk_cell BK143.out 0).trans rfl, (blk_cell BK143.out 1).trans rfl, (blk_cell BK143.out 2).trans rfl, (blk_cell BK143.out 3).trans rfl⟩ (fun hHeld => ?_)
           clear hK K
           refine norm_ (a' := ?_) ?_ ?_
           rotate_left
           ·show Act.put _ (some 72) _ = _
            simp only [Act.put, List.setIfInBounds_toArray, List.set_cons_zero, List.set_cons_succ, i64_w, i32_w]
            rfl
           refine pure_ (i := 10) (N := some 2) (v := ?_) (a' := ?_) #[true, true, true, true, true, true, true, true, true, true, true] rfl rfl (any_of HT_.out (by kernel_rfl)) (fun _ _ _ h => h) (Or.inl ⟨by rfl, ?_⟩) ?_ ?_
           rotate_left
           ·intro w'
            go_simp
            with_reducible rfl
           rotate_left
           ·simp only [Act.put, List.setIfInBounds_toArray, List.set_cons_zero, List.set_cons_succ, i64_w, i32_w]
            rfl
           refine done_ (done_of HT_.out (by kernel_rfl)) ?_
           try go_wp2
           go_ret
           exact ⟨by first | rfl | (simp [errW_none, errW_some] <;> rfl) | (simp [*, errW_none, errW_some] <;> rfl), by repeat (first | (with_reducible first | exact HB.out | apply below_alloc | apply pw_below_drewN | apply below_drew1 | refine below_set ?_ GE137.out | refine below_set ?_ GE143.out) | exact HB.out)⟩
          ·rw [if_neg c29] at H
           exact absurd H (by simp)
         ·rw [if_neg c28] at H
          exact absurd H (by simp)
        ·replace c27 := Bool.eq_false_iff.mpr c27
         subst c27
         have H1 : (if a0_0.size + 1 ≤ 9223372036854775807 then (if (a0_0 ++ (⟨#[61]⟩ : ByteArray)).size + t139.size ≤ 9223372036854775807 then ((string_bytes.f ((a0_0 ++ (⟨#[61]⟩ : ByteArray)) ++ t139)).bind fun t154 => ((field_Read.f t154).bind fun t157 => ((dragnetref08_Same.f k2 t157 (([(⟨a0_0, 2, 0, t139⟩ : S28)] : List (S28)))).bind fun t163 => (some t163)))) else (none)) else (none)) = some true := by rw [if_neg (show ¬ (false = true) by decide)] at H; exact H
         clear H
         have H := H1
         clear H1
         by_cases c48 : a0_0.size + 1 ≤ 9223372036854775807
         ·rw [if_pos c48] at H
          have c48b0 := eq_true c48
          have c48b1 : decide (a0_0.size + 1 ≤ 9223372036854775807) = true := decide_eq_true c48
          try have c48b2 : (9223372036854775807 < a0_0.size + 1) = False := eq_false (Nat.not_lt.2 c48)
          by_cases c49 : (a0_0 ++ (⟨#[61]⟩ : ByteArray)).size + t139.size ≤ 9223372036854775807
          ·rw [if_pos c49] at H
           have c49b0 := eq_true c49
           have c49b1 : decide ((a0_0 ++ (⟨#[61]⟩ : ByteArray)).size + t139.size ≤ 9223372036854775807) = true := decide_eq_true c49
           try have c49b2 : (9223372036854775807 < (a0_0 ++ (⟨#[61]⟩ : ByteArray)).size + t139.size) = False := eq_false (Nat.not_lt.2 c49)
           try have c49b3 : (9223372036854775807 < a0_0.size + 1 + t139.size) = False := (by have h_ := c49b2; simp only [ByteArray.size_append] at h_; exact h_)
           replace H := Option.bind_eq_some_iff.mp H
           obtain ⟨t154, A500, H⟩ := H
           replace H : ((field_Read.f t154).bind fun t157 => ((dragnetref08_Same.f k2 t157 (([(⟨a0_0, 2, 0, t139⟩ : S28)] : List (S28)))).bind fun t163 => (some t163))) = some true := H
           have A50 := Aside0.mk A500
           clear A500
           replace H := Option.bind_eq_some_iff.mp H
           obtain ⟨t157, A510, H⟩ := H
           replace H : ((dragnetref08_Same.f k2 t157 (([(⟨a0_0, 2, 0, t139⟩ : S28)] : List (S28)))).bind fun t163 => (some t163)) = some true := H
           have A51 := Aside0.mk A510
           clear A510
           obtain ⟨y160, hy160⟩ : ∃ y_ : List (S28), y_ = (([(⟨a0_0, 2, 0, t139⟩ : S28)] : List (S28))) := ⟨_, rfl⟩
           replace H : ((dragnetref08_Same.f k2 t157 y160).bind fun t163 => (some t163)) = some true := by first | (rw [hy160]; with_reducible exact H) | (have H2_ := (Option.bind_some _ _).symm.trans H; rw [hy160]; with_reducible exact H2_) | (have H2_ := (Option.bind_some _ _).symm.trans H; with_reducible exact H2_) | with_reducible exact H | (rw [hy160]; exact H) | exact H
           have Ny160 := Aside0.mk hy160
           clear hy160
           replace H := Option.bind_eq_some_iff.mp H
           obtain ⟨t163, A520, H⟩ := H
           replace H : (some t163) = some true := H
           have A52 := Aside0.mk A520
           clear A520
           have Hr_ := Option.some.inj H
           have hcz53_0 : wr.cell? ⟨gb137, 0, none⟩ = some (.string a0_0) := (blk_cell BK137.out 0).trans rfl
           have hcz53_1 : wr.cell? ⟨gb137, 1, none⟩ = some (.int .i64 a0_1) := (blk_cell BK137.out 1).trans rfl
           have hcz53_2 : wr.cell? ⟨gb137, 2, none⟩ = some (.int .i64 a0_2) := (blk_cell BK137.out 2).trans rfl
           have hcz53_3 : wr.cell? ⟨gb137, 3, none⟩ = some (.string a0_3) := (blk_cell BK137.out 3).trans rfl
           have hfz53_0 := blk_frozen BK137.out 0
           have hfz53_1 := blk_frozen BK137.out 1
           have hfz53_2 := blk_frozen BK137.out 2
           have hfz53_3 := blk_frozen BK137.out 3
           try go_wp2_with (first | ((with_reducible refine gate_dst (N := 7) rfl ?_); (try (refine gate_guard (by rfl) ?_; dsimp only)); refine box_event ?hg (N := 7) ?hd (cs := #[.string (⟨#[]⟩ : ByteArray), .int .i64 0, .int .i64 0, .string (⟨#[]⟩ : ByteArray)]) (t := 28) ?hr ?_; (case hd => rfl); (case hg => rfl); (case hr => first | (go_simp; done) | (go_simp; rfl)); intro gb143 hg w54 hbox hb; have n0_ := bkA BK137 hb; have n1_ := bsA HB hb; have n2_ := Aside0.mk (hbox); have n3_ := szA HB hg; have n4_ := szA HB hg; have n5_ := neA BK137 hg; have n6_ := neB BK137 hg; clear BK137; clear HB; have BK137 := n0_; have HB := n1_; have BK143 := n2_; have GW143 := n3_; have GE143 := n4_; have NB137_143 := n5_; have NB143_137 := n6_; clear n0_ n1_ n2_ n3_ n4_ n5_ n6_; clear hb hbox hg; have hnb55 := NB143_137.out; have hnc55 := NB137_143.out; have hcz56_0 : w54.cell? ⟨gb143, 0, none⟩ = some (.string (⟨#[]⟩ : ByteArray)) := (blk_cell BK143.out 0).trans rfl; have hcz56_1 : w54.cell? ⟨gb143, 1, none⟩ = some (.int .i64 0) := (blk_cell BK143.out 1).trans rfl; have hcz56_2 : w54.cell? ⟨gb143, 2, none⟩ = some (.int .i64 0) := (blk_cell BK143.out 2).trans rfl; have hcz56_3 : w54.cell? ⟨gb143, 3, none⟩ = some (.string (⟨#[]⟩ : ByteArray)) := (blk_cell BK143.out 3).trans rfl; have hfz56_0 := blk_frozen BK143.out 0; have hfz56_1 := blk_frozen BK143.out 1; have hfz56_2 := blk_frozen BK143.out 2; have hfz56_3 := blk_frozen BK143.out 3))
           have n0_ : Aside0 (((((w54.setCell ⟨gb143, 0, none⟩ (.string a0_0)).setCell ⟨gb143, 1, none⟩ (.int .i64 2)).setCell ⟨gb143, 2, none⟩ (.int .i64 0)).setCell ⟨gb143, 3, none⟩ (.string t139)).heap[gb137]? = some (.cells #[.string a0_0, .int .i64 a0_1, .int .i64 a0_2, .string a0_3] 28 (0, 0))) := ⟨by (with_reducible repeat (first | refine blk_drewN ?_ _ | refine blk_drew ?_ | refine blk_alloc ?_ _)); refine blk_far ?_ NB137_143.out _; (with_reducible repeat (first | refine blk_drewN ?_ _ | refine blk_drew ?_ | refine blk_alloc ?_ _)); refine blk_far ?_ NB137_143.out _; (with_reducible repeat (first | refine blk_drewN ?_ _ | refine blk_drew ?_ | refine blk_alloc ?_ _)); refine blk_far ?_ NB137_143.out _; (with_reducible repeat (first | refine blk_drewN ?_ _ | refine blk_drew ?_ | refine blk_alloc ?_ _)); refine blk_far ?_ NB137_143.out _; (with_reducible repeat (first | refine blk_drewN ?_ _ | refine blk_drew ?_ | refine blk_alloc ?_ _)); exact BK137.out⟩
           have n1_ : Aside0 (((((w54.setCell ⟨gb143, 0, none⟩ (.string a0_0)).setCell ⟨gb143, 1, none⟩ (.int .i64 2)).setCell ⟨gb143, 2, none⟩ (.int .i64 0)).setCell ⟨gb143, 3, none⟩ (.string t139)).heap[gb143]? = some (.cells #[.string a0_0, .int .i64 2, .int .i64 0, .string t139] 28 (0, 0))) := ⟨by (with_reducible repeat (first | refine blk_drewN ?_ _ | refine blk_drew ?_ | refine blk_alloc ?_ _)); refine blk_put (cs := #[.string a0_0, .int .i64 2, .int .i64 0, .string (⟨#[]⟩ : ByteArray)]) ?_ 3 _ rfl; (with_reducible repeat (first | refine blk_drewN ?_ _ | refine blk_drew ?_ | refine blk_alloc ?_ _)); refine blk_put (cs := #[.string a0_0, .int .i64 2, .int .i64 0, .string (⟨#[]⟩ : ByteArray)]) ?_ 2 _ rfl; (with_reducible repeat (first | refine blk_drewN ?_ _ | refine blk_drew ?_ | refine blk_alloc ?_ _)); refine blk_put (cs := #[.string a0_0, .int .i64 0, .int .i64 0, .string (⟨#[]⟩ : ByteArray)]) ?_ 1 _ rfl; (with_reducible repeat (first | refine blk_drewN ?_ _ | refine blk_drew ?_ | refine blk_alloc ?_ _)); refine blk_put (cs := #[.string (⟨#[]⟩ : ByteArray), .int .i64 0, .int .i64 0, .string (⟨#[]⟩ : ByteArray)]) ?_ 0 _ rfl; (with_reducible repeat (first | refine blk_drewN ?_ _ | refine blk_drew ?_ | refine blk_alloc ?_ _)); exact BK143.out⟩
           have n2_ : Aside0 (Below w.heap.size w ((((w54.setCell ⟨gb143, 0, none⟩ (.string a0_0)).setCell ⟨gb143, 1, none⟩ (.int .i64 2)).setCell ⟨gb143, 2, none⟩ (.int .i64 0)).setCell ⟨gb143, 3, none⟩ (.string t139))) := ⟨by repeat (first | (with_reducible first | exact HB.out | apply below_alloc | apply pw_below_drewN | apply below_drew1 | refine below_set ?_ GE137.out | refine below_set ?_ GE143.out) | exact HB.out)⟩
           (try clear BK137)
           (try clear BK143)
           (try clear HB)
           (try simp only [sc_drewN])
           generalize ((((w54.setCell ⟨gb143, 0, none⟩ (.string a0_0)).setCell ⟨gb143, 1, none⟩ (.int .i64 2)).setCell ⟨gb143, 2, none⟩ (.int .i64 0)).setCell ⟨gb143, 3, none⟩ (.string t139)) = w57 at n0_ n1_ n2_ ⊢
           have BK137 := n0_
           have BK143 := n1_
           have HB := n2_
           clear n0_ n1_ n2_
           have n0_ := Aside0.mk (blk_drew BK137.out)
           have n1_ := Aside0.mk (blk_drew BK143.out)
           have n2_ := Aside0.mk (below_drew1 HB.out)
           clear BK137
           clear BK143
           clear HB
           have BK137 := n0_
           have BK143 := n1_
           have HB := n2_
           clear n0_ n1_ n2_
           refine start_ (n := 11) (S := fun w' => w'.cell? ⟨gb137, 0, none⟩ = some (.string a0_0) ∧ w'.cell? ⟨gb137, 1, none⟩ = some (.int .i64 a0_1) ∧ w'.cell? ⟨gb137, 2, none⟩ = some (.int .i64 a0_2) ∧ w'.cell? ⟨gb137, 3, none⟩ = some (.string a0_3) ∧ w'.cell? ⟨gb143, 0, none⟩ = some (.string a0_0) ∧ w'.cell? ⟨gb143, 1, none⟩ = some (.int .i64 2) ∧ w'.cell? ⟨gb143, 2, none⟩ = some (.int .i64 0) ∧ w'.cell? ⟨gb143, 3, none⟩ = some (.string t139)) (ds := []) #[false, false, false, false, false, false, false, false, false, false, false] (by kernel_rfl) rfl rfl ⟨(blk_cell BK137.out 0).trans rfl, (blk_cell BK137.out 1).trans rfl, (blk_cell BK137.out 2).trans rfl, (blk_cell BK137.out 3).trans rfl, (blk_cell BK143.out 0).trans rfl, (blk_cell BK143.out 1).trans rfl, (blk_cell BK143.out 2).trans rfl, (blk_cell BK143.out 3).trans rfl⟩ (fun hHeld => ?_); refine with_tabW dragnetlaw08_FieldBack.tab15 dragnetlaw08_FieldBack.bits15 (fun HT_ HW_ => ?_)
           generalize w57.drew = w58 at BK137 BK143 HB hHeld ⊢
           refine pure_ (i := 0) (N := some 63) (v := ?_) (a' := ?_) #[true, false, false, false, false, false, false, false, false, false, false] rfl rfl (any_of HT_.out (by kernel_rfl)) (fun _ _ _ h => h) (Or.inl ⟨by rfl, ?_⟩) ?_ ?_
           rotate_left
           ·intro w'
            go_simp
            with_reducible rfl
           rotate_left
           ·simp only [Act.put, List.setIfInBounds_toArray, List.set_cons_zero, List.set_cons_succ, i64_w, i32_w]
            rfl
           refine pure_ (i := 3) (N := some 66) (v := ?_) (a' := ?_) #[true, false, false, true, false, false, false, false, false, false, false] rfl rfl (any_of HT_.out (by kernel_rfl)) (fun _ _ _ h => h) (Or.inl ⟨by rfl, ?_⟩) ?_ ?_
           rotate_left
           ·intro w'
            go_simp
            with_reducible rfl
           rotate_left
           ·simp only [Act.put, List.setIfInBounds_toArray, List.set_cons_zero, List.set_cons_succ, i64_w, i32_w]
            rfl
           refine take_ (i := 1) (N := some 64) (v := ?_) (a' := ?_) #[true, true, false, true, false, false, false, false, false, false, false] rfl rfl (take_ofW HT_.out HW_.out (by kernel_rfl)) (fun _ _ _ h => h) (Or.inl ⟨by rfl, ?_⟩) hHeld ?_ ?_
           rotate_left
           ·rintro w' ⟨s0, s1, s2, s3, s4, s5, s6, s7⟩
            go_simp
            with_reducible rfl
           rotate_left
           ·simp only [Act.put, List.setIfInBounds_toArray, List.set_cons_zero, List.set_cons_succ, i64_w, i32_w]
            rfl
           refine pure_ (i := 2) (N := some 65) (v := ?_) (a' := ?_) #[true, true, true, true, false, false, false, false, false, false, false] rfl rfl (any_of HT_.out (by kernel_rfl)) (fun _ _ _ h => h) (Or.inl ⟨by rfl, ?_⟩) ?_ ?_
           rotate_left
           ·intro w'
            go_simp
            with_reducible rfl
           rotate_left
           ·simp only [Act.put, List.setIfInBounds_toArray, List.set_cons_zero, List.set_cons_succ, i64_w, i32_w]
            rfl
           refine pure_ (i := 4) (N := some 67) (v := ?_) (a' := ?_) #[true, true, true, true, true, false, false, false, false, false, false] rfl rfl (any_of HT_.out (by kernel_rfl)) (fun _ _ _ h => h) (Or.inl ⟨by rfl, ?_⟩) ?_ ?_
           rotate_left
           ·intro w'
            go_simp
            with_reducible rfl
           rotate_left
           ·simp only [Act.put, List.setIfInBounds_toArray, List.set_cons_zero, List.set_cons_succ, i64_w, i32_w]
            rfl
           refine take_ (i := 7) (N := some 70) (v := ?_) (a' := ?_) #[true, true, true, true, true, false, false, true, false, false, false] rfl rfl (take_ofW HT_.out HW_.out (by kernel_rfl)) (fun _ _ _ h => h) (Or.inl ⟨by rfl, ?_⟩) hHeld ?_ ?_
           rotate_left
           ·rintro w' ⟨s0, s1, s2, s3, s4, s5, s6, s7⟩
            go_simp
            with_reducible rfl
           rotate_left
           ·simp only [Act.put, List.setIfInBounds_toArray, List.set_cons_zero, List.set_cons_succ, i64_w, i32_w]
            rfl
           refine join_ (σ := Value × Value × Value) 2 #[true, true, true, true, true, true, true, true, true, false, false] (fun s_ => [(68, s_.1), (69, s_.2.1), (71, s_.2.2)]) (fun s_ w' => (w'.cell? ⟨gb137, 0, none⟩ = some (.string a0_0) ∧ w'.cell? ⟨gb137, 1, none⟩ = some (.int .i64 a0_1) ∧ w'.cell? ⟨gb137, 2, none⟩ = some (.int .i64 a0_2) ∧ w'.cell? ⟨gb137, 3, none⟩ = some (.string a0_3) ∧ w'.cell? ⟨gb143, 0, none⟩ = some (.string a0_0) ∧ w'.cell? ⟨gb143, 1, none⟩ = some (.int .i64 2) ∧ w'.cell? ⟨gb143, 2, none⟩ = some (.int .i64 0) ∧ w'.cell? ⟨gb143, 3, none⟩ = some (.string t139)) ∧ (Kr (Kd.int .u8) 5 w' w.heap.size (fun _ => True) s_.1 t154) ∧ (Kd.R k28 28 w' w.heap.size (fun k_ => some k_ ≠ (s_.2.2 : Value).ownBlock ∧ k_ ≠ gb137 ∧ k_ ≠ gb143) s_.2.1 t157) ∧ (Kd.R k28 28 w' w.heap.size (fun k_ => some k_ ≠ (s_.2.1 : Value).ownBlock ∧ k_ ≠ gb137 ∧ k_ ≠ gb143) s_.2.2 y160) ∧ (w'.heap[gb137]? = some (.cells #[.string a0_0, .int .i64 a0_1, .int .i64 a0_2, .string a0_3] 28 (0, 0))) ∧ (w'.heap[gb143]? = some (.cells #[.string a0_0, .int .i64 2, .int .i64 0, .string t139] 28 (0, 0))) ∧ (Below w.heap.size w w')) ?_ ?_
           rotate_left
           ·intro hCont
            refine two_ (i := 5) (j := 8) (Ni := some 68) (Nj := some 71) #[true, true, true, true, true, true, false, true, false, false, false] #[true, true, true, true, true, false, false, true, true, false, false] rfl rfl rfl rfl (two_of HT_.out (by kernel_rfl)) (by decide) (by decide) (fun K hK => ?_) (fun K hK => ?_)
            ·skip
             refine conv_ ((a0_0 ++ (⟨#[61]⟩ : ByteArray)) ++ t139) (by rfl) rfl rfl (by (try simp only [List.map_toArray, List.map_cons, List.map_nil]); first | done | rfl | (simp only [List.length_drop, List.length_take]; rfl)) ?_
             with_reducible refine (string_bytes.calls ((a0_0 ++ (⟨#[61]⟩ : ByteArray)) ++ t139) t154 _ A50.out).mono ?_
             rintro e w59 ⟨v155, rfl, ho0, hb⟩
             refine ⟨_, rfl, ?_⟩
             have n0_ := Aside0.mk (Kr.lower ho0 (below_size (by repeat (first | (with_reducible first | exact HB.out | apply below_alloc | apply pw_below_drewN | apply below_drew1 | refine below_set ?_ GE137.out | refine below_set ?_ GE143.out) | exact HB.out))))
             have n1_ := bkA BK137 hb
             have n2_ := bkA BK143 hb
             have n3_ := bsA HB hb
             clear BK137
             clear BK143
             clear HB
             have HO156 := n0_
             have BK137 := n1_
             have BK143 := n2_
             have HB := n3_
             clear n0_ n1_ n2_ n3_
             (try clear hb)
             (try clear hb2)
             (try clear hk)
             (try clear hi)
             (try clear ho0)
             obtain ⟨Ao60, co60, eo60⟩ := Kr.slice HO156.out
             (first | subst eo60 | (injection eo60 with f1_ f2_ f3_; have f4_ := f1_.symm; have f5_ := f3_.symm; clear f1_ f2_ f3_; subst f4_; subst f5_))
             refine hK.out _ _ ⟨(blk_cell BK137.out 0).trans rfl, (blk_cell BK137.out 1).trans rfl, (blk_cell BK137.out 2).trans rfl, (blk_cell BK137.out 3).trans rfl, (blk_cell BK143.out 0).trans rfl, (blk_cell BK143.out 1).trans rfl, (blk_cell BK143.out 2).trans rfl, (blk_cell BK143.out 3).trans rfl⟩ (fun hHeld => ?_)
             clear hK K
             refine norm_ (a' := ?_) ?_ ?_
             rotate_left
             ·show Act.put _ (some 68) _ = _
              simp only [Act.put, List.setIfInBounds_toArray, List.set_cons_zero, List.set_cons_succ, i64_w, i32_w]
              rfl
             refine two_ (i := 6) (j := 8) (Ni := some 69) (Nj := some 71) #[true, true, true, true, true, true, true, true, false, false, false] #[true, true, true, true, true, true, false, true, true, false, false] rfl rfl rfl rfl (two_of HT_.out (by kernel_rfl)) (by decide) (by decide) (fun K hK => ?_) (fun K hK => ?_)
             ·skip
              refine goes_ Tryd.func13 (by kernel_rfl) rfl #[.slice Ao60 t154.length co60] (by rfl) rfl rfl (by (try simp only [List.map_toArray, List.map_cons, List.map_nil]); first | done | rfl | (simp only [List.length_drop, List.length_take]; rfl)) ?_
              with_reducible refine (field_Read.calls _ _ t154 t157 _ ?side1 ?side2 A51.out).mono ?_
              (case side1 => repeat (first | exact (Kr.reads' HO156.out).2.2 | (with_reducible refine Kd.C_alloc ?_ _) | (with_reducible refine Kd.C_drewN ?_ _) | (with_reducible refine Kd.C_drew ?_)))
              (case side2 => exact (Kr.reads' HO156.out).2.1)
              rintro e w61 ⟨v158, rfl, ho0, hb⟩
              refine ⟨_, rfl, ?_⟩
              have n0_ := rbK HO156 hb
              have n1_ := Aside0.mk (Kd.R_lower (Kd.R_newB (Kd.R_newB ho0 (g := gb137) (o := .cells #[.string a0_0, .int .i64 a0_1, .int .i64 a0_2, .string a0_3] 28 (0, 0)) (by (with_reducible repeat (first | refine blk_drewN ?_ _ | refine blk_drew ?_ | refine blk_alloc ?_ _)); exact BK137.out)) (g := gb143) (o := .cells #[.string a0_0, .int .i64 2, .int .i64 0, .string t139] 28 (0, 0)) (by (with_reducible repeat (first | refine blk_drewN ?_ _ | refine blk_drew ?_ | refine blk_alloc ?_ _)); exact BK143.out)) (below_size (by repeat (first | (with_reducible first | exact HB.out | apply below_alloc | apply pw_below_drewN | apply below_drew1 | refine below_set ?_ GE137.out | refine below_set ?_ GE143.out) | exact HB.out))))
              have n2_ := bkA BK137 hb
              have n3_ := bkA BK143 hb
              have n4_ := bsA HB hb
              clear HO156
              clear BK137
              clear BK143
              clear HB
              have HO156 := n0_
              have HO159 := n1_
              have BK137 := n2_
              have BK143 := n3_
              have HB := n4_
              clear n0_ n1_ n2_ n3_ n4_
              (try clear hb)
              (try clear hb2)
              (try clear hk)
              (try clear hi)
              (try clear ho0)
              refine hK.out _ _ ⟨(blk_cell BK137.out 0).trans rfl, (blk_cell BK137.out 1).trans rfl, (blk_cell BK137.out 2).trans rfl, (blk_cell BK137.out 3).trans rfl, (blk_cell BK143.out 0).trans rfl, (blk_cell BK143.out 1).trans rfl, (blk_cell BK143.out 2).trans rfl, (blk_cell BK143.out 3).trans rfl⟩ (fun hHeld => ?_)
              clear hK K
              refine norm_ (a' := ?_) ?_ ?_
              rotate_left
              ·show Act.put _ (some 69) _ = _
               simp only [Act.put, List.setIfInBounds_toArray, List.set_cons_zero, List.set_cons_succ, i64_w, i32_w]
               rfl
              refine one_ (i := 8) (N := some 71) #[true, true, true, true, true, true, true, true, true, false, false] rfl rfl (one_of HT_.out (by kernel_rfl)) (by decide) (fun K hK => ?_)
              refine Kd.R_lit_step k28 _ 28 ?hg (N := 71) ?hd (xs := ([(⟨a0_0, 2, 0, t139⟩ : S28)] : List (S28))) (inner := [.string a0_0, .int .i64 2, .int .i64 0, .string t139]) (ok := fun _ => True) (okp := fun _ => True) ?hr ?hp (fun _ hk => hk) trivial (Below.refl _ _) (Nat.le_refl _) (by simp) ?_; (case hd => rfl); (case hg => rfl); (case hr => first | (go_simp; done) | (go_simp; rfl)); (case hp => exact (Reps.c4 (show Kd.M k28 _ _ _ (⟨a0_0, 2, 0, t139⟩ : S28) [.string a0_0, .int .i64 2, .int .i64 0, .string t139] from (k28_mkM _ _ _ (⟨a0_0, 2, 0, t139⟩ : S28) )) (Reps.none _ _)))
              intro v161 w62 ho63 hb hg_ hnew_
              clear hg_ hnew_
              (first | rw [← Ny160.out] at ho63 | (simp only [Int.reduceToNat] at ho63; rw [← Ny160.out] at ho63))
              have n0_ := rbK HO156 hb
              have n1_ := Aside0.mk (Kd.R_elder' (by (with_reducible repeat (first | apply Kd.R_alloc | apply Kd.R_drewN | apply Kd.R_drew)); exact HO159.out) (Kd.R_base ho63) hb)
              have n2_ := Aside0.mk (Kd.R_lower (Kd.R_newB (Kd.R_newB (Kd.R_new' ho63 (Kd.R_lt (by (with_reducible repeat (first | apply Kd.R_alloc | apply Kd.R_drewN | apply Kd.R_drew)); exact HO159.out))) (g := gb137) (o := .cells #[.string a0_0, .int .i64 a0_1, .int .i64 a0_2, .string a0_3] 28 (0, 0)) (by (with_reducible repeat (first | refine blk_drewN ?_ _ | refine blk_drew ?_ | refine blk_alloc ?_ _)); exact BK137.out)) (g := gb143) (o := .cells #[.string a0_0, .int .i64 2, .int .i64 0, .string t139] 28 (0, 0)) (by (with_reducible repeat (first | refine blk_drewN ?_ _ | refine blk_drew ?_ | refine blk_alloc ?_ _)); exact BK143.out)) (below_size (by repeat (first | (with_reducible first | exact HB.out | apply below_alloc | apply pw_below_drewN | apply below_drew1 | refine below_set ?_ GE137.out | refine below_set ?_ GE143.out) | exact HB.out))))
              have n3_ := bkA BK137 hb
              have n4_ := bkA BK143 hb
              have n5_ := bsA HB hb
              clear HO156
              clear HO159
              clear BK137
              clear BK143
              clear HB
              have HO156 := n0_
              have HO159 := n1_
              have HO162 := n2_
              have BK137 := n3_
              have BK143 := n4_
              have HB := n5_
              clear n0_ n1_ n2_ n3_ n4_ n5_
              clear hb ho63
              refine hK.out _ _ ⟨(blk_cell BK137.out 0).trans rfl, (blk_cell BK137.out 1).trans rfl, (blk_cell BK137.out 2).trans rfl, (blk_cell BK137.out 3).trans rfl, (blk_cell BK143.out 0).trans rfl, (blk_cell BK143.out 1).trans rfl, (blk_cell BK143.out 2).trans rfl, (blk_cell BK143.out 3).trans rfl⟩ (fun hHeld => ?_)
              clear hK K
              refine norm_ (a' := ?_) ?_ ?_
              rotate_left
              ·show Act.put _ (some 71) _ = _
               simp only [Act.put, List.setIfInBounds_toArray, List.set_cons_zero, List.set_cons_succ, i64_w, i32_w]
               rfl
              exact norm_ (by simp only [putAll, Act.put, List.setIfInBounds_toArray, List.set_cons_zero, List.set_cons_succ]) (hCont (.slice Ao60 t154.length co60, v158, v161) _ ⟨hHeld, (by (with_reducible repeat (first | apply Kr.alloc | apply Kr.drewN | apply Kr.drew)); exact HO156.out), (by (with_reducible repeat (first | apply Kd.R_alloc | apply Kd.R_drewN | apply Kd.R_drew)); exact Kd.R_mono HO159.out (fun _ hk => ⟨hk.2, ⟨hk.1.1.2, hk.1.2⟩⟩)), (by (with_reducible repeat (first | apply Kd.R_alloc | apply Kd.R_drewN | apply Kd.R_drew)); exact Kd.R_mono HO162.out (fun _ hk => ⟨hk.1.1.2, ⟨hk.1.2, hk.2⟩⟩)), (by (with_reducible repeat (first | refine blk_drewN ?_ _ | refine blk_drew ?_ | refine blk_alloc ?_ _)); exact BK137.out), (by (with_reducible repeat (first | refine blk_drewN ?_ _ | refine blk_drew ?_ | refine blk_alloc ?_ _)); exact BK143.out), (by repeat (first | (with_reducible first | exact HB.out | apply below_alloc | apply pw_below_drewN | apply below_drew1 | refine below_set ?_ GE137.out | refine below_set ?_ GE143.out) | exact HB.out))⟩)
             ·skip
              refine Kd.R_lit_step k28 _ 28 ?hg (N := 71) ?hd (xs := ([(⟨a0_0, 2, 0, t139⟩ : S28)] : List (S28))) (inner := [.string a0_0, .int .i64 2, .int .i64 0, .string t139]) (ok := fun _ => True) (okp := fun _ => True) ?hr ?hp (fun _ hk => hk) trivial (Below.refl _ _) (Nat.le_refl _) (by simp) ?_; (case hd => rfl); (case hg => rfl); (case hr => first | (go_simp; done) | (go_simp; rfl)); (case hp => exact (Reps.c4 (show Kd.M k28 _ _ _ (⟨a0_0, 2, 0, t139⟩ : S28) [.string a0_0, .int .i64 2, .int .i64 0, .string t139] from (k28_mkM _ _ _ (⟨a0_0, 2, 0, t139⟩ : S28) )) (Reps.none _ _)))
              intro v161 w60 ho61 hb hg_ hnew_
              clear hg_ hnew_
              (first | rw [← Ny160.out] at ho61 | (simp only [Int.reduceToNat] at ho61; rw [← Ny160.out] at ho61))
              have n0_ := rbK HO156 hb
              have n1_ := Aside0.mk (Kd.R_lower (Kd.R_newB (Kd.R_newB ho61 (g := gb137) (o := .cells #[.string a0_0, .int .i64 a0_1, .int .i64 a0_2, .string a0_3] 28 (0, 0)) (by (with_reducible repeat (first | refine blk_drewN ?_ _ | refine blk_drew ?_ | refine blk_alloc ?_ _)); exact BK137.out)) (g := gb143) (o := .cells #[.string a0_0, .int .i64 2, .int .i64 0, .string t139] 28 (0, 0)) (by (with_reducible repeat (first | refine blk_drewN ?_ _ | refine blk_drew ?_ | refine blk_alloc ?_ _)); exact BK143.out)) (below_size (by repeat (first | (with_reducible first | exact HB.out | apply below_alloc | apply pw_below_drewN | apply below_drew1 | refine below_set ?_ GE137.out | refine below_set ?_ GE143.out) | exact HB.out))))
              have n2_ := bkA BK137 hb
              have n3_ := bkA BK143 hb
              have n4_ := bsA HB hb
              clear HO156
              clear BK137
              clear BK143
              clear HB
              have HO156 := n0_
              have HO162 := n1_
              have BK137 := n2_
              have BK143 := n3_
              have HB := n4_
              clear n0_ n1_ n2_ n3_ n4_
              clear hb ho61
              obtain ⟨Ao62, co62, eo62⟩ := Kr.slice HO156.out
              (first | subst eo62 | (injection eo62 with f1_ f2_ f3_; have f4_ := f1_.symm; have f5_ := f3_.symm; clear f1_ f2_ f3_; subst f4_; subst f5_))
              refine hK.out _ _ ⟨(blk_cell BK137.out 0).trans rfl, (blk_cell BK137.out 1).trans rfl, (blk_cell BK137.out 2).trans rfl, (blk_cell BK137.out 3).trans rfl, (blk_cell BK143.out 0).trans rfl, (blk_cell BK143.out 1).trans rfl, (blk_cell BK143.out 2).trans rfl, (blk_cell BK143.out 3).trans rfl⟩ (fun hHeld => ?_)
              clear hK K
              refine norm_ (a' := ?_) ?_ ?_
              rotate_left
              ·show Act.put _ (some 71) _ = _
               simp only [Act.put, List.setIfInBounds_toArray, List.set_cons_zero, List.set_cons_succ, i64_w, i32_w]
               rfl
              refine one_ (i := 6) (N := some 69) #[true, true, true, true, true, true, true, true, true, false, false] rfl rfl (one_of HT_.out (by kernel_rfl)) (by decide) (fun K hK => ?_)
              refine goes_ Tryd.func13 (by kernel_rfl) rfl #[.slice Ao62 t154.length co62] (by rfl) rfl rfl (by (try simp only [List.map_toArray, List.map_cons, List.map_nil]); first | done | rfl | (simp only [List.length_drop, List.length_take]; rfl)) ?_
              with_reducible refine (field_Read.calls _ _ t154 t157 _ ?side1 ?side2 A51.out).mono ?_
              (case side1 => repeat (first | exact (Kr.reads' HO156.out).2.2 | (with_reducible refine Kd.C_alloc ?_ _) | (with_reducible refine Kd.C_drewN ?_ _) | (with_reducible refine Kd.C_drew ?_)))
              (case side2 => exact (Kr.reads' HO156.out).2.1)
              rintro e w63 ⟨v158, rfl, ho0, hb⟩
              refine ⟨_, rfl, ?_⟩
              have n0_ := rbK HO156 hb
              have n1_ := Aside0.mk (Kd.R_elder' (by (with_reducible repeat (first | apply Kd.R_alloc | apply Kd.R_drewN | apply Kd.R_drew)); exact HO162.out) (Kd.R_base ho0) hb)
              have n2_ := Aside0.mk (Kd.R_lower (Kd.R_newB (Kd.R_newB (Kd.R_new' ho0 (Kd.R_lt (by (with_reducible repeat (first | apply Kd.R_alloc | apply Kd.R_drewN | apply Kd.R_drew)); exact HO162.out))) (g := gb137) (o := .cells #[.string a0_0, .int .i64 a0_1, .int .i64 a0_2, .string a0_3] 28 (0, 0)) (by (with_reducible repeat (first | refine blk_drewN ?_ _ | refine blk_drew ?_ | refine blk_alloc ?_ _)); exact BK137.out)) (g := gb143) (o := .cells #[.string a0_0, .int .i64 2, .int .i64 0, .string t139] 28 (0, 0)) (by (with_reducible repeat (first | refine blk_drewN ?_ _ | refine blk_drew ?_ | refine blk_alloc ?_ _)); exact BK143.out)) (below_size (by repeat (first | (with_reducible first | exact HB.out | apply below_alloc | apply pw_below_drewN | apply below_drew1 | refine below_set ?_ GE137.out | refine below_set ?_ GE143.out) | exact HB.out))))
              have n3_ := bkA BK137 hb
              have n4_ := bkA BK143 hb
              have n5_ := bsA HB hb
              clear HO156
              clear HO162
              clear BK137
              clear BK143
              clear HB
              have HO156 := n0_
              have HO162 := n1_
              have HO159 := n2_
              have BK137 := n3_
              have BK143 := n4_
              have HB := n5_
              clear n0_ n1_ n2_ n3_ n4_ n5_
              (try clear hb)
              (try clear hb2)
              (try clear hk)
              (try clear hi)
              (try clear ho0)
              refine hK.out _ _ ⟨(blk_cell BK137.out 0).trans rfl, (blk_cell BK137.out 1).trans rfl, (blk_cell BK137.out 2).trans rfl, (blk_cell BK137.out 3).trans rfl, (blk_cell BK143.out 0).trans rfl, (blk_cell BK143.out 1).trans rfl, (blk_cell BK143.out 2).trans rfl, (blk_cell BK143.out 3).trans rfl⟩ (fun hHeld => ?_)
              clear hK K
              refine norm_ (a' := ?_) ?_ ?_
              rotate_left
              ·show Act.put _ (some 69) _ = _
               simp only [Act.put, List.setIfInBounds_toArray, List.set_cons_zero, List.set_cons_succ, i64_w, i32_w]
               rfl
              exact norm_ (by simp only [putAll, Act.put, List.setIfInBounds_toArray, List.set_cons_zero, List.set_cons_succ]) (hCont (.slice Ao62 t154.length co62, v158, v161) _ ⟨hHeld, (by (with_reducible repeat (first | apply Kr.alloc | apply Kr.drewN | apply Kr.drew)); exact HO156.out), (by (with_reducible repeat (first | apply Kd.R_alloc | apply Kd.R_drewN | apply Kd.R_drew)); exact Kd.R_mono HO159.out (fun _ hk => ⟨hk.1.1.2, ⟨hk.1.2, hk.2⟩⟩)), (by (with_reducible repeat (first | apply Kd.R_alloc | apply Kd.R_drewN | apply Kd.R_drew)); exact Kd.R_mono HO162.out (fun _ hk => ⟨hk.2, ⟨hk.1.1.2, hk.1.2⟩⟩)), (by (with_reducible repeat (first | refine blk_drewN ?_ _ | refine blk_drew ?_ | refine blk_alloc ?_ _)); exact BK137.out), (by (with_reducible repeat (first | refine blk_drewN ?_ _ | refine blk_drew ?_ | refine blk_alloc ?_ _)); exact BK143.out), (by repeat (first | (with_reducible first | exact HB.out | apply below_alloc | apply pw_below_drewN | apply below_drew1 | refine below_set ?_ GE137.out | refine below_set ?_ GE143.out) | exact HB.out))⟩)
            ·skip
             refine Kd.R_lit_step k28 _ 28 ?hg (N := 71) ?hd (xs := ([(⟨a0_0, 2, 0, t139⟩ : S28)] : List (S28))) (inner := [.string a0_0, .int .i64 2, .int .i64 0, .string t139]) (ok := fun _ => True) (okp := fun _ => True) ?hr ?hp (fun _ hk => hk) trivial (Below.refl _ _) (Nat.le_refl _) (by simp) ?_; (case hd => rfl); (case hg => rfl); (case hr => first | (go_simp; done) | (go_simp; rfl)); (case hp => exact (Reps.c4 (show Kd.M k28 _ _ _ (⟨a0_0, 2, 0, t139⟩ : S28) [.string a0_0, .int .i64 2, .int .i64 0, .string t139] from (k28_mkM _ _ _ (⟨a0_0, 2, 0, t139⟩ : S28) )) (Reps.none _ _)))
             intro v161 w59 ho60 hb hg_ hnew_
             clear hg_ hnew_
             (first | rw [← Ny160.out] at ho60 | (simp only [Int.reduceToNat] at ho60; rw [← Ny160.out] at ho60))
             have n0_ := Aside0.mk (Kd.R_lower (Kd.R_newB (Kd.R_newB ho60 (g := gb137) (o := .cells #[.string a0_0, .int .i64 a0_1, .int .i64 a0_2, .string a0_3] 28 (0, 0)) (by (with_reducible repeat (first | refine blk_drewN ?_ _ | refine blk_drew ?_ | refine blk_alloc ?_ _)); exact BK137.out)) (g := gb143) (o := .cells #[.string a0_0, .int .i64 2, .int .i64 0, .string t139] 28 (0, 0)) (by (with_reducible repeat (first | refine blk_drewN ?_ _ | refine blk_drew ?_ | refine blk_alloc ?_ _)); exact BK143.out)) (below_size (by repeat (first | (with_reducible first | exact HB.out | apply below_alloc | apply pw_below_drewN | apply below_drew1 | refine below_set ?_ GE137.out | refine below_set ?_ GE143.out) | exact HB.out))))
             have n1_ := bkA BK137 hb
             have n2_ := bkA BK143 hb
             have n3_ := bsA HB hb
             clear BK137
             clear BK143
             clear HB
             have HO162 := n0_
             have BK137 := n1_
             have BK143 := n2_
             have HB := n3_
             clear n0_ n1_ n2_ n3_
             clear hb ho60
             refine hK.out _ _ ⟨(blk_cell BK137.out 0).trans rfl, (blk_cell BK137.out 1).trans rfl, (blk_cell BK137.out 2).trans rfl, (blk_cell BK137.out 3).trans rfl, (blk_cell BK143.out 0).trans rfl, (blk_cell BK143.out 1).trans rfl, (blk_cell BK143.out 2).trans rfl, (blk_cell BK143.out 3).trans rfl⟩ (fun hHeld => ?_)
             clear hK K
             refine norm_ (a' := ?_) ?_ ?_
             rotate_left
             ·show Act.put _ (some 71) _ = _
              simp only [Act.put, List.setIfInBounds_toArray, List.set_cons_zero, List.set_cons_succ, i64_w, i32_w]
              rfl
             refine one_ (i := 5) (N := some 68) #[true, true, true, true, true, true, false, true, true, false, false] rfl rfl (one_of HT_.out (by kernel_rfl)) (by decide) (fun K hK => ?_)
             refine conv_ ((a0_0 ++ (⟨#[61]⟩ : ByteArray)) ++ t139) (by rfl) rfl rfl (by (try simp only [List.map_toArray, List.map_cons, List.map_nil]); first | done | rfl | (simp only [List.length_drop, List.length_take]; rfl)) ?_
             with_reducible refine (string_bytes.calls ((a0_0 ++ (⟨#[61]⟩ : ByteArray)) ++ t139) t154 _ A50.out).mono ?_
             rintro e w61 ⟨v155, rfl, ho0, hb⟩
             refine ⟨_, rfl, ?_⟩
             have n0_ := rbA HO162 hb
             have n1_ := Aside0.mk (Kr.lower ho0 (below_size (by repeat (first | (with_reducible first | exact HB.out | apply below_alloc | apply pw_below_drewN | apply below_drew1 | refine below_set ?_ GE137.out | refine below_set ?_ GE143.out) | exact HB.out))))
             have n2_ := bkA BK137 hb
             have n3_ := bkA BK143 hb
             have n4_ := bsA HB hb
             clear HO162
             clear BK137
             clear BK143
             clear HB
             have HO162 := n0_
             have HO156 := n1_
             have BK137 := n2_
             have BK143 := n3_
             have HB := n4_
             clear n0_ n1_ n2_ n3_ n4_
             (try clear hb)
             (try clear hb2)
             (try clear hk)
             (try clear hi)
             (try clear ho0)
             obtain ⟨Ao62, co62, eo62⟩ := Kr.slice HO156.out
             (first | subst eo62 | (injection eo62 with f1_ f2_ f3_; have f4_ := f1_.symm; have f5_ := f3_.symm; clear f1_ f2_ f3_; subst f4_; subst f5_))
             refine hK.out _ _ ⟨(blk_cell BK137.out 0).trans rfl, (blk_cell BK137.out 1).trans rfl, (blk_cell BK137.out 2).trans rfl, (blk_cell BK137.out 3).trans rfl, (blk_cell BK143.out 0).trans rfl, (blk_cell BK143.out 1).trans rfl, (blk_cell BK143.out 2).trans rfl, (blk_cell BK143.out 3).trans rfl⟩ (fun hHeld => ?_)
             clear hK K
             refine norm_ (a' := ?_) ?_ ?_
             rotate_left
             ·show Act.put _ (some 68) _ = _
              simp only [Act.put, List.setIfInBounds_toArray, List.set_cons_zero, List.set_cons_succ, i64_w, i32_w]
              rfl
             refine one_ (i := 6) (N := some 69) #[true, true, true, true, true, true, true, true, true, false, false] rfl rfl (one_of HT_.out (by kernel_rfl)) (by decide) (fun K hK => ?_)
             refine goes_ Tryd.func13 (by kernel_rfl) rfl #[.slice Ao62 t154.length co62] (by rfl) rfl rfl (by (try simp only [List.map_toArray, List.map_cons, List.map_nil]); first | done | rfl | (simp only [List.length_drop, List.length_take]; rfl)) ?_
             with_reducible refine (field_Read.calls _ _ t154 t157 _ ?side1 ?side2 A51.out).mono ?_
             (case side1 => repeat (first | exact (Kr.reads' HO156.out).2.2 | (with_reducible refine Kd.C_alloc ?_ _) | (with_reducible refine Kd.C_drewN ?_ _) | (with_reducible refine Kd.C_drew ?_)))
             (case side2 => exact (Kr.reads' HO156.out).2.1)
             rintro e w63 ⟨v158, rfl, ho0, hb⟩
             refine ⟨_, rfl, ?_⟩
             have n0_ := Aside0.mk (Kd.R_elder' (by (with_reducible repeat (first | apply Kd.R_alloc | apply Kd.R_drewN | apply Kd.R_drew)); exact HO162.out) (Kd.R_base ho0) hb)
             have n1_ := rbK HO156 hb
             have n2_ := Aside0.mk (Kd.R_lower (Kd.R_newB (Kd.R_newB (Kd.R_new' ho0 (Kd.R_lt (by (with_reducible repeat (first | apply Kd.R_alloc | apply Kd.R_drewN | apply Kd.R_drew)); exact HO162.out))) (g := gb137) (o := .cells #[.string a0_0, .int .i64 a0_1, .int .i64 a0_2, .string a0_3] 28 (0, 0)) (by (with_reducible repeat (first | refine blk_drewN ?_ _ | refine blk_drew ?_ | refine blk_alloc ?_ _)); exact BK137.out)) (g := gb143) (o := .cells #[.string a0_0, .int .i64 2, .int .i64 0, .string t139] 28 (0, 0)) (by (with_reducible repeat (first | refine blk_drewN ?_ _ | refine blk_drew ?_ | refine blk_alloc ?_ _)); exact BK143.out)) (below_size (by repeat (first | (with_reducible first | exact HB.out | apply below_alloc | apply pw_below_drewN | apply below_drew1 | refine below_set ?_ GE137.out | refine below_set ?_ GE143.out) | exact HB.out))))
             have n3_ := bkA BK137 hb
             have n4_ := bkA BK143 hb
             have n5_ := bsA HB hb
             clear HO162
             clear HO156
             clear BK137
             clear BK143
             clear HB
             have HO162 := n0_
             have HO156 := n1_
             have HO159 := n2_
             have BK137 := n3_
             have BK143 := n4_
             have HB := n5_
             clear n0_ n1_ n2_ n3_ n4_ n5_
             (try clear hb)
             (try clear hb2)
             (try clear hk)
             (try clear hi)
             (try clear ho0)
             refine hK.out _ _ ⟨(blk_cell BK137.out 0).trans rfl, (blk_cell BK137.out 1).trans rfl, (blk_cell BK137.out 2).trans rfl, (blk_cell BK137.out 3).trans rfl, (blk_cell BK143.out 0).trans rfl, (blk_cell BK143.out 1).trans rfl, (blk_cell BK143.out 2).trans rfl, (blk_cell BK143.out 3).trans rfl⟩ (fun hHeld => ?_)
             clear hK K
             refine norm_ (a' := ?_) ?_ ?_
             rotate_left
             ·show Act.put _ (some 69) _ = _
              simp only [Act.put, List.setIfInBounds_toArray, List.set_cons_zero, List.set_cons_succ, i64_w, i32_w]
              rfl
             exact norm_ (by simp only [putAll, Act.put, List.setIfInBounds_toArray, List.set_cons_zero, List.set_cons_succ]) (hCont (.slice Ao62 t154.length co62, v158, v161) _ ⟨hHeld, (by (with_reducible repeat (first | apply Kr.alloc | apply Kr.drewN | apply Kr.drew)); exact HO156.out), (by (with_reducible repeat (first | apply Kd.R_alloc | apply Kd.R_drewN | apply Kd.R_drew)); exact Kd.R_mono HO159.out (fun _ hk => ⟨hk.1.1.2, ⟨hk.1.2, hk.2⟩⟩)), (by (with_reducible repeat (first | apply Kd.R_alloc | apply Kd.R_drewN | apply Kd.R_drew)); exact Kd.R_mono HO162.out (fun _ hk => ⟨hk.2, ⟨hk.1.1.2, hk.1.2⟩⟩)), (by (with_reducible repeat (first | refine blk_drewN ?_ _ | refine blk_drew ?_ | refine blk_alloc ?_ _)); exact BK137.out), (by (with_reducible repeat (first | refine blk_drewN ?_ _ | refine blk_drew ?_ | refine blk_alloc ?_ _)); exact BK143.out), (by repeat (first | (with_reducible first | exact HB.out | apply below_alloc | apply pw_below_drewN | apply below_drew1 | refine below_set ?_ GE137.out | refine below_set ?_ GE143.out) | exact HB.out))⟩)
           rintro ⟨v155, v158, v161⟩ w64 ⟨hS_, h0_, h1_, h2_, h3_, h4_, h5_⟩
           have n0_ : Aside0 (Kr (Kd.int .u8) 5 w64 w.heap.size (fun _ => True) v155 t154) := ⟨h0_⟩
           have n1_ : Aside0 (Kd.R k28 28 w64 w.heap.size (fun k_ => some k_ ≠ (v161 : Value).ownBlock ∧ k_ ≠ gb137 ∧ k_ ≠ gb143) v158 t157) := ⟨h1_⟩
           have n2_ : Aside0 (Kd.R k28 28 w64 w.heap.size (fun k_ => some k_ ≠ (v158 : Value).ownBlock ∧ k_ ≠ gb137 ∧ k_ ≠ gb143) v161 y160) := ⟨h2_⟩
           have n3_ : Aside0 (w64.heap[gb137]? = some (.cells #[.string a0_0, .int .i64 a0_1, .int .i64 a0_2, .string a0_3] 28 (0, 0))) := ⟨h3_⟩
           have n4_ : Aside0 (w64.heap[gb143]? = some (.cells #[.string a0_0, .int .i64 2, .int .i64 0, .string t139] 28 (0, 0))) := ⟨h4_⟩
           have n5_ : Aside0 (Below w.heap.size w w64) := ⟨h5_⟩
           clear BK137
           clear BK143
           clear HB
           clear h0_ h1_ h2_ h3_ h4_ h5_
           have HO156 := n0_
           have HO159 := n1_
           have HO162 := n2_
           have BK137 := n3_
           have BK143 := n4_
           have HB := n5_
           clear n0_ n1_ n2_ n3_ n4_ n5_
           have hHeld : w64.cell? ⟨gb137, 0, none⟩ = some (.string a0_0) ∧ w64.cell? ⟨gb137, 1, none⟩ = some (.int .i64 a0_1) ∧ w64.cell? ⟨gb137, 2, none⟩ = some (.int .i64 a0_2) ∧ w64.cell? ⟨gb137, 3, none⟩ = some (.string a0_3) ∧ w64.cell? ⟨gb143, 0, none⟩ = some (.string a0_0) ∧ w64.cell? ⟨gb143, 1, none⟩ = some (.int .i64 2) ∧ w64.cell? ⟨gb143, 2, none⟩ = some (.int .i64 0) ∧ w64.cell? ⟨gb143, 3, none⟩ = some (.string t139) := hS_
           obtain ⟨Ao65, co65, eo65⟩ := Kd.R_slice HO159.out
           (first | subst eo65 | (injection eo65 with f1_ f2_ f3_; have f4_ := f1_.symm; have f5_ := f3_.symm; clear f1_ f2_ f3_; subst f4_; subst f5_))
           obtain ⟨Ao66, co66, eo66⟩ := Kd.R_slice HO162.out
           (first | subst eo66 | (injection eo66 with f1_ f2_ f3_; have f4_ := f1_.symm; have f5_ := f3_.symm; clear f1_ f2_ f3_; subst f4_; subst f5_))
           refine norm_ (a' := ?_) ?_ ?_
           rotate_left
           ·simp only [putAll, Act.put, List.setIfInBounds_toArray, List.set_cons_zero, List.set_cons_succ]
            rfl
           refine one_ (i := 9) (N := some 72) #[true, true, true, true, true, true, true, true, true, true, false] rfl rfl (one_of HT_.out (by kernel_rfl)) (by decide) (fun K hK => ?_)
           refine goes_ Tryd.func16 (by kernel_rfl) rfl #[.slice Ao65 t157.length co65, .slice Ao66 y160.length co66] (by rfl) rfl rfl (by (try simp only [List.map_toArray, List.map_cons, List.map_nil]); first | done | rfl | (simp only [List.length_drop, List.length_take]; rfl)) ?_
           with_reducible refine (dragnetref08_Same.calls k2 _ _ t157 _ _ y160 t163 _ ?side1 ?side2 ?side3 ?side4 A52.out).mono ?_
           (case side1 => repeat (first | exact (Kd.R_reads' HO159.out).2.2 | (with_reducible refine Kd.C_alloc ?_ _) | (with_reducible refine Kd.C_drewN ?_ _) | (with_reducible refine Kd.C_drew ?_)))
           (case side2 => exact (Kd.R_reads' HO159.out).2.1)
           (case side3 => repeat (first | exact (Kd.R_reads' HO162.out).2.2 | (with_reducible refine Kd.C_alloc ?_ _) | (with_reducible refine Kd.C_drewN ?_ _) | (with_reducible refine Kd.C_drew ?_)))
           (case side4 => exact (Kd.R_reads' HO162.out).2.1)
           rintro e w' ⟨rfl, ⟨nd, rfl⟩⟩
           refine ⟨_, rfl, ?_⟩
           refine hK.out _ _ ⟨(blk_cell BK137.out 0).trans rfl, (blk_cell BK137.out 1).trans rfl, (blk_cell BK137.out 2).trans rfl, (blk_cell BK137.out 3).trans rfl, (blk_cell BK143.out 0).trans rfl, (blk_cell BK143.out 1).trans rfl, (blk_cell BK143.out 2).trans rfl, (blk_cell BK143.out 3).trans rfl⟩ (fun hHeld => ?_)
           clear hK K
           refine norm_ (a' := ?_) ?_ ?_
           rotate_left
           ·show Act.put _ (some 72) _ = _
            simp only [Act.put, List.setIfInBounds_toArray, List.set_cons_zero, List.set_cons_succ, i64_w, i32_w]
            rfl
           refine pure_ (i := 10) (N := some 2) (v := ?_) (a' := ?_) #[true, true, true, true, true, true, true, true, true, true, true] rfl rfl (any_of HT_.out (by kernel_rfl)) (fun _ _ _ h => h) (Or.inl ⟨by rfl, ?_⟩) ?_ ?_
           rotate_left
           ·intro w'
            go_simp
            with_reducible rfl
           rotate_left
           ·simp only [Act.put, List.setIfInBounds_toArray, List.set_cons_zero, List.set_cons_succ, i64_w, i32_w]
            rfl
           refine done_ (done_of HT_.out (by kernel_rfl)) ?_
           try go_wp2
           go_ret
           exact ⟨by first | rfl | (simp [errW_none, errW_some] <;> rfl) | (simp [*, errW_none, errW_some] <;> rfl), by repeat (first | (with_reducible first | exact HB.out | apply below_alloc | apply pw_below_drewN | apply below_drew1 | refine below_set ?_ GE137.out | refine below_set ?_ GE143.out) | exact HB.out)⟩
          ·rw [if_neg c49] at H
           exact absurd H (by simp)
         ·rw [if_neg c48] at H
          exact absurd H (by simp)
 ·replace c3 := Bool.eq_false_iff.mpr c3
  subst c3
  have H1 : (some false) = some true := by rw [if_neg (show ¬ (false = true) by decide)] at H; exact H
  clear H
  have H := H1
  clear H1
  exact absurd H (by simp)

end Go.Proofs.YtdkgmiagjhcllaaDoor.P
