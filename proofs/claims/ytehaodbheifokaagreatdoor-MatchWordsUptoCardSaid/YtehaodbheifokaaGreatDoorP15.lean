-- Written by a program of this session (wip/tools/tp.py: the kit's printer, turned to take functions that were proved by hand). Lean checks it.
import Derived.Test.YtehaodbheifokaaGreatDoorP0
import Derived.Test.YtehaodbheifokaaGreatDoorP1
import Derived.Test.YtehaodbheifokaaGreatDoorCut
import Derived.Test.YtehaodbheifokaaGreatDoorNumber
namespace Go.Proofs.YtehaodbheifokaaGreatDoor.P
open Go.RowKit Go.Proofs.YtehaodbheifokaaGreatDoorW.PrintWords Go.Proofs.YtehaodbheifokaaGreatDoorW.PrintLast Go.Proofs.YtehaodbheifokaaGreatDoorW.PrintMore
attribute [local go_sem] max2_int min2_int max_two min_two max_three min_three max_four min_four   -- for this text's walks alone
set_option linter.unusedVariables false
set_option linter.unusedSimpArgs false

-- LEVEL 5
-- PROVED BY HAND: function 139 (field_Number): Derived.Test.YtehaodbheifokaaGreatDoorNumber

-- LEVEL 5
/-! ### field_one: function 114 -/
def field_one.j0 : Nat → ByteArray → ByteArray → Bool → Option (ByteArray × Int × Int × ByteArray × Bool)
 | 0, _, _, _ => none
 | k + 1, x4, x5, x21 => if x21 = true then (some ((⟨#[]⟩ : ByteArray), 0, 0, (⟨#[]⟩ : ByteArray), false)) else ((field_Number.f x5).bind fun bt132 => (if bt132.2 = true then (some (x4, 1, bt132.1, (⟨#[]⟩ : ByteArray), true)) else (some (x4, 2, 0, x5, decide ((x5.size : Int) ≤ 64)))))
def field_one.f (k : Nat) (a0 : ByteArray) : Option (ByteArray × Int × Int × ByteArray × Bool) := (strings_Cut.f a0 (⟨#[61]⟩ : ByteArray)).bind fun bt128 => (if bt128.2.2 = true then ((field_IsKey.f k bt128.1).bind fun t131 => (field_one.j0 k bt128.1 bt128.2.1 (!t131))) else (field_one.j0 k bt128.1 bt128.2.1 true))
theorem field_one.mono_l : ∀ k, (∀ y0 y1 y2, LeO (field_one.j0 k y0 y1 y2) (field_one.j0 (k + 1) y0 y1 y2))
 | 0 => fun _ _ _ r h => by simp [field_one.j0] at h
 | k + 1 => by
  have ih0 := field_one.mono_l k
  ·intro y0 y1 y2
   unfold field_one.j0
   repeat' first
   | (with_reducible exact ih0 _ _ _)
   | (with_reducible exact field_IsKey.mono _ _)
   | (with_reducible exact LeO.refl _)
   | (with_reducible exact LeO.none _)
   | (with_reducible refine LeO.ite ?_ ?_)
   | (with_reducible refine LeO.bind ?_ (fun _ => ?_))
   | exact ih0 _ _ _
   | exact field_IsKey.mono _ _
   | exact LeO.none _
   | refine LeO.ite ?_ ?_
   | refine LeO.bind ?_ (fun _ => ?_)
theorem field_one.mono : ∀ a0 k, LeO (field_one.f k a0) (field_one.f (k + 1) a0) := by
 intro a0 k
 have ih0 := field_one.mono_l k
 unfold field_one.f
 repeat' first
   | (with_reducible exact ih0 _ _ _)
   | (with_reducible exact field_IsKey.mono _ _)
   | (with_reducible exact LeO.refl _)
   | (with_reducible exact LeO.none _)
   | (with_reducible refine LeO.ite ?_ ?_)
   | (with_reducible refine LeO.bind ?_ (fun _ => ?_))
   | exact ih0 _ _ _
   | exact field_IsKey.mono _ _
   | exact LeO.none _
   | refine LeO.ite ?_ ?_
   | refine LeO.bind ?_ (fun _ => ?_)
set_option maxHeartbeats 8000000 in
set_option maxRecDepth 100000 in
theorem field_one.calls (k : Nat) (a0 : ByteArray) (r1 : ByteArray) (r2 : Int) (r3 : Int) (r4 : ByteArray) (r5 : Bool) (w : World) (h : field_one.f k a0 = some (r1, r2, r3, r4, r5)) (hx : FieldIn w := by exact FieldIn.go (by assumption) (by assumption)) :
  Calls Tryz.prog 114 #[.string a0] w fun e w' => e = .returned (.tuple #[.agg #[.string r1, .int .i64 r2, .int .i64 r3, .string r4], .bool r5]) ∧ Below w.heap.size w w' := by
 have HX := Aside0.mk hx
 clear hx
 have hu110 := Tryz.underlying110
 have HB := Aside0.mk (Below.refl w.heap.size w)
 have H : ((strings_Cut.f a0 (⟨#[61]⟩ : ByteArray)).bind fun bt128 => (if bt128.2.2 = true then ((field_IsKey.f k bt128.1).bind fun t131 => (field_one.j0 k bt128.1 bt128.2.1 (!t131))) else (field_one.j0 k bt128.1 bt128.2.1 true))) = some (r1, r2, r3, r4, r5) := h
 clear h
 replace H := Option.bind_eq_some_iff.mp H
 obtain ⟨⟨t128, t129, t130⟩, A20, H⟩ := H
 replace H : (if t130 = true then ((field_IsKey.f k t128).bind fun t131 => (field_one.j0 k t128 t129 (!t131))) else (field_one.j0 k t128 t129 true)) = some (r1, r2, r3, r4, r5) := H
 have A2 := Aside0.mk A20
 clear A20
 have HC3 := Aside0.mk H
 clear H
 go_enter Tryz.func114, Tryz.ntmps114
 go_upto_region 2 with (first | ((with_reducible refine gate_dst (N := 2) rfl ?_); refine box_event ?hg (N := 2) ?hd (cs := #[.string (⟨#[]⟩ : ByteArray), .int .i64 0, .int .i64 0, .string (⟨#[]⟩ : ByteArray)]) (t := 110) ?hr ?_; (case hd => rfl); (case hg => rfl); (case hr => first | (go_simp; done) | (go_simp; rfl) | (go_simp; simp only [wAl, wAr, wSl, wSr, wW])); intro gb127 hg w4 hbox hb; have n0_ := bsA HB hb; have n1_ := Aside0.mk (hbox); have n2_ := szA HB hg; have n3_ := szA HB hg; clear HB; have HB := n0_; have BK127 := n1_; have GW127 := n2_; have GE127 := n3_; clear n0_ n1_ n2_ n3_; clear hb hbox hg) | ((with_reducible refine gate_callee (f := 138) rfl ?_); refine goesL_ (some 11) rfl rfl Tryz.func138 (by kernel_rfl) rfl #[.string a0, .string (⟨#[61]⟩ : ByteArray)] rfl (by (try simp only [List.map_toArray, List.map_cons, List.map_nil]); first | done | rfl | (simp only [List.length_drop, List.length_take]; rfl)) ?_; (with_reducible refine (strings_Cut.calls a0 (⟨#[61]⟩ : ByteArray) t128 t129 t130 _ A2.out).mono ?_); rintro e w' ⟨rfl, ⟨nd, rfl⟩⟩; refine ⟨_, rfl, ?_⟩))
 (try simp only [Act.put, List.setIfInBounds_toArray, List.set_cons_zero, List.set_cons_succ])
 go_cut [21] (fun v21 wc => ∃ (kq : Nat) (x21_2 : Bool), v21 = .bool x21_2 ∧ Aside0 (field_one.j0 kq t128 t129 x21_2 = some (r1, r2, r3, r4, r5)) ∧ Aside0 (kq ≤ k) ∧ Aside0 (wc.heap[gb127]? = some (.cells #[.string (⟨#[]⟩ : ByteArray), .int .i64 0, .int .i64 0, .string (⟨#[]⟩ : ByteArray)] 110 (0, 0))) ∧ Aside0 (Below w.heap.size w wc))
 case first =>
  have H := HC3.out
  clear HC3
  by_cases c5 : t130 = true
  ·subst c5
   have H1 : ((field_IsKey.f k t128).bind fun t131 => (field_one.j0 k t128 t129 (!t131))) = some (r1, r2, r3, r4, r5) := by rw [if_pos rfl] at H; exact H
   clear H
   have H := H1
   clear H1
   replace H := Option.bind_eq_some_iff.mp H
   obtain ⟨t131, A60, H⟩ := H
   replace H : (field_one.j0 k t128 t129 (!t131)) = some (r1, r2, r3, r4, r5) := H
   have A6 := Aside0.mk A60
   clear A60
   have H' := Aside0.mk H
   clear H
   go_wp2_with (first | (go_at_call 80; (with_reducible refine (field_IsKey.calls k t128 t131 _ A6.out).mono ?_); rintro e w' ⟨rfl, ⟨nd, rfl⟩⟩))
   go_meet
   case rel => exact ⟨_, (!t131), (by first | rfl | (simp; done) | (simp [*]; done)), H', ⟨by first | omega | exact Nat.le_refl _⟩, ⟨by (with_reducible repeat (first | refine blk_drewN ?_ _ | refine blk_drew ?_ | refine blk_alloc ?_ _)); exact BK127.out⟩, ⟨by repeat (first | (with_reducible first | exact HB.out | apply below_alloc | apply pw_below_drewN | apply below_drew1 | refine below_set ?_ GE127.out) | exact HB.out)⟩⟩
  ·replace c5 := Bool.eq_false_iff.mpr c5
   subst c5
   have H1 : (field_one.j0 k t128 t129 true) = some (r1, r2, r3, r4, r5) := by rw [if_neg (show ¬ (false = true) by decide)] at H; exact H
   clear H
   have H := H1
   clear H1
   have H' := Aside0.mk H
   clear H
   go_wp2
   go_meet
   case rel => exact ⟨_, (true), (by first | rfl | (simp; done) | (simp [*]; done)), H', ⟨by first | omega | exact Nat.le_refl _⟩, ⟨by (with_reducible repeat (first | refine blk_drewN ?_ _ | refine blk_drew ?_ | refine blk_alloc ?_ _)); exact BK127.out⟩, ⟨by repeat (first | (with_reducible first | exact HB.out | apply below_alloc | apply pw_below_drewN | apply below_drew1 | refine below_set ?_ GE127.out) | exact HB.out)⟩⟩
 case rest =>
  clear HC3
  try clear c1
  try clear p2
  try clear c5
  obtain ⟨kq, x21_2, rfl, HA, HJ2, BK127, HB⟩ := hcut
  cases kq with
  | zero => exact absurd HA.out (by simp [field_one.j0])
  | succ kj2 =>
   have H := HA.out
   clear HA
   simp only [field_one.j0] at H
   by_cases c7 : x21_2 = true
   ·subst c7
    have H1 : (some ((⟨#[]⟩ : ByteArray), 0, 0, (⟨#[]⟩ : ByteArray), false)) = some (r1, r2, r3, r4, r5) := by rw [if_pos rfl] at H; exact H
    clear H
    have H := H1
    clear H1
    simp only [Option.some.injEq, Prod.mk.injEq] at H
    obtain ⟨rfl, rfl, rfl, rfl, rfl⟩ := H
    have hcz8_0 : wc.cell? ⟨gb127, 0, none⟩ = some (.string (⟨#[]⟩ : ByteArray)) := (blk_cell BK127.out 0).trans rfl
    have hcz8_1 : wc.cell? ⟨gb127, 1, none⟩ = some (.int .i64 0) := (blk_cell BK127.out 1).trans rfl
    have hcz8_2 : wc.cell? ⟨gb127, 2, none⟩ = some (.int .i64 0) := (blk_cell BK127.out 2).trans rfl
    have hcz8_3 : wc.cell? ⟨gb127, 3, none⟩ = some (.string (⟨#[]⟩ : ByteArray)) := (blk_cell BK127.out 3).trans rfl
    have hfz8_0 := blk_frozen BK127.out 0
    have hfz8_1 := blk_frozen BK127.out 1
    have hfz8_2 := blk_frozen BK127.out 2
    have hfz8_3 := blk_frozen BK127.out 3
    go_wp2
    refine bodyPost_ret (results_ct rfl _ _ gb127 110 #[.string (⟨#[]⟩ : ByteArray), .int .i64 0, .int .i64 0, .string (⟨#[]⟩ : ByteArray)] (0, 0) _ rfl (by (with_reducible repeat (first | refine blk_drewN ?_ _ | refine blk_drew ?_ | refine blk_alloc ?_ _)); refine blk_put (cs := #[.string (⟨#[]⟩ : ByteArray), .int .i64 0, .int .i64 0, .string (⟨#[]⟩ : ByteArray)]) ?_ 3 _ rfl; (with_reducible repeat (first | refine blk_drewN ?_ _ | refine blk_drew ?_ | refine blk_alloc ?_ _)); refine blk_put (cs := #[.string (⟨#[]⟩ : ByteArray), .int .i64 0, .int .i64 0, .string (⟨#[]⟩ : ByteArray)]) ?_ 2 _ rfl; (with_reducible repeat (first | refine blk_drewN ?_ _ | refine blk_drew ?_ | refine blk_alloc ?_ _)); refine blk_put (cs := #[.string (⟨#[]⟩ : ByteArray), .int .i64 0, .int .i64 0, .string (⟨#[]⟩ : ByteArray)]) ?_ 1 _ rfl; (with_reducible repeat (first | refine blk_drewN ?_ _ | refine blk_drew ?_ | refine blk_alloc ?_ _)); refine blk_put (cs := #[.string (⟨#[]⟩ : ByteArray), .int .i64 0, .int .i64 0, .string (⟨#[]⟩ : ByteArray)]) ?_ 0 _ rfl; (with_reducible repeat (first | refine blk_drewN ?_ _ | refine blk_drew ?_ | refine blk_alloc ?_ _)); exact BK127.out) Tryz.underlying110 rfl (by kernel_rfl)) rfl ?_
    exact ⟨by first | rfl | (simp [errW_none, errW_some] <;> rfl) | (simp [*, errW_none, errW_some] <;> rfl), by repeat (first | (with_reducible first | exact HB.out | apply below_alloc | apply pw_below_drewN | apply below_drew1 | refine below_set ?_ GE127.out) | exact HB.out)⟩
   ·replace c7 := Bool.eq_false_iff.mpr c7
    subst c7
    have H1 : ((field_Number.f t129).bind fun bt132 => (if bt132.2 = true then (some (t128, 1, bt132.1, (⟨#[]⟩ : ByteArray), true)) else (some (t128, 2, 0, t129, decide ((t129.size : Int) ≤ 64))))) = some (r1, r2, r3, r4, r5) := by rw [if_neg (show ¬ (false = true) by decide)] at H; exact H
    clear H
    have H := H1
    clear H1
    replace H := Option.bind_eq_some_iff.mp H
    obtain ⟨⟨t132, t133⟩, A90, H⟩ := H
    replace H : (if t133 = true then (some (t128, 1, t132, (⟨#[]⟩ : ByteArray), true)) else (some (t128, 2, 0, t129, decide ((t129.size : Int) ≤ 64)))) = some (r1, r2, r3, r4, r5) := H
    have A9 := Aside0.mk A90
    clear A90
    by_cases c10 : t133 = true
    ·subst c10
     have H1 : (some (t128, 1, t132, (⟨#[]⟩ : ByteArray), true)) = some (r1, r2, r3, r4, r5) := by rw [if_pos rfl] at H; exact H
     clear H
     have H := H1
     clear H1
     simp only [Option.some.injEq, Prod.mk.injEq] at H
     obtain ⟨rfl, rfl, rfl, rfl, rfl⟩ := H
     go_wp2_with (first | ((with_reducible refine gate_callee (f := 139) rfl ?_); refine goesL_ (some 25) rfl rfl Tryz.func139 (by kernel_rfl) rfl #[.string t129] rfl (by (try simp only [List.map_toArray, List.map_cons, List.map_nil]); first | done | rfl | (simp only [List.length_drop, List.length_take]; rfl)) ?_; (with_reducible refine (field_Number.calls t129 t132 true _ A9.out).mono ?_); rintro e w11 ⟨rfl, hb⟩; refine ⟨_, rfl, ?_⟩; have n0_ := bkA BK127 hb; have n1_ := bsA HB hb; clear BK127; clear HB; have BK127 := n0_; have HB := n1_; clear n0_ n1_; (try clear hb); (try clear hb2); (try clear hk); (try clear hi); have hcz12_0 : w11.cell? ⟨gb127, 0, none⟩ = some (.string (⟨#[]⟩ : ByteArray)) := (blk_cell BK127.out 0).trans rfl; have hcz12_1 : w11.cell? ⟨gb127, 1, none⟩ = some (.int .i64 0) := (blk_cell BK127.out 1).trans rfl; have hcz12_2 : w11.cell? ⟨gb127, 2, none⟩ = some (.int .i64 0) := (blk_cell BK127.out 2).trans rfl; have hcz12_3 : w11.cell? ⟨gb127, 3, none⟩ = some (.string (⟨#[]⟩ : ByteArray)) := (blk_cell BK127.out 3).trans rfl; have hfz12_0 := blk_frozen BK127.out 0; have hfz12_1 := blk_frozen BK127.out 1; have hfz12_2 := blk_frozen BK127.out 2; have hfz12_3 := blk_frozen BK127.out 3))
     refine bodyPost_ret (results_ct rfl _ _ gb127 110 #[.string t128, .int .i64 1, .int .i64 t132, .string (⟨#[]⟩ : ByteArray)] (0, 0) _ rfl (by (with_reducible repeat (first | refine blk_drewN ?_ _ | refine blk_drew ?_ | refine blk_alloc ?_ _)); refine blk_put (cs := #[.string t128, .int .i64 1, .int .i64 t132, .string (⟨#[]⟩ : ByteArray)]) ?_ 3 _ rfl; (with_reducible repeat (first | refine blk_drewN ?_ _ | refine blk_drew ?_ | refine blk_alloc ?_ _)); refine blk_put (cs := #[.string t128, .int .i64 1, .int .i64 0, .string (⟨#[]⟩ : ByteArray)]) ?_ 2 _ rfl; (with_reducible repeat (first | refine blk_drewN ?_ _ | refine blk_drew ?_ | refine blk_alloc ?_ _)); refine blk_put (cs := #[.string t128, .int .i64 0, .int .i64 0, .string (⟨#[]⟩ : ByteArray)]) ?_ 1 _ rfl; (with_reducible repeat (first | refine blk_drewN ?_ _ | refine blk_drew ?_ | refine blk_alloc ?_ _)); refine blk_put (cs := #[.string (⟨#[]⟩ : ByteArray), .int .i64 0, .int .i64 0, .string (⟨#[]⟩ : ByteArray)]) ?_ 0 _ rfl; (with_reducible repeat (first | refine blk_drewN ?_ _ | refine blk_drew ?_ | refine blk_alloc ?_ _)); exact BK127.out) Tryz.underlying110 rfl (by kernel_rfl)) rfl ?_
     exact ⟨by first | rfl | (simp [errW_none, errW_some] <;> rfl) | (simp [*, errW_none, errW_some] <;> rfl), by repeat (first | (with_reducible first | exact HB.out | apply below_alloc | apply pw_below_drewN | apply below_drew1 | refine below_set ?_ GE127.out) | exact HB.out)⟩
    ·replace c10 := Bool.eq_false_iff.mpr c10
     subst c10
     have H1 : (some (t128, 2, 0, t129, decide ((t129.size : Int) ≤ 64))) = some (r1, r2, r3, r4, r5) := by rw [if_neg (show ¬ (false = true) by decide)] at H; exact H
     clear H
     have H := H1
     clear H1
     simp only [Option.some.injEq, Prod.mk.injEq] at H
     obtain ⟨rfl, rfl, rfl, rfl, rfl⟩ := H
     go_wp2_with (first | ((with_reducible refine gate_callee (f := 139) rfl ?_); refine goesL_ (some 25) rfl rfl Tryz.func139 (by kernel_rfl) rfl #[.string t129] rfl (by (try simp only [List.map_toArray, List.map_cons, List.map_nil]); first | done | rfl | (simp only [List.length_drop, List.length_take]; rfl)) ?_; (with_reducible refine (field_Number.calls t129 t132 false _ A9.out).mono ?_); rintro e w13 ⟨rfl, hb⟩; refine ⟨_, rfl, ?_⟩; have n0_ := bkA BK127 hb; have n1_ := bsA HB hb; clear BK127; clear HB; have BK127 := n0_; have HB := n1_; clear n0_ n1_; (try clear hb); (try clear hb2); (try clear hk); (try clear hi); have hcz14_0 : w13.cell? ⟨gb127, 0, none⟩ = some (.string (⟨#[]⟩ : ByteArray)) := (blk_cell BK127.out 0).trans rfl; have hcz14_1 : w13.cell? ⟨gb127, 1, none⟩ = some (.int .i64 0) := (blk_cell BK127.out 1).trans rfl; have hcz14_2 : w13.cell? ⟨gb127, 2, none⟩ = some (.int .i64 0) := (blk_cell BK127.out 2).trans rfl; have hcz14_3 : w13.cell? ⟨gb127, 3, none⟩ = some (.string (⟨#[]⟩ : ByteArray)) := (blk_cell BK127.out 3).trans rfl; have hfz14_0 := blk_frozen BK127.out 0; have hfz14_1 := blk_frozen BK127.out 1; have hfz14_2 := blk_frozen BK127.out 2; have hfz14_3 := blk_frozen BK127.out 3))
     refine bodyPost_ret (results_ct rfl _ _ gb127 110 #[.string t128, .int .i64 2, .int .i64 0, .string t129] (0, 0) _ rfl (by (with_reducible repeat (first | refine blk_drewN ?_ _ | refine blk_drew ?_ | refine blk_alloc ?_ _)); refine blk_put (cs := #[.string t128, .int .i64 2, .int .i64 0, .string (⟨#[]⟩ : ByteArray)]) ?_ 3 _ rfl; (with_reducible repeat (first | refine blk_drewN ?_ _ | refine blk_drew ?_ | refine blk_alloc ?_ _)); refine blk_put (cs := #[.string t128, .int .i64 2, .int .i64 0, .string (⟨#[]⟩ : ByteArray)]) ?_ 2 _ rfl; (with_reducible repeat (first | refine blk_drewN ?_ _ | refine blk_drew ?_ | refine blk_alloc ?_ _)); refine blk_put (cs := #[.string t128, .int .i64 0, .int .i64 0, .string (⟨#[]⟩ : ByteArray)]) ?_ 1 _ rfl; (with_reducible repeat (first | refine blk_drewN ?_ _ | refine blk_drew ?_ | refine blk_alloc ?_ _)); refine blk_put (cs := #[.string (⟨#[]⟩ : ByteArray), .int .i64 0, .int .i64 0, .string (⟨#[]⟩ : ByteArray)]) ?_ 0 _ rfl; (with_reducible repeat (first | refine blk_drewN ?_ _ | refine blk_drew ?_ | refine blk_alloc ?_ _)); exact BK127.out) Tryz.underlying110 rfl (by kernel_rfl)) rfl ?_
     exact ⟨by first | rfl | (simp [errW_none, errW_some] <;> rfl) | (simp [*, errW_none, errW_some] <;> rfl), by repeat (first | (with_reducible first | exact HB.out | apply below_alloc | apply pw_below_drewN | apply below_drew1 | refine below_set ?_ GE127.out) | exact HB.out)⟩

end Go.Proofs.YtehaodbheifokaaGreatDoor.P
