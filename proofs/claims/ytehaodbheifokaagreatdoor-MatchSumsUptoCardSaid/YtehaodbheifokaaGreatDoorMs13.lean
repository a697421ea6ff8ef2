/- Joined by wip/tools/pack.py, pruned: P16, ReadPre, Read0, P17. -/
import Derived.Test.YtehaodbheifokaaGreatDoorMs12
set_option maxHeartbeats 8000000
set_option maxRecDepth 100000
set_option linter.unusedVariables false
set_option linter.unusedSimpArgs false
section
namespace Go.Proofs.YtehaodbheifokaaGreatDoor.P
open Go.RowKit Go.Proofs.YtehaodbheifokaaGreatDoorW.PrintWords Go.Proofs.YtehaodbheifokaaGreatDoorW.PrintLast Go.Proofs.YtehaodbheifokaaGreatDoorW.PrintMore
attribute [local go_sem] max2_int min2_int max_two min_two max_three min_three max_four min_four  
def field_one.j0 : Nat → ByteArray → ByteArray → Bool → Option (ByteArray × Int × Int × ByteArray × Bool)
 | 0, _, _, _ => none
 | k + 1, x4, x5, x21 => if x21 = true then (some ((⟨#[]⟩ : ByteArray), 0, 0, (⟨#[]⟩ : ByteArray), false)) else ((field_Number.f x5).bind fun bt132 => (if bt132.2 = true then (some (x4, 1, bt132.1, (⟨#[]⟩ : ByteArray), true)) else (some (x4, 2, 0, x5, decide ((x5.size : Int) ≤ 64)))))
def field_one.f (k : Nat) (a0 : ByteArray) : Option (ByteArray × Int × Int × ByteArray × Bool) := (strings_Cut.f a0 (⟨#[61]⟩ : ByteArray)).bind fun bt128 => (if bt128.2.2 = true then ((field_IsKey.f k bt128.1).bind fun t131 => (field_one.j0 k bt128.1 bt128.2.1 (!t131))) else (field_one.j0 k bt128.1 bt128.2.1 true))
theorem field_one.calls (k : Nat) (a0 : ByteArray) (r1 : ByteArray) (r2 : Int) (r3 : Int) (r4 : ByteArray) (r5 : Bool) (w : World) (h : field_one.f k a0 = some (r1, r2, r3, r4, r5)) (hx : FieldIn w := by exact FieldIn.go (by assumption) (by assumption)) :
  Calls Tryz.prog 114 #[.string a0] w fun e w' => e = .returned (.tuple #[.agg #[.string r1, .int .i64 r2, .int .i64 r3, .string r4], .bool r5]) ∧ Below w.heap.size w w' := by
 have HX := Aside0.mk hx
 clear hx
 have hu110 := Tryz.underlying110
 have HB := Aside0.mk (Below.refl w.heap.size w)
 have H : ((strings_Cut.f a0 (⟨#[61]⟩ : ByteArray)).bind fun bt128 => (if bt128.2.2 = true then ((field_IsKey.f k bt128.1).bind fun t131 => (field_one.j0 k bt128.1 bt128.2.1 (!t131))) else (field_one.j0 k bt128.1 bt128.2.1 true))) = some (r1, r2, r3, r4, r5) := h
 clear h
 replace H := Option.bind_eq_some_iff.mp H
 obtain ⟨⟨t128, t129, t130⟩, A20, H⟩ := H
 replace H : (if t130 = true then ((field_IsKey.f k t128).bind fun t131 => (field_one.j0 k t128 t129 (!t131))) else (field_one.j0 k t128 t129 true)) = some (r1, r2, r3, r4, r5) := H
 have A2 := Aside0.mk A20
 clear A20
 have HC3 := Aside0.mk H
 clear H
 go_enter Tryz.func114, Tryz.ntmps114
 go_upto_region 2 with (first | ((with_reducible refine gate_dst (N := 2) rfl ?_); refine box_event ?hg (N := 2) ?hd (cs := #[.string (⟨#[]⟩ : ByteArray), .int .i64 0, .int .i64 0, .string (⟨#[]⟩ : ByteArray)]) (t := 110) ?hr ?_; (case hd => rfl); (case hg => rfl); (case hr => first | (go_simp; done) | (go_simp; rfl) | (go_simp; simp only [wAl, wAr, wSl, wSr, wW])); intro gb127 hg w4 hbox hb; have n0_ := bsA HB hb; have n1_ := Aside0.mk (hbox); have n2_ := szA HB hg; have n3_ := szA HB hg; clear HB; have HB := n0_; have BK127 := n1_; have GW127 := n2_; have GE127 := n3_; clear n0_ n1_ n2_ n3_; clear hb hbox hg) | ((with_reducible refine gate_callee (f := 138) rfl ?_); refine goesL_ (some 11) rfl rfl Tryz.func138 (by kernel_rfl) rfl #[.string a0, .string (⟨#[61]⟩ : ByteArray)] rfl mp_ ?_; (with_reducible refine (strings_Cut.calls a0 (⟨#[61]⟩ : ByteArray) t128 t129 t130 _ A2.out).mono ?_); rintro e w' ⟨rfl, ⟨nd, rfl⟩⟩; refine ⟨_, rfl, ?_⟩))
 (try simp only [Act.put, List.setIfInBounds_toArray, List.set_cons_zero, List.set_cons_succ])
 go_cut [21] (fun v21 wc => ∃ (kq : Nat) (x21_2 : Bool), v21 = .bool x21_2 ∧ Aside0 (field_one.j0 kq t128 t129 x21_2 = some (r1, r2, r3, r4, r5)) ∧ Aside0 (kq ≤ k) ∧ Aside0 (wc.heap[gb127]? = some (.cells #[.string (⟨#[]⟩ : ByteArray), .int .i64 0, .int .i64 0, .string (⟨#[]⟩ : ByteArray)] 110 (0, 0))) ∧ Aside0 (Below w.heap.size w wc))
 case first =>
  have H := HC3.out
  clear HC3
  by_cases c5 : t130 = true
  ·subst c5
   have H1 : ((field_IsKey.f k t128).bind fun t131 => (field_one.j0 k t128 t129 (!t131))) = some (r1, r2, r3, r4, r5) := by rw [if_pos rfl] at H; exact H
   clear H
   have H := H1
   clear H1
   replace H := Option.bind_eq_some_iff.mp H
   obtain ⟨t131, A60, H⟩ := H
   replace H : (field_one.j0 k t128 t129 (!t131)) = some (r1, r2, r3, r4, r5) := H
   have A6 := Aside0.mk A60
   clear A60
   have H' := Aside0.mk H
   clear H
   go_wp2_with (first | (go_at_call 80; (with_reducible refine (field_IsKey.calls k t128 t131 _ A6.out).mono ?_); rintro e w' ⟨rfl, ⟨nd, rfl⟩⟩))
   go_meet
   case rel => exact ⟨_, (!t131), rs_, H', ⟨by first | omega | exact Nat.le_refl _⟩, ⟨bU_ BK127.out⟩, ⟨by repeat (first | (with_reducible first | exact HB.out | apply below_alloc | apply pw_below_drewN | apply below_drew1 | refine below_set ?_ GE127.out) | exact HB.out)⟩⟩
  ·replace c5 := Bool.eq_false_iff.mpr c5
   subst c5
   have H1 : (field_one.j0 k t128 t129 true) = some (r1, r2, r3, r4, r5) := by rw [if_neg (show ¬ (false = true) by decide)] at H; exact H
   clear H
   have H := H1
   clear H1
   have H' := Aside0.mk H
   clear H
   go_wp2
   go_meet
   case rel => exact ⟨_, (true), rs_, H', ⟨by first | omega | exact Nat.le_refl _⟩, ⟨bU_ BK127.out⟩, ⟨by repeat (first | (with_reducible first | exact HB.out | apply below_alloc | apply pw_below_drewN | apply below_drew1 | refine below_set ?_ GE127.out) | exact HB.out)⟩⟩
 case rest =>
  clear HC3
  try clear c1
  try clear p2
  try clear c5
  obtain ⟨kq, x21_2, rfl, HA, HJ2, BK127, HB⟩ := hcut
  cases kq with
  | zero => exact absurd HA.out (by simp [field_one.j0])
  | succ kj2 =>
   have H := HA.out
   clear HA
   simp only [field_one.j0] at H
   by_cases c7 : x21_2 = true
   ·subst c7
    have H1 : (some ((⟨#[]⟩ : ByteArray), 0, 0, (⟨#[]⟩ : ByteArray), false)) = some (r1, r2, r3, r4, r5) := by rw [if_pos rfl] at H; exact H
    clear H
    have H := H1
    clear H1
    simp only [Option.some.injEq, Prod.mk.injEq] at H
    obtain ⟨rfl, rfl, rfl, rfl, rfl⟩ := H
    have hcz8_0 : wc.cell? ⟨gb127, 0, none⟩ = some (.string (⟨#[]⟩ : ByteArray)) := (blk_cell BK127.out 0).trans rfl
    have hcz8_1 : wc.cell? ⟨gb127, 1, none⟩ = some (.int .i64 0) := (blk_cell BK127.out 1).trans rfl
    have hcz8_2 : wc.cell? ⟨gb127, 2, none⟩ = some (.int .i64 0) := (blk_cell BK127.out 2).trans rfl
    have hcz8_3 : wc.cell? ⟨gb127, 3, none⟩ = some (.string (⟨#[]⟩ : ByteArray)) := (blk_cell BK127.out 3).trans rfl
    have hfz8_0 := blk_frozen BK127.out 0
    have hfz8_1 := blk_frozen BK127.out 1
    have hfz8_2 := blk_frozen BK127.out 2
    have hfz8_3 := blk_frozen BK127.out 3
    go_wp2
    refine bodyPost_ret (results_ct rfl _ _ gb127 110 #[.string (⟨#[]⟩ : ByteArray), .int .i64 0, .int .i64 0, .string (⟨#[]⟩ : ByteArray)] (0, 0) _ rfl (by (with_reducible repeat (first | refine blk_drewN ?_ _ | refine blk_drew ?_ | refine blk_alloc ?_ _)); refine blk_put (cs := #[.string (⟨#[]⟩ : ByteArray), .int .i64 0, .int .i64 0, .string (⟨#[]⟩ : ByteArray)]) ?_ 3 _ rfl; (with_reducible repeat (first | refine blk_drewN ?_ _ | refine blk_drew ?_ | refine blk_alloc ?_ _)); refine blk_put (cs := #[.string (⟨#[]⟩ : ByteArray), .int .i64 0, .int .i64 0, .string (⟨#[]⟩ : ByteArray)]) ?_ 2 _ rfl; (with_reducible repeat (first | refine blk_drewN ?_ _ | refine blk_drew ?_ | refine blk_alloc ?_ _)); refine blk_put (cs := #[.string (⟨#[]⟩ : ByteArray), .int .i64 0, .int .i64 0, .string (⟨#[]⟩ : ByteArray)]) ?_ 1 _ rfl; (with_reducible repeat (first | refine blk_drewN ?_ _ | refine blk_drew ?_ | refine blk_alloc ?_ _)); refine blk_put (cs := #[.string (⟨#[]⟩ : ByteArray), .int .i64 0, .int .i64 0, .string (⟨#[]⟩ : ByteArray)]) ?_ 0 _ rfl; (with_reducible repeat (first | refine blk_drewN ?_ _ | refine blk_drew ?_ | refine blk_alloc ?_ _)); exact BK127.out) Tryz.underlying110 rfl (by kernel_rfl)) rfl ?_
    exact ⟨by first | rfl | (simp [errW_none, errW_some] <;> rfl) | (simp [*, errW_none, errW_some] <;> rfl), by repeat (first | (with_reducible first | exact HB.out | apply below_alloc | apply pw_below_drewN | apply below_drew1 | refine below_set ?_ GE127.out) | exact HB.out)⟩
   ·replace c7 := Bool.eq_false_iff.mpr c7
    subst c7
    have H1 : ((field_Number.f t129).bind fun bt132 => (if bt132.2 = true then (some (t128, 1, bt132.1, (⟨#[]⟩ : ByteArray), true)) else (some (t128, 2, 0, t129, decide ((t129.size : Int) ≤ 64))))) = some (r1, r2, r3, r4, r5) := by rw [if_neg (show ¬ (false = true) by decide)] at H; exact H
    clear H
    have H := H1
    clear H1
    replace H := Option.bind_eq_some_iff.mp H
    obtain ⟨⟨t132, t133⟩, A90, H⟩ := H
    replace H : (if t133 = true then (some (t128, 1, t132, (⟨#[]⟩ : ByteArray), true)) else (some (t128, 2, 0, t129, decide ((t129.size : Int) ≤ 64)))) = some (r1, r2, r3, r4, r5) := H
    have A9 := Aside0.mk A90
    clear A90
    by_cases c10 : t133 = true
    ·subst c10
     have H1 : (some (t128, 1, t132, (⟨#[]⟩ : ByteArray), true)) = some (r1, r2, r3, r4, r5) := by rw [if_pos rfl] at H; exact H
     clear H
     have H := H1
     clear H1
     simp only [Option.some.injEq, Prod.mk.injEq] at H
     obtain ⟨rfl, rfl, rfl, rfl, rfl⟩ := H
     go_wp2_with (first | ((with_reducible refine gate_callee (f := 139) rfl ?_); refine goesL_ (some 25) rfl rfl Tryz.func139 (by kernel_rfl) rfl #[.string t129] rfl mp_ ?_; (with_reducible refine (field_Number.calls t129 t132 true _ A9.out).mono ?_); rintro e w11 ⟨rfl, hb⟩; refine ⟨_, rfl, ?_⟩; have n0_ := bkA BK127 hb; have n1_ := bsA HB hb; clear BK127; clear HB; have BK127 := n0_; have HB := n1_; clear n0_ n1_; (try clear hb); (try clear hb2); (try clear hk); (try clear hi); have hcz12_0 : w11.cell? ⟨gb127, 0, none⟩ = some (.string (⟨#[]⟩ : ByteArray)) := (blk_cell BK127.out 0).trans rfl; have hcz12_1 : w11.cell? ⟨gb127, 1, none⟩ = some (.int .i64 0) := (blk_cell BK127.out 1).trans rfl; have hcz12_2 : w11.cell? ⟨gb127, 2, none⟩ = some (.int .i64 0) := (blk_cell BK127.out 2).trans rfl; have hcz12_3 : w11.cell? ⟨gb127, 3, none⟩ = some (.string (⟨#[]⟩ : ByteArray)) := (blk_cell BK127.out 3).trans rfl; have hfz12_0 := blk_frozen BK127.out 0; have hfz12_1 := blk_frozen BK127.out 1; have hfz12_2 := blk_frozen BK127.out 2; have hfz12_3 := blk_frozen BK127.out 3))
     refine bodyPost_ret (results_ct rfl _ _ gb127 110 #[.string t128, .int .i64 1, .int .i64 t132, .string (⟨#[]⟩ : ByteArray)] (0, 0) _ rfl (by (with_reducible repeat (first | refine blk_drewN ?_ _ | refine blk_drew ?_ | refine blk_alloc ?_ _)); refine blk_put (cs := #[.string t128, .int .i64 1, .int .i64 t132, .string (⟨#[]⟩ : ByteArray)]) ?_ 3 _ rfl; (with_reducible repeat (first | refine blk_drewN ?_ _ | refine blk_drew ?_ | refine blk_alloc ?_ _)); refine blk_put (cs := #[.string t128, .int .i64 1, .int .i64 0, .string (⟨#[]⟩ : ByteArray)]) ?_ 2 _ rfl; (with_reducible repeat (first | refine blk_drewN ?_ _ | refine blk_drew ?_ | refine blk_alloc ?_ _)); refine blk_put (cs := #[.string t128, .int .i64 0, .int .i64 0, .string (⟨#[]⟩ : ByteArray)]) ?_ 1 _ rfl; (with_reducible repeat (first | refine blk_drewN ?_ _ | refine blk_drew ?_ | refine blk_alloc ?_ _)); refine blk_put (cs := #[.string (⟨#[]⟩ : ByteArray), .int .i64 0, .int .i64 0, .string (⟨#[]⟩ : ByteArray)]) ?_ 0 _ rfl; (with_reducible repeat (first | refine blk_drewN ?_ _ | refine blk_drew ?_ | refine blk_alloc ?_ _)); exact BK127.out) Tryz.underlying110 rfl (by kernel_rfl)) rfl ?_
     exact ⟨by first | rfl | (simp [errW_none, errW_some] <;> rfl) | (simp [*, errW_none, errW_some] <;> rfl), by repeat (first | (with_reducible first | exact HB.out | apply below_alloc | apply pw_below_drewN | apply below_drew1 | refine below_set ?_ GE127.out) | exact HB.out)⟩
    ·replace c10 := Bool.eq_false_iff.mpr c10
     subst c10
     have H1 : (some (t128, 2, 0, t129, decide ((t129.size : Int) ≤ 64))) = some (r1, r2, r3, r4, r5) := by rw [if_neg (show ¬ (false = true) by decide)] at H; exact H
     clear H
     have H := H1
     clear H1
     simp only [Option.some.injEq, Prod.mk.injEq] at H
     obtain ⟨rfl, rfl, rfl, rfl, rfl⟩ := H
     go_wp2_with (first | ((with_reducible refine gate_callee (f := 139) rfl ?_); refine goesL_ (some 25) rfl rfl Tryz.func139 (by kernel_rfl) rfl #[.string t129] rfl mp_ ?_; (with_reducible refine (field_Number.calls t129 t132 false _ A9.out).mono ?_); rintro e w13 ⟨rfl, hb⟩; refine ⟨_, rfl, ?_⟩; have n0_ := bkA BK127 hb; have n1_ := bsA HB hb; clear BK127; clear HB; have BK127 := n0_; have HB := n1_; clear n0_ n1_; (try clear hb); (try clear hb2); (try clear hk); (try clear hi); have hcz14_0 : w13.cell? ⟨gb127, 0, none⟩ = some (.string (⟨#[]⟩ : ByteArray)) := (blk_cell BK127.out 0).trans rfl; have hcz14_1 : w13.cell? ⟨gb127, 1, none⟩ = some (.int .i64 0) := (blk_cell BK127.out 1).trans rfl; have hcz14_2 : w13.cell? ⟨gb127, 2, none⟩ = some (.int .i64 0) := (blk_cell BK127.out 2).trans rfl; have hcz14_3 : w13.cell? ⟨gb127, 3, none⟩ = some (.string (⟨#[]⟩ : ByteArray)) := (blk_cell BK127.out 3).trans rfl; have hfz14_0 := blk_frozen BK127.out 0; have hfz14_1 := blk_frozen BK127.out 1; have hfz14_2 := blk_frozen BK127.out 2; have hfz14_3 := blk_frozen BK127.out 3))
     refine bodyPost_ret (results_ct rfl _ _ gb127 110 #[.string t128, .int .i64 2, .int .i64 0, .string t129] (0, 0) _ rfl (by (with_reducible repeat (first | refine blk_drewN ?_ _ | refine blk_drew ?_ | refine blk_alloc ?_ _)); refine blk_put (cs := #[.string t128, .int .i64 2, .int .i64 0, .string (⟨#[]⟩ : ByteArray)]) ?_ 3 _ rfl; (with_reducible repeat (first | refine blk_drewN ?_ _ | refine blk_drew ?_ | refine blk_alloc ?_ _)); refine blk_put (cs := #[.string t128, .int .i64 2, .int .i64 0, .string (⟨#[]⟩ : ByteArray)]) ?_ 2 _ rfl; (with_reducible repeat (first | refine blk_drewN ?_ _ | refine blk_drew ?_ | refine blk_alloc ?_ _)); refine blk_put (cs := #[.string t128, .int .i64 0, .int .i64 0, .string (⟨#[]⟩ : ByteArray)]) ?_ 1 _ rfl; (with_reducible repeat (first | refine blk_drewN ?_ _ | refine blk_drew ?_ | refine blk_alloc ?_ _)); refine blk_put (cs := #[.string (⟨#[]⟩ : ByteArray), .int .i64 0, .int .i64 0, .string (⟨#[]⟩ : ByteArray)]) ?_ 0 _ rfl; (with_reducible repeat (first | refine blk_drewN ?_ _ | refine blk_drew ?_ | refine blk_alloc ?_ _)); exact BK127.out) Tryz.underlying110 rfl (by kernel_rfl)) rfl ?_
     exact ⟨by first | rfl | (simp [errW_none, errW_some] <;> rfl) | (simp [*, errW_none, errW_some] <;> rfl), by repeat (first | (with_reducible first | exact HB.out | apply below_alloc | apply pw_below_drewN | apply below_drew1 | refine below_set ?_ GE127.out) | exact HB.out)⟩
end Go.Proofs.YtehaodbheifokaaGreatDoor.P
end
section
namespace Go.Proofs.YtehaodbheifokaaGreatDoor.P
open Go Go.RowKit Go.Shelf Go.Proofs.YtehaodbheifokaaGreatDoorW.PrintWords Go.Proofs.YtehaodbheifokaaGreatDoorW.PrintLast
instance : Inhabited S110 := ⟨z110⟩
def cells110 (x : S110) : List Value := [.string x.f0, .int .i64 x.f1, .int .i64 x.f2, .string x.f3]
def flat (l : List S110) : List Value := l.flatMap cells110
theorem flat_len (l : List S110) : (flat l).length = l.length * 4 := by
 induction l with
 | nil => rfl
 | cons x t ih => simp only [flat, List.flatMap_cons, List.length_append] at *; rw [ih]; simp [cells110]; omega
theorem flat_snoc (l : List S110) (x : S110) : flat (l ++ [x]) = flat l ++ cells110 x := by simp [flat]
theorem flat_at : ∀ (l : List S110) (j : Nat), j < l.length → ((flat l).drop (j * 4)).take 4 = cells110 l[j]!
 | [], j, h => by simp at h
 | x :: t, 0, h => by simp [flat, cells110]
 | x :: t, j + 1, h => by
  have ih := flat_at t j (by simpa using h)
  have e : (flat (x :: t)).drop ((j + 1) * 4) = (flat t).drop (j * 4) := by
   show (cells110 x ++ flat t).drop _ = _
   rw [show (j + 1) * 4 = (cells110 x).length + j * 4 by simp [cells110]; omega, List.drop_append, List.drop_eq_nil_of_le (by omega), List.nil_append, Nat.add_sub_cancel_left]
  rw [e, ih]
  simp
theorem flat_get {l : List S110} {j i : Nat} {v : Value} (hj : j < l.length) (h : (cells110 l[j]!)[i]? = some v) : (flat l)[j * 4 + i]? = some v := by
 rw [← flat_at l j hj] at h
 have hi : i < 4 := by
  have := (List.getElem?_eq_some_iff.1 h).1
  rw [List.length_take] at this
  omega
 rw [List.getElem?_take_of_lt hi, List.getElem?_drop] at h
 exact h
theorem R_flat {w : World} {base : Nat} {v : Value} {l : List S110} (h : w.ownsRow base 110 4 v l.length (flat l)) : Kd.R k110 110 w base (fun _ => True) v l :=
 ⟨fun _ _ => trivial, flat l, h, by
  refine ⟨flat_len l, fun j p hj => ?_⟩
  obtain ⟨hl, hp⟩ := List.getElem?_eq_some_iff.1 hj
  have e : ((flat l).drop (j * 4)).take 4 = cells110 l[j]! := flat_at l j hl
  have e2 : l[j]! = p := by rw [getElem!_pos l j hl]; exact hp
  rw [e2] at e
  show k110.M _ _ _ p (((flat l).drop (j * 4)).take 4)
  rw [e]
  exact k110_mkM _ _ _ p⟩
theorem had_calls (G : Nat) (y x : S110) (W : World) (hG : W.heap[G]? = some (.cells (cells110 y).toArray 110 (0, 0))) :
  Calls Tryz.prog 116 #[.agg (cells110 x).toArray, .pointer (some ⟨G, 0, none⟩)] W fun e w' => e = .returned (.bool (decide (x.f0 = y.f0))) ∧ Below W.heap.size W w' := by
 have hc0 : W.cell? ⟨G, 0, none⟩ = some (.string y.f0) := (blk_cell hG 0).trans rfl
 have hlt : G < W.heap.size := (Array.getElem?_eq_some_iff.1 hG).1
 have hBA : Below W.heap.size W (W.alloc (.cells (cells110 x).toArray 110)) := (Below.refl _ _).alloc (Nat.le_refl _) _
 have hc0' : (W.alloc (.cells (cells110 x).toArray 110)).cell? ⟨G, 0, none⟩ = some (.string y.f0) := (hBA.cell (p := ⟨G, 0, none⟩) hlt).trans hc0
 have hb : (x.f0.toList == y.f0.toList) = decide (x.f0 = y.f0) := by
  by_cases e : x.f0 = y.f0
  ·rw [e]; simp
  ·rw [decide_eq_false e]
   exact beq_eq_false_iff_ne.2 (fun h => e (by
    rw [Lib.toList_data, Lib.toList_data] at h
    exact ByteArray.ext (Array.toList_inj.1 h)))
 unfold cells110 at *
 clear hG hc0
 go_enter Tryz.func116, Tryz.ntmps116
 go_wp2
 go_ret
 exact ⟨by rw [← hb]; rfl, hBA⟩
theorem had_below (G : Nat) (y : S110) (W : World) (hG : W.heap[G]? = some (.cells (cells110 y).toArray 110 (0, 0))) :
  PredBelow Tryz.prog 116 #[.pointer (some ⟨G, 0, none⟩)] (fun x : S110 => .agg (cells110 x).toArray) (fun x => decide (x.f0 = y.f0)) W := fun V x hb => by
 have h := had_calls G y x V ((hb.block G (Array.getElem?_eq_some_iff.1 hG).1).trans hG)
 refine h.mono ?_
 rintro e w' ⟨rfl, hb2⟩
 exact ⟨rfl, hb.trans (hb2.mono hb.size)⟩
theorem index_nil (f : Value) (W : World) : Calls Tryz.prog 140 #[.slice none 0 0, f] W fun e w' => e = .returned (.int .i64 (-1)) ∧ Below W.heap.size W w' := by
 go_enter Tryz.func140, Tryz.ntmps140
 go_wp2
 go_loopg [5, 8] 0 (fun gg _ s8 wr => s8 = .int .i64 0 ∧ wr = W)
 case atStart => exact ⟨rfl, rfl⟩
 case round =>
  obtain ⟨rfl, rfl⟩ := hrel
  go_wp2
  go_ret
  exact ⟨rfl, Below.refl _ _⟩
theorem contains_nil (f : Value) (W : World) : Calls Tryz.prog 115 #[.slice none 0 0, f] W fun e w' => e = .returned (.bool false) ∧ Below W.heap.size W w' := by
 go_enter Tryz.func115, Tryz.ntmps115
 go_wp2_with (go_at_call 140; refine (index_nil f _).mono ?_; rintro e w' ⟨rfl, hb⟩)
 go_ret
 exact ⟨rfl, hb⟩
theorem contains_calls (base : Nat) (v : Value) (l : List S110) (G : Nat) (y : S110) (W : World) (hl : l.length ≤ 16) (h : W.ownsRow base 110 4 v l.length (flat l)) (hG : W.heap[G]? = some (.cells (cells110 y).toArray 110 (0, 0))) :
  Calls Tryz.prog 115 #[v, .func (.func 116) #[] #[.pointer (some ⟨G, 0, none⟩)]] W fun e w' => e = .returned (.bool (l.any (fun x => decide (x.f0 = y.f0)))) ∧ Below W.heap.size W w' := by
 rcases h.2 with ⟨rfl, hn⟩ | ⟨g, cap, cur, rfl, _, hg, hnc, hcm, hcs, htake⟩
 ·obtain rfl : l = [] := List.length_eq_zero_iff.1 hn
  exact contains_nil _ W
 ·have hc := AnyQ.slices_ContainsFunc Tryz.laysH8 4 Tryz.isAgg110 Tryz.sizeOf110 cells110 (fun _ => rfl) (fun x => decide (x.f0 = y.f0)) 116 #[.pointer (some ⟨G, 0, none⟩)] (enters_of Tryz.func116 (by kernel_rfl) rfl) g 0 l.length cap l W
   (had_below G y W hG) (Nat.le_refl _) (by omega) (Array.getElem?_eq_some_iff.1 hg).1 (fun j hj i u hu => by
    have h1 := flat_get hj hu
    rw [← htake] at h1
    have h2 : cur.toList[j * 4 + i]? = some u := by
     have hlt := (List.getElem?_eq_some_iff.1 h1).1
     rw [List.length_take] at hlt
     rwa [List.getElem?_take_of_lt (by omega)] at h1
    rw [Nat.zero_add, blk_cell hg]
    simpa using h2)
  rw [List.take_of_length_le (Nat.le_refl _)] at hc
  exact hc
theorem own_below {w w1 : World} {base : Nat} {e : TypeId} {size n : Nat} {v : Value} {xs : List Value} (h : w.ownsRow base e size v n xs) (hb : Below w.heap.size w w1) : w1.ownsRow base e size v n xs := own_move h (fun k hk => hb.block k (own_lt h k hk))
theorem boxed_below {W W1 : World} {B : Nat} {t : TypeId} {v : Value} (h : Boxed W B t v) (hb : Below W.heap.size W W1) : Boxed W1 B t v := (hb.block B h.lt).trans h
def oneT (x : ByteArray) : S110 × Bool :=
 match field_one.f (x.size + 8) x with
 | some (a, b, c, d, ok) => (⟨a, b, c, d⟩, ok)
 | none => (z110, false)
def rdStep (st : List S110) (x : ByteArray) : List S110 :=
 if st.length = 16 then st else if (oneT x).2 = false ∨ st.any (fun y => decide (y.f0 = (oneT x).1.f0)) = true then st else st ++ [(oneT x).1]
def rdSt (pre : List ByteArray) : List S110 := pre.foldl rdStep []
theorem rdSt_snoc (pre : List ByteArray) (x : ByteArray) : rdSt (pre ++ [x]) = rdStep (rdSt pre) x := by unfold rdSt; rw [List.foldl_append]; rfl
theorem rdFold_le (pre : List ByteArray) : ∀ st : List S110, st.length ≤ 16 → (pre.foldl rdStep st).length ≤ 16 := by
 induction pre with
 | nil => intro st h; exact h
 | cons x t ih =>
  intro st h
  refine ih _ ?_
  unfold rdStep
  split
  ·exact h
  ·split
   ·exact h
   ·simp only [List.length_append, List.length_singleton]; omega
theorem rdSt_le (pre : List ByteArray) : (rdSt pre).length ≤ 16 := rdFold_le pre [] (by simp)
theorem rdFold_full (pre : List ByteArray) : ∀ st : List S110, st.length = 16 → pre.foldl rdStep st = st := by
 induction pre with
 | nil => intro st h; rfl
 | cons x t ih =>
  intro st h
  rw [List.foldl_cons, show rdStep st x = st from if_pos h]
  exact ih st h
theorem rdSt_full {pre ws : List ByteArray} (h : pre <+: ws) (h16 : (rdSt pre).length = 16) : rdSt ws = rdSt pre := by
 obtain ⟨t, rfl⟩ := h
 unfold rdSt at *
 rw [List.foldl_append]
 exact rdFold_full t _ h16
end Go.Proofs.YtehaodbheifokaaGreatDoor.P
end
section
namespace Go.Proofs.YtehaodbheifokaaGreatDoor.P
open Go Go.RowKit Go.Shelf Go.Proofs.YtehaodbheifokaaGreatDoorW.PrintWords Go.Proofs.YtehaodbheifokaaGreatDoorW.PrintLast
attribute [local go_sem] Oper.semAt_some
theorem appended2 {W w1 : World} {n₀ nb B : Nat} {t e : TypeId} {size : Nat} {v v' : Value} {k m : Nat} {xs ys : List Value} {tmp : Obj}
  (hv : Boxed W B t v) (hte : t ≠ e) (hrow : W.ownsRow nb e size v k xs) (hn : n₀ ≤ nb) (hnb : nb ≤ W.heap.size) (hB : n₀ ≤ B) (hown' : w1.ownsRow nb e size v' m ys) (hgrow : (W.alloc tmp).grownBy w1 v.ownBlock) :
  Boxed w1 B t v ∧ Boxed (w1.setCell ⟨B, 0, none⟩ v') B t v' ∧ (w1.setCell ⟨B, 0, none⟩ v').ownsRow nb e size v' m ys ∧ KeepsOthers W (w1.setCell ⟨B, 0, none⟩ v') ∧ Below n₀ W (w1.setCell ⟨B, 0, none⟩ v') := by
 have hv1 : Boxed w1 B t v := (hv.alloc tmp).kept hgrow (hv.not_row hte hrow)
 refine ⟨hv1, hv1.set v', own_setCell hown' (hv1.not_row hte hown') v', ?_, ?_⟩
 ·refine ((KeepsOthers.alloc W tmp).trans (KeepsOthers.of_grownBy hgrow fun j o ej hj => ?_)).trans (KeepsOthers.setCell _ _ _)
  rcases (hrow.alloc tmp).2 with ⟨rfl, _⟩ | ⟨g, cap, cur, rfl, _, hgb, _⟩
  ·simp [Value.ownBlock] at ej
  ·obtain rfl : g = j := by simpa [Value.ownBlock] using ej
   rw [hgb] at hj; cases hj; rfl
 ·exact (((Below.refl n₀ W).alloc (Nat.le_trans hn hnb) tmp).grown hgrow (by simp; omega) fun j ej => Nat.le_trans hn (own_base hrow j ej)).setCell (p := ⟨B, 0, none⟩) hB v'
theorem gInfo110 : (Tryz.prog.info? 110).map (fun i => (i.zero, i.size, i.bytes)) = some (some (.agg (cells110 z110).toArray), 4, 48) := by kernel_rfl
theorem keeps_below {W W' : World} (h : Below W.heap.size W W') : KeepsOthers W W' := KeepsOthers.of_grownBy (grown_of_below h) (fun j o e _ => by cases e)
theorem own_slice {w : World} {base : Nat} {e : TypeId} {size n : Nat} {v : Value} {xs : List Value} (h : w.ownsRow base e size v n xs) : ∃ A c, v = .slice A n c := by
 rcases h.2 with ⟨rfl, rfl⟩ | ⟨g, cap, cur, rfl, _⟩
 ·exact ⟨_, _, rfl⟩
 ·exact ⟨_, _, rfl⟩
theorem cells_new (w : World) (cs : List Value) (t : TypeId) : ∀ (j : Nat) u, cs[j]? = some u → (w.alloc (.cells cs.toArray t)).cell? ((⟨w.heap.size, 0, none⟩ : Addr).add j) = some u := fun j u h => by
 rw [WideShapes.add_plain, Nat.zero_add, blk_cell (World.alloc_heap_new w _)]
 simpa using h
def okWord (x : ByteArray) : Bool := (field_one.f (x.size + 8) x).isSome
def rdA (pre : List {x : ByteArray // okWord x = true}) : List S110 := rdSt (pre.map Subtype.val)
theorem rdA_snoc (pre : List {x : ByteArray // okWord x = true}) (x : {x : ByteArray // okWord x = true}) : rdA (pre ++ [x]) = rdStep (rdA pre) x.val := by unfold rdA; rw [List.map_append]; exact rdSt_snoc _ _
theorem rdA_le (pre : List {x : ByteArray // okWord x = true}) : (rdA pre).length ≤ 16 := rdSt_le _
theorem read_in (n : Nat) (hn : 3 ≤ n) (A : Option Addr) (c : Nat) (bs : List UInt8) (hcc : bs.length ≤ c) (hbig : bs.length ≤ 9223372036854775807) (w : World) (hX : FieldIn w) (hL : Lib.BytesAt w A bs.length bs) (hok : ∀ x ∈ wordsL bs, okWord x = true) :
  CallsIn Fence.wide n Tryz.prog 95 #[.slice A bs.length c] w fun e W' => ∃ v, e = .returned v ∧ W'.ownsRow w.heap.size 110 4 v (rdSt (wordsL bs)).length (flat (rdSt (wordsL bs))) ∧ Below w.heap.size w W' := by
 have h1 : 1 ≤ n := by omega
 obtain ⟨i0, hi, hz0, hz1, hz2⟩ := info_parts gInfo110
 refine callsIn_of_wp_marks Tryz.func95 rfl trivial ?_ rfl
 simp only [Tryz.ntmps95, List.size_toArray, List.length_cons, List.length_nil, Nat.reduceAdd, Nat.reduceSub, Array.replicate_succ, Array.replicate_zero, List.push_toArray, List.append_toArray, List.nil_append, List.cons_append]
 have HX := Aside0.mk hX
 have HL := Aside0.mk hL
 have HOK := Aside0.mk hok
 clear hX hL hok
 gi_wp2
 refine wpIn_wide.2 (wp_scope_straight ((wpIn_wide (n := n)).1 ?_))
 gi_wp2
 refine wpIn_label ?_
 gi_wp2_with (refine ⟨trivial, ?_⟩; gi_at_call 113; refine (words_in (n - 1) A bs.length c _).mono ?_; rintro e w' ⟨rfl, rfl⟩)
 obtain ⟨W0, hW0⟩ : ∃ W0, ((w.alloc (Obj.cells #[Value.slice none 0 0] 130)).alloc (Obj.cells #[Value.slice A bs.length c] 25)) = W0 := ⟨_, rfl⟩
 have hB0 : Below w.heap.size w W0 := by rw [← hW0]; exact ((Below.refl _ w).alloc (Nat.le_refl _) _).alloc (by simp) _
 have hsz : W0.heap.size = w.heap.size + 2 := by rw [← hW0]; simp
 have bL : Boxed W0 w.heap.size 130 (.slice none 0 0) := by
  rw [← hW0]
  exact (Boxed.new w 130 (.slice none 0 0)).alloc _
 have bS : W0.heap[w.heap.size + 1]? = some (.cells #[.slice A bs.length c] 25 (0, 0)) := by
  have h := World.alloc_heap_new (w.alloc (Obj.cells #[Value.slice none 0 0] 130)) (Obj.cells #[Value.slice A bs.length c] 25)
  rw [World.size_alloc] at h
  rw [← hW0]
  exact h
 rw [hW0]
 clear hW0
 have hS := Aside0.mk (words_stops (fun x => okWord x = true) (n - 1) (by omega) (w.heap.size + 1) w W0 A c bs hcc hbig HX.out HL.out HOK.out hB0 (by omega) bS)
 refine wpIn_rangeFunc_ownG rfl h1 (gf := 135) (lb := #[.pointer (some ⟨w.heap.size + 1, 0, none⟩)]) rfl trivial (enters_of Tryz.func135 (by kernel_rfl) rfl)
  hS.out belowK_t (belowK_b (by omega)) (Below.refl _ _) (fun _ => rfl)
  (fun pre W => (∃ v, Boxed W w.heap.size 130 v ∧ W.ownsRow W0.heap.size 110 4 v (rdA pre).length (flat (rdA pre)) ∧ True) ∧ Below w.heap.size w W ∧ W0.heap.size ≤ W.heap.size)
  (fun co pre W => (∃ v, Boxed W w.heap.size 130 v ∧ W.ownsRow W0.heap.size 110 4 v (rdA pre).length (flat (rdA pre)) ∧ (co = .exit 0 ∧ (rdA pre).length = 16)) ∧ Below w.heap.size w W ∧ W0.heap.size ≤ W.heap.size)
  (OwnFrom.and (Own.from (holdsRow_own W0.heap.size w.heap.size 130 110 4 (fun pre => (rdA pre).length) (fun pre => flat (rdA pre)) (fun _ _ => True)) _) (OwnFrom.and (ownFrom_below (Nat.le_refl _) (by omega)) (fun _ _ _ _ hs hg _ => Nat.le_trans hs hg.size)))
  (fun co => OwnFrom.and (Own.from (holdsRow_own W0.heap.size w.heap.size 130 110 4 (fun pre => (rdA pre).length) (fun pre => flat (rdA pre)) (fun pre _ => co = .exit 0 ∧ (rdA pre).length = 16)) _) (OwnFrom.and (ownFrom_below (Nat.le_refl _) (by omega)) (fun _ _ _ _ hs hg _ => Nat.le_trans hs hg.size)))
  ⟨⟨_, bL, World.ownsRow_nil _ _ _ _, trivial⟩, hB0, Nat.le_refl _⟩
  (fun x => { tmps := #[.slice A bs.length c, undef, .slice none 0 0, .pointer (some ⟨w.heap.size, 0, none⟩), .string x.val, undef, undef, .slice A bs.length c, .func (.func 135) #[] #[.pointer (some ⟨w.heap.size + 1, 0, none⟩)], .string x.val, undef, undef, undef, undef, undef, undef, undef, undef, undef, undef, undef, undef, undef, undef, undef, undef, undef, undef, undef, undef, undef, undef], defers := [] }) ?assign ?body ?done ?stop
 case assign =>
  intro l x W K hK
  gi_wp2
  exact hK
 case body =>
  rintro l pre ⟨x, hx⟩ W ⟨⟨v, hv, hrow, _⟩, hB, hsz2⟩ hlt
  have hs := rdA_snoc pre ⟨x, hx⟩
  have hle := rdA_le pre
  generalize rdA pre = st at hrow hs hle
  obtain ⟨A', c', rfl⟩ := own_slice hrow
  have hone : ∃ a b d e ok, field_one.f (x.size + 8) x = some (a, b, d, e, ok) := by
   unfold okWord at hx
   cases h : field_one.f (x.size + 8) x with
   | none => rw [h] at hx; cases hx
   | some r => obtain ⟨a, b, d, e, ok⟩ := r; exact ⟨a, b, d, e, ok, rfl⟩
  obtain ⟨a, b, d, e, ok, hone⟩ := hone
  have hT : oneT x = (⟨a, b, d, e⟩, ok) := by unfold oneT; rw [hone]
  unfold rdStep at hs
  rw [hT] at hs
  dsimp only at hs
  have HS := Aside0.mk hs
  have hC := Aside0.mk (field_one.calls (x.size + 8) x a b d e ok W hone (HX.out.below hB))
  have HOW := Aside0.mk hrow
  have HV := Aside0.mk hv
  have HB := Aside0.mk hB
  clear hone hT hrow hB hlt hs hv
  have h11 : 1 ≤ n - 1 - 1 := by omega
  by_cases h16 : st.length = 16
  ·have hz : ((st.length : Int) == 16) = true := by rw [h16]; rfl
   have HS2 := Aside0.mk (HS.out.trans (if_pos h16))
   have H16 := Aside0.mk h16
   clear h16 HS
   gi_wp2_with (refine ⟨trivial, ?_⟩; gi_at_call 114; refine (CallsIn.inRound l (callsIn_wide.2 hC.out)).mono ?_; rintro e' w1 ⟨rfl, hb1⟩; have hv1 := (boxed_below HV.out hb1).alloc (Obj.cells #[.string a, .int .i64 b, .int .i64 d, .string e] 110); have hc1 := hv1.cell; have hf1 := hv1.frozen; have HV1 := Aside0.mk hv1; have HOW1 := Aside0.mk ((own_below HOW.out hb1).alloc (Obj.cells #[.string a, .int .i64 b, .int .i64 d, .string e] 110)); have hg1 := Aside0.mk (World.alloc_heap_new w1 (Obj.cells #[.string a, .int .i64 b, .int .i64 d, .string e] 110)); have HB1 := Aside0.mk (hb1.alloc hb1.size (Obj.cells #[.string a, .int .i64 b, .int .i64 d, .string e] 110)); clear hb1 hv1)
   exact ⟨(keeps_below HB1.out).from _, ⟨_, HV1.out, by rw [HS2.out]; exact HOW1.out, rfl, by rw [HS2.out]; exact H16.out⟩, HB.out.trans (HB1.out.mono (by omega)), Nat.le_trans hsz2 HB1.out.size⟩
  ·have hz : ((st.length : Int) == 16) = false := beq_eq_false_iff_ne.2 (by omega)
   have HS2 := Aside0.mk (HS.out.trans (if_neg h16))
   clear h16 HS
   cases ok with
   | false =>
    have HS3 := Aside0.mk (HS2.out.trans (if_pos (Or.inl rfl)))
    clear HS2
    gi_wp2_with (refine ⟨trivial, ?_⟩; gi_at_call 114; refine (CallsIn.inRound l (callsIn_wide.2 hC.out)).mono ?_; rintro e' w1 ⟨rfl, hb1⟩; have hv1 := (boxed_below HV.out hb1).alloc (Obj.cells #[.string a, .int .i64 b, .int .i64 d, .string e] 110); have hc1 := hv1.cell; have hf1 := hv1.frozen; have HV1 := Aside0.mk hv1; have HOW1 := Aside0.mk ((own_below HOW.out hb1).alloc (Obj.cells #[.string a, .int .i64 b, .int .i64 d, .string e] 110)); have hg1 := Aside0.mk (World.alloc_heap_new w1 (Obj.cells #[.string a, .int .i64 b, .int .i64 d, .string e] 110)); have HB1 := Aside0.mk (hb1.alloc hb1.size (Obj.cells #[.string a, .int .i64 b, .int .i64 d, .string e] 110)); clear hb1 hv1)
    refine ⟨trivial, ?_⟩
    gi_wp2
    exact ⟨(keeps_below HB1.out).from _, HB1.out.mono (by omega), ⟨_, HV1.out, by rw [HS3.out]; exact HOW1.out, trivial⟩, HB.out.trans (HB1.out.mono (by omega)), Nat.le_trans hsz2 HB1.out.size⟩
   | true =>
    cases hany : st.any (fun z => decide (z.f0 = a)) with
    | true =>
     have HS3 := Aside0.mk (HS2.out.trans (if_pos (Or.inr hany)))
     clear HS2
     gi_wp2_with (first
      | (refine ⟨trivial, ?_⟩; gi_at_call 114; refine (CallsIn.inRound l (callsIn_wide.2 hC.out)).mono ?_; rintro e' w1 ⟨rfl, hb1⟩; have hv1 := (boxed_below HV.out hb1).alloc (Obj.cells #[.string a, .int .i64 b, .int .i64 d, .string e] 110); have hc1 := hv1.cell; have hf1 := hv1.frozen; have HV1 := Aside0.mk hv1; have HOW1 := Aside0.mk ((own_below HOW.out hb1).alloc (Obj.cells #[.string a, .int .i64 b, .int .i64 d, .string e] 110)); have hg1 := Aside0.mk (World.alloc_heap_new w1 (Obj.cells #[.string a, .int .i64 b, .int .i64 d, .string e] 110)); have HB1 := Aside0.mk (hb1.alloc hb1.size (Obj.cells #[.string a, .int .i64 b, .int .i64 d, .string e] 110)); clear hb1 hv1)
      | (refine ⟨trivial, ?_⟩; gi_at_call 115; refine (CallsIn.inRound l (callsIn_wide.2 (contains_calls W0.heap.size _ st w1.heap.size ⟨a, b, d, e⟩ _ hle HOW1.out hg1.out))).mono ?_; rintro e' w3 ⟨rfl, hb3⟩; rw [hany]; have hv3 := boxed_below HV1.out hb3; have hc3 := hv3.cell; have hf3 := hv3.frozen; have HV3 := Aside0.mk hv3; have HOW3 := Aside0.mk (own_below HOW1.out hb3); have hg3 := Aside0.mk ((hb3.block w1.heap.size (by simp)).trans hg1.out); have HB3 := Aside0.mk (HB1.out.trans (hb3.mono HB1.out.size)); have hd0 := (blk_cell hg3.out 0).trans rfl; have hd1 := (blk_cell hg3.out 1).trans rfl; have hd2 := (blk_cell hg3.out 2).trans rfl; have hd3 := (blk_cell hg3.out 3).trans rfl; clear hb3 hv3))
     exact ⟨(keeps_below HB3.out).from _, HB3.out.mono (by omega), ⟨_, HV3.out, by rw [HS3.out]; exact HOW3.out, trivial⟩, HB.out.trans (HB3.out.mono (by omega)), Nat.le_trans hsz2 HB3.out.size⟩
    | false =>
     have HS3 := Aside0.mk (HS2.out.trans (if_neg (by rw [hany]; simp)))
     clear HS2
     gi_wp2_with (first
      | (refine ⟨trivial, ?_⟩; gi_at_call 114; refine (CallsIn.inRound l (callsIn_wide.2 hC.out)).mono ?_; rintro e' w1 ⟨rfl, hb1⟩; have hv1 := (boxed_below HV.out hb1).alloc (Obj.cells #[.string a, .int .i64 b, .int .i64 d, .string e] 110); have hc1 := hv1.cell; have hf1 := hv1.frozen; have HV1 := Aside0.mk hv1; have HOW1 := Aside0.mk ((own_below HOW.out hb1).alloc (Obj.cells #[.string a, .int .i64 b, .int .i64 d, .string e] 110)); have hg1 := Aside0.mk (World.alloc_heap_new w1 (Obj.cells #[.string a, .int .i64 b, .int .i64 d, .string e] 110)); have HB1 := Aside0.mk (hb1.alloc hb1.size (Obj.cells #[.string a, .int .i64 b, .int .i64 d, .string e] 110)); clear hb1 hv1)
      | (refine ⟨trivial, ?_⟩; gi_at_call 115; refine (CallsIn.inRound l (callsIn_wide.2 (contains_calls W0.heap.size _ st w1.heap.size ⟨a, b, d, e⟩ _ hle HOW1.out hg1.out))).mono ?_; rintro e' w3 ⟨rfl, hb3⟩; rw [hany]; have hv3 := boxed_below HV1.out hb3; have hc3 := hv3.cell; have hf3 := hv3.frozen; have HV3 := Aside0.mk hv3; have HOW3 := Aside0.mk (own_below HOW1.out hb3); have hg3 := Aside0.mk ((hb3.block w1.heap.size (by simp)).trans hg1.out); have HB3 := Aside0.mk (HB1.out.trans (hb3.mono HB1.out.size)); have hd0 := (blk_cell hg3.out 0).trans rfl; have hd1 := (blk_cell hg3.out 1).trans rfl; have hd2 := (blk_cell hg3.out 2).trans rfl; have hd3 := (blk_cell hg3.out 3).trans rfl; clear hb3 hv3; have hsz3 : W0.heap.size ≤ w3.heap.size := Nat.le_trans hsz2 HB3.out.size)
      | (gi_at_builtin; refine wpListIn_append_own _ rfl _ _ 130 rfl W0.heap.size 110 i0 (.agg (cells110 z110).toArray) 4 48 Tryz.underlying130 hi hz0 hz1 hz2 rfl (by decide) _ _ _ rfl (HOW3.out.alloc _) ⟨w3.heap.size, 0, none⟩ 1 1 (cells110 ⟨a, b, d, e⟩) rfl rfl (cells_new _ _ _) (by simp [Value.oneCell', cells110]) (by unfold maxLen; omega) (by omega) (by simp; omega) ?_; intro v' w4 hown' hgrow _; obtain ⟨g', cap', rfl⟩ := ownsRow_succ hown'; obtain ⟨hv4, hv5, hr5, hk5, hb5⟩ := appended2 (n₀ := w.heap.size) HV3.out (by decide) HOW3.out (by omega) hsz3 (Nat.le_refl _) hown' hgrow; have hc4 := hv4.cell; have hf4 := hv4.frozen; have HV5 := Aside0.mk hv5; have HR5 := Aside0.mk hr5; have HK5 := Aside0.mk hk5; have HB5 := Aside0.mk hb5; clear hv4 hv5 hr5 hk5 hb5 hown' hgrow))
     have hB5 : Below w.heap.size W _ := (HB3.out.mono (by omega)).trans HB5.out
     exact ⟨((keeps_below HB3.out).trans HK5.out).from _, hB5, ⟨_, HV5.out, by rw [HS3.out, flat_snoc, List.length_append]; exact HR5.out, trivial⟩, HB.out.trans hB5, Nat.le_trans hsz2 hB5.size⟩
 case done =>
  rintro D ys W hD hys ⟨⟨v, hv, hrow, _⟩, hB, hsz2⟩ hK
  have hc := hv.cell
  unfold rdA at hrow
  rw [hys] at hrow
  clear hys
  gi_wp2
  refine ⟨by simp, .inl ⟨_, _, rfl, run_takeDeferred hK, ?_⟩⟩
  exact ⟨_, results_tmp rfl _ _ _, v, rfl, own_weaken (ownsRow_putObj hrow _ hK rfl) (by omega), hB.trans (belowK_b (w := w) (Nat.le_refl _) W D _ _ (by omega) hK rfl rfl)⟩
 case stop =>
  rintro D co pre W hD hpre ⟨⟨v, hv, hrow, rfl, h16⟩, hB, hsz2⟩ hK
  have hc := hv.cell
  unfold rdA at hrow h16
  rw [← rdSt_full hpre h16] at hrow
  clear hpre h16
  gi_wp2
  refine ⟨by simp, .inl ⟨_, _, rfl, run_takeDeferred hK, ?_⟩⟩
  exact ⟨_, results_tmp rfl _ _ _, v, rfl, own_weaken (ownsRow_putObj hrow _ hK rfl) (by omega), hB.trans (belowK_b (w := w) (Nat.le_refl _) W D _ _ (by omega) hK rfl rfl)⟩
def byteB (x : Int) : Bool := decide (0 ≤ x) && decide (x < 256)
theorem bytesAt_of {w : World} {A : Option Addr} {l : List Int} (h : Kd.C (Kd.int .u8) w A l.length l) (hb : l.all byteB = true) : Lib.BytesAt w A l.length (Lib.bytesOf l) := fun hn => by
 obtain ⟨ad, rfl, hc0⟩ := Kd.at_int h 0 (by omega) (by omega)
 obtain ⟨_, _, _, _, hsp⟩ := World.shape?_of_cell? hc0
 have hs : ad.spot = none := by
  cases ad with
  | mk b o sp => simpa [Addr.add] using hsp
 obtain ⟨b, o, sp⟩ := ad
 cases hs
 refine ⟨b, o, rfl, fun i hi => ?_⟩
 obtain ⟨ad, e, hc⟩ := Kd.at_int h (i : Int) (by omega) (by omega)
 cases e
 rw [Int.toNat_natCast, WideShapes.add_plain] at hc
 rw [hc]
 have hl : i < l.length := hi
 have hx : l[i] ∈ l := List.getElem_mem hl
 have hr := List.all_eq_true.1 hb _ hx
 simp only [byteB, Bool.and_eq_true, decide_eq_true_eq] at hr
 have e1 : rd l (i : Int) = l[i] := by simp [rd, List.getD, List.getElem?_eq_getElem hl]
 have e2 : (Lib.bytesOf l).getD i 0 = UInt8.ofNat (l[i]).toNat := by simp [Lib.bytesOf, List.getD, List.getElem?_eq_getElem hl]
 rw [e1, e2]
 congr 2
 simp only [UInt8.toNat_ofNat']
 omega
def field_Read.f (l0 : List Int) : Option (List S110) :=
 if l0.all byteB = true ∧ (wordsL (Lib.bytesOf l0)).all okWord = true then some (rdSt (wordsL (Lib.bytesOf l0))) else none
theorem field_Read.calls (A0 : Option Addr) (c0 : Nat) (l0 : List Int) (r : List S110) (w : World) (hr0 : Kd.C (Kd.int .u8) w A0 l0.length l0) (hc0 : l0.length ≤ c0) (h : field_Read.f l0 = some r) (hx : FieldIn w := by exact FieldIn.go (by assumption) (by assumption)) :
  Calls Tryz.prog 95 #[.slice A0 l0.length c0] w fun e w' => ∃ v0_ : Value, e = .returned (v0_) ∧ Kd.R k110 110 w' w.heap.size (fun _ => True) v0_ r ∧ Below w.heap.size w w' := by
 unfold field_Read.f at h
 split at h
 case isFalse => cases h
 case isTrue hok =>
  obtain ⟨h1, h2⟩ := hok
  obtain rfl := Option.some.inj h
  have hlen : (Lib.bytesOf l0).length = l0.length := by simp [Lib.bytesOf]
  have hL := bytesAt_of hr0 h1
  have hm : l0.length ≤ 9223372036854775807 := hr0.2.1
  rw [← hlen] at hL hc0 hm ⊢
  refine ((callsIn_wide (n := 3)).1 (read_in 3 (by omega) A0 c0 (Lib.bytesOf l0) hc0 hm w hx hL (fun x hxm => List.all_eq_true.1 h2 x hxm))).mono ?_
  rintro e w' ⟨v, rfl, ho, hb⟩
  exact ⟨v, rfl, R_flat ho, hb⟩
end Go.Proofs.YtehaodbheifokaaGreatDoor.P
end
section
namespace Go.Proofs.YtehaodbheifokaaGreatDoor.P
open Go.RowKit Go.Proofs.YtehaodbheifokaaGreatDoorW.PrintWords Go.Proofs.YtehaodbheifokaaGreatDoorW.PrintLast Go.Proofs.YtehaodbheifokaaGreatDoorW.PrintMore
attribute [local go_sem] max2_int min2_int max_two min_two max_three min_three max_four min_four  
def field_Get.l0 : Nat → ByteArray → List (S110) → Int → Int → Option (ByteArray × Int × Int × ByteArray × Bool)
 | 0, _, _, _, _ => none
 | k + 1, x1, x9, x10, x11 => if x11 < x10 then (if 0 ≤ x11 then (if x11 < (x9.length : Int) then (if ((rd_T110 x9 x11).f0).toList = x1.toList then (some ((rd_T110 x9 x11).f0, (rd_T110 x9 x11).f1, (rd_T110 x9 x11).f2, (rd_T110 x9 x11).f3, true)) else (field_Get.l0 k x1 x9 x10 (wrap64 (x11 + 1)))) else (none)) else (none)) else (some ((⟨#[]⟩ : ByteArray), 0, 0, (⟨#[]⟩ : ByteArray), false))
def field_Get.f (k : Nat) (l0 : List Int) (a1 : ByteArray) : Option (ByteArray × Int × Int × ByteArray × Bool) := (field_Read.f l0).bind fun t135 => (field_Get.l0 k a1 t135 (t135.length : Int) 0)
theorem field_Get.calls (k : Nat) (A0 : Option Addr) (c0 : Nat) (l0 : List Int) (a1 : ByteArray) (r1 : ByteArray) (r2 : Int) (r3 : Int) (r4 : ByteArray) (r5 : Bool) (w : World) (hr0 : Kd.C (Kd.int .u8) w A0 l0.length l0) (hc0 : l0.length ≤ c0) (h : field_Get.f k l0 a1 = some (r1, r2, r3, r4, r5)) (hx : FieldIn w := by exact FieldIn.go (by assumption) (by assumption)) :
  Calls Tryz.prog 72 #[.slice A0 l0.length c0, .string a1] w fun e w' => e = .returned (.tuple #[.agg #[.string r1, .int .i64 r2, .int .i64 r3, .string r4], .bool r5]) ∧ Below w.heap.size w w' := by
 have HX := Aside0.mk hx
 clear hx
 have hu110 := Tryz.underlying110
 have HR0 := Aside0.mk hr0
 have HC0 := Aside0.mk hc0
 clear hr0 hc0
 have HB := Aside0.mk (Below.refl w.heap.size w)
 have H : ((field_Read.f l0).bind fun t135 => (field_Get.l0 k a1 t135 (t135.length : Int) 0)) = some (r1, r2, r3, r4, r5) := h
 clear h
 replace H := Option.bind_eq_some_iff.mp H
 obtain ⟨t135, A30, H⟩ := H
 replace H : (field_Get.l0 k a1 t135 (t135.length : Int) 0) = some (r1, r2, r3, r4, r5) := H
 have A3 := Aside0.mk A30
 clear A30
 have H' := Aside0.mk H
 clear H
 go_enter Tryz.func72, Tryz.ntmps72
 go_wp2_with (first | ((with_reducible refine gate_dst (N := 4) rfl ?_); refine box_event ?hg (N := 4) ?hd (cs := #[.string (⟨#[]⟩ : ByteArray), .int .i64 0, .int .i64 0, .string (⟨#[]⟩ : ByteArray)]) (t := 110) ?hr ?_; (case hd => rfl); (case hg => rfl); (case hr => first | (go_simp; done) | (go_simp; rfl) | (go_simp; simp only [wAl, wAr, wSl, wSr, wW])); intro gb134 hg w4 hbox hb; have n0_ := bsA HB hb; have n1_ := Aside0.mk (hbox); have n2_ := szA HB hg; have n3_ := szA HB hg; clear HB; have HB := n0_; have BK134 := n1_; have GW134 := n2_; have GE134 := n3_; clear n0_ n1_ n2_ n3_; clear hb hbox hg) | ((with_reducible refine gate_callee (f := 95) rfl ?_); refine goesL_ (some 9) rfl rfl Tryz.func95 (by kernel_rfl) rfl #[.slice A0 l0.length c0] rfl mp_ ?_; (with_reducible refine (field_Read.calls _ _ l0 t135 _ ?side1 ?side2 A3.out).mono ?_); (case side1 => repeat (first | exact (Kd.C_below HR0.out HB.out) | (with_reducible refine Kd.C_alloc ?_ _) | (with_reducible refine Kd.C_drewN ?_ _) | (with_reducible refine Kd.C_drew ?_))); (case side2 => exact HC0.out); rintro e w5 ⟨v136, rfl, ho0, hb⟩; refine ⟨_, rfl, ?_⟩; have n0_ := Aside0.mk (Kd.R_lower (Kd.R_newB ho0 (g := gb134) (o := .cells #[.string (⟨#[]⟩ : ByteArray), .int .i64 0, .int .i64 0, .string (⟨#[]⟩ : ByteArray)] 110 (0, 0)) (bU_ BK134.out)) (below_size (by repeat (first | (with_reducible first | exact HB.out | apply below_alloc | apply pw_below_drewN | apply below_drew1 | refine below_set ?_ GE134.out) | exact HB.out)))); have n1_ := bkA BK134 hb; have n2_ := bsA HB hb; clear BK134; clear HB; have HO137 := n0_; have BK134 := n1_; have HB := n2_; clear n0_ n1_ n2_; (try clear hb); (try clear hb2); (try clear hk); (try clear hi); (try clear ho0); obtain ⟨Ao6, co6, eo6⟩ := Kd.R_slice HO137.out; subst eo6))
 go_loopg [11] k (fun kq v11 w' => ∃ (x11_1 : Int) (x135000_1 : ByteArray) (x135001_1 : Int) (x135002_1 : Int) (x135003_1 : ByteArray), v11 = .int .i64 x11_1 ∧ Aside0 (field_Get.l0 kq a1 t135 (t135.length : Int) x11_1 = some (r1, r2, r3, r4, r5)) ∧ Aside0 (kq ≤ k) ∧ Aside0 (Kd.R k110 110 w' w.heap.size (fun k_ => k_ ≠ gb134) (.slice Ao6 t135.length co6) t135) ∧ Aside0 (w'.heap[gb134]? = some (.cells #[.string x135000_1, .int .i64 x135001_1, .int .i64 x135002_1, .string x135003_1] 110 (0, 0))) ∧ Aside0 (Below w.heap.size w w'))
 case atStart => exact ⟨(0), ((⟨#[]⟩ : ByteArray)), (0), (0), ((⟨#[]⟩ : ByteArray)), rs_, H', ⟨Nat.le_refl _⟩, ⟨by (with_reducible repeat (first | apply Kd.R_alloc | apply Kd.R_drewN | apply Kd.R_drew)); exact Kd.R_mono HO137.out (fun _ hk => hk.2)⟩, ⟨bU_ BK134.out⟩, ⟨by repeat (first | (with_reducible first | exact HB.out | apply below_alloc | apply pw_below_drewN | apply below_drew1 | refine below_set ?_ GE134.out) | exact HB.out)⟩⟩
 case round =>
  clear H'
  try clear p2
  obtain ⟨x11_1, x135000_1, x135001_1, x135002_1, x135003_1, rfl, HA, HK1, HO_9, BK134, HB⟩ := hrel
  cases gk with
  | zero => exact absurd HA.out (by simp [field_Get.l0])
  | succ k1 =>
   have H := HA.out
   clear HA
   simp only [field_Get.l0] at H
   by_cases c7 : x11_1 < (t135.length : Int)
   ·rw [if_pos c7] at H
    have c7b0 : decide (x11_1 < (t135.length : Int)) = true := decide_eq_true c7
    clear c7
    by_cases c8 : 0 ≤ x11_1
    ·rw [if_pos c8] at H
     have c8b0 : decide (0 ≤ x11_1) = true := decide_eq_true c8
     clear c8
     by_cases c9 : x11_1 < (t135.length : Int)
     ·rw [if_pos c9] at H
      have c9b0 : decide (x11_1 < (t135.length : Int)) = true := decide_eq_true c9
      clear c9
      by_cases c10 : ((rd_T110 t135 x11_1).f0).toList = a1.toList
      ·rw [if_pos c10] at H
       have c10b0 : (((rd_T110 t135 x11_1).f0).toList == a1.toList) = true := beq_iff_eq.mpr c10
       have c10b1 : (((rd_T110 t135 x11_1).f0).toList != a1.toList) = false := bne_eq_false_iff_eq.mpr c10
       clear c10
       simp only [Option.some.injEq, Prod.mk.injEq] at H
       obtain ⟨rfl, rfl, rfl, rfl, rfl⟩ := H
       have p138 : 0 ≤ (x11_1 : Int) := of_decide_eq_true as_
       have q138 : x11_1 < (t135.length : Int) := of_decide_eq_true as_
       obtain ⟨ad138, e138, hx138_0, hx138_1, hx138_2, hx138_3⟩ := at_T110 (Kd.R_reads' HO_9.out).2.2 x11_1 p138 q138
       cases e138
       replace p138 := eq_true p138
       replace q138 := eq_true q138
       go_wp2_with (first | ((with_reducible refine gate_dst (N := 7) rfl ?_); refine box_event ?hg (N := 7) ?hd (cs := #[.string (⟨#[]⟩ : ByteArray), .int .i64 0, .int .i64 0, .string (⟨#[]⟩ : ByteArray)]) (t := 110) ?hr ?_; (case hd => rfl); (case hg => rfl); (case hr => first | (go_simp; done) | (go_simp; rfl) | (go_simp; simp only [wAl, wAr, wSl, wSr, wW])); intro gb139 hg w11 hbox hb; have n0_ := Aside0.mk (Kd.R_below (Kd.R_elderB (by (with_reducible repeat (first | apply Kd.R_alloc | apply Kd.R_drewN | apply Kd.R_drew)); exact HO_9.out) gb139 (Nat.le_of_eq hg.symm)) hb); have n1_ := bkA BK134 hb; have n2_ := bsA HB hb; have n3_ := Aside0.mk (hbox); have n4_ := szA HB hg; have n5_ := szA HB hg; have n6_ := neA BK134 hg; have n7_ := neB BK134 hg; clear HO_9; clear BK134; clear HB; have HO_9 := n0_; have BK134 := n1_; have HB := n2_; have BK139 := n3_; have GW139 := n4_; have GE139 := n5_; have NB134_139 := n6_; have NB139_134 := n7_; clear n0_ n1_ n2_ n3_ n4_ n5_ n6_ n7_; clear hb hbox hg; have hnb12 := NB139_134.out; have hnc12 := NB134_139.out; have hcz13_0 : w11.cell? ⟨gb139, 0, none⟩ = some (.string (⟨#[]⟩ : ByteArray)) := (blk_cell BK139.out 0).trans rfl; have hcz13_1 : w11.cell? ⟨gb139, 1, none⟩ = some (.int .i64 0) := (blk_cell BK139.out 1).trans rfl; have hcz13_2 : w11.cell? ⟨gb139, 2, none⟩ = some (.int .i64 0) := (blk_cell BK139.out 2).trans rfl; have hcz13_3 : w11.cell? ⟨gb139, 3, none⟩ = some (.string (⟨#[]⟩ : ByteArray)) := (blk_cell BK139.out 3).trans rfl; have hfz13_0 := blk_frozen BK139.out 0; have hfz13_1 := blk_frozen BK139.out 1; have hfz13_2 := blk_frozen BK139.out 2; have hfz13_3 := blk_frozen BK139.out 3; have hcz14_0 : w11.cell? ⟨gb134, 0, none⟩ = some (.string x135000_1) := (blk_cell BK134.out 0).trans rfl; have hcz14_1 : w11.cell? ⟨gb134, 1, none⟩ = some (.int .i64 x135001_1) := (blk_cell BK134.out 1).trans rfl; have hcz14_2 : w11.cell? ⟨gb134, 2, none⟩ = some (.int .i64 x135002_1) := (blk_cell BK134.out 2).trans rfl; have hcz14_3 : w11.cell? ⟨gb134, 3, none⟩ = some (.string x135003_1) := (blk_cell BK134.out 3).trans rfl; have hfz14_0 := blk_frozen BK134.out 0; have hfz14_1 := blk_frozen BK134.out 1; have hfz14_2 := blk_frozen BK134.out 2; have hfz14_3 := blk_frozen BK134.out 3))
       refine bodyPost_ret (results_ct rfl _ _ gb134 110 #[.string ((rd_T110 t135 x11_1).f0), .int .i64 ((rd_T110 t135 x11_1).f1), .int .i64 ((rd_T110 t135 x11_1).f2), .string ((rd_T110 t135 x11_1).f3)] (0, 0) _ rfl (by (with_reducible repeat (first | refine blk_drewN ?_ _ | refine blk_drew ?_ | refine blk_alloc ?_ _)); refine blk_put (cs := #[.string ((rd_T110 t135 x11_1).f0), .int .i64 ((rd_T110 t135 x11_1).f1), .int .i64 ((rd_T110 t135 x11_1).f2), .string x135003_1]) ?_ 3 _ rfl; (with_reducible repeat (first | refine blk_drewN ?_ _ | refine blk_drew ?_ | refine blk_alloc ?_ _)); refine blk_put (cs := #[.string ((rd_T110 t135 x11_1).f0), .int .i64 ((rd_T110 t135 x11_1).f1), .int .i64 x135002_1, .string x135003_1]) ?_ 2 _ rfl; (with_reducible repeat (first | refine blk_drewN ?_ _ | refine blk_drew ?_ | refine blk_alloc ?_ _)); refine blk_put (cs := #[.string ((rd_T110 t135 x11_1).f0), .int .i64 x135001_1, .int .i64 x135002_1, .string x135003_1]) ?_ 1 _ rfl; (with_reducible repeat (first | refine blk_drewN ?_ _ | refine blk_drew ?_ | refine blk_alloc ?_ _)); refine blk_put (cs := #[.string x135000_1, .int .i64 x135001_1, .int .i64 x135002_1, .string x135003_1]) ?_ 0 _ rfl; (with_reducible repeat (first | refine blk_drewN ?_ _ | refine blk_drew ?_ | refine blk_alloc ?_ _)); refine blk_far ?_ NB134_139.out _; (with_reducible repeat (first | refine blk_drewN ?_ _ | refine blk_drew ?_ | refine blk_alloc ?_ _)); refine blk_far ?_ NB134_139.out _; (with_reducible repeat (first | refine blk_drewN ?_ _ | refine blk_drew ?_ | refine blk_alloc ?_ _)); refine blk_far ?_ NB134_139.out _; (with_reducible repeat (first | refine blk_drewN ?_ _ | refine blk_drew ?_ | refine blk_alloc ?_ _)); refine blk_far ?_ NB134_139.out _; (with_reducible repeat (first | refine blk_drewN ?_ _ | refine blk_drew ?_ | refine blk_alloc ?_ _)); exact BK134.out) Tryz.underlying110 rfl (by kernel_rfl)) rfl ?_
       exact ⟨by first | rfl | (simp [errW_none, errW_some] <;> rfl) | (simp [*, errW_none, errW_some] <;> rfl), by repeat (first | (with_reducible first | exact HB.out | apply below_alloc | apply pw_below_drewN | apply below_drew1 | refine below_set ?_ GE134.out | refine below_set ?_ GE139.out) | exact HB.out)⟩
      ·rw [if_neg c10] at H
       have c10b0 : (((rd_T110 t135 x11_1).f0).toList == a1.toList) = false := beq_eq_false_iff_ne.mpr c10
       have c10b1 : (((rd_T110 t135 x11_1).f0).toList != a1.toList) = true := bne_iff_ne.mpr c10
       have H' := Aside0.mk H
       clear H
       have p138 : 0 ≤ (x11_1 : Int) := of_decide_eq_true as_
       have q138 : x11_1 < (t135.length : Int) := of_decide_eq_true as_
       obtain ⟨ad138, e138, hx138_0, hx138_1, hx138_2, hx138_3⟩ := at_T110 (Kd.R_reads' HO_9.out).2.2 x11_1 p138 q138
       cases e138
       replace p138 := eq_true p138
       replace q138 := eq_true q138
       go_wp2_with (first | ((with_reducible refine gate_dst (N := 7) rfl ?_); refine box_event ?hg (N := 7) ?hd (cs := #[.string (⟨#[]⟩ : ByteArray), .int .i64 0, .int .i64 0, .string (⟨#[]⟩ : ByteArray)]) (t := 110) ?hr ?_; (case hd => rfl); (case hg => rfl); (case hr => first | (go_simp; done) | (go_simp; rfl) | (go_simp; simp only [wAl, wAr, wSl, wSr, wW])); intro gb139 hg w15 hbox hb; have n0_ := Aside0.mk (Kd.R_below (Kd.R_elderB (by (with_reducible repeat (first | apply Kd.R_alloc | apply Kd.R_drewN | apply Kd.R_drew)); exact HO_9.out) gb139 (Nat.le_of_eq hg.symm)) hb); have n1_ := bkA BK134 hb; have n2_ := bsA HB hb; have n3_ := Aside0.mk (hbox); have n4_ := szA HB hg; have n5_ := szA HB hg; have n6_ := neA BK134 hg; have n7_ := neB BK134 hg; clear HO_9; clear BK134; clear HB; have HO_9 := n0_; have BK134 := n1_; have HB := n2_; have BK139 := n3_; have GW139 := n4_; have GE139 := n5_; have NB134_139 := n6_; have NB139_134 := n7_; clear n0_ n1_ n2_ n3_ n4_ n5_ n6_ n7_; clear hb hbox hg; have hnb16 := NB139_134.out; have hnc16 := NB134_139.out; have hcz17_0 : w15.cell? ⟨gb139, 0, none⟩ = some (.string (⟨#[]⟩ : ByteArray)) := (blk_cell BK139.out 0).trans rfl; have hcz17_1 : w15.cell? ⟨gb139, 1, none⟩ = some (.int .i64 0) := (blk_cell BK139.out 1).trans rfl; have hcz17_2 : w15.cell? ⟨gb139, 2, none⟩ = some (.int .i64 0) := (blk_cell BK139.out 2).trans rfl; have hcz17_3 : w15.cell? ⟨gb139, 3, none⟩ = some (.string (⟨#[]⟩ : ByteArray)) := (blk_cell BK139.out 3).trans rfl; have hfz17_0 := blk_frozen BK139.out 0; have hfz17_1 := blk_frozen BK139.out 1; have hfz17_2 := blk_frozen BK139.out 2; have hfz17_3 := blk_frozen BK139.out 3))
       go_roundg k1
       case measure => have := HK1.out; omega
       case rel => exact ⟨(wrap64 (x11_1 + 1)), (x135000_1), (x135001_1), (x135002_1), (x135003_1), rs_, H', ⟨by have := HK1.out; omega⟩, ⟨by (with_reducible repeat (first | apply Kd.R_alloc | apply Kd.R_drewN | apply Kd.R_drew)); exact Kd.R_mono (Kd.R_far (p := ⟨gb139, 3, none⟩) (Kd.R_far (p := ⟨gb139, 2, none⟩) (Kd.R_far (p := ⟨gb139, 1, none⟩) (Kd.R_far (p := ⟨gb139, 0, none⟩) (Kd.R_mono HO_9.out (fun k_ hk => (⟨hk, hk.2⟩ : _ ∧ k_ ≠ gb139))) (fun _ hk => hk.2) (.string ((rd_T110 t135 x11_1).f0))) (fun _ hk => hk.2) (.int .i64 ((rd_T110 t135 x11_1).f1))) (fun _ hk => hk.2) (.int .i64 ((rd_T110 t135 x11_1).f2))) (fun _ hk => hk.2) (.string ((rd_T110 t135 x11_1).f3))) (fun _ hk => hk.1.1)⟩, ⟨by (with_reducible repeat (first | refine blk_drewN ?_ _ | refine blk_drew ?_ | refine blk_alloc ?_ _)); refine blk_far ?_ NB134_139.out _; (with_reducible repeat (first | refine blk_drewN ?_ _ | refine blk_drew ?_ | refine blk_alloc ?_ _)); refine blk_far ?_ NB134_139.out _; (with_reducible repeat (first | refine blk_drewN ?_ _ | refine blk_drew ?_ | refine blk_alloc ?_ _)); refine blk_far ?_ NB134_139.out _; (with_reducible repeat (first | refine blk_drewN ?_ _ | refine blk_drew ?_ | refine blk_alloc ?_ _)); refine blk_far ?_ NB134_139.out _; (with_reducible repeat (first | refine blk_drewN ?_ _ | refine blk_drew ?_ | refine blk_alloc ?_ _)); exact BK134.out⟩, ⟨by repeat (first | (with_reducible first | exact HB.out | apply below_alloc | apply pw_below_drewN | apply below_drew1 | refine below_set ?_ GE134.out | refine below_set ?_ GE139.out) | exact HB.out)⟩⟩
     ·rw [if_neg c9] at H
      exact absurd H (by simp)
    ·rw [if_neg c8] at H
     exact absurd H (by simp)
   ·rw [if_neg c7] at H
    have c7b0 : decide (x11_1 < (t135.length : Int)) = false := decide_eq_false c7
    clear c7
    simp only [Option.some.injEq, Prod.mk.injEq] at H
    obtain ⟨rfl, rfl, rfl, rfl, rfl⟩ := H
    have hcz18_0 : wr.cell? ⟨gb134, 0, none⟩ = some (.string x135000_1) := (blk_cell BK134.out 0).trans rfl
    have hcz18_1 : wr.cell? ⟨gb134, 1, none⟩ = some (.int .i64 x135001_1) := (blk_cell BK134.out 1).trans rfl
    have hcz18_2 : wr.cell? ⟨gb134, 2, none⟩ = some (.int .i64 x135002_1) := (blk_cell BK134.out 2).trans rfl
    have hcz18_3 : wr.cell? ⟨gb134, 3, none⟩ = some (.string x135003_1) := (blk_cell BK134.out 3).trans rfl
    have hfz18_0 := blk_frozen BK134.out 0
    have hfz18_1 := blk_frozen BK134.out 1
    have hfz18_2 := blk_frozen BK134.out 2
    have hfz18_3 := blk_frozen BK134.out 3
    go_wp2
    refine bodyPost_ret (results_ct rfl _ _ gb134 110 #[.string (⟨#[]⟩ : ByteArray), .int .i64 0, .int .i64 0, .string (⟨#[]⟩ : ByteArray)] (0, 0) _ rfl (by (with_reducible repeat (first | refine blk_drewN ?_ _ | refine blk_drew ?_ | refine blk_alloc ?_ _)); refine blk_put (cs := #[.string (⟨#[]⟩ : ByteArray), .int .i64 0, .int .i64 0, .string x135003_1]) ?_ 3 _ rfl; (with_reducible repeat (first | refine blk_drewN ?_ _ | refine blk_drew ?_ | refine blk_alloc ?_ _)); refine blk_put (cs := #[.string (⟨#[]⟩ : ByteArray), .int .i64 0, .int .i64 x135002_1, .string x135003_1]) ?_ 2 _ rfl; (with_reducible repeat (first | refine blk_drewN ?_ _ | refine blk_drew ?_ | refine blk_alloc ?_ _)); refine blk_put (cs := #[.string (⟨#[]⟩ : ByteArray), .int .i64 x135001_1, .int .i64 x135002_1, .string x135003_1]) ?_ 1 _ rfl; (with_reducible repeat (first | refine blk_drewN ?_ _ | refine blk_drew ?_ | refine blk_alloc ?_ _)); refine blk_put (cs := #[.string x135000_1, .int .i64 x135001_1, .int .i64 x135002_1, .string x135003_1]) ?_ 0 _ rfl; (with_reducible repeat (first | refine blk_drewN ?_ _ | refine blk_drew ?_ | refine blk_alloc ?_ _)); exact BK134.out) Tryz.underlying110 rfl (by kernel_rfl)) rfl ?_
    exact ⟨by first | rfl | (simp [errW_none, errW_some] <;> rfl) | (simp [*, errW_none, errW_some] <;> rfl), by repeat (first | (with_reducible first | exact HB.out | apply below_alloc | apply pw_below_drewN | apply below_drew1 | refine below_set ?_ GE134.out) | exact HB.out)⟩
end Go.Proofs.YtehaodbheifokaaGreatDoor.P
end
