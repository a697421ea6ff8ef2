/- Texts of this claim joined by a program of this session (wip/tools/pack.py), without what is not used: P6, P7, PureReadRef, PureText. Words and contracts that the kit's printer wrote for this seat stand among them. -/
import Derived.Test.YtehaodbheifokaaGreatDoorMh6
set_option maxHeartbeats 8000000
set_option maxRecDepth 100000
set_option linter.unusedVariables false
set_option linter.unusedSimpArgs false
section
namespace Go.Proofs.YtehaodbheifokaaGreatDoor.P
open Go.RowKit Go.Proofs.YtehaodbheifokaaGreatDoorW.PrintWords Go.Proofs.YtehaodbheifokaaGreatDoorW.PrintLast Go.Proofs.YtehaodbheifokaaGreatDoorW.PrintMore
attribute [local go_sem] max2_int min2_int max_two min_two max_three min_three max_four min_four   -- for this text's walks alone
def dragnetref08_One.l0 : Nat → ByteArray → Int → Option (ByteArray × Int × Int × ByteArray × Bool)
 | 0, _, _ => none
 | k + 1, x0, x4 => if x4 < (x0.size : Int) then (if 0 ≤ x4 then (if (bt x0 x4) = 61 then (if x4 ≤ (x0.size : Int) then (if 0 ≤ (wrap64 (x4 + 1)) then (if (wrap64 (x4 + 1)) ≤ (x0.size : Int) then ((dragnetref08_Number.f k (x0.extract ((wrap64 (x4 + 1)) : Int).toNat x0.size)).bind fun bt193 => (if bt193.2 = true then ((dragnetref08_IsKey.f k (x0.extract 0 (x4 : Int).toNat)).bind fun t195 => (if t195 = true then (some (x0.extract 0 (x4 : Int).toNat, 1, bt193.1, (⟨#[]⟩ : ByteArray), decide (0 ≤ 64))) else (some (x0.extract 0 (x4 : Int).toNat, 1, bt193.1, (⟨#[]⟩ : ByteArray), false)))) else ((dragnetref08_IsKey.f k (x0.extract 0 (x4 : Int).toNat)).bind fun t196 => (if t196 = true then (some (x0.extract 0 (x4 : Int).toNat, 2, 0, x0.extract ((wrap64 (x4 + 1)) : Int).toNat x0.size, decide (((x0.extract ((wrap64 (x4 + 1)) : Int).toNat x0.size).size : Int) ≤ 64))) else (some (x0.extract 0 (x4 : Int).toNat, 2, 0, x0.extract ((wrap64 (x4 + 1)) : Int).toNat x0.size, false)))))) else (none)) else (none)) else (none)) else (dragnetref08_One.l0 k x0 (wrap64 (x4 + 1)))) else (none)) else (some ((⟨#[]⟩ : ByteArray), 0, 0, (⟨#[]⟩ : ByteArray), false))
def dragnetref08_One.f (k : Nat) (a0 : ByteArray) : Option (ByteArray × Int × Int × ByteArray × Bool) := dragnetref08_One.l0 k a0 0
def dragnetref08_One.T5 : Bool × List (List Nat × List Nat) := (true, [([], []), ([], []), ([0, 1], [0, 1]), ([], []), ([], []), ([4], [4]), ([3, 5], [3, 5]), ([2, 6], [2, 6]), ([], []), ([8, 7, 0, 1, 2, 3, 4, 5, 6, 7, 8], [7, 8])])
def dragnetref08_One.B5 : List Nat := [0, 0, 3, 0, 0, 16, 56, 127, 0, 511]
theorem dragnetref08_One.tab5 : rtab .any (opsOf Tryz.f111 5) = dragnetref08_One.T5 := by kernel_rfl
theorem dragnetref08_One.bits5 : waitsOk dragnetref08_One.T5.2 dragnetref08_One.B5 = true := by kernel_rfl
def dragnetref08_One.T9 : Bool × List (List Nat × List Nat) := (true, [([], []), ([], []), ([1], [1]), ([2], [2]), ([3, 3], [3]), ([4], [4]), ([5, 4], [4, 5]), ([6, 4], [4, 6]), ([7, 4], [4, 7]), ([4, 8], [4, 8]), ([0, 4, 0], [0]), ([9, 10, 0, 1, 2, 3, 4, 5, 6, 7, 8, 9, 10], [9])])
def dragnetref08_One.B9 : List Nat := [0, 0, 2, 6, 14, 30, 62, 126, 254, 510, 31, 2047]
theorem dragnetref08_One.tab9 : rtab .any (opsOf Tryz.f111 9) = dragnetref08_One.T9 := by kernel_rfl
theorem dragnetref08_One.bits9 : waitsOk dragnetref08_One.T9.2 dragnetref08_One.B9 = true := by kernel_rfl
theorem dragnetref08_One.calls (k : Nat) (a0 : ByteArray) (r1 : ByteArray) (r2 : Int) (r3 : Int) (r4 : ByteArray) (r5 : Bool) (w : World) (h : dragnetref08_One.f k a0 = some (r1, r2, r3, r4, r5)) :
  Calls Tryz.prog 111 #[.string a0] w fun e w' => e = .returned (.tuple #[.agg #[.string r1, .int .i64 r2, .int .i64 r3, .string r4], .bool r5]) ∧ Below w.heap.size w w' := by
 have hu110 := Tryz.underlying110
 have HB := Aside0.mk (Below.refl w.heap.size w)
 have H : (dragnetref08_One.l0 k a0 0) = some (r1, r2, r3, r4, r5) := h
 clear h
 have H' := Aside0.mk H
 clear H
 go_enter Tryz.func111, Tryz.ntmps111
 go_wp2_with (first | ((with_reducible refine gate_dst (N := 2) rfl ?_); (try (refine gate_guard (by rfl) ?_; dsimp only)); refine box_event ?hg (N := 2) ?hd (cs := #[.string (⟨#[]⟩ : ByteArray), .int .i64 0, .int .i64 0, .string (⟨#[]⟩ : ByteArray)]) (t := 110) ?hr ?_; (case hd => rfl); (case hg => rfl); (case hr => first | (go_simp; done) | (go_simp; rfl) | (go_simp; simp only [wAl, wAr, wSl, wSr, wW])); intro gb191 hg w2 hbox hb; have n0_ := bsA HB hb; have n1_ := Aside0.mk (hbox); have n2_ := szA HB hg; have n3_ := szA HB hg; clear HB; have HB := n0_; have BK191 := n1_; have GW191 := n2_; have GE191 := n3_; clear n0_ n1_ n2_ n3_; clear hb hbox hg))
 go_loopg [4] k (fun kq v4 w' => ∃ (x4_1 : Int) (x192000_1 : ByteArray) (x192001_1 : Int) (x192002_1 : Int) (x192003_1 : ByteArray), v4 = .int .i64 x4_1 ∧ Aside0 (dragnetref08_One.l0 kq a0 x4_1 = some (r1, r2, r3, r4, r5)) ∧ Aside0 (kq ≤ k) ∧ Aside0 (w'.heap[gb191]? = some (.cells #[.string x192000_1, .int .i64 x192001_1, .int .i64 x192002_1, .string x192003_1] 110 (0, 0))) ∧ Aside0 (Below w.heap.size w w'))
 case atStart => exact ⟨(0), ((⟨#[]⟩ : ByteArray)), (0), (0), ((⟨#[]⟩ : ByteArray)), rs_, H', ⟨Nat.le_refl _⟩, ⟨bU_ BK191.out⟩, ⟨by repeat (first | (with_reducible first | exact HB.out | apply below_alloc | apply pw_below_drewN | apply below_drew1 | refine below_set ?_ GE191.out) | exact HB.out)⟩⟩
 case round =>
  clear H'
  try clear c1
  try clear p2
  obtain ⟨x4_1, x192000_1, x192001_1, x192002_1, x192003_1, rfl, HA, HK1, BK191, HB⟩ := hrel
  cases gk with
  | zero => exact absurd HA.out (by simp [dragnetref08_One.l0])
  | succ k1 =>
   have H := HA.out
   clear HA
   simp only [dragnetref08_One.l0] at H
   by_cases c3 : x4_1 < (a0.size : Int)
   ·rw [if_pos c3] at H
    have c3b0 : decide (x4_1 < (a0.size : Int)) = true := decide_eq_true c3
    clear c3
    by_cases c4 : 0 ≤ x4_1
    ·rw [if_pos c4] at H
     have c4b0 : decide (0 ≤ x4_1) = true := decide_eq_true c4
     clear c4
     by_cases c6 : (bt a0 x4_1) = 61
     ·rw [if_pos c6] at H
      have c6b0 : ((bt a0 x4_1) == 61) = true := beq_iff_eq.mpr c6
      have c6b1 : ((bt a0 x4_1) != 61) = false := bne_eq_false_iff_eq.mpr c6
      clear c6
      have c7b0 := eq_true (of_decide_eq_true as_ : 0 ≤ x4_1)
      by_cases c8 : x4_1 ≤ (a0.size : Int)
      ·rw [if_pos c8] at H
       have c8b0 := eq_true c8
       have c8b1 : decide (x4_1 ≤ (a0.size : Int)) = true := decide_eq_true c8
       clear c8
       obtain ⟨ji9, hji9⟩ : ∃ j_ : Int, (wrap64 (x4_1 + 1)) = j_ := ⟨_, rfl⟩
       replace H : (if 0 ≤ (ji9) then (if (ji9) ≤ (a0.size : Int) then ((dragnetref08_Number.f k1 (a0.extract ((ji9) : Int).toNat a0.size)).bind fun bt193 => (if bt193.2 = true then ((dragnetref08_IsKey.f k1 (a0.extract 0 (x4_1 : Int).toNat)).bind fun t195 => (if t195 = true then (some (a0.extract 0 (x4_1 : Int).toNat, 1, bt193.1, (⟨#[]⟩ : ByteArray), decide (0 ≤ 64))) else (some (a0.extract 0 (x4_1 : Int).toNat, 1, bt193.1, (⟨#[]⟩ : ByteArray), false)))) else ((dragnetref08_IsKey.f k1 (a0.extract 0 (x4_1 : Int).toNat)).bind fun t196 => (if t196 = true then (some (a0.extract 0 (x4_1 : Int).toNat, 2, 0, a0.extract ((ji9) : Int).toNat a0.size, decide (((a0.extract ((ji9) : Int).toNat a0.size).size : Int) ≤ 64))) else (some (a0.extract 0 (x4_1 : Int).toNat, 2, 0, a0.extract ((ji9) : Int).toNat a0.size, false)))))) else (none)) else (none)) = some (r1, r2, r3, r4, r5) := by first | (rw [hji9] at H; exact H) | (simp only [hji9] at H ⊢; exact H)
       have hji9w : (IntKind.i64.wrap (x4_1 + 1)) = ji9 := (i64_w _).trans hji9
       by_cases c10 : 0 ≤ (ji9)
       ·rw [if_pos c10] at H
        have c10b0 := eq_true c10
        have c10b1 : decide (0 ≤ (ji9)) = true := decide_eq_true c10
        clear c10
        by_cases c11 : (ji9) ≤ (a0.size : Int)
        ·rw [if_pos c11] at H
         have c11b0 := eq_true c11
         have c11b1 : decide ((ji9) ≤ (a0.size : Int)) = true := decide_eq_true c11
         clear c11
         replace H := Option.bind_eq_some_iff.mp H
         obtain ⟨⟨t193, t194⟩, A120, H⟩ := H
         replace H : (if t194 = true then ((dragnetref08_IsKey.f k1 (a0.extract 0 (x4_1 : Int).toNat)).bind fun t195 => (if t195 = true then (some (a0.extract 0 (x4_1 : Int).toNat, 1, t193, (⟨#[]⟩ : ByteArray), decide (0 ≤ 64))) else (some (a0.extract 0 (x4_1 : Int).toNat, 1, t193, (⟨#[]⟩ : ByteArray), false)))) else ((dragnetref08_IsKey.f k1 (a0.extract 0 (x4_1 : Int).toNat)).bind fun t196 => (if t196 = true then (some (a0.extract 0 (x4_1 : Int).toNat, 2, 0, a0.extract ((ji9) : Int).toNat a0.size, decide (((a0.extract ((ji9) : Int).toNat a0.size).size : Int) ≤ 64))) else (some (a0.extract 0 (x4_1 : Int).toNat, 2, 0, a0.extract ((ji9) : Int).toNat a0.size, false))))) = some (r1, r2, r3, r4, r5) := H
         have A12 := Aside0.mk A120
         clear A120
         by_cases c13 : t194 = true
         ·subst c13
          have H1 : ((dragnetref08_IsKey.f k1 (a0.extract 0 (x4_1 : Int).toNat)).bind fun t195 => (if t195 = true then (some (a0.extract 0 (x4_1 : Int).toNat, 1, t193, (⟨#[]⟩ : ByteArray), decide (0 ≤ 64))) else (some (a0.extract 0 (x4_1 : Int).toNat, 1, t193, (⟨#[]⟩ : ByteArray), false)))) = some (r1, r2, r3, r4, r5) := by rw [if_pos rfl] at H; exact H
          clear H
          have H := H1
          clear H1
          have c14b0 := eq_true (of_decide_eq_true as_ : 0 ≤ x4_1)
          have c15b0 := eq_true (of_decide_eq_true as_ : x4_1 ≤ (a0.size : Int))
          replace H := Option.bind_eq_some_iff.mp H
          obtain ⟨t195, A160, H⟩ := H
          replace H : (if t195 = true then (some (a0.extract 0 (x4_1 : Int).toNat, 1, t193, (⟨#[]⟩ : ByteArray), decide (0 ≤ 64))) else (some (a0.extract 0 (x4_1 : Int).toNat, 1, t193, (⟨#[]⟩ : ByteArray), false))) = some (r1, r2, r3, r4, r5) := H
          have A16 := Aside0.mk A160
          clear A160
          by_cases c17 : t195 = true
          ·subst c17
           have H1 : (some (a0.extract 0 (x4_1 : Int).toNat, 1, t193, (⟨#[]⟩ : ByteArray), decide (0 ≤ 64))) = some (r1, r2, r3, r4, r5) := by rw [if_pos rfl] at H; exact H
           clear H
           have H := H1
           clear H1
           simp only [Option.some.injEq, Prod.mk.injEq] at H
           obtain ⟨rfl, rfl, rfl, rfl, rfl⟩ := H
           have p5 : 0 ≤ (x4_1 : Int) := of_decide_eq_true as_
           have q5 : x4_1 < (a0.size : Int) := of_decide_eq_true as_
           have hx5 := bt_at a0 x4_1
           replace p5 := eq_true p5
           replace q5 := eq_true q5
           try go_wp2
           have n0_ := Aside0.mk (blk_drew BK191.out)
           have n1_ := Aside0.mk (below_drew1 HB.out)
           clear BK191
           clear HB
           have BK191 := n0_
           have HB := n1_
           clear n0_ n1_
           refine start_ (n := 10) (S := fun w' => True) (ds := []) #[false, false, false, false, false, false, false, false, false, false] (by kernel_rfl) rfl rfl trivial (fun hHeld => ?_); refine with_tabW dragnetref08_One.tab5 dragnetref08_One.bits5 (fun HT_ HW_ => ?_)
           generalize wr.drew = w18 at BK191 HB hHeld ⊢
           refine pS 0 (some 18) HT_ ?_
           refine pS 1 (some 19) HT_ ?_
           refine pS 2 (some 20) HT_ ?_
           refine pS 3 (some 21) HT_ ?_
           refine pS 4 (some 22) HT_ ?_
           refine pS 5 (some 23) HT_ ?_
           refine pS 6 (some 24) HT_ ?_
           refine pS 7 (some 25) HT_ ?_
           refine one_ (i := 8) (N := some 5) #[true, true, true, true, true, true, true, true, true, false] rfl rfl (one_of HT_.out (by kernel_rfl)) (by decide) (fun K hK => ?_)
           refine box_step ?hg (N := 5) ?hd (cs := #[.string (⟨#[]⟩ : ByteArray), .int .i64 0, .int .i64 0, .string (⟨#[]⟩ : ByteArray)]) (t := 110) ?hr ?_; (case hd => rfl); (case hg => rfl); (case hr => first | (go_simp; done) | (go_simp; rfl))
           intro gb192 hg w19 hbox hb
           have n0_ := bkA BK191 hb
           have n1_ := bsA HB hb
           have n2_ := Aside0.mk (hbox)
           have n3_ := szA HB hg
           have n4_ := szA HB hg
           have n5_ := neA BK191 hg
           have n6_ := neB BK191 hg
           clear BK191
           clear HB
           have BK191 := n0_
           have HB := n1_
           have BK192 := n2_
           have GW192 := n3_
           have GE192 := n4_
           have NB191_192 := n5_
           have NB192_191 := n6_
           clear n0_ n1_ n2_ n3_ n4_ n5_ n6_
           clear hb hbox hg
           refine hK.out _ _ trivial (fun hHeld => ?_)
           clear hK K
           refine norm_ (a' := ?_) ?_ ?_
           rotate_left
           ·show Act.put _ (some 5) _ = _
            simp only [Act.put, List.setIfInBounds_toArray, List.set_cons_zero, List.set_cons_succ, i64_w, i32_w]
            rfl
           refine one_ (i := 9) (N := none) #[true, true, true, true, true, true, true, true, true, true] rfl rfl (one_of HT_.out (by kernel_rfl)) (by decide) (fun K hK => ?_)
           have hs20 : w19.cell? ⟨gb192, 0, none⟩ = some (.string (⟨#[]⟩ : ByteArray)) := (blk_cell BK192.out 0).trans rfl
           have hfs20 := blk_frozen BK192.out 0
           have hns20_0 := NB191_192.out
           have hms20_0 := NB192_191.out
           have hs21 : w19.cell? ⟨gb192, 1, none⟩ = some (.int .i64 0) := (blk_cell BK192.out 1).trans rfl
           have hfs21 := blk_frozen BK192.out 1
           have hns21_0 := NB191_192.out
           have hms21_0 := NB192_191.out
           have hs22 : w19.cell? ⟨gb192, 2, none⟩ = some (.int .i64 0) := (blk_cell BK192.out 2).trans rfl
           have hfs22 := blk_frozen BK192.out 2
           have hns22_0 := NB191_192.out
           have hms22_0 := NB192_191.out
           have hs23 : w19.cell? ⟨gb192, 3, none⟩ = some (.string (⟨#[]⟩ : ByteArray)) := (blk_cell BK192.out 3).trans rfl
           have hfs23 := blk_frozen BK192.out 3
           have hns23_0 := NB191_192.out
           have hms23_0 := NB192_191.out
           refine skip_ (w1 := ?_) (by rfl) rfl ?_ ?_
           rotate_left
           ·go_simp
            rfl
           refine hK.out _ _ trivial (fun hHeld => ?_)
           clear hK K
           refine done_ (done_of HT_.out (by kernel_rfl)) ?_
           have hnb24 := NB192_191.out
           have hnc24 := NB191_192.out
           have hcz25_0 : w19.cell? ⟨gb192, 0, none⟩ = some (.string (⟨#[]⟩ : ByteArray)) := (blk_cell BK192.out 0).trans rfl
           have hcz25_1 : w19.cell? ⟨gb192, 1, none⟩ = some (.int .i64 0) := (blk_cell BK192.out 1).trans rfl
           have hcz25_2 : w19.cell? ⟨gb192, 2, none⟩ = some (.int .i64 0) := (blk_cell BK192.out 2).trans rfl
           have hcz25_3 : w19.cell? ⟨gb192, 3, none⟩ = some (.string (⟨#[]⟩ : ByteArray)) := (blk_cell BK192.out 3).trans rfl
           have hfz25_0 := blk_frozen BK192.out 0
           have hfz25_1 := blk_frozen BK192.out 1
           have hfz25_2 := blk_frozen BK192.out 2
           have hfz25_3 := blk_frozen BK192.out 3
           try go_wp2_with (first | ((with_reducible refine gate_callee (f := 134) rfl ?_); refine goesL_ (some 29) rfl rfl Tryz.func134 (by kernel_rfl) rfl #[.string (a0.extract ((ji9) : Int).toNat a0.size)] rfl (by (try simp only [List.map_toArray, List.map_cons, List.map_nil]); first | done | (simp only [hji9]; rfl) | rfl | (simp only [List.length_drop, List.length_take]; rfl)) ?_; (with_reducible refine (dragnetref08_Number.calls k1 (a0.extract ((ji9) : Int).toNat a0.size) t193 true _ A12.out).mono ?_); rintro e w' ⟨rfl, ⟨nd, rfl⟩⟩; refine ⟨_, rfl, ?_⟩))
           have n0_ : Aside0 (((((((((w19.setCell ⟨gb192, 0, none⟩ (.string (a0.extract 0 (x4_1 : Int).toNat))).setCell ⟨gb192, 1, none⟩ (.int .i64 2)).setCell ⟨gb192, 2, none⟩ (.int .i64 0)).setCell ⟨gb192, 3, none⟩ (.string (a0.extract ((ji9) : Int).toNat a0.size))).setCell ⟨gb192, 0, none⟩ (.string (a0.extract 0 (x4_1 : Int).toNat))).setCell ⟨gb192, 1, none⟩ (.int .i64 1)).setCell ⟨gb192, 2, none⟩ (.int .i64 t193)).setCell ⟨gb192, 3, none⟩ (.string (⟨#[]⟩ : ByteArray))).heap[gb191]? = some (.cells #[.string x192000_1, .int .i64 x192001_1, .int .i64 x192002_1, .string x192003_1] 110 (0, 0))) := ⟨by (with_reducible repeat (first | refine blk_drewN ?_ _ | refine blk_drew ?_ | refine blk_alloc ?_ _)); refine blk_far ?_ NB191_192.out _; (with_reducible repeat (first | refine blk_drewN ?_ _ | refine blk_drew ?_ | refine blk_alloc ?_ _)); refine blk_far ?_ NB191_192.out _; (with_reducible repeat (first | refine blk_drewN ?_ _ | refine blk_drew ?_ | refine blk_alloc ?_ _)); refine blk_far ?_ NB191_192.out _; (with_reducible repeat (first | refine blk_drewN ?_ _ | refine blk_drew ?_ | refine blk_alloc ?_ _)); refine blk_far ?_ NB191_192.out _; (with_reducible repeat (first | refine blk_drewN ?_ _ | refine blk_drew ?_ | refine blk_alloc ?_ _)); refine blk_far ?_ NB191_192.out _; (with_reducible repeat (first | refine blk_drewN ?_ _ | refine blk_drew ?_ | refine blk_alloc ?_ _)); refine blk_far ?_ NB191_192.out _; (with_reducible repeat (first | refine blk_drewN ?_ _ | refine blk_drew ?_ | refine blk_alloc ?_ _)); refine blk_far ?_ NB191_192.out _; (with_reducible repeat (first | refine blk_drewN ?_ _ | refine blk_drew ?_ | refine blk_alloc ?_ _)); refine blk_far ?_ NB191_192.out _; (with_reducible repeat (first | refine blk_drewN ?_ _ | refine blk_drew ?_ | refine blk_alloc ?_ _)); exact BK191.out⟩
           have n1_ : Aside0 (((((((((w19.setCell ⟨gb192, 0, none⟩ (.string (a0.extract 0 (x4_1 : Int).toNat))).setCell ⟨gb192, 1, none⟩ (.int .i64 2)).setCell ⟨gb192, 2, none⟩ (.int .i64 0)).setCell ⟨gb192, 3, none⟩ (.string (a0.extract ((ji9) : Int).toNat a0.size))).setCell ⟨gb192, 0, none⟩ (.string (a0.extract 0 (x4_1 : Int).toNat))).setCell ⟨gb192, 1, none⟩ (.int .i64 1)).setCell ⟨gb192, 2, none⟩ (.int .i64 t193)).setCell ⟨gb192, 3, none⟩ (.string (⟨#[]⟩ : ByteArray))).heap[gb192]? = some (.cells #[.string (a0.extract 0 (x4_1 : Int).toNat), .int .i64 1, .int .i64 t193, .string (⟨#[]⟩ : ByteArray)] 110 (0, 0))) := ⟨by (with_reducible repeat (first | refine blk_drewN ?_ _ | refine blk_drew ?_ | refine blk_alloc ?_ _)); refine blk_put (cs := #[.string (a0.extract 0 (x4_1 : Int).toNat), .int .i64 1, .int .i64 t193, .string (a0.extract ((ji9) : Int).toNat a0.size)]) ?_ 3 _ rfl; (with_reducible repeat (first | refine blk_drewN ?_ _ | refine blk_drew ?_ | refine blk_alloc ?_ _)); refine blk_put (cs := #[.string (a0.extract 0 (x4_1 : Int).toNat), .int .i64 1, .int .i64 0, .string (a0.extract ((ji9) : Int).toNat a0.size)]) ?_ 2 _ rfl; (with_reducible repeat (first | refine blk_drewN ?_ _ | refine blk_drew ?_ | refine blk_alloc ?_ _)); refine blk_put (cs := #[.string (a0.extract 0 (x4_1 : Int).toNat), .int .i64 2, .int .i64 0, .string (a0.extract ((ji9) : Int).toNat a0.size)]) ?_ 1 _ rfl; (with_reducible repeat (first | refine blk_drewN ?_ _ | refine blk_drew ?_ | refine blk_alloc ?_ _)); refine blk_put (cs := #[.string (a0.extract 0 (x4_1 : Int).toNat), .int .i64 2, .int .i64 0, .string (a0.extract ((ji9) : Int).toNat a0.size)]) ?_ 0 _ rfl; (with_reducible repeat (first | refine blk_drewN ?_ _ | refine blk_drew ?_ | refine blk_alloc ?_ _)); refine blk_put (cs := #[.string (a0.extract 0 (x4_1 : Int).toNat), .int .i64 2, .int .i64 0, .string (⟨#[]⟩ : ByteArray)]) ?_ 3 _ rfl; (with_reducible repeat (first | refine blk_drewN ?_ _ | refine blk_drew ?_ | refine blk_alloc ?_ _)); refine blk_put (cs := #[.string (a0.extract 0 (x4_1 : Int).toNat), .int .i64 2, .int .i64 0, .string (⟨#[]⟩ : ByteArray)]) ?_ 2 _ rfl; (with_reducible repeat (first | refine blk_drewN ?_ _ | refine blk_drew ?_ | refine blk_alloc ?_ _)); refine blk_put (cs := #[.string (a0.extract 0 (x4_1 : Int).toNat), .int .i64 0, .int .i64 0, .string (⟨#[]⟩ : ByteArray)]) ?_ 1 _ rfl; (with_reducible repeat (first | refine blk_drewN ?_ _ | refine blk_drew ?_ | refine blk_alloc ?_ _)); refine blk_put (cs := #[.string (⟨#[]⟩ : ByteArray), .int .i64 0, .int .i64 0, .string (⟨#[]⟩ : ByteArray)]) ?_ 0 _ rfl; (with_reducible repeat (first | refine blk_drewN ?_ _ | refine blk_drew ?_ | refine blk_alloc ?_ _)); exact BK192.out⟩
           have n2_ : Aside0 (Below w.heap.size w ((((((((w19.setCell ⟨gb192, 0, none⟩ (.string (a0.extract 0 (x4_1 : Int).toNat))).setCell ⟨gb192, 1, none⟩ (.int .i64 2)).setCell ⟨gb192, 2, none⟩ (.int .i64 0)).setCell ⟨gb192, 3, none⟩ (.string (a0.extract ((ji9) : Int).toNat a0.size))).setCell ⟨gb192, 0, none⟩ (.string (a0.extract 0 (x4_1 : Int).toNat))).setCell ⟨gb192, 1, none⟩ (.int .i64 1)).setCell ⟨gb192, 2, none⟩ (.int .i64 t193)).setCell ⟨gb192, 3, none⟩ (.string (⟨#[]⟩ : ByteArray)))) := ⟨by repeat (first | (with_reducible first | exact HB.out | apply below_alloc | apply pw_below_drewN | apply below_drew1 | refine below_set ?_ GE191.out | refine below_set ?_ GE192.out) | exact HB.out)⟩
           (try clear BK191)
           (try clear BK192)
           (try clear HB)
           (try simp only [sc_drewN])
           generalize ((((((((w19.setCell ⟨gb192, 0, none⟩ (.string (a0.extract 0 (x4_1 : Int).toNat))).setCell ⟨gb192, 1, none⟩ (.int .i64 2)).setCell ⟨gb192, 2, none⟩ (.int .i64 0)).setCell ⟨gb192, 3, none⟩ (.string (a0.extract ((ji9) : Int).toNat a0.size))).setCell ⟨gb192, 0, none⟩ (.string (a0.extract 0 (x4_1 : Int).toNat))).setCell ⟨gb192, 1, none⟩ (.int .i64 1)).setCell ⟨gb192, 2, none⟩ (.int .i64 t193)).setCell ⟨gb192, 3, none⟩ (.string (⟨#[]⟩ : ByteArray))) = w26 at n0_ n1_ n2_ ⊢
           have BK191 := n0_
           have BK192 := n1_
           have HB := n2_
           clear n0_ n1_ n2_
           (try (rw [drewN_self w26]; generalize hq_ : World.drewN w26 _ = w26; have n0_ : Aside0 (w26.heap[gb191]? = some (.cells #[.string x192000_1, .int .i64 x192001_1, .int .i64 x192002_1, .string x192003_1] 110 (0, 0))) := ⟨by rw [← hq_]; exact (bU_ BK191.out)⟩; have n1_ : Aside0 (w26.heap[gb192]? = some (.cells #[.string (a0.extract 0 (x4_1 : Int).toNat), .int .i64 1, .int .i64 t193, .string (⟨#[]⟩ : ByteArray)] 110 (0, 0))) := ⟨by rw [← hq_]; exact (bU_ BK192.out)⟩; have n2_ : Aside0 (Below w.heap.size w w26) := ⟨by rw [← hq_]; exact (by repeat (first | (with_reducible first | exact HB.out | apply below_alloc | apply pw_below_drewN | apply below_drew1 | refine below_set ?_ GE191.out | refine below_set ?_ GE192.out) | exact HB.out))⟩; clear BK191 BK192 HB hq_; have BK191 := n0_; have BK192 := n1_; have HB := n2_; clear n0_ n1_ n2_))
           have n0_ := Aside0.mk (blk_drew BK191.out)
           have n1_ := Aside0.mk (blk_drew BK192.out)
           have n2_ := Aside0.mk (below_drew1 HB.out)
           clear BK191
           clear BK192
           clear HB
           have BK191 := n0_
           have BK192 := n1_
           have HB := n2_
           clear n0_ n1_ n2_
           refine start_ (n := 12) (S := fun w' => w'.cell? ⟨gb192, 0, none⟩ = some (.string (a0.extract 0 (x4_1 : Int).toNat)) ∧ w'.cell? ⟨gb192, 1, none⟩ = some (.int .i64 1) ∧ w'.cell? ⟨gb192, 2, none⟩ = some (.int .i64 t193) ∧ w'.cell? ⟨gb192, 3, none⟩ = some (.string (⟨#[]⟩ : ByteArray))) (ds := []) #[false, false, false, false, false, false, false, false, false, false, false, false] (by kernel_rfl) rfl rfl ⟨(blk_cell BK192.out 0).trans rfl, (blk_cell BK192.out 1).trans rfl, (blk_cell BK192.out 2).trans rfl, (blk_cell BK192.out 3).trans rfl⟩ (fun hHeld => ?_); refine with_tabW dragnetref08_One.tab9 dragnetref08_One.bits9 (fun HT_ HW_ => ?_)
           generalize w26.drew = w27 at BK191 BK192 HB hHeld ⊢
           refine pS 1 (some 39) HT_ ?_
           refine tS 0 (some 38) HT_ HW_ hHeld ?_
           refine tS 2 (some 40) HT_ HW_ hHeld ?_
           refine one_ (i := 3) (N := some 41) #[true, true, true, true, false, false, false, false, false, false, false, false] rfl rfl (one_of HT_.out (by kernel_rfl)) (by decide) (fun K hK => ?_)
           refine goes_ Tryz.func41 (by kernel_rfl) rfl #[.string (a0.extract 0 (x4_1 : Int).toNat)] (by rfl) rfl rfl mp_ ?_
           with_reducible refine (dragnetref08_IsKey.calls k1 (a0.extract 0 (x4_1 : Int).toNat) true _ A16.out).mono ?_
           rintro e w' ⟨rfl, ⟨nd, rfl⟩⟩
           refine ⟨_, rfl, ?_⟩
           refine hK.out _ _ ⟨(blk_cell BK192.out 0).trans rfl, (blk_cell BK192.out 1).trans rfl, (blk_cell BK192.out 2).trans rfl, (blk_cell BK192.out 3).trans rfl⟩ (fun hHeld => ?_)
           clear hK K
           refine norm_ (a' := ?_) ?_ ?_
           rotate_left
           ·show Act.put _ (some 41) _ = _
            simp only [Act.put, List.setIfInBounds_toArray, List.set_cons_zero, List.set_cons_succ, i64_w, i32_w]
            rfl
           refine pS 4 (some 42) HT_ ?_
           refine pS 5 (some 43) HT_ ?_
           refine tS 6 (some 44) HT_ HW_ hHeld ?_
           refine pS 7 (some 45) HT_ ?_
           refine pS 8 (some 46) HT_ ?_
           refine pS 9 (some 47) HT_ ?_
           refine one_ (i := 10) (N := none) #[true, true, true, true, true, true, true, true, true, true, true, false] rfl rfl (one_of HT_.out (by kernel_rfl)) (by decide) (fun K hK => ?_)
           have hs28 : w27.cell? ⟨gb191, 0, none⟩ = some (.string x192000_1) := (blk_cell BK191.out 0).trans rfl
           have hfs28 := blk_frozen BK191.out 0
           have hns28_1 := NB192_191.out
           have hms28_1 := NB191_192.out
           have hs29 : w27.cell? ⟨gb191, 1, none⟩ = some (.int .i64 x192001_1) := (blk_cell BK191.out 1).trans rfl
           have hfs29 := blk_frozen BK191.out 1
           have hns29_1 := NB192_191.out
           have hms29_1 := NB191_192.out
           have hs30 : w27.cell? ⟨gb191, 2, none⟩ = some (.int .i64 x192002_1) := (blk_cell BK191.out 2).trans rfl
           have hfs30 := blk_frozen BK191.out 2
           have hns30_1 := NB192_191.out
           have hms30_1 := NB191_192.out
           have hs31 : w27.cell? ⟨gb191, 3, none⟩ = some (.string x192003_1) := (blk_cell BK191.out 3).trans rfl
           have hfs31 := blk_frozen BK191.out 3
           have hns31_1 := NB192_191.out
           have hms31_1 := NB191_192.out
           refine skip_ (w1 := ?_) (by rfl) rfl ?_ ?_
           rotate_left
           ·go_simp
            rfl
           refine hK.out _ _ ⟨((cell_far (p := ⟨gb191, _, none⟩) NB192_191.out _).trans (((cell_far (p := ⟨gb191, _, none⟩) NB192_191.out _).trans (((cell_far (p := ⟨gb191, _, none⟩) NB192_191.out _).trans (((cell_far (p := ⟨gb191, _, none⟩) NB192_191.out _).trans (hHeld.1)))))))), ((cell_far (p := ⟨gb191, _, none⟩) NB192_191.out _).trans (((cell_far (p := ⟨gb191, _, none⟩) NB192_191.out _).trans (((cell_far (p := ⟨gb191, _, none⟩) NB192_191.out _).trans (((cell_far (p := ⟨gb191, _, none⟩) NB192_191.out _).trans (hHeld.2.1)))))))), ((cell_far (p := ⟨gb191, _, none⟩) NB192_191.out _).trans (((cell_far (p := ⟨gb191, _, none⟩) NB192_191.out _).trans (((cell_far (p := ⟨gb191, _, none⟩) NB192_191.out _).trans (((cell_far (p := ⟨gb191, _, none⟩) NB192_191.out _).trans (hHeld.2.2.1)))))))), ((cell_far (p := ⟨gb191, _, none⟩) NB192_191.out _).trans (((cell_far (p := ⟨gb191, _, none⟩) NB192_191.out _).trans (((cell_far (p := ⟨gb191, _, none⟩) NB192_191.out _).trans (((cell_far (p := ⟨gb191, _, none⟩) NB192_191.out _).trans (hHeld.2.2.2))))))))⟩ (fun hHeld => ?_)
           clear hK K
           refine pS 11 (some 3) HT_ ?_
           refine done_ (done_of HT_.out (by kernel_rfl)) ?_
           try go_wp2
           refine bodyPost_ret (results_ct rfl _ _ gb191 110 #[.string (a0.extract 0 (x4_1 : Int).toNat), .int .i64 1, .int .i64 t193, .string (⟨#[]⟩ : ByteArray)] (0, 0) _ rfl (by (with_reducible repeat (first | refine blk_drewN ?_ _ | refine blk_drew ?_ | refine blk_alloc ?_ _)); refine blk_put (cs := #[.string (a0.extract 0 (x4_1 : Int).toNat), .int .i64 1, .int .i64 t193, .string x192003_1]) ?_ 3 _ rfl; (with_reducible repeat (first | refine blk_drewN ?_ _ | refine blk_drew ?_ | refine blk_alloc ?_ _)); refine blk_put (cs := #[.string (a0.extract 0 (x4_1 : Int).toNat), .int .i64 1, .int .i64 x192002_1, .string x192003_1]) ?_ 2 _ rfl; (with_reducible repeat (first | refine blk_drewN ?_ _ | refine blk_drew ?_ | refine blk_alloc ?_ _)); refine blk_put (cs := #[.string (a0.extract 0 (x4_1 : Int).toNat), .int .i64 x192001_1, .int .i64 x192002_1, .string x192003_1]) ?_ 1 _ rfl; (with_reducible repeat (first | refine blk_drewN ?_ _ | refine blk_drew ?_ | refine blk_alloc ?_ _)); refine blk_put (cs := #[.string x192000_1, .int .i64 x192001_1, .int .i64 x192002_1, .string x192003_1]) ?_ 0 _ rfl; (with_reducible repeat (first | refine blk_drewN ?_ _ | refine blk_drew ?_ | refine blk_alloc ?_ _)); exact BK191.out) Tryz.underlying110 rfl (by kernel_rfl)) rfl ?_
           exact ⟨by first | rfl | (simp [errW_none, errW_some] <;> rfl) | (simp only [← hji9]; first | rfl | (simp [errW_none, errW_some] <;> rfl)) | (simp [*, errW_none, errW_some] <;> rfl), by repeat (first | (with_reducible first | exact HB.out | apply below_alloc | apply pw_below_drewN | apply below_drew1 | refine below_set ?_ GE191.out | refine below_set ?_ GE192.out) | exact HB.out)⟩
          ·replace c17 := Bool.eq_false_iff.mpr c17
           subst c17
           have H1 : (some (a0.extract 0 (x4_1 : Int).toNat, 1, t193, (⟨#[]⟩ : ByteArray), false)) = some (r1, r2, r3, r4, r5) := by rw [if_neg (show ¬ (false = true) by decide)] at H; exact H
           clear H
           have H := H1
           clear H1
           simp only [Option.some.injEq, Prod.mk.injEq] at H
           obtain ⟨rfl, rfl, rfl, rfl, rfl⟩ := H
           have p5 : 0 ≤ (x4_1 : Int) := of_decide_eq_true as_
           have q5 : x4_1 < (a0.size : Int) := of_decide_eq_true as_
           have hx5 := bt_at a0 x4_1
           replace p5 := eq_true p5
           replace q5 := eq_true q5
           try go_wp2
           have n0_ := Aside0.mk (blk_drew BK191.out)
           have n1_ := Aside0.mk (below_drew1 HB.out)
           clear BK191
           clear HB
           have BK191 := n0_
           have HB := n1_
           clear n0_ n1_
           refine start_ (n := 10) (S := fun w' => True) (ds := []) #[false, false, false, false, false, false, false, false, false, false] (by kernel_rfl) rfl rfl trivial (fun hHeld => ?_); refine with_tabW dragnetref08_One.tab5 dragnetref08_One.bits5 (fun HT_ HW_ => ?_)
           generalize wr.drew = w32 at BK191 HB hHeld ⊢
           refine pS 0 (some 18) HT_ ?_
           refine pS 1 (some 19) HT_ ?_
           refine pS 2 (some 20) HT_ ?_
           refine pS 3 (some 21) HT_ ?_
           refine pS 4 (some 22) HT_ ?_
           refine pS 5 (some 23) HT_ ?_
           refine pS 6 (some 24) HT_ ?_
           refine pS 7 (some 25) HT_ ?_
           refine one_ (i := 8) (N := some 5) #[true, true, true, true, true, true, true, true, true, false] rfl rfl (one_of HT_.out (by kernel_rfl)) (by decide) (fun K hK => ?_)
           refine box_step ?hg (N := 5) ?hd (cs := #[.string (⟨#[]⟩ : ByteArray), .int .i64 0, .int .i64 0, .string (⟨#[]⟩ : ByteArray)]) (t := 110) ?hr ?_; (case hd => rfl); (case hg => rfl); (case hr => first | (go_simp; done) | (go_simp; rfl))
           intro gb192 hg w33 hbox hb
           have n0_ := bkA BK191 hb
           have n1_ := bsA HB hb
           have n2_ := Aside0.mk (hbox)
           have n3_ := szA HB hg
           have n4_ := szA HB hg
           have n5_ := neA BK191 hg
           have n6_ := neB BK191 hg
           clear BK191
           clear HB
           have BK191 := n0_
           have HB := n1_
           have BK192 := n2_
           have GW192 := n3_
           have GE192 := n4_
           have NB191_192 := n5_
           have NB192_191 := n6_
           clear n0_ n1_ n2_ n3_ n4_ n5_ n6_
           clear hb hbox hg
           refine hK.out _ _ trivial (fun hHeld => ?_)
           clear hK K
           refine norm_ (a' := ?_) ?_ ?_
           rotate_left
           ·show Act.put _ (some 5) _ = _
            simp only [Act.put, List.setIfInBounds_toArray, List.set_cons_zero, List.set_cons_succ, i64_w, i32_w]
            rfl
           refine one_ (i := 9) (N := none) #[true, true, true, true, true, true, true, true, true, true] rfl rfl (one_of HT_.out (by kernel_rfl)) (by decide) (fun K hK => ?_)
           have hs34 : w33.cell? ⟨gb192, 0, none⟩ = some (.string (⟨#[]⟩ : ByteArray)) := (blk_cell BK192.out 0).trans rfl
           have hfs34 := blk_frozen BK192.out 0
           have hns34_0 := NB191_192.out
           have hms34_0 := NB192_191.out
           have hs35 : w33.cell? ⟨gb192, 1, none⟩ = some (.int .i64 0) := (blk_cell BK192.out 1).trans rfl
           have hfs35 := blk_frozen BK192.out 1
           have hns35_0 := NB191_192.out
           have hms35_0 := NB192_191.out
           have hs36 : w33.cell? ⟨gb192, 2, none⟩ = some (.int .i64 0) := (blk_cell BK192.out 2).trans rfl
           have hfs36 := blk_frozen BK192.out 2
           have hns36_0 := NB191_192.out
           have hms36_0 := NB192_191.out
           have hs37 : w33.cell? ⟨gb192, 3, none⟩ = some (.string (⟨#[]⟩ : ByteArray)) := (blk_cell BK192.out 3).trans rfl
           have hfs37 := blk_frozen BK192.out 3
           have hns37_0 := NB191_192.out
           have hms37_0 := NB192_191.out
           refine skip_ (w1 := ?_) (by rfl) rfl ?_ ?_
           rotate_left
           ·go_simp
            rfl
           refine hK.out _ _ trivial (fun hHeld => ?_)
           clear hK K
           refine done_ (done_of HT_.out (by kernel_rfl)) ?_
           have hnb38 := NB192_191.out
           have hnc38 := NB191_192.out
           have hcz39_0 : w33.cell? ⟨gb192, 0, none⟩ = some (.string (⟨#[]⟩ : ByteArray)) := (blk_cell BK192.out 0).trans rfl
           have hcz39_1 : w33.cell? ⟨gb192, 1, none⟩ = some (.int .i64 0) := (blk_cell BK192.out 1).trans rfl
           have hcz39_2 : w33.cell? ⟨gb192, 2, none⟩ = some (.int .i64 0) := (blk_cell BK192.out 2).trans rfl
           have hcz39_3 : w33.cell? ⟨gb192, 3, none⟩ = some (.string (⟨#[]⟩ : ByteArray)) := (blk_cell BK192.out 3).trans rfl
           have hfz39_0 := blk_frozen BK192.out 0
           have hfz39_1 := blk_frozen BK192.out 1
           have hfz39_2 := blk_frozen BK192.out 2
           have hfz39_3 := blk_frozen BK192.out 3
           try go_wp2_with (first | ((with_reducible refine gate_callee (f := 134) rfl ?_); refine goesL_ (some 29) rfl rfl Tryz.func134 (by kernel_rfl) rfl #[.string (a0.extract ((ji9) : Int).toNat a0.size)] rfl (by (try simp only [List.map_toArray, List.map_cons, List.map_nil]); first | done | (simp only [hji9]; rfl) | rfl | (simp only [List.length_drop, List.length_take]; rfl)) ?_; (with_reducible refine (dragnetref08_Number.calls k1 (a0.extract ((ji9) : Int).toNat a0.size) t193 true _ A12.out).mono ?_); rintro e w' ⟨rfl, ⟨nd, rfl⟩⟩; refine ⟨_, rfl, ?_⟩))
           have n0_ : Aside0 (((((((((w33.setCell ⟨gb192, 0, none⟩ (.string (a0.extract 0 (x4_1 : Int).toNat))).setCell ⟨gb192, 1, none⟩ (.int .i64 2)).setCell ⟨gb192, 2, none⟩ (.int .i64 0)).setCell ⟨gb192, 3, none⟩ (.string (a0.extract ((ji9) : Int).toNat a0.size))).setCell ⟨gb192, 0, none⟩ (.string (a0.extract 0 (x4_1 : Int).toNat))).setCell ⟨gb192, 1, none⟩ (.int .i64 1)).setCell ⟨gb192, 2, none⟩ (.int .i64 t193)).setCell ⟨gb192, 3, none⟩ (.string (⟨#[]⟩ : ByteArray))).heap[gb191]? = some (.cells #[.string x192000_1, .int .i64 x192001_1, .int .i64 x192002_1, .string x192003_1] 110 (0, 0))) := ⟨by (with_reducible repeat (first | refine blk_drewN ?_ _ | refine blk_drew ?_ | refine blk_alloc ?_ _)); refine blk_far ?_ NB191_192.out _; (with_reducible repeat (first | refine blk_drewN ?_ _ | refine blk_drew ?_ | refine blk_alloc ?_ _)); refine blk_far ?_ NB191_192.out _; (with_reducible repeat (first | refine blk_drewN ?_ _ | refine blk_drew ?_ | refine blk_alloc ?_ _)); refine blk_far ?_ NB191_192.out _; (with_reducible repeat (first | refine blk_drewN ?_ _ | refine blk_drew ?_ | refine blk_alloc ?_ _)); refine blk_far ?_ NB191_192.out _; (with_reducible repeat (first | refine blk_drewN ?_ _ | refine blk_drew ?_ | refine blk_alloc ?_ _)); refine blk_far ?_ NB191_192.out _; (with_reducible repeat (first | refine blk_drewN ?_ _ | refine blk_drew ?_ | refine blk_alloc ?_ _)); refine blk_far ?_ NB191_192.out _; (with_reducible repeat (first | refine blk_drewN ?_ _ | refine blk_drew ?_ | refine blk_alloc ?_ _)); refine blk_far ?_ NB191_192.out _; (with_reducible repeat (first | refine blk_drewN ?_ _ | refine blk_drew ?_ | refine blk_alloc ?_ _)); refine blk_far ?_ NB191_192.out _; (with_reducible repeat (first | refine blk_drewN ?_ _ | refine blk_drew ?_ | refine blk_alloc ?_ _)); exact BK191.out⟩
           have n1_ : Aside0 (((((((((w33.setCell ⟨gb192, 0, none⟩ (.string (a0.extract 0 (x4_1 : Int).toNat))).setCell ⟨gb192, 1, none⟩ (.int .i64 2)).setCell ⟨gb192, 2, none⟩ (.int .i64 0)).setCell ⟨gb192, 3, none⟩ (.string (a0.extract ((ji9) : Int).toNat a0.size))).setCell ⟨gb192, 0, none⟩ (.string (a0.extract 0 (x4_1 : Int).toNat))).setCell ⟨gb192, 1, none⟩ (.int .i64 1)).setCell ⟨gb192, 2, none⟩ (.int .i64 t193)).setCell ⟨gb192, 3, none⟩ (.string (⟨#[]⟩ : ByteArray))).heap[gb192]? = some (.cells #[.string (a0.extract 0 (x4_1 : Int).toNat), .int .i64 1, .int .i64 t193, .string (⟨#[]⟩ : ByteArray)] 110 (0, 0))) := ⟨by (with_reducible repeat (first | refine blk_drewN ?_ _ | refine blk_drew ?_ | refine blk_alloc ?_ _)); refine blk_put (cs := #[.string (a0.extract 0 (x4_1 : Int).toNat), .int .i64 1, .int .i64 t193, .string (a0.extract ((ji9) : Int).toNat a0.size)]) ?_ 3 _ rfl; (with_reducible repeat (first | refine blk_drewN ?_ _ | refine blk_drew ?_ | refine blk_alloc ?_ _)); refine blk_put (cs := #[.string (a0.extract 0 (x4_1 : Int).toNat), .int .i64 1, .int .i64 0, .string (a0.extract ((ji9) : Int).toNat a0.size)]) ?_ 2 _ rfl; (with_reducible repeat (first | refine blk_drewN ?_ _ | refine blk_drew ?_ | refine blk_alloc ?_ _)); refine blk_put (cs := #[.string (a0.extract 0 (x4_1 : Int).toNat), .int .i64 2, .int .i64 0, .string (a0.extract ((ji9) : Int).toNat a0.size)]) ?_ 1 _ rfl; (with_reducible repeat (first | refine blk_drewN ?_ _ | refine blk_drew ?_ | refine blk_alloc ?_ _)); refine blk_put (cs := #[.string (a0.extract 0 (x4_1 : Int).toNat), .int .i64 2, .int .i64 0, .string (a0.extract ((ji9) : Int).toNat a0.size)]) ?_ 0 _ rfl; (with_reducible repeat (first | refine blk_drewN ?_ _ | refine blk_drew ?_ | refine blk_alloc ?_ _)); refine blk_put (cs := #[.string (a0.extract 0 (x4_1 : Int).toNat), .int .i64 2, .int .i64 0, .string (⟨#[]⟩ : ByteArray)]) ?_ 3 _ rfl; (with_reducible repeat (first | refine blk_drewN ?_ _ | refine blk_drew ?_ | refine blk_alloc ?_ _)); refine blk_put (cs := #[.string (a0.extract 0 (x4_1 : Int).toNat), .int .i64 2, .int .i64 0, .string (⟨#[]⟩ : ByteArray)]) ?_ 2 _ rfl; (with_reducible repeat (first | refine blk_drewN ?_ _ | refine blk_drew ?_ | refine blk_alloc ?_ _)); refine blk_put (cs := #[.string (a0.extract 0 (x4_1 : Int).toNat), .int .i64 0, .int .i64 0, .string (⟨#[]⟩ : ByteArray)]) ?_ 1 _ rfl; (with_reducible repeat (first | refine blk_drewN ?_ _ | refine blk_drew ?_ | refine blk_alloc ?_ _)); refine blk_put (cs := #[.string (⟨#[]⟩ : ByteArray), .int .i64 0, .int .i64 0, .string (⟨#[]⟩ : ByteArray)]) ?_ 0 _ rfl; (with_reducible repeat (first | refine blk_drewN ?_ _ | refine blk_drew ?_ | refine blk_alloc ?_ _)); exact BK192.out⟩
           have n2_ : Aside0 (Below w.heap.size w ((((((((w33.setCell ⟨gb192, 0, none⟩ (.string (a0.extract 0 (x4_1 : Int).toNat))).setCell ⟨gb192, 1, none⟩ (.int .i64 2)).setCell ⟨gb192, 2, none⟩ (.int .i64 0)).setCell ⟨gb192, 3, none⟩ (.string (a0.extract ((ji9) : Int).toNat a0.size))).setCell ⟨gb192, 0, none⟩ (.string (a0.extract 0 (x4_1 : Int).toNat))).setCell ⟨gb192, 1, none⟩ (.int .i64 1)).setCell ⟨gb192, 2, none⟩ (.int .i64 t193)).setCell ⟨gb192, 3, none⟩ (.string (⟨#[]⟩ : ByteArray)))) := ⟨by repeat (first | (with_reducible first | exact HB.out | apply below_alloc | apply pw_below_drewN | apply below_drew1 | refine below_set ?_ GE191.out | refine below_set ?_ GE192.out) | exact HB.out)⟩
           (try clear BK191)
           (try clear BK192)
           (try clear HB)
           (try simp only [sc_drewN])
           generalize ((((((((w33.setCell ⟨gb192, 0, none⟩ (.string (a0.extract 0 (x4_1 : Int).toNat))).setCell ⟨gb192, 1, none⟩ (.int .i64 2)).setCell ⟨gb192, 2, none⟩ (.int .i64 0)).setCell ⟨gb192, 3, none⟩ (.string (a0.extract ((ji9) : Int).toNat a0.size))).setCell ⟨gb192, 0, none⟩ (.string (a0.extract 0 (x4_1 : Int).toNat))).setCell ⟨gb192, 1, none⟩ (.int .i64 1)).setCell ⟨gb192, 2, none⟩ (.int .i64 t193)).setCell ⟨gb192, 3, none⟩ (.string (⟨#[]⟩ : ByteArray))) = w40 at n0_ n1_ n2_ ⊢
           have BK191 := n0_
           have BK192 := n1_
           have HB := n2_
           clear n0_ n1_ n2_
           (try (rw [drewN_self w40]; generalize hq_ : World.drewN w40 _ = w40; have n0_ : Aside0 (w40.heap[gb191]? = some (.cells #[.string x192000_1, .int .i64 x192001_1, .int .i64 x192002_1, .string x192003_1] 110 (0, 0))) := ⟨by rw [← hq_]; exact (bU_ BK191.out)⟩; have n1_ : Aside0 (w40.heap[gb192]? = some (.cells #[.string (a0.extract 0 (x4_1 : Int).toNat), .int .i64 1, .int .i64 t193, .string (⟨#[]⟩ : ByteArray)] 110 (0, 0))) := ⟨by rw [← hq_]; exact (bU_ BK192.out)⟩; have n2_ : Aside0 (Below w.heap.size w w40) := ⟨by rw [← hq_]; exact (by repeat (first | (with_reducible first | exact HB.out | apply below_alloc | apply pw_below_drewN | apply below_drew1 | refine below_set ?_ GE191.out | refine below_set ?_ GE192.out) | exact HB.out))⟩; clear BK191 BK192 HB hq_; have BK191 := n0_; have BK192 := n1_; have HB := n2_; clear n0_ n1_ n2_))
           have n0_ := Aside0.mk (blk_drew BK191.out)
           have n1_ := Aside0.mk (blk_drew BK192.out)
           have n2_ := Aside0.mk (below_drew1 HB.out)
           clear BK191
           clear BK192
           clear HB
           have BK191 := n0_
           have BK192 := n1_
           have HB := n2_
           clear n0_ n1_ n2_
           refine start_ (n := 12) (S := fun w' => w'.cell? ⟨gb192, 0, none⟩ = some (.string (a0.extract 0 (x4_1 : Int).toNat)) ∧ w'.cell? ⟨gb192, 1, none⟩ = some (.int .i64 1) ∧ w'.cell? ⟨gb192, 2, none⟩ = some (.int .i64 t193) ∧ w'.cell? ⟨gb192, 3, none⟩ = some (.string (⟨#[]⟩ : ByteArray))) (ds := []) #[false, false, false, false, false, false, false, false, false, false, false, false] (by kernel_rfl) rfl rfl ⟨(blk_cell BK192.out 0).trans rfl, (blk_cell BK192.out 1).trans rfl, (blk_cell BK192.out 2).trans rfl, (blk_cell BK192.out 3).trans rfl⟩ (fun hHeld => ?_); refine with_tabW dragnetref08_One.tab9 dragnetref08_One.bits9 (fun HT_ HW_ => ?_)
           generalize w40.drew = w41 at BK191 BK192 HB hHeld ⊢
           refine pS 1 (some 39) HT_ ?_
           refine tS 0 (some 38) HT_ HW_ hHeld ?_
           refine tS 2 (some 40) HT_ HW_ hHeld ?_
           refine one_ (i := 3) (N := some 41) #[true, true, true, true, false, false, false, false, false, false, false, false] rfl rfl (one_of HT_.out (by kernel_rfl)) (by decide) (fun K hK => ?_)
           refine goes_ Tryz.func41 (by kernel_rfl) rfl #[.string (a0.extract 0 (x4_1 : Int).toNat)] (by rfl) rfl rfl mp_ ?_
           with_reducible refine (dragnetref08_IsKey.calls k1 (a0.extract 0 (x4_1 : Int).toNat) false _ A16.out).mono ?_
           rintro e w' ⟨rfl, ⟨nd, rfl⟩⟩
           refine ⟨_, rfl, ?_⟩
           refine hK.out _ _ ⟨(blk_cell BK192.out 0).trans rfl, (blk_cell BK192.out 1).trans rfl, (blk_cell BK192.out 2).trans rfl, (blk_cell BK192.out 3).trans rfl⟩ (fun hHeld => ?_)
           clear hK K
           refine norm_ (a' := ?_) ?_ ?_
           rotate_left
           ·show Act.put _ (some 41) _ = _
            simp only [Act.put, List.setIfInBounds_toArray, List.set_cons_zero, List.set_cons_succ, i64_w, i32_w]
            rfl
           refine pS 4 (some 42) HT_ ?_
           refine uS 5 (some 43) HT_ ?_
           refine uS 6 (some 44) HT_ ?_
           refine uS 7 (some 45) HT_ ?_
           refine uS 8 (some 46) HT_ ?_
           refine pS 9 (some 47) HT_ ?_
           refine one_ (i := 10) (N := none) #[true, true, true, true, true, true, true, true, true, true, true, false] rfl rfl (one_of HT_.out (by kernel_rfl)) (by decide) (fun K hK => ?_)
           have hs42 : w41.cell? ⟨gb191, 0, none⟩ = some (.string x192000_1) := (blk_cell BK191.out 0).trans rfl
           have hfs42 := blk_frozen BK191.out 0
           have hns42_1 := NB192_191.out
           have hms42_1 := NB191_192.out
           have hs43 : w41.cell? ⟨gb191, 1, none⟩ = some (.int .i64 x192001_1) := (blk_cell BK191.out 1).trans rfl
           have hfs43 := blk_frozen BK191.out 1
           have hns43_1 := NB192_191.out
           have hms43_1 := NB191_192.out
           have hs44 : w41.cell? ⟨gb191, 2, none⟩ = some (.int .i64 x192002_1) := (blk_cell BK191.out 2).trans rfl
           have hfs44 := blk_frozen BK191.out 2
           have hns44_1 := NB192_191.out
           have hms44_1 := NB191_192.out
           have hs45 : w41.cell? ⟨gb191, 3, none⟩ = some (.string x192003_1) := (blk_cell BK191.out 3).trans rfl
           have hfs45 := blk_frozen BK191.out 3
           have hns45_1 := NB192_191.out
           have hms45_1 := NB191_192.out
           refine skip_ (w1 := ?_) (by rfl) rfl ?_ ?_
           rotate_left
           ·go_simp
            rfl
           refine hK.out _ _ ⟨((cell_far (p := ⟨gb191, _, none⟩) NB192_191.out _).trans (((cell_far (p := ⟨gb191, _, none⟩) NB192_191.out _).trans (((cell_far (p := ⟨gb191, _, none⟩) NB192_191.out _).trans (((cell_far (p := ⟨gb191, _, none⟩) NB192_191.out _).trans (hHeld.1)))))))), ((cell_far (p := ⟨gb191, _, none⟩) NB192_191.out _).trans (((cell_far (p := ⟨gb191, _, none⟩) NB192_191.out _).trans (((cell_far (p := ⟨gb191, _, none⟩) NB192_191.out _).trans (((cell_far (p := ⟨gb191, _, none⟩) NB192_191.out _).trans (hHeld.2.1)))))))), ((cell_far (p := ⟨gb191, _, none⟩) NB192_191.out _).trans (((cell_far (p := ⟨gb191, _, none⟩) NB192_191.out _).trans (((cell_far (p := ⟨gb191, _, none⟩) NB192_191.out _).trans (((cell_far (p := ⟨gb191, _, none⟩) NB192_191.out _).trans (hHeld.2.2.1)))))))), ((cell_far (p := ⟨gb191, _, none⟩) NB192_191.out _).trans (((cell_far (p := ⟨gb191, _, none⟩) NB192_191.out _).trans (((cell_far (p := ⟨gb191, _, none⟩) NB192_191.out _).trans (((cell_far (p := ⟨gb191, _, none⟩) NB192_191.out _).trans (hHeld.2.2.2))))))))⟩ (fun hHeld => ?_)
           clear hK K
           refine pS 11 (some 3) HT_ ?_
           refine done_ (done_of HT_.out (by kernel_rfl)) ?_
           try go_wp2
           refine bodyPost_ret (results_ct rfl _ _ gb191 110 #[.string (a0.extract 0 (x4_1 : Int).toNat), .int .i64 1, .int .i64 t193, .string (⟨#[]⟩ : ByteArray)] (0, 0) _ rfl (by (with_reducible repeat (first | refine blk_drewN ?_ _ | refine blk_drew ?_ | refine blk_alloc ?_ _)); refine blk_put (cs := #[.string (a0.extract 0 (x4_1 : Int).toNat), .int .i64 1, .int .i64 t193, .string x192003_1]) ?_ 3 _ rfl; (with_reducible repeat (first | refine blk_drewN ?_ _ | refine blk_drew ?_ | refine blk_alloc ?_ _)); refine blk_put (cs := #[.string (a0.extract 0 (x4_1 : Int).toNat), .int .i64 1, .int .i64 x192002_1, .string x192003_1]) ?_ 2 _ rfl; (with_reducible repeat (first | refine blk_drewN ?_ _ | refine blk_drew ?_ | refine blk_alloc ?_ _)); refine blk_put (cs := #[.string (a0.extract 0 (x4_1 : Int).toNat), .int .i64 x192001_1, .int .i64 x192002_1, .string x192003_1]) ?_ 1 _ rfl; (with_reducible repeat (first | refine blk_drewN ?_ _ | refine blk_drew ?_ | refine blk_alloc ?_ _)); refine blk_put (cs := #[.string x192000_1, .int .i64 x192001_1, .int .i64 x192002_1, .string x192003_1]) ?_ 0 _ rfl; (with_reducible repeat (first | refine blk_drewN ?_ _ | refine blk_drew ?_ | refine blk_alloc ?_ _)); exact BK191.out) Tryz.underlying110 rfl (by kernel_rfl)) rfl ?_
           exact ⟨by first | rfl | (simp [errW_none, errW_some] <;> rfl) | (simp only [← hji9]; first | rfl | (simp [errW_none, errW_some] <;> rfl)) | (simp [*, errW_none, errW_some] <;> rfl), by repeat (first | (with_reducible first | exact HB.out | apply below_alloc | apply pw_below_drewN | apply below_drew1 | refine below_set ?_ GE191.out | refine below_set ?_ GE192.out) | exact HB.out)⟩
         ·replace c13 := Bool.eq_false_iff.mpr c13
          subst c13
          have H1 : ((dragnetref08_IsKey.f k1 (a0.extract 0 (x4_1 : Int).toNat)).bind fun t196 => (if t196 = true then (some (a0.extract 0 (x4_1 : Int).toNat, 2, 0, a0.extract ((ji9) : Int).toNat a0.size, decide (((a0.extract ((ji9) : Int).toNat a0.size).size : Int) ≤ 64))) else (some (a0.extract 0 (x4_1 : Int).toNat, 2, 0, a0.extract ((ji9) : Int).toNat a0.size, false)))) = some (r1, r2, r3, r4, r5) := by rw [if_neg (show ¬ (false = true) by decide)] at H; exact H
          clear H
          have H := H1
          clear H1
          replace H := Option.bind_eq_some_iff.mp H
          obtain ⟨t196, A460, H⟩ := H
          replace H : (if t196 = true then (some (a0.extract 0 (x4_1 : Int).toNat, 2, 0, a0.extract ((ji9) : Int).toNat a0.size, decide (((a0.extract ((ji9) : Int).toNat a0.size).size : Int) ≤ 64))) else (some (a0.extract 0 (x4_1 : Int).toNat, 2, 0, a0.extract ((ji9) : Int).toNat a0.size, false))) = some (r1, r2, r3, r4, r5) := H
          have A46 := Aside0.mk A460
          clear A460
          by_cases c47 : t196 = true
          ·subst c47
           have H1 : (some (a0.extract 0 (x4_1 : Int).toNat, 2, 0, a0.extract ((ji9) : Int).toNat a0.size, decide (((a0.extract ((ji9) : Int).toNat a0.size).size : Int) ≤ 64))) = some (r1, r2, r3, r4, r5) := by rw [if_pos rfl] at H; exact H
           clear H
           have H := H1
           clear H1
           simp only [Option.some.injEq, Prod.mk.injEq] at H
           obtain ⟨rfl, rfl, rfl, rfl, rfl⟩ := H
           have p5 : 0 ≤ (x4_1 : Int) := of_decide_eq_true as_
           have q5 : x4_1 < (a0.size : Int) := of_decide_eq_true as_
           have hx5 := bt_at a0 x4_1
           replace p5 := eq_true p5
           replace q5 := eq_true q5
           try go_wp2
           have n0_ := Aside0.mk (blk_drew BK191.out)
           have n1_ := Aside0.mk (below_drew1 HB.out)
           clear BK191
           clear HB
           have BK191 := n0_
           have HB := n1_
           clear n0_ n1_
           refine start_ (n := 10) (S := fun w' => True) (ds := []) #[false, false, false, false, false, false, false, false, false, false] (by kernel_rfl) rfl rfl trivial (fun hHeld => ?_); refine with_tabW dragnetref08_One.tab5 dragnetref08_One.bits5 (fun HT_ HW_ => ?_)
           generalize wr.drew = w48 at BK191 HB hHeld ⊢
           refine pS 0 (some 18) HT_ ?_
           refine pS 1 (some 19) HT_ ?_
           refine pS 2 (some 20) HT_ ?_
           refine pS 3 (some 21) HT_ ?_
           refine pS 4 (some 22) HT_ ?_
           refine pS 5 (some 23) HT_ ?_
           refine pS 6 (some 24) HT_ ?_
           refine pS 7 (some 25) HT_ ?_
           refine one_ (i := 8) (N := some 5) #[true, true, true, true, true, true, true, true, true, false] rfl rfl (one_of HT_.out (by kernel_rfl)) (by decide) (fun K hK => ?_)
           refine box_step ?hg (N := 5) ?hd (cs := #[.string (⟨#[]⟩ : ByteArray), .int .i64 0, .int .i64 0, .string (⟨#[]⟩ : ByteArray)]) (t := 110) ?hr ?_; (case hd => rfl); (case hg => rfl); (case hr => first | (go_simp; done) | (go_simp; rfl))
           intro gb192 hg w49 hbox hb
           have n0_ := bkA BK191 hb
           have n1_ := bsA HB hb
           have n2_ := Aside0.mk (hbox)
           have n3_ := szA HB hg
           have n4_ := szA HB hg
           have n5_ := neA BK191 hg
           have n6_ := neB BK191 hg
           clear BK191
           clear HB
           have BK191 := n0_
           have HB := n1_
           have BK192 := n2_
           have GW192 := n3_
           have GE192 := n4_
           have NB191_192 := n5_
           have NB192_191 := n6_
           clear n0_ n1_ n2_ n3_ n4_ n5_ n6_
           clear hb hbox hg
           refine hK.out _ _ trivial (fun hHeld => ?_)
           clear hK K
           refine norm_ (a' := ?_) ?_ ?_
           rotate_left
           ·show Act.put _ (some 5) _ = _
            simp only [Act.put, List.setIfInBounds_toArray, List.set_cons_zero, List.set_cons_succ, i64_w, i32_w]
            rfl
           refine one_ (i := 9) (N := none) #[true, true, true, true, true, true, true, true, true, true] rfl rfl (one_of HT_.out (by kernel_rfl)) (by decide) (fun K hK => ?_)
           have hs50 : w49.cell? ⟨gb192, 0, none⟩ = some (.string (⟨#[]⟩ : ByteArray)) := (blk_cell BK192.out 0).trans rfl
           have hfs50 := blk_frozen BK192.out 0
           have hns50_0 := NB191_192.out
           have hms50_0 := NB192_191.out
           have hs51 : w49.cell? ⟨gb192, 1, none⟩ = some (.int .i64 0) := (blk_cell BK192.out 1).trans rfl
           have hfs51 := blk_frozen BK192.out 1
           have hns51_0 := NB191_192.out
           have hms51_0 := NB192_191.out
           have hs52 : w49.cell? ⟨gb192, 2, none⟩ = some (.int .i64 0) := (blk_cell BK192.out 2).trans rfl
           have hfs52 := blk_frozen BK192.out 2
           have hns52_0 := NB191_192.out
           have hms52_0 := NB192_191.out
           have hs53 : w49.cell? ⟨gb192, 3, none⟩ = some (.string (⟨#[]⟩ : ByteArray)) := (blk_cell BK192.out 3).trans rfl
           have hfs53 := blk_frozen BK192.out 3
           have hns53_0 := NB191_192.out
           have hms53_0 := NB192_191.out
           refine skip_ (w1 := ?_) (by rfl) rfl ?_ ?_
           rotate_left
           ·go_simp
            rfl
           refine hK.out _ _ trivial (fun hHeld => ?_)
           clear hK K
           refine done_ (done_of HT_.out (by kernel_rfl)) ?_
           have hnb54 := NB192_191.out
           have hnc54 := NB191_192.out
           have hcz55_0 : w49.cell? ⟨gb192, 0, none⟩ = some (.string (⟨#[]⟩ : ByteArray)) := (blk_cell BK192.out 0).trans rfl
           have hcz55_1 : w49.cell? ⟨gb192, 1, none⟩ = some (.int .i64 0) := (blk_cell BK192.out 1).trans rfl
           have hcz55_2 : w49.cell? ⟨gb192, 2, none⟩ = some (.int .i64 0) := (blk_cell BK192.out 2).trans rfl
           have hcz55_3 : w49.cell? ⟨gb192, 3, none⟩ = some (.string (⟨#[]⟩ : ByteArray)) := (blk_cell BK192.out 3).trans rfl
           have hfz55_0 := blk_frozen BK192.out 0
           have hfz55_1 := blk_frozen BK192.out 1
           have hfz55_2 := blk_frozen BK192.out 2
           have hfz55_3 := blk_frozen BK192.out 3
           try go_wp2_with (first | ((with_reducible refine gate_callee (f := 134) rfl ?_); refine goesL_ (some 29) rfl rfl Tryz.func134 (by kernel_rfl) rfl #[.string (a0.extract ((ji9) : Int).toNat a0.size)] rfl (by (try simp only [List.map_toArray, List.map_cons, List.map_nil]); first | done | (simp only [hji9]; rfl) | rfl | (simp only [List.length_drop, List.length_take]; rfl)) ?_; (with_reducible refine (dragnetref08_Number.calls k1 (a0.extract ((ji9) : Int).toNat a0.size) t193 false _ A12.out).mono ?_); rintro e w' ⟨rfl, ⟨nd, rfl⟩⟩; refine ⟨_, rfl, ?_⟩))
           have n0_ : Aside0 (((((w49.setCell ⟨gb192, 0, none⟩ (.string (a0.extract 0 (x4_1 : Int).toNat))).setCell ⟨gb192, 1, none⟩ (.int .i64 2)).setCell ⟨gb192, 2, none⟩ (.int .i64 0)).setCell ⟨gb192, 3, none⟩ (.string (a0.extract ((ji9) : Int).toNat a0.size))).heap[gb191]? = some (.cells #[.string x192000_1, .int .i64 x192001_1, .int .i64 x192002_1, .string x192003_1] 110 (0, 0))) := ⟨by (with_reducible repeat (first | refine blk_drewN ?_ _ | refine blk_drew ?_ | refine blk_alloc ?_ _)); refine blk_far ?_ NB191_192.out _; (with_reducible repeat (first | refine blk_drewN ?_ _ | refine blk_drew ?_ | refine blk_alloc ?_ _)); refine blk_far ?_ NB191_192.out _; (with_reducible repeat (first | refine blk_drewN ?_ _ | refine blk_drew ?_ | refine blk_alloc ?_ _)); refine blk_far ?_ NB191_192.out _; (with_reducible repeat (first | refine blk_drewN ?_ _ | refine blk_drew ?_ | refine blk_alloc ?_ _)); refine blk_far ?_ NB191_192.out _; (with_reducible repeat (first | refine blk_drewN ?_ _ | refine blk_drew ?_ | refine blk_alloc ?_ _)); exact BK191.out⟩
           have n1_ : Aside0 (((((w49.setCell ⟨gb192, 0, none⟩ (.string (a0.extract 0 (x4_1 : Int).toNat))).setCell ⟨gb192, 1, none⟩ (.int .i64 2)).setCell ⟨gb192, 2, none⟩ (.int .i64 0)).setCell ⟨gb192, 3, none⟩ (.string (a0.extract ((ji9) : Int).toNat a0.size))).heap[gb192]? = some (.cells #[.string (a0.extract 0 (x4_1 : Int).toNat), .int .i64 2, .int .i64 0, .string (a0.extract ((ji9) : Int).toNat a0.size)] 110 (0, 0))) := ⟨by (with_reducible repeat (first | refine blk_drewN ?_ _ | refine blk_drew ?_ | refine blk_alloc ?_ _)); refine blk_put (cs := #[.string (a0.extract 0 (x4_1 : Int).toNat), .int .i64 2, .int .i64 0, .string (⟨#[]⟩ : ByteArray)]) ?_ 3 _ rfl; (with_reducible repeat (first | refine blk_drewN ?_ _ | refine blk_drew ?_ | refine blk_alloc ?_ _)); refine blk_put (cs := #[.string (a0.extract 0 (x4_1 : Int).toNat), .int .i64 2, .int .i64 0, .string (⟨#[]⟩ : ByteArray)]) ?_ 2 _ rfl; (with_reducible repeat (first | refine blk_drewN ?_ _ | refine blk_drew ?_ | refine blk_alloc ?_ _)); refine blk_put (cs := #[.string (a0.extract 0 (x4_1 : Int).toNat), .int .i64 0, .int .i64 0, .string (⟨#[]⟩ : ByteArray)]) ?_ 1 _ rfl; (with_reducible repeat (first | refine blk_drewN ?_ _ | refine blk_drew ?_ | refine blk_alloc ?_ _)); refine blk_put (cs := #[.string (⟨#[]⟩ : ByteArray), .int .i64 0, .int .i64 0, .string (⟨#[]⟩ : ByteArray)]) ?_ 0 _ rfl; (with_reducible repeat (first | refine blk_drewN ?_ _ | refine blk_drew ?_ | refine blk_alloc ?_ _)); exact BK192.out⟩
           have n2_ : Aside0 (Below w.heap.size w ((((w49.setCell ⟨gb192, 0, none⟩ (.string (a0.extract 0 (x4_1 : Int).toNat))).setCell ⟨gb192, 1, none⟩ (.int .i64 2)).setCell ⟨gb192, 2, none⟩ (.int .i64 0)).setCell ⟨gb192, 3, none⟩ (.string (a0.extract ((ji9) : Int).toNat a0.size)))) := ⟨by repeat (first | (with_reducible first | exact HB.out | apply below_alloc | apply pw_below_drewN | apply below_drew1 | refine below_set ?_ GE191.out | refine below_set ?_ GE192.out) | exact HB.out)⟩
           (try clear BK191)
           (try clear BK192)
           (try clear HB)
           (try simp only [sc_drewN])
           generalize ((((w49.setCell ⟨gb192, 0, none⟩ (.string (a0.extract 0 (x4_1 : Int).toNat))).setCell ⟨gb192, 1, none⟩ (.int .i64 2)).setCell ⟨gb192, 2, none⟩ (.int .i64 0)).setCell ⟨gb192, 3, none⟩ (.string (a0.extract ((ji9) : Int).toNat a0.size))) = w56 at n0_ n1_ n2_ ⊢
           have BK191 := n0_
           have BK192 := n1_
           have HB := n2_
           clear n0_ n1_ n2_
           (try (rw [drewN_self w56]; generalize hq_ : World.drewN w56 _ = w56; have n0_ : Aside0 (w56.heap[gb191]? = some (.cells #[.string x192000_1, .int .i64 x192001_1, .int .i64 x192002_1, .string x192003_1] 110 (0, 0))) := ⟨by rw [← hq_]; exact (bU_ BK191.out)⟩; have n1_ : Aside0 (w56.heap[gb192]? = some (.cells #[.string (a0.extract 0 (x4_1 : Int).toNat), .int .i64 2, .int .i64 0, .string (a0.extract ((ji9) : Int).toNat a0.size)] 110 (0, 0))) := ⟨by rw [← hq_]; exact (bU_ BK192.out)⟩; have n2_ : Aside0 (Below w.heap.size w w56) := ⟨by rw [← hq_]; exact (by repeat (first | (with_reducible first | exact HB.out | apply below_alloc | apply pw_below_drewN | apply below_drew1 | refine below_set ?_ GE191.out | refine below_set ?_ GE192.out) | exact HB.out))⟩; clear BK191 BK192 HB hq_; have BK191 := n0_; have BK192 := n1_; have HB := n2_; clear n0_ n1_ n2_))
           have n0_ := Aside0.mk (blk_drew BK191.out)
           have n1_ := Aside0.mk (blk_drew BK192.out)
           have n2_ := Aside0.mk (below_drew1 HB.out)
           clear BK191
           clear BK192
           clear HB
           have BK191 := n0_
           have BK192 := n1_
           have HB := n2_
           clear n0_ n1_ n2_
           refine start_ (n := 12) (S := fun w' => w'.cell? ⟨gb192, 0, none⟩ = some (.string (a0.extract 0 (x4_1 : Int).toNat)) ∧ w'.cell? ⟨gb192, 1, none⟩ = some (.int .i64 2) ∧ w'.cell? ⟨gb192, 2, none⟩ = some (.int .i64 0) ∧ w'.cell? ⟨gb192, 3, none⟩ = some (.string (a0.extract ((ji9) : Int).toNat a0.size))) (ds := []) #[false, false, false, false, false, false, false, false, false, false, false, false] (by kernel_rfl) rfl rfl ⟨(blk_cell BK192.out 0).trans rfl, (blk_cell BK192.out 1).trans rfl, (blk_cell BK192.out 2).trans rfl, (blk_cell BK192.out 3).trans rfl⟩ (fun hHeld => ?_); refine with_tabW dragnetref08_One.tab9 dragnetref08_One.bits9 (fun HT_ HW_ => ?_)
           generalize w56.drew = w57 at BK191 BK192 HB hHeld ⊢
           refine pS 1 (some 39) HT_ ?_
           refine tS 0 (some 38) HT_ HW_ hHeld ?_
           refine tS 2 (some 40) HT_ HW_ hHeld ?_
           refine one_ (i := 3) (N := some 41) #[true, true, true, true, false, false, false, false, false, false, false, false] rfl rfl (one_of HT_.out (by kernel_rfl)) (by decide) (fun K hK => ?_)
           refine goes_ Tryz.func41 (by kernel_rfl) rfl #[.string (a0.extract 0 (x4_1 : Int).toNat)] (by rfl) rfl rfl mp_ ?_
           with_reducible refine (dragnetref08_IsKey.calls k1 (a0.extract 0 (x4_1 : Int).toNat) true _ A46.out).mono ?_
           rintro e w' ⟨rfl, ⟨nd, rfl⟩⟩
           refine ⟨_, rfl, ?_⟩
           refine hK.out _ _ ⟨(blk_cell BK192.out 0).trans rfl, (blk_cell BK192.out 1).trans rfl, (blk_cell BK192.out 2).trans rfl, (blk_cell BK192.out 3).trans rfl⟩ (fun hHeld => ?_)
           clear hK K
           refine norm_ (a' := ?_) ?_ ?_
           rotate_left
           ·show Act.put _ (some 41) _ = _
            simp only [Act.put, List.setIfInBounds_toArray, List.set_cons_zero, List.set_cons_succ, i64_w, i32_w]
            rfl
           refine pS 4 (some 42) HT_ ?_
           refine pS 5 (some 43) HT_ ?_
           refine tS 6 (some 44) HT_ HW_ hHeld ?_
           refine pS 7 (some 45) HT_ ?_
           refine pS 8 (some 46) HT_ ?_
           refine pS 9 (some 47) HT_ ?_
           refine one_ (i := 10) (N := none) #[true, true, true, true, true, true, true, true, true, true, true, false] rfl rfl (one_of HT_.out (by kernel_rfl)) (by decide) (fun K hK => ?_)
           have hs58 : w57.cell? ⟨gb191, 0, none⟩ = some (.string x192000_1) := (blk_cell BK191.out 0).trans rfl
           have hfs58 := blk_frozen BK191.out 0
           have hns58_1 := NB192_191.out
           have hms58_1 := NB191_192.out
           have hs59 : w57.cell? ⟨gb191, 1, none⟩ = some (.int .i64 x192001_1) := (blk_cell BK191.out 1).trans rfl
           have hfs59 := blk_frozen BK191.out 1
           have hns59_1 := NB192_191.out
           have hms59_1 := NB191_192.out
           have hs60 : w57.cell? ⟨gb191, 2, none⟩ = some (.int .i64 x192002_1) := (blk_cell BK191.out 2).trans rfl
           have hfs60 := blk_frozen BK191.out 2
           have hns60_1 := NB192_191.out
           have hms60_1 := NB191_192.out
           have hs61 : w57.cell? ⟨gb191, 3, none⟩ = some (.string x192003_1) := (blk_cell BK191.out 3).trans rfl
           have hfs61 := blk_frozen BK191.out 3
           have hns61_1 := NB192_191.out
           have hms61_1 := NB191_192.out
           refine skip_ (w1 := ?_) (by rfl) rfl ?_ ?_
           rotate_left
           ·go_simp
            rfl
           refine hK.out _ _ ⟨((cell_far (p := ⟨gb191, _, none⟩) NB192_191.out _).trans (((cell_far (p := ⟨gb191, _, none⟩) NB192_191.out _).trans (((cell_far (p := ⟨gb191, _, none⟩) NB192_191.out _).trans (((cell_far (p := ⟨gb191, _, none⟩) NB192_191.out _).trans (hHeld.1)))))))), ((cell_far (p := ⟨gb191, _, none⟩) NB192_191.out _).trans (((cell_far (p := ⟨gb191, _, none⟩) NB192_191.out _).trans (((cell_far (p := ⟨gb191, _, none⟩) NB192_191.out _).trans (((cell_far (p := ⟨gb191, _, none⟩) NB192_191.out _).trans (hHeld.2.1)))))))), ((cell_far (p := ⟨gb191, _, none⟩) NB192_191.out _).trans (((cell_far (p := ⟨gb191, _, none⟩) NB192_191.out _).trans (((cell_far (p := ⟨gb191, _, none⟩) NB192_191.out _).trans (((cell_far (p := ⟨gb191, _, none⟩) NB192_191.out _).trans (hHeld.2.2.1)))))))), ((cell_far (p := ⟨gb191, _, none⟩) NB192_191.out _).trans (((cell_far (p := ⟨gb191, _, none⟩) NB192_191.out _).trans (((cell_far (p := ⟨gb191, _, none⟩) NB192_191.out _).trans (((cell_far (p := ⟨gb191, _, none⟩) NB192_191.out _).trans (hHeld.2.2.2))))))))⟩ (fun hHeld => ?_)
           clear hK K
           refine pS 11 (some 3) HT_ ?_
           refine done_ (done_of HT_.out (by kernel_rfl)) ?_
           try go_wp2
           refine bodyPost_ret (results_ct rfl _ _ gb191 110 #[.string (a0.extract 0 (x4_1 : Int).toNat), .int .i64 2, .int .i64 0, .string (a0.extract ((ji9) : Int).toNat a0.size)] (0, 0) _ rfl (by (with_reducible repeat (first | refine blk_drewN ?_ _ | refine blk_drew ?_ | refine blk_alloc ?_ _)); refine blk_put (cs := #[.string (a0.extract 0 (x4_1 : Int).toNat), .int .i64 2, .int .i64 0, .string x192003_1]) ?_ 3 _ rfl; (with_reducible repeat (first | refine blk_drewN ?_ _ | refine blk_drew ?_ | refine blk_alloc ?_ _)); refine blk_put (cs := #[.string (a0.extract 0 (x4_1 : Int).toNat), .int .i64 2, .int .i64 x192002_1, .string x192003_1]) ?_ 2 _ rfl; (with_reducible repeat (first | refine blk_drewN ?_ _ | refine blk_drew ?_ | refine blk_alloc ?_ _)); refine blk_put (cs := #[.string (a0.extract 0 (x4_1 : Int).toNat), .int .i64 x192001_1, .int .i64 x192002_1, .string x192003_1]) ?_ 1 _ rfl; (with_reducible repeat (first | refine blk_drewN ?_ _ | refine blk_drew ?_ | refine blk_alloc ?_ _)); refine blk_put (cs := #[.string x192000_1, .int .i64 x192001_1, .int .i64 x192002_1, .string x192003_1]) ?_ 0 _ rfl; (with_reducible repeat (first | refine blk_drewN ?_ _ | refine blk_drew ?_ | refine blk_alloc ?_ _)); exact BK191.out) Tryz.underlying110 rfl (by kernel_rfl)) rfl ?_
           exact ⟨by first | rfl | (simp [errW_none, errW_some] <;> rfl) | (simp only [← hji9]; first | rfl | (simp [errW_none, errW_some] <;> rfl)) | (simp [*, errW_none, errW_some] <;> rfl), by repeat (first | (with_reducible first | exact HB.out | apply below_alloc | apply pw_below_drewN | apply below_drew1 | refine below_set ?_ GE191.out | refine below_set ?_ GE192.out) | exact HB.out)⟩
          ·replace c47 := Bool.eq_false_iff.mpr c47
           subst c47
           have H1 : (some (a0.extract 0 (x4_1 : Int).toNat, 2, 0, a0.extract ((ji9) : Int).toNat a0.size, false)) = some (r1, r2, r3, r4, r5) := by rw [if_neg (show ¬ (false = true) by decide)] at H; exact H
           clear H
           have H := H1
           clear H1
           simp only [Option.some.injEq, Prod.mk.injEq] at H
           obtain ⟨rfl, rfl, rfl, rfl, rfl⟩ := H
           have p5 : 0 ≤ (x4_1 : Int) := of_decide_eq_true as_
           have q5 : x4_1 < (a0.size : Int) := of_decide_eq_true as_
           have hx5 := bt_at a0 x4_1
           replace p5 := eq_true p5
           replace q5 := eq_true q5
           try go_wp2
           have n0_ := Aside0.mk (blk_drew BK191.out)
           have n1_ := Aside0.mk (below_drew1 HB.out)
           clear BK191
           clear HB
           have BK191 := n0_
           have HB := n1_
           clear n0_ n1_
           refine start_ (n := 10) (S := fun w' => True) (ds := []) #[false, false, false, false, false, false, false, false, false, false] (by kernel_rfl) rfl rfl trivial (fun hHeld => ?_); refine with_tabW dragnetref08_One.tab5 dragnetref08_One.bits5 (fun HT_ HW_ => ?_)
           generalize wr.drew = w62 at BK191 HB hHeld ⊢
           refine pS 0 (some 18) HT_ ?_
           refine pS 1 (some 19) HT_ ?_
           refine pS 2 (some 20) HT_ ?_
           refine pS 3 (some 21) HT_ ?_
           refine pS 4 (some 22) HT_ ?_
           refine pS 5 (some 23) HT_ ?_
           refine pS 6 (some 24) HT_ ?_
           refine pS 7 (some 25) HT_ ?_
           refine one_ (i := 8) (N := some 5) #[true, true, true, true, true, true, true, true, true, false] rfl rfl (one_of HT_.out (by kernel_rfl)) (by decide) (fun K hK => ?_)
           refine box_step ?hg (N := 5) ?hd (cs := #[.string (⟨#[]⟩ : ByteArray), .int .i64 0, .int .i64 0, .string (⟨#[]⟩ : ByteArray)]) (t := 110) ?hr ?_; (case hd => rfl); (case hg => rfl); (case hr => first | (go_simp; done) | (go_simp; rfl))
           intro gb192 hg w63 hbox hb
           have n0_ := bkA BK191 hb
           have n1_ := bsA HB hb
           have n2_ := Aside0.mk (hbox)
           have n3_ := szA HB hg
           have n4_ := szA HB hg
           have n5_ := neA BK191 hg
           have n6_ := neB BK191 hg
           clear BK191
           clear HB
           have BK191 := n0_
           have HB := n1_
           have BK192 := n2_
           have GW192 := n3_
           have GE192 := n4_
           have NB191_192 := n5_
           have NB192_191 := n6_
           clear n0_ n1_ n2_ n3_ n4_ n5_ n6_
           clear hb hbox hg
           refine hK.out _ _ trivial (fun hHeld => ?_)
           clear hK K
           refine norm_ (a' := ?_) ?_ ?_
           rotate_left
           ·show Act.put _ (some 5) _ = _
            simp only [Act.put, List.setIfInBounds_toArray, List.set_cons_zero, List.set_cons_succ, i64_w, i32_w]
            rfl
           refine one_ (i := 9) (N := none) #[true, true, true, true, true, true, true, true, true, true] rfl rfl (one_of HT_.out (by kernel_rfl)) (by decide) (fun K hK => ?_)
           have hs64 : w63.cell? ⟨gb192, 0, none⟩ = some (.string (⟨#[]⟩ : ByteArray)) := (blk_cell BK192.out 0).trans rfl
           have hfs64 := blk_frozen BK192.out 0
           have hns64_0 := NB191_192.out
           have hms64_0 := NB192_191.out
           have hs65 : w63.cell? ⟨gb192, 1, none⟩ = some (.int .i64 0) := (blk_cell BK192.out 1).trans rfl
           have hfs65 := blk_frozen BK192.out 1
           have hns65_0 := NB191_192.out
           have hms65_0 := NB192_191.out
           have hs66 : w63.cell? ⟨gb192, 2, none⟩ = some (.int .i64 0) := (blk_cell BK192.out 2).trans rfl
           have hfs66 := blk_frozen BK192.out 2
           have hns66_0 := NB191_192.out
           have hms66_0 := NB192_191.out
           have hs67 : w63.cell? ⟨gb192, 3, none⟩ = some (.string (⟨#[]⟩ : ByteArray)) := (blk_cell BK192.out 3).trans rfl
           have hfs67 := blk_frozen BK192.out 3
           have hns67_0 := NB191_192.out
           have hms67_0 := NB192_191.out
           refine skip_ (w1 := ?_) (by rfl) rfl ?_ ?_
           rotate_left
           ·go_simp
            rfl
           refine hK.out _ _ trivial (fun hHeld => ?_)
           clear hK K
           refine done_ (done_of HT_.out (by kernel_rfl)) ?_
           have hnb68 := NB192_191.out
           have hnc68 := NB191_192.out
           have hcz69_0 : w63.cell? ⟨gb192, 0, none⟩ = some (.string (⟨#[]⟩ : ByteArray)) := (blk_cell BK192.out 0).trans rfl
           have hcz69_1 : w63.cell? ⟨gb192, 1, none⟩ = some (.int .i64 0) := (blk_cell BK192.out 1).trans rfl
           have hcz69_2 : w63.cell? ⟨gb192, 2, none⟩ = some (.int .i64 0) := (blk_cell BK192.out 2).trans rfl
           have hcz69_3 : w63.cell? ⟨gb192, 3, none⟩ = some (.string (⟨#[]⟩ : ByteArray)) := (blk_cell BK192.out 3).trans rfl
           have hfz69_0 := blk_frozen BK192.out 0
           have hfz69_1 := blk_frozen BK192.out 1
           have hfz69_2 := blk_frozen BK192.out 2
           have hfz69_3 := blk_frozen BK192.out 3
           try go_wp2_with (first | ((with_reducible refine gate_callee (f := 134) rfl ?_); refine goesL_ (some 29) rfl rfl Tryz.func134 (by kernel_rfl) rfl #[.string (a0.extract ((ji9) : Int).toNat a0.size)] rfl (by (try simp only [List.map_toArray, List.map_cons, List.map_nil]); first | done | (simp only [hji9]; rfl) | rfl | (simp only [List.length_drop, List.length_take]; rfl)) ?_; (with_reducible refine (dragnetref08_Number.calls k1 (a0.extract ((ji9) : Int).toNat a0.size) t193 false _ A12.out).mono ?_); rintro e w' ⟨rfl, ⟨nd, rfl⟩⟩; refine ⟨_, rfl, ?_⟩))
           have n0_ : Aside0 (((((w63.setCell ⟨gb192, 0, none⟩ (.string (a0.extract 0 (x4_1 : Int).toNat))).setCell ⟨gb192, 1, none⟩ (.int .i64 2)).setCell ⟨gb192, 2, none⟩ (.int .i64 0)).setCell ⟨gb192, 3, none⟩ (.string (a0.extract ((ji9) : Int).toNat a0.size))).heap[gb191]? = some (.cells #[.string x192000_1, .int .i64 x192001_1, .int .i64 x192002_1, .string x192003_1] 110 (0, 0))) := ⟨by (with_reducible repeat (first | refine blk_drewN ?_ _ | refine blk_drew ?_ | refine blk_alloc ?_ _)); refine blk_far ?_ NB191_192.out _; (with_reducible repeat (first | refine blk_drewN ?_ _ | refine blk_drew ?_ | refine blk_alloc ?_ _)); refine blk_far ?_ NB191_192.out _; (with_reducible repeat (first | refine blk_drewN ?_ _ | refine blk_drew ?_ | refine blk_alloc ?_ _)); refine blk_far ?_ NB191_192.out _; (with_reducible repeat (first | refine blk_drewN ?_ _ | refine blk_drew ?_ | refine blk_alloc ?_ _)); refine blk_far ?_ NB191_192.out _; (with_reducible repeat (first | refine blk_drewN ?_ _ | refine blk_drew ?_ | refine blk_alloc ?_ _)); exact BK191.out⟩
           have n1_ : Aside0 (((((w63.setCell ⟨gb192, 0, none⟩ (.string (a0.extract 0 (x4_1 : Int).toNat))).setCell ⟨gb192, 1, none⟩ (.int .i64 2)).setCell ⟨gb192, 2, none⟩ (.int .i64 0)).setCell ⟨gb192, 3, none⟩ (.string (a0.extract ((ji9) : Int).toNat a0.size))).heap[gb192]? = some (.cells #[.string (a0.extract 0 (x4_1 : Int).toNat), .int .i64 2, .int .i64 0, .string (a0.extract ((ji9) : Int).toNat a0.size)] 110 (0, 0))) := ⟨by (with_reducible repeat (first | refine blk_drewN ?_ _ | refine blk_drew ?_ | refine blk_alloc ?_ _)); refine blk_put (cs := #[.string (a0.extract 0 (x4_1 : Int).toNat), .int .i64 2, .int .i64 0, .string (⟨#[]⟩ : ByteArray)]) ?_ 3 _ rfl; (with_reducible repeat (first | refine blk_drewN ?_ _ | refine blk_drew ?_ | refine blk_alloc ?_ _)); refine blk_put (cs := #[.string (a0.extract 0 (x4_1 : Int).toNat), .int .i64 2, .int .i64 0, .string (⟨#[]⟩ : ByteArray)]) ?_ 2 _ rfl; (with_reducible repeat (first | refine blk_drewN ?_ _ | refine blk_drew ?_ | refine blk_alloc ?_ _)); refine blk_put (cs := #[.string (a0.extract 0 (x4_1 : Int).toNat), .int .i64 0, .int .i64 0, .string (⟨#[]⟩ : ByteArray)]) ?_ 1 _ rfl; (with_reducible repeat (first | refine blk_drewN ?_ _ | refine blk_drew ?_ | refine blk_alloc ?_ _)); refine blk_put (cs := #[.string (⟨#[]⟩ : ByteArray), .int .i64 0, .int .i64 0, .string (⟨#[]⟩ : ByteArray)]) ?_ 0 _ rfl; (with_reducible repeat (first | refine blk_drewN ?_ _ | refine blk_drew ?_ | refine blk_alloc ?_ _)); exact BK192.out⟩
           have n2_ : Aside0 (Below w.heap.size w ((((w63.setCell ⟨gb192, 0, none⟩ (.string (a0.extract 0 (x4_1 : Int).toNat))).setCell ⟨gb192, 1, none⟩ (.int .i64 2)).setCell ⟨gb192, 2, none⟩ (.int .i64 0)).setCell ⟨gb192, 3, none⟩ (.string (a0.extract ((ji9) : Int).toNat a0.size)))) := ⟨by repeat (first | (with_reducible first | exact HB.out | apply below_alloc | apply pw_below_drewN | apply below_drew1 | refine below_set ?_ GE191.out | refine below_set ?_ GE192.out) | exact HB.out)⟩
           (try clear BK191)
           (try clear BK192)
           (try clear HB)
           (try simp only [sc_drewN])
           generalize ((((w63.setCell ⟨gb192, 0, none⟩ (.string (a0.extract 0 (x4_1 : Int).toNat))).setCell ⟨gb192, 1, none⟩ (.int .i64 2)).setCell ⟨gb192, 2, none⟩ (.int .i64 0)).setCell ⟨gb192, 3, none⟩ (.string (a0.extract ((ji9) : Int).toNat a0.size))) = w70 at n0_ n1_ n2_ ⊢
           have BK191 := n0_
           have BK192 := n1_
           have HB := n2_
           clear n0_ n1_ n2_
           (try (rw [drewN_self w70]; generalize hq_ : World.drewN w70 _ = w70; have n0_ : Aside0 (w70.heap[gb191]? = some (.cells #[.string x192000_1, .int .i64 x192001_1, .int .i64 x192002_1, .string x192003_1] 110 (0, 0))) := ⟨by rw [← hq_]; exact (bU_ BK191.out)⟩; have n1_ : Aside0 (w70.heap[gb192]? = some (.cells #[.string (a0.extract 0 (x4_1 : Int).toNat), .int .i64 2, .int .i64 0, .string (a0.extract ((ji9) : Int).toNat a0.size)] 110 (0, 0))) := ⟨by rw [← hq_]; exact (bU_ BK192.out)⟩; have n2_ : Aside0 (Below w.heap.size w w70) := ⟨by rw [← hq_]; exact (by repeat (first | (with_reducible first | exact HB.out | apply below_alloc | apply pw_below_drewN | apply below_drew1 | refine below_set ?_ GE191.out | refine below_set ?_ GE192.out) | exact HB.out))⟩; clear BK191 BK192 HB hq_; have BK191 := n0_; have BK192 := n1_; have HB := n2_; clear n0_ n1_ n2_))
           have n0_ := Aside0.mk (blk_drew BK191.out)
           have n1_ := Aside0.mk (blk_drew BK192.out)
           have n2_ := Aside0.mk (below_drew1 HB.out)
           clear BK191
           clear BK192
           clear HB
           have BK191 := n0_
           have BK192 := n1_
           have HB := n2_
           clear n0_ n1_ n2_
           refine start_ (n := 12) (S := fun w' => w'.cell? ⟨gb192, 0, none⟩ = some (.string (a0.extract 0 (x4_1 : Int).toNat)) ∧ w'.cell? ⟨gb192, 1, none⟩ = some (.int .i64 2) ∧ w'.cell? ⟨gb192, 2, none⟩ = some (.int .i64 0) ∧ w'.cell? ⟨gb192, 3, none⟩ = some (.string (a0.extract ((ji9) : Int).toNat a0.size))) (ds := []) #[false, false, false, false, false, false, false, false, false, false, false, false] (by kernel_rfl) rfl rfl ⟨(blk_cell BK192.out 0).trans rfl, (blk_cell BK192.out 1).trans rfl, (blk_cell BK192.out 2).trans rfl, (blk_cell BK192.out 3).trans rfl⟩ (fun hHeld => ?_); refine with_tabW dragnetref08_One.tab9 dragnetref08_One.bits9 (fun HT_ HW_ => ?_)
           generalize w70.drew = w71 at BK191 BK192 HB hHeld ⊢
           refine pS 1 (some 39) HT_ ?_
           refine tS 0 (some 38) HT_ HW_ hHeld ?_
           refine tS 2 (some 40) HT_ HW_ hHeld ?_
           refine one_ (i := 3) (N := some 41) #[true, true, true, true, false, false, false, false, false, false, false, false] rfl rfl (one_of HT_.out (by kernel_rfl)) (by decide) (fun K hK => ?_)
           refine goes_ Tryz.func41 (by kernel_rfl) rfl #[.string (a0.extract 0 (x4_1 : Int).toNat)] (by rfl) rfl rfl mp_ ?_
           with_reducible refine (dragnetref08_IsKey.calls k1 (a0.extract 0 (x4_1 : Int).toNat) false _ A46.out).mono ?_
           rintro e w' ⟨rfl, ⟨nd, rfl⟩⟩
           refine ⟨_, rfl, ?_⟩
           refine hK.out _ _ ⟨(blk_cell BK192.out 0).trans rfl, (blk_cell BK192.out 1).trans rfl, (blk_cell BK192.out 2).trans rfl, (blk_cell BK192.out 3).trans rfl⟩ (fun hHeld => ?_)
           clear hK K
           refine norm_ (a' := ?_) ?_ ?_
           rotate_left
           ·show Act.put _ (some 41) _ = _
            simp only [Act.put, List.setIfInBounds_toArray, List.set_cons_zero, List.set_cons_succ, i64_w, i32_w]
            rfl
           refine pS 4 (some 42) HT_ ?_
           refine uS 5 (some 43) HT_ ?_
           refine uS 6 (some 44) HT_ ?_
           refine uS 7 (some 45) HT_ ?_
           refine uS 8 (some 46) HT_ ?_
           refine pS 9 (some 47) HT_ ?_
           refine one_ (i := 10) (N := none) #[true, true, true, true, true, true, true, true, true, true, true, false] rfl rfl (one_of HT_.out (by kernel_rfl)) (by decide) (fun K hK => ?_)
           have hs72 : w71.cell? ⟨gb191, 0, none⟩ = some (.string x192000_1) := (blk_cell BK191.out 0).trans rfl
           have hfs72 := blk_frozen BK191.out 0
           have hns72_1 := NB192_191.out
           have hms72_1 := NB191_192.out
           have hs73 : w71.cell? ⟨gb191, 1, none⟩ = some (.int .i64 x192001_1) := (blk_cell BK191.out 1).trans rfl
           have hfs73 := blk_frozen BK191.out 1
           have hns73_1 := NB192_191.out
           have hms73_1 := NB191_192.out
           have hs74 : w71.cell? ⟨gb191, 2, none⟩ = some (.int .i64 x192002_1) := (blk_cell BK191.out 2).trans rfl
           have hfs74 := blk_frozen BK191.out 2
           have hns74_1 := NB192_191.out
           have hms74_1 := NB191_192.out
           have hs75 : w71.cell? ⟨gb191, 3, none⟩ = some (.string x192003_1) := (blk_cell BK191.out 3).trans rfl
           have hfs75 := blk_frozen BK191.out 3
           have hns75_1 := NB192_191.out
           have hms75_1 := NB191_192.out
           refine skip_ (w1 := ?_) (by rfl) rfl ?_ ?_
           rotate_left
           ·go_simp
            rfl
           refine hK.out _ _ ⟨((cell_far (p := ⟨gb191, _, none⟩) NB192_191.out _).trans (((cell_far (p := ⟨gb191, _, none⟩) NB192_191.out _).trans (((cell_far (p := ⟨gb191, _, none⟩) NB192_191.out _).trans (((cell_far (p := ⟨gb191, _, none⟩) NB192_191.out _).trans (hHeld.1)))))))), ((cell_far (p := ⟨gb191, _, none⟩) NB192_191.out _).trans (((cell_far (p := ⟨gb191, _, none⟩) NB192_191.out _).trans (((cell_far (p := ⟨gb191, _, none⟩) NB192_191.out _).trans (((cell_far (p := ⟨gb191, _, none⟩) NB192_191.out _).trans (hHeld.2.1)))))))), ((cell_far (p := ⟨gb191, _, none⟩) NB192_191.out _).trans (((cell_far (p := ⟨gb191, _, none⟩) NB192_191.out _).trans (((cell_far (p := ⟨gb191, _, none⟩) NB192_191.out _).trans (((cell_far (p := ⟨gb191, _, none⟩) NB192_191.out _).trans (hHeld.2.2.1)))))))), ((cell_far (p := ⟨gb191, _, none⟩) NB192_191.out _).trans (((cell_far (p := ⟨gb191, _, none⟩) NB192_191.out _).trans (((cell_far (p := ⟨gb191, _, none⟩) NB192_191.out _).trans (((cell_far (p := ⟨gb191, _, none⟩) NB192_191.out _).trans (hHeld.2.2.2))))))))⟩ (fun hHeld => ?_)
           clear hK K
           refine pS 11 (some 3) HT_ ?_
           refine done_ (done_of HT_.out (by kernel_rfl)) ?_
           try go_wp2
           refine bodyPost_ret (results_ct rfl _ _ gb191 110 #[.string (a0.extract 0 (x4_1 : Int).toNat), .int .i64 2, .int .i64 0, .string (a0.extract ((ji9) : Int).toNat a0.size)] (0, 0) _ rfl (by (with_reducible repeat (first | refine blk_drewN ?_ _ | refine blk_drew ?_ | refine blk_alloc ?_ _)); refine blk_put (cs := #[.string (a0.extract 0 (x4_1 : Int).toNat), .int .i64 2, .int .i64 0, .string x192003_1]) ?_ 3 _ rfl; (with_reducible repeat (first | refine blk_drewN ?_ _ | refine blk_drew ?_ | refine blk_alloc ?_ _)); refine blk_put (cs := #[.string (a0.extract 0 (x4_1 : Int).toNat), .int .i64 2, .int .i64 x192002_1, .string x192003_1]) ?_ 2 _ rfl; (with_reducible repeat (first | refine blk_drewN ?_ _ | refine blk_drew ?_ | refine blk_alloc ?_ _)); refine blk_put (cs := #[.string (a0.extract 0 (x4_1 : Int).toNat), .int .i64 x192001_1, .int .i64 x192002_1, .string x192003_1]) ?_ 1 _ rfl; (with_reducible repeat (first | refine blk_drewN ?_ _ | refine blk_drew ?_ | refine blk_alloc ?_ _)); refine blk_put (cs := #[.string x192000_1, .int .i64 x192001_1, .int .i64 x192002_1, .string x192003_1]) ?_ 0 _ rfl; (with_reducible repeat (first | refine blk_drewN ?_ _ | refine blk_drew ?_ | refine blk_alloc ?_ _)); exact BK191.out) Tryz.underlying110 rfl (by kernel_rfl)) rfl ?_
           exact ⟨by first | rfl | (simp [errW_none, errW_some] <;> rfl) | (simp only [← hji9]; first | rfl | (simp [errW_none, errW_some] <;> rfl)) | (simp [*, errW_none, errW_some] <;> rfl), by repeat (first | (with_reducible first | exact HB.out | apply below_alloc | apply pw_below_drewN | apply below_drew1 | refine below_set ?_ GE191.out | refine below_set ?_ GE192.out) | exact HB.out)⟩
        ·rw [if_neg c11] at H
         exact absurd H (by simp)
       ·rw [if_neg c10] at H
        exact absurd H (by simp)
      ·rw [if_neg c8] at H
       exact absurd H (by simp)
     ·rw [if_neg c6] at H
      have c6b0 : ((bt a0 x4_1) == 61) = false := beq_eq_false_iff_ne.mpr c6
      have c6b1 : ((bt a0 x4_1) != 61) = true := bne_iff_ne.mpr c6
      have H' := Aside0.mk H
      clear H
      have p5 : 0 ≤ (x4_1 : Int) := of_decide_eq_true as_
      have q5 : x4_1 < (a0.size : Int) := of_decide_eq_true as_
      have hx5 := bt_at a0 x4_1
      replace p5 := eq_true p5
      replace q5 := eq_true q5
      go_wp2
      go_roundg k1
      case measure => have := HK1.out; omega
      case rel => exact ⟨(wrap64 (x4_1 + 1)), (x192000_1), (x192001_1), (x192002_1), (x192003_1), rs_, H', ⟨by have := HK1.out; omega⟩, ⟨bU_ BK191.out⟩, ⟨by repeat (first | (with_reducible first | exact HB.out | apply below_alloc | apply pw_below_drewN | apply below_drew1 | refine below_set ?_ GE191.out) | exact HB.out)⟩⟩
    ·rw [if_neg c4] at H
     exact absurd H (by simp)
   ·rw [if_neg c3] at H
    have c3b0 : decide (x4_1 < (a0.size : Int)) = false := decide_eq_false c3
    clear c3
    simp only [Option.some.injEq, Prod.mk.injEq] at H
    obtain ⟨rfl, rfl, rfl, rfl, rfl⟩ := H
    have hcz76_0 : wr.cell? ⟨gb191, 0, none⟩ = some (.string x192000_1) := (blk_cell BK191.out 0).trans rfl
    have hcz76_1 : wr.cell? ⟨gb191, 1, none⟩ = some (.int .i64 x192001_1) := (blk_cell BK191.out 1).trans rfl
    have hcz76_2 : wr.cell? ⟨gb191, 2, none⟩ = some (.int .i64 x192002_1) := (blk_cell BK191.out 2).trans rfl
    have hcz76_3 : wr.cell? ⟨gb191, 3, none⟩ = some (.string x192003_1) := (blk_cell BK191.out 3).trans rfl
    have hfz76_0 := blk_frozen BK191.out 0
    have hfz76_1 := blk_frozen BK191.out 1
    have hfz76_2 := blk_frozen BK191.out 2
    have hfz76_3 := blk_frozen BK191.out 3
    go_wp2
    refine bodyPost_ret (results_ct rfl _ _ gb191 110 #[.string (⟨#[]⟩ : ByteArray), .int .i64 0, .int .i64 0, .string (⟨#[]⟩ : ByteArray)] (0, 0) _ rfl (by (with_reducible repeat (first | refine blk_drewN ?_ _ | refine blk_drew ?_ | refine blk_alloc ?_ _)); refine blk_put (cs := #[.string (⟨#[]⟩ : ByteArray), .int .i64 0, .int .i64 0, .string x192003_1]) ?_ 3 _ rfl; (with_reducible repeat (first | refine blk_drewN ?_ _ | refine blk_drew ?_ | refine blk_alloc ?_ _)); refine blk_put (cs := #[.string (⟨#[]⟩ : ByteArray), .int .i64 0, .int .i64 x192002_1, .string x192003_1]) ?_ 2 _ rfl; (with_reducible repeat (first | refine blk_drewN ?_ _ | refine blk_drew ?_ | refine blk_alloc ?_ _)); refine blk_put (cs := #[.string (⟨#[]⟩ : ByteArray), .int .i64 x192001_1, .int .i64 x192002_1, .string x192003_1]) ?_ 1 _ rfl; (with_reducible repeat (first | refine blk_drewN ?_ _ | refine blk_drew ?_ | refine blk_alloc ?_ _)); refine blk_put (cs := #[.string x192000_1, .int .i64 x192001_1, .int .i64 x192002_1, .string x192003_1]) ?_ 0 _ rfl; (with_reducible repeat (first | refine blk_drewN ?_ _ | refine blk_drew ?_ | refine blk_alloc ?_ _)); exact BK191.out) Tryz.underlying110 rfl (by kernel_rfl)) rfl ?_
    exact ⟨by first | rfl | (simp [errW_none, errW_some] <;> rfl) | (simp [*, errW_none, errW_some] <;> rfl), by repeat (first | (with_reducible first | exact HB.out | apply below_alloc | apply pw_below_drewN | apply below_drew1 | refine below_set ?_ GE191.out) | exact HB.out)⟩
mutual
def dragnetref08_Read.l0 : Nat → List Int → List (S110) → Int → Option ((List (S110)))
 | 0, _, _, _ => none
 | k + 1, x0, x3, x4 => if x4 < (x0.length : Int) then (if 0 ≤ x4 then ((dragnetref08_blank.f (rd x0 x4)).bind fun t198 => (if t198 = true then (dragnetref08_Read.l0 k x0 x3 (wrap64 (x4 + 1))) else (dragnetref08_Read.l1 k x0 x3 x4 x4))) else (none)) else (some x3)
def dragnetref08_Read.j2 : Nat → List Int → List (S110) → Int → Int → Option ((List (S110)))
 | 0, _, _, _, _ => none
 | k + 1, x0, x3, x4, x5 => if 0 ≤ x5 then (if x5 ≤ x4 then (if x4 ≤ (x0.length : Int) then ((dragnetref08_One.f k (strOfNums ((x0.take (x4 : Int).toNat).drop (x5 : Int).toNat))).bind fun bt202 => ((dragnetref08_At.f k x3 bt202.1).bind fun bt208 => (if bt202.2.2.2.2 = true then (if bt208.2.2.2.2 = true then (dragnetref08_Read.l0 k x0 x3 (wrap64 (x4 + 1))) else (if (x3.length : Int) < 16 then (if x3.length < 2932031007402 then (dragnetref08_Read.l0 k x0 (x3 ++ [(⟨bt202.1, bt202.2.1, bt202.2.2.1, bt202.2.2.2.1⟩ : S110)]) (wrap64 (x4 + 1))) else (none)) else (dragnetref08_Read.l0 k x0 x3 (wrap64 (x4 + 1))))) else (dragnetref08_Read.l0 k x0 x3 (wrap64 (x4 + 1)))))) else (none)) else (none)) else (none)
def dragnetref08_Read.l1 : Nat → List Int → List (S110) → Int → Int → Option ((List (S110)))
 | 0, _, _, _, _ => none
 | k + 1, x0, x3, x4, x5 => if x4 < (x0.length : Int) then (if 0 ≤ x4 then ((dragnetref08_blank.f (rd x0 x4)).bind fun t200 => (if t200 = true then (dragnetref08_Read.j2 k x0 x3 x4 x5) else (dragnetref08_Read.l1 k x0 x3 (wrap64 (x4 + 1)) x5))) else (none)) else (dragnetref08_Read.j2 k x0 x3 x4 x5)
end
def dragnetref08_Read.f (k : Nat) (l0 : List Int) : Option ((List (S110))) := dragnetref08_Read.l0 k l0 ([] : List (S110)) 0
theorem dragnetref08_Read.calls (k : Nat) (A0 : Option Addr) (c0 : Nat) (l0 : List Int) (r : List (S110)) (w : World) (hr0 : Kd.C (Kd.int .u8) w A0 l0.length l0) (hc0 : l0.length ≤ c0) (h : dragnetref08_Read.f k l0 = some r) :
  Calls Tryz.prog 93 #[.slice A0 l0.length c0] w fun e w' => ∃ v0_ : Value, e = .returned (v0_) ∧ Kd.R k110 110 w' w.heap.size (fun _ => True) v0_ r ∧ Below w.heap.size w w' := by
 have hu110 := Tryz.underlying110
 have HR0 := Aside0.mk hr0
 have HC0 := Aside0.mk hc0
 clear hr0 hc0
 have HB := Aside0.mk (Below.refl w.heap.size w)
 have H : (dragnetref08_Read.l0 k l0 ([] : List (S110)) 0) = some r := h
 clear h
 have H' := Aside0.mk H
 clear H
 go_enter Tryz.func93, Tryz.ntmps93
 go_wp2
 go_loopg [3, 4] k (fun kq v3 v4 w' => ∃ (x3_1 : List (S110)) (x4_1 : Int), v4 = .int .i64 x4_1 ∧ Aside0 (dragnetref08_Read.l0 kq l0 x3_1 x4_1 = some r) ∧ Aside0 (kq ≤ k) ∧ Aside0 (Kd.R k110 110 w' w.heap.size (fun _ => True) v3 x3_1) ∧ Aside0 (Below w.heap.size w w'))
 case atStart => exact ⟨(([] : List (S110))), (0), rs_, H', ⟨Nat.le_refl _⟩, ⟨by first | exact Kd.R_nil _ _ _ _ _ | exact Kd.N_nil _ _ _ _ _ | exact Kd.V_nil _ _ _ _ _ | exact Kd.Q_nil _ _ _ _ _ | exact Kd.S_nil _ _ _ _ _⟩, ⟨by repeat (first | (with_reducible first | exact HB.out | apply below_alloc | apply pw_below_drewN | apply below_drew1) | exact HB.out)⟩⟩
 case round =>
  clear H'
  obtain ⟨x3_1, x4_1, rfl, HA, HK1, HO_3, HB⟩ := hrel
  cases gk with
  | zero => exact absurd HA.out (by simp [dragnetref08_Read.l0])
  | succ k1 =>
   have H := HA.out
   clear HA
   simp only [dragnetref08_Read.l0] at H
   by_cases c2 : x4_1 < (l0.length : Int)
   ·rw [if_pos c2] at H
    have c2b0 : decide (x4_1 < (l0.length : Int)) = true := decide_eq_true c2
    clear c2
    by_cases c3 : 0 ≤ x4_1
    ·rw [if_pos c3] at H
     have c3b0 : decide (0 ≤ x4_1) = true := decide_eq_true c3
     clear c3
     replace H := Option.bind_eq_some_iff.mp H
     obtain ⟨t198, A40, H⟩ := H
     replace H : (if t198 = true then (dragnetref08_Read.l0 k1 l0 x3_1 (wrap64 (x4_1 + 1))) else (dragnetref08_Read.l1 k1 l0 x3_1 x4_1 x4_1)) = some r := H
     have A4 := Aside0.mk A40
     clear A40
     by_cases c5 : t198 = true
     ·subst c5
      have H1 : (dragnetref08_Read.l0 k1 l0 x3_1 (wrap64 (x4_1 + 1))) = some r := by rw [if_pos rfl] at H; exact H
      clear H
      have H := H1
      clear H1
      have H' := Aside0.mk H
      clear H
      have p197 : 0 ≤ (x4_1 : Int) := of_decide_eq_true as_
      have q197 : x4_1 < (l0.length : Int) := of_decide_eq_true as_
      obtain ⟨ad197, e197, hx197_0⟩ := Kd.at_int HR0.out x4_1 p197 q197
      cases e197
      replace hx197_0 := (HB.out.cell (World.block_lt_of_cell? w _ hx197_0)).trans hx197_0
      replace p197 := eq_true p197
      replace q197 := eq_true q197
      go_wp2_with (first | ((with_reducible refine gate_callee (f := 110) rfl ?_); refine goesL_ (some 20) rfl rfl Tryz.func110 (by kernel_rfl) rfl #[.int .u8 (rd l0 x4_1)] rfl mp_ ?_; (with_reducible refine (dragnetref08_blank.calls (rd l0 x4_1) true _ A4.out).mono ?_); rintro e w' ⟨rfl, ⟨nd, rfl⟩⟩; refine ⟨_, rfl, ?_⟩))
      go_roundg k1
      case measure => have := HK1.out; omega
      case rel => exact ⟨(x3_1), (wrap64 (x4_1 + 1)), rs_, H', ⟨by have := HK1.out; omega⟩, ⟨by (with_reducible repeat (first | apply Kd.R_alloc | apply Kd.R_drewN | apply Kd.R_drew)); exact HO_3.out⟩, ⟨by repeat (first | (with_reducible first | exact HB.out | apply below_alloc | apply pw_below_drewN | apply below_drew1) | exact HB.out)⟩⟩
     ·replace c5 := Bool.eq_false_iff.mpr c5
      subst c5
      have H1 : (dragnetref08_Read.l1 k1 l0 x3_1 x4_1 x4_1) = some r := by rw [if_neg (show ¬ (false = true) by decide)] at H; exact H
      clear H
      have H := H1
      clear H1
      have HC6 := Aside0.mk H
      clear H
      have p197 : 0 ≤ (x4_1 : Int) := of_decide_eq_true as_
      have q197 : x4_1 < (l0.length : Int) := of_decide_eq_true as_
      obtain ⟨ad197, e197, hx197_0⟩ := Kd.at_int HR0.out x4_1 p197 q197
      cases e197
      replace hx197_0 := (HB.out.cell (World.block_lt_of_cell? w _ hx197_0)).trans hx197_0
      replace p197 := eq_true p197
      replace q197 := eq_true q197
      go_upto_block 2 with (first | ((with_reducible refine gate_callee (f := 110) rfl ?_); refine goesL_ (some 20) rfl rfl Tryz.func110 (by kernel_rfl) rfl #[.int .u8 (rd l0 x4_1)] rfl mp_ ?_; (with_reducible refine (dragnetref08_blank.calls (rd l0 x4_1) false _ A4.out).mono ?_); rintro e w' ⟨rfl, ⟨nd, rfl⟩⟩; refine ⟨_, rfl, ?_⟩))
      (try simp only [Act.put, List.setIfInBounds_toArray, List.set_cons_zero, List.set_cons_succ])
      go_cut [4] (fun v4 wc => ∃ (kq : Nat) (x4_5 : Int), v4 = .int .i64 x4_5 ∧ Aside0 (dragnetref08_Read.j2 kq l0 x3_1 x4_5 x4_1 = some r) ∧ Aside0 (kq ≤ k1) ∧ Aside0 (Kd.R k110 110 wc w.heap.size (fun _ => True) u3 x3_1) ∧ Aside0 (Below w.heap.size w wc))
      case first =>
       have H := HC6.out
       clear HC6
       have H' := Aside0.mk H
       clear H
       go_wp2
       go_loopg [4] k1 (fun kq v4 w' => ∃ (x4_2 : Int), v4 = .int .i64 x4_2 ∧ Aside0 (dragnetref08_Read.l1 kq l0 x3_1 x4_2 x4_1 = some r) ∧ Aside0 (kq ≤ k1) ∧ Aside0 (Kd.R k110 110 w' w.heap.size (fun _ => True) u3 x3_1) ∧ Aside0 (Below w.heap.size w w'))
       case atStart => exact ⟨(x4_1), rs_, H', ⟨Nat.le_refl _⟩, ⟨by (with_reducible repeat (first | apply Kd.R_alloc | apply Kd.R_drewN | apply Kd.R_drew)); exact HO_3.out⟩, ⟨by repeat (first | (with_reducible first | exact HB.out | apply below_alloc | apply pw_below_drewN | apply below_drew1) | exact HB.out)⟩⟩
       case round =>
        clear H'
        try clear c1
        try clear p1
        try clear q1
        try clear hx1
        try clear c2
        try clear c2b0
        try clear p2
        try clear c3
        try clear c3b0
        try clear c5
        try clear p6
        try clear hx197_0
        try clear p197
        try clear q197
        obtain ⟨x4_2, rfl, HA, HK2, HO_3, HB⟩ := hrel
        cases gk with
        | zero => exact absurd HA.out (by simp [dragnetref08_Read.l1])
        | succ k2 =>
         have H := HA.out
         clear HA
         simp only [dragnetref08_Read.l1] at H
         by_cases c7 : x4_2 < (l0.length : Int)
         ·rw [if_pos c7] at H
          have c7b0 : decide (x4_2 < (l0.length : Int)) = true := decide_eq_true c7
          clear c7
          (first | rw [c7b0] | (simp only [i64_w, i32_w]; rw [c7b0]) | skip)
          by_cases c8 : 0 ≤ x4_2
          ·rw [if_pos c8] at H
           have c8b0 : decide (0 ≤ x4_2) = true := decide_eq_true c8
           clear c8
           replace H := Option.bind_eq_some_iff.mp H
           obtain ⟨t200, A90, H⟩ := H
           replace H : (if t200 = true then (dragnetref08_Read.j2 k2 l0 x3_1 x4_2 x4_1) else (dragnetref08_Read.l1 k2 l0 x3_1 (wrap64 (x4_2 + 1)) x4_1)) = some r := H
           have A9 := Aside0.mk A90
           clear A90
           by_cases c10 : t200 = true
           ·subst c10
            have H1 : (dragnetref08_Read.j2 k2 l0 x3_1 x4_2 x4_1) = some r := by rw [if_pos rfl] at H; exact H
            clear H
            have H := H1
            clear H1
            have H' := Aside0.mk H
            clear H
            have p199 : 0 ≤ (x4_2 : Int) := of_decide_eq_true as_
            have q199 : x4_2 < (l0.length : Int) := of_decide_eq_true as_
            obtain ⟨ad199, e199, hx199_0⟩ := Kd.at_int HR0.out x4_2 p199 q199
            obtain rfl : ad197 = ad199 := (by injection e199)
            replace hx199_0 := (HB.out.cell (World.block_lt_of_cell? w _ hx199_0)).trans hx199_0
            replace p199 := eq_true p199
            replace q199 := eq_true q199
            go_wp2_with (first | (go_at_call 110; (with_reducible refine (dragnetref08_blank.calls (rd l0 x4_2) true _ A9.out).mono ?_); rintro e w' ⟨rfl, ⟨nd, rfl⟩⟩))
            go_meet
            case rel => exact ⟨_, (x4_2), rs_, H', ⟨by have := HK1.out; have := HK2.out; first | omega | exact Nat.le_refl _⟩, ⟨by (with_reducible repeat (first | apply Kd.R_alloc | apply Kd.R_drewN | apply Kd.R_drew)); exact HO_3.out⟩, ⟨by repeat (first | (with_reducible first | exact HB.out | apply below_alloc | apply pw_below_drewN | apply below_drew1) | exact HB.out)⟩⟩
           ·replace c10 := Bool.eq_false_iff.mpr c10
            subst c10
            have H1 : (dragnetref08_Read.l1 k2 l0 x3_1 (wrap64 (x4_2 + 1)) x4_1) = some r := by rw [if_neg (show ¬ (false = true) by decide)] at H; exact H
            clear H
            have H := H1
            clear H1
            have H' := Aside0.mk H
            clear H
            have p199 : 0 ≤ (x4_2 : Int) := of_decide_eq_true as_
            have q199 : x4_2 < (l0.length : Int) := of_decide_eq_true as_
            obtain ⟨ad199, e199, hx199_0⟩ := Kd.at_int HR0.out x4_2 p199 q199
            obtain rfl : ad197 = ad199 := (by injection e199)
            replace hx199_0 := (HB.out.cell (World.block_lt_of_cell? w _ hx199_0)).trans hx199_0
            replace p199 := eq_true p199
            replace q199 := eq_true q199
            go_wp2_with (first | (go_at_call 110; (with_reducible refine (dragnetref08_blank.calls (rd l0 x4_2) false _ A9.out).mono ?_); rintro e w' ⟨rfl, ⟨nd, rfl⟩⟩))
            go_roundg k2
            case measure => have := HK1.out; have := HK2.out; omega
            case rel => exact ⟨(wrap64 (x4_2 + 1)), rs_, H', ⟨by have := HK1.out; have := HK2.out; omega⟩, ⟨by (with_reducible repeat (first | apply Kd.R_alloc | apply Kd.R_drewN | apply Kd.R_drew)); exact HO_3.out⟩, ⟨by repeat (first | (with_reducible first | exact HB.out | apply below_alloc | apply pw_below_drewN | apply below_drew1) | exact HB.out)⟩⟩
          ·rw [if_neg c8] at H
           exact absurd H (by simp)
         ·rw [if_neg c7] at H
          have c7b0 : decide (x4_2 < (l0.length : Int)) = false := decide_eq_false c7
          clear c7
          (first | rw [c7b0] | (simp only [i64_w, i32_w]; rw [c7b0]) | skip)
          have H' := Aside0.mk H
          clear H
          go_wp2
          go_meet
          case rel => exact ⟨_, (x4_2), rs_, H', ⟨by have := HK1.out; have := HK2.out; first | omega | exact Nat.le_refl _⟩, ⟨by (with_reducible repeat (first | apply Kd.R_alloc | apply Kd.R_drewN | apply Kd.R_drew)); exact HO_3.out⟩, ⟨by repeat (first | (with_reducible first | exact HB.out | apply below_alloc | apply pw_below_drewN | apply below_drew1) | exact HB.out)⟩⟩
      case rest =>
       clear HC6
       try clear c1
       try clear p1
       try clear q1
       try clear hx1
       try clear c2
       try clear c2b0
       try clear p2
       try clear c3
       try clear c3b0
       try clear c5
       try clear p6
       try clear c7
       try clear c7b0
       try clear c8
       try clear c8b0
       try clear c9
       try clear c10
       try clear hx197_0
       try clear hx199_0
       try clear p1
       try clear p197
       try clear p199
       try clear p2
       try clear p6
       try clear q1
       try clear q197
       try clear q199
       obtain ⟨kq, x4_5, rfl, HA, HJ5, HO_3, HB⟩ := hcut
       cases kq with
       | zero => exact absurd HA.out (by simp [dragnetref08_Read.j2])
       | succ kj5 =>
        have H := HA.out
        clear HA
        simp only [dragnetref08_Read.j2] at H
        by_cases c11 : 0 ≤ x4_1
        ·rw [if_pos c11] at H
         have c11b0 := eq_true c11
         have c11b1 : decide (0 ≤ x4_1) = true := decide_eq_true c11
         clear c11
         by_cases c12 : x4_1 ≤ x4_5
         ·rw [if_pos c12] at H
          have c12b0 := eq_true c12
          have c12b1 : decide (x4_1 ≤ x4_5) = true := decide_eq_true c12
          clear c12
          by_cases c13 : x4_5 ≤ (l0.length : Int)
          ·rw [if_pos c13] at H
           have c13b0 := eq_true c13
           have c13b1 : decide (x4_5 ≤ (l0.length : Int)) = true := decide_eq_true c13
           clear c13
           replace H := Option.bind_eq_some_iff.mp H
           obtain ⟨⟨t202, t203, t204, t205, t206⟩, A140, H⟩ := H
           replace H : ((dragnetref08_At.f kj5 x3_1 t202).bind fun bt208 => (if t206 = true then (if bt208.2.2.2.2 = true then (dragnetref08_Read.l0 kj5 l0 x3_1 (wrap64 (x4_5 + 1))) else (if (x3_1.length : Int) < 16 then (if x3_1.length < 2932031007402 then (dragnetref08_Read.l0 kj5 l0 (x3_1 ++ [(⟨t202, t203, t204, t205⟩ : S110)]) (wrap64 (x4_5 + 1))) else (none)) else (dragnetref08_Read.l0 kj5 l0 x3_1 (wrap64 (x4_5 + 1))))) else (dragnetref08_Read.l0 kj5 l0 x3_1 (wrap64 (x4_5 + 1))))) = some r := H
           have A14 := Aside0.mk A140
           clear A140
           replace H := Option.bind_eq_some_iff.mp H
           obtain ⟨⟨t208, t209, t210, t211, t212⟩, A150, H⟩ := H
           replace H : (if t206 = true then (if t212 = true then (dragnetref08_Read.l0 kj5 l0 x3_1 (wrap64 (x4_5 + 1))) else (if (x3_1.length : Int) < 16 then (if x3_1.length < 2932031007402 then (dragnetref08_Read.l0 kj5 l0 (x3_1 ++ [(⟨t202, t203, t204, t205⟩ : S110)]) (wrap64 (x4_5 + 1))) else (none)) else (dragnetref08_Read.l0 kj5 l0 x3_1 (wrap64 (x4_5 + 1))))) else (dragnetref08_Read.l0 kj5 l0 x3_1 (wrap64 (x4_5 + 1)))) = some r := H
           have A15 := Aside0.mk A150
           clear A150
           by_cases c16 : t206 = true
           ·subst c16
            have H1 : (if t212 = true then (dragnetref08_Read.l0 kj5 l0 x3_1 (wrap64 (x4_5 + 1))) else (if (x3_1.length : Int) < 16 then (if x3_1.length < 2932031007402 then (dragnetref08_Read.l0 kj5 l0 (x3_1 ++ [(⟨t202, t203, t204, t205⟩ : S110)]) (wrap64 (x4_5 + 1))) else (none)) else (dragnetref08_Read.l0 kj5 l0 x3_1 (wrap64 (x4_5 + 1))))) = some r := by rw [if_pos rfl] at H; exact H
            clear H
            have H := H1
            clear H1
            by_cases c17 : t212 = true
            ·subst c17
             have H1 : (dragnetref08_Read.l0 kj5 l0 x3_1 (wrap64 (x4_5 + 1))) = some r := by rw [if_pos rfl] at H; exact H
             clear H
             have H := H1
             clear H1
             have H' := Aside0.mk H
             clear H
             obtain ⟨i018, hi018, _, hsz18, _⟩ := info_parts info5
             obtain ⟨A18, hcut18, hA18, hC18⟩ := print_mid_of (P := Tryz.prog) (Value.int .u8) 0 25 5 .i64 .i64 Tryz.underlying25 hi018 hsz18 (some ad197) c0 l0 x4_1 x4_5 (of_decide_eq_true as_) (by first | omega | exact of_decide_eq_true as_) (of_decide_eq_true as_) HC0.out
             have HR201 := Aside0.mk (Kd.C_of_reads (h1 := fun _ => rfl) (hA18 _ (Kd.reads_of_C HR0.out)))
             have HC201 := Aside0.mk hC18
             clear hA18 hC18 hi018 hsz18
             have hcv19 := Kd.C_string (P := Tryz.prog) (A := A18) (c := (c0 - x4_1.toNat)) Tryz.underlying25 Tryz.underlying5 Tryz.underlying9 (Kd.C_below HR201.out HB.out)
             have hcv20 := fun (i_ : Nat) => Kd.C_string (P := Tryz.prog) (A := A18) (c := (c0 - x4_1.toNat)) Tryz.underlying25 Tryz.underlying5 Tryz.underlying9 (Kd.C_drewN (Kd.C_below HR201.out HB.out) i_)
             have hcv21 := fun (i_ j_ : Nat) => Kd.C_string (P := Tryz.prog) (A := A18) (c := (c0 - x4_1.toNat)) Tryz.underlying25 Tryz.underlying5 Tryz.underlying9 (Kd.C_drewN (Kd.C_drewN (Kd.C_below HR201.out HB.out) i_) j_)
             have hcv22 := Kd.C_string (P := Tryz.prog) (A := A18) (c := (c0 - x4_1.toNat)) Tryz.underlying25 Tryz.underlying5 Tryz.underlying9 (Kd.C_below HR201.out HB.out)
             (try simp only [List.length_take, List.length_drop, Int.toNat_natCast, Nat.min_eq_left (show (x4_5 : Int).toNat ≤ l0.length by have h_ := of_decide_eq_true (show decide (x4_5 ≤ (l0.length : Int)) = true by assumption); omega)] at hcv22)
             have hcv23 := fun (i_ : Nat) => Kd.C_string (P := Tryz.prog) (A := A18) (c := (c0 - x4_1.toNat)) Tryz.underlying25 Tryz.underlying5 Tryz.underlying9 (Kd.C_drewN (Kd.C_below HR201.out HB.out) i_)
             (try simp only [List.length_take, List.length_drop, Int.toNat_natCast, Nat.min_eq_left (show (x4_5 : Int).toNat ≤ l0.length by have h_ := of_decide_eq_true (show decide (x4_5 ≤ (l0.length : Int)) = true by assumption); omega)] at hcv23)
             have hcv24 := fun (i_ j_ : Nat) => Kd.C_string (P := Tryz.prog) (A := A18) (c := (c0 - x4_1.toNat)) Tryz.underlying25 Tryz.underlying5 Tryz.underlying9 (Kd.C_drewN (Kd.C_drewN (Kd.C_below HR201.out HB.out) i_) j_)
             (try simp only [List.length_take, List.length_drop, Int.toNat_natCast, Nat.min_eq_left (show (x4_5 : Int).toNat ≤ l0.length by have h_ := of_decide_eq_true (show decide (x4_5 ≤ (l0.length : Int)) = true by assumption); omega)] at hcv24)
             go_wp2_with (first | ((with_reducible refine gate_callee (f := 111) rfl ?_); refine goesL_ (some 42) rfl rfl Tryz.func111 (by kernel_rfl) rfl #[.string (strOfNums ((l0.take (x4_5 : Int).toNat).drop (x4_1 : Int).toNat))] rfl mp_ ?_; (with_reducible refine (dragnetref08_One.calls kj5 (strOfNums ((l0.take (x4_5 : Int).toNat).drop (x4_1 : Int).toNat)) t202 t203 t204 t205 true _ A14.out).mono ?_); rintro e w25 ⟨rfl, hb⟩; refine ⟨_, rfl, ?_⟩; have n0_ := rbA HO_3 hb; have n1_ := bsA HB hb; clear HO_3; clear HB; have HO_3 := n0_; have HB := n1_; clear n0_ n1_; (try clear hb); (try clear hb2); (try clear hk); (try clear hi)) | ((with_reducible refine gate_dst (N := 6) rfl ?_); (try (refine gate_guard (by rfl) ?_; dsimp only)); refine box_event ?hg (N := 6) ?hd (cs := #[.string (⟨#[]⟩ : ByteArray), .int .i64 0, .int .i64 0, .string (⟨#[]⟩ : ByteArray)]) (t := 110) ?hr ?_; (case hd => rfl); (case hg => rfl); (case hr => first | (go_simp; done) | (go_simp; rfl) | (go_simp; simp only [wAl, wAr, wSl, wSr, wW])); intro gb207 hg w26 hbox hb; have n0_ := Aside0.mk (Kd.R_below (Kd.R_elderB (by (with_reducible repeat (first | apply Kd.R_alloc | apply Kd.R_drewN | apply Kd.R_drew)); exact HO_3.out) gb207 (Nat.le_of_eq hg.symm)) hb); have n1_ := bsA HB hb; have n2_ := Aside0.mk (hbox); have n3_ := szA HB hg; have n4_ := szA HB hg; clear HO_3; clear HB; have HO_3 := n0_; have HB := n1_; have BK207 := n2_; have GW207 := n3_; have GE207 := n4_; clear n0_ n1_ n2_ n3_ n4_; clear hb hbox hg; have hcz27_0 : w26.cell? ⟨gb207, 0, none⟩ = some (.string (⟨#[]⟩ : ByteArray)) := (blk_cell BK207.out 0).trans rfl; have hcz27_1 : w26.cell? ⟨gb207, 1, none⟩ = some (.int .i64 0) := (blk_cell BK207.out 1).trans rfl; have hcz27_2 : w26.cell? ⟨gb207, 2, none⟩ = some (.int .i64 0) := (blk_cell BK207.out 2).trans rfl; have hcz27_3 : w26.cell? ⟨gb207, 3, none⟩ = some (.string (⟨#[]⟩ : ByteArray)) := (blk_cell BK207.out 3).trans rfl; have hfz27_0 := blk_frozen BK207.out 0; have hfz27_1 := blk_frozen BK207.out 1; have hfz27_2 := blk_frozen BK207.out 2; have hfz27_3 := blk_frozen BK207.out 3; obtain ⟨Ao28, co28, eo28⟩ := Kd.R_slice HO_3.out; subst eo28) | ((with_reducible refine gate_callee (f := 92) rfl ?_); refine goesL_ (some 49) rfl rfl Tryz.func92 (by kernel_rfl) rfl #[.slice Ao28 x3_1.length co28, .string t202] rfl mp_ ?_; (with_reducible refine (dragnetref08_At.calls kj5 _ _ x3_1 t202 t208 t209 t210 t211 true _ ?side1 ?side2 A15.out).mono ?_); (case side1 => refine (Kd.R_reads' (e := 110) (base := w.heap.size) (ok := fun k_ => (True ∧ k_ ≠ gb207)) (n := x3_1.length) (c := co28) ?_).2.2; exact (by (with_reducible repeat (first | apply Kd.R_alloc | apply Kd.R_drewN | apply Kd.R_drew)); exact (Kd.R_mono (Kd.R_far (p := ⟨gb207, 3, none⟩) (Kd.R_far (p := ⟨gb207, 2, none⟩) (Kd.R_far (p := ⟨gb207, 1, none⟩) (Kd.R_far (p := ⟨gb207, 0, none⟩) (Kd.R_mono HO_3.out (fun k_ hk => (⟨hk, hk.2⟩ : _ ∧ k_ ≠ gb207))) (fun _ hk => hk.2) (.string t202)) (fun _ hk => hk.2) (.int .i64 t203)) (fun _ hk => hk.2) (.int .i64 t204)) (fun _ hk => hk.2) (.string t205)) (fun _ h_ => h_.1)))); (case side2 => exact (Kd.R_reads' HO_3.out).2.1); rintro e w29 ⟨rfl, hb⟩; refine ⟨_, rfl, ?_⟩; have n0_ := Aside0.mk (Kd.R_below (by (with_reducible repeat (first | apply Kd.R_alloc | apply Kd.R_drewN | apply Kd.R_drew)); exact (Kd.R_mono (Kd.R_far (p := ⟨gb207, 3, none⟩) (Kd.R_far (p := ⟨gb207, 2, none⟩) (Kd.R_far (p := ⟨gb207, 1, none⟩) (Kd.R_far (p := ⟨gb207, 0, none⟩) (Kd.R_mono HO_3.out (fun k_ hk => (⟨hk, hk.2⟩ : _ ∧ k_ ≠ gb207))) (fun _ hk => hk.2) (.string t202)) (fun _ hk => hk.2) (.int .i64 t203)) (fun _ hk => hk.2) (.int .i64 t204)) (fun _ hk => hk.2) (.string t205)) (fun _ h_ => h_.1))) hb); have n1_ := Aside0.mk (blk_below (g := gb207) (o := .cells #[.string t202, .int .i64 t203, .int .i64 t204, .string t205] 110 (0, 0)) (by (with_reducible repeat (first | refine blk_drewN ?_ _ | refine blk_drew ?_ | refine blk_alloc ?_ _)); refine blk_put (cs := #[.string t202, .int .i64 t203, .int .i64 t204, .string (⟨#[]⟩ : ByteArray)]) ?_ 3 _ rfl; (with_reducible repeat (first | refine blk_drewN ?_ _ | refine blk_drew ?_ | refine blk_alloc ?_ _)); refine blk_put (cs := #[.string t202, .int .i64 t203, .int .i64 0, .string (⟨#[]⟩ : ByteArray)]) ?_ 2 _ rfl; (with_reducible repeat (first | refine blk_drewN ?_ _ | refine blk_drew ?_ | refine blk_alloc ?_ _)); refine blk_put (cs := #[.string t202, .int .i64 0, .int .i64 0, .string (⟨#[]⟩ : ByteArray)]) ?_ 1 _ rfl; (with_reducible repeat (first | refine blk_drewN ?_ _ | refine blk_drew ?_ | refine blk_alloc ?_ _)); refine blk_put (cs := #[.string (⟨#[]⟩ : ByteArray), .int .i64 0, .int .i64 0, .string (⟨#[]⟩ : ByteArray)]) ?_ 0 _ rfl; (with_reducible repeat (first | refine blk_drewN ?_ _ | refine blk_drew ?_ | refine blk_alloc ?_ _)); exact BK207.out) hb); have n2_ := bsA HB hb; clear HO_3; clear BK207; clear HB; have HO_3 := n0_; have BK207 := n1_; have HB := n2_; clear n0_ n1_ n2_; (try clear hb); (try clear hb2); (try clear hk); (try clear hi)) | ((with_reducible refine gate_dst (N := 8) rfl ?_); (try (refine gate_guard (by rfl) ?_; dsimp only)); refine box_event ?hg (N := 8) ?hd (cs := #[.string (⟨#[]⟩ : ByteArray), .int .i64 0, .int .i64 0, .string (⟨#[]⟩ : ByteArray)]) (t := 110) ?hr ?_; (case hd => rfl); (case hg => rfl); (case hr => first | (go_simp; done) | (go_simp; rfl) | (go_simp; simp only [wAl, wAr, wSl, wSr, wW])); intro gb213 hg w30 hbox hb; have n0_ := Aside0.mk (Kd.R_below (Kd.R_elderB (by (with_reducible repeat (first | apply Kd.R_alloc | apply Kd.R_drewN | apply Kd.R_drew)); exact HO_3.out) gb213 (Nat.le_of_eq hg.symm)) hb); have n1_ := bkA BK207 hb; have n2_ := bsA HB hb; have n3_ := Aside0.mk (hbox); have n4_ := szA HB hg; have n5_ := szA HB hg; have n6_ := neA BK207 hg; have n7_ := neB BK207 hg; clear HO_3; clear BK207; clear HB; have HO_3 := n0_; have BK207 := n1_; have HB := n2_; have BK213 := n3_; have GW213 := n4_; have GE213 := n5_; have NB207_213 := n6_; have NB213_207 := n7_; clear n0_ n1_ n2_ n3_ n4_ n5_ n6_ n7_; clear hb hbox hg; have hnb31 := NB213_207.out; have hnc31 := NB207_213.out; have hcz32_0 : w30.cell? ⟨gb213, 0, none⟩ = some (.string (⟨#[]⟩ : ByteArray)) := (blk_cell BK213.out 0).trans rfl; have hcz32_1 : w30.cell? ⟨gb213, 1, none⟩ = some (.int .i64 0) := (blk_cell BK213.out 1).trans rfl; have hcz32_2 : w30.cell? ⟨gb213, 2, none⟩ = some (.int .i64 0) := (blk_cell BK213.out 2).trans rfl; have hcz32_3 : w30.cell? ⟨gb213, 3, none⟩ = some (.string (⟨#[]⟩ : ByteArray)) := (blk_cell BK213.out 3).trans rfl; have hfz32_0 := blk_frozen BK213.out 0; have hfz32_1 := blk_frozen BK213.out 1; have hfz32_2 := blk_frozen BK213.out 2; have hfz32_3 := blk_frozen BK213.out 3))
             go_roundg kj5
             case measure => have := HK1.out; have := HJ5.out; omega
             case rel => exact ⟨(x3_1), (wrap64 (x4_5 + 1)), rs_, H', ⟨by have := HK1.out; have := HJ5.out; omega⟩, ⟨by (with_reducible repeat (first | apply Kd.R_alloc | apply Kd.R_drewN | apply Kd.R_drew)); exact Kd.R_mono (Kd.R_far (p := ⟨gb213, 3, none⟩) (Kd.R_far (p := ⟨gb213, 2, none⟩) (Kd.R_far (p := ⟨gb213, 1, none⟩) (Kd.R_far (p := ⟨gb213, 0, none⟩) (Kd.R_mono HO_3.out (fun k_ hk => (⟨hk, hk.2⟩ : _ ∧ k_ ≠ gb213))) (fun _ hk => hk.2) (.string t208)) (fun _ hk => hk.2) (.int .i64 t209)) (fun _ hk => hk.2) (.int .i64 t210)) (fun _ hk => hk.2) (.string t211)) (fun _ hk => trivial)⟩, ⟨by repeat (first | (with_reducible first | exact HB.out | apply below_alloc | apply pw_below_drewN | apply below_drew1 | refine below_set ?_ GE207.out | refine below_set ?_ GE213.out) | exact HB.out)⟩⟩
            ·replace c17 := Bool.eq_false_iff.mpr c17
             subst c17
             have H1 : (if (x3_1.length : Int) < 16 then (if x3_1.length < 2932031007402 then (dragnetref08_Read.l0 kj5 l0 (x3_1 ++ [(⟨t202, t203, t204, t205⟩ : S110)]) (wrap64 (x4_5 + 1))) else (none)) else (dragnetref08_Read.l0 kj5 l0 x3_1 (wrap64 (x4_5 + 1)))) = some r := by rw [if_neg (show ¬ (false = true) by decide)] at H; exact H
             clear H
             have H := H1
             clear H1
             by_cases c33 : (x3_1.length : Int) < 16
             ·rw [if_pos c33] at H
              have c33b0 : decide ((x3_1.length : Int) < 16) = true := decide_eq_true c33
              have c33b1 : decide (x3_1.length < 16) = true := decide_eq_true (by omega)
              clear c33
              by_cases c34 : x3_1.length < 2932031007402
              ·rw [if_pos c34] at H
               have LMc34 := Aside0.mk c34
               clear c34
               obtain ⟨y214, hy214⟩ : ∃ y_ : List (S110), y_ = (x3_1 ++ [(⟨t202, t203, t204, t205⟩ : S110)]) := ⟨_, rfl⟩
               replace H : (dragnetref08_Read.l0 kj5 l0 y214 (wrap64 (x4_5 + 1))) = some r := by first | (rw [hy214]; with_reducible exact H) | (have H2_ := (Option.bind_some _ _).symm.trans H; rw [hy214]; with_reducible exact H2_) | (have H2_ := (Option.bind_some _ _).symm.trans H; with_reducible exact H2_) | with_reducible exact H | (rw [hy214]; exact H) | exact H
               have Ny214 := Aside0.mk hy214
               clear hy214
               have H' := Aside0.mk H
               clear H
               obtain ⟨i035, hi035, _, hsz35, _⟩ := info_parts info5
               obtain ⟨A35, hcut35, hA35, hC35⟩ := print_mid_of (P := Tryz.prog) (Value.int .u8) 0 25 5 .i64 .i64 Tryz.underlying25 hi035 hsz35 (some ad197) c0 l0 x4_1 x4_5 (of_decide_eq_true as_) (by first | omega | exact of_decide_eq_true as_) (of_decide_eq_true as_) HC0.out
               have HR201 := Aside0.mk (Kd.C_of_reads (h1 := fun _ => rfl) (hA35 _ (Kd.reads_of_C HR0.out)))
               have HC201 := Aside0.mk hC35
               clear hA35 hC35 hi035 hsz35
               have hcv36 := Kd.C_string (P := Tryz.prog) (A := A35) (c := (c0 - x4_1.toNat)) Tryz.underlying25 Tryz.underlying5 Tryz.underlying9 (Kd.C_below HR201.out HB.out)
               have hcv37 := fun (i_ : Nat) => Kd.C_string (P := Tryz.prog) (A := A35) (c := (c0 - x4_1.toNat)) Tryz.underlying25 Tryz.underlying5 Tryz.underlying9 (Kd.C_drewN (Kd.C_below HR201.out HB.out) i_)
               have hcv38 := fun (i_ j_ : Nat) => Kd.C_string (P := Tryz.prog) (A := A35) (c := (c0 - x4_1.toNat)) Tryz.underlying25 Tryz.underlying5 Tryz.underlying9 (Kd.C_drewN (Kd.C_drewN (Kd.C_below HR201.out HB.out) i_) j_)
               have hcv39 := Kd.C_string (P := Tryz.prog) (A := A35) (c := (c0 - x4_1.toNat)) Tryz.underlying25 Tryz.underlying5 Tryz.underlying9 (Kd.C_below HR201.out HB.out)
               (try simp only [List.length_take, List.length_drop, Int.toNat_natCast, Nat.min_eq_left (show (x4_5 : Int).toNat ≤ l0.length by have h_ := of_decide_eq_true (show decide (x4_5 ≤ (l0.length : Int)) = true by assumption); omega)] at hcv39)
               have hcv40 := fun (i_ : Nat) => Kd.C_string (P := Tryz.prog) (A := A35) (c := (c0 - x4_1.toNat)) Tryz.underlying25 Tryz.underlying5 Tryz.underlying9 (Kd.C_drewN (Kd.C_below HR201.out HB.out) i_)
               (try simp only [List.length_take, List.length_drop, Int.toNat_natCast, Nat.min_eq_left (show (x4_5 : Int).toNat ≤ l0.length by have h_ := of_decide_eq_true (show decide (x4_5 ≤ (l0.length : Int)) = true by assumption); omega)] at hcv40)
               have hcv41 := fun (i_ j_ : Nat) => Kd.C_string (P := Tryz.prog) (A := A35) (c := (c0 - x4_1.toNat)) Tryz.underlying25 Tryz.underlying5 Tryz.underlying9 (Kd.C_drewN (Kd.C_drewN (Kd.C_below HR201.out HB.out) i_) j_)
               (try simp only [List.length_take, List.length_drop, Int.toNat_natCast, Nat.min_eq_left (show (x4_5 : Int).toNat ≤ l0.length by have h_ := of_decide_eq_true (show decide (x4_5 ≤ (l0.length : Int)) = true by assumption); omega)] at hcv41)
               go_wp2_with (first | ((with_reducible refine gate_callee (f := 111) rfl ?_); refine goesL_ (some 42) rfl rfl Tryz.func111 (by kernel_rfl) rfl #[.string (strOfNums ((l0.take (x4_5 : Int).toNat).drop (x4_1 : Int).toNat))] rfl mp_ ?_; (with_reducible refine (dragnetref08_One.calls kj5 (strOfNums ((l0.take (x4_5 : Int).toNat).drop (x4_1 : Int).toNat)) t202 t203 t204 t205 true _ A14.out).mono ?_); rintro e w42 ⟨rfl, hb⟩; refine ⟨_, rfl, ?_⟩; have n0_ := rbA HO_3 hb; have n1_ := bsA HB hb; clear HO_3; clear HB; have HO_3 := n0_; have HB := n1_; clear n0_ n1_; (try clear hb); (try clear hb2); (try clear hk); (try clear hi)) | ((with_reducible refine gate_dst (N := 6) rfl ?_); (try (refine gate_guard (by rfl) ?_; dsimp only)); refine box_event ?hg (N := 6) ?hd (cs := #[.string (⟨#[]⟩ : ByteArray), .int .i64 0, .int .i64 0, .string (⟨#[]⟩ : ByteArray)]) (t := 110) ?hr ?_; (case hd => rfl); (case hg => rfl); (case hr => first | (go_simp; done) | (go_simp; rfl) | (go_simp; simp only [wAl, wAr, wSl, wSr, wW])); intro gb207 hg w43 hbox hb; have n0_ := Aside0.mk (Kd.R_below (Kd.R_elderB (by (with_reducible repeat (first | apply Kd.R_alloc | apply Kd.R_drewN | apply Kd.R_drew)); exact HO_3.out) gb207 (Nat.le_of_eq hg.symm)) hb); have n1_ := bsA HB hb; have n2_ := Aside0.mk (hbox); have n3_ := szA HB hg; have n4_ := szA HB hg; clear HO_3; clear HB; have HO_3 := n0_; have HB := n1_; have BK207 := n2_; have GW207 := n3_; have GE207 := n4_; clear n0_ n1_ n2_ n3_ n4_; clear hb hbox hg; have hcz44_0 : w43.cell? ⟨gb207, 0, none⟩ = some (.string (⟨#[]⟩ : ByteArray)) := (blk_cell BK207.out 0).trans rfl; have hcz44_1 : w43.cell? ⟨gb207, 1, none⟩ = some (.int .i64 0) := (blk_cell BK207.out 1).trans rfl; have hcz44_2 : w43.cell? ⟨gb207, 2, none⟩ = some (.int .i64 0) := (blk_cell BK207.out 2).trans rfl; have hcz44_3 : w43.cell? ⟨gb207, 3, none⟩ = some (.string (⟨#[]⟩ : ByteArray)) := (blk_cell BK207.out 3).trans rfl; have hfz44_0 := blk_frozen BK207.out 0; have hfz44_1 := blk_frozen BK207.out 1; have hfz44_2 := blk_frozen BK207.out 2; have hfz44_3 := blk_frozen BK207.out 3; obtain ⟨Ao45, co45, eo45⟩ := Kd.R_slice HO_3.out; subst eo45) | ((with_reducible refine gate_callee (f := 92) rfl ?_); refine goesL_ (some 49) rfl rfl Tryz.func92 (by kernel_rfl) rfl #[.slice Ao45 x3_1.length co45, .string t202] rfl mp_ ?_; (with_reducible refine (dragnetref08_At.calls kj5 _ _ x3_1 t202 t208 t209 t210 t211 false _ ?side1 ?side2 A15.out).mono ?_); (case side1 => refine (Kd.R_reads' (e := 110) (base := w.heap.size) (ok := fun k_ => (True ∧ k_ ≠ gb207)) (n := x3_1.length) (c := co45) ?_).2.2; exact (by (with_reducible repeat (first | apply Kd.R_alloc | apply Kd.R_drewN | apply Kd.R_drew)); exact (Kd.R_mono (Kd.R_far (p := ⟨gb207, 3, none⟩) (Kd.R_far (p := ⟨gb207, 2, none⟩) (Kd.R_far (p := ⟨gb207, 1, none⟩) (Kd.R_far (p := ⟨gb207, 0, none⟩) (Kd.R_mono HO_3.out (fun k_ hk => (⟨hk, hk.2⟩ : _ ∧ k_ ≠ gb207))) (fun _ hk => hk.2) (.string t202)) (fun _ hk => hk.2) (.int .i64 t203)) (fun _ hk => hk.2) (.int .i64 t204)) (fun _ hk => hk.2) (.string t205)) (fun _ h_ => h_.1)))); (case side2 => exact (Kd.R_reads' HO_3.out).2.1); rintro e w46 ⟨rfl, hb⟩; refine ⟨_, rfl, ?_⟩; have n0_ := Aside0.mk (Kd.R_below (by (with_reducible repeat (first | apply Kd.R_alloc | apply Kd.R_drewN | apply Kd.R_drew)); exact (Kd.R_mono (Kd.R_far (p := ⟨gb207, 3, none⟩) (Kd.R_far (p := ⟨gb207, 2, none⟩) (Kd.R_far (p := ⟨gb207, 1, none⟩) (Kd.R_far (p := ⟨gb207, 0, none⟩) (Kd.R_mono HO_3.out (fun k_ hk => (⟨hk, hk.2⟩ : _ ∧ k_ ≠ gb207))) (fun _ hk => hk.2) (.string t202)) (fun _ hk => hk.2) (.int .i64 t203)) (fun _ hk => hk.2) (.int .i64 t204)) (fun _ hk => hk.2) (.string t205)) (fun _ h_ => h_.1))) hb); have n1_ := Aside0.mk (blk_below (g := gb207) (o := .cells #[.string t202, .int .i64 t203, .int .i64 t204, .string t205] 110 (0, 0)) (by (with_reducible repeat (first | refine blk_drewN ?_ _ | refine blk_drew ?_ | refine blk_alloc ?_ _)); refine blk_put (cs := #[.string t202, .int .i64 t203, .int .i64 t204, .string (⟨#[]⟩ : ByteArray)]) ?_ 3 _ rfl; (with_reducible repeat (first | refine blk_drewN ?_ _ | refine blk_drew ?_ | refine blk_alloc ?_ _)); refine blk_put (cs := #[.string t202, .int .i64 t203, .int .i64 0, .string (⟨#[]⟩ : ByteArray)]) ?_ 2 _ rfl; (with_reducible repeat (first | refine blk_drewN ?_ _ | refine blk_drew ?_ | refine blk_alloc ?_ _)); refine blk_put (cs := #[.string t202, .int .i64 0, .int .i64 0, .string (⟨#[]⟩ : ByteArray)]) ?_ 1 _ rfl; (with_reducible repeat (first | refine blk_drewN ?_ _ | refine blk_drew ?_ | refine blk_alloc ?_ _)); refine blk_put (cs := #[.string (⟨#[]⟩ : ByteArray), .int .i64 0, .int .i64 0, .string (⟨#[]⟩ : ByteArray)]) ?_ 0 _ rfl; (with_reducible repeat (first | refine blk_drewN ?_ _ | refine blk_drew ?_ | refine blk_alloc ?_ _)); exact BK207.out) hb); have n2_ := bsA HB hb; clear HO_3; clear BK207; clear HB; have HO_3 := n0_; have BK207 := n1_; have HB := n2_; clear n0_ n1_ n2_; (try clear hb); (try clear hb2); (try clear hk); (try clear hi)) | ((with_reducible refine gate_dst (N := 8) rfl ?_); (try (refine gate_guard (by rfl) ?_; dsimp only)); refine box_event ?hg (N := 8) ?hd (cs := #[.string (⟨#[]⟩ : ByteArray), .int .i64 0, .int .i64 0, .string (⟨#[]⟩ : ByteArray)]) (t := 110) ?hr ?_; (case hd => rfl); (case hg => rfl); (case hr => first | (go_simp; done) | (go_simp; rfl) | (go_simp; simp only [wAl, wAr, wSl, wSr, wW])); intro gb213 hg w47 hbox hb; have n0_ := Aside0.mk (Kd.R_below (Kd.R_elderB (by (with_reducible repeat (first | apply Kd.R_alloc | apply Kd.R_drewN | apply Kd.R_drew)); exact HO_3.out) gb213 (Nat.le_of_eq hg.symm)) hb); have n1_ := bkA BK207 hb; have n2_ := bsA HB hb; have n3_ := Aside0.mk (hbox); have n4_ := szA HB hg; have n5_ := szA HB hg; have n6_ := neA BK207 hg; have n7_ := neB BK207 hg; clear HO_3; clear BK207; clear HB; have HO_3 := n0_; have BK207 := n1_; have HB := n2_; have BK213 := n3_; have GW213 := n4_; have GE213 := n5_; have NB207_213 := n6_; have NB213_207 := n7_; clear n0_ n1_ n2_ n3_ n4_ n5_ n6_ n7_; clear hb hbox hg; have hnb48 := NB213_207.out; have hnc48 := NB207_213.out; have hcz49_0 : w47.cell? ⟨gb213, 0, none⟩ = some (.string (⟨#[]⟩ : ByteArray)) := (blk_cell BK213.out 0).trans rfl; have hcz49_1 : w47.cell? ⟨gb213, 1, none⟩ = some (.int .i64 0) := (blk_cell BK213.out 1).trans rfl; have hcz49_2 : w47.cell? ⟨gb213, 2, none⟩ = some (.int .i64 0) := (blk_cell BK213.out 2).trans rfl; have hcz49_3 : w47.cell? ⟨gb213, 3, none⟩ = some (.string (⟨#[]⟩ : ByteArray)) := (blk_cell BK213.out 3).trans rfl; have hfz49_0 := blk_frozen BK213.out 0; have hfz49_1 := blk_frozen BK213.out 1; have hfz49_2 := blk_frozen BK213.out 2; have hfz49_3 := blk_frozen BK213.out 3; have hcz50_0 : w47.cell? ⟨gb207, 0, none⟩ = some (.string t202) := (blk_cell BK207.out 0).trans rfl; have hcz50_1 : w47.cell? ⟨gb207, 1, none⟩ = some (.int .i64 t203) := (blk_cell BK207.out 1).trans rfl; have hcz50_2 : w47.cell? ⟨gb207, 2, none⟩ = some (.int .i64 t204) := (blk_cell BK207.out 2).trans rfl; have hcz50_3 : w47.cell? ⟨gb207, 3, none⟩ = some (.string t205) := (blk_cell BK207.out 3).trans rfl; have hfz50_0 := blk_frozen BK207.out 0; have hfz50_1 := blk_frozen BK207.out 1; have hfz50_2 := blk_frozen BK207.out 2; have hfz50_3 := blk_frozen BK207.out 3) | ((with_reducible refine gate_builtin (b := .append) (xs := #[.tmp 62, .tmp 64]) rfl ?_); (try (refine gate_guard (by rfl) ?_; dsimp only)); at_builtin; refine Kd.R_append k110 (w0 := w) w.heap.size rfl (.tmp 62) (.tmp 64) 130 110 (.agg #[(.string ⟨#[]⟩), (.int .i64 0), (.int .i64 0), (.string ⟨#[]⟩)]) 48 rfl Tryz.underlying130 info110 rfl (by decide) (by omega) (.slice Ao45 x3_1.length co45) x3_1 (⟨t202, t203, t204, t205⟩ : S110) [.string t202, .int .i64 t203, .int .i64 t204, .string t205] (fun k_ => k_ ≠ gb207 ∧ k_ ≠ gb213) (fun _ => False) rfl (by first | (go_simp; done) | (go_simp; rfl)) ?aP (fun _ hk => hk.elim) ?aF ?aO ?aB ?aS ?aL ?_; (case aP => exact k110_mkM _ _ _ (⟨t202, t203, t204, t205⟩ : S110)); (case aB => exact (by repeat (first | (with_reducible first | exact HB.out | apply below_alloc | apply pw_below_drewN | apply below_drew1 | refine below_set ?_ GE207.out | refine below_set ?_ GE213.out) | exact HB.out))); (case aF => exact (fun k_ hk => ⟨Kd.freshB (g := gb207) (o := .cells #[.string t202, .int .i64 t203, .int .i64 t204, .string t205] 110 (0, 0)) (by (with_reducible repeat (first | refine blk_drewN ?_ _ | refine blk_drew ?_ | refine blk_alloc ?_ _)); refine blk_far ?_ NB207_213.out _; (with_reducible repeat (first | refine blk_drewN ?_ _ | refine blk_drew ?_ | refine blk_alloc ?_ _)); refine blk_far ?_ NB207_213.out _; (with_reducible repeat (first | refine blk_drewN ?_ _ | refine blk_drew ?_ | refine blk_alloc ?_ _)); refine blk_far ?_ NB207_213.out _; (with_reducible repeat (first | refine blk_drewN ?_ _ | refine blk_drew ?_ | refine blk_alloc ?_ _)); refine blk_far ?_ NB207_213.out _; (with_reducible repeat (first | refine blk_drewN ?_ _ | refine blk_drew ?_ | refine blk_alloc ?_ _)); exact BK207.out) k_ hk, Kd.freshB (g := gb213) (o := .cells #[.string t208, .int .i64 t209, .int .i64 t210, .string t211] 110 (0, 0)) (by (with_reducible repeat (first | refine blk_drewN ?_ _ | refine blk_drew ?_ | refine blk_alloc ?_ _)); refine blk_put (cs := #[.string t208, .int .i64 t209, .int .i64 t210, .string (⟨#[]⟩ : ByteArray)]) ?_ 3 _ rfl; (with_reducible repeat (first | refine blk_drewN ?_ _ | refine blk_drew ?_ | refine blk_alloc ?_ _)); refine blk_put (cs := #[.string t208, .int .i64 t209, .int .i64 0, .string (⟨#[]⟩ : ByteArray)]) ?_ 2 _ rfl; (with_reducible repeat (first | refine blk_drewN ?_ _ | refine blk_drew ?_ | refine blk_alloc ?_ _)); refine blk_put (cs := #[.string t208, .int .i64 0, .int .i64 0, .string (⟨#[]⟩ : ByteArray)]) ?_ 1 _ rfl; (with_reducible repeat (first | refine blk_drewN ?_ _ | refine blk_drew ?_ | refine blk_alloc ?_ _)); refine blk_put (cs := #[.string (⟨#[]⟩ : ByteArray), .int .i64 0, .int .i64 0, .string (⟨#[]⟩ : ByteArray)]) ?_ 0 _ rfl; (with_reducible repeat (first | refine blk_drewN ?_ _ | refine blk_drew ?_ | refine blk_alloc ?_ _)); exact BK213.out) k_ hk⟩)); (case aO => exact (by (with_reducible repeat (first | apply Kd.R_alloc | apply Kd.R_drewN | apply Kd.R_drew)); exact Kd.R_mono (Kd.R_far (p := ⟨gb213, 3, none⟩) (Kd.R_far (p := ⟨gb213, 2, none⟩) (Kd.R_far (p := ⟨gb213, 1, none⟩) (Kd.R_far (p := ⟨gb213, 0, none⟩) (Kd.R_mono HO_3.out (fun k_ hk => (⟨hk, hk.2⟩ : _ ∧ k_ ≠ gb213))) (fun _ hk => hk.2) (.string t208)) (fun _ hk => hk.2) (.int .i64 t209)) (fun _ hk => hk.2) (.int .i64 t210)) (fun _ hk => hk.2) (.string t211)) (fun _ hk => ⟨hk.1.1.2, hk.1.2⟩))); (case aS => exact (below_size (by repeat (first | (with_reducible first | exact HB.out | apply below_alloc | apply pw_below_drewN | apply below_drew1 | refine below_set ?_ GE207.out | refine below_set ?_ GE213.out) | exact HB.out)))); (case aL => have := LMc34.out; omega); intro v215 w51 ho hb hg hat; rw [← Ny214.out] at ho; have n0_ := Aside0.mk (blk_grown (g := gb207) (o := .cells #[.string t202, .int .i64 t203, .int .i64 t204, .string t205] 110 (0, 0)) (by (with_reducible repeat (first | refine blk_drewN ?_ _ | refine blk_drew ?_ | refine blk_alloc ?_ _)); refine blk_far ?_ NB207_213.out _; (with_reducible repeat (first | refine blk_drewN ?_ _ | refine blk_drew ?_ | refine blk_alloc ?_ _)); refine blk_far ?_ NB207_213.out _; (with_reducible repeat (first | refine blk_drewN ?_ _ | refine blk_drew ?_ | refine blk_alloc ?_ _)); refine blk_far ?_ NB207_213.out _; (with_reducible repeat (first | refine blk_drewN ?_ _ | refine blk_drew ?_ | refine blk_alloc ?_ _)); refine blk_far ?_ NB207_213.out _; (with_reducible repeat (first | refine blk_drewN ?_ _ | refine blk_drew ?_ | refine blk_alloc ?_ _)); exact BK207.out) hg (Kd.R_away HO_3.out (fun _ hk => hk.1.2))); have n1_ := Aside0.mk (blk_grown (g := gb213) (o := .cells #[.string t208, .int .i64 t209, .int .i64 t210, .string t211] 110 (0, 0)) (by (with_reducible repeat (first | refine blk_drewN ?_ _ | refine blk_drew ?_ | refine blk_alloc ?_ _)); refine blk_put (cs := #[.string t208, .int .i64 t209, .int .i64 t210, .string (⟨#[]⟩ : ByteArray)]) ?_ 3 _ rfl; (with_reducible repeat (first | refine blk_drewN ?_ _ | refine blk_drew ?_ | refine blk_alloc ?_ _)); refine blk_put (cs := #[.string t208, .int .i64 t209, .int .i64 0, .string (⟨#[]⟩ : ByteArray)]) ?_ 2 _ rfl; (with_reducible repeat (first | refine blk_drewN ?_ _ | refine blk_drew ?_ | refine blk_alloc ?_ _)); refine blk_put (cs := #[.string t208, .int .i64 0, .int .i64 0, .string (⟨#[]⟩ : ByteArray)]) ?_ 1 _ rfl; (with_reducible repeat (first | refine blk_drewN ?_ _ | refine blk_drew ?_ | refine blk_alloc ?_ _)); refine blk_put (cs := #[.string (⟨#[]⟩ : ByteArray), .int .i64 0, .int .i64 0, .string (⟨#[]⟩ : ByteArray)]) ?_ 0 _ rfl; (with_reducible repeat (first | refine blk_drewN ?_ _ | refine blk_drew ?_ | refine blk_alloc ?_ _)); exact BK213.out) hg (Kd.R_away HO_3.out (fun _ hk => hk.2))); have n2_ := Aside0.mk (hb); have n3_ := Aside0.mk (ho); clear BK207; clear BK213; clear HB; clear HO_3; have BK207 := n0_; have BK213 := n1_; have HB := n2_; have HO216 := n3_; clear n0_ n1_ n2_ n3_; clear ho hb hg hat))
               go_roundg kj5
               case measure => have := HK1.out; have := HJ5.out; omega
               case rel => exact ⟨(y214), (wrap64 (x4_5 + 1)), rs_, H', ⟨by have := HK1.out; have := HJ5.out; omega⟩, ⟨by (with_reducible repeat (first | apply Kd.R_alloc | apply Kd.R_drewN | apply Kd.R_drew)); exact Kd.R_mono HO216.out (fun _ hk => trivial)⟩, ⟨by repeat (first | (with_reducible first | exact HB.out | apply below_alloc | apply pw_below_drewN | apply below_drew1 | refine below_set ?_ GE207.out | refine below_set ?_ GE213.out) | exact HB.out)⟩⟩
              ·rw [if_neg c34] at H
               exact absurd H (by simp)
             ·rw [if_neg c33] at H
              have c33b0 : decide ((x3_1.length : Int) < 16) = false := decide_eq_false c33
              have c33b1 : decide (x3_1.length < 16) = false := decide_eq_false (by omega)
              clear c33
              have H' := Aside0.mk H
              clear H
              obtain ⟨i052, hi052, _, hsz52, _⟩ := info_parts info5
              obtain ⟨A52, hcut52, hA52, hC52⟩ := print_mid_of (P := Tryz.prog) (Value.int .u8) 0 25 5 .i64 .i64 Tryz.underlying25 hi052 hsz52 (some ad197) c0 l0 x4_1 x4_5 (of_decide_eq_true as_) (by first | omega | exact of_decide_eq_true as_) (of_decide_eq_true as_) HC0.out
              have HR201 := Aside0.mk (Kd.C_of_reads (h1 := fun _ => rfl) (hA52 _ (Kd.reads_of_C HR0.out)))
              have HC201 := Aside0.mk hC52
              clear hA52 hC52 hi052 hsz52
              have hcv53 := Kd.C_string (P := Tryz.prog) (A := A52) (c := (c0 - x4_1.toNat)) Tryz.underlying25 Tryz.underlying5 Tryz.underlying9 (Kd.C_below HR201.out HB.out)
              have hcv54 := fun (i_ : Nat) => Kd.C_string (P := Tryz.prog) (A := A52) (c := (c0 - x4_1.toNat)) Tryz.underlying25 Tryz.underlying5 Tryz.underlying9 (Kd.C_drewN (Kd.C_below HR201.out HB.out) i_)
              have hcv55 := fun (i_ j_ : Nat) => Kd.C_string (P := Tryz.prog) (A := A52) (c := (c0 - x4_1.toNat)) Tryz.underlying25 Tryz.underlying5 Tryz.underlying9 (Kd.C_drewN (Kd.C_drewN (Kd.C_below HR201.out HB.out) i_) j_)
              have hcv56 := Kd.C_string (P := Tryz.prog) (A := A52) (c := (c0 - x4_1.toNat)) Tryz.underlying25 Tryz.underlying5 Tryz.underlying9 (Kd.C_below HR201.out HB.out)
              (try simp only [List.length_take, List.length_drop, Int.toNat_natCast, Nat.min_eq_left (show (x4_5 : Int).toNat ≤ l0.length by have h_ := of_decide_eq_true (show decide (x4_5 ≤ (l0.length : Int)) = true by assumption); omega)] at hcv56)
              have hcv57 := fun (i_ : Nat) => Kd.C_string (P := Tryz.prog) (A := A52) (c := (c0 - x4_1.toNat)) Tryz.underlying25 Tryz.underlying5 Tryz.underlying9 (Kd.C_drewN (Kd.C_below HR201.out HB.out) i_)
              (try simp only [List.length_take, List.length_drop, Int.toNat_natCast, Nat.min_eq_left (show (x4_5 : Int).toNat ≤ l0.length by have h_ := of_decide_eq_true (show decide (x4_5 ≤ (l0.length : Int)) = true by assumption); omega)] at hcv57)
              have hcv58 := fun (i_ j_ : Nat) => Kd.C_string (P := Tryz.prog) (A := A52) (c := (c0 - x4_1.toNat)) Tryz.underlying25 Tryz.underlying5 Tryz.underlying9 (Kd.C_drewN (Kd.C_drewN (Kd.C_below HR201.out HB.out) i_) j_)
              (try simp only [List.length_take, List.length_drop, Int.toNat_natCast, Nat.min_eq_left (show (x4_5 : Int).toNat ≤ l0.length by have h_ := of_decide_eq_true (show decide (x4_5 ≤ (l0.length : Int)) = true by assumption); omega)] at hcv58)
              go_wp2_with (first | ((with_reducible refine gate_callee (f := 111) rfl ?_); refine goesL_ (some 42) rfl rfl Tryz.func111 (by kernel_rfl) rfl #[.string (strOfNums ((l0.take (x4_5 : Int).toNat).drop (x4_1 : Int).toNat))] rfl mp_ ?_; (with_reducible refine (dragnetref08_One.calls kj5 (strOfNums ((l0.take (x4_5 : Int).toNat).drop (x4_1 : Int).toNat)) t202 t203 t204 t205 true _ A14.out).mono ?_); rintro e w59 ⟨rfl, hb⟩; refine ⟨_, rfl, ?_⟩; have n0_ := rbA HO_3 hb; have n1_ := bsA HB hb; clear HO_3; clear HB; have HO_3 := n0_; have HB := n1_; clear n0_ n1_; (try clear hb); (try clear hb2); (try clear hk); (try clear hi)) | ((with_reducible refine gate_dst (N := 6) rfl ?_); (try (refine gate_guard (by rfl) ?_; dsimp only)); refine box_event ?hg (N := 6) ?hd (cs := #[.string (⟨#[]⟩ : ByteArray), .int .i64 0, .int .i64 0, .string (⟨#[]⟩ : ByteArray)]) (t := 110) ?hr ?_; (case hd => rfl); (case hg => rfl); (case hr => first | (go_simp; done) | (go_simp; rfl) | (go_simp; simp only [wAl, wAr, wSl, wSr, wW])); intro gb207 hg w60 hbox hb; have n0_ := Aside0.mk (Kd.R_below (Kd.R_elderB (by (with_reducible repeat (first | apply Kd.R_alloc | apply Kd.R_drewN | apply Kd.R_drew)); exact HO_3.out) gb207 (Nat.le_of_eq hg.symm)) hb); have n1_ := bsA HB hb; have n2_ := Aside0.mk (hbox); have n3_ := szA HB hg; have n4_ := szA HB hg; clear HO_3; clear HB; have HO_3 := n0_; have HB := n1_; have BK207 := n2_; have GW207 := n3_; have GE207 := n4_; clear n0_ n1_ n2_ n3_ n4_; clear hb hbox hg; have hcz61_0 : w60.cell? ⟨gb207, 0, none⟩ = some (.string (⟨#[]⟩ : ByteArray)) := (blk_cell BK207.out 0).trans rfl; have hcz61_1 : w60.cell? ⟨gb207, 1, none⟩ = some (.int .i64 0) := (blk_cell BK207.out 1).trans rfl; have hcz61_2 : w60.cell? ⟨gb207, 2, none⟩ = some (.int .i64 0) := (blk_cell BK207.out 2).trans rfl; have hcz61_3 : w60.cell? ⟨gb207, 3, none⟩ = some (.string (⟨#[]⟩ : ByteArray)) := (blk_cell BK207.out 3).trans rfl; have hfz61_0 := blk_frozen BK207.out 0; have hfz61_1 := blk_frozen BK207.out 1; have hfz61_2 := blk_frozen BK207.out 2; have hfz61_3 := blk_frozen BK207.out 3; obtain ⟨Ao62, co62, eo62⟩ := Kd.R_slice HO_3.out; subst eo62) | ((with_reducible refine gate_callee (f := 92) rfl ?_); refine goesL_ (some 49) rfl rfl Tryz.func92 (by kernel_rfl) rfl #[.slice Ao62 x3_1.length co62, .string t202] rfl mp_ ?_; (with_reducible refine (dragnetref08_At.calls kj5 _ _ x3_1 t202 t208 t209 t210 t211 false _ ?side1 ?side2 A15.out).mono ?_); (case side1 => refine (Kd.R_reads' (e := 110) (base := w.heap.size) (ok := fun k_ => (True ∧ k_ ≠ gb207)) (n := x3_1.length) (c := co62) ?_).2.2; exact (by (with_reducible repeat (first | apply Kd.R_alloc | apply Kd.R_drewN | apply Kd.R_drew)); exact (Kd.R_mono (Kd.R_far (p := ⟨gb207, 3, none⟩) (Kd.R_far (p := ⟨gb207, 2, none⟩) (Kd.R_far (p := ⟨gb207, 1, none⟩) (Kd.R_far (p := ⟨gb207, 0, none⟩) (Kd.R_mono HO_3.out (fun k_ hk => (⟨hk, hk.2⟩ : _ ∧ k_ ≠ gb207))) (fun _ hk => hk.2) (.string t202)) (fun _ hk => hk.2) (.int .i64 t203)) (fun _ hk => hk.2) (.int .i64 t204)) (fun _ hk => hk.2) (.string t205)) (fun _ h_ => h_.1)))); (case side2 => exact (Kd.R_reads' HO_3.out).2.1); rintro e w63 ⟨rfl, hb⟩; refine ⟨_, rfl, ?_⟩; have n0_ := Aside0.mk (Kd.R_below (by (with_reducible repeat (first | apply Kd.R_alloc | apply Kd.R_drewN | apply Kd.R_drew)); exact (Kd.R_mono (Kd.R_far (p := ⟨gb207, 3, none⟩) (Kd.R_far (p := ⟨gb207, 2, none⟩) (Kd.R_far (p := ⟨gb207, 1, none⟩) (Kd.R_far (p := ⟨gb207, 0, none⟩) (Kd.R_mono HO_3.out (fun k_ hk => (⟨hk, hk.2⟩ : _ ∧ k_ ≠ gb207))) (fun _ hk => hk.2) (.string t202)) (fun _ hk => hk.2) (.int .i64 t203)) (fun _ hk => hk.2) (.int .i64 t204)) (fun _ hk => hk.2) (.string t205)) (fun _ h_ => h_.1))) hb); have n1_ := Aside0.mk (blk_below (g := gb207) (o := .cells #[.string t202, .int .i64 t203, .int .i64 t204, .string t205] 110 (0, 0)) (by (with_reducible repeat (first | refine blk_drewN ?_ _ | refine blk_drew ?_ | refine blk_alloc ?_ _)); refine blk_put (cs := #[.string t202, .int .i64 t203, .int .i64 t204, .string (⟨#[]⟩ : ByteArray)]) ?_ 3 _ rfl; (with_reducible repeat (first | refine blk_drewN ?_ _ | refine blk_drew ?_ | refine blk_alloc ?_ _)); refine blk_put (cs := #[.string t202, .int .i64 t203, .int .i64 0, .string (⟨#[]⟩ : ByteArray)]) ?_ 2 _ rfl; (with_reducible repeat (first | refine blk_drewN ?_ _ | refine blk_drew ?_ | refine blk_alloc ?_ _)); refine blk_put (cs := #[.string t202, .int .i64 0, .int .i64 0, .string (⟨#[]⟩ : ByteArray)]) ?_ 1 _ rfl; (with_reducible repeat (first | refine blk_drewN ?_ _ | refine blk_drew ?_ | refine blk_alloc ?_ _)); refine blk_put (cs := #[.string (⟨#[]⟩ : ByteArray), .int .i64 0, .int .i64 0, .string (⟨#[]⟩ : ByteArray)]) ?_ 0 _ rfl; (with_reducible repeat (first | refine blk_drewN ?_ _ | refine blk_drew ?_ | refine blk_alloc ?_ _)); exact BK207.out) hb); have n2_ := bsA HB hb; clear HO_3; clear BK207; clear HB; have HO_3 := n0_; have BK207 := n1_; have HB := n2_; clear n0_ n1_ n2_; (try clear hb); (try clear hb2); (try clear hk); (try clear hi)) | ((with_reducible refine gate_dst (N := 8) rfl ?_); (try (refine gate_guard (by rfl) ?_; dsimp only)); refine box_event ?hg (N := 8) ?hd (cs := #[.string (⟨#[]⟩ : ByteArray), .int .i64 0, .int .i64 0, .string (⟨#[]⟩ : ByteArray)]) (t := 110) ?hr ?_; (case hd => rfl); (case hg => rfl); (case hr => first | (go_simp; done) | (go_simp; rfl) | (go_simp; simp only [wAl, wAr, wSl, wSr, wW])); intro gb213 hg w64 hbox hb; have n0_ := Aside0.mk (Kd.R_below (Kd.R_elderB (by (with_reducible repeat (first | apply Kd.R_alloc | apply Kd.R_drewN | apply Kd.R_drew)); exact HO_3.out) gb213 (Nat.le_of_eq hg.symm)) hb); have n1_ := bkA BK207 hb; have n2_ := bsA HB hb; have n3_ := Aside0.mk (hbox); have n4_ := szA HB hg; have n5_ := szA HB hg; have n6_ := neA BK207 hg; have n7_ := neB BK207 hg; clear HO_3; clear BK207; clear HB; have HO_3 := n0_; have BK207 := n1_; have HB := n2_; have BK213 := n3_; have GW213 := n4_; have GE213 := n5_; have NB207_213 := n6_; have NB213_207 := n7_; clear n0_ n1_ n2_ n3_ n4_ n5_ n6_ n7_; clear hb hbox hg; have hnb65 := NB213_207.out; have hnc65 := NB207_213.out; have hcz66_0 : w64.cell? ⟨gb213, 0, none⟩ = some (.string (⟨#[]⟩ : ByteArray)) := (blk_cell BK213.out 0).trans rfl; have hcz66_1 : w64.cell? ⟨gb213, 1, none⟩ = some (.int .i64 0) := (blk_cell BK213.out 1).trans rfl; have hcz66_2 : w64.cell? ⟨gb213, 2, none⟩ = some (.int .i64 0) := (blk_cell BK213.out 2).trans rfl; have hcz66_3 : w64.cell? ⟨gb213, 3, none⟩ = some (.string (⟨#[]⟩ : ByteArray)) := (blk_cell BK213.out 3).trans rfl; have hfz66_0 := blk_frozen BK213.out 0; have hfz66_1 := blk_frozen BK213.out 1; have hfz66_2 := blk_frozen BK213.out 2; have hfz66_3 := blk_frozen BK213.out 3))
              go_roundg kj5
              case measure => have := HK1.out; have := HJ5.out; omega
              case rel => exact ⟨(x3_1), (wrap64 (x4_5 + 1)), rs_, H', ⟨by have := HK1.out; have := HJ5.out; omega⟩, ⟨by (with_reducible repeat (first | apply Kd.R_alloc | apply Kd.R_drewN | apply Kd.R_drew)); exact Kd.R_mono (Kd.R_far (p := ⟨gb213, 3, none⟩) (Kd.R_far (p := ⟨gb213, 2, none⟩) (Kd.R_far (p := ⟨gb213, 1, none⟩) (Kd.R_far (p := ⟨gb213, 0, none⟩) (Kd.R_mono HO_3.out (fun k_ hk => (⟨hk, hk.2⟩ : _ ∧ k_ ≠ gb213))) (fun _ hk => hk.2) (.string t208)) (fun _ hk => hk.2) (.int .i64 t209)) (fun _ hk => hk.2) (.int .i64 t210)) (fun _ hk => hk.2) (.string t211)) (fun _ hk => trivial)⟩, ⟨by repeat (first | (with_reducible first | exact HB.out | apply below_alloc | apply pw_below_drewN | apply below_drew1 | refine below_set ?_ GE207.out | refine below_set ?_ GE213.out) | exact HB.out)⟩⟩
           ·replace c16 := Bool.eq_false_iff.mpr c16
            subst c16
            have H1 : (dragnetref08_Read.l0 kj5 l0 x3_1 (wrap64 (x4_5 + 1))) = some r := by rw [if_neg (show ¬ (false = true) by decide)] at H; exact H
            clear H
            have H := H1
            clear H1
            have H' := Aside0.mk H
            clear H
            obtain ⟨i067, hi067, _, hsz67, _⟩ := info_parts info5
            obtain ⟨A67, hcut67, hA67, hC67⟩ := print_mid_of (P := Tryz.prog) (Value.int .u8) 0 25 5 .i64 .i64 Tryz.underlying25 hi067 hsz67 (some ad197) c0 l0 x4_1 x4_5 (of_decide_eq_true as_) (by first | omega | exact of_decide_eq_true as_) (of_decide_eq_true as_) HC0.out
            have HR201 := Aside0.mk (Kd.C_of_reads (h1 := fun _ => rfl) (hA67 _ (Kd.reads_of_C HR0.out)))
            have HC201 := Aside0.mk hC67
            clear hA67 hC67 hi067 hsz67
            have hcv68 := Kd.C_string (P := Tryz.prog) (A := A67) (c := (c0 - x4_1.toNat)) Tryz.underlying25 Tryz.underlying5 Tryz.underlying9 (Kd.C_below HR201.out HB.out)
            have hcv69 := fun (i_ : Nat) => Kd.C_string (P := Tryz.prog) (A := A67) (c := (c0 - x4_1.toNat)) Tryz.underlying25 Tryz.underlying5 Tryz.underlying9 (Kd.C_drewN (Kd.C_below HR201.out HB.out) i_)
            have hcv70 := fun (i_ j_ : Nat) => Kd.C_string (P := Tryz.prog) (A := A67) (c := (c0 - x4_1.toNat)) Tryz.underlying25 Tryz.underlying5 Tryz.underlying9 (Kd.C_drewN (Kd.C_drewN (Kd.C_below HR201.out HB.out) i_) j_)
            have hcv71 := Kd.C_string (P := Tryz.prog) (A := A67) (c := (c0 - x4_1.toNat)) Tryz.underlying25 Tryz.underlying5 Tryz.underlying9 (Kd.C_below HR201.out HB.out)
            (try simp only [List.length_take, List.length_drop, Int.toNat_natCast, Nat.min_eq_left (show (x4_5 : Int).toNat ≤ l0.length by have h_ := of_decide_eq_true (show decide (x4_5 ≤ (l0.length : Int)) = true by assumption); omega)] at hcv71)
            have hcv72 := fun (i_ : Nat) => Kd.C_string (P := Tryz.prog) (A := A67) (c := (c0 - x4_1.toNat)) Tryz.underlying25 Tryz.underlying5 Tryz.underlying9 (Kd.C_drewN (Kd.C_below HR201.out HB.out) i_)
            (try simp only [List.length_take, List.length_drop, Int.toNat_natCast, Nat.min_eq_left (show (x4_5 : Int).toNat ≤ l0.length by have h_ := of_decide_eq_true (show decide (x4_5 ≤ (l0.length : Int)) = true by assumption); omega)] at hcv72)
            have hcv73 := fun (i_ j_ : Nat) => Kd.C_string (P := Tryz.prog) (A := A67) (c := (c0 - x4_1.toNat)) Tryz.underlying25 Tryz.underlying5 Tryz.underlying9 (Kd.C_drewN (Kd.C_drewN (Kd.C_below HR201.out HB.out) i_) j_)
            (try simp only [List.length_take, List.length_drop, Int.toNat_natCast, Nat.min_eq_left (show (x4_5 : Int).toNat ≤ l0.length by have h_ := of_decide_eq_true (show decide (x4_5 ≤ (l0.length : Int)) = true by assumption); omega)] at hcv73)
            go_wp2_with (first | ((with_reducible refine gate_callee (f := 111) rfl ?_); refine goesL_ (some 42) rfl rfl Tryz.func111 (by kernel_rfl) rfl #[.string (strOfNums ((l0.take (x4_5 : Int).toNat).drop (x4_1 : Int).toNat))] rfl mp_ ?_; (with_reducible refine (dragnetref08_One.calls kj5 (strOfNums ((l0.take (x4_5 : Int).toNat).drop (x4_1 : Int).toNat)) t202 t203 t204 t205 false _ A14.out).mono ?_); rintro e w74 ⟨rfl, hb⟩; refine ⟨_, rfl, ?_⟩; have n0_ := rbA HO_3 hb; have n1_ := bsA HB hb; clear HO_3; clear HB; have HO_3 := n0_; have HB := n1_; clear n0_ n1_; (try clear hb); (try clear hb2); (try clear hk); (try clear hi)) | ((with_reducible refine gate_dst (N := 6) rfl ?_); (try (refine gate_guard (by rfl) ?_; dsimp only)); refine box_event ?hg (N := 6) ?hd (cs := #[.string (⟨#[]⟩ : ByteArray), .int .i64 0, .int .i64 0, .string (⟨#[]⟩ : ByteArray)]) (t := 110) ?hr ?_; (case hd => rfl); (case hg => rfl); (case hr => first | (go_simp; done) | (go_simp; rfl) | (go_simp; simp only [wAl, wAr, wSl, wSr, wW])); intro gb207 hg w75 hbox hb; have n0_ := Aside0.mk (Kd.R_below (Kd.R_elderB (by (with_reducible repeat (first | apply Kd.R_alloc | apply Kd.R_drewN | apply Kd.R_drew)); exact HO_3.out) gb207 (Nat.le_of_eq hg.symm)) hb); have n1_ := bsA HB hb; have n2_ := Aside0.mk (hbox); have n3_ := szA HB hg; have n4_ := szA HB hg; clear HO_3; clear HB; have HO_3 := n0_; have HB := n1_; have BK207 := n2_; have GW207 := n3_; have GE207 := n4_; clear n0_ n1_ n2_ n3_ n4_; clear hb hbox hg; have hcz76_0 : w75.cell? ⟨gb207, 0, none⟩ = some (.string (⟨#[]⟩ : ByteArray)) := (blk_cell BK207.out 0).trans rfl; have hcz76_1 : w75.cell? ⟨gb207, 1, none⟩ = some (.int .i64 0) := (blk_cell BK207.out 1).trans rfl; have hcz76_2 : w75.cell? ⟨gb207, 2, none⟩ = some (.int .i64 0) := (blk_cell BK207.out 2).trans rfl; have hcz76_3 : w75.cell? ⟨gb207, 3, none⟩ = some (.string (⟨#[]⟩ : ByteArray)) := (blk_cell BK207.out 3).trans rfl; have hfz76_0 := blk_frozen BK207.out 0; have hfz76_1 := blk_frozen BK207.out 1; have hfz76_2 := blk_frozen BK207.out 2; have hfz76_3 := blk_frozen BK207.out 3; obtain ⟨Ao77, co77, eo77⟩ := Kd.R_slice HO_3.out; subst eo77) | ((with_reducible refine gate_callee (f := 92) rfl ?_); refine goesL_ (some 49) rfl rfl Tryz.func92 (by kernel_rfl) rfl #[.slice Ao77 x3_1.length co77, .string t202] rfl mp_ ?_; (with_reducible refine (dragnetref08_At.calls kj5 _ _ x3_1 t202 t208 t209 t210 t211 t212 _ ?side1 ?side2 A15.out).mono ?_); (case side1 => refine (Kd.R_reads' (e := 110) (base := w.heap.size) (ok := fun k_ => (True ∧ k_ ≠ gb207)) (n := x3_1.length) (c := co77) ?_).2.2; exact (by (with_reducible repeat (first | apply Kd.R_alloc | apply Kd.R_drewN | apply Kd.R_drew)); exact (Kd.R_mono (Kd.R_far (p := ⟨gb207, 3, none⟩) (Kd.R_far (p := ⟨gb207, 2, none⟩) (Kd.R_far (p := ⟨gb207, 1, none⟩) (Kd.R_far (p := ⟨gb207, 0, none⟩) (Kd.R_mono HO_3.out (fun k_ hk => (⟨hk, hk.2⟩ : _ ∧ k_ ≠ gb207))) (fun _ hk => hk.2) (.string t202)) (fun _ hk => hk.2) (.int .i64 t203)) (fun _ hk => hk.2) (.int .i64 t204)) (fun _ hk => hk.2) (.string t205)) (fun _ h_ => h_.1)))); (case side2 => exact (Kd.R_reads' HO_3.out).2.1); rintro e w78 ⟨rfl, hb⟩; refine ⟨_, rfl, ?_⟩; have n0_ := Aside0.mk (Kd.R_below (by (with_reducible repeat (first | apply Kd.R_alloc | apply Kd.R_drewN | apply Kd.R_drew)); exact (Kd.R_mono (Kd.R_far (p := ⟨gb207, 3, none⟩) (Kd.R_far (p := ⟨gb207, 2, none⟩) (Kd.R_far (p := ⟨gb207, 1, none⟩) (Kd.R_far (p := ⟨gb207, 0, none⟩) (Kd.R_mono HO_3.out (fun k_ hk => (⟨hk, hk.2⟩ : _ ∧ k_ ≠ gb207))) (fun _ hk => hk.2) (.string t202)) (fun _ hk => hk.2) (.int .i64 t203)) (fun _ hk => hk.2) (.int .i64 t204)) (fun _ hk => hk.2) (.string t205)) (fun _ h_ => h_.1))) hb); have n1_ := Aside0.mk (blk_below (g := gb207) (o := .cells #[.string t202, .int .i64 t203, .int .i64 t204, .string t205] 110 (0, 0)) (by (with_reducible repeat (first | refine blk_drewN ?_ _ | refine blk_drew ?_ | refine blk_alloc ?_ _)); refine blk_put (cs := #[.string t202, .int .i64 t203, .int .i64 t204, .string (⟨#[]⟩ : ByteArray)]) ?_ 3 _ rfl; (with_reducible repeat (first | refine blk_drewN ?_ _ | refine blk_drew ?_ | refine blk_alloc ?_ _)); refine blk_put (cs := #[.string t202, .int .i64 t203, .int .i64 0, .string (⟨#[]⟩ : ByteArray)]) ?_ 2 _ rfl; (with_reducible repeat (first | refine blk_drewN ?_ _ | refine blk_drew ?_ | refine blk_alloc ?_ _)); refine blk_put (cs := #[.string t202, .int .i64 0, .int .i64 0, .string (⟨#[]⟩ : ByteArray)]) ?_ 1 _ rfl; (with_reducible repeat (first | refine blk_drewN ?_ _ | refine blk_drew ?_ | refine blk_alloc ?_ _)); refine blk_put (cs := #[.string (⟨#[]⟩ : ByteArray), .int .i64 0, .int .i64 0, .string (⟨#[]⟩ : ByteArray)]) ?_ 0 _ rfl; (with_reducible repeat (first | refine blk_drewN ?_ _ | refine blk_drew ?_ | refine blk_alloc ?_ _)); exact BK207.out) hb); have n2_ := bsA HB hb; clear HO_3; clear BK207; clear HB; have HO_3 := n0_; have BK207 := n1_; have HB := n2_; clear n0_ n1_ n2_; (try clear hb); (try clear hb2); (try clear hk); (try clear hi)) | ((with_reducible refine gate_dst (N := 8) rfl ?_); (try (refine gate_guard (by rfl) ?_; dsimp only)); refine box_event ?hg (N := 8) ?hd (cs := #[.string (⟨#[]⟩ : ByteArray), .int .i64 0, .int .i64 0, .string (⟨#[]⟩ : ByteArray)]) (t := 110) ?hr ?_; (case hd => rfl); (case hg => rfl); (case hr => first | (go_simp; done) | (go_simp; rfl) | (go_simp; simp only [wAl, wAr, wSl, wSr, wW])); intro gb213 hg w79 hbox hb; have n0_ := Aside0.mk (Kd.R_below (Kd.R_elderB (by (with_reducible repeat (first | apply Kd.R_alloc | apply Kd.R_drewN | apply Kd.R_drew)); exact HO_3.out) gb213 (Nat.le_of_eq hg.symm)) hb); have n1_ := bkA BK207 hb; have n2_ := bsA HB hb; have n3_ := Aside0.mk (hbox); have n4_ := szA HB hg; have n5_ := szA HB hg; have n6_ := neA BK207 hg; have n7_ := neB BK207 hg; clear HO_3; clear BK207; clear HB; have HO_3 := n0_; have BK207 := n1_; have HB := n2_; have BK213 := n3_; have GW213 := n4_; have GE213 := n5_; have NB207_213 := n6_; have NB213_207 := n7_; clear n0_ n1_ n2_ n3_ n4_ n5_ n6_ n7_; clear hb hbox hg; have hnb80 := NB213_207.out; have hnc80 := NB207_213.out; have hcz81_0 : w79.cell? ⟨gb213, 0, none⟩ = some (.string (⟨#[]⟩ : ByteArray)) := (blk_cell BK213.out 0).trans rfl; have hcz81_1 : w79.cell? ⟨gb213, 1, none⟩ = some (.int .i64 0) := (blk_cell BK213.out 1).trans rfl; have hcz81_2 : w79.cell? ⟨gb213, 2, none⟩ = some (.int .i64 0) := (blk_cell BK213.out 2).trans rfl; have hcz81_3 : w79.cell? ⟨gb213, 3, none⟩ = some (.string (⟨#[]⟩ : ByteArray)) := (blk_cell BK213.out 3).trans rfl; have hfz81_0 := blk_frozen BK213.out 0; have hfz81_1 := blk_frozen BK213.out 1; have hfz81_2 := blk_frozen BK213.out 2; have hfz81_3 := blk_frozen BK213.out 3))
            go_roundg kj5
            case measure => have := HK1.out; have := HJ5.out; omega
            case rel => exact ⟨(x3_1), (wrap64 (x4_5 + 1)), rs_, H', ⟨by have := HK1.out; have := HJ5.out; omega⟩, ⟨by (with_reducible repeat (first | apply Kd.R_alloc | apply Kd.R_drewN | apply Kd.R_drew)); exact Kd.R_mono (Kd.R_far (p := ⟨gb213, 3, none⟩) (Kd.R_far (p := ⟨gb213, 2, none⟩) (Kd.R_far (p := ⟨gb213, 1, none⟩) (Kd.R_far (p := ⟨gb213, 0, none⟩) (Kd.R_mono HO_3.out (fun k_ hk => (⟨hk, hk.2⟩ : _ ∧ k_ ≠ gb213))) (fun _ hk => hk.2) (.string t208)) (fun _ hk => hk.2) (.int .i64 t209)) (fun _ hk => hk.2) (.int .i64 t210)) (fun _ hk => hk.2) (.string t211)) (fun _ hk => trivial)⟩, ⟨by repeat (first | (with_reducible first | exact HB.out | apply below_alloc | apply pw_below_drewN | apply below_drew1 | refine below_set ?_ GE207.out | refine below_set ?_ GE213.out) | exact HB.out)⟩⟩
          ·rw [if_neg c13] at H
           exact absurd H (by simp)
         ·rw [if_neg c12] at H
          exact absurd H (by simp)
        ·rw [if_neg c11] at H
         exact absurd H (by simp)
    ·rw [if_neg c3] at H
     exact absurd H (by simp)
   ·rw [if_neg c2] at H
    have c2b0 : decide (x4_1 < (l0.length : Int)) = false := decide_eq_false c2
    clear c2
    obtain rfl := Option.some.inj H
    go_wp2
    go_ret
    exact ⟨_, by first | rfl | (simp [errW_none, errW_some] <;> rfl) | (simp [*, errW_none, errW_some] <;> rfl), by (with_reducible repeat (first | apply Kd.R_alloc | apply Kd.R_drewN | apply Kd.R_drew)); exact HO_3.out, by repeat (first | (with_reducible first | exact HB.out | apply below_alloc | apply pw_below_drewN | apply below_drew1) | exact HB.out)⟩
def dragnetref08_Get.f (k : Nat) (l0 : List Int) (a1 : ByteArray) : Option (ByteArray × Int × Int × ByteArray × Bool) := (dragnetref08_Read.f k l0).bind fun t218 => ((dragnetref08_At.f k t218 a1).bind fun bt221 => (some (bt221.1, bt221.2.1, bt221.2.2.1, bt221.2.2.2.1, bt221.2.2.2.2)))
theorem dragnetref08_Get.calls (k : Nat) (A0 : Option Addr) (c0 : Nat) (l0 : List Int) (a1 : ByteArray) (r1 : ByteArray) (r2 : Int) (r3 : Int) (r4 : ByteArray) (r5 : Bool) (w : World) (hr0 : Kd.C (Kd.int .u8) w A0 l0.length l0) (hc0 : l0.length ≤ c0) (h : dragnetref08_Get.f k l0 a1 = some (r1, r2, r3, r4, r5)) :
  Calls Tryz.prog 66 #[.slice A0 l0.length c0, .string a1] w fun e w' => e = .returned (.tuple #[.agg #[.string r1, .int .i64 r2, .int .i64 r3, .string r4], .bool r5]) ∧ Below w.heap.size w w' := by
 have hu110 := Tryz.underlying110
 have HR0 := Aside0.mk hr0
 have HC0 := Aside0.mk hc0
 clear hr0 hc0
 have HB := Aside0.mk (Below.refl w.heap.size w)
 have H : ((dragnetref08_Read.f k l0).bind fun t218 => ((dragnetref08_At.f k t218 a1).bind fun bt221 => (some (bt221.1, bt221.2.1, bt221.2.2.1, bt221.2.2.2.1, bt221.2.2.2.2)))) = some (r1, r2, r3, r4, r5) := h
 clear h
 replace H := Option.bind_eq_some_iff.mp H
 obtain ⟨t218, A30, H⟩ := H
 replace H : ((dragnetref08_At.f k t218 a1).bind fun bt221 => (some (bt221.1, bt221.2.1, bt221.2.2.1, bt221.2.2.2.1, bt221.2.2.2.2))) = some (r1, r2, r3, r4, r5) := H
 have A3 := Aside0.mk A30
 clear A30
 replace H := Option.bind_eq_some_iff.mp H
 obtain ⟨⟨t221, t222, t223, t224, t225⟩, A40, H⟩ := H
 replace H : (some (t221, t222, t223, t224, t225)) = some (r1, r2, r3, r4, r5) := H
 have A4 := Aside0.mk A40
 clear A40
 simp only [Option.some.injEq, Prod.mk.injEq] at H
 obtain ⟨rfl, rfl, rfl, rfl, rfl⟩ := H
 go_enter Tryz.func66, Tryz.ntmps66
 go_wp2_with (first | ((with_reducible refine gate_dst (N := 4) rfl ?_); refine box_event ?hg (N := 4) ?hd (cs := #[.string (⟨#[]⟩ : ByteArray), .int .i64 0, .int .i64 0, .string (⟨#[]⟩ : ByteArray)]) (t := 110) ?hr ?_; (case hd => rfl); (case hg => rfl); (case hr => first | (go_simp; done) | (go_simp; rfl) | (go_simp; simp only [wAl, wAr, wSl, wSr, wW])); intro gb217 hg w5 hbox hb; have n0_ := bsA HB hb; have n1_ := Aside0.mk (hbox); have n2_ := szA HB hg; have n3_ := szA HB hg; clear HB; have HB := n0_; have BK217 := n1_; have GW217 := n2_; have GE217 := n3_; clear n0_ n1_ n2_ n3_; clear hb hbox hg) | ((with_reducible refine gate_callee (f := 93) rfl ?_); refine goesL_ (some 7) rfl rfl Tryz.func93 (by kernel_rfl) rfl #[.slice A0 l0.length c0] rfl mp_ ?_; (with_reducible refine (dragnetref08_Read.calls k _ _ l0 t218 _ ?side1 ?side2 A3.out).mono ?_); (case side1 => repeat (first | exact (Kd.C_below HR0.out HB.out) | (with_reducible refine Kd.C_alloc ?_ _) | (with_reducible refine Kd.C_drewN ?_ _) | (with_reducible refine Kd.C_drew ?_))); (case side2 => exact HC0.out); rintro e w6 ⟨v219, rfl, ho0, hb⟩; refine ⟨_, rfl, ?_⟩; have n0_ := Aside0.mk (Kd.R_lower (Kd.R_newB ho0 (g := gb217) (o := .cells #[.string (⟨#[]⟩ : ByteArray), .int .i64 0, .int .i64 0, .string (⟨#[]⟩ : ByteArray)] 110 (0, 0)) (bU_ BK217.out)) (below_size (by repeat (first | (with_reducible first | exact HB.out | apply below_alloc | apply pw_below_drewN | apply below_drew1 | refine below_set ?_ GE217.out) | exact HB.out)))); have n1_ := bkA BK217 hb; have n2_ := bsA HB hb; clear BK217; clear HB; have HO220 := n0_; have BK217 := n1_; have HB := n2_; clear n0_ n1_ n2_; (try clear hb); (try clear hb2); (try clear hk); (try clear hi); (try clear ho0); obtain ⟨Ao7, co7, eo7⟩ := Kd.R_slice HO220.out; subst eo7) | ((with_reducible refine gate_callee (f := 92) rfl ?_); refine goesL_ (some 9) rfl rfl Tryz.func92 (by kernel_rfl) rfl #[.slice Ao7 t218.length co7, .string a1] rfl mp_ ?_; (with_reducible refine (dragnetref08_At.calls k _ _ t218 a1 t221 t222 t223 t224 t225 _ ?side1 ?side2 A4.out).mono ?_); (case side1 => repeat (first | exact (Kd.R_reads' HO220.out).2.2 | (with_reducible refine Kd.C_alloc ?_ _) | (with_reducible refine Kd.C_drewN ?_ _) | (with_reducible refine Kd.C_drew ?_))); (case side2 => exact (Kd.R_reads' HO220.out).2.1); rintro e w8 ⟨rfl, hb⟩; refine ⟨_, rfl, ?_⟩; have n0_ := rbA HO220 hb; have n1_ := bkA BK217 hb; have n2_ := bsA HB hb; clear HO220; clear BK217; clear HB; have HO220 := n0_; have BK217 := n1_; have HB := n2_; clear n0_ n1_ n2_; (try clear hb); (try clear hb2); (try clear hk); (try clear hi); have hcz9_0 : w8.cell? ⟨gb217, 0, none⟩ = some (.string (⟨#[]⟩ : ByteArray)) := (blk_cell BK217.out 0).trans rfl; have hcz9_1 : w8.cell? ⟨gb217, 1, none⟩ = some (.int .i64 0) := (blk_cell BK217.out 1).trans rfl; have hcz9_2 : w8.cell? ⟨gb217, 2, none⟩ = some (.int .i64 0) := (blk_cell BK217.out 2).trans rfl; have hcz9_3 : w8.cell? ⟨gb217, 3, none⟩ = some (.string (⟨#[]⟩ : ByteArray)) := (blk_cell BK217.out 3).trans rfl; have hfz9_0 := blk_frozen BK217.out 0; have hfz9_1 := blk_frozen BK217.out 1; have hfz9_2 := blk_frozen BK217.out 2; have hfz9_3 := blk_frozen BK217.out 3))
 refine bodyPost_ret (results_ct rfl _ _ gb217 110 #[.string t221, .int .i64 t222, .int .i64 t223, .string t224] (0, 0) _ rfl (by (with_reducible repeat (first | refine blk_drewN ?_ _ | refine blk_drew ?_ | refine blk_alloc ?_ _)); refine blk_put (cs := #[.string t221, .int .i64 t222, .int .i64 t223, .string (⟨#[]⟩ : ByteArray)]) ?_ 3 _ rfl; (with_reducible repeat (first | refine blk_drewN ?_ _ | refine blk_drew ?_ | refine blk_alloc ?_ _)); refine blk_put (cs := #[.string t221, .int .i64 t222, .int .i64 0, .string (⟨#[]⟩ : ByteArray)]) ?_ 2 _ rfl; (with_reducible repeat (first | refine blk_drewN ?_ _ | refine blk_drew ?_ | refine blk_alloc ?_ _)); refine blk_put (cs := #[.string t221, .int .i64 0, .int .i64 0, .string (⟨#[]⟩ : ByteArray)]) ?_ 1 _ rfl; (with_reducible repeat (first | refine blk_drewN ?_ _ | refine blk_drew ?_ | refine blk_alloc ?_ _)); refine blk_put (cs := #[.string (⟨#[]⟩ : ByteArray), .int .i64 0, .int .i64 0, .string (⟨#[]⟩ : ByteArray)]) ?_ 0 _ rfl; (with_reducible repeat (first | refine blk_drewN ?_ _ | refine blk_drew ?_ | refine blk_alloc ?_ _)); exact BK217.out) Tryz.underlying110 rfl (by kernel_rfl)) rfl ?_
 exact ⟨by first | rfl | (simp [errW_none, errW_some] <;> rfl) | (simp [*, errW_none, errW_some] <;> rfl), by repeat (first | (with_reducible first | exact HB.out | apply below_alloc | apply pw_below_drewN | apply below_drew1 | refine below_set ?_ GE217.out) | exact HB.out)⟩
def dragnetref08_Digits.l0 : Nat → Int → ByteArray → Option (ByteArray)
 | 0, _, _ => none
 | k + 1, x0, x3 => if x0 ≥ 10 then ((some (([(IntKind.u64.wrap (48 + (Int.tmod (IntKind.u64.wrap (Int.tdiv x0 10)) 10))) % 256] : List Int) : List Int)).bind fun y229 => (if (strOfNums y229).size + x3.size ≤ 9223372036854775807 then (dragnetref08_Digits.l0 k (IntKind.u64.wrap (Int.tdiv x0 10)) ((strOfNums y229) ++ x3)) else (none))) else (some x3)
def dragnetref08_Digits.f (k : Nat) (a0 : Int) : Option (ByteArray) := dragnetref08_Digits.l0 k a0 (strOfNums (([(IntKind.u64.wrap (48 + (Int.tmod a0 10))) % 256] : List Int)))
theorem dragnetref08_Digits.calls (k : Nat) (a0 : Int) (r : ByteArray) (w : World) (h : dragnetref08_Digits.f k a0 = some r) :
  Calls Tryz.prog 112 #[.int .u64 a0] w fun e w' => e = .returned (.string r) ∧ Below w.heap.size w w' := by
 have HB := Aside0.mk (Below.refl w.heap.size w)
 have H : (dragnetref08_Digits.l0 k a0 (strOfNums (([(IntKind.u64.wrap (48 + (Int.tmod a0 10))) % 256] : List Int)))) = some r := h
 clear h
 obtain ⟨y226, hy226⟩ : ∃ y_ : List Int, y_ = (([(IntKind.u64.wrap (48 + (Int.tmod a0 10))) % 256] : List Int)) := ⟨_, rfl⟩
 replace H : (dragnetref08_Digits.l0 k a0 (strOfNums y226)) = some r := by first | (rw [hy226]; with_reducible exact H) | (have H2_ := (Option.bind_some _ _).symm.trans H; rw [hy226]; with_reducible exact H2_) | (have H2_ := (Option.bind_some _ _).symm.trans H; with_reducible exact H2_) | with_reducible exact H | (rw [hy226]; exact H) | exact H
 have Ny226 := Aside0.mk hy226
 clear hy226
 have H' := Aside0.mk H
 clear H
 go_enter Tryz.func112, Tryz.ntmps112
 go_wp2_with (first | ((with_reducible refine gate_dst (N := 8) rfl ?_); refine Kd.R_lit (Kd.int .u8) _ 5 ?hg (N := 8) ?hd (xs := ([(IntKind.u64.wrap (48 + (Int.tmod a0 10))) % 256] : List Int)) (inner := [.int .u8 ((IntKind.u64.wrap (48 + (Int.tmod a0 10))) % 256)]) (ok := fun _ => True) (okp := fun _ => True) ?hr ?hp (fun _ hk => hk) trivial (Below.refl _ _) (Nat.le_refl _) (by simp) ?_; (case hd => rfl); (case hg => rfl); (case hr => first | (go_simp; done) | (go_simp; rfl) | (go_simp; simp only [wAl, wAr, wSl, wSr, wW])); (case hp => exact (Reps.one (show Kd.M (Kd.int .u8) _ _ _ ((IntKind.u64.wrap (48 + (Int.tmod a0 10))) % 256) [.int .u8 ((IntKind.u64.wrap (48 + (Int.tmod a0 10))) % 256)] from rfl) (Reps.none _ _))); intro v227 w2 ho3 hb hg_ hnew_; clear hg_ hnew_; (first | rw [← Ny226.out] at ho3 | (simp only [Int.reduceToNat] at ho3; rw [← Ny226.out] at ho3)); have n0_ := Aside0.mk (Kd.R_lower ho3 (below_size (by repeat (first | (with_reducible first | exact HB.out | apply below_alloc | apply pw_below_drewN | apply below_drew1) | exact HB.out)))); have n1_ := bsA HB hb; clear HB; have HO228 := n0_; have HB := n1_; clear n0_ n1_; clear hb ho3; have hcv4 := own_string (P := Tryz.prog) Tryz.underlying25 Tryz.underlying5 Tryz.underlying9 (Kd.own_of_R HO228.out)))
 go_loopg [0, 3] k (fun kq v0 v3 w' => ∃ (x0_1 : Int) (x3_1 : ByteArray), v0 = .int .u64 x0_1 ∧ v3 = .string x3_1 ∧ Aside0 (dragnetref08_Digits.l0 kq x0_1 x3_1 = some r) ∧ Aside0 (kq ≤ k) ∧ Aside0 (Below w.heap.size w w'))
 case atStart => exact ⟨(a0), (strOfNums y226), rs_, rs_, H', ⟨Nat.le_refl _⟩, ⟨by repeat (first | (with_reducible first | exact HB.out | apply below_alloc | apply pw_below_drewN | apply below_drew1) | exact HB.out)⟩⟩
 case round =>
  clear H'
  try clear c1
  try clear p2
  try clear hcv4
  obtain ⟨x0_1, x3_1, rfl, rfl, HA, HK1, HB⟩ := hrel
  cases gk with
  | zero => exact absurd HA.out (by simp [dragnetref08_Digits.l0])
  | succ k1 =>
   have H := HA.out
   clear HA
   simp only [dragnetref08_Digits.l0] at H
   by_cases c5 : x0_1 ≥ 10
   ·rw [if_pos c5] at H
    have c5b0 : decide (10 ≤ x0_1) = true := decide_eq_true c5
    clear c5
    obtain ⟨y229, hy229⟩ : ∃ y_ : List Int, y_ = (([(IntKind.u64.wrap (48 + (Int.tmod (IntKind.u64.wrap (Int.tdiv x0_1 10)) 10))) % 256] : List Int)) := ⟨_, rfl⟩
    replace H : (if (strOfNums y229).size + x3_1.size ≤ 9223372036854775807 then (dragnetref08_Digits.l0 k1 (IntKind.u64.wrap (Int.tdiv x0_1 10)) ((strOfNums y229) ++ x3_1)) else (none)) = some r := by first | (rw [hy229]; with_reducible exact H) | (have H2_ := (Option.bind_some _ _).symm.trans H; rw [hy229]; with_reducible exact H2_) | (have H2_ := (Option.bind_some _ _).symm.trans H; with_reducible exact H2_) | with_reducible exact H | (rw [hy229]; exact H) | exact H
    have Ny229 := Aside0.mk hy229
    clear hy229
    by_cases c6 : (strOfNums y229).size + x3_1.size ≤ 9223372036854775807
    ·rw [if_pos c6] at H
     have c6b0 := eq_true c6
     have c6b1 : decide ((strOfNums y229).size + x3_1.size ≤ 9223372036854775807) = true := decide_eq_true c6
     try have c6b2 : (9223372036854775807 < (strOfNums y229).size + x3_1.size) = False := eq_false (Nat.not_lt.2 c6)
     have H' := Aside0.mk H
     clear H
     go_wp2_with (first | ((with_reducible refine gate_dst (N := 18) rfl ?_); refine Kd.R_lit (Kd.int .u8) _ 5 ?hg (N := 18) ?hd (xs := ([(IntKind.u64.wrap (48 + (Int.tmod (IntKind.u64.wrap (Int.tdiv x0_1 10)) 10))) % 256] : List Int)) (inner := [.int .u8 ((IntKind.u64.wrap (48 + (Int.tmod (IntKind.u64.wrap (Int.tdiv x0_1 10)) 10))) % 256)]) (ok := fun _ => True) (okp := fun _ => True) ?hr ?hp (fun _ hk => hk) trivial (Below.refl _ _) (Nat.le_refl _) (by simp) ?_; (case hd => rfl); (case hg => rfl); (case hr => first | (go_simp; done) | (go_simp; rfl) | (go_simp; simp only [wAl, wAr, wSl, wSr, wW])); (case hp => exact (Reps.one (show Kd.M (Kd.int .u8) _ _ _ ((IntKind.u64.wrap (48 + (Int.tmod (IntKind.u64.wrap (Int.tdiv x0_1 10)) 10))) % 256) [.int .u8 ((IntKind.u64.wrap (48 + (Int.tmod (IntKind.u64.wrap (Int.tdiv x0_1 10)) 10))) % 256)] from rfl) (Reps.none _ _))); intro v230 w7 ho8 hb hg_ hnew_; clear hg_ hnew_; (first | rw [← Ny229.out] at ho8 | (simp only [Int.reduceToNat] at ho8; rw [← Ny229.out] at ho8)); have n0_ := Aside0.mk (Kd.R_lower ho8 (below_size (by repeat (first | (with_reducible first | exact HB.out | apply below_alloc | apply pw_below_drewN | apply below_drew1) | exact HB.out)))); have n1_ := bsA HB hb; clear HB; have HO231 := n0_; have HB := n1_; clear n0_ n1_; clear hb ho8; have hcv9 := own_string (P := Tryz.prog) Tryz.underlying25 Tryz.underlying5 Tryz.underlying9 (Kd.own_of_R HO231.out)))
     go_roundg k1
     case measure => have := HK1.out; omega
     case rel => exact ⟨(IntKind.u64.wrap (Int.tdiv x0_1 10)), ((strOfNums y229) ++ x3_1), rs_, rs_, H', ⟨by have := HK1.out; omega⟩, ⟨by repeat (first | (with_reducible first | exact HB.out | apply below_alloc | apply pw_below_drewN | apply below_drew1) | exact HB.out)⟩⟩
    ·rw [if_neg c6] at H
     exact absurd H (by simp)
   ·rw [if_neg c5] at H
    have c5b0 : decide (10 ≤ x0_1) = false := decide_eq_false c5
    clear c5
    obtain rfl := Option.some.inj H
    go_wp2
    go_ret
    exact ⟨by first | rfl | (simp [errW_none, errW_some] <;> rfl) | (simp [*, errW_none, errW_some] <;> rfl), by repeat (first | (with_reducible first | exact HB.out | apply below_alloc | apply pw_below_drewN | apply below_drew1) | exact HB.out)⟩
def dragnetref08_Text.f (k : Nat) (a0 : Int) : Option (ByteArray) := if a0 ≥ 0 then ((dragnetref08_Digits.f k (IntKind.u64.wrap (a0))).bind fun t232 => (some t232)) else ((dragnetref08_Digits.f k (IntKind.u64.wrap ((IntKind.u64.wrap (wrap64 (-(wrap64 (a0 + 1))))) + 1))).bind fun t233 => (if 1 + t233.size ≤ 9223372036854775807 then (some ((⟨#[45]⟩ : ByteArray) ++ t233)) else (none)))
theorem dragnetref08_Text.calls (k : Nat) (a0 : Int) (r : ByteArray) (w : World) (h : dragnetref08_Text.f k a0 = some r) :
  Calls Tryz.prog 94 #[.int .i64 a0] w fun e w' => e = .returned (.string r) ∧ Below w.heap.size w w' := by
 have HB := Aside0.mk (Below.refl w.heap.size w)
 have H : (if a0 ≥ 0 then ((dragnetref08_Digits.f k (IntKind.u64.wrap (a0))).bind fun t232 => (some t232)) else ((dragnetref08_Digits.f k (IntKind.u64.wrap ((IntKind.u64.wrap (wrap64 (-(wrap64 (a0 + 1))))) + 1))).bind fun t233 => (if 1 + t233.size ≤ 9223372036854775807 then (some ((⟨#[45]⟩ : ByteArray) ++ t233)) else (none)))) = some r := h
 clear h
 by_cases c2 : a0 ≥ 0
 ·rw [if_pos c2] at H
  have c2b0 : decide (0 ≤ a0) = true := decide_eq_true c2
  clear c2
  replace H := Option.bind_eq_some_iff.mp H
  obtain ⟨t232, A30, H⟩ := H
  replace H : (some t232) = some r := H
  have A3 := Aside0.mk A30
  clear A30
  obtain rfl := Option.some.inj H
  go_enter Tryz.func94, Tryz.ntmps94
  go_wp2_with (first | ((with_reducible refine gate_callee (f := 112) rfl ?_); refine goesL_ (some 7) rfl rfl Tryz.func112 (by kernel_rfl) rfl #[.int .u64 (IntKind.u64.wrap (a0))] rfl mp_ ?_; (with_reducible refine (dragnetref08_Digits.calls k (IntKind.u64.wrap (a0)) t232 _ A3.out).mono ?_); rintro e w4 ⟨rfl, hb⟩; refine ⟨_, rfl, ?_⟩; have n0_ := bsA HB hb; clear HB; have HB := n0_; clear n0_; (try clear hb); (try clear hb2); (try clear hk); (try clear hi)))
  go_ret
  exact ⟨by first | rfl | (simp [errW_none, errW_some] <;> rfl) | (simp [*, errW_none, errW_some] <;> rfl), by repeat (first | (with_reducible first | exact HB.out | apply below_alloc | apply pw_below_drewN | apply below_drew1) | exact HB.out)⟩
 ·rw [if_neg c2] at H
  have c2b0 : decide (0 ≤ a0) = false := decide_eq_false c2
  clear c2
  replace H := Option.bind_eq_some_iff.mp H
  obtain ⟨t233, A50, H⟩ := H
  replace H : (if 1 + t233.size ≤ 9223372036854775807 then (some ((⟨#[45]⟩ : ByteArray) ++ t233)) else (none)) = some r := H
  have A5 := Aside0.mk A50
  clear A50
  by_cases c6 : 1 + t233.size ≤ 9223372036854775807
  ·rw [if_pos c6] at H
   have c6b0 := eq_true c6
   have c6b1 : decide (1 + t233.size ≤ 9223372036854775807) = true := decide_eq_true c6
   try have c6b2 : (9223372036854775807 < 1 + t233.size) = False := eq_false (Nat.not_lt.2 c6)
   obtain rfl := Option.some.inj H
   go_enter Tryz.func94, Tryz.ntmps94
   go_wp2_with (first | ((with_reducible refine gate_callee (f := 112) rfl ?_); refine goesL_ (some 13) rfl rfl Tryz.func112 (by kernel_rfl) rfl #[.int .u64 (IntKind.u64.wrap ((IntKind.u64.wrap (wrap64 (-(wrap64 (a0 + 1))))) + 1))] rfl mp_ ?_; (with_reducible refine (dragnetref08_Digits.calls k (IntKind.u64.wrap ((IntKind.u64.wrap (wrap64 (-(wrap64 (a0 + 1))))) + 1)) t233 _ A5.out).mono ?_); rintro e w7 ⟨rfl, hb⟩; refine ⟨_, rfl, ?_⟩; have n0_ := bsA HB hb; clear HB; have HB := n0_; clear n0_; (try clear hb); (try clear hb2); (try clear hk); (try clear hi)))
   go_ret
   exact ⟨by first | rfl | (simp [errW_none, errW_some] <;> rfl) | (simp [*, errW_none, errW_some] <;> rfl), by repeat (first | (with_reducible first | exact HB.out | apply below_alloc | apply pw_below_drewN | apply below_drew1) | exact HB.out)⟩
  ·rw [if_neg c6] at H
   exact absurd H (by simp)
def dragnetref08_Show.f (k : Nat) (a0_0 : ByteArray) (a0_1 : Int) (a0_2 : Int) (a0_3 : ByteArray) : Option (ByteArray) := if a0_1 = 1 then ((dragnetref08_Text.f k a0_2).bind fun t235 => (some t235)) else (some a0_3)
theorem dragnetref08_Show.calls (k : Nat) (a0_0 : ByteArray) (a0_1 : Int) (a0_2 : Int) (a0_3 : ByteArray) (r : ByteArray) (w : World) (h : dragnetref08_Show.f k a0_0 a0_1 a0_2 a0_3 = some r) :
  Calls Tryz.prog 67 #[.agg #[.string a0_0, .int .i64 a0_1, .int .i64 a0_2, .string a0_3]] w fun e w' => e = .returned (.string r) ∧ Below w.heap.size w w' := by
 have hu110 := Tryz.underlying110
 have HB := Aside0.mk (Below.refl w.heap.size w)
 have H : (if a0_1 = 1 then ((dragnetref08_Text.f k a0_2).bind fun t235 => (some t235)) else (some a0_3)) = some r := h
 clear h
 by_cases c2 : a0_1 = 1
 ·rw [if_pos c2] at H
  have c2b0 : (a0_1 == 1) = true := beq_iff_eq.mpr c2
  have c2b1 : (a0_1 != 1) = false := bne_eq_false_iff_eq.mpr c2
  clear c2
  replace H := Option.bind_eq_some_iff.mp H
  obtain ⟨t235, A30, H⟩ := H
  replace H : (some t235) = some r := H
  have A3 := Aside0.mk A30
  clear A30
  obtain rfl := Option.some.inj H
  go_enter Tryz.func67, Tryz.ntmps67
  go_wp2_with (first | ((with_reducible refine gate_dst (N := 1) rfl ?_); refine box_event ?hg (N := 1) ?hd (cs := #[.string a0_0, .int .i64 a0_1, .int .i64 a0_2, .string a0_3]) (t := 110) ?hr ?_; (case hd => rfl); (case hg => rfl); (case hr => first | (go_simp; done) | (go_simp; rfl) | (go_simp; simp only [wAl, wAr, wSl, wSr, wW])); intro gb234 hg w4 hbox hb; have n0_ := bsA HB hb; have n1_ := Aside0.mk (hbox); have n2_ := szA HB hg; have n3_ := szA HB hg; clear HB; have HB := n0_; have BK234 := n1_; have GW234 := n2_; have GE234 := n3_; clear n0_ n1_ n2_ n3_; clear hb hbox hg; have hcz5_0 : w4.cell? ⟨gb234, 0, none⟩ = some (.string a0_0) := (blk_cell BK234.out 0).trans rfl; have hcz5_1 : w4.cell? ⟨gb234, 1, none⟩ = some (.int .i64 a0_1) := (blk_cell BK234.out 1).trans rfl; have hcz5_2 : w4.cell? ⟨gb234, 2, none⟩ = some (.int .i64 a0_2) := (blk_cell BK234.out 2).trans rfl; have hcz5_3 : w4.cell? ⟨gb234, 3, none⟩ = some (.string a0_3) := (blk_cell BK234.out 3).trans rfl; have hfz5_0 := blk_frozen BK234.out 0; have hfz5_1 := blk_frozen BK234.out 1; have hfz5_2 := blk_frozen BK234.out 2; have hfz5_3 := blk_frozen BK234.out 3) | ((with_reducible refine gate_callee (f := 94) rfl ?_); refine goesL_ (some 8) rfl rfl Tryz.func94 (by kernel_rfl) rfl #[.int .i64 a0_2] rfl mp_ ?_; (with_reducible refine (dragnetref08_Text.calls k a0_2 t235 _ A3.out).mono ?_); rintro e w6 ⟨rfl, hb⟩; refine ⟨_, rfl, ?_⟩; have n0_ := bkA BK234 hb; have n1_ := bsA HB hb; clear BK234; clear HB; have BK234 := n0_; have HB := n1_; clear n0_ n1_; (try clear hb); (try clear hb2); (try clear hk); (try clear hi)))
  go_ret
  exact ⟨by first | rfl | (simp [errW_none, errW_some] <;> rfl) | (simp [*, errW_none, errW_some] <;> rfl), by repeat (first | (with_reducible first | exact HB.out | apply below_alloc | apply pw_below_drewN | apply below_drew1 | refine below_set ?_ GE234.out) | exact HB.out)⟩
 ·rw [if_neg c2] at H
  have c2b0 : (a0_1 == 1) = false := beq_eq_false_iff_ne.mpr c2
  have c2b1 : (a0_1 != 1) = true := bne_iff_ne.mpr c2
  obtain rfl := Option.some.inj H
  go_enter Tryz.func67, Tryz.ntmps67
  go_wp2_with (first | ((with_reducible refine gate_dst (N := 1) rfl ?_); refine box_event ?hg (N := 1) ?hd (cs := #[.string a0_0, .int .i64 a0_1, .int .i64 a0_2, .string a0_3]) (t := 110) ?hr ?_; (case hd => rfl); (case hg => rfl); (case hr => first | (go_simp; done) | (go_simp; rfl) | (go_simp; simp only [wAl, wAr, wSl, wSr, wW])); intro gb234 hg w7 hbox hb; have n0_ := bsA HB hb; have n1_ := Aside0.mk (hbox); have n2_ := szA HB hg; have n3_ := szA HB hg; clear HB; have HB := n0_; have BK234 := n1_; have GW234 := n2_; have GE234 := n3_; clear n0_ n1_ n2_ n3_; clear hb hbox hg; have hcz8_0 : w7.cell? ⟨gb234, 0, none⟩ = some (.string a0_0) := (blk_cell BK234.out 0).trans rfl; have hcz8_1 : w7.cell? ⟨gb234, 1, none⟩ = some (.int .i64 a0_1) := (blk_cell BK234.out 1).trans rfl; have hcz8_2 : w7.cell? ⟨gb234, 2, none⟩ = some (.int .i64 a0_2) := (blk_cell BK234.out 2).trans rfl; have hcz8_3 : w7.cell? ⟨gb234, 3, none⟩ = some (.string a0_3) := (blk_cell BK234.out 3).trans rfl; have hfz8_0 := blk_frozen BK234.out 0; have hfz8_1 := blk_frozen BK234.out 1; have hfz8_2 := blk_frozen BK234.out 2; have hfz8_3 := blk_frozen BK234.out 3))
  go_ret
  exact ⟨by first | rfl | (simp [errW_none, errW_some] <;> rfl) | (simp [*, errW_none, errW_some] <;> rfl), by repeat (first | (with_reducible first | exact HB.out | apply below_alloc | apply pw_below_drewN | apply below_drew1 | refine below_set ?_ GE234.out) | exact HB.out)⟩
end Go.Proofs.YtehaodbheifokaaGreatDoor.P
end
section
namespace Go.Proofs.YtehaodbheifokaaGreatDoor.Pure
open Go Go.RowKit Go.Proofs.YtehaodbheifokaaGreatDoorW.PrintWords Go.Proofs.YtehaodbheifokaaGreatDoorW.PrintLast Go.Proofs.YtehaodbheifokaaGreatDoorW.PrintMore Go.Proofs.YtehaodbheifokaaGreatDoor.P
def fiveS (p : S110 × Bool) : ByteArray × Int × Int × ByteArray × Bool := (p.1.f0, p.1.f1, p.1.f2, p.1.f3, p.2)
theorem extract_front (x : ByteArray) (i : Nat) (h : i ≤ x.size) : x.extract 0 i = bA (x.data.toList.take i) := by
 apply text_eq
 rw [Lib.extract_data, List.drop_zero]
 rfl
theorem extract_back (x : ByteArray) (i : Nat) : x.extract i x.size = bA (x.data.toList.drop i) := by
 apply text_eq
 rw [Lib.extract_data, bA_list, List.take_of_length_le]
 rw [List.length_drop, ← Lib.size_eq]
 omega
theorem one_loop (x : ByteArray) (hx : x.size ≤ 281474976710656) : ∀ (d i : Nat), i + d = x.size → i ≤ eqPos x.data.toList → Ev (fun k => dragnetref08_One.l0 k x (i : Int)) (fiveS (oneS x.data.toList))
 | 0, i, hi, hp => by
  have hl : x.data.toList.length = x.size := (Lib.size_eq x).symm
  refine Ev.step (f := fun _ => some (fiveS (oneS x.data.toList))) (fun k => ?_) (Ev.now _)
  simp only [dragnetref08_One.l0]
  rw [if_neg (by omega), show oneS x.data.toList = (z110, false) from if_neg (by omega)]
  rfl
 | d + 1, i, hi, hp => by
  have hl : x.data.toList.length = x.size := (Lib.size_eq x).symm
  have hb := bt_list x i (by omega)
  by_cases hq : i = eqPos x.data.toList
  ·have h61 : x.data.toList[i]'(by omega) = 61 := by
    obtain ⟨y, h1, h2⟩ := takeWhile_stop (p := noEq) (l := x.data.toList) (by unfold eqPos at hq; omega)
    have : i = (x.data.toList.takeWhile noEq).length := hq
    rw [← this, List.getElem?_eq_getElem (by omega)] at h1
    cases h1
    simpa [noEq] using h2
   rw [h61] at hb
   have hnum := refNumber_ev (bA (x.data.toList.drop (i + 1)))
   have hkey := refKey_ev (bA (x.data.toList.take i)) (by rw [bA_size, List.length_take]; omega)
   rw [bA_list] at hnum
   have hone : oneS x.data.toList = (if (refNum (x.data.toList.drop (i + 1))).2 = true then (⟨bA (x.data.toList.take i), 1, (refNum (x.data.toList.drop (i + 1))).1, ⟨#[]⟩⟩, keyB (bA (x.data.toList.take i)))
  else (⟨bA (x.data.toList.take i), 2, 0, bA (x.data.toList.drop (i + 1))⟩, keyB (bA (x.data.toList.take i)) && decide ((x.data.toList.drop (i + 1)).length ≤ 64))) := by
    unfold oneS
    rw [← hq, if_pos (by omega)]
   rw [hone]
   refine Ev.sb hnum (F := ?F) (fun k => ?step) ?rest
   case step =>
    simp only [dragnetref08_One.l0, hb]
    rw [if_pos (by omega), if_pos (by omega), if_pos (by decide), if_pos (by omega), wrap_in (by omega) (by omega), if_pos (by omega), if_pos (by omega), show ((i : Int) + 1).toNat = i + 1 by omega, Int.toNat_natCast, extract_back, extract_front x i (by omega)]
   case rest =>
    by_cases hn : (refNum (x.data.toList.drop (i + 1))).2 = true
    ·simp only [if_pos hn]
     refine Ev.bind hkey ?_
     refine Ev.congr (fun k => ?_) (Ev.now _)
     cases keyB (bA (x.data.toList.take i)) <;> rfl
    ·simp only [if_neg hn]
     refine Ev.bind hkey ?_
     refine Ev.congr (fun k => ?_) (Ev.now _)
     cases keyB (bA (x.data.toList.take i)) with
     | false => rfl
     | true =>
      rw [if_pos rfl, bA_size]
      unfold fiveS
      simp only [Bool.true_and]
      congr 5
      exact decide_eq_decide.2 (by omega)
  ·have hn : x.data.toList[i]'(by omega) ≠ 61 := by
    obtain ⟨y, h1, h2⟩ := takeWhile_getElem (p := noEq) (l := x.data.toList) (j := i) (by unfold eqPos at hq hp; omega)
    rw [List.getElem?_eq_getElem (by omega)] at h1
    cases h1
    simpa [noEq] using h2
   refine Ev.step (fun k => ?_) (one_loop x hx d (i + 1) (by omega) (by omega))
   simp only [dragnetref08_One.l0, hb]
   rw [if_pos (by omega), if_pos (by omega), if_neg (fun e => hn (UInt8.toNat_inj.1 (by show _ = 61; omega))), wrap_in (by omega) (by omega), show ((i : Int) + 1) = ((i + 1 : Nat) : Int) by omega]
theorem one_ev (x : ByteArray) (hx : x.size ≤ 281474976710656) : Ev (fun k => dragnetref08_One.f k x) (fiveS (oneS x.data.toList)) := one_loop x hx x.size 0 (by omega) (Nat.zero_le _)
theorem isB_iff (b : UInt8) : isB b = true ↔ b.toNat = 9 ∨ b.toNat = 10 ∨ b.toNat = 13 ∨ b.toNat = 32 := by
 unfold isB blankL
 simp only [List.contains_cons, List.contains_nil, Bool.or_false, Bool.or_eq_true, beq_iff_eq, ← UInt8.toNat_inj]
 rfl
theorem blank_f (b : UInt8) : dragnetref08_blank.f (b.toNat : Int) = some (isB b) := by
 have h := isB_iff b
 unfold dragnetref08_blank.f
 cases hb : isB b with
 | true =>
  have h2 := h.1 hb
  repeat' split
  all_goals first | rfl | (congr 1; exact beq_iff_eq.2 (by omega))
 | false =>
  have h2 : ¬ (b.toNat = 9 ∨ b.toNat = 10 ∨ b.toNat = 13 ∨ b.toNat = 32) := fun e => by rw [h.2 e] at hb; cases hb
  rw [if_neg (by omega), if_neg (by omega), if_neg (by omega)]
  congr 1
  exact beq_eq_false_iff_ne.2 (by omega)
theorem rd_nums (l : List UInt8) (i : Nat) (h : i < l.length) : rd (numsOf l) (i : Int) = ((l[i]).toNat : Int) := by
 simp [rd, numsOf, List.getD, List.getElem?_eq_getElem h]
theorem nums_len (l : List UInt8) : (numsOf l).length = l.length := by simp [numsOf]
theorem str_nums (l : List UInt8) : strOfNums (numsOf l) = bA l := by
 apply text_eq
 rw [strOfNums_data, bA_list]
 simp [numsOf, List.map_map, Function.comp_def]
theorem words_blank (c : UInt8) (r : List UInt8) (h : isB c = true) : wordsL (c :: r) = wordsL r := by
 have e : (c :: r).dropWhile isB = r.dropWhile isB := by rw [List.dropWhile_cons, h]; rfl
 by_cases h0 : r.dropWhile isB = []
 ·rw [wordsL_none h0, wordsL_none (e.trans h0)]
 ·rw [wordsL_some h0, wordsL_some (by rw [e]; exact h0), e]
theorem words_front (c : UInt8) (r : List UInt8) (h : isB c = false) : wordsL (c :: r) = bA ((c :: r).takeWhile nB) :: wordsL ((c :: r).dropWhile nB) := by
 have e : (c :: r).dropWhile isB = c :: r := by rw [List.dropWhile_cons, h]; rfl
 rw [wordsL_some (by rw [e]; simp), e]
 rfl
theorem words_behind (l : List UInt8) : wordsL (l.dropWhile nB) = wordsL ((l.dropWhile nB).drop 1) := by
 cases e : l.dropWhile nB with
 | nil => rfl
 | cons c r =>
  have hc : nB c = false := by
   have := List.head_dropWhile_not nB (l := l) (by rw [e]; simp)
   simpa only [e, List.head_cons] using this
  rw [words_blank c r (by simpa [nB] using hc)]
  rfl
theorem five_any (st : List S110) (key : ByteArray) : (fiveOf (st.find? (keyIs key))).2.2.2.2 = st.any (fun y => decide (y.f0 = key)) := by rw [fiveOf_found, found_any]
theorem j2_ev (l : List UInt8) (hl : l.length ≤ 16777216) (st : List S110) (hs : st.length ≤ 16) (i n : Nat) (hn : i + n ≤ l.length) (r : List S110)
  (h : Ev (fun k => dragnetref08_Read.l0 k (numsOf l) (rdS st (bA ((l.drop i).take n))) ((i + n + 1 : Nat) : Int)) r) :
  Ev (fun k => dragnetref08_Read.j2 k (numsOf l) st ((i + n : Nat) : Int) (i : Int)) r := by
 have h1 := one_ev (bA ((l.drop i).take n)) (by rw [bA_size, List.length_take, List.length_drop]; omega)
 have h2 := at_ev st (oneS ((l.drop i).take n)).1.f0 (by omega)
 rw [bA_list] at h1
 have hstr : strOfNums (((numsOf l).take (i + n)).drop i) = bA ((l.drop i).take n) := by
  rw [← str_nums]
  congr 1
  unfold numsOf
  rw [← List.map_take, ← List.map_drop, List.take_drop, Nat.add_comm]
 refine Ev.sb h1 (F := ?F) (fun k => ?step) ?rest
 case step =>
  simp only [dragnetref08_Read.j2]
  rw [if_pos (by omega), if_pos (by omega), if_pos (by rw [nums_len]; omega), Int.toNat_natCast, Int.toNat_natCast, hstr]
 case rest =>
  refine Ev.cb h2 (F := ?F2) (fun k => ?step) ?rest
  case step =>
   dsimp only [fiveS]
   rfl
  case rest =>
  refine Ev.congr (fun k => ?_) h
  rw [five_any, wrap_in (by omega) (by omega), show (((i + n : Nat) : Int) + 1) = ((i + n + 1 : Nat) : Int) by omega]
  have hrd : rdS st (bA ((l.drop i).take n)) = if st.length < 16 ∧ (oneS ((l.drop i).take n)).2 = true ∧ st.any (fun y => decide (y.f0 = (oneS ((l.drop i).take n)).1.f0)) = false then st ++ [(oneS ((l.drop i).take n)).1] else st := rfl
  by_cases h1 : (oneS ((l.drop i).take n)).2 = true
  ·by_cases h2 : st.any (fun y => decide (y.f0 = (oneS ((l.drop i).take n)).1.f0)) = true
   ·rw [if_neg (fun e => by rw [h2] at e; cases e.2.2)] at hrd
    rw [hrd]
    simp only [h1, h2, ↓reduceIte]
   ·have h3 := Bool.eq_false_iff.2 h2
    by_cases h16 : st.length < 16
    ·have hi : (st.length : Int) < 16 := by omega
     have hj : st.length < 2932031007402 := by omega
     rw [if_pos ⟨h16, h1, h3⟩] at hrd
     rw [hrd]
     simp only [h1, h3, hi, hj, Bool.false_eq_true, ↓reduceIte]
    ·have hi : ¬ (st.length : Int) < 16 := by omega
     rw [if_neg (fun e => h16 e.1)] at hrd
     rw [hrd]
     simp only [h1, h3, hi, Bool.false_eq_true, ↓reduceIte]
  ·have h3 := Bool.eq_false_iff.2 h1
   rw [if_neg (fun e => h1 e.2.1)] at hrd
   rw [hrd]
   simp only [h3, Bool.false_eq_true, ↓reduceIte]
theorem l1_ev (l : List UInt8) (hl : l.length ≤ 16777216) (st : List S110) (hs : st.length ≤ 16) (i n : Nat) (hn : i + n ≤ l.length) (hw : ∀ j, j < n → ∃ x, l[i + j]? = some x ∧ nB x = true) (hend : ∀ x, l[i + n]? = some x → isB x = true) (r : List S110)
  (h : Ev (fun k => dragnetref08_Read.j2 k (numsOf l) st ((i + n : Nat) : Int) (i : Int)) r) : ∀ d m : Nat, m + d = n → Ev (fun k => dragnetref08_Read.l1 k (numsOf l) st ((i + m : Nat) : Int) (i : Int)) r
 | 0, m, hm => by
  obtain rfl : m = n := by omega
  refine Ev.step (fun k => ?_) h
  simp only [dragnetref08_Read.l1]
  by_cases hlt : i + m < l.length
  ·have hb := hend _ (List.getElem?_eq_getElem hlt)
   rw [if_pos (by rw [nums_len]; omega), if_pos (by omega), rd_nums l _ hlt, blank_f, hb, Option.bind_some, if_pos rfl]
  ·rw [if_neg (by rw [nums_len]; omega)]
 | d + 1, m, hm => by
  have ih := l1_ev l hl st hs i n hn hw hend r h d (m + 1) (by omega)
  obtain ⟨x, hx, hb⟩ := hw m (by omega)
  have hlt : i + m < l.length := by omega
  rw [List.getElem?_eq_getElem hlt] at hx
  cases hx
  refine Ev.step (fun k => ?_) ih
  simp only [dragnetref08_Read.l1]
  have hb2 : isB l[i + m] = false := by simpa [nB] using hb
  rw [if_pos (by rw [nums_len]; omega), if_pos (by omega), rd_nums l _ hlt, blank_f, hb2, Option.bind_some, if_neg (by simp), wrap_in (by omega) (by omega), show (((i + m : Nat) : Int) + 1) = ((i + (m + 1) : Nat) : Int) by omega]
theorem read_loop (l : List UInt8) (hl : l.length ≤ 16777216) : ∀ (d i : Nat) (st : List S110), l.length ≤ i + d → st.length ≤ 16 → i ≤ l.length + 1 → Ev (fun k => dragnetref08_Read.l0 k (numsOf l) st (i : Int)) ((wordsL (l.drop i)).foldl rdS st)
 | d, i, st, hd, hs, hi => by
  by_cases hlt : i < l.length
  case neg =>
   rw [List.drop_of_length_le (by omega), wordsL_none rfl]
   refine Ev.step (f := fun _ => some st) (fun k => ?_) (Ev.now _)
   simp only [dragnetref08_Read.l0]
   rw [if_neg (by rw [nums_len]; omega)]
  obtain ⟨d, rfl⟩ : ∃ e, d = e + 1 := ⟨d - 1, by omega⟩
  cases hb : isB l[i] with
  | true =>
   have ih := read_loop l hl d (i + 1) st (by omega) hs (by omega)
   rw [List.drop_eq_getElem_cons hlt, words_blank _ _ hb]
   refine Ev.step (fun k => ?_) ih
   simp only [dragnetref08_Read.l0]
   rw [if_pos (by rw [nums_len]; omega), if_pos (by omega), rd_nums l _ hlt, blank_f, hb, Option.bind_some, if_pos rfl, wrap_in (by omega) (by omega), show ((i : Int) + 1) = ((i + 1 : Nat) : Int) by omega]
  | false =>
   obtain ⟨n, hn⟩ : ∃ n, n = ((l.drop i).takeWhile nB).length := ⟨_, rfl⟩
   have hle : i + n ≤ l.length := by
    have := (List.takeWhile_prefix nB (l := l.drop i)).length_le
    rw [List.length_drop] at this
    omega
   have htake : (l.drop i).takeWhile nB = (l.drop i).take n := by rw [hn]; exact takeWhile_take nB _
   have hdrop : (l.drop i).dropWhile nB = l.drop (i + n) := by rw [dropWhile_drop', ← hn, List.drop_drop]
   have hn1 : 1 ≤ n := by
    rw [hn, List.drop_eq_getElem_cons hlt]
    simp [List.takeWhile, nB, hb]
   have hwords : wordsL (l.drop i) = bA ((l.drop i).take n) :: wordsL (l.drop (i + n + 1)) := by
    have e := words_front l[i] (l.drop (i + 1)) hb
    rw [← List.drop_eq_getElem_cons hlt, htake, words_behind, hdrop, List.drop_drop] at e
    exact e
   rw [hwords, List.foldl_cons]
   have ih := read_loop l hl d (i + n + 1) (rdS st (bA ((l.drop i).take n))) (by omega) (rdS_le _ _ hs) (by omega)
   have h2 := l1_ev l hl st hs i n hle (fun j hj => by
    obtain ⟨x, h1, h2⟩ := takeWhile_getElem (p := nB) (l := l.drop i) (j := j) (by omega)
    rw [List.getElem?_drop] at h1
    exact ⟨x, h1, h2⟩) (fun x hx => by
    obtain ⟨y, h1, h2⟩ := takeWhile_stop (p := nB) (l := l.drop i) (by
     rw [List.length_drop, ← hn]
     have := (List.getElem?_eq_some_iff.1 hx).1
     omega)
    rw [← hn, List.getElem?_drop, hx] at h1
    cases h1
    simpa [nB] using h2) _ (j2_ev l hl st hs i n hle _ ih) n 0 (by omega)
   refine Ev.step (fun k => ?_) h2
   simp only [dragnetref08_Read.l0]
   rw [if_pos (by rw [nums_len]; omega), if_pos (by omega), rd_nums l _ hlt, blank_f, hb, Option.bind_some, if_neg (by simp)]
   rfl
theorem refRead_ev (l : List UInt8) (hl : l.length ≤ 16777216) : Ev (fun k => dragnetref08_Read.f k (numsOf l)) (fieldsL l) := read_loop l hl l.length 0 [] (by omega) (by simp) (by omega)
theorem digStr (d : Nat) (h : d < 10) : (strOfNums [(IntKind.u64.wrap (48 + (d : Int))) % 256]).data.toList = [UInt8.ofNat (48 + d)] := by
 rw [strOfNums_data, u64_in (by omega) (by omega)]
 simp only [List.map_cons, List.map_nil]
 congr 2
 omega
theorem digits_loop : ∀ (m x : Nat) (s : ByteArray), x < 10 ^ m → x < 18446744073709551616 → s.size + m ≤ 1000 →
  Ev (fun k => dragnetref08_Digits.l0 k (x : Int) s) ⟨((if 10 ≤ x then Lib.decDigits (x / 10) else []) ++ s.data.toList).toArray⟩
 | 0, x, s, hx, hx2, hs => by
  obtain rfl : x = 0 := by simpa using hx
  rw [if_neg (by omega), List.nil_append]
  refine Ev.step (f := fun _ => some s) (fun k => ?_) (Ev.now _)
  simp only [dragnetref08_Digits.l0]
  rw [if_neg (by omega)]
 | m + 1, x, s, hx, hx2, hs => by
  by_cases h10 : 10 ≤ x
  ·have hds := digStr (x / 10 % 10) (by omega)
   obtain ⟨y, hy⟩ : ∃ y, y = strOfNums [(IntKind.u64.wrap (48 + ((x / 10 % 10 : Nat) : Int))) % 256] := ⟨_, rfl⟩
   rw [← hy] at hds
   have hys : y.size = 1 := by rw [Lib.size_eq, hds]; rfl
   have hyl : (y ++ s).data.toList = UInt8.ofNat (48 + x / 10 % 10) :: s.data.toList := by
    rw [ByteArray.data_append, Array.toList_append, hds]
    rfl
   have ih := digits_loop m (x / 10) (y ++ s) (by rw [Nat.pow_succ] at hx; omega) (by omega) (by rw [ByteArray.size_append]; omega)
   rw [if_pos h10]
   have e : (if 10 ≤ x / 10 then Lib.decDigits (x / 10 / 10) else []) ++ (y ++ s).data.toList = Lib.decDigits (x / 10) ++ s.data.toList := by
    rw [hyl]
    by_cases h2 : 10 ≤ x / 10
    ·rw [if_pos h2, dd_big (u := x / 10) (by omega)]
     simp
    ·rw [if_neg h2, dd_small (u := x / 10) (by omega), show x / 10 % 10 = x / 10 by omega]
     rfl
   rw [e] at ih
   refine Ev.step (fun k => ?_) ih
   simp only [dragnetref08_Digits.l0]
   have e1 : IntKind.u64.wrap (Int.tdiv (x : Int) 10) = ((x / 10 : Nat) : Int) := by
    rw [Int.tdiv_eq_ediv_of_nonneg (by omega), u64_in (by omega) (by omega)]
    omega
   have e2 : Int.tmod ((x / 10 : Nat) : Int) 10 = ((x / 10 % 10 : Nat) : Int) := by
    rw [Int.tmod_eq_emod_of_nonneg (by omega)]
    omega
   rw [if_pos (by omega), Option.bind_some, e1, e2, ← hy, if_pos (by omega)]
  ·rw [if_neg h10, List.nil_append]
   refine Ev.step (f := fun _ => some s) (fun k => ?_) (Ev.now _)
   simp only [dragnetref08_Digits.l0]
   rw [if_neg (by omega)]
theorem digits_ev (x : Nat) (hx : x < 18446744073709551616) : Ev (fun k => dragnetref08_Digits.f k (x : Int)) ⟨(Lib.decDigits x).toArray⟩ := by
 have hds := digStr (x % 10) (by omega)
 have e2 : Int.tmod (x : Int) 10 = ((x % 10 : Nat) : Int) := by
  rw [Int.tmod_eq_emod_of_nonneg (by omega)]
  omega
 have h := digits_loop 20 x (strOfNums [(IntKind.u64.wrap (48 + ((x % 10 : Nat) : Int))) % 256]) (by omega) hx (by rw [Lib.size_eq, hds]; simp)
 rw [hds] at h
 have e : (if 10 ≤ x then Lib.decDigits (x / 10) else []) ++ [UInt8.ofNat (48 + x % 10)] = Lib.decDigits x := by
  by_cases h2 : 10 ≤ x
  ·rw [if_pos h2, dd_big (u := x) (by omega)]
  ·rw [if_neg h2, dd_small (u := x) (by omega), show x % 10 = x by omega]
   rfl
 rw [e] at h
 refine Ev.congr (fun k => ?_) h
 unfold dragnetref08_Digits.f
 rw [e2]
theorem refText_ev (n : Int) (h0 : -9223372036854775808 ≤ n) (h1 : n ≤ 9223372036854775807) : Ev (fun k => dragnetref08_Text.f k n) ⟨(Lib.itoa n).toArray⟩ := by
 by_cases hn : n ≥ 0
 ·obtain ⟨m, rfl⟩ := Int.eq_ofNat_of_zero_le hn
  rw [Lib.itoa_nonneg]
  refine Ev.call0 (digits_ev m (by omega)) (Ev.now _) (fun k h => ?_)
  unfold dragnetref08_Text.f
  rw [if_pos hn, u64_in (by omega) (by omega), h, Option.bind_some]
 ·obtain ⟨m, rfl⟩ : ∃ m : Nat, n = -(m : Int) := ⟨n.natAbs, by omega⟩
  rw [Lib.itoa_neg m (by omega)]
  refine Ev.call0 (digits_ev m (by omega)) (Ev.now _) (fun k h => ?_)
  unfold dragnetref08_Text.f
  have e : IntKind.u64.wrap (IntKind.u64.wrap (wrap64 (-(wrap64 (-(m : Int) + 1)))) + 1) = (m : Int) := by
   rw [wrap_in (x := -(m : Int) + 1) (by omega) (by omega), wrap_in (by omega) (by omega), u64_in (x := -(-(m : Int) + 1)) (by omega) (by omega), u64_in (by omega) (by omega)]
   omega
  have hsz : (⟨(Lib.decDigits m).toArray⟩ : ByteArray).size ≤ 20 := by
   rw [Lib.size_eq]
   exact dd_len 19 m (by omega)
  rw [if_neg hn, e, h, Option.bind_some, if_pos (by omega)]
  congr 1
end Go.Proofs.YtehaodbheifokaaGreatDoor.Pure
end
