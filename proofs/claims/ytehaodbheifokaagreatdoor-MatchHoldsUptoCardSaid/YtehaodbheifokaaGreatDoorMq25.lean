/- Joined by wip/tools/pack.py, pruned: P6. -/
import Derived.Test.YtehaodbheifokaaGreatDoorMq23
set_option maxHeartbeats 8000000
set_option maxRecDepth 100000
set_option linter.unusedVariables false
set_option linter.unusedSimpArgs false
section
namespace Go.Proofs.YtehaodbheifokaaGreatDoor.P
open Go.RowKit Go.Proofs.YtehaodbheifokaaGreatDoorW.PrintWords Go.Proofs.YtehaodbheifokaaGreatDoorW.PrintLast Go.Proofs.YtehaodbheifokaaGreatDoorW.PrintMore
attribute [local go_sem] max2_int min2_int max_two min_two max_three min_three max_four min_four  
def dragnetref08_One.l0 : Nat → ByteArray → Int → Option (ByteArray × Int × Int × ByteArray × Bool)
 | 0, _, _ => none
 | k + 1, x0, x4 => if x4 < (x0.size : Int) then (if 0 ≤ x4 then (if (bt x0 x4) = 61 then (if x4 ≤ (x0.size : Int) then (if 0 ≤ (wrap64 (x4 + 1)) then (if (wrap64 (x4 + 1)) ≤ (x0.size : Int) then ((dragnetref08_Number.f k (x0.extract ((wrap64 (x4 + 1)) : Int).toNat x0.size)).bind fun bt193 => (if bt193.2 = true then ((dragnetref08_IsKey.f k (x0.extract 0 (x4 : Int).toNat)).bind fun t195 => (if t195 = true then (some (x0.extract 0 (x4 : Int).toNat, 1, bt193.1, (⟨#[]⟩ : ByteArray), decide (0 ≤ 64))) else (some (x0.extract 0 (x4 : Int).toNat, 1, bt193.1, (⟨#[]⟩ : ByteArray), false)))) else ((dragnetref08_IsKey.f k (x0.extract 0 (x4 : Int).toNat)).bind fun t196 => (if t196 = true then (some (x0.extract 0 (x4 : Int).toNat, 2, 0, x0.extract ((wrap64 (x4 + 1)) : Int).toNat x0.size, decide (((x0.extract ((wrap64 (x4 + 1)) : Int).toNat x0.size).size : Int) ≤ 64))) else (some (x0.extract 0 (x4 : Int).toNat, 2, 0, x0.extract ((wrap64 (x4 + 1)) : Int).toNat x0.size, false)))))) else (none)) else (none)) else (none)) else (dragnetref08_One.l0 k x0 (wrap64 (x4 + 1)))) else (none)) else (some ((⟨#[]⟩ : ByteArray), 0, 0, (⟨#[]⟩ : ByteArray), false))
def dragnetref08_One.f (k : Nat) (a0 : ByteArray) : Option (ByteArray × Int × Int × ByteArray × Bool) := dragnetref08_One.l0 k a0 0
def dragnetref08_One.T5 : Bool × List (List Nat × List Nat) := (true, [([], []), ([], []), ([0, 1], [0, 1]), ([], []), ([], []), ([4], [4]), ([3, 5], [3, 5]), ([2, 6], [2, 6]), ([], []), ([8, 7, 0, 1, 2, 3, 4, 5, 6, 7, 8], [7, 8])])
def dragnetref08_One.B5 : List Nat := [0, 0, 3, 0, 0, 16, 56, 127, 0, 511]
theorem dragnetref08_One.tab5 : rtab .any (opsOf Tryz.f111 5) = dragnetref08_One.T5 := by kernel_rfl
theorem dragnetref08_One.bits5 : waitsOk dragnetref08_One.T5.2 dragnetref08_One.B5 = true := by kernel_rfl
def dragnetref08_One.T9 : Bool × List (List Nat × List Nat) := (true, [([], []), ([], []), ([1], [1]), ([2], [2]), ([3, 3], [3]), ([4], [4]), ([5, 4], [4, 5]), ([6, 4], [4, 6]), ([7, 4], [4, 7]), ([4, 8], [4, 8]), ([0, 4, 0], [0]), ([9, 10, 0, 1, 2, 3, 4, 5, 6, 7, 8, 9, 10], [9])])
def dragnetref08_One.B9 : List Nat := [0, 0, 2, 6, 14, 30, 62, 126, 254, 510, 31, 2047]
theorem dragnetref08_One.tab9 : rtab .any (opsOf Tryz.f111 9) = dragnetref08_One.T9 := by kernel_rfl
theorem dragnetref08_One.bits9 : waitsOk dragnetref08_One.T9.2 dragnetref08_One.B9 = true := by kernel_rfl
theorem dragnetref08_One.calls (k : Nat) (a0 : ByteArray) (r1 : ByteArray) (r2 : Int) (r3 : Int) (r4 : ByteArray) (r5 : Bool) (w : World) (h : dragnetref08_One.f k a0 = some (r1, r2, r3, r4, r5)) :
  Calls Tryz.prog 111 #[.string a0] w fun e w' => e = .returned (.tuple #[.agg #[.string r1, .int .i64 r2, .int .i64 r3, .string r4], .bool r5]) ∧ Below w.heap.size w w' := by
 have hu110 := Tryz.underlying110
 have HB := Aside0.mk (Below.refl w.heap.size w)
 have H : (dragnetref08_One.l0 k a0 0) = some (r1, r2, r3, r4, r5) := h
 clear h
 have H' := Aside0.mk H
 clear H
 go_enter Tryz.func111, Tryz.ntmps111
 go_wp2_with (first | ((with_reducible refine gate_dst (N := 2) rfl ?_); (try (refine gate_guard (by rfl) ?_; dsimp only)); refine box_event ?hg (N := 2) ?hd (cs := #[.string (⟨#[]⟩ : ByteArray), .int .i64 0, .int .i64 0, .string (⟨#[]⟩ : ByteArray)]) (t := 110) ?hr ?_; (case hd => rfl); (case hg => rfl); (case hr => first | (go_simp; done) | (go_simp; rfl) | (go_simp; simp only [wAl, wAr, wSl, wSr, wW])); intro gb191 hg w2 hbox hb; have n0_ := bsA HB hb; have n1_ := Aside0.mk (hbox); have n2_ := szA HB hg; have n3_ := szA HB hg; clear HB; have HB := n0_; have BK191 := n1_; have GW191 := n2_; have GE191 := n3_; clear n0_ n1_ n2_ n3_; clear hb hbox hg))
 go_loopg [4] k (fun kq v4 w' => ∃ (x4_1 : Int) (x192000_1 : ByteArray) (x192001_1 : Int) (x192002_1 : Int) (x192003_1 : ByteArray), v4 = .int .i64 x4_1 ∧ Aside0 (dragnetref08_One.l0 kq a0 x4_1 = some (r1, r2, r3, r4, r5)) ∧ Aside0 (kq ≤ k) ∧ Aside0 (w'.heap[gb191]? = some (.cells #[.string x192000_1, .int .i64 x192001_1, .int .i64 x192002_1, .string x192003_1] 110 (0, 0))) ∧ Aside0 (Below w.heap.size w w'))
 case atStart => exact ⟨(0), ((⟨#[]⟩ : ByteArray)), (0), (0), ((⟨#[]⟩ : ByteArray)), rs_, H', ⟨Nat.le_refl _⟩, ⟨bU_ BK191.out⟩, ⟨by repeat (first | (with_reducible first | exact HB.out | apply below_alloc | apply pw_below_drewN | apply below_drew1 | refine below_set ?_ GE191.out) | exact HB.out)⟩⟩
 case round =>
  clear H'
  try clear c1
  try clear p2
  obtain ⟨x4_1, x192000_1, x192001_1, x192002_1, x192003_1, rfl, HA, HK1, BK191, HB⟩ := hrel
  cases gk with
  | zero => exact absurd HA.out (by simp [dragnetref08_One.l0])
  | succ k1 =>
   have H := HA.out
   clear HA
   simp only [dragnetref08_One.l0] at H
   by_cases c3 : x4_1 < (a0.size : Int)
   ·rw [if_pos c3] at H
    have c3b0 : decide (x4_1 < (a0.size : Int)) = true := decide_eq_true c3
    clear c3
    by_cases c4 : 0 ≤ x4_1
    ·rw [if_pos c4] at H
     have c4b0 : decide (0 ≤ x4_1) = true := decide_eq_true c4
     clear c4
     by_cases c6 : (bt a0 x4_1) = 61
     ·rw [if_pos c6] at H
      have c6b0 : ((bt a0 x4_1) == 61) = true := beq_iff_eq.mpr c6
      have c6b1 : ((bt a0 x4_1) != 61) = false := bne_eq_false_iff_eq.mpr c6
      clear c6
      have c7b0 := eq_true (of_decide_eq_true as_ : 0 ≤ x4_1)
      by_cases c8 : x4_1 ≤ (a0.size : Int)
      ·rw [if_pos c8] at H
       have c8b0 := eq_true c8
       have c8b1 : decide (x4_1 ≤ (a0.size : Int)) = true := decide_eq_true c8
       clear c8
       obtain ⟨ji9, hji9⟩ : ∃ j_ : Int, (wrap64 (x4_1 + 1)) = j_ := ⟨_, rfl⟩
       replace H : (if 0 ≤ (ji9) then (if (ji9) ≤ (a0.size : Int) then ((dragnetref08_Number.f k1 (a0.extract ((ji9) : Int).toNat a0.size)).bind fun bt193 => (if bt193.2 = true then ((dragnetref08_IsKey.f k1 (a0.extract 0 (x4_1 : Int).toNat)).bind fun t195 => (if t195 = true then (some (a0.extract 0 (x4_1 : Int).toNat, 1, bt193.1, (⟨#[]⟩ : ByteArray), decide (0 ≤ 64))) else (some (a0.extract 0 (x4_1 : Int).toNat, 1, bt193.1, (⟨#[]⟩ : ByteArray), false)))) else ((dragnetref08_IsKey.f k1 (a0.extract 0 (x4_1 : Int).toNat)).bind fun t196 => (if t196 = true then (some (a0.extract 0 (x4_1 : Int).toNat, 2, 0, a0.extract ((ji9) : Int).toNat a0.size, decide (((a0.extract ((ji9) : Int).toNat a0.size).size : Int) ≤ 64))) else (some (a0.extract 0 (x4_1 : Int).toNat, 2, 0, a0.extract ((ji9) : Int).toNat a0.size, false)))))) else (none)) else (none)) = some (r1, r2, r3, r4, r5) := by first | (rw [hji9] at H; exact H) | (simp only [hji9] at H ⊢; exact H)
       have hji9w : (IntKind.i64.wrap (x4_1 + 1)) = ji9 := (i64_w _).trans hji9
       by_cases c10 : 0 ≤ (ji9)
       ·rw [if_pos c10] at H
        have c10b0 := eq_true c10
        have c10b1 : decide (0 ≤ (ji9)) = true := decide_eq_true c10
        clear c10
        by_cases c11 : (ji9) ≤ (a0.size : Int)
        ·rw [if_pos c11] at H
         have c11b0 := eq_true c11
         have c11b1 : decide ((ji9) ≤ (a0.size : Int)) = true := decide_eq_true c11
         clear c11
         replace H := Option.bind_eq_some_iff.mp H
         obtain ⟨⟨t193, t194⟩, A120, H⟩ := H
         replace H : (if t194 = true then ((dragnetref08_IsKey.f k1 (a0.extract 0 (x4_1 : Int).toNat)).bind fun t195 => (if t195 = true then (some (a0.extract 0 (x4_1 : Int).toNat, 1, t193, (⟨#[]⟩ : ByteArray), decide (0 ≤ 64))) else (some (a0.extract 0 (x4_1 : Int).toNat, 1, t193, (⟨#[]⟩ : ByteArray), false)))) else ((dragnetref08_IsKey.f k1 (a0.extract 0 (x4_1 : Int).toNat)).bind fun t196 => (if t196 = true then (some (a0.extract 0 (x4_1 : Int).toNat, 2, 0, a0.extract ((ji9) : Int).toNat a0.size, decide (((a0.extract ((ji9) : Int).toNat a0.size).size : Int) ≤ 64))) else (some (a0.extract 0 (x4_1 : Int).toNat, 2, 0, a0.extract ((ji9) : Int).toNat a0.size, false))))) = some (r1, r2, r3, r4, r5) := H
         have A12 := Aside0.mk A120
         clear A120
         by_cases c13 : t194 = true
         ·subst c13
          have H1 : ((dragnetref08_IsKey.f k1 (a0.extract 0 (x4_1 : Int).toNat)).bind fun t195 => (if t195 = true then (some (a0.extract 0 (x4_1 : Int).toNat, 1, t193, (⟨#[]⟩ : ByteArray), decide (0 ≤ 64))) else (some (a0.extract 0 (x4_1 : Int).toNat, 1, t193, (⟨#[]⟩ : ByteArray), false)))) = some (r1, r2, r3, r4, r5) := by rw [if_pos rfl] at H; exact H
          clear H
          have H := H1
          clear H1
          have c14b0 := eq_true (of_decide_eq_true as_ : 0 ≤ x4_1)
          have c15b0 := eq_true (of_decide_eq_true as_ : x4_1 ≤ (a0.size : Int))
          replace H := Option.bind_eq_some_iff.mp H
          obtain ⟨t195, A160, H⟩ := H
          replace H : (if t195 = true then (some (a0.extract 0 (x4_1 : Int).toNat, 1, t193, (⟨#[]⟩ : ByteArray), decide (0 ≤ 64))) else (some (a0.extract 0 (x4_1 : Int).toNat, 1, t193, (⟨#[]⟩ : ByteArray), false))) = some (r1, r2, r3, r4, r5) := H
          have A16 := Aside0.mk A160
          clear A160
          by_cases c17 : t195 = true
          ·subst c17
           have H1 : (some (a0.extract 0 (x4_1 : Int).toNat, 1, t193, (⟨#[]⟩ : ByteArray), decide (0 ≤ 64))) = some (r1, r2, r3, r4, r5) := by rw [if_pos rfl] at H; exact H
           clear H
           have H := H1
           clear H1
           simp only [Option.some.injEq, Prod.mk.injEq] at H
           obtain ⟨rfl, rfl, rfl, rfl, rfl⟩ := H
           have p5 : 0 ≤ (x4_1 : Int) := of_decide_eq_true as_
           have q5 : x4_1 < (a0.size : Int) := of_decide_eq_true as_
           have hx5 := bt_at a0 x4_1
           replace p5 := eq_true p5
           replace q5 := eq_true q5
           try go_wp2
           have n0_ := Aside0.mk (blk_drew BK191.out)
           have n1_ := Aside0.mk (below_drew1 HB.out)
           clear BK191
           clear HB
           have BK191 := n0_
           have HB := n1_
           clear n0_ n1_
           refine start_ (n := 10) (S := fun w' => True) (ds := []) #[false, false, false, false, false, false, false, false, false, false] (by kernel_rfl) rfl rfl trivial (fun hHeld => ?_); refine with_tabW dragnetref08_One.tab5 dragnetref08_One.bits5 (fun HT_ HW_ => ?_)
           generalize wr.drew = w18 at BK191 HB hHeld ⊢
           refine pS 0 (some 18) HT_ ?_
           refine pS 1 (some 19) HT_ ?_
           refine pS 2 (some 20) HT_ ?_
           refine pS 3 (some 21) HT_ ?_
           refine pS 4 (some 22) HT_ ?_
           refine pS 5 (some 23) HT_ ?_
           refine pS 6 (some 24) HT_ ?_
           refine pS 7 (some 25) HT_ ?_
           refine one_ (i := 8) (N := some 5) #[true, true, true, true, true, true, true, true, true, false] rfl rfl (one_of HT_.out (by kernel_rfl)) (by decide) (fun K hK => ?_)
           refine box_step ?hg (N := 5) ?hd (cs := #[.string (⟨#[]⟩ : ByteArray), .int .i64 0, .int .i64 0, .string (⟨#[]⟩ : ByteArray)]) (t := 110) ?hr ?_; (case hd => rfl); (case hg => rfl); (case hr => first | (go_simp; done) | (go_simp; rfl))
           intro gb192 hg w19 hbox hb
           have n0_ := bkA BK191 hb
           have n1_ := bsA HB hb
           have n2_ := Aside0.mk (hbox)
           have n3_ := szA HB hg
           have n4_ := szA HB hg
           have n5_ := neA BK191 hg
           have n6_ := neB BK191 hg
           clear BK191
           clear HB
           have BK191 := n0_
           have HB := n1_
           have BK192 := n2_
           have GW192 := n3_
           have GE192 := n4_
           have NB191_192 := n5_
           have NB192_191 := n6_
           clear n0_ n1_ n2_ n3_ n4_ n5_ n6_
           clear hb hbox hg
           refine hK.out _ _ trivial (fun hHeld => ?_)
           clear hK K
           refine norm_ (a' := ?_) ?_ ?_
           rotate_left
           ·show Act.put _ (some 5) _ = _
            simp only [Act.put, List.setIfInBounds_toArray, List.set_cons_zero, List.set_cons_succ, i64_w, i32_w]
            rfl
           refine one_ (i := 9) (N := none) #[true, true, true, true, true, true, true, true, true, true] rfl rfl (one_of HT_.out (by kernel_rfl)) (by decide) (fun K hK => ?_)
           have hs20 : w19.cell? ⟨gb192, 0, none⟩ = some (.string (⟨#[]⟩ : ByteArray)) := (blk_cell BK192.out 0).trans rfl
           have hfs20 := blk_frozen BK192.out 0
           have hns20_0 := NB191_192.out
           have hms20_0 := NB192_191.out
           have hs21 : w19.cell? ⟨gb192, 1, none⟩ = some (.int .i64 0) := (blk_cell BK192.out 1).trans rfl
           have hfs21 := blk_frozen BK192.out 1
           have hns21_0 := NB191_192.out
           have hms21_0 := NB192_191.out
           have hs22 : w19.cell? ⟨gb192, 2, none⟩ = some (.int .i64 0) := (blk_cell BK192.out 2).trans rfl
           have hfs22 := blk_frozen BK192.out 2
           have hns22_0 := NB191_192.out
           have hms22_0 := NB192_191.out
           have hs23 : w19.cell? ⟨gb192, 3, none⟩ = some (.string (⟨#[]⟩ : ByteArray)) := (blk_cell BK192.out 3).trans rfl
           have hfs23 := blk_frozen BK192.out 3
           have hns23_0 := NB191_192.out
           have hms23_0 := NB192_191.out
           refine skip_ (w1 := ?_) (by rfl) rfl ?_ ?_
           rotate_left
           ·go_simp
            rfl
           refine hK.out _ _ trivial (fun hHeld => ?_)
           clear hK K
           refine done_ (done_of HT_.out (by kernel_rfl)) ?_
           have hnb24 := NB192_191.out
           have hnc24 := NB191_192.out
           have hcz25_0 : w19.cell? ⟨gb192, 0, none⟩ = some (.string (⟨#[]⟩ : ByteArray)) := (blk_cell BK192.out 0).trans rfl
           have hcz25_1 : w19.cell? ⟨gb192, 1, none⟩ = some (.int .i64 0) := (blk_cell BK192.out 1).trans rfl
           have hcz25_2 : w19.cell? ⟨gb192, 2, none⟩ = some (.int .i64 0) := (blk_cell BK192.out 2).trans rfl
           have hcz25_3 : w19.cell? ⟨gb192, 3, none⟩ = some (.string (⟨#[]⟩ : ByteArray)) := (blk_cell BK192.out 3).trans rfl
           have hfz25_0 := blk_frozen BK192.out 0
           have hfz25_1 := blk_frozen BK192.out 1
           have hfz25_2 := blk_frozen BK192.out 2
           have hfz25_3 := blk_frozen BK192.out 3
           try go_wp2_with (first | ((with_reducible refine gate_callee (f := 134) rfl ?_); refine goesL_ (some 29) rfl rfl Tryz.func134 (by kernel_rfl) rfl #[.string (a0.extract ((ji9) : Int).toNat a0.size)] rfl (by (try simp only [List.map_toArray, List.map_cons, List.map_nil]); first | done | (simp only [hji9]; rfl) | rfl | (simp only [List.length_drop, List.length_take]; rfl)) ?_; (with_reducible refine (dragnetref08_Number.calls k1 (a0.extract ((ji9) : Int).toNat a0.size) t193 true _ A12.out).mono ?_); rintro e w' ⟨rfl, ⟨nd, rfl⟩⟩; refine ⟨_, rfl, ?_⟩))
           have n0_ : Aside0 (((((((((w19.setCell ⟨gb192, 0, none⟩ (.string (a0.extract 0 (x4_1 : Int).toNat))).setCell ⟨gb192, 1, none⟩ (.int .i64 2)).setCell ⟨gb192, 2, none⟩ (.int .i64 0)).setCell ⟨gb192, 3, none⟩ (.string (a0.extract ((ji9) : Int).toNat a0.size))).setCell ⟨gb192, 0, none⟩ (.string (a0.extract 0 (x4_1 : Int).toNat))).setCell ⟨gb192, 1, none⟩ (.int .i64 1)).setCell ⟨gb192, 2, none⟩ (.int .i64 t193)).setCell ⟨gb192, 3, none⟩ (.string (⟨#[]⟩ : ByteArray))).heap[gb191]? = some (.cells #[.string x192000_1, .int .i64 x192001_1, .int .i64 x192002_1, .string x192003_1] 110 (0, 0))) := ⟨by (with_reducible repeat (first | refine blk_drewN ?_ _ | refine blk_drew ?_ | refine blk_alloc ?_ _)); refine blk_far ?_ NB191_192.out _; (with_reducible repeat (first | refine blk_drewN ?_ _ | refine blk_drew ?_ | refine blk_alloc ?_ _)); refine blk_far ?_ NB191_192.out _; (with_reducible repeat (first | refine blk_drewN ?_ _ | refine blk_drew ?_ | refine blk_alloc ?_ _)); refine blk_far ?_ NB191_192.out _; (with_reducible repeat (first | refine blk_drewN ?_ _ | refine blk_drew ?_ | refine blk_alloc ?_ _)); refine blk_far ?_ NB191_192.out _; (with_reducible repeat (first | refine blk_drewN ?_ _ | refine blk_drew ?_ | refine blk_alloc ?_ _)); refine blk_far ?_ NB191_192.out _; (with_reducible repeat (first | refine blk_drewN ?_ _ | refine blk_drew ?_ | refine blk_alloc ?_ _)); refine blk_far ?_ NB191_192.out _; (with_reducible repeat (first | refine blk_drewN ?_ _ | refine blk_drew ?_ | refine blk_alloc ?_ _)); refine blk_far ?_ NB191_192.out _; (with_reducible repeat (first | refine blk_drewN ?_ _ | refine blk_drew ?_ | refine blk_alloc ?_ _)); refine blk_far ?_ NB191_192.out _; (with_reducible repeat (first | refine blk_drewN ?_ _ | refine blk_drew ?_ | refine blk_alloc ?_ _)); exact BK191.out⟩
           have n1_ : Aside0 (((((((((w19.setCell ⟨gb192, 0, none⟩ (.string (a0.extract 0 (x4_1 : Int).toNat))).setCell ⟨gb192, 1, none⟩ (.int .i64 2)).setCell ⟨gb192, 2, none⟩ (.int .i64 0)).setCell ⟨gb192, 3, none⟩ (.string (a0.extract ((ji9) : Int).toNat a0.size))).setCell ⟨gb192, 0, none⟩ (.string (a0.extract 0 (x4_1 : Int).toNat))).setCell ⟨gb192, 1, none⟩ (.int .i64 1)).setCell ⟨gb192, 2, none⟩ (.int .i64 t193)).setCell ⟨gb192, 3, none⟩ (.string (⟨#[]⟩ : ByteArray))).heap[gb192]? = some (.cells #[.string (a0.extract 0 (x4_1 : Int).toNat), .int .i64 1, .int .i64 t193, .string (⟨#[]⟩ : ByteArray)] 110 (0, 0))) := ⟨by (with_reducible repeat (first | refine blk_drewN ?_ _ | refine blk_drew ?_ | refine blk_alloc ?_ _)); refine blk_put (cs := #[.string (a0.extract 0 (x4_1 : Int).toNat), .int .i64 1, .int .i64 t193, .string (a0.extract ((ji9) : Int).toNat a0.size)]) ?_ 3 _ rfl; (with_reducible repeat (first | refine blk_drewN ?_ _ | refine blk_drew ?_ | refine blk_alloc ?_ _)); refine blk_put (cs := #[.string (a0.extract 0 (x4_1 : Int).toNat), .int .i64 1, .int .i64 0, .string (a0.extract ((ji9) : Int).toNat a0.size)]) ?_ 2 _ rfl; (with_reducible repeat (first | refine blk_drewN ?_ _ | refine blk_drew ?_ | refine blk_alloc ?_ _)); refine blk_put (cs := #[.string (a0.extract 0 (x4_1 : Int).toNat), .int .i64 2, .int .i64 0, .string (a0.extract ((ji9) : Int).toNat a0.size)]) ?_ 1 _ rfl; (with_reducible repeat (first | refine blk_drewN ?_ _ | refine blk_drew ?_ | refine blk_alloc ?_ _)); refine blk_put (cs := #[.string (a0.extract 0 (x4_1 : Int).toNat), .int .i64 2, .int .i64 0, .string (a0.extract ((ji9) : Int).toNat a0.size)]) ?_ 0 _ rfl; (with_reducible repeat (first | refine blk_drewN ?_ _ | refine blk_drew ?_ | refine blk_alloc ?_ _)); refine blk_put (cs := #[.string (a0.extract 0 (x4_1 : Int).toNat), .int .i64 2, .int .i64 0, .string (⟨#[]⟩ : ByteArray)]) ?_ 3 _ rfl; (with_reducible repeat (first | refine blk_drewN ?_ _ | refine blk_drew ?_ | refine blk_alloc ?_ _)); refine blk_put (cs := #[.string (a0.extract 0 (x4_1 : Int).toNat), .int .i64 2, .int .i64 0, .string (⟨#[]⟩ : ByteArray)]) ?_ 2 _ rfl; (with_reducible repeat (first | refine blk_drewN ?_ _ | refine blk_drew ?_ | refine blk_alloc ?_ _)); refine blk_put (cs := #[.string (a0.extract 0 (x4_1 : Int).toNat), .int .i64 0, .int .i64 0, .string (⟨#[]⟩ : ByteArray)]) ?_ 1 _ rfl; (with_reducible repeat (first | refine blk_drewN ?_ _ | refine blk_drew ?_ | refine blk_alloc ?_ _)); refine blk_put (cs := #[.string (⟨#[]⟩ : ByteArray), .int .i64 0, .int .i64 0, .string (⟨#[]⟩ : ByteArray)]) ?_ 0 _ rfl; (with_reducible repeat (first | refine blk_drewN ?_ _ | refine blk_drew ?_ | refine blk_alloc ?_ _)); exact BK192.out⟩
           have n2_ : Aside0 (Below w.heap.size w ((((((((w19.setCell ⟨gb192, 0, none⟩ (.string (a0.extract 0 (x4_1 : Int).toNat))).setCell ⟨gb192, 1, none⟩ (.int .i64 2)).setCell ⟨gb192, 2, none⟩ (.int .i64 0)).setCell ⟨gb192, 3, none⟩ (.string (a0.extract ((ji9) : Int).toNat a0.size))).setCell ⟨gb192, 0, none⟩ (.string (a0.extract 0 (x4_1 : Int).toNat))).setCell ⟨gb192, 1, none⟩ (.int .i64 1)).setCell ⟨gb192, 2, none⟩ (.int .i64 t193)).setCell ⟨gb192, 3, none⟩ (.string (⟨#[]⟩ : ByteArray)))) := ⟨by repeat (first | (with_reducible first | exact HB.out | apply below_alloc | apply pw_below_drewN | apply below_drew1 | refine below_set ?_ GE191.out | refine below_set ?_ GE192.out) | exact HB.out)⟩
           (try clear BK191)
           (try clear BK192)
           (try clear HB)
           (try simp only [sc_drewN])
           generalize ((((((((w19.setCell ⟨gb192, 0, none⟩ (.string (a0.extract 0 (x4_1 : Int).toNat))).setCell ⟨gb192, 1, none⟩ (.int .i64 2)).setCell ⟨gb192, 2, none⟩ (.int .i64 0)).setCell ⟨gb192, 3, none⟩ (.string (a0.extract ((ji9) : Int).toNat a0.size))).setCell ⟨gb192, 0, none⟩ (.string (a0.extract 0 (x4_1 : Int).toNat))).setCell ⟨gb192, 1, none⟩ (.int .i64 1)).setCell ⟨gb192, 2, none⟩ (.int .i64 t193)).setCell ⟨gb192, 3, none⟩ (.string (⟨#[]⟩ : ByteArray))) = w26 at n0_ n1_ n2_ ⊢
           have BK191 := n0_
           have BK192 := n1_
           have HB := n2_
           clear n0_ n1_ n2_
           (try (rw [drewN_self w26]; generalize hq_ : World.drewN w26 _ = w26; have n0_ : Aside0 (w26.heap[gb191]? = some (.cells #[.string x192000_1, .int .i64 x192001_1, .int .i64 x192002_1, .string x192003_1] 110 (0, 0))) := ⟨by rw [← hq_]; exact (bU_ BK191.out)⟩; have n1_ : Aside0 (w26.heap[gb192]? = some (.cells #[.string (a0.extract 0 (x4_1 : Int).toNat), .int .i64 1, .int .i64 t193, .string (⟨#[]⟩ : ByteArray)] 110 (0, 0))) := ⟨by rw [← hq_]; exact (bU_ BK192.out)⟩; have n2_ : Aside0 (Below w.heap.size w w26) := ⟨by rw [← hq_]; exact (by repeat (first | (with_reducible first | exact HB.out | apply below_alloc | apply pw_below_drewN | apply below_drew1 | refine below_set ?_ GE191.out | refine below_set ?_ GE192.out) | exact HB.out))⟩; clear BK191 BK192 HB hq_; have BK191 := n0_; have BK192 := n1_; have HB := n2_; clear n0_ n1_ n2_))
           have n0_ := Aside0.mk (blk_drew BK191.out)
           have n1_ := Aside0.mk (blk_drew BK192.out)
           have n2_ := Aside0.mk (below_drew1 HB.out)
           clear BK191
           clear BK192
           clear HB
           have BK191 := n0_
           have BK192 := n1_
           have HB := n2_
           clear n0_ n1_ n2_
           refine start_ (n := 12) (S := fun w' => w'.cell? ⟨gb192, 0, none⟩ = some (.string (a0.extract 0 (x4_1 : Int).toNat)) ∧ w'.cell? ⟨gb192, 1, none⟩ = some (.int .i64 1) ∧ w'.cell? ⟨gb192, 2, none⟩ = some (.int .i64 t193) ∧ w'.cell? ⟨gb192, 3, none⟩ = some (.string (⟨#[]⟩ : ByteArray))) (ds := []) #[false, false, false, false, false, false, false, false, false, false, false, false] (by kernel_rfl) rfl rfl ⟨(blk_cell BK192.out 0).trans rfl, (blk_cell BK192.out 1).trans rfl, (blk_cell BK192.out 2).trans rfl, (blk_cell BK192.out 3).trans rfl⟩ (fun hHeld => ?_); refine with_tabW dragnetref08_One.tab9 dragnetref08_One.bits9 (fun HT_ HW_ => ?_)
           generalize w26.drew = w27 at BK191 BK192 HB hHeld ⊢
           refine pS 1 (some 39) HT_ ?_
           refine tS 0 (some 38) HT_ HW_ hHeld ?_
           refine tS 2 (some 40) HT_ HW_ hHeld ?_
           refine one_ (i := 3) (N := some 41) #[true, true, true, true, false, false, false, false, false, false, false, false] rfl rfl (one_of HT_.out (by kernel_rfl)) (by decide) (fun K hK => ?_)
           refine goes_ Tryz.func41 (by kernel_rfl) rfl #[.string (a0.extract 0 (x4_1 : Int).toNat)] (by rfl) rfl rfl mp_ ?_
           with_reducible refine (dragnetref08_IsKey.calls k1 (a0.extract 0 (x4_1 : Int).toNat) true _ A16.out).mono ?_
           rintro e w' ⟨rfl, ⟨nd, rfl⟩⟩
           refine ⟨_, rfl, ?_⟩
           refine hK.out _ _ ⟨(blk_cell BK192.out 0).trans rfl, (blk_cell BK192.out 1).trans rfl, (blk_cell BK192.out 2).trans rfl, (blk_cell BK192.out 3).trans rfl⟩ (fun hHeld => ?_)
           clear hK K
           refine norm_ (a' := ?_) ?_ ?_
           rotate_left
           ·show Act.put _ (some 41) _ = _
            simp only [Act.put, List.setIfInBounds_toArray, List.set_cons_zero, List.set_cons_succ, i64_w, i32_w]
            rfl
           refine pS 4 (some 42) HT_ ?_
           refine pS 5 (some 43) HT_ ?_
           refine tS 6 (some 44) HT_ HW_ hHeld ?_
           refine pS 7 (some 45) HT_ ?_
           refine pS 8 (some 46) HT_ ?_
           refine pS 9 (some 47) HT_ ?_
           refine one_ (i := 10) (N := none) #[true, true, true, true, true, true, true, true, true, true, true, false] rfl rfl (one_of HT_.out (by kernel_rfl)) (by decide) (fun K hK => ?_)
           have hs28 : w27.cell? ⟨gb191, 0, none⟩ = some (.string x192000_1) := (blk_cell BK191.out 0).trans rfl
           have hfs28 := blk_frozen BK191.out 0
           have hns28_1 := NB192_191.out
           have hms28_1 := NB191_192.out
           have hs29 : w27.cell? ⟨gb191, 1, none⟩ = some (.int .i64 x192001_1) := (blk_cell BK191.out 1).trans rfl
           have hfs29 := blk_frozen BK191.out 1
           have hns29_1 := NB192_191.out
           have hms29_1 := NB191_192.out
           have hs30 : w27.cell? ⟨gb191, 2, none⟩ = some (.int .i64 x192002_1) := (blk_cell BK191.out 2).trans rfl
           have hfs30 := blk_frozen BK191.out 2
           have hns30_1 := NB192_191.out
           have hms30_1 := NB191_192.out
           have hs31 : w27.cell? ⟨gb191, 3, none⟩ = some (.string x192003_1) := (blk_cell BK191.out 3).trans rfl
           have hfs31 := blk_frozen BK191.out 3
           have hns31_1 := NB192_191.out
           have hms31_1 := NB191_192.out
           refine skip_ (w1 := ?_) (by rfl) rfl ?_ ?_
           rotate_left
           ·go_simp
            rfl
           refine hK.out _ _ ⟨((cell_far (p := ⟨gb191, _, none⟩) NB192_191.out _).trans (((cell_far (p := ⟨gb191, _, none⟩) NB192_191.out _).trans (((cell_far (p := ⟨gb191, _, none⟩) NB192_191.out _).trans (((cell_far (p := ⟨gb191, _, none⟩) NB192_191.out _).trans (hHeld.1)))))))), ((cell_far (p := ⟨gb191, _, none⟩) NB192_191.out _).trans (((cell_far (p := ⟨gb191, _, none⟩) NB192_191.out _).trans (((cell_far (p := ⟨gb191, _, none⟩) NB192_191.out _).trans (((cell_far (p := ⟨gb191, _, none⟩) NB192_191.out _).trans (hHeld.2.1)))))))), ((cell_far (p := ⟨gb191, _, none⟩) NB192_191.out _).trans (((cell_far (p := ⟨gb191, _, none⟩) NB192_191.out _).trans (((cell_far (p := ⟨gb191, _, none⟩) NB192_191.out _).trans (((cell_far (p := ⟨gb191, _, none⟩) NB192_191.out _).trans (hHeld.2.2.1)))))))), ((cell_far (p := ⟨gb191, _, none⟩) NB192_191.out _).trans (((cell_far (p := ⟨gb191, _, none⟩) NB192_191.out _).trans (((cell_far (p := ⟨gb191, _, none⟩) NB192_191.out _).trans (((cell_far (p := ⟨gb191, _, none⟩) NB192_191.out _).trans (hHeld.2.2.2))))))))⟩ (fun hHeld => ?_)
           clear hK K
           refine pS 11 (some 3) HT_ ?_
           refine done_ (done_of HT_.out (by kernel_rfl)) ?_
           try go_wp2
           refine bodyPost_ret (results_ct rfl _ _ gb191 110 #[.string (a0.extract 0 (x4_1 : Int).toNat), .int .i64 1, .int .i64 t193, .string (⟨#[]⟩ : ByteArray)] (0, 0) _ rfl (by (with_reducible repeat (first | refine blk_drewN ?_ _ | refine blk_drew ?_ | refine blk_alloc ?_ _)); refine blk_put (cs := #[.string (a0.extract 0 (x4_1 : Int).toNat), .int .i64 1, .int .i64 t193, .string x192003_1]) ?_ 3 _ rfl; (with_reducible repeat (first | refine blk_drewN ?_ _ | refine blk_drew ?_ | refine blk_alloc ?_ _)); refine blk_put (cs := #[.string (a0.extract 0 (x4_1 : Int).toNat), .int .i64 1, .int .i64 x192002_1, .string x192003_1]) ?_ 2 _ rfl; (with_reducible repeat (first | refine blk_drewN ?_ _ | refine blk_drew ?_ | refine blk_alloc ?_ _)); refine blk_put (cs := #[.string (a0.extract 0 (x4_1 : Int).toNat), .int .i64 x192001_1, .int .i64 x192002_1, .string x192003_1]) ?_ 1 _ rfl; (with_reducible repeat (first | refine blk_drewN ?_ _ | refine blk_drew ?_ | refine blk_alloc ?_ _)); refine blk_put (cs := #[.string x192000_1, .int .i64 x192001_1, .int .i64 x192002_1, .string x192003_1]) ?_ 0 _ rfl; (with_reducible repeat (first | refine blk_drewN ?_ _ | refine blk_drew ?_ | refine blk_alloc ?_ _)); exact BK191.out) Tryz.underlying110 rfl (by kernel_rfl)) rfl ?_
           exact ⟨by first | rfl | (simp [errW_none, errW_some] <;> rfl) | (simp only [← hji9]; first | rfl | (simp [errW_none, errW_some] <;> rfl)) | (simp [*, errW_none, errW_some] <;> rfl), by repeat (first | (with_reducible first | exact HB.out | apply below_alloc | apply pw_below_drewN | apply below_drew1 | refine below_set ?_ GE191.out | refine below_set ?_ GE192.out) | exact HB.out)⟩
          ·replace c17 := Bool.eq_false_iff.mpr c17
           subst c17
           have H1 : (some (a0.extract 0 (x4_1 : Int).toNat, 1, t193, (⟨#[]⟩ : ByteArray), false)) = some (r1, r2, r3, r4, r5) := by rw [if_neg (show ¬ (false = true) by decide)] at H; exact H
           clear H
           have H := H1
           clear H1
           simp only [Option.some.injEq, Prod.mk.injEq] at H
           obtain ⟨rfl, rfl, rfl, rfl, rfl⟩ := H
           have p5 : 0 ≤ (x4_1 : Int) := of_decide_eq_true as_
           have q5 : x4_1 < (a0.size : Int) := of_decide_eq_true as_
           have hx5 := bt_at a0 x4_1
           replace p5 := eq_true p5
           replace q5 := eq_true q5
           try go_wp2
           have n0_ := Aside0.mk (blk_drew BK191.out)
           have n1_ := Aside0.mk (below_drew1 HB.out)
           clear BK191
           clear HB
           have BK191 := n0_
           have HB := n1_
           clear n0_ n1_
           refine start_ (n := 10) (S := fun w' => True) (ds := []) #[false, false, false, false, false, false, false, false, false, false] (by kernel_rfl) rfl rfl trivial (fun hHeld => ?_); refine with_tabW dragnetref08_One.tab5 dragnetref08_One.bits5 (fun HT_ HW_ => ?_)
           generalize wr.drew = w32 at BK191 HB hHeld ⊢
           refine pS 0 (some 18) HT_ ?_
           refine pS 1 (some 19) HT_ ?_
           refine pS 2 (some 20) HT_ ?_
           refine pS 3 (some 21) HT_ ?_
           refine pS 4 (some 22) HT_ ?_
           refine pS 5 (some 23) HT_ ?_
           refine pS 6 (some 24) HT_ ?_
           refine pS 7 (some 25) HT_ ?_
           refine one_ (i := 8) (N := some 5) #[true, true, true, true, true, true, true, true, true, false] rfl rfl (one_of HT_.out (by kernel_rfl)) (by decide) (fun K hK => ?_)
           refine box_step ?hg (N := 5) ?hd (cs := #[.string (⟨#[]⟩ : ByteArray), .int .i64 0, .int .i64 0, .string (⟨#[]⟩ : ByteArray)]) (t := 110) ?hr ?_; (case hd => rfl); (case hg => rfl); (case hr => first | (go_simp; done) | (go_simp; rfl))
           intro gb192 hg w33 hbox hb
           have n0_ := bkA BK191 hb
           have n1_ := bsA HB hb
           have n2_ := Aside0.mk (hbox)
           have n3_ := szA HB hg
           have n4_ := szA HB hg
           have n5_ := neA BK191 hg
           have n6_ := neB BK191 hg
           clear BK191
           clear HB
           have BK191 := n0_
           have HB := n1_
           have BK192 := n2_
           have GW192 := n3_
           have GE192 := n4_
           have NB191_192 := n5_
           have NB192_191 := n6_
           clear n0_ n1_ n2_ n3_ n4_ n5_ n6_
           clear hb hbox hg
           refine hK.out _ _ trivial (fun hHeld => ?_)
           clear hK K
           refine norm_ (a' := ?_) ?_ ?_
           rotate_left
           ·show Act.put _ (some 5) _ = _
            simp only [Act.put, List.setIfInBounds_toArray, List.set_cons_zero, List.set_cons_succ, i64_w, i32_w]
            rfl
           refine one_ (i := 9) (N := none) #[true, true, true, true, true, true, true, true, true, true] rfl rfl (one_of HT_.out (by kernel_rfl)) (by decide) (fun K hK => ?_)
           have hs34 : w33.cell? ⟨gb192, 0, none⟩ = some (.string (⟨#[]⟩ : ByteArray)) := (blk_cell BK192.out 0).trans rfl
           have hfs34 := blk_frozen BK192.out 0
           have hns34_0 := NB191_192.out
           have hms34_0 := NB192_191.out
           have hs35 : w33.cell? ⟨gb192, 1, none⟩ = some (.int .i64 0) := (blk_cell BK192.out 1).trans rfl
           have hfs35 := blk_frozen BK192.out 1
           have hns35_0 := NB191_192.out
           have hms35_0 := NB192_191.out
           have hs36 : w33.cell? ⟨gb192, 2, none⟩ = some (.int .i64 0) := (blk_cell BK192.out 2).trans rfl
           have hfs36 := blk_frozen BK192.out 2
           have hns36_0 := NB191_192.out
           have hms36_0 := NB192_191.out
           have hs37 : w33.cell? ⟨gb192, 3, none⟩ = some (.string (⟨#[]⟩ : ByteArray)) := (blk_cell BK192.out 3).trans rfl
           have hfs37 := blk_frozen BK192.out 3
           have hns37_0 := NB191_192.out
           have hms37_0 := NB192_191.out
           refine skip_ (w1 := ?_) (by rfl) rfl ?_ ?_
           rotate_left
           ·go_simp
            rfl
           refine hK.out _ _ trivial (fun hHeld => ?_)
           clear hK K
           refine done_ (done_of HT_.out (by kernel_rfl)) ?_
           have hnb38 := NB192_191.out
           have hnc38 := NB191_192.out
           have hcz39_0 : w33.cell? ⟨gb192, 0, none⟩ = some (.string (⟨#[]⟩ : ByteArray)) := (blk_cell BK192.out 0).trans rfl
           have hcz39_1 : w33.cell? ⟨gb192, 1, none⟩ = some (.int .i64 0) := (blk_cell BK192.out 1).trans rfl
           have hcz39_2 : w33.cell? ⟨gb192, 2, none⟩ = some (.int .i64 0) := (blk_cell BK192.out 2).trans rfl
           have hcz39_3 : w33.cell? ⟨gb192, 3, none⟩ = some (.string (⟨#[]⟩ : ByteArray)) := (blk_cell BK192.out 3).trans rfl
           have hfz39_0 := blk_frozen BK192.out 0
           have hfz39_1 := blk_frozen BK192.out 1
           have hfz39_2 := blk_frozen BK192.out 2
           have hfz39_3 := blk_frozen BK192.out 3
           try go_wp2_with (first | ((with_reducible refine gate_callee (f := 134) rfl ?_); refine goesL_ (some 29) rfl rfl Tryz.func134 (by kernel_rfl) rfl #[.string (a0.extract ((ji9) : Int).toNat a0.size)] rfl (by (try simp only [List.map_toArray, List.map_cons, List.map_nil]); first | done | (simp only [hji9]; rfl) | rfl | (simp only [List.length_drop, List.length_take]; rfl)) ?_; (with_reducible refine (dragnetref08_Number.calls k1 (a0.extract ((ji9) : Int).toNat a0.size) t193 true _ A12.out).mono ?_); rintro e w' ⟨rfl, ⟨nd, rfl⟩⟩; refine ⟨_, rfl, ?_⟩))
           have n0_ : Aside0 (((((((((w33.setCell ⟨gb192, 0, none⟩ (.string (a0.extract 0 (x4_1 : Int).toNat))).setCell ⟨gb192, 1, none⟩ (.int .i64 2)).setCell ⟨gb192, 2, none⟩ (.int .i64 0)).setCell ⟨gb192, 3, none⟩ (.string (a0.extract ((ji9) : Int).toNat a0.size))).setCell ⟨gb192, 0, none⟩ (.string (a0.extract 0 (x4_1 : Int).toNat))).setCell ⟨gb192, 1, none⟩ (.int .i64 1)).setCell ⟨gb192, 2, none⟩ (.int .i64 t193)).setCell ⟨gb192, 3, none⟩ (.string (⟨#[]⟩ : ByteArray))).heap[gb191]? = some (.cells #[.string x192000_1, .int .i64 x192001_1, .int .i64 x192002_1, .string x192003_1] 110 (0, 0))) := ⟨by (with_reducible repeat (first | refine blk_drewN ?_ _ | refine blk_drew ?_ | refine blk_alloc ?_ _)); refine blk_far ?_ NB191_192.out _; (with_reducible repeat (first | refine blk_drewN ?_ _ | refine blk_drew ?_ | refine blk_alloc ?_ _)); refine blk_far ?_ NB191_192.out _; (with_reducible repeat (first | refine blk_drewN ?_ _ | refine blk_drew ?_ | refine blk_alloc ?_ _)); refine blk_far ?_ NB191_192.out _; (with_reducible repeat (first | refine blk_drewN ?_ _ | refine blk_drew ?_ | refine blk_alloc ?_ _)); refine blk_far ?_ NB191_192.out _; (with_reducible repeat (first | refine blk_drewN ?_ _ | refine blk_drew ?_ | refine blk_alloc ?_ _)); refine blk_far ?_ NB191_192.out _; (with_reducible repeat (first | refine blk_drewN ?_ _ | refine blk_drew ?_ | refine blk_alloc ?_ _)); refine blk_far ?_ NB191_192.out _; (with_reducible repeat (first | refine blk_drewN ?_ _ | refine blk_drew ?_ | refine blk_alloc ?_ _)); refine blk_far ?_ NB191_192.out _; (with_reducible repeat (first | refine blk_drewN ?_ _ | refine blk_drew ?_ | refine blk_alloc ?_ _)); refine blk_far ?_ NB191_192.out _; (with_reducible repeat (first | refine blk_drewN ?_ _ | refine blk_drew ?_ | refine blk_alloc ?_ _)); exact BK191.out⟩
           have n1_ : Aside0 (((((((((w33.setCell ⟨gb192, 0, none⟩ (.string (a0.extract 0 (x4_1 : Int).toNat))).setCell ⟨gb192, 1, none⟩ (.int .i64 2)).setCell ⟨gb192, 2, none⟩ (.int .i64 0)).setCell ⟨gb192, 3, none⟩ (.string (a0.extract ((ji9) : Int).toNat a0.size))).setCell ⟨gb192, 0, none⟩ (.string (a0.extract 0 (x4_1 : Int).toNat))).setCell ⟨gb192, 1, none⟩ (.int .i64 1)).setCell ⟨gb192, 2, none⟩ (.int .i64 t193)).setCell ⟨gb192, 3, none⟩ (.string (⟨#[]⟩ : ByteArray))).heap[gb192]? = some (.cells #[.string (a0.extract 0 (x4_1 : Int).toNat), .int .i64 1, .int .i64 t193, .string (⟨#[]⟩ : ByteArray)] 110 (0, 0))) := ⟨by (with_reducible repeat (first | refine blk_drewN ?_ _ | refine blk_drew ?_ | refine blk_alloc ?_ _)); refine blk_put (cs := #[.string (a0.extract 0 (x4_1 : Int).toNat), .int .i64 1, .int .i64 t193, .string (a0.extract ((ji9) : Int).toNat a0.size)]) ?_ 3 _ rfl; (with_reducible repeat (first | refine blk_drewN ?_ _ | refine blk_drew ?_ | refine blk_alloc ?_ _)); refine blk_put (cs := #[.string (a0.extract 0 (x4_1 : Int).toNat), .int .i64 1, .int .i64 0, .string (a0.extract ((ji9) : Int).toNat a0.size)]) ?_ 2 _ rfl; (with_reducible repeat (first | refine blk_drewN ?_ _ | refine blk_drew ?_ | refine blk_alloc ?_ _)); refine blk_put (cs := #[.string (a0.extract 0 (x4_1 : Int).toNat), .int .i64 2, .int .i64 0, .string (a0.extract ((ji9) : Int).toNat a0.size)]) ?_ 1 _ rfl; (with_reducible repeat (first | refine blk_drewN ?_ _ | refine blk_drew ?_ | refine blk_alloc ?_ _)); refine blk_put (cs := #[.string (a0.extract 0 (x4_1 : Int).toNat), .int .i64 2, .int .i64 0, .string (a0.extract ((ji9) : Int).toNat a0.size)]) ?_ 0 _ rfl; (with_reducible repeat (first | refine blk_drewN ?_ _ | refine blk_drew ?_ | refine blk_alloc ?_ _)); refine blk_put (cs := #[.string (a0.extract 0 (x4_1 : Int).toNat), .int .i64 2, .int .i64 0, .string (⟨#[]⟩ : ByteArray)]) ?_ 3 _ rfl; (with_reducible repeat (first | refine blk_drewN ?_ _ | refine blk_drew ?_ | refine blk_alloc ?_ _)); refine blk_put (cs := #[.string (a0.extract 0 (x4_1 : Int).toNat), .int .i64 2, .int .i64 0, .string (⟨#[]⟩ : ByteArray)]) ?_ 2 _ rfl; (with_reducible repeat (first | refine blk_drewN ?_ _ | refine blk_drew ?_ | refine blk_alloc ?_ _)); refine blk_put (cs := #[.string (a0.extract 0 (x4_1 : Int).toNat), .int .i64 0, .int .i64 0, .string (⟨#[]⟩ : ByteArray)]) ?_ 1 _ rfl; (with_reducible repeat (first | refine blk_drewN ?_ _ | refine blk_drew ?_ | refine blk_alloc ?_ _)); refine blk_put (cs := #[.string (⟨#[]⟩ : ByteArray), .int .i64 0, .int .i64 0, .string (⟨#[]⟩ : ByteArray)]) ?_ 0 _ rfl; (with_reducible repeat (first | refine blk_drewN ?_ _ | refine blk_drew ?_ | refine blk_alloc ?_ _)); exact BK192.out⟩
           have n2_ : Aside0 (Below w.heap.size w ((((((((w33.setCell ⟨gb192, 0, none⟩ (.string (a0.extract 0 (x4_1 : Int).toNat))).setCell ⟨gb192, 1, none⟩ (.int .i64 2)).setCell ⟨gb192, 2, none⟩ (.int .i64 0)).setCell ⟨gb192, 3, none⟩ (.string (a0.extract ((ji9) : Int).toNat a0.size))).setCell ⟨gb192, 0, none⟩ (.string (a0.extract 0 (x4_1 : Int).toNat))).setCell ⟨gb192, 1, none⟩ (.int .i64 1)).setCell ⟨gb192, 2, none⟩ (.int .i64 t193)).setCell ⟨gb192, 3, none⟩ (.string (⟨#[]⟩ : ByteArray)))) := ⟨by repeat (first | (with_reducible first | exact HB.out | apply below_alloc | apply pw_below_drewN | apply below_drew1 | refine below_set ?_ GE191.out | refine below_set ?_ GE192.out) | exact HB.out)⟩
           (try clear BK191)
           (try clear BK192)
           (try clear HB)
           (try simp only [sc_drewN])
           generalize ((((((((w33.setCell ⟨gb192, 0, none⟩ (.string (a0.extract 0 (x4_1 : Int).toNat))).setCell ⟨gb192, 1, none⟩ (.int .i64 2)).setCell ⟨gb192, 2, none⟩ (.int .i64 0)).setCell ⟨gb192, 3, none⟩ (.string (a0.extract ((ji9) : Int).toNat a0.size))).setCell ⟨gb192, 0, none⟩ (.string (a0.extract 0 (x4_1 : Int).toNat))).setCell ⟨gb192, 1, none⟩ (.int .i64 1)).setCell ⟨gb192, 2, none⟩ (.int .i64 t193)).setCell ⟨gb192, 3, none⟩ (.string (⟨#[]⟩ : ByteArray))) = w40 at n0_ n1_ n2_ ⊢
           have BK191 := n0_
           have BK192 := n1_
           have HB := n2_
           clear n0_ n1_ n2_
           (try (rw [drewN_self w40]; generalize hq_ : World.drewN w40 _ = w40; have n0_ : Aside0 (w40.heap[gb191]? = some (.cells #[.string x192000_1, .int .i64 x192001_1, .int .i64 x192002_1, .string x192003_1] 110 (0, 0))) := ⟨by rw [← hq_]; exact (bU_ BK191.out)⟩; have n1_ : Aside0 (w40.heap[gb192]? = some (.cells #[.string (a0.extract 0 (x4_1 : Int).toNat), .int .i64 1, .int .i64 t193, .string (⟨#[]⟩ : ByteArray)] 110 (0, 0))) := ⟨by rw [← hq_]; exact (bU_ BK192.out)⟩; have n2_ : Aside0 (Below w.heap.size w w40) := ⟨by rw [← hq_]; exact (by repeat (first | (with_reducible first | exact HB.out | apply below_alloc | apply pw_below_drewN | apply below_drew1 | refine below_set ?_ GE191.out | refine below_set ?_ GE192.out) | exact HB.out))⟩; clear BK191 BK192 HB hq_; have BK191 := n0_; have BK192 := n1_; have HB := n2_; clear n0_ n1_ n2_))
           have n0_ := Aside0.mk (blk_drew BK191.out)
           have n1_ := Aside0.mk (blk_drew BK192.out)
           have n2_ := Aside0.mk (below_drew1 HB.out)
           clear BK191
           clear BK192
           clear HB
           have BK191 := n0_
           have BK192 := n1_
           have HB := n2_
           clear n0_ n1_ n2_
           refine start_ (n := 12) (S := fun w' => w'.cell? ⟨gb192, 0, none⟩ = some (.string (a0.extract 0 (x4_1 : Int).toNat)) ∧ w'.cell? ⟨gb192, 1, none⟩ = some (.int .i64 1) ∧ w'.cell? ⟨gb192, 2, none⟩ = some (.int .i64 t193) ∧ w'.cell? ⟨gb192, 3, none⟩ = some (.string (⟨#[]⟩ : ByteArray))) (ds := []) #[false, false, false, false, false, false, false, false, false, false, false, false] (by kernel_rfl) rfl rfl ⟨(blk_cell BK192.out 0).trans rfl, (blk_cell BK192.out 1).trans rfl, (blk_cell BK192.out 2).trans rfl, (blk_cell BK192.out 3).trans rfl⟩ (fun hHeld => ?_); refine with_tabW dragnetref08_One.tab9 dragnetref08_One.bits9 (fun HT_ HW_ => ?_)
           generalize w40.drew = w41 at BK191 BK192 HB hHeld ⊢
           refine pS 1 (some 39) HT_ ?_
           refine tS 0 (some 38) HT_ HW_ hHeld ?_
           refine tS 2 (some 40) HT_ HW_ hHeld ?_
           refine one_ (i := 3) (N := some 41) #[true, true, true, true, false, false, false, false, false, false, false, false] rfl rfl (one_of HT_.out (by kernel_rfl)) (by decide) (fun K hK => ?_)
           refine goes_ Tryz.func41 (by kernel_rfl) rfl #[.string (a0.extract 0 (x4_1 : Int).toNat)] (by rfl) rfl rfl mp_ ?_
           with_reducible refine (dragnetref08_IsKey.calls k1 (a0.extract 0 (x4_1 : Int).toNat) false _ A16.out).mono ?_
           rintro e w' ⟨rfl, ⟨nd, rfl⟩⟩
           refine ⟨_, rfl, ?_⟩
           refine hK.out _ _ ⟨(blk_cell BK192.out 0).trans rfl, (blk_cell BK192.out 1).trans rfl, (blk_cell BK192.out 2).trans rfl, (blk_cell BK192.out 3).trans rfl⟩ (fun hHeld => ?_)
           clear hK K
           refine norm_ (a' := ?_) ?_ ?_
           rotate_left
           ·show Act.put _ (some 41) _ = _
            simp only [Act.put, List.setIfInBounds_toArray, List.set_cons_zero, List.set_cons_succ, i64_w, i32_w]
            rfl
           refine pS 4 (some 42) HT_ ?_
           refine uS 5 (some 43) HT_ ?_
           refine uS 6 (some 44) HT_ ?_
           refine uS 7 (some 45) HT_ ?_
           refine uS 8 (some 46) HT_ ?_
           refine pS 9 (some 47) HT_ ?_
           refine one_ (i := 10) (N := none) #[true, true, true, true, true, true, true, true, true, true, true, false] rfl rfl (one_of HT_.out (by kernel_rfl)) (by decide) (fun K hK => ?_)
           have hs42 : w41.cell? ⟨gb191, 0, none⟩ = some (.string x192000_1) := (blk_cell BK191.out 0).trans rfl
           have hfs42 := blk_frozen BK191.out 0
           have hns42_1 := NB192_191.out
           have hms42_1 := NB191_192.out
           have hs43 : w41.cell? ⟨gb191, 1, none⟩ = some (.int .i64 x192001_1) := (blk_cell BK191.out 1).trans rfl
           have hfs43 := blk_frozen BK191.out 1
           have hns43_1 := NB192_191.out
           have hms43_1 := NB191_192.out
           have hs44 : w41.cell? ⟨gb191, 2, none⟩ = some (.int .i64 x192002_1) := (blk_cell BK191.out 2).trans rfl
           have hfs44 := blk_frozen BK191.out 2
           have hns44_1 := NB192_191.out
           have hms44_1 := NB191_192.out
           have hs45 : w41.cell? ⟨gb191, 3, none⟩ = some (.string x192003_1) := (blk_cell BK191.out 3).trans rfl
           have hfs45 := blk_frozen BK191.out 3
           have hns45_1 := NB192_191.out
           have hms45_1 := NB191_192.out
           refine skip_ (w1 := ?_) (by rfl) rfl ?_ ?_
           rotate_left
           ·go_simp
            rfl
           refine hK.out _ _ ⟨((cell_far (p := ⟨gb191, _, none⟩) NB192_191.out _).trans (((cell_far (p := ⟨gb191, _, none⟩) NB192_191.out _).trans (((cell_far (p := ⟨gb191, _, none⟩) NB192_191.out _).trans (((cell_far (p := ⟨gb191, _, none⟩) NB192_191.out _).trans (hHeld.1)))))))), ((cell_far (p := ⟨gb191, _, none⟩) NB192_191.out _).trans (((cell_far (p := ⟨gb191, _, none⟩) NB192_191.out _).trans (((cell_far (p := ⟨gb191, _, none⟩) NB192_191.out _).trans (((cell_far (p := ⟨gb191, _, none⟩) NB192_191.out _).trans (hHeld.2.1)))))))), ((cell_far (p := ⟨gb191, _, none⟩) NB192_191.out _).trans (((cell_far (p := ⟨gb191, _, none⟩) NB192_191.out _).trans (((cell_far (p := ⟨gb191, _, none⟩) NB192_191.out _).trans (((cell_far (p := ⟨gb191, _, none⟩) NB192_191.out _).trans (hHeld.2.2.1)))))))), ((cell_far (p := ⟨gb191, _, none⟩) NB192_191.out _).trans (((cell_far (p := ⟨gb191, _, none⟩) NB192_191.out _).trans (((cell_far (p := ⟨gb191, _, none⟩) NB192_191.out _).trans (((cell_far (p := ⟨gb191, _, none⟩) NB192_191.out _).trans (hHeld.2.2.2))))))))⟩ (fun hHeld => ?_)
           clear hK K
           refine pS 11 (some 3) HT_ ?_
           refine done_ (done_of HT_.out (by kernel_rfl)) ?_
           try go_wp2
           refine bodyPost_ret (results_ct rfl _ _ gb191 110 #[.string (a0.extract 0 (x4_1 : Int).toNat), .int .i64 1, .int .i64 t193, .string (⟨#[]⟩ : ByteArray)] (0, 0) _ rfl (by (with_reducible repeat (first | refine blk_drewN ?_ _ | refine blk_drew ?_ | refine blk_alloc ?_ _)); refine blk_put (cs := #[.string (a0.extract 0 (x4_1 : Int).toNat), .int .i64 1, .int .i64 t193, .string x192003_1]) ?_ 3 _ rfl; (with_reducible repeat (first | refine blk_drewN ?_ _ | refine blk_drew ?_ | refine blk_alloc ?_ _)); refine blk_put (cs := #[.string (a0.extract 0 (x4_1 : Int).toNat), .int .i64 1, .int .i64 x192002_1, .string x192003_1]) ?_ 2 _ rfl; (with_reducible repeat (first | refine blk_drewN ?_ _ | refine blk_drew ?_ | refine blk_alloc ?_ _)); refine blk_put (cs := #[.string (a0.extract 0 (x4_1 : Int).toNat), .int .i64 x192001_1, .int .i64 x192002_1, .string x192003_1]) ?_ 1 _ rfl; (with_reducible repeat (first | refine blk_drewN ?_ _ | refine blk_drew ?_ | refine blk_alloc ?_ _)); refine blk_put (cs := #[.string x192000_1, .int .i64 x192001_1, .int .i64 x192002_1, .string x192003_1]) ?_ 0 _ rfl; (with_reducible repeat (first | refine blk_drewN ?_ _ | refine blk_drew ?_ | refine blk_alloc ?_ _)); exact BK191.out) Tryz.underlying110 rfl (by kernel_rfl)) rfl ?_
           exact ⟨by first | rfl | (simp [errW_none, errW_some] <;> rfl) | (simp only [← hji9]; first | rfl | (simp [errW_none, errW_some] <;> rfl)) | (simp [*, errW_none, errW_some] <;> rfl), by repeat (first | (with_reducible first | exact HB.out | apply below_alloc | apply pw_below_drewN | apply below_drew1 | refine below_set ?_ GE191.out | refine below_set ?_ GE192.out) | exact HB.out)⟩
         ·replace c13 := Bool.eq_false_iff.mpr c13
          subst c13
          have H1 : ((dragnetref08_IsKey.f k1 (a0.extract 0 (x4_1 : Int).toNat)).bind fun t196 => (if t196 = true then (some (a0.extract 0 (x4_1 : Int).toNat, 2, 0, a0.extract ((ji9) : Int).toNat a0.size, decide (((a0.extract ((ji9) : Int).toNat a0.size).size : Int) ≤ 64))) else (some (a0.extract 0 (x4_1 : Int).toNat, 2, 0, a0.extract ((ji9) : Int).toNat a0.size, false)))) = some (r1, r2, r3, r4, r5) := by rw [if_neg (show ¬ (false = true) by decide)] at H; exact H
          clear H
          have H := H1
          clear H1
          replace H := Option.bind_eq_some_iff.mp H
          obtain ⟨t196, A460, H⟩ := H
          replace H : (if t196 = true then (some (a0.extract 0 (x4_1 : Int).toNat, 2, 0, a0.extract ((ji9) : Int).toNat a0.size, decide (((a0.extract ((ji9) : Int).toNat a0.size).size : Int) ≤ 64))) else (some (a0.extract 0 (x4_1 : Int).toNat, 2, 0, a0.extract ((ji9) : Int).toNat a0.size, false))) = some (r1, r2, r3, r4, r5) := H
          have A46 := Aside0.mk A460
          clear A460
          by_cases c47 : t196 = true
          ·subst c47
           have H1 : (some (a0.extract 0 (x4_1 : Int).toNat, 2, 0, a0.extract ((ji9) : Int).toNat a0.size, decide (((a0.extract ((ji9) : Int).toNat a0.size).size : Int) ≤ 64))) = some (r1, r2, r3, r4, r5) := by rw [if_pos rfl] at H; exact H
           clear H
           have H := H1
           clear H1
           simp only [Option.some.injEq, Prod.mk.injEq] at H
           obtain ⟨rfl, rfl, rfl, rfl, rfl⟩ := H
           have p5 : 0 ≤ (x4_1 : Int) := of_decide_eq_true as_
           have q5 : x4_1 < (a0.size : Int) := of_decide_eq_true as_
           have hx5 := bt_at a0 x4_1
           replace p5 := eq_true p5
           replace q5 := eq_true q5
           try go_wp2
           have n0_ := Aside0.mk (blk_drew BK191.out)
           have n1_ := Aside0.mk (below_drew1 HB.out)
           clear BK191
           clear HB
           have BK191 := n0_
           have HB := n1_
           clear n0_ n1_
           refine start_ (n := 10) (S := fun w' => True) (ds := []) #[false, false, false, false, false, false, false, false, false, false] (by kernel_rfl) rfl rfl trivial (fun hHeld => ?_); refine with_tabW dragnetref08_One.tab5 dragnetref08_One.bits5 (fun HT_ HW_ => ?_)
           generalize wr.drew = w48 at BK191 HB hHeld ⊢
           refine pS 0 (some 18) HT_ ?_
           refine pS 1 (some 19) HT_ ?_
           refine pS 2 (some 20) HT_ ?_
           refine pS 3 (some 21) HT_ ?_
           refine pS 4 (some 22) HT_ ?_
           refine pS 5 (some 23) HT_ ?_
           refine pS 6 (some 24) HT_ ?_
           refine pS 7 (some 25) HT_ ?_
           refine one_ (i := 8) (N := some 5) #[true, true, true, true, true, true, true, true, true, false] rfl rfl (one_of HT_.out (by kernel_rfl)) (by decide) (fun K hK => ?_)
           refine box_step ?hg (N := 5) ?hd (cs := #[.string (⟨#[]⟩ : ByteArray), .int .i64 0, .int .i64 0, .string (⟨#[]⟩ : ByteArray)]) (t := 110) ?hr ?_; (case hd => rfl); (case hg => rfl); (case hr => first | (go_simp; done) | (go_simp; rfl))
           intro gb192 hg w49 hbox hb
           have n0_ := bkA BK191 hb
           have n1_ := bsA HB hb
           have n2_ := Aside0.mk (hbox)
           have n3_ := szA HB hg
           have n4_ := szA HB hg
           have n5_ := neA BK191 hg
           have n6_ := neB BK191 hg
           clear BK191
           clear HB
           have BK191 := n0_
           have HB := n1_
           have BK192 := n2_
           have GW192 := n3_
           have GE192 := n4_
           have NB191_192 := n5_
           have NB192_191 := n6_
           clear n0_ n1_ n2_ n3_ n4_ n5_ n6_
           clear hb hbox hg
           refine hK.out _ _ trivial (fun hHeld => ?_)
           clear hK K
           refine norm_ (a' := ?_) ?_ ?_
           rotate_left
           ·show Act.put _ (some 5) _ = _
            simp only [Act.put, List.setIfInBounds_toArray, List.set_cons_zero, List.set_cons_succ, i64_w, i32_w]
            rfl
           refine one_ (i := 9) (N := none) #[true, true, true, true, true, true, true, true, true, true] rfl rfl (one_of HT_.out (by kernel_rfl)) (by decide) (fun K hK => ?_)
           have hs50 : w49.cell? ⟨gb192, 0, none⟩ = some (.string (⟨#[]⟩ : ByteArray)) := (blk_cell BK192.out 0).trans rfl
           have hfs50 := blk_frozen BK192.out 0
           have hns50_0 := NB191_192.out
           have hms50_0 := NB192_191.out
           have hs51 : w49.cell? ⟨gb192, 1, none⟩ = some (.int .i64 0) := (blk_cell BK192.out 1).trans rfl
           have hfs51 := blk_frozen BK192.out 1
           have hns51_0 := NB191_192.out
           have hms51_0 := NB192_191.out
           have hs52 : w49.cell? ⟨gb192, 2, none⟩ = some (.int .i64 0) := (blk_cell BK192.out 2).trans rfl
           have hfs52 := blk_frozen BK192.out 2
           have hns52_0 := NB191_192.out
           have hms52_0 := NB192_191.out
           have hs53 : w49.cell? ⟨gb192, 3, none⟩ = some (.string (⟨#[]⟩ : ByteArray)) := (blk_cell BK192.out 3).trans rfl
           have hfs53 := blk_frozen BK192.out 3
           have hns53_0 := NB191_192.out
           have hms53_0 := NB192_191.out
           refine skip_ (w1 := ?_) (by rfl) rfl ?_ ?_
           rotate_left
           ·go_simp
            rfl
           refine hK.out _ _ trivial (fun hHeld => ?_)
           clear hK K
           refine done_ (done_of HT_.out (by kernel_rfl)) ?_
           have hnb54 := NB192_191.out
           have hnc54 := NB191_192.out
           have hcz55_0 : w49.cell? ⟨gb192, 0, none⟩ = some (.string (⟨#[]⟩ : ByteArray)) := (blk_cell BK192.out 0).trans rfl
           have hcz55_1 : w49.cell? ⟨gb192, 1, none⟩ = some (.int .i64 0) := (blk_cell BK192.out 1).trans rfl
           have hcz55_2 : w49.cell? ⟨gb192, 2, none⟩ = some (.int .i64 0) := (blk_cell BK192.out 2).trans rfl
           have hcz55_3 : w49.cell? ⟨gb192, 3, none⟩ = some (.string (⟨#[]⟩ : ByteArray)) := (blk_cell BK192.out 3).trans rfl
           have hfz55_0 := blk_frozen BK192.out 0
           have hfz55_1 := blk_frozen BK192.out 1
           have hfz55_2 := blk_frozen BK192.out 2
           have hfz55_3 := blk_frozen BK192.out 3
           try go_wp2_with (first | ((with_reducible refine gate_callee (f := 134) rfl ?_); refine goesL_ (some 29) rfl rfl Tryz.func134 (by kernel_rfl) rfl #[.string (a0.extract ((ji9) : Int).toNat a0.size)] rfl (by (try simp only [List.map_toArray, List.map_cons, List.map_nil]); first | done | (simp only [hji9]; rfl) | rfl | (simp only [List.length_drop, List.length_take]; rfl)) ?_; (with_reducible refine (dragnetref08_Number.calls k1 (a0.extract ((ji9) : Int).toNat a0.size) t193 false _ A12.out).mono ?_); rintro e w' ⟨rfl, ⟨nd, rfl⟩⟩; refine ⟨_, rfl, ?_⟩))
           have n0_ : Aside0 (((((w49.setCell ⟨gb192, 0, none⟩ (.string (a0.extract 0 (x4_1 : Int).toNat))).setCell ⟨gb192, 1, none⟩ (.int .i64 2)).setCell ⟨gb192, 2, none⟩ (.int .i64 0)).setCell ⟨gb192, 3, none⟩ (.string (a0.extract ((ji9) : Int).toNat a0.size))).heap[gb191]? = some (.cells #[.string x192000_1, .int .i64 x192001_1, .int .i64 x192002_1, .string x192003_1] 110 (0, 0))) := ⟨by (with_reducible repeat (first | refine blk_drewN ?_ _ | refine blk_drew ?_ | refine blk_alloc ?_ _)); refine blk_far ?_ NB191_192.out _; (with_reducible repeat (first | refine blk_drewN ?_ _ | refine blk_drew ?_ | refine blk_alloc ?_ _)); refine blk_far ?_ NB191_192.out _; (with_reducible repeat (first | refine blk_drewN ?_ _ | refine blk_drew ?_ | refine blk_alloc ?_ _)); refine blk_far ?_ NB191_192.out _; (with_reducible repeat (first | refine blk_drewN ?_ _ | refine blk_drew ?_ | refine blk_alloc ?_ _)); refine blk_far ?_ NB191_192.out _; (with_reducible repeat (first | refine blk_drewN ?_ _ | refine blk_drew ?_ | refine blk_alloc ?_ _)); exact BK191.out⟩
           have n1_ : Aside0 (((((w49.setCell ⟨gb192, 0, none⟩ (.string (a0.extract 0 (x4_1 : Int).toNat))).setCell ⟨gb192, 1, none⟩ (.int .i64 2)).setCell ⟨gb192, 2, none⟩ (.int .i64 0)).setCell ⟨gb192, 3, none⟩ (.string (a0.extract ((ji9) : Int).toNat a0.size))).heap[gb192]? = some (.cells #[.string (a0.extract 0 (x4_1 : Int).toNat), .int .i64 2, .int .i64 0, .string (a0.extract ((ji9) : Int).toNat a0.size)] 110 (0, 0))) := ⟨by (with_reducible repeat (first | refine blk_drewN ?_ _ | refine blk_drew ?_ | refine blk_alloc ?_ _)); refine blk_put (cs := #[.string (a0.extract 0 (x4_1 : Int).toNat), .int .i64 2, .int .i64 0, .string (⟨#[]⟩ : ByteArray)]) ?_ 3 _ rfl; (with_reducible repeat (first | refine blk_drewN ?_ _ | refine blk_drew ?_ | refine blk_alloc ?_ _)); refine blk_put (cs := #[.string (a0.extract 0 (x4_1 : Int).toNat), .int .i64 2, .int .i64 0, .string (⟨#[]⟩ : ByteArray)]) ?_ 2 _ rfl; (with_reducible repeat (first | refine blk_drewN ?_ _ | refine blk_drew ?_ | refine blk_alloc ?_ _)); refine blk_put (cs := #[.string (a0.extract 0 (x4_1 : Int).toNat), .int .i64 0, .int .i64 0, .string (⟨#[]⟩ : ByteArray)]) ?_ 1 _ rfl; (with_reducible repeat (first | refine blk_drewN ?_ _ | refine blk_drew ?_ | refine blk_alloc ?_ _)); refine blk_put (cs := #[.string (⟨#[]⟩ : ByteArray), .int .i64 0, .int .i64 0, .string (⟨#[]⟩ : ByteArray)]) ?_ 0 _ rfl; (with_reducible repeat (first | refine blk_drewN ?_ _ | refine blk_drew ?_ | refine blk_alloc ?_ _)); exact BK192.out⟩
           have n2_ : Aside0 (Below w.heap.size w ((((w49.setCell ⟨gb192, 0, none⟩ (.string (a0.extract 0 (x4_1 : Int).toNat))).setCell ⟨gb192, 1, none⟩ (.int .i64 2)).setCell ⟨gb192, 2, none⟩ (.int .i64 0)).setCell ⟨gb192, 3, none⟩ (.string (a0.extract ((ji9) : Int).toNat a0.size)))) := ⟨by repeat (first | (with_reducible first | exact HB.out | apply below_alloc | apply pw_below_drewN | apply below_drew1 | refine below_set ?_ GE191.out | refine below_set ?_ GE192.out) | exact HB.out)⟩
           (try clear BK191)
           (try clear BK192)
           (try clear HB)
           (try simp only [sc_drewN])
           generalize ((((w49.setCell ⟨gb192, 0, none⟩ (.string (a0.extract 0 (x4_1 : Int).toNat))).setCell ⟨gb192, 1, none⟩ (.int .i64 2)).setCell ⟨gb192, 2, none⟩ (.int .i64 0)).setCell ⟨gb192, 3, none⟩ (.string (a0.extract ((ji9) : Int).toNat a0.size))) = w56 at n0_ n1_ n2_ ⊢
           have BK191 := n0_
           have BK192 := n1_
           have HB := n2_
           clear n0_ n1_ n2_
           (try (rw [drewN_self w56]; generalize hq_ : World.drewN w56 _ = w56; have n0_ : Aside0 (w56.heap[gb191]? = some (.cells #[.string x192000_1, .int .i64 x192001_1, .int .i64 x192002_1, .string x192003_1] 110 (0, 0))) := ⟨by rw [← hq_]; exact (bU_ BK191.out)⟩; have n1_ : Aside0 (w56.heap[gb192]? = some (.cells #[.string (a0.extract 0 (x4_1 : Int).toNat), .int .i64 2, .int .i64 0, .string (a0.extract ((ji9) : Int).toNat a0.size)] 110 (0, 0))) := ⟨by rw [← hq_]; exact (bU_ BK192.out)⟩; have n2_ : Aside0 (Below w.heap.size w w56) := ⟨by rw [← hq_]; exact (by repeat (first | (with_reducible first | exact HB.out | apply below_alloc | apply pw_below_drewN | apply below_drew1 | refine below_set ?_ GE191.out | refine below_set ?_ GE192.out) | exact HB.out))⟩; clear BK191 BK192 HB hq_; have BK191 := n0_; have BK192 := n1_; have HB := n2_; clear n0_ n1_ n2_))
           have n0_ := Aside0.mk (blk_drew BK191.out)
           have n1_ := Aside0.mk (blk_drew BK192.out)
           have n2_ := Aside0.mk (below_drew1 HB.out)
           clear BK191
           clear BK192
           clear HB
           have BK191 := n0_
           have BK192 := n1_
           have HB := n2_
           clear n0_ n1_ n2_
           refine start_ (n := 12) (S := fun w' => w'.cell? ⟨gb192, 0, none⟩ = some (.string (a0.extract 0 (x4_1 : Int).toNat)) ∧ w'.cell? ⟨gb192, 1, none⟩ = some (.int .i64 2) ∧ w'.cell? ⟨gb192, 2, none⟩ = some (.int .i64 0) ∧ w'.cell? ⟨gb192, 3, none⟩ = some (.string (a0.extract ((ji9) : Int).toNat a0.size))) (ds := []) #[false, false, false, false, false, false, false, false, false, false, false, false] (by kernel_rfl) rfl rfl ⟨(blk_cell BK192.out 0).trans rfl, (blk_cell BK192.out 1).trans rfl, (blk_cell BK192.out 2).trans rfl, (blk_cell BK192.out 3).trans rfl⟩ (fun hHeld => ?_); refine with_tabW dragnetref08_One.tab9 dragnetref08_One.bits9 (fun HT_ HW_ => ?_)
           generalize w56.drew = w57 at BK191 BK192 HB hHeld ⊢
           refine pS 1 (some 39) HT_ ?_
           refine tS 0 (some 38) HT_ HW_ hHeld ?_
           refine tS 2 (some 40) HT_ HW_ hHeld ?_
           refine one_ (i := 3) (N := some 41) #[true, true, true, true, false, false, false, false, false, false, false, false] rfl rfl (one_of HT_.out (by kernel_rfl)) (by decide) (fun K hK => ?_)
           refine goes_ Tryz.func41 (by kernel_rfl) rfl #[.string (a0.extract 0 (x4_1 : Int).toNat)] (by rfl) rfl rfl mp_ ?_
           with_reducible refine (dragnetref08_IsKey.calls k1 (a0.extract 0 (x4_1 : Int).toNat) true _ A46.out).mono ?_
           rintro e w' ⟨rfl, ⟨nd, rfl⟩⟩
           refine ⟨_, rfl, ?_⟩
           refine hK.out _ _ ⟨(blk_cell BK192.out 0).trans rfl, (blk_cell BK192.out 1).trans rfl, (blk_cell BK192.out 2).trans rfl, (blk_cell BK192.out 3).trans rfl⟩ (fun hHeld => ?_)
           clear hK K
           refine norm_ (a' := ?_) ?_ ?_
           rotate_left
           ·show Act.put _ (some 41) _ = _
            simp only [Act.put, List.setIfInBounds_toArray, List.set_cons_zero, List.set_cons_succ, i64_w, i32_w]
            rfl
           refine pS 4 (some 42) HT_ ?_
           refine pS 5 (some 43) HT_ ?_
           refine tS 6 (some 44) HT_ HW_ hHeld ?_
           refine pS 7 (some 45) HT_ ?_
           refine pS 8 (some 46) HT_ ?_
           refine pS 9 (some 47) HT_ ?_
           refine one_ (i := 10) (N := none) #[true, true, true, true, true, true, true, true, true, true, true, false] rfl rfl (one_of HT_.out (by kernel_rfl)) (by decide) (fun K hK => ?_)
           have hs58 : w57.cell? ⟨gb191, 0, none⟩ = some (.string x192000_1) := (blk_cell BK191.out 0).trans rfl
           have hfs58 := blk_frozen BK191.out 0
           have hns58_1 := NB192_191.out
           have hms58_1 := NB191_192.out
           have hs59 : w57.cell? ⟨gb191, 1, none⟩ = some (.int .i64 x192001_1) := (blk_cell BK191.out 1).trans rfl
           have hfs59 := blk_frozen BK191.out 1
           have hns59_1 := NB192_191.out
           have hms59_1 := NB191_192.out
           have hs60 : w57.cell? ⟨gb191, 2, none⟩ = some (.int .i64 x192002_1) := (blk_cell BK191.out 2).trans rfl
           have hfs60 := blk_frozen BK191.out 2
           have hns60_1 := NB192_191.out
           have hms60_1 := NB191_192.out
           have hs61 : w57.cell? ⟨gb191, 3, none⟩ = some (.string x192003_1) := (blk_cell BK191.out 3).trans rfl
           have hfs61 := blk_frozen BK191.out 3
           have hns61_1 := NB192_191.out
           have hms61_1 := NB191_192.out
           refine skip_ (w1 := ?_) (by rfl) rfl ?_ ?_
           rotate_left
           ·go_simp
            rfl
           refine hK.out _ _ ⟨((cell_far (p := ⟨gb191, _, none⟩) NB192_191.out _).trans (((cell_far (p := ⟨gb191, _, none⟩) NB192_191.out _).trans (((cell_far (p := ⟨gb191, _, none⟩) NB192_191.out _).trans (((cell_far (p := ⟨gb191, _, none⟩) NB192_191.out _).trans (hHeld.1)))))))), ((cell_far (p := ⟨gb191, _, none⟩) NB192_191.out _).trans (((cell_far (p := ⟨gb191, _, none⟩) NB192_191.out _).trans (((cell_far (p := ⟨gb191, _, none⟩) NB192_191.out _).trans (((cell_far (p := ⟨gb191, _, none⟩) NB192_191.out _).trans (hHeld.2.1)))))))), ((cell_far (p := ⟨gb191, _, none⟩) NB192_191.out _).trans (((cell_far (p := ⟨gb191, _, none⟩) NB192_191.out _).trans (((cell_far (p := ⟨gb191, _, none⟩) NB192_191.out _).trans (((cell_far (p := ⟨gb191, _, none⟩) NB192_191.out _).trans (hHeld.2.2.1)))))))), ((cell_far (p := ⟨gb191, _, none⟩) NB192_191.out _).trans (((cell_far (p := ⟨gb191, _, none⟩) NB192_191.out _).trans (((cell_far (p := ⟨gb191, _, none⟩) NB192_191.out _).trans (((cell_far (p := ⟨gb191, _, none⟩) NB192_191.out _).trans (hHeld.2.2.2))))))))⟩ (fun hHeld => ?_)
           clear hK K
           refine pS 11 (some 3) HT_ ?_
           refine done_ (done_of HT_.out (by kernel_rfl)) ?_
           try go_wp2
           refine bodyPost_ret (results_ct rfl _ _ gb191 110 #[.string (a0.extract 0 (x4_1 : Int).toNat), .int .i64 2, .int .i64 0, .string (a0.extract ((ji9) : Int).toNat a0.size)] (0, 0) _ rfl (by (with_reducible repeat (first | refine blk_drewN ?_ _ | refine blk_drew ?_ | refine blk_alloc ?_ _)); refine blk_put (cs := #[.string (a0.extract 0 (x4_1 : Int).toNat), .int .i64 2, .int .i64 0, .string x192003_1]) ?_ 3 _ rfl; (with_reducible repeat (first | refine blk_drewN ?_ _ | refine blk_drew ?_ | refine blk_alloc ?_ _)); refine blk_put (cs := #[.string (a0.extract 0 (x4_1 : Int).toNat), .int .i64 2, .int .i64 x192002_1, .string x192003_1]) ?_ 2 _ rfl; (with_reducible repeat (first | refine blk_drewN ?_ _ | refine blk_drew ?_ | refine blk_alloc ?_ _)); refine blk_put (cs := #[.string (a0.extract 0 (x4_1 : Int).toNat), .int .i64 x192001_1, .int .i64 x192002_1, .string x192003_1]) ?_ 1 _ rfl; (with_reducible repeat (first | refine blk_drewN ?_ _ | refine blk_drew ?_ | refine blk_alloc ?_ _)); refine blk_put (cs := #[.string x192000_1, .int .i64 x192001_1, .int .i64 x192002_1, .string x192003_1]) ?_ 0 _ rfl; (with_reducible repeat (first | refine blk_drewN ?_ _ | refine blk_drew ?_ | refine blk_alloc ?_ _)); exact BK191.out) Tryz.underlying110 rfl (by kernel_rfl)) rfl ?_
           exact ⟨by first | rfl | (simp [errW_none, errW_some] <;> rfl) | (simp only [← hji9]; first | rfl | (simp [errW_none, errW_some] <;> rfl)) | (simp [*, errW_none, errW_some] <;> rfl), by repeat (first | (with_reducible first | exact HB.out | apply below_alloc | apply pw_below_drewN | apply below_drew1 | refine below_set ?_ GE191.out | refine below_set ?_ GE192.out) | exact HB.out)⟩
          ·replace c47 := Bool.eq_false_iff.mpr c47
           subst c47
           have H1 : (some (a0.extract 0 (x4_1 : Int).toNat, 2, 0, a0.extract ((ji9) : Int).toNat a0.size, false)) = some (r1, r2, r3, r4, r5) := by rw [if_neg (show ¬ (false = true) by decide)] at H; exact H
           clear H
           have H := H1
           clear H1
           simp only [Option.some.injEq, Prod.mk.injEq] at H
           obtain ⟨rfl, rfl, rfl, rfl, rfl⟩ := H
           have p5 : 0 ≤ (x4_1 : Int) := of_decide_eq_true as_
           have q5 : x4_1 < (a0.size : Int) := of_decide_eq_true as_
           have hx5 := bt_at a0 x4_1
           replace p5 := eq_true p5
           replace q5 := eq_true q5
           try go_wp2
           have n0_ := Aside0.mk (blk_drew BK191.out)
           have n1_ := Aside0.mk (below_drew1 HB.out)
           clear BK191
           clear HB
           have BK191 := n0_
           have HB := n1_
           clear n0_ n1_
           refine start_ (n := 10) (S := fun w' => True) (ds := []) #[false, false, false, false, false, false, false, false, false, false] (by kernel_rfl) rfl rfl trivial (fun hHeld => ?_); refine with_tabW dragnetref08_One.tab5 dragnetref08_One.bits5 (fun HT_ HW_ => ?_)
           generalize wr.drew = w62 at BK191 HB hHeld ⊢
           refine pS 0 (some 18) HT_ ?_
           refine pS 1 (some 19) HT_ ?_
           refine pS 2 (some 20) HT_ ?_
           refine pS 3 (some 21) HT_ ?_
           refine pS 4 (some 22) HT_ ?_
           refine pS 5 (some 23) HT_ ?_
           refine pS 6 (some 24) HT_ ?_
           refine pS 7 (some 25) HT_ ?_
           refine one_ (i := 8) (N := some 5) #[true, true, true, true, true, true, true, true, true, false] rfl rfl (one_of HT_.out (by kernel_rfl)) (by decide) (fun K hK => ?_)
           refine box_step ?hg (N := 5) ?hd (cs := #[.string (⟨#[]⟩ : ByteArray), .int .i64 0, .int .i64 0, .string (⟨#[]⟩ : ByteArray)]) (t := 110) ?hr ?_; (case hd => rfl); (case hg => rfl); (case hr => first | (go_simp; done) | (go_simp; rfl))
           intro gb192 hg w63 hbox hb
           have n0_ := bkA BK191 hb
           have n1_ := bsA HB hb
           have n2_ := Aside0.mk (hbox)
           have n3_ := szA HB hg
           have n4_ := szA HB hg
           have n5_ := neA BK191 hg
           have n6_ := neB BK191 hg
           clear BK191
           clear HB
           have BK191 := n0_
           have HB := n1_
           have BK192 := n2_
           have GW192 := n3_
           have GE192 := n4_
           have NB191_192 := n5_
           have NB192_191 := n6_
           clear n0_ n1_ n2_ n3_ n4_ n5_ n6_
           clear hb hbox hg
           refine hK.out _ _ trivial (fun hHeld => ?_)
           clear hK K
           refine norm_ (a' := ?_) ?_ ?_
           rotate_left
           ·show Act.put _ (some 5) _ = _
            simp only [Act.put, List.setIfInBounds_toArray, List.set_cons_zero, List.set_cons_succ, i64_w, i32_w]
            rfl
           refine one_ (i := 9) (N := none) #[true, true, true, true, true, true, true, true, true, true] rfl rfl (one_of HT_.out (by kernel_rfl)) (by decide) (fun K hK => ?_)
           have hs64 : w63.cell? ⟨gb192, 0, none⟩ = some (.string (⟨#[]⟩ : ByteArray)) := (blk_cell BK192.out 0).trans rfl
           have hfs64 := blk_frozen BK192.out 0
           have hns64_0 := NB191_192.out
           have hms64_0 := NB192_191.out
           have hs65 : w63.cell? ⟨gb192, 1, none⟩ = some (.int .i64 0) := (blk_cell BK192.out 1).trans rfl
           have hfs65 := blk_frozen BK192.out 1
           have hns65_0 := NB191_192.out
           have hms65_0 := NB192_191.out
           have hs66 : w63.cell? ⟨gb192, 2, none⟩ = some (.int .i64 0) := (blk_cell BK192.out 2).trans rfl
           have hfs66 := blk_frozen BK192.out 2
           have hns66_0 := NB191_192.out
           have hms66_0 := NB192_191.out
           have hs67 : w63.cell? ⟨gb192, 3, none⟩ = some (.string (⟨#[]⟩ : ByteArray)) := (blk_cell BK192.out 3).trans rfl
           have hfs67 := blk_frozen BK192.out 3
           have hns67_0 := NB191_192.out
           have hms67_0 := NB192_191.out
           refine skip_ (w1 := ?_) (by rfl) rfl ?_ ?_
           rotate_left
           ·go_simp
            rfl
           refine hK.out _ _ trivial (fun hHeld => ?_)
           clear hK K
           refine done_ (done_of HT_.out (by kernel_rfl)) ?_
           have hnb68 := NB192_191.out
           have hnc68 := NB191_192.out
           have hcz69_0 : w63.cell? ⟨gb192, 0, none⟩ = some (.string (⟨#[]⟩ : ByteArray)) := (blk_cell BK192.out 0).trans rfl
           have hcz69_1 : w63.cell? ⟨gb192, 1, none⟩ = some (.int .i64 0) := (blk_cell BK192.out 1).trans rfl
           have hcz69_2 : w63.cell? ⟨gb192, 2, none⟩ = some (.int .i64 0) := (blk_cell BK192.out 2).trans rfl
           have hcz69_3 : w63.cell? ⟨gb192, 3, none⟩ = some (.string (⟨#[]⟩ : ByteArray)) := (blk_cell BK192.out 3).trans rfl
           have hfz69_0 := blk_frozen BK192.out 0
           have hfz69_1 := blk_frozen BK192.out 1
           have hfz69_2 := blk_frozen BK192.out 2
           have hfz69_3 := blk_frozen BK192.out 3
           try go_wp2_with (first | ((with_reducible refine gate_callee (f := 134) rfl ?_); refine goesL_ (some 29) rfl rfl Tryz.func134 (by kernel_rfl) rfl #[.string (a0.extract ((ji9) : Int).toNat a0.size)] rfl (by (try simp only [List.map_toArray, List.map_cons, List.map_nil]); first | done | (simp only [hji9]; rfl) | rfl | (simp only [List.length_drop, List.length_take]; rfl)) ?_; (with_reducible refine (dragnetref08_Number.calls k1 (a0.extract ((ji9) : Int).toNat a0.size) t193 false _ A12.out).mono ?_); rintro e w' ⟨rfl, ⟨nd, rfl⟩⟩; refine ⟨_, rfl, ?_⟩))
           have n0_ : Aside0 (((((w63.setCell ⟨gb192, 0, none⟩ (.string (a0.extract 0 (x4_1 : Int).toNat))).setCell ⟨gb192, 1, none⟩ (.int .i64 2)).setCell ⟨gb192, 2, none⟩ (.int .i64 0)).setCell ⟨gb192, 3, none⟩ (.string (a0.extract ((ji9) : Int).toNat a0.size))).heap[gb191]? = some (.cells #[.string x192000_1, .int .i64 x192001_1, .int .i64 x192002_1, .string x192003_1] 110 (0, 0))) := ⟨by (with_reducible repeat (first | refine blk_drewN ?_ _ | refine blk_drew ?_ | refine blk_alloc ?_ _)); refine blk_far ?_ NB191_192.out _; (with_reducible repeat (first | refine blk_drewN ?_ _ | refine blk_drew ?_ | refine blk_alloc ?_ _)); refine blk_far ?_ NB191_192.out _; (with_reducible repeat (first | refine blk_drewN ?_ _ | refine blk_drew ?_ | refine blk_alloc ?_ _)); refine blk_far ?_ NB191_192.out _; (with_reducible repeat (first | refine blk_drewN ?_ _ | refine blk_drew ?_ | refine blk_alloc ?_ _)); refine blk_far ?_ NB191_192.out _; (with_reducible repeat (first | refine blk_drewN ?_ _ | refine blk_drew ?_ | refine blk_alloc ?_ _)); exact BK191.out⟩
           have n1_ : Aside0 (((((w63.setCell ⟨gb192, 0, none⟩ (.string (a0.extract 0 (x4_1 : Int).toNat))).setCell ⟨gb192, 1, none⟩ (.int .i64 2)).setCell ⟨gb192, 2, none⟩ (.int .i64 0)).setCell ⟨gb192, 3, none⟩ (.string (a0.extract ((ji9) : Int).toNat a0.size))).heap[gb192]? = some (.cells #[.string (a0.extract 0 (x4_1 : Int).toNat), .int .i64 2, .int .i64 0, .string (a0.extract ((ji9) : Int).toNat a0.size)] 110 (0, 0))) := ⟨by (with_reducible repeat (first | refine blk_drewN ?_ _ | refine blk_drew ?_ | refine blk_alloc ?_ _)); refine blk_put (cs := #[.string (a0.extract 0 (x4_1 : Int).toNat), .int .i64 2, .int .i64 0, .string (⟨#[]⟩ : ByteArray)]) ?_ 3 _ rfl; (with_reducible repeat (first | refine blk_drewN ?_ _ | refine blk_drew ?_ | refine blk_alloc ?_ _)); refine blk_put (cs := #[.string (a0.extract 0 (x4_1 : Int).toNat), .int .i64 2, .int .i64 0, .string (⟨#[]⟩ : ByteArray)]) ?_ 2 _ rfl; (with_reducible repeat (first | refine blk_drewN ?_ _ | refine blk_drew ?_ | refine blk_alloc ?_ _)); refine blk_put (cs := #[.string (a0.extract 0 (x4_1 : Int).toNat), .int .i64 0, .int .i64 0, .string (⟨#[]⟩ : ByteArray)]) ?_ 1 _ rfl; (with_reducible repeat (first | refine blk_drewN ?_ _ | refine blk_drew ?_ | refine blk_alloc ?_ _)); refine blk_put (cs := #[.string (⟨#[]⟩ : ByteArray), .int .i64 0, .int .i64 0, .string (⟨#[]⟩ : ByteArray)]) ?_ 0 _ rfl; (with_reducible repeat (first | refine blk_drewN ?_ _ | refine blk_drew ?_ | refine blk_alloc ?_ _)); exact BK192.out⟩
           have n2_ : Aside0 (Below w.heap.size w ((((w63.setCell ⟨gb192, 0, none⟩ (.string (a0.extract 0 (x4_1 : Int).toNat))).setCell ⟨gb192, 1, none⟩ (.int .i64 2)).setCell ⟨gb192, 2, none⟩ (.int .i64 0)).setCell ⟨gb192, 3, none⟩ (.string (a0.extract ((ji9) : Int).toNat a0.size)))) := ⟨by repeat (first | (with_reducible first | exact HB.out | apply below_alloc | apply pw_below_drewN | apply below_drew1 | refine below_set ?_ GE191.out | refine below_set ?_ GE192.out) | exact HB.out)⟩
           (try clear BK191)
           (try clear BK192)
           (try clear HB)
           (try simp only [sc_drewN])
           generalize ((((w63.setCell ⟨gb192, 0, none⟩ (.string (a0.extract 0 (x4_1 : Int).toNat))).setCell ⟨gb192, 1, none⟩ (.int .i64 2)).setCell ⟨gb192, 2, none⟩ (.int .i64 0)).setCell ⟨gb192, 3, none⟩ (.string (a0.extract ((ji9) : Int).toNat a0.size))) = w70 at n0_ n1_ n2_ ⊢
           have BK191 := n0_
           have BK192 := n1_
           have HB := n2_
           clear n0_ n1_ n2_
           (try (rw [drewN_self w70]; generalize hq_ : World.drewN w70 _ = w70; have n0_ : Aside0 (w70.heap[gb191]? = some (.cells #[.string x192000_1, .int .i64 x192001_1, .int .i64 x192002_1, .string x192003_1] 110 (0, 0))) := ⟨by rw [← hq_]; exact (bU_ BK191.out)⟩; have n1_ : Aside0 (w70.heap[gb192]? = some (.cells #[.string (a0.extract 0 (x4_1 : Int).toNat), .int .i64 2, .int .i64 0, .string (a0.extract ((ji9) : Int).toNat a0.size)] 110 (0, 0))) := ⟨by rw [← hq_]; exact (bU_ BK192.out)⟩; have n2_ : Aside0 (Below w.heap.size w w70) := ⟨by rw [← hq_]; exact (by repeat (first | (with_reducible first | exact HB.out | apply below_alloc | apply pw_below_drewN | apply below_drew1 | refine below_set ?_ GE191.out | refine below_set ?_ GE192.out) | exact HB.out))⟩; clear BK191 BK192 HB hq_; have BK191 := n0_; have BK192 := n1_; have HB := n2_; clear n0_ n1_ n2_))
           have n0_ := Aside0.mk (blk_drew BK191.out)
           have n1_ := Aside0.mk (blk_drew BK192.out)
           have n2_ := Aside0.mk (below_drew1 HB.out)
           clear BK191
           clear BK192
           clear HB
           have BK191 := n0_
           have BK192 := n1_
           have HB := n2_
           clear n0_ n1_ n2_
           refine start_ (n := 12) (S := fun w' => w'.cell? ⟨gb192, 0, none⟩ = some (.string (a0.extract 0 (x4_1 : Int).toNat)) ∧ w'.cell? ⟨gb192, 1, none⟩ = some (.int .i64 2) ∧ w'.cell? ⟨gb192, 2, none⟩ = some (.int .i64 0) ∧ w'.cell? ⟨gb192, 3, none⟩ = some (.string (a0.extract ((ji9) : Int).toNat a0.size))) (ds := []) #[false, false, false, false, false, false, false, false, false, false, false, false] (by kernel_rfl) rfl rfl ⟨(blk_cell BK192.out 0).trans rfl, (blk_cell BK192.out 1).trans rfl, (blk_cell BK192.out 2).trans rfl, (blk_cell BK192.out 3).trans rfl⟩ (fun hHeld => ?_); refine with_tabW dragnetref08_One.tab9 dragnetref08_One.bits9 (fun HT_ HW_ => ?_)
           generalize w70.drew = w71 at BK191 BK192 HB hHeld ⊢
           refine pS 1 (some 39) HT_ ?_
           refine tS 0 (some 38) HT_ HW_ hHeld ?_
           refine tS 2 (some 40) HT_ HW_ hHeld ?_
           refine one_ (i := 3) (N := some 41) #[true, true, true, true, false, false, false, false, false, false, false, false] rfl rfl (one_of HT_.out (by kernel_rfl)) (by decide) (fun K hK => ?_)
           refine goes_ Tryz.func41 (by kernel_rfl) rfl #[.string (a0.extract 0 (x4_1 : Int).toNat)] (by rfl) rfl rfl mp_ ?_
           with_reducible refine (dragnetref08_IsKey.calls k1 (a0.extract 0 (x4_1 : Int).toNat) false _ A46.out).mono ?_
           rintro e w' ⟨rfl, ⟨nd, rfl⟩⟩
           refine ⟨_, rfl, ?_⟩
           refine hK.out _ _ ⟨(blk_cell BK192.out 0).trans rfl, (blk_cell BK192.out 1).trans rfl, (blk_cell BK192.out 2).trans rfl, (blk_cell BK192.out 3).trans rfl⟩ (fun hHeld => ?_)
           clear hK K
           refine norm_ (a' := ?_) ?_ ?_
           rotate_left
           ·show Act.put _ (some 41) _ = _
            simp only [Act.put, List.setIfInBounds_toArray, List.set_cons_zero, List.set_cons_succ, i64_w, i32_w]
            rfl
           refine pS 4 (some 42) HT_ ?_
           refine uS 5 (some 43) HT_ ?_
           refine uS 6 (some 44) HT_ ?_
           refine uS 7 (some 45) HT_ ?_
           refine uS 8 (some 46) HT_ ?_
           refine pS 9 (some 47) HT_ ?_
           refine one_ (i := 10) (N := none) #[true, true, true, true, true, true, true, true, true, true, true, false] rfl rfl (one_of HT_.out (by kernel_rfl)) (by decide) (fun K hK => ?_)
           have hs72 : w71.cell? ⟨gb191, 0, none⟩ = some (.string x192000_1) := (blk_cell BK191.out 0).trans rfl
           have hfs72 := blk_frozen BK191.out 0
           have hns72_1 := NB192_191.out
           have hms72_1 := NB191_192.out
           have hs73 : w71.cell? ⟨gb191, 1, none⟩ = some (.int .i64 x192001_1) := (blk_cell BK191.out 1).trans rfl
           have hfs73 := blk_frozen BK191.out 1
           have hns73_1 := NB192_191.out
           have hms73_1 := NB191_192.out
           have hs74 : w71.cell? ⟨gb191, 2, none⟩ = some (.int .i64 x192002_1) := (blk_cell BK191.out 2).trans rfl
           have hfs74 := blk_frozen BK191.out 2
           have hns74_1 := NB192_191.out
           have hms74_1 := NB191_192.out
           have hs75 : w71.cell? ⟨gb191, 3, none⟩ = some (.string x192003_1) := (blk_cell BK191.out 3).trans rfl
           have hfs75 := blk_frozen BK191.out 3
           have hns75_1 := NB192_191.out
           have hms75_1 := NB191_192.out
           refine skip_ (w1 := ?_) (by rfl) rfl ?_ ?_
           rotate_left
           ·go_simp
            rfl
           refine hK.out _ _ ⟨((cell_far (p := ⟨gb191, _, none⟩) NB192_191.out _).trans (((cell_far (p := ⟨gb191, _, none⟩) NB192_191.out _).trans (((cell_far (p := ⟨gb191, _, none⟩) NB192_191.out _).trans (((cell_far (p := ⟨gb191, _, none⟩) NB192_191.out _).trans (hHeld.1)))))))), ((cell_far (p := ⟨gb191, _, none⟩) NB192_191.out _).trans (((cell_far (p := ⟨gb191, _, none⟩) NB192_191.out _).trans (((cell_far (p := ⟨gb191, _, none⟩) NB192_191.out _).trans (((cell_far (p := ⟨gb191, _, none⟩) NB192_191.out _).trans (hHeld.2.1)))))))), ((cell_far (p := ⟨gb191, _, none⟩) NB192_191.out _).trans (((cell_far (p := ⟨gb191, _, none⟩) NB192_191.out _).trans (((cell_far (p := ⟨gb191, _, none⟩) NB192_191.out _).trans (((cell_far (p := ⟨gb191, _, none⟩) NB192_191.out _).trans (hHeld.2.2.1)))))))), ((cell_far (p := ⟨gb191, _, none⟩) NB192_191.out _).trans (((cell_far (p := ⟨gb191, _, none⟩) NB192_191.out _).trans (((cell_far (p := ⟨gb191, _, none⟩) NB192_191.out _).trans (((cell_far (p := ⟨gb191, _, none⟩) NB192_191.out _).trans (hHeld.2.2.2))))))))⟩ (fun hHeld => ?_)
           clear hK K
           refine pS 11 (some 3) HT_ ?_
           refine done_ (done_of HT_.out (by kernel_rfl)) ?_
           try go_wp2
           refine bodyPost_ret (results_ct rfl _ _ gb191 110 #[.string (a0.extract 0 (x4_1 : Int).toNat), .int .i64 2, .int .i64 0, .string (a0.extract ((ji9) : Int).toNat a0.size)] (0, 0) _ rfl (by (with_reducible repeat (first | refine blk_drewN ?_ _ | refine blk_drew ?_ | refine blk_alloc ?_ _)); refine blk_put (cs := #[.string (a0.extract 0 (x4_1 : Int).toNat), .int .i64 2, .int .i64 0, .string x192003_1]) ?_ 3 _ rfl; (with_reducible repeat (first | refine blk_drewN ?_ _ | refine blk_drew ?_ | refine blk_alloc ?_ _)); refine blk_put (cs := #[.string (a0.extract 0 (x4_1 : Int).toNat), .int .i64 2, .int .i64 x192002_1, .string x192003_1]) ?_ 2 _ rfl; (with_reducible repeat (first | refine blk_drewN ?_ _ | refine blk_drew ?_ | refine blk_alloc ?_ _)); refine blk_put (cs := #[.string (a0.extract 0 (x4_1 : Int).toNat), .int .i64 x192001_1, .int .i64 x192002_1, .string x192003_1]) ?_ 1 _ rfl; (with_reducible repeat (first | refine blk_drewN ?_ _ | refine blk_drew ?_ | refine blk_alloc ?_ _)); refine blk_put (cs := #[.string x192000_1, .int .i64 x192001_1, .int .i64 x192002_1, .string x192003_1]) ?_ 0 _ rfl; (with_reducible repeat (first | refine blk_drewN ?_ _ | refine blk_drew ?_ | refine blk_alloc ?_ _)); exact BK191.out) Tryz.underlying110 rfl (by kernel_rfl)) rfl ?_
           exact ⟨by first | rfl | (simp [errW_none, errW_some] <;> rfl) | (simp only [← hji9]; first | rfl | (simp [errW_none, errW_some] <;> rfl)) | (simp [*, errW_none, errW_some] <;> rfl), by repeat (first | (with_reducible first | exact HB.out | apply below_alloc | apply pw_below_drewN | apply below_drew1 | refine below_set ?_ GE191.out | refine below_set ?_ GE192.out) | exact HB.out)⟩
        ·rw [if_neg c11] at H
         exact absurd H (by simp)
       ·rw [if_neg c10] at H
        exact absurd H (by simp)
      ·rw [if_neg c8] at H
       exact absurd H (by simp)
     ·rw [if_neg c6] at H
      have c6b0 : ((bt a0 x4_1) == 61) = false := beq_eq_false_iff_ne.mpr c6
      have c6b1 : ((bt a0 x4_1) != 61) = true := bne_iff_ne.mpr c6
      have H' := Aside0.mk H
      clear H
      have p5 : 0 ≤ (x4_1 : Int) := of_decide_eq_true as_
      have q5 : x4_1 < (a0.size : Int) := of_decide_eq_true as_
      have hx5 := bt_at a0 x4_1
      replace p5 := eq_true p5
      replace q5 := eq_true q5
      go_wp2
      go_roundg k1
      case measure => have := HK1.out; omega
      case rel => exact ⟨(wrap64 (x4_1 + 1)), (x192000_1), (x192001_1), (x192002_1), (x192003_1), rs_, H', ⟨by have := HK1.out; omega⟩, ⟨bU_ BK191.out⟩, ⟨by repeat (first | (with_reducible first | exact HB.out | apply below_alloc | apply pw_below_drewN | apply below_drew1 | refine below_set ?_ GE191.out) | exact HB.out)⟩⟩
    ·rw [if_neg c4] at H
     exact absurd H (by simp)
   ·rw [if_neg c3] at H
    have c3b0 : decide (x4_1 < (a0.size : Int)) = false := decide_eq_false c3
    clear c3
    simp only [Option.some.injEq, Prod.mk.injEq] at H
    obtain ⟨rfl, rfl, rfl, rfl, rfl⟩ := H
    have hcz76_0 : wr.cell? ⟨gb191, 0, none⟩ = some (.string x192000_1) := (blk_cell BK191.out 0).trans rfl
    have hcz76_1 : wr.cell? ⟨gb191, 1, none⟩ = some (.int .i64 x192001_1) := (blk_cell BK191.out 1).trans rfl
    have hcz76_2 : wr.cell? ⟨gb191, 2, none⟩ = some (.int .i64 x192002_1) := (blk_cell BK191.out 2).trans rfl
    have hcz76_3 : wr.cell? ⟨gb191, 3, none⟩ = some (.string x192003_1) := (blk_cell BK191.out 3).trans rfl
    have hfz76_0 := blk_frozen BK191.out 0
    have hfz76_1 := blk_frozen BK191.out 1
    have hfz76_2 := blk_frozen BK191.out 2
    have hfz76_3 := blk_frozen BK191.out 3
    go_wp2
    refine bodyPost_ret (results_ct rfl _ _ gb191 110 #[.string (⟨#[]⟩ : ByteArray), .int .i64 0, .int .i64 0, .string (⟨#[]⟩ : ByteArray)] (0, 0) _ rfl (by (with_reducible repeat (first | refine blk_drewN ?_ _ | refine blk_drew ?_ | refine blk_alloc ?_ _)); refine blk_put (cs := #[.string (⟨#[]⟩ : ByteArray), .int .i64 0, .int .i64 0, .string x192003_1]) ?_ 3 _ rfl; (with_reducible repeat (first | refine blk_drewN ?_ _ | refine blk_drew ?_ | refine blk_alloc ?_ _)); refine blk_put (cs := #[.string (⟨#[]⟩ : ByteArray), .int .i64 0, .int .i64 x192002_1, .string x192003_1]) ?_ 2 _ rfl; (with_reducible repeat (first | refine blk_drewN ?_ _ | refine blk_drew ?_ | refine blk_alloc ?_ _)); refine blk_put (cs := #[.string (⟨#[]⟩ : ByteArray), .int .i64 x192001_1, .int .i64 x192002_1, .string x192003_1]) ?_ 1 _ rfl; (with_reducible repeat (first | refine blk_drewN ?_ _ | refine blk_drew ?_ | refine blk_alloc ?_ _)); refine blk_put (cs := #[.string x192000_1, .int .i64 x192001_1, .int .i64 x192002_1, .string x192003_1]) ?_ 0 _ rfl; (with_reducible repeat (first | refine blk_drewN ?_ _ | refine blk_drew ?_ | refine blk_alloc ?_ _)); exact BK191.out) Tryz.underlying110 rfl (by kernel_rfl)) rfl ?_
    exact ⟨by first | rfl | (simp [errW_none, errW_some] <;> rfl) | (simp [*, errW_none, errW_some] <;> rfl), by repeat (first | (with_reducible first | exact HB.out | apply below_alloc | apply pw_below_drewN | apply below_drew1 | refine below_set ?_ GE191.out) | exact HB.out)⟩
end Go.Proofs.YtehaodbheifokaaGreatDoor.P
end
