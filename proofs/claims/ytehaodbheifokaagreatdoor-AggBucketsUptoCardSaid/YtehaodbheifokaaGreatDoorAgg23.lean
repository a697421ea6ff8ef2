/- The law AggBuckets: what it returns at every argument. -/
import Derived.Test.YtehaodbheifokaaGreatDoorMake23
namespace Go.Proofs.YtehaodbheifokaaGreatDoor.P
open Go Go.RowKit Go.Proofs.YtehaodbheifokaaGreatDoorW.PrintWords Go.Proofs.YtehaodbheifokaaGreatDoorW.PrintLast Go.Proofs.YtehaodbheifokaaGreatDoorW.PrintMore
attribute [local go_sem] max2_int min2_int max_two min_two
set_option linter.unusedVariables false
set_option linter.unusedSimpArgs false

theorem store_complex (P : Program) (w : World) (a : Addr) (k : FloatKind) (x y : Nat) (m : Mode) : (store a (.complex k x y) m).run P w = stored P w a (.complex k x y) m := run_store P w a _ m rfl
attribute [local go_sem] store_complex
noncomputable def dragnetlaw23_AggBuckets.f (a0 a1 : Int) : Option Bool := open Classical in if inI a0 ∧ inI a1 then some true else none
def NoPrem (w : World) : Prop := True
theorem zero_eql (w : World) : (binOp .eql 56 (.complex .f64 0 0) (.complex .f64 0 0)).run Tryz.prog w = .ok (.bool true) w := by kernel_rfl
theorem dir_eql0 (w : World) : (binOp .eql 56 (dirQ 0) (.complex .f64 4607182418800017408 0)).run Tryz.prog w = .ok (.bool true) w := by kernel_rfl
theorem dir_eql1 (w : World) : (binOp .eql 56 (dirQ 1) (.complex .f64 0 4607182418800017408)).run Tryz.prog w = .ok (.bool true) w := by kernel_rfl
theorem dir_eql2 (w : World) : (binOp .eql 56 (dirQ 2) (.complex .f64 13830554455654793216 0)).run Tryz.prog w = .ok (.bool true) w := by kernel_rfl
theorem dir_eql3 (w : World) : (binOp .eql 56 (dirQ 3) (.complex .f64 0 13830554455654793216)).run Tryz.prog w = .ok (.bool true) w := by kernel_rfl
theorem dir_guard0 (w : World) : (eqGuard .eql 56 (.tmp 57) (.tmp 61) (dirQ 0) (.complex .f64 4607182418800017408 0)).run Tryz.prog w = .ok () w := by kernel_rfl
theorem dir_guard1 (w : World) : (eqGuard .eql 56 (.tmp 57) (.tmp 61) (dirQ 1) (.complex .f64 0 4607182418800017408)).run Tryz.prog w = .ok () w := by kernel_rfl
theorem dir_guard2 (w : World) : (eqGuard .eql 56 (.tmp 57) (.tmp 61) (dirQ 2) (.complex .f64 13830554455654793216 0)).run Tryz.prog w = .ok () w := by kernel_rfl
theorem dir_guard3 (w : World) : (eqGuard .eql 56 (.tmp 57) (.tmp 61) (dirQ 3) (.complex .f64 0 13830554455654793216)).run Tryz.prog w = .ok () w := by kernel_rfl
set_option maxHeartbeats 4000000 in
set_option maxRecDepth 100000 in
theorem aggBuckets_bad (a0 a1 : Int) (w : World) (h0 : inI a0) (h1 : inI a1) (hv : a1 < 1) :
    Calls Tryz.prog 8 #[.int .i64 a0, .int .i64 a1] w fun e w' => e = .returned (.bool true) ∧ Below w.heap.size w w' := by
  have d0 : decide (a1 < 1) = true := decide_eq_true hv
  have z1 := zero_eql
  go_enter Tryz.func8, Tryz.ntmps8
  go_wp2_with fail
  refine (alive1 _).mono ?_
  rintro e w1 ⟨rfl, hb⟩
  have HB := Aside0.mk hb
  clear hb
  go_wp2_with fail
  refine (bucket_calls a0 a1 _ h0 (by unfold inI at h1; omega)).mono ?_
  rw [if_pos hv, if_pos hv]
  rintro e w2 ⟨rfl, rfl⟩
  go_wp2_with fail
  refine (turn_bad a0 a1 _ h0 hv).mono ?_
  rintro e w3 ⟨rfl, rfl⟩
  have z2 := z1 w3
  go_wp2_with fail
  go_ret
  exact ⟨rfl, HB.out⟩
set_option maxHeartbeats 4000000 in
set_option maxRecDepth 100000 in
theorem aggBuckets_ok (a0 a1 : Int) (w : World) (h0 : inI a0) (h1 : inI a1) (hv : 1 ≤ a1) (q : Nat) (hq : bucketF a0 a1 % 4 = (q : Int)) (hq4 : q < 4) :
    Calls Tryz.prog 8 #[.int .i64 a0, .int .i64 a1] w fun e w' => e = .returned (.bool true) ∧ Below w.heap.size w w' := by
  have d0 : decide (a1 < 1) = false := decide_eq_false (by omega)
  have hv2 : a1 ≤ 9223372036854775807 := by unfold inI at h1; omega
  go_enter Tryz.func8, Tryz.ntmps8
  go_wp2_with fail
  refine (alive1 _).mono ?_
  rintro e w1 ⟨rfl, hb⟩
  have HB := Aside0.mk hb
  clear hb
  go_wp2_with fail
  refine (bucket_calls a0 a1 _ h0 hv2).mono ?_
  rw [if_neg (by omega), if_neg (by omega)]
  rintro e w2 ⟨rfl, rfl⟩
  go_wp2_with fail
  refine (turn_ok a0 a1 _ h0 hv hv2 q (by omega)).mono ?_
  rintro e w3 ⟨rfl, rfl⟩
  go_wp2_with fail
  refine (refBucket_calls a0 a1 _ h0 hv hv2).mono ?_
  rintro e w4 ⟨rfl, hb⟩
  have HB4 := Aside0.mk (below_step HB.out hb)
  clear hb
  have hB := blk_new w4 (Obj.cells #[.complex .f64 0 0, .complex .f64 0 0, .complex .f64 0 0, .complex .f64 0 0] 60)
  have c0 : (w4.alloc (Obj.cells #[.complex .f64 0 0, .complex .f64 0 0, .complex .f64 0 0, .complex .f64 0 0] 60)).cell? ⟨w4.heap.size, 0, none⟩ = some (.complex .f64 0 0) := (blk_cell hB 0).trans rfl
  have z0 : (w4.alloc (Obj.cells #[.complex .f64 0 0, .complex .f64 0 0, .complex .f64 0 0, .complex .f64 0 0] 60)).frozen? ⟨w4.heap.size, 0, none⟩ = false := blk_frozen hB 0
  have c1 : (w4.alloc (Obj.cells #[.complex .f64 0 0, .complex .f64 0 0, .complex .f64 0 0, .complex .f64 0 0] 60)).cell? ⟨w4.heap.size, 1, none⟩ = some (.complex .f64 0 0) := (blk_cell hB 1).trans rfl
  have z1 : (w4.alloc (Obj.cells #[.complex .f64 0 0, .complex .f64 0 0, .complex .f64 0 0, .complex .f64 0 0] 60)).frozen? ⟨w4.heap.size, 1, none⟩ = false := blk_frozen hB 1
  have c2 : (w4.alloc (Obj.cells #[.complex .f64 0 0, .complex .f64 0 0, .complex .f64 0 0, .complex .f64 0 0] 60)).cell? ⟨w4.heap.size, 2, none⟩ = some (.complex .f64 0 0) := (blk_cell hB 2).trans rfl
  have z2 : (w4.alloc (Obj.cells #[.complex .f64 0 0, .complex .f64 0 0, .complex .f64 0 0, .complex .f64 0 0] 60)).frozen? ⟨w4.heap.size, 2, none⟩ = false := blk_frozen hB 2
  have c3 : (w4.alloc (Obj.cells #[.complex .f64 0 0, .complex .f64 0 0, .complex .f64 0 0, .complex .f64 0 0] 60)).cell? ⟨w4.heap.size, 3, none⟩ = some (.complex .f64 0 0) := (blk_cell hB 3).trans rfl
  have z3 : (w4.alloc (Obj.cells #[.complex .f64 0 0, .complex .f64 0 0, .complex .f64 0 0, .complex .f64 0 0] 60)).frozen? ⟨w4.heap.size, 3, none⟩ = false := blk_frozen hB 3
  clear hB
  go_wp2_with fail
  refine (refQuarter_calls (bucketF a0 a1) _ (floor_in h0 hv)).mono ?_
  rw [hq]
  rintro e w5 ⟨rfl, hb⟩
  have hB : w5.heap[w4.heap.size]? = some (.cells #[.complex .f64 4607182418800017408 0, .complex .f64 0 4607182418800017408, .complex .f64 13830554455654793216 0, .complex .f64 0 13830554455654793216] 60 (0, 0)) := (hb.block _ (by rw [World.size_alloc]; omega)).trans (blk_new w4 _)
  have HB5 := Aside0.mk (below_step (below_alloc HB4.out _) hb)
  clear hb hq c0 c1 c2 c3 z0 z1 z2 z3
  obtain rfl | rfl | rfl | rfl : q = 0 ∨ q = 1 ∨ q = 2 ∨ q = 3 := by omega
  · have hc : w5.cell? ⟨w4.heap.size, 0, none⟩ = some (.complex .f64 4607182418800017408 0) := (blk_cell hB 0).trans rfl
    have hd := dir_eql0 w5
    have hg := dir_guard0 w5
    clear hB
    go_wp2_with fail
    go_ret
    exact ⟨rfl, HB5.out⟩
  · have hc : w5.cell? ⟨w4.heap.size, 1, none⟩ = some (.complex .f64 0 4607182418800017408) := (blk_cell hB 1).trans rfl
    have hd := dir_eql1 w5
    have hg := dir_guard1 w5
    clear hB
    go_wp2_with fail
    go_ret
    exact ⟨rfl, HB5.out⟩
  · have hc : w5.cell? ⟨w4.heap.size, 2, none⟩ = some (.complex .f64 13830554455654793216 0) := (blk_cell hB 2).trans rfl
    have hd := dir_eql2 w5
    have hg := dir_guard2 w5
    clear hB
    go_wp2_with fail
    go_ret
    exact ⟨rfl, HB5.out⟩
  · have hc : w5.cell? ⟨w4.heap.size, 3, none⟩ = some (.complex .f64 0 13830554455654793216) := (blk_cell hB 3).trans rfl
    have hd := dir_eql3 w5
    have hg := dir_guard3 w5
    clear hB
    go_wp2_with fail
    go_ret
    exact ⟨rfl, HB5.out⟩
theorem dragnetlaw23_AggBuckets.calls (a0 a1 : Int) (w : World) (h : dragnetlaw23_AggBuckets.f a0 a1 = some true) (hx : NoPrem w) :
    Calls Tryz.prog 8 #[.int .i64 a0, .int .i64 a1] w fun e w' => e = .returned (.bool true) ∧ Below w.heap.size w w' := by
  have hI : inI a0 ∧ inI a1 := by
    classical
    by_cases c : inI a0 ∧ inI a1
    · exact c
    · unfold dragnetlaw23_AggBuckets.f at h
      rw [if_neg c] at h
      cases h
  obtain ⟨h0, h1⟩ := hI
  by_cases hv : a1 < 1
  · exact aggBuckets_bad a0 a1 w h0 h1 hv
  · exact aggBuckets_ok a0 a1 w h0 h1 (by omega) (bucketF a0 a1 % 4).toNat (by omega) (by omega)
end Go.Proofs.YtehaodbheifokaaGreatDoor.P
