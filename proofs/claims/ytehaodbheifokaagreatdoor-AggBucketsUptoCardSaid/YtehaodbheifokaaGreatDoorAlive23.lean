/- The fixed fact of the statements on agg: true. -/
import Derived.Test.YtehaodbheifokaaGreatDoorTurn
import Derived.Test.YtehaodbheifokaaGreatDoorP1
namespace Go.Proofs.YtehaodbheifokaaGreatDoor.P
open Go Go.RowKit Go.Proofs.YtehaodbheifokaaGreatDoorW.PrintWords Go.Proofs.YtehaodbheifokaaGreatDoorW.PrintLast Go.Proofs.YtehaodbheifokaaGreatDoorW.PrintMore
attribute [local go_sem] max2_int min2_int max_two min_two
set_option linter.unusedVariables false
set_option linter.unusedSimpArgs false

theorem info_i64 : (Tryz.prog.info? 3).map (fun i => (i.zero, i.size, i.bytes)) = some (some (.int .i64 0), 1, 8) := by kernel_rfl
set_option maxHeartbeats 4000000 in
set_option maxRecDepth 100000 in
theorem asked6 (v : Value) (w : World) (hv : ∃ A n c, v = .slice A n c) :
    Calls Tryz.prog 60 #[.agg #[v, .int .i64 6, .string ⟨#[]⟩, .int .i64 10, .int .i64 0, .int .i64 0]] w fun e w' => e = .returned (.bool true) ∧ Below w.heap.size w w' := by
  obtain ⟨A, n, c, rfl⟩ := hv
  go_enter Tryz.func60, Tryz.ntmps60
  go_wp2
  go_region
  all_goals (try go_wp2)
  all_goals go_ret
  all_goals exact ⟨rfl, by repeat (first | exact Below.refl _ _ | apply pw_below_drewN | apply below_drew1 | apply below_drew | apply below_alloc)⟩
set_option maxHeartbeats 4000000 in
set_option maxRecDepth 100000 in
theorem right1 (w : World) :
    Calls Tryz.prog 61 #[.agg #[.int .i64 1, .int .i64 0, .int .i64 0, .string ⟨#[]⟩, .slice none 0 0, .string ⟨#[]⟩, .int .i64 0, .int .i64 0]] w fun e w' => e = .returned (.bool true) ∧ Below w.heap.size w w' := by
  go_enter Tryz.func61, Tryz.ntmps61
  go_wp2_with (go_at_call 84; refine (query_same.calls 9 1 0 0 ⟨#[]⟩ none 0 [] ⟨#[]⟩ 0 0 1 0 0 ⟨#[]⟩ none 0 [] ⟨#[]⟩ 0 0 true _ (Kd.C_nil _ _) (Nat.le_refl _) (Kd.C_nil _ _) (Nat.le_refl _) (by kernel_rfl)).mono ?_; rintro e w2 ⟨rfl, hb⟩; have HB := Aside0.mk hb; clear hb)
  go_ret
  exact ⟨rfl, below_step (by repeat (first | exact Below.refl _ _ | apply below_alloc)) HB.out⟩
set_option maxHeartbeats 4000000 in
set_option maxRecDepth 100000 in
theorem contains0 (A : Option Addr) (c : Nat) (w : World) :
    Calls Tryz.prog 62 #[.slice A 0 c, .func (.func 63) #[] #[]] w fun e w' => e = .returned (.bool false) ∧ w' = w := by
  go_enter Tryz.func62, Tryz.ntmps62
  go_wp2
  go_loopg [8] 0 (fun kq v8 wr => v8 = .int .i64 0 ∧ wr = w)
  case atStart => exact ⟨rfl, rfl⟩
  case round =>
    obtain ⟨rfl, rfl⟩ := hrel
    go_wp2
    go_ret
    exact ⟨rfl, rfl⟩
set_option maxHeartbeats 4000000 in
set_option maxRecDepth 100000 in
theorem formed1 (g : Nat) (w : World) (hN : w.heap[g]? = some (.cells #[.int .i64 1, .int .i64 0, .int .i64 0, .string ⟨#[]⟩, .slice none 0 0, .string ⟨#[]⟩, .int .i64 0, .int .i64 0] 37 (0, 0))) :
    Calls Tryz.prog 38 #[.agg #[.slice (some ⟨g, 0, none⟩) 1 1, .int .i64 6, .string ⟨#[]⟩, .int .i64 10, .int .i64 0, .int .i64 0]] w fun e w' => e = .returned (.bool true) ∧ Below w.heap.size w w' := by
  have hlt : g < w.heap.size := (Array.getElem?_eq_some_iff.1 hN).1
  go_enter Tryz.func38, Tryz.ntmps38
  go_wp2_with fail
  refine (asked6 _ _ ⟨_, _, _, rfl⟩).mono ?_
  rintro e w2 ⟨rfl, hb⟩
  have HB := Aside0.mk (below_step (below_alloc (Below.refl _ _) _) hb)
  have hA : w2.heap[w.heap.size]? = some (.cells #[.slice (some ⟨g, 0, none⟩) 1 1, .int .i64 6, .string ⟨#[]⟩, .int .i64 10, .int .i64 0, .int .i64 0] 24 (0, 0)) := (hb.block _ (by rw [World.size_alloc]; omega)).trans (blk_new w _)
  have hA0 : w2.cell? ⟨w.heap.size, 0, none⟩ = some (.slice (some ⟨g, 0, none⟩) 1 1) := (blk_cell hA 0).trans rfl
  have HN2 := Aside0.mk ((HB.out.block g hlt).trans hN)
  clear hb hA hN
  have hmk := print_make_int (P := Tryz.prog) 101 3 (.int .i64 0) 8 Tryz.underlying101 info_i64 rfl (by decide) 1 (by decide) (by decide)
  rw [show (1 : Int).toNat = 1 from rfl] at hmk
  have hA1 : (w2.alloc (.cells (madeCells #[.int .i64 0] 1) 3)).cell? ⟨w.heap.size, 0, none⟩ = some (.slice (some ⟨g, 0, none⟩) 1 1) := ((below_alloc (Below.refl w2.heap.size w2) _).cell (World.block_lt_of_cell? w2 _ hA0)).trans hA0
  go_wp2_with fail
  go_loopg [31] 1 (fun kq v31 wr => ∃ i : Nat, v31 = .int .i64 (i : Int) ∧ kq + i = 1 ∧ Aside0 (Below w.heap.size w wr) ∧ Aside0 (i = 0 → wr.heap[g]? = w2.heap[g]?))
  case atStart => exact ⟨0, rfl, rfl, ⟨below_alloc HB.out _⟩, ⟨fun _ => (below_alloc (Below.refl w2.heap.size w2) _).block g (Nat.lt_of_lt_of_le hlt HB.out.size)⟩⟩
  case round =>
    clear hmk hA0 hA1
    obtain ⟨i, rfl, hi, HBr, HN⟩ := hrel
    by_cases hi0 : i = 0
    · subst hi0
      have hN := (HN.out rfl).trans HN2.out
      have k0 : wr.cell? ⟨g, 0, none⟩ = some (.int .i64 1) := (blk_cell hN 0).trans rfl
      have k1 : wr.cell? ⟨g, 1, none⟩ = some (.int .i64 0) := (blk_cell hN 1).trans rfl
      have k2 : wr.cell? ⟨g, 2, none⟩ = some (.int .i64 0) := (blk_cell hN 2).trans rfl
      have k3 : wr.cell? ⟨g, 3, none⟩ = some (.string ⟨#[]⟩) := (blk_cell hN 3).trans rfl
      have k4 : wr.cell? ⟨g, 4, none⟩ = some (.slice none 0 0) := (blk_cell hN 4).trans rfl
      have k5 : wr.cell? ⟨g, 5, none⟩ = some (.string ⟨#[]⟩) := (blk_cell hN 5).trans rfl
      have k6 : wr.cell? ⟨g, 6, none⟩ = some (.int .i64 0) := (blk_cell hN 6).trans rfl
      have k7 : wr.cell? ⟨g, 7, none⟩ = some (.int .i64 0) := (blk_cell hN 7).trans rfl
      clear hN HN
      go_wp2_with fail
      refine (right1 _).mono ?_
      rintro e w3 ⟨rfl, hb⟩
      have HB3 := Aside0.mk (below_step (below_alloc HBr.out _) hb)
      have hA : w3.heap[wr.heap.size]? = some (.cells #[.int .i64 1, .int .i64 0, .int .i64 0, .string ⟨#[]⟩, .slice none 0 0, .string ⟨#[]⟩, .int .i64 0, .int .i64 0] 37 (0, 0)) := (hb.block _ (by rw [World.size_alloc]; omega)).trans (blk_new wr _)
      have hA0 : w3.cell? ⟨wr.heap.size, 0, none⟩ = some (.int .i64 1) := (blk_cell hA 0).trans rfl
      clear hb hA k0 k1 k2 k3 k4 k5 k6 k7
      go_wp2_with fail
      go_loopg [56] 0 (fun kq v56 wq => v56 = .int .i64 0 ∧ wq = w3)
      case atStart => exact ⟨rfl, rfl⟩
      case round =>
        obtain ⟨rfl, rfl⟩ := hrel
        go_wp2_with fail
        go_roundg 0
        case measure => omega
        case rel => exact ⟨1, rfl, rfl, HB3, ⟨fun h => absurd h (by decide)⟩⟩
    · obtain rfl : i = 1 := by omega
      go_wp2_with fail
      refine (contains0 _ _ _).mono ?_
      rintro e w4 ⟨rfl, rfl⟩
      go_wp2_with fail
      go_ret
      exact ⟨rfl, HBr.out⟩
/-- The sums, row by row. -/
def sumQ : Nat → Value
  | 0 => .complex .f64 0 0
  | 1 => .complex .f64 4607182418800017408 0
  | 2 => .complex .f64 4607182418800017408 4607182418800017408
  | 3 => .complex .f64 4607182418800017408 4611686018427387904
  | _ => .complex .f64 4607182418800017408 4607182418800017408
theorem sum_0 (w : World) : (binOp .add 56 (sumQ 0) (dirQ 0)).run Tryz.prog w = .ok (sumQ 1) w := by kernel_rfl
theorem sum_1 (w : World) : (binOp .add 56 (sumQ 1) (dirQ 1)).run Tryz.prog w = .ok (sumQ 2) w := by kernel_rfl
theorem sum_2 (w : World) : (binOp .add 56 (sumQ 2) (dirQ 1)).run Tryz.prog w = .ok (sumQ 3) w := by kernel_rfl
theorem sum_3 (w : World) : (binOp .add 56 (sumQ 3) (dirQ 3)).run Tryz.prog w = .ok (sumQ 4) w := by kernel_rfl
abbrev rows4 : Array Value := #[.int .i64 0, .int .i64 0, .slice none 0 0, .int .i64 0, .int .i64 10, .slice none 0 0, .int .i64 0, .int .i64 10, .slice none 0 0, .int .i64 0, .int .i64 (-10), .slice none 0 0]
set_option maxHeartbeats 4000000 in
set_option maxRecDepth 100000 in
theorem rose4 (g : Nat) (w : World) (hN : w.heap[g]? = some (.cells rows4 27 (0, 0))) :
    Calls Tryz.prog 54 #[.slice (some ⟨g, 0, none⟩) 4 4, .int .i64 10] w fun e w' => e = .returned (sumQ 4) ∧ Below w.heap.size w w' := by
  have hlt : g < w.heap.size := (Array.getElem?_eq_some_iff.1 hN).1
  go_enter Tryz.func54, Tryz.ntmps54
  go_wp2
  go_loopg [5, 12] 4 (fun kq v5 v12 wr => ∃ i : Nat, v12 = .int .i64 (i : Int) ∧ v5 = sumQ i ∧ kq + i = 4 ∧ Aside0 (Below w.heap.size w wr))
  case atStart => exact ⟨0, rfl, rfl, rfl, ⟨Below.refl _ _⟩⟩
  case round =>
    obtain ⟨i, rfl, rfl, hi, HBr⟩ := hrel
    have hN2 := (HBr.out.block g hlt).trans hN
    obtain rfl | rfl | rfl | rfl | rfl : i = 0 ∨ i = 1 ∨ i = 2 ∨ i = 3 ∨ i = 4 := by omega
    · have k0 : wr.cell? ⟨g, 0, none⟩ = some (.int .i64 0) := (blk_cell hN2 0).trans rfl
      have k1 : wr.cell? ⟨g, 1, none⟩ = some (.int .i64 0) := (blk_cell hN2 1).trans rfl
      have k2 : wr.cell? ⟨g, 2, none⟩ = some (.slice none 0 0) := (blk_cell hN2 2).trans rfl
      clear hN2
      go_wp2_with fail
      refine (turn_ok 0 10 _ (by unfold inI; omega) (by omega) (by omega) 0 (by decide)).mono ?_
      rintro e w3 ⟨rfl, rfl⟩
      have hs := sum_0 (wr.alloc (Obj.cells #[.int .i64 0, .int .i64 0, .slice none 0 0] 27))
      go_wp2_with fail
      go_roundg 3
      case measure => omega
      case rel => exact ⟨1, rfl, rfl, rfl, ⟨below_alloc HBr.out _⟩⟩
    · have k0 : wr.cell? ⟨g, 3, none⟩ = some (.int .i64 0) := (blk_cell hN2 3).trans rfl
      have k1 : wr.cell? ⟨g, 4, none⟩ = some (.int .i64 10) := (blk_cell hN2 4).trans rfl
      have k2 : wr.cell? ⟨g, 5, none⟩ = some (.slice none 0 0) := (blk_cell hN2 5).trans rfl
      clear hN2
      go_wp2_with fail
      refine (turn_ok 10 10 _ (by unfold inI; omega) (by omega) (by omega) 1 (by decide)).mono ?_
      rintro e w3 ⟨rfl, rfl⟩
      have hs := sum_1 (wr.alloc (Obj.cells #[.int .i64 0, .int .i64 10, .slice none 0 0] 27))
      go_wp2_with fail
      go_roundg 2
      case measure => omega
      case rel => exact ⟨2, rfl, rfl, rfl, ⟨below_alloc HBr.out _⟩⟩
    · have k0 : wr.cell? ⟨g, 6, none⟩ = some (.int .i64 0) := (blk_cell hN2 6).trans rfl
      have k1 : wr.cell? ⟨g, 7, none⟩ = some (.int .i64 10) := (blk_cell hN2 7).trans rfl
      have k2 : wr.cell? ⟨g, 8, none⟩ = some (.slice none 0 0) := (blk_cell hN2 8).trans rfl
      clear hN2
      go_wp2_with fail
      refine (turn_ok 10 10 _ (by unfold inI; omega) (by omega) (by omega) 1 (by decide)).mono ?_
      rintro e w3 ⟨rfl, rfl⟩
      have hs := sum_2 (wr.alloc (Obj.cells #[.int .i64 0, .int .i64 10, .slice none 0 0] 27))
      go_wp2_with fail
      go_roundg 1
      case measure => omega
      case rel => exact ⟨3, rfl, rfl, rfl, ⟨below_alloc HBr.out _⟩⟩
    · have k0 : wr.cell? ⟨g, 9, none⟩ = some (.int .i64 0) := (blk_cell hN2 9).trans rfl
      have k1 : wr.cell? ⟨g, 10, none⟩ = some (.int .i64 (-10)) := (blk_cell hN2 10).trans rfl
      have k2 : wr.cell? ⟨g, 11, none⟩ = some (.slice none 0 0) := (blk_cell hN2 11).trans rfl
      clear hN2
      go_wp2_with fail
      refine (turn_ok (-10) 10 _ (by unfold inI; omega) (by omega) (by omega) 3 (by decide)).mono ?_
      rintro e w3 ⟨rfl, rfl⟩
      have hs := sum_3 (wr.alloc (Obj.cells #[.int .i64 0, .int .i64 (-10), .slice none 0 0] 27))
      go_wp2_with fail
      go_roundg 0
      case measure => omega
      case rel => exact ⟨4, rfl, rfl, rfl, ⟨below_alloc HBr.out _⟩⟩
    · go_wp2_with fail
      go_ret
      exact ⟨rfl, HBr.out⟩
end Go.Proofs.YtehaodbheifokaaGreatDoor.P
