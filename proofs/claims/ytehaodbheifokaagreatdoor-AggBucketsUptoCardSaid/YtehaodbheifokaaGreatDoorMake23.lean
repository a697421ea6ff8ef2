/- agg.Make and the fixed fact of the statements on agg. -/
import Derived.Test.YtehaodbheifokaaGreatDoorAlive23
import Derived.Handy
namespace Go.Proofs.YtehaodbheifokaaGreatDoor.P
open Go Go.RowKit Go.Proofs.YtehaodbheifokaaGreatDoorW.PrintWords Go.Proofs.YtehaodbheifokaaGreatDoorW.PrintLast Go.Proofs.YtehaodbheifokaaGreatDoorW.PrintMore
attribute [local go_sem] max2_int min2_int max_two min_two
set_option linter.unusedVariables false
set_option linter.unusedSimpArgs false

theorem real_4 (w : World) : (Builtin.real_ #[56] 73 #[sumQ 4]).run Tryz.prog w = .ok (.float .f64 4607182418800017408) w := by kernel_rfl
theorem conv_4 (w : World) : (convert 73 3 (.float .f64 4607182418800017408)).run Tryz.prog w = .ok (.int .i64 1) w := by kernel_rfl
theorem imag_4 (w : World) : (Builtin.imag_ #[56] 73 #[sumQ 4]).run Tryz.prog w = .ok (.float .f64 4607182418800017408) w := by kernel_rfl
set_option maxHeartbeats 4000000 in
set_option maxRecDepth 100000 in
theorem make1 (g h : Nat) (w : World) (hN : w.heap[g]? = some (.cells #[.int .i64 1, .int .i64 0, .int .i64 0, .string ⟨#[]⟩, .slice none 0 0, .string ⟨#[]⟩, .int .i64 0, .int .i64 0] 37 (0, 0))) (hR : w.heap[h]? = some (.cells rows4 27 (0, 0))) :
    Calls Tryz.prog 32 #[.agg #[.slice (some ⟨g, 0, none⟩) 1 1, .int .i64 6, .string ⟨#[]⟩, .int .i64 10, .int .i64 0, .int .i64 0], .slice (some ⟨h, 0, none⟩) 4 4] w fun e w' => e = .returned (.tuple #[.agg #[.slice none 0 0, .slice none 0 0, .int .i64 4, .int .i64 1, .int .i64 1, .int .i64 0, .int .i64 0], .int .i64 0]) ∧ Below w.heap.size w w' := by
  have hlt : g < w.heap.size := (Array.getElem?_eq_some_iff.1 hN).1
  have hlt2 : h < w.heap.size := (Array.getElem?_eq_some_iff.1 hR).1
  go_enter Tryz.func32, Tryz.ntmps32
  go_wp2_with fail
  refine (formed1 g _ ?hn).mono ?_
  case hn => exact ((below_alloc (below_alloc (Below.refl w.heap.size w) _) _).block g hlt).trans hN
  rintro e w2 ⟨rfl, hb⟩
  have HB := Aside0.mk (below_step (below_alloc (below_alloc (Below.refl w.heap.size w) _) _) hb)
  have hA : w2.heap[w.heap.size]? = some (.cells #[.slice (some ⟨g, 0, none⟩) 1 1, .int .i64 6, .string ⟨#[]⟩, .int .i64 10, .int .i64 0, .int .i64 0] 24 (0, 0)) := by
    refine (hb.block _ (by rw [World.size_alloc, World.size_alloc]; omega)).trans ?_
    exact ((below_alloc (Below.refl (w.alloc _).heap.size (w.alloc _)) _).block _ (by rw [World.size_alloc]; omega)).trans (blk_new w _)
  have hA1 : w2.cell? ⟨w.heap.size, 1, none⟩ = some (.int .i64 6) := (blk_cell hA 1).trans rfl
  have hA3 : w2.cell? ⟨w.heap.size, 3, none⟩ = some (.int .i64 10) := (blk_cell hA 3).trans rfl
  have hA1' : (w2.alloc (.cells #[.slice none 0 0, .slice none 0 0, .int .i64 4, .int .i64 0, .int .i64 0, .int .i64 0, .int .i64 0] 65)).cell? ⟨w.heap.size, 1, none⟩ = some (.int .i64 6) := ((below_alloc (Below.refl w2.heap.size w2) _).cell (World.block_lt_of_cell? w2 _ hA1)).trans hA1
  have hA3' : (w2.alloc (.cells #[.slice none 0 0, .slice none 0 0, .int .i64 4, .int .i64 0, .int .i64 0, .int .i64 0, .int .i64 0] 65)).cell? ⟨w.heap.size, 3, none⟩ = some (.int .i64 10) := ((below_alloc (Below.refl w2.heap.size w2) _).cell (World.block_lt_of_cell? w2 _ hA3)).trans hA3
  have hO : w2.heap[w.heap.size + 1]? = some (.cells #[.slice none 0 0, .slice none 0 0, .int .i64 0, .int .i64 0, .int .i64 0, .int .i64 0, .int .i64 0] 65 (0, 0)) := by
    refine (hb.block (w.heap.size + 1) (by rw [World.size_alloc, World.size_alloc]; omega)).trans ?_
    have h := blk_new (w.alloc (.cells #[.slice (some ⟨g, 0, none⟩) 1 1, .int .i64 6, .string ⟨#[]⟩, .int .i64 10, .int .i64 0, .int .i64 0] 24)) (.cells #[.slice none 0 0, .slice none 0 0, .int .i64 0, .int .i64 0, .int .i64 0, .int .i64 0, .int .i64 0] 65)
    rwa [World.size_alloc] at h
  clear hb hA hA1 hA3
  go_wp2_with fail
  refine (rose4 h _ ?hr).mono ?_
  case hr => exact ((below_alloc HB.out _).block h hlt2).trans hR
  rintro e w3 ⟨rfl, hb3⟩
  have hl2 : w.heap.size + 1 < w2.heap.size := (Array.getElem?_eq_some_iff.1 hO).1
  have hB : w3.heap[w2.heap.size]? = some (.cells #[.slice none 0 0, .slice none 0 0, .int .i64 4, .int .i64 0, .int .i64 0, .int .i64 0, .int .i64 0] 65 (0, 0)) := (hb3.block _ (by rw [World.size_alloc]; omega)).trans (blk_new w2 _)
  have hO3 : w3.heap[w.heap.size + 1]? = some (.cells #[.slice none 0 0, .slice none 0 0, .int .i64 0, .int .i64 0, .int .i64 0, .int .i64 0, .int .i64 0] 65 (0, 0)) := (hb3.block _ (by rw [World.size_alloc]; omega)).trans (((below_alloc (Below.refl w2.heap.size w2) _).block _ hl2).trans hO)
  have c0 : w3.cell? ⟨w2.heap.size, 0, none⟩ = some (.slice none 0 0) := (blk_cell hB 0).trans rfl
  have z0 : w3.frozen? ⟨w2.heap.size, 0, none⟩ = false := blk_frozen hB 0
  have c1 : w3.cell? ⟨w2.heap.size, 1, none⟩ = some (.slice none 0 0) := (blk_cell hB 1).trans rfl
  have z1 : w3.frozen? ⟨w2.heap.size, 1, none⟩ = false := blk_frozen hB 1
  have c2 : w3.cell? ⟨w2.heap.size, 2, none⟩ = some (.int .i64 4) := (blk_cell hB 2).trans rfl
  have z2 : w3.frozen? ⟨w2.heap.size, 2, none⟩ = false := blk_frozen hB 2
  have c3 : w3.cell? ⟨w2.heap.size, 3, none⟩ = some (.int .i64 0) := (blk_cell hB 3).trans rfl
  have z3 : w3.frozen? ⟨w2.heap.size, 3, none⟩ = false := blk_frozen hB 3
  have c4 : w3.cell? ⟨w2.heap.size, 4, none⟩ = some (.int .i64 0) := (blk_cell hB 4).trans rfl
  have z4 : w3.frozen? ⟨w2.heap.size, 4, none⟩ = false := blk_frozen hB 4
  have c5 : w3.cell? ⟨w2.heap.size, 5, none⟩ = some (.int .i64 0) := (blk_cell hB 5).trans rfl
  have z5 : w3.frozen? ⟨w2.heap.size, 5, none⟩ = false := blk_frozen hB 5
  have c6 : w3.cell? ⟨w2.heap.size, 6, none⟩ = some (.int .i64 0) := (blk_cell hB 6).trans rfl
  have z6 : w3.frozen? ⟨w2.heap.size, 6, none⟩ = false := blk_frozen hB 6
  have d0 : w3.cell? ⟨w.heap.size + 1, 0, none⟩ = some (.slice none 0 0) := (blk_cell hO3 0).trans rfl
  have y0 : w3.frozen? ⟨w.heap.size + 1, 0, none⟩ = false := blk_frozen hO3 0
  have d1 : w3.cell? ⟨w.heap.size + 1, 1, none⟩ = some (.slice none 0 0) := (blk_cell hO3 1).trans rfl
  have y1 : w3.frozen? ⟨w.heap.size + 1, 1, none⟩ = false := blk_frozen hO3 1
  have d2 : w3.cell? ⟨w.heap.size + 1, 2, none⟩ = some (.int .i64 0) := (blk_cell hO3 2).trans rfl
  have y2 : w3.frozen? ⟨w.heap.size + 1, 2, none⟩ = false := blk_frozen hO3 2
  have d3 : w3.cell? ⟨w.heap.size + 1, 3, none⟩ = some (.int .i64 0) := (blk_cell hO3 3).trans rfl
  have y3 : w3.frozen? ⟨w.heap.size + 1, 3, none⟩ = false := blk_frozen hO3 3
  have d4 : w3.cell? ⟨w.heap.size + 1, 4, none⟩ = some (.int .i64 0) := (blk_cell hO3 4).trans rfl
  have y4 : w3.frozen? ⟨w.heap.size + 1, 4, none⟩ = false := blk_frozen hO3 4
  have d5 : w3.cell? ⟨w.heap.size + 1, 5, none⟩ = some (.int .i64 0) := (blk_cell hO3 5).trans rfl
  have y5 : w3.frozen? ⟨w.heap.size + 1, 5, none⟩ = false := blk_frozen hO3 5
  have d6 : w3.cell? ⟨w.heap.size + 1, 6, none⟩ = some (.int .i64 0) := (blk_cell hO3 6).trans rfl
  have y6 : w3.frozen? ⟨w.heap.size + 1, 6, none⟩ = false := blk_frozen hO3 6
  have hl3 := hl2
  have hne : w.heap.size + 1 ≠ w2.heap.size := by omega
  have HB3 := Aside0.mk (below_step (below_alloc HB.out _) hb3)
  clear hB hO3 hb3 hO hA1' hA3' hl2
  have hre := real_4 w3
  have hcv := conv_4 w3
  have him := imag_4 w3
  go_wp2_with fail
  (try simp only [Exit.inBlock, Exit.then])
  refine bodyPost_ret (by simp [results, Tryz.results32, go_sem, d0, d1, d2, d3, d4, d5, d6, hne]; try rfl) rfl ?_
  exact ⟨rfl, (((((((((HB3.out.setCell (p := ⟨w2.heap.size, 3, none⟩) (Nat.le_trans (Nat.le_succ _) (Nat.le_of_lt hl3)) _).setCell (p := ⟨w2.heap.size, 4, none⟩) (Nat.le_trans (Nat.le_succ _) (Nat.le_of_lt hl3)) _).setCell (p := ⟨w.heap.size + 1, 0, none⟩) (Nat.le_succ _) _).setCell (p := ⟨w.heap.size + 1, 1, none⟩) (Nat.le_succ _) _).setCell (p := ⟨w.heap.size + 1, 2, none⟩) (Nat.le_succ _) _).setCell (p := ⟨w.heap.size + 1, 3, none⟩) (Nat.le_succ _) _).setCell (p := ⟨w.heap.size + 1, 4, none⟩) (Nat.le_succ _) _).setCell (p := ⟨w.heap.size + 1, 5, none⟩) (Nat.le_succ _) _).setCell (p := ⟨w.heap.size + 1, 6, none⟩) (Nat.le_succ _) _)⟩
set_option maxHeartbeats 4000000 in
set_option maxRecDepth 100000 in
theorem ask1 (w : World) :
    Calls Tryz.prog 35 #[.int .i64 6, .string ⟨#[]⟩, .int .i64 10] w fun e w' => ∃ g, e = .returned (.agg #[.slice (some ⟨g, 0, none⟩) 1 1, .int .i64 6, .string ⟨#[]⟩, .int .i64 10, .int .i64 0, .int .i64 0]) ∧ w'.heap[g]? = some (.cells #[.int .i64 1, .int .i64 0, .int .i64 0, .string ⟨#[]⟩, .slice none 0 0, .string ⟨#[]⟩, .int .i64 0, .int .i64 0] 37 (0, 0)) ∧ Below w.heap.size w w' := by
  go_enter Tryz.func35, Tryz.ntmps35
  go_wp2_with fail
  go_returns
  refine ⟨w.heap.size + 1, rfl, ?_, by repeat (first | exact Below.refl _ _ | apply below_alloc)⟩
  have h := blk_new (w.alloc (.cells #[.slice (some ⟨w.heap.size + 1, 0, none⟩) 1 1, .int .i64 6, .string ⟨#[]⟩, .int .i64 10, .int .i64 0, .int .i64 0] 24)) (.cells #[.int .i64 1, .int .i64 0, .int .i64 0, .string ⟨#[]⟩, .slice none 0 0, .string ⟨#[]⟩, .int .i64 0, .int .i64 0] 37)
  rwa [World.size_alloc] at h
set_option maxHeartbeats 4000000 in
set_option maxRecDepth 100000 in
theorem alive1 (w : World) :
    Calls Tryz.prog 27 #[] w fun e w' => e = .returned (.bool true) ∧ Below w.heap.size w w' := by
  go_enter Tryz.func27, Tryz.ntmps27
  go_wp2_with fail
  refine (bucket_calls (-1) 10 _ (by unfold inI; omega) (by omega)).mono ?_
  rw [show bucketF (-1) 10 = -1 by decide]
  rintro e w2 ⟨rfl, rfl⟩
  go_wp2_with fail
  refine (ask1 _).mono ?_
  rintro e w3 ⟨g, rfl, hN, hb⟩
  have HB := Aside0.mk hb
  clear hb
  go_wp2_with fail
  refine (make1 g w3.heap.size _ ?ha ?hb).mono ?_
  case ha => exact blk_alloc hN _
  case hb => exact blk_new w3 _
  rintro e w4 ⟨rfl, hb⟩
  have HB4 := Aside0.mk (below_step (below_alloc HB.out _) hb)
  clear hb hN
  go_wp2_with fail
  go_ret
  exact ⟨rfl, below_alloc HB4.out _⟩
end Go.Proofs.YtehaodbheifokaaGreatDoor.P
