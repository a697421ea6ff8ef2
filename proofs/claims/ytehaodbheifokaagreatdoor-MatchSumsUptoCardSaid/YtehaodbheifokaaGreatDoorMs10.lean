/- Joined by wip/tools/pack.py, pruned: LawSumsW20. -/
import Derived.Test.YtehaodbheifokaaGreatDoorMs9
set_option maxHeartbeats 8000000
set_option maxRecDepth 100000
set_option linter.unusedVariables false
set_option linter.unusedSimpArgs false
section
namespace Go.Proofs.YtehaodbheifokaaGreatDoor.P
open Go Go.RowKit Go.Proofs.YtehaodbheifokaaGreatDoorW.PrintWords Go.Proofs.YtehaodbheifokaaGreatDoorW.PrintLast Go.Proofs.YtehaodbheifokaaGreatDoorW.PrintMore
attribute [local go_sem] max2_int min2_int max_two min_two
def sums_r.T19 : Bool × List (List Nat × List Nat) := (true, [([], []), ([], []), ([1], [1]), ([], []), ([2, 3], [2, 3]), ([4], [4]), ([0, 5], [0, 5]), ([], []), ([6, 7, 6], [6, 7]), ([8], [8]), ([9], [9]), ([9], [9]), ([10, 8, 0, 1, 2, 3, 4, 5, 6, 7, 8, 9, 10], [10]), ([11, 12, 0, 1, 2, 3, 4, 5, 6, 7, 8, 9, 10, 11, 12], [11])])
def sums_r.B19 : List Nat := [0, 0, 2, 0, 14, 30, 63, 0, 255, 511, 1023, 1023, 2047, 8191]
theorem sums_r.tab19 : rtab .any (opsOf Tryz.f4 19) = sums_r.T19 := by kernel_rfl
theorem sums_r.bits19 : waitsOk sums_r.T19.2 sums_r.B19 = true := by kernel_rfl
def sums_r.T20 : Bool × List (List Nat × List Nat) := (true, [([], []), ([], []), ([1], [1]), ([], []), ([3], [3]), ([0, 2, 4], [0, 2, 4]), ([], []), ([6], [6]), ([], []), ([7, 8], [7, 8]), ([9], [9]), ([5, 10], [5, 10]), ([], []), ([11, 12, 11], [11, 12]), ([13], [13]), ([14], [14]), ([14], [14]), ([15, 13, 0, 1, 2, 3, 4, 5, 6, 7, 8, 9, 10, 11, 12, 13, 14, 15], [15]), ([16, 17, 0, 1, 2, 3, 4, 5, 6, 7, 8, 9, 10, 11, 12, 13, 14, 15, 16, 17], [16])])
def sums_r.B20 : List Nat := [0, 0, 2, 0, 8, 31, 0, 64, 0, 448, 960, 2047, 0, 8191, 16383, 32767, 32767, 65535, 262143]
theorem sums_r.tab20 : rtab .any (opsOf Tryz.f4 20) = sums_r.T20 := by kernel_rfl
theorem sums_r.bits20 : waitsOk sums_r.T20.2 sums_r.B20 = true := by kernel_rfl
def sums_r.T21 : Bool × List (List Nat × List Nat) := (true, [([], []), ([0], [0]), ([1], [1]), ([], []), ([3], [3]), ([4], [4]), ([5], [5]), ([2, 6, 1], [2, 6]), ([], []), ([7, 8, 7], [7, 8]), ([9], [9]), ([10], [10]), ([10], [10]), ([11, 9, 0, 1, 2, 3, 4, 5, 6, 7, 8, 9, 10, 11], [11]), ([12, 13, 0, 1, 2, 3, 4, 5, 6, 7, 8, 9, 10, 11, 12, 13], [12])])
def sums_r.B21 : List Nat := [0, 1, 3, 0, 8, 24, 56, 127, 0, 511, 1023, 2047, 2047, 4095, 16383]
theorem sums_r.tab21 : rtab .any (opsOf Tryz.f4 21) = sums_r.T21 := by kernel_rfl
theorem sums_r.bits21 : waitsOk sums_r.T21.2 sums_r.B21 = true := by kernel_rfl
theorem row_cells {W : World} {q : Nat} {v0 v1 v2 : Value} (h : W.heap[q]? = some (.cells #[v0, v1, v2] 27 (0, 0))) : W.cell? ⟨q, 0, none⟩ = some v0 ∧ W.cell? ⟨q, 1, none⟩ = some v1 ∧ W.cell? ⟨q, 2, none⟩ = some v2 := ⟨(blk_cell h 0).trans rfl, (blk_cell h 1).trans rfl, (blk_cell h 2).trans rfl⟩
theorem ask_cells {W : World} {q : Nat} {v0 v1 v2 v3 v4 v5 : Value} (h : W.heap[q]? = some (.cells #[v0, v1, v2, v3, v4, v5] 24 (0, 0))) : W.cell? ⟨q, 0, none⟩ = some v0 ∧ W.cell? ⟨q, 1, none⟩ = some v1 ∧ W.cell? ⟨q, 2, none⟩ = some v2 ∧ W.cell? ⟨q, 3, none⟩ = some v3 ∧ W.cell? ⟨q, 4, none⟩ = some v4 ∧ W.cell? ⟨q, 5, none⟩ = some v5 := ⟨(blk_cell h 0).trans rfl, (blk_cell h 1).trans rfl, (blk_cell h 2).trans rfl, (blk_cell h 3).trans rfl, (blk_cell h 4).trans rfl, (blk_cell h 5).trans rfl⟩
theorem news_at {W : World} {q : Nat} {cs : List Value} {e : Nat} (h : W.heap[q]? = some (.cells cs.toArray e (0, 0))) : ∀ j u, cs[j]? = some u → W.cell? ⟨q, j, none⟩ = some u := fun j u hu => by rw [blk_cell h]; simpa using hu
theorem take_step {α β : Type} {f : α → β} {l : List α} {i : Nat} {x : α} (h : l[i]? = some x) : (l.take (i + 1)).map f = (l.take i).map f ++ [f x] := by
 rw [List.take_add_one, h]
 simp
theorem sums_walk (A A2 : Option Addr) (c c2 : Nat) (ns ms : List ND) (k : Int) (ky : ByteArray) (wd sk mo : Int) (k2 : Int) (ky2 : ByteArray) (wd2 sk2 mo2 : Int) (s t : Int) (AL : Option Addr) (cL : Nat) (l : List Int) (w : World) (fa fb pa pb : Bool)
  (HAL : Aside0 (∀ W : World, Below w.heap.size w W → Calls Tryz.prog 13 #[] W fun e w' => e = .returned (.bool true) ∧ Below W.heap.size W w'))
  (HFA : Aside0 (∀ W : World, Below w.heap.size w W → Calls Tryz.prog 16 #[.agg #[.slice A ns.length c, .int .i64 k, .string ky, .int .i64 wd, .int .i64 sk, .int .i64 mo]] W fun e w' => e = .returned (.bool fa) ∧ Below W.heap.size W w'))
  (HFB : Aside0 (∀ W : World, Below w.heap.size w W → Calls Tryz.prog 16 #[.agg #[.slice A2 ms.length c2, .int .i64 k2, .string ky2, .int .i64 wd2, .int .i64 sk2, .int .i64 mo2]] W fun e w' => e = .returned (.bool fb) ∧ Below W.heap.size W w'))
  (HNA : Aside0 (fa = true → 1 ≤ ns.length ∧ ns.length ≤ 64)) (HNB : Aside0 (fb = true → 1 ≤ ms.length ∧ ms.length ≤ 64))
  (HCP : Aside0 (fa = true → ∀ W : World, Below w.heap.size w W → Calls Tryz.prog 17 #[.agg #[.slice A ns.length c, .int .i64 k, .string ky, .int .i64 wd, .int .i64 sk, .int .i64 mo]] W fun e w' => ∃ v0 : Value, e = .returned (.agg #[v0, .int .i64 k, .string ky, .int .i64 wd, .int .i64 sk, .int .i64 mo]) ∧ Kd.N k37 37 w' W.heap.size (fun q => q < w.heap.size ∨ W.heap.size ≤ q) v0 ns ∧ Below W.heap.size W w'))
  (HC2 : Aside0 (Kd.F k37 w (fun q => q < w.heap.size) A2 ms.length ms)) (HPT : Aside0 (fb = true → ∀ x ∈ ms, (10 ≤ x.f0 → 0 ≤ x.f1 ∧ x.f1 ≤ 64) ∧ (x.f0 = 10 ∨ x.f0 = 11 → 0 ≤ x.f2 ∧ x.f2 ≤ 64)))
  (HOA : Aside0 (l.length ≤ 2000 → fa = true → ∀ W : World, Below w.heap.size w W → Calls Tryz.prog 18 #[.slice A ns.length c, .agg #[.int .i64 s, .int .i64 t, .slice AL l.length cL]] W fun e w' => e = .returned (.tuple #[.bool (pa), .bool true]) ∧ Below W.heap.size W w'))
  (HOB : Aside0 (l.length ≤ 2000 → fb = true → ∀ W : World, Below w.heap.size w W → Calls Tryz.prog 18 #[.slice A2 ms.length c2, .agg #[.int .i64 s, .int .i64 t, .slice AL l.length cL]] W fun e w' => e = .returned (.tuple #[.bool (pb), .bool true]) ∧ Below W.heap.size W w'))
  (HJN : Aside0 (l.length ≤ 2000 → fa = true → fb = true → ns.length + ms.length ≤ 63 → ∀ (kd : Int) (g c1 : Nat) (W : World), kd = 10 ∨ kd = 11 → Below w.heap.size w W → Rd k37 W g ((ns ++ ms.map (shiftN ns.length)) ++ [topN kd ((ns.length : Int) - 1) ((ns.length : Int) + (ms.length : Int) - 1)]) → (ns ++ ms.map (shiftN ns.length)).length + 1 ≤ c1 → Calls Tryz.prog 18 #[.slice (some ⟨g, 0, none⟩) ((ns ++ ms.map (shiftN ns.length)).length + 1) c1, .agg #[.int .i64 s, .int .i64 t, .slice AL l.length cL]] W fun e w' => e = .returned (.tuple #[.bool (if kd = 10 then (pa && pb) else (pa || pb)), .bool true]) ∧ Below W.heap.size W w'))
  (HNT : Aside0 (l.length ≤ 2000 → fa = true → ns.length ≤ 63 → ∀ (g c1 : Nat) (W : World), Below w.heap.size w W → Rd k37 W g (ns ++ [topN 12 ((ns.length : Int) - 1) 0]) → ns.length + 1 ≤ c1 → Calls Tryz.prog 18 #[.slice (some ⟨g, 0, none⟩) (ns.length + 1) c1, .agg #[.int .i64 s, .int .i64 t, .slice AL l.length cL]] W fun e w' => e = .returned (.tuple #[.bool (!pa), .bool true]) ∧ Below W.heap.size W w')) :
  Calls Tryz.prog 4 #[.agg #[.slice A ns.length c, .int .i64 k, .string ky, .int .i64 wd, .int .i64 sk, .int .i64 mo], .agg #[.slice A2 ms.length c2, .int .i64 k2, .string ky2, .int .i64 wd2, .int .i64 sk2, .int .i64 mo2], .agg #[.int .i64 s, .int .i64 t, .slice AL l.length cL]] w fun e w' => e = .returned (.bool true) ∧ Below w.heap.size w w' := by
 have HA := Aside0.mk (blk_alloc (blk_alloc (blk_new w (Obj.cells #[.slice A ns.length c, .int .i64 k, .string ky, .int .i64 wd, .int .i64 sk, .int .i64 mo] 24)) (Obj.cells #[.slice A2 ms.length c2, .int .i64 k2, .string ky2, .int .i64 wd2, .int .i64 sk2, .int .i64 mo2] 24)) (Obj.cells #[.int .i64 s, .int .i64 t, .slice AL l.length cL] 27))
 have hB_ := blk_alloc (blk_new (w.alloc (Obj.cells #[.slice A ns.length c, .int .i64 k, .string ky, .int .i64 wd, .int .i64 sk, .int .i64 mo] 24)) (Obj.cells #[.slice A2 ms.length c2, .int .i64 k2, .string ky2, .int .i64 wd2, .int .i64 sk2, .int .i64 mo2] 24)) (Obj.cells #[.int .i64 s, .int .i64 t, .slice AL l.length cL] 27)
 rw [World.size_alloc] at hB_
 have HB := Aside0.mk hB_
 have hR_ := blk_new ((w.alloc (Obj.cells #[.slice A ns.length c, .int .i64 k, .string ky, .int .i64 wd, .int .i64 sk, .int .i64 mo] 24)).alloc (Obj.cells #[.slice A2 ms.length c2, .int .i64 k2, .string ky2, .int .i64 wd2, .int .i64 sk2, .int .i64 mo2] 24)) (Obj.cells #[.int .i64 s, .int .i64 t, .slice AL l.length cL] 27)
 rw [World.size_alloc, World.size_alloc] at hR_
 have HR := Aside0.mk hR_
 have HW := Aside0.mk (show Below w.heap.size w (((w.alloc (Obj.cells #[.slice A ns.length c, .int .i64 k, .string ky, .int .i64 wd, .int .i64 sk, .int .i64 mo] 24)).alloc (Obj.cells #[.slice A2 ms.length c2, .int .i64 k2, .string ky2, .int .i64 wd2, .int .i64 sk2, .int .i64 mo2] 24)).alloc (Obj.cells #[.int .i64 s, .int .i64 t, .slice AL l.length cL] 27)) from below_alloc (below_alloc (below_alloc (Below.refl _ _) _) _) _)
 clear hB_ hR_
 go_enter Tryz.func4, Tryz.ntmps4
 go_wp2_with fail
 refine (HAL.out _ HW.out).mono ?_
 rintro e w2 ⟨rfl, hb2⟩
 have HW_ := Aside0.mk (below_step HW.out hb2)
 have HA_ := Aside0.mk (blk_below HA.out hb2)
 have HB_ := Aside0.mk (blk_below HB.out hb2)
 have HR_ := Aside0.mk (blk_below HR.out hb2)
 clear HW HA HB HR
 have HW := HW_
 have HA := HA_
 have HB := HB_
 have HR := HR_
 clear HW_ HA_ HB_ HR_ hb2
 have hA_ := HA.out
 have a0 : w2.cell? ⟨w.heap.size, 0, none⟩ = some (.slice A ns.length c) := (blk_cell hA_ 0).trans rfl
 have a1 : w2.cell? ⟨w.heap.size, 1, none⟩ = some (.int .i64 k) := (blk_cell hA_ 1).trans rfl
 have a2 : w2.cell? ⟨w.heap.size, 2, none⟩ = some (.string ky) := (blk_cell hA_ 2).trans rfl
 have a3 : w2.cell? ⟨w.heap.size, 3, none⟩ = some (.int .i64 wd) := (blk_cell hA_ 3).trans rfl
 have a4 : w2.cell? ⟨w.heap.size, 4, none⟩ = some (.int .i64 sk) := (blk_cell hA_ 4).trans rfl
 have a5 : w2.cell? ⟨w.heap.size, 5, none⟩ = some (.int .i64 mo) := (blk_cell hA_ 5).trans rfl
 have hB_ := HB.out
 have b0 : w2.cell? ⟨w.heap.size + 1, 0, none⟩ = some (.slice A2 ms.length c2) := (blk_cell hB_ 0).trans rfl
 have b1 : w2.cell? ⟨w.heap.size + 1, 1, none⟩ = some (.int .i64 k2) := (blk_cell hB_ 1).trans rfl
 have b2 : w2.cell? ⟨w.heap.size + 1, 2, none⟩ = some (.string ky2) := (blk_cell hB_ 2).trans rfl
 have b3 : w2.cell? ⟨w.heap.size + 1, 3, none⟩ = some (.int .i64 wd2) := (blk_cell hB_ 3).trans rfl
 have b4 : w2.cell? ⟨w.heap.size + 1, 4, none⟩ = some (.int .i64 sk2) := (blk_cell hB_ 4).trans rfl
 have b5 : w2.cell? ⟨w.heap.size + 1, 5, none⟩ = some (.int .i64 mo2) := (blk_cell hB_ 5).trans rfl
 have hR_ := HR.out
 have r0 : w2.cell? ⟨w.heap.size + 1 + 1, 0, none⟩ = some (.int .i64 s) := (blk_cell hR_ 0).trans rfl
 have r1 : w2.cell? ⟨w.heap.size + 1 + 1, 1, none⟩ = some (.int .i64 t) := (blk_cell hR_ 1).trans rfl
 have r2 : w2.cell? ⟨w.heap.size + 1 + 1, 2, none⟩ = some (.slice AL l.length cL) := (blk_cell hR_ 2).trans rfl
 clear hA_ hB_ hR_
 by_cases hl : 2000 < l.length
 ·have d1 : decide ((2000 : Int) < (l.length : Int)) = true := decide_eq_true (by omega)
  go_wp2_with fail
  go_ret
  exact ⟨rfl, HW.out⟩
 have d1 : decide ((2000 : Int) < (l.length : Int)) = false := decide_eq_false (by omega)
 have HL := Aside0.mk (show l.length ≤ 2000 by omega)
 clear hl
 go_wp2_with fail
 refine (HFA.out _ HW.out).mono ?_
 rintro e w3 ⟨rfl, hb3⟩
 have HW_ := Aside0.mk (below_step HW.out hb3)
 have HA_ := Aside0.mk (blk_below HA.out hb3)
 have HB_ := Aside0.mk (blk_below HB.out hb3)
 have HR_ := Aside0.mk (blk_below HR.out hb3)
 clear HW HA HB HR
 have HW := HW_
 have HA := HA_
 have HB := HB_
 have HR := HR_
 clear HW_ HA_ HB_ HR_ hb3
 clear a0 a1 a2 a3 a4 a5 b0 b1 b2 b3 b4 b5 r0 r1 r2
 have hA_ := HA.out
 have a0 : w3.cell? ⟨w.heap.size, 0, none⟩ = some (.slice A ns.length c) := (blk_cell hA_ 0).trans rfl
 have a1 : w3.cell? ⟨w.heap.size, 1, none⟩ = some (.int .i64 k) := (blk_cell hA_ 1).trans rfl
 have a2 : w3.cell? ⟨w.heap.size, 2, none⟩ = some (.string ky) := (blk_cell hA_ 2).trans rfl
 have a3 : w3.cell? ⟨w.heap.size, 3, none⟩ = some (.int .i64 wd) := (blk_cell hA_ 3).trans rfl
 have a4 : w3.cell? ⟨w.heap.size, 4, none⟩ = some (.int .i64 sk) := (blk_cell hA_ 4).trans rfl
 have a5 : w3.cell? ⟨w.heap.size, 5, none⟩ = some (.int .i64 mo) := (blk_cell hA_ 5).trans rfl
 have hB_ := HB.out
 have b0 : w3.cell? ⟨w.heap.size + 1, 0, none⟩ = some (.slice A2 ms.length c2) := (blk_cell hB_ 0).trans rfl
 have b1 : w3.cell? ⟨w.heap.size + 1, 1, none⟩ = some (.int .i64 k2) := (blk_cell hB_ 1).trans rfl
 have b2 : w3.cell? ⟨w.heap.size + 1, 2, none⟩ = some (.string ky2) := (blk_cell hB_ 2).trans rfl
 have b3 : w3.cell? ⟨w.heap.size + 1, 3, none⟩ = some (.int .i64 wd2) := (blk_cell hB_ 3).trans rfl
 have b4 : w3.cell? ⟨w.heap.size + 1, 4, none⟩ = some (.int .i64 sk2) := (blk_cell hB_ 4).trans rfl
 have b5 : w3.cell? ⟨w.heap.size + 1, 5, none⟩ = some (.int .i64 mo2) := (blk_cell hB_ 5).trans rfl
 have hR_ := HR.out
 have r0 : w3.cell? ⟨w.heap.size + 1 + 1, 0, none⟩ = some (.int .i64 s) := (blk_cell hR_ 0).trans rfl
 have r1 : w3.cell? ⟨w.heap.size + 1 + 1, 1, none⟩ = some (.int .i64 t) := (blk_cell hR_ 1).trans rfl
 have r2 : w3.cell? ⟨w.heap.size + 1 + 1, 2, none⟩ = some (.slice AL l.length cL) := (blk_cell hR_ 2).trans rfl
 clear hA_ hB_ hR_
 cases fa
 ·go_wp2_with fail
  go_ret
  exact ⟨rfl, HW.out⟩
 go_wp2_with fail
 refine (HFB.out _ HW.out).mono ?_
 rintro e w4 ⟨rfl, hb4⟩
 have HW_ := Aside0.mk (below_step HW.out hb4)
 have HA_ := Aside0.mk (blk_below HA.out hb4)
 have HB_ := Aside0.mk (blk_below HB.out hb4)
 have HR_ := Aside0.mk (blk_below HR.out hb4)
 clear HW HA HB HR
 have HW := HW_
 have HA := HA_
 have HB := HB_
 have HR := HR_
 clear HW_ HA_ HB_ HR_ hb4
 clear a0 a1 a2 a3 a4 a5 b0 b1 b2 b3 b4 b5 r0 r1 r2
 have hA_ := HA.out
 have a0 : w4.cell? ⟨w.heap.size, 0, none⟩ = some (.slice A ns.length c) := (blk_cell hA_ 0).trans rfl
 have a1 : w4.cell? ⟨w.heap.size, 1, none⟩ = some (.int .i64 k) := (blk_cell hA_ 1).trans rfl
 have a2 : w4.cell? ⟨w.heap.size, 2, none⟩ = some (.string ky) := (blk_cell hA_ 2).trans rfl
 have a3 : w4.cell? ⟨w.heap.size, 3, none⟩ = some (.int .i64 wd) := (blk_cell hA_ 3).trans rfl
 have a4 : w4.cell? ⟨w.heap.size, 4, none⟩ = some (.int .i64 sk) := (blk_cell hA_ 4).trans rfl
 have a5 : w4.cell? ⟨w.heap.size, 5, none⟩ = some (.int .i64 mo) := (blk_cell hA_ 5).trans rfl
 have hB_ := HB.out
 have b0 : w4.cell? ⟨w.heap.size + 1, 0, none⟩ = some (.slice A2 ms.length c2) := (blk_cell hB_ 0).trans rfl
 have b1 : w4.cell? ⟨w.heap.size + 1, 1, none⟩ = some (.int .i64 k2) := (blk_cell hB_ 1).trans rfl
 have b2 : w4.cell? ⟨w.heap.size + 1, 2, none⟩ = some (.string ky2) := (blk_cell hB_ 2).trans rfl
 have b3 : w4.cell? ⟨w.heap.size + 1, 3, none⟩ = some (.int .i64 wd2) := (blk_cell hB_ 3).trans rfl
 have b4 : w4.cell? ⟨w.heap.size + 1, 4, none⟩ = some (.int .i64 sk2) := (blk_cell hB_ 4).trans rfl
 have b5 : w4.cell? ⟨w.heap.size + 1, 5, none⟩ = some (.int .i64 mo2) := (blk_cell hB_ 5).trans rfl
 have hR_ := HR.out
 have r0 : w4.cell? ⟨w.heap.size + 1 + 1, 0, none⟩ = some (.int .i64 s) := (blk_cell hR_ 0).trans rfl
 have r1 : w4.cell? ⟨w.heap.size + 1 + 1, 1, none⟩ = some (.int .i64 t) := (blk_cell hR_ 1).trans rfl
 have r2 : w4.cell? ⟨w.heap.size + 1 + 1, 2, none⟩ = some (.slice AL l.length cL) := (blk_cell hR_ 2).trans rfl
 clear hA_ hB_ hR_
 cases fb
 ·go_wp2_with fail
  go_ret
  exact ⟨rfl, HW.out⟩
 have hna := HNA.out (by first | rfl | trivial)
 have hnb := HNB.out (by first | rfl | trivial)
 have d2 : wrap64 ((ns.length : Int) + (ms.length : Int)) = (ns.length : Int) + (ms.length : Int) := by unfold wrap64; omega
 by_cases hs : 63 < ns.length + ms.length
 ·have d3 : decide ((63 : Int) < wrap64 ((ns.length : Int) + (ms.length : Int))) = true := decide_eq_true (by omega)
  have d4 : decide ((63 : Int) < (ns.length : Int) + (ms.length : Int)) = true := decide_eq_true (by omega)
  clear hna hnb
  go_wp2_with fail
  go_ret
  exact ⟨rfl, HW.out⟩
 have d3 : decide ((63 : Int) < wrap64 ((ns.length : Int) + (ms.length : Int))) = false := decide_eq_false (by omega)
 have d4 : decide ((63 : Int) < (ns.length : Int) + (ms.length : Int)) = false := decide_eq_false (by omega)
 have HN1 := Aside0.mk hna
 have HN2 := Aside0.mk hnb
 have HS := Aside0.mk (show ns.length + ms.length ≤ 63 by omega)
 clear hna hnb hs
 go_wp2_with fail
 refine (HCP.out (by first | rfl | trivial) _ HW.out).mono ?_
 rintro e w5 ⟨v0, rfl, hn0, hb5⟩
 have hn1 := Kd.N_lower hn0 (below_size HW.out)
 have HO := Aside0.mk (Kd.N_mono (ok' := fun _ => True) hn1 (fun _ _ => trivial))
 clear hn0 hn1
 have HW_ := Aside0.mk (below_step HW.out hb5)
 have HA_ := Aside0.mk (blk_below HA.out hb5)
 have HB_ := Aside0.mk (blk_below HB.out hb5)
 have HR_ := Aside0.mk (blk_below HR.out hb5)
 clear HW HA HB HR
 have HW := HW_
 have HA := HA_
 have HB := HB_
 have HR := HR_
 clear HW_ HA_ HB_ HR_ hb5
 clear a0 a1 a2 a3 a4 a5 b0 b1 b2 b3 b4 b5 r0 r1 r2
 have hA_ := HA.out
 have a0 : w5.cell? ⟨w.heap.size, 0, none⟩ = some (.slice A ns.length c) := (blk_cell hA_ 0).trans rfl
 have a1 : w5.cell? ⟨w.heap.size, 1, none⟩ = some (.int .i64 k) := (blk_cell hA_ 1).trans rfl
 have a2 : w5.cell? ⟨w.heap.size, 2, none⟩ = some (.string ky) := (blk_cell hA_ 2).trans rfl
 have a3 : w5.cell? ⟨w.heap.size, 3, none⟩ = some (.int .i64 wd) := (blk_cell hA_ 3).trans rfl
 have a4 : w5.cell? ⟨w.heap.size, 4, none⟩ = some (.int .i64 sk) := (blk_cell hA_ 4).trans rfl
 have a5 : w5.cell? ⟨w.heap.size, 5, none⟩ = some (.int .i64 mo) := (blk_cell hA_ 5).trans rfl
 have hB_ := HB.out
 have b0 : w5.cell? ⟨w.heap.size + 1, 0, none⟩ = some (.slice A2 ms.length c2) := (blk_cell hB_ 0).trans rfl
 have b1 : w5.cell? ⟨w.heap.size + 1, 1, none⟩ = some (.int .i64 k2) := (blk_cell hB_ 1).trans rfl
 have b2 : w5.cell? ⟨w.heap.size + 1, 2, none⟩ = some (.string ky2) := (blk_cell hB_ 2).trans rfl
 have b3 : w5.cell? ⟨w.heap.size + 1, 3, none⟩ = some (.int .i64 wd2) := (blk_cell hB_ 3).trans rfl
 have b4 : w5.cell? ⟨w.heap.size + 1, 4, none⟩ = some (.int .i64 sk2) := (blk_cell hB_ 4).trans rfl
 have b5 : w5.cell? ⟨w.heap.size + 1, 5, none⟩ = some (.int .i64 mo2) := (blk_cell hB_ 5).trans rfl
 have hR_ := HR.out
 have r0 : w5.cell? ⟨w.heap.size + 1 + 1, 0, none⟩ = some (.int .i64 s) := (blk_cell hR_ 0).trans rfl
 have r1 : w5.cell? ⟨w.heap.size + 1 + 1, 1, none⟩ = some (.int .i64 t) := (blk_cell hR_ 1).trans rfl
 have r2 : w5.cell? ⟨w.heap.size + 1 + 1, 2, none⟩ = some (.slice AL l.length cL) := (blk_cell hR_ 2).trans rfl
 clear hA_ hB_ hR_
 obtain ⟨Ao, co, eo⟩ := Kd.N_slice HO.out
 subst eo
 have hfd : ∀ w : World, (Instr.field 24 (.agg #[.slice Ao ns.length co, .int .i64 k, .string ky, .int .i64 wd, .int .i64 sk, .int .i64 mo]) 0).run Tryz.prog w = .ok (.slice Ao ns.length co) w := fun _ => by kernel_rfl
 go_wp2_with fail
 clear hfd
 go_loopg [8, 9] ms.length (fun kq v8 v9 wr => ∃ (i : Nat), v9 = .int .i64 i ∧ Aside0 (kq + i = ms.length) ∧ Aside0 (Kd.N k37 37 wr w.heap.size (fun _ => True) v8 (ns ++ (ms.take i).map (shiftN ns.length))) ∧ Aside0 (Below w.heap.size w wr) ∧ Aside0 (wr.heap[w.heap.size]? = some (.cells #[.slice A ns.length c, .int .i64 k, .string ky, .int .i64 wd, .int .i64 sk, .int .i64 mo] 24 (0, 0))) ∧ Aside0 (wr.heap[w.heap.size + 1]? = some (.cells #[.slice A2 ms.length c2, .int .i64 k2, .string ky2, .int .i64 wd2, .int .i64 sk2, .int .i64 mo2] 24 (0, 0))) ∧ Aside0 (wr.heap[w.heap.size + 1 + 1]? = some (.cells #[.int .i64 s, .int .i64 t, .slice AL l.length cL] 27 (0, 0))))
 case atStart => exact ⟨0, rfl, ⟨by omega⟩, ⟨by rw [List.take_zero, List.map_nil, List.append_nil]; exact HO.out⟩, HW, HA, HB, HR⟩
 case round =>
  obtain ⟨i, rfl, HI, HO', HW', HA', HB', HR'⟩ := hrel
  clear HO HW HA HB HR
  have HO := HO'
  have HW := HW'
  have HA := HA'
  have HB := HB'
  have HR := HR'
  clear HO' HW' HA' HB' HR'
  clear a0 a1 a2 a3 a4 a5 b0 b1 b2 b3 b4 b5 r0 r1 r2
  have hA_ := HA.out
  have a0 : wr.cell? ⟨w.heap.size, 0, none⟩ = some (.slice A ns.length c) := (blk_cell hA_ 0).trans rfl
  have a1 : wr.cell? ⟨w.heap.size, 1, none⟩ = some (.int .i64 k) := (blk_cell hA_ 1).trans rfl
  have a2 : wr.cell? ⟨w.heap.size, 2, none⟩ = some (.string ky) := (blk_cell hA_ 2).trans rfl
  have a3 : wr.cell? ⟨w.heap.size, 3, none⟩ = some (.int .i64 wd) := (blk_cell hA_ 3).trans rfl
  have a4 : wr.cell? ⟨w.heap.size, 4, none⟩ = some (.int .i64 sk) := (blk_cell hA_ 4).trans rfl
  have a5 : wr.cell? ⟨w.heap.size, 5, none⟩ = some (.int .i64 mo) := (blk_cell hA_ 5).trans rfl
  have hB_ := HB.out
  have b0 : wr.cell? ⟨w.heap.size + 1, 0, none⟩ = some (.slice A2 ms.length c2) := (blk_cell hB_ 0).trans rfl
  have b1 : wr.cell? ⟨w.heap.size + 1, 1, none⟩ = some (.int .i64 k2) := (blk_cell hB_ 1).trans rfl
  have b2 : wr.cell? ⟨w.heap.size + 1, 2, none⟩ = some (.string ky2) := (blk_cell hB_ 2).trans rfl
  have b3 : wr.cell? ⟨w.heap.size + 1, 3, none⟩ = some (.int .i64 wd2) := (blk_cell hB_ 3).trans rfl
  have b4 : wr.cell? ⟨w.heap.size + 1, 4, none⟩ = some (.int .i64 sk2) := (blk_cell hB_ 4).trans rfl
  have b5 : wr.cell? ⟨w.heap.size + 1, 5, none⟩ = some (.int .i64 mo2) := (blk_cell hB_ 5).trans rfl
  have hR_ := HR.out
  have r0 : wr.cell? ⟨w.heap.size + 1 + 1, 0, none⟩ = some (.int .i64 s) := (blk_cell hR_ 0).trans rfl
  have r1 : wr.cell? ⟨w.heap.size + 1 + 1, 1, none⟩ = some (.int .i64 t) := (blk_cell hR_ 1).trans rfl
  have r2 : wr.cell? ⟨w.heap.size + 1 + 1, 2, none⟩ = some (.slice AL l.length cL) := (blk_cell hR_ 2).trans rfl
  clear hA_ hB_ hR_
  by_cases hi : i < ms.length
  ·have d5 : decide ((i : Int) < (ms.length : Int)) = true := decide_eq_true (by omega)
   have d6 : decide (i < ms.length) = true := decide_eq_true hi
   have HFr := Kd.F_step HC2.out (fun q hq _ => HW.out.block q hq)
   obtain ⟨ad, cs, rfl, hcl, hK, hcc, _⟩ := Kd.F_get HFr z37 (i : Int) (by omega) (by omega)
   obtain ⟨x, hx⟩ : ∃ x, ms[i]? = some x := ⟨ms[i], List.getElem?_eq_getElem hi⟩
   have hxd : ms.getD (i : Int).toNat z37 = x := by rw [Int.toNat_natCast, List.getD_eq_getElem?_getD, hx]; rfl
   rw [hxd] at hK
   obtain ⟨A4, c4, rfl, h4l, h4F⟩ := k37_openF hK
   have HK := Aside0.mk h4F
   have H4L := Aside0.mk h4l
   have HIL := Aside0.mk hi
   have HXI := Aside0.mk hx
   have x0 : wr.cell? (ad.add (i * 8)) = some (.int .i64 x.f0) := by have h := hcc 0 _ rfl; rw [Int.toNat_natCast, show k37.sz = 8 from rfl, Nat.add_zero] at h; exact h
   have x1 : wr.cell? ⟨(ad.add (i * 8)).block, (ad.add (i * 8)).off + 1, none⟩ = some (.int .i64 x.f1) := by have h := hcc 1 _ rfl; rw [Int.toNat_natCast, show k37.sz = 8 from rfl, add_field _ _ 1 (by omega)] at h; exact h
   have x2 : wr.cell? ⟨(ad.add (i * 8)).block, (ad.add (i * 8)).off + 2, none⟩ = some (.int .i64 x.f2) := by have h := hcc 2 _ rfl; rw [Int.toNat_natCast, show k37.sz = 8 from rfl, add_field _ _ 2 (by omega)] at h; exact h
   have x3 : wr.cell? ⟨(ad.add (i * 8)).block, (ad.add (i * 8)).off + 3, none⟩ = some (.string x.f3) := by have h := hcc 3 _ rfl; rw [Int.toNat_natCast, show k37.sz = 8 from rfl, add_field _ _ 3 (by omega)] at h; exact h
   have x4 : wr.cell? ⟨(ad.add (i * 8)).block, (ad.add (i * 8)).off + 4, none⟩ = some (.slice A4 x.f4.length c4) := by have h := hcc 4 _ rfl; rw [Int.toNat_natCast, show k37.sz = 8 from rfl, add_field _ _ 4 (by omega)] at h; exact h
   have x5 : wr.cell? ⟨(ad.add (i * 8)).block, (ad.add (i * 8)).off + 5, none⟩ = some (.string x.f5) := by have h := hcc 5 _ rfl; rw [Int.toNat_natCast, show k37.sz = 8 from rfl, add_field _ _ 5 (by omega)] at h; exact h
   have x6 : wr.cell? ⟨(ad.add (i * 8)).block, (ad.add (i * 8)).off + 6, none⟩ = some (.int .i64 x.f6) := by have h := hcc 6 _ rfl; rw [Int.toNat_natCast, show k37.sz = 8 from rfl, add_field _ _ 6 (by omega)] at h; exact h
   have x7 : wr.cell? ⟨(ad.add (i * 8)).block, (ad.add (i * 8)).off + 7, none⟩ = some (.int .i64 x.f7) := by have h := hcc 7 _ rfl; rw [Int.toNat_natCast, show k37.sz = 8 from rfl, add_field _ _ 7 (by omega)] at h; exact h
   clear hcc hcl HFr hK hxd h4l h4F hx
   obtain ⟨L, hL⟩ : ∃ L, L = ns ++ (ms.take i).map (shiftN ns.length) := ⟨_, rfl⟩
   rw [← hL] at HO
   have HLL := Aside0.mk (show L.length = ns.length + i by have := HIL.out; rw [hL, List.length_append, List.length_map, List.length_take]; omega)
   have HLe := Aside0.mk hL
   clear hL
   have HOWN := Aside0.mk (show ∀ q, q < w.heap.size → some q ≠ (u8 : Value).ownBlock from fun q hq he => by have := Kd.N_base HO.out q he.symm; omega)
   clear HJN HNT HOA HOB HCP HAL HFA HFB HNA HNB HC2 d1 d2 d3 d4 a0 a1 a2 a3 a4 a5 b1 b2 b3 b4 b5 r0 r1 r2
   rcases (show x.f0 < 10 ∨ x.f0 = 10 ∨ x.f0 = 11 ∨ 12 ≤ x.f0 by omega) with h10 | h10 | h10 | h10
   ·have HX10 := Aside0.mk h10
    clear h10
    have hx10 := HX10.out
    have e1 : decide ((10 : Int) ≤ x.f0) = false := decide_eq_false (by omega)
    have q10 : (x.f0 == 10) = false := by exact beq_eq_false_iff_ne.2 (by omega)
    have p10 : decide (x.f0 = 10) = false := by exact decide_eq_false (by omega)
    have q11 : (x.f0 == 11) = false := by exact beq_eq_false_iff_ne.2 (by omega)
    have p11 : decide (x.f0 = 11) = false := by exact decide_eq_false (by omega)
    clear hx10
    go_wp2_with ((with_reducible refine gate_builtin (b := .append) (xs := #[.tmp 87, .tmp 89]) rfl ?_); at_builtin; refine Kd.N_append k37 (w0 := w) w.heap.size rfl (.tmp 87) (.tmp 89) 22 37 (.agg #[(.int .i64 0), (.int .i64 0), (.int .i64 0), (.string ⟨#[]⟩), (.slice none 0 0), (.string ⟨#[]⟩), (.int .i64 0), (.int .i64 0)]) 96 rfl Tryz.underlying22 info37 rfl (by decide) (by omega) u8 L (⟨x.f0, x.f1, x.f2, x.f3, x.f4, x.f5, x.f6, x.f7⟩ : ND) [.int .i64 x.f0, .int .i64 (x.f1), .int .i64 (x.f2), .string x.f3, .slice A4 x.f4.length c4, .string x.f5, .int .i64 x.f6, .int .i64 x.f7] (fun _ => True) (fun q => q < w.heap.size) rfl (by first | (go_simp; done) | (go_simp; rfl)) ?aP ?aK ?aF ?aO ?aB ?aS ?aL ?_; (case aP => exact Kd.FK_step (k37_mkF wr (fun q => q < w.heap.size) (⟨x.f0, x.f1, x.f2, x.f3, x.f4, x.f5, x.f6, x.f7⟩ : ND) H4L.out HK.out) (fun q hq hlt => (below_alloc (Below.refl wr.heap.size wr) _).block q hlt)); (case aK => exact fun q hq => ⟨trivial, HOWN.out q hq⟩); (case aF => exact fun _ _ => trivial); (case aO => exact Kd.N_alloc HO.out _); (case aB => exact below_alloc HW.out _); (case aS => exact below_size (below_alloc HW.out _)); (case aL => have := HLL.out; have := HS.out; have := HIL.out; omega); intro v1 w1 hn1 hb1 hg1 hat1)
    have n0_ := Aside0.mk hb1
    have n1_ := Aside0.mk hn1
    have nA_ := Aside0.mk (blk_grown (blk_alloc HA.out _) hg1 (Kd.N_ne HO.out HA.out (by decide)))
    have nB_ := Aside0.mk (blk_grown (blk_alloc HB.out _) hg1 (Kd.N_ne HO.out HB.out (by decide)))
    have nR_ := Aside0.mk (blk_grown (blk_alloc HR.out _) hg1 (Kd.N_ne HO.out HR.out (by decide)))
    clear HW HO HA HB HR hb1 hg1 hat1 hn1
    have HW := n0_
    have HO := n1_
    have HA := nA_
    have HB := nB_
    have HR := nR_
    clear n0_ n1_ nA_ nB_ nR_
    have hp : (⟨x.f0, x.f1, x.f2, x.f3, x.f4, x.f5, x.f6, x.f7⟩ : ND) = shiftN ns.length x := by unfold shiftN; rw [if_neg (by have := HX10.out; omega), if_neg (by have := HX10.out; omega)]
    have HP := Aside0.mk hp
    clear hp
    go_roundg (ms.length - (i + 1))
    case measure => have := HI.out; have := HIL.out; omega
    case rel => exact ⟨i + 1, by rw [show wrap64 ((i : Int) + 1) = ((i + 1 : Nat) : Int) by have := HIL.out; have := HN2.out; unfold wrap64; omega], ⟨by have := HIL.out; omega⟩, ⟨by rw [HP.out, HLe.out, List.append_assoc] at HO; rw [take_step HXI.out]; exact HO.out⟩, HW, HA, HB, HR⟩
   ·have HX10 := Aside0.mk h10
    clear h10
    have hx10 := HX10.out
    obtain ⟨hp1, hp2⟩ := HPT.out (by first | rfl | trivial) x (List.mem_iff_getElem?.2 ⟨i, HXI.out⟩)
    have hpa := hp1 (by omega)
    have g1 : wrap64 (x.f1 + (ns.length : Int)) = x.f1 + (ns.length : Int) := by have := HN1.out; unfold wrap64; omega
    have hpb := hp2 (by omega)
    have g2 : wrap64 (x.f2 + (ns.length : Int)) = x.f2 + (ns.length : Int) := by have := HN1.out; unfold wrap64; omega
    have e1 : decide ((10 : Int) ≤ x.f0) = true := decide_eq_true (by omega)
    clear hp1 hp2 hpa hpb
    have hk : x.f0 = 10 := hx10
    have q10 : (x.f0 == 10) = true := by exact beq_iff_eq.2 hk
    have p10 : decide (x.f0 = 10) = true := by exact decide_eq_true hk
    clear hk
    clear hx10
    go_wp2_with ((with_reducible refine gate_builtin (b := .append) (xs := #[.tmp 87, .tmp 89]) rfl ?_); at_builtin; refine Kd.N_append k37 (w0 := w) w.heap.size rfl (.tmp 87) (.tmp 89) 22 37 (.agg #[(.int .i64 0), (.int .i64 0), (.int .i64 0), (.string ⟨#[]⟩), (.slice none 0 0), (.string ⟨#[]⟩), (.int .i64 0), (.int .i64 0)]) 96 rfl Tryz.underlying22 info37 rfl (by decide) (by omega) u8 L (⟨x.f0, x.f1 + (ns.length : Int), x.f2 + (ns.length : Int), x.f3, x.f4, x.f5, x.f6, x.f7⟩ : ND) [.int .i64 x.f0, .int .i64 (x.f1 + (ns.length : Int)), .int .i64 (x.f2 + (ns.length : Int)), .string x.f3, .slice A4 x.f4.length c4, .string x.f5, .int .i64 x.f6, .int .i64 x.f7] (fun _ => True) (fun q => q < w.heap.size) rfl (by first | (go_simp; done) | (go_simp; rfl)) ?aP ?aK ?aF ?aO ?aB ?aS ?aL ?_; (case aP => exact Kd.FK_step (k37_mkF wr (fun q => q < w.heap.size) (⟨x.f0, x.f1 + (ns.length : Int), x.f2 + (ns.length : Int), x.f3, x.f4, x.f5, x.f6, x.f7⟩ : ND) H4L.out HK.out) (fun q hq hlt => (below_alloc (Below.refl wr.heap.size wr) _).block q hlt)); (case aK => exact fun q hq => ⟨trivial, HOWN.out q hq⟩); (case aF => exact fun _ _ => trivial); (case aO => exact Kd.N_alloc HO.out _); (case aB => exact below_alloc HW.out _); (case aS => exact below_size (below_alloc HW.out _)); (case aL => have := HLL.out; have := HS.out; have := HIL.out; omega); intro v1 w1 hn1 hb1 hg1 hat1)
    have n0_ := Aside0.mk hb1
    have n1_ := Aside0.mk hn1
    have nA_ := Aside0.mk (blk_grown (blk_alloc HA.out _) hg1 (Kd.N_ne HO.out HA.out (by decide)))
    have nB_ := Aside0.mk (blk_grown (blk_alloc HB.out _) hg1 (Kd.N_ne HO.out HB.out (by decide)))
    have nR_ := Aside0.mk (blk_grown (blk_alloc HR.out _) hg1 (Kd.N_ne HO.out HR.out (by decide)))
    clear HW HO HA HB HR hb1 hg1 hat1 hn1
    have HW := n0_
    have HO := n1_
    have HA := nA_
    have HB := nB_
    have HR := nR_
    clear n0_ n1_ nA_ nB_ nR_
    have hp : (⟨x.f0, x.f1 + (ns.length : Int), x.f2 + (ns.length : Int), x.f3, x.f4, x.f5, x.f6, x.f7⟩ : ND) = shiftN ns.length x := by unfold shiftN; rw [if_pos (by have := HX10.out; omega), if_pos (Or.inl HX10.out)]
    have HP := Aside0.mk hp
    clear hp
    go_roundg (ms.length - (i + 1))
    case measure => have := HI.out; have := HIL.out; omega
    case rel => exact ⟨i + 1, by rw [show wrap64 ((i : Int) + 1) = ((i + 1 : Nat) : Int) by have := HIL.out; have := HN2.out; unfold wrap64; omega], ⟨by have := HIL.out; omega⟩, ⟨by rw [HP.out, HLe.out, List.append_assoc] at HO; rw [take_step HXI.out]; exact HO.out⟩, HW, HA, HB, HR⟩
   ·have HX10 := Aside0.mk h10
    clear h10
    have hx10 := HX10.out
    obtain ⟨hp1, hp2⟩ := HPT.out (by first | rfl | trivial) x (List.mem_iff_getElem?.2 ⟨i, HXI.out⟩)
    have hpa := hp1 (by omega)
    have g1 : wrap64 (x.f1 + (ns.length : Int)) = x.f1 + (ns.length : Int) := by have := HN1.out; unfold wrap64; omega
    have hpb := hp2 (by omega)
    have g2 : wrap64 (x.f2 + (ns.length : Int)) = x.f2 + (ns.length : Int) := by have := HN1.out; unfold wrap64; omega
    have e1 : decide ((10 : Int) ≤ x.f0) = true := decide_eq_true (by omega)
    clear hp1 hp2 hpa hpb
    have q10 : (x.f0 == 10) = false := by exact beq_eq_false_iff_ne.2 (by omega)
    have p10 : decide (x.f0 = 10) = false := by exact decide_eq_false (by omega)
    have hk : x.f0 = 11 := hx10
    have q11 : (x.f0 == 11) = true := by exact beq_iff_eq.2 hk
    have p11 : decide (x.f0 = 11) = true := by exact decide_eq_true hk
    clear hk
    clear hx10
    go_wp2_with ((with_reducible refine gate_builtin (b := .append) (xs := #[.tmp 87, .tmp 89]) rfl ?_); at_builtin; refine Kd.N_append k37 (w0 := w) w.heap.size rfl (.tmp 87) (.tmp 89) 22 37 (.agg #[(.int .i64 0), (.int .i64 0), (.int .i64 0), (.string ⟨#[]⟩), (.slice none 0 0), (.string ⟨#[]⟩), (.int .i64 0), (.int .i64 0)]) 96 rfl Tryz.underlying22 info37 rfl (by decide) (by omega) u8 L (⟨x.f0, x.f1 + (ns.length : Int), x.f2 + (ns.length : Int), x.f3, x.f4, x.f5, x.f6, x.f7⟩ : ND) [.int .i64 x.f0, .int .i64 (x.f1 + (ns.length : Int)), .int .i64 (x.f2 + (ns.length : Int)), .string x.f3, .slice A4 x.f4.length c4, .string x.f5, .int .i64 x.f6, .int .i64 x.f7] (fun _ => True) (fun q => q < w.heap.size) rfl (by first | (go_simp; done) | (go_simp; rfl)) ?aP ?aK ?aF ?aO ?aB ?aS ?aL ?_; (case aP => exact Kd.FK_step (k37_mkF wr (fun q => q < w.heap.size) (⟨x.f0, x.f1 + (ns.length : Int), x.f2 + (ns.length : Int), x.f3, x.f4, x.f5, x.f6, x.f7⟩ : ND) H4L.out HK.out) (fun q hq hlt => (below_alloc (Below.refl wr.heap.size wr) _).block q hlt)); (case aK => exact fun q hq => ⟨trivial, HOWN.out q hq⟩); (case aF => exact fun _ _ => trivial); (case aO => exact Kd.N_alloc HO.out _); (case aB => exact below_alloc HW.out _); (case aS => exact below_size (below_alloc HW.out _)); (case aL => have := HLL.out; have := HS.out; have := HIL.out; omega); intro v1 w1 hn1 hb1 hg1 hat1)
    have n0_ := Aside0.mk hb1
    have n1_ := Aside0.mk hn1
    have nA_ := Aside0.mk (blk_grown (blk_alloc HA.out _) hg1 (Kd.N_ne HO.out HA.out (by decide)))
    have nB_ := Aside0.mk (blk_grown (blk_alloc HB.out _) hg1 (Kd.N_ne HO.out HB.out (by decide)))
    have nR_ := Aside0.mk (blk_grown (blk_alloc HR.out _) hg1 (Kd.N_ne HO.out HR.out (by decide)))
    clear HW HO HA HB HR hb1 hg1 hat1 hn1
    have HW := n0_
    have HO := n1_
    have HA := nA_
    have HB := nB_
    have HR := nR_
    clear n0_ n1_ nA_ nB_ nR_
    have hp : (⟨x.f0, x.f1 + (ns.length : Int), x.f2 + (ns.length : Int), x.f3, x.f4, x.f5, x.f6, x.f7⟩ : ND) = shiftN ns.length x := by unfold shiftN; rw [if_pos (by have := HX10.out; omega), if_pos (Or.inr HX10.out)]
    have HP := Aside0.mk hp
    clear hp
    go_roundg (ms.length - (i + 1))
    case measure => have := HI.out; have := HIL.out; omega
    case rel => exact ⟨i + 1, by rw [show wrap64 ((i : Int) + 1) = ((i + 1 : Nat) : Int) by have := HIL.out; have := HN2.out; unfold wrap64; omega], ⟨by have := HIL.out; omega⟩, ⟨by rw [HP.out, HLe.out, List.append_assoc] at HO; rw [take_step HXI.out]; exact HO.out⟩, HW, HA, HB, HR⟩
   ·have HX10 := Aside0.mk h10
    clear h10
    have hx10 := HX10.out
    obtain ⟨hp1, hp2⟩ := HPT.out (by first | rfl | trivial) x (List.mem_iff_getElem?.2 ⟨i, HXI.out⟩)
    have hpa := hp1 (by omega)
    have g1 : wrap64 (x.f1 + (ns.length : Int)) = x.f1 + (ns.length : Int) := by have := HN1.out; unfold wrap64; omega
    have e1 : decide ((10 : Int) ≤ x.f0) = true := decide_eq_true (by omega)
    clear hp1 hp2 hpa
    have q10 : (x.f0 == 10) = false := by exact beq_eq_false_iff_ne.2 (by omega)
    have p10 : decide (x.f0 = 10) = false := by exact decide_eq_false (by omega)
    have q11 : (x.f0 == 11) = false := by exact beq_eq_false_iff_ne.2 (by omega)
    have p11 : decide (x.f0 = 11) = false := by exact decide_eq_false (by omega)
    clear hx10
    go_wp2_with ((with_reducible refine gate_builtin (b := .append) (xs := #[.tmp 87, .tmp 89]) rfl ?_); at_builtin; refine Kd.N_append k37 (w0 := w) w.heap.size rfl (.tmp 87) (.tmp 89) 22 37 (.agg #[(.int .i64 0), (.int .i64 0), (.int .i64 0), (.string ⟨#[]⟩), (.slice none 0 0), (.string ⟨#[]⟩), (.int .i64 0), (.int .i64 0)]) 96 rfl Tryz.underlying22 info37 rfl (by decide) (by omega) u8 L (⟨x.f0, x.f1 + (ns.length : Int), x.f2, x.f3, x.f4, x.f5, x.f6, x.f7⟩ : ND) [.int .i64 x.f0, .int .i64 (x.f1 + (ns.length : Int)), .int .i64 (x.f2), .string x.f3, .slice A4 x.f4.length c4, .string x.f5, .int .i64 x.f6, .int .i64 x.f7] (fun _ => True) (fun q => q < w.heap.size) rfl (by first | (go_simp; done) | (go_simp; rfl)) ?aP ?aK ?aF ?aO ?aB ?aS ?aL ?_; (case aP => exact Kd.FK_step (k37_mkF wr (fun q => q < w.heap.size) (⟨x.f0, x.f1 + (ns.length : Int), x.f2, x.f3, x.f4, x.f5, x.f6, x.f7⟩ : ND) H4L.out HK.out) (fun q hq hlt => (below_alloc (Below.refl wr.heap.size wr) _).block q hlt)); (case aK => exact fun q hq => ⟨trivial, HOWN.out q hq⟩); (case aF => exact fun _ _ => trivial); (case aO => exact Kd.N_alloc HO.out _); (case aB => exact below_alloc HW.out _); (case aS => exact below_size (below_alloc HW.out _)); (case aL => have := HLL.out; have := HS.out; have := HIL.out; omega); intro v1 w1 hn1 hb1 hg1 hat1)
    have n0_ := Aside0.mk hb1
    have n1_ := Aside0.mk hn1
    have nA_ := Aside0.mk (blk_grown (blk_alloc HA.out _) hg1 (Kd.N_ne HO.out HA.out (by decide)))
    have nB_ := Aside0.mk (blk_grown (blk_alloc HB.out _) hg1 (Kd.N_ne HO.out HB.out (by decide)))
    have nR_ := Aside0.mk (blk_grown (blk_alloc HR.out _) hg1 (Kd.N_ne HO.out HR.out (by decide)))
    clear HW HO HA HB HR hb1 hg1 hat1 hn1
    have HW := n0_
    have HO := n1_
    have HA := nA_
    have HB := nB_
    have HR := nR_
    clear n0_ n1_ nA_ nB_ nR_
    have hp : (⟨x.f0, x.f1 + (ns.length : Int), x.f2, x.f3, x.f4, x.f5, x.f6, x.f7⟩ : ND) = shiftN ns.length x := by unfold shiftN; rw [if_pos (by have := HX10.out; omega), if_neg (by have := HX10.out; omega)]
    have HP := Aside0.mk hp
    clear hp
    go_roundg (ms.length - (i + 1))
    case measure => have := HI.out; have := HIL.out; omega
    case rel => exact ⟨i + 1, by rw [show wrap64 ((i : Int) + 1) = ((i + 1 : Nat) : Int) by have := HIL.out; have := HN2.out; unfold wrap64; omega], ⟨by have := HIL.out; omega⟩, ⟨by rw [HP.out, HLe.out, List.append_assoc] at HO; rw [take_step HXI.out]; exact HO.out⟩, HW, HA, HB, HR⟩
  ·have d5 : decide ((i : Int) < (ms.length : Int)) = false := decide_eq_false (by omega)
   have d6 : decide (i < ms.length) = false := decide_eq_false hi
   obtain ⟨Z, hZ⟩ : ∃ Z, Z = (ns ++ ms.map (shiftN ns.length)) := ⟨_, rfl⟩
   have HOZ := HO.out
   rw [List.take_of_length_le (by omega), ← hZ] at HOZ
   have HJ_ := HJN.out
   rw [← hZ] at HJ_
   have HJ := Aside0.mk (HJ_ HL.out (by first | rfl | trivial) (by first | rfl | trivial) HS.out)
   have HT := Aside0.mk (HNT.out HL.out (by first | rfl | trivial) (by have := HS.out; omega))
   have HQA := Aside0.mk (HOA.out HL.out (by first | rfl | trivial))
   have HQB := Aside0.mk (HOB.out HL.out (by first | rfl | trivial))
   have hzl : Z.length = ns.length + ms.length := by rw [hZ, List.length_append, List.length_map]
   have HZL := Aside0.mk hzl
   obtain ⟨g, cap, eu, hgb, hgl, _⟩ := Kd.N_form HOZ (by have := HN1.out; omega)
   subst eu
   have HOZ := Aside0.mk HOZ
   have HGB := Aside0.mk hgb
   have z1 : wrap64 ((Z.length : Int) - 1) = (ns.length : Int) + (ms.length : Int) - 1 := by have := HN1.out; have := HN2.out; unfold wrap64; omega
   have z2 : wrap64 ((ns.length : Int) - 1) = (ns.length : Int) - 1 := by have := HN1.out; unfold wrap64; omega
   clear hZ HJ_ hzl hgb hgl HJN HNT HOA HOB HO HAL HFA HFB HPT HC2 d1 d2 d3 d4
   go_wp2_with fail
   refine (HQA.out _ HW.out).mono ?_
   rintro e w6 ⟨rfl, hb6⟩
   have HOZ_ := Aside0.mk (Kd.N_below HOZ.out hb6)
   clear HOZ
   have HOZ := HOZ_
   clear HOZ_
   have HW_ := Aside0.mk (below_step HW.out hb6)
   have HA_ := Aside0.mk (blk_below HA.out hb6)
   have HB_ := Aside0.mk (blk_below HB.out hb6)
   have HR_ := Aside0.mk (blk_below HR.out hb6)
   clear HW HA HB HR
   have HW := HW_
   have HA := HA_
   have HB := HB_
   have HR := HR_
   clear HW_ HA_ HB_ HR_ hb6
   clear a0 a1 a2 a3 a4 a5 b0 b1 b2 b3 b4 b5 r0 r1 r2
   have hA_ := HA.out
   have a0 : w6.cell? ⟨w.heap.size, 0, none⟩ = some (.slice A ns.length c) := (blk_cell hA_ 0).trans rfl
   have a1 : w6.cell? ⟨w.heap.size, 1, none⟩ = some (.int .i64 k) := (blk_cell hA_ 1).trans rfl
   have a2 : w6.cell? ⟨w.heap.size, 2, none⟩ = some (.string ky) := (blk_cell hA_ 2).trans rfl
   have a3 : w6.cell? ⟨w.heap.size, 3, none⟩ = some (.int .i64 wd) := (blk_cell hA_ 3).trans rfl
   have a4 : w6.cell? ⟨w.heap.size, 4, none⟩ = some (.int .i64 sk) := (blk_cell hA_ 4).trans rfl
   have a5 : w6.cell? ⟨w.heap.size, 5, none⟩ = some (.int .i64 mo) := (blk_cell hA_ 5).trans rfl
   have hB_ := HB.out
   have b0 : w6.cell? ⟨w.heap.size + 1, 0, none⟩ = some (.slice A2 ms.length c2) := (blk_cell hB_ 0).trans rfl
   have b1 : w6.cell? ⟨w.heap.size + 1, 1, none⟩ = some (.int .i64 k2) := (blk_cell hB_ 1).trans rfl
   have b2 : w6.cell? ⟨w.heap.size + 1, 2, none⟩ = some (.string ky2) := (blk_cell hB_ 2).trans rfl
   have b3 : w6.cell? ⟨w.heap.size + 1, 3, none⟩ = some (.int .i64 wd2) := (blk_cell hB_ 3).trans rfl
   have b4 : w6.cell? ⟨w.heap.size + 1, 4, none⟩ = some (.int .i64 sk2) := (blk_cell hB_ 4).trans rfl
   have b5 : w6.cell? ⟨w.heap.size + 1, 5, none⟩ = some (.int .i64 mo2) := (blk_cell hB_ 5).trans rfl
   have hR_ := HR.out
   have r0 : w6.cell? ⟨w.heap.size + 1 + 1, 0, none⟩ = some (.int .i64 s) := (blk_cell hR_ 0).trans rfl
   have r1 : w6.cell? ⟨w.heap.size + 1 + 1, 1, none⟩ = some (.int .i64 t) := (blk_cell hR_ 1).trans rfl
   have r2 : w6.cell? ⟨w.heap.size + 1 + 1, 2, none⟩ = some (.slice AL l.length cL) := (blk_cell hR_ 2).trans rfl
   clear hA_ hB_ hR_
   go_wp2_with fail
   refine (HQB.out _ HW.out).mono ?_
   rintro e w7 ⟨rfl, hb7⟩
   have HOZ_ := Aside0.mk (Kd.N_below HOZ.out hb7)
   clear HOZ
   have HOZ := HOZ_
   clear HOZ_
   have HW_ := Aside0.mk (below_step HW.out hb7)
   have HA_ := Aside0.mk (blk_below HA.out hb7)
   have HB_ := Aside0.mk (blk_below HB.out hb7)
   have HR_ := Aside0.mk (blk_below HR.out hb7)
   clear HW HA HB HR
   have HW := HW_
   have HA := HA_
   have HB := HB_
   have HR := HR_
   clear HW_ HA_ HB_ HR_ hb7
   clear a0 a1 a2 a3 a4 a5 b0 b1 b2 b3 b4 b5 r0 r1 r2
   have hA_ := HA.out
   have a0 : w7.cell? ⟨w.heap.size, 0, none⟩ = some (.slice A ns.length c) := (blk_cell hA_ 0).trans rfl
   have a1 : w7.cell? ⟨w.heap.size, 1, none⟩ = some (.int .i64 k) := (blk_cell hA_ 1).trans rfl
   have a2 : w7.cell? ⟨w.heap.size, 2, none⟩ = some (.string ky) := (blk_cell hA_ 2).trans rfl
   have a3 : w7.cell? ⟨w.heap.size, 3, none⟩ = some (.int .i64 wd) := (blk_cell hA_ 3).trans rfl
   have a4 : w7.cell? ⟨w.heap.size, 4, none⟩ = some (.int .i64 sk) := (blk_cell hA_ 4).trans rfl
   have a5 : w7.cell? ⟨w.heap.size, 5, none⟩ = some (.int .i64 mo) := (blk_cell hA_ 5).trans rfl
   have hB_ := HB.out
   have b0 : w7.cell? ⟨w.heap.size + 1, 0, none⟩ = some (.slice A2 ms.length c2) := (blk_cell hB_ 0).trans rfl
   have b1 : w7.cell? ⟨w.heap.size + 1, 1, none⟩ = some (.int .i64 k2) := (blk_cell hB_ 1).trans rfl
   have b2 : w7.cell? ⟨w.heap.size + 1, 2, none⟩ = some (.string ky2) := (blk_cell hB_ 2).trans rfl
   have b3 : w7.cell? ⟨w.heap.size + 1, 3, none⟩ = some (.int .i64 wd2) := (blk_cell hB_ 3).trans rfl
   have b4 : w7.cell? ⟨w.heap.size + 1, 4, none⟩ = some (.int .i64 sk2) := (blk_cell hB_ 4).trans rfl
   have b5 : w7.cell? ⟨w.heap.size + 1, 5, none⟩ = some (.int .i64 mo2) := (blk_cell hB_ 5).trans rfl
   have hR_ := HR.out
   have r0 : w7.cell? ⟨w.heap.size + 1 + 1, 0, none⟩ = some (.int .i64 s) := (blk_cell hR_ 0).trans rfl
   have r1 : w7.cell? ⟨w.heap.size + 1 + 1, 1, none⟩ = some (.int .i64 t) := (blk_cell hR_ 1).trans rfl
   have r2 : w7.cell? ⟨w.heap.size + 1 + 1, 2, none⟩ = some (.slice AL l.length cL) := (blk_cell hR_ 2).trans rfl
   clear hA_ hB_ hR_
   go_wp2_with fail
   have HCAP := Aside0.mk (show Z.length ≤ cap from (Kd.N_reads' HOZ.out).2.1)
   have HZ1 := Aside0.mk z1
   have HZ2 := Aside0.mk z2
   clear a0 a1 a2 a3 a4 a5 b0 b1 b2 b3 b4 b5 r0 r1 r2
   refine start_ (n := 14) (S := fun w' => w'.cell? ⟨w.heap.size + 1 + 1, 0, none⟩ = some (.int .i64 s) ∧ w'.cell? ⟨w.heap.size + 1 + 1, 1, none⟩ = some (.int .i64 t) ∧ w'.cell? ⟨w.heap.size + 1 + 1, 2, none⟩ = some (.slice AL l.length cL)) (ds := []) #[false, false, false, false, false, false, false, false, false, false, false, false, false, false] (by kernel_rfl) rfl rfl (row_cells (blk_drew HR.out)) (fun hHeld => ?_)
   refine with_tabW sums_r.tab19 sums_r.bits19 (fun HT_ HW_ => ?_)
   refine pS 0 (some 109) HT_ ?_
   refine pS 1 (some 110) HT_ ?_
   refine pS 2 (some 111) HT_ ?_
   refine pS 3 (some 112) HT_ ?_
   refine pS 4 (some 113) HT_ ?_
   refine tS 7 (some 116) HT_ HW_ hHeld ?_
   refine one_ (i := 5) (N := some 114) #[true, true, true, true, true, true, false, true, false, false, false, false, false, false] rfl rfl (one_of HT_.out (by kernel_rfl)) (by decide) (fun K hK => ?_)
   refine value_ (w1 := (w7.drew.alloc (.cells (List.toArray [.int .i64 10, .int .i64 ((ns.length : Int) - 1), .int .i64 ((ns.length : Int) + (ms.length : Int) - 1), .string ⟨#[]⟩, .slice none 0 0, .string ⟨#[]⟩, .int .i64 0, .int .i64 0]) 37))) (v := .slice (some ⟨w7.heap.size, 0, none⟩) 1 1) (by rfl) rfl ?_ ?_
   ·go_simp
   have HX := Aside0.mk (show (w7.drew.alloc (.cells (List.toArray [.int .i64 10, .int .i64 ((ns.length : Int) - 1), .int .i64 ((ns.length : Int) + (ms.length : Int) - 1), .string ⟨#[]⟩, .slice none 0 0, .string ⟨#[]⟩, .int .i64 0, .int .i64 0]) 37)).heap[w7.heap.size]? = some (.cells (List.toArray [.int .i64 10, .int .i64 ((ns.length : Int) - 1), .int .i64 ((ns.length : Int) + (ms.length : Int) - 1), .string ⟨#[]⟩, .slice none 0 0, .string ⟨#[]⟩, .int .i64 0, .int .i64 0]) 37 (0, 0)) from blk_new w7.drew _)
   have nW_ := Aside0.mk (below_alloc (below_drew HW.out) (.cells (List.toArray [.int .i64 10, .int .i64 ((ns.length : Int) - 1), .int .i64 ((ns.length : Int) + (ms.length : Int) - 1), .string ⟨#[]⟩, .slice none 0 0, .string ⟨#[]⟩, .int .i64 0, .int .i64 0]) 37))
   have nA_ := Aside0.mk (blk_alloc (blk_drew HA.out) (.cells (List.toArray [.int .i64 10, .int .i64 ((ns.length : Int) - 1), .int .i64 ((ns.length : Int) + (ms.length : Int) - 1), .string ⟨#[]⟩, .slice none 0 0, .string ⟨#[]⟩, .int .i64 0, .int .i64 0]) 37))
   have nB_ := Aside0.mk (blk_alloc (blk_drew HB.out) (.cells (List.toArray [.int .i64 10, .int .i64 ((ns.length : Int) - 1), .int .i64 ((ns.length : Int) + (ms.length : Int) - 1), .string ⟨#[]⟩, .slice none 0 0, .string ⟨#[]⟩, .int .i64 0, .int .i64 0]) 37))
   have nR_ := Aside0.mk (blk_alloc (blk_drew HR.out) (.cells (List.toArray [.int .i64 10, .int .i64 ((ns.length : Int) - 1), .int .i64 ((ns.length : Int) + (ms.length : Int) - 1), .string ⟨#[]⟩, .slice none 0 0, .string ⟨#[]⟩, .int .i64 0, .int .i64 0]) 37))
   clear HW HA HB HR
   have HW := nW_
   have HA := nA_
   have HB := nB_
   have HR := nR_
   clear nW_ nA_ nB_ nR_
   have HOZ_ := Aside0.mk (Kd.N_alloc (Kd.N_drew HOZ.out) (.cells (List.toArray [.int .i64 10, .int .i64 ((ns.length : Int) - 1), .int .i64 ((ns.length : Int) + (ms.length : Int) - 1), .string ⟨#[]⟩, .slice none 0 0, .string ⟨#[]⟩, .int .i64 0, .int .i64 0]) 37))
   clear HOZ
   have HOZ := HOZ_
   clear HOZ_
   refine hK.out _ _ (row_cells HR.out) (fun hHeld => ?_)
   clear hK K
   refine norm_ (a' := ?_) ?_ ?_
   rotate_left
   ·show Act.put _ (some 114) _ = _
    simp only [Act.put, List.setIfInBounds_toArray, List.set_cons_zero, List.set_cons_succ, i64_w, i32_w]
    rfl
   refine one_ (i := 6) (N := some 115) #[true, true, true, true, true, true, true, true, false, false, false, false, false, false] rfl rfl (one_of HT_.out (by kernel_rfl)) (by decide) (fun K hK => ?_)
   refine app_own k37 (w0 := w) w.heap.size (by rfl) (.tmp 109) (.tmp 114) 22 37 (.agg #[(.int .i64 0), (.int .i64 0), (.int .i64 0), (.string ⟨#[]⟩), (.slice none 0 0), (.string ⟨#[]⟩), (.int .i64 0), (.int .i64 0)]) 96 rfl Tryz.underlying22 info37 rfl (by decide) (by omega) g Z.length cap Z (topN 10 ((ns.length : Int) - 1) ((ns.length : Int) + (ms.length : Int) - 1)) [.int .i64 10, .int .i64 ((ns.length : Int) - 1), .int .i64 ((ns.length : Int) + (ms.length : Int) - 1), .string ⟨#[]⟩, .slice none 0 0, .string ⟨#[]⟩, .int .i64 0, .int .i64 0] (fun _ => True) (fun _ => False) rfl w7.heap.size rfl (news_at HX.out) ?aP ?aK ?aF ?aO ?aB ?aS ?aL ?_
   case aP => exact k37_mkF _ _ (topN 10 ((ns.length : Int) - 1) ((ns.length : Int) + (ms.length : Int) - 1)) (A4 := none) (c4 := 0) (Nat.le_refl _) (Kd.F_nil _ _ _)
   case aK => exact fun _ h => h.elim
   case aF => exact fun _ _ => trivial
   case aO => exact HOZ.out
   case aB => exact HW.out
   case aS => exact below_size HW.out
   case aL => have := HZL.out; have := HS.out; omega
   intro g1 c1 w8 hR1 hR0 hl1 hl0 hc1 hbw hg1
   have nW_ := Aside0.mk (hbw)
   have nA_ := Aside0.mk (blk_grown HA.out hg1 (Kd.N_ne HOZ.out HA.out (by decide)))
   have nB_ := Aside0.mk (blk_grown HB.out hg1 (Kd.N_ne HOZ.out HB.out (by decide)))
   have nR_ := Aside0.mk (blk_grown HR.out hg1 (Kd.N_ne HOZ.out HR.out (by decide)))
   clear HW HA HB HR
   have HW := nW_
   have HA := nA_
   have HB := nB_
   have HR := nR_
   clear nW_ nA_ nB_ nR_
   have HR1 := Aside0.mk hR1
   have HR0 := Aside0.mk hR0
   have HG := Aside0.mk hl0
   have HCC := Aside0.mk hc1
   clear hR1 hR0 hl1 hl0 hc1 hbw hg1 HOZ HX
   refine hK.out _ _ (row_cells HR.out) (fun hHeld => ?_)
   clear hK K
   refine norm_ (a' := ?_) ?_ ?_
   rotate_left
   ·show Act.put _ (some 115) _ = _
    simp only [Act.put, List.setIfInBounds_toArray, List.set_cons_zero, List.set_cons_succ, i64_w, i32_w]
    rfl
   refine one_ (i := 8) (N := some 117) #[true, true, true, true, true, true, true, true, true, false, false, false, false, false] rfl rfl (one_of HT_.out (by kernel_rfl)) (by decide) (fun K hK => ?_)
   refine goes_ Tryz.func18 (by kernel_rfl) rfl #[.slice (some ⟨g1, 0, none⟩) (Z.length + 1) c1, .agg #[.int .i64 s, .int .i64 t, .slice AL l.length cL]] (by rfl) rfl rfl (by (try simp only [List.map_toArray, List.map_cons, List.map_nil]); first | done | rfl) ?_
   have hcall := HJ.out 10 g1 c1 _ (Or.inl rfl) HW.out HR1.out HCC.out
   rw [if_pos rfl] at hcall
   refine (hcall).mono ?_
   rintro e w9 ⟨rfl, hbc⟩
   refine ⟨_, rfl, ?_⟩
   have nW_ := Aside0.mk (below_step HW.out hbc)
   have nA_ := Aside0.mk (blk_below HA.out hbc)
   have nB_ := Aside0.mk (blk_below HB.out hbc)
   have nR_ := Aside0.mk (blk_below HR.out hbc)
   clear HW HA HB HR
   have HW := nW_
   have HA := nA_
   have HB := nB_
   have HR := nR_
   clear nW_ nA_ nB_ nR_
   have HR0_ := Aside0.mk (Rd.below HR0.out HG.out hbc)
   have HG_ := Aside0.mk (Nat.lt_of_lt_of_le HG.out (below_size hbc))
   clear HR0 HG HR1 HCC
   have HR0 := HR0_
   have HG := HG_
   clear HR0_ HG_
   clear hbc hcall
   refine hK.out _ _ (row_cells HR.out) (fun hHeld => ?_)
   clear hK K
   refine norm_ (a' := ?_) ?_ ?_
   rotate_left
   ·show Act.put _ (some 117) _ = _
    simp only [Act.put, List.setIfInBounds_toArray, List.set_cons_zero, List.set_cons_succ, i64_w, i32_w]
    rfl
   refine pS 9 (some 108) HT_ ?_
   refine pS 10 (some 118) HT_ ?_
   refine pS 11 (some 119) HT_ ?_
   refine pS 12 (some 16) HT_ ?_
   refine pS 13 (some 17) HT_ ?_
   refine done_ (done_of HT_.out (by kernel_rfl)) ?_
   clear hHeld HT_ HW_
   go_wp2_with fail
   have z1 := HZ1.out
   have z2 := HZ2.out
   have hcap := HCAP.out
   refine start_ (n := 19) (S := fun w' => w'.cell? ⟨w.heap.size + 1 + 1, 0, none⟩ = some (.int .i64 s) ∧ w'.cell? ⟨w.heap.size + 1 + 1, 1, none⟩ = some (.int .i64 t) ∧ w'.cell? ⟨w.heap.size + 1 + 1, 2, none⟩ = some (.slice AL l.length cL)) (ds := []) #[false, false, false, false, false, false, false, false, false, false, false, false, false, false, false, false, false, false, false] (by kernel_rfl) rfl rfl (row_cells (blk_drew HR.out)) (fun hHeld => ?_)
   refine with_tabW sums_r.tab20 sums_r.bits20 (fun HT_ HW_ => ?_)
   refine pS 0 (some 121) HT_ ?_
   refine pS 1 (some 122) HT_ ?_
   refine pS 2 (some 123) HT_ ?_
   refine pS 3 (some 124) HT_ ?_
   refine pS 4 (some 125) HT_ ?_
   refine pS 5 (some 126) HT_ ?_
   refine pS 6 (some 127) HT_ ?_
   refine pS 7 (some 128) HT_ ?_
   refine pS 8 (some 129) HT_ ?_
   refine pS 9 (some 130) HT_ ?_
   refine tS 12 (some 133) HT_ HW_ hHeld ?_
   refine one_ (i := 10) (N := some 131) #[true, true, true, true, true, true, true, true, true, true, true, false, true, false, false, false, false, false, false] rfl rfl (one_of HT_.out (by kernel_rfl)) (by decide) (fun K hK => ?_)
   refine value_ (w1 := (w9.drew.alloc (.cells (List.toArray [.int .i64 11, .int .i64 ((ns.length : Int) - 1), .int .i64 ((ns.length : Int) + (ms.length : Int) - 1), .string ⟨#[]⟩, .slice none 0 0, .string ⟨#[]⟩, .int .i64 0, .int .i64 0]) 37))) (v := .slice (some ⟨w9.heap.size, 0, none⟩) 1 1) (by rfl) rfl ?_ ?_
   ·go_simp
   have HX := Aside0.mk (show (w9.drew.alloc (.cells (List.toArray [.int .i64 11, .int .i64 ((ns.length : Int) - 1), .int .i64 ((ns.length : Int) + (ms.length : Int) - 1), .string ⟨#[]⟩, .slice none 0 0, .string ⟨#[]⟩, .int .i64 0, .int .i64 0]) 37)).heap[w9.heap.size]? = some (.cells (List.toArray [.int .i64 11, .int .i64 ((ns.length : Int) - 1), .int .i64 ((ns.length : Int) + (ms.length : Int) - 1), .string ⟨#[]⟩, .slice none 0 0, .string ⟨#[]⟩, .int .i64 0, .int .i64 0]) 37 (0, 0)) from blk_new w9.drew _)
   have nW_ := Aside0.mk (below_alloc (below_drew HW.out) (.cells (List.toArray [.int .i64 11, .int .i64 ((ns.length : Int) - 1), .int .i64 ((ns.length : Int) + (ms.length : Int) - 1), .string ⟨#[]⟩, .slice none 0 0, .string ⟨#[]⟩, .int .i64 0, .int .i64 0]) 37))
   have nA_ := Aside0.mk (blk_alloc (blk_drew HA.out) (.cells (List.toArray [.int .i64 11, .int .i64 ((ns.length : Int) - 1), .int .i64 ((ns.length : Int) + (ms.length : Int) - 1), .string ⟨#[]⟩, .slice none 0 0, .string ⟨#[]⟩, .int .i64 0, .int .i64 0]) 37))
   have nB_ := Aside0.mk (blk_alloc (blk_drew HB.out) (.cells (List.toArray [.int .i64 11, .int .i64 ((ns.length : Int) - 1), .int .i64 ((ns.length : Int) + (ms.length : Int) - 1), .string ⟨#[]⟩, .slice none 0 0, .string ⟨#[]⟩, .int .i64 0, .int .i64 0]) 37))
   have nR_ := Aside0.mk (blk_alloc (blk_drew HR.out) (.cells (List.toArray [.int .i64 11, .int .i64 ((ns.length : Int) - 1), .int .i64 ((ns.length : Int) + (ms.length : Int) - 1), .string ⟨#[]⟩, .slice none 0 0, .string ⟨#[]⟩, .int .i64 0, .int .i64 0]) 37))
   clear HW HA HB HR
   have HW := nW_
   have HA := nA_
   have HB := nB_
   have HR := nR_
   clear nW_ nA_ nB_ nR_
   have HR0_ := Aside0.mk (Rd.below HR0.out HG.out (below_alloc (below_drew (Below.refl _ _)) (.cells (List.toArray [.int .i64 11, .int .i64 ((ns.length : Int) - 1), .int .i64 ((ns.length : Int) + (ms.length : Int) - 1), .string ⟨#[]⟩, .slice none 0 0, .string ⟨#[]⟩, .int .i64 0, .int .i64 0]) 37)))
   have HG_ := Aside0.mk (Nat.lt_of_lt_of_le HG.out (below_size (below_alloc (below_drew (Below.refl w9.heap.size w9)) (.cells (List.toArray [.int .i64 11, .int .i64 ((ns.length : Int) - 1), .int .i64 ((ns.length : Int) + (ms.length : Int) - 1), .string ⟨#[]⟩, .slice none 0 0, .string ⟨#[]⟩, .int .i64 0, .int .i64 0]) 37))))
   clear HR0 HG
   have HR0 := HR0_
   have HG := HG_
   clear HR0_ HG_
   refine hK.out _ _ (row_cells HR.out) (fun hHeld => ?_)
   clear hK K
   refine norm_ (a' := ?_) ?_ ?_
   rotate_left
   ·show Act.put _ (some 131) _ = _
    simp only [Act.put, List.setIfInBounds_toArray, List.set_cons_zero, List.set_cons_succ, i64_w, i32_w]
    rfl
   refine one_ (i := 11) (N := some 132) #[true, true, true, true, true, true, true, true, true, true, true, true, true, false, false, false, false, false, false] rfl rfl (one_of HT_.out (by kernel_rfl)) (by decide) (fun K hK => ?_)
   refine app_cut k37 (w0 := w) w.heap.size (by rfl) (.tmp 126) (.tmp 131) 22 37 (.agg #[(.int .i64 0), (.int .i64 0), (.int .i64 0), (.string ⟨#[]⟩), (.slice none 0 0), (.string ⟨#[]⟩), (.int .i64 0), (.int .i64 0)]) 96 rfl Tryz.underlying22 info37 rfl (by decide) (by omega) g Z.length Z (topN 11 ((ns.length : Int) - 1) ((ns.length : Int) + (ms.length : Int) - 1)) [.int .i64 11, .int .i64 ((ns.length : Int) - 1), .int .i64 ((ns.length : Int) + (ms.length : Int) - 1), .string ⟨#[]⟩, .slice none 0 0, .string ⟨#[]⟩, .int .i64 0, .int .i64 0] (fun _ => False) rfl rfl w9.heap.size rfl (news_at HX.out) ?aP ?aO ?aG ?aB ?aS ?aL ?_
   case aP => exact k37_mkF _ _ (topN 11 ((ns.length : Int) - 1) ((ns.length : Int) + (ms.length : Int) - 1)) (A4 := none) (c4 := 0) (Nat.le_refl _) (Kd.F_nil _ _ _)
   case aO => exact HR0.out
   case aG => exact HG.out
   case aB => exact HW.out
   case aS => exact below_size HW.out
   case aL => have := HZL.out; have := HS.out; omega
   intro g2 c2_ wA hR1 hl1 hc1 hbw hbk
   have nW_ := Aside0.mk (hbw)
   have nA_ := Aside0.mk ((hbk _ (blk_lt HA.out)).trans HA.out)
   have nB_ := Aside0.mk ((hbk _ (blk_lt HB.out)).trans HB.out)
   have nR_ := Aside0.mk ((hbk _ (blk_lt HR.out)).trans HR.out)
   clear HW HA HB HR
   have HW := nW_
   have HA := nA_
   have HB := nB_
   have HR := nR_
   clear nW_ nA_ nB_ nR_
   have HR1 := Aside0.mk hR1
   have HCC := Aside0.mk hc1
   clear hR1 hl1 hc1 hbw hbk HX HR0 HG
   refine hK.out _ _ (row_cells HR.out) (fun hHeld => ?_)
   clear hK K
   refine norm_ (a' := ?_) ?_ ?_
   rotate_left
   ·show Act.put _ (some 132) _ = _
    simp only [Act.put, List.setIfInBounds_toArray, List.set_cons_zero, List.set_cons_succ, i64_w, i32_w]
    rfl
   refine one_ (i := 13) (N := some 134) #[true, true, true, true, true, true, true, true, true, true, true, true, true, true, false, false, false, false, false] rfl rfl (one_of HT_.out (by kernel_rfl)) (by decide) (fun K hK => ?_)
   refine goes_ Tryz.func18 (by kernel_rfl) rfl #[.slice (some ⟨g2, 0, none⟩) (Z.length + 1) c2_, .agg #[.int .i64 s, .int .i64 t, .slice AL l.length cL]] (by rfl) rfl rfl (by (try simp only [List.map_toArray, List.map_cons, List.map_nil]); first | done | rfl) ?_
   have hcall := HJ.out 11 g2 c2_ _ (Or.inr rfl) HW.out HR1.out HCC.out
   rw [if_neg (by decide)] at hcall
   refine (hcall).mono ?_
   rintro e wB ⟨rfl, hbc⟩
   refine ⟨_, rfl, ?_⟩
   have nW_ := Aside0.mk (below_step HW.out hbc)
   have nA_ := Aside0.mk (blk_below HA.out hbc)
   have nB_ := Aside0.mk (blk_below HB.out hbc)
   have nR_ := Aside0.mk (blk_below HR.out hbc)
   clear HW HA HB HR
   have HW := nW_
   have HA := nA_
   have HB := nB_
   have HR := nR_
   clear nW_ nA_ nB_ nR_
   clear HR1 HCC
   clear hbc hcall
   refine hK.out _ _ (row_cells HR.out) (fun hHeld => ?_)
   clear hK K
   refine norm_ (a' := ?_) ?_ ?_
   rotate_left
   ·show Act.put _ (some 134) _ = _
    simp only [Act.put, List.setIfInBounds_toArray, List.set_cons_zero, List.set_cons_succ, i64_w, i32_w]
    rfl
   refine pS 14 (some 120) HT_ ?_
   refine pS 15 (some 135) HT_ ?_
   refine pS 16 (some 136) HT_ ?_
   refine pS 17 (some 18) HT_ ?_
   refine pS 18 (some 19) HT_ ?_
   refine done_ (done_of HT_.out (by kernel_rfl)) ?_
   clear hHeld HT_ HW_
   go_wp2_with fail
   have z1 := HZ1.out
   have z2 := HZ2.out
   refine start_ (n := 15) (S := fun w' => (w'.cell? ⟨w.heap.size, 0, none⟩ = some (.slice A ns.length c) ∧ w'.cell? ⟨w.heap.size, 1, none⟩ = some (.int .i64 k) ∧ w'.cell? ⟨w.heap.size, 2, none⟩ = some (.string ky) ∧ w'.cell? ⟨w.heap.size, 3, none⟩ = some (.int .i64 wd) ∧ w'.cell? ⟨w.heap.size, 4, none⟩ = some (.int .i64 sk) ∧ w'.cell? ⟨w.heap.size, 5, none⟩ = some (.int .i64 mo)) ∧ w'.cell? ⟨w.heap.size + 1 + 1, 0, none⟩ = some (.int .i64 s) ∧ w'.cell? ⟨w.heap.size + 1 + 1, 1, none⟩ = some (.int .i64 t) ∧ w'.cell? ⟨w.heap.size + 1 + 1, 2, none⟩ = some (.slice AL l.length cL)) (ds := []) #[false, false, false, false, false, false, false, false, false, false, false, false, false, false, false] (by kernel_rfl) rfl rfl ⟨ask_cells (blk_drew HA.out), row_cells (blk_drew HR.out)⟩ (fun hHeld => ?_)
   refine with_tabW sums_r.tab21 sums_r.bits21 (fun HT_ HW_ => ?_)
   refine pS 3 (some 141) HT_ ?_
   refine pS 4 (some 142) HT_ ?_
   refine pS 5 (some 143) HT_ ?_
   refine tS 0 (some 138) HT_ HW_ hHeld ?_
   refine tS 8 (some 146) HT_ HW_ hHeld ?_
   refine two_ (i := 1) (j := 6) (Ni := (some 139)) (Nj := (some 144)) #[true, true, false, true, true, true, false, false, true, false, false, false, false, false, false] #[true, false, false, true, true, true, true, false, true, false, false, false, false, false, false] rfl rfl rfl rfl (two_of HT_.out (by kernel_rfl)) (by decide) (by decide) (fun K hK => ?_) (fun K hK => ?_)
   ·have HW_0 := Aside0.mk (below_drew HW.out)
    have HA_0 := Aside0.mk (blk_drew HA.out)
    have HB_0 := Aside0.mk (blk_drew HB.out)
    have HR_0 := Aside0.mk (blk_drew HR.out)
    clear HW HA HB HR
    have HW := HW_0
    have HA := HA_0
    have HB := HB_0
    have HR := HR_0
    clear HW_0 HA_0 HB_0 HR_0
    refine goes_ Tryz.func17 (by kernel_rfl) rfl #[.agg #[.slice A ns.length c, .int .i64 k, .string ky, .int .i64 wd, .int .i64 sk, .int .i64 mo]] (by rfl) rfl rfl (by (try simp only [List.map_toArray, List.map_cons, List.map_nil]); first | done | rfl) ?_
    refine (HCP.out (by first | rfl | trivial) _ HW.out).mono ?_
    rintro e wC ⟨v0, rfl, hn0, hbc⟩
    refine ⟨_, rfl, ?_⟩
    have hn1 := Kd.N_lower hn0 (below_size HW.out)
    have HO := Aside0.mk (Kd.N_mono (ok' := fun _ => True) hn1 (fun _ _ => trivial))
    clear hn0 hn1
    obtain ⟨gc, cc, ec, hgcb, hgcl, _⟩ := Kd.N_form HO.out (by have := HN1.out; omega)
    subst ec
    clear hgcb hgcl
    have nW_ := Aside0.mk (below_step HW.out hbc)
    have nA_ := Aside0.mk (blk_below HA.out hbc)
    have nB_ := Aside0.mk (blk_below HB.out hbc)
    have nR_ := Aside0.mk (blk_below HR.out hbc)
    clear HW HA HB HR
    have HW := nW_
    have HA := nA_
    have HB := nB_
    have HR := nR_
    clear nW_ nA_ nB_ nR_
    clear hbc
    refine hK.out _ _ ⟨ask_cells HA.out, row_cells HR.out⟩ (fun hHeld => ?_)
    clear hK K
    refine norm_ (a' := ?_) ?_ ?_
    rotate_left
    ·show Act.put _ (some 139) _ = _
     simp only [Act.put, List.setIfInBounds_toArray, List.set_cons_zero, List.set_cons_succ, i64_w, i32_w]
     rfl
    have hfd : ∀ w : World, (Instr.field 24 (.agg #[.slice (some ⟨gc, 0, none⟩) ns.length cc, .int .i64 k, .string ky, .int .i64 wd, .int .i64 sk, .int .i64 mo]) 0).run Tryz.prog w = .ok (.slice (some ⟨gc, 0, none⟩) ns.length cc) w := fun _ => by kernel_rfl
    refine pS 2 (some 140) HT_ ?_
    refine one_ (i := 6) (N := some 144) #[true, true, true, true, true, true, true, false, true, false, false, false, false, false, false] rfl rfl (one_of HT_.out (by kernel_rfl)) (by decide) (fun K hK => ?_)
    refine value_ (w1 := (wC.alloc (.cells (List.toArray [.int .i64 12, .int .i64 ((ns.length : Int) - 1), .int .i64 (0), .string ⟨#[]⟩, .slice none 0 0, .string ⟨#[]⟩, .int .i64 0, .int .i64 0]) 37))) (v := .slice (some ⟨wC.heap.size, 0, none⟩) 1 1) (by rfl) rfl ?_ ?_
    ·go_simp
    have HX := Aside0.mk (show (wC.alloc (.cells (List.toArray [.int .i64 12, .int .i64 ((ns.length : Int) - 1), .int .i64 (0), .string ⟨#[]⟩, .slice none 0 0, .string ⟨#[]⟩, .int .i64 0, .int .i64 0]) 37)).heap[wC.heap.size]? = some (.cells (List.toArray [.int .i64 12, .int .i64 ((ns.length : Int) - 1), .int .i64 (0), .string ⟨#[]⟩, .slice none 0 0, .string ⟨#[]⟩, .int .i64 0, .int .i64 0]) 37 (0, 0)) from blk_new wC _)
    have nW_ := Aside0.mk (below_alloc (HW.out) (.cells (List.toArray [.int .i64 12, .int .i64 ((ns.length : Int) - 1), .int .i64 (0), .string ⟨#[]⟩, .slice none 0 0, .string ⟨#[]⟩, .int .i64 0, .int .i64 0]) 37))
    have nA_ := Aside0.mk (blk_alloc (HA.out) (.cells (List.toArray [.int .i64 12, .int .i64 ((ns.length : Int) - 1), .int .i64 (0), .string ⟨#[]⟩, .slice none 0 0, .string ⟨#[]⟩, .int .i64 0, .int .i64 0]) 37))
    have nB_ := Aside0.mk (blk_alloc (HB.out) (.cells (List.toArray [.int .i64 12, .int .i64 ((ns.length : Int) - 1), .int .i64 (0), .string ⟨#[]⟩, .slice none 0 0, .string ⟨#[]⟩, .int .i64 0, .int .i64 0]) 37))
    have nR_ := Aside0.mk (blk_alloc (HR.out) (.cells (List.toArray [.int .i64 12, .int .i64 ((ns.length : Int) - 1), .int .i64 (0), .string ⟨#[]⟩, .slice none 0 0, .string ⟨#[]⟩, .int .i64 0, .int .i64 0]) 37))
    clear HW HA HB HR
    have HW := nW_
    have HA := nA_
    have HB := nB_
    have HR := nR_
    clear nW_ nA_ nB_ nR_
    have HO_ := Aside0.mk (Kd.N_alloc HO.out (.cells (List.toArray [.int .i64 12, .int .i64 ((ns.length : Int) - 1), .int .i64 (0), .string ⟨#[]⟩, .slice none 0 0, .string ⟨#[]⟩, .int .i64 0, .int .i64 0]) 37))
    clear HO
    have HO := HO_
    clear HO_
    refine hK.out _ _ ⟨ask_cells HA.out, row_cells HR.out⟩ (fun hHeld => ?_)
    clear hK K
    refine norm_ (a' := ?_) ?_ ?_
    rotate_left
    ·show Act.put _ (some 144) _ = _
     simp only [Act.put, List.setIfInBounds_toArray, List.set_cons_zero, List.set_cons_succ, i64_w, i32_w]
     rfl
    refine one_ (i := 7) (N := some 145) #[true, true, true, true, true, true, true, true, true, false, false, false, false, false, false] rfl rfl (one_of HT_.out (by kernel_rfl)) (by decide) (fun K hK => ?_)
    refine app_own k37 (w0 := w) w.heap.size (by rfl) (.tmp 140) (.tmp 144) 22 37 (.agg #[(.int .i64 0), (.int .i64 0), (.int .i64 0), (.string ⟨#[]⟩), (.slice none 0 0), (.string ⟨#[]⟩), (.int .i64 0), (.int .i64 0)]) 96 rfl Tryz.underlying22 info37 rfl (by decide) (by omega) gc ns.length cc ns (topN 12 ((ns.length : Int) - 1) 0) [.int .i64 12, .int .i64 ((ns.length : Int) - 1), .int .i64 (0), .string ⟨#[]⟩, .slice none 0 0, .string ⟨#[]⟩, .int .i64 0, .int .i64 0] (fun _ => True) (fun _ => False) rfl wC.heap.size rfl (news_at HX.out) ?aP ?aK ?aF ?aO ?aB ?aS ?aL ?_
    case aP => exact k37_mkF _ _ (topN 12 ((ns.length : Int) - 1) (0)) (A4 := none) (c4 := 0) (Nat.le_refl _) (Kd.F_nil _ _ _)
    case aK => exact fun _ h => h.elim
    case aF => exact fun _ _ => trivial
    case aO => exact HO.out
    case aB => exact HW.out
    case aS => exact below_size HW.out
    case aL => have := HN1.out; omega
    intro g1 c1 wD hR1 hR0 hl1 hl0 hc1 hbw hg1
    have nW_ := Aside0.mk (hbw)
    have nA_ := Aside0.mk (blk_grown HA.out hg1 (Kd.N_ne HO.out HA.out (by decide)))
    have nB_ := Aside0.mk (blk_grown HB.out hg1 (Kd.N_ne HO.out HB.out (by decide)))
    have nR_ := Aside0.mk (blk_grown HR.out hg1 (Kd.N_ne HO.out HR.out (by decide)))
    clear HW HA HB HR
    have HW := nW_
    have HA := nA_
    have HB := nB_
    have HR := nR_
    clear nW_ nA_ nB_ nR_
    have HR1 := Aside0.mk hR1
    have HCC := Aside0.mk hc1
    clear hR1 hR0 hl1 hl0 hc1 hbw hg1 HO HX
    refine hK.out _ _ ⟨ask_cells HA.out, row_cells HR.out⟩ (fun hHeld => ?_)
    clear hK K
    refine norm_ (a' := ?_) ?_ ?_
    rotate_left
    ·show Act.put _ (some 145) _ = _
     simp only [Act.put, List.setIfInBounds_toArray, List.set_cons_zero, List.set_cons_succ, i64_w, i32_w]
     rfl
    refine one_ (i := 9) (N := some 147) #[true, true, true, true, true, true, true, true, true, true, false, false, false, false, false] rfl rfl (one_of HT_.out (by kernel_rfl)) (by decide) (fun K hK => ?_)
    refine goes_ Tryz.func18 (by kernel_rfl) rfl #[.slice (some ⟨g1, 0, none⟩) (ns.length + 1) c1, .agg #[.int .i64 s, .int .i64 t, .slice AL l.length cL]] (by rfl) rfl rfl (by (try simp only [List.map_toArray, List.map_cons, List.map_nil]); first | done | rfl) ?_
    have hcall := HT.out g1 c1 _ HW.out HR1.out HCC.out
    refine (hcall).mono ?_
    rintro e wE ⟨rfl, hbc⟩
    refine ⟨_, rfl, ?_⟩
    have nW_ := Aside0.mk (below_step HW.out hbc)
    have nA_ := Aside0.mk (blk_below HA.out hbc)
    have nB_ := Aside0.mk (blk_below HB.out hbc)
    have nR_ := Aside0.mk (blk_below HR.out hbc)
    clear HW HA HB HR
    have HW := nW_
    have HA := nA_
    have HB := nB_
    have HR := nR_
    clear nW_ nA_ nB_ nR_
    clear HR1 HCC
    clear hbc hcall
    refine hK.out _ _ ⟨ask_cells HA.out, row_cells HR.out⟩ (fun hHeld => ?_)
    clear hK K
    refine norm_ (a' := ?_) ?_ ?_
    rotate_left
    ·show Act.put _ (some 147) _ = _
     simp only [Act.put, List.setIfInBounds_toArray, List.set_cons_zero, List.set_cons_succ, i64_w, i32_w]
     rfl
    refine pS 10 (some 137) HT_ ?_
    refine pS 11 (some 148) HT_ ?_
    refine pS 12 (some 149) HT_ ?_
    refine pS 13 (some 20) HT_ ?_
    refine pS 14 (some 21) HT_ ?_
    refine done_ (done_of HT_.out (by kernel_rfl)) ?_
    clear hHeld HT_ HW_
    have HPA := Aside0.mk trivial
    cases pa <;> cases pb
    all_goals (go_wp2_with fail)
    all_goals go_ret
    all_goals exact ⟨rfl, HW.out⟩
   ·refine value_ (w1 := (wB.drew.alloc (.cells (List.toArray [.int .i64 12, .int .i64 ((ns.length : Int) - 1), .int .i64 (0), .string ⟨#[]⟩, .slice none 0 0, .string ⟨#[]⟩, .int .i64 0, .int .i64 0]) 37))) (v := .slice (some ⟨wB.heap.size, 0, none⟩) 1 1) (by rfl) rfl ?_ ?_
    ·go_simp
    have HX := Aside0.mk (show (wB.drew.alloc (.cells (List.toArray [.int .i64 12, .int .i64 ((ns.length : Int) - 1), .int .i64 (0), .string ⟨#[]⟩, .slice none 0 0, .string ⟨#[]⟩, .int .i64 0, .int .i64 0]) 37)).heap[wB.heap.size]? = some (.cells (List.toArray [.int .i64 12, .int .i64 ((ns.length : Int) - 1), .int .i64 (0), .string ⟨#[]⟩, .slice none 0 0, .string ⟨#[]⟩, .int .i64 0, .int .i64 0]) 37 (0, 0)) from blk_new wB.drew _)
    have nW_ := Aside0.mk (below_alloc (below_drew HW.out) (.cells (List.toArray [.int .i64 12, .int .i64 ((ns.length : Int) - 1), .int .i64 (0), .string ⟨#[]⟩, .slice none 0 0, .string ⟨#[]⟩, .int .i64 0, .int .i64 0]) 37))
    have nA_ := Aside0.mk (blk_alloc (blk_drew HA.out) (.cells (List.toArray [.int .i64 12, .int .i64 ((ns.length : Int) - 1), .int .i64 (0), .string ⟨#[]⟩, .slice none 0 0, .string ⟨#[]⟩, .int .i64 0, .int .i64 0]) 37))
    have nB_ := Aside0.mk (blk_alloc (blk_drew HB.out) (.cells (List.toArray [.int .i64 12, .int .i64 ((ns.length : Int) - 1), .int .i64 (0), .string ⟨#[]⟩, .slice none 0 0, .string ⟨#[]⟩, .int .i64 0, .int .i64 0]) 37))
    have nR_ := Aside0.mk (blk_alloc (blk_drew HR.out) (.cells (List.toArray [.int .i64 12, .int .i64 ((ns.length : Int) - 1), .int .i64 (0), .string ⟨#[]⟩, .slice none 0 0, .string ⟨#[]⟩, .int .i64 0, .int .i64 0]) 37))
    clear HW HA HB HR
    have HW := nW_
    have HA := nA_
    have HB := nB_
    have HR := nR_
    clear nW_ nA_ nB_ nR_
    refine hK.out _ _ ⟨ask_cells HA.out, row_cells HR.out⟩ (fun hHeld => ?_)
    clear hK K
    refine norm_ (a' := ?_) ?_ ?_
    rotate_left
    ·show Act.put _ (some 144) _ = _
     simp only [Act.put, List.setIfInBounds_toArray, List.set_cons_zero, List.set_cons_succ, i64_w, i32_w]
     rfl
    refine one_ (i := 1) (N := some 139) #[true, true, false, true, true, true, true, false, true, false, false, false, false, false, false] rfl rfl (one_of HT_.out (by kernel_rfl)) (by decide) (fun K hK => ?_)
    refine goes_ Tryz.func17 (by kernel_rfl) rfl #[.agg #[.slice A ns.length c, .int .i64 k, .string ky, .int .i64 wd, .int .i64 sk, .int .i64 mo]] (by rfl) rfl rfl (by (try simp only [List.map_toArray, List.map_cons, List.map_nil]); first | done | rfl) ?_
    refine (HCP.out (by first | rfl | trivial) _ HW.out).mono ?_
    rintro e wC ⟨v0, rfl, hn0, hbc⟩
    refine ⟨_, rfl, ?_⟩
    have hn1 := Kd.N_lower hn0 (below_size HW.out)
    have HO := Aside0.mk (Kd.N_mono (ok' := fun _ => True) hn1 (fun _ _ => trivial))
    clear hn0 hn1
    obtain ⟨gc, cc, ec, hgcb, hgcl, _⟩ := Kd.N_form HO.out (by have := HN1.out; omega)
    subst ec
    clear hgcb hgcl
    have HX_ := Aside0.mk (blk_below HX.out hbc)
    clear HX
    have HX := HX_
    clear HX_
    have nW_ := Aside0.mk (below_step HW.out hbc)
    have nA_ := Aside0.mk (blk_below HA.out hbc)
    have nB_ := Aside0.mk (blk_below HB.out hbc)
    have nR_ := Aside0.mk (blk_below HR.out hbc)
    clear HW HA HB HR
    have HW := nW_
    have HA := nA_
    have HB := nB_
    have HR := nR_
    clear nW_ nA_ nB_ nR_
    clear hbc
    refine hK.out _ _ ⟨ask_cells HA.out, row_cells HR.out⟩ (fun hHeld => ?_)
    clear hK K
    have hfd : ∀ w : World, (Instr.field 24 (.agg #[.slice (some ⟨gc, 0, none⟩) ns.length cc, .int .i64 k, .string ky, .int .i64 wd, .int .i64 sk, .int .i64 mo]) 0).run Tryz.prog w = .ok (.slice (some ⟨gc, 0, none⟩) ns.length cc) w := fun _ => by kernel_rfl
    refine norm_ (a' := ?_) ?_ ?_
    rotate_left
    ·show Act.put _ (some 139) _ = _
     simp only [Act.put, List.setIfInBounds_toArray, List.set_cons_zero, List.set_cons_succ, i64_w, i32_w]
     rfl
    refine pS 2 (some 140) HT_ ?_
    refine one_ (i := 7) (N := some 145) #[true, true, true, true, true, true, true, true, true, false, false, false, false, false, false] rfl rfl (one_of HT_.out (by kernel_rfl)) (by decide) (fun K hK => ?_)
    refine app_own k37 (w0 := w) w.heap.size (by rfl) (.tmp 140) (.tmp 144) 22 37 (.agg #[(.int .i64 0), (.int .i64 0), (.int .i64 0), (.string ⟨#[]⟩), (.slice none 0 0), (.string ⟨#[]⟩), (.int .i64 0), (.int .i64 0)]) 96 rfl Tryz.underlying22 info37 rfl (by decide) (by omega) gc ns.length cc ns (topN 12 ((ns.length : Int) - 1) 0) [.int .i64 12, .int .i64 ((ns.length : Int) - 1), .int .i64 (0), .string ⟨#[]⟩, .slice none 0 0, .string ⟨#[]⟩, .int .i64 0, .int .i64 0] (fun _ => True) (fun _ => False) rfl wB.heap.size rfl (news_at HX.out) ?aP ?aK ?aF ?aO ?aB ?aS ?aL ?_
    case aP => exact k37_mkF _ _ (topN 12 ((ns.length : Int) - 1) (0)) (A4 := none) (c4 := 0) (Nat.le_refl _) (Kd.F_nil _ _ _)
    case aK => exact fun _ h => h.elim
    case aF => exact fun _ _ => trivial
    case aO => exact HO.out
    case aB => exact HW.out
    case aS => exact below_size HW.out
    case aL => have := HN1.out; omega
    intro g1 c1 wD hR1 hR0 hl1 hl0 hc1 hbw hg1
    have nW_ := Aside0.mk (hbw)
    have nA_ := Aside0.mk (blk_grown HA.out hg1 (Kd.N_ne HO.out HA.out (by decide)))
    have nB_ := Aside0.mk (blk_grown HB.out hg1 (Kd.N_ne HO.out HB.out (by decide)))
    have nR_ := Aside0.mk (blk_grown HR.out hg1 (Kd.N_ne HO.out HR.out (by decide)))
    clear HW HA HB HR
    have HW := nW_
    have HA := nA_
    have HB := nB_
    have HR := nR_
    clear nW_ nA_ nB_ nR_
    have HR1 := Aside0.mk hR1
    have HCC := Aside0.mk hc1
    clear hR1 hR0 hl1 hl0 hc1 hbw hg1 HO HX
    refine hK.out _ _ ⟨ask_cells HA.out, row_cells HR.out⟩ (fun hHeld => ?_)
    clear hK K
    refine norm_ (a' := ?_) ?_ ?_
    rotate_left
    ·show Act.put _ (some 145) _ = _
     simp only [Act.put, List.setIfInBounds_toArray, List.set_cons_zero, List.set_cons_succ, i64_w, i32_w]
     rfl
    refine one_ (i := 9) (N := some 147) #[true, true, true, true, true, true, true, true, true, true, false, false, false, false, false] rfl rfl (one_of HT_.out (by kernel_rfl)) (by decide) (fun K hK => ?_)
    refine goes_ Tryz.func18 (by kernel_rfl) rfl #[.slice (some ⟨g1, 0, none⟩) (ns.length + 1) c1, .agg #[.int .i64 s, .int .i64 t, .slice AL l.length cL]] (by rfl) rfl rfl (by (try simp only [List.map_toArray, List.map_cons, List.map_nil]); first | done | rfl) ?_
    have hcall := HT.out g1 c1 _ HW.out HR1.out HCC.out
    refine (hcall).mono ?_
    rintro e wE ⟨rfl, hbc⟩
    refine ⟨_, rfl, ?_⟩
    have nW_ := Aside0.mk (below_step HW.out hbc)
    have nA_ := Aside0.mk (blk_below HA.out hbc)
    have nB_ := Aside0.mk (blk_below HB.out hbc)
    have nR_ := Aside0.mk (blk_below HR.out hbc)
    clear HW HA HB HR
    have HW := nW_
    have HA := nA_
    have HB := nB_
    have HR := nR_
    clear nW_ nA_ nB_ nR_
    clear HR1 HCC
    clear hbc hcall
    refine hK.out _ _ ⟨ask_cells HA.out, row_cells HR.out⟩ (fun hHeld => ?_)
    clear hK K
    refine norm_ (a' := ?_) ?_ ?_
    rotate_left
    ·show Act.put _ (some 147) _ = _
     simp only [Act.put, List.setIfInBounds_toArray, List.set_cons_zero, List.set_cons_succ, i64_w, i32_w]
     rfl
    refine pS 10 (some 137) HT_ ?_
    refine pS 11 (some 148) HT_ ?_
    refine pS 12 (some 149) HT_ ?_
    refine pS 13 (some 20) HT_ ?_
    refine pS 14 (some 21) HT_ ?_
    refine done_ (done_of HT_.out (by kernel_rfl)) ?_
    clear hHeld HT_ HW_
    have HPA := Aside0.mk trivial
    cases pa <;> cases pb
    all_goals (go_wp2_with fail)
    all_goals go_ret
    all_goals exact ⟨rfl, HW.out⟩
end Go.Proofs.YtehaodbheifokaaGreatDoor.P
end
