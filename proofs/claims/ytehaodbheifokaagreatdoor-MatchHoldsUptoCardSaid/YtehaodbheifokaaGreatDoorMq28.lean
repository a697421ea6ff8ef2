/- Joined by wip/tools/pack.py, pruned: Node20. -/
import Derived.Test.YtehaodbheifokaaGreatDoorMq19
import Derived.Test.YtehaodbheifokaaGreatDoorMq27
set_option maxHeartbeats 8000000
set_option maxRecDepth 100000
set_option linter.unusedVariables false
set_option linter.unusedSimpArgs false
section
namespace Go.Proofs.YtehaodbheifokaaGreatDoor.P
open Go Go.RowKit Go.Proofs.YtehaodbheifokaaGreatDoorW.PrintWords Go.Proofs.YtehaodbheifokaaGreatDoorW.PrintLast Go.Proofs.YtehaodbheifokaaGreatDoorW.PrintMore
attribute [local go_sem] max2_int min2_int max_two min_two
theorem nodePre (A : Option Addr) (c : Nat) (ns : List ND) (i : Nat) (n : ND) (l : List Int) (AL : Option Addr) (cL : Nat) (s t : Int) (w : World) (hC : Kd.C k37 w A ns.length ns) (hi : ns[i]? = some n) (h64 : ns.length ≤ 64) {K : Int} (h0 : n.f0 = K) : ∃ ad A4 c4, A = some ad ∧ i < ns.length ∧ (w.alloc (Obj.cells #[.int .i64 s, .int .i64 t, .slice AL l.length cL] 27)).cell? (ad.add (i * 8)) = some (.int .i64 K) ∧ (w.alloc (Obj.cells #[.int .i64 s, .int .i64 t, .slice AL l.length cL] 27)).cell? ⟨(ad.add (i * 8)).block, (ad.add (i * 8)).off + 1, none⟩ = some (.int .i64 n.f1) ∧ (w.alloc (Obj.cells #[.int .i64 s, .int .i64 t, .slice AL l.length cL] 27)).cell? ⟨(ad.add (i * 8)).block, (ad.add (i * 8)).off + 2, none⟩ = some (.int .i64 n.f2) ∧ (w.alloc (Obj.cells #[.int .i64 s, .int .i64 t, .slice AL l.length cL] 27)).cell? ⟨(ad.add (i * 8)).block, (ad.add (i * 8)).off + 3, none⟩ = some (.string n.f3) ∧ (w.alloc (Obj.cells #[.int .i64 s, .int .i64 t, .slice AL l.length cL] 27)).cell? ⟨(ad.add (i * 8)).block, (ad.add (i * 8)).off + 4, none⟩ = some (.slice A4 n.f4.length c4) ∧ (w.alloc (Obj.cells #[.int .i64 s, .int .i64 t, .slice AL l.length cL] 27)).cell? ⟨(ad.add (i * 8)).block, (ad.add (i * 8)).off + 5, none⟩ = some (.string n.f5) ∧ (w.alloc (Obj.cells #[.int .i64 s, .int .i64 t, .slice AL l.length cL] 27)).cell? ⟨(ad.add (i * 8)).block, (ad.add (i * 8)).off + 6, none⟩ = some (.int .i64 n.f6) ∧ (w.alloc (Obj.cells #[.int .i64 s, .int .i64 t, .slice AL l.length cL] 27)).cell? ⟨(ad.add (i * 8)).block, (ad.add (i * 8)).off + 7, none⟩ = some (.int .i64 n.f7) ∧ ((w.alloc (Obj.cells #[.int .i64 s, .int .i64 t, .slice AL l.length cL] 27)).alloc (Obj.cells #[.int .i64 K, .int .i64 n.f1, .int .i64 n.f2, .string n.f3, .slice A4 n.f4.length c4, .string n.f5, .int .i64 n.f6, .int .i64 n.f7] 37)).cell? ⟨w.heap.size + 1, 0, none⟩ = some (.int .i64 K) ∧ ((w.alloc (Obj.cells #[.int .i64 s, .int .i64 t, .slice AL l.length cL] 27)).alloc (Obj.cells #[.int .i64 K, .int .i64 n.f1, .int .i64 n.f2, .string n.f3, .slice A4 n.f4.length c4, .string n.f5, .int .i64 n.f6, .int .i64 n.f7] 37)).cell? ⟨w.heap.size + 1, 1, none⟩ = some (.int .i64 n.f1) ∧ ((w.alloc (Obj.cells #[.int .i64 s, .int .i64 t, .slice AL l.length cL] 27)).alloc (Obj.cells #[.int .i64 K, .int .i64 n.f1, .int .i64 n.f2, .string n.f3, .slice A4 n.f4.length c4, .string n.f5, .int .i64 n.f6, .int .i64 n.f7] 37)).cell? ⟨w.heap.size + 1, 2, none⟩ = some (.int .i64 n.f2) ∧ ((w.alloc (Obj.cells #[.int .i64 s, .int .i64 t, .slice AL l.length cL] 27)).alloc (Obj.cells #[.int .i64 K, .int .i64 n.f1, .int .i64 n.f2, .string n.f3, .slice A4 n.f4.length c4, .string n.f5, .int .i64 n.f6, .int .i64 n.f7] 37)).cell? ⟨w.heap.size + 1, 3, none⟩ = some (.string n.f3) ∧ ((w.alloc (Obj.cells #[.int .i64 s, .int .i64 t, .slice AL l.length cL] 27)).alloc (Obj.cells #[.int .i64 K, .int .i64 n.f1, .int .i64 n.f2, .string n.f3, .slice A4 n.f4.length c4, .string n.f5, .int .i64 n.f6, .int .i64 n.f7] 37)).cell? ⟨w.heap.size + 1, 4, none⟩ = some (.slice A4 n.f4.length c4) ∧ ((w.alloc (Obj.cells #[.int .i64 s, .int .i64 t, .slice AL l.length cL] 27)).alloc (Obj.cells #[.int .i64 K, .int .i64 n.f1, .int .i64 n.f2, .string n.f3, .slice A4 n.f4.length c4, .string n.f5, .int .i64 n.f6, .int .i64 n.f7] 37)).cell? ⟨w.heap.size + 1, 5, none⟩ = some (.string n.f5) ∧ ((w.alloc (Obj.cells #[.int .i64 s, .int .i64 t, .slice AL l.length cL] 27)).alloc (Obj.cells #[.int .i64 K, .int .i64 n.f1, .int .i64 n.f2, .string n.f3, .slice A4 n.f4.length c4, .string n.f5, .int .i64 n.f6, .int .i64 n.f7] 37)).cell? ⟨w.heap.size + 1, 6, none⟩ = some (.int .i64 n.f6) ∧ ((w.alloc (Obj.cells #[.int .i64 s, .int .i64 t, .slice AL l.length cL] 27)).alloc (Obj.cells #[.int .i64 K, .int .i64 n.f1, .int .i64 n.f2, .string n.f3, .slice A4 n.f4.length c4, .string n.f5, .int .i64 n.f6, .int .i64 n.f7] 37)).cell? ⟨w.heap.size + 1, 7, none⟩ = some (.int .i64 n.f7) ∧ ((w.alloc (Obj.cells #[.int .i64 s, .int .i64 t, .slice AL l.length cL] 27)).alloc (Obj.cells #[.int .i64 K, .int .i64 n.f1, .int .i64 n.f2, .string n.f3, .slice A4 n.f4.length c4, .string n.f5, .int .i64 n.f6, .int .i64 n.f7] 37)).cell? ⟨w.heap.size, 0, none⟩ = some (.int .i64 s) ∧ ((w.alloc (Obj.cells #[.int .i64 s, .int .i64 t, .slice AL l.length cL] 27)).alloc (Obj.cells #[.int .i64 K, .int .i64 n.f1, .int .i64 n.f2, .string n.f3, .slice A4 n.f4.length c4, .string n.f5, .int .i64 n.f6, .int .i64 n.f7] 37)).cell? ⟨w.heap.size, 1, none⟩ = some (.int .i64 t) ∧ ((w.alloc (Obj.cells #[.int .i64 s, .int .i64 t, .slice AL l.length cL] 27)).alloc (Obj.cells #[.int .i64 K, .int .i64 n.f1, .int .i64 n.f2, .string n.f3, .slice A4 n.f4.length c4, .string n.f5, .int .i64 n.f6, .int .i64 n.f7] 37)).cell? ⟨w.heap.size, 2, none⟩ = some (.slice AL l.length cL) ∧ Aside0 (Below w.heap.size w ((w.alloc (Obj.cells #[.int .i64 s, .int .i64 t, .slice AL l.length cL] 27)).alloc (Obj.cells #[.int .i64 K, .int .i64 n.f1, .int .i64 n.f2, .string n.f3, .slice A4 n.f4.length c4, .string n.f5, .int .i64 n.f6, .int .i64 n.f7] 37))) ∧ Aside0 (((w.alloc (Obj.cells #[.int .i64 s, .int .i64 t, .slice AL l.length cL] 27)).alloc (Obj.cells #[.int .i64 K, .int .i64 n.f1, .int .i64 n.f2, .string n.f3, .slice A4 n.f4.length c4, .string n.f5, .int .i64 n.f6, .int .i64 n.f7] 37)).heap[w.heap.size + 1]? = some (.cells #[.int .i64 K, .int .i64 n.f1, .int .i64 n.f2, .string n.f3, .slice A4 n.f4.length c4, .string n.f5, .int .i64 n.f6, .int .i64 n.f7] 37 (0, 0))) ∧ Aside0 (((w.alloc (Obj.cells #[.int .i64 s, .int .i64 t, .slice AL l.length cL] 27)).alloc (Obj.cells #[.int .i64 K, .int .i64 n.f1, .int .i64 n.f2, .string n.f3, .slice A4 n.f4.length c4, .string n.f5, .int .i64 n.f6, .int .i64 n.f7] 37)).heap[w.heap.size]? = some (.cells #[.int .i64 s, .int .i64 t, .slice AL l.length cL] 27 (0, 0))) ∧ Aside0 (n.f4.length ≤ c4) ∧ Aside0 (Kd.string.C w A4 n.f4.length n.f4) := by
 have hil : i < ns.length := (List.getElem?_eq_some_iff.1 hi).1
 obtain ⟨ad, A4, c4, hAe, k0, k1, k2, k3, k4, k5, k6, k7, l4, g4⟩ := at_T37 hC (i : Int) (by omega) (by omega)
 subst hAe
 have hrd : rd_T37 ns (i : Int) = n := by simp [rd_T37, List.getD_eq_getElem?_getD, hi]
 rw [hrd, Int.toNat_natCast] at k0 k1 k2 k3 k4 k5 k6 k7
 rw [hrd] at l4 g4
 rw [h0] at k0
 have hb := below_alloc (Below.refl w.heap.size w) (Obj.cells #[.int .i64 s, .int .i64 t, .slice AL l.length cL] 27)
 have hNB := blk_new (w.alloc (Obj.cells #[.int .i64 s, .int .i64 t, .slice AL l.length cL] 27)) (Obj.cells #[.int .i64 K, .int .i64 n.f1, .int .i64 n.f2, .string n.f3, .slice A4 n.f4.length c4, .string n.f5, .int .i64 n.f6, .int .i64 n.f7] 37)
 rw [World.size_alloc] at hNB
 have hRB := blk_alloc (blk_new w (Obj.cells #[.int .i64 s, .int .i64 t, .slice AL l.length cL] 27)) (Obj.cells #[.int .i64 K, .int .i64 n.f1, .int .i64 n.f2, .string n.f3, .slice A4 n.f4.length c4, .string n.f5, .int .i64 n.f6, .int .i64 n.f7] 37)
 exact ⟨ad, A4, c4, rfl, hil, pw_cell_below hb k0, pw_cell_below hb k1, pw_cell_below hb k2, pw_cell_below hb k3, pw_cell_below hb k4, pw_cell_below hb k5, pw_cell_below hb k6, pw_cell_below hb k7, (blk_cell hNB 0).trans rfl, (blk_cell hNB 1).trans rfl, (blk_cell hNB 2).trans rfl, (blk_cell hNB 3).trans rfl, (blk_cell hNB 4).trans rfl, (blk_cell hNB 5).trans rfl, (blk_cell hNB 6).trans rfl, (blk_cell hNB 7).trans rfl, (blk_cell hRB 0).trans rfl, (blk_cell hRB 1).trans rfl, (blk_cell hRB 2).trans rfl, ⟨below_alloc (below_alloc (Below.refl _ _) _) _⟩, ⟨hNB⟩, ⟨hRB⟩, ⟨l4⟩, ⟨g4⟩⟩
theorem node_1 (A : Option Addr) (c : Nat) (ns : List ND) (i : Nat) (n : ND) (l : List Int) (AL : Option Addr) (cL : Nat) (s t : Int) (w : World) (hC : Kd.C k37 w A ns.length ns) (hi : ns[i]? = some n) (h64 : ns.length ≤ 64) (h0 : n.f0 = 1) :
  Calls Tryz.prog 40 #[.slice A ns.length c, .int .i64 (i : Int), .agg #[.int .i64 s, .int .i64 t, .slice AL l.length cL]] w fun e w' => e = .returned (.bool (true)) ∧ Below w.heap.size w w' := by
 obtain ⟨ad, A4, c4, hAe, hil, k0, k1, k2, k3, k4, k5, k6, k7, n0, n1, n2, n3, n4, n5, n6, n7, r0, r1, r2, HB2, HNB, HRB, HL4, HG4⟩ := nodePre A c ns i n l AL cL s t w hC hi h64 h0
 subst hAe
 have d3 : decide ((i : Int) < (ns.length : Int)) = true := decide_eq_true (by omega)
 have d4 : decide (i < ns.length) = true := decide_eq_true hil
 have dp : 0 ≤ (i : Int) := by omega
 have HC := Aside0.mk hC
 clear hC hi
 go_enter Tryz.func40, Tryz.ntmps40
 go_wp2_with fail
 go_ret
 exact ⟨rfl, HB2.out⟩
theorem node_10 (A : Option Addr) (c : Nat) (ns : List ND) (i : Nat) (n : ND) (l : List Int) (AL : Option Addr) (cL : Nat) (s t : Int) (w : World) (hC : Kd.C k37 w A ns.length ns) (hi : ns[i]? = some n) (h64 : ns.length ≤ 64) (h0 : n.f0 = 10) (ba bb : Bool) (hIA : ∀ W, Below w.heap.size w W → Calls Tryz.prog 40 #[.slice A ns.length c, .int .i64 n.f1, .agg #[.int .i64 s, .int .i64 t, .slice AL l.length cL]] W fun e w' => e = .returned (.bool ba) ∧ Below W.heap.size W w') (hIB : ∀ W, Below w.heap.size w W → Calls Tryz.prog 40 #[.slice A ns.length c, .int .i64 n.f2, .agg #[.int .i64 s, .int .i64 t, .slice AL l.length cL]] W fun e w' => e = .returned (.bool bb) ∧ Below W.heap.size W w') :
  Calls Tryz.prog 40 #[.slice A ns.length c, .int .i64 (i : Int), .agg #[.int .i64 s, .int .i64 t, .slice AL l.length cL]] w fun e w' => e = .returned (.bool (ba && bb)) ∧ Below w.heap.size w w' := by
 obtain ⟨ad, A4, c4, hAe, hil, k0, k1, k2, k3, k4, k5, k6, k7, n0, n1, n2, n3, n4, n5, n6, n7, r0, r1, r2, HB2, HNB, HRB, HL4, HG4⟩ := nodePre A c ns i n l AL cL s t w hC hi h64 h0
 subst hAe
 have d3 : decide ((i : Int) < (ns.length : Int)) = true := decide_eq_true (by omega)
 have d4 : decide (i < ns.length) = true := decide_eq_true hil
 have dp : 0 ≤ (i : Int) := by omega
 have HC := Aside0.mk hC
 clear hC hi
 have HIA := Aside0.mk hIA
 have HIB := Aside0.mk hIB
 clear hIA hIB
 go_enter Tryz.func40, Tryz.ntmps40
 go_wp2_with fail
 refine (HIA.out _ HB2.out).mono ?_
 rintro e w3 ⟨rfl, hb⟩
 have HB3 := Aside0.mk (below_step HB2.out hb)
 have hN := blk_below HNB.out hb
 have hR := blk_below HRB.out hb
 have m2 : w3.cell? ⟨w.heap.size + 1, 2, none⟩ = some (.int .i64 n.f2) := (blk_cell hN 2).trans rfl
 have s0 : w3.cell? ⟨w.heap.size, 0, none⟩ = some (.int .i64 s) := (blk_cell hR 0).trans rfl
 have s1 : w3.cell? ⟨w.heap.size, 1, none⟩ = some (.int .i64 t) := (blk_cell hR 1).trans rfl
 have s2 : w3.cell? ⟨w.heap.size, 2, none⟩ = some (.slice AL l.length cL) := (blk_cell hR 2).trans rfl
 clear hN hR hb
 cases ba
 ·go_wp2_with fail
  go_ret
  exact ⟨by simp, HB3.out⟩
 ·go_wp2_with fail
  refine (HIB.out _ HB3.out).mono ?_
  rintro e w4 ⟨rfl, hb⟩
  have HB4 := Aside0.mk (below_step HB3.out hb)
  clear hb
  go_wp2_with fail
  go_ret
  exact ⟨by simp, HB4.out⟩
theorem node_11 (A : Option Addr) (c : Nat) (ns : List ND) (i : Nat) (n : ND) (l : List Int) (AL : Option Addr) (cL : Nat) (s t : Int) (w : World) (hC : Kd.C k37 w A ns.length ns) (hi : ns[i]? = some n) (h64 : ns.length ≤ 64) (h0 : n.f0 = 11) (ba bb : Bool) (hIA : ∀ W, Below w.heap.size w W → Calls Tryz.prog 40 #[.slice A ns.length c, .int .i64 n.f1, .agg #[.int .i64 s, .int .i64 t, .slice AL l.length cL]] W fun e w' => e = .returned (.bool ba) ∧ Below W.heap.size W w') (hIB : ∀ W, Below w.heap.size w W → Calls Tryz.prog 40 #[.slice A ns.length c, .int .i64 n.f2, .agg #[.int .i64 s, .int .i64 t, .slice AL l.length cL]] W fun e w' => e = .returned (.bool bb) ∧ Below W.heap.size W w') :
  Calls Tryz.prog 40 #[.slice A ns.length c, .int .i64 (i : Int), .agg #[.int .i64 s, .int .i64 t, .slice AL l.length cL]] w fun e w' => e = .returned (.bool (ba || bb)) ∧ Below w.heap.size w w' := by
 obtain ⟨ad, A4, c4, hAe, hil, k0, k1, k2, k3, k4, k5, k6, k7, n0, n1, n2, n3, n4, n5, n6, n7, r0, r1, r2, HB2, HNB, HRB, HL4, HG4⟩ := nodePre A c ns i n l AL cL s t w hC hi h64 h0
 subst hAe
 have d3 : decide ((i : Int) < (ns.length : Int)) = true := decide_eq_true (by omega)
 have d4 : decide (i < ns.length) = true := decide_eq_true hil
 have dp : 0 ≤ (i : Int) := by omega
 have HC := Aside0.mk hC
 clear hC hi
 have HIA := Aside0.mk hIA
 have HIB := Aside0.mk hIB
 clear hIA hIB
 go_enter Tryz.func40, Tryz.ntmps40
 go_wp2_with fail
 refine (HIA.out _ HB2.out).mono ?_
 rintro e w3 ⟨rfl, hb⟩
 have HB3 := Aside0.mk (below_step HB2.out hb)
 have hN := blk_below HNB.out hb
 have hR := blk_below HRB.out hb
 have m2 : w3.cell? ⟨w.heap.size + 1, 2, none⟩ = some (.int .i64 n.f2) := (blk_cell hN 2).trans rfl
 have s0 : w3.cell? ⟨w.heap.size, 0, none⟩ = some (.int .i64 s) := (blk_cell hR 0).trans rfl
 have s1 : w3.cell? ⟨w.heap.size, 1, none⟩ = some (.int .i64 t) := (blk_cell hR 1).trans rfl
 have s2 : w3.cell? ⟨w.heap.size, 2, none⟩ = some (.slice AL l.length cL) := (blk_cell hR 2).trans rfl
 clear hN hR hb
 cases ba
 ·go_wp2_with fail
  refine (HIB.out _ HB3.out).mono ?_
  rintro e w4 ⟨rfl, hb⟩
  have HB4 := Aside0.mk (below_step HB3.out hb)
  clear hb
  go_wp2_with fail
  go_ret
  exact ⟨by simp, HB4.out⟩
 ·go_wp2_with fail
  go_ret
  exact ⟨by simp, HB3.out⟩
theorem node_12 (A : Option Addr) (c : Nat) (ns : List ND) (i : Nat) (n : ND) (l : List Int) (AL : Option Addr) (cL : Nat) (s t : Int) (w : World) (hC : Kd.C k37 w A ns.length ns) (hi : ns[i]? = some n) (h64 : ns.length ≤ 64) (h0 : n.f0 = 12) (ba : Bool) (hIA : ∀ W, Below w.heap.size w W → Calls Tryz.prog 40 #[.slice A ns.length c, .int .i64 n.f1, .agg #[.int .i64 s, .int .i64 t, .slice AL l.length cL]] W fun e w' => e = .returned (.bool ba) ∧ Below W.heap.size W w') :
  Calls Tryz.prog 40 #[.slice A ns.length c, .int .i64 (i : Int), .agg #[.int .i64 s, .int .i64 t, .slice AL l.length cL]] w fun e w' => e = .returned (.bool (!ba)) ∧ Below w.heap.size w w' := by
 obtain ⟨ad, A4, c4, hAe, hil, k0, k1, k2, k3, k4, k5, k6, k7, n0, n1, n2, n3, n4, n5, n6, n7, r0, r1, r2, HB2, HNB, HRB, HL4, HG4⟩ := nodePre A c ns i n l AL cL s t w hC hi h64 h0
 subst hAe
 have d3 : decide ((i : Int) < (ns.length : Int)) = true := decide_eq_true (by omega)
 have d4 : decide (i < ns.length) = true := decide_eq_true hil
 have dp : 0 ≤ (i : Int) := by omega
 have HC := Aside0.mk hC
 clear hC hi
 have HIA := Aside0.mk hIA
 clear hIA
 go_enter Tryz.func40, Tryz.ntmps40
 go_wp2_with fail
 refine (HIA.out _ HB2.out).mono ?_
 rintro e w3 ⟨rfl, hb⟩
 have HB3 := Aside0.mk (below_step HB2.out hb)
 clear hb
 go_wp2_with fail
 go_ret
 exact ⟨rfl, HB3.out⟩
theorem node_9 (A : Option Addr) (c : Nat) (ns : List ND) (i : Nat) (n : ND) (l : List Int) (AL : Option Addr) (cL : Nat) (s t : Int) (w : World) (hC : Kd.C k37 w A ns.length ns) (hi : ns[i]? = some n) (h64 : ns.length ≤ 64) (h0 : n.f0 = 9) :
  Calls Tryz.prog 40 #[.slice A ns.length c, .int .i64 (i : Int), .agg #[.int .i64 s, .int .i64 t, .slice AL l.length cL]] w fun e w' => e = .returned (.bool (decide (n.f6 ≤ t) && decide (t < n.f7))) ∧ Below w.heap.size w w' := by
 obtain ⟨ad, A4, c4, hAe, hil, k0, k1, k2, k3, k4, k5, k6, k7, n0, n1, n2, n3, n4, n5, n6, n7, r0, r1, r2, HB2, HNB, HRB, HL4, HG4⟩ := nodePre A c ns i n l AL cL s t w hC hi h64 h0
 subst hAe
 have d3 : decide ((i : Int) < (ns.length : Int)) = true := decide_eq_true (by omega)
 have d4 : decide (i < ns.length) = true := decide_eq_true hil
 have dp : 0 ≤ (i : Int) := by omega
 have HC := Aside0.mk hC
 clear hC hi
 by_cases g1 : n.f6 ≤ t
 ·have d6 : decide (n.f6 ≤ t) = true := decide_eq_true g1
  have HQ := Aside0.mk g1
  clear g1
  go_enter Tryz.func40, Tryz.ntmps40
  go_wp2_with fail
  go_ret
  exact ⟨by simp [HQ.out], HB2.out⟩
 ·have d6 : decide (n.f6 ≤ t) = false := decide_eq_false g1
  have HQ := Aside0.mk g1
  clear g1
  go_enter Tryz.func40, Tryz.ntmps40
  go_wp2_with fail
  go_ret
  exact ⟨by simp [HQ.out], HB2.out⟩
theorem tok_C {w : World} {base : Nat} {A : Option Addr} {n c : Nat} {ts : List (List Int)} (h : w.ownsRow base 118 2 (.slice A n c) n (flatT ts)) (hl : ts.length = n) (hn : n ≤ 1099511627776) : Kd.C k118 w A n (tokL ts) := by
 rcases h.2 with ⟨h1, h2⟩ | ⟨g, cap, cur, hv, _, hk, hle, _, hsz, ht⟩
 ·obtain rfl : n = 0 := h2
  have : ts = [] := List.eq_nil_of_length_eq_zero hl
  subst this
  cases h1
  exact Kd.C_nil _ _
 ·cases hv
  refine ⟨by rw [tokL_len]; exact hl, by omega, fun _ => ⟨⟨g, 0, none⟩, rfl, fun j p hj => ?_⟩⟩
  have hjl : j < ts.length := by have := (List.getElem?_eq_some_iff.1 hj).1; rwa [tokL_len] at this
  have hp : p = ⟨(j : Int), bT ts[j]⟩ := by
   unfold tokL at hj
   rw [List.getElem?_map, List.getElem?_eq_getElem (by simpa using hjl)] at hj
   simp at hj
   exact hj.symm
  have hg := flatT_get ts.length ts j rfl hjl
  subst hp
  refine ⟨[.int .i64 (j : Int), .string (bT ts[j])], rfl, k118_mk w ⟨(j : Int), bT ts[j]⟩, fun i u hu => ?_⟩
  show w.cell? (Addr.add ⟨g, 0, none⟩ (j * 2 + i)) = some u
  rw [WideShapes.add_plain, Nat.zero_add, blk_cell hk, ← Array.getElem?_toList]
  have hx : ∀ q v, q < n * 2 → (flatT ts)[q]? = some v → cur.toList[q]? = some v := fun q v hq hv => by rw [← ht, List.getElem?_take_of_lt hq] at hv; exact hv
  match i, hu with
  | 0, hu => simp at hu; rw [← hu]; exact hx _ _ (by omega) hg.1
  | 1, hu => simp at hu; rw [← hu]; exact hx _ _ (by omega) hg.2
  | i + 2, hu => simp at hu
theorem refGet_k (l : List Int) (key : ByteArray) (hb : ∀ x ∈ l, 0 ≤ x ∧ x < 256) (hn : l.length ≤ 1000000) : ∃ k, dragnetref08_Get.f k l key = some (Pure.fiveOf (fieldOf l key)) := by
 have h1 := Pure.refRead_ev (Lib.bytesOf l) (by simp [Lib.bytesOf]; omega)
 rw [Pure.numsOf_bytesOf hb] at h1
 have h2 := Pure.at_ev (Pure.fieldsL (Lib.bytesOf l)) key (by have := Pure.fields_le (Lib.bytesOf l); omega)
 obtain ⟨k1, h1⟩ := h1
 obtain ⟨k2, h2⟩ := h2
 refine ⟨max k1 k2, ?_⟩
 unfold dragnetref08_Get.f
 have e1 := h1 _ (Nat.le_max_left k1 k2)
 have e2 := h2 _ (Nat.le_max_right k1 k2)
 simp only at e1 e2
 rw [e1, Option.bind_some, e2, Option.bind_some]
 rfl
theorem refShow_k (y : FD) (h : i64In y.f2) : ∃ k, dragnetref08_Show.f k y.f0 y.f1 y.f2 y.f3 = some (showB y) := by
 unfold showB
 by_cases h1 : y.f1 = 1
 ·obtain ⟨k, hk⟩ := Pure.refText_ev y.f2 h.1 h.2
  refine ⟨k, ?_⟩
  unfold dragnetref08_Show.f
  have e1 := hk k (Nat.le_refl _)
  simp only at e1
  rw [if_pos h1, if_pos h1, e1, Option.bind_some]
 ·refine ⟨0, ?_⟩
  unfold dragnetref08_Show.f
  rw [if_neg h1, if_neg h1]
theorem node_5 (A : Option Addr) (c : Nat) (ns : List ND) (i : Nat) (n : ND) (l : List Int) (AL : Option Addr) (cL : Nat) (s t : Int) (w : World) (hC : Kd.C k37 w A ns.length ns) (hi : ns[i]? = some n) (h64 : ns.length ≤ 64) (h0 : n.f0 = 5) (hCL : (Kd.int .u8).C w AL l.length l) (hcL : l.length ≤ cL) (hbL : ∀ x ∈ l, 0 ≤ x ∧ x < 256) (hnL : l.length ≤ 1000000) :
  Calls Tryz.prog 40 #[.slice A ns.length c, .int .i64 (i : Int), .agg #[.int .i64 s, .int .i64 t, .slice AL l.length cL]] w fun e w' => e = .returned (.bool (subB l (bytesOf n.f3))) ∧ Below w.heap.size w w' := by
 obtain ⟨ad, A4, c4, hAe, hil, k0, k1, k2, k3, k4, k5, k6, k7, n0, n1, n2, n3, n4, n5, n6, n7, r0, r1, r2, HB2, HNB, HRB, HL4, HG4⟩ := nodePre A c ns i n l AL cL s t w hC hi h64 h0
 subst hAe
 have d3 : decide ((i : Int) < (ns.length : Int)) = true := decide_eq_true (by omega)
 have d4 : decide (i < ns.length) = true := decide_eq_true hil
 have dp : 0 ≤ (i : Int) := by omega
 have HC := Aside0.mk hC
 clear hC hi
 have hst := Kd.C_string (P := Tryz.prog) (c := cL) Tryz.underlying25 Tryz.underlying5 Tryz.underlying9 (Kd.C_below hCL HB2.out)
 obtain ⟨kk, hkk⟩ := inside_ev l n.f3 hnL
 have HIN := Aside0.mk (hkk kk (Nat.le_refl _))
 clear hkk hCL hbL
 go_enter Tryz.func40, Tryz.ntmps40
 go_wp2_with fail
 refine (dragnetref20_inside.calls kk _ _ _ _ HIN.out).mono ?_
 rintro e w3 ⟨rfl, hd⟩
 have HB3 := Aside0.mk (below_step HB2.out hd.below)
 clear hd
 go_wp2_with fail
 go_ret
 exact ⟨rfl, HB3.out⟩
theorem node_4 (A : Option Addr) (c : Nat) (ns : List ND) (i : Nat) (n : ND) (l : List Int) (AL : Option Addr) (cL : Nat) (s t : Int) (w : World) (hC : Kd.C k37 w A ns.length ns) (hi : ns[i]? = some n) (h64 : ns.length ≤ 64) (h0 : n.f0 = 4) (hCL : (Kd.int .u8).C w AL l.length l) (hcL : l.length ≤ cL) (hbL : ∀ x ∈ l, 0 ≤ x ∧ x < 256) (hnL : l.length ≤ 1000000) (h4 : 0 < n.f4.length) (h44 : n.f4.length ≤ 1099511627776) :
  Calls Tryz.prog 40 #[.slice A ns.length c, .int .i64 (i : Int), .agg #[.int .i64 s, .int .i64 t, .slice AL l.length cL]] w fun e w' => e = .returned (.bool (phraseB ((cutS none l).map bT) n.f4)) ∧ Below w.heap.size w w' := by
 obtain ⟨ad, A4, c4, hAe, hil, k0, k1, k2, k3, k4, k5, k6, k7, n0, n1, n2, n3, n4, n5, n6, n7, r0, r1, r2, HB2, HNB, HRB, HL4, HG4⟩ := nodePre A c ns i n l AL cL s t w hC hi h64 h0
 subst hAe
 have d3 : decide ((i : Int) < (ns.length : Int)) = true := decide_eq_true (by omega)
 have d4 : decide (i < ns.length) = true := decide_eq_true hil
 have dp : 0 ≤ (i : Int) := by omega
 have HC := Aside0.mk hC
 clear hC hi
 have HCut := Aside0.mk (fun W (hW : Below w.heap.size w W) => refCut_calls l AL cL W (Kd.C_below hCL hW) hcL hbL (by omega))
 have HTL := Aside0.mk (cutS_len l).1
 clear hCL hbL
 go_enter Tryz.func40, Tryz.ntmps40
 go_wp2_with fail
 refine (HCut.out _ HB2.out).mono ?_
 rintro e w3 ⟨v, rfl, hown, hb⟩
 obtain ⟨AT, cT, rfl, hcT⟩ := own_sl hown
 have HB3 := Aside0.mk (below_step HB2.out hb)
 have HNB3 := Aside0.mk (blk_below HNB.out hb)
 have hTC := tok_C hown rfl (by have := HTL.out; omega)
 have m0 : w3.cell? ⟨w.heap.size + 1, 0, none⟩ = some (.int .i64 4) := (blk_cell HNB3.out 0).trans rfl
 have m3 : w3.cell? ⟨w.heap.size + 1, 3, none⟩ = some (.string n.f3) := (blk_cell HNB3.out 3).trans rfl
 have m4 : w3.cell? ⟨w.heap.size + 1, 4, none⟩ = some (.slice A4 n.f4.length c4) := (blk_cell HNB3.out 4).trans rfl
 have hG4 := Kd.C_below HG4.out HB3.out
 clear hown hb
 obtain ⟨kk, hkk⟩ := phrase_ev (cutS none l) n.f4 (by have := HTL.out; omega) h44 h4
 have HPH := Aside0.mk (dragnetref20_phrase.calls kk AT cT (tokL (cutS none l)) A4 c4 n.f4 _ w3 (by rw [tokL_len]; exact hTC) (by rw [tokL_len]; exact hcT) hG4 HL4.out (hkk kk (Nat.le_refl _)))
 rw [tokL_len] at HPH
 clear hTC hG4 hkk
 go_wp2_with fail
 refine HPH.out.mono ?_
 rintro e w4 ⟨rfl, hd⟩
 have HB4 := Aside0.mk (below_step HB3.out hd.below)
 clear hd
 go_wp2_with fail
 go_ret
 exact ⟨rfl, HB4.out⟩
def ref_node.T28 : Bool × List (List Nat × List Nat) := (true, [([], []), ([], []), ([0, 1], [0, 1]), ([2], [2]), ([3], [3]), ([4], [4]), ([5], [5]), ([6], [6]), ([6], [6]), ([7, 8, 6], [6, 7, 8]), ([9, 6], [6, 9]), ([10, 6], [6, 10]), ([6], [6]), ([12, 6], [6, 12]), ([11, 13, 6], [6, 11, 13]), ([14, 6, 6], [6, 14]), ([15], [15]), ([16, 15], [15, 16]), ([17, 15], [15, 17]), ([18, 15, 15], [15, 18]), ([19], [19]), ([19], [19]), ([20, 21, 19], [19, 20, 21]), ([22, 19], [19, 22]), ([23, 19], [19, 23]), ([19], [19]), ([25, 19], [19, 25]), ([24, 26, 19, 19], [19, 24, 26]), ([19, 27, 15], [15, 19, 27]), ([15, 28, 6], [6, 15, 28]), ([6, 29], [6, 29])])
def ref_node.B28 : List Nat := [0, 0, 3, 7, 15, 31, 63, 127, 127, 511, 1023, 2047, 127, 4223, 16383, 32767, 65535, 131071, 262143, 524287, 1048575, 1048575, 4194303, 8388607, 16777215, 1048575, 34603007, 134217727, 268435455, 536870911, 1073741823]
theorem ref_node.tab28 : rtab .any (opsOf Tryz.f40 28) = ref_node.T28 := by kernel_rfl
theorem ref_node.bits28 : waitsOk ref_node.T28.2 ref_node.B28 = true := by kernel_rfl
def hitB (pre : Bool) (tx ti : ByteArray) : Bool := decide (ti ≠ ⟨#[]⟩) && (decide (ti = tx) || (pre && prefB tx ti))
theorem pref_self (s : ByteArray) : prefB s s = true := by unfold prefB; rw [List.isPrefixOf_iff_prefix]; exact List.prefix_refl _
theorem pref_ne {s t : ByteArray} (h : prefB s t = true) (hs : s ≠ ⟨#[]⟩) : t ≠ ⟨#[]⟩ := by
 rintro rfl
 unfold prefB at h
 rw [List.isPrefixOf_iff_prefix] at h
 have h2 : s.data.toList = [] := List.prefix_nil.1 h
 exact hs (ByteArray.ext (Array.toList_inj.1 h2))
theorem mem_hit (ts : List (List Int)) (tx : ByteArray) (h0 : tx ≠ ⟨#[]⟩) : memB (ts.map bT) tx = (ts.map bT).any (hitB false tx) := by
 unfold memB
 congr 1
 funext ti
 unfold hitB
 by_cases h : ti = tx
 ·subst h; simp [h0]
 ·simp [h]; exact fun e => h e.symm
theorem pre_hit (ts : List (List Int)) (tx : ByteArray) (h0 : tx ≠ ⟨#[]⟩) : (ts.map bT).any (prefB tx) = (ts.map bT).any (hitB true tx) := by
 congr 1
 funext ti
 unfold hitB
 by_cases h : prefB tx ti = true
 ·rw [h]; simp [pref_ne h h0]
 ·have h2 : prefB tx ti = false := by simpa using h
  rw [h2]
  have h3 : ti ≠ tx := fun e => by rw [e, pref_self] at h2; cases h2
  simp [h3]
theorem hit_yes {pre : Bool} {tx ti : ByteArray} {ts : List (List Int)} {j : Nat} (hj : j < ts.length) (h : ∀ x, ts[j]? = some x → bT x = ti) (hh : hitB pre tx ti = true) : (ts.map bT).any (hitB pre tx) = true := by
 rw [List.any_eq_true]
 refine ⟨bT ts[j], List.mem_map.2 ⟨ts[j], List.getElem_mem hj, rfl⟩, ?_⟩
 rw [h _ (List.getElem?_eq_getElem hj)]
 exact hh
theorem hit_no {pre : Bool} {tx : ByteArray} {ts : List (List Int)} {j : Nat} (hj : ts.length ≤ j) (h : ∀ q, q < j → ∀ x, ts[q]? = some x → hitB pre tx (bT x) = false) : (ts.map bT).any (hitB pre tx) = false := by
 rw [List.any_eq_false]
 intro y hy
 obtain ⟨x, hx, rfl⟩ := List.mem_map.1 hy
 obtain ⟨q, hq, rfl⟩ := List.getElem_of_mem hx
 rw [h q (by omega) _ (List.getElem?_eq_getElem hq)]
 decide
theorem node_2 (A : Option Addr) (c : Nat) (ns : List ND) (i : Nat) (n : ND) (l : List Int) (AL : Option Addr) (cL : Nat) (s t : Int) (w : World) (hC : Kd.C k37 w A ns.length ns) (hi : ns[i]? = some n) (h64 : ns.length ≤ 64) (h0 : n.f0 = 2) (hCL : (Kd.int .u8).C w AL l.length l) (hcL : l.length ≤ cL) (hbL : ∀ x ∈ l, 0 ≤ x ∧ x < 256) (hnL : l.length ≤ 1000000) (ht0 : n.f3 ≠ ⟨#[]⟩) :
  Calls Tryz.prog 40 #[.slice A ns.length c, .int .i64 (i : Int), .agg #[.int .i64 s, .int .i64 t, .slice AL l.length cL]] w fun e w' => e = .returned (.bool (memB ((cutS none l).map bT) n.f3)) ∧ Below w.heap.size w w' := by
 obtain ⟨ad, A4, c4, hAe, hil, k0, k1, k2, k3, k4, k5, k6, k7, n0, n1, n2, n3, n4, n5, n6, n7, r0, r1, r2, HB2, HNB, HRB, HL4, HG4⟩ := nodePre A c ns i n l AL cL s t w hC hi h64 h0
 subst hAe
 have d3 : decide ((i : Int) < (ns.length : Int)) = true := decide_eq_true (by omega)
 have d4 : decide (i < ns.length) = true := decide_eq_true hil
 have dp : 0 ≤ (i : Int) := by omega
 have HC := Aside0.mk hC
 clear hC hi
 have HT0 := Aside0.mk ht0
 clear ht0
 have HCut := Aside0.mk (fun W (hW : Below w.heap.size w W) => refCut_calls l AL cL W (Kd.C_below hCL hW) hcL hbL (by omega))
 have HTL := Aside0.mk (cutS_len l).1
 clear hCL hbL
 go_enter Tryz.func40, Tryz.ntmps40
 go_wp2_with fail
 refine (HCut.out _ HB2.out).mono ?_
 rintro e w3 ⟨v, rfl, hown, hb⟩
 obtain ⟨AT, cT, rfl, hcT⟩ := own_sl hown
 have HB3 := Aside0.mk (below_step HB2.out hb)
 have HNB3 := Aside0.mk (blk_below HNB.out hb)
 have hTC := tok_C hown rfl (by have := HTL.out; omega)
 have m0 : w3.cell? ⟨w.heap.size + 1, 0, none⟩ = some (.int .i64 2) := (blk_cell HNB3.out 0).trans rfl
 have m3 : w3.cell? ⟨w.heap.size + 1, 3, none⟩ = some (.string n.f3) := (blk_cell HNB3.out 3).trans rfl
 have m4 : w3.cell? ⟨w.heap.size + 1, 4, none⟩ = some (.slice A4 n.f4.length c4) := (blk_cell HNB3.out 4).trans rfl
 have HTC := Aside0.mk hTC
 clear hown hb hTC m0 m3 m4
 obtain ⟨ts, hts⟩ : ∃ ts, cutS none l = ts := ⟨_, rfl⟩
 rw [hts] at HTC HTL hcT
 rw [hts]
 have HTS := Aside0.mk hts
 clear hts
 have m0 : w3.cell? ⟨w.heap.size + 1, 0, none⟩ = some (.int .i64 2) := (blk_cell HNB3.out 0).trans rfl
 go_wp2_with fail
 go_loopg [11] ts.length (fun kq v11 wr => ∃ (j : Nat), v11 = .int .i64 (j : Int) ∧ Aside0 (kq + j = ts.length) ∧ Aside0 (Below w3.heap.size w3 wr) ∧ Aside0 (∀ q, q < j → ∀ x, ts[q]? = some x → hitB false n.f3 (bT x) = false))
 case atStart => exact ⟨0, rfl, ⟨rfl⟩, ⟨Below.refl _ _⟩, ⟨fun q hq => by omega⟩⟩
 case round =>
  clear m0
  obtain ⟨j, rfl, HJ, HBr, HNO⟩ := hrel
  by_cases hj : j < ts.length
  ·have d5 : decide ((j : Int) < (ts.length : Int)) = true := decide_eq_true (by omega)
   have d6 : decide (j < ts.length) = true := decide_eq_true hj
   have dj : 0 ≤ (j : Int) := by omega
   obtain ⟨ad2, hAT, e0, e1⟩ := at_T118 HTC.out (j : Int) (by omega) (by omega)
   subst hAT
   rw [tokL_at ts j hj] at e1
   obtain ⟨ti, hti⟩ : ∃ ti, bT ts[j] = ti := ⟨_, rfl⟩
   rw [hti] at e1
   rw [Int.toNat_natCast] at e0 e1
   have HTI := Aside0.mk (show ∀ x, ts[j]? = some x → bT x = ti from fun x hx => by rw [List.getElem?_eq_getElem hj] at hx; rw [← Option.some.inj hx]; exact hti)
   have HJ2 := Aside0.mk hj
   replace e0 := pw_cell_below HBr.out e0
   replace e1 := pw_cell_below HBr.out e1
   have m0 : wr.cell? ⟨w.heap.size + 1, 0, none⟩ = some (.int .i64 2) := (blk_cell (blk_below HNB3.out HBr.out) 0).trans rfl
   have m3 : wr.cell? ⟨w.heap.size + 1, 3, none⟩ = some (.string n.f3) := (blk_cell (blk_below HNB3.out HBr.out) 3).trans rfl
   have hjp : j < ts.length := hj
   clear hti hj HTC HL4 HG4 HC
   have c0n : (ti.toList != ([] : List UInt8)) = !(ti.toList == ([] : List UInt8)) := rfl
   by_cases hz : ti = ⟨#[]⟩
   ·have c1 : (ti.toList == ([] : List UInt8)) = true := by rw [bytes_nil.2 hz]; rfl
    have HW := Aside0.mk (show hitB false n.f3 ti = false from by simp [hitB, hz])
    clear hz
    go_wp2_with fail
    go_region
    go_wp2_with fail
    try rw [show wrap64 ((j : Int) + 1) = ((j + 1 : Nat) : Int) by have := HJ2.out; have := HTL.out; unfold wrap64; omega]
    go_roundg (ts.length - j - 1)
    case measure => have := HJ.out; have := HJ2.out; omega
    case rel =>
     refine ⟨j + 1, rfl, ⟨by have := HJ.out; have := HJ2.out; omega⟩, ⟨(by repeat (first | apply pw_below_drewN | apply below_drew1 | apply below_drew | exact HBr.out))⟩, ⟨fun q hq x hx => ?_⟩⟩
     rcases Nat.lt_or_ge q j with hqj | hqj
     ·exact HNO.out q hqj x hx
     ·obtain rfl : q = j := by omega
      rw [HTI.out x hx]
      exact HW.out
   ·have c1 : (ti.toList == ([] : List UInt8)) = false := beq_eq_false_iff_ne.2 (fun e => hz (bytes_nil.1 e))
    by_cases hx : ti = n.f3
    ·have c2 : (ti.toList == n.f3.toList) = true := by rw [hx]; exact beq_self_eq_true _
     have HW := Aside0.mk (show hitB false n.f3 ti = true from by unfold hitB; rw [decide_eq_true hz, decide_eq_true hx]; rfl)
     clear hx hz
     go_wp2_with fail
     refine start_ (n := 31) (S := fun w' => w'.cell? ⟨(ad2.add (j * 2)).block, (ad2.add (j * 2)).off + 1, none⟩ = some (.string ti) ∧ w'.cell? ⟨w.heap.size + 1, 3, none⟩ = some (.string n.f3) ∧ w'.cell? ⟨w.heap.size + 1, 0, none⟩ = some (.int .i64 2)) (ds := []) #[false, false, false, false, false, false, false, false, false, false, false, false, false, false, false, false, false, false, false, false, false, false, false, false, false, false, false, false, false, false, false] (by kernel_rfl) rfl rfl ⟨e1, m3, m0⟩ (fun hHeld => ?_)
     refine with_tabW ref_node.tab28 ref_node.bits28 (fun HT_ HW_ => ?_)
     refine pS 0 (some 147) HT_ ?_
     refine pS 1 (some 148) HT_ ?_
     refine pS 2 (some 149) HT_ ?_
     refine pS 3 (some 150) HT_ ?_
     refine tS 4 (some 151) HT_ HW_ hHeld ?_
     refine pure_ (i := 5) (N := some 152) (v := .bool true) (a' := ?_) #[true, true, true, true, true, true, false, false, false, false, false, false, false, false, false, false, false, false, false, false, false, false, false, false, false, false, false, false, false, false, false] rfl rfl (any_of HT_.out (by kernel_rfl)) (fun _ _ _ h => h) (Or.inl ⟨by rfl, ?_⟩) ?_ ?_
     ·intro w'
      go_simp
      all_goals (first | rfl | (simp [c1]; done))
     rotate_left
     ·simp only [Act.put, List.setIfInBounds_toArray, List.set_cons_zero, List.set_cons_succ, i64_w, i32_w]
      rfl
     refine pS 6 (some 153) HT_ ?_
     refine pS 7 (some 154) HT_ ?_
     refine pS 8 (some 155) HT_ ?_
     refine pS 9 (some 156) HT_ ?_
     refine pS 10 (some 157) HT_ ?_
     refine tS 11 (some 158) HT_ HW_ hHeld ?_
     refine pS 12 (some 159) HT_ ?_
     refine tS 13 (some 160) HT_ HW_ hHeld ?_
     refine pure_ (i := 14) (N := some 161) (v := .bool true) (a' := ?_) #[true, true, true, true, true, true, true, true, true, true, true, true, true, true, true, false, false, false, false, false, false, false, false, false, false, false, false, false, false, false, false] rfl rfl (any_of HT_.out (by kernel_rfl)) (fun _ _ _ h => h) (Or.inl ⟨by rfl, ?_⟩) ?_ ?_
     ·intro w'
      go_simp
      all_goals (first | rfl | (simp [c2]; done))
     rotate_left
     ·simp only [Act.put, List.setIfInBounds_toArray, List.set_cons_zero, List.set_cons_succ, i64_w, i32_w]
      rfl
     refine pS 15 (some 162) HT_ ?_
     refine uS 16 (some 163) HT_ ?_
     refine uS 17 (some 164) HT_ ?_
     refine uS 18 (some 165) HT_ ?_
     refine uS 19 (some 166) HT_ ?_
     refine uS 20 (some 167) HT_ ?_
     refine uS 21 (some 168) HT_ ?_
     refine uS 22 (some 169) HT_ ?_
     refine uS 23 (some 170) HT_ ?_
     refine uS 24 (some 171) HT_ ?_
     refine uS 25 (some 172) HT_ ?_
     refine uS 26 (some 173) HT_ ?_
     refine uS 27 (some 174) HT_ ?_
     refine uS 28 (some 175) HT_ ?_
     refine pS 29 (some 176) HT_ ?_
     refine pS 30 (some 177) HT_ ?_
     refine done_ (done_of HT_.out (by kernel_rfl)) ?_
     go_wp2_with fail
     go_ret
     refine ⟨congrArg (fun z => Ending.returned (Value.bool z)) ?_, below_step HB3.out (by repeat (first | apply pw_below_drewN | apply below_drew1 | apply below_drew | exact HBr.out))⟩
     rw [HTS.out, mem_hit _ _ HT0.out]
     exact (hit_yes HJ2.out HTI.out HW.out).symm
    ·have c2 : (ti.toList == n.f3.toList) = false := beq_eq_false_iff_ne.2 (fun e => hx (bytes_inj0.1 e))
     have HW := Aside0.mk (show hitB false n.f3 ti = false from by simp [hitB, hx])
     clear hx hz
     go_wp2_with fail
     refine start_ (n := 31) (S := fun w' => w'.cell? ⟨(ad2.add (j * 2)).block, (ad2.add (j * 2)).off + 1, none⟩ = some (.string ti) ∧ w'.cell? ⟨w.heap.size + 1, 3, none⟩ = some (.string n.f3) ∧ w'.cell? ⟨w.heap.size + 1, 0, none⟩ = some (.int .i64 2)) (ds := []) #[false, false, false, false, false, false, false, false, false, false, false, false, false, false, false, false, false, false, false, false, false, false, false, false, false, false, false, false, false, false, false] (by kernel_rfl) rfl rfl ⟨e1, m3, m0⟩ (fun hHeld => ?_)
     refine with_tabW ref_node.tab28 ref_node.bits28 (fun HT_ HW_ => ?_)
     refine pS 0 (some 147) HT_ ?_
     refine pS 1 (some 148) HT_ ?_
     refine pS 2 (some 149) HT_ ?_
     refine pS 3 (some 150) HT_ ?_
     refine tS 4 (some 151) HT_ HW_ hHeld ?_
     refine pure_ (i := 5) (N := some 152) (v := .bool true) (a' := ?_) #[true, true, true, true, true, true, false, false, false, false, false, false, false, false, false, false, false, false, false, false, false, false, false, false, false, false, false, false, false, false, false] rfl rfl (any_of HT_.out (by kernel_rfl)) (fun _ _ _ h => h) (Or.inl ⟨by rfl, ?_⟩) ?_ ?_
     ·intro w'
      go_simp
      all_goals (first | rfl | (simp [c1]; done))
     rotate_left
     ·simp only [Act.put, List.setIfInBounds_toArray, List.set_cons_zero, List.set_cons_succ, i64_w, i32_w]
      rfl
     refine pS 6 (some 153) HT_ ?_
     refine pS 7 (some 154) HT_ ?_
     refine pS 8 (some 155) HT_ ?_
     refine pS 9 (some 156) HT_ ?_
     refine pS 10 (some 157) HT_ ?_
     refine tS 11 (some 158) HT_ HW_ hHeld ?_
     refine pS 12 (some 159) HT_ ?_
     refine tS 13 (some 160) HT_ HW_ hHeld ?_
     refine pure_ (i := 14) (N := some 161) (v := .bool false) (a' := ?_) #[true, true, true, true, true, true, true, true, true, true, true, true, true, true, true, false, false, false, false, false, false, false, false, false, false, false, false, false, false, false, false] rfl rfl (any_of HT_.out (by kernel_rfl)) (fun _ _ _ h => h) (Or.inl ⟨by rfl, ?_⟩) ?_ ?_
     ·intro w'
      go_simp
      all_goals (first | rfl | (simp [c2]; done))
     rotate_left
     ·simp only [Act.put, List.setIfInBounds_toArray, List.set_cons_zero, List.set_cons_succ, i64_w, i32_w]
      rfl
     refine pS 15 (some 162) HT_ ?_
     refine pS 16 (some 163) HT_ ?_
     refine tS 17 (some 164) HT_ HW_ hHeld ?_
     refine pS 18 (some 165) HT_ ?_
     refine pS 19 (some 166) HT_ ?_
     refine uS 20 (some 167) HT_ ?_
     refine uS 21 (some 168) HT_ ?_
     refine uS 22 (some 169) HT_ ?_
     refine uS 23 (some 170) HT_ ?_
     refine uS 24 (some 171) HT_ ?_
     refine uS 25 (some 172) HT_ ?_
     refine uS 26 (some 173) HT_ ?_
     refine uS 27 (some 174) HT_ ?_
     refine pS 28 (some 175) HT_ ?_
     refine pS 29 (some 176) HT_ ?_
     refine pS 30 (some 177) HT_ ?_
     refine done_ (done_of HT_.out (by kernel_rfl)) ?_
     go_wp2_with fail
     try rw [show wrap64 ((j : Int) + 1) = ((j + 1 : Nat) : Int) by have := HJ2.out; have := HTL.out; unfold wrap64; omega]
     go_roundg (ts.length - j - 1)
     case measure => have := HJ.out; have := HJ2.out; omega
     case rel =>
      refine ⟨j + 1, rfl, ⟨by have := HJ.out; have := HJ2.out; omega⟩, ⟨(by repeat (first | apply pw_below_drewN | apply below_drew1 | apply below_drew | exact HBr.out))⟩, ⟨fun q hq x hx => ?_⟩⟩
      rcases Nat.lt_or_ge q j with hqj | hqj
      ·exact HNO.out q hqj x hx
      ·obtain rfl : q = j := by omega
       rw [HTI.out x hx]
       exact HW.out
  ·have d5 : decide ((j : Int) < (ts.length : Int)) = false := decide_eq_false (by omega)
   have HJE := Aside0.mk (show ts.length ≤ j by omega)
   go_wp2_with fail
   go_ret
   refine ⟨congrArg (fun z => Ending.returned (Value.bool z)) ?_, below_step HB3.out HBr.out⟩
   rw [HTS.out, mem_hit _ _ HT0.out]
   exact (hit_no HJE.out HNO.out).symm
theorem node_3 (A : Option Addr) (c : Nat) (ns : List ND) (i : Nat) (n : ND) (l : List Int) (AL : Option Addr) (cL : Nat) (s t : Int) (w : World) (hC : Kd.C k37 w A ns.length ns) (hi : ns[i]? = some n) (h64 : ns.length ≤ 64) (h0 : n.f0 = 3) (hCL : (Kd.int .u8).C w AL l.length l) (hcL : l.length ≤ cL) (hbL : ∀ x ∈ l, 0 ≤ x ∧ x < 256) (hnL : l.length ≤ 1000000) (ht0 : n.f3 ≠ ⟨#[]⟩) :
  Calls Tryz.prog 40 #[.slice A ns.length c, .int .i64 (i : Int), .agg #[.int .i64 s, .int .i64 t, .slice AL l.length cL]] w fun e w' => e = .returned (.bool (((cutS none l).map bT).any (prefB n.f3))) ∧ Below w.heap.size w w' := by
 obtain ⟨ad, A4, c4, hAe, hil, k0, k1, k2, k3, k4, k5, k6, k7, n0, n1, n2, n3, n4, n5, n6, n7, r0, r1, r2, HB2, HNB, HRB, HL4, HG4⟩ := nodePre A c ns i n l AL cL s t w hC hi h64 h0
 subst hAe
 have d3 : decide ((i : Int) < (ns.length : Int)) = true := decide_eq_true (by omega)
 have d4 : decide (i < ns.length) = true := decide_eq_true hil
 have dp : 0 ≤ (i : Int) := by omega
 have HC := Aside0.mk hC
 clear hC hi
 have HT0 := Aside0.mk ht0
 clear ht0
 have HCut := Aside0.mk (fun W (hW : Below w.heap.size w W) => refCut_calls l AL cL W (Kd.C_below hCL hW) hcL hbL (by omega))
 have HTL := Aside0.mk (cutS_len l).1
 clear hCL hbL
 go_enter Tryz.func40, Tryz.ntmps40
 go_wp2_with fail
 refine (HCut.out _ HB2.out).mono ?_
 rintro e w3 ⟨v, rfl, hown, hb⟩
 obtain ⟨AT, cT, rfl, hcT⟩ := own_sl hown
 have HB3 := Aside0.mk (below_step HB2.out hb)
 have HNB3 := Aside0.mk (blk_below HNB.out hb)
 have hTC := tok_C hown rfl (by have := HTL.out; omega)
 have m0 : w3.cell? ⟨w.heap.size + 1, 0, none⟩ = some (.int .i64 3) := (blk_cell HNB3.out 0).trans rfl
 have m3 : w3.cell? ⟨w.heap.size + 1, 3, none⟩ = some (.string n.f3) := (blk_cell HNB3.out 3).trans rfl
 have m4 : w3.cell? ⟨w.heap.size + 1, 4, none⟩ = some (.slice A4 n.f4.length c4) := (blk_cell HNB3.out 4).trans rfl
 have HTC := Aside0.mk hTC
 clear hown hb hTC m0 m3 m4
 obtain ⟨ts, hts⟩ : ∃ ts, cutS none l = ts := ⟨_, rfl⟩
 rw [hts] at HTC HTL hcT
 rw [hts]
 have HTS := Aside0.mk hts
 clear hts
 have m0 : w3.cell? ⟨w.heap.size + 1, 0, none⟩ = some (.int .i64 3) := (blk_cell HNB3.out 0).trans rfl
 go_wp2_with fail
 go_loopg [11] ts.length (fun kq v11 wr => ∃ (j : Nat), v11 = .int .i64 (j : Int) ∧ Aside0 (kq + j = ts.length) ∧ Aside0 (Below w3.heap.size w3 wr) ∧ Aside0 (∀ q, q < j → ∀ x, ts[q]? = some x → hitB true n.f3 (bT x) = false))
 case atStart => exact ⟨0, rfl, ⟨rfl⟩, ⟨Below.refl _ _⟩, ⟨fun q hq => by omega⟩⟩
 case round =>
  clear m0
  obtain ⟨j, rfl, HJ, HBr, HNO⟩ := hrel
  by_cases hj : j < ts.length
  ·have d5 : decide ((j : Int) < (ts.length : Int)) = true := decide_eq_true (by omega)
   have d6 : decide (j < ts.length) = true := decide_eq_true hj
   have dj : 0 ≤ (j : Int) := by omega
   obtain ⟨ad2, hAT, e0, e1⟩ := at_T118 HTC.out (j : Int) (by omega) (by omega)
   subst hAT
   rw [tokL_at ts j hj] at e1
   obtain ⟨ti, hti⟩ : ∃ ti, bT ts[j] = ti := ⟨_, rfl⟩
   rw [hti] at e1
   rw [Int.toNat_natCast] at e0 e1
   have HTI := Aside0.mk (show ∀ x, ts[j]? = some x → bT x = ti from fun x hx => by rw [List.getElem?_eq_getElem hj] at hx; rw [← Option.some.inj hx]; exact hti)
   have HJ2 := Aside0.mk hj
   replace e0 := pw_cell_below HBr.out e0
   replace e1 := pw_cell_below HBr.out e1
   have m0 : wr.cell? ⟨w.heap.size + 1, 0, none⟩ = some (.int .i64 3) := (blk_cell (blk_below HNB3.out HBr.out) 0).trans rfl
   have m3 : wr.cell? ⟨w.heap.size + 1, 3, none⟩ = some (.string n.f3) := (blk_cell (blk_below HNB3.out HBr.out) 3).trans rfl
   have hjp : j < ts.length := hj
   clear hti hj HTC HL4 HG4 HC
   have c0n : (ti.toList != ([] : List UInt8)) = !(ti.toList == ([] : List UInt8)) := rfl
   by_cases hz : ti = ⟨#[]⟩
   ·have c1 : (ti.toList == ([] : List UInt8)) = true := by rw [bytes_nil.2 hz]; rfl
    have HW := Aside0.mk (show hitB true n.f3 ti = false from by simp [hitB, hz])
    clear hz
    go_wp2_with fail
    go_region
    go_wp2_with fail
    try rw [show wrap64 ((j : Int) + 1) = ((j + 1 : Nat) : Int) by have := HJ2.out; have := HTL.out; unfold wrap64; omega]
    go_roundg (ts.length - j - 1)
    case measure => have := HJ.out; have := HJ2.out; omega
    case rel =>
     refine ⟨j + 1, rfl, ⟨by have := HJ.out; have := HJ2.out; omega⟩, ⟨(by repeat (first | apply pw_below_drewN | apply below_drew1 | apply below_drew | exact HBr.out))⟩, ⟨fun q hq x hx => ?_⟩⟩
     rcases Nat.lt_or_ge q j with hqj | hqj
     ·exact HNO.out q hqj x hx
     ·obtain rfl : q = j := by omega
      rw [HTI.out x hx]
      exact HW.out
   ·have c1 : (ti.toList == ([] : List UInt8)) = false := beq_eq_false_iff_ne.2 (fun e => hz (bytes_nil.1 e))
    by_cases hx : ti = n.f3
    ·have c2 : (ti.toList == n.f3.toList) = true := by rw [hx]; exact beq_self_eq_true _
     have HW := Aside0.mk (show hitB true n.f3 ti = true from by unfold hitB; rw [decide_eq_true hz, decide_eq_true hx]; rfl)
     clear hx hz
     go_wp2_with fail
     refine start_ (n := 31) (S := fun w' => w'.cell? ⟨(ad2.add (j * 2)).block, (ad2.add (j * 2)).off + 1, none⟩ = some (.string ti) ∧ w'.cell? ⟨w.heap.size + 1, 3, none⟩ = some (.string n.f3) ∧ w'.cell? ⟨w.heap.size + 1, 0, none⟩ = some (.int .i64 3)) (ds := []) #[false, false, false, false, false, false, false, false, false, false, false, false, false, false, false, false, false, false, false, false, false, false, false, false, false, false, false, false, false, false, false] (by kernel_rfl) rfl rfl ⟨e1, m3, m0⟩ (fun hHeld => ?_)
     refine with_tabW ref_node.tab28 ref_node.bits28 (fun HT_ HW_ => ?_)
     refine pS 0 (some 147) HT_ ?_
     refine pS 1 (some 148) HT_ ?_
     refine pS 2 (some 149) HT_ ?_
     refine pS 3 (some 150) HT_ ?_
     refine tS 4 (some 151) HT_ HW_ hHeld ?_
     refine pure_ (i := 5) (N := some 152) (v := .bool true) (a' := ?_) #[true, true, true, true, true, true, false, false, false, false, false, false, false, false, false, false, false, false, false, false, false, false, false, false, false, false, false, false, false, false, false] rfl rfl (any_of HT_.out (by kernel_rfl)) (fun _ _ _ h => h) (Or.inl ⟨by rfl, ?_⟩) ?_ ?_
     ·intro w'
      go_simp
      all_goals (first | rfl | (simp [c1]; done))
     rotate_left
     ·simp only [Act.put, List.setIfInBounds_toArray, List.set_cons_zero, List.set_cons_succ, i64_w, i32_w]
      rfl
     refine pS 6 (some 153) HT_ ?_
     refine pS 7 (some 154) HT_ ?_
     refine pS 8 (some 155) HT_ ?_
     refine pS 9 (some 156) HT_ ?_
     refine pS 10 (some 157) HT_ ?_
     refine tS 11 (some 158) HT_ HW_ hHeld ?_
     refine pS 12 (some 159) HT_ ?_
     refine tS 13 (some 160) HT_ HW_ hHeld ?_
     refine pure_ (i := 14) (N := some 161) (v := .bool true) (a' := ?_) #[true, true, true, true, true, true, true, true, true, true, true, true, true, true, true, false, false, false, false, false, false, false, false, false, false, false, false, false, false, false, false] rfl rfl (any_of HT_.out (by kernel_rfl)) (fun _ _ _ h => h) (Or.inl ⟨by rfl, ?_⟩) ?_ ?_
     ·intro w'
      go_simp
      all_goals (first | rfl | (simp [c2]; done))
     rotate_left
     ·simp only [Act.put, List.setIfInBounds_toArray, List.set_cons_zero, List.set_cons_succ, i64_w, i32_w]
      rfl
     refine pS 15 (some 162) HT_ ?_
     refine uS 16 (some 163) HT_ ?_
     refine uS 17 (some 164) HT_ ?_
     refine uS 18 (some 165) HT_ ?_
     refine uS 19 (some 166) HT_ ?_
     refine uS 20 (some 167) HT_ ?_
     refine uS 21 (some 168) HT_ ?_
     refine uS 22 (some 169) HT_ ?_
     refine uS 23 (some 170) HT_ ?_
     refine uS 24 (some 171) HT_ ?_
     refine uS 25 (some 172) HT_ ?_
     refine uS 26 (some 173) HT_ ?_
     refine uS 27 (some 174) HT_ ?_
     refine uS 28 (some 175) HT_ ?_
     refine pS 29 (some 176) HT_ ?_
     refine pS 30 (some 177) HT_ ?_
     refine done_ (done_of HT_.out (by kernel_rfl)) ?_
     go_wp2_with fail
     go_ret
     refine ⟨congrArg (fun z => Ending.returned (Value.bool z)) ?_, below_step HB3.out (by repeat (first | apply pw_below_drewN | apply below_drew1 | apply below_drew | exact HBr.out))⟩
     rw [HTS.out, pre_hit _ _ HT0.out]
     exact (hit_yes HJ2.out HTI.out HW.out).symm
    ·have c2 : (ti.toList == n.f3.toList) = false := beq_eq_false_iff_ne.2 (fun e => hx (bytes_inj0.1 e))
     have hbg := begins_f ti n.f3
     by_cases hp : prefB n.f3 ti = true
     ·rw [hp] at hbg
      have HBG := Aside0.mk hbg
      clear hbg
      have HW := Aside0.mk (show hitB true n.f3 ti = true from by simp [hitB, hz, hp])
      clear hx hz hp
      go_wp2_with fail
      refine start_ (n := 31) (S := fun w' => w'.cell? ⟨(ad2.add (j * 2)).block, (ad2.add (j * 2)).off + 1, none⟩ = some (.string ti) ∧ w'.cell? ⟨w.heap.size + 1, 3, none⟩ = some (.string n.f3) ∧ w'.cell? ⟨w.heap.size + 1, 0, none⟩ = some (.int .i64 3)) (ds := []) #[false, false, false, false, false, false, false, false, false, false, false, false, false, false, false, false, false, false, false, false, false, false, false, false, false, false, false, false, false, false, false] (by kernel_rfl) rfl rfl ⟨e1, m3, m0⟩ (fun hHeld => ?_)
      refine with_tabW ref_node.tab28 ref_node.bits28 (fun HT_ HW_ => ?_)
      refine pS 0 (some 147) HT_ ?_
      refine pS 1 (some 148) HT_ ?_
      refine pS 2 (some 149) HT_ ?_
      refine pS 3 (some 150) HT_ ?_
      refine tS 4 (some 151) HT_ HW_ hHeld ?_
      refine pure_ (i := 5) (N := some 152) (v := .bool true) (a' := ?_) #[true, true, true, true, true, true, false, false, false, false, false, false, false, false, false, false, false, false, false, false, false, false, false, false, false, false, false, false, false, false, false] rfl rfl (any_of HT_.out (by kernel_rfl)) (fun _ _ _ h => h) (Or.inl ⟨by rfl, ?_⟩) ?_ ?_
      ·intro w'
       go_simp
       all_goals (first | rfl | (simp [c1]; done))
      rotate_left
      ·simp only [Act.put, List.setIfInBounds_toArray, List.set_cons_zero, List.set_cons_succ, i64_w, i32_w]
       rfl
      refine pS 6 (some 153) HT_ ?_
      refine pS 7 (some 154) HT_ ?_
      refine pS 8 (some 155) HT_ ?_
      refine pS 9 (some 156) HT_ ?_
      refine pS 10 (some 157) HT_ ?_
      refine tS 11 (some 158) HT_ HW_ hHeld ?_
      refine pS 12 (some 159) HT_ ?_
      refine tS 13 (some 160) HT_ HW_ hHeld ?_
      refine pure_ (i := 14) (N := some 161) (v := .bool false) (a' := ?_) #[true, true, true, true, true, true, true, true, true, true, true, true, true, true, true, false, false, false, false, false, false, false, false, false, false, false, false, false, false, false, false] rfl rfl (any_of HT_.out (by kernel_rfl)) (fun _ _ _ h => h) (Or.inl ⟨by rfl, ?_⟩) ?_ ?_
      ·intro w'
       go_simp
       all_goals (first | rfl | (simp [c2]; done))
      rotate_left
      ·simp only [Act.put, List.setIfInBounds_toArray, List.set_cons_zero, List.set_cons_succ, i64_w, i32_w]
       rfl
      refine pS 15 (some 162) HT_ ?_
      refine pS 16 (some 163) HT_ ?_
      refine tS 17 (some 164) HT_ HW_ hHeld ?_
      refine pS 18 (some 165) HT_ ?_
      refine pS 19 (some 166) HT_ ?_
      refine pS 20 (some 167) HT_ ?_
      refine pS 21 (some 168) HT_ ?_
      refine pS 22 (some 169) HT_ ?_
      refine pS 23 (some 170) HT_ ?_
      refine tS 24 (some 171) HT_ HW_ hHeld ?_
      refine pS 25 (some 172) HT_ ?_
      refine tS 26 (some 173) HT_ HW_ hHeld ?_
      refine one_ (i := 27) (N := some 174) #[true, true, true, true, true, true, true, true, true, true, true, true, true, true, true, true, true, true, true, true, true, true, true, true, true, true, true, true, false, false, false] rfl rfl (one_of HT_.out (by kernel_rfl)) (by decide) (fun K hK => ?_)
      refine goes_ Tryz.func70 (by kernel_rfl) rfl #[.string ti, .string n.f3] (by rfl) rfl rfl (by (try simp only [List.map_toArray, List.map_cons, List.map_nil]); first | done | rfl) ?_
      refine (dragnetref20_begins.calls ti n.f3 true _ HBG.out).mono ?_
      rintro e w' ⟨rfl, ⟨⟨nd, rfl⟩⟩⟩
      refine ⟨_, rfl, ?_⟩
      refine hK.out _ _ hHeld (fun hHeld => ?_)
      clear hK K
      refine norm_ (a' := ?_) ?_ ?_
      rotate_left
      ·show Act.put _ (some 174) _ = _
       simp only [Act.put, List.setIfInBounds_toArray, List.set_cons_zero, List.set_cons_succ, i64_w, i32_w]
       rfl
      refine pS 28 (some 175) HT_ ?_
      refine pS 29 (some 176) HT_ ?_
      refine pS 30 (some 177) HT_ ?_
      refine done_ (done_of HT_.out (by kernel_rfl)) ?_
      go_wp2_with fail
      go_ret
      refine ⟨congrArg (fun z => Ending.returned (Value.bool z)) ?_, below_step HB3.out (by repeat (first | apply pw_below_drewN | apply below_drew1 | apply below_drew | exact HBr.out))⟩
      rw [HTS.out, pre_hit _ _ HT0.out]
      exact (hit_yes HJ2.out HTI.out HW.out).symm
     ·have hp2 : prefB n.f3 ti = false := by simpa using hp
      rw [hp2] at hbg
      have HBG := Aside0.mk hbg
      clear hbg
      have HW := Aside0.mk (show hitB true n.f3 ti = false from by simp [hitB, hx, hp2])
      clear hx hz hp hp2
      go_wp2_with fail
      refine start_ (n := 31) (S := fun w' => w'.cell? ⟨(ad2.add (j * 2)).block, (ad2.add (j * 2)).off + 1, none⟩ = some (.string ti) ∧ w'.cell? ⟨w.heap.size + 1, 3, none⟩ = some (.string n.f3) ∧ w'.cell? ⟨w.heap.size + 1, 0, none⟩ = some (.int .i64 3)) (ds := []) #[false, false, false, false, false, false, false, false, false, false, false, false, false, false, false, false, false, false, false, false, false, false, false, false, false, false, false, false, false, false, false] (by kernel_rfl) rfl rfl ⟨e1, m3, m0⟩ (fun hHeld => ?_)
      refine with_tabW ref_node.tab28 ref_node.bits28 (fun HT_ HW_ => ?_)
      refine pS 0 (some 147) HT_ ?_
      refine pS 1 (some 148) HT_ ?_
      refine pS 2 (some 149) HT_ ?_
      refine pS 3 (some 150) HT_ ?_
      refine tS 4 (some 151) HT_ HW_ hHeld ?_
      refine pure_ (i := 5) (N := some 152) (v := .bool true) (a' := ?_) #[true, true, true, true, true, true, false, false, false, false, false, false, false, false, false, false, false, false, false, false, false, false, false, false, false, false, false, false, false, false, false] rfl rfl (any_of HT_.out (by kernel_rfl)) (fun _ _ _ h => h) (Or.inl ⟨by rfl, ?_⟩) ?_ ?_
      ·intro w'
       go_simp
       all_goals (first | rfl | (simp [c1]; done))
      rotate_left
      ·simp only [Act.put, List.setIfInBounds_toArray, List.set_cons_zero, List.set_cons_succ, i64_w, i32_w]
       rfl
      refine pS 6 (some 153) HT_ ?_
      refine pS 7 (some 154) HT_ ?_
      refine pS 8 (some 155) HT_ ?_
      refine pS 9 (some 156) HT_ ?_
      refine pS 10 (some 157) HT_ ?_
      refine tS 11 (some 158) HT_ HW_ hHeld ?_
      refine pS 12 (some 159) HT_ ?_
      refine tS 13 (some 160) HT_ HW_ hHeld ?_
      refine pure_ (i := 14) (N := some 161) (v := .bool false) (a' := ?_) #[true, true, true, true, true, true, true, true, true, true, true, true, true, true, true, false, false, false, false, false, false, false, false, false, false, false, false, false, false, false, false] rfl rfl (any_of HT_.out (by kernel_rfl)) (fun _ _ _ h => h) (Or.inl ⟨by rfl, ?_⟩) ?_ ?_
      ·intro w'
       go_simp
       all_goals (first | rfl | (simp [c2]; done))
      rotate_left
      ·simp only [Act.put, List.setIfInBounds_toArray, List.set_cons_zero, List.set_cons_succ, i64_w, i32_w]
       rfl
      refine pS 15 (some 162) HT_ ?_
      refine pS 16 (some 163) HT_ ?_
      refine tS 17 (some 164) HT_ HW_ hHeld ?_
      refine pS 18 (some 165) HT_ ?_
      refine pS 19 (some 166) HT_ ?_
      refine pS 20 (some 167) HT_ ?_
      refine pS 21 (some 168) HT_ ?_
      refine pS 22 (some 169) HT_ ?_
      refine pS 23 (some 170) HT_ ?_
      refine tS 24 (some 171) HT_ HW_ hHeld ?_
      refine pS 25 (some 172) HT_ ?_
      refine tS 26 (some 173) HT_ HW_ hHeld ?_
      refine one_ (i := 27) (N := some 174) #[true, true, true, true, true, true, true, true, true, true, true, true, true, true, true, true, true, true, true, true, true, true, true, true, true, true, true, true, false, false, false] rfl rfl (one_of HT_.out (by kernel_rfl)) (by decide) (fun K hK => ?_)
      refine goes_ Tryz.func70 (by kernel_rfl) rfl #[.string ti, .string n.f3] (by rfl) rfl rfl (by (try simp only [List.map_toArray, List.map_cons, List.map_nil]); first | done | rfl) ?_
      refine (dragnetref20_begins.calls ti n.f3 false _ HBG.out).mono ?_
      rintro e w' ⟨rfl, ⟨⟨nd, rfl⟩⟩⟩
      refine ⟨_, rfl, ?_⟩
      refine hK.out _ _ hHeld (fun hHeld => ?_)
      clear hK K
      refine norm_ (a' := ?_) ?_ ?_
      rotate_left
      ·show Act.put _ (some 174) _ = _
       simp only [Act.put, List.setIfInBounds_toArray, List.set_cons_zero, List.set_cons_succ, i64_w, i32_w]
       rfl
      refine pS 28 (some 175) HT_ ?_
      refine pS 29 (some 176) HT_ ?_
      refine pS 30 (some 177) HT_ ?_
      refine done_ (done_of HT_.out (by kernel_rfl)) ?_
      go_wp2_with fail
      try rw [show wrap64 ((j : Int) + 1) = ((j + 1 : Nat) : Int) by have := HJ2.out; have := HTL.out; unfold wrap64; omega]
      go_roundg (ts.length - j - 1)
      case measure => have := HJ.out; have := HJ2.out; omega
      case rel =>
       refine ⟨j + 1, rfl, ⟨by have := HJ.out; have := HJ2.out; omega⟩, ⟨(by repeat (first | apply pw_below_drewN | apply below_drew1 | apply below_drew | exact HBr.out))⟩, ⟨fun q hq x hx => ?_⟩⟩
       rcases Nat.lt_or_ge q j with hqj | hqj
       ·exact HNO.out q hqj x hx
       ·obtain rfl : q = j := by omega
        rw [HTI.out x hx]
        exact HW.out
  ·have d5 : decide ((j : Int) < (ts.length : Int)) = false := decide_eq_false (by omega)
   have HJE := Aside0.mk (show ts.length ≤ j by omega)
   go_wp2_with fail
   go_ret
   refine ⟨congrArg (fun z => Ending.returned (Value.bool z)) ?_, below_step HB3.out HBr.out⟩
   rw [HTS.out, pre_hit _ _ HT0.out]
   exact (hit_no HJE.out HNO.out).symm
def ref_node.T20 : Bool × List (List Nat × List Nat) := (true, [([], []), ([0], [0]), ([1], [1]), ([2, 1, 1], [1, 2]), ([1], [1]), ([4, 1], [1, 4]), ([3, 5, 1], [1, 3, 5]), ([1, 6], [1, 6]), ([7, 3, 0, 1, 2, 3, 4, 5, 6, 7], [7])])
def ref_node.B20 : List Nat := [0, 1, 3, 7, 3, 19, 63, 127, 255]
theorem ref_node.tab20 : rtab .any (opsOf Tryz.f40 20) = ref_node.T20 := by kernel_rfl
theorem ref_node.bits20 : waitsOk ref_node.T20.2 ref_node.B20 = true := by kernel_rfl
def fld6 (o : Option FD) (tx : ByteArray) : Bool := match o with
 | none => false
 | some y => decide (showB y = tx)
def fld78 (less : Bool) (o : Option FD) (lo : Int) : Bool := match o with
 | none => false
 | some y => decide (y.f1 = 1) && (if less = true then decide (y.f2 < lo) else decide (lo < y.f2))
theorem node_6 (A : Option Addr) (c : Nat) (ns : List ND) (i : Nat) (n : ND) (l : List Int) (AL : Option Addr) (cL : Nat) (s t : Int) (w : World) (hC : Kd.C k37 w A ns.length ns) (hi : ns[i]? = some n) (h64 : ns.length ≤ 64) (h0 : n.f0 = 6) (hCL : (Kd.int .u8).C w AL l.length l) (hcL : l.length ≤ cL) (hbL : ∀ x ∈ l, 0 ≤ x ∧ x < 256) (hnL : l.length ≤ 1000000) :
  Calls Tryz.prog 40 #[.slice A ns.length c, .int .i64 (i : Int), .agg #[.int .i64 s, .int .i64 t, .slice AL l.length cL]] w fun e w' => e = .returned (.bool (fld6 (fieldOf l n.f5) n.f3)) ∧ Below w.heap.size w w' := by
 obtain ⟨ad, A4, c4, hAe, hil, k0, k1, k2, k3, k4, k5, k6, k7, n0, n1, n2, n3, n4, n5, n6, n7, r0, r1, r2, HB2, HNB, HRB, HL4, HG4⟩ := nodePre A c ns i n l AL cL s t w hC hi h64 h0
 subst hAe
 have d3 : decide ((i : Int) < (ns.length : Int)) = true := decide_eq_true (by omega)
 have d4 : decide (i < ns.length) = true := decide_eq_true hil
 have dp : 0 ≤ (i : Int) := by omega
 have HC := Aside0.mk hC
 clear hC hi
 obtain ⟨kg, hg⟩ := refGet_k l n.f5 hbL hnL
 cases hfo : fieldOf l n.f5 with
 | none =>
  rw [hfo] at hg
  have HG := Aside0.mk (fun (W : World) (hW : Below w.heap.size w W) => dragnetref08_Get.calls kg AL cL l n.f5 (⟨#[]⟩) (0) (0) (⟨#[]⟩) (false) W (Kd.C_below hCL hW) hcL hg)
  clear hg hCL hbL
  go_enter Tryz.func40, Tryz.ntmps40
  go_wp2_with fail
  refine (HG.out _ HB2.out).mono ?_
  rintro e w3 ⟨rfl, hb⟩
  have HB3 := Aside0.mk (below_step HB2.out hb)
  have hN3 := blk_alloc (blk_below HNB.out hb) (Obj.cells #[.string ⟨#[]⟩, .int .i64 0, .int .i64 0, .string ⟨#[]⟩] 110)
  have hF3 := blk_new w3 (Obj.cells #[.string ⟨#[]⟩, .int .i64 0, .int .i64 0, .string ⟨#[]⟩] 110)
  have m0 : (w3.alloc (Obj.cells #[.string ⟨#[]⟩, .int .i64 0, .int .i64 0, .string ⟨#[]⟩] 110)).cell? ⟨w.heap.size + 1, 0, none⟩ = some (.int .i64 6) := (blk_cell hN3 0).trans rfl
  have m3 : (w3.alloc (Obj.cells #[.string ⟨#[]⟩, .int .i64 0, .int .i64 0, .string ⟨#[]⟩] 110)).cell? ⟨w.heap.size + 1, 3, none⟩ = some (.string n.f3) := (blk_cell hN3 3).trans rfl
  have m6 : (w3.alloc (Obj.cells #[.string ⟨#[]⟩, .int .i64 0, .int .i64 0, .string ⟨#[]⟩] 110)).cell? ⟨w.heap.size + 1, 6, none⟩ = some (.int .i64 n.f6) := (blk_cell hN3 6).trans rfl
  have f0 : (w3.alloc (Obj.cells #[.string ⟨#[]⟩, .int .i64 0, .int .i64 0, .string ⟨#[]⟩] 110)).cell? ⟨w3.heap.size, 0, none⟩ = some (.string ⟨#[]⟩) := (blk_cell hF3 0).trans rfl
  have f1 : (w3.alloc (Obj.cells #[.string ⟨#[]⟩, .int .i64 0, .int .i64 0, .string ⟨#[]⟩] 110)).cell? ⟨w3.heap.size, 1, none⟩ = some (.int .i64 0) := (blk_cell hF3 1).trans rfl
  have f2 : (w3.alloc (Obj.cells #[.string ⟨#[]⟩, .int .i64 0, .int .i64 0, .string ⟨#[]⟩] 110)).cell? ⟨w3.heap.size, 2, none⟩ = some (.int .i64 0) := (blk_cell hF3 2).trans rfl
  have f3 : (w3.alloc (Obj.cells #[.string ⟨#[]⟩, .int .i64 0, .int .i64 0, .string ⟨#[]⟩] 110)).cell? ⟨w3.heap.size, 3, none⟩ = some (.string ⟨#[]⟩) := (blk_cell hF3 3).trans rfl
  have HB4 := Aside0.mk (below_alloc HB3.out (Obj.cells #[.string ⟨#[]⟩, .int .i64 0, .int .i64 0, .string ⟨#[]⟩] 110))
  clear hN3 hF3 hb HG
  go_wp2_with fail
  go_region
  go_wp2_with fail
  go_ret
  exact ⟨eB (rfl), below_drew HB4.out⟩
 | some y =>
  rw [hfo] at hg
  obtain ⟨ks, hsh⟩ := refShow_k y (fieldOf_in hfo)
  have HSH := Aside0.mk hsh
  clear hsh hfo
  have HG := Aside0.mk (fun (W : World) (hW : Below w.heap.size w W) => dragnetref08_Get.calls kg AL cL l n.f5 (y.f0) (y.f1) (y.f2) (y.f3) (true) W (Kd.C_below hCL hW) hcL hg)
  clear hg hCL hbL
  go_enter Tryz.func40, Tryz.ntmps40
  go_wp2_with fail
  refine (HG.out _ HB2.out).mono ?_
  rintro e w3 ⟨rfl, hb⟩
  have HB3 := Aside0.mk (below_step HB2.out hb)
  have hN3 := blk_alloc (blk_below HNB.out hb) (Obj.cells #[.string y.f0, .int .i64 y.f1, .int .i64 y.f2, .string y.f3] 110)
  have hF3 := blk_new w3 (Obj.cells #[.string y.f0, .int .i64 y.f1, .int .i64 y.f2, .string y.f3] 110)
  have m0 : (w3.alloc (Obj.cells #[.string y.f0, .int .i64 y.f1, .int .i64 y.f2, .string y.f3] 110)).cell? ⟨w.heap.size + 1, 0, none⟩ = some (.int .i64 6) := (blk_cell hN3 0).trans rfl
  have m3 : (w3.alloc (Obj.cells #[.string y.f0, .int .i64 y.f1, .int .i64 y.f2, .string y.f3] 110)).cell? ⟨w.heap.size + 1, 3, none⟩ = some (.string n.f3) := (blk_cell hN3 3).trans rfl
  have m6 : (w3.alloc (Obj.cells #[.string y.f0, .int .i64 y.f1, .int .i64 y.f2, .string y.f3] 110)).cell? ⟨w.heap.size + 1, 6, none⟩ = some (.int .i64 n.f6) := (blk_cell hN3 6).trans rfl
  have f0 : (w3.alloc (Obj.cells #[.string y.f0, .int .i64 y.f1, .int .i64 y.f2, .string y.f3] 110)).cell? ⟨w3.heap.size, 0, none⟩ = some (.string y.f0) := (blk_cell hF3 0).trans rfl
  have f1 : (w3.alloc (Obj.cells #[.string y.f0, .int .i64 y.f1, .int .i64 y.f2, .string y.f3] 110)).cell? ⟨w3.heap.size, 1, none⟩ = some (.int .i64 y.f1) := (blk_cell hF3 1).trans rfl
  have f2 : (w3.alloc (Obj.cells #[.string y.f0, .int .i64 y.f1, .int .i64 y.f2, .string y.f3] 110)).cell? ⟨w3.heap.size, 2, none⟩ = some (.int .i64 y.f2) := (blk_cell hF3 2).trans rfl
  have f3 : (w3.alloc (Obj.cells #[.string y.f0, .int .i64 y.f1, .int .i64 y.f2, .string y.f3] 110)).cell? ⟨w3.heap.size, 3, none⟩ = some (.string y.f3) := (blk_cell hF3 3).trans rfl
  have HB4 := Aside0.mk (below_alloc HB3.out (Obj.cells #[.string y.f0, .int .i64 y.f1, .int .i64 y.f2, .string y.f3] 110))
  clear hN3 hF3 hb HG
  go_wp2_with fail
  refine start_ (n := 9) (S := fun w' => w'.cell? ⟨w3.heap.size, 0, none⟩ = some (.string y.f0) ∧ w'.cell? ⟨w3.heap.size, 1, none⟩ = some (.int .i64 y.f1) ∧ w'.cell? ⟨w3.heap.size, 2, none⟩ = some (.int .i64 y.f2) ∧ w'.cell? ⟨w3.heap.size, 3, none⟩ = some (.string y.f3) ∧ w'.cell? ⟨w.heap.size + 1, 3, none⟩ = some (.string n.f3)) (ds := []) #[false, false, false, false, false, false, false, false, false] (by kernel_rfl) rfl rfl ⟨f0, f1, f2, f3, m3⟩ (fun hHeld => ?_)
  refine with_tabW ref_node.tab20 ref_node.bits20 (fun HT_ HW_ => ?_)
  refine pS 0 (some 93) HT_ ?_
  refine pS 1 (some 94) HT_ ?_
  refine tS 2 (some 95) HT_ HW_ hHeld ?_
  refine pS 4 (some 97) HT_ ?_
  refine tS 5 (some 98) HT_ HW_ hHeld ?_
  refine one_ (i := 3) (N := some 96) #[true, true, true, true, true, true, false, false, false] rfl rfl (one_of HT_.out (by kernel_rfl)) (by decide) (fun K hK => ?_)
  refine goes_ Tryz.func67 (by kernel_rfl) rfl #[.agg #[.string y.f0, .int .i64 y.f1, .int .i64 y.f2, .string y.f3]] (by rfl) rfl rfl (by (try simp only [List.map_toArray, List.map_cons, List.map_nil]); first | done | rfl) ?_
  refine (dragnetref08_Show.calls ks _ _ _ _ _ _ HSH.out).mono ?_
  rintro e w5 ⟨rfl, hb⟩
  refine ⟨_, rfl, ?_⟩
  refine hK.out _ _ ⟨pw_cell_below hb hHeld.1, pw_cell_below hb hHeld.2.1, pw_cell_below hb hHeld.2.2.1, pw_cell_below hb hHeld.2.2.2.1, pw_cell_below hb hHeld.2.2.2.2⟩ (fun hHeld => ?_)
  clear hK K
  refine norm_ (a' := ?_) ?_ ?_
  rotate_left
  ·show Act.put _ (some 96) _ = _
   simp only [Act.put, List.setIfInBounds_toArray, List.set_cons_zero, List.set_cons_succ, i64_w, i32_w]
   rfl
  refine pS 6 (some 99) HT_ ?_
  refine pS 7 (some 100) HT_ ?_
  refine pS 8 (some 6) HT_ ?_
  refine done_ (done_of HT_.out (by kernel_rfl)) ?_
  have HB5 := Aside0.mk (below_step (below_drew HB4.out) hb)
  clear hHeld HT_ HW_ hb
  by_cases hst : showB y = n.f3
  ·have c1 : ((showB y).toList == n.f3.toList) = true := by rw [hst]; exact beq_self_eq_true _
   have HST := Aside0.mk hst
   clear hst
   go_wp2_with fail
   go_ret
   exact ⟨eB (by unfold fld6; simp only [HST.out, decide_true]; try simp [HST.out]), HB5.out⟩
  ·have c1 : ((showB y).toList == n.f3.toList) = false := beq_eq_false_iff_ne.2 (fun h => hst (bytes_inj0.1 h))
   have HST := Aside0.mk hst
   clear hst
   go_wp2_with fail
   go_ret
   exact ⟨eB (by unfold fld6; simp [HST.out]; try exact fun e => HST.out (bytes_inj0.1 e)), HB5.out⟩
theorem node_7 (A : Option Addr) (c : Nat) (ns : List ND) (i : Nat) (n : ND) (l : List Int) (AL : Option Addr) (cL : Nat) (s t : Int) (w : World) (hC : Kd.C k37 w A ns.length ns) (hi : ns[i]? = some n) (h64 : ns.length ≤ 64) (h0 : n.f0 = 7) (hCL : (Kd.int .u8).C w AL l.length l) (hcL : l.length ≤ cL) (hbL : ∀ x ∈ l, 0 ≤ x ∧ x < 256) (hnL : l.length ≤ 1000000) :
  Calls Tryz.prog 40 #[.slice A ns.length c, .int .i64 (i : Int), .agg #[.int .i64 s, .int .i64 t, .slice AL l.length cL]] w fun e w' => e = .returned (.bool (fld78 true (fieldOf l n.f5) n.f6)) ∧ Below w.heap.size w w' := by
 obtain ⟨ad, A4, c4, hAe, hil, k0, k1, k2, k3, k4, k5, k6, k7, n0, n1, n2, n3, n4, n5, n6, n7, r0, r1, r2, HB2, HNB, HRB, HL4, HG4⟩ := nodePre A c ns i n l AL cL s t w hC hi h64 h0
 subst hAe
 have d3 : decide ((i : Int) < (ns.length : Int)) = true := decide_eq_true (by omega)
 have d4 : decide (i < ns.length) = true := decide_eq_true hil
 have dp : 0 ≤ (i : Int) := by omega
 have HC := Aside0.mk hC
 clear hC hi
 obtain ⟨kg, hg⟩ := refGet_k l n.f5 hbL hnL
 cases hfo : fieldOf l n.f5 with
 | none =>
  rw [hfo] at hg
  have HG := Aside0.mk (fun (W : World) (hW : Below w.heap.size w W) => dragnetref08_Get.calls kg AL cL l n.f5 (⟨#[]⟩) (0) (0) (⟨#[]⟩) (false) W (Kd.C_below hCL hW) hcL hg)
  clear hg hCL hbL
  go_enter Tryz.func40, Tryz.ntmps40
  go_wp2_with fail
  refine (HG.out _ HB2.out).mono ?_
  rintro e w3 ⟨rfl, hb⟩
  have HB3 := Aside0.mk (below_step HB2.out hb)
  have hN3 := blk_alloc (blk_below HNB.out hb) (Obj.cells #[.string ⟨#[]⟩, .int .i64 0, .int .i64 0, .string ⟨#[]⟩] 110)
  have hF3 := blk_new w3 (Obj.cells #[.string ⟨#[]⟩, .int .i64 0, .int .i64 0, .string ⟨#[]⟩] 110)
  have m0 : (w3.alloc (Obj.cells #[.string ⟨#[]⟩, .int .i64 0, .int .i64 0, .string ⟨#[]⟩] 110)).cell? ⟨w.heap.size + 1, 0, none⟩ = some (.int .i64 7) := (blk_cell hN3 0).trans rfl
  have m3 : (w3.alloc (Obj.cells #[.string ⟨#[]⟩, .int .i64 0, .int .i64 0, .string ⟨#[]⟩] 110)).cell? ⟨w.heap.size + 1, 3, none⟩ = some (.string n.f3) := (blk_cell hN3 3).trans rfl
  have m6 : (w3.alloc (Obj.cells #[.string ⟨#[]⟩, .int .i64 0, .int .i64 0, .string ⟨#[]⟩] 110)).cell? ⟨w.heap.size + 1, 6, none⟩ = some (.int .i64 n.f6) := (blk_cell hN3 6).trans rfl
  have f0 : (w3.alloc (Obj.cells #[.string ⟨#[]⟩, .int .i64 0, .int .i64 0, .string ⟨#[]⟩] 110)).cell? ⟨w3.heap.size, 0, none⟩ = some (.string ⟨#[]⟩) := (blk_cell hF3 0).trans rfl
  have f1 : (w3.alloc (Obj.cells #[.string ⟨#[]⟩, .int .i64 0, .int .i64 0, .string ⟨#[]⟩] 110)).cell? ⟨w3.heap.size, 1, none⟩ = some (.int .i64 0) := (blk_cell hF3 1).trans rfl
  have f2 : (w3.alloc (Obj.cells #[.string ⟨#[]⟩, .int .i64 0, .int .i64 0, .string ⟨#[]⟩] 110)).cell? ⟨w3.heap.size, 2, none⟩ = some (.int .i64 0) := (blk_cell hF3 2).trans rfl
  have f3 : (w3.alloc (Obj.cells #[.string ⟨#[]⟩, .int .i64 0, .int .i64 0, .string ⟨#[]⟩] 110)).cell? ⟨w3.heap.size, 3, none⟩ = some (.string ⟨#[]⟩) := (blk_cell hF3 3).trans rfl
  have HB4 := Aside0.mk (below_alloc HB3.out (Obj.cells #[.string ⟨#[]⟩, .int .i64 0, .int .i64 0, .string ⟨#[]⟩] 110))
  clear hN3 hF3 hb HG
  go_wp2_with fail
  go_ret
  exact ⟨rfl, HB4.out⟩
 | some y =>
  rw [hfo] at hg
  clear hfo
  by_cases h1 : y.f1 = 1
  ·have d7 : (y.f1 == 1) = true := beq_iff_eq.2 h1
   by_cases h2 : y.f2 < n.f6
   ·have d8 : decide (y.f2 < n.f6) = true := decide_eq_true h2
    have HQ := Aside0.mk h1
    have HQ2 := Aside0.mk h2
    clear h1 h2
    have HG := Aside0.mk (fun (W : World) (hW : Below w.heap.size w W) => dragnetref08_Get.calls kg AL cL l n.f5 (y.f0) (y.f1) (y.f2) (y.f3) (true) W (Kd.C_below hCL hW) hcL hg)
    clear hg hCL hbL
    go_enter Tryz.func40, Tryz.ntmps40
    go_wp2_with fail
    refine (HG.out _ HB2.out).mono ?_
    rintro e w3 ⟨rfl, hb⟩
    have HB3 := Aside0.mk (below_step HB2.out hb)
    have hN3 := blk_alloc (blk_below HNB.out hb) (Obj.cells #[.string y.f0, .int .i64 y.f1, .int .i64 y.f2, .string y.f3] 110)
    have hF3 := blk_new w3 (Obj.cells #[.string y.f0, .int .i64 y.f1, .int .i64 y.f2, .string y.f3] 110)
    have m0 : (w3.alloc (Obj.cells #[.string y.f0, .int .i64 y.f1, .int .i64 y.f2, .string y.f3] 110)).cell? ⟨w.heap.size + 1, 0, none⟩ = some (.int .i64 7) := (blk_cell hN3 0).trans rfl
    have m3 : (w3.alloc (Obj.cells #[.string y.f0, .int .i64 y.f1, .int .i64 y.f2, .string y.f3] 110)).cell? ⟨w.heap.size + 1, 3, none⟩ = some (.string n.f3) := (blk_cell hN3 3).trans rfl
    have m6 : (w3.alloc (Obj.cells #[.string y.f0, .int .i64 y.f1, .int .i64 y.f2, .string y.f3] 110)).cell? ⟨w.heap.size + 1, 6, none⟩ = some (.int .i64 n.f6) := (blk_cell hN3 6).trans rfl
    have f0 : (w3.alloc (Obj.cells #[.string y.f0, .int .i64 y.f1, .int .i64 y.f2, .string y.f3] 110)).cell? ⟨w3.heap.size, 0, none⟩ = some (.string y.f0) := (blk_cell hF3 0).trans rfl
    have f1 : (w3.alloc (Obj.cells #[.string y.f0, .int .i64 y.f1, .int .i64 y.f2, .string y.f3] 110)).cell? ⟨w3.heap.size, 1, none⟩ = some (.int .i64 y.f1) := (blk_cell hF3 1).trans rfl
    have f2 : (w3.alloc (Obj.cells #[.string y.f0, .int .i64 y.f1, .int .i64 y.f2, .string y.f3] 110)).cell? ⟨w3.heap.size, 2, none⟩ = some (.int .i64 y.f2) := (blk_cell hF3 2).trans rfl
    have f3 : (w3.alloc (Obj.cells #[.string y.f0, .int .i64 y.f1, .int .i64 y.f2, .string y.f3] 110)).cell? ⟨w3.heap.size, 3, none⟩ = some (.string y.f3) := (blk_cell hF3 3).trans rfl
    have HB4 := Aside0.mk (below_alloc HB3.out (Obj.cells #[.string y.f0, .int .i64 y.f1, .int .i64 y.f2, .string y.f3] 110))
    clear hN3 hF3 hb HG
    go_wp2_with fail
    go_ret
    exact ⟨eB (by unfold fld78; simp [HQ.out, HQ2.out]), HB4.out⟩
   ·have d8 : decide (y.f2 < n.f6) = false := decide_eq_false h2
    have HQ := Aside0.mk h1
    have HQ2 := Aside0.mk h2
    clear h1 h2
    have HG := Aside0.mk (fun (W : World) (hW : Below w.heap.size w W) => dragnetref08_Get.calls kg AL cL l n.f5 (y.f0) (y.f1) (y.f2) (y.f3) (true) W (Kd.C_below hCL hW) hcL hg)
    clear hg hCL hbL
    go_enter Tryz.func40, Tryz.ntmps40
    go_wp2_with fail
    refine (HG.out _ HB2.out).mono ?_
    rintro e w3 ⟨rfl, hb⟩
    have HB3 := Aside0.mk (below_step HB2.out hb)
    have hN3 := blk_alloc (blk_below HNB.out hb) (Obj.cells #[.string y.f0, .int .i64 y.f1, .int .i64 y.f2, .string y.f3] 110)
    have hF3 := blk_new w3 (Obj.cells #[.string y.f0, .int .i64 y.f1, .int .i64 y.f2, .string y.f3] 110)
    have m0 : (w3.alloc (Obj.cells #[.string y.f0, .int .i64 y.f1, .int .i64 y.f2, .string y.f3] 110)).cell? ⟨w.heap.size + 1, 0, none⟩ = some (.int .i64 7) := (blk_cell hN3 0).trans rfl
    have m3 : (w3.alloc (Obj.cells #[.string y.f0, .int .i64 y.f1, .int .i64 y.f2, .string y.f3] 110)).cell? ⟨w.heap.size + 1, 3, none⟩ = some (.string n.f3) := (blk_cell hN3 3).trans rfl
    have m6 : (w3.alloc (Obj.cells #[.string y.f0, .int .i64 y.f1, .int .i64 y.f2, .string y.f3] 110)).cell? ⟨w.heap.size + 1, 6, none⟩ = some (.int .i64 n.f6) := (blk_cell hN3 6).trans rfl
    have f0 : (w3.alloc (Obj.cells #[.string y.f0, .int .i64 y.f1, .int .i64 y.f2, .string y.f3] 110)).cell? ⟨w3.heap.size, 0, none⟩ = some (.string y.f0) := (blk_cell hF3 0).trans rfl
    have f1 : (w3.alloc (Obj.cells #[.string y.f0, .int .i64 y.f1, .int .i64 y.f2, .string y.f3] 110)).cell? ⟨w3.heap.size, 1, none⟩ = some (.int .i64 y.f1) := (blk_cell hF3 1).trans rfl
    have f2 : (w3.alloc (Obj.cells #[.string y.f0, .int .i64 y.f1, .int .i64 y.f2, .string y.f3] 110)).cell? ⟨w3.heap.size, 2, none⟩ = some (.int .i64 y.f2) := (blk_cell hF3 2).trans rfl
    have f3 : (w3.alloc (Obj.cells #[.string y.f0, .int .i64 y.f1, .int .i64 y.f2, .string y.f3] 110)).cell? ⟨w3.heap.size, 3, none⟩ = some (.string y.f3) := (blk_cell hF3 3).trans rfl
    have HB4 := Aside0.mk (below_alloc HB3.out (Obj.cells #[.string y.f0, .int .i64 y.f1, .int .i64 y.f2, .string y.f3] 110))
    clear hN3 hF3 hb HG
    go_wp2_with fail
    go_ret
    exact ⟨eB (by unfold fld78; simp [HQ.out, HQ2.out]), HB4.out⟩
  ·have d7 : (y.f1 == 1) = false := beq_eq_false_iff_ne.2 h1
   have HQ := Aside0.mk h1
   clear h1
   have HG := Aside0.mk (fun (W : World) (hW : Below w.heap.size w W) => dragnetref08_Get.calls kg AL cL l n.f5 (y.f0) (y.f1) (y.f2) (y.f3) (true) W (Kd.C_below hCL hW) hcL hg)
   clear hg hCL hbL
   go_enter Tryz.func40, Tryz.ntmps40
   go_wp2_with fail
   refine (HG.out _ HB2.out).mono ?_
   rintro e w3 ⟨rfl, hb⟩
   have HB3 := Aside0.mk (below_step HB2.out hb)
   have hN3 := blk_alloc (blk_below HNB.out hb) (Obj.cells #[.string y.f0, .int .i64 y.f1, .int .i64 y.f2, .string y.f3] 110)
   have hF3 := blk_new w3 (Obj.cells #[.string y.f0, .int .i64 y.f1, .int .i64 y.f2, .string y.f3] 110)
   have m0 : (w3.alloc (Obj.cells #[.string y.f0, .int .i64 y.f1, .int .i64 y.f2, .string y.f3] 110)).cell? ⟨w.heap.size + 1, 0, none⟩ = some (.int .i64 7) := (blk_cell hN3 0).trans rfl
   have m3 : (w3.alloc (Obj.cells #[.string y.f0, .int .i64 y.f1, .int .i64 y.f2, .string y.f3] 110)).cell? ⟨w.heap.size + 1, 3, none⟩ = some (.string n.f3) := (blk_cell hN3 3).trans rfl
   have m6 : (w3.alloc (Obj.cells #[.string y.f0, .int .i64 y.f1, .int .i64 y.f2, .string y.f3] 110)).cell? ⟨w.heap.size + 1, 6, none⟩ = some (.int .i64 n.f6) := (blk_cell hN3 6).trans rfl
   have f0 : (w3.alloc (Obj.cells #[.string y.f0, .int .i64 y.f1, .int .i64 y.f2, .string y.f3] 110)).cell? ⟨w3.heap.size, 0, none⟩ = some (.string y.f0) := (blk_cell hF3 0).trans rfl
   have f1 : (w3.alloc (Obj.cells #[.string y.f0, .int .i64 y.f1, .int .i64 y.f2, .string y.f3] 110)).cell? ⟨w3.heap.size, 1, none⟩ = some (.int .i64 y.f1) := (blk_cell hF3 1).trans rfl
   have f2 : (w3.alloc (Obj.cells #[.string y.f0, .int .i64 y.f1, .int .i64 y.f2, .string y.f3] 110)).cell? ⟨w3.heap.size, 2, none⟩ = some (.int .i64 y.f2) := (blk_cell hF3 2).trans rfl
   have f3 : (w3.alloc (Obj.cells #[.string y.f0, .int .i64 y.f1, .int .i64 y.f2, .string y.f3] 110)).cell? ⟨w3.heap.size, 3, none⟩ = some (.string y.f3) := (blk_cell hF3 3).trans rfl
   have HB4 := Aside0.mk (below_alloc HB3.out (Obj.cells #[.string y.f0, .int .i64 y.f1, .int .i64 y.f2, .string y.f3] 110))
   clear hN3 hF3 hb HG
   go_wp2_with fail
   go_ret
   exact ⟨eB (by unfold fld78; simp [HQ.out]), HB4.out⟩
theorem node_8 (A : Option Addr) (c : Nat) (ns : List ND) (i : Nat) (n : ND) (l : List Int) (AL : Option Addr) (cL : Nat) (s t : Int) (w : World) (hC : Kd.C k37 w A ns.length ns) (hi : ns[i]? = some n) (h64 : ns.length ≤ 64) (h0 : n.f0 = 8) (hCL : (Kd.int .u8).C w AL l.length l) (hcL : l.length ≤ cL) (hbL : ∀ x ∈ l, 0 ≤ x ∧ x < 256) (hnL : l.length ≤ 1000000) :
  Calls Tryz.prog 40 #[.slice A ns.length c, .int .i64 (i : Int), .agg #[.int .i64 s, .int .i64 t, .slice AL l.length cL]] w fun e w' => e = .returned (.bool (fld78 false (fieldOf l n.f5) n.f6)) ∧ Below w.heap.size w w' := by
 obtain ⟨ad, A4, c4, hAe, hil, k0, k1, k2, k3, k4, k5, k6, k7, n0, n1, n2, n3, n4, n5, n6, n7, r0, r1, r2, HB2, HNB, HRB, HL4, HG4⟩ := nodePre A c ns i n l AL cL s t w hC hi h64 h0
 subst hAe
 have d3 : decide ((i : Int) < (ns.length : Int)) = true := decide_eq_true (by omega)
 have d4 : decide (i < ns.length) = true := decide_eq_true hil
 have dp : 0 ≤ (i : Int) := by omega
 have HC := Aside0.mk hC
 clear hC hi
 obtain ⟨kg, hg⟩ := refGet_k l n.f5 hbL hnL
 cases hfo : fieldOf l n.f5 with
 | none =>
  rw [hfo] at hg
  have HG := Aside0.mk (fun (W : World) (hW : Below w.heap.size w W) => dragnetref08_Get.calls kg AL cL l n.f5 (⟨#[]⟩) (0) (0) (⟨#[]⟩) (false) W (Kd.C_below hCL hW) hcL hg)
  clear hg hCL hbL
  go_enter Tryz.func40, Tryz.ntmps40
  go_wp2_with fail
  refine (HG.out _ HB2.out).mono ?_
  rintro e w3 ⟨rfl, hb⟩
  have HB3 := Aside0.mk (below_step HB2.out hb)
  have hN3 := blk_alloc (blk_below HNB.out hb) (Obj.cells #[.string ⟨#[]⟩, .int .i64 0, .int .i64 0, .string ⟨#[]⟩] 110)
  have hF3 := blk_new w3 (Obj.cells #[.string ⟨#[]⟩, .int .i64 0, .int .i64 0, .string ⟨#[]⟩] 110)
  have m0 : (w3.alloc (Obj.cells #[.string ⟨#[]⟩, .int .i64 0, .int .i64 0, .string ⟨#[]⟩] 110)).cell? ⟨w.heap.size + 1, 0, none⟩ = some (.int .i64 8) := (blk_cell hN3 0).trans rfl
  have m3 : (w3.alloc (Obj.cells #[.string ⟨#[]⟩, .int .i64 0, .int .i64 0, .string ⟨#[]⟩] 110)).cell? ⟨w.heap.size + 1, 3, none⟩ = some (.string n.f3) := (blk_cell hN3 3).trans rfl
  have m6 : (w3.alloc (Obj.cells #[.string ⟨#[]⟩, .int .i64 0, .int .i64 0, .string ⟨#[]⟩] 110)).cell? ⟨w.heap.size + 1, 6, none⟩ = some (.int .i64 n.f6) := (blk_cell hN3 6).trans rfl
  have f0 : (w3.alloc (Obj.cells #[.string ⟨#[]⟩, .int .i64 0, .int .i64 0, .string ⟨#[]⟩] 110)).cell? ⟨w3.heap.size, 0, none⟩ = some (.string ⟨#[]⟩) := (blk_cell hF3 0).trans rfl
  have f1 : (w3.alloc (Obj.cells #[.string ⟨#[]⟩, .int .i64 0, .int .i64 0, .string ⟨#[]⟩] 110)).cell? ⟨w3.heap.size, 1, none⟩ = some (.int .i64 0) := (blk_cell hF3 1).trans rfl
  have f2 : (w3.alloc (Obj.cells #[.string ⟨#[]⟩, .int .i64 0, .int .i64 0, .string ⟨#[]⟩] 110)).cell? ⟨w3.heap.size, 2, none⟩ = some (.int .i64 0) := (blk_cell hF3 2).trans rfl
  have f3 : (w3.alloc (Obj.cells #[.string ⟨#[]⟩, .int .i64 0, .int .i64 0, .string ⟨#[]⟩] 110)).cell? ⟨w3.heap.size, 3, none⟩ = some (.string ⟨#[]⟩) := (blk_cell hF3 3).trans rfl
  have HB4 := Aside0.mk (below_alloc HB3.out (Obj.cells #[.string ⟨#[]⟩, .int .i64 0, .int .i64 0, .string ⟨#[]⟩] 110))
  clear hN3 hF3 hb HG
  go_wp2_with fail
  go_ret
  exact ⟨rfl, HB4.out⟩
 | some y =>
  rw [hfo] at hg
  clear hfo
  by_cases h1 : y.f1 = 1
  ·have d7 : (y.f1 == 1) = true := beq_iff_eq.2 h1
   by_cases h2 : n.f6 < y.f2
   ·have d8 : decide (n.f6 < y.f2) = true := decide_eq_true h2
    have HQ := Aside0.mk h1
    have HQ2 := Aside0.mk h2
    clear h1 h2
    have HG := Aside0.mk (fun (W : World) (hW : Below w.heap.size w W) => dragnetref08_Get.calls kg AL cL l n.f5 (y.f0) (y.f1) (y.f2) (y.f3) (true) W (Kd.C_below hCL hW) hcL hg)
    clear hg hCL hbL
    go_enter Tryz.func40, Tryz.ntmps40
    go_wp2_with fail
    refine (HG.out _ HB2.out).mono ?_
    rintro e w3 ⟨rfl, hb⟩
    have HB3 := Aside0.mk (below_step HB2.out hb)
    have hN3 := blk_alloc (blk_below HNB.out hb) (Obj.cells #[.string y.f0, .int .i64 y.f1, .int .i64 y.f2, .string y.f3] 110)
    have hF3 := blk_new w3 (Obj.cells #[.string y.f0, .int .i64 y.f1, .int .i64 y.f2, .string y.f3] 110)
    have m0 : (w3.alloc (Obj.cells #[.string y.f0, .int .i64 y.f1, .int .i64 y.f2, .string y.f3] 110)).cell? ⟨w.heap.size + 1, 0, none⟩ = some (.int .i64 8) := (blk_cell hN3 0).trans rfl
    have m3 : (w3.alloc (Obj.cells #[.string y.f0, .int .i64 y.f1, .int .i64 y.f2, .string y.f3] 110)).cell? ⟨w.heap.size + 1, 3, none⟩ = some (.string n.f3) := (blk_cell hN3 3).trans rfl
    have m6 : (w3.alloc (Obj.cells #[.string y.f0, .int .i64 y.f1, .int .i64 y.f2, .string y.f3] 110)).cell? ⟨w.heap.size + 1, 6, none⟩ = some (.int .i64 n.f6) := (blk_cell hN3 6).trans rfl
    have f0 : (w3.alloc (Obj.cells #[.string y.f0, .int .i64 y.f1, .int .i64 y.f2, .string y.f3] 110)).cell? ⟨w3.heap.size, 0, none⟩ = some (.string y.f0) := (blk_cell hF3 0).trans rfl
    have f1 : (w3.alloc (Obj.cells #[.string y.f0, .int .i64 y.f1, .int .i64 y.f2, .string y.f3] 110)).cell? ⟨w3.heap.size, 1, none⟩ = some (.int .i64 y.f1) := (blk_cell hF3 1).trans rfl
    have f2 : (w3.alloc (Obj.cells #[.string y.f0, .int .i64 y.f1, .int .i64 y.f2, .string y.f3] 110)).cell? ⟨w3.heap.size, 2, none⟩ = some (.int .i64 y.f2) := (blk_cell hF3 2).trans rfl
    have f3 : (w3.alloc (Obj.cells #[.string y.f0, .int .i64 y.f1, .int .i64 y.f2, .string y.f3] 110)).cell? ⟨w3.heap.size, 3, none⟩ = some (.string y.f3) := (blk_cell hF3 3).trans rfl
    have HB4 := Aside0.mk (below_alloc HB3.out (Obj.cells #[.string y.f0, .int .i64 y.f1, .int .i64 y.f2, .string y.f3] 110))
    clear hN3 hF3 hb HG
    go_wp2_with fail
    go_ret
    exact ⟨eB (by unfold fld78; simp [HQ.out, HQ2.out]), HB4.out⟩
   ·have d8 : decide (n.f6 < y.f2) = false := decide_eq_false h2
    have HQ := Aside0.mk h1
    have HQ2 := Aside0.mk h2
    clear h1 h2
    have HG := Aside0.mk (fun (W : World) (hW : Below w.heap.size w W) => dragnetref08_Get.calls kg AL cL l n.f5 (y.f0) (y.f1) (y.f2) (y.f3) (true) W (Kd.C_below hCL hW) hcL hg)
    clear hg hCL hbL
    go_enter Tryz.func40, Tryz.ntmps40
    go_wp2_with fail
    refine (HG.out _ HB2.out).mono ?_
    rintro e w3 ⟨rfl, hb⟩
    have HB3 := Aside0.mk (below_step HB2.out hb)
    have hN3 := blk_alloc (blk_below HNB.out hb) (Obj.cells #[.string y.f0, .int .i64 y.f1, .int .i64 y.f2, .string y.f3] 110)
    have hF3 := blk_new w3 (Obj.cells #[.string y.f0, .int .i64 y.f1, .int .i64 y.f2, .string y.f3] 110)
    have m0 : (w3.alloc (Obj.cells #[.string y.f0, .int .i64 y.f1, .int .i64 y.f2, .string y.f3] 110)).cell? ⟨w.heap.size + 1, 0, none⟩ = some (.int .i64 8) := (blk_cell hN3 0).trans rfl
    have m3 : (w3.alloc (Obj.cells #[.string y.f0, .int .i64 y.f1, .int .i64 y.f2, .string y.f3] 110)).cell? ⟨w.heap.size + 1, 3, none⟩ = some (.string n.f3) := (blk_cell hN3 3).trans rfl
    have m6 : (w3.alloc (Obj.cells #[.string y.f0, .int .i64 y.f1, .int .i64 y.f2, .string y.f3] 110)).cell? ⟨w.heap.size + 1, 6, none⟩ = some (.int .i64 n.f6) := (blk_cell hN3 6).trans rfl
    have f0 : (w3.alloc (Obj.cells #[.string y.f0, .int .i64 y.f1, .int .i64 y.f2, .string y.f3] 110)).cell? ⟨w3.heap.size, 0, none⟩ = some (.string y.f0) := (blk_cell hF3 0).trans rfl
    have f1 : (w3.alloc (Obj.cells #[.string y.f0, .int .i64 y.f1, .int .i64 y.f2, .string y.f3] 110)).cell? ⟨w3.heap.size, 1, none⟩ = some (.int .i64 y.f1) := (blk_cell hF3 1).trans rfl
    have f2 : (w3.alloc (Obj.cells #[.string y.f0, .int .i64 y.f1, .int .i64 y.f2, .string y.f3] 110)).cell? ⟨w3.heap.size, 2, none⟩ = some (.int .i64 y.f2) := (blk_cell hF3 2).trans rfl
    have f3 : (w3.alloc (Obj.cells #[.string y.f0, .int .i64 y.f1, .int .i64 y.f2, .string y.f3] 110)).cell? ⟨w3.heap.size, 3, none⟩ = some (.string y.f3) := (blk_cell hF3 3).trans rfl
    have HB4 := Aside0.mk (below_alloc HB3.out (Obj.cells #[.string y.f0, .int .i64 y.f1, .int .i64 y.f2, .string y.f3] 110))
    clear hN3 hF3 hb HG
    go_wp2_with fail
    go_ret
    exact ⟨eB (by unfold fld78; simp [HQ.out, HQ2.out]), HB4.out⟩
  ·have d7 : (y.f1 == 1) = false := beq_eq_false_iff_ne.2 h1
   have HQ := Aside0.mk h1
   clear h1
   have HG := Aside0.mk (fun (W : World) (hW : Below w.heap.size w W) => dragnetref08_Get.calls kg AL cL l n.f5 (y.f0) (y.f1) (y.f2) (y.f3) (true) W (Kd.C_below hCL hW) hcL hg)
   clear hg hCL hbL
   go_enter Tryz.func40, Tryz.ntmps40
   go_wp2_with fail
   refine (HG.out _ HB2.out).mono ?_
   rintro e w3 ⟨rfl, hb⟩
   have HB3 := Aside0.mk (below_step HB2.out hb)
   have hN3 := blk_alloc (blk_below HNB.out hb) (Obj.cells #[.string y.f0, .int .i64 y.f1, .int .i64 y.f2, .string y.f3] 110)
   have hF3 := blk_new w3 (Obj.cells #[.string y.f0, .int .i64 y.f1, .int .i64 y.f2, .string y.f3] 110)
   have m0 : (w3.alloc (Obj.cells #[.string y.f0, .int .i64 y.f1, .int .i64 y.f2, .string y.f3] 110)).cell? ⟨w.heap.size + 1, 0, none⟩ = some (.int .i64 8) := (blk_cell hN3 0).trans rfl
   have m3 : (w3.alloc (Obj.cells #[.string y.f0, .int .i64 y.f1, .int .i64 y.f2, .string y.f3] 110)).cell? ⟨w.heap.size + 1, 3, none⟩ = some (.string n.f3) := (blk_cell hN3 3).trans rfl
   have m6 : (w3.alloc (Obj.cells #[.string y.f0, .int .i64 y.f1, .int .i64 y.f2, .string y.f3] 110)).cell? ⟨w.heap.size + 1, 6, none⟩ = some (.int .i64 n.f6) := (blk_cell hN3 6).trans rfl
   have f0 : (w3.alloc (Obj.cells #[.string y.f0, .int .i64 y.f1, .int .i64 y.f2, .string y.f3] 110)).cell? ⟨w3.heap.size, 0, none⟩ = some (.string y.f0) := (blk_cell hF3 0).trans rfl
   have f1 : (w3.alloc (Obj.cells #[.string y.f0, .int .i64 y.f1, .int .i64 y.f2, .string y.f3] 110)).cell? ⟨w3.heap.size, 1, none⟩ = some (.int .i64 y.f1) := (blk_cell hF3 1).trans rfl
   have f2 : (w3.alloc (Obj.cells #[.string y.f0, .int .i64 y.f1, .int .i64 y.f2, .string y.f3] 110)).cell? ⟨w3.heap.size, 2, none⟩ = some (.int .i64 y.f2) := (blk_cell hF3 2).trans rfl
   have f3 : (w3.alloc (Obj.cells #[.string y.f0, .int .i64 y.f1, .int .i64 y.f2, .string y.f3] 110)).cell? ⟨w3.heap.size, 3, none⟩ = some (.string y.f3) := (blk_cell hF3 3).trans rfl
   have HB4 := Aside0.mk (below_alloc HB3.out (Obj.cells #[.string y.f0, .int .i64 y.f1, .int .i64 y.f2, .string y.f3] 110))
   clear hN3 hF3 hb HG
   go_wp2_with fail
   go_ret
   exact ⟨eB (by unfold fld78; simp [HQ.out]), HB4.out⟩
theorem tokB_ne {s : ByteArray} (h : tokB s = true) : s ≠ ⟨#[]⟩ := by
 rintro rfl
 cases h
theorem Node_calls (A : Option Addr) (c : Nat) (ns : List ND) (l : List Int) (AL : Option Addr) (cL : Nat) (s t : Int) (w : World) (hC : Kd.C k37 w A ns.length ns) (h64 : ns.length ≤ 64) (hn4 : ∀ n ∈ ns, n.f4.length ≤ 1099511627776)
  (hP : ∀ (i : Nat) n, ns[i]? = some n → rightN n = true ∧ (partsN n).all (inN i) = true) (hCL : (Kd.int .u8).C w AL l.length l) (hcL : l.length ≤ cL) (hbL : ∀ x ∈ l, 0 ≤ x ∧ x < 256) (hnL : l.length ≤ 1000000) :
  ∀ (d i : Nat), i < d → i < ns.length → ∀ W, Below w.heap.size w W → Calls Tryz.prog 40 #[.slice A ns.length c, .int .i64 (i : Int), .agg #[.int .i64 s, .int .i64 t, .slice AL l.length cL]] W fun e w' => e = .returned (.bool (treeB (lvN l t) ns i)) ∧ Below W.heap.size W w'
 | 0, i, hd, _, _, _ => by omega
 | d + 1, i, hd, hil, W, hW => by
  obtain ⟨n, hi⟩ : ∃ n, ns[i]? = some n := ⟨_, List.getElem?_eq_getElem hil⟩
  obtain ⟨hr, hp⟩ := hP i n hi
  have h4 := hn4 n (List.mem_of_getElem? hi)
  rw [treeB_eq (lvN l t) ns i n hi hp]
  have hCW := Kd.C_below hC hW
  have hLW := Kd.C_below hCL hW
  have ih : ∀ (a : Int), 0 ≤ a ∧ a < i → ∀ W', Below W.heap.size W W' → Calls Tryz.prog 40 #[.slice A ns.length c, .int .i64 a, .agg #[.int .i64 s, .int .i64 t, .slice AL l.length cL]] W' fun e w' => e = .returned (.bool (treeB (lvN l t) ns a.toNat)) ∧ Below W'.heap.size W' w' := fun a ha W' hW' => by
   have h := Node_calls A c ns l AL cL s t w hC h64 hn4 hP hCL hcL hbL hnL d a.toNat (by omega) (by omega) W' (below_step hW hW')
   rwa [Int.toNat_of_nonneg ha.1] at h
  unfold partsN at hp
  by_cases h10 : n.f0 = 10
  ·rw [if_pos (.inl h10)] at hp
   simp only [List.all_cons, List.all_nil, inN, Bool.and_true, Bool.and_eq_true, decide_eq_true_eq] at hp
   rw [if_pos h10]
   exact node_10 A c ns i n l AL cL s t W hCW hi h64 h10 _ _ (ih _ hp.1) (ih _ hp.2)
  rw [if_neg h10]
  by_cases h11 : n.f0 = 11
  ·rw [if_pos (.inr h11)] at hp
   simp only [List.all_cons, List.all_nil, inN, Bool.and_true, Bool.and_eq_true, decide_eq_true_eq] at hp
   rw [if_pos h11]
   exact node_11 A c ns i n l AL cL s t W hCW hi h64 h11 _ _ (ih _ hp.1) (ih _ hp.2)
  rw [if_neg h11]
  by_cases h12 : n.f0 = 12
  ·rw [if_neg (by omega), if_pos h12] at hp
   simp only [List.all_cons, List.all_nil, inN, Bool.and_true, decide_eq_true_eq] at hp
   rw [if_pos h12]
   exact node_12 A c ns i n l AL cL s t W hCW hi h64 h12 _ (ih _ hp)
  rw [if_neg h12]
  rcases right_leaf hr h10 h11 h12 with k | ⟨k | k, htk⟩ | ⟨k, hp4⟩ | ⟨k, hz⟩ | (k | k | k) | k
  ·rw [lvN_k k]; exact node_1 A c ns i n l AL cL s t W hCW hi h64 k
  ·rw [lvN_k k]; exact node_2 A c ns i n l AL cL s t W hCW hi h64 k hLW hcL hbL hnL (tokB_ne htk)
  ·rw [lvN_k k]; exact node_3 A c ns i n l AL cL s t W hCW hi h64 k hLW hcL hbL hnL (tokB_ne htk)
  ·rw [lvN_k k]; exact node_4 A c ns i n l AL cL s t W hCW hi h64 k hLW hcL hbL hnL hp4 h4
  ·rw [lvN_k k]; exact node_5 A c ns i n l AL cL s t W hCW hi h64 k hLW hcL hbL hnL
  ·rw [show lvN l t n = fld6 (fieldOf l n.f5) n.f3 by rw [lvN_k k]; rfl]
   exact node_6 A c ns i n l AL cL s t W hCW hi h64 k hLW hcL hbL hnL
  ·rw [show lvN l t n = fld78 true (fieldOf l n.f5) n.f6 by rw [lvN_k k]; rfl]
   exact node_7 A c ns i n l AL cL s t W hCW hi h64 k hLW hcL hbL hnL
  ·rw [show lvN l t n = fld78 false (fieldOf l n.f5) n.f6 by rw [lvN_k k]; rfl]
   exact node_8 A c ns i n l AL cL s t W hCW hi h64 k hLW hcL hbL hnL
  ·rw [lvN_k k]; exact node_9 A c ns i n l AL cL s t W hCW hi h64 k
end Go.Proofs.YtehaodbheifokaaGreatDoor.P
end
