/- Joined by wip/tools/pack.py, pruned: RefRight20. -/
import Derived.Test.YtehaodbheifokaaGreatDoorMs11
import Derived.Test.YtehaodbheifokaaGreatDoorMs16
import Derived.Test.YtehaodbheifokaaGreatDoorMs17
set_option maxHeartbeats 8000000
set_option maxRecDepth 100000
set_option linter.unusedVariables false
set_option linter.unusedSimpArgs false
section
namespace Go.Proofs.YtehaodbheifokaaGreatDoor.P
open Go Go.RowKit Go.Proofs.YtehaodbheifokaaGreatDoorW.PrintWords Go.Proofs.YtehaodbheifokaaGreatDoorW.PrintLast Go.Proofs.YtehaodbheifokaaGreatDoorW.PrintMore
attribute [local go_sem] max2_int min2_int max_two min_two
theorem rsl_loop (p q : List ByteArray) (hl : p.length = q.length) (hb : p.length ≤ 1099511627776) : ∀ (d i : Nat), i + d = p.length → Ev (fun k => dragnetref06_Same.l0 k p q (i : Int)) (decide (p.drop i = q.drop i))
 | 0, i, hi => by
  refine Ev.step (f := fun _ => some true) (fun k => ?_) (by rw [List.drop_eq_nil_of_le (by omega), List.drop_eq_nil_of_le (by omega)]; exact Ev.now _)
  simp only [dragnetref06_Same.l0]
  rw [if_neg (by omega)]
 | d + 1, i, hi => by
  have ih := rsl_loop p q hl hb d (i + 1) (by omega)
  have hip : i < p.length := by omega
  have hiq : i < q.length := by omega
  have ep : rdOf ByteArray.empty p (i : Int) = p[i] := by simp [rdOf, List.getD, hip]
  have eq : rdOf ByteArray.empty q (i : Int) = q[i] := by simp [rdOf, List.getD, hiq]
  have ew : wrap64 ((i : Int) + 1) = ((i + 1 : Nat) : Int) := by unfold wrap64; omega
  rw [show List.drop i p = p[i] :: List.drop (i + 1) p from List.drop_eq_getElem_cons hip, show List.drop i q = q[i] :: List.drop (i + 1) q from List.drop_eq_getElem_cons hiq]
  by_cases h2 : p[i] = q[i]
  ·have e : decide (p[i] :: List.drop (i + 1) p = q[i] :: List.drop (i + 1) q) = decide (List.drop (i + 1) p = List.drop (i + 1) q) := by
    congr 1
    rw [h2]
    simp only [List.cons.injEq, true_and]
   rw [e]
   refine Ev.step (fun k => ?_) ih
   simp only [dragnetref06_Same.l0]
   rw [if_pos (by omega), if_pos (by omega), if_pos (by omega), ep, eq, if_pos (by rw [h2]), ew]
  ·rw [decide_eq_false (fun e => h2 (List.cons.inj e).1)]
   refine Ev.step (f := fun _ => some false) (fun k => ?_) (Ev.now _)
   simp only [dragnetref06_Same.l0]
   rw [if_pos (by omega), if_pos (by omega), if_pos (by omega), ep, eq, if_neg (fun e => h2 (bytes_inj0.1 e))]
theorem rsl_ev (p q : List ByteArray) (hb : p.length ≤ 1099511627776) : Ev (fun k => dragnetref06_Same.f k p q) (decide (p = q)) := by
 by_cases hl : p.length = q.length
 ·refine Ev.congr (fun k => ?_) (rsl_loop p q hl hb p.length 0 (by omega))
  unfold dragnetref06_Same.f
  rw [if_pos (by omega)]
  rfl
 ·rw [decide_eq_false (fun e => hl (by rw [e]))]
  refine Ev.congr (f := fun _ => some false) (fun k => ?_) (Ev.now _)
  unfold dragnetref06_Same.f
  rw [if_neg (by omega)]
theorem rsame_f (k a b : Int) (tx : ByteArray) (tm : List ByteArray) (ky : ByteArray) (lo hi k' a' b' : Int) (tx' : ByteArray) (tm' : List ByteArray) (ky' : ByteArray) (lo' hi' : Int) (hb : tm.length ≤ 1099511627776) :
  ∃ n, dragnetref19_SameNode.f n k a b tx tm ky lo hi k' a' b' tx' tm' ky' lo' hi' = some (decide (k = k' ∧ a = a' ∧ b = b' ∧ tx = tx' ∧ tm = tm' ∧ ky = ky' ∧ lo = lo' ∧ hi = hi')) := by
 obtain ⟨n, hn⟩ := rsl_ev tm tm' hb
 have e1 := hn n (Nat.le_refl _)
 simp only at e1
 refine ⟨n, ?_⟩
 unfold dragnetref19_SameNode.f
 rw [e1]
 simp only [bytes_inj0, Option.bind_some]
 repeat' split
 all_goals (first | rfl | (simp_all; done) | (simp_all; rfl))
theorem rsame_calls (k a b : Int) (tx : ByteArray) (A : Option Addr) (c : Nat) (tm : List ByteArray) (ky : ByteArray) (lo hi k' a' b' : Int) (tx' : ByteArray) (A' : Option Addr) (c' : Nat) (tm' : List ByteArray) (ky' : ByteArray) (lo' hi' : Int) (w : World)
  (hC : Kd.string.C w A tm.length tm) (hc : tm.length ≤ c) (hn : tm.length ≤ 1099511627776) (hC' : Kd.string.C w A' tm'.length tm') (hc' : tm'.length ≤ c') :
  Calls Tryz.prog 48 #[.agg (nodeC k a b tx (.slice A tm.length c) ky lo hi), .agg (nodeC k' a' b' tx' (.slice A' tm'.length c') ky' lo' hi')] w fun e w' => e = .returned (.bool (decide (k = k' ∧ a = a' ∧ b = b' ∧ tx = tx' ∧ tm = tm' ∧ ky = ky' ∧ lo = lo' ∧ hi = hi'))) ∧ Below w.heap.size w w' := by
 obtain ⟨n, hf⟩ := rsame_f k a b tx tm ky lo hi k' a' b' tx' tm' ky' lo' hi' hn
 exact dragnetref19_SameNode.calls n k a b tx A c tm ky lo hi k' a' b' tx' A' c' tm' ky' lo' hi' _ w hC hc hC' hc' hf
theorem rright_0 (k a b : Int) (tx : ByteArray) (v : Value) (hv : ∃ A n c, v = .slice A n c) (ky : ByteArray) (lo hi : Int) (w : World) (h1 : ¬k = 1) (h2 : ¬k = 2) (h3 : ¬k = 3) (h4 : ¬k = 4) (h5 : ¬k = 5) (h6 : ¬k = 6) (h7 : ¬k = 7) (h8 : ¬k = 8) (h9 : ¬k = 9) (h10 : ¬k = 10) (h11 : ¬k = 11) (h12 : ¬k = 12) :
  Calls Tryz.prog 42 #[.agg (nodeC k a b tx v ky lo hi)] w fun e w' => e = .returned (.bool false) ∧ Below w.heap.size w w' := by
 obtain ⟨A, n, c, rfl⟩ := hv
 have d1 : (k == 1) = false := beq_eq_false_iff_ne.2 h1
 have d2 : (k == 2) = false := beq_eq_false_iff_ne.2 h2
 have d3 : (k == 3) = false := beq_eq_false_iff_ne.2 h3
 have d4 : (k == 4) = false := beq_eq_false_iff_ne.2 h4
 have d5 : (k == 5) = false := beq_eq_false_iff_ne.2 h5
 have d6 : (k == 6) = false := beq_eq_false_iff_ne.2 h6
 have d7 : (k == 7) = false := beq_eq_false_iff_ne.2 h7
 have d8 : (k == 8) = false := beq_eq_false_iff_ne.2 h8
 have d9 : (k == 9) = false := beq_eq_false_iff_ne.2 h9
 have d10 : (k == 10) = false := beq_eq_false_iff_ne.2 h10
 have d11 : (k == 11) = false := beq_eq_false_iff_ne.2 h11
 have d12 : (k == 12) = false := beq_eq_false_iff_ne.2 h12
 clear h1 h2 h3 h4 h5 h6 h7 h8 h9 h10 h11 h12
 go_enter Tryz.func42, Tryz.ntmps42
 go_wp2_with fail
 go_ret
 exact ⟨rfl, bel6⟩
theorem rright_1 (a b : Int) (tx : ByteArray) (A : Option Addr) (c : Nat) (tm : List ByteArray) (ky : ByteArray) (lo hi : Int) (w : World) (hC : Kd.string.C w A tm.length tm) (hc : tm.length ≤ c) (hn : tm.length ≤ 1099511627776) :
  Calls Tryz.prog 42 #[.agg (nodeC 1 a b tx (.slice A tm.length c) ky lo hi)] w fun e w' => e = .returned (.bool (decide (a = 0 ∧ b = 0 ∧ tx = ⟨#[]⟩ ∧ tm = [] ∧ ky = ⟨#[]⟩ ∧ lo = 0 ∧ hi = 0))) ∧ Below w.heap.size w w' := by
 obtain ⟨r, hr⟩ : ∃ r, (decide (a = 0 ∧ b = 0 ∧ tx = ⟨#[]⟩ ∧ tm = [] ∧ ky = ⟨#[]⟩ ∧ lo = 0 ∧ hi = 0)) = r := ⟨_, rfl⟩
 rw [hr]
 have HS := Aside0.mk (fun (W : World) (hW : Below w.heap.size w W) k' a' b' tx' ky' lo' hi' => rsame_calls 1 a b tx A c tm ky lo hi k' a' b' tx' none 0 [] ky' lo' hi' W (Kd.C_below hC hW) hc hn (Kd.C_nil _ _) (Nat.le_refl _))
 have HR := Aside0.mk hr
 clear hr hC hc hn
 go_enter Tryz.func42, Tryz.ntmps42
 go_wp2_with fail
 all_goals (try go_wp2_with (go_at_call 48; refine (HS.out _ bel6 _ _ _ _ _ _ _).mono ?_; rintro e w2 ⟨rfl, hb⟩; have HB := Aside0.mk hb; clear hb))
 all_goals go_ret
 all_goals first | refine ⟨?_, below_step bel6 HB.out⟩ | refine ⟨?_, bel6⟩
 all_goals first | refine eB (show true = r from ?_) | refine eB (show false = r from ?_) | refine eB (show decide _ = r from ?_) | refine eB (show (_ && _) = r from ?_)
 all_goals (rw [← HR.out]; clear HR HS; (try clear HK); (try clear HB); go_light; (try simp only [bytes_nil] at *))
 all_goals grind
theorem rright_2 (a b : Int) (tx : ByteArray) (A : Option Addr) (c : Nat) (tm : List ByteArray) (ky : ByteArray) (lo hi : Int) (w : World) (hC : Kd.string.C w A tm.length tm) (hc : tm.length ≤ c) (hn : tm.length ≤ 1099511627776) :
  Calls Tryz.prog 42 #[.agg (nodeC 2 a b tx (.slice A tm.length c) ky lo hi)] w fun e w' => e = .returned (.bool (tokB tx && decide (a = 0 ∧ b = 0 ∧ tm = [] ∧ ky = ⟨#[]⟩ ∧ lo = 0 ∧ hi = 0))) ∧ Below w.heap.size w w' := by
 obtain ⟨r, hr⟩ : ∃ r, (tokB tx && decide (a = 0 ∧ b = 0 ∧ tm = [] ∧ ky = ⟨#[]⟩ ∧ lo = 0 ∧ hi = 0)) = r := ⟨_, rfl⟩
 rw [hr]
 have HS := Aside0.mk (fun (W : World) (hW : Below w.heap.size w W) k' a' b' tx' ky' lo' hi' => rsame_calls 2 a b tx A c tm ky lo hi k' a' b' tx' none 0 [] ky' lo' hi' W (Kd.C_below hC hW) hc hn (Kd.C_nil _ _) (Nat.le_refl _))
 obtain ⟨kb, hkb⟩ : ∃ kb, tokB tx = kb := ⟨_, rfl⟩
 have HK := Aside0.mk (fun W => is_calls tx W)
 rw [hkb] at hr HK
 clear hkb
 have HR := Aside0.mk hr
 clear hr hC hc hn
 have hX0 := blk_new (w.alloc (.cells (nodeC 2 a b tx (.slice A tm.length c) ky lo hi) 37)) (.cells #[.int .i64 2, .int .i64 0, .int .i64 0, .string tx, .slice none 0 0, .string ⟨#[]⟩, .int .i64 0, .int .i64 0] 37)
 rw [World.size_alloc] at hX0
 have HXB := Aside0.mk hX0
 have HNB := Aside0.mk (blk_alloc (blk_new w (.cells (nodeC 2 a b tx (.slice A tm.length c) ky lo hi) 37)) (.cells #[.int .i64 2, .int .i64 0, .int .i64 0, .string tx, .slice none 0 0, .string ⟨#[]⟩, .int .i64 0, .int .i64 0] 37))
 have HB1 := Aside0.mk (show Below w.heap.size w ((w.alloc (.cells (nodeC 2 a b tx (.slice A tm.length c) ky lo hi) 37)).alloc (.cells #[.int .i64 2, .int .i64 0, .int .i64 0, .string tx, .slice none 0 0, .string ⟨#[]⟩, .int .i64 0, .int .i64 0] 37)) from below_alloc (below_alloc (Below.refl _ _) _) _)
 clear hX0
 go_enter Tryz.func42, Tryz.ntmps42
 go_wp2_with fail
 refine (HK.out _).mono ?_
 rintro e w3 ⟨rfl, hb3⟩
 have HB3 := Aside0.mk (below_step HB1.out hb3)
 have hN := blk_below HNB.out hb3
 have hX := blk_below HXB.out hb3
 have mn0 : w3.cell? ⟨w.heap.size, 0, none⟩ = some (.int .i64 2) := (blk_cell hN 0).trans rfl
 have mn1 : w3.cell? ⟨w.heap.size, 1, none⟩ = some (.int .i64 a) := (blk_cell hN 1).trans rfl
 have mn2 : w3.cell? ⟨w.heap.size, 2, none⟩ = some (.int .i64 b) := (blk_cell hN 2).trans rfl
 have mn3 : w3.cell? ⟨w.heap.size, 3, none⟩ = some (.string tx) := (blk_cell hN 3).trans rfl
 have mn4 : w3.cell? ⟨w.heap.size, 4, none⟩ = some (.slice A tm.length c) := (blk_cell hN 4).trans rfl
 have mn5 : w3.cell? ⟨w.heap.size, 5, none⟩ = some (.string ky) := (blk_cell hN 5).trans rfl
 have mn6 : w3.cell? ⟨w.heap.size, 6, none⟩ = some (.int .i64 lo) := (blk_cell hN 6).trans rfl
 have mn7 : w3.cell? ⟨w.heap.size, 7, none⟩ = some (.int .i64 hi) := (blk_cell hN 7).trans rfl
 have mx0 : w3.cell? ⟨w.heap.size + 1, 0, none⟩ = some (.int .i64 2) := (blk_cell hX 0).trans rfl
 have mx1 : w3.cell? ⟨w.heap.size + 1, 1, none⟩ = some (.int .i64 0) := (blk_cell hX 1).trans rfl
 have mx2 : w3.cell? ⟨w.heap.size + 1, 2, none⟩ = some (.int .i64 0) := (blk_cell hX 2).trans rfl
 have mx3 : w3.cell? ⟨w.heap.size + 1, 3, none⟩ = some (.string tx) := (blk_cell hX 3).trans rfl
 have mx4 : w3.cell? ⟨w.heap.size + 1, 4, none⟩ = some (.slice none 0 0) := (blk_cell hX 4).trans rfl
 have mx5 : w3.cell? ⟨w.heap.size + 1, 5, none⟩ = some (.string ⟨#[]⟩) := (blk_cell hX 5).trans rfl
 have mx6 : w3.cell? ⟨w.heap.size + 1, 6, none⟩ = some (.int .i64 0) := (blk_cell hX 6).trans rfl
 have mx7 : w3.cell? ⟨w.heap.size + 1, 7, none⟩ = some (.int .i64 0) := (blk_cell hX 7).trans rfl
 clear hN hX
 clear hb3
 cases kb
 all_goals (go_wp2_with fail)
 ·go_ret
  refine ⟨congrArg (fun z => Ending.returned (Value.bool z)) ?_, HB3.out⟩
  rw [← HR.out]; rfl
 ·refine (HS.out w3 HB3.out _ _ _ _ _ _ _).mono ?_
  rintro e w4 ⟨rfl, hb⟩
  have HB4 := Aside0.mk (below_step HB3.out hb)
  clear hb
  go_wp2_with fail
  go_ret
  refine ⟨congrArg (fun z => Ending.returned (Value.bool z)) ?_, HB4.out⟩
  rw [← HR.out]
  simp
theorem rright_3 (a b : Int) (tx : ByteArray) (A : Option Addr) (c : Nat) (tm : List ByteArray) (ky : ByteArray) (lo hi : Int) (w : World) (hC : Kd.string.C w A tm.length tm) (hc : tm.length ≤ c) (hn : tm.length ≤ 1099511627776) :
  Calls Tryz.prog 42 #[.agg (nodeC 3 a b tx (.slice A tm.length c) ky lo hi)] w fun e w' => e = .returned (.bool (tokB tx && decide (a = 0 ∧ b = 0 ∧ tm = [] ∧ ky = ⟨#[]⟩ ∧ lo = 0 ∧ hi = 0))) ∧ Below w.heap.size w w' := by
 obtain ⟨r, hr⟩ : ∃ r, (tokB tx && decide (a = 0 ∧ b = 0 ∧ tm = [] ∧ ky = ⟨#[]⟩ ∧ lo = 0 ∧ hi = 0)) = r := ⟨_, rfl⟩
 rw [hr]
 have HS := Aside0.mk (fun (W : World) (hW : Below w.heap.size w W) k' a' b' tx' ky' lo' hi' => rsame_calls 3 a b tx A c tm ky lo hi k' a' b' tx' none 0 [] ky' lo' hi' W (Kd.C_below hC hW) hc hn (Kd.C_nil _ _) (Nat.le_refl _))
 obtain ⟨kb, hkb⟩ : ∃ kb, tokB tx = kb := ⟨_, rfl⟩
 have HK := Aside0.mk (fun W => is_calls tx W)
 rw [hkb] at hr HK
 clear hkb
 have HR := Aside0.mk hr
 clear hr hC hc hn
 have hX0 := blk_new (w.alloc (.cells (nodeC 3 a b tx (.slice A tm.length c) ky lo hi) 37)) (.cells #[.int .i64 3, .int .i64 0, .int .i64 0, .string tx, .slice none 0 0, .string ⟨#[]⟩, .int .i64 0, .int .i64 0] 37)
 rw [World.size_alloc] at hX0
 have HXB := Aside0.mk hX0
 have HNB := Aside0.mk (blk_alloc (blk_new w (.cells (nodeC 3 a b tx (.slice A tm.length c) ky lo hi) 37)) (.cells #[.int .i64 3, .int .i64 0, .int .i64 0, .string tx, .slice none 0 0, .string ⟨#[]⟩, .int .i64 0, .int .i64 0] 37))
 have HB1 := Aside0.mk (show Below w.heap.size w ((w.alloc (.cells (nodeC 3 a b tx (.slice A tm.length c) ky lo hi) 37)).alloc (.cells #[.int .i64 3, .int .i64 0, .int .i64 0, .string tx, .slice none 0 0, .string ⟨#[]⟩, .int .i64 0, .int .i64 0] 37)) from below_alloc (below_alloc (Below.refl _ _) _) _)
 clear hX0
 go_enter Tryz.func42, Tryz.ntmps42
 go_wp2_with fail
 refine (HK.out _).mono ?_
 rintro e w3 ⟨rfl, hb3⟩
 have HB3 := Aside0.mk (below_step HB1.out hb3)
 have hN := blk_below HNB.out hb3
 have hX := blk_below HXB.out hb3
 have mn0 : w3.cell? ⟨w.heap.size, 0, none⟩ = some (.int .i64 3) := (blk_cell hN 0).trans rfl
 have mn1 : w3.cell? ⟨w.heap.size, 1, none⟩ = some (.int .i64 a) := (blk_cell hN 1).trans rfl
 have mn2 : w3.cell? ⟨w.heap.size, 2, none⟩ = some (.int .i64 b) := (blk_cell hN 2).trans rfl
 have mn3 : w3.cell? ⟨w.heap.size, 3, none⟩ = some (.string tx) := (blk_cell hN 3).trans rfl
 have mn4 : w3.cell? ⟨w.heap.size, 4, none⟩ = some (.slice A tm.length c) := (blk_cell hN 4).trans rfl
 have mn5 : w3.cell? ⟨w.heap.size, 5, none⟩ = some (.string ky) := (blk_cell hN 5).trans rfl
 have mn6 : w3.cell? ⟨w.heap.size, 6, none⟩ = some (.int .i64 lo) := (blk_cell hN 6).trans rfl
 have mn7 : w3.cell? ⟨w.heap.size, 7, none⟩ = some (.int .i64 hi) := (blk_cell hN 7).trans rfl
 have mx0 : w3.cell? ⟨w.heap.size + 1, 0, none⟩ = some (.int .i64 3) := (blk_cell hX 0).trans rfl
 have mx1 : w3.cell? ⟨w.heap.size + 1, 1, none⟩ = some (.int .i64 0) := (blk_cell hX 1).trans rfl
 have mx2 : w3.cell? ⟨w.heap.size + 1, 2, none⟩ = some (.int .i64 0) := (blk_cell hX 2).trans rfl
 have mx3 : w3.cell? ⟨w.heap.size + 1, 3, none⟩ = some (.string tx) := (blk_cell hX 3).trans rfl
 have mx4 : w3.cell? ⟨w.heap.size + 1, 4, none⟩ = some (.slice none 0 0) := (blk_cell hX 4).trans rfl
 have mx5 : w3.cell? ⟨w.heap.size + 1, 5, none⟩ = some (.string ⟨#[]⟩) := (blk_cell hX 5).trans rfl
 have mx6 : w3.cell? ⟨w.heap.size + 1, 6, none⟩ = some (.int .i64 0) := (blk_cell hX 6).trans rfl
 have mx7 : w3.cell? ⟨w.heap.size + 1, 7, none⟩ = some (.int .i64 0) := (blk_cell hX 7).trans rfl
 clear hN hX
 clear hb3
 cases kb
 all_goals (go_wp2_with fail)
 ·go_ret
  refine ⟨congrArg (fun z => Ending.returned (Value.bool z)) ?_, HB3.out⟩
  rw [← HR.out]; rfl
 ·refine (HS.out w3 HB3.out _ _ _ _ _ _ _).mono ?_
  rintro e w4 ⟨rfl, hb⟩
  have HB4 := Aside0.mk (below_step HB3.out hb)
  clear hb
  go_wp2_with fail
  go_ret
  refine ⟨congrArg (fun z => Ending.returned (Value.bool z)) ?_, HB4.out⟩
  rw [← HR.out]
  simp
theorem rright_4 (a b : Int) (tx : ByteArray) (A : Option Addr) (c : Nat) (tm : List ByteArray) (ky : ByteArray) (lo hi : Int) (w : World) (hC : Kd.string.C w A tm.length tm) (hc : tm.length ≤ c) (hn : tm.length ≤ 1099511627776) :
  Calls Tryz.prog 42 #[.agg (nodeC 4 a b tx (.slice A tm.length c) ky lo hi)] w fun e w' => e = .returned (.bool (decide (0 < tm.length) && tm.all tokB && decide (a = 0 ∧ b = 0 ∧ tx = ⟨#[]⟩ ∧ ky = ⟨#[]⟩ ∧ lo = 0 ∧ hi = 0))) ∧ Below w.heap.size w w' := by
 obtain ⟨r, hr⟩ : ∃ r, (decide (0 < tm.length) && tm.all tokB && decide (a = 0 ∧ b = 0 ∧ tx = ⟨#[]⟩ ∧ ky = ⟨#[]⟩ ∧ lo = 0 ∧ hi = 0)) = r := ⟨_, rfl⟩
 rw [hr]
 have HS := Aside0.mk (fun (W : World) (hW : Below w.heap.size w W) k' a' b' tx' ky' lo' hi' => rsame_calls 4 a b tx A c tm ky lo hi k' a' b' tx' A c tm ky' lo' hi' W (Kd.C_below hC hW) hc hn (Kd.C_below hC hW) hc)
 have HR := Aside0.mk hr
 have HC := Aside0.mk hC
 clear hr hC
 have hX0 := blk_new (w.alloc (.cells (nodeC 4 a b tx (.slice A tm.length c) ky lo hi) 37)) (.cells #[.int .i64 4, .int .i64 0, .int .i64 0, .string ⟨#[]⟩, .slice A tm.length c, .string ⟨#[]⟩, .int .i64 0, .int .i64 0] 37)
 rw [World.size_alloc] at hX0
 have HXB := Aside0.mk hX0
 have HNB := Aside0.mk (blk_alloc (blk_new w (.cells (nodeC 4 a b tx (.slice A tm.length c) ky lo hi) 37)) (.cells #[.int .i64 4, .int .i64 0, .int .i64 0, .string ⟨#[]⟩, .slice A tm.length c, .string ⟨#[]⟩, .int .i64 0, .int .i64 0] 37))
 have HB1 := Aside0.mk (show Below w.heap.size w ((w.alloc (.cells (nodeC 4 a b tx (.slice A tm.length c) ky lo hi) 37)).alloc (.cells #[.int .i64 4, .int .i64 0, .int .i64 0, .string ⟨#[]⟩, .slice A tm.length c, .string ⟨#[]⟩, .int .i64 0, .int .i64 0] 37)) from below_alloc (below_alloc (Below.refl _ _) _) _)
 clear hX0
 by_cases h0 : 0 < tm.length
 ·have z0 : decide (0 < (tm.length : Int)) = true := decide_eq_true (by omega)
  have HZ := Aside0.mk h0
  clear h0
  go_enter Tryz.func42, Tryz.ntmps42
  go_wp2_with fail
  go_loopg [4, 5] tm.length (fun kq v4 v5 wr => ∃ (j : Nat), v5 = .int .i64 (j : Int) ∧ v4 = .bool (true && (tm.take j).all tokB) ∧ Aside0 (kq + j = tm.length) ∧ Aside0 (Below ((w.alloc (.cells (nodeC 4 a b tx (.slice A tm.length c) ky lo hi) 37)).alloc (.cells #[.int .i64 4, .int .i64 0, .int .i64 0, .string ⟨#[]⟩, .slice A tm.length c, .string ⟨#[]⟩, .int .i64 0, .int .i64 0] 37)).heap.size ((w.alloc (.cells (nodeC 4 a b tx (.slice A tm.length c) ky lo hi) 37)).alloc (.cells #[.int .i64 4, .int .i64 0, .int .i64 0, .string ⟨#[]⟩, .slice A tm.length c, .string ⟨#[]⟩, .int .i64 0, .int .i64 0] 37)) wr))
  case atStart => exact ⟨0, rfl, by simp; exact HZ.out, ⟨rfl⟩, ⟨Below.refl _ _⟩⟩
  case round =>
   obtain ⟨j, rfl, rfl, HJ, HBr⟩ := hrel
   have HB3 := Aside0.mk (below_step HB1.out HBr.out)
   have hN := blk_below HNB.out HBr.out
   have hX := blk_below HXB.out HBr.out
   have mn0 : wr.cell? ⟨w.heap.size, 0, none⟩ = some (.int .i64 4) := (blk_cell hN 0).trans rfl
   have mn1 : wr.cell? ⟨w.heap.size, 1, none⟩ = some (.int .i64 a) := (blk_cell hN 1).trans rfl
   have mn2 : wr.cell? ⟨w.heap.size, 2, none⟩ = some (.int .i64 b) := (blk_cell hN 2).trans rfl
   have mn3 : wr.cell? ⟨w.heap.size, 3, none⟩ = some (.string tx) := (blk_cell hN 3).trans rfl
   have mn4 : wr.cell? ⟨w.heap.size, 4, none⟩ = some (.slice A tm.length c) := (blk_cell hN 4).trans rfl
   have mn5 : wr.cell? ⟨w.heap.size, 5, none⟩ = some (.string ky) := (blk_cell hN 5).trans rfl
   have mn6 : wr.cell? ⟨w.heap.size, 6, none⟩ = some (.int .i64 lo) := (blk_cell hN 6).trans rfl
   have mn7 : wr.cell? ⟨w.heap.size, 7, none⟩ = some (.int .i64 hi) := (blk_cell hN 7).trans rfl
   have mx0 : wr.cell? ⟨w.heap.size + 1, 0, none⟩ = some (.int .i64 4) := (blk_cell hX 0).trans rfl
   have mx1 : wr.cell? ⟨w.heap.size + 1, 1, none⟩ = some (.int .i64 0) := (blk_cell hX 1).trans rfl
   have mx2 : wr.cell? ⟨w.heap.size + 1, 2, none⟩ = some (.int .i64 0) := (blk_cell hX 2).trans rfl
   have mx3 : wr.cell? ⟨w.heap.size + 1, 3, none⟩ = some (.string ⟨#[]⟩) := (blk_cell hX 3).trans rfl
   have mx4 : wr.cell? ⟨w.heap.size + 1, 4, none⟩ = some (.slice A tm.length c) := (blk_cell hX 4).trans rfl
   have mx5 : wr.cell? ⟨w.heap.size + 1, 5, none⟩ = some (.string ⟨#[]⟩) := (blk_cell hX 5).trans rfl
   have mx6 : wr.cell? ⟨w.heap.size + 1, 6, none⟩ = some (.int .i64 0) := (blk_cell hX 6).trans rfl
   have mx7 : wr.cell? ⟨w.heap.size + 1, 7, none⟩ = some (.int .i64 0) := (blk_cell hX 7).trans rfl
   clear hN hX
   by_cases hj : j < tm.length
   ·have d5 : decide ((j : Int) < (tm.length : Int)) = true := decide_eq_true (by omega)
    have d6 : decide (j < tm.length) = true := decide_eq_true hj
    have dj : 0 ≤ (j : Int) := by omega
    obtain ⟨ad2, hAe, c0⟩ := Kd.at_string (Kd.C_below HC.out HB3.out) (j : Int) (by omega) (by omega)
    subst hAe
    rw [Int.toNat_natCast] at c0
    have hst : rdOf ByteArray.empty tm (j : Int) = tm[j] := by simp [rdOf, List.getD_eq_getElem?_getD, hj]
    rw [hst] at c0
    have HTK := Aside0.mk (show tm.take (j + 1) = tm.take j ++ [tm[j]] from List.take_succ_eq_append_getElem hj)
    obtain ⟨sj, hsj⟩ : ∃ sj, tm[j] = sj := ⟨_, rfl⟩
    rw [hsj] at c0 HTK
    have HJ2 := Aside0.mk hj
    clear hst hsj
    obtain ⟨pb, hpb⟩ : ∃ pb, (true && (tm.take j).all tokB) = pb := ⟨_, rfl⟩
    rw [hpb]
    have HPB := Aside0.mk hpb
    obtain ⟨tb, htb⟩ : ∃ tb, tokB sj = tb := ⟨_, rfl⟩
    have HIS := Aside0.mk (fun W => is_calls sj W)
    rw [htb] at HIS
    have HTB := Aside0.mk htb
    clear hpb htb
    cases pb
    ·go_wp2_with fail
     try rw [show wrap64 ((j : Int) + 1) = ((j + 1 : Nat) : Int) by have := HJ2.out; unfold wrap64; omega]
     go_roundg (tm.length - j - 1)
     case measure => have := HJ.out; have := HJ2.out; omega
     case rel => exact ⟨j + 1, rfl, by rw [HTK.out, List.all_append, ← Bool.and_assoc, HPB.out]; rfl, ⟨by have := HJ.out; have := HJ2.out; omega⟩, HBr⟩
    ·go_wp2_with fail
     refine (HIS.out _).mono ?_
     rintro e w5 ⟨rfl, hb5⟩
     have HB5 := Aside0.mk (below_step HBr.out hb5)
     clear hb5
     go_wp2_with fail
     try rw [show wrap64 ((j : Int) + 1) = ((j + 1 : Nat) : Int) by have := HJ2.out; unfold wrap64; omega]
     go_roundg (tm.length - j - 1)
     case measure => have := HJ.out; have := HJ2.out; omega
     case rel => exact ⟨j + 1, rfl, by rw [HTK.out, List.all_append, ← Bool.and_assoc, HPB.out, List.all_cons, HTB.out]; simp, ⟨by have := HJ.out; have := HJ2.out; omega⟩, HB5⟩
   ·have d5 : decide ((j : Int) < (tm.length : Int)) = false := decide_eq_false (by omega)
    have hje : tm.take j = tm := List.take_of_length_le (by omega)
    rw [hje]
    obtain ⟨pb, hpb⟩ : ∃ pb, (true && tm.all tokB) = pb := ⟨_, rfl⟩
    rw [hpb]
    have HPB := Aside0.mk (show (decide (0 < tm.length) && tm.all tokB) = pb from by rw [← hpb]; congr 1; exact decide_eq_true HZ.out)
    clear hpb hje
    cases pb
    ·go_wp2_with fail
     go_ret
     refine ⟨congrArg (fun z => Ending.returned (Value.bool z)) ?_, HB3.out⟩
     rw [← HR.out, HPB.out]; rfl
    ·go_wp2_with fail
     refine (HS.out wr HB3.out _ _ _ _ _ _ _).mono ?_
     rintro e w6 ⟨rfl, hb⟩
     have HB6 := Aside0.mk (below_step HB3.out hb)
     clear hb
     go_wp2_with fail
     go_ret
     refine ⟨congrArg (fun z => Ending.returned (Value.bool z)) ?_, HB6.out⟩
     rw [← HR.out, HPB.out]
     simp
 ·have z0 : decide (0 < (tm.length : Int)) = false := decide_eq_false (by omega)
  have HZ := Aside0.mk h0
  clear h0
  go_enter Tryz.func42, Tryz.ntmps42
  go_wp2_with fail
  go_loopg [4, 5] tm.length (fun kq v4 v5 wr => ∃ (j : Nat), v5 = .int .i64 (j : Int) ∧ v4 = .bool (false && (tm.take j).all tokB) ∧ Aside0 (kq + j = tm.length) ∧ Aside0 (Below ((w.alloc (.cells (nodeC 4 a b tx (.slice A tm.length c) ky lo hi) 37)).alloc (.cells #[.int .i64 4, .int .i64 0, .int .i64 0, .string ⟨#[]⟩, .slice A tm.length c, .string ⟨#[]⟩, .int .i64 0, .int .i64 0] 37)).heap.size ((w.alloc (.cells (nodeC 4 a b tx (.slice A tm.length c) ky lo hi) 37)).alloc (.cells #[.int .i64 4, .int .i64 0, .int .i64 0, .string ⟨#[]⟩, .slice A tm.length c, .string ⟨#[]⟩, .int .i64 0, .int .i64 0] 37)) wr))
  case atStart => exact ⟨0, rfl, by have h_ := HZ.out; have h2_ : tm = [] := List.eq_nil_of_length_eq_zero (by omega); simp [h2_], ⟨rfl⟩, ⟨Below.refl _ _⟩⟩
  case round =>
   obtain ⟨j, rfl, rfl, HJ, HBr⟩ := hrel
   have HB3 := Aside0.mk (below_step HB1.out HBr.out)
   have hN := blk_below HNB.out HBr.out
   have hX := blk_below HXB.out HBr.out
   have mn0 : wr.cell? ⟨w.heap.size, 0, none⟩ = some (.int .i64 4) := (blk_cell hN 0).trans rfl
   have mn1 : wr.cell? ⟨w.heap.size, 1, none⟩ = some (.int .i64 a) := (blk_cell hN 1).trans rfl
   have mn2 : wr.cell? ⟨w.heap.size, 2, none⟩ = some (.int .i64 b) := (blk_cell hN 2).trans rfl
   have mn3 : wr.cell? ⟨w.heap.size, 3, none⟩ = some (.string tx) := (blk_cell hN 3).trans rfl
   have mn4 : wr.cell? ⟨w.heap.size, 4, none⟩ = some (.slice A tm.length c) := (blk_cell hN 4).trans rfl
   have mn5 : wr.cell? ⟨w.heap.size, 5, none⟩ = some (.string ky) := (blk_cell hN 5).trans rfl
   have mn6 : wr.cell? ⟨w.heap.size, 6, none⟩ = some (.int .i64 lo) := (blk_cell hN 6).trans rfl
   have mn7 : wr.cell? ⟨w.heap.size, 7, none⟩ = some (.int .i64 hi) := (blk_cell hN 7).trans rfl
   have mx0 : wr.cell? ⟨w.heap.size + 1, 0, none⟩ = some (.int .i64 4) := (blk_cell hX 0).trans rfl
   have mx1 : wr.cell? ⟨w.heap.size + 1, 1, none⟩ = some (.int .i64 0) := (blk_cell hX 1).trans rfl
   have mx2 : wr.cell? ⟨w.heap.size + 1, 2, none⟩ = some (.int .i64 0) := (blk_cell hX 2).trans rfl
   have mx3 : wr.cell? ⟨w.heap.size + 1, 3, none⟩ = some (.string ⟨#[]⟩) := (blk_cell hX 3).trans rfl
   have mx4 : wr.cell? ⟨w.heap.size + 1, 4, none⟩ = some (.slice A tm.length c) := (blk_cell hX 4).trans rfl
   have mx5 : wr.cell? ⟨w.heap.size + 1, 5, none⟩ = some (.string ⟨#[]⟩) := (blk_cell hX 5).trans rfl
   have mx6 : wr.cell? ⟨w.heap.size + 1, 6, none⟩ = some (.int .i64 0) := (blk_cell hX 6).trans rfl
   have mx7 : wr.cell? ⟨w.heap.size + 1, 7, none⟩ = some (.int .i64 0) := (blk_cell hX 7).trans rfl
   clear hN hX
   by_cases hj : j < tm.length
   ·have d5 : decide ((j : Int) < (tm.length : Int)) = true := decide_eq_true (by omega)
    have d6 : decide (j < tm.length) = true := decide_eq_true hj
    have dj : 0 ≤ (j : Int) := by omega
    obtain ⟨ad2, hAe, c0⟩ := Kd.at_string (Kd.C_below HC.out HB3.out) (j : Int) (by omega) (by omega)
    subst hAe
    rw [Int.toNat_natCast] at c0
    have hst : rdOf ByteArray.empty tm (j : Int) = tm[j] := by simp [rdOf, List.getD_eq_getElem?_getD, hj]
    rw [hst] at c0
    have HTK := Aside0.mk (show tm.take (j + 1) = tm.take j ++ [tm[j]] from List.take_succ_eq_append_getElem hj)
    obtain ⟨sj, hsj⟩ : ∃ sj, tm[j] = sj := ⟨_, rfl⟩
    rw [hsj] at c0 HTK
    have HJ2 := Aside0.mk hj
    clear hst hsj
    obtain ⟨pb, hpb⟩ : ∃ pb, (false && (tm.take j).all tokB) = pb := ⟨_, rfl⟩
    rw [hpb]
    have HPB := Aside0.mk hpb
    obtain ⟨tb, htb⟩ : ∃ tb, tokB sj = tb := ⟨_, rfl⟩
    have HIS := Aside0.mk (fun W => is_calls sj W)
    rw [htb] at HIS
    have HTB := Aside0.mk htb
    clear hpb htb
    cases pb
    ·go_wp2_with fail
     try rw [show wrap64 ((j : Int) + 1) = ((j + 1 : Nat) : Int) by have := HJ2.out; unfold wrap64; omega]
     go_roundg (tm.length - j - 1)
     case measure => have := HJ.out; have := HJ2.out; omega
     case rel => exact ⟨j + 1, rfl, by rw [HTK.out, List.all_append, ← Bool.and_assoc, HPB.out]; rfl, ⟨by have := HJ.out; have := HJ2.out; omega⟩, HBr⟩
    ·go_wp2_with fail
     refine (HIS.out _).mono ?_
     rintro e w5 ⟨rfl, hb5⟩
     have HB5 := Aside0.mk (below_step HBr.out hb5)
     clear hb5
     go_wp2_with fail
     try rw [show wrap64 ((j : Int) + 1) = ((j + 1 : Nat) : Int) by have := HJ2.out; unfold wrap64; omega]
     go_roundg (tm.length - j - 1)
     case measure => have := HJ.out; have := HJ2.out; omega
     case rel => exact ⟨j + 1, rfl, by rw [HTK.out, List.all_append, ← Bool.and_assoc, HPB.out, List.all_cons, HTB.out]; simp, ⟨by have := HJ.out; have := HJ2.out; omega⟩, HB5⟩
   ·have d5 : decide ((j : Int) < (tm.length : Int)) = false := decide_eq_false (by omega)
    have hje : tm.take j = tm := List.take_of_length_le (by omega)
    rw [hje]
    obtain ⟨pb, hpb⟩ : ∃ pb, (false && tm.all tokB) = pb := ⟨_, rfl⟩
    rw [hpb]
    have HPB := Aside0.mk (show (decide (0 < tm.length) && tm.all tokB) = pb from by rw [← hpb]; congr 1; exact decide_eq_false HZ.out)
    clear hpb hje
    cases pb
    ·go_wp2_with fail
     go_ret
     refine ⟨congrArg (fun z => Ending.returned (Value.bool z)) ?_, HB3.out⟩
     rw [← HR.out, HPB.out]; rfl
    ·go_wp2_with fail
     refine (HS.out wr HB3.out _ _ _ _ _ _ _).mono ?_
     rintro e w6 ⟨rfl, hb⟩
     have HB6 := Aside0.mk (below_step HB3.out hb)
     clear hb
     go_wp2_with fail
     go_ret
     refine ⟨congrArg (fun z => Ending.returned (Value.bool z)) ?_, HB6.out⟩
     rw [← HR.out, HPB.out]
     simp
theorem rright_5 (a b : Int) (tx : ByteArray) (A : Option Addr) (c : Nat) (tm : List ByteArray) (ky : ByteArray) (lo hi : Int) (w : World) (hC : Kd.string.C w A tm.length tm) (hc : tm.length ≤ c) (hn : tm.length ≤ 1099511627776) :
  Calls Tryz.prog 42 #[.agg (nodeC 5 a b tx (.slice A tm.length c) ky lo hi)] w fun e w' => e = .returned (.bool (decide (1 ≤ tx.size ∧ tx.size ≤ 64) && decide (a = 0 ∧ b = 0 ∧ tm = [] ∧ ky = ⟨#[]⟩ ∧ lo = 0 ∧ hi = 0))) ∧ Below w.heap.size w w' := by
 obtain ⟨r, hr⟩ : ∃ r, (decide (1 ≤ tx.size ∧ tx.size ≤ 64) && decide (a = 0 ∧ b = 0 ∧ tm = [] ∧ ky = ⟨#[]⟩ ∧ lo = 0 ∧ hi = 0)) = r := ⟨_, rfl⟩
 rw [hr]
 have HS := Aside0.mk (fun (W : World) (hW : Below w.heap.size w W) k' a' b' tx' ky' lo' hi' => rsame_calls 5 a b tx A c tm ky lo hi k' a' b' tx' none 0 [] ky' lo' hi' W (Kd.C_below hC hW) hc hn (Kd.C_nil _ _) (Nat.le_refl _))
 have HR := Aside0.mk hr
 clear hr hC hc hn
 by_cases h1 : 1 ≤ tx.size
 ·have s0 : decide (1 ≤ (tx.size : Int)) = true := decide_eq_true (by omega)
  by_cases hs : tx.size ≤ 64
  ·have s1 : decide ((tx.size : Int) ≤ 64) = true := decide_eq_true (by omega)
   go_enter Tryz.func42, Tryz.ntmps42
   go_wp2_with fail
   all_goals (try go_wp2_with (go_at_call 48; refine (HS.out _ bel6 _ _ _ _ _ _ _).mono ?_; rintro e w2 ⟨rfl, hb⟩; have HB := Aside0.mk hb; clear hb))
   all_goals go_ret
   all_goals first | refine ⟨?_, below_step bel6 HB.out⟩ | refine ⟨?_, bel6⟩
   all_goals first | refine eB (show true = r from ?_) | refine eB (show false = r from ?_) | refine eB (show decide _ = r from ?_) | refine eB (show (_ && _) = r from ?_)
   all_goals (rw [← HR.out]; clear HR HS; (try clear HK); (try clear HB); go_light; (try simp only [bytes_nil] at *))
   all_goals grind
  ·have s1 : decide ((tx.size : Int) ≤ 64) = false := decide_eq_false (by omega)
   go_enter Tryz.func42, Tryz.ntmps42
   go_wp2_with fail
   all_goals (try go_wp2_with (go_at_call 48; refine (HS.out _ bel6 _ _ _ _ _ _ _).mono ?_; rintro e w2 ⟨rfl, hb⟩; have HB := Aside0.mk hb; clear hb))
   all_goals go_ret
   all_goals first | refine ⟨?_, below_step bel6 HB.out⟩ | refine ⟨?_, bel6⟩
   all_goals first | refine eB (show true = r from ?_) | refine eB (show false = r from ?_) | refine eB (show decide _ = r from ?_) | refine eB (show (_ && _) = r from ?_)
   all_goals (rw [← HR.out]; clear HR HS; (try clear HK); (try clear HB); go_light; (try simp only [bytes_nil] at *))
   all_goals grind
 ·have s0 : decide (1 ≤ (tx.size : Int)) = false := decide_eq_false (by omega)
  go_enter Tryz.func42, Tryz.ntmps42
  go_wp2_with fail
  all_goals (try go_wp2_with (go_at_call 48; refine (HS.out _ bel6 _ _ _ _ _ _ _).mono ?_; rintro e w2 ⟨rfl, hb⟩; have HB := Aside0.mk hb; clear hb))
  all_goals go_ret
  all_goals first | refine ⟨?_, below_step bel6 HB.out⟩ | refine ⟨?_, bel6⟩
  all_goals first | refine eB (show true = r from ?_) | refine eB (show false = r from ?_) | refine eB (show decide _ = r from ?_) | refine eB (show (_ && _) = r from ?_)
  all_goals (rw [← HR.out]; clear HR HS; (try clear HK); (try clear HB); go_light; (try simp only [bytes_nil] at *))
  all_goals grind
theorem rright_6 (a b : Int) (tx : ByteArray) (A : Option Addr) (c : Nat) (tm : List ByteArray) (ky : ByteArray) (lo hi : Int) (w : World) (hC : Kd.string.C w A tm.length tm) (hc : tm.length ≤ c) (hn : tm.length ≤ 1099511627776) (hk : ky.size ≤ 9223372036854775807) :
  Calls Tryz.prog 42 #[.agg (nodeC 6 a b tx (.slice A tm.length c) ky lo hi)] w fun e w' => e = .returned (.bool (Pure.keyB ky && decide (tx.size ≤ 64) && decide (a = 0 ∧ b = 0 ∧ tm = [] ∧ lo = 0 ∧ hi = 0))) ∧ Below w.heap.size w w' := by
 obtain ⟨r, hr⟩ : ∃ r, (Pure.keyB ky && decide (tx.size ≤ 64) && decide (a = 0 ∧ b = 0 ∧ tm = [] ∧ lo = 0 ∧ hi = 0)) = r := ⟨_, rfl⟩
 rw [hr]
 have HS := Aside0.mk (fun (W : World) (hW : Below w.heap.size w W) k' a' b' tx' ky' lo' hi' => rsame_calls 6 a b tx A c tm ky lo hi k' a' b' tx' none 0 [] ky' lo' hi' W (Kd.C_below hC hW) hc hn (Kd.C_nil _ _) (Nat.le_refl _))
 obtain ⟨kb, hkb⟩ : ∃ kb, Pure.keyB ky = kb := ⟨_, rfl⟩
 obtain ⟨kk, hkk⟩ := Pure.refKey_ev ky hk
 have HK := Aside0.mk (fun W => dragnetref08_IsKey.calls kk ky _ W (hkk kk (Nat.le_refl _)))
 rw [hkb] at hr HK
 clear hkb hkk
 have HR := Aside0.mk hr
 clear hr hC hc hn
 by_cases hs : tx.size ≤ 64
 ·have s1 : decide ((tx.size : Int) ≤ 64) = true := decide_eq_true (by omega)
  cases kb
  all_goals (
   go_enter Tryz.func42, Tryz.ntmps42
   go_wp2_with fail
   go_region
   all_goals (go_wp2_with fail)
   all_goals (refine (HK.out _).mono ?_; rintro e w1 ⟨rfl, ⟨⟨n1, rfl⟩⟩⟩)
   all_goals (try go_wp2_with fail)
   all_goals (try go_wp2_with (go_at_call 48; refine (HS.out _ bel6 _ _ _ _ _ _ _).mono ?_; rintro e w2 ⟨rfl, hb⟩; have HB := Aside0.mk hb; clear hb))
   all_goals go_ret
   all_goals first | refine ⟨?_, below_step bel6 HB.out⟩ | refine ⟨?_, bel6⟩
   all_goals first | refine eB (show true = r from ?_) | refine eB (show false = r from ?_) | refine eB (show decide _ = r from ?_) | refine eB (show (_ && _) = r from ?_)
   all_goals (rw [← HR.out]; clear HR HS; (try clear HK); (try clear HB); go_light; (try simp only [bytes_nil] at *))
   all_goals grind
  )
 ·have s1 : decide ((tx.size : Int) ≤ 64) = false := decide_eq_false (by omega)
  cases kb
  all_goals (
   go_enter Tryz.func42, Tryz.ntmps42
   go_wp2_with fail
   go_region
   all_goals (go_wp2_with fail)
   all_goals (refine (HK.out _).mono ?_; rintro e w1 ⟨rfl, ⟨⟨n1, rfl⟩⟩⟩)
   all_goals (try go_wp2_with fail)
   all_goals (try go_wp2_with (go_at_call 48; refine (HS.out _ bel6 _ _ _ _ _ _ _).mono ?_; rintro e w2 ⟨rfl, hb⟩; have HB := Aside0.mk hb; clear hb))
   all_goals go_ret
   all_goals first | refine ⟨?_, below_step bel6 HB.out⟩ | refine ⟨?_, bel6⟩
   all_goals first | refine eB (show true = r from ?_) | refine eB (show false = r from ?_) | refine eB (show decide _ = r from ?_) | refine eB (show (_ && _) = r from ?_)
   all_goals (rw [← HR.out]; clear HR HS; (try clear HK); (try clear HB); go_light; (try simp only [bytes_nil] at *))
   all_goals grind
  )
theorem rright_7 (a b : Int) (tx : ByteArray) (A : Option Addr) (c : Nat) (tm : List ByteArray) (ky : ByteArray) (lo hi : Int) (w : World) (hC : Kd.string.C w A tm.length tm) (hc : tm.length ≤ c) (hn : tm.length ≤ 1099511627776) (hk : ky.size ≤ 9223372036854775807) :
  Calls Tryz.prog 42 #[.agg (nodeC 7 a b tx (.slice A tm.length c) ky lo hi)] w fun e w' => e = .returned (.bool (Pure.keyB ky && decide (a = 0 ∧ b = 0 ∧ tx = ⟨#[]⟩ ∧ tm = [] ∧ hi = 0))) ∧ Below w.heap.size w w' := by
 obtain ⟨r, hr⟩ : ∃ r, (Pure.keyB ky && decide (a = 0 ∧ b = 0 ∧ tx = ⟨#[]⟩ ∧ tm = [] ∧ hi = 0)) = r := ⟨_, rfl⟩
 rw [hr]
 have HS := Aside0.mk (fun (W : World) (hW : Below w.heap.size w W) k' a' b' tx' ky' lo' hi' => rsame_calls 7 a b tx A c tm ky lo hi k' a' b' tx' none 0 [] ky' lo' hi' W (Kd.C_below hC hW) hc hn (Kd.C_nil _ _) (Nat.le_refl _))
 obtain ⟨kb, hkb⟩ : ∃ kb, Pure.keyB ky = kb := ⟨_, rfl⟩
 obtain ⟨kk, hkk⟩ := Pure.refKey_ev ky hk
 have HK := Aside0.mk (fun W => dragnetref08_IsKey.calls kk ky _ W (hkk kk (Nat.le_refl _)))
 rw [hkb] at hr HK
 clear hkb hkk
 have HR := Aside0.mk hr
 clear hr hC hc hn
 cases kb
 all_goals (
  go_enter Tryz.func42, Tryz.ntmps42
  go_wp2_with fail
  go_region
  all_goals (go_wp2_with fail)
  all_goals (refine (HK.out _).mono ?_; rintro e w1 ⟨rfl, ⟨⟨n1, rfl⟩⟩⟩)
  all_goals (try go_wp2_with fail)
  all_goals (try go_wp2_with (go_at_call 48; refine (HS.out _ bel6 _ _ _ _ _ _ _).mono ?_; rintro e w2 ⟨rfl, hb⟩; have HB := Aside0.mk hb; clear hb))
  all_goals go_ret
  all_goals first | refine ⟨?_, below_step bel6 HB.out⟩ | refine ⟨?_, bel6⟩
  all_goals first | refine eB (show true = r from ?_) | refine eB (show false = r from ?_) | refine eB (show decide _ = r from ?_) | refine eB (show (_ && _) = r from ?_)
  all_goals (rw [← HR.out]; clear HR HS; (try clear HK); (try clear HB); go_light; (try simp only [bytes_nil] at *))
  all_goals grind
 )
theorem rright_8 (a b : Int) (tx : ByteArray) (A : Option Addr) (c : Nat) (tm : List ByteArray) (ky : ByteArray) (lo hi : Int) (w : World) (hC : Kd.string.C w A tm.length tm) (hc : tm.length ≤ c) (hn : tm.length ≤ 1099511627776) (hk : ky.size ≤ 9223372036854775807) :
  Calls Tryz.prog 42 #[.agg (nodeC 8 a b tx (.slice A tm.length c) ky lo hi)] w fun e w' => e = .returned (.bool (Pure.keyB ky && decide (a = 0 ∧ b = 0 ∧ tx = ⟨#[]⟩ ∧ tm = [] ∧ hi = 0))) ∧ Below w.heap.size w w' := by
 obtain ⟨r, hr⟩ : ∃ r, (Pure.keyB ky && decide (a = 0 ∧ b = 0 ∧ tx = ⟨#[]⟩ ∧ tm = [] ∧ hi = 0)) = r := ⟨_, rfl⟩
 rw [hr]
 have HS := Aside0.mk (fun (W : World) (hW : Below w.heap.size w W) k' a' b' tx' ky' lo' hi' => rsame_calls 8 a b tx A c tm ky lo hi k' a' b' tx' none 0 [] ky' lo' hi' W (Kd.C_below hC hW) hc hn (Kd.C_nil _ _) (Nat.le_refl _))
 obtain ⟨kb, hkb⟩ : ∃ kb, Pure.keyB ky = kb := ⟨_, rfl⟩
 obtain ⟨kk, hkk⟩ := Pure.refKey_ev ky hk
 have HK := Aside0.mk (fun W => dragnetref08_IsKey.calls kk ky _ W (hkk kk (Nat.le_refl _)))
 rw [hkb] at hr HK
 clear hkb hkk
 have HR := Aside0.mk hr
 clear hr hC hc hn
 cases kb
 all_goals (
  go_enter Tryz.func42, Tryz.ntmps42
  go_wp2_with fail
  go_region
  all_goals (go_wp2_with fail)
  all_goals (refine (HK.out _).mono ?_; rintro e w1 ⟨rfl, ⟨⟨n1, rfl⟩⟩⟩)
  all_goals (try go_wp2_with fail)
  all_goals (try go_wp2_with (go_at_call 48; refine (HS.out _ bel6 _ _ _ _ _ _ _).mono ?_; rintro e w2 ⟨rfl, hb⟩; have HB := Aside0.mk hb; clear hb))
  all_goals go_ret
  all_goals first | refine ⟨?_, below_step bel6 HB.out⟩ | refine ⟨?_, bel6⟩
  all_goals first | refine eB (show true = r from ?_) | refine eB (show false = r from ?_) | refine eB (show decide _ = r from ?_) | refine eB (show (_ && _) = r from ?_)
  all_goals (rw [← HR.out]; clear HR HS; (try clear HK); (try clear HB); go_light; (try simp only [bytes_nil] at *))
  all_goals grind
 )
theorem rright_9 (a b : Int) (tx : ByteArray) (A : Option Addr) (c : Nat) (tm : List ByteArray) (ky : ByteArray) (lo hi : Int) (w : World) (hC : Kd.string.C w A tm.length tm) (hc : tm.length ≤ c) (hn : tm.length ≤ 1099511627776) :
  Calls Tryz.prog 42 #[.agg (nodeC 9 a b tx (.slice A tm.length c) ky lo hi)] w fun e w' => e = .returned (.bool (decide (a = 0 ∧ b = 0 ∧ tx = ⟨#[]⟩ ∧ tm = [] ∧ ky = ⟨#[]⟩))) ∧ Below w.heap.size w w' := by
 obtain ⟨r, hr⟩ : ∃ r, (decide (a = 0 ∧ b = 0 ∧ tx = ⟨#[]⟩ ∧ tm = [] ∧ ky = ⟨#[]⟩)) = r := ⟨_, rfl⟩
 rw [hr]
 have HS := Aside0.mk (fun (W : World) (hW : Below w.heap.size w W) k' a' b' tx' ky' lo' hi' => rsame_calls 9 a b tx A c tm ky lo hi k' a' b' tx' none 0 [] ky' lo' hi' W (Kd.C_below hC hW) hc hn (Kd.C_nil _ _) (Nat.le_refl _))
 have HR := Aside0.mk hr
 clear hr hC hc hn
 go_enter Tryz.func42, Tryz.ntmps42
 go_wp2_with fail
 go_region
 all_goals (try go_wp2_with fail)
 all_goals (try go_wp2_with (go_at_call 48; refine (HS.out _ bel6 _ _ _ _ _ _ _).mono ?_; rintro e w2 ⟨rfl, hb⟩; have HB := Aside0.mk hb; clear hb))
 all_goals go_ret
 all_goals first | refine ⟨?_, below_step bel6 HB.out⟩ | refine ⟨?_, bel6⟩
 all_goals first | refine eB (show true = r from ?_) | refine eB (show false = r from ?_) | refine eB (show decide _ = r from ?_) | refine eB (show (_ && _) = r from ?_)
 all_goals (rw [← HR.out]; clear HR HS; (try clear HK); (try clear HB); go_light; (try simp only [bytes_nil] at *))
 all_goals grind
theorem rright_10 (a b : Int) (tx : ByteArray) (A : Option Addr) (c : Nat) (tm : List ByteArray) (ky : ByteArray) (lo hi : Int) (w : World) (hC : Kd.string.C w A tm.length tm) (hc : tm.length ≤ c) (hn : tm.length ≤ 1099511627776) :
  Calls Tryz.prog 42 #[.agg (nodeC 10 a b tx (.slice A tm.length c) ky lo hi)] w fun e w' => e = .returned (.bool (decide (a ≠ b) && decide (tx = ⟨#[]⟩ ∧ tm = [] ∧ ky = ⟨#[]⟩ ∧ lo = 0 ∧ hi = 0))) ∧ Below w.heap.size w w' := by
 obtain ⟨r, hr⟩ : ∃ r, (decide (a ≠ b) && decide (tx = ⟨#[]⟩ ∧ tm = [] ∧ ky = ⟨#[]⟩ ∧ lo = 0 ∧ hi = 0)) = r := ⟨_, rfl⟩
 rw [hr]
 have HS := Aside0.mk (fun (W : World) (hW : Below w.heap.size w W) k' a' b' tx' ky' lo' hi' => rsame_calls 10 a b tx A c tm ky lo hi k' a' b' tx' none 0 [] ky' lo' hi' W (Kd.C_below hC hW) hc hn (Kd.C_nil _ _) (Nat.le_refl _))
 have HR := Aside0.mk hr
 clear hr hC hc hn
 by_cases hab : a = b
 ·have e1 : (a == b) = true := beq_iff_eq.2 hab
  have e2 : (a != b) = false := by rw [bne, e1]; rfl
  go_enter Tryz.func42, Tryz.ntmps42
  go_wp2_with fail
  go_region
  all_goals (try go_wp2_with fail)
  all_goals (try go_wp2_with (go_at_call 48; refine (HS.out _ bel6 _ _ _ _ _ _ _).mono ?_; rintro e w2 ⟨rfl, hb⟩; have HB := Aside0.mk hb; clear hb))
  all_goals go_ret
  all_goals first | refine ⟨?_, below_step bel6 HB.out⟩ | refine ⟨?_, bel6⟩
  all_goals first | refine eB (show true = r from ?_) | refine eB (show false = r from ?_) | refine eB (show decide _ = r from ?_) | refine eB (show (_ && _) = r from ?_)
  all_goals (rw [← HR.out]; clear HR HS; (try clear HK); (try clear HB); go_light; (try simp only [bytes_nil] at *))
  all_goals grind
 ·have e1 : (a == b) = false := beq_eq_false_iff_ne.2 hab
  have e2 : (a != b) = true := by rw [bne, e1]; rfl
  go_enter Tryz.func42, Tryz.ntmps42
  go_wp2_with fail
  go_region
  all_goals (try go_wp2_with fail)
  all_goals (try go_wp2_with (go_at_call 48; refine (HS.out _ bel6 _ _ _ _ _ _ _).mono ?_; rintro e w2 ⟨rfl, hb⟩; have HB := Aside0.mk hb; clear hb))
  all_goals go_ret
  all_goals first | refine ⟨?_, below_step bel6 HB.out⟩ | refine ⟨?_, bel6⟩
  all_goals first | refine eB (show true = r from ?_) | refine eB (show false = r from ?_) | refine eB (show decide _ = r from ?_) | refine eB (show (_ && _) = r from ?_)
  all_goals (rw [← HR.out]; clear HR HS; (try clear HK); (try clear HB); go_light; (try simp only [bytes_nil] at *))
  all_goals grind
theorem rright_11 (a b : Int) (tx : ByteArray) (A : Option Addr) (c : Nat) (tm : List ByteArray) (ky : ByteArray) (lo hi : Int) (w : World) (hC : Kd.string.C w A tm.length tm) (hc : tm.length ≤ c) (hn : tm.length ≤ 1099511627776) :
  Calls Tryz.prog 42 #[.agg (nodeC 11 a b tx (.slice A tm.length c) ky lo hi)] w fun e w' => e = .returned (.bool (decide (a ≠ b) && decide (tx = ⟨#[]⟩ ∧ tm = [] ∧ ky = ⟨#[]⟩ ∧ lo = 0 ∧ hi = 0))) ∧ Below w.heap.size w w' := by
 obtain ⟨r, hr⟩ : ∃ r, (decide (a ≠ b) && decide (tx = ⟨#[]⟩ ∧ tm = [] ∧ ky = ⟨#[]⟩ ∧ lo = 0 ∧ hi = 0)) = r := ⟨_, rfl⟩
 rw [hr]
 have HS := Aside0.mk (fun (W : World) (hW : Below w.heap.size w W) k' a' b' tx' ky' lo' hi' => rsame_calls 11 a b tx A c tm ky lo hi k' a' b' tx' none 0 [] ky' lo' hi' W (Kd.C_below hC hW) hc hn (Kd.C_nil _ _) (Nat.le_refl _))
 have HR := Aside0.mk hr
 clear hr hC hc hn
 by_cases hab : a = b
 ·have e1 : (a == b) = true := beq_iff_eq.2 hab
  have e2 : (a != b) = false := by rw [bne, e1]; rfl
  go_enter Tryz.func42, Tryz.ntmps42
  go_wp2_with fail
  go_region
  all_goals (try go_wp2_with fail)
  all_goals (try go_wp2_with (go_at_call 48; refine (HS.out _ bel6 _ _ _ _ _ _ _).mono ?_; rintro e w2 ⟨rfl, hb⟩; have HB := Aside0.mk hb; clear hb))
  all_goals go_ret
  all_goals first | refine ⟨?_, below_step bel6 HB.out⟩ | refine ⟨?_, bel6⟩
  all_goals first | refine eB (show true = r from ?_) | refine eB (show false = r from ?_) | refine eB (show decide _ = r from ?_) | refine eB (show (_ && _) = r from ?_)
  all_goals (rw [← HR.out]; clear HR HS; (try clear HK); (try clear HB); go_light; (try simp only [bytes_nil] at *))
  all_goals grind
 ·have e1 : (a == b) = false := beq_eq_false_iff_ne.2 hab
  have e2 : (a != b) = true := by rw [bne, e1]; rfl
  go_enter Tryz.func42, Tryz.ntmps42
  go_wp2_with fail
  go_region
  all_goals (try go_wp2_with fail)
  all_goals (try go_wp2_with (go_at_call 48; refine (HS.out _ bel6 _ _ _ _ _ _ _).mono ?_; rintro e w2 ⟨rfl, hb⟩; have HB := Aside0.mk hb; clear hb))
  all_goals go_ret
  all_goals first | refine ⟨?_, below_step bel6 HB.out⟩ | refine ⟨?_, bel6⟩
  all_goals first | refine eB (show true = r from ?_) | refine eB (show false = r from ?_) | refine eB (show decide _ = r from ?_) | refine eB (show (_ && _) = r from ?_)
  all_goals (rw [← HR.out]; clear HR HS; (try clear HK); (try clear HB); go_light; (try simp only [bytes_nil] at *))
  all_goals grind
theorem rright_12 (a b : Int) (tx : ByteArray) (A : Option Addr) (c : Nat) (tm : List ByteArray) (ky : ByteArray) (lo hi : Int) (w : World) (hC : Kd.string.C w A tm.length tm) (hc : tm.length ≤ c) (hn : tm.length ≤ 1099511627776) :
  Calls Tryz.prog 42 #[.agg (nodeC 12 a b tx (.slice A tm.length c) ky lo hi)] w fun e w' => e = .returned (.bool (decide (b = 0 ∧ tx = ⟨#[]⟩ ∧ tm = [] ∧ ky = ⟨#[]⟩ ∧ lo = 0 ∧ hi = 0))) ∧ Below w.heap.size w w' := by
 obtain ⟨r, hr⟩ : ∃ r, (decide (b = 0 ∧ tx = ⟨#[]⟩ ∧ tm = [] ∧ ky = ⟨#[]⟩ ∧ lo = 0 ∧ hi = 0)) = r := ⟨_, rfl⟩
 rw [hr]
 have HS := Aside0.mk (fun (W : World) (hW : Below w.heap.size w W) k' a' b' tx' ky' lo' hi' => rsame_calls 12 a b tx A c tm ky lo hi k' a' b' tx' none 0 [] ky' lo' hi' W (Kd.C_below hC hW) hc hn (Kd.C_nil _ _) (Nat.le_refl _))
 have HR := Aside0.mk hr
 clear hr hC hc hn
 go_enter Tryz.func42, Tryz.ntmps42
 go_wp2_with fail
 all_goals (try go_wp2_with (go_at_call 48; refine (HS.out _ bel6 _ _ _ _ _ _ _).mono ?_; rintro e w2 ⟨rfl, hb⟩; have HB := Aside0.mk hb; clear hb))
 all_goals go_ret
 all_goals first | refine ⟨?_, below_step bel6 HB.out⟩ | refine ⟨?_, bel6⟩
 all_goals first | refine eB (show true = r from ?_) | refine eB (show false = r from ?_) | refine eB (show decide _ = r from ?_) | refine eB (show (_ && _) = r from ?_)
 all_goals (rw [← HR.out]; clear HR HS; (try clear HK); (try clear HB); go_light; (try simp only [bytes_nil] at *))
 all_goals grind
theorem rright_calls (n : ND) (W : World) (A : Option Addr) (c : Nat) (hC : Kd.string.C W A n.f4.length n.f4) (hc : n.f4.length ≤ c) (hn : n.f4.length ≤ 1099511627776) (hk : n.f5.size ≤ 9223372036854775807) :
  Calls Tryz.prog 42 #[.agg #[.int .i64 n.f0, .int .i64 n.f1, .int .i64 n.f2, .string n.f3, .slice A n.f4.length c, .string n.f5, .int .i64 n.f6, .int .i64 n.f7]] W fun e w' => e = .returned (.bool (rightN n)) ∧ Below W.heap.size W w' := by
 obtain ⟨k, a, b, tx, tm, ky, lo, hi⟩ := n
 show Calls _ _ _ _ (fun e w' => e = .returned (.bool (rightB k a b tx tm ky lo hi)) ∧ _)
 dsimp only at *
 unfold rightB
 by_cases h1 : k = 1
 ·rw [if_pos h1]; subst h1; exact rright_1 a b tx A c tm ky lo hi W hC hc hn
 rw [if_neg h1]
 by_cases h2 : k = 2
 ·rw [if_pos (.inl h2)]; subst h2; exact rright_2 a b tx A c tm ky lo hi W hC hc hn
 by_cases h3 : k = 3
 ·rw [if_pos (.inr h3)]; subst h3; exact rright_3 a b tx A c tm ky lo hi W hC hc hn
 rw [if_neg (by omega)]
 by_cases h4 : k = 4
 ·rw [if_pos h4]; subst h4; exact rright_4 a b tx A c tm ky lo hi W hC hc hn
 rw [if_neg h4]
 by_cases h5 : k = 5
 ·rw [if_pos h5]; subst h5; exact rright_5 a b tx A c tm ky lo hi W hC hc hn
 rw [if_neg h5]
 by_cases h6 : k = 6
 ·rw [if_pos h6]; subst h6; exact rright_6 a b tx A c tm ky lo hi W hC hc hn hk
 rw [if_neg h6]
 by_cases h7 : k = 7
 ·rw [if_pos (.inl h7)]; subst h7; exact rright_7 a b tx A c tm ky lo hi W hC hc hn hk
 by_cases h8 : k = 8
 ·rw [if_pos (.inr h8)]; subst h8; exact rright_8 a b tx A c tm ky lo hi W hC hc hn hk
 rw [if_neg (by omega)]
 by_cases h9 : k = 9
 ·rw [if_pos h9]; subst h9; exact rright_9 a b tx A c tm ky lo hi W hC hc hn
 rw [if_neg h9]
 by_cases h10 : k = 10
 ·rw [if_pos (.inl h10)]; subst h10; exact rright_10 a b tx A c tm ky lo hi W hC hc hn
 by_cases h11 : k = 11
 ·rw [if_pos (.inr h11)]; subst h11; exact rright_11 a b tx A c tm ky lo hi W hC hc hn
 rw [if_neg (by omega)]
 by_cases h12 : k = 12
 ·rw [if_pos h12]; subst h12; exact rright_12 a b tx A c tm ky lo hi W hC hc hn
 rw [if_neg h12]
 exact rright_0 k a b tx _ ⟨_, _, _, rfl⟩ ky lo hi W h1 h2 h3 h4 h5 h6 h7 h8 h9 h10 h11 h12
end Go.Proofs.YtehaodbheifokaaGreatDoor.P
end
