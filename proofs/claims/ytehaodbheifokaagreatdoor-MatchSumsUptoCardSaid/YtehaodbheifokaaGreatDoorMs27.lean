/- Joined by wip/tools/pack.py, pruned: RightC20. -/
import Derived.Test.YtehaodbheifokaaGreatDoorMs26
set_option maxHeartbeats 8000000
set_option maxRecDepth 100000
set_option linter.unusedVariables false
set_option linter.unusedSimpArgs false
section
namespace Go.Proofs.YtehaodbheifokaaGreatDoor.P
open Go Go.RowKit Go.Proofs.YtehaodbheifokaaGreatDoorW.PrintWords Go.Proofs.YtehaodbheifokaaGreatDoorW.PrintLast Go.Proofs.YtehaodbheifokaaGreatDoorW.PrintMore
attribute [local go_sem] max2_int min2_int max_two min_two
theorem right_1 (a b : Int) (tx : ByteArray) (A : Option Addr) (c : Nat) (tm : List ByteArray) (ky : ByteArray) (lo hi : Int) (w : World) (hC : Kd.string.C w A tm.length tm) (hc : tm.length ≤ c) (hn : tm.length ≤ 1099511627776) :
  Calls Tryz.prog 61 #[.agg (nodeC 1 a b tx (.slice A tm.length c) ky lo hi)] w fun e w' => e = .returned (.bool (decide (a = 0 ∧ b = 0 ∧ tx = ⟨#[]⟩ ∧ tm = [] ∧ ky = ⟨#[]⟩ ∧ lo = 0 ∧ hi = 0))) ∧ Below w.heap.size w w' := by
 obtain ⟨r, hr⟩ : ∃ r, (decide (a = 0 ∧ b = 0 ∧ tx = ⟨#[]⟩ ∧ tm = [] ∧ ky = ⟨#[]⟩ ∧ lo = 0 ∧ hi = 0)) = r := ⟨_, rfl⟩
 rw [hr]
 have HS := Aside0.mk (fun (W : World) (hW : Below w.heap.size w W) k' a' b' tx' ky' lo' hi' => same_calls 1 a b tx A c tm ky lo hi k' a' b' tx' none 0 [] ky' lo' hi' W (Kd.C_below hC hW) hc hn (Kd.C_nil _ _) (Nat.le_refl _))
 have HR := Aside0.mk hr
 clear hr hC hc hn
 go_enter Tryz.func61, Tryz.ntmps61
 go_wp2_with fail
 all_goals (try go_wp2_with (go_at_call 84; refine (HS.out _ bel6 _ _ _ _ _ _ _).mono ?_; rintro e w2 ⟨rfl, hb⟩; have HB := Aside0.mk hb; clear hb))
 all_goals go_ret
 all_goals first | refine ⟨?_, below_step bel6 HB.out⟩ | refine ⟨?_, bel6⟩
 all_goals first | refine eB (show true = r from ?_) | refine eB (show false = r from ?_) | refine eB (show decide _ = r from ?_) | refine eB (show (_ && _) = r from ?_)
 all_goals (rw [← HR.out]; clear HR HS; (try clear HK); (try clear HB); go_light; (try simp only [bytes_nil] at *))
 all_goals grind
theorem right_7 (a b : Int) (tx : ByteArray) (A : Option Addr) (c : Nat) (tm : List ByteArray) (ky : ByteArray) (lo hi : Int) (w : World) (hC : Kd.string.C w A tm.length tm) (hc : tm.length ≤ c) (hn : tm.length ≤ 1099511627776) (hk : ky.size ≤ 9223372036854775807) :
  Calls Tryz.prog 61 #[.agg (nodeC 7 a b tx (.slice A tm.length c) ky lo hi)] w fun e w' => e = .returned (.bool (Pure.keyB ky && decide (a = 0 ∧ b = 0 ∧ tx = ⟨#[]⟩ ∧ tm = [] ∧ hi = 0))) ∧ Below w.heap.size w w' := by
 obtain ⟨r, hr⟩ : ∃ r, (Pure.keyB ky && decide (a = 0 ∧ b = 0 ∧ tx = ⟨#[]⟩ ∧ tm = [] ∧ hi = 0)) = r := ⟨_, rfl⟩
 rw [hr]
 have HS := Aside0.mk (fun (W : World) (hW : Below w.heap.size w W) k' a' b' tx' ky' lo' hi' => same_calls 7 a b tx A c tm ky lo hi k' a' b' tx' none 0 [] ky' lo' hi' W (Kd.C_below hC hW) hc hn (Kd.C_nil _ _) (Nat.le_refl _))
 obtain ⟨kb, hkb⟩ : ∃ kb, Pure.keyB ky = kb := ⟨_, rfl⟩
 have HK := Aside0.mk (fun W => isKey_calls ky W hk)
 rw [hkb] at hr HK
 clear hkb
 have HR := Aside0.mk hr
 clear hr hC hc hn
 cases kb
 all_goals (
  go_enter Tryz.func61, Tryz.ntmps61
  go_wp2_with fail
  go_region_with (go_at_call 80; refine (HK.out _).mono ?_; rintro e w1 ⟨rfl, ⟨⟨n1, rfl⟩⟩⟩))
 all_goals (try go_wp2_with fail)
 all_goals (try go_wp2_with (go_at_call 84; refine (HS.out _ bel6 _ _ _ _ _ _ _).mono ?_; rintro e w2 ⟨rfl, hb⟩; have HB := Aside0.mk hb; clear hb))
 all_goals go_ret
 all_goals first | refine ⟨?_, below_step bel6 HB.out⟩ | refine ⟨?_, bel6⟩
 all_goals first | refine eB (show true = r from ?_) | refine eB (show false = r from ?_) | refine eB (show decide _ = r from ?_) | refine eB (show (_ && _) = r from ?_)
 all_goals (rw [← HR.out]; clear HR HS; (try clear HK); (try clear HB); go_light; (try simp only [bytes_nil] at *))
 all_goals grind
theorem right_12 (a b : Int) (tx : ByteArray) (A : Option Addr) (c : Nat) (tm : List ByteArray) (ky : ByteArray) (lo hi : Int) (w : World) (hC : Kd.string.C w A tm.length tm) (hc : tm.length ≤ c) (hn : tm.length ≤ 1099511627776) :
  Calls Tryz.prog 61 #[.agg (nodeC 12 a b tx (.slice A tm.length c) ky lo hi)] w fun e w' => e = .returned (.bool (decide (b = 0 ∧ tx = ⟨#[]⟩ ∧ tm = [] ∧ ky = ⟨#[]⟩ ∧ lo = 0 ∧ hi = 0))) ∧ Below w.heap.size w w' := by
 obtain ⟨r, hr⟩ : ∃ r, (decide (b = 0 ∧ tx = ⟨#[]⟩ ∧ tm = [] ∧ ky = ⟨#[]⟩ ∧ lo = 0 ∧ hi = 0)) = r := ⟨_, rfl⟩
 rw [hr]
 have HS := Aside0.mk (fun (W : World) (hW : Below w.heap.size w W) k' a' b' tx' ky' lo' hi' => same_calls 12 a b tx A c tm ky lo hi k' a' b' tx' none 0 [] ky' lo' hi' W (Kd.C_below hC hW) hc hn (Kd.C_nil _ _) (Nat.le_refl _))
 have HR := Aside0.mk hr
 clear hr hC hc hn
 go_enter Tryz.func61, Tryz.ntmps61
 go_wp2_with fail
 all_goals (try go_region)
 all_goals (try go_wp2_with fail)
 all_goals (try go_wp2_with (go_at_call 84; refine (HS.out _ bel6 _ _ _ _ _ _ _).mono ?_; rintro e w2 ⟨rfl, hb⟩; have HB := Aside0.mk hb; clear hb))
 all_goals go_ret
 all_goals first | refine ⟨?_, below_step bel6 HB.out⟩ | refine ⟨?_, bel6⟩
 all_goals first | refine eB (show true = r from ?_) | refine eB (show false = r from ?_) | refine eB (show decide _ = r from ?_) | refine eB (show (_ && _) = r from ?_)
 all_goals (rw [← HR.out]; clear HR HS; (try clear HK); (try clear HB); go_light; (try simp only [bytes_nil] at *))
 all_goals grind
theorem right_6 (a b : Int) (tx : ByteArray) (A : Option Addr) (c : Nat) (tm : List ByteArray) (ky : ByteArray) (lo hi : Int) (w : World) (hC : Kd.string.C w A tm.length tm) (hc : tm.length ≤ c) (hn : tm.length ≤ 1099511627776) (hk : ky.size ≤ 9223372036854775807) :
  Calls Tryz.prog 61 #[.agg (nodeC 6 a b tx (.slice A tm.length c) ky lo hi)] w fun e w' => e = .returned (.bool (Pure.keyB ky && decide (tx.size ≤ 64) && decide (a = 0 ∧ b = 0 ∧ tm = [] ∧ lo = 0 ∧ hi = 0))) ∧ Below w.heap.size w w' := by
 obtain ⟨r, hr⟩ : ∃ r, (Pure.keyB ky && decide (tx.size ≤ 64) && decide (a = 0 ∧ b = 0 ∧ tm = [] ∧ lo = 0 ∧ hi = 0)) = r := ⟨_, rfl⟩
 rw [hr]
 have HS := Aside0.mk (fun (W : World) (hW : Below w.heap.size w W) k' a' b' tx' ky' lo' hi' => same_calls 6 a b tx A c tm ky lo hi k' a' b' tx' none 0 [] ky' lo' hi' W (Kd.C_below hC hW) hc hn (Kd.C_nil _ _) (Nat.le_refl _))
 obtain ⟨kb, hkb⟩ : ∃ kb, Pure.keyB ky = kb := ⟨_, rfl⟩
 have HK := Aside0.mk (fun W => isKey_calls ky W hk)
 rw [hkb] at hr HK
 clear hkb
 have HR := Aside0.mk hr
 clear hr hC hc hn
 cases kb
 all_goals (
  go_enter Tryz.func61, Tryz.ntmps61
  go_wp2_with fail
  go_region)
 all_goals (go_wp2_with (first | (go_at_call 80; refine (HK.out _).mono ?_; rintro e w1 ⟨rfl, ⟨⟨n1, rfl⟩⟩⟩) | fail))
 all_goals (try go_wp2_with (go_at_call 84; refine (HS.out _ bel6 _ _ _ _ _ _ _).mono ?_; rintro e w2 ⟨rfl, hb⟩; have HB := Aside0.mk hb; clear hb))
 all_goals go_ret
 all_goals first | refine ⟨?_, below_step bel6 HB.out⟩ | refine ⟨?_, bel6⟩
 all_goals first | refine eB (show true = r from ?_) | refine eB (show false = r from ?_) | refine eB (show decide _ = r from ?_) | refine eB (show (_ && _) = r from ?_)
 all_goals (rw [← HR.out]; clear HR HS; (try clear HK); (try clear HB); go_light; (try simp only [bytes_nil] at *))
 all_goals grind
theorem right_0 (k a b : Int) (tx : ByteArray) (v : Value) (hv : ∃ A n c, v = .slice A n c) (ky : ByteArray) (lo hi : Int) (w : World) (h1 : ¬k = 1) (h2 : ¬k = 2) (h3 : ¬k = 3) (h4 : ¬k = 4) (h5 : ¬k = 5) (h6 : ¬k = 6) (h7 : ¬k = 7) (h8 : ¬k = 8) (h9 : ¬k = 9) (h10 : ¬k = 10) (h11 : ¬k = 11) (h12 : ¬k = 12) :
  Calls Tryz.prog 61 #[.agg (nodeC k a b tx v ky lo hi)] w fun e w' => e = .returned (.bool false) ∧ Below w.heap.size w w' := by
 obtain ⟨A, n, c, rfl⟩ := hv
 have d1 : (k == 1) = false := beq_eq_false_iff_ne.2 h1
 have d2 : (k == 2) = false := beq_eq_false_iff_ne.2 h2
 have d3 : (k == 3) = false := beq_eq_false_iff_ne.2 h3
 have d4 : (k == 4) = false := beq_eq_false_iff_ne.2 h4
 have d5 : (k == 5) = false := beq_eq_false_iff_ne.2 h5
 have d6 : (k == 6) = false := beq_eq_false_iff_ne.2 h6
 have d7 : (k == 7) = false := beq_eq_false_iff_ne.2 h7
 have d8 : (k == 8) = false := beq_eq_false_iff_ne.2 h8
 have d9 : (k == 9) = false := beq_eq_false_iff_ne.2 h9
 have d10 : (k == 10) = false := beq_eq_false_iff_ne.2 h10
 have d11 : (k == 11) = false := beq_eq_false_iff_ne.2 h11
 have d12 : (k == 12) = false := beq_eq_false_iff_ne.2 h12
 go_enter Tryz.func61, Tryz.ntmps61
 go_wp2_with fail
 go_ret
 exact ⟨rfl, by repeat (first | exact Below.refl _ _ | apply below_alloc)⟩
end Go.Proofs.YtehaodbheifokaaGreatDoor.P
end
