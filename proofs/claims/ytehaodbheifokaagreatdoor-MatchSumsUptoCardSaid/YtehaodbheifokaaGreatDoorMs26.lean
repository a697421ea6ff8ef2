/- Joined by wip/tools/pack.py, pruned: RightB20. -/
import Derived.Test.YtehaodbheifokaaGreatDoorMs11
set_option maxHeartbeats 8000000
set_option maxRecDepth 100000
set_option linter.unusedVariables false
set_option linter.unusedSimpArgs false
section
namespace Go.Proofs.YtehaodbheifokaaGreatDoor.P
open Go Go.RowKit Go.Proofs.YtehaodbheifokaaGreatDoorW.PrintWords Go.Proofs.YtehaodbheifokaaGreatDoorW.PrintLast Go.Proofs.YtehaodbheifokaaGreatDoorW.PrintMore
attribute [local go_sem] max2_int min2_int max_two min_two
theorem right_2 (a b : Int) (tx : ByteArray) (A : Option Addr) (c : Nat) (tm : List ByteArray) (ky : ByteArray) (lo hi : Int) (w : World) (hC : Kd.string.C w A tm.length tm) (hc : tm.length ≤ c) (hn : tm.length ≤ 1099511627776) :
  Calls Tryz.prog 61 #[.agg (nodeC 2 a b tx (.slice A tm.length c) ky lo hi)] w fun e w' => e = .returned (.bool (tokB tx && decide (a = 0 ∧ b = 0 ∧ tm = [] ∧ ky = ⟨#[]⟩ ∧ lo = 0 ∧ hi = 0))) ∧ Below w.heap.size w w' := by
 obtain ⟨r, hr⟩ : ∃ r, (tokB tx && decide (a = 0 ∧ b = 0 ∧ tm = [] ∧ ky = ⟨#[]⟩ ∧ lo = 0 ∧ hi = 0)) = r := ⟨_, rfl⟩
 rw [hr]
 have HS := Aside0.mk (fun (W : World) (hW : Below w.heap.size w W) k' a' b' tx' ky' lo' hi' => same_calls 2 a b tx A c tm ky lo hi k' a' b' tx' none 0 [] ky' lo' hi' W (Kd.C_below hC hW) hc hn (Kd.C_nil _ _) (Nat.le_refl _))
 obtain ⟨kb, hkb⟩ : ∃ kb, tokB tx = kb := ⟨_, rfl⟩
 have HK := Aside0.mk (fun W => tokIs_calls tx W)
 rw [hkb] at hr HK
 clear hkb
 have HR := Aside0.mk hr
 clear hr hC hc hn
 cases kb
 all_goals (
  go_enter Tryz.func61, Tryz.ntmps61
  go_wp2_with fail
  go_region_with (go_at_call 81; refine (HK.out _).mono ?_; rintro e w1 ⟨rfl, ⟨⟨n1, rfl⟩⟩⟩))
 all_goals (try go_wp2_with fail)
 all_goals (try go_wp2_with (go_at_call 84; refine (HS.out _ bel6 _ _ _ _ _ _ _).mono ?_; rintro e w2 ⟨rfl, hb⟩; have HB := Aside0.mk hb; clear hb))
 all_goals go_ret
 all_goals first | refine ⟨?_, below_step bel6 HB.out⟩ | refine ⟨?_, bel6⟩
 all_goals first | refine eB (show true = r from ?_) | refine eB (show false = r from ?_) | refine eB (show decide _ = r from ?_) | refine eB (show (_ && _) = r from ?_)
 all_goals (rw [← HR.out]; clear HR HS; (try clear HK); (try clear HB); go_light; (try simp only [bytes_nil] at *))
 all_goals grind
theorem right_3 (a b : Int) (tx : ByteArray) (A : Option Addr) (c : Nat) (tm : List ByteArray) (ky : ByteArray) (lo hi : Int) (w : World) (hC : Kd.string.C w A tm.length tm) (hc : tm.length ≤ c) (hn : tm.length ≤ 1099511627776) :
  Calls Tryz.prog 61 #[.agg (nodeC 3 a b tx (.slice A tm.length c) ky lo hi)] w fun e w' => e = .returned (.bool (tokB tx && decide (a = 0 ∧ b = 0 ∧ tm = [] ∧ ky = ⟨#[]⟩ ∧ lo = 0 ∧ hi = 0))) ∧ Below w.heap.size w w' := by
 obtain ⟨r, hr⟩ : ∃ r, (tokB tx && decide (a = 0 ∧ b = 0 ∧ tm = [] ∧ ky = ⟨#[]⟩ ∧ lo = 0 ∧ hi = 0)) = r := ⟨_, rfl⟩
 rw [hr]
 have HS := Aside0.mk (fun (W : World) (hW : Below w.heap.size w W) k' a' b' tx' ky' lo' hi' => same_calls 3 a b tx A c tm ky lo hi k' a' b' tx' none 0 [] ky' lo' hi' W (Kd.C_below hC hW) hc hn (Kd.C_nil _ _) (Nat.le_refl _))
 obtain ⟨kb, hkb⟩ : ∃ kb, tokB tx = kb := ⟨_, rfl⟩
 have HK := Aside0.mk (fun W => tokIs_calls tx W)
 rw [hkb] at hr HK
 clear hkb
 have HR := Aside0.mk hr
 clear hr hC hc hn
 cases kb
 all_goals (
  go_enter Tryz.func61, Tryz.ntmps61
  go_wp2_with fail
  go_region_with (go_at_call 81; refine (HK.out _).mono ?_; rintro e w1 ⟨rfl, ⟨⟨n1, rfl⟩⟩⟩))
 all_goals (try go_wp2_with fail)
 all_goals (try go_wp2_with (go_at_call 84; refine (HS.out _ bel6 _ _ _ _ _ _ _).mono ?_; rintro e w2 ⟨rfl, hb⟩; have HB := Aside0.mk hb; clear hb))
 all_goals go_ret
 all_goals first | refine ⟨?_, below_step bel6 HB.out⟩ | refine ⟨?_, bel6⟩
 all_goals first | refine eB (show true = r from ?_) | refine eB (show false = r from ?_) | refine eB (show decide _ = r from ?_) | refine eB (show (_ && _) = r from ?_)
 all_goals (rw [← HR.out]; clear HR HS; (try clear HK); (try clear HB); go_light; (try simp only [bytes_nil] at *))
 all_goals grind
theorem size_nil {s : ByteArray} : s.size = 0 ↔ s = ⟨#[]⟩ := by
 constructor
 ·intro h
  cases s with | mk d => exact congrArg ByteArray.mk (Array.eq_empty_of_size_eq_zero h)
 ·rintro rfl; rfl
theorem right_5 (a b : Int) (tx : ByteArray) (A : Option Addr) (c : Nat) (tm : List ByteArray) (ky : ByteArray) (lo hi : Int) (w : World) (hC : Kd.string.C w A tm.length tm) (hc : tm.length ≤ c) (hn : tm.length ≤ 1099511627776) :
  Calls Tryz.prog 61 #[.agg (nodeC 5 a b tx (.slice A tm.length c) ky lo hi)] w fun e w' => e = .returned (.bool (decide (1 ≤ tx.size ∧ tx.size ≤ 64) && decide (a = 0 ∧ b = 0 ∧ tm = [] ∧ ky = ⟨#[]⟩ ∧ lo = 0 ∧ hi = 0))) ∧ Below w.heap.size w w' := by
 obtain ⟨r, hr⟩ : ∃ r, (decide (1 ≤ tx.size ∧ tx.size ≤ 64) && decide (a = 0 ∧ b = 0 ∧ tm = [] ∧ ky = ⟨#[]⟩ ∧ lo = 0 ∧ hi = 0)) = r := ⟨_, rfl⟩
 rw [hr]
 have HS := Aside0.mk (fun (W : World) (hW : Below w.heap.size w W) k' a' b' tx' ky' lo' hi' => same_calls 5 a b tx A c tm ky lo hi k' a' b' tx' none 0 [] ky' lo' hi' W (Kd.C_below hC hW) hc hn (Kd.C_nil _ _) (Nat.le_refl _))
 have HR := Aside0.mk hr
 clear hr hC hc hn
 by_cases he : tx.toList = []
 ·have e1 : (tx.toList == ([] : List UInt8)) = true := by rw [he]; rfl
  have e2 : (tx.toList != ([] : List UInt8)) = false := by rw [he]; rfl
  have HE := Aside0.mk he
  clear he
  go_enter Tryz.func61, Tryz.ntmps61
  go_wp2_with fail
  go_region
  all_goals (try go_wp2_with fail)
  all_goals (try go_wp2_with (go_at_call 84; refine (HS.out _ bel6 _ _ _ _ _ _ _).mono ?_; rintro e w2 ⟨rfl, hb⟩; have HB := Aside0.mk hb; clear hb))
  all_goals go_ret
  all_goals first | refine ⟨?_, below_step bel6 HB.out⟩ | refine ⟨?_, bel6⟩
  all_goals first | refine eB (show true = r from ?_) | refine eB (show false = r from ?_) | refine eB (show decide _ = r from ?_) | refine eB (show (_ && _) = r from ?_)
  all_goals (rw [← HR.out]; have he := HE.out; clear HR HS HE; (try clear HK); (try clear HB); go_light; (try simp only [bytes_nil] at *))
  all_goals (first | grind [size_nil])
 ·have e1 : (tx.toList == ([] : List UInt8)) = false := beq_eq_false_iff_ne.2 he
  have e2 : (tx.toList != ([] : List UInt8)) = true := bne_iff_ne.2 he
  have HE := Aside0.mk he
  clear he
  by_cases hs : tx.size ≤ 64
  ·have s1 : decide ((tx.size : Int) ≤ 64) = true := decide_eq_true (by omega)
   go_enter Tryz.func61, Tryz.ntmps61
   go_wp2_with fail
   go_region
   all_goals (try go_wp2_with fail)
   all_goals (try go_wp2_with (go_at_call 84; refine (HS.out _ bel6 _ _ _ _ _ _ _).mono ?_; rintro e w2 ⟨rfl, hb⟩; have HB := Aside0.mk hb; clear hb))
   all_goals go_ret
   all_goals first | refine ⟨?_, below_step bel6 HB.out⟩ | refine ⟨?_, bel6⟩
   all_goals first | refine eB (show true = r from ?_) | refine eB (show false = r from ?_) | refine eB (show decide _ = r from ?_) | refine eB (show (_ && _) = r from ?_)
   all_goals (rw [← HR.out]; have he := HE.out; clear HR HS HE; (try clear HK); (try clear HB); go_light; (try simp only [bytes_nil] at *))
   all_goals (first | grind [size_nil])
  ·have s1 : decide ((tx.size : Int) ≤ 64) = false := decide_eq_false (by omega)
   go_enter Tryz.func61, Tryz.ntmps61
   go_wp2_with fail
   go_region
   all_goals (try go_wp2_with fail)
   all_goals (try go_wp2_with (go_at_call 84; refine (HS.out _ bel6 _ _ _ _ _ _ _).mono ?_; rintro e w2 ⟨rfl, hb⟩; have HB := Aside0.mk hb; clear hb))
   all_goals go_ret
   all_goals first | refine ⟨?_, below_step bel6 HB.out⟩ | refine ⟨?_, bel6⟩
   all_goals first | refine eB (show true = r from ?_) | refine eB (show false = r from ?_) | refine eB (show decide _ = r from ?_) | refine eB (show (_ && _) = r from ?_)
   all_goals (rw [← HR.out]; have he := HE.out; clear HR HS HE; (try clear HK); (try clear HB); go_light; (try simp only [bytes_nil] at *))
   all_goals (first | grind [size_nil])
end Go.Proofs.YtehaodbheifokaaGreatDoor.P
end
