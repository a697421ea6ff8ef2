/- Joined by wip/tools/pack.py, pruned: RightA20. -/
import Derived.Test.YtehaodbheifokaaGreatDoorMs6
import Derived.Deep.Light
set_option maxHeartbeats 8000000
set_option maxRecDepth 100000
set_option linter.unusedVariables false
set_option linter.unusedSimpArgs false
section
namespace Go.Proofs.YtehaodbheifokaaGreatDoor.P
open Go Go.RowKit Go.Proofs.YtehaodbheifokaaGreatDoorW.PrintWords Go.Proofs.YtehaodbheifokaaGreatDoorW.PrintLast Go.Proofs.YtehaodbheifokaaGreatDoorW.PrintMore
attribute [local go_sem] max2_int min2_int max_two min_two
theorem notIs_calls (s : ByteArray) (w : World) :
  Calls Tryz.prog 83 #[.string s] w fun e w' => e = .returned (.bool (!tokB s)) ∧ Drawn0 w w' := by
 have HT := Aside0.mk (tokIs_calls s)
 obtain ⟨b, hb⟩ : ∃ b, tokB s = b := ⟨_, rfl⟩
 rw [hb] at HT ⊢
 clear hb
 go_enter Tryz.func83, Tryz.ntmps83
 go_wp2_with (go_at_call 81; refine (HT.out _).mono ?_; rintro e w1 ⟨rfl, hd⟩; have HD := Aside0.mk hd; clear hd)
 go_ret
 exact ⟨rfl, HD.out⟩
theorem indexS (A : Option Addr) (c : Nat) (tm : List ByteArray) (w : World) (hC : Kd.string.C w A tm.length tm) (hc : tm.length ≤ c) (hn : tm.length ≤ 1099511627776) :
  Calls Tryz.prog 104 #[.slice A tm.length c, .func (.func 83) #[] #[]] w fun e w' => ∃ i : Int, e = .returned (.int .i64 i) ∧ decide (0 ≤ i) = (!tm.all tokB) ∧ Drawn0 w w' := by
 have HC := Aside0.mk hC
 clear hC
 go_enter Tryz.func104, Tryz.ntmps104
 go_wp2_with fail
 go_loopg [8] tm.length (fun kq v8 wr => ∃ i : Nat, v8 = .int .i64 (i : Int) ∧ Aside0 (kq + i = tm.length) ∧ Aside0 (∀ j, j < i → ∀ s, tm[j]? = some s → tokB s = true) ∧ Drawn0 w wr)
 case atStart => exact ⟨0, rfl, ⟨rfl⟩, ⟨fun j h => by omega⟩, Drawn0.refl _⟩
 case round =>
  obtain ⟨i, rfl, HI, HA, HD⟩ := hrel
  obtain ⟨⟨m, rfl⟩⟩ := HD
  by_cases hi : i < tm.length
  ·have d0 : decide ((i : Int) < (tm.length : Int)) = true := decide_eq_true (by omega)
   have d1 : decide (i < tm.length) = true := decide_eq_true hi
   obtain ⟨ad, rfl, c0⟩ := Kd.at_string (Kd.C_drewN HC.out m) (i : Int) (by omega) (by omega)
   rw [Int.toNat_natCast] at c0
   have hs : tm[i]? = some (rdOf ByteArray.empty tm (i : Int)) := by simp [rdOf, List.getD, hi]
   have HS := Aside0.mk hs
   obtain ⟨b, hb⟩ : ∃ b, tokB (rdOf ByteArray.empty tm (i : Int)) = b := ⟨_, rfl⟩
   have HB := Aside0.mk hb
   have HN := Aside0.mk (notIs_calls (rdOf ByteArray.empty tm (i : Int)))
   rw [hb] at HN
   clear hb hs
   have HIL := Aside0.mk hi
   go_wp2_with fail
   refine (HN.out _).mono ?_
   rintro e w3 ⟨rfl, ⟨⟨n3, rfl⟩⟩⟩
   cases b
   ·go_wp2_with fail
    go_ret
    refine ⟨_, rfl, ?_, ⟨⟨_, rfl⟩⟩⟩
    rw [decide_eq_true (by omega)]
    have : tm.all tokB = false := by
     cases e : tm.all tokB with
     | false => rfl
     | true => have := List.all_eq_true.1 e _ (List.mem_of_getElem? HS.out); rw [HB.out] at this; exact absurd this (by decide)
    rw [this]; rfl
   ·go_wp2_with fail
    have ew : (i : Int) + 1 = ((i + 1 : Nat) : Int) := rfl
    try rw [show wrap64 ((i : Int) + 1) = ((i + 1 : Nat) : Int) by have := HIL.out; unfold wrap64; omega]
    try rw [ew]
    go_roundg (tm.length - i - 1)
    case measure => have := HI.out; have := HIL.out; omega
    case rel =>
     refine ⟨i + 1, rfl, ⟨by have := HI.out; have := HIL.out; omega⟩, ⟨fun j hj s hs => ?_⟩, ⟨⟨_, rfl⟩⟩⟩
     by_cases hji : j = i
     ·subst hji
      rw [HS.out] at hs
      cases hs
      exact HB.out
     ·exact HA.out j (by omega) s hs
  ·have d0 : decide ((i : Int) < (tm.length : Int)) = false := decide_eq_false (by omega)
   have d1 : decide (i < tm.length) = false := decide_eq_false hi
   go_wp2_with fail
   go_ret
   refine ⟨_, rfl, ?_, ⟨⟨_, rfl⟩⟩⟩
   have : tm.all tokB = true := List.all_eq_true.2 (fun s hs => by
    obtain ⟨j, hj⟩ := List.getElem?_of_mem hs
    have hl := (List.getElem?_eq_some_iff.1 hj).1
    exact HA.out j (by omega) s hj)
   rw [this]; rfl
theorem containsS (A : Option Addr) (c : Nat) (tm : List ByteArray) (w : World) (hC : Kd.string.C w A tm.length tm) (hc : tm.length ≤ c) (hn : tm.length ≤ 1099511627776) :
  Calls Tryz.prog 82 #[.slice A tm.length c, .func (.func 83) #[] #[]] w fun e w' => e = .returned (.bool (!tm.all tokB)) ∧ Drawn0 w w' := by
 have hX := indexS A c tm w hC hc hn
 obtain ⟨b, hb⟩ : ∃ b, (!tm.all tokB) = b := ⟨_, rfl⟩
 rw [hb] at hX ⊢
 have HX := Aside0.mk hX
 clear hC hb hX
 go_enter Tryz.func82, Tryz.ntmps82
 go_wp2_with fail
 refine HX.out.mono ?_
 rintro e w3 ⟨i, rfl, hi, hd⟩
 have HD := Aside0.mk hd
 subst hi
 clear hd
 go_wp2_with fail
 all_goals go_ret
 all_goals exact ⟨by rfl, HD.out⟩
abbrev nodeC (k a b : Int) (tx : ByteArray) (vt : Value) (ky : ByteArray) (lo hi : Int) : Array Value := #[.int .i64 k, .int .i64 a, .int .i64 b, .string tx, vt, .string ky, .int .i64 lo, .int .i64 hi]
theorem same_calls (k a b : Int) (tx : ByteArray) (A : Option Addr) (c : Nat) (tm : List ByteArray) (ky : ByteArray) (lo hi k' a' b' : Int) (tx' : ByteArray) (A' : Option Addr) (c' : Nat) (tm' : List ByteArray) (ky' : ByteArray) (lo' hi' : Int) (w : World)
  (hC : Kd.string.C w A tm.length tm) (hc : tm.length ≤ c) (hn : tm.length ≤ 1099511627776) (hC' : Kd.string.C w A' tm'.length tm') (hc' : tm'.length ≤ c') :
  Calls Tryz.prog 84 #[.agg (nodeC k a b tx (.slice A tm.length c) ky lo hi), .agg (nodeC k' a' b' tx' (.slice A' tm'.length c') ky' lo' hi')] w fun e w' => e = .returned (.bool (decide (k = k' ∧ a = a' ∧ b = b' ∧ tx = tx' ∧ tm = tm' ∧ ky = ky' ∧ lo = lo' ∧ hi = hi'))) ∧ Below w.heap.size w w' :=
 query_same.calls _ k a b tx A c tm ky lo hi k' a' b' tx' A' c' tm' ky' lo' hi' _ w hC hc hC' hc' (same_f k a b tx tm ky lo hi k' a' b' tx' tm' ky' lo' hi' hn)
theorem right_4 (a b : Int) (tx : ByteArray) (A : Option Addr) (c : Nat) (tm : List ByteArray) (ky : ByteArray) (lo hi : Int) (w : World) (hC : Kd.string.C w A tm.length tm) (hc : tm.length ≤ c) (hn : tm.length ≤ 1099511627776) :
  Calls Tryz.prog 61 #[.agg (nodeC 4 a b tx (.slice A tm.length c) ky lo hi)] w fun e w' => e = .returned (.bool (decide (0 < tm.length) && tm.all tokB && decide (a = 0 ∧ b = 0 ∧ tx = ⟨#[]⟩ ∧ ky = ⟨#[]⟩ ∧ lo = 0 ∧ hi = 0))) ∧ Below w.heap.size w w' := by
 obtain ⟨r, hr⟩ : ∃ r, (decide (0 < tm.length) && tm.all tokB && decide (a = 0 ∧ b = 0 ∧ tx = ⟨#[]⟩ ∧ ky = ⟨#[]⟩ ∧ lo = 0 ∧ hi = 0)) = r := ⟨_, rfl⟩
 rw [hr]
 have HS := Aside0.mk (fun (W : World) (hW : Below w.heap.size w W) k' a' b' tx' ky' lo' hi' => same_calls 4 a b tx A c tm ky lo hi k' a' b' tx' A c tm ky' lo' hi' W (Kd.C_below hC hW) hc hn (Kd.C_below hC hW) hc)
 obtain ⟨kb, hkb⟩ : ∃ kb, tm.all tokB = kb := ⟨_, rfl⟩
 have hK := fun (W : World) (hW : Below w.heap.size w W) => containsS A c tm W (Kd.C_below hC hW) hc hn
 rw [hkb] at hr
 rw [hkb] at hK
 have HK := Aside0.mk hK
 clear hkb hK
 have HR := Aside0.mk hr
 clear hr hC hc hn
 cases kb
 all_goals (
  go_enter Tryz.func61, Tryz.ntmps61
  go_wp2_with (go_at_call 82; refine (HK.out _ bel6).mono ?_; rintro e w1 ⟨rfl, ⟨⟨n1, rfl⟩⟩⟩))
 all_goals (try go_wp2_with (go_at_call 84; refine (HS.out _ bel6 _ _ _ _ _ _ _).mono ?_; rintro e w2 ⟨rfl, hb⟩; have HB := Aside0.mk hb; clear hb))
 all_goals go_ret
 all_goals first | refine ⟨?_, below_step bel6 HB.out⟩ | refine ⟨?_, bel6⟩
 all_goals first | refine eB (show true = r from ?_) | refine eB (show false = r from ?_) | refine eB (show decide _ = r from ?_) | refine eB (show (_ && _) = r from ?_)
 all_goals (rw [← HR.out]; clear HR HS; (try clear HK); (try clear HB); go_light; (try simp only [bytes_nil] at *))
 all_goals grind
theorem right_8 (a b : Int) (tx : ByteArray) (A : Option Addr) (c : Nat) (tm : List ByteArray) (ky : ByteArray) (lo hi : Int) (w : World) (hC : Kd.string.C w A tm.length tm) (hc : tm.length ≤ c) (hn : tm.length ≤ 1099511627776) (hk : ky.size ≤ 9223372036854775807) :
  Calls Tryz.prog 61 #[.agg (nodeC 8 a b tx (.slice A tm.length c) ky lo hi)] w fun e w' => e = .returned (.bool (Pure.keyB ky && decide (a = 0 ∧ b = 0 ∧ tx = ⟨#[]⟩ ∧ tm = [] ∧ hi = 0))) ∧ Below w.heap.size w w' := by
 obtain ⟨r, hr⟩ : ∃ r, (Pure.keyB ky && decide (a = 0 ∧ b = 0 ∧ tx = ⟨#[]⟩ ∧ tm = [] ∧ hi = 0)) = r := ⟨_, rfl⟩
 rw [hr]
 have HS := Aside0.mk (fun (W : World) (hW : Below w.heap.size w W) k' a' b' tx' ky' lo' hi' => same_calls 8 a b tx A c tm ky lo hi k' a' b' tx' none 0 [] ky' lo' hi' W (Kd.C_below hC hW) hc hn (Kd.C_nil _ _) (Nat.le_refl _))
 obtain ⟨kb, hkb⟩ : ∃ kb, Pure.keyB ky = kb := ⟨_, rfl⟩
 have HK := Aside0.mk (fun W => isKey_calls ky W hk)
 rw [hkb] at hr HK
 clear hkb
 have HR := Aside0.mk hr
 clear hr hC hc hn
 cases kb
 all_goals (
  go_enter Tryz.func61, Tryz.ntmps61
  go_wp2_with fail
  go_region_with (go_at_call 80; refine (HK.out _).mono ?_; rintro e w1 ⟨rfl, ⟨⟨n1, rfl⟩⟩⟩))
 all_goals (try go_wp2_with fail)
 all_goals (try go_wp2_with (go_at_call 84; refine (HS.out _ bel6 _ _ _ _ _ _ _).mono ?_; rintro e w2 ⟨rfl, hb⟩; have HB := Aside0.mk hb; clear hb))
 all_goals go_ret
 all_goals first | refine ⟨?_, below_step bel6 HB.out⟩ | refine ⟨?_, bel6⟩
 all_goals first | refine eB (show true = r from ?_) | refine eB (show false = r from ?_) | refine eB (show decide _ = r from ?_) | refine eB (show (_ && _) = r from ?_)
 all_goals (rw [← HR.out]; clear HR HS; (try clear HK); (try clear HB); go_light; (try simp only [bytes_nil] at *))
 all_goals grind
theorem right_9 (a b : Int) (tx : ByteArray) (A : Option Addr) (c : Nat) (tm : List ByteArray) (ky : ByteArray) (lo hi : Int) (w : World) (hC : Kd.string.C w A tm.length tm) (hc : tm.length ≤ c) (hn : tm.length ≤ 1099511627776) :
  Calls Tryz.prog 61 #[.agg (nodeC 9 a b tx (.slice A tm.length c) ky lo hi)] w fun e w' => e = .returned (.bool (decide (a = 0 ∧ b = 0 ∧ tx = ⟨#[]⟩ ∧ tm = [] ∧ ky = ⟨#[]⟩))) ∧ Below w.heap.size w w' := by
 obtain ⟨r, hr⟩ : ∃ r, (decide (a = 0 ∧ b = 0 ∧ tx = ⟨#[]⟩ ∧ tm = [] ∧ ky = ⟨#[]⟩)) = r := ⟨_, rfl⟩
 rw [hr]
 have HS := Aside0.mk (fun (W : World) (hW : Below w.heap.size w W) k' a' b' tx' ky' lo' hi' => same_calls 9 a b tx A c tm ky lo hi k' a' b' tx' none 0 [] ky' lo' hi' W (Kd.C_below hC hW) hc hn (Kd.C_nil _ _) (Nat.le_refl _))
 have HR := Aside0.mk hr
 clear hr hC hc hn
 go_enter Tryz.func61, Tryz.ntmps61
 go_wp2_with fail
 all_goals (try go_region)
 all_goals (try go_wp2_with fail)
 all_goals (try go_wp2_with (go_at_call 84; refine (HS.out _ bel6 _ _ _ _ _ _ _).mono ?_; rintro e w2 ⟨rfl, hb⟩; have HB := Aside0.mk hb; clear hb))
 all_goals go_ret
 all_goals first | refine ⟨?_, below_step bel6 HB.out⟩ | refine ⟨?_, bel6⟩
 all_goals first | refine eB (show true = r from ?_) | refine eB (show false = r from ?_) | refine eB (show decide _ = r from ?_) | refine eB (show (_ && _) = r from ?_)
 all_goals (rw [← HR.out]; clear HR HS; (try clear HK); (try clear HB); go_light; (try simp only [bytes_nil] at *))
 all_goals grind
theorem right_10 (a b : Int) (tx : ByteArray) (A : Option Addr) (c : Nat) (tm : List ByteArray) (ky : ByteArray) (lo hi : Int) (w : World) (hC : Kd.string.C w A tm.length tm) (hc : tm.length ≤ c) (hn : tm.length ≤ 1099511627776) :
  Calls Tryz.prog 61 #[.agg (nodeC 10 a b tx (.slice A tm.length c) ky lo hi)] w fun e w' => e = .returned (.bool (decide (a ≠ b) && decide (tx = ⟨#[]⟩ ∧ tm = [] ∧ ky = ⟨#[]⟩ ∧ lo = 0 ∧ hi = 0))) ∧ Below w.heap.size w w' := by
 obtain ⟨r, hr⟩ : ∃ r, (decide (a ≠ b) && decide (tx = ⟨#[]⟩ ∧ tm = [] ∧ ky = ⟨#[]⟩ ∧ lo = 0 ∧ hi = 0)) = r := ⟨_, rfl⟩
 rw [hr]
 have HS := Aside0.mk (fun (W : World) (hW : Below w.heap.size w W) k' a' b' tx' ky' lo' hi' => same_calls 10 a b tx A c tm ky lo hi k' a' b' tx' none 0 [] ky' lo' hi' W (Kd.C_below hC hW) hc hn (Kd.C_nil _ _) (Nat.le_refl _))
 have HR := Aside0.mk hr
 clear hr hC hc hn
 go_enter Tryz.func61, Tryz.ntmps61
 go_wp2_with fail
 all_goals (try go_region)
 all_goals (try go_wp2_with fail)
 all_goals (try go_wp2_with (go_at_call 84; refine (HS.out _ bel6 _ _ _ _ _ _ _).mono ?_; rintro e w2 ⟨rfl, hb⟩; have HB := Aside0.mk hb; clear hb))
 all_goals go_ret
 all_goals first | refine ⟨?_, below_step bel6 HB.out⟩ | refine ⟨?_, bel6⟩
 all_goals first | refine eB (show true = r from ?_) | refine eB (show false = r from ?_) | refine eB (show decide _ = r from ?_) | refine eB (show (_ && _) = r from ?_)
 all_goals (rw [← HR.out]; clear HR HS; (try clear HK); (try clear HB); go_light; (try simp only [bytes_nil] at *))
 all_goals grind
theorem right_11 (a b : Int) (tx : ByteArray) (A : Option Addr) (c : Nat) (tm : List ByteArray) (ky : ByteArray) (lo hi : Int) (w : World) (hC : Kd.string.C w A tm.length tm) (hc : tm.length ≤ c) (hn : tm.length ≤ 1099511627776) :
  Calls Tryz.prog 61 #[.agg (nodeC 11 a b tx (.slice A tm.length c) ky lo hi)] w fun e w' => e = .returned (.bool (decide (a ≠ b) && decide (tx = ⟨#[]⟩ ∧ tm = [] ∧ ky = ⟨#[]⟩ ∧ lo = 0 ∧ hi = 0))) ∧ Below w.heap.size w w' := by
 obtain ⟨r, hr⟩ : ∃ r, (decide (a ≠ b) && decide (tx = ⟨#[]⟩ ∧ tm = [] ∧ ky = ⟨#[]⟩ ∧ lo = 0 ∧ hi = 0)) = r := ⟨_, rfl⟩
 rw [hr]
 have HS := Aside0.mk (fun (W : World) (hW : Below w.heap.size w W) k' a' b' tx' ky' lo' hi' => same_calls 11 a b tx A c tm ky lo hi k' a' b' tx' none 0 [] ky' lo' hi' W (Kd.C_below hC hW) hc hn (Kd.C_nil _ _) (Nat.le_refl _))
 have HR := Aside0.mk hr
 clear hr hC hc hn
 go_enter Tryz.func61, Tryz.ntmps61
 go_wp2_with fail
 all_goals (try go_region)
 all_goals (try go_wp2_with fail)
 all_goals (try go_wp2_with (go_at_call 84; refine (HS.out _ bel6 _ _ _ _ _ _ _).mono ?_; rintro e w2 ⟨rfl, hb⟩; have HB := Aside0.mk hb; clear hb))
 all_goals go_ret
 all_goals first | refine ⟨?_, below_step bel6 HB.out⟩ | refine ⟨?_, bel6⟩
 all_goals first | refine eB (show true = r from ?_) | refine eB (show false = r from ?_) | refine eB (show decide _ = r from ?_) | refine eB (show (_ && _) = r from ?_)
 all_goals (rw [← HR.out]; clear HR HS; (try clear HK); (try clear HB); go_light; (try simp only [bytes_nil] at *))
 all_goals grind
theorem asked_2 (A : Option Addr) (n c : Nat) (ky : ByteArray) (wd sk mo : Int) (w : World) :
  Calls Tryz.prog 60 #[.agg #[.slice A n c, .int .i64 2, .string ky, .int .i64 wd, .int .i64 sk, .int .i64 mo]] w fun e w' => e = .returned (.bool (decide (ky = ⟨#[]⟩ ∧ wd = 0 ∧ sk = 0 ∧ mo = 0))) ∧ Below w.heap.size w w' := by
 obtain ⟨r, hr⟩ : ∃ r, (decide (ky = ⟨#[]⟩ ∧ wd = 0 ∧ sk = 0 ∧ mo = 0)) = r := ⟨_, rfl⟩
 rw [hr]
 have HR := Aside0.mk hr
 clear hr
 go_enter Tryz.func60, Tryz.ntmps60
 go_wp2_with fail
 all_goals (try go_region)
 all_goals (try go_wp2)
 all_goals (try go_region)
 all_goals (try go_wp2)
 all_goals go_ret
 all_goals (refine ⟨?_, by repeat (first | exact Below.refl _ _ | apply pw_below_drewN | apply below_drew1 | apply below_drew | apply Below.setCell (hp := Nat.le_succ _) | apply below_alloc)⟩)
 all_goals first | refine eB (show true = r from ?_) | refine eB (show false = r from ?_) | refine eB (show (mo == 0) = r from ?_) | refine eB (show decide _ = r from ?_)
 all_goals (rw [← HR.out]; clear HR; (try clear HK); go_light; (try simp only [bytes_nil] at *); (try unfold rngB))
 all_goals grind
end Go.Proofs.YtehaodbheifokaaGreatDoor.P
end
