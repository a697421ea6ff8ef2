/- Joined by wip/tools/pack.py, pruned: LeafG20. -/
import Derived.Test.YtehaodbheifokaaGreatDoorMs8
import Derived.Test.YtehaodbheifokaaGreatDoorMs13
set_option maxHeartbeats 8000000
set_option maxRecDepth 100000
set_option linter.unusedVariables false
set_option linter.unusedSimpArgs false
section
namespace Go.Proofs.YtehaodbheifokaaGreatDoor.P
open Go Go.RowKit Go.Proofs.YtehaodbheifokaaGreatDoorW.PrintWords Go.Proofs.YtehaodbheifokaaGreatDoorW.PrintLast Go.Proofs.YtehaodbheifokaaGreatDoorW.PrintMore
theorem tokens_cut (R : Nat) (s t : Int) (vl : Value) (v : Value) (w : World) (hR : w.heap[R]? = some (.cells (rdrC s t vl true v) 106 (0, 0))) :
  Calls Tryz.prog 87 #[.pointer (some ⟨R, 0, none⟩)] w fun e w' => e = .returned v ∧ Below w.heap.size w w' := by
 have r3 : w.cell? ⟨R, 3, none⟩ = some (.bool true) := (blk_cell hR 3).trans rfl
 have r4 : w.cell? ⟨R, 4, none⟩ = some v := (blk_cell hR 4).trans rfl
 clear hR
 go_enter Tryz.func87, Tryz.ntmps87
 go_wp2_with fail
 go_ret
 exact ⟨rfl, Below.refl _ _⟩
theorem tokensG (base : Nat) (l : List Int) (A : Option Addr) (c R : Nat) (s t : Int) (w : World) (hC : (Kd.int .u8).C w A l.length l) (hc : l.length ≤ c) (hb : ∀ x ∈ l, 0 ≤ x ∧ x < 256) (hn : l.length ≤ 1099511627776) (hbase : base ≤ w.heap.size) (hRb : R < base)
  (hR : RdS base l s t (.slice A l.length c) R w) :
  Calls Tryz.prog 87 #[.pointer (some ⟨R, 0, none⟩)] w fun e w' => ∃ v, e = .returned v ∧ w'.ownsRow base 9 1 v (cutS none l).length (strV (cutS none l)) ∧
   w'.heap[R]? = some (.cells (rdrC s t (.slice A l.length c) true v) 106 (0, 0)) ∧ Below R w w' ∧ Kept w w' (fun k => k = R) := by
 obtain ⟨b, vt, h1, ⟨rfl, rfl⟩ | ⟨rfl, h2⟩⟩ := hR
 ·refine (tokens_calls l A c R s t w hC hc hb hn h1).mono ?_
  rintro e w' ⟨v, rfl, h3, h4, h5, h6⟩
  exact ⟨v, rfl, own_lower hbase h3, h4, h5, h6⟩
 ·refine (tokens_cut R s t _ vt w h1).mono ?_
  rintro e w' ⟨rfl, hb⟩
  exact ⟨vt, rfl, pw_own_below h2 hb, blk_below h1 hb, hb.mono (by omega), Kept.of_below hb _⟩
theorem phraseG (base : Nat) (l : List Int) (A : Option Addr) (c R : Nat) (s t : Int) (AP : Option Addr) (cP : Nat) (p : List ByteArray) (w : World) (hC : (Kd.int .u8).C w A l.length l) (hc : l.length ≤ c) (hb : ∀ x ∈ l, 0 ≤ x ∧ x < 256) (hn : l.length ≤ 1099511627776) (hbase : base ≤ w.heap.size) (hRb : R < base)
  (hR : RdS base l s t (.slice A l.length c) R w) (hP : Kd.string.C w AP p.length p) (hcP : p.length ≤ cP) (hAP : ∀ a, AP = some a → a.block ≠ R) (hpn : p.length ≤ 1099511627776) :
  Calls Tryz.prog 90 #[.pointer (some ⟨R, 0, none⟩), .slice AP p.length cP] w fun e w' => e = .returned (.bool (phraseB ((cutS none l).map bT) p)) ∧ RdS base l s t (.slice A l.length c) R w' ∧ Below R w w' ∧ Kept w w' (fun k => k = R) := by
 have HT := Aside0.mk (tokensG base l A c R s t w hC hc hb hn hbase hRb hR)
 have hlen := (cutS_len l).1
 have hRl := Nat.lt_of_lt_of_le hRb hbase
 have HP := Aside0.mk hP
 clear hC hR hP hb
 obtain ⟨ts, hts⟩ : ∃ ts, cutS none l = ts := ⟨_, rfl⟩
 unfold RdS
 rw [hts] at hlen HT ⊢
 clear hts
 go_enter Tryz.func90, Tryz.ntmps90
 go_wp2_with fail
 refine HT.out.mono ?_
 rintro e w1 ⟨v, rfl, hown, hR1, hB1, hK1⟩
 obtain ⟨AT, cT, rfl, hcT⟩ := own_sl hown
 have HO := Aside0.mk hown
 have HR1 := Aside0.mk hR1
 have HB1 := Aside0.mk hB1
 have HK1 := Aside0.mk hK1
 have HPK := Aside0.mk (Kd.C_kept_came1 HP.out hK1 hAP)
 clear hown hR1 hB1 hK1
 go_wp2_with fail
 obtain ⟨M, hM⟩ : ∃ M, ts.length + 1 - p.length = M := ⟨_, rfl⟩
 rw [show max (0 : Int) ((ts.length : Int) - (p.length : Int) + 1) = (M : Int) by omega]
 go_loopg [16] M (fun kq v16 wr => ∃ i : Nat, v16 = .int .i64 (i : Int) ∧ Aside0 (kq + i = M) ∧ Aside0 (∀ j, j < i → ((ts.map bT).drop j).take p.length ≠ p) ∧ Aside0 (Below w1.heap.size w1 wr))
 case atStart => exact ⟨0, rfl, ⟨by omega⟩, ⟨fun j h => by omega⟩, ⟨Below.refl _ _⟩⟩
 case round =>
  obtain ⟨i, rfl, HI, HN, HBr⟩ := hrel
  by_cases hi : i < M
  ·have d0 : decide ((i : Int) < (M : Int)) = true := decide_eq_true (by omega)
   have d1 : decide (i < M) = true := decide_eq_true hi
   have him : i + p.length ≤ ts.length := by omega
   have HOr := Aside0.mk (own_bel HO.out HBr.out)
   have HPr := Aside0.mk (Kd.C_below HPK.out HBr.out)
   have hEq : ∀ (A0 : Option Addr) (c0 : Nat), p.length ≤ c0 → Kd.C Kd.string wr A0 p.length (((ts.map bT).drop i).take p.length) → Calls Tryz.prog 105 #[.slice A0 p.length c0, .slice AP p.length cP] wr fun e w' => e = .returned (.bool (decide (((ts.map bT).drop i).take p.length = p))) ∧ Drawn0 wr w' := by
    intro A0 c0 h0 hw
    have hwl : (((ts.map bT).drop i).take p.length).length = p.length := by simp; omega
    have hf := eqS_f (((ts.map bT).drop i).take p.length) p (by omega)
    have H := slices_Equal_string_string.calls (p.length + 1) A0 c0 (((ts.map bT).drop i).take p.length) AP cP p (decide (((ts.map bT).drop i).take p.length = p)) wr (by rw [hwl]; exact hw) (by omega) (HPr.out) hcP (by rw [hwl] at hf; exact hf)
    rw [hwl] at H
    exact H
   have HE := Aside0.mk hEq
   clear hEq
   by_cases hci : cT = i
   ·obtain hp0 : p.length = 0 := by omega
    have HP0 := Aside0.mk hp0
    have hci2 := hci.symm
    clear hci
    subst hci2
    clear hp0
    go_wp2_with fail
    refine (HE.out _ _ (by have := HP0.out; omega) (by have h := HP0.out; rw [h, List.take_zero]; exact C_none _)).mono ?_
    rintro e w3 ⟨rfl, hd⟩
    have HB3 := Aside0.mk (below_step HBr.out hd.below)
    clear hd
    by_cases hw : ((ts.map bT).drop i).take p.length = p
    ·rw [decide_eq_true hw]
     have HW := Aside0.mk hw
     clear hw
     go_wp2_with fail
     go_ret
     exact ⟨by rw [phrase_yes (i := i) (by rw [List.length_map]; omega) HW.out]; rfl, ⟨true, _, blk_below HR1.out HB3.out, .inr ⟨rfl, own_bel HO.out HB3.out⟩⟩, HB1.out.trans (HB3.out.mono (by have := HB1.out.size; omega)), HK1.out.below HB3.out⟩
    ·rw [decide_eq_false hw]
     have HW := Aside0.mk hw
     clear hw
     go_wp2_with fail
     have ew : (i : Int) + 1 = ((i + 1 : Nat) : Int) := rfl
     try rw [ew]
     go_roundg (M - i - 1)
     case measure => have := HI.out; omega
     case rel => exact ⟨i + 1, rfl, ⟨by have := HI.out; omega⟩, ⟨fun j hj => by
      by_cases hji : j = i
      ·rw [hji]; exact HW.out
      ·exact HN.out j (by omega)⟩, HB3⟩
   ·go_wp2_with fail
    refine (HE.out _ _ (by omega) (win_C HOr.out rfl i p.length him (by omega))).mono ?_
    rintro e w3 ⟨rfl, hd⟩
    have HB3 := Aside0.mk (below_step HBr.out hd.below)
    clear hd
    by_cases hw : ((ts.map bT).drop i).take p.length = p
    ·rw [decide_eq_true hw]
     have HW := Aside0.mk hw
     clear hw
     go_wp2_with fail
     go_ret
     exact ⟨by rw [phrase_yes (i := i) (by rw [List.length_map]; omega) HW.out]; rfl, ⟨true, _, blk_below HR1.out HB3.out, .inr ⟨rfl, own_bel HO.out HB3.out⟩⟩, HB1.out.trans (HB3.out.mono (by have := HB1.out.size; omega)), HK1.out.below HB3.out⟩
    ·rw [decide_eq_false hw]
     have HW := Aside0.mk hw
     clear hw
     go_wp2_with fail
     have ew : (i : Int) + 1 = ((i + 1 : Nat) : Int) := rfl
     try rw [ew]
     go_roundg (M - i - 1)
     case measure => have := HI.out; omega
     case rel => exact ⟨i + 1, rfl, ⟨by have := HI.out; omega⟩, ⟨fun j hj => by
      by_cases hji : j = i
      ·rw [hji]; exact HW.out
      ·exact HN.out j (by omega)⟩, HB3⟩
  ·have d0 : decide ((i : Int) < (M : Int)) = false := decide_eq_false (by omega)
   have d1 : decide (i < M) = false := decide_eq_false hi
   go_wp2_with fail
   go_ret
   exact ⟨by rw [phrase_no (fun j hj => HN.out j (by rw [List.length_map] at hj; omega))]; rfl, ⟨true, _, blk_below HR1.out HBr.out, .inr ⟨rfl, own_bel HO.out HBr.out⟩⟩, HB1.out.trans (HBr.out.mono (by have := HB1.out.size; omega)), HK1.out.below HBr.out⟩
attribute [local go_sem] max2_int min2_int max_two min_two
theorem leafG_time (R : Nat) (s t : Int) (a b : Int) (tx : ByteArray) (A4 : Option Addr) (n4 c4 : Nat) (ky : ByteArray) (lo hi : Int) (vl : Value) (bc : Bool) (vt : Value) (w : World) (hR : w.heap[R]? = some (.cells (rdrC s t vl bc vt) 106 (0, 0))) :
  Calls Tryz.prog 64 #[.pointer (some ⟨R, 0, none⟩), .agg (#[.int .i64 9, .int .i64 a, .int .i64 b, .string tx, .slice A4 n4 c4, .string ky, .int .i64 lo, .int .i64 hi])] w fun e w' => e = .returned (.bool (decide (lo ≤ t) && decide (t < hi))) ∧ Below w.heap.size w w' := by
 have hB := blk_alloc hR (.cells (#[.int .i64 9, .int .i64 a, .int .i64 b, .string tx, .slice A4 n4 c4, .string ky, .int .i64 lo, .int .i64 hi]) 37)
 have r1 : (w.alloc (.cells (#[.int .i64 9, .int .i64 a, .int .i64 b, .string tx, .slice A4 n4 c4, .string ky, .int .i64 lo, .int .i64 hi]) 37)).cell? ⟨R, 1, none⟩ = some (.int .i64 t) := (blk_cell hB 1).trans rfl
 clear hB hR
 by_cases h1 : lo ≤ t
 ·have d1 : decide (lo ≤ t) = true := decide_eq_true h1
  by_cases h2 : t < hi
  ·have d2 : decide (t < hi) = true := decide_eq_true h2
   rw [d1, d2]
   go_enter Tryz.func64, Tryz.ntmps64
   go_wp2_with fail
   go_region
   all_goals (try go_wp2)
   all_goals go_ret
   all_goals exact ⟨rfl, by repeat (first | exact Below.refl _ _ | apply pw_below_drewN | apply below_drew1 | apply below_drew | apply below_alloc)⟩
  ·have d2 : decide (t < hi) = false := decide_eq_false h2
   rw [d1, d2]
   go_enter Tryz.func64, Tryz.ntmps64
   go_wp2_with fail
   go_region
   all_goals (try go_wp2)
   all_goals go_ret
   all_goals exact ⟨rfl, by repeat (first | exact Below.refl _ _ | apply pw_below_drewN | apply below_drew1 | apply below_drew | apply below_alloc)⟩
 ·have d1 : decide (lo ≤ t) = false := decide_eq_false h1
  rw [d1]
  go_enter Tryz.func64, Tryz.ntmps64
  go_wp2_with fail
  go_region
  all_goals (try go_wp2)
  all_goals go_ret
  all_goals exact ⟨rfl, by repeat (first | exact Below.refl _ _ | apply pw_below_drewN | apply below_drew1 | apply below_drew | apply below_alloc)⟩
theorem leafG_more (l : List Int) (A : Option Addr) (c R : Nat) (s t : Int) (bc : Bool) (vt : Value) (a b : Int) (tx4 : ByteArray) (A4 : Option Addr) (n4 c4 : Nat) (key kk tx : ByteArray) (lo hi n : Int) (k : Nat) (w : World) (hX : FieldIn w) (hC : (Kd.int .u8).C w A l.length l) (hc : l.length ≤ c)
  (hR : w.heap[R]? = some (.cells (rdrC s t (.slice A l.length c) bc vt) 106 (0, 0))) (hf : field_Get.f k l key = some (kk, 1, n, tx, true)) :
  Calls Tryz.prog 64 #[.pointer (some ⟨R, 0, none⟩), .agg (#[.int .i64 8, .int .i64 a, .int .i64 b, .string tx4, .slice A4 n4 c4, .string key, .int .i64 lo, .int .i64 hi])] w fun e w' => e = .returned (.bool (decide (lo < n))) ∧ Below w.heap.size w w' := by
 have hB := blk_alloc hR (.cells (#[.int .i64 8, .int .i64 a, .int .i64 b, .string tx4, .slice A4 n4 c4, .string key, .int .i64 lo, .int .i64 hi]) 37)
 have r2 : (w.alloc (.cells (#[.int .i64 8, .int .i64 a, .int .i64 b, .string tx4, .slice A4 n4 c4, .string key, .int .i64 lo, .int .i64 hi]) 37)).cell? ⟨R, 2, none⟩ = some (.slice A l.length c) := (blk_cell hB 2).trans rfl
 have r3 : ((w.alloc (.cells (#[.int .i64 8, .int .i64 a, .int .i64 b, .string tx4, .slice A4 n4 c4, .string key, .int .i64 lo, .int .i64 hi]) 37)).alloc (Obj.cells #[.string ⟨#[]⟩, .int .i64 0, .int .i64 0, .string ⟨#[]⟩] 110)).cell? ⟨R, 2, none⟩ = some (.slice A l.length c) := (blk_cell (blk_alloc hB _) 2).trans rfl
 have q3 : ((w.alloc (.cells (#[.int .i64 8, .int .i64 a, .int .i64 b, .string tx4, .slice A4 n4 c4, .string key, .int .i64 lo, .int .i64 hi]) 37)).alloc (Obj.cells #[.string ⟨#[]⟩, .int .i64 0, .int .i64 0, .string ⟨#[]⟩] 110)).cell? ⟨w.heap.size, 5, none⟩ = some (.string key) := (blk_cell (blk_alloc (blk_new w _) _) 5).trans rfl
 have hb0 : Below w.heap.size w (w.alloc (.cells (#[.int .i64 8, .int .i64 a, .int .i64 b, .string tx4, .slice A4 n4 c4, .string key, .int .i64 lo, .int .i64 hi]) 37)) := below_alloc (Below.refl _ _) _
 have HC := Aside0.mk (fun (W : World) (hW : Below w.heap.size w W) => field_Get.calls k A c l key kk 1 n tx true W (Kd.C_below hC hW) hc hf (hX.below hW))
 have BZ := Aside0.mk (show ((w.alloc (.cells (#[.int .i64 8, .int .i64 a, .int .i64 b, .string tx4, .slice A4 n4 c4, .string key, .int .i64 lo, .int .i64 hi]) 37)).alloc (Obj.cells #[.string ⟨#[]⟩, .int .i64 0, .int .i64 0, .string ⟨#[]⟩] 110)).heap[w.heap.size + 1]? = some (.cells #[.string ⟨#[]⟩, .int .i64 0, .int .i64 0, .string ⟨#[]⟩] 110 (0, 0)) by have h := blk_new (w.alloc (.cells (#[.int .i64 8, .int .i64 a, .int .i64 b, .string tx4, .slice A4 n4 c4, .string key, .int .i64 lo, .int .i64 hi]) 37)) (Obj.cells #[.string ⟨#[]⟩, .int .i64 0, .int .i64 0, .string ⟨#[]⟩] 110); rw [World.size_alloc] at h; exact h)
 have BX := Aside0.mk (blk_new w (.cells (#[.int .i64 8, .int .i64 a, .int .i64 b, .string tx4, .slice A4 n4 c4, .string key, .int .i64 lo, .int .i64 hi]) 37))
 have HB0 := Aside0.mk hb0
 clear hB hR hC hX hf hb0
 go_enter Tryz.func64, Tryz.ntmps64
 go_wp2_with fail
 go_region_with (go_at_call 72; refine (HC.out _ bel5).mono ?_; rintro e w1 ⟨rfl, hb1⟩; have HB1 := Aside0.mk (below_step (show Below w.heap.size w _ from bel5) hb1); have bb := blk_below (blk_below BX.out bel5) hb1; have b1 : w1.cell? ⟨w.heap.size, 0, none⟩ = some (.int .i64 8) := (blk_cell bb 0).trans rfl; have b2 : w1.cell? ⟨w.heap.size, 6, none⟩ = some (.int .i64 lo) := (blk_cell bb 6).trans rfl; have BB := Aside0.mk bb; clear bb; (first | (have bz : w1.heap[w.heap.size + 1]? = some (.cells #[.string ⟨#[]⟩, .int .i64 0, .int .i64 0, .string ⟨#[]⟩] 110 (0, 0)) := (hb1.block (w.heap.size + 1) (by simp)).trans BZ.out; have e0 : w1.cell? ⟨w.heap.size + 1, 0, none⟩ = some (.string ⟨#[]⟩) := (blk_cell bz 0).trans rfl; have f0 : w1.frozen? ⟨w.heap.size + 1, 0, none⟩ = false := blk_frozen bz 0; have e1 : w1.cell? ⟨w.heap.size + 1, 1, none⟩ = some (.int .i64 0) := (blk_cell bz 1).trans rfl; have f1 : w1.frozen? ⟨w.heap.size + 1, 1, none⟩ = false := blk_frozen bz 1; have e2 : w1.cell? ⟨w.heap.size + 1, 2, none⟩ = some (.int .i64 0) := (blk_cell bz 2).trans rfl; have f2 : w1.frozen? ⟨w.heap.size + 1, 2, none⟩ = false := blk_frozen bz 2; have e3 : w1.cell? ⟨w.heap.size + 1, 3, none⟩ = some (.string ⟨#[]⟩) := (blk_cell bz 3).trans rfl; have f3 : w1.frozen? ⟨w.heap.size + 1, 3, none⟩ = false := blk_frozen bz 3; clear bz) | (have g00 : (w1.alloc (Obj.cells #[.string ⟨#[]⟩, .int .i64 0, .int .i64 0, .string ⟨#[]⟩] 110)).cell? ⟨w.heap.size, 0, none⟩ = some (.int .i64 8) := (blk_cell (blk_alloc BB.out _) 0).trans rfl; have g06 : (w1.alloc (Obj.cells #[.string ⟨#[]⟩, .int .i64 0, .int .i64 0, .string ⟨#[]⟩] 110)).cell? ⟨w.heap.size, 6, none⟩ = some (.int .i64 lo) := (blk_cell (blk_alloc BB.out _) 6).trans rfl; have g10 : (w1.alloc (Obj.cells #[.string kk, .int .i64 1, .int .i64 n, .string tx] 110)).cell? ⟨w.heap.size, 0, none⟩ = some (.int .i64 8) := (blk_cell (blk_alloc BB.out _) 0).trans rfl; have g16 : (w1.alloc (Obj.cells #[.string kk, .int .i64 1, .int .i64 n, .string tx] 110)).cell? ⟨w.heap.size, 6, none⟩ = some (.int .i64 lo) := (blk_cell (blk_alloc BB.out _) 6).trans rfl; have bz := blk_new w1 (Obj.cells #[.string ⟨#[]⟩, .int .i64 0, .int .i64 0, .string ⟨#[]⟩] 110); have e0 : (w1.alloc (Obj.cells #[.string ⟨#[]⟩, .int .i64 0, .int .i64 0, .string ⟨#[]⟩] 110)).cell? ⟨w1.heap.size, 0, none⟩ = some (.string ⟨#[]⟩) := (blk_cell bz 0).trans rfl; have f0 : (w1.alloc (Obj.cells #[.string ⟨#[]⟩, .int .i64 0, .int .i64 0, .string ⟨#[]⟩] 110)).frozen? ⟨w1.heap.size, 0, none⟩ = false := blk_frozen bz 0; have e1 : (w1.alloc (Obj.cells #[.string ⟨#[]⟩, .int .i64 0, .int .i64 0, .string ⟨#[]⟩] 110)).cell? ⟨w1.heap.size, 1, none⟩ = some (.int .i64 0) := (blk_cell bz 1).trans rfl; have f1 : (w1.alloc (Obj.cells #[.string ⟨#[]⟩, .int .i64 0, .int .i64 0, .string ⟨#[]⟩] 110)).frozen? ⟨w1.heap.size, 1, none⟩ = false := blk_frozen bz 1; have e2 : (w1.alloc (Obj.cells #[.string ⟨#[]⟩, .int .i64 0, .int .i64 0, .string ⟨#[]⟩] 110)).cell? ⟨w1.heap.size, 2, none⟩ = some (.int .i64 0) := (blk_cell bz 2).trans rfl; have f2 : (w1.alloc (Obj.cells #[.string ⟨#[]⟩, .int .i64 0, .int .i64 0, .string ⟨#[]⟩] 110)).frozen? ⟨w1.heap.size, 2, none⟩ = false := blk_frozen bz 2; have e3 : (w1.alloc (Obj.cells #[.string ⟨#[]⟩, .int .i64 0, .int .i64 0, .string ⟨#[]⟩] 110)).cell? ⟨w1.heap.size, 3, none⟩ = some (.string ⟨#[]⟩) := (blk_cell bz 3).trans rfl; have f3 : (w1.alloc (Obj.cells #[.string ⟨#[]⟩, .int .i64 0, .int .i64 0, .string ⟨#[]⟩] 110)).frozen? ⟨w1.heap.size, 3, none⟩ = false := blk_frozen bz 3; clear bz)); clear hb1)
 all_goals (go_wp2_with fail)
 all_goals go_ret
 all_goals exact ⟨rfl, by repeat (first | apply Below.setCell (hp := Nat.le_succ _) | apply pw_below_drewN | apply below_drew | apply below_alloc | exact HB1.out)⟩
theorem leafG_phrase (base : Nat) (l : List Int) (A : Option Addr) (c R : Nat) (s t : Int) (a b : Int) (tx ky : ByteArray) (lo hi : Int) (AP : Option Addr) (cP : Nat) (p : List ByteArray) (w : World) (hC : (Kd.int .u8).C w A l.length l) (hc : l.length ≤ c) (hb : ∀ x ∈ l, 0 ≤ x ∧ x < 256) (hn : l.length ≤ 1099511627776) (hbase : base ≤ w.heap.size) (hRb : R < base)
  (hR : RdS base l s t (.slice A l.length c) R w) (hP : Kd.string.C w AP p.length p) (hcP : p.length ≤ cP) (hAP : ∀ a, AP = some a → a.block ≠ R) (hpn : p.length ≤ 1099511627776) :
  Calls Tryz.prog 64 #[.pointer (some ⟨R, 0, none⟩), .agg #[.int .i64 4, .int .i64 a, .int .i64 b, .string tx, .slice AP p.length cP, .string ky, .int .i64 lo, .int .i64 hi]] w fun e w' => e = .returned (.bool (phraseB ((cutS none l).map bT) p)) ∧ RdS base l s t (.slice A l.length c) R w' ∧ Below R w w' ∧ Kept w w' (fun k => k = R) := by
 have hb0 : Below w.heap.size w (w.alloc (.cells #[.int .i64 4, .int .i64 a, .int .i64 b, .string tx, .slice AP p.length cP, .string ky, .int .i64 lo, .int .i64 hi] 37)) := below_alloc (Below.refl _ _) _
 have HR := Aside0.mk (Nat.lt_of_lt_of_le hRb hbase)
 have HC := Aside0.mk (phraseG base l A c R s t AP cP p _ (Kd.C_below hC hb0) hc hb hn (by rw [World.size_alloc]; omega) hRb (hR.below hb0) (Kd.C_below hP hb0) hcP hAP hpn)
 have HB0 := Aside0.mk hb0
 clear hC hb hR hP hb0
 go_enter Tryz.func64, Tryz.ntmps64
 go_wp2_with fail
 refine HC.out.mono ?_
 rintro e w1 ⟨rfl, h2, h3, h4⟩
 have H2 := Aside0.mk h2
 have H3 := Aside0.mk h3
 have H4 := Aside0.mk h4
 clear h2 h3 h4
 go_wp2_with fail
 go_ret
 exact ⟨rfl, H2.out, (HB0.out.mono (Nat.le_of_lt HR.out)).trans H3.out, (Kept.of_below HB0.out _).then_ H4.out (fun k hk => .inl hk)⟩
theorem C_ne {w : World} {A : Option Addr} {p : List ByteArray} (h : Kd.string.C w A p.length p) (hp : 0 < p.length) : ∀ a, A = some a → a.block < w.heap.size := by
 rintro a rfl
 obtain ⟨ad, e, hc⟩ := Kd.at_string h 0 (Int.le_refl _) (by omega)
 cases e
 have h2 := World.block_lt_of_cell? w _ hc
 rwa [show (a.add (0 : Int).toNat).block = a.block by unfold Addr.add; split <;> rfl] at h2
structure LineIs (w : World) (l : List Int) (vl : Value) : Prop where
 mk :: (out : ∃ A c, vl = .slice A l.length c ∧ l.length ≤ c ∧ (Kd.int .u8).C w A l.length l ∧ (∀ x ∈ l, 0 ≤ x ∧ x < 256) ∧ l.length ≤ 1099511627776)
theorem leafOK_time (w : World) (l : List Int) (s t : Int) (vl : Value) (n : ND) (h9 : n.f0 = 9) : LeafOK w l s t vl n (decide (n.f6 ≤ t) && decide (t < n.f7)) := by
 intro W A c hB hs hR hC hc
 rw [h9]
 have hR' := hR
 obtain ⟨b, vt, h1, h2⟩ := hR'
 refine (leafG_time (w.heap.size + 1) s t _ _ _ _ _ _ _ _ _ _ _ _ W h1).mono ?_
 rintro e w' ⟨rfl, hb⟩
 exact ⟨rfl, hR.below hb, hb.mono (by omega), Kept.of_below hb _⟩
theorem leafOK_phrase (w : World) (l : List Int) (s t : Int) (vl : Value) (n : ND) (hl : LineIs w l vl) (h4 : n.f0 = 4) (hp : 0 < n.f4.length) (hn : n.f4.length ≤ 1099511627776) : LeafOK w l s t vl n (phraseB ((cutS none l).map bT) n.f4) := by
 obtain ⟨A, c, rfl, hc, hC, hb, hln⟩ := hl.out
 intro W A4 c4 hB hs hR hC4 hc4
 rw [h4]
 exact leafG_phrase (w.heap.size + 3) l A c (w.heap.size + 1) s t _ _ _ _ _ _ A4 c4 n.f4 W (Kd.C_below hC hB) hc hb hln hs (by omega) hR (Kd.C_below hC4 hB) hc4 (fun a ha => by have := C_ne hC4 hp a ha; omega) hn
theorem leafOK_more (w : World) (l : List Int) (s t : Int) (vl : Value) (n : ND) (hl : LineIs w l vl) (hX : FieldIn w) (h8 : n.f0 = 8) {kk tx : ByteArray} {m : Int} {k : Nat} (hf : field_Get.f k l n.f5 = some (kk, 1, m, tx, true)) : LeafOK w l s t vl n (decide (n.f6 < m)) := by
 obtain ⟨A, c, rfl, hc, hC, hb, hln⟩ := hl.out
 intro W A4 c4 hB hs hR hC4 hc4
 rw [h8]
 have hR' := hR
 obtain ⟨b, vt, h1, h2⟩ := hR'
 refine (leafG_more l A c (w.heap.size + 1) s t b vt _ _ _ A4 _ c4 _ kk tx _ _ m k W (hX.below hB) (Kd.C_below hC hB) hc h1 hf).mono ?_
 rintro e w' ⟨rfl, hb⟩
 exact ⟨rfl, hR.below hb, hb.mono (by omega), Kept.of_below hb _⟩
end Go.Proofs.YtehaodbheifokaaGreatDoor.P
end
