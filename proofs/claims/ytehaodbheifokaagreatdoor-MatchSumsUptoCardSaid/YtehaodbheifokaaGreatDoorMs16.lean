/- Joined by wip/tools/pack.py, pruned: LeafH20, Lower20. -/
import Derived.Test.YtehaodbheifokaaGreatDoorMs14
import Derived.Test.YtehaodbheifokaaGreatDoorMs15
set_option maxHeartbeats 8000000
set_option maxRecDepth 100000
set_option linter.unusedVariables false
set_option linter.unusedSimpArgs false
section
namespace Go.Proofs.YtehaodbheifokaaGreatDoor.P
open Go Go.RowKit Go.Proofs.YtehaodbheifokaaGreatDoorW.PrintWords Go.Proofs.YtehaodbheifokaaGreatDoorW.PrintLast Go.Proofs.YtehaodbheifokaaGreatDoorW.PrintMore
section
def ConvTo (P : Program) (S T : TypeId) (s : ByteArray) (w : World) (post : Ending → World → Prop) : Prop := ∃ v w', (convert S T (.string s)).run P w = .ok v w' ∧ post (.returned v) w'
theorem ConvTo.mono {P : Program} {S T : TypeId} {s : ByteArray} {w : World} {p q : Ending → World → Prop} (h : ConvTo P S T s w p) (hpq : ∀ e w', p e w' → q e w') : ConvTo P S T s w q := by
 obtain ⟨v, w', h1, h2⟩ := h
 exact ⟨v, w', h1, hpq _ _ h2⟩
section
variable {P : Program} {ops : Array Oper} {oi : Oper} {a : Act} {w : World} {Q : Exit → Act → World → Prop} {K : Act → World → Prop} {S T : TypeId} {x : Operand} {N : Option Tmp}
theorem conv_run {s : ByteArray} {v : Value} {w' : World} (hop : oi.op = .convert S T x) (hx : a.eval x = .string s) (h : (convert S T (.string s)).run P w = .ok v w') : (execOp a.eval oi).run P w = .ok (.value v) w' := by
 unfold execOp
 simp [hop, hx, h, Result.andThen]
theorem conv_ (s : ByteArray) (hw : Region.wanted oi (yielded ops a.tmps) = true) (hN : oi.dst = N) (hop : oi.op = .convert S T x) (hx : a.eval x = .string s)
  (h : ConvTo P S T s w fun e w' => ∃ v, e = .returned v ∧ K (a.put N v) w') : if Region.wanted oi (yielded ops a.tmps) = true then Oper.wp P oi a w K Q else K (a.put N undef) w := by
 obtain ⟨v, w', h1, v', h2, h3⟩ := h
 cases h2
 subst hN
 exact event_step hw (conv_run hop hx h1) h3
end
def Kr (d : Kd Int) (e : Nat) (w : World) (base : Nat) (ok : Nat → Prop) (v : Value) (xs : List Int) : Prop := (∀ k, v.ownBlock = some k → base ≤ k) ∧ ∃ A c, v = .slice A xs.length c ∧ xs.length ≤ c ∧ Kd.C d w A xs.length xs
section
variable {d : Kd Int} {e base : Nat} {w w1 : World} {ok : Nat → Prop} {v : Value} {xs : List Int}
theorem Kr.below (h : Kr d e w base ok v xs) (hb : Below w.heap.size w w1) : Kr d e w1 base ok v xs := by
 obtain ⟨h1, A, c, h2, h3, h4⟩ := h
 exact ⟨h1, A, c, h2, h3, Kd.C_below h4 hb⟩
theorem Kr.alloc (h : Kr d e w base ok v xs) (o : Obj) : Kr d e (w.alloc o) base ok v xs := h.below (below_alloc (Below.refl _ _) o)
theorem Kr.drew (h : Kr d e w base ok v xs) : Kr d e w.drew base ok v xs := h.below (below_drew (Below.refl _ _))
theorem Kr.drewN (h : Kr d e w base ok v xs) (m : Nat) : Kr d e (w.drewN m) base ok v xs := h.below (pw_below_drewN (Below.refl _ _) m)
theorem Kr.slice (h : Kr d e w base ok v xs) : ∃ A c, v = .slice A xs.length c := by
 obtain ⟨_, A, c, h2, _⟩ := h
 exact ⟨A, c, h2⟩
end
end
def prefB (p s : ByteArray) : Bool := p.data.toList.isPrefixOf s.data.toList
def memB (l : List ByteArray) (s : ByteArray) : Bool := l.any (fun x => decide (s = x))
theorem idx_l0 (l : List ByteArray) (s : ByteArray) (hl : l.length ≤ 1099511627776) : ∀ (d i k : Nat), i + d = l.length → d < k → ∃ r : Int, slices_Index_string_string.l0 k l s (l.length : Int) (i : Int) = some r ∧ decide (r ≥ 0) = (l.drop i).any (fun x => decide (s = x))
 | 0, i, k, hi, hk => by
  obtain ⟨k, rfl⟩ : ∃ m, k = m + 1 := ⟨k - 1, by omega⟩
  refine ⟨-1, ?_, ?_⟩
  ·rw [slices_Index_string_string.l0, if_neg (by omega)]
  ·rw [List.drop_eq_nil_of_le (by omega)]; rfl
 | d + 1, i, k, hi, hk => by
  obtain ⟨k, rfl⟩ : ∃ m, k = m + 1 := ⟨k - 1, by omega⟩
  have h : i < l.length := by omega
  have e1 : rdOf ByteArray.empty l (i : Int) = l[i] := by simp [rdOf, List.getD, h]
  rw [slices_Index_string_string.l0, if_pos (by omega), if_pos (by omega), if_pos (by omega), e1, List.drop_eq_getElem_cons h, List.any_cons]
  by_cases h2 : s = l[i]
  ·refine ⟨(i : Int), by rw [if_pos (by rw [h2])], ?_⟩
   rw [decide_eq_true h2, decide_eq_true (show (i : Int) ≥ 0 by omega)]; rfl
  ·rw [if_neg (fun e => h2 (bytes_inj0.1 e)), decide_eq_false h2, Bool.false_or]
   have ew : wrap64 ((i : Int) + 1) = ((i + 1 : Nat) : Int) := by unfold wrap64; omega
   rw [ew]
   exact idx_l0 l s hl d (i + 1) k (by omega) (by omega)
theorem mem_f (l : List ByteArray) (s : ByteArray) (hl : l.length ≤ 1099511627776) : slices_Contains_string_string.f (l.length + 1) l s = some (memB l s) := by
 obtain ⟨r, h1, h2⟩ := idx_l0 l s hl l.length 0 (l.length + 1) (by omega) (by omega)
 unfold slices_Contains_string_string.f slices_Index_string_string.f
 have h1' : slices_Index_string_string.l0 (l.length + 1) l s (l.length : Int) 0 = some r := h1
 rw [h1', Option.bind_some]
 exact congrArg some h2
theorem C_own {w : World} {base : Nat} {A : Option Addr} {n c : Nat} {ts : List (List Int)} (h : w.ownsRow base 9 1 (.slice A n c) n (strV ts)) (hl : ts.length = n) (hn : n ≤ 1099511627776) : Kd.C Kd.string w A n (ts.map bT) := by
 rcases h.2 with ⟨h1, h2⟩ | ⟨g, cap, cur, hv, _, hk, hle, _, hsz, ht⟩
 ·obtain rfl : n = 0 := h2
  have : ts = [] := List.eq_nil_of_length_eq_zero hl
  rw [this]
  exact C_none _
 ·cases hv
  refine C_str (by rw [List.length_map]; exact hl) (by omega) fun j t hj => ?_
  rw [WideShapes.add_plain, blk_cell hk]
  rw [List.getElem?_map] at hj
  obtain ⟨tt, h3, rfl⟩ := Option.map_eq_some_iff.1 hj
  have hjn : j < n := by have := (List.getElem?_eq_some_iff.1 h3).1; omega
  have e1 : (cur.toList.take (n * 1))[j]? = some (.string (bT tt)) := by rw [ht]; unfold strV; rw [List.getElem?_map, h3]; rfl
  rw [List.getElem?_take_of_lt (by omega)] at e1
  rw [Nat.zero_add, ← Array.getElem?_toList, e1]
theorem hasPrefix_calls (s p : ByteArray) (w : World) :
  Calls Tryz.prog 89 #[.string s, .string p] w fun e w' => e = .returned (.bool (prefB p s)) ∧ Drawn0 w w' := by
 refine (Tryz.strings_HasPrefix s p w).mono ?_
 rintro e w' ⟨rfl, rfl⟩
 refine ⟨?_, Drawn0.refl _⟩
 rfl
theorem prefix_calls (g : Nat) (p s : ByteArray) (w : World) (hg : w.cell? ⟨g, 3, none⟩ = some (.string p)) :
  Calls Tryz.prog 88 #[.string s, .pointer (some ⟨g, 0, none⟩)] w fun e w' => e = .returned (.bool (prefB p s)) ∧ Drawn0 w w' := by
 have HT := Aside0.mk (hasPrefix_calls s p)
 go_enter Tryz.func88, Tryz.ntmps88
 go_wp2_with fail
 refine (HT.out _).mono ?_
 rintro e w1 ⟨rfl, hd⟩
 have HD := Aside0.mk hd
 clear hd
 go_wp2_with fail
 go_ret
 exact ⟨rfl, HD.out⟩
theorem bytesOf_in (s : ByteArray) : ∀ x ∈ bytesOf s, 0 ≤ x ∧ x < 256 := by
 intro x hx
 obtain ⟨b, _, rfl⟩ := List.mem_map.1 hx
 have := b.toNat_lt
 omega
theorem subMade (W : World) (s : ByteArray) (hs : s.size ≤ 9223372036854775807) : Kd.C (Kd.int .u8) (Lib.bytesWorld W 5 s) (some ⟨W.heap.size, 0, none⟩) s.size (bytesOf s) := by
 have h := bytes_reads W 5 s hs
 exact Kd.C_of_reads (h1 := fun _ => rfl) h
def subB (l ys : List Int) : Bool := Lib.contains (Lib.bytesOf l) (Lib.bytesOf ys)
theorem subIn_calls (A : Option Addr) (c g c2 : Nat) (l ys : List Int) (w : World) (hm : ∃ m, w.cell? ⟨0, 0, none⟩ = some (.int .i64 m)) (hC : (Kd.int .u8).C w A l.length l) (hc : l.length ≤ c) (hA : A = none → c = 0) (hb : ∀ x ∈ l, 0 ≤ x ∧ x < 256) (hn : l.length < 4294967281)
  (hC2 : (Kd.int .u8).C w (some ⟨g, 0, none⟩) ys.length ys) (hb2 : ∀ x ∈ ys, 0 ≤ x ∧ x < 256) :
  Calls Tryz.prog 91 #[.slice A l.length c, .slice (some ⟨g, 0, none⟩) ys.length c2] w fun e w' => e = .returned (.bool (subB l ys)) ∧ Drawn0 w w' := by
 obtain ⟨m, hm⟩ := hm
 have r2 := Kd.reads_of_C (enc := Value.int .u8) (d := (0 : Int)) (h1 := fun _ => rfl) hC2
 have k2 : ∀ i, i < ys.length → w.cell? ((⟨g, 0, none⟩ : Addr).add i) = some (.int .u8 (ys.getD i 0)) := fun i hi => by
  obtain ⟨ad, e, h⟩ := r2.2.2 (by omega)
  cases e
  exact h i hi
 cases A with
 | none =>
  obtain rfl := hA rfl
  obtain rfl : l = [] := List.eq_nil_of_length_eq_zero (by omega)
  refine (Tryz.bytes_Contains_nil (some ⟨g, 0, none⟩) ys.length c2 w r2.2.1 (fun h => ⟨g, 0, ys.getD 0 0, rfl, ?_⟩)).mono ?_
  ·have := k2 0 (by omega)
   rwa [WideShapes.add_plain] at this
  ·rintro e w' ⟨rfl, rfl⟩
   refine ⟨?_, Drawn0.refl _⟩
   refine congrArg (fun z => Ending.returned (Value.bool z)) ?_
   cases ys with
   | nil => rfl
   | cons y ys => rfl
 | some a =>
  have r1 := Kd.reads_of_C (enc := Value.int .u8) (d := (0 : Int)) (h1 := fun _ => rfl) hC
  refine (Tryz.bytes_Contains_at a ⟨g, 0, none⟩ l.length c ys.length c2 l ys m w rfl rfl hb hb2 (fun i hi => ?_) k2 hc hn r2.2.1 hm).mono ?_
  ·obtain ⟨ad, e, h⟩ := r1.2.2 (by omega)
   cases e
   exact h i hi
  ·rintro e w' ⟨rfl, q, rfl⟩
   exact ⟨rfl, ⟨⟨q, rfl⟩⟩⟩
abbrev nodeV (k a b : Int) (tx : ByteArray) (v4 : Value) (ky : ByteArray) (lo hi : Int) : Array Value := #[.int .i64 k, .int .i64 a, .int .i64 b, .string tx, v4, .string ky, .int .i64 lo, .int .i64 hi]
theorem indexP (A : Option Addr) (c : Nat) (tm : List ByteArray) (g : Nat) (p : ByteArray) (w : World) (hG : ∀ (m : Nat) s, Calls Tryz.prog 88 #[.string s, .pointer (some ⟨g, 0, none⟩)] (w.drewN m) fun e w' => e = .returned (.bool (prefB p s)) ∧ Drawn0 (w.drewN m) w') (hC : Kd.string.C w A tm.length tm) (hc : tm.length ≤ c) (hn : tm.length ≤ 1099511627776) :
  Calls Tryz.prog 104 #[.slice A tm.length c, .func (.func 88) #[] #[.pointer (some ⟨g, 0, none⟩)]] w fun e w' => ∃ i : Int, e = .returned (.int .i64 i) ∧ decide (0 ≤ i) = (tm.any (prefB p)) ∧ Drawn0 w w' := by
 have HC := Aside0.mk hC
 have HG := Aside0.mk hG
 clear hC hG
 go_enter Tryz.func104, Tryz.ntmps104
 go_wp2_with fail
 go_loopg [8] tm.length (fun kq v8 wr => ∃ i : Nat, v8 = .int .i64 (i : Int) ∧ Aside0 (kq + i = tm.length) ∧ Aside0 (∀ j, j < i → ∀ s, tm[j]? = some s → prefB p s = false) ∧ Drawn0 w wr)
 case atStart => exact ⟨0, rfl, ⟨rfl⟩, ⟨fun j h => by omega⟩, Drawn0.refl _⟩
 case round =>
  obtain ⟨i, rfl, HI, HA, HD⟩ := hrel
  obtain ⟨⟨m, rfl⟩⟩ := HD
  by_cases hi : i < tm.length
  ·have d0 : decide ((i : Int) < (tm.length : Int)) = true := decide_eq_true (by omega)
   have d1 : decide (i < tm.length) = true := decide_eq_true hi
   obtain ⟨ad, rfl, c0⟩ := Kd.at_string (Kd.C_drewN HC.out m) (i : Int) (by omega) (by omega)
   rw [Int.toNat_natCast] at c0
   have hs : tm[i]? = some (rdOf ByteArray.empty tm (i : Int)) := by simp [rdOf, List.getD, hi]
   have HS := Aside0.mk hs
   obtain ⟨b, hb⟩ : ∃ b, prefB p (rdOf ByteArray.empty tm (i : Int)) = b := ⟨_, rfl⟩
   have HB := Aside0.mk hb
   have hN := HG.out m (rdOf ByteArray.empty tm (i : Int))
   rw [hb] at hN
   have HN := Aside0.mk hN
   clear hN
   clear hb hs
   have HIL := Aside0.mk hi
   go_wp2_with fail
   refine HN.out.mono ?_
   rintro e w3 ⟨rfl, ⟨⟨n3, rfl⟩⟩⟩
   cases b
   ·go_wp2_with fail
    have ew : (i : Int) + 1 = ((i + 1 : Nat) : Int) := rfl
    try rw [show wrap64 ((i : Int) + 1) = ((i + 1 : Nat) : Int) by have := HIL.out; unfold wrap64; omega]
    try rw [ew]
    go_roundg (tm.length - i - 1)
    case measure => have := HI.out; have := HIL.out; omega
    case rel =>
     refine ⟨i + 1, rfl, ⟨by have := HI.out; have := HIL.out; omega⟩, ⟨fun j hj s hs => ?_⟩, ⟨⟨_, rfl⟩⟩⟩
     by_cases hji : j = i
     ·subst hji
      rw [HS.out] at hs
      cases hs
      exact HB.out
     ·exact HA.out j (by omega) s hs
   ·go_wp2_with fail
    go_ret
    refine ⟨_, rfl, ?_, ⟨⟨_, rfl⟩⟩⟩
    rw [decide_eq_true (by omega)]
    exact (List.any_eq_true.2 ⟨_, List.mem_of_getElem? HS.out, HB.out⟩).symm
  ·have d0 : decide ((i : Int) < (tm.length : Int)) = false := decide_eq_false (by omega)
   have d1 : decide (i < tm.length) = false := decide_eq_false hi
   go_wp2_with fail
   go_ret
   refine ⟨_, rfl, ?_, ⟨⟨_, rfl⟩⟩⟩
   have : tm.any (prefB p) = false := by
    cases e : tm.any (prefB p) with
    | false => rfl
    | true =>
     obtain ⟨s, hs, h2⟩ := List.any_eq_true.1 e
     obtain ⟨j, hj⟩ := List.getElem?_of_mem hs
     have hl := (List.getElem?_eq_some_iff.1 hj).1
     rw [HA.out j (by omega) s hj] at h2
     exact absurd h2 (by decide)
   rw [this]; rfl
theorem containsP (A : Option Addr) (c : Nat) (tm : List ByteArray) (g : Nat) (p : ByteArray) (w : World) (hG : ∀ (m : Nat) s, Calls Tryz.prog 88 #[.string s, .pointer (some ⟨g, 0, none⟩)] (w.drewN m) fun e w' => e = .returned (.bool (prefB p s)) ∧ Drawn0 (w.drewN m) w') (hC : Kd.string.C w A tm.length tm) (hc : tm.length ≤ c) (hn : tm.length ≤ 1099511627776) :
  Calls Tryz.prog 82 #[.slice A tm.length c, .func (.func 88) #[] #[.pointer (some ⟨g, 0, none⟩)]] w fun e w' => e = .returned (.bool (tm.any (prefB p))) ∧ Drawn0 w w' := by
 have hX := indexP A c tm g p w hG hC hc hn
 obtain ⟨b, hb⟩ : ∃ b, (tm.any (prefB p)) = b := ⟨_, rfl⟩
 rw [hb] at hX ⊢
 have HX := Aside0.mk hX
 clear hC hG hb hX
 go_enter Tryz.func82, Tryz.ntmps82
 go_wp2_with fail
 refine HX.out.mono ?_
 rintro e w3 ⟨i, rfl, hi, hd⟩
 have HD := Aside0.mk hd
 subst hi
 clear hd
 go_wp2_with fail
 all_goals go_ret
 all_goals exact ⟨by rfl, HD.out⟩
theorem up_made {W : World} {p : Addr} {v : Value} (h : W.cell? p = some v) (s : ByteArray) : (Lib.bytesWorld W 5 s).cell? p = some v := ((bytes_below (B := W.heap.size) (Below.refl _ _) (Nat.le_refl _) _ _).cell (World.block_lt_of_cell? _ _ h)).trans h
def match_leaf.T9 : Bool × List (List Nat × List Nat) := (true, [([], []), ([0], [0]), ([1], [1]), ([2], [2]), ([3], [3]), ([], []), ([5], [5]), ([6], [6]), ([4, 7], [4, 7]), ([8, 8, 0, 1, 2, 3, 4, 5, 6, 7, 8], [8])])
def match_leaf.B9 : List Nat := [0, 1, 3, 7, 15, 0, 32, 96, 255, 511]
theorem match_leaf.tab9 : rtab .any (opsOf Tryz.f64 9) = match_leaf.T9 := by kernel_rfl
theorem match_leaf.bits9 : waitsOk match_leaf.T9.2 match_leaf.B9 = true := by kernel_rfl
section
variable (base : Nat) (l : List Int) (A : Option Addr) (c R : Nat) (s t : Int) (a b : Int) (tx ky : ByteArray) (lo hi : Int) (A4 : Option Addr) (n4 c4 : Nat) (w : World) (hC : (Kd.int .u8).C w A l.length l) (hc : l.length ≤ c) (hb : ∀ x ∈ l, 0 ≤ x ∧ x < 256) (hn : l.length ≤ 1099511627776) (hbase : base ≤ w.heap.size) (hRb : R < base)
  (hR : RdS base l s t (.slice A l.length c) R w)
include hC hc hb hn hbase hRb hR
theorem leafG_term :
  Calls Tryz.prog 64 #[.pointer (some ⟨R, 0, none⟩), .agg (nodeV 2 a b tx (.slice A4 n4 c4) ky lo hi)] w fun e w' => e = .returned (.bool (memB ((cutS none l).map bT) tx)) ∧ RdS base l s t (.slice A l.length c) R w' ∧ Below R w w' ∧ Kept w w' (fun k => k = R) := by
 have hb0 : Below w.heap.size w (w.alloc (.cells (nodeV 2 a b tx (.slice A4 n4 c4) ky lo hi) 37)) := below_alloc (Below.refl _ _) _
 have HR := Aside0.mk (Nat.lt_of_lt_of_le hRb hbase)
 have HT := Aside0.mk (fun (W : World) (hW : Below w.heap.size w W) => tokensG base l A c R s t W (Kd.C_below hC hW) hc hb hn (Nat.le_trans hbase hW.size) hRb (hR.below hW))
 have HB0 := Aside0.mk hb0
 have HN := Aside0.mk (blk_new w (.cells (nodeV 2 a b tx (.slice A4 n4 c4) ky lo hi) 37))
 have HLN := Aside0.mk (cutS_len l).1
 clear hC hb hR hb0
 unfold RdS
 go_enter Tryz.func64, Tryz.ntmps64
 go_wp2_with fail
 go_region_with (first | (go_at_call 87; refine (HT.out _ bel5).mono ?_; rintro e w1 ⟨v, rfl, h1, h2, h3, h4⟩; obtain ⟨AT, cT, rfl, hcT⟩ := own_sl h1; have hn1 := blk_kept (blk_below HN.out bel5) h4 (by have := HR.out; omega); have k3 : w1.cell? ⟨w.heap.size, 3, none⟩ = some (.string tx) := (blk_cell hn1 3).trans rfl; have hm := slices_Contains_string_string.calls _ AT cT ((cutS none l).map bT) tx _ w1 (by rw [List.length_map]; exact C_own h1 rfl (by have := HLN.out; omega)) (by rw [List.length_map]; exact hcT) (mem_f _ tx (by rw [List.length_map]; have := HLN.out; omega)); rw [List.length_map] at hm; have HM := Aside0.mk hm; have H1 := Aside0.mk h1; have H2 := Aside0.mk h2; have H3 := Aside0.mk (((show Below w.heap.size w _ from bel5).mono (Nat.le_of_lt HR.out)).trans h3); have H4 := Aside0.mk ((Kept.of_below (show Below w.heap.size w _ from bel5) (fun k => k = R)).then_ h4 (fun k hk => .inl hk)); clear h1 h2 h3 h4 hn1 hm) | (go_at_call 86; refine HM.out.mono ?_; rintro e w2 ⟨rfl, hd⟩; have HB := Aside0.mk hd.below; clear hd))
 all_goals (try go_wp2_with fail)
 all_goals go_ret
 all_goals exact ⟨rfl, ⟨true, _, blk_below H2.out HB.out, .inr ⟨rfl, pw_own_below H1.out HB.out⟩⟩, H3.out.trans (HB.out.mono (by have h5 := H4.out.1; have := HR.out; omega)), H4.out.below HB.out⟩
theorem leafG_prefix :
  Calls Tryz.prog 64 #[.pointer (some ⟨R, 0, none⟩), .agg (nodeV 3 a b tx (.slice A4 n4 c4) ky lo hi)] w fun e w' => e = .returned (.bool (((cutS none l).map bT).any (prefB tx))) ∧ RdS base l s t (.slice A l.length c) R w' ∧ Below R w w' ∧ Kept w w' (fun k => k = R) := by
 have hb0 : Below w.heap.size w (w.alloc (.cells (nodeV 3 a b tx (.slice A4 n4 c4) ky lo hi) 37)) := below_alloc (Below.refl _ _) _
 have HR := Aside0.mk (Nat.lt_of_lt_of_le hRb hbase)
 have HT := Aside0.mk (fun (W : World) (hW : Below w.heap.size w W) => tokensG base l A c R s t W (Kd.C_below hC hW) hc hb hn (Nat.le_trans hbase hW.size) hRb (hR.below hW))
 have HB0 := Aside0.mk hb0
 have HN := Aside0.mk (blk_new w (.cells (nodeV 3 a b tx (.slice A4 n4 c4) ky lo hi) 37))
 have HLN := Aside0.mk (cutS_len l).1
 clear hC hb hR hb0
 unfold RdS
 go_enter Tryz.func64, Tryz.ntmps64
 go_wp2_with fail
 refine (HT.out _ (by repeat (first | exact Below.refl _ _ | apply below_alloc))).mono ?_
 rintro e w1 ⟨v, rfl, h1, h2, h3, h4⟩
 obtain ⟨AT, cT, rfl, hcT⟩ := own_sl h1
 have hn1 := blk_kept HN.out h4 (by have := HR.out; omega)
 have hm := containsP AT cT ((cutS none l).map bT) w.heap.size tx w1 (fun m s => prefix_calls w.heap.size tx s _ ((blk_cell hn1 3).trans rfl)) (by rw [List.length_map]; exact C_own h1 rfl (by have := HLN.out; omega)) (by rw [List.length_map]; exact hcT) (by rw [List.length_map]; have := HLN.out; omega)
 rw [List.length_map] at hm
 have HM := Aside0.mk hm
 have H1 := Aside0.mk h1
 have H2 := Aside0.mk h2
 have H3 := Aside0.mk ((HB0.out.mono (Nat.le_of_lt HR.out)).trans h3)
 have H4 := Aside0.mk ((Kept.of_below HB0.out (fun k => k = R)).then_ h4 (fun k hk => .inl hk))
 clear h1 h2 h3 h4 hn1 hm
 go_wp2_with fail
 refine HM.out.mono ?_
 rintro e w2 ⟨rfl, hd⟩
 have HB := Aside0.mk hd.below
 clear hd
 go_wp2_with fail
 go_ret
 exact ⟨by rw [List.any_map]; rfl, ⟨true, _, blk_below H2.out HB.out, .inr ⟨rfl, pw_own_below H1.out HB.out⟩⟩, H3.out.trans (HB.out.mono (by have h5 := H4.out.1; have := HR.out; omega)), H4.out.below HB.out⟩
theorem leafG_sub (hX : FieldIn w) (hA : A = none → c = 0) (hn2 : l.length < 4294967281) (hts : tx.size ≤ 9223372036854775807) :
  Calls Tryz.prog 64 #[.pointer (some ⟨R, 0, none⟩), .agg (nodeV 5 a b tx (.slice A4 n4 c4) ky lo hi)] w fun e w' => e = .returned (.bool (subB l (bytesOf tx))) ∧ Below w.heap.size w w' := by
 have hu_ := And.intro hn (And.intro hbase hRb)
 clear hu_
 obtain ⟨bc, vt, hR1, hR2⟩ := hR
 have hcv := fun W : World => print_bytes (P := Tryz.prog) 9 25 5 Tryz.underlying9 Tryz.underlying25 Tryz.underlying5 tx W
 have hB0 := blk_alloc hR1 (.cells (nodeV 5 a b tx (.slice A4 n4 c4) ky lo hi) 37)
 have r2 : (w.alloc (.cells (nodeV 5 a b tx (.slice A4 n4 c4) ky lo hi) 37)).cell? ⟨R, 2, none⟩ = some (.slice A l.length c) := (blk_cell hB0 2).trans rfl
 have r3 : (w.alloc (.cells (nodeV 5 a b tx (.slice A4 n4 c4) ky lo hi) 37)).cell? ⟨w.heap.size, 3, none⟩ = some (.string tx) := (blk_cell (blk_new w _) 3).trans rfl
 have HC := Aside0.mk (fun (W : World) (hW : Below w.heap.size w W) => fun g c2 hC2 => subIn_calls A c g c2 l (bytesOf tx) W (hX.below hW).max (Kd.C_below hC hW) hc hA hb hn2 hC2 (bytesOf_in tx))
 rw [bytesOf_length] at HC
 have HT := Aside0.mk hts
 clear hC hb hR1 hR2 hB0 hX hts
 go_enter Tryz.func64, Tryz.ntmps64
 go_wp2_with fail
 refine start_ (n := 10) (S := fun w' => w'.cell? ⟨R, 2, none⟩ = some (.slice A l.length c) ∧ w'.cell? ⟨w.heap.size, 3, none⟩ = some (.string tx)) (ds := []) #[false, false, false, false, false, false, false, false, false, false] (by kernel_rfl) rfl rfl ⟨r2, r3⟩ (fun hHeld => ?_)
 refine with_tabW match_leaf.tab9 match_leaf.bits9 (fun HT_ HW_ => ?_)
 refine pS 0 (some 30) HT_ ?_
 refine pS 1 (some 31) HT_ ?_
 refine pS 2 (some 32) HT_ ?_
 refine pS 3 (some 33) HT_ ?_
 refine tS 4 (some 34) HT_ HW_ hHeld ?_
 refine pS 5 (some 35) HT_ ?_
 refine tS 6 (some 36) HT_ HW_ hHeld ?_
 refine one_ (i := 7) (N := some 37) #[true, true, true, true, true, true, true, true, false, false] rfl rfl (one_of HT_.out (by kernel_rfl)) (by decide) (fun K hK => ?_)
 refine conv_ tx (by rfl) rfl rfl (by rfl) ?_
 refine ⟨_, _, hcv _, _, rfl, ?_⟩
 refine hK.out _ _ ⟨up_made hHeld.1 tx, up_made hHeld.2 tx⟩ (fun hHeld => ?_)
 clear hK K
 refine norm_ (a' := ?_) ?_ ?_
 rotate_left
 ·show Act.put _ (some 37) _ = _
  simp only [Act.put, List.setIfInBounds_toArray, List.set_cons_zero, List.set_cons_succ, i64_w, i32_w]
  rfl
 refine one_ (i := 8) (N := some 38) #[true, true, true, true, true, true, true, true, true, false] rfl rfl (one_of HT_.out (by kernel_rfl)) (by decide) (fun K hK => ?_)
 refine goes_ Tryz.func91 (by kernel_rfl) rfl #[.slice A l.length c, .slice (some ⟨(w.alloc (.cells (nodeV 5 a b tx (.slice A4 n4 c4) ky lo hi) 37)).drew.heap.size, 0, none⟩) tx.size (grownCap (w.alloc (.cells (nodeV 5 a b tx (.slice A4 n4 c4) ky lo hi) 37)).drew tx.size 0 5)] (by rfl) rfl rfl (by (try simp only [List.map_toArray, List.map_cons, List.map_nil]); first | done | rfl) ?_
 refine (HC.out _ (bytes_below (below_drew (below_alloc (Below.refl _ _) _)) (by simp) _ _) _ _ (subMade _ tx HT.out)).mono ?_
 rintro e w' ⟨rfl, ⟨⟨nd, rfl⟩⟩⟩
 refine ⟨_, rfl, ?_⟩
 refine hK.out _ _ hHeld (fun hHeld => ?_)
 clear hK K
 refine norm_ (a' := ?_) ?_ ?_
 rotate_left
 ·show Act.put _ (some 38) _ = _
  simp only [Act.put, List.setIfInBounds_toArray, List.set_cons_zero, List.set_cons_succ, i64_w, i32_w]
  rfl
 refine pS 9 (some 4) HT_ ?_
 refine done_ (done_of HT_.out (by kernel_rfl)) ?_
 clear hHeld HT_ HW_
 go_wp2_with fail
 go_ret
 exact ⟨rfl, pw_below_drewN (bytes_below (below_drew (below_alloc (Below.refl _ _) _)) (by simp) _ _) nd⟩
theorem leafG_all :
  Calls Tryz.prog 64 #[.pointer (some ⟨R, 0, none⟩), .agg (nodeV 1 a b tx (.slice A4 n4 c4) ky lo hi)] w fun e w' => e = .returned (.bool true) ∧ Below w.heap.size w w' := by
 have hu_ := And.intro hC (And.intro hc (And.intro hb (And.intro hn (And.intro hbase (And.intro hRb hR)))))
 clear hu_
 clear hC hb hR
 go_enter Tryz.func64, Tryz.ntmps64
 go_wp2_with fail
 go_ret
 exact ⟨rfl, below_alloc (Below.refl _ _) _⟩
end
structure LineN (w : World) (l : List Int) (vl : Value) : Prop where
 mk :: (out : ∃ A c, vl = .slice A l.length c ∧ l.length ≤ c ∧ (Kd.int .u8).C w A l.length l ∧ (∀ x ∈ l, 0 ≤ x ∧ x < 256) ∧ l.length ≤ 1099511627776 ∧ (A = none → c = 0))
theorem LineN.is {w : World} {l : List Int} {vl : Value} (h : LineN w l vl) : LineIs w l vl := by
 obtain ⟨A, c, h1, h2, h3, h4, h5, _⟩ := h.out
 exact ⟨⟨A, c, h1, h2, h3, h4, h5⟩⟩
theorem LineN.below {w W : World} {l : List Int} {vl : Value} (h : LineN w l vl) (hb : Below w.heap.size w W) : LineN W l vl := by
 obtain ⟨A, c, h1, h2, h3, h4, h5, h6⟩ := h.out
 exact ⟨⟨A, c, h1, h2, Kd.C_below h3 hb, h4, h5, h6⟩⟩
theorem LineIs.below {w W : World} {l : List Int} {vl : Value} (h : LineIs w l vl) (hb : Below w.heap.size w W) : LineIs W l vl := by
 obtain ⟨A, c, h1, h2, h3, h4, h5⟩ := h.out
 exact ⟨⟨A, c, h1, h2, Kd.C_below h3 hb, h4, h5⟩⟩
theorem LineIs.slice {w : World} {l : List Int} {vl : Value} (h : LineIs w l vl) : ∃ a n m, vl = .slice a n m := by
 obtain ⟨A, c, h1, _⟩ := h.out
 exact ⟨_, _, _, h1⟩
theorem LineN.slice {w : World} {l : List Int} {vl : Value} (h : LineN w l vl) : ∃ a n m, vl = .slice a n m := by
 obtain ⟨A, c, h1, _⟩ := h.out
 exact ⟨_, _, _, h1⟩
theorem leafOK_all (w : World) (l : List Int) (s t : Int) (vl : Value) (n : ND) (hl : LineIs w l vl) (h1 : n.f0 = 1) : LeafOK w l s t vl n true := by
 obtain ⟨A, c, rfl, hc, hC, hb, hln⟩ := hl.out
 intro W A4 c4 hB hs hR hC4 hc4
 rw [h1]
 refine (leafG_all (w.heap.size + 3) l A c (w.heap.size + 1) s t _ _ _ _ _ _ _ _ _ W (Kd.C_below hC hB) hc hb hln hs (by omega) hR).mono ?_
 rintro e w' ⟨rfl, hb⟩
 exact ⟨rfl, hR.below hb, hb.mono (by omega), Kept.of_below hb _⟩
theorem leafOK_term (w : World) (l : List Int) (s t : Int) (vl : Value) (n : ND) (hl : LineIs w l vl) (h1 : n.f0 = 2) : LeafOK w l s t vl n (memB ((cutS none l).map bT) n.f3) := by
 obtain ⟨A, c, rfl, hc, hC, hb, hln⟩ := hl.out
 intro W A4 c4 hB hs hR hC4 hc4
 rw [h1]
 exact leafG_term (w.heap.size + 3) l A c (w.heap.size + 1) s t _ _ _ _ _ _ _ _ _ W (Kd.C_below hC hB) hc hb hln hs (by omega) hR
theorem leafOK_prefix (w : World) (l : List Int) (s t : Int) (vl : Value) (n : ND) (hl : LineIs w l vl) (h1 : n.f0 = 3) : LeafOK w l s t vl n (((cutS none l).map bT).any (prefB n.f3)) := by
 obtain ⟨A, c, rfl, hc, hC, hb, hln⟩ := hl.out
 intro W A4 c4 hB hs hR hC4 hc4
 rw [h1]
 exact leafG_prefix (w.heap.size + 3) l A c (w.heap.size + 1) s t _ _ _ _ _ _ _ _ _ W (Kd.C_below hC hB) hc hb hln hs (by omega) hR
theorem leafOK_sub (w : World) (l : List Int) (s t : Int) (vl : Value) (n : ND) (hl : LineN w l vl) (hX : FieldIn w) (hn : l.length < 4294967281) (ht : n.f3.size ≤ 9223372036854775807) (h1 : n.f0 = 5) : LeafOK w l s t vl n (subB l (bytesOf n.f3)) := by
 obtain ⟨A, c, rfl, hc, hC, hb, hln, hA⟩ := hl.out
 intro W A4 c4 hB hs hR hC4 hc4
 rw [h1]
 refine (leafG_sub (w.heap.size + 3) l A c (w.heap.size + 1) s t _ _ _ _ _ _ _ _ _ W (Kd.C_below hC hB) hc hb hln hs (by omega) hR (hX.below hB) hA hn ht).mono ?_
 rintro e w' ⟨rfl, hb⟩
 exact ⟨rfl, hR.below hb, hb.mono (by omega), Kept.of_below hb _⟩
def MarkedB (g : Nat) (xs : List Int) (W : World) : Prop := ∃ cs, W.heap[g]? = some (.cells cs 5 (cs.size, cs.size + 1)) ∧ xs.length ≤ cs.size ∧ ∀ (j : Nat) x, xs[j]? = some x → cs[j]? = some (.int .u8 x)
theorem MarkedB.cell {g : Nat} {xs : List Int} {W : World} (h : MarkedB g xs W) {j : Nat} {x : Int} (hx : xs[j]? = some x) : W.cell? ⟨g, j, none⟩ = some (.int .u8 x) := by
 obtain ⟨cs, h1, h2, h3⟩ := h
 rw [cell_of_row W g j cs _ _ h1]
 exact h3 j x hx
theorem MarkedB.frozen {g : Nat} {xs : List Int} {W : World} (h : MarkedB g xs W) {j : Nat} (hj : j < xs.length) : W.frozen? ⟨g, j, none⟩ = false := by
 obtain ⟨cs, h1, h2, h3⟩ := h
 simp [World.frozen?, h1]
 omega
theorem MarkedB.put {g : Nat} {xs : List Int} {W : World} (h : MarkedB g xs W) (j : Nat) (x : Int) : MarkedB g (xs.set j x) (W.setCell ⟨g, j, none⟩ (.int .u8 x)) := by
 obtain ⟨cs, h1, h2, h3⟩ := h
 have hg : g < W.heap.size := (Array.getElem?_eq_some_iff.1 h1).1
 have e : (W.setCell ⟨g, j, none⟩ (.int .u8 x)).heap[g]? = some (.cells (cs.setIfInBounds j (.int .u8 x)) 5 (cs.size, cs.size + 1)) := by
  unfold World.setCell
  simp [Array.getElem?_modify, h1]
 refine ⟨_, by rw [e, Array.size_setIfInBounds], by rw [List.length_set, Array.size_setIfInBounds]; exact h2, fun i y hy => ?_⟩
 rw [List.getElem?_set] at hy
 by_cases hij : j = i
 ·subst hij
  rw [if_pos rfl] at hy
  by_cases hl : j < xs.length
  ·rw [if_pos hl] at hy
   cases hy
   rw [Array.getElem?_setIfInBounds_self_of_lt (by omega)]
  ·rw [if_neg hl] at hy; cases hy
 ·rw [if_neg hij] at hy
  rw [Array.getElem?_setIfInBounds_ne hij]
  exact h3 i y hy
theorem MarkedB.made (W : World) (s : ByteArray) : MarkedB W.heap.size (bytesOf s) (Lib.bytesWorld W 5 s) := by
 refine ⟨_, Lib.bytesWorld_at_new W 5 s, ?_, fun j x hx => ?_⟩
 ·rw [bytesOf_length]
  simp [Lib.bytesCells]
 ·have hj := (List.getElem?_eq_some_iff.1 hx).1
  have h := Lib.bytesWorld_cell W 5 s j (by rw [bytesOf_length] at hj; exact hj)
  rw [cell_of_row _ _ j _ _ _ (Lib.bytesWorld_at_new W 5 s)] at h
  rw [h]
  have h2 : s.data.toList.length = s.size := by rw [Array.length_toList]; rfl
  rw [bytesOf_length] at hj
  simp [bytesOf, List.getElem?_map] at hx
  obtain ⟨b, hb, rfl⟩ := hx
  simp [List.getD, hb]
theorem MarkedB.C {g : Nat} {xs : List Int} {W : World} (h : MarkedB g xs W) (hn : xs.length ≤ 1099511627776) : Kd.C (Kd.int .u8) W (some ⟨g, 0, none⟩) xs.length xs := by
 refine ⟨rfl, by omega, fun _ => ⟨⟨g, 0, none⟩, rfl, fun j p hj => ⟨[.int .u8 p], rfl, rfl, fun i u hi => ?_⟩⟩⟩
 obtain ⟨rfl, rfl⟩ : i = 0 ∧ u = .int .u8 p := by
  cases i with
  | zero => simp at hi; exact ⟨rfl, hi.symm⟩
  | succ i => simp at hi
 show W.cell? _ = _
 rw [WideShapes.add_plain, show 0 + (j * (Kd.int .u8).sz + 0) = j by show 0 + (j * 1 + 0) = j; omega]
 exact h.cell hj
def lowTo (xs : List Int) (i : Nat) : List Int := (xs.take i).map lowB ++ xs.drop i
theorem lowTo_next {xs : List Int} {i : Nat} {x : Int} (h : xs[i]? = some x) : (lowTo xs i).set i (lowB x) = lowTo xs (i + 1) := by
 obtain ⟨hl, rfl⟩ := List.getElem?_eq_some_iff.1 h
 unfold lowTo
 rw [List.set_append_right _ _ (by simp; exact Nat.min_le_left _ _), List.take_succ_eq_append_getElem hl, List.map_append, List.drop_eq_getElem_cons hl]
 rw [List.length_map, List.length_take, Nat.min_eq_left (by omega), Nat.sub_self, List.set_cons_zero]
 simp
theorem lowTo_at {xs : List Int} {i : Nat} {x : Int} (h : xs[i]? = some x) : (lowTo xs i)[i]? = some x := by
 obtain ⟨hl, _⟩ := List.getElem?_eq_some_iff.1 h
 unfold lowTo
 rw [List.getElem?_append_right (by simp; exact Nat.min_le_left _ _), List.length_map, List.length_take, Nat.min_eq_left (by omega), Nat.sub_self, List.getElem?_drop]
 exact h
theorem setSelf {xs : List Int} {i : Nat} {x : Int} (h : xs[i]? = some x) : xs.set i x = xs := by
 obtain ⟨hl, rfl⟩ := List.getElem?_eq_some_iff.1 h
 exact List.set_getElem_self hl
theorem lowTo_len (xs : List Int) (i : Nat) : (lowTo xs i).length = xs.length := by unfold lowTo; simp; omega
theorem lower_calls (s : ByteArray) (w : World) (hs : s.size ≤ 1099511627776) :
  Calls Tryz.prog 20 #[.string s] w fun e w' => e = .returned (.string (strOfNums ((bytesOf s).map lowB))) ∧ Below w.heap.size w w' := by
 have hcv := fun W : World => print_bytes (P := Tryz.prog) 9 25 5 Tryz.underlying9 Tryz.underlying25 Tryz.underlying5 s W
 obtain ⟨xs, hxs⟩ : ∃ xs, bytesOf s = xs := ⟨_, rfl⟩
 have HL := Aside0.mk (show xs.length = s.size by rw [← hxs, bytesOf_length])
 have HM := Aside0.mk (show MarkedB w.heap.size xs (Lib.bytesWorld w 5 s) by rw [← hxs]; exact MarkedB.made w s)
 have HIN := Aside0.mk (show ∀ x ∈ xs, 0 ≤ x ∧ x < 256 by rw [← hxs]; exact bytesOf_in s)
 rw [hxs]
 clear hxs
 go_enter Tryz.func20, Tryz.ntmps20
 go_wp2_with fail
 go_loopg [4] s.size (fun kq v4 wr => ∃ i : Nat, v4 = .int .i64 (i : Int) ∧ Aside0 (kq + i = s.size) ∧ Aside0 (Below w.heap.size w wr) ∧ Aside0 (MarkedB w.heap.size (lowTo xs i) wr))
 case atStart => exact ⟨0, rfl, ⟨rfl⟩, ⟨bytes_below (Below.refl _ _) (Nat.le_refl _) _ _⟩, ⟨HM.out⟩⟩
 case round =>
  clear hcv
  obtain ⟨i, rfl, HI, HB, HK⟩ := hrel
  by_cases hi : i < s.size
  ·have d0 : decide ((i : Int) < (s.size : Int)) = true := decide_eq_true (by omega)
   have d1 : decide (i < s.size) = true := decide_eq_true hi
   obtain ⟨x, hx⟩ : ∃ x, xs[i]? = some x := ⟨_, List.getElem?_eq_getElem (by have := HL.out; omega)⟩
   have c0 := HK.out.cell (lowTo_at hx)
   have z0 := HK.out.frozen (j := i) (by rw [lowTo_len]; have := HL.out; omega)
   have hxr := HIN.out x (List.mem_of_getElem? hx)
   have HX := Aside0.mk hx
   have HI2 := Aside0.mk hi
   clear hx
   by_cases h1 : 65 ≤ x
   ·have e1 : decide (65 ≤ x) = true := decide_eq_true h1
    by_cases h2 : x ≤ 90
    ·have e2 : decide (x ≤ 90) = true := decide_eq_true h2
     have HLB := Aside0.mk (show lowB x = x + 32 by unfold lowB; rw [if_pos ⟨h1, h2⟩])
     have HMOD := Aside0.mk (show (x + 32) % 256 = x + 32 by omega)
     clear h1 h2 hxr
     go_wp2_with fail
     try rw [show wrap64 ((i : Int) + 1) = ((i + 1 : Nat) : Int) by have := HI2.out; unfold wrap64; omega]
     go_roundg (s.size - i - 1)
     case measure => have := HI.out; have := HI2.out; omega
     case rel =>
      refine ⟨i + 1, rfl, ⟨by have := HI.out; have := HI2.out; omega⟩, ⟨HB.out.setCell (p := ⟨w.heap.size, i, none⟩) (Nat.le_refl _) _⟩, ⟨?_⟩⟩
      rw [← lowTo_next HX.out, HLB.out]
      have h := HK.out.put i (x + 32)
      try rw [HMOD.out]
      exact h
    ·have e2 : decide (x ≤ 90) = false := decide_eq_false h2
     have HLB := Aside0.mk (show lowB x = x by unfold lowB; rw [if_neg (fun h => h2 h.2)])
     clear h1 h2 hxr
     go_wp2_with fail
     try rw [show wrap64 ((i : Int) + 1) = ((i + 1 : Nat) : Int) by have := HI2.out; unfold wrap64; omega]
     go_roundg (s.size - i - 1)
     case measure => have := HI.out; have := HI2.out; omega
     case rel => exact ⟨i + 1, rfl, ⟨by have := HI.out; have := HI2.out; omega⟩, HB, ⟨by rw [← lowTo_next HX.out, HLB.out, setSelf (lowTo_at HX.out)]; exact HK.out⟩⟩
   ·have e1 : decide (65 ≤ x) = false := decide_eq_false h1
    have HLB := Aside0.mk (show lowB x = x by unfold lowB; rw [if_neg (fun h => h1 h.1)])
    clear h1 hxr
    go_wp2_with fail
    try rw [show wrap64 ((i : Int) + 1) = ((i + 1 : Nat) : Int) by have := HI2.out; unfold wrap64; omega]
    go_roundg (s.size - i - 1)
    case measure => have := HI.out; have := HI2.out; omega
    case rel => exact ⟨i + 1, rfl, ⟨by have := HI.out; have := HI2.out; omega⟩, HB, ⟨by rw [← lowTo_next HX.out, HLB.out, setSelf (lowTo_at HX.out)]; exact HK.out⟩⟩
  ·have hie : i = s.size := by have := HI.out; omega
   have d0 : decide ((i : Int) < (s.size : Int)) = false := decide_eq_false (by omega)
   have d1 : decide (i < s.size) = false := decide_eq_false hi
   have hlow : lowTo xs i = xs.map lowB := by unfold lowTo; rw [hie, ← HL.out, List.take_length, List.drop_length, List.append_nil]
   have hC := HK.out.C (by rw [lowTo_len]; have := HL.out; omega)
   rw [hlow, List.length_map, HL.out] at hC
   have hst := Kd.C_string (P := Tryz.prog) (c := grownCap w s.size 0 5) Tryz.underlying25 Tryz.underlying5 Tryz.underlying9 hC
   clear hlow hC hie
   go_wp2_with fail
   go_ret
   exact ⟨rfl, HB.out⟩
theorem refIn_calls (c : Int) (w : World) :
  Calls Tryz.prog 44 #[.int .u8 c] w fun e w' => e = .returned (.bool (inB c)) ∧ Drawn0 w w' := by
 obtain ⟨r, hr⟩ : ∃ r, inB c = r := ⟨_, rfl⟩
 rw [hr]
 have HR := Aside0.mk hr
 clear hr
 go_enter Tryz.func44, Tryz.ntmps44
 go_wp2
 all_goals go_ret
 all_goals (refine ⟨?_, Drawn0.refl _⟩)
 all_goals first | refine eB (show true = r from ?_) | refine eB (show false = r from ?_) | refine eB (show decide _ = r from ?_) | refine eB (show (_ || _) = r from ?_)
 all_goals (rw [← HR.out]; clear HR; go_light; unfold inB)
 all_goals grind
theorem strOf_inj {xs ys : List Int} (hx : ∀ x ∈ xs, 0 ≤ x ∧ x < 256) (hy : ∀ x ∈ ys, 0 ≤ x ∧ x < 256) (h : Lib.bytesOf xs = Lib.bytesOf ys) : xs = ys := by
 induction xs generalizing ys with
 | nil => cases ys with
  | nil => rfl
  | cons y ys => simp [Lib.bytesOf] at h
 | cons x xs ih =>
  cases ys with
  | nil => simp [Lib.bytesOf] at h
  | cons y ys =>
   simp only [Lib.bytesOf, List.map_cons, List.cons.injEq] at h
   have h1 := hx x (by simp); have h2 := hy y (by simp)
   have e : x = y := by
    have h3 := congrArg UInt8.toNat h.1
    simp at h3
    omega
   rw [e, ih (fun z hz => hx z (by simp [hz])) (fun z hz => hy z (by simp [hz])) h.2]
theorem bytesOf_back (s : ByteArray) : Lib.bytesOf (bytesOf s) = s.toList := by
 rw [bytes_eq0]
 unfold Lib.bytesOf bytesOf
 rw [List.map_map]
 conv => rhs; rw [← List.map_id s.data.toList]
 apply List.map_congr_left
 intro b _
 simp
theorem tok_iff (s : ByteArray) (h : 1 ≤ s.size ∧ s.size ≤ 64) : tokB s = (decide ((bytesOf s).map lowB = bytesOf s) && (bytesOf s).all inB) := by
 unfold tokB
 rw [decide_eq_true h, Bool.true_and]
 have key : ∀ (d i : Nat), i + d = s.size → tokFrom s i = (decide (((bytesOf s).drop i).map lowB = (bytesOf s).drop i) && ((bytesOf s).drop i).all inB) := by
  intro d
  induction d with
  | zero =>
   intro i hi
   obtain rfl : i = s.size := by omega
   rw [tokFrom_end, List.drop_eq_nil_of_le (by rw [bytesOf_length]; omega)]
   rfl
  | succ d ih =>
   intro i hi
   have hl : i < (bytesOf s).length := by rw [bytesOf_length]; omega
   rw [tokFrom_step s i (by omega), ih (i + 1) (by omega), List.drop_eq_getElem_cons hl]
   have e : (bytesOf s)[i] = bt s (i : Int) := by
    rw [← rd_bytesOf]
    simp [rd, List.getD, hl]
   rw [e]
   unfold tokC
   simp only [List.map_cons, List.cons.injEq, List.all_cons]
   by_cases h1 : lowB (bt s (i : Int)) = bt s (i : Int) <;> by_cases h2 : ((bytesOf s).drop (i + 1)).map lowB = (bytesOf s).drop (i + 1) <;> cases inB (bt s (i : Int)) <;> simp [h1, h2]
 have := key s.size 0 (by omega)
 rwa [List.drop_zero] at this
theorem is_calls (s : ByteArray) (w : World) :
  Calls Tryz.prog 19 #[.string s] w fun e w' => e = .returned (.bool (tokB s)) ∧ Below w.heap.size w w' := by
 by_cases h1 : s.size < 1
 ·have hf : tokB s = false := by unfold tokB; rw [decide_eq_false (by omega)]; rfl
  rw [hf]
  have d1 : decide ((s.size : Int) < 1) = true := decide_eq_true (by omega)
  go_enter Tryz.func19, Tryz.ntmps19
  go_wp2_with fail
  go_ret
  exact ⟨rfl, Below.refl _ _⟩
 have d1 : decide ((s.size : Int) < 1) = false := decide_eq_false (by omega)
 by_cases h2 : s.size > 64
 ·have hf : tokB s = false := by unfold tokB; rw [decide_eq_false (show ¬(1 ≤ s.size ∧ s.size ≤ 64) by omega)]; rfl
  rw [hf]
  have d2 : decide ((64 : Int) < (s.size : Int)) = true := decide_eq_true (by omega)
  go_enter Tryz.func19, Tryz.ntmps19
  go_wp2_with fail
  all_goals go_ret
  all_goals exact ⟨rfl, Below.refl _ _⟩
 have d2 : decide ((64 : Int) < (s.size : Int)) = false := decide_eq_false (by omega)
 have hk := tok_iff s ⟨by omega, by omega⟩
 have HLW := Aside0.mk (fun W => lower_calls s W (by omega))
 have HSZ := Aside0.mk (show s.size ≤ 64 by omega)
 obtain ⟨t, ht⟩ : ∃ t, strOfNums ((bytesOf s).map lowB) = t := ⟨_, rfl⟩
 have hte : t.toList = s.toList ↔ (bytesOf s).map lowB = bytesOf s := by
  rw [← ht, Lib.strOfNums_toList, ← bytesOf_back]
  constructor
  ·intro h
   refine strOf_inj (fun x hx => ?_) (bytesOf_in s) h
   obtain ⟨y, hy, rfl⟩ := List.mem_map.1 hx
   have := bytesOf_in s y hy
   unfold lowB
   split <;> omega
  ·intro h; rw [h]
 rw [ht] at HLW
 clear ht
 obtain ⟨r, hr⟩ : ∃ r, tokB s = r := ⟨_, rfl⟩
 rw [hr] at hk ⊢
 clear hr
 by_cases hb : t.toList = s.toList
 ·have c1 : (t.toList == s.toList) = true := beq_iff_eq.2 hb
  have c2 : (t.toList != s.toList) = false := bne_eq_false_iff_eq.2 hb
  rw [decide_eq_true (hte.1 hb), Bool.true_and] at hk
  have HK := Aside0.mk hk
  clear hk hte hb h1 h2
  go_enter Tryz.func19, Tryz.ntmps19
  go_wp2_with fail
  refine (HLW.out _).mono ?_
  rintro e w1 ⟨rfl, hb⟩
  have HB1 := Aside0.mk hb
  clear hb
  go_wp2_with fail
  go_loopg [3] s.size (fun kq v3 wr => ∃ (i : Nat) (z : Int), v3 = .int .i64 z ∧ Aside0 (z = (i : Int)) ∧ Aside0 (kq + i = s.size) ∧ Aside0 (Below w.heap.size w wr) ∧ Aside0 (∀ (j : Nat) x, j < i → (bytesOf s)[j]? = some x → inB x = true))
  case atStart => exact ⟨0, 0, rfl, ⟨rfl⟩, ⟨rfl⟩, HB1, ⟨fun j x h => by omega⟩⟩
  case round =>
   obtain ⟨i, z, rfl, HZ, HI, HB, HA⟩ := hrel
   by_cases hi : i < s.size
   ·have d0 : decide (z < (s.size : Int)) = true := decide_eq_true (by have := HZ.out; omega)
    have d4 : decide (0 ≤ z) = true := decide_eq_true (by have := HZ.out; omega)
    have p5 : (0 ≤ z) = True := eq_true (by have := HZ.out; omega)
    have q5 : (z < (s.size : Int)) = True := eq_true (by have := HZ.out; omega)
    have hx5 := bt_at s z
    obtain ⟨b, hb⟩ : ∃ b, inB (bt s z) = b := ⟨_, rfl⟩
    have HX := Aside0.mk (show (bytesOf s)[i]? = some (bt s z) by
     have hl : i < (bytesOf s).length := by rw [bytesOf_length]; exact hi
     rw [List.getElem?_eq_getElem hl, HZ.out, ← rd_bytesOf]
     simp [rd, List.getD, hl])
    have hIN := refIn_calls (bt s z)
    rw [hb] at hIN
    have HIN := Aside0.mk hIN
    clear hIN
    have HBB := Aside0.mk hb
    have HI2 := Aside0.mk hi
    clear hb hi
    go_wp2_with fail
    refine (HIN.out _).mono ?_
    rintro e w3 ⟨rfl, hd⟩
    have HB3 := Aside0.mk (below_step HB.out hd.below)
    clear hd
    cases b
    ·go_wp2_with fail
     go_ret
     refine ⟨?_, HB3.out⟩
     rw [HK.out]
     refine congrArg (fun z => Ending.returned (Value.bool z)) ?_
     cases e : (bytesOf s).all inB with
     | false => rfl
     | true => have := List.all_eq_true.1 e _ (List.mem_of_getElem? HX.out); rw [HBB.out] at this; exact absurd this (by decide)
    ·go_wp2_with fail
     have hzw : wrap64 (z + 1) = z + 1 := by have := HZ.out; have := HI2.out; have := HSZ.out; unfold wrap64; omega
     try rw [hzw]
     go_roundg (s.size - i - 1)
     case measure => have := HI.out; have := HI2.out; omega
     case rel =>
      refine ⟨i + 1, z + 1, rfl, ⟨by have := HZ.out; omega⟩, ⟨by have := HI.out; have := HI2.out; omega⟩, HB3, ⟨fun j x hj hx => ?_⟩⟩
      by_cases hji : j = i
      ·subst hji
       rw [HX.out] at hx
       cases hx
       exact HBB.out
      ·exact HA.out j x (by omega) hx
   ·have d0 : decide (z < (s.size : Int)) = false := decide_eq_false (by have := HZ.out; omega)
    go_wp2_with fail
    go_ret
    refine ⟨?_, HB.out⟩
    rw [HK.out]
    refine congrArg (fun z => Ending.returned (Value.bool z)) ?_
    refine (List.all_eq_true.2 (fun x hx => ?_)).symm
    obtain ⟨j, hj⟩ := List.getElem?_of_mem hx
    have hl := (List.getElem?_eq_some_iff.1 hj).1
    rw [bytesOf_length] at hl
    exact HA.out j x (by omega) hj
 ·have c1 : (t.toList == s.toList) = false := beq_eq_false_iff_ne.2 hb
  have c2 : (t.toList != s.toList) = true := bne_iff_ne.2 hb
  rw [decide_eq_false (fun h => hb (hte.2 h)), Bool.false_and] at hk
  subst hk
  clear hte hb h1 h2
  go_enter Tryz.func19, Tryz.ntmps19
  go_wp2_with fail
  refine (HLW.out _).mono ?_
  rintro e w1 ⟨rfl, hb⟩
  have HB1 := Aside0.mk hb
  clear hb
  go_wp2_with fail
  go_ret
  exact ⟨rfl, HB1.out⟩
end Go.Proofs.YtehaodbheifokaaGreatDoor.P
end
