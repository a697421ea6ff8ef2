/- Joined by wip/tools/pack.py, pruned: NodeB20, RefCut20, P8, PureRef20. -/
import Derived.Test.YtehaodbheifokaaGreatDoorMq14
import Derived.Test.YtehaodbheifokaaGreatDoorMq15
set_option maxHeartbeats 8000000
set_option maxRecDepth 100000
set_option linter.unusedVariables false
set_option linter.unusedSimpArgs false
section
namespace Go.Proofs.YtehaodbheifokaaGreatDoor.P
open Go Go.RowKit Go.Proofs.YtehaodbheifokaaGreatDoorW.PrintWords Go.Proofs.YtehaodbheifokaaGreatDoorW.PrintLast Go.Proofs.YtehaodbheifokaaGreatDoorW.PrintMore
theorem heldL_app (lv : ND → Bool) : ∀ (xs ys : List ND) (h : List Bool), heldL lv (xs ++ ys) h = heldL lv ys (heldL lv xs h)
 | [], ys, h => rfl
 | x :: xs, ys, h => heldL_app lv xs ys _
theorem heldL_len (lv : ND → Bool) : ∀ (xs : List ND) (h : List Bool), (heldL lv xs h).length = h.length + xs.length
 | [], h => rfl
 | x :: xs, h => by rw [heldL, heldL_len lv xs]; simp; omega
theorem heldL_old (lv : ND → Bool) : ∀ (xs : List ND) (h : List Bool) (p : Nat), p < h.length → (heldL lv xs h).getD p false = h.getD p false
 | [], h, p, _ => rfl
 | x :: xs, h, p, hp => by
  rw [heldL, heldL_old lv xs _ p (by simp; omega)]
  simp [List.getD_eq_getElem?_getD, List.getElem?_append_left hp]
def treeB (lv : ND → Bool) (ns : List ND) (i : Nat) : Bool := (heldL lv ns []).getD i false
theorem treeB_eq (lv : ND → Bool) (ns : List ND) (i : Nat) (n : ND) (hi : ns[i]? = some n) (hp : (partsN n).all (inN i) = true) :
  treeB lv ns i = if n.f0 = 10 then treeB lv ns n.f1.toNat && treeB lv ns n.f2.toNat else if n.f0 = 11 then treeB lv ns n.f1.toNat || treeB lv ns n.f2.toNat else if n.f0 = 12 then !treeB lv ns n.f1.toNat else lv n := by
 obtain ⟨hl, he⟩ := List.getElem?_eq_some_iff.1 hi
 have hs : ns = ns.take i ++ n :: ns.drop (i + 1) := by
  rw [← he, ← List.drop_eq_getElem_cons hl, List.take_append_drop]
 obtain ⟨g, hg⟩ : ∃ g, heldL lv (ns.take i) [] = g := ⟨_, rfl⟩
 have hgl : g.length = i := by rw [← hg, heldL_len]; simp; omega
 have hh : heldL lv ns [] = heldL lv (ns.drop (i + 1)) (g ++ [valN lv g n]) := by
  conv => lhs; rw [hs]
  rw [heldL_app, hg]
  rfl
 have hlow : ∀ p, p < i → treeB lv ns p = g.getD p false := fun p hpi => by
  unfold treeB
  rw [hh, heldL_old lv _ _ p (by simp; omega)]
  simp [List.getD_eq_getElem?_getD, List.getElem?_append_left (show p < g.length by omega)]
 have hat : treeB lv ns i = valN lv g n := by
  unfold treeB
  rw [hh, heldL_old lv _ _ i (by simp; omega)]
  simp [List.getD_eq_getElem?_getD, ← hgl]
 rw [hat]
 unfold valN
 unfold partsN at hp
 by_cases h10 : n.f0 = 10
 ·rw [if_pos (.inl h10)] at hp
  simp only [List.all_cons, List.all_nil, inN, Bool.and_true, Bool.and_eq_true, decide_eq_true_eq] at hp
  rw [if_pos h10, if_pos h10, hlow _ (by omega), hlow _ (by omega)]
 ·rw [if_neg h10, if_neg h10]
  by_cases h11 : n.f0 = 11
  ·rw [if_pos (.inr h11)] at hp
   simp only [List.all_cons, List.all_nil, inN, Bool.and_true, Bool.and_eq_true, decide_eq_true_eq] at hp
   rw [if_pos h11, if_pos h11, hlow _ (by omega), hlow _ (by omega)]
  ·rw [if_neg h11, if_neg h11]
   by_cases h12 : n.f0 = 12
   ·rw [if_neg (by omega), if_pos h12] at hp
    simp only [List.all_cons, List.all_nil, inN, Bool.and_true, decide_eq_true_eq] at hp
    rw [if_pos h12, if_pos h12, hlow _ (by omega)]
   ·rw [if_neg h12, if_neg h12]
theorem treeB_last (lv : ND → Bool) (ns : List ND) : holdsB lv ns = treeB lv ns (ns.length - 1) := rfl
theorem bT_str (r : List Int) : strOfNums r = bT r := by
 apply bytes_inj0.1
 rw [Lib.strOfNums_toList, bytes_eq0]
 simp [bT, Lib.bytesOf]
theorem bytesOf_str (l : List Int) (hb : ∀ x ∈ l, 0 ≤ x ∧ x < 256) : bytesOf (strOfNums l) = l := by
 unfold bytesOf
 rw [← bytes_eq0, Lib.strOfNums_toList]
 unfold Lib.bytesOf
 rw [List.map_map]
 conv => rhs; rw [← List.map_id l]
 apply List.map_congr_left
 intro x hx
 have := hb x hx
 simp
 omega
theorem str_size (l : List Int) : (strOfNums l).size = l.length := by
 show (strOfNums l).data.size = _
 rw [← Array.length_toList, ← bytes_eq0, Lib.strOfNums_toList]
 simp [Lib.bytesOf]
theorem tok_cells_set (w : World) (p : Addr) (v : Value) (cs : List Value) (t : TypeId) : ∀ (j : Nat) u, cs[j]? = some u → ((w.setCell p v).alloc (.cells cs.toArray t)).cell? ((⟨w.heap.size, 0, none⟩ : Addr).add j) = some u := by
 intro j u h
 have h2 := tok_cells (w.setCell p v) cs t j u h
 rw [World.size_setCell] at h2
 exact h2
theorem tok_cells_two (w : World) (o : Obj) (cs : List Value) (t : TypeId) : ∀ (j : Nat) u, cs[j]? = some u → ((w.alloc o).alloc (.cells cs.toArray t)).cell? ((⟨w.heap.size + 1, 0, none⟩ : Addr).add j) = some u := by
 intro j u h
 have h2 := tok_cells (w.alloc o) cs t j u h
 rw [World.size_alloc] at h2
 exact h2
theorem mid_next {l : List Int} {i j : Nat} {y : Int} (hij : i ≤ j) (hy : l[j]? = some y) : (l.take (j + 1)).drop i = (l.take j).drop i ++ [y] := by
 obtain ⟨hl, he⟩ := List.getElem?_eq_some_iff.1 hy
 rw [List.take_succ_eq_append_getElem hl, List.drop_append_of_le_length (by rw [List.length_take]; omega), he]
theorem mid_len {l : List Int} {i j : Nat} (hj : j ≤ l.length) : ((l.take j).drop i).length = j - i := by
 rw [List.length_drop, List.length_take]; omega
theorem refCut_calls (l : List Int) (A : Option Addr) (c : Nat) (w : World) (hC : (Kd.int .u8).C w A l.length l) (hc : l.length ≤ c) (hb : ∀ x ∈ l, 0 ≤ x ∧ x < 256) (hn : l.length ≤ 1099511627776) :
  Calls Tryz.prog 68 #[.slice A l.length c] w fun e w' => ∃ v, e = .returned v ∧ w'.ownsRow w.heap.size 118 2 v (cutS none l).length (flatT (cutS none l)) ∧ Below w.heap.size w w' := by
 have HC := Aside0.mk hC
 have HBY := Aside0.mk hb
 clear hC hb
 go_enter Tryz.func68, Tryz.ntmps68
 go_wp2_with fail
 go_loopg [3, 4] (l.length + 1) (fun kq v3 v4 wr => ∃ (toks : List (List Int)) (i : Nat), v4 = .int .i64 (i : Int) ∧ Aside0 (kq + i = l.length + 1) ∧ Aside0 (toks ++ cutS none (l.drop i) = cutS none l) ∧ Aside0 (wr.ownsRow w.heap.size 118 2 v3 toks.length (flatT toks)) ∧ Aside0 (Below w.heap.size w wr))
 case atStart => exact ⟨[], 0, rfl, ⟨rfl⟩, ⟨rfl⟩, ⟨World.ownsRow_nil _ _ _ _⟩, ⟨Below.refl _ _⟩⟩
 case round =>
  obtain ⟨toks, i, rfl, HI, HT, HOW, HB⟩ := hrel
  by_cases hi : i < l.length
  ·have d0 : decide ((i : Int) < (l.length : Int)) = true := decide_eq_true (by omega)
   have d1 : decide (i < l.length) = true := decide_eq_true hi
   obtain ⟨ad, hAQ, c0⟩ := Kd.at_int (Kd.C_below HC.out HB.out) (i : Int) (by omega) (by omega)
   subst hAQ
   rw [Int.toNat_natCast] at c0
   obtain ⟨x, hxe⟩ : ∃ x, rd l (i : Int) = x := ⟨_, rfl⟩
   rw [hxe] at c0
   have HDR := Aside0.mk (show l.drop i = x :: l.drop (i + 1) by
    rw [List.drop_eq_getElem_cons hi]
    congr 1
    rw [← hxe]
    simp [rd, List.getD, hi])
   have HI2 := Aside0.mk hi
   clear hxe
   go_wp2_with fail
   refine (refIn_calls x _).mono ?_
   rintro e w2 ⟨rfl, hd⟩
   have HB2 := Aside0.mk (below_step HB.out hd.below)
   have HOW2 := Aside0.mk (own_bel HOW.out hd.below)
   clear hd c0
   cases hin : inB x
   ·go_wp2_with fail
    try rw [show wrap64 ((i : Int) + 1) = ((i + 1 : Nat) : Int) by have := HI2.out; unfold wrap64; omega]
    go_roundg (l.length - i)
    case measure => have := HI.out; have := HI2.out; omega
    case rel => exact ⟨toks, i + 1, rfl, ⟨by have := HI.out; have := HI2.out; omega⟩, ⟨by rw [← HT.out, HDR.out]; simp only [cutS, hin, Bool.false_eq_true, if_false]⟩, HOW2, HB2⟩
   ·have HIN := Aside0.mk hin
    clear hin d0 d1
    go_wp2_with fail
    go_loopg [4] (l.length - i) (fun kj v4 wq => ∃ j : Nat, v4 = .int .i64 (j : Int) ∧ Aside0 (kj + j = l.length) ∧ Aside0 (i ≤ j) ∧ Aside0 (toks ++ cutS (some (((l.take j).drop i).map lowB)) (l.drop j) = cutS none l) ∧ Aside0 (wq.ownsRow w.heap.size 118 2 u3 toks.length (flatT toks)) ∧ Aside0 (Below w.heap.size w wq))
    case atStart =>
     refine ⟨i, rfl, ⟨by have := HI2.out; omega⟩, ⟨Nat.le_refl _⟩, ⟨?_⟩, HOW2, HB2⟩
     rw [← HT.out, HDR.out]
     have : (l.take i).drop i = [] := by apply List.drop_of_length_le; rw [List.length_take]; omega
     rw [this]
     simp only [cutS, HIN.out, if_true, List.map_nil, List.nil_append]
    case round =>
     obtain ⟨j, rfl, HJ, HIJ, HTj, HOWq, HBq⟩ := hrel
     have hij := HIJ.out
     have hjl : j ≤ l.length := by have := HJ.out; omega
     have hrl : (((l.take j).drop i).map lowB).length = j - i := by rw [List.length_map, mid_len hjl]
     by_cases hj : j < l.length
     ·have d2 : decide ((j : Int) < (l.length : Int)) = true := decide_eq_true (by omega)
      have d3 : decide (j < l.length) = true := decide_eq_true hj
      obtain ⟨ad2, hAQ2, c2⟩ := Kd.at_int (Kd.C_below HC.out HBq.out) (j : Int) (by omega) (by omega)
      cases hAQ2
      rw [Int.toNat_natCast] at c2
      obtain ⟨y, hye⟩ : ∃ y, rd l (j : Int) = y := ⟨_, rfl⟩
      rw [hye] at c2
      have HY := Aside0.mk (show l[j]? = some y by rw [← hye]; simp [rd, List.getD, hj])
      have HDJ := Aside0.mk (show l.drop j = y :: l.drop (j + 1) by
       rw [List.drop_eq_getElem_cons hj]
       congr 1
       rw [← hye]
       simp [rd, List.getD, hj])
      clear hye
      go_wp2_with fail
      refine (refIn_calls y _).mono ?_
      rintro e w3 ⟨rfl, hd⟩
      have HBq3 := Aside0.mk (below_step HBq.out hd.below)
      have HOWq3 := Aside0.mk (own_bel HOWq.out hd.below)
      clear hd c2
      cases hin : inB y
      ·have HS := Aside0.mk (show toks ++ (finT (((l.take j).drop i).map lowB) :: cutS none (l.drop (j + 1))) = cutS none l by rw [← HTj.out, HDJ.out]; simp only [cutS, hin, Bool.false_eq_true, if_false])
       have HOWq := HOWq3
       have HBq := HBq3
       clear HOWq3 HBq3 hin d2 d3
       obtain ⟨A3, c3, rfl, hc3⟩ := own_sl HOWq.out
       have HTL := Aside0.mk (show toks.length + 1 ≤ l.length by
        have h1 := (cutS_len l).1
        have h2 := congrArg List.length HS.out
        rw [List.length_append, List.length_cons] at h2
        omega)
       obtain ⟨i0, hi0, hz0, hz1, hz2⟩ := info_parts gTok
       have HBY2 := Aside0.mk (show ∀ x ∈ (l.take j).drop i, 0 ≤ x ∧ x < 256 from fun x hx => HBY.out x (List.mem_of_mem_take (List.mem_of_mem_drop hx)))
       have hT0 := blk_new w3 (Obj.cells #[.int .i64 (toks.length : Int), .string ⟨#[]⟩] 118)
       have HB0 := Aside0.mk (below_alloc HBq.out (Obj.cells #[.int .i64 (toks.length : Int), .string ⟨#[]⟩] 118))
       have HO0 := Aside0.mk (own_alloc HOWq.out (Obj.cells #[.int .i64 (toks.length : Int), .string ⟨#[]⟩] 118))
       have HSq := Aside0.mk HBq.out.size
       by_cases h64 : j - i ≤ 64
       ·have d64 : decide ((j : Int) - (i : Int) ≤ 64) = true := decide_eq_true (by omega)
        obtain ⟨i018, hi018, hi019, hsz18, hi020⟩ := info_parts gByte
        obtain ⟨A18, hcut18, hA18, hC18⟩ := print_mid_of (P := Tryz.prog) (Value.int .u8) 0 25 5 .i64 .i64 Tryz.underlying25 hi018 hsz18 (some ad) c l (i : Int) (j : Int) (by omega) (by omega) (by omega) hc
        have HR18 := Aside0.mk (Kd.C_of_reads (h1 := fun _ => rfl) (hA18 _ (Kd.reads_of_C HC.out)))
        have hcv := Kd.C_string (P := Tryz.prog) (A := A18) (c := (c - (i : Int).toNat)) Tryz.underlying25 Tryz.underlying5 Tryz.underlying9 (Kd.C_below HR18.out HB0.out)
        clear hA18 hC18 hi018 hsz18 hi019 hi020
        have hp1 : 0 ≤ (i : Int) := by omega
        have hp2 : (i : Int) ≤ (j : Int) := by omega
        rw [Int.toNat_natCast, Int.toNat_natCast, mid_len hjl] at hcut18
        rw [Int.toNat_natCast, Int.toNat_natCast, mid_len hjl] at hcv
        have HT0 := Aside0.mk hT0
        have HLR := Aside0.mk hrl
        have HFT := Aside0.mk (show finT (((l.take j).drop i).map lowB) = ((l.take j).drop i).map lowB by unfold finT; rw [if_neg (by rw [hrl]; omega)])
        clear hT0 h64 hrl
        go_wp2_with fail
        refine (lower_calls (strOfNums ((l.take j).drop i)) _ (by rw [str_size]; have := hn; have := HIJ.out; rw [List.length_drop, List.length_take]; omega)).mono ?_
        rintro e w5 ⟨rfl, hb5⟩
        rw [bytesOf_str _ HBY2.out, bT_str]
        obtain ⟨sT, hsT⟩ : ∃ sT, bT (((l.take j).drop i).map lowB) = sT := ⟨_, rfl⟩
        rw [hsT]
        have HST := Aside0.mk hsT
        clear hsT
        have hT5 := blk_below HT0.out hb5
        have HB5 := Aside0.mk (below_step HB0.out hb5)
        have HO5 := Aside0.mk (own_bel HO0.out hb5)
        have HS5 := Aside0.mk HB5.out.size
        have HG5 := Aside0.mk (show w3.heap.size < w5.heap.size from blk_lt hT5)
        have z1 := blk_frozen hT5 1
        have q1 : w5.cell? ⟨w3.heap.size, 1, none⟩ = some (.string ⟨#[]⟩) := (blk_cell hT5 1).trans rfl
        have hT6 := blk_put hT5 1 (.string sT) rfl
        have e0 : (w5.setCell ⟨w3.heap.size, 1, none⟩ (.string sT)).cell? ⟨w3.heap.size, 0, none⟩ = some (.int .i64 (toks.length : Int)) := (blk_cell hT6 0).trans rfl
        have e1 : (w5.setCell ⟨w3.heap.size, 1, none⟩ (.string sT)).cell? ⟨w3.heap.size, 1, none⟩ = some (.string sT) := (blk_cell hT6 1).trans rfl
        have HO6 := Aside0.mk (ownsRow_setCell_other HO5.out (a := ⟨w3.heap.size, 1, none⟩) (fun e => by have h := own_lt HOWq.out _ e; exact absurd h (Nat.lt_irrefl _)) (.string sT))
        clear hb5 hT5 hT6 hcut18 hcv
        go_wp2_with ((with_reducible refine gate_dst (N := 50) rfl ?_); refine wpList_append_own _ rfl _ _ 114 rfl w.heap.size 118 i0 (.agg #[.int .i64 0, .string ⟨#[]⟩]) 2 24 Tryz.underlying114 hi0 hz0 hz1 hz2 rfl (by decide) _ toks.length (flatT toks) rfl (HO6.out.alloc _) ⟨w5.heap.size, 0, none⟩ 1 1 [.int .i64 (toks.length : Int), .string sT] rfl rfl (tok_cells_set _ _ _ _ _) (by simp [Value.oneCell']) (by have := HTL.out; unfold maxLen; omega) (by have := HTL.out; omega) (by have := HB5.out.size; rw [World.size_alloc, World.size_setCell]; omega) ?_; intro v' w8 hown' hgrow _; have HOW8 := Aside0.mk hown'; have HB8 := Aside0.mk (((HB5.out.setCell (p := ⟨w3.heap.size, 1, none⟩) HSq.out (.string sT)).alloc (by rw [World.size_setCell]; exact HS5.out) _).grown hgrow (by simp; have := HS5.out; omega) (fun j ej => own_base HO5.out j ej)); clear hown' hgrow)
        skip
        try rw [show wrap64 ((j : Int) + 1) = ((j + 1 : Nat) : Int) by have := HIJ.out; have := hn; unfold wrap64; omega]
        go_roundg (l.length - j)
        case measure => have := HI.out; have := HIJ.out; have := HJ.out; have := HI2.out; omega
        case rel => exact ⟨toks ++ [((l.take j).drop i).map lowB], j + 1, rfl, ⟨by have := HJ.out; omega⟩, ⟨by rw [← HS.out, HFT.out, List.append_assoc]; rfl⟩, ⟨by rw [flatT_snoc]; have h := HOW8.out; rw [← HST.out] at h; simpa [tokV] using h⟩, HB8⟩
       ·have d64 : decide ((j : Int) - (i : Int) ≤ 64) = false := decide_eq_false (by omega)
        have HFT := Aside0.mk (show finT (((l.take j).drop i).map lowB) = [] by unfold finT; rw [if_pos (by rw [hrl]; omega)])
        have e0 : (w3.alloc (Obj.cells #[.int .i64 (toks.length : Int), .string ⟨#[]⟩] 118)).cell? ⟨w3.heap.size, 0, none⟩ = some (.int .i64 (toks.length : Int)) := (blk_cell hT0 0).trans rfl
        have e1 : (w3.alloc (Obj.cells #[.int .i64 (toks.length : Int), .string ⟨#[]⟩] 118)).cell? ⟨w3.heap.size, 1, none⟩ = some (.string ⟨#[]⟩) := (blk_cell hT0 1).trans rfl
        clear hT0 h64 hrl
        go_wp2_with ((with_reducible refine gate_dst (N := 50) rfl ?_); refine wpList_append_own _ rfl _ _ 114 rfl w.heap.size 118 i0 (.agg #[.int .i64 0, .string ⟨#[]⟩]) 2 24 Tryz.underlying114 hi0 hz0 hz1 hz2 rfl (by decide) _ toks.length (flatT toks) rfl (HO0.out.alloc _) ⟨w3.heap.size + 1, 0, none⟩ 1 1 [.int .i64 (toks.length : Int), .string ⟨#[]⟩] rfl rfl (tok_cells_two _ _ _ _) (by simp [Value.oneCell']) (by have := HTL.out; unfold maxLen; omega) (by have := HTL.out; omega) (by have := HSq.out; rw [World.size_alloc, World.size_alloc]; omega) ?_; intro v' w8 hown' hgrow _; have HOW8 := Aside0.mk hown'; have HB8 := Aside0.mk ((HB0.out.alloc (by rw [World.size_alloc]; have := HSq.out; omega) _).grown hgrow (by simp; have := HSq.out; omega) (fun j ej => own_base HO0.out j ej)); clear hown' hgrow)
        try rw [show wrap64 ((j : Int) + 1) = ((j + 1 : Nat) : Int) by have := HIJ.out; have := hn; unfold wrap64; omega]
        go_roundg (l.length - j)
        case measure => have := HI.out; have := HIJ.out; have := HJ.out; have := HI2.out; omega
        case rel => exact ⟨toks ++ [[]], j + 1, rfl, ⟨by have := HJ.out; omega⟩, ⟨by rw [← HS.out, HFT.out, List.append_assoc]; rfl⟩, ⟨by rw [flatT_snoc]; have h := HOW8.out; simpa [tokV, bT] using h⟩, HB8⟩
      ·have HIN2 := Aside0.mk hin
       have HJ2 := Aside0.mk hj
       clear hin d2 d3 hjl hrl
       go_wp2_with fail
       try rw [show wrap64 ((j : Int) + 1) = ((j + 1 : Nat) : Int) by have := HJ2.out; unfold wrap64; omega]
       go_roundg (l.length - j - 1)
       case measure => have := HJ.out; have := HJ2.out; omega
       case rel =>
        refine ⟨j + 1, rfl, ⟨by have := HJ.out; have := HJ2.out; omega⟩, ⟨by have := HIJ.out; omega⟩, ⟨?_⟩, HOWq3, HBq3⟩
        rw [← HTj.out, HDJ.out, mid_next HIJ.out HY.out, List.map_append]
        simp only [cutS, HIN2.out, if_true, List.map_cons, List.map_nil]
     ·have hje : j = l.length := by omega
      have d2 : decide ((j : Int) < (l.length : Int)) = false := decide_eq_false (by omega)
      have HS := Aside0.mk (show toks ++ (finT (((l.take j).drop i).map lowB) :: cutS none (l.drop (j + 1))) = cutS none l by rw [← HTj.out, hje, List.drop_length, List.drop_of_length_le (Nat.le_succ _)]; simp only [cutS])
      clear hje
      obtain ⟨A3, c3, rfl, hc3⟩ := own_sl HOWq.out
      have HTL := Aside0.mk (show toks.length + 1 ≤ l.length by
       have h1 := (cutS_len l).1
       have h2 := congrArg List.length HS.out
       rw [List.length_append, List.length_cons] at h2
       omega)
      obtain ⟨i0, hi0, hz0, hz1, hz2⟩ := info_parts gTok
      have HBY2 := Aside0.mk (show ∀ x ∈ (l.take j).drop i, 0 ≤ x ∧ x < 256 from fun x hx => HBY.out x (List.mem_of_mem_take (List.mem_of_mem_drop hx)))
      have hT0 := blk_new wr (Obj.cells #[.int .i64 (toks.length : Int), .string ⟨#[]⟩] 118)
      have HB0 := Aside0.mk (below_alloc HBq.out (Obj.cells #[.int .i64 (toks.length : Int), .string ⟨#[]⟩] 118))
      have HO0 := Aside0.mk (own_alloc HOWq.out (Obj.cells #[.int .i64 (toks.length : Int), .string ⟨#[]⟩] 118))
      have HSq := Aside0.mk HBq.out.size
      by_cases h64 : j - i ≤ 64
      ·have d64 : decide ((j : Int) - (i : Int) ≤ 64) = true := decide_eq_true (by omega)
       obtain ⟨i018, hi018, hi019, hsz18, hi020⟩ := info_parts gByte
       obtain ⟨A18, hcut18, hA18, hC18⟩ := print_mid_of (P := Tryz.prog) (Value.int .u8) 0 25 5 .i64 .i64 Tryz.underlying25 hi018 hsz18 (some ad) c l (i : Int) (j : Int) (by omega) (by omega) (by omega) hc
       have HR18 := Aside0.mk (Kd.C_of_reads (h1 := fun _ => rfl) (hA18 _ (Kd.reads_of_C HC.out)))
       have hcv := Kd.C_string (P := Tryz.prog) (A := A18) (c := (c - (i : Int).toNat)) Tryz.underlying25 Tryz.underlying5 Tryz.underlying9 (Kd.C_below HR18.out HB0.out)
       clear hA18 hC18 hi018 hsz18 hi019 hi020
       have hp1 : 0 ≤ (i : Int) := by omega
       have hp2 : (i : Int) ≤ (j : Int) := by omega
       rw [Int.toNat_natCast, Int.toNat_natCast, mid_len hjl] at hcut18
       rw [Int.toNat_natCast, Int.toNat_natCast, mid_len hjl] at hcv
       have HT0 := Aside0.mk hT0
       have HLR := Aside0.mk hrl
       have HFT := Aside0.mk (show finT (((l.take j).drop i).map lowB) = ((l.take j).drop i).map lowB by unfold finT; rw [if_neg (by rw [hrl]; omega)])
       clear hT0 h64 hrl
       go_wp2_with fail
       refine (lower_calls (strOfNums ((l.take j).drop i)) _ (by rw [str_size]; have := hn; have := HIJ.out; rw [List.length_drop, List.length_take]; omega)).mono ?_
       rintro e w5 ⟨rfl, hb5⟩
       rw [bytesOf_str _ HBY2.out, bT_str]
       obtain ⟨sT, hsT⟩ : ∃ sT, bT (((l.take j).drop i).map lowB) = sT := ⟨_, rfl⟩
       rw [hsT]
       have HST := Aside0.mk hsT
       clear hsT
       have hT5 := blk_below HT0.out hb5
       have HB5 := Aside0.mk (below_step HB0.out hb5)
       have HO5 := Aside0.mk (own_bel HO0.out hb5)
       have HS5 := Aside0.mk HB5.out.size
       have HG5 := Aside0.mk (show wr.heap.size < w5.heap.size from blk_lt hT5)
       have z1 := blk_frozen hT5 1
       have q1 : w5.cell? ⟨wr.heap.size, 1, none⟩ = some (.string ⟨#[]⟩) := (blk_cell hT5 1).trans rfl
       have hT6 := blk_put hT5 1 (.string sT) rfl
       have e0 : (w5.setCell ⟨wr.heap.size, 1, none⟩ (.string sT)).cell? ⟨wr.heap.size, 0, none⟩ = some (.int .i64 (toks.length : Int)) := (blk_cell hT6 0).trans rfl
       have e1 : (w5.setCell ⟨wr.heap.size, 1, none⟩ (.string sT)).cell? ⟨wr.heap.size, 1, none⟩ = some (.string sT) := (blk_cell hT6 1).trans rfl
       have HO6 := Aside0.mk (ownsRow_setCell_other HO5.out (a := ⟨wr.heap.size, 1, none⟩) (fun e => by have h := own_lt HOWq.out _ e; exact absurd h (Nat.lt_irrefl _)) (.string sT))
       clear hb5 hT5 hT6 hcut18 hcv
       go_wp2_with ((with_reducible refine gate_dst (N := 50) rfl ?_); refine wpList_append_own _ rfl _ _ 114 rfl w.heap.size 118 i0 (.agg #[.int .i64 0, .string ⟨#[]⟩]) 2 24 Tryz.underlying114 hi0 hz0 hz1 hz2 rfl (by decide) _ toks.length (flatT toks) rfl (HO6.out.alloc _) ⟨w5.heap.size, 0, none⟩ 1 1 [.int .i64 (toks.length : Int), .string sT] rfl rfl (tok_cells_set _ _ _ _ _) (by simp [Value.oneCell']) (by have := HTL.out; unfold maxLen; omega) (by have := HTL.out; omega) (by have := HB5.out.size; rw [World.size_alloc, World.size_setCell]; omega) ?_; intro v' w8 hown' hgrow _; have HOW8 := Aside0.mk hown'; have HB8 := Aside0.mk (((HB5.out.setCell (p := ⟨wr.heap.size, 1, none⟩) HSq.out (.string sT)).alloc (by rw [World.size_setCell]; exact HS5.out) _).grown hgrow (by simp; have := HS5.out; omega) (fun j ej => own_base HO5.out j ej)); clear hown' hgrow)
       skip
       try rw [show wrap64 ((j : Int) + 1) = ((j + 1 : Nat) : Int) by have := HIJ.out; have := hn; unfold wrap64; omega]
       go_roundg (l.length - j)
       case measure => have := HI.out; have := HIJ.out; have := HJ.out; have := HI2.out; omega
       case rel => exact ⟨toks ++ [((l.take j).drop i).map lowB], j + 1, rfl, ⟨by have := HJ.out; omega⟩, ⟨by rw [← HS.out, HFT.out, List.append_assoc]; rfl⟩, ⟨by rw [flatT_snoc]; have h := HOW8.out; rw [← HST.out] at h; simpa [tokV] using h⟩, HB8⟩
      ·have d64 : decide ((j : Int) - (i : Int) ≤ 64) = false := decide_eq_false (by omega)
       have HFT := Aside0.mk (show finT (((l.take j).drop i).map lowB) = [] by unfold finT; rw [if_pos (by rw [hrl]; omega)])
       have e0 : (wr.alloc (Obj.cells #[.int .i64 (toks.length : Int), .string ⟨#[]⟩] 118)).cell? ⟨wr.heap.size, 0, none⟩ = some (.int .i64 (toks.length : Int)) := (blk_cell hT0 0).trans rfl
       have e1 : (wr.alloc (Obj.cells #[.int .i64 (toks.length : Int), .string ⟨#[]⟩] 118)).cell? ⟨wr.heap.size, 1, none⟩ = some (.string ⟨#[]⟩) := (blk_cell hT0 1).trans rfl
       clear hT0 h64 hrl
       go_wp2_with ((with_reducible refine gate_dst (N := 50) rfl ?_); refine wpList_append_own _ rfl _ _ 114 rfl w.heap.size 118 i0 (.agg #[.int .i64 0, .string ⟨#[]⟩]) 2 24 Tryz.underlying114 hi0 hz0 hz1 hz2 rfl (by decide) _ toks.length (flatT toks) rfl (HO0.out.alloc _) ⟨wr.heap.size + 1, 0, none⟩ 1 1 [.int .i64 (toks.length : Int), .string ⟨#[]⟩] rfl rfl (tok_cells_two _ _ _ _) (by simp [Value.oneCell']) (by have := HTL.out; unfold maxLen; omega) (by have := HTL.out; omega) (by have := HSq.out; rw [World.size_alloc, World.size_alloc]; omega) ?_; intro v' w8 hown' hgrow _; have HOW8 := Aside0.mk hown'; have HB8 := Aside0.mk ((HB0.out.alloc (by rw [World.size_alloc]; have := HSq.out; omega) _).grown hgrow (by simp; have := HSq.out; omega) (fun j ej => own_base HO0.out j ej)); clear hown' hgrow)
       try rw [show wrap64 ((j : Int) + 1) = ((j + 1 : Nat) : Int) by have := HIJ.out; have := hn; unfold wrap64; omega]
       go_roundg (l.length - j)
       case measure => have := HI.out; have := HIJ.out; have := HJ.out; have := HI2.out; omega
       case rel => exact ⟨toks ++ [[]], j + 1, rfl, ⟨by have := HJ.out; omega⟩, ⟨by rw [← HS.out, HFT.out, List.append_assoc]; rfl⟩, ⟨by rw [flatT_snoc]; have h := HOW8.out; simpa [tokV, bT] using h⟩, HB8⟩
  ·have d0 : decide ((i : Int) < (l.length : Int)) = false := decide_eq_false (by omega)
   have HTF := Aside0.mk (show toks = cutS none l by have h := HT.out; rw [List.drop_of_length_le (by omega)] at h; simpa [cutS] using h)
   obtain ⟨A3, c3, rfl, hc3⟩ := own_sl HOW.out
   go_wp2_with fail
   go_ret
   exact ⟨_, rfl, by rw [← HTF.out]; exact HOW.out, HB.out⟩
end Go.Proofs.YtehaodbheifokaaGreatDoor.P
end
section
namespace Go.Proofs.YtehaodbheifokaaGreatDoor.P
open Go.RowKit Go.Proofs.YtehaodbheifokaaGreatDoorW.PrintWords Go.Proofs.YtehaodbheifokaaGreatDoorW.PrintLast Go.Proofs.YtehaodbheifokaaGreatDoorW.PrintMore
attribute [local go_sem] max2_int min2_int max_two min_two max_three min_three max_four min_four  
mutual
def dragnetref20_phrase.l0 : Nat → List (S118) → List ByteArray → Int → Option (Bool)
 | 0, _, _, _ => none
 | k + 1, x0, x1, x5 => if x5 < (x0.length : Int) then (dragnetref20_phrase.l1 k x0 x1 x5 0) else (some false)
def dragnetref20_phrase.l1 : Nat → List (S118) → List ByteArray → Int → Int → Option (Bool)
 | 0, _, _, _, _ => none
 | k + 1, x0, x1, x5, x6 => if x6 < (x1.length : Int) then (if x6 < (wrap64 ((x0.length : Int) - x5)) then (if 0 ≤ (wrap64 (x5 + x6)) then (if (wrap64 (x5 + x6)) < (x0.length : Int) then (if 0 ≤ x6 then (if ((rd_T118 x0 (wrap64 (x5 + x6))).f1).toList = (rdOf ByteArray.empty x1 x6).toList then (dragnetref20_phrase.l1 k x0 x1 x5 (wrap64 (x6 + 1))) else (if x6 = (x1.length : Int) then (some true) else (dragnetref20_phrase.l0 k x0 x1 (wrap64 (x5 + 1))))) else (none)) else (none)) else (none)) else (if x6 = (x1.length : Int) then (some true) else (dragnetref20_phrase.l0 k x0 x1 (wrap64 (x5 + 1))))) else (if x6 = (x1.length : Int) then (some true) else (dragnetref20_phrase.l0 k x0 x1 (wrap64 (x5 + 1))))
end
def dragnetref20_phrase.f (k : Nat) (l0 : List (S118)) (l1 : List ByteArray) : Option (Bool) := dragnetref20_phrase.l0 k l0 l1 0
theorem dragnetref20_phrase.calls (k : Nat) (A0 : Option Addr) (c0 : Nat) (l0 : List (S118)) (A1 : Option Addr) (c1 : Nat) (l1 : List ByteArray) (r : Bool) (w : World) (hr0 : Kd.C k118 w A0 l0.length l0) (hc0 : l0.length ≤ c0) (hr1 : Kd.C Kd.string w A1 l1.length l1) (hc1 : l1.length ≤ c1) (h : dragnetref20_phrase.f k l0 l1 = some r) :
  Calls Tryz.prog 69 #[.slice A0 l0.length c0, .slice A1 l1.length c1] w fun e w' => e = .returned (.bool r) ∧ Drawn0 w w' := by
 have HR0 := Aside0.mk hr0
 have HC0 := Aside0.mk hc0
 clear hr0 hc0
 have HR1 := Aside0.mk hr1
 have HC1 := Aside0.mk hc1
 clear hr1 hc1
 have H : (dragnetref20_phrase.l0 k l0 l1 0) = some r := h
 clear h
 have H' := Aside0.mk H
 clear H
 go_enter Tryz.func69, Tryz.ntmps69
 go_wp2
 repeat (go_quiet (fail); try go_wp2)
 go_loopg [5] k (fun kq v5 w' => ∃ (x5_1 : Int), v5 = .int .i64 x5_1 ∧ Aside0 (dragnetref20_phrase.l0 kq l0 l1 x5_1 = some r) ∧ Aside0 (kq ≤ k) ∧ Drawn0 w w')
 case atStart => exact ⟨(0), rs_, H', ⟨Nat.le_refl _⟩, dr_⟩
 case round =>
  clear H'
  try clear c1
  try clear p2
  obtain ⟨x5_1, rfl, HA, HK1, ⟨m1, rfl⟩⟩ := hrel
  cases gk with
  | zero => exact absurd HA.out (by simp [dragnetref20_phrase.l0])
  | succ k1 =>
   have H := HA.out
   clear HA
   simp only [dragnetref20_phrase.l0] at H
   by_cases c3 : x5_1 < (l0.length : Int)
   ·rw [if_pos c3] at H
    have c3b0 : decide (x5_1 < (l0.length : Int)) = true := decide_eq_true c3
    clear c3
    have H' := Aside0.mk H
    clear H
    go_wp2
    repeat (go_quiet (fail); try go_wp2)
    go_loopg [6] k1 (fun kq v6 w' => ∃ (x6_2 : Int), v6 = .int .i64 x6_2 ∧ Aside0 (dragnetref20_phrase.l1 kq l0 l1 x5_1 x6_2 = some r) ∧ Aside0 (kq ≤ k1) ∧ Drawn0 w w')
    case atStart => exact ⟨(0), rs_, H', ⟨Nat.le_refl _⟩, dr_⟩
    case round =>
     clear H'
     try clear c1
     try clear p2
     try clear c3
     try clear c3b0
     try clear p2
     obtain ⟨x6_2, rfl, HA, HK2, ⟨m2, rfl⟩⟩ := hrel
     cases gk with
     | zero => exact absurd HA.out (by simp [dragnetref20_phrase.l1])
     | succ k2 =>
      have H := HA.out
      clear HA
      simp only [dragnetref20_phrase.l1] at H
      by_cases c4 : x6_2 < (l1.length : Int)
      ·rw [if_pos c4] at H
       have c4b0 : decide (x6_2 < (l1.length : Int)) = true := decide_eq_true c4
       clear c4
       by_cases c5 : x6_2 < (wrap64 ((l0.length : Int) - x5_1))
       ·rw [if_pos c5] at H
        have c5b0 : decide (x6_2 < (wrap64 ((l0.length : Int) - x5_1))) = true := decide_eq_true c5
        clear c5
        obtain ⟨ji6, hji6⟩ : ∃ j_ : Int, (wrap64 (x5_1 + x6_2)) = j_ := ⟨_, rfl⟩
        replace H : (if 0 ≤ (ji6) then (if (ji6) < (l0.length : Int) then (if 0 ≤ x6_2 then (if ((rd_T118 l0 (ji6)).f1).toList = (rdOf ByteArray.empty l1 x6_2).toList then (dragnetref20_phrase.l1 k2 l0 l1 x5_1 (wrap64 (x6_2 + 1))) else (if x6_2 = (l1.length : Int) then (some true) else (dragnetref20_phrase.l0 k2 l0 l1 (wrap64 (x5_1 + 1))))) else (none)) else (none)) else (none)) = some r := by first | (rw [hji6] at H; exact H) | (simp only [hji6] at H ⊢; exact H)
        have hji6w : (IntKind.i64.wrap (x5_1 + x6_2)) = ji6 := (i64_w _).trans hji6
        by_cases c7 : 0 ≤ (ji6)
        ·rw [if_pos c7] at H
         have c7b0 : decide (0 ≤ (ji6)) = true := decide_eq_true c7
         clear c7
         by_cases c8 : (ji6) < (l0.length : Int)
         ·rw [if_pos c8] at H
          have c8b0 : decide ((ji6) < (l0.length : Int)) = true := decide_eq_true c8
          clear c8
          by_cases c9 : 0 ≤ x6_2
          ·rw [if_pos c9] at H
           have c9b0 : decide (0 ≤ x6_2) = true := decide_eq_true c9
           clear c9
           by_cases c10 : ((rd_T118 l0 (ji6)).f1).toList = (rdOf ByteArray.empty l1 x6_2).toList
           ·rw [if_pos c10] at H
            have c10b0 : (((rd_T118 l0 (ji6)).f1).toList == (rdOf ByteArray.empty l1 x6_2).toList) = true := beq_iff_eq.mpr c10
            have c10b1 : (((rd_T118 l0 (ji6)).f1).toList != (rdOf ByteArray.empty l1 x6_2).toList) = false := bne_eq_false_iff_eq.mpr c10
            clear c10
            have H' := Aside0.mk H
            clear H
            have p258 : 0 ≤ ((ji6) : Int) := of_decide_eq_true as_
            have q258 : (ji6) < (l0.length : Int) := of_decide_eq_true as_
            obtain ⟨ad258, e258, hx258_0, hx258_1⟩ := at_T118 HR0.out (ji6) p258 q258
            cases e258
            replace p258 := eq_true p258
            replace q258 := eq_true q258
            have p259 : 0 ≤ (x6_2 : Int) := of_decide_eq_true as_
            have q259 : x6_2 < (l1.length : Int) := of_decide_eq_true as_
            obtain ⟨ad259, e259, hx259_0⟩ := Kd.at_string HR1.out x6_2 p259 q259
            cases e259
            replace p259 := eq_true p259
            replace q259 := eq_true q259
            go_wp2
            repeat (go_quiet (fail); try go_wp2)
            go_roundg k2
            case measure => have := HK1.out; have := HK2.out; omega
            case rel => exact ⟨(wrap64 (x6_2 + 1)), rs_, H', ⟨by have := HK1.out; have := HK2.out; omega⟩, dr_⟩
           ·rw [if_neg c10] at H
            have c10b0 : (((rd_T118 l0 (ji6)).f1).toList == (rdOf ByteArray.empty l1 x6_2).toList) = false := beq_eq_false_iff_ne.mpr c10
            have c10b1 : (((rd_T118 l0 (ji6)).f1).toList != (rdOf ByteArray.empty l1 x6_2).toList) = true := bne_iff_ne.mpr c10
            by_cases c11 : x6_2 = (l1.length : Int)
            ·rw [if_pos c11] at H
             have c11b0 : (x6_2 == (l1.length : Int)) = true := beq_iff_eq.mpr c11
             have c11b1 : (x6_2 != (l1.length : Int)) = false := bne_eq_false_iff_eq.mpr c11
             clear c11
             obtain rfl := Option.some.inj H
             have p258 : 0 ≤ ((ji6) : Int) := of_decide_eq_true as_
             have q258 : (ji6) < (l0.length : Int) := of_decide_eq_true as_
             obtain ⟨ad258, e258, hx258_0, hx258_1⟩ := at_T118 HR0.out (ji6) p258 q258
             cases e258
             replace p258 := eq_true p258
             replace q258 := eq_true q258
             have p259 : 0 ≤ (x6_2 : Int) := of_decide_eq_true as_
             have q259 : x6_2 < (l1.length : Int) := of_decide_eq_true as_
             obtain ⟨ad259, e259, hx259_0⟩ := Kd.at_string HR1.out x6_2 p259 q259
             cases e259
             replace p259 := eq_true p259
             replace q259 := eq_true q259
             go_wp2
             repeat (go_quiet (fail); try go_wp2)
             go_ret
             exact ⟨by first | rfl | (simp; done) | (simp only [← hji6] <;> (first | rfl | simp)) | (simp [*]; done), dr_⟩
            ·rw [if_neg c11] at H
             have c11b0 : (x6_2 == (l1.length : Int)) = false := beq_eq_false_iff_ne.mpr c11
             have c11b1 : (x6_2 != (l1.length : Int)) = true := bne_iff_ne.mpr c11
             have H' := Aside0.mk H
             clear H
             have p258 : 0 ≤ ((ji6) : Int) := of_decide_eq_true as_
             have q258 : (ji6) < (l0.length : Int) := of_decide_eq_true as_
             obtain ⟨ad258, e258, hx258_0, hx258_1⟩ := at_T118 HR0.out (ji6) p258 q258
             cases e258
             replace p258 := eq_true p258
             replace q258 := eq_true q258
             have p259 : 0 ≤ (x6_2 : Int) := of_decide_eq_true as_
             have q259 : x6_2 < (l1.length : Int) := of_decide_eq_true as_
             obtain ⟨ad259, e259, hx259_0⟩ := Kd.at_string HR1.out x6_2 p259 q259
             cases e259
             replace p259 := eq_true p259
             replace q259 := eq_true q259
             go_wp2
             repeat (go_quiet (fail); try go_wp2)
             go_roundg k2
             case measure => have := HK1.out; have := HK2.out; omega
             case rel => exact ⟨(wrap64 (x5_1 + 1)), rs_, H', ⟨by have := HK1.out; have := HK2.out; omega⟩, dr_⟩
          ·rw [if_neg c9] at H
           exact absurd H (by simp)
         ·rw [if_neg c8] at H
          exact absurd H (by simp)
        ·rw [if_neg c7] at H
         exact absurd H (by simp)
       ·rw [if_neg c5] at H
        have c5b0 : decide (x6_2 < (wrap64 ((l0.length : Int) - x5_1))) = false := decide_eq_false c5
        clear c5
        by_cases c12 : x6_2 = (l1.length : Int)
        ·rw [if_pos c12] at H
         have c12b0 : (x6_2 == (l1.length : Int)) = true := beq_iff_eq.mpr c12
         have c12b1 : (x6_2 != (l1.length : Int)) = false := bne_eq_false_iff_eq.mpr c12
         clear c12
         obtain rfl := Option.some.inj H
         go_wp2
         repeat (go_quiet (fail); try go_wp2)
         go_ret
         exact ⟨by first | rfl | (simp; done) | (simp [*]; done), dr_⟩
        ·rw [if_neg c12] at H
         have c12b0 : (x6_2 == (l1.length : Int)) = false := beq_eq_false_iff_ne.mpr c12
         have c12b1 : (x6_2 != (l1.length : Int)) = true := bne_iff_ne.mpr c12
         have H' := Aside0.mk H
         clear H
         go_wp2
         repeat (go_quiet (fail); try go_wp2)
         go_roundg k2
         case measure => have := HK1.out; have := HK2.out; omega
         case rel => exact ⟨(wrap64 (x5_1 + 1)), rs_, H', ⟨by have := HK1.out; have := HK2.out; omega⟩, dr_⟩
      ·rw [if_neg c4] at H
       have c4b0 : decide (x6_2 < (l1.length : Int)) = false := decide_eq_false c4
       clear c4
       by_cases c13 : x6_2 = (l1.length : Int)
       ·rw [if_pos c13] at H
        have c13b0 : (x6_2 == (l1.length : Int)) = true := beq_iff_eq.mpr c13
        have c13b1 : (x6_2 != (l1.length : Int)) = false := bne_eq_false_iff_eq.mpr c13
        clear c13
        obtain rfl := Option.some.inj H
        go_wp2
        repeat (go_quiet (fail); try go_wp2)
        go_ret
        exact ⟨by first | rfl | (simp; done) | (simp [*]; done), dr_⟩
       ·rw [if_neg c13] at H
        have c13b0 : (x6_2 == (l1.length : Int)) = false := beq_eq_false_iff_ne.mpr c13
        have c13b1 : (x6_2 != (l1.length : Int)) = true := bne_iff_ne.mpr c13
        have H' := Aside0.mk H
        clear H
        go_wp2
        repeat (go_quiet (fail); try go_wp2)
        go_roundg k2
        case measure => have := HK1.out; have := HK2.out; omega
        case rel => exact ⟨(wrap64 (x5_1 + 1)), rs_, H', ⟨by have := HK1.out; have := HK2.out; omega⟩, dr_⟩
   ·rw [if_neg c3] at H
    have c3b0 : decide (x5_1 < (l0.length : Int)) = false := decide_eq_false c3
    clear c3
    obtain rfl := Option.some.inj H
    go_wp2
    repeat (go_quiet (fail); try go_wp2)
    go_ret
    exact ⟨by first | rfl | (simp; done) | (simp [*]; done), dr_⟩
end Go.Proofs.YtehaodbheifokaaGreatDoor.P
end
section
namespace Go.Proofs.YtehaodbheifokaaGreatDoor.P
open Go Go.RowKit Go.Proofs.YtehaodbheifokaaGreatDoorW.PrintWords Go.Proofs.YtehaodbheifokaaGreatDoorW.PrintLast Go.Proofs.YtehaodbheifokaaGreatDoorW.PrintMore
theorem size_list (s : ByteArray) : s.data.toList.length = s.size := by rw [Array.length_toList]; rfl
theorem begins_f (s p : ByteArray) : dragnetref20_begins.f s p = some (prefB p s) := by
 unfold dragnetref20_begins.f prefB
 by_cases h : p.size ≤ s.size
 ·rw [if_pos (by omega), if_pos (by omega), if_pos (by omega)]
  congr 1
  rw [Bool.eq_iff_iff, List.isPrefixOf_iff_prefix, beq_iff_eq, bytes_eq0, bytes_eq0, Int.toNat_natCast]
  have e : (s.extract 0 p.size).data.toList = s.data.toList.take p.data.toList.length := by
   rw [size_list]
   simp [ByteArray.data_extract]
  rw [e]
  constructor
  ·intro h2
   rw [← h2]
   exact List.take_prefix _ _
  ·intro h2
   exact (List.prefix_iff_eq_take.1 h2).symm
 ·rw [if_neg (by omega)]
  congr 1
  symm
  rw [Bool.eq_false_iff]
  intro h2
  rw [List.isPrefixOf_iff_prefix] at h2
  have := h2.length_le
  rw [size_list, size_list] at this
  omega
def anyFrom (s p : ByteArray) (i : Nat) : Bool := (List.range' i (s.size + 1 - i)).any fun j => prefB p (s.extract j s.size)
theorem inside_loop (s p : ByteArray) (hs : s.size ≤ 1099511627776) : ∀ (d i : Nat), i + d = s.size + 1 → Ev (fun k => dragnetref20_inside.l0 k s p (i : Int)) (anyFrom s p i)
 | 0, i, hi => by
  refine Ev.step (f := fun _ => some false) (fun k => ?_) (by
   have : anyFrom s p i = false := by unfold anyFrom; rw [show s.size + 1 - i = 0 by omega]; rfl
   rw [this]
   exact Ev.now _)
  simp only [dragnetref20_inside.l0]
  rw [if_neg (by omega)]
 | d + 1, i, hi => by
  have ih := inside_loop s p hs d (i + 1) (by omega)
  have ha : anyFrom s p i = (prefB p (s.extract i s.size) || anyFrom s p (i + 1)) := by
   unfold anyFrom
   rw [show s.size + 1 - i = (s.size + 1 - (i + 1)) + 1 by omega, List.range'_succ, List.any_cons]
  rw [ha]
  by_cases h : prefB p (s.extract i s.size) = true
  ·rw [h, Bool.true_or]
   refine Ev.step (f := fun _ => some true) (fun k => ?_) (Ev.now _)
   simp only [dragnetref20_inside.l0]
   rw [if_pos (by omega), if_pos (by omega), Int.toNat_natCast, begins_f, Option.bind_some, if_pos h]
  ·have h' : prefB p (s.extract i s.size) = false := by simpa using h
   rw [h', Bool.false_or]
   refine Ev.step (fun k => ?_) ih
   simp only [dragnetref20_inside.l0]
   have ew : wrap64 ((i : Int) + 1) = ((i + 1 : Nat) : Int) := by unfold wrap64; omega
   rw [if_pos (by omega), if_pos (by omega), Int.toNat_natCast, begins_f, Option.bind_some, if_neg h, ew]
theorem inside_sub (l : List Int) (p : ByteArray) : anyFrom (strOfNums l) p 0 = subB l (bytesOf p) := by
 have hsl : (strOfNums l).data.toList = Lib.bytesOf l := by rw [← bytes_eq0, Lib.strOfNums_toList]
 have hpl : Lib.bytesOf (bytesOf p) = p.data.toList := by
  unfold Lib.bytesOf bytesOf
  rw [List.map_map]
  conv => rhs; rw [← List.map_id p.data.toList]
  apply List.map_congr_left
  intro b _
  simp
 have hx : ∀ j, (((strOfNums l).extract j (strOfNums l).size).data.toList) = (Lib.bytesOf l).drop j := fun j => by
  rw [← hsl]
  rw [ByteArray.data_extract, Array.toList_extract, List.extract_eq_take_drop, ← size_list]
  exact List.take_of_length_le (by rw [List.length_drop]; omega)
 unfold subB Lib.contains
 rw [hpl, Bool.eq_iff_iff, decide_eq_true_eq]
 unfold anyFrom
 rw [List.any_eq_true]
 have hll : (Lib.bytesOf l).length = (strOfNums l).size := by rw [← hsl, size_list]
 constructor
 ·rintro ⟨j, hj, h⟩
  unfold prefB at h
  rw [hx] at h
  rw [List.mem_range'] at hj
  obtain ⟨q, hq, rfl⟩ := hj
  rcases Lib.index_spec (Lib.bytesOf l) p.data.toList with ⟨_, h5⟩ | ⟨i, h5, _⟩
  ·exfalso
   have h6 := h5 (0 + 1 * q) (by omega)
   unfold Lib.occAt at h6
   rw [h] at h6
   exact absurd h6 (by decide)
  ·omega
 ·intro h
  rcases Lib.index_spec (Lib.bytesOf l) p.data.toList with ⟨h4, _⟩ | ⟨i, h5, h6, h7, _⟩
  ·omega
  ·refine ⟨i, ?_, ?_⟩
   ·rw [List.mem_range']
    exact ⟨i, by omega, by omega⟩
   ·unfold prefB
    rw [hx]
    exact h7
theorem inside_ev (l : List Int) (p : ByteArray) (hl : l.length ≤ 1000000) : Ev (fun k => dragnetref20_inside.f k (strOfNums l) p) (subB l (bytesOf p)) := by
 rw [← inside_sub]
 have hs : (strOfNums l).size = l.length := by rw [← size_list, ← bytes_eq0, Lib.strOfNums_toList]; simp [Lib.bytesOf]
 exact inside_loop (strOfNums l) p (by omega) ((strOfNums l).size + 1) 0 (by omega)
abbrev TK := S118
def tokL (ts : List (List Int)) : List TK := ts.zipIdx.map (fun x => ⟨(x.2 : Int), bT x.1⟩)
theorem tokL_len (ts : List (List Int)) : (tokL ts).length = ts.length := by simp [tokL]
theorem tokL_at (ts : List (List Int)) (i : Nat) (h : i < ts.length) : (rd_T118 (tokL ts) (i : Int)).f1 = bT ts[i] := by
 unfold rd_T118 tokL
 simp [List.getD_eq_getElem?_getD, h]
theorem phrase_inner (ts : List (List Int)) (p : List ByteArray) (i : Nat) (hi : i ≤ ts.length) (hb : ts.length ≤ 1099511627776) (hp : p.length ≤ 1099511627776) (r : Bool) (hno : ((ts.map bT).drop i).take p.length ≠ p → Ev (fun k => dragnetref20_phrase.l0 k (tokL ts) p (wrap64 ((i : Int) + 1))) r) (hyes : ((ts.map bT).drop i).take p.length = p → r = true) :
  ∀ (d m : Nat), m + d = p.length → m ≤ ts.length - i → ((ts.map bT).drop i).take m = p.take m → Ev (fun k => dragnetref20_phrase.l1 k (tokL ts) p (i : Int) (m : Int)) r
 | 0, m, hm, hmt, he => by
  obtain rfl : m = p.length := by omega
  have hq : ((ts.map bT).drop i).take p.length = p := by rw [he, List.take_length]
  rw [hyes hq]
  refine Ev.step (f := fun _ => some true) (fun k => ?_) (Ev.now _)
  simp only [dragnetref20_phrase.l1]
  rw [if_neg (by omega)]
  first | rw [if_pos rfl] | rw [if_pos trivial]
 | d + 1, m, hm, hmt, he => by
  have hmp : m < p.length := by omega
  by_cases h1 : m < ts.length - i
  ·have ew : wrap64 (((tokL ts).length : Int) - (i : Int)) = ((ts.length - i : Nat) : Int) := by rw [tokL_len]; unfold wrap64; omega
   have ew2 : wrap64 ((i : Int) + (m : Int)) = ((i + m : Nat) : Int) := by unfold wrap64; omega
   have ew3 : wrap64 ((m : Int) + 1) = ((m + 1 : Nat) : Int) := by unfold wrap64; omega
   have ht : (rd_T118 (tokL ts) ((i + m : Nat) : Int)).f1 = bT (ts[i + m]'(by omega)) := tokL_at ts (i + m) (by omega)
   have hpm : rdOf ByteArray.empty p (m : Int) = p[m] := by simp [rdOf, List.getD, hmp]
   have hd : ((ts.map bT).drop i)[m]? = some (bT (ts[i + m]'(by omega))) := by
    rw [List.getElem?_drop, List.getElem?_map, List.getElem?_eq_getElem (by omega)]
    rfl
   by_cases h2 : bT (ts[i + m]'(by omega)) = p[m]
   ·refine Ev.step (fun k => ?_) (phrase_inner ts p i hi hb hp r hno hyes d (m + 1) (by omega) (by omega) ?_)
    ·simp only [dragnetref20_phrase.l1]
     rw [if_pos (by omega), ew, if_pos (by omega), ew2, if_pos (by omega), if_pos (by rw [tokL_len]; omega), if_pos (by omega), ht, hpm, if_pos (by rw [h2]), ew3]
    ·have hl1 : m < ((ts.map bT).drop i).length := by rw [List.length_drop, List.length_map]; omega
     rw [List.take_succ_eq_append_getElem hl1, List.take_succ_eq_append_getElem hmp, he]
     rw [List.getElem?_eq_getElem hl1] at hd
     rw [Option.some.inj hd, h2]
   ·have hne : ((ts.map bT).drop i).take p.length ≠ p := fun e => by
     apply h2
     have e2 := congrArg (fun z => z[m]?) e
     try simp only at e2
     rw [List.getElem?_take_of_lt hmp, hd, List.getElem?_eq_getElem hmp] at e2
     exact Option.some.inj e2
    refine Ev.step (fun k => ?_) (hno hne)
    simp only [dragnetref20_phrase.l1]
    rw [if_pos (by omega), ew, if_pos (by omega), ew2, if_pos (by omega), if_pos (by rw [tokL_len]; omega), if_pos (by omega), ht, hpm, if_neg (fun e => h2 (bytes_inj0.1 e)), if_neg (by omega)]
  ·have ew : wrap64 (((tokL ts).length : Int) - (i : Int)) = ((ts.length - i : Nat) : Int) := by rw [tokL_len]; unfold wrap64; omega
   have hne : ((ts.map bT).drop i).take p.length ≠ p := fun e => by
    have e2 := congrArg List.length e
    rw [List.length_take, List.length_drop, List.length_map] at e2
    omega
   refine Ev.step (fun k => ?_) (hno hne)
   simp only [dragnetref20_phrase.l1]
   rw [if_pos (by omega), ew, if_neg (by omega), if_neg (by omega)]
def phraseFrom (all p : List ByteArray) (i : Nat) : Bool := (List.range' i (all.length - i)).any fun j => decide ((all.drop j).take p.length = p)
theorem phrase_loop (ts : List (List Int)) (p : List ByteArray) (hb : ts.length ≤ 1099511627776) (hp : p.length ≤ 1099511627776) : ∀ (d i : Nat), i + d = ts.length → Ev (fun k => dragnetref20_phrase.l0 k (tokL ts) p (i : Int)) (phraseFrom (ts.map bT) p i)
 | 0, i, hi => by
  refine Ev.step (f := fun _ => some false) (fun k => ?_) (by
   have : phraseFrom (ts.map bT) p i = false := by unfold phraseFrom; rw [List.length_map, show ts.length - i = 0 by omega]; rfl
   rw [this]
   exact Ev.now _)
  simp only [dragnetref20_phrase.l0]
  rw [if_neg (by rw [tokL_len]; omega)]
 | d + 1, i, hi => by
  have ih := phrase_loop ts p hb hp d (i + 1) (by omega)
  have ew : wrap64 ((i : Int) + 1) = ((i + 1 : Nat) : Int) := by unfold wrap64; omega
  have ha : phraseFrom (ts.map bT) p i = (decide (((ts.map bT).drop i).take p.length = p) || phraseFrom (ts.map bT) p (i + 1)) := by
   unfold phraseFrom
   rw [List.length_map, show ts.length - i = (ts.length - (i + 1)) + 1 by omega, List.range'_succ, List.any_cons]
  refine Ev.step (fun k => ?_) (phrase_inner ts p i (by omega) hb hp (phraseFrom (ts.map bT) p i) (fun hne => by rw [ew, ha, decide_eq_false hne, Bool.false_or]; exact ih) (fun he => by rw [ha, decide_eq_true he, Bool.true_or]) p.length 0 (by omega) (by omega) (by simp))
  simp only [dragnetref20_phrase.l0]
  rw [if_pos (by rw [tokL_len]; omega)]
  rfl
theorem phrase_same (all p : List ByteArray) (hp : 0 < p.length) : phraseFrom all p 0 = phraseB all p := by
 unfold phraseFrom phraseB
 rw [Bool.eq_iff_iff, List.any_eq_true, List.any_eq_true]
 constructor
 ·rintro ⟨j, hj, h⟩
  refine ⟨j, ?_, h⟩
  have e2 := congrArg List.length (of_decide_eq_true h)
  rw [List.length_take, List.length_drop] at e2
  rw [List.mem_range]
  omega
 ·rintro ⟨j, hj, h⟩
  refine ⟨j, ?_, h⟩
  rw [List.mem_range] at hj
  rw [List.mem_range']
  exact ⟨j, by omega, by omega⟩
theorem phrase_ev (ts : List (List Int)) (p : List ByteArray) (hb : ts.length ≤ 1099511627776) (hp : p.length ≤ 1099511627776) (h0 : 0 < p.length) : Ev (fun k => dragnetref20_phrase.f k (tokL ts) p) (phraseB (ts.map bT) p) := by
 rw [← phrase_same _ _ h0]
 exact phrase_loop ts p hb hp ts.length 0 (by omega)
end Go.Proofs.YtehaodbheifokaaGreatDoor.P
end
