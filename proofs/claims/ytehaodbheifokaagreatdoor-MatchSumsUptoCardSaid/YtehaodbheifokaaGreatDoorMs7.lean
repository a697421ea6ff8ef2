/- Joined by wip/tools/pack.py, pruned: Form20, Shelf, FieldIn. -/
import Derived.Test.YtehaodbheifokaaGreatDoorMs6
import Derived.Deep.Light
import Derived.Shelf.Small.Utf8
import Derived.Shelf.Small.Bits
import Derived.Shelf.Small.Strs
import Derived.Shelf.Strconv.Atoi
import Derived.Shelf.Strconv.Itoa0
import Derived.Shelf.Strconv.Itoa1
import Derived.Shelf.LaysM
import Derived.Shelf.Strconv.Itoa2
import Derived.Shelf.Strconv.Itoa3
import Derived.Shelf.Strconv.AtoiErrFast
import Derived.Shelf.Strconv.ParseIntEmpty
import Derived.Shelf.Strconv.AtoiFail
import Derived.Shelf.Strconv.Clone
import Derived.Shelf.Strconv.SyntaxError
import Derived.Shelf.LaysC
import Derived.Shelf.Strconv.ToError
import Derived.Shelf.Strconv.Lower
import Derived.Shelf.Strconv.ParseUint10
import Derived.Shelf.Strconv.ParseUint10Empty
import Derived.Shelf.Strconv.ParseUint10Any
import Derived.Shelf.Strconv.ParseInt10
import Derived.Shelf.Strconv.AtoiLong
import Derived.Shelf.Strconv.AtoiInnerAll
import Derived.Shelf.Strconv.RangeError
import Derived.Shelf.Strconv.ToErrorRange
import Derived.Shelf.Strconv.AtoiAll
import Derived.Shelf.Strconv.ErrVarAll
import Derived.Shelf.Strings.Search1
import Derived.Shelf.Strings.Search2
import Derived.Shelf.Strings.Cut
import Derived.Shelf.Strings.Shaped
import Derived.Shelf.Strings.Prefix
import Derived.Shelf.Bytes.SlIndexSmall
import Derived.Shelf.Bytes.SlIndexAt
import Derived.Shelf.Bytes.SlSearch0
import Derived.Shelf.Bytes.SlSearch1
import Derived.Shelf.Bytes.SlSearch2
import Derived.Shelf.Bytes.SlIndexWhole
import Derived.Shelf.Bytes.Small
import Derived.Shelf.Bytes.IndexByte
import Derived.Shelf.Bytes.SlTrim
import Derived.Shelf.Spec.DecodeRune
import Derived.Shelf.SlicesQ.IndexFunc
import Derived.Ground.SlbvProg
import Derived.Ground.SlgfProg
import Derived.Lib.LaidTab
import Derived.Shelf.Unicode.DecodeSlow
set_option maxHeartbeats 8000000
set_option maxRecDepth 100000
set_option linter.unusedVariables false
set_option linter.unusedSimpArgs false
section
namespace Go.Proofs.YtehaodbheifokaaGreatDoor.P
open Go Go.RowKit Go.Proofs.YtehaodbheifokaaGreatDoorW.PrintWords Go.Proofs.YtehaodbheifokaaGreatDoorW.PrintLast Go.Proofs.YtehaodbheifokaaGreatDoorW.PrintMore
attribute [local go_sem] max2_int min2_int max_two min_two
theorem info_i64G : (Tryz.prog.info? 3).map (fun i => (i.zero, i.size, i.bytes)) = some (some (.int .i64 0), 1, 8) := by kernel_rfl
abbrev ND := S37
def rightN (n : ND) : Bool := rightB n.f0 n.f1 n.f2 n.f3 n.f4 n.f5 n.f6 n.f7
def partsN (n : ND) : List Int := if n.f0 = 10 ∨ n.f0 = 11 then [n.f1, n.f2] else if n.f0 = 12 then [n.f1] else []
def inN (i : Nat) (k : Int) : Bool := decide (0 ≤ k ∧ k < i)
def bump (u : List Int) (ps : List Int) : List Int := ps.foldl (fun u k => u.set k.toNat (wrap64 (u.getD k.toNat 0 + 1))) u
def formL : Nat → List ND → List Int → Option (List Int)
 | _, [], u => some u
 | i, n :: r, u => if rightN n = true ∧ (partsN n).all (inN i) = true then formL (i + 1) r (bump u (partsN n)) else none
def onesB (u : List Int) : Bool := (u.take (u.length - 1)).all (fun n => n == 1)
def formedB (ns : List ND) (k : Int) (ky : ByteArray) (wd sk mo : Int) : Bool :=
 decide (1 ≤ ns.length ∧ ns.length ≤ 64) && askedB k ky wd sk mo && (match formL 0 ns (List.replicate ns.length 0) with | none => false | some u => onesB u)
theorem made_nums (m : Nat) : madeCells #[Value.int .i64 0] m = (nums .i64 (List.replicate m 0)).toArray := by
 have hl : (madeCells #[Value.int .i64 0] m).toList = nums .i64 (List.replicate m 0) := by
  apply List.ext_getElem
  ·simp [nums, madeCells]
  ·intro i h1 h2
   simp [nums, madeCells, Nat.mod_one]
 rw [← hl, Array.toArray_toList]
theorem bump_len : ∀ (ps : List Int) (u : List Int), (bump u ps).length = u.length
 | [], u => rfl
 | p :: ps, u => by unfold bump; rw [List.foldl_cons]; exact (bump_len ps _).trans (by simp)
theorem bump_snoc (u : List Int) (ps : List Int) (p : Int) : bump u (ps ++ [p]) = (bump u ps).set p.toNat (wrap64 ((bump u ps).getD p.toNat 0 + 1)) := by
 unfold bump
 rw [List.foldl_append]
 rfl
theorem take_next {ps : List Int} {j : Nat} {p : Int} (h : ps[j]? = some p) : ps.take (j + 1) = ps.take j ++ [p] := by
 obtain ⟨hl, he⟩ := List.getElem?_eq_some_iff.1 h
 rw [List.take_succ_eq_append_getElem hl, he]
theorem formL_step (i : Nat) (n : ND) (r : List ND) (u : List Int) {v : List Int} (h : rightN n = true) (ha : (partsN n).all (inN i) = true) (hv : v = bump u (partsN n) := by rfl) : formL i (n :: r) u = formL (i + 1) r v := by
 subst hv
 rw [formL, if_pos ⟨h, ha⟩]
theorem formL_stop (i : Nat) (n : ND) (r : List ND) (u : List Int) {p : Int} (h : p ∈ partsN n) (hp : inN i p = false) : formL i (n :: r) u = none := by
 rw [formL, if_neg (fun e => by have := List.all_eq_true.1 e.2 p h; rw [hp] at this; exact absurd this (by decide))]
theorem nums_cell {w : World} {g t : Nat} {xs : List Int} {j : Nat} {x : Int} (h : w.heap[g]? = some (.cells (nums .i64 xs).toArray t (0, 0))) (hx : xs[j]? = some x) : w.cell? ⟨g, j, none⟩ = some (.int .i64 x) := by
 rw [blk_cell h]
 simp [nums, hx]
theorem nums_put {w : World} {g t : Nat} {xs : List Int} (h : w.heap[g]? = some (.cells (nums .i64 xs).toArray t (0, 0))) (j : Nat) (x : Int) : (w.setCell ⟨g, j, none⟩ (.int .i64 x)).heap[g]? = some (.cells (nums .i64 (xs.set j x)).toArray t (0, 0)) := by
 refine blk_put h j _ ?_
 simp [nums, List.map_set]
def oneU (n : Int) : Bool := n == 1
theorem notOne_calls (n : Int) (w : World) :
  Calls Tryz.prog 63 #[.int .i64 n] w fun e w' => e = .returned (.bool (!oneU n)) ∧ Drawn0 w w' := by
 go_enter Tryz.func63, Tryz.ntmps63
 go_wp2
 go_ret
 exact ⟨rfl, Drawn0.refl _⟩
theorem indexU (A : Option Addr) (c : Nat) (tm : List Int) (w : World) (hC : (Kd.int .i64).C w A tm.length tm) (hc : tm.length ≤ c) (hn : tm.length ≤ 1099511627776) :
  Calls Tryz.prog 85 #[.slice A tm.length c, .func (.func 63) #[] #[]] w fun e w' => ∃ i : Int, e = .returned (.int .i64 i) ∧ decide (0 ≤ i) = (!tm.all oneU) ∧ Drawn0 w w' := by
 have HC := Aside0.mk hC
 clear hC
 go_enter Tryz.func85, Tryz.ntmps85
 go_wp2_with fail
 go_loopg [8] tm.length (fun kq v8 wr => ∃ i : Nat, v8 = .int .i64 (i : Int) ∧ Aside0 (kq + i = tm.length) ∧ Aside0 (∀ j, j < i → ∀ s, tm[j]? = some s → oneU s = true) ∧ Drawn0 w wr)
 case atStart => exact ⟨0, rfl, ⟨rfl⟩, ⟨fun j h => by omega⟩, Drawn0.refl _⟩
 case round =>
  obtain ⟨i, rfl, HI, HA, HD⟩ := hrel
  obtain ⟨⟨m, rfl⟩⟩ := HD
  by_cases hi : i < tm.length
  ·have d0 : decide ((i : Int) < (tm.length : Int)) = true := decide_eq_true (by omega)
   have d1 : decide (i < tm.length) = true := decide_eq_true hi
   obtain ⟨ad, rfl, c0⟩ := Kd.at_int (Kd.C_drewN HC.out m) (i : Int) (by omega) (by omega)
   rw [Int.toNat_natCast] at c0
   have hs : tm[i]? = some (rd tm (i : Int)) := by simp [rd, List.getD, hi]
   have HS := Aside0.mk hs
   obtain ⟨b, hb⟩ : ∃ b, oneU (rd tm (i : Int)) = b := ⟨_, rfl⟩
   have HB := Aside0.mk hb
   have HN := Aside0.mk (notOne_calls (rd tm (i : Int)))
   rw [hb] at HN
   clear hb hs
   have HIL := Aside0.mk hi
   go_wp2_with fail
   refine (HN.out _).mono ?_
   rintro e w3 ⟨rfl, ⟨⟨n3, rfl⟩⟩⟩
   cases b
   ·go_wp2_with fail
    go_ret
    refine ⟨_, rfl, ?_, ⟨⟨_, rfl⟩⟩⟩
    rw [decide_eq_true (by omega)]
    have : tm.all oneU = false := by
     cases e : tm.all oneU with
     | false => rfl
     | true => have := List.all_eq_true.1 e _ (List.mem_of_getElem? HS.out); rw [HB.out] at this; exact absurd this (by decide)
    rw [this]; rfl
   ·go_wp2_with fail
    have ew : (i : Int) + 1 = ((i + 1 : Nat) : Int) := rfl
    try rw [show wrap64 ((i : Int) + 1) = ((i + 1 : Nat) : Int) by have := HIL.out; unfold wrap64; omega]
    try rw [ew]
    go_roundg (tm.length - i - 1)
    case measure => have := HI.out; have := HIL.out; omega
    case rel =>
     refine ⟨i + 1, rfl, ⟨by have := HI.out; have := HIL.out; omega⟩, ⟨fun j hj s hs => ?_⟩, ⟨⟨_, rfl⟩⟩⟩
     by_cases hji : j = i
     ·subst hji
      rw [HS.out] at hs
      cases hs
      exact HB.out
     ·exact HA.out j (by omega) s hs
  ·have d0 : decide ((i : Int) < (tm.length : Int)) = false := decide_eq_false (by omega)
   have d1 : decide (i < tm.length) = false := decide_eq_false hi
   go_wp2_with fail
   go_ret
   refine ⟨_, rfl, ?_, ⟨⟨_, rfl⟩⟩⟩
   have : tm.all oneU = true := List.all_eq_true.2 (fun s hs => by
    obtain ⟨j, hj⟩ := List.getElem?_of_mem hs
    have hl := (List.getElem?_eq_some_iff.1 hj).1
    exact HA.out j (by omega) s hj)
   rw [this]; rfl
theorem containsU (A : Option Addr) (c : Nat) (tm : List Int) (w : World) (hC : (Kd.int .i64).C w A tm.length tm) (hc : tm.length ≤ c) (hn : tm.length ≤ 1099511627776) :
  Calls Tryz.prog 62 #[.slice A tm.length c, .func (.func 63) #[] #[]] w fun e w' => e = .returned (.bool (!tm.all oneU)) ∧ Drawn0 w w' := by
 have hX := indexU A c tm w hC hc hn
 obtain ⟨b, hb⟩ : ∃ b, (!tm.all oneU) = b := ⟨_, rfl⟩
 rw [hb] at hX ⊢
 have HX := Aside0.mk hX
 clear hC hb hX
 go_enter Tryz.func62, Tryz.ntmps62
 go_wp2_with fail
 refine HX.out.mono ?_
 rintro e w3 ⟨i, rfl, hi, hd⟩
 have HD := Aside0.mk hd
 subst hi
 clear hd
 go_wp2_with fail
 all_goals go_ret
 all_goals exact ⟨by rfl, HD.out⟩
theorem nums_take {w : World} {g t : Nat} {xs : List Int} (h : w.heap[g]? = some (.cells (nums .i64 xs).toArray t (0, 0))) {m : Nat} (hm : m ≤ xs.length) (hn : m ≤ 1099511627776) : (Kd.int .i64).C w (some ⟨g, 0, none⟩) m (xs.take m) := by
 refine ⟨by rw [List.length_take]; omega, by omega, fun h0 => ⟨⟨g, 0, none⟩, rfl, fun j p hj => ⟨[.int .i64 p], rfl, rfl, fun i u hi => ?_⟩⟩⟩
 obtain ⟨rfl, rfl⟩ : i = 0 ∧ u = .int .i64 p := by
  cases i with
  | zero => simp at hi; exact ⟨rfl, hi.symm⟩
  | succ i => simp at hi
 show w.cell? _ = _
 rw [WideShapes.add_plain, show 0 + (j * (Kd.int .i64).sz + 0) = j by show 0 + (j * 1 + 0) = j; omega]
 have hjm : j < m := by have := (List.getElem?_eq_some_iff.1 hj).1; rw [List.length_take] at this; omega
 rw [List.getElem?_take_of_lt hjm] at hj
 exact nums_cell h hj
theorem formed_calls (A : Option Addr) (c : Nat) (ns : List ND) (k : Int) (ky : ByteArray) (wd sk mo : Int) (w : World) (hC : Kd.C k37 w A ns.length ns) (hc : ns.length ≤ c)
  (hA : ∀ W, Calls Tryz.prog 60 #[.agg #[.slice A ns.length c, .int .i64 k, .string ky, .int .i64 wd, .int .i64 sk, .int .i64 mo]] W fun e w' => e = .returned (.bool (askedB k ky wd sk mo)) ∧ Below W.heap.size W w')
  (hR : ∀ n ∈ ns, ∀ W A' c', Kd.string.C W A' n.f4.length n.f4 → n.f4.length ≤ c' → Calls Tryz.prog 61 #[.agg #[.int .i64 n.f0, .int .i64 n.f1, .int .i64 n.f2, .string n.f3, .slice A' n.f4.length c', .string n.f5, .int .i64 n.f6, .int .i64 n.f7]] W fun e w' => e = .returned (.bool (rightN n)) ∧ Below W.heap.size W w') :
  Calls Tryz.prog 38 #[.agg #[.slice A ns.length c, .int .i64 k, .string ky, .int .i64 wd, .int .i64 sk, .int .i64 mo]] w fun e w' => e = .returned (.bool (formedB ns k ky wd sk mo)) ∧ Below w.heap.size w w' := by
 by_cases h1 : ns.length < 1
 ·have hf : formedB ns k ky wd sk mo = false := by unfold formedB; rw [decide_eq_false (by omega)]; rfl
  rw [hf]
  have d1 : decide ((ns.length : Int) < 1) = true := decide_eq_true (by omega)
  go_enter Tryz.func38, Tryz.ntmps38
  go_wp2_with fail
  go_ret
  exact ⟨rfl, by repeat (first | exact Below.refl _ _ | apply below_alloc)⟩
 ·have d1 : decide ((ns.length : Int) < 1) = false := decide_eq_false (by omega)
  by_cases h2 : ns.length > 64
  ·have hf : formedB ns k ky wd sk mo = false := by unfold formedB; rw [decide_eq_false (show ¬(1 ≤ ns.length ∧ ns.length ≤ 64) by omega)]; rfl
   rw [hf]
   have d2 : decide ((64 : Int) < (ns.length : Int)) = true := decide_eq_true (by omega)
   go_enter Tryz.func38, Tryz.ntmps38
   go_wp2_with fail
   all_goals go_ret
   all_goals exact ⟨rfl, by repeat (first | exact Below.refl _ _ | apply below_alloc)⟩
  ·have d2 : decide ((64 : Int) < (ns.length : Int)) = false := decide_eq_false (by omega)
   have HF := Aside0.mk (show formedB ns k ky wd sk mo = (askedB k ky wd sk mo && (match formL 0 ns (List.replicate ns.length 0) with | none => false | some u => onesB u)) by unfold formedB; rw [decide_eq_true (show (1 ≤ ns.length ∧ ns.length ≤ 64) by omega)]; rfl)
   obtain ⟨r, hr⟩ : ∃ r, formedB ns k ky wd sk mo = r := ⟨_, rfl⟩
   rw [hr] at HF ⊢
   clear hr
   obtain ⟨b, hb⟩ : ∃ b, askedB k ky wd sk mo = b := ⟨_, rfl⟩
   rw [hb] at HF
   simp only [hb] at hA
   have HA := Aside0.mk hA
   have HR := Aside0.mk hR
   have HC := Aside0.mk hC
   clear hA hR hC hb
   go_enter Tryz.func38, Tryz.ntmps38
   go_wp2_with fail
   refine (HA.out _).mono ?_
   rintro e w2 ⟨rfl, hb⟩
   have HB := Aside0.mk (below_step (below_alloc (Below.refl _ _) _) hb)
   have hA : w2.heap[w.heap.size]? = some (.cells #[.slice A ns.length c, .int .i64 k, .string ky, .int .i64 wd, .int .i64 sk, .int .i64 mo] 24 (0, 0)) := (hb.block _ (by rw [World.size_alloc]; omega)).trans (blk_new w _)
   cases b
   ·clear hb hA
    go_wp2_with fail
    go_ret
    exact ⟨by rw [HF.out]; rfl, HB.out⟩
   have hA0 : w2.cell? ⟨w.heap.size, 0, none⟩ = some (.slice A ns.length c) := (blk_cell hA 0).trans rfl
   have HN2 := Aside0.mk (Kd.C_below HC.out HB.out)
   have hmk := print_make (P := Tryz.prog) 101 3 .i64 8 Tryz.underlying101 info_i64G (by decide) ns.length (by omega)
   have hA1 : (w2.alloc (.cells (madeCells #[.int .i64 0] ns.length) 3)).cell? ⟨w.heap.size, 0, none⟩ = some (.slice A ns.length c) := ((below_alloc (Below.refl w2.heap.size w2) _).cell (World.block_lt_of_cell? w2 _ hA0)).trans hA0
   have HZ := Aside0.mk (show (w2.alloc (.cells (madeCells #[.int .i64 0] ns.length) 3)).heap[w2.heap.size]? = some (.cells (nums .i64 (List.replicate ns.length 0)).toArray 3 (0, 0)) by rw [← made_nums]; exact blk_new w2 _)
   clear hb hA
   go_wp2_with fail
   go_loopg [31] ns.length (fun kq v31 wr => ∃ (i : Nat) (u : List Int), v31 = .int .i64 (i : Int) ∧ Aside0 (kq + i = ns.length) ∧ Aside0 (u.length = ns.length) ∧ Aside0 (formL i (ns.drop i) u = formL 0 ns (List.replicate ns.length 0)) ∧ Aside0 (Below w.heap.size w wr) ∧ Aside0 (Below w2.heap.size w2 wr) ∧ Aside0 (wr.heap[w2.heap.size]? = some (.cells (nums .i64 u).toArray 3 (0, 0))))
   case atStart => exact ⟨0, List.replicate ns.length 0, rfl, ⟨rfl⟩, ⟨by simp⟩, ⟨rfl⟩, ⟨below_alloc HB.out _⟩, ⟨below_alloc (Below.refl _ _) _⟩, HZ⟩
   case round =>
    clear hmk hA0 hA1
    obtain ⟨i, u, rfl, HI, HUL, HS, HBr, HBr2, HU⟩ := hrel
    by_cases hi : i < ns.length
    ·have d3 : decide ((i : Int) < (ns.length : Int)) = true := decide_eq_true (by omega)
     have d4 : decide (i < ns.length) = true := decide_eq_true hi
     obtain ⟨ad, A4, c4, rfl, k0, k1, k2, k3, k4, k5, k6, k7, l4, g4⟩ := at_T37 (Kd.C_below HN2.out HBr2.out) (i : Int) (by omega) (by omega)
     rw [Int.toNat_natCast] at k0 k1 k2 k3 k4 k5 k6 k7
     obtain ⟨n, hn⟩ : ∃ n, rd_T37 ns (i : Int) = n := ⟨_, rfl⟩
     rw [hn] at k0 k1 k2 k3 k4 k5 k6 k7 l4 g4
     have HNE := Aside0.mk (show ns[i]? = some n by rw [← hn]; simp [rd_T37, hi])
     have G4 := Aside0.mk g4
     clear hn g4
     go_wp2_with fail
     refine (HR.out n (List.mem_of_getElem? HNE.out) _ _ _ (Kd.C_below G4.out (below_alloc (Below.refl _ _) _)) l4).mono ?_
     rintro e w3 ⟨rfl, hb⟩
     have HI2 := Aside0.mk hi
     have HB3 := Aside0.mk (below_step (below_alloc HBr.out _) hb)
     have HB32 := Aside0.mk (below_step (below_alloc HBr2.out _) hb)
     have HA := Aside0.mk ((hb.block _ (by rw [World.size_alloc]; omega)).trans (blk_new wr (.cells #[.int .i64 n.f0, .int .i64 n.f1, .int .i64 n.f2, .string n.f3, .slice A4 n.f4.length c4, .string n.f5, .int .i64 n.f6, .int .i64 n.f7] 37)))
     have HU3 := Aside0.mk (blk_below (blk_alloc HU.out (.cells #[.int .i64 n.f0, .int .i64 n.f1, .int .i64 n.f2, .string n.f3, .slice A4 n.f4.length c4, .string n.f5, .int .i64 n.f6, .int .i64 n.f7] 37)) hb)
     have HDR := Aside0.mk (show ns.drop i = n :: ns.drop (i + 1) by rw [List.drop_eq_getElem_cons hi]; have h := HNE.out; rw [List.getElem?_eq_getElem hi] at h; rw [Option.some.inj h])
     have hA0 : w3.cell? ⟨wr.heap.size, 0, none⟩ = some (.int .i64 n.f0) := (blk_cell HA.out 0).trans rfl
     have hA1 : w3.cell? ⟨wr.heap.size, 1, none⟩ = some (.int .i64 n.f1) := (blk_cell HA.out 1).trans rfl
     have hA2 : w3.cell? ⟨wr.heap.size, 2, none⟩ = some (.int .i64 n.f2) := (blk_cell HA.out 2).trans rfl
     clear hb k0 k1 k2 k3 k4 k5 k6 k7 l4
     obtain ⟨rb, hrb⟩ : ∃ rb, rightN n = rb := ⟨_, rfl⟩
     rw [hrb]
     have HRB := Aside0.mk hrb
     clear hrb
     cases rb
     ·go_wp2_with fail
      go_ret
      refine ⟨?_, HB3.out⟩
      rw [HF.out, ← HS.out, HDR.out]
      unfold formL
      rw [if_neg (fun h => by rw [HRB.out] at h; exact absurd h.1 (by decide))]
      rfl
     ·by_cases e10 : n.f0 = 10
      ·have HPS := Aside0.mk (show partsN n = [n.f1, n.f2] by unfold partsN; rw [if_pos (.inl e10)])
       have d20 : (n.f0 == 10) = true := beq_iff_eq.2 e10
       clear e10
       go_wp2_with fail
       go_loopg [56] 2 (fun kq v56 wq => ∃ (j : Nat), v56 = .int .i64 (j : Int) ∧ Aside0 (kq + j = 2) ∧ Aside0 (List.all (List.take j [n.f1, n.f2]) (inN i) = true) ∧ Aside0 (Below w.heap.size w wq) ∧ Aside0 (Below w2.heap.size w2 wq) ∧ Aside0 (wq.heap[w3.heap.size]? = some (.cells (nums .i64 [n.f1, n.f2]).toArray 3 (0, 0))) ∧ Aside0 (wq.heap[w2.heap.size]? = some (.cells (nums .i64 (bump u (([n.f1, n.f2]).take j))).toArray 3 (0, 0))))
       case atStart => exact ⟨0, rfl, ⟨rfl⟩, ⟨rfl⟩, ⟨below_alloc HB3.out _⟩, ⟨below_alloc HB32.out _⟩, ⟨blk_new w3 _⟩, ⟨blk_alloc HU3.out _⟩⟩
       case round =>
        clear hA0 hA1 hA2
        obtain ⟨j, rfl, HJ, HAL, HBq, HBq2, HPB, HUB⟩ := hrel
        by_cases hj : j < 2
        ·have d5 : decide ((j : Int) < 2) = true := decide_eq_true (by omega)
         obtain ⟨p, hp⟩ : ∃ p, ([n.f1, n.f2])[j]? = some p := ⟨_, List.getElem?_eq_getElem (show j < ([n.f1, n.f2]).length from hj)⟩
         have HP := Aside0.mk hp
         have kp : wr.cell? ⟨w3.heap.size, j, none⟩ = some (.int .i64 p) := nums_cell HPB.out hp
         clear hp
         by_cases hp0 : p < 0
         ·have d6 : decide (p < 0) = true := decide_eq_true hp0
          have HQ := Aside0.mk hp0
          clear hp0
          go_wp2_with fail
          go_ret
          refine ⟨?_, HBq.out⟩
          rw [HF.out, ← HS.out, HDR.out, formL_stop _ _ _ _ (p := p) (by rw [HPS.out]; exact List.mem_of_getElem? HP.out) (by have := HQ.out; unfold inN; exact decide_eq_false (by omega))]
          rfl
         ·have d6 : decide (p < 0) = false := decide_eq_false hp0
          by_cases hp1 : p < (i : Int)
          ·have d7 : decide ((i : Int) ≤ p) = false := decide_eq_false (by omega)
           have hul : (bump u (([n.f1, n.f2]).take j)).length = ns.length := (bump_len _ _).trans HUL.out
           obtain ⟨q, hq⟩ : ∃ q : Nat, p = (q : Int) := ⟨p.toNat, by omega⟩
           subst hq
           have d8 : decide ((q : Int) < (ns.length : Int)) = true := decide_eq_true (by omega)
           have d9 : decide (q < ns.length) = true := decide_eq_true (by omega)
           have d10 : decide (0 ≤ (q : Int)) = true := decide_eq_true (by omega)
           have ku : wr.cell? ⟨w2.heap.size, q, none⟩ = some (.int .i64 ((bump u (([n.f1, n.f2]).take j)).getD q 0)) := nums_cell HUB.out (by rw [List.getD_eq_getElem?_getD, List.getElem?_eq_getElem (by omega)]; rfl)
           have kz := blk_frozen HUB.out q
           have HQ := Aside0.mk hp1
           have HJ2 := Aside0.mk hj
           clear hul hp0
           go_wp2_with fail
           go_roundg (2 - j - 1)
           case measure => have := HJ.out; have := HJ2.out; omega
           case rel =>
            refine ⟨j + 1, rfl, ⟨by have := HJ.out; have := HJ2.out; omega⟩, ⟨?_⟩, ⟨HBq.out.setCell (p := ⟨w2.heap.size, q, none⟩) (by have := HB.out.size; omega) _⟩, ⟨HBq2.out.setCell (p := ⟨w2.heap.size, q, none⟩) (Nat.le_refl _) _⟩, ⟨blk_far HPB.out (p := ⟨w2.heap.size, q, none⟩) (by show w3.heap.size ≠ w2.heap.size; have := HU3.out; have := blk_lt this; omega) _⟩, ⟨?_⟩⟩
            ·rw [take_next HP.out, List.all_append, HAL.out]
             have := HQ.out
             simp only [List.all_cons, List.all_nil, inN, Bool.and_true, Bool.true_and]
             exact decide_eq_true (by omega)
            ·rw [take_next HP.out, bump_snoc]
             exact nums_put HUB.out q _
          ·have d7 : decide ((i : Int) ≤ p) = true := decide_eq_true (by omega)
           have HQ := Aside0.mk hp1
           clear hp0 hp1
           go_wp2_with fail
           go_ret
           refine ⟨?_, HBq.out⟩
           rw [HF.out, ← HS.out, HDR.out, formL_stop _ _ _ _ (p := p) (by rw [HPS.out]; exact List.mem_of_getElem? HP.out) (by have := HQ.out; unfold inN; exact decide_eq_false (by omega))]
           rfl
        ·have hje : j = 2 := by have := HJ.out; omega
         subst hje
         go_wp2_with fail
         try rw [show wrap64 ((i : Int) + 1) = ((i + 1 : Nat) : Int) by have := HI2.out; have := HI.out; have := h2; unfold wrap64; omega]
         go_roundg (ns.length - i - 1)
         case measure => have := HI.out; have := HI2.out; omega
         case rel => exact ⟨i + 1, bump u ([n.f1, n.f2]), rfl, ⟨by have := HI.out; have := HI2.out; omega⟩, ⟨(bump_len _ _).trans HUL.out⟩, ⟨by rw [← HS.out, HDR.out]; exact (formL_step _ _ _ _ HRB.out (by rw [HPS.out]; exact HAL.out) (by rw [HPS.out])).symm⟩, HBq, HBq2, HUB⟩
      ·by_cases e11 : n.f0 = 11
       ·have HPS := Aside0.mk (show partsN n = [n.f1, n.f2] by unfold partsN; rw [if_pos (.inr e11)])
        have d20 : (n.f0 == 10) = false := beq_eq_false_iff_ne.2 e10
        have d21 : (n.f0 == 11) = true := beq_iff_eq.2 e11
        clear e10 e11
        go_wp2_with fail
        go_loopg [56] 2 (fun kq v56 wq => ∃ (j : Nat), v56 = .int .i64 (j : Int) ∧ Aside0 (kq + j = 2) ∧ Aside0 (List.all (List.take j [n.f1, n.f2]) (inN i) = true) ∧ Aside0 (Below w.heap.size w wq) ∧ Aside0 (Below w2.heap.size w2 wq) ∧ Aside0 (wq.heap[w3.heap.size]? = some (.cells (nums .i64 [n.f1, n.f2]).toArray 3 (0, 0))) ∧ Aside0 (wq.heap[w2.heap.size]? = some (.cells (nums .i64 (bump u (([n.f1, n.f2]).take j))).toArray 3 (0, 0))))
        case atStart => exact ⟨0, rfl, ⟨rfl⟩, ⟨rfl⟩, ⟨below_alloc HB3.out _⟩, ⟨below_alloc HB32.out _⟩, ⟨blk_new w3 _⟩, ⟨blk_alloc HU3.out _⟩⟩
        case round =>
         clear hA0 hA1 hA2
         obtain ⟨j, rfl, HJ, HAL, HBq, HBq2, HPB, HUB⟩ := hrel
         by_cases hj : j < 2
         ·have d5 : decide ((j : Int) < 2) = true := decide_eq_true (by omega)
          obtain ⟨p, hp⟩ : ∃ p, ([n.f1, n.f2])[j]? = some p := ⟨_, List.getElem?_eq_getElem (show j < ([n.f1, n.f2]).length from hj)⟩
          have HP := Aside0.mk hp
          have kp : wr.cell? ⟨w3.heap.size, j, none⟩ = some (.int .i64 p) := nums_cell HPB.out hp
          clear hp
          by_cases hp0 : p < 0
          ·have d6 : decide (p < 0) = true := decide_eq_true hp0
           have HQ := Aside0.mk hp0
           clear hp0
           go_wp2_with fail
           go_ret
           refine ⟨?_, HBq.out⟩
           rw [HF.out, ← HS.out, HDR.out, formL_stop _ _ _ _ (p := p) (by rw [HPS.out]; exact List.mem_of_getElem? HP.out) (by have := HQ.out; unfold inN; exact decide_eq_false (by omega))]
           rfl
          ·have d6 : decide (p < 0) = false := decide_eq_false hp0
           by_cases hp1 : p < (i : Int)
           ·have d7 : decide ((i : Int) ≤ p) = false := decide_eq_false (by omega)
            have hul : (bump u (([n.f1, n.f2]).take j)).length = ns.length := (bump_len _ _).trans HUL.out
            obtain ⟨q, hq⟩ : ∃ q : Nat, p = (q : Int) := ⟨p.toNat, by omega⟩
            subst hq
            have d8 : decide ((q : Int) < (ns.length : Int)) = true := decide_eq_true (by omega)
            have d9 : decide (q < ns.length) = true := decide_eq_true (by omega)
            have d10 : decide (0 ≤ (q : Int)) = true := decide_eq_true (by omega)
            have ku : wr.cell? ⟨w2.heap.size, q, none⟩ = some (.int .i64 ((bump u (([n.f1, n.f2]).take j)).getD q 0)) := nums_cell HUB.out (by rw [List.getD_eq_getElem?_getD, List.getElem?_eq_getElem (by omega)]; rfl)
            have kz := blk_frozen HUB.out q
            have HQ := Aside0.mk hp1
            have HJ2 := Aside0.mk hj
            clear hul hp0
            go_wp2_with fail
            go_roundg (2 - j - 1)
            case measure => have := HJ.out; have := HJ2.out; omega
            case rel =>
             refine ⟨j + 1, rfl, ⟨by have := HJ.out; have := HJ2.out; omega⟩, ⟨?_⟩, ⟨HBq.out.setCell (p := ⟨w2.heap.size, q, none⟩) (by have := HB.out.size; omega) _⟩, ⟨HBq2.out.setCell (p := ⟨w2.heap.size, q, none⟩) (Nat.le_refl _) _⟩, ⟨blk_far HPB.out (p := ⟨w2.heap.size, q, none⟩) (by show w3.heap.size ≠ w2.heap.size; have := HU3.out; have := blk_lt this; omega) _⟩, ⟨?_⟩⟩
             ·rw [take_next HP.out, List.all_append, HAL.out]
              have := HQ.out
              simp only [List.all_cons, List.all_nil, inN, Bool.and_true, Bool.true_and]
              exact decide_eq_true (by omega)
             ·rw [take_next HP.out, bump_snoc]
              exact nums_put HUB.out q _
           ·have d7 : decide ((i : Int) ≤ p) = true := decide_eq_true (by omega)
            have HQ := Aside0.mk hp1
            clear hp0 hp1
            go_wp2_with fail
            go_ret
            refine ⟨?_, HBq.out⟩
            rw [HF.out, ← HS.out, HDR.out, formL_stop _ _ _ _ (p := p) (by rw [HPS.out]; exact List.mem_of_getElem? HP.out) (by have := HQ.out; unfold inN; exact decide_eq_false (by omega))]
            rfl
         ·have hje : j = 2 := by have := HJ.out; omega
          subst hje
          go_wp2_with fail
          try rw [show wrap64 ((i : Int) + 1) = ((i + 1 : Nat) : Int) by have := HI2.out; have := HI.out; have := h2; unfold wrap64; omega]
          go_roundg (ns.length - i - 1)
          case measure => have := HI.out; have := HI2.out; omega
          case rel => exact ⟨i + 1, bump u ([n.f1, n.f2]), rfl, ⟨by have := HI.out; have := HI2.out; omega⟩, ⟨(bump_len _ _).trans HUL.out⟩, ⟨by rw [← HS.out, HDR.out]; exact (formL_step _ _ _ _ HRB.out (by rw [HPS.out]; exact HAL.out) (by rw [HPS.out])).symm⟩, HBq, HBq2, HUB⟩
       ·by_cases e12 : n.f0 = 12
        ·have HPS := Aside0.mk (show partsN n = [n.f1] by unfold partsN; rw [if_neg (by omega), if_pos e12])
         have d20 : (n.f0 == 10) = false := beq_eq_false_iff_ne.2 e10
         have d21 : (n.f0 == 11) = false := beq_eq_false_iff_ne.2 e11
         have d22 : (n.f0 == 12) = true := beq_iff_eq.2 e12
         clear e10 e11 e12
         go_wp2_with fail
         go_loopg [56] 1 (fun kq v56 wq => ∃ (j : Nat), v56 = .int .i64 (j : Int) ∧ Aside0 (kq + j = 1) ∧ Aside0 (List.all (List.take j [n.f1]) (inN i) = true) ∧ Aside0 (Below w.heap.size w wq) ∧ Aside0 (Below w2.heap.size w2 wq) ∧ Aside0 (wq.heap[w3.heap.size]? = some (.cells (nums .i64 [n.f1]).toArray 3 (0, 0))) ∧ Aside0 (wq.heap[w2.heap.size]? = some (.cells (nums .i64 (bump u (([n.f1]).take j))).toArray 3 (0, 0))))
         case atStart => exact ⟨0, rfl, ⟨rfl⟩, ⟨rfl⟩, ⟨below_alloc HB3.out _⟩, ⟨below_alloc HB32.out _⟩, ⟨blk_new w3 _⟩, ⟨blk_alloc HU3.out _⟩⟩
         case round =>
          clear hA0 hA1 hA2
          obtain ⟨j, rfl, HJ, HAL, HBq, HBq2, HPB, HUB⟩ := hrel
          by_cases hj : j < 1
          ·have d5 : decide ((j : Int) < 1) = true := decide_eq_true (by omega)
           obtain ⟨p, hp⟩ : ∃ p, ([n.f1])[j]? = some p := ⟨_, List.getElem?_eq_getElem (show j < ([n.f1]).length from hj)⟩
           have HP := Aside0.mk hp
           have kp : wr.cell? ⟨w3.heap.size, j, none⟩ = some (.int .i64 p) := nums_cell HPB.out hp
           clear hp
           by_cases hp0 : p < 0
           ·have d6 : decide (p < 0) = true := decide_eq_true hp0
            have HQ := Aside0.mk hp0
            clear hp0
            go_wp2_with fail
            go_ret
            refine ⟨?_, HBq.out⟩
            rw [HF.out, ← HS.out, HDR.out, formL_stop _ _ _ _ (p := p) (by rw [HPS.out]; exact List.mem_of_getElem? HP.out) (by have := HQ.out; unfold inN; exact decide_eq_false (by omega))]
            rfl
           ·have d6 : decide (p < 0) = false := decide_eq_false hp0
            by_cases hp1 : p < (i : Int)
            ·have d7 : decide ((i : Int) ≤ p) = false := decide_eq_false (by omega)
             have hul : (bump u (([n.f1]).take j)).length = ns.length := (bump_len _ _).trans HUL.out
             obtain ⟨q, hq⟩ : ∃ q : Nat, p = (q : Int) := ⟨p.toNat, by omega⟩
             subst hq
             have d8 : decide ((q : Int) < (ns.length : Int)) = true := decide_eq_true (by omega)
             have d9 : decide (q < ns.length) = true := decide_eq_true (by omega)
             have d10 : decide (0 ≤ (q : Int)) = true := decide_eq_true (by omega)
             have ku : wr.cell? ⟨w2.heap.size, q, none⟩ = some (.int .i64 ((bump u (([n.f1]).take j)).getD q 0)) := nums_cell HUB.out (by rw [List.getD_eq_getElem?_getD, List.getElem?_eq_getElem (by omega)]; rfl)
             have kz := blk_frozen HUB.out q
             have HQ := Aside0.mk hp1
             have HJ2 := Aside0.mk hj
             clear hul hp0
             go_wp2_with fail
             go_roundg (1 - j - 1)
             case measure => have := HJ.out; have := HJ2.out; omega
             case rel =>
              refine ⟨j + 1, rfl, ⟨by have := HJ.out; have := HJ2.out; omega⟩, ⟨?_⟩, ⟨HBq.out.setCell (p := ⟨w2.heap.size, q, none⟩) (by have := HB.out.size; omega) _⟩, ⟨HBq2.out.setCell (p := ⟨w2.heap.size, q, none⟩) (Nat.le_refl _) _⟩, ⟨blk_far HPB.out (p := ⟨w2.heap.size, q, none⟩) (by show w3.heap.size ≠ w2.heap.size; have := HU3.out; have := blk_lt this; omega) _⟩, ⟨?_⟩⟩
              ·rw [take_next HP.out, List.all_append, HAL.out]
               have := HQ.out
               simp only [List.all_cons, List.all_nil, inN, Bool.and_true, Bool.true_and]
               exact decide_eq_true (by omega)
              ·rw [take_next HP.out, bump_snoc]
               exact nums_put HUB.out q _
            ·have d7 : decide ((i : Int) ≤ p) = true := decide_eq_true (by omega)
             have HQ := Aside0.mk hp1
             clear hp0 hp1
             go_wp2_with fail
             go_ret
             refine ⟨?_, HBq.out⟩
             rw [HF.out, ← HS.out, HDR.out, formL_stop _ _ _ _ (p := p) (by rw [HPS.out]; exact List.mem_of_getElem? HP.out) (by have := HQ.out; unfold inN; exact decide_eq_false (by omega))]
             rfl
          ·have hje : j = 1 := by have := HJ.out; omega
           subst hje
           go_wp2_with fail
           try rw [show wrap64 ((i : Int) + 1) = ((i + 1 : Nat) : Int) by have := HI2.out; have := HI.out; have := h2; unfold wrap64; omega]
           go_roundg (ns.length - i - 1)
           case measure => have := HI.out; have := HI2.out; omega
           case rel => exact ⟨i + 1, bump u ([n.f1]), rfl, ⟨by have := HI.out; have := HI2.out; omega⟩, ⟨(bump_len _ _).trans HUL.out⟩, ⟨by rw [← HS.out, HDR.out]; exact (formL_step _ _ _ _ HRB.out (by rw [HPS.out]; exact HAL.out) (by rw [HPS.out])).symm⟩, HBq, HBq2, HUB⟩
        ·have HPS := Aside0.mk (show partsN n = [] by unfold partsN; rw [if_neg (by omega), if_neg e12])
         have d20 : (n.f0 == 10) = false := beq_eq_false_iff_ne.2 e10
         have d21 : (n.f0 == 11) = false := beq_eq_false_iff_ne.2 e11
         have d22 : (n.f0 == 12) = false := beq_eq_false_iff_ne.2 e12
         clear e10 e11 e12
         go_wp2_with fail
         go_loopg [56] 0 (fun kq v56 wq => v56 = .int .i64 0 ∧ wq = w3)
         case atStart => exact ⟨rfl, rfl⟩
         case round =>
          obtain ⟨rfl, rfl⟩ := hrel
          go_wp2_with fail
          try rw [show wrap64 ((i : Int) + 1) = ((i + 1 : Nat) : Int) by have := HI2.out; have := HI.out; have := h2; unfold wrap64; omega]
          go_roundg (ns.length - i - 1)
          case measure => have := HI.out; have := HI2.out; omega
          case rel => exact ⟨i + 1, u, rfl, ⟨by have := HI.out; have := HI2.out; omega⟩, HUL, ⟨by rw [← HS.out, HDR.out]; exact (formL_step _ _ _ _ HRB.out (by rw [HPS.out]; rfl) (by rw [HPS.out]; rfl)).symm⟩, HB3, HB32, HU3⟩
    ·have hie : i = ns.length := by have := HI.out; omega
     subst hie
     have d3 : decide ((ns.length : Int) < (ns.length : Int)) = false := decide_eq_false (by omega)
     have HUC := Aside0.mk (nums_take HU.out (m := ns.length - 1) (by have := HUL.out; omega) (by omega))
     go_wp2_with fail
     have hcc := containsU (some ⟨w2.heap.size, 0, none⟩) ns.length (u.take (ns.length - 1)) wr (by rw [List.length_take, HUL.out, Nat.min_eq_left (by omega)]; exact HUC.out) (by rw [List.length_take]; omega) (by rw [List.length_take]; omega)
     rw [List.length_take, HUL.out, Nat.min_eq_left (by omega)] at hcc
     refine hcc.mono ?_
     rintro e w5 ⟨rfl, hd⟩
     have HB5 := Aside0.mk (below_step HBr.out hd.below)
     clear hd
     go_wp2_with fail
     go_ret
     refine ⟨?_, HB5.out⟩
     rw [HF.out, ← HS.out]
     simp only [List.drop_length, formL]
     show _ = Ending.returned (Value.bool (true && onesB u))
     unfold onesB
     rw [HUL.out]
     rw [Bool.true_and]
     first | rfl | (rw [Bool.not_not]; rfl)
end Go.Proofs.YtehaodbheifokaaGreatDoor.P
end
section
namespace Go.Proofs
open Go.Shelf
def Tryz.laysM171_ren : Go.Shelf.Ren := ⟨fun | 171 => 96 | 243 => 117 | 246 => 141 | 283 => 161 | 284 => 162 | 285 => 163 | 286 => 164 | 129 => 127 | 317 => 173 | 318 => 174 | 319 => 175 | 320 => 176 | 337 => 185 | 338 => 186 | n => n, fun | 3 => 3 | 9 => 9 | 2 => 2 | 4 => 4 | 171 => 190 | 0 => 0 | 53 => 142 | 37 => 25 | 5 => 5 | 173 => 192 | 212 => 201 | 51 => 157 | 20 => 20 | 213 => 202 | 46 => 135 | 232 => 219 | 233 => 220 | n => n, fun | 17 => 1 | 18 => 6 | 19 => 7 | n => n⟩
theorem Tryz.laysM171 : Go.Proofs.LaysM.n171 Tryz.prog Tryz.laysM171_ren := {
 mixed := by kernel_rfl
 f129 := Tryz.func127.trans (congrArg some (by kernel_rfl))
 f171 := Tryz.func96.trans (congrArg some (by kernel_rfl))
 f243 := Tryz.func117.trans (congrArg some (by kernel_rfl))
 f246 := Tryz.func141.trans (congrArg some (by kernel_rfl))
 f283 := Tryz.func161.trans (congrArg some (by kernel_rfl))
 f284 := Tryz.func162.trans (congrArg some (by kernel_rfl))
 f285 := Tryz.func163.trans (congrArg some (by kernel_rfl))
 f286 := Tryz.func164.trans (congrArg some (by kernel_rfl))
 f317 := Tryz.func173.trans (congrArg some (by kernel_rfl))
 f318 := Tryz.func174.trans (congrArg some (by kernel_rfl))
 f319 := Tryz.func175.trans (congrArg some (by kernel_rfl))
 f320 := Tryz.func176.trans (congrArg some (by kernel_rfl))
 f337 := Tryz.func185.trans (congrArg some (by kernel_rfl))
 f338 := Tryz.func186.trans (congrArg some (by kernel_rfl))
 t0 := Tryz.underlying0
 a0 := Tryz.isAgg0
 z0 := Tryz.sizeOf0
 v0 := Tryz.zeroValue0
 t2 := Tryz.underlying2
 a2 := Tryz.isAgg2
 z2 := Tryz.sizeOf2
 v2 := Tryz.zeroValue2
 t3 := Tryz.underlying3
 a3 := Tryz.isAgg3
 z3 := Tryz.sizeOf3
 v3 := Tryz.zeroValue3
 t4 := Tryz.underlying4
 a4 := Tryz.isAgg4
 z4 := Tryz.sizeOf4
 v4 := Tryz.zeroValue4
 t5 := Tryz.underlying5
 a5 := Tryz.isAgg5
 z5 := Tryz.sizeOf5
 v5 := Tryz.zeroValue5
 t9 := Tryz.underlying9
 a9 := Tryz.isAgg9
 z9 := Tryz.sizeOf9
 v9 := Tryz.zeroValue9
 t20 := Tryz.underlying20
 a20 := Tryz.isAgg20
 z20 := Tryz.sizeOf20
 v20 := Tryz.zeroValue20
 t37 := Tryz.underlying25
 a37 := Tryz.isAgg25
 z37 := Tryz.sizeOf25
 v37 := Tryz.zeroValue25
 t46 := Tryz.underlying135
 a46 := Tryz.isAgg135
 z46 := Tryz.sizeOf135
 v46 := Tryz.zeroValue135
 t51 := Tryz.underlying157
 a51 := Tryz.isAgg157
 z51 := Tryz.sizeOf157
 v51 := Tryz.zeroValue157
 t53 := Tryz.underlying142
 a53 := Tryz.isAgg142
 z53 := Tryz.sizeOf142
 v53 := Tryz.zeroValue142
 t171 := Tryz.underlying190
 a171 := Tryz.isAgg190
 z171 := Tryz.sizeOf190
 v171 := Tryz.zeroValue190
 t173 := Tryz.underlying192
 a173 := Tryz.isAgg192
 z173 := Tryz.sizeOf192
 v173 := Tryz.zeroValue192
 t212 := Tryz.underlying201
 a212 := Tryz.isAgg201
 z212 := Tryz.sizeOf201
 v212 := Tryz.zeroValue201
 t213 := Tryz.underlying202
 a213 := Tryz.isAgg202
 z213 := Tryz.sizeOf202
 t232 := Tryz.underlying219
 a232 := Tryz.isAgg219
 z232 := Tryz.sizeOf219
 v232 := Tryz.zeroValue219
 t233 := Tryz.underlying220
 a233 := Tryz.isAgg220
 z233 := Tryz.sizeOf220
 v233 := Tryz.zeroValue220
 g17 := by kernel_rfl
 g18 := by kernel_rfl
 g19 := by kernel_rfl
 i0 := by kernel_rfl
 i2 := by kernel_rfl
 i3 := by kernel_rfl
 i4 := by kernel_rfl
 i5 := by kernel_rfl
 i9 := by kernel_rfl
 i20 := by kernel_rfl
 i37 := by kernel_rfl
 i46 := by kernel_rfl
 i51 := by kernel_rfl
 i53 := by kernel_rfl
 i171 := by kernel_rfl
 i173 := by kernel_rfl
 i212 := by kernel_rfl
 i232 := by kernel_rfl
 i233 := by kernel_rfl
 m17 := by kernel_rfl
 m18 := by kernel_rfl
 m19 := by kernel_rfl }
open Go.RowKit Go.Sort Go.Lib in
theorem Tryz.strconv_Itoa (n : Int) (h0 : -9223372036854775808 ≤ n) (h1 : n ≤ 9223372036854775807) (w : World) (htab : Lib.TabIs Tryz.prog w "internal/strconv.uint64pow10" .u64 Lib.pow10Tab) :
  Calls Tryz.prog 96 #[.int .i64 n] w fun e w' => e = .returned (.string ⟨(Lib.itoa n).toArray⟩) ∧ ∃ k os, w' = grow (w.drewN k) os := Any.strconv_Itoa Tryz.laysM171 n h0 h1 w htab
def Tryz.laysC172_ren : Go.Shelf.Ren := ⟨fun | 172 => 160 | 244 => 171 | 245 => 172 | 247 => 180 | 279 => 181 | 280 => 182 | 281 => 183 | 282 => 184 | 287 => 188 | 316 => 189 | 171 => 96 | 205 => 190 | 321 => 191 | 322 => 192 | 243 => 117 | 246 => 141 | 283 => 161 | 284 => 162 | 285 => 163 | 286 => 164 | 129 => 127 | 317 => 173 | 318 => 174 | 319 => 175 | 320 => 176 | 337 => 185 | 338 => 186 | n => n, fun | 9 => 9 | 3 => 3 | 75 => 187 | 76 => 188 | 4 => 4 | 5 => 5 | 167 => 207 | 37 => 25 | 0 => 0 | 85 => 208 | 2 => 2 | 168 => 210 | 53 => 142 | 175 => 214 | 46 => 135 | 210 => 217 | 127 => 221 | 145 => 224 | 143 => 222 | 21 => 21 | 171 => 190 | 173 => 192 | 212 => 201 | 51 => 157 | 20 => 20 | 213 => 202 | 232 => 219 | 233 => 220 | 80 => 225 | n => n, fun | 15 => 4 | 16 => 5 | 17 => 1 | 18 => 6 | 19 => 7 | n => n⟩
theorem Tryz.laysC172 : Go.Proofs.LaysC.n172 Tryz.prog Tryz.laysC172_ren := {
 mixed := by kernel_rfl
 f129 := Tryz.func127.trans (congrArg some (by kernel_rfl))
 f171 := Tryz.func96.trans (congrArg some (by kernel_rfl))
 f172 := Tryz.func160.trans (congrArg some (by kernel_rfl))
 f205 := Tryz.func190.trans (congrArg some (by kernel_rfl))
 f243 := Tryz.func117.trans (congrArg some (by kernel_rfl))
 f244 := Tryz.func171.trans (congrArg some (by kernel_rfl))
 f245 := Tryz.func172.trans (congrArg some (by kernel_rfl))
 f246 := Tryz.func141.trans (congrArg some (by kernel_rfl))
 f247 := Tryz.func180.trans (congrArg some (by kernel_rfl))
 f279 := Tryz.func181.trans (congrArg some (by kernel_rfl))
 f280 := Tryz.func182.trans (congrArg some (by kernel_rfl))
 f281 := Tryz.func183.trans (congrArg some (by kernel_rfl))
 f282 := Tryz.func184.trans (congrArg some (by kernel_rfl))
 f283 := Tryz.func161.trans (congrArg some (by kernel_rfl))
 f284 := Tryz.func162.trans (congrArg some (by kernel_rfl))
 f285 := Tryz.func163.trans (congrArg some (by kernel_rfl))
 f286 := Tryz.func164.trans (congrArg some (by kernel_rfl))
 f287 := Tryz.func188.trans (congrArg some (by kernel_rfl))
 f316 := Tryz.func189.trans (congrArg some (by kernel_rfl))
 f317 := Tryz.func173.trans (congrArg some (by kernel_rfl))
 f318 := Tryz.func174.trans (congrArg some (by kernel_rfl))
 f319 := Tryz.func175.trans (congrArg some (by kernel_rfl))
 f320 := Tryz.func176.trans (congrArg some (by kernel_rfl))
 f321 := Tryz.func191.trans (congrArg some (by kernel_rfl))
 f322 := Tryz.func192.trans (congrArg some (by kernel_rfl))
 f337 := Tryz.func185.trans (congrArg some (by kernel_rfl))
 f338 := Tryz.func186.trans (congrArg some (by kernel_rfl))
 t0 := Tryz.underlying0
 a0 := Tryz.isAgg0
 z0 := Tryz.sizeOf0
 v0 := Tryz.zeroValue0
 t2 := Tryz.underlying2
 a2 := Tryz.isAgg2
 z2 := Tryz.sizeOf2
 v2 := Tryz.zeroValue2
 t3 := Tryz.underlying3
 a3 := Tryz.isAgg3
 z3 := Tryz.sizeOf3
 v3 := Tryz.zeroValue3
 t4 := Tryz.underlying4
 a4 := Tryz.isAgg4
 z4 := Tryz.sizeOf4
 v4 := Tryz.zeroValue4
 t5 := Tryz.underlying5
 a5 := Tryz.isAgg5
 z5 := Tryz.sizeOf5
 v5 := Tryz.zeroValue5
 t9 := Tryz.underlying9
 a9 := Tryz.isAgg9
 z9 := Tryz.sizeOf9
 v9 := Tryz.zeroValue9
 t20 := Tryz.underlying20
 a20 := Tryz.isAgg20
 z20 := Tryz.sizeOf20
 v20 := Tryz.zeroValue20
 t21 := Tryz.underlying21
 a21 := Tryz.isAgg21
 z21 := Tryz.sizeOf21
 v21 := Tryz.zeroValue21
 t37 := Tryz.underlying25
 a37 := Tryz.isAgg25
 z37 := Tryz.sizeOf25
 v37 := Tryz.zeroValue25
 t46 := Tryz.underlying135
 a46 := Tryz.isAgg135
 z46 := Tryz.sizeOf135
 v46 := Tryz.zeroValue135
 t51 := Tryz.underlying157
 a51 := Tryz.isAgg157
 z51 := Tryz.sizeOf157
 v51 := Tryz.zeroValue157
 t53 := Tryz.underlying142
 a53 := Tryz.isAgg142
 z53 := Tryz.sizeOf142
 v53 := Tryz.zeroValue142
 t75 := Tryz.underlying187
 a75 := Tryz.isAgg187
 z75 := Tryz.sizeOf187
 v75 := Tryz.zeroValue187
 t76 := Tryz.underlying188
 a76 := Tryz.isAgg188
 z76 := Tryz.sizeOf188
 v76 := Tryz.zeroValue188
 t85 := Tryz.underlying208
 a85 := Tryz.isAgg208
 z85 := Tryz.sizeOf208
 v85 := Tryz.zeroValue208
 t127 := Tryz.underlying221
 a127 := Tryz.isAgg221
 z127 := Tryz.sizeOf221
 v127 := Tryz.zeroValue221
 t143 := Tryz.underlying222
 a143 := Tryz.isAgg222
 z143 := Tryz.sizeOf222
 v143 := Tryz.zeroValue222
 t145 := Tryz.underlying224
 a145 := Tryz.isAgg224
 z145 := Tryz.sizeOf224
 v145 := Tryz.zeroValue224
 t167 := Tryz.underlying207
 a167 := Tryz.isAgg207
 z167 := Tryz.sizeOf207
 v167 := Tryz.zeroValue207
 t168 := Tryz.underlying210
 a168 := Tryz.isAgg210
 z168 := Tryz.sizeOf210
 v168 := Tryz.zeroValue210
 t171 := Tryz.underlying190
 a171 := Tryz.isAgg190
 z171 := Tryz.sizeOf190
 v171 := Tryz.zeroValue190
 t173 := Tryz.underlying192
 a173 := Tryz.isAgg192
 z173 := Tryz.sizeOf192
 v173 := Tryz.zeroValue192
 t175 := Tryz.underlying214
 a175 := Tryz.isAgg214
 z175 := Tryz.sizeOf214
 v175 := Tryz.zeroValue214
 t210 := Tryz.underlying217
 a210 := Tryz.isAgg217
 z210 := Tryz.sizeOf217
 v210 := Tryz.zeroValue217
 t212 := Tryz.underlying201
 a212 := Tryz.isAgg201
 z212 := Tryz.sizeOf201
 v212 := Tryz.zeroValue201
 t213 := Tryz.underlying202
 a213 := Tryz.isAgg202
 z213 := Tryz.sizeOf202
 t232 := Tryz.underlying219
 a232 := Tryz.isAgg219
 z232 := Tryz.sizeOf219
 v232 := Tryz.zeroValue219
 t233 := Tryz.underlying220
 a233 := Tryz.isAgg220
 z233 := Tryz.sizeOf220
 v233 := Tryz.zeroValue220
 g15 := by kernel_rfl
 g16 := by kernel_rfl
 g17 := by kernel_rfl
 g18 := by kernel_rfl
 g19 := by kernel_rfl
 t80 := Tryz.underlying225
 a80 := Tryz.isAgg225
 z80 := Tryz.sizeOf225
 v80 := Tryz.zeroValue225
 i0 := by kernel_rfl
 i2 := by kernel_rfl
 i3 := by kernel_rfl
 i4 := by kernel_rfl
 i5 := by kernel_rfl
 i9 := by kernel_rfl
 i20 := by kernel_rfl
 i21 := by kernel_rfl
 i37 := by kernel_rfl
 i46 := by kernel_rfl
 i51 := by kernel_rfl
 i53 := by kernel_rfl
 i75 := by kernel_rfl
 i76 := by kernel_rfl
 i80 := by kernel_rfl
 i85 := by kernel_rfl
 i127 := by kernel_rfl
 i143 := by kernel_rfl
 i145 := by kernel_rfl
 i167 := by kernel_rfl
 i168 := by kernel_rfl
 i171 := by kernel_rfl
 i173 := by kernel_rfl
 i175 := by kernel_rfl
 i210 := by kernel_rfl
 i212 := by kernel_rfl
 i232 := by kernel_rfl
 i233 := by kernel_rfl
 m15 := by kernel_rfl
 m16 := by kernel_rfl
 m17 := by kernel_rfl
 m18 := by kernel_rfl
 m19 := by kernel_rfl
 c0 := by kernel_rfl
 c2 := by kernel_rfl
 c3 := by kernel_rfl
 c4 := by kernel_rfl
 c5 := by kernel_rfl
 c9 := by kernel_rfl
 c20 := by kernel_rfl
 c21 := by kernel_rfl
 c37 := by kernel_rfl
 c46 := by kernel_rfl
 c51 := by kernel_rfl
 c53 := by kernel_rfl
 c75 := by kernel_rfl
 c76 := by kernel_rfl
 c80 := by kernel_rfl
 c85 := by kernel_rfl
 c127 := by kernel_rfl
 c143 := by kernel_rfl
 c145 := by kernel_rfl
 c167 := by kernel_rfl
 c168 := by kernel_rfl
 c171 := by kernel_rfl
 c173 := by kernel_rfl
 c175 := by kernel_rfl
 c210 := by kernel_rfl
 c212 := by kernel_rfl
 c213 := by kernel_rfl
 c232 := by kernel_rfl
 c233 := by kernel_rfl }
open Go.RowKit in
theorem Tryz.strconv_Atoi_ok (s : ByteArray) (hmax : s.size ≤ 9223372036854775806) (v : Int) (h : Lib.atoiAll s.data.toList = .ok v) (w : World) :
  Calls Tryz.prog 160 #[.string s] w fun e w' => e = .returned (.tuple #[.int .i64 v, .nilIface]) ∧ (w' = w ∨ ∃ t, w' = Lib.bytesWorld w 5 t) := Any.strconv_Atoi_ok Tryz.laysC172 s hmax v h w
open Go.RowKit in
theorem Tryz.strconv_Atoi_syntax (s : ByteArray) (hlim : s.size ≤ 281474976710656) (h : Lib.atoiAll s.data.toList = Lib.atoiAll []) (ev : Value) (w : World) (hv : w.cell? ⟨4, 0, none⟩ = some ev) (hev : ev = .nilIface ∨ ∃ te pe, ev = .iface te pe) :
  Calls Tryz.prog 160 #[.string s] w fun e w' => ∃ N, e = .returned (.tuple #[.int .i64 (0), .iface 210 (.pointer (some ⟨N, 0, none⟩))]) ∧ w.heap.size ≤ N ∧ w'.heap[N]? = some (.cells #[.string ⟨#[65, 116, 111, 105]⟩, .string s, ev] 217 (0, 0)) ∧ Below w.heap.size w w' := Any.strconv_Atoi_syntax Tryz.laysC172 s hlim h ev w hv hev
open Go.RowKit in
theorem Tryz.strconv_Atoi_range (s : ByteArray) (hlim : s.size ≤ 281474976710656) (h : Lib.atoiAll s.data.toList = .range) (ev : Value) (w : World) (hv : w.cell? ⟨5, 0, none⟩ = some ev) (hev : ev = .nilIface ∨ ∃ te pe, ev = .iface te pe) :
  Calls Tryz.prog 160 #[.string s] w fun e w' => ∃ N, e = .returned (.tuple #[.int .i64 (Lib.atoiSat s.data.toList), .iface 210 (.pointer (some ⟨N, 0, none⟩))]) ∧ w.heap.size ≤ N ∧ w'.heap[N]? = some (.cells #[.string ⟨#[65, 116, 111, 105]⟩, .string s, ev] 217 (0, 0)) ∧ Below w.heap.size w w' := Any.strconv_Atoi_range Tryz.laysC172 s hlim h ev w hv hev
def Tryz.lays145_ren : Go.Shelf.Ren := ⟨fun | 145 => 138 | 220 => 159 | 219 => 170 | 217 => 178 | 225 => 158 | 224 => 132 | 267 => 179 | 266 => 153 | 314 => 187 | n => n, fun | 9 => 9 | 4 => 4 | 59 => 163 | 3 => 3 | 5 => 5 | 46 => 135 | 146 => 173 | 51 => 157 | n => n, fun | 1 => 0 | n => n⟩
theorem Tryz.lays145 : Go.Proofs.Lays.n145 Tryz.prog Tryz.lays145_ren := {
 mixed := by kernel_rfl
 f145 := Tryz.func138.trans (congrArg some (by kernel_rfl))
 f217 := Tryz.func178.trans (congrArg some (by kernel_rfl))
 f219 := Tryz.func170.trans (congrArg some (by kernel_rfl))
 f220 := Tryz.func159.trans (congrArg some (by kernel_rfl))
 f224 := Tryz.func132.trans (congrArg some (by kernel_rfl))
 f225 := Tryz.func158.trans (congrArg some (by kernel_rfl))
 f266 := Tryz.func153.trans (congrArg some (by kernel_rfl))
 f267 := Tryz.func179.trans (congrArg some (by kernel_rfl))
 f314 := Tryz.func187.trans (congrArg some (by kernel_rfl))
 t3 := Tryz.underlying3
 a3 := Tryz.isAgg3
 z3 := Tryz.sizeOf3
 v3 := Tryz.zeroValue3
 t4 := Tryz.underlying4
 a4 := Tryz.isAgg4
 z4 := Tryz.sizeOf4
 v4 := Tryz.zeroValue4
 t5 := Tryz.underlying5
 a5 := Tryz.isAgg5
 z5 := Tryz.sizeOf5
 v5 := Tryz.zeroValue5
 t9 := Tryz.underlying9
 a9 := Tryz.isAgg9
 z9 := Tryz.sizeOf9
 v9 := Tryz.zeroValue9
 t46 := Tryz.underlying135
 a46 := Tryz.isAgg135
 z46 := Tryz.sizeOf135
 v46 := Tryz.zeroValue135
 t51 := Tryz.underlying157
 a51 := Tryz.isAgg157
 z51 := Tryz.sizeOf157
 v51 := Tryz.zeroValue157
 t59 := Tryz.underlying163
 a59 := Tryz.isAgg163
 z59 := Tryz.sizeOf163
 v59 := Tryz.zeroValue163
 t146 := Tryz.underlying173
 a146 := Tryz.isAgg173
 z146 := Tryz.sizeOf173
 v146 := Tryz.zeroValue173
 g1 := by kernel_rfl }
open Go.RowKit Go.Lib in
theorem Tryz.strings_Cut (s sep : ByteArray) (m : Int) (w : World) (hs : s.size < 4294967281) (hm : w.cell? ⟨0, 0, none⟩ = some (.int .i64 m)) :
  Calls Tryz.prog 138 #[.string s, .string sep] w fun e w' => e = .returned (.tuple #[.string ⟨(Lib.cut s.data.toList sep.data.toList).1.toArray⟩, .string ⟨(Lib.cut s.data.toList sep.data.toList).2.1.toArray⟩, .bool (Lib.cut s.data.toList sep.data.toList).2.2]) ∧ ∃ n, w' = w.drewN n := Any.strings_Cut Tryz.lays145 s sep m w hs hm
def Tryz.lays99_ren : Go.Shelf.Ren := ⟨fun | 99 => 89 | 206 => 108 | n => n, fun | 9 => 9 | 4 => 4 | 3 => 3 | n => n, fun | n => n⟩
theorem Tryz.lays99 : Go.Proofs.Lays.n99 Tryz.prog Tryz.lays99_ren := {
 mixed := by kernel_rfl
 f99 := Tryz.func89.trans (congrArg some (by kernel_rfl))
 f206 := Tryz.func108.trans (congrArg some (by kernel_rfl))
 t3 := Tryz.underlying3
 a3 := Tryz.isAgg3
 z3 := Tryz.sizeOf3
 v3 := Tryz.zeroValue3
 t4 := Tryz.underlying4
 a4 := Tryz.isAgg4
 z4 := Tryz.sizeOf4
 v4 := Tryz.zeroValue4
 t9 := Tryz.underlying9
 a9 := Tryz.isAgg9
 z9 := Tryz.sizeOf9
 v9 := Tryz.zeroValue9 }
open Go.RowKit Go.Lib in
theorem Tryz.strings_HasPrefix (s p : ByteArray) (w : World) :
  Calls Tryz.prog 89 #[.string s, .string p] w fun e w' => e = .returned (.bool (Lib.hasPrefix s.data.toList p.data.toList)) ∧ w' = w := Any.strings_HasPrefix Tryz.lays99 s p w
def Tryz.lays186_ren : Go.Shelf.Ren := ⟨fun | 186 => 91 | 185 => 109 | 187 => 129 | 115 => 130 | 253 => 131 | 224 => 132 | 254 => 133 | 255 => 147 | 291 => 148 | n => n, fun | 37 => 25 | 4 => 4 | 3 => 3 | 0 => 0 | 5 => 5 | 46 => 135 | 9 => 9 | 146 => 173 | 51 => 157 | n => n, fun | 1 => 0 | n => n⟩
theorem Tryz.lays186 : Go.Proofs.Lays.n186 Tryz.prog Tryz.lays186_ren := {
 mixed := by kernel_rfl
 f115 := Tryz.func130.trans (congrArg some (by kernel_rfl))
 f185 := Tryz.func109.trans (congrArg some (by kernel_rfl))
 f186 := Tryz.func91.trans (congrArg some (by kernel_rfl))
 f187 := Tryz.func129.trans (congrArg some (by kernel_rfl))
 f224 := Tryz.func132.trans (congrArg some (by kernel_rfl))
 f253 := Tryz.func131.trans (congrArg some (by kernel_rfl))
 f254 := Tryz.func133.trans (congrArg some (by kernel_rfl))
 f255 := Tryz.func147.trans (congrArg some (by kernel_rfl))
 f291 := Tryz.func148.trans (congrArg some (by kernel_rfl))
 t0 := Tryz.underlying0
 a0 := Tryz.isAgg0
 z0 := Tryz.sizeOf0
 v0 := Tryz.zeroValue0
 t3 := Tryz.underlying3
 a3 := Tryz.isAgg3
 z3 := Tryz.sizeOf3
 v3 := Tryz.zeroValue3
 t4 := Tryz.underlying4
 a4 := Tryz.isAgg4
 z4 := Tryz.sizeOf4
 v4 := Tryz.zeroValue4
 t5 := Tryz.underlying5
 a5 := Tryz.isAgg5
 z5 := Tryz.sizeOf5
 v5 := Tryz.zeroValue5
 t9 := Tryz.underlying9
 a9 := Tryz.isAgg9
 z9 := Tryz.sizeOf9
 v9 := Tryz.zeroValue9
 t37 := Tryz.underlying25
 a37 := Tryz.isAgg25
 z37 := Tryz.sizeOf25
 v37 := Tryz.zeroValue25
 t46 := Tryz.underlying135
 a46 := Tryz.isAgg135
 z46 := Tryz.sizeOf135
 v46 := Tryz.zeroValue135
 t51 := Tryz.underlying157
 a51 := Tryz.isAgg157
 z51 := Tryz.sizeOf157
 v51 := Tryz.zeroValue157
 t146 := Tryz.underlying173
 a146 := Tryz.isAgg173
 z146 := Tryz.sizeOf173
 v146 := Tryz.zeroValue173
 g1 := by kernel_rfl }
open Go.Proofs Go.RowKit Go.Lib in
theorem Tryz.bytes_Contains_at (a1 a2 : Addr) (n c1 k c2 : Nat) (xs ys : List Int) (m : Int) (w : World) (hx : xs.length = n) (hy : ys.length = k) (hr1 : ∀ x ∈ xs, 0 ≤ x ∧ x < 256) (hr2 : ∀ y ∈ ys, 0 ≤ y ∧ y < 256) (hc1 : ∀ i, i < n → w.cell? (a1.add i) = some (.int .u8 (xs.getD i 0))) (hc2 : ∀ i, i < k → w.cell? (a2.add i) = some (.int .u8 (ys.getD i 0))) (hcap : n ≤ c1) (hs : n < 4294967281) (hk : k ≤ 9223372036854775807) (hm : w.cell? ⟨0, 0, none⟩ = some (.int .i64 m)) :
  Calls Tryz.prog 91 #[.slice (some a1) n c1, .slice (some a2) k c2] w fun e w' => e = .returned (.bool (Lib.contains (Lib.bytesOf xs) (Lib.bytesOf ys))) ∧ ∃ q, w' = w.drewN q := Any.bytes_Contains_at Tryz.lays186 a1 a2 n c1 k c2 xs ys m w hx hy hr1 hr2 hc1 hc2 hcap hs hk hm
open Go.Proofs Go.RowKit Go.Lib in
theorem Tryz.bytes_Contains_nil (p2 : Option Addr) (k c2 : Nat) (w : World) (hk : k ≤ 9223372036854775807) (h1 : k = 1 → ∃ b2 o2 cv, p2 = some ⟨b2, o2, none⟩ ∧ w.cell? ⟨b2, o2, none⟩ = some (.int .u8 cv)) :
  Calls Tryz.prog 91 #[.slice none 0 0, .slice p2 k c2] w fun e w' => e = .returned (.bool (decide (k = 0))) ∧ w' = w := Any.bytes_Contains_nil Tryz.lays186 p2 k c2 w hk h1
def Tryz.laysV11_ren : Go.Shelf.Ren := ⟨fun | 11 => 150 | n => n, fun | 9 => 9 | 27 => 177 | 4 => 4 | 0 => 0 | 3 => 3 | 5 => 5 | n => n, fun | n => n⟩
theorem Tryz.laysV11 : Go.Proofs.SlLaysV.n11 Tryz.prog Tryz.laysV11_ren := {
 mixed := by kernel_rfl
 f11 := Tryz.func150.trans (congrArg some (by kernel_rfl))
 t0 := Tryz.underlying0
 a0 := Tryz.isAgg0
 z0 := Tryz.sizeOf0
 v0 := Tryz.zeroValue0
 t3 := Tryz.underlying3
 a3 := Tryz.isAgg3
 z3 := Tryz.sizeOf3
 v3 := Tryz.zeroValue3
 t4 := Tryz.underlying4
 a4 := Tryz.isAgg4
 z4 := Tryz.sizeOf4
 v4 := Tryz.zeroValue4
 t5 := Tryz.underlying5
 a5 := Tryz.isAgg5
 z5 := Tryz.sizeOf5
 v5 := Tryz.zeroValue5
 t9 := Tryz.underlying9
 a9 := Tryz.isAgg9
 z9 := Tryz.sizeOf9
 v9 := Tryz.zeroValue9
 t27 := Tryz.underlying177
 a27 := Tryz.isAgg177
 z27 := Tryz.sizeOf177 }
def Tryz.laysV16_ren : Go.Shelf.Ren := ⟨fun | 16 => 156 | n => n, fun | 31 => 181 | 5 => 5 | 4 => 4 | 0 => 0 | 27 => 177 | n => n, fun | n => n⟩
theorem Tryz.laysV16 : Go.Proofs.SlLaysV.n16 Tryz.prog Tryz.laysV16_ren := {
 mixed := by kernel_rfl
 f16 := Tryz.func156.trans (congrArg some (by kernel_rfl))
 t0 := Tryz.underlying0
 a0 := Tryz.isAgg0
 z0 := Tryz.sizeOf0
 v0 := Tryz.zeroValue0
 t4 := Tryz.underlying4
 a4 := Tryz.isAgg4
 z4 := Tryz.sizeOf4
 v4 := Tryz.zeroValue4
 t5 := Tryz.underlying5
 a5 := Tryz.isAgg5
 z5 := Tryz.sizeOf5
 v5 := Tryz.zeroValue5
 t27 := Tryz.underlying177
 a27 := Tryz.isAgg177
 z27 := Tryz.sizeOf177
 t31 := Tryz.underlying181
 a31 := Tryz.isAgg181
 z31 := Tryz.sizeOf181
 v31 := Tryz.zeroValue181 }
def Tryz.lays7_32_ren : Go.Shelf.Ren := ⟨fun | 32 => 157 | 49 => 169 | n => n, fun | 30 => 25 | 21 => 21 | 3 => 3 | 0 => 0 | 5 => 5 | 4 => 4 | 33 => 184 | 66 => 203 | 25 => 135 | 69 => 206 | 68 => 205 | n => n, fun | 2 => 2 | 3 => 3 | n => n⟩
theorem Tryz.lays7_32 : Go.Proofs.Lays7.n32 Tryz.prog Tryz.lays7_32_ren := {
 mixed := by kernel_rfl
 f32 := Tryz.func157.trans (congrArg some (by kernel_rfl))
 f49 := Tryz.func169.trans (congrArg some (by kernel_rfl))
 t0 := Tryz.underlying0
 a0 := Tryz.isAgg0
 z0 := Tryz.sizeOf0
 v0 := Tryz.zeroValue0
 i0 := by kernel_rfl
 t3 := Tryz.underlying3
 a3 := Tryz.isAgg3
 z3 := Tryz.sizeOf3
 v3 := Tryz.zeroValue3
 i3 := by kernel_rfl
 t4 := Tryz.underlying4
 a4 := Tryz.isAgg4
 z4 := Tryz.sizeOf4
 v4 := Tryz.zeroValue4
 i4 := by kernel_rfl
 t5 := Tryz.underlying5
 a5 := Tryz.isAgg5
 z5 := Tryz.sizeOf5
 v5 := Tryz.zeroValue5
 i5 := by kernel_rfl
 t21 := Tryz.underlying21
 a21 := Tryz.isAgg21
 z21 := Tryz.sizeOf21
 v21 := Tryz.zeroValue21
 i21 := by kernel_rfl
 t25 := Tryz.underlying135
 a25 := Tryz.isAgg135
 z25 := Tryz.sizeOf135
 v25 := Tryz.zeroValue135
 i25 := by kernel_rfl
 t30 := Tryz.underlying25
 a30 := Tryz.isAgg25
 z30 := Tryz.sizeOf25
 v30 := Tryz.zeroValue25
 i30 := by kernel_rfl
 t33 := Tryz.underlying184
 a33 := Tryz.isAgg184
 z33 := Tryz.sizeOf184
 v33 := Tryz.zeroValue184
 i33 := by kernel_rfl
 t66 := Tryz.underlying203
 a66 := Tryz.isAgg203
 z66 := Tryz.sizeOf203
 t68 := Tryz.underlying205
 a68 := Tryz.isAgg205
 z68 := Tryz.sizeOf205
 v68 := Tryz.zeroValue205
 i68 := by kernel_rfl
 t69 := Tryz.underlying206
 a69 := Tryz.isAgg206
 z69 := Tryz.sizeOf206
 v69 := Tryz.zeroValue206
 i69 := by kernel_rfl
 g2 := by kernel_rfl
 g3 := by kernel_rfl }
def Tryz.laysH8_ren : Go.Shelf.Ren := ⟨fun | 8 => 115 | 6 => 140 | n => n, fun | 22 => 130 | 23 => 110 | 25 => 147 | 4 => 4 | 3 => 3 | 0 => 0 | n => n, fun | n => n⟩
theorem Tryz.laysH8 : Go.Proofs.SlLaysH0.n8 Tryz.prog Tryz.laysH8_ren := {
 mixed := by kernel_rfl
 f6 := ⟨Tryz.f140.name, by decide, Tryz.func140.trans (congrArg some (by kernel_rfl))⟩
 f8 := ⟨Tryz.f115.name, by decide, Tryz.func115.trans (congrArg some (by kernel_rfl))⟩
 t0 := Tryz.underlying0
 a0 := Tryz.isAgg0
 z0 := Tryz.sizeOf0
 v0 := Tryz.zeroValue0
 t3 := Tryz.underlying3
 a3 := Tryz.isAgg3
 z3 := Tryz.sizeOf3
 v3 := Tryz.zeroValue3
 t4 := Tryz.underlying4
 a4 := Tryz.isAgg4
 z4 := Tryz.sizeOf4
 v4 := Tryz.zeroValue4
 t22 := Tryz.underlying130
 a22 := Tryz.isAgg130
 z22 := Tryz.sizeOf130
 v22 := Tryz.zeroValue130
 t25 := Tryz.underlying147
 a25 := Tryz.isAgg147
 z25 := Tryz.sizeOf147
 v25 := Tryz.zeroValue147 }
end Go.Proofs
end
section
namespace Go.Proofs.YtehaodbheifokaaGreatDoor.P
open Go Go.RowKit Go.Proofs.YtehaodbheifokaaGreatDoorW.PrintWords Go.Proofs.YtehaodbheifokaaGreatDoorW.PrintLast
structure FieldIn (w : World) : Prop where
 pow : Lib.TabIs Tryz.prog w "internal/strconv.uint64pow10" .u64 Lib.pow10Tab
 syn : ∃ te pe, w.cell? ⟨4, 0, none⟩ = some (.iface te pe)
 rng : ∃ te pe, w.cell? ⟨5, 0, none⟩ = some (.iface te pe)
 max : ∃ m, w.cell? ⟨0, 0, none⟩ = some (.int .i64 m)
 utf : Lib.Utf8Tabs 2 3 w
theorem cell_up {w w' : World} (hb : Below w.heap.size w w') {p : Addr} {v : Value} (h : w.cell? p = some v) : w'.cell? p = some v := (hb.cell (World.block_lt_of_cell? w _ h)).trans h
theorem var_up {w w' : World} (hb : Below w.heap.size w w') {nm : String} {x : Array Value} (h : w.var? Tryz.prog nm = some x) : w'.var? Tryz.prog nm = some x := by
 unfold World.var? at h ⊢
 obtain ⟨g, hg, hx⟩ := Option.bind_eq_some_iff.1 h
 rw [hg, Option.bind_some]
 cases ho : w.heap[g]? with
 | none => rw [ho] at hx; cases hx
 | some o =>
  have hlt : g < w.heap.size := (Array.getElem?_eq_some_iff.1 ho).1
  rw [hb.block g hlt, ho]
  rw [ho] at hx
  exact hx
theorem FieldIn.below {w w' : World} (h : FieldIn w) (hb : Below w.heap.size w w') : FieldIn w' where
 pow := var_up hb h.pow
 syn := by obtain ⟨te, pe, e⟩ := h.syn; exact ⟨te, pe, cell_up hb e⟩
 rng := by obtain ⟨te, pe, e⟩ := h.rng; exact ⟨te, pe, cell_up hb e⟩
 max := by obtain ⟨m, e⟩ := h.max; exact ⟨m, cell_up hb e⟩
 utf := ⟨fun c hc => cell_up hb (h.utf.1 c hc), fun i hi => ⟨cell_up hb (h.utf.2 i hi).1, cell_up hb (h.utf.2 i hi).2⟩⟩
theorem FieldIn.go {w v W : World} (h : Aside0 (FieldIn w)) (B : Aside0 (Below w.heap.size w v))
  (s : Below w.heap.size w v → Below w.heap.size w W := by intro h_; repeat (first | (with_reducible first | exact h_ | apply below_alloc | apply pw_below_drewN | apply below_drew1 | refine below_set ?_ (Aside0.out (by assumption))) | exact h_)) : FieldIn W := h.out.below (s B.out)
def strconv_Itoa.f (n : Int) : Option ByteArray := if -9223372036854775808 ≤ n ∧ n ≤ 9223372036854775807 then some ⟨(Lib.itoa n).toArray⟩ else none
theorem below_grow (B : Nat) {w0 w : World} (os : Array Obj) (h : Below B w0 w) (hB : B ≤ w.heap.size) : Below B w0 (Go.Sort.grow w os) :=
 h.trans ⟨rfl, rfl, rfl, by simp [Go.Sort.grow], fun k hk => by simp only [Go.Sort.grow]; rw [Array.getElem?_append_left (by omega)]⟩
theorem strconv_Itoa.calls (n : Int) (r : ByteArray) (w : World) (h : strconv_Itoa.f n = some r) (hx : FieldIn w := by exact FieldIn.go (by assumption) (by assumption)) :
  Calls Tryz.prog 96 #[.int .i64 n] w fun e w' => e = .returned (.string r) ∧ Below w.heap.size w w' := by
 unfold strconv_Itoa.f at h
 by_cases hn : -9223372036854775808 ≤ n ∧ n ≤ 9223372036854775807
 case neg => rw [if_neg hn] at h; cases h
 rw [if_pos hn] at h
 obtain rfl := Option.some.inj h
 refine (Tryz.strconv_Itoa n hn.1 hn.2 w hx.pow).mono ?_
 rintro e w' ⟨rfl, k, os, rfl⟩
 exact ⟨rfl, below_grow _ _ (pw_below_drewN (Below.refl _ _) k) (by simp [World.drewN])⟩
end Go.Proofs.YtehaodbheifokaaGreatDoor.P
end
