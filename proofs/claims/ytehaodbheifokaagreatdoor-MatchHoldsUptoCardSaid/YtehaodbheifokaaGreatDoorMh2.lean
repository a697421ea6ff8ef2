/- Texts of this claim joined by a program of this session (wip/tools/pack.py), without what is not used: Steps, Read, Short, P0, ReadS, PureEv, P1, PureKey, TokCut, Spec20, RightA20, Form20, Shelf, FieldIn, Tokens, Phrase, HoldsG20. Words and contracts that the kit's printer wrote for this seat stand among them. -/
import Derived.Test.YtehaodbheifokaaGreatDoorMh1
import Derived.Test.YtehaodbheifokaaGreatDoorRows
import Derived.Deep.Slices
import Derived.ChangeArms
import Derived.Lib.SmallJoins
import Derived.Test.YtehaodbheifokaaGreatDoorProg
import Derived.Below
import Derived.Deep.Draws
import Derived.Deep.AppendLies
import Derived.Maps.AppendAt
import Derived.OwnWalk
import Derived.Laws.BytesArg
import Derived.Laws.MakeOwn
import Derived.Laws.OwnMore
import Derived.Deep.OwnRows
import Derived.Tactics
import Derived.Lib.ConvBytes
import Derived.Laws.Slices
import Derived.WalkKit
import Derived.KernelRfl
import Derived.RowKit3
import Derived.Deep.LoopGhost
import Derived.Deep.QuietTactic
import Derived.BigQuiet
import Derived.WideLaws
import Derived.Deep.DeepCutAuto
import Derived.Deep.CutBlock
import Derived.Deep.RegionHeld3
import Derived.Laws.Rows
import Derived.Lib.AppendStr
import Derived.ArgAppend
import Derived.Laws.IdiomCopy
import Derived.OrdersHeld
import Derived.Laws.BitsLemmas
import Derived.RowKit
import Derived.WalkMore
import Derived.Scope
import Derived.Laws.AppendOwn
import Derived.Laws.IdiomStrings
import Derived.Lib.BufferRead
import Derived.Deep.Light
import Derived.Shelf.Small.Utf8
import Derived.Shelf.Small.Bits
import Derived.Shelf.Small.Strs
import Derived.Shelf.Strconv.Atoi
import Derived.Shelf.Strconv.Itoa0
import Derived.Shelf.Strconv.Itoa1
import Derived.Shelf.LaysM
import Derived.Shelf.Strconv.Itoa2
import Derived.Shelf.Strconv.Itoa3
import Derived.Shelf.Strconv.AtoiErrFast
import Derived.Shelf.Strconv.ParseIntEmpty
import Derived.Shelf.Strconv.AtoiFail
import Derived.Shelf.Strconv.Clone
import Derived.Shelf.Strconv.SyntaxError
import Derived.Shelf.LaysC
import Derived.Shelf.Strconv.ToError
import Derived.Shelf.Strconv.Lower
import Derived.Shelf.Strconv.ParseUint10
import Derived.Shelf.Strconv.ParseUint10Empty
import Derived.Shelf.Strconv.ParseUint10Any
import Derived.Shelf.Strconv.ParseInt10
import Derived.Shelf.Strconv.AtoiLong
import Derived.Shelf.Strconv.AtoiInnerAll
import Derived.Shelf.Strconv.RangeError
import Derived.Shelf.Strconv.ToErrorRange
import Derived.Shelf.Strconv.AtoiAll
import Derived.Shelf.Strconv.ErrVarAll
import Derived.Shelf.Strings.Search1
import Derived.Shelf.Strings.Search2
import Derived.Shelf.Strings.Cut
import Derived.Shelf.Strings.Shaped
import Derived.Shelf.Strings.Prefix
import Derived.Shelf.Bytes.SlIndexSmall
import Derived.Shelf.Bytes.SlIndexAt
import Derived.Shelf.Bytes.SlSearch0
import Derived.Shelf.Bytes.SlSearch1
import Derived.Shelf.Bytes.SlSearch2
import Derived.Shelf.Bytes.SlIndexWhole
import Derived.Shelf.Bytes.Small
import Derived.Shelf.Bytes.IndexByte
import Derived.Shelf.Bytes.SlTrim
import Derived.Shelf.Spec.DecodeRune
import Derived.Shelf.SlicesQ.IndexFunc
import Derived.Ground.SlbvProg
import Derived.Ground.SlgfProg
import Derived.Lib.LaidTab
import Derived.Shelf.Unicode.DecodeSlow
import Derived.Deep.RegionLaw
set_option maxHeartbeats 8000000
set_option maxRecDepth 100000
set_option linter.unusedVariables false
set_option linter.unusedSimpArgs false
section
namespace Go.Proofs.YtehaodbheifokaaGreatDoor.P
open Go Go.RowKit Go.Proofs.YtehaodbheifokaaGreatDoorW.PrintWords Go.Proofs.YtehaodbheifokaaGreatDoorW.PrintLast Go.Proofs.YtehaodbheifokaaGreatDoorW.PrintMore
variable {P : Program} {md : Region.Mode} {ops : Array Oper} {S : World → Prop} {Q : Exit → Act → World → Prop} {ds : List Nat} {T : Bool × List (List Nat × List Nat)} {B : List Nat} {fuel : Nat} {l : Array Bool} {a a' : Act} {w : World} {oi : Oper} {v : Value}
theorem pS (i : Nat) (N : Option Tmp) (hT : Aside0 (rtab md ops = T)) (h : wpAnyLast P md ops Q S ds fuel (l.setIfInBounds i true) a' w)
  (hi : ops[i]? = some oi := by rfl) (hN : oi.dst = N := by rfl) (hc : anyT T l.toList (l.setIfInBounds i true).toList i = true := by kernel_rfl) (hQ : ∀ c a w, Q (.panic c) (a.put oi.dst v) w → Q (.panic c) a w := by exact fun _ _ _ h => h)
  (hg : Region.wanted oi (yielded ops a.tmps) = true := by rfl) (hv : ∀ w', (execOp a.eval oi).run P w' = .ok (.value v) w' := by intro w'; go_simp; with_reducible rfl)
  (ha : a.put N v = a' := by simp only [Act.put, List.setIfInBounds_toArray, List.set_cons_zero, List.set_cons_succ, i64_w, i32_w]; rfl) : wpAnyLast P md ops Q S ds (fuel + 1) l a w :=
 pure_ _ hi hN (any_of hT.out hc) hQ (Or.inl ⟨hg, hv⟩) ha h
theorem uS (i : Nat) (N : Option Tmp) (hT : Aside0 (rtab md ops = T)) (h : wpAnyLast P md ops Q S ds fuel (l.setIfInBounds i true) a' w)
  (hi : ops[i]? = some oi := by rfl) (hN : oi.dst = N := by rfl) (hc : anyT T l.toList (l.setIfInBounds i true).toList i = true := by kernel_rfl) (hQ : ∀ c a w, Q (.panic c) (a.put oi.dst undef) w → Q (.panic c) a w := by exact fun _ _ _ h => h)
  (hg : Region.wanted oi (yielded ops a.tmps) = false := by rfl)
  (ha : a.put N undef = a' := by simp only [Act.put, List.setIfInBounds_toArray, List.set_cons_zero, List.set_cons_succ, i64_w, i32_w]; rfl) : wpAnyLast P md ops Q S ds (fuel + 1) l a w :=
 pure_ _ hi hN (any_of hT.out hc) hQ (Or.inr ⟨hg, rfl⟩) ha h
theorem tS (i : Nat) (N : Option Tmp) (hT : Aside0 (rtab md ops = T)) (hW : Aside0 (waitsOk T.2 B = true)) (hS : S w) (h : wpAnyLast P md ops Q S ds fuel (l.setIfInBounds i true) a' w)
  (hi : ops[i]? = some oi := by rfl) (hN : oi.dst = N := by rfl) (hc : takeW T B ds l.toList (l.setIfInBounds i true).toList i = true := by kernel_rfl) (hQ : ∀ c a w, Q (.panic c) (a.put oi.dst v) w → Q (.panic c) a w := by exact fun _ _ _ h => h)
  (hg : Region.wanted oi (yielded ops a.tmps) = true := by rfl) (hv : ∀ w', S w' → (execOp a.eval oi).run P w' = .ok (.value v) w' := by (intro w' hs_; (repeat (obtain ⟨_, hs_⟩ := hs_)); go_simp; with_reducible rfl))
  (ha : a.put N v = a' := by simp only [Act.put, List.setIfInBounds_toArray, List.set_cons_zero, List.set_cons_succ, i64_w, i32_w]; rfl) : wpAnyLast P md ops Q S ds (fuel + 1) l a w :=
 take_ _ hi hN (take_ofW hT.out hW.out hc) hQ (Or.inl ⟨hg, hv⟩) hS ha h
theorem bel6 {n : Nat} {w w' : World} (h : Below n w w' := by repeat (first | exact Below.refl _ _ | apply pw_below_drewN | apply below_drew1 | apply below_drew | apply Below.setCell (hp := Nat.le_succ _) | apply below_alloc)) : Below n w w' := h
theorem bel5 {n : Nat} {w w' : World} (h : Below n w w' := by repeat (first | exact Below.refl _ _ | apply pw_below_drewN | apply below_drew1 | apply below_drew | apply below_alloc)) : Below n w w' := h
theorem rs_ {p : Prop} (h : p := by first | rfl | (simp; done) | (simp [*]; done)) : p := h
theorem as_ {p : Prop} (h : p := by first | (with_reducible assumption) | assumption) : p := h
theorem mp_ {p : Prop} (h : p := by (try simp only [List.map_toArray, List.map_cons, List.map_nil]); first | done | rfl | (simp only [List.length_drop, List.length_take]; rfl)) : p := h
theorem dr_ {w w' : World} (h : Drawn0 w w' := by repeat (first | exact Drawn0.refl _ | apply Drawn0.step)) : Drawn0 w w' := h
theorem bU_ {p q : Prop} (h : p) (k : p → q := by (intro hk_; (with_reducible repeat (first | refine blk_drewN ?_ _ | refine blk_drew ?_ | refine blk_alloc ?_ _)); exact hk_)) : q := k h
end Go.Proofs.YtehaodbheifokaaGreatDoor.P
end
section
namespace Go.Proofs.YtehaodbheifokaaGreatDoor.Read
open Go Go.RowKit Go.ChangeShapes Go.WideShapes Go.Deep Go.Proofs.YtehaodbheifokaaGreatDoorW.PrintWords
structure Reads {α : Type} (P : Program) (t : TypeId) (d : Kd α) (ok : α → Prop) (bulk : α → Nat) : Prop where
 cells : P.cellsOf t = d.sz
 opens : ∀ {H : Type} {enc : TypeId × Value → H} {w : World} {base : Nat} {spare : Nat → Bool} {held : Bool} {fuel : Nat} {cs : List Value} {x : DataW H × List MemPlace},
  DataW.trod enc P w base spare held fuel t cs = some x → ∃ a, d.K w a cs ∧ ok a ∧ bulk a ≤ Rows.uptoBulk x.1
variable {P : Program} {t e : TypeId}
theorem reads_int {k : IntKind} (ht : P.underlying t = some (.int k)) (hc : P.cellsOf t = 1) : Reads P t (Kd.int k) (fun n => (Lit.int k n).wf = true) (fun _ => 1) :=
 ⟨hc, fun h => by
  obtain ⟨n, rfl, rfl, hw⟩ := DataW.trod_int ht h
  exact ⟨n, rfl, hw, by simp [Rows.uptoBulk]⟩⟩
theorem reads_string (ht : P.underlying t = some .string) (hc : P.cellsOf t = 1) : Reads P t Kd.string (fun s => s.size ≤ maxLen) (fun s => s.size + 1) :=
 ⟨hc, fun h => by
  obtain ⟨s, rfl, rfl, hs⟩ := DataW.trod_string ht h
  exact ⟨s, rfl, hs, by simp only [Rows.uptoBulk, Array.length_toList]; exact Nat.le_refl _⟩⟩
def sumBulk {α : Type} (bulk : α → Nat) : List α → Nat
 | [] => 0
 | x :: r => bulk x + sumBulk bulk r
theorem reads_slice {α : Type} {d : Kd α} {ok : α → Prop} {bulk : α → Nat} [Inhabited α] (ht : P.underlying t = some (.slice e)) (hc : P.cellsOf t = 1) (he : Reads P e d ok bulk) :
  Reads P t (Kd.slice e d) (fun xs => ∀ x ∈ xs, ok x) (fun xs => sumBulk bulk xs + 1) :=
 ⟨hc, fun {H enc w base spare held fuel cs x} h => by
  rcases open_slice ht h with ⟨rfl, rfl⟩ | ⟨a, len, cap, m, n, D, Pl, rfl, hb, hl, hm, hmm, rfl, hx⟩
  ·refine ⟨[], ⟨none, 0, rfl, Nat.le_refl _, Kd.C_nil d w⟩, by simp, by simp [sumBulk, Rows.uptoBulk]⟩
  ·have hlm : len ≤ m := by rw [hmm]; split <;> omega
   obtain ⟨F, hF⟩ := choose_lt (α := α) (p := fun i y => ∃ cs', w.cells? base (a.add (i * P.cellsOf e)) (P.cellsOf e) = some cs' ∧ d.K w y cs' ∧ ok y ∧ bulk y ≤ Rows.uptoBulk (D i)) (n := len) (fun i hi => by
    obtain ⟨cs', h1, h2⟩ := hx i (by omega)
    obtain ⟨y, hk, ho, hbk⟩ := he.opens h2
    exact ⟨y, cs', h1, hk, ho, hbk⟩)
   have hlen : ((List.range len).map F).length = len := by simp
   refine ⟨(List.range len).map F, ⟨some a, cap, by rw [hlen], by rw [hlen]; exact hl, rfl, by rw [hlen]; unfold maxLen at hm; omega, fun _ => ⟨a, rfl, fun j p hj => ?_⟩⟩, ?_, ?_⟩
   ·have hjl : j < len := by have := (List.getElem?_eq_some_iff.1 hj).1; rw [hlen] at this; exact this
    have hp : F j = p := by
     rw [List.getElem?_map, List.getElem?_range hjl] at hj
     exact Option.some.inj hj
    subst hp
    obtain ⟨cs', h1, hk, _⟩ := hF j hjl
    refine ⟨cs', d.K_len hk, hk, fun i u hu => ?_⟩
    obtain ⟨_, hlen', hget⟩ := World.cells?_some h1
    have hi : i < cs'.length := (List.getElem?_eq_some_iff.1 hu).1
    have := hget i (by omega)
    rw [hu] at this
    rw [Deep.add_add, he.cells] at this
    exact this
   ·intro x hx'
    obtain ⟨i, hi, rfl⟩ := List.mem_map.1 hx'
    exact (hF i (List.mem_range.1 hi)).choose_spec.2.2.1
   ·have key : ∀ l : List Nat, (∀ i ∈ l, i < len) → sumBulk bulk (l.map F) ≤ Rows.uptoBulkAll (l.map D) := by
     intro l
     induction l with
     | nil => intro _; simp [sumBulk, Rows.uptoBulkAll]
     | cons i l ih =>
      intro hl'
      have h1 := (hF i (hl' i (by simp))).choose_spec.2.2.2
      have h2 := ih (fun j hj => hl' j (by simp [hj]))
      simp only [List.map_cons, sumBulk, Rows.uptoBulkAll]
      omega
    have := key (List.range len) (fun i hi => List.mem_range.1 hi)
    simp only [Rows.uptoBulk]
    omega⟩
theorem sum_len {α : Type} (f : α → Nat) (h : ∀ x, 1 ≤ f x) (l : List α) : l.length ≤ sumBulk f l := by
 induction l with
 | nil => exact Nat.le_refl _
 | cons x l ih => simp only [sumBulk, List.length_cons]; have := h x; omega
end Go.Proofs.YtehaodbheifokaaGreatDoor.Read
end
section
namespace Go.Proofs.YtehaodbheifokaaGreatDoor.P
open Go Go.RowKit Go.Proofs.YtehaodbheifokaaGreatDoorW.PrintWords Go.Proofs.YtehaodbheifokaaGreatDoorW.PrintLast Go.Proofs.YtehaodbheifokaaGreatDoorW.PrintMore
theorem bkA {g : Nat} {o : Obj} {v w w' : World} (B : Aside0 (v.heap[g]? = some o)) (hb : Below w.heap.size w w')
  (s : v.heap[g]? = some o → w.heap[g]? = some o := by intro h_; (with_reducible repeat (first | refine blk_drewN ?_ _ | refine blk_drew ?_ | refine blk_alloc ?_ _ | refine blk_far ?_ (Aside0.out (by assumption)) _)); exact h_) : Aside0 (w'.heap[g]? = some o) := Aside0.mk (blk_below (s B.out) hb)
theorem bsA {w v W w2 : World} (B : Aside0 (Below w.heap.size w v)) (hb : Below W.heap.size W w2)
  (s : Below w.heap.size w v → Below w.heap.size w W := by intro h_; repeat (first | (with_reducible first | exact h_ | apply below_alloc | apply pw_below_drewN | apply below_drew1 | refine below_set ?_ (Aside0.out (by assumption))) | exact h_)) : Aside0 (Below w.heap.size w w2) := Aside0.mk (below_step (s B.out) hb)
theorem szA {g : Nat} {w v W : World} (B : Aside0 (Below w.heap.size w v)) (hg : g = W.heap.size)
  (s : Below w.heap.size w v → Below w.heap.size w W := by intro h_; repeat (first | (with_reducible first | exact h_ | apply below_alloc | apply pw_below_drewN | apply below_drew1 | refine below_set ?_ (Aside0.out (by assumption))) | exact h_)) : Aside0 (w.heap.size ≤ g) := Aside0.mk (by rw [hg]; exact below_size (s B.out))
theorem neA {g g' : Nat} {o : Obj} {v W : World} (B : Aside0 (v.heap[g]? = some o)) (hg : g' = W.heap.size)
  (s : v.heap[g]? = some o → W.heap[g]? = some o := by intro h_; (with_reducible repeat (first | refine blk_drewN ?_ _ | refine blk_drew ?_ | refine blk_alloc ?_ _)); exact h_) : Aside0 (g ≠ g') := Aside0.mk (by rw [hg]; exact Nat.ne_of_lt (blk_lt (s B.out)))
theorem neB {g g' : Nat} {o : Obj} {v W : World} (B : Aside0 (v.heap[g]? = some o)) (hg : g' = W.heap.size)
  (s : v.heap[g]? = some o → W.heap[g]? = some o := by intro h_; (with_reducible repeat (first | refine blk_drewN ?_ _ | refine blk_drew ?_ | refine blk_alloc ?_ _)); exact h_) : Aside0 (g' ≠ g) := Aside0.mk (by rw [hg]; exact Nat.ne_of_gt (blk_lt (s B.out)))
theorem rbA {α : Type} {d : Kd α} {e : Nat} {v0 w w' : World} {base : Nat} {ok : Nat → Prop} {v : Value} {xs : List α} (B : Aside0 (Kd.R d e v0 base ok v xs)) (hb : Below w.heap.size w w')
  (s : Kd.R d e v0 base ok v xs → Kd.R d e w base ok v xs := by intro h_; (with_reducible repeat (first | apply Kd.R_alloc | apply Kd.R_drewN | apply Kd.R_drew)); exact h_) : Aside0 (Kd.R d e w' base ok v xs) := Aside0.mk (Kd.R_below (s B.out) hb)
theorem sc_drewN (w : World) (n : Nat) (a : Addr) (v : Value) : (w.drewN n).setCell a v = (w.setCell a v).drewN n := rfl
theorem wAl (a b : Int) : wrap64 (wrap64 a + b) = wrap64 (a + b) := by unfold wrap64; omega
theorem wAr (a b : Int) : wrap64 (a + wrap64 b) = wrap64 (a + b) := by unfold wrap64; omega
theorem wSl (a b : Int) : wrap64 (wrap64 a - b) = wrap64 (a - b) := by unfold wrap64; omega
theorem wSr (a b : Int) : wrap64 (a - wrap64 b) = wrap64 (a - b) := by unfold wrap64; omega
theorem wW (a : Int) : wrap64 (wrap64 a) = wrap64 a := by unfold wrap64; omega
end Go.Proofs.YtehaodbheifokaaGreatDoor.P
end
section
namespace Go.Proofs.YtehaodbheifokaaGreatDoor.P
open Go.RowKit Go.Proofs.YtehaodbheifokaaGreatDoorW.PrintWords Go.Proofs.YtehaodbheifokaaGreatDoorW.PrintLast Go.Proofs.YtehaodbheifokaaGreatDoorW.PrintMore
attribute [local go_sem] max2_int min2_int max_two min_two max_three min_three max_four min_four   -- for this text's walks alone
def errW : Option Int → Value
 | none => .nilIface
 | some c => .iface 207 (.int .i64 c)
theorem errW_none : errW none = .nilIface := rfl
theorem errW_some (c : Int) : errW (some c) = .iface 207 (.int .i64 c) := rfl
theorem info5 : (Tryz.prog.info? 5).map (fun i => (i.zero, i.size, i.bytes)) = some (some (.int .u8 0), 1, 1) := by kernel_rfl
theorem info110 : (Tryz.prog.info? 110).map (fun i => (i.zero, i.size, i.bytes)) = some (some (.agg #[(.string ⟨#[]⟩), (.int .i64 0), (.int .i64 0), (.string ⟨#[]⟩)]), 4, 48) := by kernel_rfl
structure S37 where
 f0 : Int
 f1 : Int
 f2 : Int
 f3 : ByteArray
 f4 : (List ByteArray)
 f5 : ByteArray
 f6 : Int
 f7 : Int
def z37 : S37 := ⟨(0 : Int), (0 : Int), (0 : Int), (⟨#[]⟩ : ByteArray), ([] : List ByteArray), (⟨#[]⟩ : ByteArray), (0 : Int), (0 : Int)⟩
def k37 : Kd S37 := Kd.iso (Kd.pair (Kd.int .i64) (Kd.pair (Kd.int .i64) (Kd.pair (Kd.int .i64) (Kd.pair Kd.string (Kd.pair (Kd.slice 9 Kd.string) (Kd.pair Kd.string (Kd.pair (Kd.int .i64) (Kd.int .i64)))))))) (fun x : S37 => (x.f0, x.f1, x.f2, x.f3, x.f4, x.f5, x.f6, x.f7))
theorem k37_open {w : World} {x : S37} {cs : List Value} (h : k37.K w x cs) : ∃ A4 c4, cs = [.int .i64 x.f0, .int .i64 x.f1, .int .i64 x.f2, .string x.f3, .slice A4 x.f4.length c4, .string x.f5, .int .i64 x.f6, .int .i64 x.f7] ∧ x.f4.length ≤ c4 ∧ Kd.string.C w A4 x.f4.length x.f4 := by
 obtain ⟨_, _, rfl, rfl, ⟨_, _, rfl, rfl, ⟨_, _, rfl, rfl, ⟨_, _, rfl, rfl, ⟨_, _, rfl, ⟨A4, c4, rfl, l4, g4⟩, ⟨_, _, rfl, rfl, ⟨_, _, rfl, rfl, rfl⟩⟩⟩⟩⟩⟩⟩ := h
 exact ⟨A4, c4, rfl, l4, g4⟩
theorem k37_mk (w : World) (x : S37) {A4 : Option Addr} {c4 : Nat} (l4 : x.f4.length ≤ c4) (g4 : Kd.string.C w A4 x.f4.length x.f4) : k37.K w x [.int .i64 x.f0, .int .i64 x.f1, .int .i64 x.f2, .string x.f3, .slice A4 x.f4.length c4, .string x.f5, .int .i64 x.f6, .int .i64 x.f7] := ⟨[.int .i64 x.f0], [.int .i64 x.f1, .int .i64 x.f2, .string x.f3, .slice A4 x.f4.length c4, .string x.f5, .int .i64 x.f6, .int .i64 x.f7], rfl, rfl, ⟨[.int .i64 x.f1], [.int .i64 x.f2, .string x.f3, .slice A4 x.f4.length c4, .string x.f5, .int .i64 x.f6, .int .i64 x.f7], rfl, rfl, ⟨[.int .i64 x.f2], [.string x.f3, .slice A4 x.f4.length c4, .string x.f5, .int .i64 x.f6, .int .i64 x.f7], rfl, rfl, ⟨[.string x.f3], [.slice A4 x.f4.length c4, .string x.f5, .int .i64 x.f6, .int .i64 x.f7], rfl, rfl, ⟨[.slice A4 x.f4.length c4], [.string x.f5, .int .i64 x.f6, .int .i64 x.f7], rfl, ⟨A4, c4, rfl, l4, g4⟩, ⟨[.string x.f5], [.int .i64 x.f6, .int .i64 x.f7], rfl, rfl, ⟨[.int .i64 x.f6], [.int .i64 x.f7], rfl, rfl, rfl⟩⟩⟩⟩⟩⟩⟩
def rd_T37 (xs : List S37) (i : Int) : S37 := xs.getD i.toNat z37
theorem at_T37 {w : World} {A : Option Addr} {n : Nat} {xs : List S37} (h : Kd.C k37 w A n xs) (i : Int) (h0 : 0 ≤ i) (h1 : i < n) : ∃ ad A4 c4, A = some ad ∧ w.cell? (ad.add (i.toNat * 8)) = some (.int .i64 (rd_T37 xs i).f0) ∧ w.cell? ⟨(ad.add (i.toNat * 8)).block, (ad.add (i.toNat * 8)).off + 1, none⟩ = some (.int .i64 (rd_T37 xs i).f1) ∧ w.cell? ⟨(ad.add (i.toNat * 8)).block, (ad.add (i.toNat * 8)).off + 2, none⟩ = some (.int .i64 (rd_T37 xs i).f2) ∧ w.cell? ⟨(ad.add (i.toNat * 8)).block, (ad.add (i.toNat * 8)).off + 3, none⟩ = some (.string (rd_T37 xs i).f3) ∧ w.cell? ⟨(ad.add (i.toNat * 8)).block, (ad.add (i.toNat * 8)).off + 4, none⟩ = some (.slice A4 (rd_T37 xs i).f4.length c4) ∧ w.cell? ⟨(ad.add (i.toNat * 8)).block, (ad.add (i.toNat * 8)).off + 5, none⟩ = some (.string (rd_T37 xs i).f5) ∧ w.cell? ⟨(ad.add (i.toNat * 8)).block, (ad.add (i.toNat * 8)).off + 6, none⟩ = some (.int .i64 (rd_T37 xs i).f6) ∧ w.cell? ⟨(ad.add (i.toNat * 8)).block, (ad.add (i.toNat * 8)).off + 7, none⟩ = some (.int .i64 (rd_T37 xs i).f7) ∧ (rd_T37 xs i).f4.length ≤ c4 ∧ Kd.string.C w A4 (rd_T37 xs i).f4.length (rd_T37 xs i).f4 := by
 obtain ⟨ad, c, e, _, hK, hc0⟩ := Kd.C_get h z37 i h0 h1
 have hc : ∀ j u, c[j]? = some u → w.cell? (ad.add (i.toNat * 8 + j)) = some u := hc0
 obtain ⟨A4, c4, rfl, l4, g4⟩ := k37_open hK
 exact ⟨ad, A4, c4, e, hc 0 _ rfl, by rw [← add_field _ _ 1 (by omega)]; exact hc 1 _ rfl, by rw [← add_field _ _ 2 (by omega)]; exact hc 2 _ rfl, by rw [← add_field _ _ 3 (by omega)]; exact hc 3 _ rfl, by rw [← add_field _ _ 4 (by omega)]; exact hc 4 _ rfl, by rw [← add_field _ _ 5 (by omega)]; exact hc 5 _ rfl, by rw [← add_field _ _ 6 (by omega)]; exact hc 6 _ rfl, by rw [← add_field _ _ 7 (by omega)]; exact hc 7 _ rfl, l4, g4⟩
structure S110 where
 f0 : ByteArray
 f1 : Int
 f2 : Int
 f3 : ByteArray
def z110 : S110 := ⟨(⟨#[]⟩ : ByteArray), (0 : Int), (0 : Int), (⟨#[]⟩ : ByteArray)⟩
def k110 : Kd S110 := Kd.iso (Kd.pair Kd.string (Kd.pair (Kd.int .i64) (Kd.pair (Kd.int .i64) Kd.string))) (fun x : S110 => (x.f0, x.f1, x.f2, x.f3))
theorem k110_open {w : World} {x : S110} {cs : List Value} (h : k110.K w x cs) : cs = [.string x.f0, .int .i64 x.f1, .int .i64 x.f2, .string x.f3] := by
 obtain ⟨_, _, rfl, rfl, ⟨_, _, rfl, rfl, ⟨_, _, rfl, rfl, rfl⟩⟩⟩ := h
 exact rfl
theorem k110_mkM (w : World) (base : Nat) (ok : Nat → Prop) (x : S110)  : k110.M w base ok x [.string x.f0, .int .i64 x.f1, .int .i64 x.f2, .string x.f3] := ⟨[.string x.f0], [.int .i64 x.f1, .int .i64 x.f2, .string x.f3], rfl, rfl, ⟨[.int .i64 x.f1], [.int .i64 x.f2, .string x.f3], rfl, rfl, ⟨[.int .i64 x.f2], [.string x.f3], rfl, rfl, rfl⟩⟩⟩
def rd_T110 (xs : List S110) (i : Int) : S110 := xs.getD i.toNat z110
theorem at_T110 {w : World} {A : Option Addr} {n : Nat} {xs : List S110} (h : Kd.C k110 w A n xs) (i : Int) (h0 : 0 ≤ i) (h1 : i < n) : ∃ ad , A = some ad ∧ w.cell? (ad.add (i.toNat * 4)) = some (.string (rd_T110 xs i).f0) ∧ w.cell? ⟨(ad.add (i.toNat * 4)).block, (ad.add (i.toNat * 4)).off + 1, none⟩ = some (.int .i64 (rd_T110 xs i).f1) ∧ w.cell? ⟨(ad.add (i.toNat * 4)).block, (ad.add (i.toNat * 4)).off + 2, none⟩ = some (.int .i64 (rd_T110 xs i).f2) ∧ w.cell? ⟨(ad.add (i.toNat * 4)).block, (ad.add (i.toNat * 4)).off + 3, none⟩ = some (.string (rd_T110 xs i).f3) := by
 obtain ⟨ad, c, e, _, hK, hc0⟩ := Kd.C_get h z110 i h0 h1
 have hc : ∀ j u, c[j]? = some u → w.cell? (ad.add (i.toNat * 4 + j)) = some u := hc0
 obtain rfl := k110_open hK
 exact ⟨ad, e, hc 0 _ rfl, by rw [← add_field _ _ 1 (by omega)]; exact hc 1 _ rfl, by rw [← add_field _ _ 2 (by omega)]; exact hc 2 _ rfl, by rw [← add_field _ _ 3 (by omega)]; exact hc 3 _ rfl⟩
structure S118 where
 f0 : Int
 f1 : ByteArray
def z118 : S118 := ⟨(0 : Int), (⟨#[]⟩ : ByteArray)⟩
def k118 : Kd S118 := Kd.iso (Kd.pair (Kd.int .i64) Kd.string) (fun x : S118 => (x.f0, x.f1))
theorem k118_open {w : World} {x : S118} {cs : List Value} (h : k118.K w x cs) : cs = [.int .i64 x.f0, .string x.f1] := by
 obtain ⟨_, _, rfl, rfl, rfl⟩ := h
 exact rfl
theorem k118_mk (w : World) (x : S118)  : k118.K w x [.int .i64 x.f0, .string x.f1] := ⟨[.int .i64 x.f0], [.string x.f1], rfl, rfl, rfl⟩
def rd_T118 (xs : List S118) (i : Int) : S118 := xs.getD i.toNat z118
theorem at_T118 {w : World} {A : Option Addr} {n : Nat} {xs : List S118} (h : Kd.C k118 w A n xs) (i : Int) (h0 : 0 ≤ i) (h1 : i < n) : ∃ ad , A = some ad ∧ w.cell? (ad.add (i.toNat * 2)) = some (.int .i64 (rd_T118 xs i).f0) ∧ w.cell? ⟨(ad.add (i.toNat * 2)).block, (ad.add (i.toNat * 2)).off + 1, none⟩ = some (.string (rd_T118 xs i).f1) := by
 obtain ⟨ad, c, e, _, hK, hc0⟩ := Kd.C_get h z118 i h0 h1
 have hc : ∀ j u, c[j]? = some u → w.cell? (ad.add (i.toNat * 2 + j)) = some u := hc0
 obtain rfl := k118_open hK
 exact ⟨ad, e, hc 0 _ rfl, by rw [← add_field _ _ 1 (by omega)]; exact hc 1 _ rfl⟩
structure S27 where
 f0 : Int
 f1 : Int
 f2 : (List Int)
def z27 : S27 := ⟨(0 : Int), (0 : Int), ([] : List Int)⟩
structure S24 where
 f0 : (List S37)
 f1 : Int
 f2 : ByteArray
 f3 : Int
 f4 : Int
 f5 : Int
def k24 : Kd S24 := Kd.iso (Kd.pair (Kd.slice 37 k37) (Kd.pair (Kd.int .i64) (Kd.pair Kd.string (Kd.pair (Kd.int .i64) (Kd.pair (Kd.int .i64) (Kd.int .i64)))))) (fun x : S24 => (x.f0, x.f1, x.f2, x.f3, x.f4, x.f5))
theorem k24_open {w : World} {x : S24} {cs : List Value} (h : k24.K w x cs) : ∃ A0 c0, cs = [.slice A0 x.f0.length c0, .int .i64 x.f1, .string x.f2, .int .i64 x.f3, .int .i64 x.f4, .int .i64 x.f5] ∧ x.f0.length ≤ c0 ∧ k37.C w A0 x.f0.length x.f0 := by
 obtain ⟨_, _, rfl, ⟨A0, c0, rfl, l0, g0⟩, ⟨_, _, rfl, rfl, ⟨_, _, rfl, rfl, ⟨_, _, rfl, rfl, ⟨_, _, rfl, rfl, rfl⟩⟩⟩⟩⟩ := h
 exact ⟨A0, c0, rfl, l0, g0⟩
end Go.Proofs.YtehaodbheifokaaGreatDoor.P
end
section
namespace Go.Proofs.YtehaodbheifokaaGreatDoor.Read
open Go Go.RowKit Go.ChangeShapes Go.WideShapes Go.Deep Go.Proofs.YtehaodbheifokaaGreatDoorW.PrintWords Go.Proofs.YtehaodbheifokaaGreatDoor.P
def kLine : Kd (List Int) where
 sz := 1
 E := []
 K := fun w xs cs => ∃ A c, cs = [.slice A xs.length c] ∧ xs.length ≤ c ∧ (Kd.int .u8).C w A xs.length xs ∧ (A = none → c = 0)
 M := fun _ _ _ _ _ => False
 K_len := by rintro w x cs ⟨A, c, rfl, _⟩; rfl
 K_one := by
  rintro w x cs ⟨A, c, rfl, _⟩ u hu
  obtain rfl := List.mem_singleton.1 hu
  rfl
 K_below := by
  rintro w w1 x cs hb ⟨A, c, rfl, h1, h2, h3⟩
  exact ⟨A, c, rfl, h1, Kd.C_below h2 hb, h3⟩
 K_of_M := fun h => h.elim
 M_mono := fun _ h => h
 M_bound := fun h => h
 M_move := fun _ h => h
 M_lower := fun _ h => h
theorem reads_line : Reads Tryz.prog 25 kLine (fun xs => ∀ z ∈ xs, (Lit.int .u8 z).wf = true) (fun xs => sumBulk (fun _ => 1) xs + 1) :=
 ⟨by kernel_rfl, fun {H enc w base spare held fuel cs x} h => by
  obtain ⟨xs, hK, ho, hb⟩ := (reads_slice (P := Tryz.prog) Tryz.underlying25 (by kernel_rfl) (reads_int (k := .u8) Tryz.underlying5 (by kernel_rfl))).opens h
  refine ⟨xs, ?_, ho, hb⟩
  obtain ⟨A, c, rfl, h1, h2⟩ := hK
  refine ⟨A, c, rfl, h1, h2, ?_⟩
  rintro rfl
  rcases open_slice Tryz.underlying25 h with ⟨hcs, _⟩ | ⟨a, len, cap, m, n, D, Pl, hcs, _⟩
  ·injection hcs with h3 _
   injection h3
  ·injection hcs with h3 _
   injection h3 with h4
   cases h4⟩
def kRowL : Kd S27 := Kd.iso (Kd.pair (Kd.int .i64) (Kd.pair (Kd.int .i64) kLine)) (fun x : S27 => (x.f0, x.f1, x.f2))
theorem kRowL_open {w : World} {x : S27} {cs : List Value} (h : kRowL.K w x cs) : ∃ A2 c2, cs = [.int .i64 x.f0, .int .i64 x.f1, .slice A2 x.f2.length c2] ∧ x.f2.length ≤ c2 ∧ (Kd.int .u8).C w A2 x.f2.length x.f2 ∧ (A2 = none → c2 = 0) := by
 obtain ⟨_, _, rfl, rfl, ⟨_, _, rfl, rfl, ⟨A2, c2, rfl, l2, g2, n2⟩⟩⟩ := h
 exact ⟨A2, c2, rfl, l2, g2, n2⟩
instance : Inhabited S37 := ⟨z37⟩
instance : Inhabited S27 := ⟨z27⟩
def okNode (x : S37) : Prop := (Lit.int .i64 x.f0).wf = true ∧ (Lit.int .i64 x.f1).wf = true ∧ (Lit.int .i64 x.f2).wf = true ∧ x.f3.size ≤ maxLen ∧ (∀ z ∈ x.f4, z.size ≤ maxLen) ∧ x.f5.size ≤ maxLen ∧ (Lit.int .i64 x.f6).wf = true ∧ (Lit.int .i64 x.f7).wf = true
def bulkNode (x : S37) : Nat := 1 + 1 + 1 + (x.f3.size + 1) + (sumBulk (fun s => s.size + 1) x.f4 + 1) + (x.f5.size + 1) + 1 + 1 + 1
theorem list8_Node {α : Type} {l : List α} (h : l.length = 8) : ∃ c0 c1 c2 c3 c4 c5 c6 c7, l = [c0, c1, c2, c3, c4, c5, c6, c7] := by
 match l, h with
 | [c0, c1, c2, c3, c4, c5, c6, c7], _ => exact ⟨c0, c1, c2, c3, c4, c5, c6, c7, rfl⟩
theorem reads_Node : Reads Tryz.prog 37 k37 okNode bulkNode :=
 ⟨by kernel_rfl, fun {H enc w base spare held fuel cs x} h => by
  obtain ⟨xs, n, _, rfl, hl, hlen, hf⟩ := DataW.trod_struct Tryz.underlying37 h
  have hc : Tryz.prog.cellsOf 37 = 8 := by kernel_rfl
  rw [hc] at hl
  obtain ⟨c0, c1, c2, c3, c4, c5, c6, c7, rfl⟩ := list8_Node hl
  obtain ⟨y0, y1, y2, y3, y4, y5, y6, y7, rfl⟩ := list8_Node (hlen.trans rfl)
  have e3 : Tryz.prog.cellsOf 3 = 1 := by kernel_rfl
  have e9 : Tryz.prog.cellsOf 9 = 1 := by kernel_rfl
  have e35 : Tryz.prog.cellsOf 35 = 1 := by kernel_rfl
  have h0 := hf 0 _ rfl
  simp only [e3, e9, e35, List.drop_zero, List.drop_succ_cons, List.take_succ_cons, List.take_zero, List.take_nil, List.getElem?_cons_zero, List.getElem?_cons_succ] at h0
  obtain ⟨a0, ka0, oa0, ba0⟩ := Reads.opens (reads_int Tryz.underlying3 (by kernel_rfl)) h0
  have h1 := hf 1 _ rfl
  simp only [e3, e9, e35, List.drop_zero, List.drop_succ_cons, List.take_succ_cons, List.take_zero, List.take_nil, List.getElem?_cons_zero, List.getElem?_cons_succ] at h1
  obtain ⟨a1, ka1, oa1, ba1⟩ := Reads.opens (reads_int Tryz.underlying3 (by kernel_rfl)) h1
  have h2 := hf 2 _ rfl
  simp only [e3, e9, e35, List.drop_zero, List.drop_succ_cons, List.take_succ_cons, List.take_zero, List.take_nil, List.getElem?_cons_zero, List.getElem?_cons_succ] at h2
  obtain ⟨a2, ka2, oa2, ba2⟩ := Reads.opens (reads_int Tryz.underlying3 (by kernel_rfl)) h2
  have h3 := hf 3 _ rfl
  simp only [e3, e9, e35, List.drop_zero, List.drop_succ_cons, List.take_succ_cons, List.take_zero, List.take_nil, List.getElem?_cons_zero, List.getElem?_cons_succ] at h3
  obtain ⟨a3, ka3, oa3, ba3⟩ := Reads.opens (reads_string Tryz.underlying9 (by kernel_rfl)) h3
  have h4 := hf 4 _ rfl
  simp only [e3, e9, e35, List.drop_zero, List.drop_succ_cons, List.take_succ_cons, List.take_zero, List.take_nil, List.getElem?_cons_zero, List.getElem?_cons_succ] at h4
  obtain ⟨a4, ka4, oa4, ba4⟩ := Reads.opens (reads_slice Tryz.underlying35 (by kernel_rfl) (reads_string Tryz.underlying9 (by kernel_rfl))) h4
  have h5 := hf 5 _ rfl
  simp only [e3, e9, e35, List.drop_zero, List.drop_succ_cons, List.take_succ_cons, List.take_zero, List.take_nil, List.getElem?_cons_zero, List.getElem?_cons_succ] at h5
  obtain ⟨a5, ka5, oa5, ba5⟩ := Reads.opens (reads_string Tryz.underlying9 (by kernel_rfl)) h5
  have h6 := hf 6 _ rfl
  simp only [e3, e9, e35, List.drop_zero, List.drop_succ_cons, List.take_succ_cons, List.take_zero, List.take_nil, List.getElem?_cons_zero, List.getElem?_cons_succ] at h6
  obtain ⟨a6, ka6, oa6, ba6⟩ := Reads.opens (reads_int Tryz.underlying3 (by kernel_rfl)) h6
  have h7 := hf 7 _ rfl
  simp only [e3, e9, e35, List.drop_zero, List.drop_succ_cons, List.take_succ_cons, List.take_zero, List.take_nil, List.getElem?_cons_zero, List.getElem?_cons_succ] at h7
  obtain ⟨a7, ka7, oa7, ba7⟩ := Reads.opens (reads_int Tryz.underlying3 (by kernel_rfl)) h7
  refine ⟨⟨a0, a1, a2, a3, a4, a5, a6, a7⟩, ⟨[c0], [c1, c2, c3, c4, c5, c6, c7], rfl, ka0, ⟨[c1], [c2, c3, c4, c5, c6, c7], rfl, ka1, ⟨[c2], [c3, c4, c5, c6, c7], rfl, ka2, ⟨[c3], [c4, c5, c6, c7], rfl, ka3, ⟨[c4], [c5, c6, c7], rfl, ka4, ⟨[c5], [c6, c7], rfl, ka5, ⟨[c6], [c7], rfl, ka6, ka7⟩⟩⟩⟩⟩⟩⟩, ⟨oa0, oa1, oa2, oa3, oa4, oa5, oa6, oa7⟩, ?_⟩
  simp only [Rows.uptoBulk, Rows.uptoBulkAll, List.map_cons, List.map_nil, bulkNode]
  omega⟩
def okAsk (x : S24) : Prop := (∀ z ∈ x.f0, okNode z) ∧ (Lit.int .i64 x.f1).wf = true ∧ x.f2.size ≤ maxLen ∧ (Lit.int .i64 x.f3).wf = true ∧ (Lit.int .i64 x.f4).wf = true ∧ (Lit.int .i64 x.f5).wf = true
def bulkAsk (x : S24) : Nat := (sumBulk bulkNode x.f0 + 1) + 1 + (x.f2.size + 1) + 1 + 1 + 1 + 1
theorem list6_Ask {α : Type} {l : List α} (h : l.length = 6) : ∃ c0 c1 c2 c3 c4 c5, l = [c0, c1, c2, c3, c4, c5] := by
 match l, h with
 | [c0, c1, c2, c3, c4, c5], _ => exact ⟨c0, c1, c2, c3, c4, c5, rfl⟩
theorem reads_Ask : Reads Tryz.prog 24 k24 okAsk bulkAsk :=
 ⟨by kernel_rfl, fun {H enc w base spare held fuel cs x} h => by
  obtain ⟨xs, n, _, rfl, hl, hlen, hf⟩ := DataW.trod_struct Tryz.underlying24 h
  have hc : Tryz.prog.cellsOf 24 = 6 := by kernel_rfl
  rw [hc] at hl
  obtain ⟨c0, c1, c2, c3, c4, c5, rfl⟩ := list6_Ask hl
  obtain ⟨y0, y1, y2, y3, y4, y5, rfl⟩ := list6_Ask (hlen.trans rfl)
  have e22 : Tryz.prog.cellsOf 22 = 1 := by kernel_rfl
  have e3 : Tryz.prog.cellsOf 3 = 1 := by kernel_rfl
  have e9 : Tryz.prog.cellsOf 9 = 1 := by kernel_rfl
  have h0 := hf 0 _ rfl
  simp only [e22, e3, e9, List.drop_zero, List.drop_succ_cons, List.take_succ_cons, List.take_zero, List.take_nil, List.getElem?_cons_zero, List.getElem?_cons_succ] at h0
  obtain ⟨a0, ka0, oa0, ba0⟩ := Reads.opens (reads_slice Tryz.underlying22 (by kernel_rfl) reads_Node) h0
  have h1 := hf 1 _ rfl
  simp only [e22, e3, e9, List.drop_zero, List.drop_succ_cons, List.take_succ_cons, List.take_zero, List.take_nil, List.getElem?_cons_zero, List.getElem?_cons_succ] at h1
  obtain ⟨a1, ka1, oa1, ba1⟩ := Reads.opens (reads_int Tryz.underlying3 (by kernel_rfl)) h1
  have h2 := hf 2 _ rfl
  simp only [e22, e3, e9, List.drop_zero, List.drop_succ_cons, List.take_succ_cons, List.take_zero, List.take_nil, List.getElem?_cons_zero, List.getElem?_cons_succ] at h2
  obtain ⟨a2, ka2, oa2, ba2⟩ := Reads.opens (reads_string Tryz.underlying9 (by kernel_rfl)) h2
  have h3 := hf 3 _ rfl
  simp only [e22, e3, e9, List.drop_zero, List.drop_succ_cons, List.take_succ_cons, List.take_zero, List.take_nil, List.getElem?_cons_zero, List.getElem?_cons_succ] at h3
  obtain ⟨a3, ka3, oa3, ba3⟩ := Reads.opens (reads_int Tryz.underlying3 (by kernel_rfl)) h3
  have h4 := hf 4 _ rfl
  simp only [e22, e3, e9, List.drop_zero, List.drop_succ_cons, List.take_succ_cons, List.take_zero, List.take_nil, List.getElem?_cons_zero, List.getElem?_cons_succ] at h4
  obtain ⟨a4, ka4, oa4, ba4⟩ := Reads.opens (reads_int Tryz.underlying3 (by kernel_rfl)) h4
  have h5 := hf 5 _ rfl
  simp only [e22, e3, e9, List.drop_zero, List.drop_succ_cons, List.take_succ_cons, List.take_zero, List.take_nil, List.getElem?_cons_zero, List.getElem?_cons_succ] at h5
  obtain ⟨a5, ka5, oa5, ba5⟩ := Reads.opens (reads_int Tryz.underlying3 (by kernel_rfl)) h5
  refine ⟨⟨a0, a1, a2, a3, a4, a5⟩, ⟨[c0], [c1, c2, c3, c4, c5], rfl, ka0, ⟨[c1], [c2, c3, c4, c5], rfl, ka1, ⟨[c2], [c3, c4, c5], rfl, ka2, ⟨[c3], [c4, c5], rfl, ka3, ⟨[c4], [c5], rfl, ka4, ka5⟩⟩⟩⟩⟩, ⟨oa0, oa1, oa2, oa3, oa4, oa5⟩, ?_⟩
  simp only [Rows.uptoBulk, Rows.uptoBulkAll, List.map_cons, List.map_nil, bulkAsk]
  omega⟩
theorem arg_Ask {H : Type} {enc : TypeId × Value → H} {w : World} {base : Nat} {spare : Nat → Bool} {held : Bool} {r : Reach} {b0 : Nat} {v : Value} {x : DataW H} {p : List MemPlace} (hv : Value.okWide Tryz.prog w r b0 24 v) (h : DataW.Trod enc Tryz.prog w base spare held 24 v x p) :
  ∃ (cs : Array Value) (y : S24), v = .agg cs ∧ k24.K w y cs.toList ∧ okAsk y ∧ bulkAsk y ≤ Rows.uptoBulk x := by
 obtain ⟨cs, rfl, hsz⟩ := okWide_struct Tryz.underlying24 hv
 obtain ⟨fuel, hf⟩ := h
 have hf2 : DataW.trod enc Tryz.prog w base spare held fuel 24 cs.toList = some (x, p) := hf
 obtain ⟨y, hk, ho, hb⟩ := Reads.opens reads_Ask hf2
 exact ⟨cs, y, rfl, hk, ho, hb⟩
def okRow (x : S27) : Prop := (Lit.int .i64 x.f0).wf = true ∧ (Lit.int .i64 x.f1).wf = true ∧ (∀ z ∈ x.f2, (Lit.int .u8 z).wf = true)
def bulkRow (x : S27) : Nat := 1 + 1 + (sumBulk (fun _ => 1) x.f2 + 1) + 1
theorem list3_Row {α : Type} {l : List α} (h : l.length = 3) : ∃ c0 c1 c2, l = [c0, c1, c2] := by
 match l, h with
 | [c0, c1, c2], _ => exact ⟨c0, c1, c2, rfl⟩
theorem reads_Row : Reads Tryz.prog 27 kRowL okRow bulkRow :=
 ⟨by kernel_rfl, fun {H enc w base spare held fuel cs x} h => by
  obtain ⟨xs, n, _, rfl, hl, hlen, hf⟩ := DataW.trod_struct Tryz.underlying27 h
  have hc : Tryz.prog.cellsOf 27 = 3 := by kernel_rfl
  rw [hc] at hl
  obtain ⟨c0, c1, c2, rfl⟩ := list3_Row hl
  obtain ⟨y0, y1, y2, rfl⟩ := list3_Row (hlen.trans rfl)
  have e3 : Tryz.prog.cellsOf 3 = 1 := by kernel_rfl
  have e25 : Tryz.prog.cellsOf 25 = 1 := by kernel_rfl
  have h0 := hf 0 _ rfl
  simp only [e3, e25, List.drop_zero, List.drop_succ_cons, List.take_succ_cons, List.take_zero, List.take_nil, List.getElem?_cons_zero, List.getElem?_cons_succ] at h0
  obtain ⟨a0, ka0, oa0, ba0⟩ := Reads.opens (reads_int Tryz.underlying3 (by kernel_rfl)) h0
  have h1 := hf 1 _ rfl
  simp only [e3, e25, List.drop_zero, List.drop_succ_cons, List.take_succ_cons, List.take_zero, List.take_nil, List.getElem?_cons_zero, List.getElem?_cons_succ] at h1
  obtain ⟨a1, ka1, oa1, ba1⟩ := Reads.opens (reads_int Tryz.underlying3 (by kernel_rfl)) h1
  have h2 := hf 2 _ rfl
  simp only [e3, e25, List.drop_zero, List.drop_succ_cons, List.take_succ_cons, List.take_zero, List.take_nil, List.getElem?_cons_zero, List.getElem?_cons_succ] at h2
  obtain ⟨a2, ka2, oa2, ba2⟩ := Reads.opens reads_line h2
  refine ⟨⟨a0, a1, a2⟩, ⟨[c0], [c1, c2], rfl, ka0, ⟨[c1], [c2], rfl, ka1, ka2⟩⟩, ⟨oa0, oa1, oa2⟩, ?_⟩
  simp only [Rows.uptoBulk, Rows.uptoBulkAll, List.map_cons, List.map_nil, bulkRow]
  omega⟩
theorem arg_Row {H : Type} {enc : TypeId × Value → H} {w : World} {base : Nat} {spare : Nat → Bool} {held : Bool} {r : Reach} {b0 : Nat} {v : Value} {x : DataW H} {p : List MemPlace} (hv : Value.okWide Tryz.prog w r b0 27 v) (h : DataW.Trod enc Tryz.prog w base spare held 27 v x p) :
  ∃ (cs : Array Value) (y : S27), v = .agg cs ∧ kRowL.K w y cs.toList ∧ okRow y ∧ bulkRow y ≤ Rows.uptoBulk x := by
 obtain ⟨cs, rfl, hsz⟩ := okWide_struct Tryz.underlying27 hv
 obtain ⟨fuel, hf⟩ := h
 have hf2 : DataW.trod enc Tryz.prog w base spare held fuel 27 cs.toList = some (x, p) := hf
 obtain ⟨y, hk, ho, hb⟩ := Reads.opens reads_Row hf2
 exact ⟨cs, y, rfl, hk, ho, hb⟩
end Go.Proofs.YtehaodbheifokaaGreatDoor.Read
end
section
namespace Go.Proofs.YtehaodbheifokaaGreatDoor.Pure
open Go Go.RowKit Go.Proofs.YtehaodbheifokaaGreatDoorW.PrintWords
theorem Ev.call {α β : Type} {g f : Nat → Option β} {c : Nat → Option α} {a : α} {r : β} (hc : Ev c a) (hk : Ev f r) (h : ∀ k, c k = some a → g (k + 1) = f k) : Ev g r := by
 obtain ⟨K, hc⟩ := hc
 obtain ⟨K', hk⟩ := hk
 refine ⟨max K K' + 1, fun n hn => ?_⟩
 obtain ⟨m, rfl⟩ : ∃ m, n = m + 1 := ⟨n - 1, by omega⟩
 rw [h m (hc m (by omega))]
 exact hk m (by omega)
theorem Ev.call0 {α β : Type} {g f : Nat → Option β} {c : Nat → Option α} {a : α} {r : β} (hc : Ev c a) (hk : Ev f r) (h : ∀ k, c k = some a → g k = f k) : Ev g r := by
 obtain ⟨K, hc⟩ := hc
 obtain ⟨K', hk⟩ := hk
 refine ⟨max K K', fun n hn => ?_⟩
 rw [h n (hc n (by omega))]
 exact hk n (by omega)
theorem Ev.sb {α β : Type} {g : Nat → Option β} {c : Nat → Option α} {F : Nat → α → Option β} {a : α} {r : β} (hc : Ev c a) (h : ∀ k, g (k + 1) = (c k).bind (F k)) (hk : Ev (fun n => F n a) r) : Ev g r := Ev.step h (Ev.bind hc hk)
theorem Ev.cb {α β : Type} {g : Nat → Option β} {c : Nat → Option α} {F : Nat → α → Option β} {a : α} {r : β} (hc : Ev c a) (h : ∀ k, g k = (c k).bind (F k)) (hk : Ev (fun n => F n a) r) : Ev g r := Ev.congr h (Ev.bind hc hk)
theorem wrap_in {x : Int} (h0 : -9223372036854775808 ≤ x) (h1 : x ≤ 9223372036854775807) : wrap64 x = x := by unfold wrap64; omega
end Go.Proofs.YtehaodbheifokaaGreatDoor.Pure
end
section
namespace Go.Proofs.YtehaodbheifokaaGreatDoor.P
open Go.RowKit Go.Proofs.YtehaodbheifokaaGreatDoorW.PrintWords Go.Proofs.YtehaodbheifokaaGreatDoorW.PrintLast Go.Proofs.YtehaodbheifokaaGreatDoorW.PrintMore
attribute [local go_sem] max2_int min2_int max_two min_two max_three min_three max_four min_four   -- for this text's walks alone
mutual
def field_inKey.j0 : Nat → Int → Bool → Option (Bool)
 | 0, _, _ => none
 | k + 1, x0, x3 => if x3 = true then (some true) else (if x0 ≥ 65 then (field_inKey.j1 k x0 (decide (x0 ≤ 90))) else (field_inKey.j1 k x0 false))
def field_inKey.j1 : Nat → Int → Bool → Option (Bool)
 | 0, _, _ => none
 | k + 1, x0, x3 => if x3 = true then (some true) else (if x0 ≥ 48 then (if x0 ≤ 57 then (some true) else (if x0 = 95 then (some true) else (if x0 = 46 then (some true) else (some (x0 == 45))))) else (if x0 = 95 then (some true) else (if x0 = 46 then (some true) else (some (x0 == 45)))))
end
def field_inKey.f (k : Nat) (a0 : Int) : Option (Bool) := if a0 ≥ 97 then (field_inKey.j0 k a0 (decide (a0 ≤ 122))) else (field_inKey.j0 k a0 false)
theorem field_inKey.calls (k : Nat) (a0 : Int) (r : Bool) (w : World) (h : field_inKey.f k a0 = some r) :
  Calls Tryz.prog 101 #[.int .u8 a0] w fun e w' => e = .returned (.bool r) ∧ Drawn0 w w' := by
 have H : (if a0 ≥ 97 then (field_inKey.j0 k a0 (decide (a0 ≤ 122))) else (field_inKey.j0 k a0 false)) = some r := h
 clear h
 have HC2 := Aside0.mk H
 clear H
 go_enter Tryz.func101, Tryz.ntmps101
 go_upto_region 1 with (fail)
 go_cut [3] (fun v3 wc => ∃ (kq : Nat) (x3_1 : Bool), v3 = .bool x3_1 ∧ Aside0 (field_inKey.j0 kq a0 x3_1 = some r) ∧ Aside0 (kq ≤ k) ∧ Drawn0 w wc)
 case first =>
  have H := HC2.out
  clear HC2
  by_cases c3 : a0 ≥ 97
  ·rw [if_pos c3] at H
   have c3b0 : decide (97 ≤ a0) = true := decide_eq_true c3
   clear c3
   (first | rw [c3b0] | (simp only [i64_w, i32_w]; rw [c3b0]) | skip)
   have H' := Aside0.mk H
   clear H
   go_wp2
   go_meet
   case rel => exact ⟨_, (decide (a0 ≤ 122)), rs_, H', ⟨by first | omega | exact Nat.le_refl _⟩, dr_⟩
  ·rw [if_neg c3] at H
   have c3b0 : decide (97 ≤ a0) = false := decide_eq_false c3
   clear c3
   (first | rw [c3b0] | (simp only [i64_w, i32_w]; rw [c3b0]) | skip)
   have H' := Aside0.mk H
   clear H
   go_wp2
   go_meet
   case rel => exact ⟨_, (false), rs_, H', ⟨by first | omega | exact Nat.le_refl _⟩, dr_⟩
 case rest =>
  clear HC2
  try clear c1
  try clear p2
  try clear c3
  try clear c3b0
  obtain ⟨kq, x3_1, rfl, HA, HJ1, ⟨mc1, rfl⟩⟩ := hcut
  cases kq with
  | zero => exact absurd HA.out (by simp [field_inKey.j0])
  | succ kj1 =>
   have H := HA.out
   clear HA
   simp only [field_inKey.j0] at H
   by_cases c4 : x3_1 = true
   ·subst c4
    have H1 : (some true) = some r := by rw [if_pos rfl] at H; exact H
    clear H
    have H := H1
    clear H1
    obtain rfl := Option.some.inj H
    go_wp2
    go_ret
    exact ⟨by first | rfl | (simp; done) | (simp [*]; done), dr_⟩
   ·replace c4 := Bool.eq_false_iff.mpr c4
    subst c4
    have H1 : (if a0 ≥ 65 then (field_inKey.j1 kj1 a0 (decide (a0 ≤ 90))) else (field_inKey.j1 kj1 a0 false)) = some r := by rw [if_neg (show ¬ (false = true) by decide)] at H; exact H
    clear H
    have H := H1
    clear H1
    have HC5 := Aside0.mk H
    clear H
    go_upto_region 2 with (fail)
    go_cut [3] (fun v3 wc => ∃ (kq : Nat) (x3_4 : Bool), v3 = .bool x3_4 ∧ Aside0 (field_inKey.j1 kq a0 x3_4 = some r) ∧ Aside0 (kq ≤ kj1) ∧ Drawn0 w wc)
    case first =>
     have H := HC5.out
     clear HC5
     by_cases c6 : a0 ≥ 65
     ·rw [if_pos c6] at H
      have c6b0 : decide (65 ≤ a0) = true := decide_eq_true c6
      clear c6
      (first | rw [c6b0] | (simp only [i64_w, i32_w]; rw [c6b0]) | skip)
      have H' := Aside0.mk H
      clear H
      go_wp2
      go_meet
      case rel => exact ⟨_, (decide (a0 ≤ 90)), rs_, H', ⟨by have := HJ1.out; first | omega | exact Nat.le_refl _⟩, dr_⟩
     ·rw [if_neg c6] at H
      have c6b0 : decide (65 ≤ a0) = false := decide_eq_false c6
      clear c6
      (first | rw [c6b0] | (simp only [i64_w, i32_w]; rw [c6b0]) | skip)
      have H' := Aside0.mk H
      clear H
      go_wp2
      go_meet
      case rel => exact ⟨_, (false), rs_, H', ⟨by have := HJ1.out; first | omega | exact Nat.le_refl _⟩, dr_⟩
    case rest =>
     clear HC5
     try clear c1
     try clear p2
     try clear c3
     try clear c3b0
     try clear c4
     try clear c6
     try clear c6b0
     try clear p2
     obtain ⟨kq, x3_4, rfl, HA, HJ4, ⟨mc4, rfl⟩⟩ := hcut
     cases kq with
     | zero => exact absurd HA.out (by simp [field_inKey.j1])
     | succ kj4 =>
      have H := HA.out
      clear HA
      simp only [field_inKey.j1] at H
      by_cases c7 : x3_4 = true
      ·subst c7
       have H1 : (some true) = some r := by rw [if_pos rfl] at H; exact H
       clear H
       have H := H1
       clear H1
       obtain rfl := Option.some.inj H
       go_wp2
       go_ret
       exact ⟨by first | rfl | (simp; done) | (simp [*]; done), dr_⟩
      ·replace c7 := Bool.eq_false_iff.mpr c7
       subst c7
       have H1 : (if a0 ≥ 48 then (if a0 ≤ 57 then (some true) else (if a0 = 95 then (some true) else (if a0 = 46 then (some true) else (some (a0 == 45))))) else (if a0 = 95 then (some true) else (if a0 = 46 then (some true) else (some (a0 == 45))))) = some r := by rw [if_neg (show ¬ (false = true) by decide)] at H; exact H
       clear H
       have H := H1
       clear H1
       by_cases c8 : a0 ≥ 48
       ·rw [if_pos c8] at H
        have c8b0 : decide (48 ≤ a0) = true := decide_eq_true c8
        clear c8
        by_cases c9 : a0 ≤ 57
        ·rw [if_pos c9] at H
         have c9b0 : decide (a0 ≤ 57) = true := decide_eq_true c9
         clear c9
         obtain rfl := Option.some.inj H
         go_wp2
         go_ret
         exact ⟨by first | rfl | (simp; done) | (simp [*]; done), dr_⟩
        ·rw [if_neg c9] at H
         have c9b0 : decide (a0 ≤ 57) = false := decide_eq_false c9
         clear c9
         by_cases c10 : a0 = 95
         ·rw [if_pos c10] at H
          have c10b0 : (a0 == 95) = true := beq_iff_eq.mpr c10
          have c10b1 : (a0 != 95) = false := bne_eq_false_iff_eq.mpr c10
          clear c10
          obtain rfl := Option.some.inj H
          go_wp2
          go_ret
          exact ⟨by first | rfl | (simp; done) | (simp [*]; done), dr_⟩
         ·rw [if_neg c10] at H
          have c10b0 : (a0 == 95) = false := beq_eq_false_iff_ne.mpr c10
          have c10b1 : (a0 != 95) = true := bne_iff_ne.mpr c10
          by_cases c11 : a0 = 46
          ·rw [if_pos c11] at H
           have c11b0 : (a0 == 46) = true := beq_iff_eq.mpr c11
           have c11b1 : (a0 != 46) = false := bne_eq_false_iff_eq.mpr c11
           clear c11
           obtain rfl := Option.some.inj H
           go_wp2
           go_ret
           exact ⟨by first | rfl | (simp; done) | (simp [*]; done), dr_⟩
          ·rw [if_neg c11] at H
           have c11b0 : (a0 == 46) = false := beq_eq_false_iff_ne.mpr c11
           have c11b1 : (a0 != 46) = true := bne_iff_ne.mpr c11
           obtain rfl := Option.some.inj H
           go_wp2
           go_ret
           exact ⟨by first | rfl | (simp; done) | (simp [*]; done), dr_⟩
       ·rw [if_neg c8] at H
        have c8b0 : decide (48 ≤ a0) = false := decide_eq_false c8
        clear c8
        by_cases c12 : a0 = 95
        ·rw [if_pos c12] at H
         have c12b0 : (a0 == 95) = true := beq_iff_eq.mpr c12
         have c12b1 : (a0 != 95) = false := bne_eq_false_iff_eq.mpr c12
         clear c12
         obtain rfl := Option.some.inj H
         go_wp2
         go_ret
         exact ⟨by first | rfl | (simp; done) | (simp [*]; done), dr_⟩
        ·rw [if_neg c12] at H
         have c12b0 : (a0 == 95) = false := beq_eq_false_iff_ne.mpr c12
         have c12b1 : (a0 != 95) = true := bne_iff_ne.mpr c12
         by_cases c13 : a0 = 46
         ·rw [if_pos c13] at H
          have c13b0 : (a0 == 46) = true := beq_iff_eq.mpr c13
          have c13b1 : (a0 != 46) = false := bne_eq_false_iff_eq.mpr c13
          clear c13
          obtain rfl := Option.some.inj H
          go_wp2
          go_ret
          exact ⟨by first | rfl | (simp; done) | (simp [*]; done), dr_⟩
         ·rw [if_neg c13] at H
          have c13b0 : (a0 == 46) = false := beq_eq_false_iff_ne.mpr c13
          have c13b1 : (a0 != 46) = true := bne_iff_ne.mpr c13
          obtain rfl := Option.some.inj H
          go_wp2
          go_ret
          exact ⟨by first | rfl | (simp; done) | (simp [*]; done), dr_⟩
def field_IsKey.l0 : Nat → ByteArray → Int → Int → Option (Bool)
 | 0, _, _, _ => none
 | k + 1, x0, x5, x6 => if x6 < x5 then (if 0 ≤ x6 then (if x6 < (x0.size : Int) then ((field_inKey.f k (bt x0 x6)).bind fun t101 => (if t101 = true then (field_IsKey.l0 k x0 x5 (wrap64 (x6 + 1))) else (some false))) else (none)) else (none)) else (if (x0.size : Int) > 0 then (some (decide ((x0.size : Int) ≤ 32))) else (some false))
def field_IsKey.f (k : Nat) (a0 : ByteArray) : Option (Bool) := field_IsKey.l0 k a0 (a0.size : Int) 0
theorem field_IsKey.calls (k : Nat) (a0 : ByteArray) (r : Bool) (w : World) (h : field_IsKey.f k a0 = some r) :
  Calls Tryz.prog 80 #[.string a0] w fun e w' => e = .returned (.bool r) ∧ Drawn0 w w' := by
 have H : (field_IsKey.l0 k a0 (a0.size : Int) 0) = some r := h
 clear h
 have H' := Aside0.mk H
 clear H
 go_enter Tryz.func80, Tryz.ntmps80
 go_wp2
 go_loopg [6] k (fun kq v6 w' => ∃ (x6_1 : Int), v6 = .int .i64 x6_1 ∧ Aside0 (field_IsKey.l0 kq a0 (a0.size : Int) x6_1 = some r) ∧ Aside0 (kq ≤ k) ∧ Drawn0 w w')
 case atStart => exact ⟨(0), rs_, H', ⟨Nat.le_refl _⟩, dr_⟩
 case round =>
  clear H'
  obtain ⟨x6_1, rfl, HA, HK1, ⟨m1, rfl⟩⟩ := hrel
  cases gk with
  | zero => exact absurd HA.out (by simp [field_IsKey.l0])
  | succ k1 =>
   have H := HA.out
   clear HA
   simp only [field_IsKey.l0] at H
   by_cases c2 : x6_1 < (a0.size : Int)
   ·rw [if_pos c2] at H
    have c2b0 : decide (x6_1 < (a0.size : Int)) = true := decide_eq_true c2
    clear c2
    by_cases c3 : 0 ≤ x6_1
    ·rw [if_pos c3] at H
     have c3b0 : decide (0 ≤ x6_1) = true := decide_eq_true c3
     clear c3
     by_cases c4 : x6_1 < (a0.size : Int)
     ·rw [if_pos c4] at H
      have c4b0 : decide (x6_1 < (a0.size : Int)) = true := decide_eq_true c4
      clear c4
      replace H := Option.bind_eq_some_iff.mp H
      obtain ⟨t101, A60, H⟩ := H
      replace H : (if t101 = true then (field_IsKey.l0 k1 a0 (a0.size : Int) (wrap64 (x6_1 + 1))) else (some false)) = some r := H
      have A6 := Aside0.mk A60
      clear A60
      by_cases c7 : t101 = true
      ·subst c7
       have H1 : (field_IsKey.l0 k1 a0 (a0.size : Int) (wrap64 (x6_1 + 1))) = some r := by rw [if_pos rfl] at H; exact H
       clear H
       have H := H1
       clear H1
       have H' := Aside0.mk H
       clear H
       have p5 : 0 ≤ (x6_1 : Int) := of_decide_eq_true as_
       have q5 : x6_1 < (a0.size : Int) := of_decide_eq_true as_
       have hx5 := bt_at a0 x6_1
       replace p5 := eq_true p5
       replace q5 := eq_true q5
       go_wp2_with (first | ((with_reducible refine gate_callee (f := 101) rfl ?_); refine goesL_ (some 12) rfl rfl Tryz.func101 (by kernel_rfl) rfl #[.int .u8 (bt a0 x6_1)] rfl mp_ ?_; (with_reducible refine (field_inKey.calls k1 (bt a0 x6_1) true _ A6.out).mono ?_); rintro e w' ⟨rfl, ⟨nd, rfl⟩⟩; refine ⟨_, rfl, ?_⟩))
       go_roundg k1
       case measure => have := HK1.out; omega
       case rel => exact ⟨(wrap64 (x6_1 + 1)), rs_, H', ⟨by have := HK1.out; omega⟩, dr_⟩
      ·replace c7 := Bool.eq_false_iff.mpr c7
       subst c7
       have H1 : (some false) = some r := by rw [if_neg (show ¬ (false = true) by decide)] at H; exact H
       clear H
       have H := H1
       clear H1
       obtain rfl := Option.some.inj H
       have p5 : 0 ≤ (x6_1 : Int) := of_decide_eq_true as_
       have q5 : x6_1 < (a0.size : Int) := of_decide_eq_true as_
       have hx5 := bt_at a0 x6_1
       replace p5 := eq_true p5
       replace q5 := eq_true q5
       go_wp2_with (first | ((with_reducible refine gate_callee (f := 101) rfl ?_); refine goesL_ (some 12) rfl rfl Tryz.func101 (by kernel_rfl) rfl #[.int .u8 (bt a0 x6_1)] rfl mp_ ?_; (with_reducible refine (field_inKey.calls k1 (bt a0 x6_1) false _ A6.out).mono ?_); rintro e w' ⟨rfl, ⟨nd, rfl⟩⟩; refine ⟨_, rfl, ?_⟩))
       go_ret
       exact ⟨by first | rfl | (simp; done) | (simp [*]; done), dr_⟩
     ·rw [if_neg c4] at H
      exact absurd H (by simp)
    ·rw [if_neg c3] at H
     exact absurd H (by simp)
   ·rw [if_neg c2] at H
    have c2b0 : decide (x6_1 < (a0.size : Int)) = false := decide_eq_false c2
    clear c2
    by_cases c8 : (a0.size : Int) > 0
    ·rw [if_pos c8] at H
     have c8b0 : decide (0 < (a0.size : Int)) = true := decide_eq_true c8
     have c8b1 : decide (0 < a0.size) = true := decide_eq_true (by omega)
     clear c8
     obtain rfl := Option.some.inj H
     go_wp2
     go_ret
     exact ⟨by first | rfl | (simp; done) | (simp [*]; done), dr_⟩
    ·rw [if_neg c8] at H
     have c8b0 : decide (0 < (a0.size : Int)) = false := decide_eq_false c8
     have c8b1 : decide (0 < a0.size) = false := decide_eq_false (by omega)
     clear c8
     obtain rfl := Option.some.inj H
     go_wp2
     go_ret
     exact ⟨by first | rfl | (simp; done) | (simp [*]; done), dr_⟩
mutual
def token_in.j0 : Nat → Int → Bool → Option (Bool)
 | 0, _, _ => none
 | k + 1, x0, x3 => if x3 = true then (some true) else (if x0 ≥ 65 then (token_in.j1 k x0 (decide (x0 ≤ 90))) else (token_in.j1 k x0 false))
def token_in.j1 : Nat → Int → Bool → Option (Bool)
 | 0, _, _ => none
 | k + 1, x0, x3 => if x3 = true then (some true) else (if x0 ≥ 48 then (if x0 ≤ 57 then (some true) else (some (decide (x0 ≥ 128)))) else (some (decide (x0 ≥ 128))))
end
def token_in.f (k : Nat) (a0 : Int) : Option (Bool) := if a0 ≥ 97 then (token_in.j0 k a0 (decide (a0 ≤ 122))) else (token_in.j0 k a0 false)
theorem token_in.calls (k : Nat) (a0 : Int) (r : Bool) (w : World) (h : token_in.f k a0 = some r) :
  Calls Tryz.prog 102 #[.int .u8 a0] w fun e w' => e = .returned (.bool r) ∧ Drawn0 w w' := by
 have H : (if a0 ≥ 97 then (token_in.j0 k a0 (decide (a0 ≤ 122))) else (token_in.j0 k a0 false)) = some r := h
 clear h
 have HC2 := Aside0.mk H
 clear H
 go_enter Tryz.func102, Tryz.ntmps102
 go_upto_region 1 with (fail)
 go_cut [3] (fun v3 wc => ∃ (kq : Nat) (x3_1 : Bool), v3 = .bool x3_1 ∧ Aside0 (token_in.j0 kq a0 x3_1 = some r) ∧ Aside0 (kq ≤ k) ∧ Drawn0 w wc)
 case first =>
  have H := HC2.out
  clear HC2
  by_cases c3 : a0 ≥ 97
  ·rw [if_pos c3] at H
   have c3b0 : decide (97 ≤ a0) = true := decide_eq_true c3
   clear c3
   (first | rw [c3b0] | (simp only [i64_w, i32_w]; rw [c3b0]) | skip)
   have H' := Aside0.mk H
   clear H
   go_wp2
   go_meet
   case rel => exact ⟨_, (decide (a0 ≤ 122)), rs_, H', ⟨by first | omega | exact Nat.le_refl _⟩, dr_⟩
  ·rw [if_neg c3] at H
   have c3b0 : decide (97 ≤ a0) = false := decide_eq_false c3
   clear c3
   (first | rw [c3b0] | (simp only [i64_w, i32_w]; rw [c3b0]) | skip)
   have H' := Aside0.mk H
   clear H
   go_wp2
   go_meet
   case rel => exact ⟨_, (false), rs_, H', ⟨by first | omega | exact Nat.le_refl _⟩, dr_⟩
 case rest =>
  clear HC2
  try clear c1
  try clear p2
  try clear c3
  try clear c3b0
  obtain ⟨kq, x3_1, rfl, HA, HJ1, ⟨mc1, rfl⟩⟩ := hcut
  cases kq with
  | zero => exact absurd HA.out (by simp [token_in.j0])
  | succ kj1 =>
   have H := HA.out
   clear HA
   simp only [token_in.j0] at H
   by_cases c4 : x3_1 = true
   ·subst c4
    have H1 : (some true) = some r := by rw [if_pos rfl] at H; exact H
    clear H
    have H := H1
    clear H1
    obtain rfl := Option.some.inj H
    go_wp2
    go_ret
    exact ⟨by first | rfl | (simp; done) | (simp [*]; done), dr_⟩
   ·replace c4 := Bool.eq_false_iff.mpr c4
    subst c4
    have H1 : (if a0 ≥ 65 then (token_in.j1 kj1 a0 (decide (a0 ≤ 90))) else (token_in.j1 kj1 a0 false)) = some r := by rw [if_neg (show ¬ (false = true) by decide)] at H; exact H
    clear H
    have H := H1
    clear H1
    have HC5 := Aside0.mk H
    clear H
    go_upto_region 2 with (fail)
    go_cut [3] (fun v3 wc => ∃ (kq : Nat) (x3_4 : Bool), v3 = .bool x3_4 ∧ Aside0 (token_in.j1 kq a0 x3_4 = some r) ∧ Aside0 (kq ≤ kj1) ∧ Drawn0 w wc)
    case first =>
     have H := HC5.out
     clear HC5
     by_cases c6 : a0 ≥ 65
     ·rw [if_pos c6] at H
      have c6b0 : decide (65 ≤ a0) = true := decide_eq_true c6
      clear c6
      (first | rw [c6b0] | (simp only [i64_w, i32_w]; rw [c6b0]) | skip)
      have H' := Aside0.mk H
      clear H
      go_wp2
      go_meet
      case rel => exact ⟨_, (decide (a0 ≤ 90)), rs_, H', ⟨by have := HJ1.out; first | omega | exact Nat.le_refl _⟩, dr_⟩
     ·rw [if_neg c6] at H
      have c6b0 : decide (65 ≤ a0) = false := decide_eq_false c6
      clear c6
      (first | rw [c6b0] | (simp only [i64_w, i32_w]; rw [c6b0]) | skip)
      have H' := Aside0.mk H
      clear H
      go_wp2
      go_meet
      case rel => exact ⟨_, (false), rs_, H', ⟨by have := HJ1.out; first | omega | exact Nat.le_refl _⟩, dr_⟩
    case rest =>
     clear HC5
     try clear c1
     try clear p2
     try clear c3
     try clear c3b0
     try clear c4
     try clear c6
     try clear c6b0
     try clear p2
     obtain ⟨kq, x3_4, rfl, HA, HJ4, ⟨mc4, rfl⟩⟩ := hcut
     cases kq with
     | zero => exact absurd HA.out (by simp [token_in.j1])
     | succ kj4 =>
      have H := HA.out
      clear HA
      simp only [token_in.j1] at H
      by_cases c7 : x3_4 = true
      ·subst c7
       have H1 : (some true) = some r := by rw [if_pos rfl] at H; exact H
       clear H
       have H := H1
       clear H1
       obtain rfl := Option.some.inj H
       go_wp2
       go_ret
       exact ⟨by first | rfl | (simp; done) | (simp [*]; done), dr_⟩
      ·replace c7 := Bool.eq_false_iff.mpr c7
       subst c7
       have H1 : (if a0 ≥ 48 then (if a0 ≤ 57 then (some true) else (some (decide (a0 ≥ 128)))) else (some (decide (a0 ≥ 128)))) = some r := by rw [if_neg (show ¬ (false = true) by decide)] at H; exact H
       clear H
       have H := H1
       clear H1
       by_cases c8 : a0 ≥ 48
       ·rw [if_pos c8] at H
        have c8b0 : decide (48 ≤ a0) = true := decide_eq_true c8
        clear c8
        by_cases c9 : a0 ≤ 57
        ·rw [if_pos c9] at H
         have c9b0 : decide (a0 ≤ 57) = true := decide_eq_true c9
         clear c9
         obtain rfl := Option.some.inj H
         go_wp2
         go_ret
         exact ⟨by first | rfl | (simp; done) | (simp [*]; done), dr_⟩
        ·rw [if_neg c9] at H
         have c9b0 : decide (a0 ≤ 57) = false := decide_eq_false c9
         clear c9
         obtain rfl := Option.some.inj H
         go_wp2
         go_ret
         exact ⟨by first | rfl | (simp; done) | (simp [*]; done), dr_⟩
       ·rw [if_neg c8] at H
        have c8b0 : decide (48 ≤ a0) = false := decide_eq_false c8
        clear c8
        obtain rfl := Option.some.inj H
        go_wp2
        go_ret
        exact ⟨by first | rfl | (simp; done) | (simp [*]; done), dr_⟩
def token_lower.f (a0 : Int) : Option (Int) := if a0 ≥ 65 then (if a0 ≤ 90 then (some ((a0 + 32) % 256)) else (some a0)) else (some a0)
theorem token_lower.calls (a0 : Int) (r : Int) (w : World) (h : token_lower.f a0 = some r) :
  Calls Tryz.prog 103 #[.int .u8 a0] w fun e w' => e = .returned (.int .u8 r) ∧ Drawn0 w w' := by
 have H : (if a0 ≥ 65 then (if a0 ≤ 90 then (some ((a0 + 32) % 256)) else (some a0)) else (some a0)) = some r := h
 clear h
 by_cases c2 : a0 ≥ 65
 ·rw [if_pos c2] at H
  have c2b0 : decide (65 ≤ a0) = true := decide_eq_true c2
  clear c2
  by_cases c3 : a0 ≤ 90
  ·rw [if_pos c3] at H
   have c3b0 : decide (a0 ≤ 90) = true := decide_eq_true c3
   clear c3
   obtain rfl := Option.some.inj H
   go_enter Tryz.func103, Tryz.ntmps103
   go_wp2
   go_ret
   exact ⟨by first | rfl | (simp; done) | (simp [*]; done), dr_⟩
  ·rw [if_neg c3] at H
   have c3b0 : decide (a0 ≤ 90) = false := decide_eq_false c3
   clear c3
   obtain rfl := Option.some.inj H
   go_enter Tryz.func103, Tryz.ntmps103
   go_wp2
   go_ret
   exact ⟨by first | rfl | (simp; done) | (simp [*]; done), dr_⟩
 ·rw [if_neg c2] at H
  have c2b0 : decide (65 ≤ a0) = false := decide_eq_false c2
  clear c2
  obtain rfl := Option.some.inj H
  go_enter Tryz.func103, Tryz.ntmps103
  go_wp2
  go_ret
  exact ⟨by first | rfl | (simp; done) | (simp [*]; done), dr_⟩
mutual
def token_Is.j0 : Nat → ByteArray → Bool → Option (Bool)
 | 0, _, _ => none
 | k + 1, x0, x12 => if x12 = true then (some false) else (token_Is.l0 k x0 (x0.size : Int) 0)
def token_Is.l0 : Nat → ByteArray → Int → Int → Option (Bool)
 | 0, _, _, _ => none
 | k + 1, x0, x14, x15 => if x15 < x14 then (if 0 ≤ x15 then (if x15 < (x0.size : Int) then ((token_in.f k (bt x0 x15)).bind fun t106 => (if t106 = true then ((token_lower.f (bt x0 x15)).bind fun t107 => (if t107 = (bt x0 x15) then (token_Is.l0 k x0 x14 (wrap64 (x15 + 1))) else (some false))) else (some false))) else (none)) else (none)) else (some true)
end
def token_Is.f (k : Nat) (a0 : ByteArray) : Option (Bool) := if (a0.size : Int) < 1 then (token_Is.j0 k a0 true) else (token_Is.j0 k a0 (decide ((a0.size : Int) > 64)))
theorem token_Is.calls (k : Nat) (a0 : ByteArray) (r : Bool) (w : World) (h : token_Is.f k a0 = some r) :
  Calls Tryz.prog 81 #[.string a0] w fun e w' => e = .returned (.bool r) ∧ Drawn0 w w' := by
 have H : (if (a0.size : Int) < 1 then (token_Is.j0 k a0 true) else (token_Is.j0 k a0 (decide ((a0.size : Int) > 64)))) = some r := h
 clear h
 have HC2 := Aside0.mk H
 clear H
 go_enter Tryz.func81, Tryz.ntmps81
 go_upto_region 1 with (fail)
 go_cut [12] (fun v12 wc => ∃ (kq : Nat) (x12_1 : Bool), v12 = .bool x12_1 ∧ Aside0 (token_Is.j0 kq a0 x12_1 = some r) ∧ Aside0 (kq ≤ k) ∧ Drawn0 w wc)
 case first =>
  have H := HC2.out
  clear HC2
  by_cases c3 : (a0.size : Int) < 1
  ·rw [if_pos c3] at H
   have c3b0 : decide ((a0.size : Int) < 1) = true := decide_eq_true c3
   have c3b1 : decide (a0.size < 1) = true := decide_eq_true (by omega)
   clear c3
   (first | rw [c3b0] | (simp only [i64_w, i32_w]; rw [c3b0]) | skip)
   have H' := Aside0.mk H
   clear H
   go_wp2
   go_meet
   case rel => exact ⟨_, (true), rs_, H', ⟨by first | omega | exact Nat.le_refl _⟩, dr_⟩
  ·rw [if_neg c3] at H
   have c3b0 : decide ((a0.size : Int) < 1) = false := decide_eq_false c3
   have c3b1 : decide (a0.size < 1) = false := decide_eq_false (by omega)
   clear c3
   (first | rw [c3b0] | (simp only [i64_w, i32_w]; rw [c3b0]) | skip)
   have H' := Aside0.mk H
   clear H
   go_wp2
   go_meet
   case rel => exact ⟨_, (decide ((a0.size : Int) > 64)), rs_, H', ⟨by first | omega | exact Nat.le_refl _⟩, dr_⟩
 case rest =>
  clear HC2
  try clear p2
  try clear c3
  try clear c3b0
  try clear c3b1
  obtain ⟨kq, x12_1, rfl, HA, HJ1, ⟨mc1, rfl⟩⟩ := hcut
  cases kq with
  | zero => exact absurd HA.out (by simp [token_Is.j0])
  | succ kj1 =>
   have H := HA.out
   clear HA
   simp only [token_Is.j0] at H
   by_cases c4 : x12_1 = true
   ·subst c4
    have H1 : (some false) = some r := by rw [if_pos rfl] at H; exact H
    clear H
    have H := H1
    clear H1
    obtain rfl := Option.some.inj H
    go_wp2
    go_ret
    exact ⟨by first | rfl | (simp; done) | (simp [*]; done), dr_⟩
   ·replace c4 := Bool.eq_false_iff.mpr c4
    subst c4
    have H1 : (token_Is.l0 kj1 a0 (a0.size : Int) 0) = some r := by rw [if_neg (show ¬ (false = true) by decide)] at H; exact H
    clear H
    have H := H1
    clear H1
    have H' := Aside0.mk H
    clear H
    go_wp2
    go_loopg [15] kj1 (fun kq v15 w' => ∃ (x15_2 : Int), v15 = .int .i64 x15_2 ∧ Aside0 (token_Is.l0 kq a0 (a0.size : Int) x15_2 = some r) ∧ Aside0 (kq ≤ kj1) ∧ Drawn0 w w')
    case atStart => exact ⟨(0), rs_, H', ⟨Nat.le_refl _⟩, dr_⟩
    case round =>
     clear H'
     try clear c1
     try clear p2
     try clear c3
     try clear c3b0
     try clear c3b1
     try clear c4
     try clear p2
     obtain ⟨x15_2, rfl, HA, HK2, ⟨m2, rfl⟩⟩ := hrel
     cases gk with
     | zero => exact absurd HA.out (by simp [token_Is.l0])
     | succ k2 =>
      have H := HA.out
      clear HA
      simp only [token_Is.l0] at H
      by_cases c5 : x15_2 < (a0.size : Int)
      ·rw [if_pos c5] at H
       have c5b0 : decide (x15_2 < (a0.size : Int)) = true := decide_eq_true c5
       clear c5
       by_cases c6 : 0 ≤ x15_2
       ·rw [if_pos c6] at H
        have c6b0 : decide (0 ≤ x15_2) = true := decide_eq_true c6
        clear c6
        by_cases c7 : x15_2 < (a0.size : Int)
        ·rw [if_pos c7] at H
         have c7b0 : decide (x15_2 < (a0.size : Int)) = true := decide_eq_true c7
         clear c7
         replace H := Option.bind_eq_some_iff.mp H
         obtain ⟨t106, A90, H⟩ := H
         replace H : (if t106 = true then ((token_lower.f (bt a0 x15_2)).bind fun t107 => (if t107 = (bt a0 x15_2) then (token_Is.l0 k2 a0 (a0.size : Int) (wrap64 (x15_2 + 1))) else (some false))) else (some false)) = some r := H
         have A9 := Aside0.mk A90
         clear A90
         by_cases c10 : t106 = true
         ·subst c10
          have H1 : ((token_lower.f (bt a0 x15_2)).bind fun t107 => (if t107 = (bt a0 x15_2) then (token_Is.l0 k2 a0 (a0.size : Int) (wrap64 (x15_2 + 1))) else (some false))) = some r := by rw [if_pos rfl] at H; exact H
          clear H
          have H := H1
          clear H1
          replace H := Option.bind_eq_some_iff.mp H
          obtain ⟨t107, A110, H⟩ := H
          replace H : (if t107 = (bt a0 x15_2) then (token_Is.l0 k2 a0 (a0.size : Int) (wrap64 (x15_2 + 1))) else (some false)) = some r := H
          have A11 := Aside0.mk A110
          clear A110
          by_cases c12 : t107 = (bt a0 x15_2)
          ·rw [if_pos c12] at H
           have c12b0 : (t107 == (bt a0 x15_2)) = true := beq_iff_eq.mpr c12
           have c12b1 : (t107 != (bt a0 x15_2)) = false := bne_eq_false_iff_eq.mpr c12
           clear c12
           have H' := Aside0.mk H
           clear H
           have p8 : 0 ≤ (x15_2 : Int) := of_decide_eq_true as_
           have q8 : x15_2 < (a0.size : Int) := of_decide_eq_true as_
           have hx8 := bt_at a0 x15_2
           replace p8 := eq_true p8
           replace q8 := eq_true q8
           go_wp2_with (first | ((with_reducible refine gate_callee (f := 102) rfl ?_); refine goesL_ (some 22) rfl rfl Tryz.func102 (by kernel_rfl) rfl #[.int .u8 (bt a0 x15_2)] rfl mp_ ?_; (with_reducible refine (token_in.calls k2 (bt a0 x15_2) true _ A9.out).mono ?_); rintro e w' ⟨rfl, ⟨nd, rfl⟩⟩; refine ⟨_, rfl, ?_⟩) | (go_at_call 103; (with_reducible refine (token_lower.calls (bt a0 x15_2) t107 _ A11.out).mono ?_); rintro e w' ⟨rfl, ⟨nd, rfl⟩⟩))
           go_roundg k2
           case measure => have := HJ1.out; have := HK2.out; omega
           case rel => exact ⟨(wrap64 (x15_2 + 1)), rs_, H', ⟨by have := HJ1.out; have := HK2.out; omega⟩, dr_⟩
          ·rw [if_neg c12] at H
           have c12b0 : (t107 == (bt a0 x15_2)) = false := beq_eq_false_iff_ne.mpr c12
           have c12b1 : (t107 != (bt a0 x15_2)) = true := bne_iff_ne.mpr c12
           obtain rfl := Option.some.inj H
           have p8 : 0 ≤ (x15_2 : Int) := of_decide_eq_true as_
           have q8 : x15_2 < (a0.size : Int) := of_decide_eq_true as_
           have hx8 := bt_at a0 x15_2
           replace p8 := eq_true p8
           replace q8 := eq_true q8
           go_wp2_with (first | ((with_reducible refine gate_callee (f := 102) rfl ?_); refine goesL_ (some 22) rfl rfl Tryz.func102 (by kernel_rfl) rfl #[.int .u8 (bt a0 x15_2)] rfl mp_ ?_; (with_reducible refine (token_in.calls k2 (bt a0 x15_2) true _ A9.out).mono ?_); rintro e w' ⟨rfl, ⟨nd, rfl⟩⟩; refine ⟨_, rfl, ?_⟩) | (go_at_call 103; (with_reducible refine (token_lower.calls (bt a0 x15_2) t107 _ A11.out).mono ?_); rintro e w' ⟨rfl, ⟨nd, rfl⟩⟩))
           go_ret
           exact ⟨by first | rfl | (simp; done) | (simp [*]; done), dr_⟩
         ·replace c10 := Bool.eq_false_iff.mpr c10
          subst c10
          have H1 : (some false) = some r := by rw [if_neg (show ¬ (false = true) by decide)] at H; exact H
          clear H
          have H := H1
          clear H1
          obtain rfl := Option.some.inj H
          have p8 : 0 ≤ (x15_2 : Int) := of_decide_eq_true as_
          have q8 : x15_2 < (a0.size : Int) := of_decide_eq_true as_
          have hx8 := bt_at a0 x15_2
          replace p8 := eq_true p8
          replace q8 := eq_true q8
          go_wp2_with (first | ((with_reducible refine gate_callee (f := 102) rfl ?_); refine goesL_ (some 22) rfl rfl Tryz.func102 (by kernel_rfl) rfl #[.int .u8 (bt a0 x15_2)] rfl mp_ ?_; (with_reducible refine (token_in.calls k2 (bt a0 x15_2) false _ A9.out).mono ?_); rintro e w' ⟨rfl, ⟨nd, rfl⟩⟩; refine ⟨_, rfl, ?_⟩))
          go_ret
          exact ⟨by first | rfl | (simp; done) | (simp [*]; done), dr_⟩
        ·rw [if_neg c7] at H
         exact absurd H (by simp)
       ·rw [if_neg c6] at H
        exact absurd H (by simp)
      ·rw [if_neg c5] at H
       have c5b0 : decide (x15_2 < (a0.size : Int)) = false := decide_eq_false c5
       clear c5
       obtain rfl := Option.some.inj H
       go_wp2
       go_ret
       exact ⟨by first | rfl | (simp; done) | (simp [*]; done), dr_⟩
def slices_Equal_string_string.l0 : Nat → List ByteArray → List ByteArray → Int → Int → Option (Bool)
 | 0, _, _, _, _ => none
 | k + 1, x0, x1, x12, x13 => if x13 < x12 then (if 0 ≤ x13 then (if x13 < (x0.length : Int) then (if x13 < (x1.length : Int) then (if (rdOf ByteArray.empty x0 x13).toList = (rdOf ByteArray.empty x1 x13).toList then (slices_Equal_string_string.l0 k x0 x1 x12 (wrap64 (x13 + 1))) else (some false)) else (none)) else (none)) else (none)) else (some true)
def slices_Equal_string_string.f (k : Nat) (l0 : List ByteArray) (l1 : List ByteArray) : Option (Bool) := if (l0.length : Int) = (l1.length : Int) then (slices_Equal_string_string.l0 k l0 l1 (l0.length : Int) 0) else (some false)
theorem slices_Equal_string_string.calls (k : Nat) (A0 : Option Addr) (c0 : Nat) (l0 : List ByteArray) (A1 : Option Addr) (c1 : Nat) (l1 : List ByteArray) (r : Bool) (w : World) (hr0 : Kd.C Kd.string w A0 l0.length l0) (hc0 : l0.length ≤ c0) (hr1 : Kd.C Kd.string w A1 l1.length l1) (hc1 : l1.length ≤ c1) (h : slices_Equal_string_string.f k l0 l1 = some r) :
  Calls Tryz.prog 105 #[.slice A0 l0.length c0, .slice A1 l1.length c1] w fun e w' => e = .returned (.bool r) ∧ Drawn0 w w' := by
 have HR0 := Aside0.mk hr0
 have HC0 := Aside0.mk hc0
 clear hr0 hc0
 have HR1 := Aside0.mk hr1
 have HC1 := Aside0.mk hc1
 clear hr1 hc1
 have H : (if (l0.length : Int) = (l1.length : Int) then (slices_Equal_string_string.l0 k l0 l1 (l0.length : Int) 0) else (some false)) = some r := h
 clear h
 by_cases c3 : (l0.length : Int) = (l1.length : Int)
 ·rw [if_pos c3] at H
  have c3b0 : ((l0.length : Int) == (l1.length : Int)) = true := beq_iff_eq.mpr c3
  have c3b1 : ((l0.length : Int) != (l1.length : Int)) = false := bne_eq_false_iff_eq.mpr c3
  have c3b2 : (l0.length == l1.length) = true := by first | simpa using c3 | (simp at c3 ⊢; omega)
  clear c3
  have H' := Aside0.mk H
  clear H
  go_enter Tryz.func105, Tryz.ntmps105
  go_wp2
  repeat (go_quiet (fail); try go_wp2)
  go_loopg [13] k (fun kq v13 w' => ∃ (x13_1 : Int), v13 = .int .i64 x13_1 ∧ Aside0 (slices_Equal_string_string.l0 kq l0 l1 (l0.length : Int) x13_1 = some r) ∧ Aside0 (kq ≤ k) ∧ Drawn0 w w')
  case atStart => exact ⟨(0), rs_, H', ⟨Nat.le_refl _⟩, dr_⟩
  case round =>
   clear H'
   try clear c1
   try clear p2
   try clear c3
   try clear c3b0
   try clear c3b1
   try clear c3b2
   obtain ⟨x13_1, rfl, HA, HK1, ⟨m1, rfl⟩⟩ := hrel
   cases gk with
   | zero => exact absurd HA.out (by simp [slices_Equal_string_string.l0])
   | succ k1 =>
    have H := HA.out
    clear HA
    simp only [slices_Equal_string_string.l0] at H
    by_cases c4 : x13_1 < (l0.length : Int)
    ·rw [if_pos c4] at H
     have c4b0 : decide (x13_1 < (l0.length : Int)) = true := decide_eq_true c4
     clear c4
     by_cases c5 : 0 ≤ x13_1
     ·rw [if_pos c5] at H
      have c5b0 : decide (0 ≤ x13_1) = true := decide_eq_true c5
      clear c5
      by_cases c6 : x13_1 < (l0.length : Int)
      ·rw [if_pos c6] at H
       have c6b0 : decide (x13_1 < (l0.length : Int)) = true := decide_eq_true c6
       clear c6
       by_cases c7 : x13_1 < (l1.length : Int)
       ·rw [if_pos c7] at H
        have c7b0 : decide (x13_1 < (l1.length : Int)) = true := decide_eq_true c7
        clear c7
        by_cases c8 : (rdOf ByteArray.empty l0 x13_1).toList = (rdOf ByteArray.empty l1 x13_1).toList
        ·rw [if_pos c8] at H
         have c8b0 : ((rdOf ByteArray.empty l0 x13_1).toList == (rdOf ByteArray.empty l1 x13_1).toList) = true := beq_iff_eq.mpr c8
         have c8b1 : ((rdOf ByteArray.empty l0 x13_1).toList != (rdOf ByteArray.empty l1 x13_1).toList) = false := bne_eq_false_iff_eq.mpr c8
         clear c8
         have H' := Aside0.mk H
         clear H
         have p108 : 0 ≤ (x13_1 : Int) := of_decide_eq_true as_
         have q108 : x13_1 < (l0.length : Int) := of_decide_eq_true as_
         obtain ⟨ad108, e108, hx108_0⟩ := Kd.at_string HR0.out x13_1 p108 q108
         cases e108
         replace p108 := eq_true p108
         replace q108 := eq_true q108
         have p109 : 0 ≤ (x13_1 : Int) := of_decide_eq_true as_
         have q109 : x13_1 < (l1.length : Int) := of_decide_eq_true as_
         obtain ⟨ad109, e109, hx109_0⟩ := Kd.at_string HR1.out x13_1 p109 q109
         cases e109
         replace p109 := eq_true p109
         replace q109 := eq_true q109
         go_wp2
         repeat (go_quiet (fail); try go_wp2)
         go_roundg k1
         case measure => have := HK1.out; omega
         case rel => exact ⟨(wrap64 (x13_1 + 1)), rs_, H', ⟨by have := HK1.out; omega⟩, dr_⟩
        ·rw [if_neg c8] at H
         have c8b0 : ((rdOf ByteArray.empty l0 x13_1).toList == (rdOf ByteArray.empty l1 x13_1).toList) = false := beq_eq_false_iff_ne.mpr c8
         have c8b1 : ((rdOf ByteArray.empty l0 x13_1).toList != (rdOf ByteArray.empty l1 x13_1).toList) = true := bne_iff_ne.mpr c8
         obtain rfl := Option.some.inj H
         have p108 : 0 ≤ (x13_1 : Int) := of_decide_eq_true as_
         have q108 : x13_1 < (l0.length : Int) := of_decide_eq_true as_
         obtain ⟨ad108, e108, hx108_0⟩ := Kd.at_string HR0.out x13_1 p108 q108
         cases e108
         replace p108 := eq_true p108
         replace q108 := eq_true q108
         have p109 : 0 ≤ (x13_1 : Int) := of_decide_eq_true as_
         have q109 : x13_1 < (l1.length : Int) := of_decide_eq_true as_
         obtain ⟨ad109, e109, hx109_0⟩ := Kd.at_string HR1.out x13_1 p109 q109
         cases e109
         replace p109 := eq_true p109
         replace q109 := eq_true q109
         go_wp2
         repeat (go_quiet (fail); try go_wp2)
         go_ret
         exact ⟨by first | rfl | (simp; done) | (simp [*]; done), dr_⟩
       ·rw [if_neg c7] at H
        exact absurd H (by simp)
      ·rw [if_neg c6] at H
       exact absurd H (by simp)
     ·rw [if_neg c5] at H
      exact absurd H (by simp)
    ·rw [if_neg c4] at H
     have c4b0 : decide (x13_1 < (l0.length : Int)) = false := decide_eq_false c4
     clear c4
     obtain rfl := Option.some.inj H
     go_wp2
     repeat (go_quiet (fail); try go_wp2)
     go_ret
     exact ⟨by first | rfl | (simp; done) | (simp [*]; done), dr_⟩
 ·rw [if_neg c3] at H
  have c3b0 : ((l0.length : Int) == (l1.length : Int)) = false := beq_eq_false_iff_ne.mpr c3
  have c3b1 : ((l0.length : Int) != (l1.length : Int)) = true := bne_iff_ne.mpr c3
  have c3b2 : (l0.length == l1.length) = false := by first | simpa using c3 | (simp at c3 ⊢; omega)
  obtain rfl := Option.some.inj H
  go_enter Tryz.func105, Tryz.ntmps105
  go_wp2
  repeat (go_quiet (fail); try go_wp2)
  go_ret
  exact ⟨by first | rfl | (simp; done) | (simp [*]; done), dr_⟩
def query_same.f (k : Nat) (a0_0 : Int) (a0_1 : Int) (a0_2 : Int) (a0_3 : ByteArray) (l0_4 : List ByteArray) (a0_5 : ByteArray) (a0_6 : Int) (a0_7 : Int) (a1_0 : Int) (a1_1 : Int) (a1_2 : Int) (a1_3 : ByteArray) (l1_4 : List ByteArray) (a1_5 : ByteArray) (a1_6 : Int) (a1_7 : Int) : Option (Bool) := if a0_0 = a1_0 then (if a0_1 = a1_1 then (if a0_2 = a1_2 then (if a0_3.toList = a1_3.toList then (if a0_5.toList = a1_5.toList then (if a0_6 = a1_6 then (if a0_7 = a1_7 then ((slices_Equal_string_string.f k l0_4 l1_4).bind fun t112 => (some t112)) else (some false)) else (some false)) else (some false)) else (some false)) else (some false)) else (some false)) else (some false)
theorem query_same.calls (k : Nat) (a0_0 : Int) (a0_1 : Int) (a0_2 : Int) (a0_3 : ByteArray) (A0_4 : Option Addr) (c0_4 : Nat) (l0_4 : List ByteArray) (a0_5 : ByteArray) (a0_6 : Int) (a0_7 : Int) (a1_0 : Int) (a1_1 : Int) (a1_2 : Int) (a1_3 : ByteArray) (A1_4 : Option Addr) (c1_4 : Nat) (l1_4 : List ByteArray) (a1_5 : ByteArray) (a1_6 : Int) (a1_7 : Int) (r : Bool) (w : World) (hr0_4 : Kd.C Kd.string w A0_4 l0_4.length l0_4) (hc0_4 : l0_4.length ≤ c0_4) (hr1_4 : Kd.C Kd.string w A1_4 l1_4.length l1_4) (hc1_4 : l1_4.length ≤ c1_4) (h : query_same.f k a0_0 a0_1 a0_2 a0_3 l0_4 a0_5 a0_6 a0_7 a1_0 a1_1 a1_2 a1_3 l1_4 a1_5 a1_6 a1_7 = some r) :
  Calls Tryz.prog 84 #[.agg #[.int .i64 a0_0, .int .i64 a0_1, .int .i64 a0_2, .string a0_3, .slice A0_4 l0_4.length c0_4, .string a0_5, .int .i64 a0_6, .int .i64 a0_7], .agg #[.int .i64 a1_0, .int .i64 a1_1, .int .i64 a1_2, .string a1_3, .slice A1_4 l1_4.length c1_4, .string a1_5, .int .i64 a1_6, .int .i64 a1_7]] w fun e w' => e = .returned (.bool r) ∧ Below w.heap.size w w' := by
 have hu37 := Tryz.underlying37
 have HR0_4 := Aside0.mk hr0_4
 have HC0_4 := Aside0.mk hc0_4
 clear hr0_4 hc0_4
 have HR1_4 := Aside0.mk hr1_4
 have HC1_4 := Aside0.mk hc1_4
 clear hr1_4 hc1_4
 have HB := Aside0.mk (Below.refl w.heap.size w)
 have H : (if a0_0 = a1_0 then (if a0_1 = a1_1 then (if a0_2 = a1_2 then (if a0_3.toList = a1_3.toList then (if a0_5.toList = a1_5.toList then (if a0_6 = a1_6 then (if a0_7 = a1_7 then ((slices_Equal_string_string.f k l0_4 l1_4).bind fun t112 => (some t112)) else (some false)) else (some false)) else (some false)) else (some false)) else (some false)) else (some false)) else (some false)) = some r := h
 clear h
 by_cases c3 : a0_0 = a1_0
 ·rw [if_pos c3] at H
  have c3b0 : (a0_0 == a1_0) = true := beq_iff_eq.mpr c3
  have c3b1 : (a0_0 != a1_0) = false := bne_eq_false_iff_eq.mpr c3
  clear c3
  by_cases c4 : a0_1 = a1_1
  ·rw [if_pos c4] at H
   have c4b0 : (a0_1 == a1_1) = true := beq_iff_eq.mpr c4
   have c4b1 : (a0_1 != a1_1) = false := bne_eq_false_iff_eq.mpr c4
   clear c4
   by_cases c5 : a0_2 = a1_2
   ·rw [if_pos c5] at H
    have c5b0 : (a0_2 == a1_2) = true := beq_iff_eq.mpr c5
    have c5b1 : (a0_2 != a1_2) = false := bne_eq_false_iff_eq.mpr c5
    clear c5
    by_cases c6 : a0_3.toList = a1_3.toList
    ·rw [if_pos c6] at H
     have c6b0 : (a0_3.toList == a1_3.toList) = true := beq_iff_eq.mpr c6
     have c6b1 : (a0_3.toList != a1_3.toList) = false := bne_eq_false_iff_eq.mpr c6
     clear c6
     by_cases c7 : a0_5.toList = a1_5.toList
     ·rw [if_pos c7] at H
      have c7b0 : (a0_5.toList == a1_5.toList) = true := beq_iff_eq.mpr c7
      have c7b1 : (a0_5.toList != a1_5.toList) = false := bne_eq_false_iff_eq.mpr c7
      clear c7
      by_cases c8 : a0_6 = a1_6
      ·rw [if_pos c8] at H
       have c8b0 : (a0_6 == a1_6) = true := beq_iff_eq.mpr c8
       have c8b1 : (a0_6 != a1_6) = false := bne_eq_false_iff_eq.mpr c8
       clear c8
       by_cases c9 : a0_7 = a1_7
       ·rw [if_pos c9] at H
        have c9b0 : (a0_7 == a1_7) = true := beq_iff_eq.mpr c9
        have c9b1 : (a0_7 != a1_7) = false := bne_eq_false_iff_eq.mpr c9
        clear c9
        replace H := Option.bind_eq_some_iff.mp H
        obtain ⟨t112, A100, H⟩ := H
        replace H : (some t112) = some r := H
        have A10 := Aside0.mk A100
        clear A100
        obtain rfl := Option.some.inj H
        go_enter Tryz.func84, Tryz.ntmps84
        go_wp2_with (first | ((with_reducible refine gate_dst (N := 2) rfl ?_); refine box_event ?hg (N := 2) ?hd (cs := #[.int .i64 a0_0, .int .i64 a0_1, .int .i64 a0_2, .string a0_3, .slice A0_4 l0_4.length c0_4, .string a0_5, .int .i64 a0_6, .int .i64 a0_7]) (t := 37) ?hr ?_; (case hd => rfl); (case hg => rfl); (case hr => first | (go_simp; done) | (go_simp; rfl) | (go_simp; simp only [wAl, wAr, wSl, wSr, wW])); intro gb110 hg w11 hbox hb; have n0_ := bsA HB hb; have n1_ := Aside0.mk (hbox); have n2_ := szA HB hg; have n3_ := szA HB hg; clear HB; have HB := n0_; have BK110 := n1_; have GW110 := n2_; have GE110 := n3_; clear n0_ n1_ n2_ n3_; clear hb hbox hg) | ((with_reducible refine gate_dst (N := 3) rfl ?_); refine box_event ?hg (N := 3) ?hd (cs := #[.int .i64 a1_0, .int .i64 a1_1, .int .i64 a1_2, .string a1_3, .slice A1_4 l1_4.length c1_4, .string a1_5, .int .i64 a1_6, .int .i64 a1_7]) (t := 37) ?hr ?_; (case hd => rfl); (case hg => rfl); (case hr => first | (go_simp; done) | (go_simp; rfl) | (go_simp; simp only [wAl, wAr, wSl, wSr, wW])); intro gb111 hg w12 hbox hb; have n0_ := bkA BK110 hb; have n1_ := bsA HB hb; have n2_ := Aside0.mk (hbox); have n3_ := szA HB hg; have n4_ := szA HB hg; have n5_ := neA BK110 hg; have n6_ := neB BK110 hg; clear BK110; clear HB; have BK110 := n0_; have HB := n1_; have BK111 := n2_; have GW111 := n3_; have GE111 := n4_; have NB110_111 := n5_; have NB111_110 := n6_; clear n0_ n1_ n2_ n3_ n4_ n5_ n6_; clear hb hbox hg; have hnb13 := NB110_111.out; have hnc13 := NB111_110.out; have hcz14_0 : w12.cell? ⟨gb110, 0, none⟩ = some (.int .i64 a0_0) := (blk_cell BK110.out 0).trans rfl; have hcz14_1 : w12.cell? ⟨gb110, 1, none⟩ = some (.int .i64 a0_1) := (blk_cell BK110.out 1).trans rfl; have hcz14_2 : w12.cell? ⟨gb110, 2, none⟩ = some (.int .i64 a0_2) := (blk_cell BK110.out 2).trans rfl; have hcz14_3 : w12.cell? ⟨gb110, 3, none⟩ = some (.string a0_3) := (blk_cell BK110.out 3).trans rfl; have hcz14_4 : w12.cell? ⟨gb110, 4, none⟩ = some (.slice A0_4 l0_4.length c0_4) := (blk_cell BK110.out 4).trans rfl; have hcz14_5 : w12.cell? ⟨gb110, 5, none⟩ = some (.string a0_5) := (blk_cell BK110.out 5).trans rfl; have hcz14_6 : w12.cell? ⟨gb110, 6, none⟩ = some (.int .i64 a0_6) := (blk_cell BK110.out 6).trans rfl; have hcz14_7 : w12.cell? ⟨gb110, 7, none⟩ = some (.int .i64 a0_7) := (blk_cell BK110.out 7).trans rfl; have hfz14_0 := blk_frozen BK110.out 0; have hfz14_1 := blk_frozen BK110.out 1; have hfz14_2 := blk_frozen BK110.out 2; have hfz14_3 := blk_frozen BK110.out 3; have hfz14_4 := blk_frozen BK110.out 4; have hfz14_5 := blk_frozen BK110.out 5; have hfz14_6 := blk_frozen BK110.out 6; have hfz14_7 := blk_frozen BK110.out 7; have hcz15_0 : w12.cell? ⟨gb111, 0, none⟩ = some (.int .i64 a1_0) := (blk_cell BK111.out 0).trans rfl; have hcz15_1 : w12.cell? ⟨gb111, 1, none⟩ = some (.int .i64 a1_1) := (blk_cell BK111.out 1).trans rfl; have hcz15_2 : w12.cell? ⟨gb111, 2, none⟩ = some (.int .i64 a1_2) := (blk_cell BK111.out 2).trans rfl; have hcz15_3 : w12.cell? ⟨gb111, 3, none⟩ = some (.string a1_3) := (blk_cell BK111.out 3).trans rfl; have hcz15_4 : w12.cell? ⟨gb111, 4, none⟩ = some (.slice A1_4 l1_4.length c1_4) := (blk_cell BK111.out 4).trans rfl; have hcz15_5 : w12.cell? ⟨gb111, 5, none⟩ = some (.string a1_5) := (blk_cell BK111.out 5).trans rfl; have hcz15_6 : w12.cell? ⟨gb111, 6, none⟩ = some (.int .i64 a1_6) := (blk_cell BK111.out 6).trans rfl; have hcz15_7 : w12.cell? ⟨gb111, 7, none⟩ = some (.int .i64 a1_7) := (blk_cell BK111.out 7).trans rfl; have hfz15_0 := blk_frozen BK111.out 0; have hfz15_1 := blk_frozen BK111.out 1; have hfz15_2 := blk_frozen BK111.out 2; have hfz15_3 := blk_frozen BK111.out 3; have hfz15_4 := blk_frozen BK111.out 4; have hfz15_5 := blk_frozen BK111.out 5; have hfz15_6 := blk_frozen BK111.out 6; have hfz15_7 := blk_frozen BK111.out 7) | (go_at_call 105; (with_reducible refine (slices_Equal_string_string.calls k _ _ l0_4 _ _ l1_4 t112 _ ?side1 ?side2 ?side3 ?side4 A10.out).mono ?_); (case side1 => repeat (first | exact (Kd.C_below HR0_4.out HB.out) | (with_reducible refine Kd.C_alloc ?_ _) | (with_reducible refine Kd.C_drewN ?_ _) | (with_reducible refine Kd.C_drew ?_))); (case side2 => exact HC0_4.out); (case side3 => repeat (first | exact (Kd.C_below HR1_4.out HB.out) | (with_reducible refine Kd.C_alloc ?_ _) | (with_reducible refine Kd.C_drewN ?_ _) | (with_reducible refine Kd.C_drew ?_))); (case side4 => exact HC1_4.out); rintro e w' ⟨rfl, ⟨nd, rfl⟩⟩))
        go_ret
        exact ⟨by first | rfl | (simp [errW_none, errW_some] <;> rfl) | (simp [*, errW_none, errW_some] <;> rfl), by repeat (first | (with_reducible first | exact HB.out | apply below_alloc | apply pw_below_drewN | apply below_drew1 | refine below_set ?_ GE110.out | refine below_set ?_ GE111.out) | exact HB.out)⟩
       ·rw [if_neg c9] at H
        have c9b0 : (a0_7 == a1_7) = false := beq_eq_false_iff_ne.mpr c9
        have c9b1 : (a0_7 != a1_7) = true := bne_iff_ne.mpr c9
        obtain rfl := Option.some.inj H
        go_enter Tryz.func84, Tryz.ntmps84
        go_wp2_with (first | ((with_reducible refine gate_dst (N := 2) rfl ?_); refine box_event ?hg (N := 2) ?hd (cs := #[.int .i64 a0_0, .int .i64 a0_1, .int .i64 a0_2, .string a0_3, .slice A0_4 l0_4.length c0_4, .string a0_5, .int .i64 a0_6, .int .i64 a0_7]) (t := 37) ?hr ?_; (case hd => rfl); (case hg => rfl); (case hr => first | (go_simp; done) | (go_simp; rfl) | (go_simp; simp only [wAl, wAr, wSl, wSr, wW])); intro gb110 hg w16 hbox hb; have n0_ := bsA HB hb; have n1_ := Aside0.mk (hbox); have n2_ := szA HB hg; have n3_ := szA HB hg; clear HB; have HB := n0_; have BK110 := n1_; have GW110 := n2_; have GE110 := n3_; clear n0_ n1_ n2_ n3_; clear hb hbox hg) | ((with_reducible refine gate_dst (N := 3) rfl ?_); refine box_event ?hg (N := 3) ?hd (cs := #[.int .i64 a1_0, .int .i64 a1_1, .int .i64 a1_2, .string a1_3, .slice A1_4 l1_4.length c1_4, .string a1_5, .int .i64 a1_6, .int .i64 a1_7]) (t := 37) ?hr ?_; (case hd => rfl); (case hg => rfl); (case hr => first | (go_simp; done) | (go_simp; rfl) | (go_simp; simp only [wAl, wAr, wSl, wSr, wW])); intro gb111 hg w17 hbox hb; have n0_ := bkA BK110 hb; have n1_ := bsA HB hb; have n2_ := Aside0.mk (hbox); have n3_ := szA HB hg; have n4_ := szA HB hg; have n5_ := neA BK110 hg; have n6_ := neB BK110 hg; clear BK110; clear HB; have BK110 := n0_; have HB := n1_; have BK111 := n2_; have GW111 := n3_; have GE111 := n4_; have NB110_111 := n5_; have NB111_110 := n6_; clear n0_ n1_ n2_ n3_ n4_ n5_ n6_; clear hb hbox hg; have hnb18 := NB110_111.out; have hnc18 := NB111_110.out; have hcz19_0 : w17.cell? ⟨gb110, 0, none⟩ = some (.int .i64 a0_0) := (blk_cell BK110.out 0).trans rfl; have hcz19_1 : w17.cell? ⟨gb110, 1, none⟩ = some (.int .i64 a0_1) := (blk_cell BK110.out 1).trans rfl; have hcz19_2 : w17.cell? ⟨gb110, 2, none⟩ = some (.int .i64 a0_2) := (blk_cell BK110.out 2).trans rfl; have hcz19_3 : w17.cell? ⟨gb110, 3, none⟩ = some (.string a0_3) := (blk_cell BK110.out 3).trans rfl; have hcz19_4 : w17.cell? ⟨gb110, 4, none⟩ = some (.slice A0_4 l0_4.length c0_4) := (blk_cell BK110.out 4).trans rfl; have hcz19_5 : w17.cell? ⟨gb110, 5, none⟩ = some (.string a0_5) := (blk_cell BK110.out 5).trans rfl; have hcz19_6 : w17.cell? ⟨gb110, 6, none⟩ = some (.int .i64 a0_6) := (blk_cell BK110.out 6).trans rfl; have hcz19_7 : w17.cell? ⟨gb110, 7, none⟩ = some (.int .i64 a0_7) := (blk_cell BK110.out 7).trans rfl; have hfz19_0 := blk_frozen BK110.out 0; have hfz19_1 := blk_frozen BK110.out 1; have hfz19_2 := blk_frozen BK110.out 2; have hfz19_3 := blk_frozen BK110.out 3; have hfz19_4 := blk_frozen BK110.out 4; have hfz19_5 := blk_frozen BK110.out 5; have hfz19_6 := blk_frozen BK110.out 6; have hfz19_7 := blk_frozen BK110.out 7; have hcz20_0 : w17.cell? ⟨gb111, 0, none⟩ = some (.int .i64 a1_0) := (blk_cell BK111.out 0).trans rfl; have hcz20_1 : w17.cell? ⟨gb111, 1, none⟩ = some (.int .i64 a1_1) := (blk_cell BK111.out 1).trans rfl; have hcz20_2 : w17.cell? ⟨gb111, 2, none⟩ = some (.int .i64 a1_2) := (blk_cell BK111.out 2).trans rfl; have hcz20_3 : w17.cell? ⟨gb111, 3, none⟩ = some (.string a1_3) := (blk_cell BK111.out 3).trans rfl; have hcz20_4 : w17.cell? ⟨gb111, 4, none⟩ = some (.slice A1_4 l1_4.length c1_4) := (blk_cell BK111.out 4).trans rfl; have hcz20_5 : w17.cell? ⟨gb111, 5, none⟩ = some (.string a1_5) := (blk_cell BK111.out 5).trans rfl; have hcz20_6 : w17.cell? ⟨gb111, 6, none⟩ = some (.int .i64 a1_6) := (blk_cell BK111.out 6).trans rfl; have hcz20_7 : w17.cell? ⟨gb111, 7, none⟩ = some (.int .i64 a1_7) := (blk_cell BK111.out 7).trans rfl; have hfz20_0 := blk_frozen BK111.out 0; have hfz20_1 := blk_frozen BK111.out 1; have hfz20_2 := blk_frozen BK111.out 2; have hfz20_3 := blk_frozen BK111.out 3; have hfz20_4 := blk_frozen BK111.out 4; have hfz20_5 := blk_frozen BK111.out 5; have hfz20_6 := blk_frozen BK111.out 6; have hfz20_7 := blk_frozen BK111.out 7))
        go_ret
        exact ⟨by first | rfl | (simp [errW_none, errW_some] <;> rfl) | (simp [*, errW_none, errW_some] <;> rfl), by repeat (first | (with_reducible first | exact HB.out | apply below_alloc | apply pw_below_drewN | apply below_drew1 | refine below_set ?_ GE110.out | refine below_set ?_ GE111.out) | exact HB.out)⟩
      ·rw [if_neg c8] at H
       have c8b0 : (a0_6 == a1_6) = false := beq_eq_false_iff_ne.mpr c8
       have c8b1 : (a0_6 != a1_6) = true := bne_iff_ne.mpr c8
       obtain rfl := Option.some.inj H
       go_enter Tryz.func84, Tryz.ntmps84
       go_wp2_with (first | ((with_reducible refine gate_dst (N := 2) rfl ?_); refine box_event ?hg (N := 2) ?hd (cs := #[.int .i64 a0_0, .int .i64 a0_1, .int .i64 a0_2, .string a0_3, .slice A0_4 l0_4.length c0_4, .string a0_5, .int .i64 a0_6, .int .i64 a0_7]) (t := 37) ?hr ?_; (case hd => rfl); (case hg => rfl); (case hr => first | (go_simp; done) | (go_simp; rfl) | (go_simp; simp only [wAl, wAr, wSl, wSr, wW])); intro gb110 hg w21 hbox hb; have n0_ := bsA HB hb; have n1_ := Aside0.mk (hbox); have n2_ := szA HB hg; have n3_ := szA HB hg; clear HB; have HB := n0_; have BK110 := n1_; have GW110 := n2_; have GE110 := n3_; clear n0_ n1_ n2_ n3_; clear hb hbox hg) | ((with_reducible refine gate_dst (N := 3) rfl ?_); refine box_event ?hg (N := 3) ?hd (cs := #[.int .i64 a1_0, .int .i64 a1_1, .int .i64 a1_2, .string a1_3, .slice A1_4 l1_4.length c1_4, .string a1_5, .int .i64 a1_6, .int .i64 a1_7]) (t := 37) ?hr ?_; (case hd => rfl); (case hg => rfl); (case hr => first | (go_simp; done) | (go_simp; rfl) | (go_simp; simp only [wAl, wAr, wSl, wSr, wW])); intro gb111 hg w22 hbox hb; have n0_ := bkA BK110 hb; have n1_ := bsA HB hb; have n2_ := Aside0.mk (hbox); have n3_ := szA HB hg; have n4_ := szA HB hg; have n5_ := neA BK110 hg; have n6_ := neB BK110 hg; clear BK110; clear HB; have BK110 := n0_; have HB := n1_; have BK111 := n2_; have GW111 := n3_; have GE111 := n4_; have NB110_111 := n5_; have NB111_110 := n6_; clear n0_ n1_ n2_ n3_ n4_ n5_ n6_; clear hb hbox hg; have hnb23 := NB110_111.out; have hnc23 := NB111_110.out; have hcz24_0 : w22.cell? ⟨gb110, 0, none⟩ = some (.int .i64 a0_0) := (blk_cell BK110.out 0).trans rfl; have hcz24_1 : w22.cell? ⟨gb110, 1, none⟩ = some (.int .i64 a0_1) := (blk_cell BK110.out 1).trans rfl; have hcz24_2 : w22.cell? ⟨gb110, 2, none⟩ = some (.int .i64 a0_2) := (blk_cell BK110.out 2).trans rfl; have hcz24_3 : w22.cell? ⟨gb110, 3, none⟩ = some (.string a0_3) := (blk_cell BK110.out 3).trans rfl; have hcz24_4 : w22.cell? ⟨gb110, 4, none⟩ = some (.slice A0_4 l0_4.length c0_4) := (blk_cell BK110.out 4).trans rfl; have hcz24_5 : w22.cell? ⟨gb110, 5, none⟩ = some (.string a0_5) := (blk_cell BK110.out 5).trans rfl; have hcz24_6 : w22.cell? ⟨gb110, 6, none⟩ = some (.int .i64 a0_6) := (blk_cell BK110.out 6).trans rfl; have hcz24_7 : w22.cell? ⟨gb110, 7, none⟩ = some (.int .i64 a0_7) := (blk_cell BK110.out 7).trans rfl; have hfz24_0 := blk_frozen BK110.out 0; have hfz24_1 := blk_frozen BK110.out 1; have hfz24_2 := blk_frozen BK110.out 2; have hfz24_3 := blk_frozen BK110.out 3; have hfz24_4 := blk_frozen BK110.out 4; have hfz24_5 := blk_frozen BK110.out 5; have hfz24_6 := blk_frozen BK110.out 6; have hfz24_7 := blk_frozen BK110.out 7; have hcz25_0 : w22.cell? ⟨gb111, 0, none⟩ = some (.int .i64 a1_0) := (blk_cell BK111.out 0).trans rfl; have hcz25_1 : w22.cell? ⟨gb111, 1, none⟩ = some (.int .i64 a1_1) := (blk_cell BK111.out 1).trans rfl; have hcz25_2 : w22.cell? ⟨gb111, 2, none⟩ = some (.int .i64 a1_2) := (blk_cell BK111.out 2).trans rfl; have hcz25_3 : w22.cell? ⟨gb111, 3, none⟩ = some (.string a1_3) := (blk_cell BK111.out 3).trans rfl; have hcz25_4 : w22.cell? ⟨gb111, 4, none⟩ = some (.slice A1_4 l1_4.length c1_4) := (blk_cell BK111.out 4).trans rfl; have hcz25_5 : w22.cell? ⟨gb111, 5, none⟩ = some (.string a1_5) := (blk_cell BK111.out 5).trans rfl; have hcz25_6 : w22.cell? ⟨gb111, 6, none⟩ = some (.int .i64 a1_6) := (blk_cell BK111.out 6).trans rfl; have hcz25_7 : w22.cell? ⟨gb111, 7, none⟩ = some (.int .i64 a1_7) := (blk_cell BK111.out 7).trans rfl; have hfz25_0 := blk_frozen BK111.out 0; have hfz25_1 := blk_frozen BK111.out 1; have hfz25_2 := blk_frozen BK111.out 2; have hfz25_3 := blk_frozen BK111.out 3; have hfz25_4 := blk_frozen BK111.out 4; have hfz25_5 := blk_frozen BK111.out 5; have hfz25_6 := blk_frozen BK111.out 6; have hfz25_7 := blk_frozen BK111.out 7))
       go_ret
       exact ⟨by first | rfl | (simp [errW_none, errW_some] <;> rfl) | (simp [*, errW_none, errW_some] <;> rfl), by repeat (first | (with_reducible first | exact HB.out | apply below_alloc | apply pw_below_drewN | apply below_drew1 | refine below_set ?_ GE110.out | refine below_set ?_ GE111.out) | exact HB.out)⟩
     ·rw [if_neg c7] at H
      have c7b0 : (a0_5.toList == a1_5.toList) = false := beq_eq_false_iff_ne.mpr c7
      have c7b1 : (a0_5.toList != a1_5.toList) = true := bne_iff_ne.mpr c7
      obtain rfl := Option.some.inj H
      go_enter Tryz.func84, Tryz.ntmps84
      go_wp2_with (first | ((with_reducible refine gate_dst (N := 2) rfl ?_); refine box_event ?hg (N := 2) ?hd (cs := #[.int .i64 a0_0, .int .i64 a0_1, .int .i64 a0_2, .string a0_3, .slice A0_4 l0_4.length c0_4, .string a0_5, .int .i64 a0_6, .int .i64 a0_7]) (t := 37) ?hr ?_; (case hd => rfl); (case hg => rfl); (case hr => first | (go_simp; done) | (go_simp; rfl) | (go_simp; simp only [wAl, wAr, wSl, wSr, wW])); intro gb110 hg w26 hbox hb; have n0_ := bsA HB hb; have n1_ := Aside0.mk (hbox); have n2_ := szA HB hg; have n3_ := szA HB hg; clear HB; have HB := n0_; have BK110 := n1_; have GW110 := n2_; have GE110 := n3_; clear n0_ n1_ n2_ n3_; clear hb hbox hg) | ((with_reducible refine gate_dst (N := 3) rfl ?_); refine box_event ?hg (N := 3) ?hd (cs := #[.int .i64 a1_0, .int .i64 a1_1, .int .i64 a1_2, .string a1_3, .slice A1_4 l1_4.length c1_4, .string a1_5, .int .i64 a1_6, .int .i64 a1_7]) (t := 37) ?hr ?_; (case hd => rfl); (case hg => rfl); (case hr => first | (go_simp; done) | (go_simp; rfl) | (go_simp; simp only [wAl, wAr, wSl, wSr, wW])); intro gb111 hg w27 hbox hb; have n0_ := bkA BK110 hb; have n1_ := bsA HB hb; have n2_ := Aside0.mk (hbox); have n3_ := szA HB hg; have n4_ := szA HB hg; have n5_ := neA BK110 hg; have n6_ := neB BK110 hg; clear BK110; clear HB; have BK110 := n0_; have HB := n1_; have BK111 := n2_; have GW111 := n3_; have GE111 := n4_; have NB110_111 := n5_; have NB111_110 := n6_; clear n0_ n1_ n2_ n3_ n4_ n5_ n6_; clear hb hbox hg; have hnb28 := NB110_111.out; have hnc28 := NB111_110.out; have hcz29_0 : w27.cell? ⟨gb110, 0, none⟩ = some (.int .i64 a0_0) := (blk_cell BK110.out 0).trans rfl; have hcz29_1 : w27.cell? ⟨gb110, 1, none⟩ = some (.int .i64 a0_1) := (blk_cell BK110.out 1).trans rfl; have hcz29_2 : w27.cell? ⟨gb110, 2, none⟩ = some (.int .i64 a0_2) := (blk_cell BK110.out 2).trans rfl; have hcz29_3 : w27.cell? ⟨gb110, 3, none⟩ = some (.string a0_3) := (blk_cell BK110.out 3).trans rfl; have hcz29_4 : w27.cell? ⟨gb110, 4, none⟩ = some (.slice A0_4 l0_4.length c0_4) := (blk_cell BK110.out 4).trans rfl; have hcz29_5 : w27.cell? ⟨gb110, 5, none⟩ = some (.string a0_5) := (blk_cell BK110.out 5).trans rfl; have hcz29_6 : w27.cell? ⟨gb110, 6, none⟩ = some (.int .i64 a0_6) := (blk_cell BK110.out 6).trans rfl; have hcz29_7 : w27.cell? ⟨gb110, 7, none⟩ = some (.int .i64 a0_7) := (blk_cell BK110.out 7).trans rfl; have hfz29_0 := blk_frozen BK110.out 0; have hfz29_1 := blk_frozen BK110.out 1; have hfz29_2 := blk_frozen BK110.out 2; have hfz29_3 := blk_frozen BK110.out 3; have hfz29_4 := blk_frozen BK110.out 4; have hfz29_5 := blk_frozen BK110.out 5; have hfz29_6 := blk_frozen BK110.out 6; have hfz29_7 := blk_frozen BK110.out 7; have hcz30_0 : w27.cell? ⟨gb111, 0, none⟩ = some (.int .i64 a1_0) := (blk_cell BK111.out 0).trans rfl; have hcz30_1 : w27.cell? ⟨gb111, 1, none⟩ = some (.int .i64 a1_1) := (blk_cell BK111.out 1).trans rfl; have hcz30_2 : w27.cell? ⟨gb111, 2, none⟩ = some (.int .i64 a1_2) := (blk_cell BK111.out 2).trans rfl; have hcz30_3 : w27.cell? ⟨gb111, 3, none⟩ = some (.string a1_3) := (blk_cell BK111.out 3).trans rfl; have hcz30_4 : w27.cell? ⟨gb111, 4, none⟩ = some (.slice A1_4 l1_4.length c1_4) := (blk_cell BK111.out 4).trans rfl; have hcz30_5 : w27.cell? ⟨gb111, 5, none⟩ = some (.string a1_5) := (blk_cell BK111.out 5).trans rfl; have hcz30_6 : w27.cell? ⟨gb111, 6, none⟩ = some (.int .i64 a1_6) := (blk_cell BK111.out 6).trans rfl; have hcz30_7 : w27.cell? ⟨gb111, 7, none⟩ = some (.int .i64 a1_7) := (blk_cell BK111.out 7).trans rfl; have hfz30_0 := blk_frozen BK111.out 0; have hfz30_1 := blk_frozen BK111.out 1; have hfz30_2 := blk_frozen BK111.out 2; have hfz30_3 := blk_frozen BK111.out 3; have hfz30_4 := blk_frozen BK111.out 4; have hfz30_5 := blk_frozen BK111.out 5; have hfz30_6 := blk_frozen BK111.out 6; have hfz30_7 := blk_frozen BK111.out 7))
      go_ret
      exact ⟨by first | rfl | (simp [errW_none, errW_some] <;> rfl) | (simp [*, errW_none, errW_some] <;> rfl), by repeat (first | (with_reducible first | exact HB.out | apply below_alloc | apply pw_below_drewN | apply below_drew1 | refine below_set ?_ GE110.out | refine below_set ?_ GE111.out) | exact HB.out)⟩
    ·rw [if_neg c6] at H
     have c6b0 : (a0_3.toList == a1_3.toList) = false := beq_eq_false_iff_ne.mpr c6
     have c6b1 : (a0_3.toList != a1_3.toList) = true := bne_iff_ne.mpr c6
     obtain rfl := Option.some.inj H
     go_enter Tryz.func84, Tryz.ntmps84
     go_wp2_with (first | ((with_reducible refine gate_dst (N := 2) rfl ?_); refine box_event ?hg (N := 2) ?hd (cs := #[.int .i64 a0_0, .int .i64 a0_1, .int .i64 a0_2, .string a0_3, .slice A0_4 l0_4.length c0_4, .string a0_5, .int .i64 a0_6, .int .i64 a0_7]) (t := 37) ?hr ?_; (case hd => rfl); (case hg => rfl); (case hr => first | (go_simp; done) | (go_simp; rfl) | (go_simp; simp only [wAl, wAr, wSl, wSr, wW])); intro gb110 hg w31 hbox hb; have n0_ := bsA HB hb; have n1_ := Aside0.mk (hbox); have n2_ := szA HB hg; have n3_ := szA HB hg; clear HB; have HB := n0_; have BK110 := n1_; have GW110 := n2_; have GE110 := n3_; clear n0_ n1_ n2_ n3_; clear hb hbox hg) | ((with_reducible refine gate_dst (N := 3) rfl ?_); refine box_event ?hg (N := 3) ?hd (cs := #[.int .i64 a1_0, .int .i64 a1_1, .int .i64 a1_2, .string a1_3, .slice A1_4 l1_4.length c1_4, .string a1_5, .int .i64 a1_6, .int .i64 a1_7]) (t := 37) ?hr ?_; (case hd => rfl); (case hg => rfl); (case hr => first | (go_simp; done) | (go_simp; rfl) | (go_simp; simp only [wAl, wAr, wSl, wSr, wW])); intro gb111 hg w32 hbox hb; have n0_ := bkA BK110 hb; have n1_ := bsA HB hb; have n2_ := Aside0.mk (hbox); have n3_ := szA HB hg; have n4_ := szA HB hg; have n5_ := neA BK110 hg; have n6_ := neB BK110 hg; clear BK110; clear HB; have BK110 := n0_; have HB := n1_; have BK111 := n2_; have GW111 := n3_; have GE111 := n4_; have NB110_111 := n5_; have NB111_110 := n6_; clear n0_ n1_ n2_ n3_ n4_ n5_ n6_; clear hb hbox hg; have hnb33 := NB110_111.out; have hnc33 := NB111_110.out; have hcz34_0 : w32.cell? ⟨gb110, 0, none⟩ = some (.int .i64 a0_0) := (blk_cell BK110.out 0).trans rfl; have hcz34_1 : w32.cell? ⟨gb110, 1, none⟩ = some (.int .i64 a0_1) := (blk_cell BK110.out 1).trans rfl; have hcz34_2 : w32.cell? ⟨gb110, 2, none⟩ = some (.int .i64 a0_2) := (blk_cell BK110.out 2).trans rfl; have hcz34_3 : w32.cell? ⟨gb110, 3, none⟩ = some (.string a0_3) := (blk_cell BK110.out 3).trans rfl; have hcz34_4 : w32.cell? ⟨gb110, 4, none⟩ = some (.slice A0_4 l0_4.length c0_4) := (blk_cell BK110.out 4).trans rfl; have hcz34_5 : w32.cell? ⟨gb110, 5, none⟩ = some (.string a0_5) := (blk_cell BK110.out 5).trans rfl; have hcz34_6 : w32.cell? ⟨gb110, 6, none⟩ = some (.int .i64 a0_6) := (blk_cell BK110.out 6).trans rfl; have hcz34_7 : w32.cell? ⟨gb110, 7, none⟩ = some (.int .i64 a0_7) := (blk_cell BK110.out 7).trans rfl; have hfz34_0 := blk_frozen BK110.out 0; have hfz34_1 := blk_frozen BK110.out 1; have hfz34_2 := blk_frozen BK110.out 2; have hfz34_3 := blk_frozen BK110.out 3; have hfz34_4 := blk_frozen BK110.out 4; have hfz34_5 := blk_frozen BK110.out 5; have hfz34_6 := blk_frozen BK110.out 6; have hfz34_7 := blk_frozen BK110.out 7; have hcz35_0 : w32.cell? ⟨gb111, 0, none⟩ = some (.int .i64 a1_0) := (blk_cell BK111.out 0).trans rfl; have hcz35_1 : w32.cell? ⟨gb111, 1, none⟩ = some (.int .i64 a1_1) := (blk_cell BK111.out 1).trans rfl; have hcz35_2 : w32.cell? ⟨gb111, 2, none⟩ = some (.int .i64 a1_2) := (blk_cell BK111.out 2).trans rfl; have hcz35_3 : w32.cell? ⟨gb111, 3, none⟩ = some (.string a1_3) := (blk_cell BK111.out 3).trans rfl; have hcz35_4 : w32.cell? ⟨gb111, 4, none⟩ = some (.slice A1_4 l1_4.length c1_4) := (blk_cell BK111.out 4).trans rfl; have hcz35_5 : w32.cell? ⟨gb111, 5, none⟩ = some (.string a1_5) := (blk_cell BK111.out 5).trans rfl; have hcz35_6 : w32.cell? ⟨gb111, 6, none⟩ = some (.int .i64 a1_6) := (blk_cell BK111.out 6).trans rfl; have hcz35_7 : w32.cell? ⟨gb111, 7, none⟩ = some (.int .i64 a1_7) := (blk_cell BK111.out 7).trans rfl; have hfz35_0 := blk_frozen BK111.out 0; have hfz35_1 := blk_frozen BK111.out 1; have hfz35_2 := blk_frozen BK111.out 2; have hfz35_3 := blk_frozen BK111.out 3; have hfz35_4 := blk_frozen BK111.out 4; have hfz35_5 := blk_frozen BK111.out 5; have hfz35_6 := blk_frozen BK111.out 6; have hfz35_7 := blk_frozen BK111.out 7))
     go_ret
     exact ⟨by first | rfl | (simp [errW_none, errW_some] <;> rfl) | (simp [*, errW_none, errW_some] <;> rfl), by repeat (first | (with_reducible first | exact HB.out | apply below_alloc | apply pw_below_drewN | apply below_drew1 | refine below_set ?_ GE110.out | refine below_set ?_ GE111.out) | exact HB.out)⟩
   ·rw [if_neg c5] at H
    have c5b0 : (a0_2 == a1_2) = false := beq_eq_false_iff_ne.mpr c5
    have c5b1 : (a0_2 != a1_2) = true := bne_iff_ne.mpr c5
    obtain rfl := Option.some.inj H
    go_enter Tryz.func84, Tryz.ntmps84
    go_wp2_with (first | ((with_reducible refine gate_dst (N := 2) rfl ?_); refine box_event ?hg (N := 2) ?hd (cs := #[.int .i64 a0_0, .int .i64 a0_1, .int .i64 a0_2, .string a0_3, .slice A0_4 l0_4.length c0_4, .string a0_5, .int .i64 a0_6, .int .i64 a0_7]) (t := 37) ?hr ?_; (case hd => rfl); (case hg => rfl); (case hr => first | (go_simp; done) | (go_simp; rfl) | (go_simp; simp only [wAl, wAr, wSl, wSr, wW])); intro gb110 hg w36 hbox hb; have n0_ := bsA HB hb; have n1_ := Aside0.mk (hbox); have n2_ := szA HB hg; have n3_ := szA HB hg; clear HB; have HB := n0_; have BK110 := n1_; have GW110 := n2_; have GE110 := n3_; clear n0_ n1_ n2_ n3_; clear hb hbox hg) | ((with_reducible refine gate_dst (N := 3) rfl ?_); refine box_event ?hg (N := 3) ?hd (cs := #[.int .i64 a1_0, .int .i64 a1_1, .int .i64 a1_2, .string a1_3, .slice A1_4 l1_4.length c1_4, .string a1_5, .int .i64 a1_6, .int .i64 a1_7]) (t := 37) ?hr ?_; (case hd => rfl); (case hg => rfl); (case hr => first | (go_simp; done) | (go_simp; rfl) | (go_simp; simp only [wAl, wAr, wSl, wSr, wW])); intro gb111 hg w37 hbox hb; have n0_ := bkA BK110 hb; have n1_ := bsA HB hb; have n2_ := Aside0.mk (hbox); have n3_ := szA HB hg; have n4_ := szA HB hg; have n5_ := neA BK110 hg; have n6_ := neB BK110 hg; clear BK110; clear HB; have BK110 := n0_; have HB := n1_; have BK111 := n2_; have GW111 := n3_; have GE111 := n4_; have NB110_111 := n5_; have NB111_110 := n6_; clear n0_ n1_ n2_ n3_ n4_ n5_ n6_; clear hb hbox hg; have hnb38 := NB110_111.out; have hnc38 := NB111_110.out; have hcz39_0 : w37.cell? ⟨gb110, 0, none⟩ = some (.int .i64 a0_0) := (blk_cell BK110.out 0).trans rfl; have hcz39_1 : w37.cell? ⟨gb110, 1, none⟩ = some (.int .i64 a0_1) := (blk_cell BK110.out 1).trans rfl; have hcz39_2 : w37.cell? ⟨gb110, 2, none⟩ = some (.int .i64 a0_2) := (blk_cell BK110.out 2).trans rfl; have hcz39_3 : w37.cell? ⟨gb110, 3, none⟩ = some (.string a0_3) := (blk_cell BK110.out 3).trans rfl; have hcz39_4 : w37.cell? ⟨gb110, 4, none⟩ = some (.slice A0_4 l0_4.length c0_4) := (blk_cell BK110.out 4).trans rfl; have hcz39_5 : w37.cell? ⟨gb110, 5, none⟩ = some (.string a0_5) := (blk_cell BK110.out 5).trans rfl; have hcz39_6 : w37.cell? ⟨gb110, 6, none⟩ = some (.int .i64 a0_6) := (blk_cell BK110.out 6).trans rfl; have hcz39_7 : w37.cell? ⟨gb110, 7, none⟩ = some (.int .i64 a0_7) := (blk_cell BK110.out 7).trans rfl; have hfz39_0 := blk_frozen BK110.out 0; have hfz39_1 := blk_frozen BK110.out 1; have hfz39_2 := blk_frozen BK110.out 2; have hfz39_3 := blk_frozen BK110.out 3; have hfz39_4 := blk_frozen BK110.out 4; have hfz39_5 := blk_frozen BK110.out 5; have hfz39_6 := blk_frozen BK110.out 6; have hfz39_7 := blk_frozen BK110.out 7; have hcz40_0 : w37.cell? ⟨gb111, 0, none⟩ = some (.int .i64 a1_0) := (blk_cell BK111.out 0).trans rfl; have hcz40_1 : w37.cell? ⟨gb111, 1, none⟩ = some (.int .i64 a1_1) := (blk_cell BK111.out 1).trans rfl; have hcz40_2 : w37.cell? ⟨gb111, 2, none⟩ = some (.int .i64 a1_2) := (blk_cell BK111.out 2).trans rfl; have hcz40_3 : w37.cell? ⟨gb111, 3, none⟩ = some (.string a1_3) := (blk_cell BK111.out 3).trans rfl; have hcz40_4 : w37.cell? ⟨gb111, 4, none⟩ = some (.slice A1_4 l1_4.length c1_4) := (blk_cell BK111.out 4).trans rfl; have hcz40_5 : w37.cell? ⟨gb111, 5, none⟩ = some (.string a1_5) := (blk_cell BK111.out 5).trans rfl; have hcz40_6 : w37.cell? ⟨gb111, 6, none⟩ = some (.int .i64 a1_6) := (blk_cell BK111.out 6).trans rfl; have hcz40_7 : w37.cell? ⟨gb111, 7, none⟩ = some (.int .i64 a1_7) := (blk_cell BK111.out 7).trans rfl; have hfz40_0 := blk_frozen BK111.out 0; have hfz40_1 := blk_frozen BK111.out 1; have hfz40_2 := blk_frozen BK111.out 2; have hfz40_3 := blk_frozen BK111.out 3; have hfz40_4 := blk_frozen BK111.out 4; have hfz40_5 := blk_frozen BK111.out 5; have hfz40_6 := blk_frozen BK111.out 6; have hfz40_7 := blk_frozen BK111.out 7))
    go_ret
    exact ⟨by first | rfl | (simp [errW_none, errW_some] <;> rfl) | (simp [*, errW_none, errW_some] <;> rfl), by repeat (first | (with_reducible first | exact HB.out | apply below_alloc | apply pw_below_drewN | apply below_drew1 | refine below_set ?_ GE110.out | refine below_set ?_ GE111.out) | exact HB.out)⟩
  ·rw [if_neg c4] at H
   have c4b0 : (a0_1 == a1_1) = false := beq_eq_false_iff_ne.mpr c4
   have c4b1 : (a0_1 != a1_1) = true := bne_iff_ne.mpr c4
   obtain rfl := Option.some.inj H
   go_enter Tryz.func84, Tryz.ntmps84
   go_wp2_with (first | ((with_reducible refine gate_dst (N := 2) rfl ?_); refine box_event ?hg (N := 2) ?hd (cs := #[.int .i64 a0_0, .int .i64 a0_1, .int .i64 a0_2, .string a0_3, .slice A0_4 l0_4.length c0_4, .string a0_5, .int .i64 a0_6, .int .i64 a0_7]) (t := 37) ?hr ?_; (case hd => rfl); (case hg => rfl); (case hr => first | (go_simp; done) | (go_simp; rfl) | (go_simp; simp only [wAl, wAr, wSl, wSr, wW])); intro gb110 hg w41 hbox hb; have n0_ := bsA HB hb; have n1_ := Aside0.mk (hbox); have n2_ := szA HB hg; have n3_ := szA HB hg; clear HB; have HB := n0_; have BK110 := n1_; have GW110 := n2_; have GE110 := n3_; clear n0_ n1_ n2_ n3_; clear hb hbox hg) | ((with_reducible refine gate_dst (N := 3) rfl ?_); refine box_event ?hg (N := 3) ?hd (cs := #[.int .i64 a1_0, .int .i64 a1_1, .int .i64 a1_2, .string a1_3, .slice A1_4 l1_4.length c1_4, .string a1_5, .int .i64 a1_6, .int .i64 a1_7]) (t := 37) ?hr ?_; (case hd => rfl); (case hg => rfl); (case hr => first | (go_simp; done) | (go_simp; rfl) | (go_simp; simp only [wAl, wAr, wSl, wSr, wW])); intro gb111 hg w42 hbox hb; have n0_ := bkA BK110 hb; have n1_ := bsA HB hb; have n2_ := Aside0.mk (hbox); have n3_ := szA HB hg; have n4_ := szA HB hg; have n5_ := neA BK110 hg; have n6_ := neB BK110 hg; clear BK110; clear HB; have BK110 := n0_; have HB := n1_; have BK111 := n2_; have GW111 := n3_; have GE111 := n4_; have NB110_111 := n5_; have NB111_110 := n6_; clear n0_ n1_ n2_ n3_ n4_ n5_ n6_; clear hb hbox hg; have hnb43 := NB110_111.out; have hnc43 := NB111_110.out; have hcz44_0 : w42.cell? ⟨gb110, 0, none⟩ = some (.int .i64 a0_0) := (blk_cell BK110.out 0).trans rfl; have hcz44_1 : w42.cell? ⟨gb110, 1, none⟩ = some (.int .i64 a0_1) := (blk_cell BK110.out 1).trans rfl; have hcz44_2 : w42.cell? ⟨gb110, 2, none⟩ = some (.int .i64 a0_2) := (blk_cell BK110.out 2).trans rfl; have hcz44_3 : w42.cell? ⟨gb110, 3, none⟩ = some (.string a0_3) := (blk_cell BK110.out 3).trans rfl; have hcz44_4 : w42.cell? ⟨gb110, 4, none⟩ = some (.slice A0_4 l0_4.length c0_4) := (blk_cell BK110.out 4).trans rfl; have hcz44_5 : w42.cell? ⟨gb110, 5, none⟩ = some (.string a0_5) := (blk_cell BK110.out 5).trans rfl; have hcz44_6 : w42.cell? ⟨gb110, 6, none⟩ = some (.int .i64 a0_6) := (blk_cell BK110.out 6).trans rfl; have hcz44_7 : w42.cell? ⟨gb110, 7, none⟩ = some (.int .i64 a0_7) := (blk_cell BK110.out 7).trans rfl; have hfz44_0 := blk_frozen BK110.out 0; have hfz44_1 := blk_frozen BK110.out 1; have hfz44_2 := blk_frozen BK110.out 2; have hfz44_3 := blk_frozen BK110.out 3; have hfz44_4 := blk_frozen BK110.out 4; have hfz44_5 := blk_frozen BK110.out 5; have hfz44_6 := blk_frozen BK110.out 6; have hfz44_7 := blk_frozen BK110.out 7; have hcz45_0 : w42.cell? ⟨gb111, 0, none⟩ = some (.int .i64 a1_0) := (blk_cell BK111.out 0).trans rfl; have hcz45_1 : w42.cell? ⟨gb111, 1, none⟩ = some (.int .i64 a1_1) := (blk_cell BK111.out 1).trans rfl; have hcz45_2 : w42.cell? ⟨gb111, 2, none⟩ = some (.int .i64 a1_2) := (blk_cell BK111.out 2).trans rfl; have hcz45_3 : w42.cell? ⟨gb111, 3, none⟩ = some (.string a1_3) := (blk_cell BK111.out 3).trans rfl; have hcz45_4 : w42.cell? ⟨gb111, 4, none⟩ = some (.slice A1_4 l1_4.length c1_4) := (blk_cell BK111.out 4).trans rfl; have hcz45_5 : w42.cell? ⟨gb111, 5, none⟩ = some (.string a1_5) := (blk_cell BK111.out 5).trans rfl; have hcz45_6 : w42.cell? ⟨gb111, 6, none⟩ = some (.int .i64 a1_6) := (blk_cell BK111.out 6).trans rfl; have hcz45_7 : w42.cell? ⟨gb111, 7, none⟩ = some (.int .i64 a1_7) := (blk_cell BK111.out 7).trans rfl; have hfz45_0 := blk_frozen BK111.out 0; have hfz45_1 := blk_frozen BK111.out 1; have hfz45_2 := blk_frozen BK111.out 2; have hfz45_3 := blk_frozen BK111.out 3; have hfz45_4 := blk_frozen BK111.out 4; have hfz45_5 := blk_frozen BK111.out 5; have hfz45_6 := blk_frozen BK111.out 6; have hfz45_7 := blk_frozen BK111.out 7))
   go_ret
   exact ⟨by first | rfl | (simp [errW_none, errW_some] <;> rfl) | (simp [*, errW_none, errW_some] <;> rfl), by repeat (first | (with_reducible first | exact HB.out | apply below_alloc | apply pw_below_drewN | apply below_drew1 | refine below_set ?_ GE110.out | refine below_set ?_ GE111.out) | exact HB.out)⟩
 ·rw [if_neg c3] at H
  have c3b0 : (a0_0 == a1_0) = false := beq_eq_false_iff_ne.mpr c3
  have c3b1 : (a0_0 != a1_0) = true := bne_iff_ne.mpr c3
  obtain rfl := Option.some.inj H
  go_enter Tryz.func84, Tryz.ntmps84
  go_wp2_with (first | ((with_reducible refine gate_dst (N := 2) rfl ?_); refine box_event ?hg (N := 2) ?hd (cs := #[.int .i64 a0_0, .int .i64 a0_1, .int .i64 a0_2, .string a0_3, .slice A0_4 l0_4.length c0_4, .string a0_5, .int .i64 a0_6, .int .i64 a0_7]) (t := 37) ?hr ?_; (case hd => rfl); (case hg => rfl); (case hr => first | (go_simp; done) | (go_simp; rfl) | (go_simp; simp only [wAl, wAr, wSl, wSr, wW])); intro gb110 hg w46 hbox hb; have n0_ := bsA HB hb; have n1_ := Aside0.mk (hbox); have n2_ := szA HB hg; have n3_ := szA HB hg; clear HB; have HB := n0_; have BK110 := n1_; have GW110 := n2_; have GE110 := n3_; clear n0_ n1_ n2_ n3_; clear hb hbox hg) | ((with_reducible refine gate_dst (N := 3) rfl ?_); refine box_event ?hg (N := 3) ?hd (cs := #[.int .i64 a1_0, .int .i64 a1_1, .int .i64 a1_2, .string a1_3, .slice A1_4 l1_4.length c1_4, .string a1_5, .int .i64 a1_6, .int .i64 a1_7]) (t := 37) ?hr ?_; (case hd => rfl); (case hg => rfl); (case hr => first | (go_simp; done) | (go_simp; rfl) | (go_simp; simp only [wAl, wAr, wSl, wSr, wW])); intro gb111 hg w47 hbox hb; have n0_ := bkA BK110 hb; have n1_ := bsA HB hb; have n2_ := Aside0.mk (hbox); have n3_ := szA HB hg; have n4_ := szA HB hg; have n5_ := neA BK110 hg; have n6_ := neB BK110 hg; clear BK110; clear HB; have BK110 := n0_; have HB := n1_; have BK111 := n2_; have GW111 := n3_; have GE111 := n4_; have NB110_111 := n5_; have NB111_110 := n6_; clear n0_ n1_ n2_ n3_ n4_ n5_ n6_; clear hb hbox hg; have hnb48 := NB110_111.out; have hnc48 := NB111_110.out; have hcz49_0 : w47.cell? ⟨gb110, 0, none⟩ = some (.int .i64 a0_0) := (blk_cell BK110.out 0).trans rfl; have hcz49_1 : w47.cell? ⟨gb110, 1, none⟩ = some (.int .i64 a0_1) := (blk_cell BK110.out 1).trans rfl; have hcz49_2 : w47.cell? ⟨gb110, 2, none⟩ = some (.int .i64 a0_2) := (blk_cell BK110.out 2).trans rfl; have hcz49_3 : w47.cell? ⟨gb110, 3, none⟩ = some (.string a0_3) := (blk_cell BK110.out 3).trans rfl; have hcz49_4 : w47.cell? ⟨gb110, 4, none⟩ = some (.slice A0_4 l0_4.length c0_4) := (blk_cell BK110.out 4).trans rfl; have hcz49_5 : w47.cell? ⟨gb110, 5, none⟩ = some (.string a0_5) := (blk_cell BK110.out 5).trans rfl; have hcz49_6 : w47.cell? ⟨gb110, 6, none⟩ = some (.int .i64 a0_6) := (blk_cell BK110.out 6).trans rfl; have hcz49_7 : w47.cell? ⟨gb110, 7, none⟩ = some (.int .i64 a0_7) := (blk_cell BK110.out 7).trans rfl; have hfz49_0 := blk_frozen BK110.out 0; have hfz49_1 := blk_frozen BK110.out 1; have hfz49_2 := blk_frozen BK110.out 2; have hfz49_3 := blk_frozen BK110.out 3; have hfz49_4 := blk_frozen BK110.out 4; have hfz49_5 := blk_frozen BK110.out 5; have hfz49_6 := blk_frozen BK110.out 6; have hfz49_7 := blk_frozen BK110.out 7; have hcz50_0 : w47.cell? ⟨gb111, 0, none⟩ = some (.int .i64 a1_0) := (blk_cell BK111.out 0).trans rfl; have hcz50_1 : w47.cell? ⟨gb111, 1, none⟩ = some (.int .i64 a1_1) := (blk_cell BK111.out 1).trans rfl; have hcz50_2 : w47.cell? ⟨gb111, 2, none⟩ = some (.int .i64 a1_2) := (blk_cell BK111.out 2).trans rfl; have hcz50_3 : w47.cell? ⟨gb111, 3, none⟩ = some (.string a1_3) := (blk_cell BK111.out 3).trans rfl; have hcz50_4 : w47.cell? ⟨gb111, 4, none⟩ = some (.slice A1_4 l1_4.length c1_4) := (blk_cell BK111.out 4).trans rfl; have hcz50_5 : w47.cell? ⟨gb111, 5, none⟩ = some (.string a1_5) := (blk_cell BK111.out 5).trans rfl; have hcz50_6 : w47.cell? ⟨gb111, 6, none⟩ = some (.int .i64 a1_6) := (blk_cell BK111.out 6).trans rfl; have hcz50_7 : w47.cell? ⟨gb111, 7, none⟩ = some (.int .i64 a1_7) := (blk_cell BK111.out 7).trans rfl; have hfz50_0 := blk_frozen BK111.out 0; have hfz50_1 := blk_frozen BK111.out 1; have hfz50_2 := blk_frozen BK111.out 2; have hfz50_3 := blk_frozen BK111.out 3; have hfz50_4 := blk_frozen BK111.out 4; have hfz50_5 := blk_frozen BK111.out 5; have hfz50_6 := blk_frozen BK111.out 6; have hfz50_7 := blk_frozen BK111.out 7))
  go_ret
  exact ⟨by first | rfl | (simp [errW_none, errW_some] <;> rfl) | (simp [*, errW_none, errW_some] <;> rfl), by repeat (first | (with_reducible first | exact HB.out | apply below_alloc | apply pw_below_drewN | apply below_drew1 | refine below_set ?_ GE110.out | refine below_set ?_ GE111.out) | exact HB.out)⟩
end Go.Proofs.YtehaodbheifokaaGreatDoor.P
end
section
namespace Go.Proofs.YtehaodbheifokaaGreatDoor.Pure
open Go Go.RowKit Go.Proofs.YtehaodbheifokaaGreatDoorW.PrintWords Go.Proofs.YtehaodbheifokaaGreatDoorW.PrintLast Go.Proofs.YtehaodbheifokaaGreatDoorW.PrintMore Go.Proofs.YtehaodbheifokaaGreatDoor.P
def inK (c : Int) : Bool := decide (97 ≤ c ∧ c ≤ 122) || decide (65 ≤ c ∧ c ≤ 90) || decide (48 ≤ c ∧ c ≤ 57) || decide (c = 95) || decide (c = 46) || decide (c = 45)
theorem inK_true {c : Int} : inK c = true ↔ (97 ≤ c ∧ c ≤ 122) ∨ (65 ≤ c ∧ c ≤ 90) ∨ (48 ≤ c ∧ c ≤ 57) ∨ c = 95 ∨ c = 46 ∨ c = 45 := by
 unfold inK
 simp only [Bool.or_eq_true, decide_eq_true_eq]
 omega
theorem inKey_f (k : Nat) (c : Int) : field_inKey.f (k + 2) c = some (inK c) := by
 have h : field_inKey.f (k + 2) c = some true ∧ inK c = true ∨ field_inKey.f (k + 2) c = some false ∧ ¬ inK c = true := by
  rw [inK_true]
  simp only [field_inKey.f, field_inKey.j0, field_inKey.j1, decide_eq_true_eq]
  repeat' split
  all_goals first | (left; exact ⟨rfl, by omega⟩) | (right; exact ⟨rfl, by omega⟩) | skip
  all_goals (by_cases e : c = 45 <;> simp_all <;> omega)
 rcases h with ⟨h1, h2⟩ | ⟨h1, h2⟩
 ·rw [h1, h2]
 ·rw [h1, Bool.eq_false_iff.mpr h2]
def keyFrom (s : ByteArray) (i : Nat) : Bool := (List.range' i (s.size - i)).all fun (j : Nat) => inK (bt s (j : Int))
def keyB (s : ByteArray) : Bool := keyFrom s 0 && decide (1 ≤ s.size ∧ s.size ≤ 32)
theorem keyFrom_end (s : ByteArray) : keyFrom s s.size = true := by unfold keyFrom; rw [Nat.sub_self]; rfl
theorem keyFrom_step (s : ByteArray) (i : Nat) (h : i < s.size) : keyFrom s i = (inK (bt s (i : Int)) && keyFrom s (i + 1)) := by
 unfold keyFrom
 obtain ⟨d, hd⟩ : ∃ d, s.size - i = d + 1 := ⟨s.size - i - 1, by omega⟩
 rw [hd, show s.size - (i + 1) = d by omega, List.range'_succ, List.all_cons]
theorem isKey_loop (s : ByteArray) (hs : s.size ≤ 9223372036854775807) : ∀ (d i k : Nat), i + d = s.size → d + 3 ≤ k → field_IsKey.l0 k s (s.size : Int) (i : Int) = some (keyFrom s i && decide (1 ≤ s.size ∧ s.size ≤ 32))
 | 0, i, k, hi, hk => by
  obtain rfl : i = s.size := by omega
  obtain ⟨k, rfl⟩ : ∃ m, k = m + 1 := ⟨k - 1, by omega⟩
  rw [keyFrom_end, Bool.true_and]
  simp only [field_IsKey.l0]
  rw [if_neg (by omega)]
  by_cases h0 : (s.size : Int) > 0
  ·rw [if_pos h0]
   congr 1
   exact decide_eq_decide.2 (by omega)
  ·rw [if_neg h0]
   congr 1
   exact (decide_eq_false (by omega)).symm
 | d + 1, i, k, hi, hk => by
  obtain ⟨m, rfl⟩ : ∃ m, k = (m + 2) + 1 := ⟨k - 3, by omega⟩
  have ih := isKey_loop s hs d (i + 1) (m + 2) (by omega) (by omega)
  rw [keyFrom_step s i (by omega)]
  cases hc : inK (bt s (i : Int)) with
  | false =>
   simp only [field_IsKey.l0]
   rw [if_pos (by omega), if_pos (by omega), if_pos (by omega), inKey_f, hc]
   rfl
  | true =>
   rw [Bool.true_and]
   simp only [field_IsKey.l0]
   rw [if_pos (by omega), if_pos (by omega), if_pos (by omega), inKey_f, hc, Option.bind_some, if_pos rfl, wrap_in (by omega) (by omega), show ((i : Int) + 1) = ((i + 1 : Nat) : Int) by omega]
   exact ih
theorem isKey_f (s : ByteArray) (hs : s.size ≤ 9223372036854775807) (k : Nat) (hk : s.size + 3 ≤ k) : field_IsKey.f k s = some (keyB s) := isKey_loop s hs s.size 0 k (by omega) hk
end Go.Proofs.YtehaodbheifokaaGreatDoor.Pure
end
section
namespace Go.Proofs.YtehaodbheifokaaGreatDoor.P
open Go Go.RowKit Go.Proofs.YtehaodbheifokaaGreatDoorW.PrintWords Go.Proofs.YtehaodbheifokaaGreatDoorW.PrintLast Go.Proofs.YtehaodbheifokaaGreatDoorW.PrintMore
def jump2 (J0 J1 : Act → World → Prop) (Q : Exit → Act → World → Prop) : Exit → Act → World → Prop
  | .goto l', a, w => (l' = 0 ∧ J0 a w) ∨ (l' = 1 ∧ J1 a w)
  | e, a, w => Q e a w
theorem wp_scope_two {P : Program} {a : Act} {w : World} {Q : Exit → Act → World → Prop} {c r0 r1 : Code} (J0 J1 : Act → World → Prop) (m0 m1 : Act → Nat) (hf0 : findLabel c 0 = some r0) (hf1 : findLabel c 1 = some r1)
    (pass0 : ∀ a w, J0 a w → r0.wp P (jump2 (fun a' w' => J0 a' w' ∧ m0 a' < m0 a) (fun a' w' => J1 a' w' ∧ m1 a' < m0 a) Q) a w)
    (pass1 : ∀ a w, J1 a w → r1.wp P (jump2 (fun a' w' => J0 a' w' ∧ m0 a' < m1 a) (fun a' w' => J1 a' w' ∧ m1 a' < m1 a) Q) a w)
    (first : (∀ a w, J0 a w → r0.wp P (jump2 J0 J1 Q) a w) → c.wp P (jump2 J0 J1 Q) a w) : (Code.scope c).wp P Q a w := by
  replace first := first fun a w hJ b k cs => by
    obtain ⟨e, a₁, w₁, hq, harr⟩ := pass0 a w hJ b k cs
    refine ⟨e, a₁, w₁, ?_, harr⟩
    cases e with
    | goto l' => exact hq.imp (fun h => ⟨h.1, h.2.1⟩) (fun h => ⟨h.1, h.2.1⟩)
    | normal => exact hq
    | exit id => exact hq
    | ret => exact hq
    | panic ch => exact hq
    | outgrown => exact hq
  intro b k cs
  have hg0 : gotoIn 0 (.inScope c :: k) = some (.code r0 :: .inScope c :: k) := by simp [gotoIn, hf0]
  have hg1 : gotoIn 1 (.inScope c :: k) = some (.code r1 :: .inScope c :: k) := by simp [gotoIn, hf1]
  have key : ∀ n a w, (m0 a = n → J0 a w → ∃ e a' w', Q e a' w' ∧ Arrives P (lone (b.at a (.code r0 :: .inScope c :: k)) cs w) b k cs e a' w') ∧ (m1 a = n → J1 a w → ∃ e a' w', Q e a' w' ∧ Arrives P (lone (b.at a (.code r1 :: .inScope c :: k)) cs w) b k cs e a' w') := by
    intro n
    induction n using Nat.strongRecOn with
    | _ n ih =>
      intro a w
      constructor
      · intro hn hJ
        obtain ⟨e, a₁, w₁, hq, harr⟩ := pass0 a w hJ b (.inScope c :: k) cs
        cases e with
        | normal => exact ⟨.normal, a₁, w₁, hq, Steps.trans harr (.one step_inScope)⟩
        | exit id => exact ⟨.exit id, a₁, w₁, hq, fun k' hk => harr k' (by simp [exitTo, hk])⟩
        | goto l' =>
          obtain ⟨rfl, hJ', hlt⟩ | ⟨rfl, hJ', hlt⟩ := hq
          · obtain ⟨e₂, a₂, w₂, hq₂, harr₂⟩ := (ih _ (by omega) a₁ w₁).1 rfl hJ'
            exact ⟨e₂, a₂, w₂, hq₂, .of_steps (harr _ hg0) harr₂⟩
          · obtain ⟨e₂, a₂, w₂, hq₂, harr₂⟩ := (ih _ (by omega) a₁ w₁).2 rfl hJ'
            exact ⟨e₂, a₂, w₂, hq₂, .of_steps (harr _ hg1) harr₂⟩
        | ret => exact ⟨_, a₁, w₁, hq, harr⟩
        | panic ch => exact ⟨_, a₁, w₁, hq, harr⟩
        | outgrown => exact ⟨_, a₁, w₁, hq, harr⟩
      · intro hn hJ
        obtain ⟨e, a₁, w₁, hq, harr⟩ := pass1 a w hJ b (.inScope c :: k) cs
        cases e with
        | normal => exact ⟨.normal, a₁, w₁, hq, Steps.trans harr (.one step_inScope)⟩
        | exit id => exact ⟨.exit id, a₁, w₁, hq, fun k' hk => harr k' (by simp [exitTo, hk])⟩
        | goto l' =>
          obtain ⟨rfl, hJ', hlt⟩ | ⟨rfl, hJ', hlt⟩ := hq
          · obtain ⟨e₂, a₂, w₂, hq₂, harr₂⟩ := (ih _ (by omega) a₁ w₁).1 rfl hJ'
            exact ⟨e₂, a₂, w₂, hq₂, .of_steps (harr _ hg0) harr₂⟩
          · obtain ⟨e₂, a₂, w₂, hq₂, harr₂⟩ := (ih _ (by omega) a₁ w₁).2 rfl hJ'
            exact ⟨e₂, a₂, w₂, hq₂, .of_steps (harr _ hg1) harr₂⟩
        | ret => exact ⟨_, a₁, w₁, hq, harr⟩
        | panic ch => exact ⟨_, a₁, w₁, hq, harr⟩
        | outgrown => exact ⟨_, a₁, w₁, hq, harr⟩
  obtain ⟨e, a₁, w₁, hq, harr⟩ := first b (.inScope c :: k) cs
  cases e with
  | normal => exact ⟨.normal, a₁, w₁, hq, .head step_scope (Steps.trans harr (.one step_inScope))⟩
  | exit id => exact ⟨.exit id, a₁, w₁, hq, fun k' hk => .head step_scope (harr k' (by simp [exitTo, hk]))⟩
  | goto l' =>
    obtain ⟨rfl, hJ'⟩ | ⟨rfl, hJ'⟩ := hq
    · obtain ⟨e₂, a₂, w₂, hq₂, harr₂⟩ := (key _ a₁ w₁).1 rfl hJ'
      exact ⟨e₂, a₂, w₂, hq₂, .of_steps (.head step_scope (harr _ hg0)) harr₂⟩
    · obtain ⟨e₂, a₂, w₂, hq₂, harr₂⟩ := (key _ a₁ w₁).2 rfl hJ'
      exact ⟨e₂, a₂, w₂, hq₂, .of_steps (.head step_scope (harr _ hg1)) harr₂⟩
  | ret => exact ⟨_, a₁, w₁, hq, .of_steps (.one step_scope) harr⟩
  | panic ch => exact ⟨_, a₁, w₁, hq, .of_steps (.one step_scope) harr⟩
  | outgrown => exact ⟨_, a₁, w₁, hq, .of_steps (.one step_scope) harr⟩
def inB (c : Int) : Bool := decide (97 ≤ c ∧ c ≤ 122) || decide (65 ≤ c ∧ c ≤ 90) || decide (48 ≤ c ∧ c ≤ 57) || decide (128 ≤ c)
def lowB (c : Int) : Int := if 65 ≤ c ∧ c ≤ 90 then c + 32 else c
theorem in_f (c : Int) : token_in.f 2 c = some (inB c) := by
  unfold token_in.f inB
  by_cases a : 97 ≤ c <;> by_cases b : c ≤ 122 <;> by_cases d : 65 ≤ c <;> by_cases e : c ≤ 90 <;> by_cases f : 48 ≤ c <;> by_cases g : c ≤ 57 <;> by_cases h : 128 ≤ c <;> first | omega | simp [token_in.j0, token_in.j1, a, b, d, e, f, g, h]
theorem low_f (c : Int) (h : c < 256) : token_lower.f c = some (lowB c) := by
  unfold token_lower.f lowB
  repeat' split
  all_goals (try simp only [Option.some.injEq])
  all_goals omega
def finT (r : List Int) : List Int := if r.length > 64 then [] else r
def cutS : Option (List Int) → List Int → List (List Int)
  | none, [] => []
  | some r, [] => [finT r]
  | none, c :: l => if inB c = true then cutS (some [lowB c]) l else cutS none l
  | some r, c :: l => if inB c = true then cutS (some (r ++ [lowB c])) l else finT r :: cutS none l
def bT (t : List Int) : ByteArray := ⟨(t.map (fun x => UInt8.ofNat x.toNat)).toArray⟩
def tokV (j : Nat) (t : List Int) : List Value := [.int .i64 (j : Int), .string (bT t)]
def flatT (ts : List (List Int)) : List Value := (ts.zipIdx.map (fun x => tokV x.2 x.1)).flatten
theorem flatT_snoc (ts : List (List Int)) (t : List Int) : flatT (ts ++ [t]) = flatT ts ++ tokV ts.length t := by
  unfold flatT
  rw [List.zipIdx_append]
  simp
theorem own_emptied {w : World} {base : Nat} {e : TypeId} {A : Option Addr} {n c : Nat} {xs : List Value} (h : w.ownsRow base e 1 (.slice A n c) n xs) : w.ownsRow base e 1 (.slice A 0 c) 0 [] := by
  refine ⟨by simp, ?_⟩
  obtain ⟨_, h2 | ⟨g, cap, cur, hv, hg, hb, hn, hm, hs, ht⟩⟩ := h
  · left
    obtain ⟨h3, _⟩ := h2
    cases h3
    exact ⟨rfl, rfl⟩
  · right
    cases hv
    exact ⟨g, c, cur, rfl, hg, hb, Nat.zero_le _, hm, hs, by simp⟩
theorem own_sl {w : World} {base : Nat} {e : TypeId} {size n : Nat} {v : Value} {xs : List Value} (h : w.ownsRow base e size v n xs) : ∃ A c, v = .slice A n c ∧ n ≤ c := by
  rcases h.2 with ⟨rfl, rfl⟩ | ⟨g, cap, cur, rfl, _, _, h, _⟩
  · exact ⟨_, _, rfl, Nat.le_refl _⟩
  · exact ⟨_, _, rfl, h⟩
theorem own_bel {w w1 : World} {base : Nat} {e : TypeId} {size n : Nat} {v : Value} {xs : List Value} (h : w.ownsRow base e size v n xs) (hb : Below w.heap.size w w1) : w1.ownsRow base e size v n xs := by
  refine ⟨h.1, ?_⟩
  rcases h.2 with h2 | ⟨g, cap, cur, hv, hg, hbk, h3⟩
  · exact .inl h2
  · exact .inr ⟨g, cap, cur, hv, hg, (hb.block g (blk_lt hbk)).trans hbk, h3⟩
theorem conv_own {w : World} {base : Nat} {A : Option Addr} {c : Nat} {r : List Int} (h : w.ownsRow base 5 1 (.slice A r.length c) r.length (r.map (Value.int .u8))) (hb : ∀ x ∈ r, 0 ≤ x ∧ x < 256) :
    (convert 25 9 (.slice A r.length c)).run Tryz.prog w = .ok (.string (bT r)) w := by
  rcases h.2 with ⟨h1, h2⟩ | ⟨g, cap, cur, hv, _, hk, hle, _, hsz, ht⟩
  · have hr : r = [] := List.eq_nil_of_length_eq_zero h2
    subst hr
    cases h1
    exact Lib.run_convert_nil_bytes w 25 9 5 0 Tryz.underlying25 Tryz.underlying5 Tryz.underlying9
  · cases hv
    have hl : (r.map (fun x => UInt8.ofNat x.toNat)).length = r.length := by simp
    have key := run_convert_bytes_back (P := Tryz.prog) w 25 9 5 ⟨g, 0, none⟩ c (r.map (fun x => UInt8.ofNat x.toNat)) Tryz.underlying25 Tryz.underlying5 Tryz.underlying9 (fun j hj => by
      rw [hl] at hj
      rw [WideShapes.add_plain, Nat.zero_add, blk_cell hk]
      have e1 : (cur.toList.take (r.length * 1))[j]? = some (.int .u8 r[j]) := by rw [ht]; simp [hj]
      rw [List.getElem?_take_of_lt (by omega)] at e1
      rw [← Array.getElem?_toList, e1]
      have hx := hb r[j] (List.getElem_mem hj)
      congr 2
      simp only [List.getElem_map, UInt8.toNat_ofNat']
      omega)
    rw [hl] at key
    exact key
theorem tok_cells (w : World) (cs : List Value) (t : TypeId) : ∀ (j : Nat) u, cs[j]? = some u → (w.alloc (.cells cs.toArray t)).cell? ((⟨w.heap.size, 0, none⟩ : Addr).add j) = some u := fun j u h => by
  rw [WideShapes.add_plain, Nat.zero_add, blk_cell (blk_new w _)]
  simpa using h
theorem gTok : (Tryz.prog.info? 118).map (fun i => (i.zero, i.size, i.bytes)) = some (some (.agg #[.int .i64 0, .string ⟨#[]⟩]), 2, 24) := by kernel_rfl
theorem gByte : (Tryz.prog.info? 5).map (fun i => (i.zero, i.size, i.bytes)) = some (some (.int .u8 0), 1, 1) := by kernel_rfl
def iOf (a : Act) : Nat := match a.tmps.getD 5 undef with | .int _ q => q.toNat | _ => 0
def m0 (l : List Int) (a : Act) : Nat := 4 * (l.length - iOf a) + 1
def m1 (l : List Int) (a : Act) : Nat := if iOf a < l.length ∧ inB (l.getD (iOf a) 0) = true then 4 * (l.length - iOf a) else 4 * (l.length - iOf a) + 2
structure CutIn (w : World) (l : List Int) (toks : List (List Int)) (r : List Int) (i : Nat) (v3 v4 : Value) (w' : World) : Prop where
  own3 : w'.ownsRow w.heap.size 118 2 v3 toks.length (flatT toks)
  own4 : w'.ownsRow w.heap.size 5 1 v4 r.length (r.map (Value.int .u8))
  le : i ≤ l.length
  rl : r.length ≤ i
  rb : ∀ x ∈ r, 0 ≤ x ∧ x < 256
  bel : Below w.heap.size w w'
theorem CutIn.below {w w1 w2 : World} {l : List Int} {toks : List (List Int)} {r : List Int} {i : Nat} {v3 v4 : Value} (h : CutIn w l toks r i v3 v4 w1) (hb : Below w1.heap.size w1 w2) : CutIn w l toks r i v3 v4 w2 :=
  ⟨own_bel h.own3 hb, own_bel h.own4 hb, h.le, h.rl, h.rb, below_step h.bel hb⟩
theorem cutS_len : ∀ (l : List Int), (cutS none l).length ≤ l.length ∧ ∀ r, (cutS (some r) l).length ≤ l.length + 1
  | [] => ⟨by simp [cutS], fun r => by simp [cutS]⟩
  | c :: l => by
    obtain ⟨h0, h1⟩ := cutS_len l
    refine ⟨?_, fun r => ?_⟩
    · simp only [cutS]
      split
      · have := h1 [lowB c]; simp only [List.length_cons]; omega
      · simp only [List.length_cons]; omega
    · simp only [cutS]
      split
      · have := h1 (r ++ [lowB c]); simp only [List.length_cons]; omega
      · simp only [List.length_cons]; omega
theorem own_apart {w : World} {b1 b2 : Nat} {e1 e2 : TypeId} {s1 s2 n1 n2 : Nat} {v1 v2 : Value} {xs ys : List Value} (h1 : w.ownsRow b1 e1 s1 v1 n1 xs) (h2 : w.ownsRow b2 e2 s2 v2 n2 ys) (hne : e1 ≠ e2) : v1.ownBlock = none ∨ v1.ownBlock ≠ v2.ownBlock := by
  rcases h1.2 with ⟨rfl, _⟩ | ⟨g, cap, cur, rfl, _, hg, _⟩
  · exact .inl rfl
  · right
    rcases h2.2 with ⟨rfl, _⟩ | ⟨g', cap', cur', rfl, _, hg', _⟩
    · simp [Value.ownBlock]
    · intro e
      have : g = g' := by simpa [Value.ownBlock] using e
      subst this
      rw [hg] at hg'
      cases hg'
      exact hne rfl
theorem CutIn.put4 {w w3 w4 : World} {l : List Int} {toks : List (List Int)} {r : List Int} {i : Nat} {v3 v4 v' : Value} {x : Int} {o : Obj} (h : CutIn w l toks r i v3 v4 w3) (hi : i < l.length) (hx : 0 ≤ x ∧ x < 256)
    (hown : w4.ownsRow w.heap.size 5 1 v' (r.length + 1) (r.map (Value.int .u8) ++ [.int .u8 x])) (hg : (w3.alloc o).grownBy w4 v4.ownBlock) : CutIn w l toks (r ++ [x]) (i + 1) v3 v' w4 := by
  refine ⟨(h.own3.alloc o).kept hg (own_apart h.own3 h.own4 (by decide)), ?_, by omega, ?_, ?_, ?_⟩
  · simpa using hown
  · have := h.rl
    simp
    omega
  · intro y hy
    rcases List.mem_append.1 hy with hy | hy
    · exact h.rb y hy
    · obtain rfl := List.mem_singleton.1 hy
      exact hx
  · exact (h.bel.alloc h.bel.size o).grown hg (by have := h.bel.size; simp; omega) (fun j ej => own_base h.own4 j ej)
theorem CutIn.put3 {w w3 w4 : World} {l : List Int} {toks : List (List Int)} {r r' t : List Int} {i : Nat} {v3 v4 v4' v' : Value} {o : Obj} (h : CutIn w l toks r i v3 v4 w3) (h4 : w3.ownsRow w.heap.size 5 1 v4' r'.length (r'.map (Value.int .u8))) (hr : r' = [] ∨ r' = r)
    (hown : w4.ownsRow w.heap.size 118 2 v' (toks.length + 1) (flatT toks ++ tokV toks.length t)) (hg : (w3.alloc o).grownBy w4 v3.ownBlock) : CutIn w l (toks ++ [t]) r' i v' v4' w4 := by
  refine ⟨?_, (h4.alloc o).kept hg (own_apart h4 h.own3 (by decide)), h.le, ?_, ?_, ?_⟩
  · rw [flatT_snoc]
    simpa using hown
  · rcases hr with rfl | rfl
    · exact Nat.zero_le _
    · exact h.rl
  · rcases hr with rfl | rfl
    · simp
    · exact h.rb
  · exact (h.bel.alloc h.bel.size o).grown hg (by have := h.bel.size; simp; omega) (fun j ej => own_base h.own3 j ej)
def J0 (A : Option Addr) (c : Nat) (w : World) (l : List Int) : Act → World → Prop := fun a' w' => ∃ (v3 v4 : Value) (toks : List (List Int)) (r : List Int) (i : Nat) (u6 u7 u8 u9 u10 u11 u12 u13 u14 u15 u16 u17 u18 u19 u20 u21 u22 u23 u24 u25 u26 u27 u28 u29 u30 u31 u32 u33 u34 u35 u36 u37 u38 u39 u40 u41 u42 u43 u44 u45 u46 u47 u48 u49 u50 u51 u52 u53 : Value), a' = { tmps := #[.slice A l.length c, undef, .slice none 0 0, v3, v4, .int .i64 (i : Int), u6, u7, u8, u9, u10, u11, u12, u13, u14, u15, u16, u17, u18, u19, u20, u21, u22, u23, u24, u25, u26, u27, u28, u29, u30, u31, u32, u33, u34, u35, u36, u37, u38, u39, u40, u41, u42, u43, u44, u45, u46, u47, u48, u49, u50, u51, u52, u53], defers := [] } ∧ CutIn w l toks r i v3 v4 w' ∧ toks ++ cutS none (l.drop i) = cutS none l
def J1 (A : Option Addr) (c : Nat) (w : World) (l : List Int) : Act → World → Prop := fun a' w' => ∃ (v3 v4 : Value) (toks : List (List Int)) (r : List Int) (i : Nat) (u6 u7 u8 u9 u10 u11 u12 u13 u14 u15 u16 u17 u18 u19 u20 u21 u22 u23 u24 u25 u26 u27 u28 u29 u30 u31 u32 u33 u34 u35 u36 u37 u38 u39 u40 u41 u42 u43 u44 u45 u46 u47 u48 u49 u50 u51 u52 u53 : Value), a' = { tmps := #[.slice A l.length c, undef, .slice none 0 0, v3, v4, .int .i64 (i : Int), u6, u7, u8, u9, u10, u11, u12, u13, u14, u15, u16, u17, u18, u19, u20, u21, u22, u23, u24, u25, u26, u27, u28, u29, u30, u31, u32, u33, u34, u35, u36, u37, u38, u39, u40, u41, u42, u43, u44, u45, u46, u47, u48, u49, u50, u51, u52, u53], defers := [] } ∧ CutIn w l toks r i v3 v4 w' ∧ toks ++ cutS (some r) (l.drop i) = cutS none l
theorem token_Cut.calls (l : List Int) (A : Option Addr) (c : Nat) (w : World) (hC : (Kd.int .u8).C w A l.length l) (hc : l.length ≤ c) (hb : ∀ x ∈ l, 0 ≤ x ∧ x < 256) (hn : l.length ≤ 1099511627776) :
    Calls Tryz.prog 107 #[.slice A l.length c] w fun e w' => ∃ v, e = .returned v ∧ w'.ownsRow w.heap.size 118 2 v (cutS none l).length (flatT (cutS none l)) ∧ Below w.heap.size w w' := by
  go_enter Tryz.func107, Tryz.ntmps107
  go_wp2_with fail
  refine wp_scope_two (J0 A c w l) (J1 A c w l) (m0 l) (m1 l) rfl rfl ?pass0 ?pass1 ?first
  case pass0 =>
    rintro a' w' ⟨v3, v4, toks, r, i, u6, u7, u8, u9, u10, u11, u12, u13, u14, u15, u16, u17, u18, u19, u20, u21, u22, u23, u24, u25, u26, u27, u28, u29, u30, u31, u32, u33, u34, u35, u36, u37, u38, u39, u40, u41, u42, u43, u44, u45, u46, u47, u48, u49, u50, u51, u52, u53, rfl, hI, htot⟩
    by_cases hi2 : i = l.length
    · have d0 : ((i : Int) == (l.length : Int)) = true := by rw [hi2]; exact beq_self_eq_true _
      have HI := Aside0.mk hI
      have HT : toks = cutS none l := by rw [hi2, List.drop_length] at htot; simpa [cutS] using htot
      clear hI htot
      go_wp2_with fail
      simp only [jump2]
      go_ret
      exact ⟨v3, rfl, by rw [← HT]; exact HI.out.own3, HI.out.bel⟩
    · have d0 : ((i : Int) == (l.length : Int)) = false := beq_eq_false_iff_ne.2 (by omega)
      have hil : i < l.length := by have := hI.le; omega
      obtain ⟨ad, rfl, hx⟩ := Kd.at_int (Kd.C_below hC hI.bel) (i : Int) (by omega) (by omega)
      have hp : 0 ≤ (i : Int) := by omega
      have hq : (i : Int) < (l.length : Int) := by omega
      obtain ⟨x, hxe⟩ : ∃ x, rd l (i : Int) = x := ⟨_, rfl⟩
      have hdr : l.drop i = x :: l.drop (i + 1) := by
        rw [List.drop_eq_getElem_cons hil]
        congr 1
        rw [← hxe]
        simp [rd, List.getD, hil]
      rw [hxe, Int.toNat_natCast] at hx
      rw [hdr] at htot
      have hxm : x ∈ l := by have : x ∈ l.drop i := by rw [hdr]; exact List.mem_cons_self; 
                             exact List.mem_of_mem_drop this
      obtain ⟨A4, c4, rfl, hc4⟩ := own_sl hI.own4
      have hgx : l.getD i 0 = x := by rw [← hxe]; simp [rd]
      have HI := Aside0.mk hI
      have HT := Aside0.mk htot
      have HD := Aside0.mk hdr
      clear hI htot hdr
      replace hp := eq_true hp
      replace hq := eq_true hq
      go_wp2_with fail
      refine (token_in.calls 2 x (inB x) _ (in_f x)).mono ?_
      rintro e w2 ⟨rfl, hd⟩
      have HI2 := Aside0.mk (HI.out.below hd.below)
      clear hd
      cases hin : inB x
      · go_wp2_with fail
        go_step3
        have e1 : (i : Int) + 1 = ((i + 1 : Nat) : Int) := rfl
        rw [e1]
        refine Or.inl ⟨rfl, ⟨v3, _, toks, r, i + 1, _, _, _, _, _, _, _, _, _, _, _, _, _, _, _, _, _, _, _, _, _, _, _, _, _, _, _, _, _, _, _, _, _, _, _, _, _, _, _, _, _, _, _, _, _, _, _, _, rfl, ⟨HI2.out.own3, HI2.out.own4, by omega, by have := HI2.out.rl; omega, HI2.out.rb, HI2.out.bel⟩, ?_⟩, ?_⟩
        · rw [← HT.out]
          simp only [cutS, hin, Bool.false_eq_true, if_false]
        · show 4 * (l.length - ((i + 1 : Nat) : Int).toNat) + 1 < 4 * (l.length - (i : Int).toNat) + 1
          omega
      · go_wp2_with fail
        go_step3
        refine Or.inr ⟨rfl, ⟨v3, _, toks, [], i, _, _, _, _, _, _, _, _, _, _, _, _, _, _, _, _, _, _, _, _, _, _, _, _, _, _, _, _, _, _, _, _, _, _, _, _, _, _, _, _, _, _, _, _, _, _, _, _, rfl, ⟨HI2.out.own3, own_emptied HI2.out.own4, by omega, Nat.zero_le _, by simp, HI2.out.bel⟩, ?_⟩, ?_⟩
        · rw [← HT.out, HD.out]
          simp only [cutS, hin, if_true, List.nil_append]
        · show (if (i : Int).toNat < l.length ∧ inB (l.getD (i : Int).toNat 0) = true then 4 * (l.length - (i : Int).toNat) else 4 * (l.length - (i : Int).toNat) + 2) < 4 * (l.length - (i : Int).toNat) + 1
          rw [Int.toNat_natCast, hgx, if_pos ⟨hil, hin⟩]
          omega
  case pass1 =>
    rintro a' w' ⟨v3, v4, toks, r, i, u6, u7, u8, u9, u10, u11, u12, u13, u14, u15, u16, u17, u18, u19, u20, u21, u22, u23, u24, u25, u26, u27, u28, u29, u30, u31, u32, u33, u34, u35, u36, u37, u38, u39, u40, u41, u42, u43, u44, u45, u46, u47, u48, u49, u50, u51, u52, u53, rfl, hI, htot⟩
    obtain ⟨A4, c4, rfl, hc4⟩ := own_sl hI.own4
    by_cases hil : i < l.length
    · obtain ⟨ad, rfl, hx⟩ := Kd.at_int (Kd.C_below hC hI.bel) (i : Int) (by omega) (by omega)
      have hp : 0 ≤ (i : Int) := by omega
      have hq : (i : Int) < (l.length : Int) := by omega
      obtain ⟨x, hxe⟩ : ∃ x, rd l (i : Int) = x := ⟨_, rfl⟩
      have hdr : l.drop i = x :: l.drop (i + 1) := by
        rw [List.drop_eq_getElem_cons hil]
        congr 1
        rw [← hxe]
        simp [rd, List.getD, hil]
      rw [hxe, Int.toNat_natCast] at hx
      rw [hdr] at htot
      have hxm : x ∈ l := by have : x ∈ l.drop i := by rw [hdr]; exact List.mem_cons_self; 
                             exact List.mem_of_mem_drop this
      have hgx : l.getD i 0 = x := by rw [← hxe]; simp [rd]
      have HI := Aside0.mk hI
      have HT := Aside0.mk htot
      have HD := Aside0.mk hdr
      clear hI htot hdr
      have d0 : decide ((i : Int) < (l.length : Int)) = true := decide_eq_true hq
      replace hp := eq_true hp
      replace hq := eq_true hq
      go_wp2_with fail
      refine (token_in.calls 2 x (inB x) _ (in_f x)).mono ?_
      rintro e w2 ⟨rfl, hd⟩
      have HI2 := Aside0.mk (HI.out.below hd.below)
      have hx2 := (hd.below.cell (World.block_lt_of_cell? _ _ hx)).trans hx
      clear hd hx
      cases hin : inB x
      · have finish : toks ++ (finT r :: cutS none (l.drop i)) = cutS none l := by
          rw [← HT.out, HD.out]
          simp only [cutS, hin, Bool.false_eq_true, if_false]
        have HNI := Aside0.mk (show ¬ (i < l.length ∧ inB (l.getD i 0) = true) by rw [hgx, hin]; simp)
        clear hx2
        have HX := Aside0.mk (finish : toks ++ (finT r :: cutS none (l.drop i)) = cutS none l)
        clear finish
        have HTL := Aside0.mk (show toks.length + 1 ≤ l.length by
          have h1 := (cutS_len l).1
          have h2 := congrArg List.length HX.out
          rw [List.length_append, List.length_cons] at h2
          omega)
        obtain ⟨A3, c3, rfl, hc3⟩ := own_sl HI2.out.own3
        obtain ⟨i0, hi, hz0, hz1, hz2⟩ := info_parts gTok
        by_cases h64 : 64 < r.length
        · have d64 : decide ((64 : Int) < (r.length : Int)) = true := decide_eq_true (by omega)
          have hcv : (convert 25 9 (.slice A4 0 c4)).run Tryz.prog w2 = .ok (.string (bT [])) w2 := conv_own (r := []) (own_emptied HI2.out.own4) (by simp)
          have HF := Aside0.mk (show finT r = [] from if_pos h64)
          clear h64
          go_wp2_with ((with_reducible refine gate_dst (N := 53) rfl ?_); refine wpList_append_own _ rfl _ _ 114 rfl w.heap.size 118 i0 (.agg #[.int .i64 0, .string ⟨#[]⟩]) 2 24 Tryz.underlying114 hi hz0 hz1 hz2 rfl (by decide) _ toks.length (flatT toks) rfl (HI2.out.own3.alloc _) ⟨w2.heap.size, 0, none⟩ 1 1 (tokV toks.length []) rfl rfl (tok_cells _ _ _) (by simp [Value.oneCell', tokV]) (by have := HTL.out; unfold maxLen; omega) (by have := HTL.out; omega) (by have := HI2.out.bel.size; rw [World.size_alloc]; omega) ?_; intro v' w4 hown' hgrow _; have HI4 := Aside0.mk (HI2.out.put3 (r' := []) (own_emptied HI2.out.own4) (.inl rfl) hown' hgrow); clear hown' hgrow)
          go_step3
          refine Or.inl ⟨rfl, ⟨_, _, toks ++ [[]], [], i, _, _, _, _, _, _, _, _, _, _, _, _, _, _, _, _, _, _, _, _, _, _, _, _, _, _, _, _, _, _, _, _, _, _, _, _, _, _, _, _, _, _, _, _, _, _, _, _, rfl, HI4.out, ?_⟩, ?_⟩
          · rw [← HX.out, HF.out, List.append_assoc]
            rfl
          · show 4 * (l.length - (i : Int).toNat) + 1 < (if (i : Int).toNat < l.length ∧ inB (l.getD (i : Int).toNat 0) = true then 4 * (l.length - (i : Int).toNat) else 4 * (l.length - (i : Int).toNat) + 2)
            rw [Int.toNat_natCast, if_neg HNI.out]
            omega
        · have d64 : decide ((64 : Int) < (r.length : Int)) = false := decide_eq_false (by omega)
          have hcv := conv_own HI2.out.own4 HI2.out.rb
          have HF := Aside0.mk (show finT r = r from if_neg h64)
          clear h64
          go_wp2_with ((with_reducible refine gate_dst (N := 53) rfl ?_); refine wpList_append_own _ rfl _ _ 114 rfl w.heap.size 118 i0 (.agg #[.int .i64 0, .string ⟨#[]⟩]) 2 24 Tryz.underlying114 hi hz0 hz1 hz2 rfl (by decide) _ toks.length (flatT toks) rfl (HI2.out.own3.alloc _) ⟨w2.heap.size, 0, none⟩ 1 1 (tokV toks.length r) rfl rfl (tok_cells _ _ _) (by simp [Value.oneCell', tokV]) (by have := HTL.out; unfold maxLen; omega) (by have := HTL.out; omega) (by have := HI2.out.bel.size; rw [World.size_alloc]; omega) ?_; intro v' w4 hown' hgrow _; have HI4 := Aside0.mk (HI2.out.put3 (r' := r) HI2.out.own4 (.inr rfl) hown' hgrow); clear hown' hgrow)
          go_step3
          refine Or.inl ⟨rfl, ⟨_, _, toks ++ [r], r, i, _, _, _, _, _, _, _, _, _, _, _, _, _, _, _, _, _, _, _, _, _, _, _, _, _, _, _, _, _, _, _, _, _, _, _, _, _, _, _, _, _, _, _, _, _, _, _, _, rfl, HI4.out, ?_⟩, ?_⟩
          · rw [← HX.out, HF.out, List.append_assoc]
            rfl
          · show 4 * (l.length - (i : Int).toNat) + 1 < (if (i : Int).toNat < l.length ∧ inB (l.getD (i : Int).toNat 0) = true then 4 * (l.length - (i : Int).toNat) else 4 * (l.length - (i : Int).toNat) + 2)
            rw [Int.toNat_natCast, if_neg HNI.out]
            omega
      · go_wp2_with fail
        refine (token_lower.calls x (lowB x) _ (low_f x (hb x hxm).2)).mono ?_
        rintro e w3 ⟨rfl, hd⟩
        have HI3 := Aside0.mk (HI2.out.below hd.below)
        clear hd hx2
        obtain ⟨i0, hi, hz0, hz1, hz2⟩ := info_parts gByte
        have hlw : 0 ≤ lowB x ∧ lowB x < 256 := by have := hb x hxm; unfold lowB; split <;> omega
        have HLW := Aside0.mk hlw
        clear hlw
        go_wp2_with ((with_reducible refine gate_dst (N := 38) rfl ?_); refine wpList_append_own _ rfl _ _ 25 rfl w.heap.size 5 i0 (.int .u8 0) 1 1 Tryz.underlying25 hi hz0 hz1 hz2 rfl (by decide) _ r.length (r.map (Value.int .u8)) rfl (HI3.out.own4.alloc _) ⟨w3.heap.size, 0, none⟩ 1 1 [.int .u8 (lowB x)] rfl rfl (tok_cells _ _ _) (by simp [Value.oneCell']) (by have := HI3.out.rl; unfold maxLen; omega) (by have := HI3.out.rl; omega) (by have := HI3.out.bel.size; rw [World.size_alloc]; omega) ?_; intro v' w4 hown' hgrow _; have HI4 := Aside0.mk (HI3.out.put4 hil HLW.out hown' hgrow); clear hown' hgrow)
        go_step3
        have e1 : (i : Int) + 1 = ((i + 1 : Nat) : Int) := rfl
        rw [e1]
        refine Or.inr ⟨rfl, ⟨v3, _, toks, r ++ [lowB x], i + 1, _, _, _, _, _, _, _, _, _, _, _, _, _, _, _, _, _, _, _, _, _, _, _, _, _, _, _, _, _, _, _, _, _, _, _, _, _, _, _, _, _, _, _, _, _, _, _, _, rfl, HI4.out, ?_⟩, ?_⟩
        · rw [← HT.out]
          simp only [cutS, hin, if_true]
        · show (if ((i + 1 : Nat) : Int).toNat < l.length ∧ inB (l.getD ((i + 1 : Nat) : Int).toNat 0) = true then 4 * (l.length - ((i + 1 : Nat) : Int).toNat) else 4 * (l.length - ((i + 1 : Nat) : Int).toNat) + 2) < (if (i : Int).toNat < l.length ∧ inB (l.getD (i : Int).toNat 0) = true then 4 * (l.length - (i : Int).toNat) else 4 * (l.length - (i : Int).toNat) + 2)
          rw [Int.toNat_natCast, Int.toNat_natCast, hgx, if_pos (show i < l.length ∧ inB x = true from ⟨hil, hin⟩)]
          split <;> omega
    · have hil2 : l.length = i := by have := hI.le; omega
      have d0 : decide ((i : Int) < (l.length : Int)) = false := decide_eq_false (by omega)
      have finish : toks ++ (finT r :: cutS none (l.drop i)) = cutS none l := by
        rw [← htot, ← hil2, List.drop_length]
        simp only [cutS]
      have HI2 := Aside0.mk hI
      have HNI := Aside0.mk (show ¬ (i < l.length ∧ inB (l.getD i 0) = true) by rintro ⟨h, _⟩; exact hil h)
      clear hI htot hil2
      have HX := Aside0.mk (finish : toks ++ (finT r :: cutS none (l.drop i)) = cutS none l)
      clear finish
      have HTL := Aside0.mk (show toks.length + 1 ≤ l.length by
        have h1 := (cutS_len l).1
        have h2 := congrArg List.length HX.out
        rw [List.length_append, List.length_cons] at h2
        omega)
      obtain ⟨A3, c3, rfl, hc3⟩ := own_sl HI2.out.own3
      obtain ⟨i0, hi, hz0, hz1, hz2⟩ := info_parts gTok
      by_cases h64 : 64 < r.length
      · have d64 : decide ((64 : Int) < (r.length : Int)) = true := decide_eq_true (by omega)
        have hcv : (convert 25 9 (.slice A4 0 c4)).run Tryz.prog w' = .ok (.string (bT [])) w' := conv_own (r := []) (own_emptied HI2.out.own4) (by simp)
        have HF := Aside0.mk (show finT r = [] from if_pos h64)
        clear h64
        go_wp2_with ((with_reducible refine gate_dst (N := 53) rfl ?_); refine wpList_append_own _ rfl _ _ 114 rfl w.heap.size 118 i0 (.agg #[.int .i64 0, .string ⟨#[]⟩]) 2 24 Tryz.underlying114 hi hz0 hz1 hz2 rfl (by decide) _ toks.length (flatT toks) rfl (HI2.out.own3.alloc _) ⟨w'.heap.size, 0, none⟩ 1 1 (tokV toks.length []) rfl rfl (tok_cells _ _ _) (by simp [Value.oneCell', tokV]) (by have := HTL.out; unfold maxLen; omega) (by have := HTL.out; omega) (by have := HI2.out.bel.size; rw [World.size_alloc]; omega) ?_; intro v' w4 hown' hgrow _; have HI4 := Aside0.mk (HI2.out.put3 (r' := []) (own_emptied HI2.out.own4) (.inl rfl) hown' hgrow); clear hown' hgrow)
        go_step3
        refine Or.inl ⟨rfl, ⟨_, _, toks ++ [[]], [], i, _, _, _, _, _, _, _, _, _, _, _, _, _, _, _, _, _, _, _, _, _, _, _, _, _, _, _, _, _, _, _, _, _, _, _, _, _, _, _, _, _, _, _, _, _, _, _, _, rfl, HI4.out, ?_⟩, ?_⟩
        · rw [← HX.out, HF.out, List.append_assoc]
          rfl
        · show 4 * (l.length - (i : Int).toNat) + 1 < (if (i : Int).toNat < l.length ∧ inB (l.getD (i : Int).toNat 0) = true then 4 * (l.length - (i : Int).toNat) else 4 * (l.length - (i : Int).toNat) + 2)
          rw [Int.toNat_natCast, if_neg HNI.out]
          omega
      · have d64 : decide ((64 : Int) < (r.length : Int)) = false := decide_eq_false (by omega)
        have hcv := conv_own HI2.out.own4 HI2.out.rb
        have HF := Aside0.mk (show finT r = r from if_neg h64)
        clear h64
        go_wp2_with ((with_reducible refine gate_dst (N := 53) rfl ?_); refine wpList_append_own _ rfl _ _ 114 rfl w.heap.size 118 i0 (.agg #[.int .i64 0, .string ⟨#[]⟩]) 2 24 Tryz.underlying114 hi hz0 hz1 hz2 rfl (by decide) _ toks.length (flatT toks) rfl (HI2.out.own3.alloc _) ⟨w'.heap.size, 0, none⟩ 1 1 (tokV toks.length r) rfl rfl (tok_cells _ _ _) (by simp [Value.oneCell', tokV]) (by have := HTL.out; unfold maxLen; omega) (by have := HTL.out; omega) (by have := HI2.out.bel.size; rw [World.size_alloc]; omega) ?_; intro v' w4 hown' hgrow _; have HI4 := Aside0.mk (HI2.out.put3 (r' := r) HI2.out.own4 (.inr rfl) hown' hgrow); clear hown' hgrow)
        go_step3
        refine Or.inl ⟨rfl, ⟨_, _, toks ++ [r], r, i, _, _, _, _, _, _, _, _, _, _, _, _, _, _, _, _, _, _, _, _, _, _, _, _, _, _, _, _, _, _, _, _, _, _, _, _, _, _, _, _, _, _, _, _, _, _, _, _, rfl, HI4.out, ?_⟩, ?_⟩
        · rw [← HX.out, HF.out, List.append_assoc]
          rfl
        · show 4 * (l.length - (i : Int).toNat) + 1 < (if (i : Int).toNat < l.length ∧ inB (l.getD (i : Int).toNat 0) = true then 4 * (l.length - (i : Int).toNat) else 4 * (l.length - (i : Int).toNat) + 2)
          rw [Int.toNat_natCast, if_neg HNI.out]
          omega
  case first =>
    intro hP
    clear hP
    go_wp2_with fail
    go_step3
    have hJ : J0 A c w l { tmps := #[.slice A l.length c, undef, .slice none 0 0, .slice none 0 0, .slice none 0 0, .int .i64 0, undef, undef, undef, undef, undef, undef, undef, undef, undef, undef, undef, undef, undef, undef, undef, undef, undef, undef, undef, undef, undef, undef, undef, undef, undef, undef, undef, undef, undef, undef, undef, undef, undef, undef, undef, undef, undef, undef, undef, undef, undef, undef, undef, undef, undef, undef, undef, undef], defers := [] } w := ⟨.slice none 0 0, .slice none 0 0, [], [], 0, _, _, _, _, _, _, _, _, _, _, _, _, _, _, _, _, _, _, _, _, _, _, _, _, _, _, _, _, _, _, _, _, _, _, _, _, _, _, _, _, _, _, _, _, _, _, _, _, rfl, ⟨World.ownsRow_nil _ _ _ _, World.ownsRow_nil _ _ _ _, Nat.zero_le _, Nat.zero_le _, by simp, Below.refl _ _⟩, rfl⟩
    generalize ({ tmps := #[.slice A l.length c, undef, .slice none 0 0, .slice none 0 0, .slice none 0 0, .int .i64 0, undef, undef, undef, undef, undef, undef, undef, undef, undef, undef, undef, undef, undef, undef, undef, undef, undef, undef, undef, undef, undef, undef, undef, undef, undef, undef, undef, undef, undef, undef, undef, undef, undef, undef, undef, undef, undef, undef, undef, undef, undef, undef, undef, undef, undef, undef, undef, undef], defers := [] } : Act) = a0 at hJ ⊢
    obtain ⟨v3, v4, toks, r, i, u6, u7, u8, u9, u10, u11, u12, u13, u14, u15, u16, u17, u18, u19, u20, u21, u22, u23, u24, u25, u26, u27, u28, u29, u30, u31, u32, u33, u34, u35, u36, u37, u38, u39, u40, u41, u42, u43, u44, u45, u46, u47, u48, u49, u50, u51, u52, u53, rfl, hI, htot⟩ := hJ
    by_cases hi2 : i = l.length
    · have d0 : ((i : Int) == (l.length : Int)) = true := by rw [hi2]; exact beq_self_eq_true _
      have HI := Aside0.mk hI
      have HT : toks = cutS none l := by rw [hi2, List.drop_length] at htot; simpa [cutS] using htot
      clear hI htot
      go_wp2_with fail
      simp only [jump2]
      go_ret
      exact ⟨v3, rfl, by rw [← HT]; exact HI.out.own3, HI.out.bel⟩
    · have d0 : ((i : Int) == (l.length : Int)) = false := beq_eq_false_iff_ne.2 (by omega)
      have hil : i < l.length := by have := hI.le; omega
      obtain ⟨ad, rfl, hx⟩ := Kd.at_int (Kd.C_below hC hI.bel) (i : Int) (by omega) (by omega)
      have hp : 0 ≤ (i : Int) := by omega
      have hq : (i : Int) < (l.length : Int) := by omega
      obtain ⟨x, hxe⟩ : ∃ x, rd l (i : Int) = x := ⟨_, rfl⟩
      have hdr : l.drop i = x :: l.drop (i + 1) := by
        rw [List.drop_eq_getElem_cons hil]
        congr 1
        rw [← hxe]
        simp [rd, List.getD, hil]
      rw [hxe, Int.toNat_natCast] at hx
      rw [hdr] at htot
      have hxm : x ∈ l := by have : x ∈ l.drop i := by rw [hdr]; exact List.mem_cons_self; 
                             exact List.mem_of_mem_drop this
      obtain ⟨A4, c4, rfl, hc4⟩ := own_sl hI.own4
      have hgx : l.getD i 0 = x := by rw [← hxe]; simp [rd]
      have HI := Aside0.mk hI
      have HT := Aside0.mk htot
      have HD := Aside0.mk hdr
      clear hI htot hdr
      replace hp := eq_true hp
      replace hq := eq_true hq
      go_wp2_with fail
      refine (token_in.calls 2 x (inB x) _ (in_f x)).mono ?_
      rintro e w2 ⟨rfl, hd⟩
      have HI2 := Aside0.mk (HI.out.below hd.below)
      clear hd
      cases hin : inB x
      · go_wp2_with fail
        go_step3
        have e1 : (i : Int) + 1 = ((i + 1 : Nat) : Int) := rfl
        rw [e1]
        refine Or.inl ⟨rfl, ⟨v3, _, toks, r, i + 1, _, _, _, _, _, _, _, _, _, _, _, _, _, _, _, _, _, _, _, _, _, _, _, _, _, _, _, _, _, _, _, _, _, _, _, _, _, _, _, _, _, _, _, _, _, _, _, _, rfl, ⟨HI2.out.own3, HI2.out.own4, by omega, by have := HI2.out.rl; omega, HI2.out.rb, HI2.out.bel⟩, ?_⟩⟩
        · rw [← HT.out]
          simp only [cutS, hin, Bool.false_eq_true, if_false]
      · go_wp2_with fail
        go_step3
        refine Or.inr ⟨rfl, ⟨v3, _, toks, [], i, _, _, _, _, _, _, _, _, _, _, _, _, _, _, _, _, _, _, _, _, _, _, _, _, _, _, _, _, _, _, _, _, _, _, _, _, _, _, _, _, _, _, _, _, _, _, _, _, rfl, ⟨HI2.out.own3, own_emptied HI2.out.own4, by omega, Nat.zero_le _, by simp, HI2.out.bel⟩, ?_⟩⟩
        · rw [← HT.out, HD.out]
          simp only [cutS, hin, if_true, List.nil_append]
theorem bytes_loop0 (s : ByteArray) : ∀ (d i : Nat) (r : List UInt8), s.size - i = d → ByteArray.toList.loop s i r = r.reverse ++ s.data.toList.drop i := by
 intro d
 induction d with
 | zero =>
  intro i r h
  rw [ByteArray.toList.loop.eq_1]
  have hs : s.data.toList.length = s.size := by rw [Array.length_toList]; rfl
  rw [if_neg (by omega), List.drop_of_length_le (by omega)]
  simp
 | succ d ih =>
  intro i r h
  rw [ByteArray.toList.loop.eq_1]
  have hs : s.data.toList.length = s.size := by rw [Array.length_toList]; rfl
  have hi : i < s.size := by omega
  have hi' : i < s.data.toList.length := by omega
  rw [if_pos hi, ih (i + 1) _ (by omega), List.drop_eq_getElem_cons hi']
  have e : s.get! i = s.data.toList[i] := by
   rw [Array.getElem_toList]
   show s.data[i]! = _
   exact getElem!_pos s.data i (by have : s.data.size = s.size := rfl; omega)
  rw [e]
  simp
theorem bytes_eq0 (s : ByteArray) : s.toList = s.data.toList := by
 show ByteArray.toList.loop s 0 [] = _
 rw [bytes_loop0 s s.size 0 [] rfl]
 simp
theorem bytes_inj0 {s t : ByteArray} : s.toList = t.toList ↔ s = t := by
 rw [bytes_eq0, bytes_eq0]
 constructor
 ·intro h
  cases s; cases t
  congr 1
  exact Array.toList_inj.1 h
 ·rintro rfl; rfl
theorem bytes_nil {s : ByteArray} : s.toList = [] ↔ s = ⟨#[]⟩ := by
 have h : (⟨#[]⟩ : ByteArray).toList = [] := by rw [bytes_eq0]
 exact ⟨fun e => bytes_inj0.1 (e.trans h.symm), fun e => by rw [e]; exact h⟩
theorem eqS0_l0 : ∀ (k : Nat) (p q : List ByteArray) (i : Nat), p.length = q.length → i ≤ p.length → p.length ≤ 1099511627776 → p.length - i < k → slices_Equal_string_string.l0 k p q (p.length : Int) (i : Int) = some (decide (p.drop i = q.drop i))
 | 0, p, q, i, _, _, _, hk => by omega
 | k + 1, p, q, i, hl, hi, hb, hk => by
  unfold slices_Equal_string_string.l0
  by_cases h : i < p.length
  ·have hq : i < q.length := by omega
   rw [if_pos (by omega), if_pos (by omega), if_pos (by omega), if_pos (by omega)]
   have ep : rdOf ByteArray.empty p (i : Int) = p[i] := by simp [rdOf, List.getD, h]
   have eq : rdOf ByteArray.empty q (i : Int) = q[i] := by simp [rdOf, List.getD, hq]
   rw [ep, eq, show List.drop i p = p[i] :: List.drop (i + 1) p from List.drop_eq_getElem_cons h, show List.drop i q = q[i] :: List.drop (i + 1) q from List.drop_eq_getElem_cons hq]
   have ew : wrap64 ((i : Int) + 1) = ((i + 1 : Nat) : Int) := by unfold wrap64; omega
   rw [ew, eqS0_l0 k p q (i + 1) hl (by omega) hb (by omega)]
   by_cases h2 : p[i] = q[i]
   ·rw [if_pos (by rw [h2])]
    congr 1
    rw [h2]
    simp only [List.cons.injEq, true_and]
   ·rw [if_neg (fun e => h2 (bytes_inj0.1 e))]
    congr 1
    simp only [List.cons.injEq, h2, false_and, decide_false]
  ·rw [if_neg (by omega)]
   rw [List.drop_eq_nil_of_le (by omega), List.drop_eq_nil_of_le (by omega)]
   simp
theorem eqS0_f (p q : List ByteArray) (hb : p.length ≤ 1099511627776) : slices_Equal_string_string.f (p.length + 1) p q = some (decide (p = q)) := by
 unfold slices_Equal_string_string.f
 by_cases h : p.length = q.length
 ·rw [if_pos (by omega)]
  have := eqS0_l0 (p.length + 1) p q 0 h (Nat.zero_le _) hb (by omega)
  simpa using this
 ·rw [if_neg (by omega)]
  have : p ≠ q := fun e => h (by rw [e])
  simp [this]
theorem same_f (a0 a1 a2 : Int) (a3 : ByteArray) (l4 : List ByteArray) (a5 : ByteArray) (a6 a7 b0 b1 b2 : Int) (b3 : ByteArray) (m4 : List ByteArray) (b5 : ByteArray) (b6 b7 : Int) (hb : l4.length ≤ 1099511627776) :
  query_same.f (l4.length + 1) a0 a1 a2 a3 l4 a5 a6 a7 b0 b1 b2 b3 m4 b5 b6 b7 = some (decide (a0 = b0 ∧ a1 = b1 ∧ a2 = b2 ∧ a3 = b3 ∧ l4 = m4 ∧ a5 = b5 ∧ a6 = b6 ∧ a7 = b7)) := by
 unfold query_same.f
 simp only [bytes_inj0]
 repeat' split
 all_goals (first | rw [eqS0_f _ _ hb] | skip)
 all_goals simp_all
def tokC (c : Int) : Bool := inB c && decide (lowB c = c)
def tokFrom (s : ByteArray) (i : Nat) : Bool := (List.range' i (s.size - i)).all fun (j : Nat) => tokC (bt s (j : Int))
def tokB (s : ByteArray) : Bool := decide (1 ≤ s.size ∧ s.size ≤ 64) && tokFrom s 0
theorem tokFrom_end (s : ByteArray) : tokFrom s s.size = true := by unfold tokFrom; rw [Nat.sub_self]; rfl
theorem tokFrom_step (s : ByteArray) (i : Nat) (h : i < s.size) : tokFrom s i = (tokC (bt s (i : Int)) && tokFrom s (i + 1)) := by
 unfold tokFrom
 obtain ⟨d, hd⟩ : ∃ d, s.size - i = d + 1 := ⟨s.size - i - 1, by omega⟩
 rw [hd, show s.size - (i + 1) = d by omega, List.range'_succ, List.all_cons]
theorem inB_f (c : Int) (k : Nat) (hk : 2 ≤ k) : token_in.f k c = some (inB c) := by
 obtain ⟨k, rfl⟩ : ∃ m, k = m + 2 := ⟨k - 2, by omega⟩
 unfold token_in.f inB
 by_cases a : 97 ≤ c <;> by_cases b : c ≤ 122 <;> by_cases d : 65 ≤ c <;> by_cases e : c ≤ 90 <;> by_cases f : 48 ≤ c <;> by_cases g : c ≤ 57 <;> by_cases h : 128 ≤ c <;> first | omega | simp [token_in.j0, token_in.j1, a, b, d, e, f, g, h]
theorem tokIs_loop (s : ByteArray) (hs : s.size ≤ 64) : ∀ (d i k : Nat), i + d = s.size → d + 3 ≤ k → token_Is.l0 k s (s.size : Int) (i : Int) = some (tokFrom s i)
 | 0, i, k, hi, hk => by
  obtain rfl : i = s.size := by omega
  obtain ⟨k, rfl⟩ : ∃ m, k = m + 1 := ⟨k - 1, by omega⟩
  rw [tokFrom_end]
  simp only [token_Is.l0]
  rw [if_neg (by omega)]
 | d + 1, i, k, hi, hk => by
  obtain ⟨m, rfl⟩ : ∃ m, k = m + 1 := ⟨k - 1, by omega⟩
  have ih := tokIs_loop s hs d (i + 1) m (by omega) (by omega)
  rw [tokFrom_step s i (by omega)]
  simp only [token_Is.l0]
  rw [if_pos (by omega), if_pos (by omega), if_pos (by omega), inB_f _ _ (by omega), Option.bind_some, low_f _ (by have := (bt_range s (i : Int)).2; omega), Option.bind_some]
  have ew : wrap64 ((i : Int) + 1) = ((i + 1 : Nat) : Int) := by unfold wrap64; omega
  rw [ew, ih]
  unfold tokC
  by_cases h1 : inB (bt s (i : Int)) = true <;> by_cases h2 : lowB (bt s (i : Int)) = bt s (i : Int) <;> simp [h1, h2]
theorem tokIs_f (s : ByteArray) (k : Nat) (hk : s.size + 4 ≤ k) : token_Is.f k s = some (tokB s) := by
 obtain ⟨k, rfl⟩ : ∃ m, k = m + 1 := ⟨k - 1, by omega⟩
 unfold token_Is.f tokB
 by_cases h1 : s.size < 1
 ·rw [if_pos (by omega)]
  simp only [token_Is.j0, if_true]
  rw [decide_eq_false (by omega), Bool.false_and]
 ·rw [if_neg (by omega)]
  by_cases h2 : s.size > 64
  ·rw [decide_eq_true (show (s.size : Int) > 64 by omega)]
   simp only [token_Is.j0, if_true]
   rw [decide_eq_false (show ¬ (1 ≤ s.size ∧ s.size ≤ 64) by omega), Bool.false_and]
  ·rw [decide_eq_false (show ¬ (s.size : Int) > 64 by omega)]
   simp only [token_Is.j0]
   rw [if_neg (by decide), decide_eq_true (show 1 ≤ s.size ∧ s.size ≤ 64 by omega), Bool.true_and]
   exact tokIs_loop s (by omega) s.size 0 k (by omega) (by omega)
theorem tokIs_calls (s : ByteArray) (w : World) : Calls Tryz.prog 81 #[.string s] w fun e w' => e = .returned (.bool (tokB s)) ∧ Drawn0 w w' := token_Is.calls _ s _ w (tokIs_f s _ (Nat.le_refl _))
theorem isKey_calls (s : ByteArray) (w : World) (hs : s.size ≤ 9223372036854775807) : Calls Tryz.prog 80 #[.string s] w fun e w' => e = .returned (.bool (Pure.keyB s)) ∧ Drawn0 w w' := field_IsKey.calls _ s _ w (Pure.isKey_f s hs _ (Nat.le_refl _))
def rngB (sk mo : Int) : Bool := decide (0 ≤ sk ∧ 0 ≤ mo ∧ sk ≤ 2147483647 ∧ mo ≤ 2147483647)
def askedB (k : Int) (ky : ByteArray) (wd sk mo : Int) : Bool :=
 if k = 1 then rngB sk mo && decide (ky = ⟨#[]⟩ ∧ wd = 0)
 else if k = 2 then decide (ky = ⟨#[]⟩ ∧ wd = 0 ∧ sk = 0 ∧ mo = 0)
 else if k = 3 then Pure.keyB ky && decide (wd = 0 ∧ sk = 0 ∧ mo = 0)
 else if k = 4 then Pure.keyB ky && decide (0 ≤ mo ∧ mo ≤ 1000 ∧ wd = 0 ∧ sk = 0)
 else if k = 5 ∨ k = 6 then decide (1 ≤ wd ∧ ky = ⟨#[]⟩ ∧ sk = 0 ∧ mo = 0)
 else false
def rightB (k a b : Int) (tx : ByteArray) (tm : List ByteArray) (ky : ByteArray) (lo hi : Int) : Bool :=
 if k = 1 then decide (a = 0 ∧ b = 0 ∧ tx = ⟨#[]⟩ ∧ tm = [] ∧ ky = ⟨#[]⟩ ∧ lo = 0 ∧ hi = 0)
 else if k = 2 ∨ k = 3 then tokB tx && decide (a = 0 ∧ b = 0 ∧ tm = [] ∧ ky = ⟨#[]⟩ ∧ lo = 0 ∧ hi = 0)
 else if k = 4 then decide (0 < tm.length) && tm.all tokB && decide (a = 0 ∧ b = 0 ∧ tx = ⟨#[]⟩ ∧ ky = ⟨#[]⟩ ∧ lo = 0 ∧ hi = 0)
 else if k = 5 then decide (1 ≤ tx.size ∧ tx.size ≤ 64) && decide (a = 0 ∧ b = 0 ∧ tm = [] ∧ ky = ⟨#[]⟩ ∧ lo = 0 ∧ hi = 0)
 else if k = 6 then Pure.keyB ky && decide (tx.size ≤ 64) && decide (a = 0 ∧ b = 0 ∧ tm = [] ∧ lo = 0 ∧ hi = 0)
 else if k = 7 ∨ k = 8 then Pure.keyB ky && decide (a = 0 ∧ b = 0 ∧ tx = ⟨#[]⟩ ∧ tm = [] ∧ hi = 0)
 else if k = 9 then decide (a = 0 ∧ b = 0 ∧ tx = ⟨#[]⟩ ∧ tm = [] ∧ ky = ⟨#[]⟩)
 else if k = 10 ∨ k = 11 then decide (a ≠ b) && decide (tx = ⟨#[]⟩ ∧ tm = [] ∧ ky = ⟨#[]⟩ ∧ lo = 0 ∧ hi = 0)
 else if k = 12 then decide (b = 0 ∧ tx = ⟨#[]⟩ ∧ tm = [] ∧ ky = ⟨#[]⟩ ∧ lo = 0 ∧ hi = 0)
 else false
end Go.Proofs.YtehaodbheifokaaGreatDoor.P
end
section
namespace Go.Proofs.YtehaodbheifokaaGreatDoor.P
open Go Go.RowKit Go.Proofs.YtehaodbheifokaaGreatDoorW.PrintWords Go.Proofs.YtehaodbheifokaaGreatDoorW.PrintLast Go.Proofs.YtehaodbheifokaaGreatDoorW.PrintMore
attribute [local go_sem] max2_int min2_int max_two min_two
theorem notIs_calls (s : ByteArray) (w : World) :
  Calls Tryz.prog 83 #[.string s] w fun e w' => e = .returned (.bool (!tokB s)) ∧ Drawn0 w w' := by
 have HT := Aside0.mk (tokIs_calls s)
 obtain ⟨b, hb⟩ : ∃ b, tokB s = b := ⟨_, rfl⟩
 rw [hb] at HT ⊢
 clear hb
 go_enter Tryz.func83, Tryz.ntmps83
 go_wp2_with (go_at_call 81; refine (HT.out _).mono ?_; rintro e w1 ⟨rfl, hd⟩; have HD := Aside0.mk hd; clear hd)
 go_ret
 exact ⟨rfl, HD.out⟩
theorem indexS (A : Option Addr) (c : Nat) (tm : List ByteArray) (w : World) (hC : Kd.string.C w A tm.length tm) (hc : tm.length ≤ c) (hn : tm.length ≤ 1099511627776) :
  Calls Tryz.prog 104 #[.slice A tm.length c, .func (.func 83) #[] #[]] w fun e w' => ∃ i : Int, e = .returned (.int .i64 i) ∧ decide (0 ≤ i) = (!tm.all tokB) ∧ Drawn0 w w' := by
 have HC := Aside0.mk hC
 clear hC
 go_enter Tryz.func104, Tryz.ntmps104
 go_wp2_with fail
 go_loopg [8] tm.length (fun kq v8 wr => ∃ i : Nat, v8 = .int .i64 (i : Int) ∧ Aside0 (kq + i = tm.length) ∧ Aside0 (∀ j, j < i → ∀ s, tm[j]? = some s → tokB s = true) ∧ Drawn0 w wr)
 case atStart => exact ⟨0, rfl, ⟨rfl⟩, ⟨fun j h => by omega⟩, Drawn0.refl _⟩
 case round =>
  obtain ⟨i, rfl, HI, HA, HD⟩ := hrel
  obtain ⟨⟨m, rfl⟩⟩ := HD
  by_cases hi : i < tm.length
  ·have d0 : decide ((i : Int) < (tm.length : Int)) = true := decide_eq_true (by omega)
   have d1 : decide (i < tm.length) = true := decide_eq_true hi
   obtain ⟨ad, rfl, c0⟩ := Kd.at_string (Kd.C_drewN HC.out m) (i : Int) (by omega) (by omega)
   rw [Int.toNat_natCast] at c0
   have hs : tm[i]? = some (rdOf ByteArray.empty tm (i : Int)) := by simp [rdOf, List.getD, hi]
   have HS := Aside0.mk hs
   obtain ⟨b, hb⟩ : ∃ b, tokB (rdOf ByteArray.empty tm (i : Int)) = b := ⟨_, rfl⟩
   have HB := Aside0.mk hb
   have HN := Aside0.mk (notIs_calls (rdOf ByteArray.empty tm (i : Int)))
   rw [hb] at HN
   clear hb hs
   have HIL := Aside0.mk hi
   go_wp2_with fail
   refine (HN.out _).mono ?_
   rintro e w3 ⟨rfl, ⟨⟨n3, rfl⟩⟩⟩
   cases b
   ·go_wp2_with fail
    go_ret
    refine ⟨_, rfl, ?_, ⟨⟨_, rfl⟩⟩⟩
    rw [decide_eq_true (by omega)]
    have : tm.all tokB = false := by
     cases e : tm.all tokB with
     | false => rfl
     | true => have := List.all_eq_true.1 e _ (List.mem_of_getElem? HS.out); rw [HB.out] at this; exact absurd this (by decide)
    rw [this]; rfl
   ·go_wp2_with fail
    have ew : (i : Int) + 1 = ((i + 1 : Nat) : Int) := rfl
    try rw [show wrap64 ((i : Int) + 1) = ((i + 1 : Nat) : Int) by have := HIL.out; unfold wrap64; omega]
    try rw [ew]
    go_roundg (tm.length - i - 1)
    case measure => have := HI.out; have := HIL.out; omega
    case rel =>
     refine ⟨i + 1, rfl, ⟨by have := HI.out; have := HIL.out; omega⟩, ⟨fun j hj s hs => ?_⟩, ⟨⟨_, rfl⟩⟩⟩
     by_cases hji : j = i
     ·subst hji
      rw [HS.out] at hs
      cases hs
      exact HB.out
     ·exact HA.out j (by omega) s hs
  ·have d0 : decide ((i : Int) < (tm.length : Int)) = false := decide_eq_false (by omega)
   have d1 : decide (i < tm.length) = false := decide_eq_false hi
   go_wp2_with fail
   go_ret
   refine ⟨_, rfl, ?_, ⟨⟨_, rfl⟩⟩⟩
   have : tm.all tokB = true := List.all_eq_true.2 (fun s hs => by
    obtain ⟨j, hj⟩ := List.getElem?_of_mem hs
    have hl := (List.getElem?_eq_some_iff.1 hj).1
    exact HA.out j (by omega) s hj)
   rw [this]; rfl
theorem containsS (A : Option Addr) (c : Nat) (tm : List ByteArray) (w : World) (hC : Kd.string.C w A tm.length tm) (hc : tm.length ≤ c) (hn : tm.length ≤ 1099511627776) :
  Calls Tryz.prog 82 #[.slice A tm.length c, .func (.func 83) #[] #[]] w fun e w' => e = .returned (.bool (!tm.all tokB)) ∧ Drawn0 w w' := by
 have hX := indexS A c tm w hC hc hn
 obtain ⟨b, hb⟩ : ∃ b, (!tm.all tokB) = b := ⟨_, rfl⟩
 rw [hb] at hX ⊢
 have HX := Aside0.mk hX
 clear hC hb hX
 go_enter Tryz.func82, Tryz.ntmps82
 go_wp2_with fail
 refine HX.out.mono ?_
 rintro e w3 ⟨i, rfl, hi, hd⟩
 have HD := Aside0.mk hd
 subst hi
 clear hd
 go_wp2_with fail
 all_goals go_ret
 all_goals exact ⟨by rfl, HD.out⟩
abbrev nodeC (k a b : Int) (tx : ByteArray) (vt : Value) (ky : ByteArray) (lo hi : Int) : Array Value := #[.int .i64 k, .int .i64 a, .int .i64 b, .string tx, vt, .string ky, .int .i64 lo, .int .i64 hi]
theorem same_calls (k a b : Int) (tx : ByteArray) (A : Option Addr) (c : Nat) (tm : List ByteArray) (ky : ByteArray) (lo hi k' a' b' : Int) (tx' : ByteArray) (A' : Option Addr) (c' : Nat) (tm' : List ByteArray) (ky' : ByteArray) (lo' hi' : Int) (w : World)
  (hC : Kd.string.C w A tm.length tm) (hc : tm.length ≤ c) (hn : tm.length ≤ 1099511627776) (hC' : Kd.string.C w A' tm'.length tm') (hc' : tm'.length ≤ c') :
  Calls Tryz.prog 84 #[.agg (nodeC k a b tx (.slice A tm.length c) ky lo hi), .agg (nodeC k' a' b' tx' (.slice A' tm'.length c') ky' lo' hi')] w fun e w' => e = .returned (.bool (decide (k = k' ∧ a = a' ∧ b = b' ∧ tx = tx' ∧ tm = tm' ∧ ky = ky' ∧ lo = lo' ∧ hi = hi'))) ∧ Below w.heap.size w w' :=
 query_same.calls _ k a b tx A c tm ky lo hi k' a' b' tx' A' c' tm' ky' lo' hi' _ w hC hc hC' hc' (same_f k a b tx tm ky lo hi k' a' b' tx' tm' ky' lo' hi' hn)
theorem right_4 (a b : Int) (tx : ByteArray) (A : Option Addr) (c : Nat) (tm : List ByteArray) (ky : ByteArray) (lo hi : Int) (w : World) (hC : Kd.string.C w A tm.length tm) (hc : tm.length ≤ c) (hn : tm.length ≤ 1099511627776) :
  Calls Tryz.prog 61 #[.agg (nodeC 4 a b tx (.slice A tm.length c) ky lo hi)] w fun e w' => e = .returned (.bool (decide (0 < tm.length) && tm.all tokB && decide (a = 0 ∧ b = 0 ∧ tx = ⟨#[]⟩ ∧ ky = ⟨#[]⟩ ∧ lo = 0 ∧ hi = 0))) ∧ Below w.heap.size w w' := by
 obtain ⟨r, hr⟩ : ∃ r, (decide (0 < tm.length) && tm.all tokB && decide (a = 0 ∧ b = 0 ∧ tx = ⟨#[]⟩ ∧ ky = ⟨#[]⟩ ∧ lo = 0 ∧ hi = 0)) = r := ⟨_, rfl⟩
 rw [hr]
 have HS := Aside0.mk (fun (W : World) (hW : Below w.heap.size w W) k' a' b' tx' ky' lo' hi' => same_calls 4 a b tx A c tm ky lo hi k' a' b' tx' A c tm ky' lo' hi' W (Kd.C_below hC hW) hc hn (Kd.C_below hC hW) hc)
 obtain ⟨kb, hkb⟩ : ∃ kb, tm.all tokB = kb := ⟨_, rfl⟩
 have hK := fun (W : World) (hW : Below w.heap.size w W) => containsS A c tm W (Kd.C_below hC hW) hc hn
 rw [hkb] at hr
 rw [hkb] at hK
 have HK := Aside0.mk hK
 clear hkb hK
 have HR := Aside0.mk hr
 clear hr hC hc hn
 cases kb
 all_goals (
  go_enter Tryz.func61, Tryz.ntmps61
  go_wp2_with (go_at_call 82; refine (HK.out _ bel6).mono ?_; rintro e w1 ⟨rfl, ⟨⟨n1, rfl⟩⟩⟩))
 all_goals (try go_wp2_with (go_at_call 84; refine (HS.out _ bel6 _ _ _ _ _ _ _).mono ?_; rintro e w2 ⟨rfl, hb⟩; have HB := Aside0.mk hb; clear hb))
 all_goals go_ret
 all_goals first | refine ⟨?_, below_step bel6 HB.out⟩ | refine ⟨?_, bel6⟩
 all_goals first | refine congrArg (fun z => Ending.returned (Value.bool z)) (show true = r from ?_) | refine congrArg (fun z => Ending.returned (Value.bool z)) (show false = r from ?_) | refine congrArg (fun z => Ending.returned (Value.bool z)) (show decide _ = r from ?_) | refine congrArg (fun z => Ending.returned (Value.bool z)) (show (_ && _) = r from ?_)
 all_goals (rw [← HR.out]; clear HR HS; (try clear HK); (try clear HB); go_light; (try simp only [bytes_nil] at *))
 all_goals grind
theorem right_8 (a b : Int) (tx : ByteArray) (A : Option Addr) (c : Nat) (tm : List ByteArray) (ky : ByteArray) (lo hi : Int) (w : World) (hC : Kd.string.C w A tm.length tm) (hc : tm.length ≤ c) (hn : tm.length ≤ 1099511627776) (hk : ky.size ≤ 9223372036854775807) :
  Calls Tryz.prog 61 #[.agg (nodeC 8 a b tx (.slice A tm.length c) ky lo hi)] w fun e w' => e = .returned (.bool (Pure.keyB ky && decide (a = 0 ∧ b = 0 ∧ tx = ⟨#[]⟩ ∧ tm = [] ∧ hi = 0))) ∧ Below w.heap.size w w' := by
 obtain ⟨r, hr⟩ : ∃ r, (Pure.keyB ky && decide (a = 0 ∧ b = 0 ∧ tx = ⟨#[]⟩ ∧ tm = [] ∧ hi = 0)) = r := ⟨_, rfl⟩
 rw [hr]
 have HS := Aside0.mk (fun (W : World) (hW : Below w.heap.size w W) k' a' b' tx' ky' lo' hi' => same_calls 8 a b tx A c tm ky lo hi k' a' b' tx' none 0 [] ky' lo' hi' W (Kd.C_below hC hW) hc hn (Kd.C_nil _ _) (Nat.le_refl _))
 obtain ⟨kb, hkb⟩ : ∃ kb, Pure.keyB ky = kb := ⟨_, rfl⟩
 have HK := Aside0.mk (fun W => isKey_calls ky W hk)
 rw [hkb] at hr HK
 clear hkb
 have HR := Aside0.mk hr
 clear hr hC hc hn
 cases kb
 all_goals (
  go_enter Tryz.func61, Tryz.ntmps61
  go_wp2_with fail
  go_region_with (go_at_call 80; refine (HK.out _).mono ?_; rintro e w1 ⟨rfl, ⟨⟨n1, rfl⟩⟩⟩))
 all_goals (try go_wp2_with fail)
 all_goals (try go_wp2_with (go_at_call 84; refine (HS.out _ bel6 _ _ _ _ _ _ _).mono ?_; rintro e w2 ⟨rfl, hb⟩; have HB := Aside0.mk hb; clear hb))
 all_goals go_ret
 all_goals first | refine ⟨?_, below_step bel6 HB.out⟩ | refine ⟨?_, bel6⟩
 all_goals first | refine congrArg (fun z => Ending.returned (Value.bool z)) (show true = r from ?_) | refine congrArg (fun z => Ending.returned (Value.bool z)) (show false = r from ?_) | refine congrArg (fun z => Ending.returned (Value.bool z)) (show decide _ = r from ?_) | refine congrArg (fun z => Ending.returned (Value.bool z)) (show (_ && _) = r from ?_)
 all_goals (rw [← HR.out]; clear HR HS; (try clear HK); (try clear HB); go_light; (try simp only [bytes_nil] at *))
 all_goals grind
theorem right_9 (a b : Int) (tx : ByteArray) (A : Option Addr) (c : Nat) (tm : List ByteArray) (ky : ByteArray) (lo hi : Int) (w : World) (hC : Kd.string.C w A tm.length tm) (hc : tm.length ≤ c) (hn : tm.length ≤ 1099511627776) :
  Calls Tryz.prog 61 #[.agg (nodeC 9 a b tx (.slice A tm.length c) ky lo hi)] w fun e w' => e = .returned (.bool (decide (a = 0 ∧ b = 0 ∧ tx = ⟨#[]⟩ ∧ tm = [] ∧ ky = ⟨#[]⟩))) ∧ Below w.heap.size w w' := by
 obtain ⟨r, hr⟩ : ∃ r, (decide (a = 0 ∧ b = 0 ∧ tx = ⟨#[]⟩ ∧ tm = [] ∧ ky = ⟨#[]⟩)) = r := ⟨_, rfl⟩
 rw [hr]
 have HS := Aside0.mk (fun (W : World) (hW : Below w.heap.size w W) k' a' b' tx' ky' lo' hi' => same_calls 9 a b tx A c tm ky lo hi k' a' b' tx' none 0 [] ky' lo' hi' W (Kd.C_below hC hW) hc hn (Kd.C_nil _ _) (Nat.le_refl _))
 have HR := Aside0.mk hr
 clear hr hC hc hn
 go_enter Tryz.func61, Tryz.ntmps61
 go_wp2_with fail
 all_goals (try go_region)
 all_goals (try go_wp2_with fail)
 all_goals (try go_wp2_with (go_at_call 84; refine (HS.out _ bel6 _ _ _ _ _ _ _).mono ?_; rintro e w2 ⟨rfl, hb⟩; have HB := Aside0.mk hb; clear hb))
 all_goals go_ret
 all_goals first | refine ⟨?_, below_step bel6 HB.out⟩ | refine ⟨?_, bel6⟩
 all_goals first | refine congrArg (fun z => Ending.returned (Value.bool z)) (show true = r from ?_) | refine congrArg (fun z => Ending.returned (Value.bool z)) (show false = r from ?_) | refine congrArg (fun z => Ending.returned (Value.bool z)) (show decide _ = r from ?_) | refine congrArg (fun z => Ending.returned (Value.bool z)) (show (_ && _) = r from ?_)
 all_goals (rw [← HR.out]; clear HR HS; (try clear HK); (try clear HB); go_light; (try simp only [bytes_nil] at *))
 all_goals grind
theorem right_10 (a b : Int) (tx : ByteArray) (A : Option Addr) (c : Nat) (tm : List ByteArray) (ky : ByteArray) (lo hi : Int) (w : World) (hC : Kd.string.C w A tm.length tm) (hc : tm.length ≤ c) (hn : tm.length ≤ 1099511627776) :
  Calls Tryz.prog 61 #[.agg (nodeC 10 a b tx (.slice A tm.length c) ky lo hi)] w fun e w' => e = .returned (.bool (decide (a ≠ b) && decide (tx = ⟨#[]⟩ ∧ tm = [] ∧ ky = ⟨#[]⟩ ∧ lo = 0 ∧ hi = 0))) ∧ Below w.heap.size w w' := by
 obtain ⟨r, hr⟩ : ∃ r, (decide (a ≠ b) && decide (tx = ⟨#[]⟩ ∧ tm = [] ∧ ky = ⟨#[]⟩ ∧ lo = 0 ∧ hi = 0)) = r := ⟨_, rfl⟩
 rw [hr]
 have HS := Aside0.mk (fun (W : World) (hW : Below w.heap.size w W) k' a' b' tx' ky' lo' hi' => same_calls 10 a b tx A c tm ky lo hi k' a' b' tx' none 0 [] ky' lo' hi' W (Kd.C_below hC hW) hc hn (Kd.C_nil _ _) (Nat.le_refl _))
 have HR := Aside0.mk hr
 clear hr hC hc hn
 go_enter Tryz.func61, Tryz.ntmps61
 go_wp2_with fail
 all_goals (try go_region)
 all_goals (try go_wp2_with fail)
 all_goals (try go_wp2_with (go_at_call 84; refine (HS.out _ bel6 _ _ _ _ _ _ _).mono ?_; rintro e w2 ⟨rfl, hb⟩; have HB := Aside0.mk hb; clear hb))
 all_goals go_ret
 all_goals first | refine ⟨?_, below_step bel6 HB.out⟩ | refine ⟨?_, bel6⟩
 all_goals first | refine congrArg (fun z => Ending.returned (Value.bool z)) (show true = r from ?_) | refine congrArg (fun z => Ending.returned (Value.bool z)) (show false = r from ?_) | refine congrArg (fun z => Ending.returned (Value.bool z)) (show decide _ = r from ?_) | refine congrArg (fun z => Ending.returned (Value.bool z)) (show (_ && _) = r from ?_)
 all_goals (rw [← HR.out]; clear HR HS; (try clear HK); (try clear HB); go_light; (try simp only [bytes_nil] at *))
 all_goals grind
theorem right_11 (a b : Int) (tx : ByteArray) (A : Option Addr) (c : Nat) (tm : List ByteArray) (ky : ByteArray) (lo hi : Int) (w : World) (hC : Kd.string.C w A tm.length tm) (hc : tm.length ≤ c) (hn : tm.length ≤ 1099511627776) :
  Calls Tryz.prog 61 #[.agg (nodeC 11 a b tx (.slice A tm.length c) ky lo hi)] w fun e w' => e = .returned (.bool (decide (a ≠ b) && decide (tx = ⟨#[]⟩ ∧ tm = [] ∧ ky = ⟨#[]⟩ ∧ lo = 0 ∧ hi = 0))) ∧ Below w.heap.size w w' := by
 obtain ⟨r, hr⟩ : ∃ r, (decide (a ≠ b) && decide (tx = ⟨#[]⟩ ∧ tm = [] ∧ ky = ⟨#[]⟩ ∧ lo = 0 ∧ hi = 0)) = r := ⟨_, rfl⟩
 rw [hr]
 have HS := Aside0.mk (fun (W : World) (hW : Below w.heap.size w W) k' a' b' tx' ky' lo' hi' => same_calls 11 a b tx A c tm ky lo hi k' a' b' tx' none 0 [] ky' lo' hi' W (Kd.C_below hC hW) hc hn (Kd.C_nil _ _) (Nat.le_refl _))
 have HR := Aside0.mk hr
 clear hr hC hc hn
 go_enter Tryz.func61, Tryz.ntmps61
 go_wp2_with fail
 all_goals (try go_region)
 all_goals (try go_wp2_with fail)
 all_goals (try go_wp2_with (go_at_call 84; refine (HS.out _ bel6 _ _ _ _ _ _ _).mono ?_; rintro e w2 ⟨rfl, hb⟩; have HB := Aside0.mk hb; clear hb))
 all_goals go_ret
 all_goals first | refine ⟨?_, below_step bel6 HB.out⟩ | refine ⟨?_, bel6⟩
 all_goals first | refine congrArg (fun z => Ending.returned (Value.bool z)) (show true = r from ?_) | refine congrArg (fun z => Ending.returned (Value.bool z)) (show false = r from ?_) | refine congrArg (fun z => Ending.returned (Value.bool z)) (show decide _ = r from ?_) | refine congrArg (fun z => Ending.returned (Value.bool z)) (show (_ && _) = r from ?_)
 all_goals (rw [← HR.out]; clear HR HS; (try clear HK); (try clear HB); go_light; (try simp only [bytes_nil] at *))
 all_goals grind
theorem asked_2 (A : Option Addr) (n c : Nat) (ky : ByteArray) (wd sk mo : Int) (w : World) :
  Calls Tryz.prog 60 #[.agg #[.slice A n c, .int .i64 2, .string ky, .int .i64 wd, .int .i64 sk, .int .i64 mo]] w fun e w' => e = .returned (.bool (decide (ky = ⟨#[]⟩ ∧ wd = 0 ∧ sk = 0 ∧ mo = 0))) ∧ Below w.heap.size w w' := by
 obtain ⟨r, hr⟩ : ∃ r, (decide (ky = ⟨#[]⟩ ∧ wd = 0 ∧ sk = 0 ∧ mo = 0)) = r := ⟨_, rfl⟩
 rw [hr]
 have HR := Aside0.mk hr
 clear hr
 go_enter Tryz.func60, Tryz.ntmps60
 go_wp2_with fail
 all_goals (try go_region)
 all_goals (try go_wp2)
 all_goals (try go_region)
 all_goals (try go_wp2)
 all_goals go_ret
 all_goals (refine ⟨?_, by repeat (first | exact Below.refl _ _ | apply pw_below_drewN | apply below_drew1 | apply below_drew | apply Below.setCell (hp := Nat.le_succ _) | apply below_alloc)⟩)
 all_goals first | refine congrArg (fun z => Ending.returned (Value.bool z)) (show true = r from ?_) | refine congrArg (fun z => Ending.returned (Value.bool z)) (show false = r from ?_) | refine congrArg (fun z => Ending.returned (Value.bool z)) (show (mo == 0) = r from ?_) | refine congrArg (fun z => Ending.returned (Value.bool z)) (show decide _ = r from ?_)
 all_goals (rw [← HR.out]; clear HR; (try clear HK); go_light; (try simp only [bytes_nil] at *); (try unfold rngB))
 all_goals grind
theorem info_i64G : (Tryz.prog.info? 3).map (fun i => (i.zero, i.size, i.bytes)) = some (some (.int .i64 0), 1, 8) := by kernel_rfl
abbrev ND := S37
def rightN (n : ND) : Bool := rightB n.f0 n.f1 n.f2 n.f3 n.f4 n.f5 n.f6 n.f7
def partsN (n : ND) : List Int := if n.f0 = 10 ∨ n.f0 = 11 then [n.f1, n.f2] else if n.f0 = 12 then [n.f1] else []
def inN (i : Nat) (k : Int) : Bool := decide (0 ≤ k ∧ k < i)
def bump (u : List Int) (ps : List Int) : List Int := ps.foldl (fun u k => u.set k.toNat (wrap64 (u.getD k.toNat 0 + 1))) u
def formL : Nat → List ND → List Int → Option (List Int)
 | _, [], u => some u
 | i, n :: r, u => if rightN n = true ∧ (partsN n).all (inN i) = true then formL (i + 1) r (bump u (partsN n)) else none
def onesB (u : List Int) : Bool := (u.take (u.length - 1)).all (fun n => n == 1)
def formedB (ns : List ND) (k : Int) (ky : ByteArray) (wd sk mo : Int) : Bool :=
 decide (1 ≤ ns.length ∧ ns.length ≤ 64) && askedB k ky wd sk mo && (match formL 0 ns (List.replicate ns.length 0) with | none => false | some u => onesB u)
theorem made_nums (m : Nat) : madeCells #[Value.int .i64 0] m = (nums .i64 (List.replicate m 0)).toArray := by
 have hl : (madeCells #[Value.int .i64 0] m).toList = nums .i64 (List.replicate m 0) := by
  apply List.ext_getElem
  ·simp [nums, madeCells]
  ·intro i h1 h2
   simp [nums, madeCells, Nat.mod_one]
 rw [← hl, Array.toArray_toList]
theorem bump_len : ∀ (ps : List Int) (u : List Int), (bump u ps).length = u.length
 | [], u => rfl
 | p :: ps, u => by unfold bump; rw [List.foldl_cons]; exact (bump_len ps _).trans (by simp)
theorem bump_snoc (u : List Int) (ps : List Int) (p : Int) : bump u (ps ++ [p]) = (bump u ps).set p.toNat (wrap64 ((bump u ps).getD p.toNat 0 + 1)) := by
 unfold bump
 rw [List.foldl_append]
 rfl
theorem take_next {ps : List Int} {j : Nat} {p : Int} (h : ps[j]? = some p) : ps.take (j + 1) = ps.take j ++ [p] := by
 obtain ⟨hl, he⟩ := List.getElem?_eq_some_iff.1 h
 rw [List.take_succ_eq_append_getElem hl, he]
theorem formL_step (i : Nat) (n : ND) (r : List ND) (u : List Int) {v : List Int} (h : rightN n = true) (ha : (partsN n).all (inN i) = true) (hv : v = bump u (partsN n) := by rfl) : formL i (n :: r) u = formL (i + 1) r v := by
 subst hv
 rw [formL, if_pos ⟨h, ha⟩]
theorem formL_stop (i : Nat) (n : ND) (r : List ND) (u : List Int) {p : Int} (h : p ∈ partsN n) (hp : inN i p = false) : formL i (n :: r) u = none := by
 rw [formL, if_neg (fun e => by have := List.all_eq_true.1 e.2 p h; rw [hp] at this; exact absurd this (by decide))]
theorem nums_cell {w : World} {g t : Nat} {xs : List Int} {j : Nat} {x : Int} (h : w.heap[g]? = some (.cells (nums .i64 xs).toArray t (0, 0))) (hx : xs[j]? = some x) : w.cell? ⟨g, j, none⟩ = some (.int .i64 x) := by
 rw [blk_cell h]
 simp [nums, hx]
theorem nums_put {w : World} {g t : Nat} {xs : List Int} (h : w.heap[g]? = some (.cells (nums .i64 xs).toArray t (0, 0))) (j : Nat) (x : Int) : (w.setCell ⟨g, j, none⟩ (.int .i64 x)).heap[g]? = some (.cells (nums .i64 (xs.set j x)).toArray t (0, 0)) := by
 refine blk_put h j _ ?_
 simp [nums, List.map_set]
def oneU (n : Int) : Bool := n == 1
theorem notOne_calls (n : Int) (w : World) :
  Calls Tryz.prog 63 #[.int .i64 n] w fun e w' => e = .returned (.bool (!oneU n)) ∧ Drawn0 w w' := by
 go_enter Tryz.func63, Tryz.ntmps63
 go_wp2
 go_ret
 exact ⟨rfl, Drawn0.refl _⟩
theorem indexU (A : Option Addr) (c : Nat) (tm : List Int) (w : World) (hC : (Kd.int .i64).C w A tm.length tm) (hc : tm.length ≤ c) (hn : tm.length ≤ 1099511627776) :
  Calls Tryz.prog 85 #[.slice A tm.length c, .func (.func 63) #[] #[]] w fun e w' => ∃ i : Int, e = .returned (.int .i64 i) ∧ decide (0 ≤ i) = (!tm.all oneU) ∧ Drawn0 w w' := by
 have HC := Aside0.mk hC
 clear hC
 go_enter Tryz.func85, Tryz.ntmps85
 go_wp2_with fail
 go_loopg [8] tm.length (fun kq v8 wr => ∃ i : Nat, v8 = .int .i64 (i : Int) ∧ Aside0 (kq + i = tm.length) ∧ Aside0 (∀ j, j < i → ∀ s, tm[j]? = some s → oneU s = true) ∧ Drawn0 w wr)
 case atStart => exact ⟨0, rfl, ⟨rfl⟩, ⟨fun j h => by omega⟩, Drawn0.refl _⟩
 case round =>
  obtain ⟨i, rfl, HI, HA, HD⟩ := hrel
  obtain ⟨⟨m, rfl⟩⟩ := HD
  by_cases hi : i < tm.length
  ·have d0 : decide ((i : Int) < (tm.length : Int)) = true := decide_eq_true (by omega)
   have d1 : decide (i < tm.length) = true := decide_eq_true hi
   obtain ⟨ad, rfl, c0⟩ := Kd.at_int (Kd.C_drewN HC.out m) (i : Int) (by omega) (by omega)
   rw [Int.toNat_natCast] at c0
   have hs : tm[i]? = some (rd tm (i : Int)) := by simp [rd, List.getD, hi]
   have HS := Aside0.mk hs
   obtain ⟨b, hb⟩ : ∃ b, oneU (rd tm (i : Int)) = b := ⟨_, rfl⟩
   have HB := Aside0.mk hb
   have HN := Aside0.mk (notOne_calls (rd tm (i : Int)))
   rw [hb] at HN
   clear hb hs
   have HIL := Aside0.mk hi
   go_wp2_with fail
   refine (HN.out _).mono ?_
   rintro e w3 ⟨rfl, ⟨⟨n3, rfl⟩⟩⟩
   cases b
   ·go_wp2_with fail
    go_ret
    refine ⟨_, rfl, ?_, ⟨⟨_, rfl⟩⟩⟩
    rw [decide_eq_true (by omega)]
    have : tm.all oneU = false := by
     cases e : tm.all oneU with
     | false => rfl
     | true => have := List.all_eq_true.1 e _ (List.mem_of_getElem? HS.out); rw [HB.out] at this; exact absurd this (by decide)
    rw [this]; rfl
   ·go_wp2_with fail
    have ew : (i : Int) + 1 = ((i + 1 : Nat) : Int) := rfl
    try rw [show wrap64 ((i : Int) + 1) = ((i + 1 : Nat) : Int) by have := HIL.out; unfold wrap64; omega]
    try rw [ew]
    go_roundg (tm.length - i - 1)
    case measure => have := HI.out; have := HIL.out; omega
    case rel =>
     refine ⟨i + 1, rfl, ⟨by have := HI.out; have := HIL.out; omega⟩, ⟨fun j hj s hs => ?_⟩, ⟨⟨_, rfl⟩⟩⟩
     by_cases hji : j = i
     ·subst hji
      rw [HS.out] at hs
      cases hs
      exact HB.out
     ·exact HA.out j (by omega) s hs
  ·have d0 : decide ((i : Int) < (tm.length : Int)) = false := decide_eq_false (by omega)
   have d1 : decide (i < tm.length) = false := decide_eq_false hi
   go_wp2_with fail
   go_ret
   refine ⟨_, rfl, ?_, ⟨⟨_, rfl⟩⟩⟩
   have : tm.all oneU = true := List.all_eq_true.2 (fun s hs => by
    obtain ⟨j, hj⟩ := List.getElem?_of_mem hs
    have hl := (List.getElem?_eq_some_iff.1 hj).1
    exact HA.out j (by omega) s hj)
   rw [this]; rfl
theorem containsU (A : Option Addr) (c : Nat) (tm : List Int) (w : World) (hC : (Kd.int .i64).C w A tm.length tm) (hc : tm.length ≤ c) (hn : tm.length ≤ 1099511627776) :
  Calls Tryz.prog 62 #[.slice A tm.length c, .func (.func 63) #[] #[]] w fun e w' => e = .returned (.bool (!tm.all oneU)) ∧ Drawn0 w w' := by
 have hX := indexU A c tm w hC hc hn
 obtain ⟨b, hb⟩ : ∃ b, (!tm.all oneU) = b := ⟨_, rfl⟩
 rw [hb] at hX ⊢
 have HX := Aside0.mk hX
 clear hC hb hX
 go_enter Tryz.func62, Tryz.ntmps62
 go_wp2_with fail
 refine HX.out.mono ?_
 rintro e w3 ⟨i, rfl, hi, hd⟩
 have HD := Aside0.mk hd
 subst hi
 clear hd
 go_wp2_with fail
 all_goals go_ret
 all_goals exact ⟨by rfl, HD.out⟩
theorem nums_take {w : World} {g t : Nat} {xs : List Int} (h : w.heap[g]? = some (.cells (nums .i64 xs).toArray t (0, 0))) {m : Nat} (hm : m ≤ xs.length) (hn : m ≤ 1099511627776) : (Kd.int .i64).C w (some ⟨g, 0, none⟩) m (xs.take m) := by
 refine ⟨by rw [List.length_take]; omega, by omega, fun h0 => ⟨⟨g, 0, none⟩, rfl, fun j p hj => ⟨[.int .i64 p], rfl, rfl, fun i u hi => ?_⟩⟩⟩
 obtain ⟨rfl, rfl⟩ : i = 0 ∧ u = .int .i64 p := by
  cases i with
  | zero => simp at hi; exact ⟨rfl, hi.symm⟩
  | succ i => simp at hi
 show w.cell? _ = _
 rw [WideShapes.add_plain, show 0 + (j * (Kd.int .i64).sz + 0) = j by show 0 + (j * 1 + 0) = j; omega]
 have hjm : j < m := by have := (List.getElem?_eq_some_iff.1 hj).1; rw [List.length_take] at this; omega
 rw [List.getElem?_take_of_lt hjm] at hj
 exact nums_cell h hj
theorem formed_calls (A : Option Addr) (c : Nat) (ns : List ND) (k : Int) (ky : ByteArray) (wd sk mo : Int) (w : World) (hC : Kd.C k37 w A ns.length ns) (hc : ns.length ≤ c)
  (hA : ∀ W, Calls Tryz.prog 60 #[.agg #[.slice A ns.length c, .int .i64 k, .string ky, .int .i64 wd, .int .i64 sk, .int .i64 mo]] W fun e w' => e = .returned (.bool (askedB k ky wd sk mo)) ∧ Below W.heap.size W w')
  (hR : ∀ n ∈ ns, ∀ W A' c', Kd.string.C W A' n.f4.length n.f4 → n.f4.length ≤ c' → Calls Tryz.prog 61 #[.agg #[.int .i64 n.f0, .int .i64 n.f1, .int .i64 n.f2, .string n.f3, .slice A' n.f4.length c', .string n.f5, .int .i64 n.f6, .int .i64 n.f7]] W fun e w' => e = .returned (.bool (rightN n)) ∧ Below W.heap.size W w') :
  Calls Tryz.prog 38 #[.agg #[.slice A ns.length c, .int .i64 k, .string ky, .int .i64 wd, .int .i64 sk, .int .i64 mo]] w fun e w' => e = .returned (.bool (formedB ns k ky wd sk mo)) ∧ Below w.heap.size w w' := by
 by_cases h1 : ns.length < 1
 ·have hf : formedB ns k ky wd sk mo = false := by unfold formedB; rw [decide_eq_false (by omega)]; rfl
  rw [hf]
  have d1 : decide ((ns.length : Int) < 1) = true := decide_eq_true (by omega)
  go_enter Tryz.func38, Tryz.ntmps38
  go_wp2_with fail
  go_ret
  exact ⟨rfl, by repeat (first | exact Below.refl _ _ | apply below_alloc)⟩
 ·have d1 : decide ((ns.length : Int) < 1) = false := decide_eq_false (by omega)
  by_cases h2 : ns.length > 64
  ·have hf : formedB ns k ky wd sk mo = false := by unfold formedB; rw [decide_eq_false (show ¬(1 ≤ ns.length ∧ ns.length ≤ 64) by omega)]; rfl
   rw [hf]
   have d2 : decide ((64 : Int) < (ns.length : Int)) = true := decide_eq_true (by omega)
   go_enter Tryz.func38, Tryz.ntmps38
   go_wp2_with fail
   all_goals go_ret
   all_goals exact ⟨rfl, by repeat (first | exact Below.refl _ _ | apply below_alloc)⟩
  ·have d2 : decide ((64 : Int) < (ns.length : Int)) = false := decide_eq_false (by omega)
   have HF := Aside0.mk (show formedB ns k ky wd sk mo = (askedB k ky wd sk mo && (match formL 0 ns (List.replicate ns.length 0) with | none => false | some u => onesB u)) by unfold formedB; rw [decide_eq_true (show (1 ≤ ns.length ∧ ns.length ≤ 64) by omega)]; rfl)
   obtain ⟨r, hr⟩ : ∃ r, formedB ns k ky wd sk mo = r := ⟨_, rfl⟩
   rw [hr] at HF ⊢
   clear hr
   obtain ⟨b, hb⟩ : ∃ b, askedB k ky wd sk mo = b := ⟨_, rfl⟩
   rw [hb] at HF
   simp only [hb] at hA
   have HA := Aside0.mk hA
   have HR := Aside0.mk hR
   have HC := Aside0.mk hC
   clear hA hR hC hb
   go_enter Tryz.func38, Tryz.ntmps38
   go_wp2_with fail
   refine (HA.out _).mono ?_
   rintro e w2 ⟨rfl, hb⟩
   have HB := Aside0.mk (below_step (below_alloc (Below.refl _ _) _) hb)
   have hA : w2.heap[w.heap.size]? = some (.cells #[.slice A ns.length c, .int .i64 k, .string ky, .int .i64 wd, .int .i64 sk, .int .i64 mo] 24 (0, 0)) := (hb.block _ (by rw [World.size_alloc]; omega)).trans (blk_new w _)
   cases b
   ·clear hb hA
    go_wp2_with fail
    go_ret
    exact ⟨by rw [HF.out]; rfl, HB.out⟩
   have hA0 : w2.cell? ⟨w.heap.size, 0, none⟩ = some (.slice A ns.length c) := (blk_cell hA 0).trans rfl
   have HN2 := Aside0.mk (Kd.C_below HC.out HB.out)
   have hmk := print_make (P := Tryz.prog) 101 3 .i64 8 Tryz.underlying101 info_i64G (by decide) ns.length (by omega)
   have hA1 : (w2.alloc (.cells (madeCells #[.int .i64 0] ns.length) 3)).cell? ⟨w.heap.size, 0, none⟩ = some (.slice A ns.length c) := ((below_alloc (Below.refl w2.heap.size w2) _).cell (World.block_lt_of_cell? w2 _ hA0)).trans hA0
   have HZ := Aside0.mk (show (w2.alloc (.cells (madeCells #[.int .i64 0] ns.length) 3)).heap[w2.heap.size]? = some (.cells (nums .i64 (List.replicate ns.length 0)).toArray 3 (0, 0)) by rw [← made_nums]; exact blk_new w2 _)
   clear hb hA
   go_wp2_with fail
   go_loopg [31] ns.length (fun kq v31 wr => ∃ (i : Nat) (u : List Int), v31 = .int .i64 (i : Int) ∧ Aside0 (kq + i = ns.length) ∧ Aside0 (u.length = ns.length) ∧ Aside0 (formL i (ns.drop i) u = formL 0 ns (List.replicate ns.length 0)) ∧ Aside0 (Below w.heap.size w wr) ∧ Aside0 (Below w2.heap.size w2 wr) ∧ Aside0 (wr.heap[w2.heap.size]? = some (.cells (nums .i64 u).toArray 3 (0, 0))))
   case atStart => exact ⟨0, List.replicate ns.length 0, rfl, ⟨rfl⟩, ⟨by simp⟩, ⟨rfl⟩, ⟨below_alloc HB.out _⟩, ⟨below_alloc (Below.refl _ _) _⟩, HZ⟩
   case round =>
    clear hmk hA0 hA1
    obtain ⟨i, u, rfl, HI, HUL, HS, HBr, HBr2, HU⟩ := hrel
    by_cases hi : i < ns.length
    ·have d3 : decide ((i : Int) < (ns.length : Int)) = true := decide_eq_true (by omega)
     have d4 : decide (i < ns.length) = true := decide_eq_true hi
     obtain ⟨ad, A4, c4, rfl, k0, k1, k2, k3, k4, k5, k6, k7, l4, g4⟩ := at_T37 (Kd.C_below HN2.out HBr2.out) (i : Int) (by omega) (by omega)
     rw [Int.toNat_natCast] at k0 k1 k2 k3 k4 k5 k6 k7
     obtain ⟨n, hn⟩ : ∃ n, rd_T37 ns (i : Int) = n := ⟨_, rfl⟩
     rw [hn] at k0 k1 k2 k3 k4 k5 k6 k7 l4 g4
     have HNE := Aside0.mk (show ns[i]? = some n by rw [← hn]; simp [rd_T37, hi])
     have G4 := Aside0.mk g4
     clear hn g4
     go_wp2_with fail
     refine (HR.out n (List.mem_of_getElem? HNE.out) _ _ _ (Kd.C_below G4.out (below_alloc (Below.refl _ _) _)) l4).mono ?_
     rintro e w3 ⟨rfl, hb⟩
     have HI2 := Aside0.mk hi
     have HB3 := Aside0.mk (below_step (below_alloc HBr.out _) hb)
     have HB32 := Aside0.mk (below_step (below_alloc HBr2.out _) hb)
     have HA := Aside0.mk ((hb.block _ (by rw [World.size_alloc]; omega)).trans (blk_new wr (.cells #[.int .i64 n.f0, .int .i64 n.f1, .int .i64 n.f2, .string n.f3, .slice A4 n.f4.length c4, .string n.f5, .int .i64 n.f6, .int .i64 n.f7] 37)))
     have HU3 := Aside0.mk (blk_below (blk_alloc HU.out (.cells #[.int .i64 n.f0, .int .i64 n.f1, .int .i64 n.f2, .string n.f3, .slice A4 n.f4.length c4, .string n.f5, .int .i64 n.f6, .int .i64 n.f7] 37)) hb)
     have HDR := Aside0.mk (show ns.drop i = n :: ns.drop (i + 1) by rw [List.drop_eq_getElem_cons hi]; have h := HNE.out; rw [List.getElem?_eq_getElem hi] at h; rw [Option.some.inj h])
     have hA0 : w3.cell? ⟨wr.heap.size, 0, none⟩ = some (.int .i64 n.f0) := (blk_cell HA.out 0).trans rfl
     have hA1 : w3.cell? ⟨wr.heap.size, 1, none⟩ = some (.int .i64 n.f1) := (blk_cell HA.out 1).trans rfl
     have hA2 : w3.cell? ⟨wr.heap.size, 2, none⟩ = some (.int .i64 n.f2) := (blk_cell HA.out 2).trans rfl
     clear hb k0 k1 k2 k3 k4 k5 k6 k7 l4
     obtain ⟨rb, hrb⟩ : ∃ rb, rightN n = rb := ⟨_, rfl⟩
     rw [hrb]
     have HRB := Aside0.mk hrb
     clear hrb
     cases rb
     ·go_wp2_with fail
      go_ret
      refine ⟨?_, HB3.out⟩
      rw [HF.out, ← HS.out, HDR.out]
      unfold formL
      rw [if_neg (fun h => by rw [HRB.out] at h; exact absurd h.1 (by decide))]
      rfl
     ·by_cases e10 : n.f0 = 10
      ·have HPS := Aside0.mk (show partsN n = [n.f1, n.f2] by unfold partsN; rw [if_pos (.inl e10)])
       have d20 : (n.f0 == 10) = true := beq_iff_eq.2 e10
       clear e10
       go_wp2_with fail
       go_loopg [56] 2 (fun kq v56 wq => ∃ (j : Nat), v56 = .int .i64 (j : Int) ∧ Aside0 (kq + j = 2) ∧ Aside0 (List.all (List.take j [n.f1, n.f2]) (inN i) = true) ∧ Aside0 (Below w.heap.size w wq) ∧ Aside0 (Below w2.heap.size w2 wq) ∧ Aside0 (wq.heap[w3.heap.size]? = some (.cells (nums .i64 [n.f1, n.f2]).toArray 3 (0, 0))) ∧ Aside0 (wq.heap[w2.heap.size]? = some (.cells (nums .i64 (bump u (([n.f1, n.f2]).take j))).toArray 3 (0, 0))))
       case atStart => exact ⟨0, rfl, ⟨rfl⟩, ⟨rfl⟩, ⟨below_alloc HB3.out _⟩, ⟨below_alloc HB32.out _⟩, ⟨blk_new w3 _⟩, ⟨blk_alloc HU3.out _⟩⟩
       case round =>
        clear hA0 hA1 hA2
        obtain ⟨j, rfl, HJ, HAL, HBq, HBq2, HPB, HUB⟩ := hrel
        by_cases hj : j < 2
        ·have d5 : decide ((j : Int) < 2) = true := decide_eq_true (by omega)
         obtain ⟨p, hp⟩ : ∃ p, ([n.f1, n.f2])[j]? = some p := ⟨_, List.getElem?_eq_getElem (show j < ([n.f1, n.f2]).length from hj)⟩
         have HP := Aside0.mk hp
         have kp : wr.cell? ⟨w3.heap.size, j, none⟩ = some (.int .i64 p) := nums_cell HPB.out hp
         clear hp
         by_cases hp0 : p < 0
         ·have d6 : decide (p < 0) = true := decide_eq_true hp0
          have HQ := Aside0.mk hp0
          clear hp0
          go_wp2_with fail
          go_ret
          refine ⟨?_, HBq.out⟩
          rw [HF.out, ← HS.out, HDR.out, formL_stop _ _ _ _ (p := p) (by rw [HPS.out]; exact List.mem_of_getElem? HP.out) (by have := HQ.out; unfold inN; exact decide_eq_false (by omega))]
          rfl
         ·have d6 : decide (p < 0) = false := decide_eq_false hp0
          by_cases hp1 : p < (i : Int)
          ·have d7 : decide ((i : Int) ≤ p) = false := decide_eq_false (by omega)
           have hul : (bump u (([n.f1, n.f2]).take j)).length = ns.length := (bump_len _ _).trans HUL.out
           obtain ⟨q, hq⟩ : ∃ q : Nat, p = (q : Int) := ⟨p.toNat, by omega⟩
           subst hq
           have d8 : decide ((q : Int) < (ns.length : Int)) = true := decide_eq_true (by omega)
           have d9 : decide (q < ns.length) = true := decide_eq_true (by omega)
           have d10 : decide (0 ≤ (q : Int)) = true := decide_eq_true (by omega)
           have ku : wr.cell? ⟨w2.heap.size, q, none⟩ = some (.int .i64 ((bump u (([n.f1, n.f2]).take j)).getD q 0)) := nums_cell HUB.out (by rw [List.getD_eq_getElem?_getD, List.getElem?_eq_getElem (by omega)]; rfl)
           have kz := blk_frozen HUB.out q
           have HQ := Aside0.mk hp1
           have HJ2 := Aside0.mk hj
           clear hul hp0
           go_wp2_with fail
           go_roundg (2 - j - 1)
           case measure => have := HJ.out; have := HJ2.out; omega
           case rel =>
            refine ⟨j + 1, rfl, ⟨by have := HJ.out; have := HJ2.out; omega⟩, ⟨?_⟩, ⟨HBq.out.setCell (p := ⟨w2.heap.size, q, none⟩) (by have := HB.out.size; omega) _⟩, ⟨HBq2.out.setCell (p := ⟨w2.heap.size, q, none⟩) (Nat.le_refl _) _⟩, ⟨blk_far HPB.out (p := ⟨w2.heap.size, q, none⟩) (by show w3.heap.size ≠ w2.heap.size; have := HU3.out; have := blk_lt this; omega) _⟩, ⟨?_⟩⟩
            ·rw [take_next HP.out, List.all_append, HAL.out]
             have := HQ.out
             simp only [List.all_cons, List.all_nil, inN, Bool.and_true, Bool.true_and]
             exact decide_eq_true (by omega)
            ·rw [take_next HP.out, bump_snoc]
             exact nums_put HUB.out q _
          ·have d7 : decide ((i : Int) ≤ p) = true := decide_eq_true (by omega)
           have HQ := Aside0.mk hp1
           clear hp0 hp1
           go_wp2_with fail
           go_ret
           refine ⟨?_, HBq.out⟩
           rw [HF.out, ← HS.out, HDR.out, formL_stop _ _ _ _ (p := p) (by rw [HPS.out]; exact List.mem_of_getElem? HP.out) (by have := HQ.out; unfold inN; exact decide_eq_false (by omega))]
           rfl
        ·have hje : j = 2 := by have := HJ.out; omega
         subst hje
         go_wp2_with fail
         try rw [show wrap64 ((i : Int) + 1) = ((i + 1 : Nat) : Int) by have := HI2.out; have := HI.out; have := h2; unfold wrap64; omega]
         go_roundg (ns.length - i - 1)
         case measure => have := HI.out; have := HI2.out; omega
         case rel => exact ⟨i + 1, bump u ([n.f1, n.f2]), rfl, ⟨by have := HI.out; have := HI2.out; omega⟩, ⟨(bump_len _ _).trans HUL.out⟩, ⟨by rw [← HS.out, HDR.out]; exact (formL_step _ _ _ _ HRB.out (by rw [HPS.out]; exact HAL.out) (by rw [HPS.out])).symm⟩, HBq, HBq2, HUB⟩
      ·by_cases e11 : n.f0 = 11
       ·have HPS := Aside0.mk (show partsN n = [n.f1, n.f2] by unfold partsN; rw [if_pos (.inr e11)])
        have d20 : (n.f0 == 10) = false := beq_eq_false_iff_ne.2 e10
        have d21 : (n.f0 == 11) = true := beq_iff_eq.2 e11
        clear e10 e11
        go_wp2_with fail
        go_loopg [56] 2 (fun kq v56 wq => ∃ (j : Nat), v56 = .int .i64 (j : Int) ∧ Aside0 (kq + j = 2) ∧ Aside0 (List.all (List.take j [n.f1, n.f2]) (inN i) = true) ∧ Aside0 (Below w.heap.size w wq) ∧ Aside0 (Below w2.heap.size w2 wq) ∧ Aside0 (wq.heap[w3.heap.size]? = some (.cells (nums .i64 [n.f1, n.f2]).toArray 3 (0, 0))) ∧ Aside0 (wq.heap[w2.heap.size]? = some (.cells (nums .i64 (bump u (([n.f1, n.f2]).take j))).toArray 3 (0, 0))))
        case atStart => exact ⟨0, rfl, ⟨rfl⟩, ⟨rfl⟩, ⟨below_alloc HB3.out _⟩, ⟨below_alloc HB32.out _⟩, ⟨blk_new w3 _⟩, ⟨blk_alloc HU3.out _⟩⟩
        case round =>
         clear hA0 hA1 hA2
         obtain ⟨j, rfl, HJ, HAL, HBq, HBq2, HPB, HUB⟩ := hrel
         by_cases hj : j < 2
         ·have d5 : decide ((j : Int) < 2) = true := decide_eq_true (by omega)
          obtain ⟨p, hp⟩ : ∃ p, ([n.f1, n.f2])[j]? = some p := ⟨_, List.getElem?_eq_getElem (show j < ([n.f1, n.f2]).length from hj)⟩
          have HP := Aside0.mk hp
          have kp : wr.cell? ⟨w3.heap.size, j, none⟩ = some (.int .i64 p) := nums_cell HPB.out hp
          clear hp
          by_cases hp0 : p < 0
          ·have d6 : decide (p < 0) = true := decide_eq_true hp0
           have HQ := Aside0.mk hp0
           clear hp0
           go_wp2_with fail
           go_ret
           refine ⟨?_, HBq.out⟩
           rw [HF.out, ← HS.out, HDR.out, formL_stop _ _ _ _ (p := p) (by rw [HPS.out]; exact List.mem_of_getElem? HP.out) (by have := HQ.out; unfold inN; exact decide_eq_false (by omega))]
           rfl
          ·have d6 : decide (p < 0) = false := decide_eq_false hp0
           by_cases hp1 : p < (i : Int)
           ·have d7 : decide ((i : Int) ≤ p) = false := decide_eq_false (by omega)
            have hul : (bump u (([n.f1, n.f2]).take j)).length = ns.length := (bump_len _ _).trans HUL.out
            obtain ⟨q, hq⟩ : ∃ q : Nat, p = (q : Int) := ⟨p.toNat, by omega⟩
            subst hq
            have d8 : decide ((q : Int) < (ns.length : Int)) = true := decide_eq_true (by omega)
            have d9 : decide (q < ns.length) = true := decide_eq_true (by omega)
            have d10 : decide (0 ≤ (q : Int)) = true := decide_eq_true (by omega)
            have ku : wr.cell? ⟨w2.heap.size, q, none⟩ = some (.int .i64 ((bump u (([n.f1, n.f2]).take j)).getD q 0)) := nums_cell HUB.out (by rw [List.getD_eq_getElem?_getD, List.getElem?_eq_getElem (by omega)]; rfl)
            have kz := blk_frozen HUB.out q
            have HQ := Aside0.mk hp1
            have HJ2 := Aside0.mk hj
            clear hul hp0
            go_wp2_with fail
            go_roundg (2 - j - 1)
            case measure => have := HJ.out; have := HJ2.out; omega
            case rel =>
             refine ⟨j + 1, rfl, ⟨by have := HJ.out; have := HJ2.out; omega⟩, ⟨?_⟩, ⟨HBq.out.setCell (p := ⟨w2.heap.size, q, none⟩) (by have := HB.out.size; omega) _⟩, ⟨HBq2.out.setCell (p := ⟨w2.heap.size, q, none⟩) (Nat.le_refl _) _⟩, ⟨blk_far HPB.out (p := ⟨w2.heap.size, q, none⟩) (by show w3.heap.size ≠ w2.heap.size; have := HU3.out; have := blk_lt this; omega) _⟩, ⟨?_⟩⟩
             ·rw [take_next HP.out, List.all_append, HAL.out]
              have := HQ.out
              simp only [List.all_cons, List.all_nil, inN, Bool.and_true, Bool.true_and]
              exact decide_eq_true (by omega)
             ·rw [take_next HP.out, bump_snoc]
              exact nums_put HUB.out q _
           ·have d7 : decide ((i : Int) ≤ p) = true := decide_eq_true (by omega)
            have HQ := Aside0.mk hp1
            clear hp0 hp1
            go_wp2_with fail
            go_ret
            refine ⟨?_, HBq.out⟩
            rw [HF.out, ← HS.out, HDR.out, formL_stop _ _ _ _ (p := p) (by rw [HPS.out]; exact List.mem_of_getElem? HP.out) (by have := HQ.out; unfold inN; exact decide_eq_false (by omega))]
            rfl
         ·have hje : j = 2 := by have := HJ.out; omega
          subst hje
          go_wp2_with fail
          try rw [show wrap64 ((i : Int) + 1) = ((i + 1 : Nat) : Int) by have := HI2.out; have := HI.out; have := h2; unfold wrap64; omega]
          go_roundg (ns.length - i - 1)
          case measure => have := HI.out; have := HI2.out; omega
          case rel => exact ⟨i + 1, bump u ([n.f1, n.f2]), rfl, ⟨by have := HI.out; have := HI2.out; omega⟩, ⟨(bump_len _ _).trans HUL.out⟩, ⟨by rw [← HS.out, HDR.out]; exact (formL_step _ _ _ _ HRB.out (by rw [HPS.out]; exact HAL.out) (by rw [HPS.out])).symm⟩, HBq, HBq2, HUB⟩
       ·by_cases e12 : n.f0 = 12
        ·have HPS := Aside0.mk (show partsN n = [n.f1] by unfold partsN; rw [if_neg (by omega), if_pos e12])
         have d20 : (n.f0 == 10) = false := beq_eq_false_iff_ne.2 e10
         have d21 : (n.f0 == 11) = false := beq_eq_false_iff_ne.2 e11
         have d22 : (n.f0 == 12) = true := beq_iff_eq.2 e12
         clear e10 e11 e12
         go_wp2_with fail
         go_loopg [56] 1 (fun kq v56 wq => ∃ (j : Nat), v56 = .int .i64 (j : Int) ∧ Aside0 (kq + j = 1) ∧ Aside0 (List.all (List.take j [n.f1]) (inN i) = true) ∧ Aside0 (Below w.heap.size w wq) ∧ Aside0 (Below w2.heap.size w2 wq) ∧ Aside0 (wq.heap[w3.heap.size]? = some (.cells (nums .i64 [n.f1]).toArray 3 (0, 0))) ∧ Aside0 (wq.heap[w2.heap.size]? = some (.cells (nums .i64 (bump u (([n.f1]).take j))).toArray 3 (0, 0))))
         case atStart => exact ⟨0, rfl, ⟨rfl⟩, ⟨rfl⟩, ⟨below_alloc HB3.out _⟩, ⟨below_alloc HB32.out _⟩, ⟨blk_new w3 _⟩, ⟨blk_alloc HU3.out _⟩⟩
         case round =>
          clear hA0 hA1 hA2
          obtain ⟨j, rfl, HJ, HAL, HBq, HBq2, HPB, HUB⟩ := hrel
          by_cases hj : j < 1
          ·have d5 : decide ((j : Int) < 1) = true := decide_eq_true (by omega)
           obtain ⟨p, hp⟩ : ∃ p, ([n.f1])[j]? = some p := ⟨_, List.getElem?_eq_getElem (show j < ([n.f1]).length from hj)⟩
           have HP := Aside0.mk hp
           have kp : wr.cell? ⟨w3.heap.size, j, none⟩ = some (.int .i64 p) := nums_cell HPB.out hp
           clear hp
           by_cases hp0 : p < 0
           ·have d6 : decide (p < 0) = true := decide_eq_true hp0
            have HQ := Aside0.mk hp0
            clear hp0
            go_wp2_with fail
            go_ret
            refine ⟨?_, HBq.out⟩
            rw [HF.out, ← HS.out, HDR.out, formL_stop _ _ _ _ (p := p) (by rw [HPS.out]; exact List.mem_of_getElem? HP.out) (by have := HQ.out; unfold inN; exact decide_eq_false (by omega))]
            rfl
           ·have d6 : decide (p < 0) = false := decide_eq_false hp0
            by_cases hp1 : p < (i : Int)
            ·have d7 : decide ((i : Int) ≤ p) = false := decide_eq_false (by omega)
             have hul : (bump u (([n.f1]).take j)).length = ns.length := (bump_len _ _).trans HUL.out
             obtain ⟨q, hq⟩ : ∃ q : Nat, p = (q : Int) := ⟨p.toNat, by omega⟩
             subst hq
             have d8 : decide ((q : Int) < (ns.length : Int)) = true := decide_eq_true (by omega)
             have d9 : decide (q < ns.length) = true := decide_eq_true (by omega)
             have d10 : decide (0 ≤ (q : Int)) = true := decide_eq_true (by omega)
             have ku : wr.cell? ⟨w2.heap.size, q, none⟩ = some (.int .i64 ((bump u (([n.f1]).take j)).getD q 0)) := nums_cell HUB.out (by rw [List.getD_eq_getElem?_getD, List.getElem?_eq_getElem (by omega)]; rfl)
             have kz := blk_frozen HUB.out q
             have HQ := Aside0.mk hp1
             have HJ2 := Aside0.mk hj
             clear hul hp0
             go_wp2_with fail
             go_roundg (1 - j - 1)
             case measure => have := HJ.out; have := HJ2.out; omega
             case rel =>
              refine ⟨j + 1, rfl, ⟨by have := HJ.out; have := HJ2.out; omega⟩, ⟨?_⟩, ⟨HBq.out.setCell (p := ⟨w2.heap.size, q, none⟩) (by have := HB.out.size; omega) _⟩, ⟨HBq2.out.setCell (p := ⟨w2.heap.size, q, none⟩) (Nat.le_refl _) _⟩, ⟨blk_far HPB.out (p := ⟨w2.heap.size, q, none⟩) (by show w3.heap.size ≠ w2.heap.size; have := HU3.out; have := blk_lt this; omega) _⟩, ⟨?_⟩⟩
              ·rw [take_next HP.out, List.all_append, HAL.out]
               have := HQ.out
               simp only [List.all_cons, List.all_nil, inN, Bool.and_true, Bool.true_and]
               exact decide_eq_true (by omega)
              ·rw [take_next HP.out, bump_snoc]
               exact nums_put HUB.out q _
            ·have d7 : decide ((i : Int) ≤ p) = true := decide_eq_true (by omega)
             have HQ := Aside0.mk hp1
             clear hp0 hp1
             go_wp2_with fail
             go_ret
             refine ⟨?_, HBq.out⟩
             rw [HF.out, ← HS.out, HDR.out, formL_stop _ _ _ _ (p := p) (by rw [HPS.out]; exact List.mem_of_getElem? HP.out) (by have := HQ.out; unfold inN; exact decide_eq_false (by omega))]
             rfl
          ·have hje : j = 1 := by have := HJ.out; omega
           subst hje
           go_wp2_with fail
           try rw [show wrap64 ((i : Int) + 1) = ((i + 1 : Nat) : Int) by have := HI2.out; have := HI.out; have := h2; unfold wrap64; omega]
           go_roundg (ns.length - i - 1)
           case measure => have := HI.out; have := HI2.out; omega
           case rel => exact ⟨i + 1, bump u ([n.f1]), rfl, ⟨by have := HI.out; have := HI2.out; omega⟩, ⟨(bump_len _ _).trans HUL.out⟩, ⟨by rw [← HS.out, HDR.out]; exact (formL_step _ _ _ _ HRB.out (by rw [HPS.out]; exact HAL.out) (by rw [HPS.out])).symm⟩, HBq, HBq2, HUB⟩
        ·have HPS := Aside0.mk (show partsN n = [] by unfold partsN; rw [if_neg (by omega), if_neg e12])
         have d20 : (n.f0 == 10) = false := beq_eq_false_iff_ne.2 e10
         have d21 : (n.f0 == 11) = false := beq_eq_false_iff_ne.2 e11
         have d22 : (n.f0 == 12) = false := beq_eq_false_iff_ne.2 e12
         clear e10 e11 e12
         go_wp2_with fail
         go_loopg [56] 0 (fun kq v56 wq => v56 = .int .i64 0 ∧ wq = w3)
         case atStart => exact ⟨rfl, rfl⟩
         case round =>
          obtain ⟨rfl, rfl⟩ := hrel
          go_wp2_with fail
          try rw [show wrap64 ((i : Int) + 1) = ((i + 1 : Nat) : Int) by have := HI2.out; have := HI.out; have := h2; unfold wrap64; omega]
          go_roundg (ns.length - i - 1)
          case measure => have := HI.out; have := HI2.out; omega
          case rel => exact ⟨i + 1, u, rfl, ⟨by have := HI.out; have := HI2.out; omega⟩, HUL, ⟨by rw [← HS.out, HDR.out]; exact (formL_step _ _ _ _ HRB.out (by rw [HPS.out]; rfl) (by rw [HPS.out]; rfl)).symm⟩, HB3, HB32, HU3⟩
    ·have hie : i = ns.length := by have := HI.out; omega
     subst hie
     have d3 : decide ((ns.length : Int) < (ns.length : Int)) = false := decide_eq_false (by omega)
     have HUC := Aside0.mk (nums_take HU.out (m := ns.length - 1) (by have := HUL.out; omega) (by omega))
     go_wp2_with fail
     have hcc := containsU (some ⟨w2.heap.size, 0, none⟩) ns.length (u.take (ns.length - 1)) wr (by rw [List.length_take, HUL.out, Nat.min_eq_left (by omega)]; exact HUC.out) (by rw [List.length_take]; omega) (by rw [List.length_take]; omega)
     rw [List.length_take, HUL.out, Nat.min_eq_left (by omega)] at hcc
     refine hcc.mono ?_
     rintro e w5 ⟨rfl, hd⟩
     have HB5 := Aside0.mk (below_step HBr.out hd.below)
     clear hd
     go_wp2_with fail
     go_ret
     refine ⟨?_, HB5.out⟩
     rw [HF.out, ← HS.out]
     simp only [List.drop_length, formL]
     show _ = Ending.returned (Value.bool (true && onesB u))
     unfold onesB
     rw [HUL.out]
     rw [Bool.true_and]
     first | rfl | (rw [Bool.not_not]; rfl)
end Go.Proofs.YtehaodbheifokaaGreatDoor.P
end
section
namespace Go.Proofs
open Go.Shelf
def Tryz.laysM171_ren : Go.Shelf.Ren := ⟨fun | 171 => 96 | 243 => 117 | 246 => 141 | 283 => 161 | 284 => 162 | 285 => 163 | 286 => 164 | 129 => 127 | 317 => 173 | 318 => 174 | 319 => 175 | 320 => 176 | 337 => 185 | 338 => 186 | n => n, fun | 3 => 3 | 9 => 9 | 2 => 2 | 4 => 4 | 171 => 190 | 0 => 0 | 53 => 142 | 37 => 25 | 5 => 5 | 173 => 192 | 212 => 201 | 51 => 157 | 20 => 20 | 213 => 202 | 46 => 135 | 232 => 219 | 233 => 220 | n => n, fun | 17 => 1 | 18 => 6 | 19 => 7 | n => n⟩
theorem Tryz.laysM171 : Go.Proofs.LaysM.n171 Tryz.prog Tryz.laysM171_ren := {
 mixed := by kernel_rfl
 f129 := Tryz.func127.trans (congrArg some (by kernel_rfl))
 f171 := Tryz.func96.trans (congrArg some (by kernel_rfl))
 f243 := Tryz.func117.trans (congrArg some (by kernel_rfl))
 f246 := Tryz.func141.trans (congrArg some (by kernel_rfl))
 f283 := Tryz.func161.trans (congrArg some (by kernel_rfl))
 f284 := Tryz.func162.trans (congrArg some (by kernel_rfl))
 f285 := Tryz.func163.trans (congrArg some (by kernel_rfl))
 f286 := Tryz.func164.trans (congrArg some (by kernel_rfl))
 f317 := Tryz.func173.trans (congrArg some (by kernel_rfl))
 f318 := Tryz.func174.trans (congrArg some (by kernel_rfl))
 f319 := Tryz.func175.trans (congrArg some (by kernel_rfl))
 f320 := Tryz.func176.trans (congrArg some (by kernel_rfl))
 f337 := Tryz.func185.trans (congrArg some (by kernel_rfl))
 f338 := Tryz.func186.trans (congrArg some (by kernel_rfl))
 t0 := Tryz.underlying0
 a0 := Tryz.isAgg0
 z0 := Tryz.sizeOf0
 v0 := Tryz.zeroValue0
 t2 := Tryz.underlying2
 a2 := Tryz.isAgg2
 z2 := Tryz.sizeOf2
 v2 := Tryz.zeroValue2
 t3 := Tryz.underlying3
 a3 := Tryz.isAgg3
 z3 := Tryz.sizeOf3
 v3 := Tryz.zeroValue3
 t4 := Tryz.underlying4
 a4 := Tryz.isAgg4
 z4 := Tryz.sizeOf4
 v4 := Tryz.zeroValue4
 t5 := Tryz.underlying5
 a5 := Tryz.isAgg5
 z5 := Tryz.sizeOf5
 v5 := Tryz.zeroValue5
 t9 := Tryz.underlying9
 a9 := Tryz.isAgg9
 z9 := Tryz.sizeOf9
 v9 := Tryz.zeroValue9
 t20 := Tryz.underlying20
 a20 := Tryz.isAgg20
 z20 := Tryz.sizeOf20
 v20 := Tryz.zeroValue20
 t37 := Tryz.underlying25
 a37 := Tryz.isAgg25
 z37 := Tryz.sizeOf25
 v37 := Tryz.zeroValue25
 t46 := Tryz.underlying135
 a46 := Tryz.isAgg135
 z46 := Tryz.sizeOf135
 v46 := Tryz.zeroValue135
 t51 := Tryz.underlying157
 a51 := Tryz.isAgg157
 z51 := Tryz.sizeOf157
 v51 := Tryz.zeroValue157
 t53 := Tryz.underlying142
 a53 := Tryz.isAgg142
 z53 := Tryz.sizeOf142
 v53 := Tryz.zeroValue142
 t171 := Tryz.underlying190
 a171 := Tryz.isAgg190
 z171 := Tryz.sizeOf190
 v171 := Tryz.zeroValue190
 t173 := Tryz.underlying192
 a173 := Tryz.isAgg192
 z173 := Tryz.sizeOf192
 v173 := Tryz.zeroValue192
 t212 := Tryz.underlying201
 a212 := Tryz.isAgg201
 z212 := Tryz.sizeOf201
 v212 := Tryz.zeroValue201
 t213 := Tryz.underlying202
 a213 := Tryz.isAgg202
 z213 := Tryz.sizeOf202
 t232 := Tryz.underlying219
 a232 := Tryz.isAgg219
 z232 := Tryz.sizeOf219
 v232 := Tryz.zeroValue219
 t233 := Tryz.underlying220
 a233 := Tryz.isAgg220
 z233 := Tryz.sizeOf220
 v233 := Tryz.zeroValue220
 g17 := by kernel_rfl
 g18 := by kernel_rfl
 g19 := by kernel_rfl
 i0 := by kernel_rfl
 i2 := by kernel_rfl
 i3 := by kernel_rfl
 i4 := by kernel_rfl
 i5 := by kernel_rfl
 i9 := by kernel_rfl
 i20 := by kernel_rfl
 i37 := by kernel_rfl
 i46 := by kernel_rfl
 i51 := by kernel_rfl
 i53 := by kernel_rfl
 i171 := by kernel_rfl
 i173 := by kernel_rfl
 i212 := by kernel_rfl
 i232 := by kernel_rfl
 i233 := by kernel_rfl
 m17 := by kernel_rfl
 m18 := by kernel_rfl
 m19 := by kernel_rfl }
open Go.RowKit Go.Sort Go.Lib in
theorem Tryz.strconv_Itoa (n : Int) (h0 : -9223372036854775808 ≤ n) (h1 : n ≤ 9223372036854775807) (w : World) (htab : Lib.TabIs Tryz.prog w "internal/strconv.uint64pow10" .u64 Lib.pow10Tab) :
  Calls Tryz.prog 96 #[.int .i64 n] w fun e w' => e = .returned (.string ⟨(Lib.itoa n).toArray⟩) ∧ ∃ k os, w' = grow (w.drewN k) os := Any.strconv_Itoa Tryz.laysM171 n h0 h1 w htab
def Tryz.laysC172_ren : Go.Shelf.Ren := ⟨fun | 172 => 160 | 244 => 171 | 245 => 172 | 247 => 180 | 279 => 181 | 280 => 182 | 281 => 183 | 282 => 184 | 287 => 188 | 316 => 189 | 171 => 96 | 205 => 190 | 321 => 191 | 322 => 192 | 243 => 117 | 246 => 141 | 283 => 161 | 284 => 162 | 285 => 163 | 286 => 164 | 129 => 127 | 317 => 173 | 318 => 174 | 319 => 175 | 320 => 176 | 337 => 185 | 338 => 186 | n => n, fun | 9 => 9 | 3 => 3 | 75 => 187 | 76 => 188 | 4 => 4 | 5 => 5 | 167 => 207 | 37 => 25 | 0 => 0 | 85 => 208 | 2 => 2 | 168 => 210 | 53 => 142 | 175 => 214 | 46 => 135 | 210 => 217 | 127 => 221 | 145 => 224 | 143 => 222 | 21 => 21 | 171 => 190 | 173 => 192 | 212 => 201 | 51 => 157 | 20 => 20 | 213 => 202 | 232 => 219 | 233 => 220 | 80 => 225 | n => n, fun | 15 => 4 | 16 => 5 | 17 => 1 | 18 => 6 | 19 => 7 | n => n⟩
theorem Tryz.laysC172 : Go.Proofs.LaysC.n172 Tryz.prog Tryz.laysC172_ren := {
 mixed := by kernel_rfl
 f129 := Tryz.func127.trans (congrArg some (by kernel_rfl))
 f171 := Tryz.func96.trans (congrArg some (by kernel_rfl))
 f172 := Tryz.func160.trans (congrArg some (by kernel_rfl))
 f205 := Tryz.func190.trans (congrArg some (by kernel_rfl))
 f243 := Tryz.func117.trans (congrArg some (by kernel_rfl))
 f244 := Tryz.func171.trans (congrArg some (by kernel_rfl))
 f245 := Tryz.func172.trans (congrArg some (by kernel_rfl))
 f246 := Tryz.func141.trans (congrArg some (by kernel_rfl))
 f247 := Tryz.func180.trans (congrArg some (by kernel_rfl))
 f279 := Tryz.func181.trans (congrArg some (by kernel_rfl))
 f280 := Tryz.func182.trans (congrArg some (by kernel_rfl))
 f281 := Tryz.func183.trans (congrArg some (by kernel_rfl))
 f282 := Tryz.func184.trans (congrArg some (by kernel_rfl))
 f283 := Tryz.func161.trans (congrArg some (by kernel_rfl))
 f284 := Tryz.func162.trans (congrArg some (by kernel_rfl))
 f285 := Tryz.func163.trans (congrArg some (by kernel_rfl))
 f286 := Tryz.func164.trans (congrArg some (by kernel_rfl))
 f287 := Tryz.func188.trans (congrArg some (by kernel_rfl))
 f316 := Tryz.func189.trans (congrArg some (by kernel_rfl))
 f317 := Tryz.func173.trans (congrArg some (by kernel_rfl))
 f318 := Tryz.func174.trans (congrArg some (by kernel_rfl))
 f319 := Tryz.func175.trans (congrArg some (by kernel_rfl))
 f320 := Tryz.func176.trans (congrArg some (by kernel_rfl))
 f321 := Tryz.func191.trans (congrArg some (by kernel_rfl))
 f322 := Tryz.func192.trans (congrArg some (by kernel_rfl))
 f337 := Tryz.func185.trans (congrArg some (by kernel_rfl))
 f338 := Tryz.func186.trans (congrArg some (by kernel_rfl))
 t0 := Tryz.underlying0
 a0 := Tryz.isAgg0
 z0 := Tryz.sizeOf0
 v0 := Tryz.zeroValue0
 t2 := Tryz.underlying2
 a2 := Tryz.isAgg2
 z2 := Tryz.sizeOf2
 v2 := Tryz.zeroValue2
 t3 := Tryz.underlying3
 a3 := Tryz.isAgg3
 z3 := Tryz.sizeOf3
 v3 := Tryz.zeroValue3
 t4 := Tryz.underlying4
 a4 := Tryz.isAgg4
 z4 := Tryz.sizeOf4
 v4 := Tryz.zeroValue4
 t5 := Tryz.underlying5
 a5 := Tryz.isAgg5
 z5 := Tryz.sizeOf5
 v5 := Tryz.zeroValue5
 t9 := Tryz.underlying9
 a9 := Tryz.isAgg9
 z9 := Tryz.sizeOf9
 v9 := Tryz.zeroValue9
 t20 := Tryz.underlying20
 a20 := Tryz.isAgg20
 z20 := Tryz.sizeOf20
 v20 := Tryz.zeroValue20
 t21 := Tryz.underlying21
 a21 := Tryz.isAgg21
 z21 := Tryz.sizeOf21
 v21 := Tryz.zeroValue21
 t37 := Tryz.underlying25
 a37 := Tryz.isAgg25
 z37 := Tryz.sizeOf25
 v37 := Tryz.zeroValue25
 t46 := Tryz.underlying135
 a46 := Tryz.isAgg135
 z46 := Tryz.sizeOf135
 v46 := Tryz.zeroValue135
 t51 := Tryz.underlying157
 a51 := Tryz.isAgg157
 z51 := Tryz.sizeOf157
 v51 := Tryz.zeroValue157
 t53 := Tryz.underlying142
 a53 := Tryz.isAgg142
 z53 := Tryz.sizeOf142
 v53 := Tryz.zeroValue142
 t75 := Tryz.underlying187
 a75 := Tryz.isAgg187
 z75 := Tryz.sizeOf187
 v75 := Tryz.zeroValue187
 t76 := Tryz.underlying188
 a76 := Tryz.isAgg188
 z76 := Tryz.sizeOf188
 v76 := Tryz.zeroValue188
 t85 := Tryz.underlying208
 a85 := Tryz.isAgg208
 z85 := Tryz.sizeOf208
 v85 := Tryz.zeroValue208
 t127 := Tryz.underlying221
 a127 := Tryz.isAgg221
 z127 := Tryz.sizeOf221
 v127 := Tryz.zeroValue221
 t143 := Tryz.underlying222
 a143 := Tryz.isAgg222
 z143 := Tryz.sizeOf222
 v143 := Tryz.zeroValue222
 t145 := Tryz.underlying224
 a145 := Tryz.isAgg224
 z145 := Tryz.sizeOf224
 v145 := Tryz.zeroValue224
 t167 := Tryz.underlying207
 a167 := Tryz.isAgg207
 z167 := Tryz.sizeOf207
 v167 := Tryz.zeroValue207
 t168 := Tryz.underlying210
 a168 := Tryz.isAgg210
 z168 := Tryz.sizeOf210
 v168 := Tryz.zeroValue210
 t171 := Tryz.underlying190
 a171 := Tryz.isAgg190
 z171 := Tryz.sizeOf190
 v171 := Tryz.zeroValue190
 t173 := Tryz.underlying192
 a173 := Tryz.isAgg192
 z173 := Tryz.sizeOf192
 v173 := Tryz.zeroValue192
 t175 := Tryz.underlying214
 a175 := Tryz.isAgg214
 z175 := Tryz.sizeOf214
 v175 := Tryz.zeroValue214
 t210 := Tryz.underlying217
 a210 := Tryz.isAgg217
 z210 := Tryz.sizeOf217
 v210 := Tryz.zeroValue217
 t212 := Tryz.underlying201
 a212 := Tryz.isAgg201
 z212 := Tryz.sizeOf201
 v212 := Tryz.zeroValue201
 t213 := Tryz.underlying202
 a213 := Tryz.isAgg202
 z213 := Tryz.sizeOf202
 t232 := Tryz.underlying219
 a232 := Tryz.isAgg219
 z232 := Tryz.sizeOf219
 v232 := Tryz.zeroValue219
 t233 := Tryz.underlying220
 a233 := Tryz.isAgg220
 z233 := Tryz.sizeOf220
 v233 := Tryz.zeroValue220
 g15 := by kernel_rfl
 g16 := by kernel_rfl
 g17 := by kernel_rfl
 g18 := by kernel_rfl
 g19 := by kernel_rfl
 t80 := Tryz.underlying225
 a80 := Tryz.isAgg225
 z80 := Tryz.sizeOf225
 v80 := Tryz.zeroValue225
 i0 := by kernel_rfl
 i2 := by kernel_rfl
 i3 := by kernel_rfl
 i4 := by kernel_rfl
 i5 := by kernel_rfl
 i9 := by kernel_rfl
 i20 := by kernel_rfl
 i21 := by kernel_rfl
 i37 := by kernel_rfl
 i46 := by kernel_rfl
 i51 := by kernel_rfl
 i53 := by kernel_rfl
 i75 := by kernel_rfl
 i76 := by kernel_rfl
 i80 := by kernel_rfl
 i85 := by kernel_rfl
 i127 := by kernel_rfl
 i143 := by kernel_rfl
 i145 := by kernel_rfl
 i167 := by kernel_rfl
 i168 := by kernel_rfl
 i171 := by kernel_rfl
 i173 := by kernel_rfl
 i175 := by kernel_rfl
 i210 := by kernel_rfl
 i212 := by kernel_rfl
 i232 := by kernel_rfl
 i233 := by kernel_rfl
 m15 := by kernel_rfl
 m16 := by kernel_rfl
 m17 := by kernel_rfl
 m18 := by kernel_rfl
 m19 := by kernel_rfl
 c0 := by kernel_rfl
 c2 := by kernel_rfl
 c3 := by kernel_rfl
 c4 := by kernel_rfl
 c5 := by kernel_rfl
 c9 := by kernel_rfl
 c20 := by kernel_rfl
 c21 := by kernel_rfl
 c37 := by kernel_rfl
 c46 := by kernel_rfl
 c51 := by kernel_rfl
 c53 := by kernel_rfl
 c75 := by kernel_rfl
 c76 := by kernel_rfl
 c80 := by kernel_rfl
 c85 := by kernel_rfl
 c127 := by kernel_rfl
 c143 := by kernel_rfl
 c145 := by kernel_rfl
 c167 := by kernel_rfl
 c168 := by kernel_rfl
 c171 := by kernel_rfl
 c173 := by kernel_rfl
 c175 := by kernel_rfl
 c210 := by kernel_rfl
 c212 := by kernel_rfl
 c213 := by kernel_rfl
 c232 := by kernel_rfl
 c233 := by kernel_rfl }
open Go.RowKit in
theorem Tryz.strconv_Atoi_ok (s : ByteArray) (hmax : s.size ≤ 9223372036854775806) (v : Int) (h : Lib.atoiAll s.data.toList = .ok v) (w : World) :
  Calls Tryz.prog 160 #[.string s] w fun e w' => e = .returned (.tuple #[.int .i64 v, .nilIface]) ∧ (w' = w ∨ ∃ t, w' = Lib.bytesWorld w 5 t) := Any.strconv_Atoi_ok Tryz.laysC172 s hmax v h w
open Go.RowKit in
theorem Tryz.strconv_Atoi_syntax (s : ByteArray) (hlim : s.size ≤ 281474976710656) (h : Lib.atoiAll s.data.toList = .«syntax») (ev : Value) (w : World) (hv : w.cell? ⟨4, 0, none⟩ = some ev) (hev : ev = .nilIface ∨ ∃ te pe, ev = .iface te pe) :
  Calls Tryz.prog 160 #[.string s] w fun e w' => ∃ N, e = .returned (.tuple #[.int .i64 (0), .iface 210 (.pointer (some ⟨N, 0, none⟩))]) ∧ w.heap.size ≤ N ∧ w'.heap[N]? = some (.cells #[.string ⟨#[65, 116, 111, 105]⟩, .string s, ev] 217 (0, 0)) ∧ Below w.heap.size w w' := Any.strconv_Atoi_syntax Tryz.laysC172 s hlim h ev w hv hev
open Go.RowKit in
theorem Tryz.strconv_Atoi_range (s : ByteArray) (hlim : s.size ≤ 281474976710656) (h : Lib.atoiAll s.data.toList = .range) (ev : Value) (w : World) (hv : w.cell? ⟨5, 0, none⟩ = some ev) (hev : ev = .nilIface ∨ ∃ te pe, ev = .iface te pe) :
  Calls Tryz.prog 160 #[.string s] w fun e w' => ∃ N, e = .returned (.tuple #[.int .i64 (Lib.atoiSat s.data.toList), .iface 210 (.pointer (some ⟨N, 0, none⟩))]) ∧ w.heap.size ≤ N ∧ w'.heap[N]? = some (.cells #[.string ⟨#[65, 116, 111, 105]⟩, .string s, ev] 217 (0, 0)) ∧ Below w.heap.size w w' := Any.strconv_Atoi_range Tryz.laysC172 s hlim h ev w hv hev
def Tryz.lays145_ren : Go.Shelf.Ren := ⟨fun | 145 => 138 | 220 => 159 | 219 => 170 | 217 => 178 | 225 => 158 | 224 => 132 | 267 => 179 | 266 => 153 | 314 => 187 | n => n, fun | 9 => 9 | 4 => 4 | 59 => 163 | 3 => 3 | 5 => 5 | 46 => 135 | 146 => 173 | 51 => 157 | n => n, fun | 1 => 0 | n => n⟩
theorem Tryz.lays145 : Go.Proofs.Lays.n145 Tryz.prog Tryz.lays145_ren := {
 mixed := by kernel_rfl
 f145 := Tryz.func138.trans (congrArg some (by kernel_rfl))
 f217 := Tryz.func178.trans (congrArg some (by kernel_rfl))
 f219 := Tryz.func170.trans (congrArg some (by kernel_rfl))
 f220 := Tryz.func159.trans (congrArg some (by kernel_rfl))
 f224 := Tryz.func132.trans (congrArg some (by kernel_rfl))
 f225 := Tryz.func158.trans (congrArg some (by kernel_rfl))
 f266 := Tryz.func153.trans (congrArg some (by kernel_rfl))
 f267 := Tryz.func179.trans (congrArg some (by kernel_rfl))
 f314 := Tryz.func187.trans (congrArg some (by kernel_rfl))
 t3 := Tryz.underlying3
 a3 := Tryz.isAgg3
 z3 := Tryz.sizeOf3
 v3 := Tryz.zeroValue3
 t4 := Tryz.underlying4
 a4 := Tryz.isAgg4
 z4 := Tryz.sizeOf4
 v4 := Tryz.zeroValue4
 t5 := Tryz.underlying5
 a5 := Tryz.isAgg5
 z5 := Tryz.sizeOf5
 v5 := Tryz.zeroValue5
 t9 := Tryz.underlying9
 a9 := Tryz.isAgg9
 z9 := Tryz.sizeOf9
 v9 := Tryz.zeroValue9
 t46 := Tryz.underlying135
 a46 := Tryz.isAgg135
 z46 := Tryz.sizeOf135
 v46 := Tryz.zeroValue135
 t51 := Tryz.underlying157
 a51 := Tryz.isAgg157
 z51 := Tryz.sizeOf157
 v51 := Tryz.zeroValue157
 t59 := Tryz.underlying163
 a59 := Tryz.isAgg163
 z59 := Tryz.sizeOf163
 v59 := Tryz.zeroValue163
 t146 := Tryz.underlying173
 a146 := Tryz.isAgg173
 z146 := Tryz.sizeOf173
 v146 := Tryz.zeroValue173
 g1 := by kernel_rfl }
open Go.RowKit Go.Lib in
theorem Tryz.strings_Cut (s sep : ByteArray) (m : Int) (w : World) (hs : s.size < 4294967281) (hm : w.cell? ⟨0, 0, none⟩ = some (.int .i64 m)) :
  Calls Tryz.prog 138 #[.string s, .string sep] w fun e w' => e = .returned (.tuple #[.string ⟨(Lib.cut s.data.toList sep.data.toList).1.toArray⟩, .string ⟨(Lib.cut s.data.toList sep.data.toList).2.1.toArray⟩, .bool (Lib.cut s.data.toList sep.data.toList).2.2]) ∧ ∃ n, w' = w.drewN n := Any.strings_Cut Tryz.lays145 s sep m w hs hm
def Tryz.lays99_ren : Go.Shelf.Ren := ⟨fun | 99 => 89 | 206 => 108 | n => n, fun | 9 => 9 | 4 => 4 | 3 => 3 | n => n, fun | n => n⟩
theorem Tryz.lays99 : Go.Proofs.Lays.n99 Tryz.prog Tryz.lays99_ren := {
 mixed := by kernel_rfl
 f99 := Tryz.func89.trans (congrArg some (by kernel_rfl))
 f206 := Tryz.func108.trans (congrArg some (by kernel_rfl))
 t3 := Tryz.underlying3
 a3 := Tryz.isAgg3
 z3 := Tryz.sizeOf3
 v3 := Tryz.zeroValue3
 t4 := Tryz.underlying4
 a4 := Tryz.isAgg4
 z4 := Tryz.sizeOf4
 v4 := Tryz.zeroValue4
 t9 := Tryz.underlying9
 a9 := Tryz.isAgg9
 z9 := Tryz.sizeOf9
 v9 := Tryz.zeroValue9 }
open Go.RowKit Go.Lib in
theorem Tryz.strings_HasPrefix (s p : ByteArray) (w : World) :
  Calls Tryz.prog 89 #[.string s, .string p] w fun e w' => e = .returned (.bool (Lib.hasPrefix s.data.toList p.data.toList)) ∧ w' = w := Any.strings_HasPrefix Tryz.lays99 s p w
def Tryz.lays186_ren : Go.Shelf.Ren := ⟨fun | 186 => 91 | 185 => 109 | 187 => 129 | 115 => 130 | 253 => 131 | 224 => 132 | 254 => 133 | 255 => 147 | 291 => 148 | n => n, fun | 37 => 25 | 4 => 4 | 3 => 3 | 0 => 0 | 5 => 5 | 46 => 135 | 9 => 9 | 146 => 173 | 51 => 157 | n => n, fun | 1 => 0 | n => n⟩
theorem Tryz.lays186 : Go.Proofs.Lays.n186 Tryz.prog Tryz.lays186_ren := {
 mixed := by kernel_rfl
 f115 := Tryz.func130.trans (congrArg some (by kernel_rfl))
 f185 := Tryz.func109.trans (congrArg some (by kernel_rfl))
 f186 := Tryz.func91.trans (congrArg some (by kernel_rfl))
 f187 := Tryz.func129.trans (congrArg some (by kernel_rfl))
 f224 := Tryz.func132.trans (congrArg some (by kernel_rfl))
 f253 := Tryz.func131.trans (congrArg some (by kernel_rfl))
 f254 := Tryz.func133.trans (congrArg some (by kernel_rfl))
 f255 := Tryz.func147.trans (congrArg some (by kernel_rfl))
 f291 := Tryz.func148.trans (congrArg some (by kernel_rfl))
 t0 := Tryz.underlying0
 a0 := Tryz.isAgg0
 z0 := Tryz.sizeOf0
 v0 := Tryz.zeroValue0
 t3 := Tryz.underlying3
 a3 := Tryz.isAgg3
 z3 := Tryz.sizeOf3
 v3 := Tryz.zeroValue3
 t4 := Tryz.underlying4
 a4 := Tryz.isAgg4
 z4 := Tryz.sizeOf4
 v4 := Tryz.zeroValue4
 t5 := Tryz.underlying5
 a5 := Tryz.isAgg5
 z5 := Tryz.sizeOf5
 v5 := Tryz.zeroValue5
 t9 := Tryz.underlying9
 a9 := Tryz.isAgg9
 z9 := Tryz.sizeOf9
 v9 := Tryz.zeroValue9
 t37 := Tryz.underlying25
 a37 := Tryz.isAgg25
 z37 := Tryz.sizeOf25
 v37 := Tryz.zeroValue25
 t46 := Tryz.underlying135
 a46 := Tryz.isAgg135
 z46 := Tryz.sizeOf135
 v46 := Tryz.zeroValue135
 t51 := Tryz.underlying157
 a51 := Tryz.isAgg157
 z51 := Tryz.sizeOf157
 v51 := Tryz.zeroValue157
 t146 := Tryz.underlying173
 a146 := Tryz.isAgg173
 z146 := Tryz.sizeOf173
 v146 := Tryz.zeroValue173
 g1 := by kernel_rfl }
open Go.Proofs Go.RowKit Go.Lib in
theorem Tryz.bytes_Contains_at (a1 a2 : Addr) (n c1 k c2 : Nat) (xs ys : List Int) (m : Int) (w : World) (hx : xs.length = n) (hy : ys.length = k) (hr1 : ∀ x ∈ xs, 0 ≤ x ∧ x < 256) (hr2 : ∀ y ∈ ys, 0 ≤ y ∧ y < 256) (hc1 : ∀ i, i < n → w.cell? (a1.add i) = some (.int .u8 (xs.getD i 0))) (hc2 : ∀ i, i < k → w.cell? (a2.add i) = some (.int .u8 (ys.getD i 0))) (hcap : n ≤ c1) (hs : n < 4294967281) (hk : k ≤ 9223372036854775807) (hm : w.cell? ⟨0, 0, none⟩ = some (.int .i64 m)) :
  Calls Tryz.prog 91 #[.slice (some a1) n c1, .slice (some a2) k c2] w fun e w' => e = .returned (.bool (Lib.contains (Lib.bytesOf xs) (Lib.bytesOf ys))) ∧ ∃ q, w' = w.drewN q := Any.bytes_Contains_at Tryz.lays186 a1 a2 n c1 k c2 xs ys m w hx hy hr1 hr2 hc1 hc2 hcap hs hk hm
open Go.Proofs Go.RowKit Go.Lib in
theorem Tryz.bytes_Contains_nil (p2 : Option Addr) (k c2 : Nat) (w : World) (hk : k ≤ 9223372036854775807) (h1 : k = 1 → ∃ b2 o2 cv, p2 = some ⟨b2, o2, none⟩ ∧ w.cell? ⟨b2, o2, none⟩ = some (.int .u8 cv)) :
  Calls Tryz.prog 91 #[.slice none 0 0, .slice p2 k c2] w fun e w' => e = .returned (.bool (decide (k = 0))) ∧ w' = w := Any.bytes_Contains_nil Tryz.lays186 p2 k c2 w hk h1
def Tryz.laysV11_ren : Go.Shelf.Ren := ⟨fun | 11 => 150 | n => n, fun | 9 => 9 | 27 => 177 | 4 => 4 | 0 => 0 | 3 => 3 | 5 => 5 | n => n, fun | n => n⟩
theorem Tryz.laysV11 : Go.Proofs.SlLaysV.n11 Tryz.prog Tryz.laysV11_ren := {
 mixed := by kernel_rfl
 f11 := Tryz.func150.trans (congrArg some (by kernel_rfl))
 t0 := Tryz.underlying0
 a0 := Tryz.isAgg0
 z0 := Tryz.sizeOf0
 v0 := Tryz.zeroValue0
 t3 := Tryz.underlying3
 a3 := Tryz.isAgg3
 z3 := Tryz.sizeOf3
 v3 := Tryz.zeroValue3
 t4 := Tryz.underlying4
 a4 := Tryz.isAgg4
 z4 := Tryz.sizeOf4
 v4 := Tryz.zeroValue4
 t5 := Tryz.underlying5
 a5 := Tryz.isAgg5
 z5 := Tryz.sizeOf5
 v5 := Tryz.zeroValue5
 t9 := Tryz.underlying9
 a9 := Tryz.isAgg9
 z9 := Tryz.sizeOf9
 v9 := Tryz.zeroValue9
 t27 := Tryz.underlying177
 a27 := Tryz.isAgg177
 z27 := Tryz.sizeOf177 }
def Tryz.laysV16_ren : Go.Shelf.Ren := ⟨fun | 16 => 156 | n => n, fun | 31 => 181 | 5 => 5 | 4 => 4 | 0 => 0 | 27 => 177 | n => n, fun | n => n⟩
theorem Tryz.laysV16 : Go.Proofs.SlLaysV.n16 Tryz.prog Tryz.laysV16_ren := {
 mixed := by kernel_rfl
 f16 := Tryz.func156.trans (congrArg some (by kernel_rfl))
 t0 := Tryz.underlying0
 a0 := Tryz.isAgg0
 z0 := Tryz.sizeOf0
 v0 := Tryz.zeroValue0
 t4 := Tryz.underlying4
 a4 := Tryz.isAgg4
 z4 := Tryz.sizeOf4
 v4 := Tryz.zeroValue4
 t5 := Tryz.underlying5
 a5 := Tryz.isAgg5
 z5 := Tryz.sizeOf5
 v5 := Tryz.zeroValue5
 t27 := Tryz.underlying177
 a27 := Tryz.isAgg177
 z27 := Tryz.sizeOf177
 t31 := Tryz.underlying181
 a31 := Tryz.isAgg181
 z31 := Tryz.sizeOf181
 v31 := Tryz.zeroValue181 }
def Tryz.lays7_32_ren : Go.Shelf.Ren := ⟨fun | 32 => 157 | 49 => 169 | n => n, fun | 30 => 25 | 21 => 21 | 3 => 3 | 0 => 0 | 5 => 5 | 4 => 4 | 33 => 184 | 66 => 203 | 25 => 135 | 69 => 206 | 68 => 205 | n => n, fun | 2 => 2 | 3 => 3 | n => n⟩
theorem Tryz.lays7_32 : Go.Proofs.Lays7.n32 Tryz.prog Tryz.lays7_32_ren := {
 mixed := by kernel_rfl
 f32 := Tryz.func157.trans (congrArg some (by kernel_rfl))
 f49 := Tryz.func169.trans (congrArg some (by kernel_rfl))
 t0 := Tryz.underlying0
 a0 := Tryz.isAgg0
 z0 := Tryz.sizeOf0
 v0 := Tryz.zeroValue0
 i0 := by kernel_rfl
 t3 := Tryz.underlying3
 a3 := Tryz.isAgg3
 z3 := Tryz.sizeOf3
 v3 := Tryz.zeroValue3
 i3 := by kernel_rfl
 t4 := Tryz.underlying4
 a4 := Tryz.isAgg4
 z4 := Tryz.sizeOf4
 v4 := Tryz.zeroValue4
 i4 := by kernel_rfl
 t5 := Tryz.underlying5
 a5 := Tryz.isAgg5
 z5 := Tryz.sizeOf5
 v5 := Tryz.zeroValue5
 i5 := by kernel_rfl
 t21 := Tryz.underlying21
 a21 := Tryz.isAgg21
 z21 := Tryz.sizeOf21
 v21 := Tryz.zeroValue21
 i21 := by kernel_rfl
 t25 := Tryz.underlying135
 a25 := Tryz.isAgg135
 z25 := Tryz.sizeOf135
 v25 := Tryz.zeroValue135
 i25 := by kernel_rfl
 t30 := Tryz.underlying25
 a30 := Tryz.isAgg25
 z30 := Tryz.sizeOf25
 v30 := Tryz.zeroValue25
 i30 := by kernel_rfl
 t33 := Tryz.underlying184
 a33 := Tryz.isAgg184
 z33 := Tryz.sizeOf184
 v33 := Tryz.zeroValue184
 i33 := by kernel_rfl
 t66 := Tryz.underlying203
 a66 := Tryz.isAgg203
 z66 := Tryz.sizeOf203
 t68 := Tryz.underlying205
 a68 := Tryz.isAgg205
 z68 := Tryz.sizeOf205
 v68 := Tryz.zeroValue205
 i68 := by kernel_rfl
 t69 := Tryz.underlying206
 a69 := Tryz.isAgg206
 z69 := Tryz.sizeOf206
 v69 := Tryz.zeroValue206
 i69 := by kernel_rfl
 g2 := by kernel_rfl
 g3 := by kernel_rfl }
def Tryz.laysH8_ren : Go.Shelf.Ren := ⟨fun | 8 => 115 | 6 => 140 | n => n, fun | 22 => 130 | 23 => 110 | 25 => 147 | 4 => 4 | 3 => 3 | 0 => 0 | n => n, fun | n => n⟩
theorem Tryz.laysH8 : Go.Proofs.SlLaysH0.n8 Tryz.prog Tryz.laysH8_ren := {
 mixed := by kernel_rfl
 f6 := ⟨Tryz.f140.name, by decide, Tryz.func140.trans (congrArg some (by kernel_rfl))⟩
 f8 := ⟨Tryz.f115.name, by decide, Tryz.func115.trans (congrArg some (by kernel_rfl))⟩
 t0 := Tryz.underlying0
 a0 := Tryz.isAgg0
 z0 := Tryz.sizeOf0
 v0 := Tryz.zeroValue0
 t3 := Tryz.underlying3
 a3 := Tryz.isAgg3
 z3 := Tryz.sizeOf3
 v3 := Tryz.zeroValue3
 t4 := Tryz.underlying4
 a4 := Tryz.isAgg4
 z4 := Tryz.sizeOf4
 v4 := Tryz.zeroValue4
 t22 := Tryz.underlying130
 a22 := Tryz.isAgg130
 z22 := Tryz.sizeOf130
 v22 := Tryz.zeroValue130
 t25 := Tryz.underlying147
 a25 := Tryz.isAgg147
 z25 := Tryz.sizeOf147
 v25 := Tryz.zeroValue147 }
end Go.Proofs
end
section
namespace Go.Proofs.YtehaodbheifokaaGreatDoor.P
open Go Go.RowKit Go.Proofs.YtehaodbheifokaaGreatDoorW.PrintWords Go.Proofs.YtehaodbheifokaaGreatDoorW.PrintLast
structure FieldIn (w : World) : Prop where
 pow : Lib.TabIs Tryz.prog w "internal/strconv.uint64pow10" .u64 Lib.pow10Tab
 syn : ∃ te pe, w.cell? ⟨4, 0, none⟩ = some (.iface te pe)
 rng : ∃ te pe, w.cell? ⟨5, 0, none⟩ = some (.iface te pe)
 max : ∃ m, w.cell? ⟨0, 0, none⟩ = some (.int .i64 m)
 utf : Lib.Utf8Tabs 2 3 w
theorem cell_up {w w' : World} (hb : Below w.heap.size w w') {p : Addr} {v : Value} (h : w.cell? p = some v) : w'.cell? p = some v := (hb.cell (World.block_lt_of_cell? w _ h)).trans h
theorem var_up {w w' : World} (hb : Below w.heap.size w w') {nm : String} {x : Array Value} (h : w.var? Tryz.prog nm = some x) : w'.var? Tryz.prog nm = some x := by
 unfold World.var? at h ⊢
 obtain ⟨g, hg, hx⟩ := Option.bind_eq_some_iff.1 h
 rw [hg, Option.bind_some]
 cases ho : w.heap[g]? with
 | none => rw [ho] at hx; cases hx
 | some o =>
  have hlt : g < w.heap.size := (Array.getElem?_eq_some_iff.1 ho).1
  rw [hb.block g hlt, ho]
  rw [ho] at hx
  exact hx
theorem FieldIn.below {w w' : World} (h : FieldIn w) (hb : Below w.heap.size w w') : FieldIn w' where
 pow := var_up hb h.pow
 syn := by obtain ⟨te, pe, e⟩ := h.syn; exact ⟨te, pe, cell_up hb e⟩
 rng := by obtain ⟨te, pe, e⟩ := h.rng; exact ⟨te, pe, cell_up hb e⟩
 max := by obtain ⟨m, e⟩ := h.max; exact ⟨m, cell_up hb e⟩
 utf := ⟨fun c hc => cell_up hb (h.utf.1 c hc), fun i hi => ⟨cell_up hb (h.utf.2 i hi).1, cell_up hb (h.utf.2 i hi).2⟩⟩
theorem FieldIn.go {w v W : World} (h : Aside0 (FieldIn w)) (B : Aside0 (Below w.heap.size w v))
  (s : Below w.heap.size w v → Below w.heap.size w W := by intro h_; repeat (first | (with_reducible first | exact h_ | apply below_alloc | apply pw_below_drewN | apply below_drew1 | refine below_set ?_ (Aside0.out (by assumption))) | exact h_)) : FieldIn W := h.out.below (s B.out)
def strconv_Itoa.f (n : Int) : Option ByteArray := if -9223372036854775808 ≤ n ∧ n ≤ 9223372036854775807 then some ⟨(Lib.itoa n).toArray⟩ else none
theorem below_grow (B : Nat) {w0 w : World} (os : Array Obj) (h : Below B w0 w) (hB : B ≤ w.heap.size) : Below B w0 (Go.Sort.grow w os) :=
 h.trans ⟨rfl, rfl, rfl, by simp [Go.Sort.grow], fun k hk => by simp only [Go.Sort.grow]; rw [Array.getElem?_append_left (by omega)]⟩
theorem strconv_Itoa.calls (n : Int) (r : ByteArray) (w : World) (h : strconv_Itoa.f n = some r) (hx : FieldIn w := by exact FieldIn.go (by assumption) (by assumption)) :
  Calls Tryz.prog 96 #[.int .i64 n] w fun e w' => e = .returned (.string r) ∧ Below w.heap.size w w' := by
 unfold strconv_Itoa.f at h
 by_cases hn : -9223372036854775808 ≤ n ∧ n ≤ 9223372036854775807
 case neg => rw [if_neg hn] at h; cases h
 rw [if_pos hn] at h
 obtain rfl := Option.some.inj h
 refine (Tryz.strconv_Itoa n hn.1 hn.2 w hx.pow).mono ?_
 rintro e w' ⟨rfl, k, os, rfl⟩
 exact ⟨rfl, below_grow _ _ (pw_below_drewN (Below.refl _ _) k) (by simp [World.drewN])⟩
end Go.Proofs.YtehaodbheifokaaGreatDoor.P
end
section
namespace Go.Proofs.YtehaodbheifokaaGreatDoor.P
open Go Go.RowKit Go.Proofs.YtehaodbheifokaaGreatDoorW.PrintWords Go.Proofs.YtehaodbheifokaaGreatDoorW.PrintLast Go.Proofs.YtehaodbheifokaaGreatDoorW.PrintMore
abbrev rdrC (s t : Int) (vl : Value) (b : Bool) (vt : Value) : Array Value := #[.int .i64 s, .int .i64 t, vl, .bool b, vt]
def strV (ts : List (List Int)) : List Value := ts.map (fun t => .string (bT t))
theorem gStr : (Tryz.prog.info? 9).map (fun i => (i.zero, i.size, i.bytes)) = some (some (.string ⟨#[]⟩), 1, 16) := by kernel_rfl
theorem flatT_len (ts : List (List Int)) : (flatT ts).length = 2 * ts.length := by
 unfold flatT
 rw [List.length_flatten]
 have : ∀ (l : List (List Int × Nat)), ((l.map (fun x => tokV x.2 x.1)).map List.length).sum = 2 * l.length := by
  intro l
  induction l with
  | nil => rfl
  | cons a l ih =>
   have h2 : (tokV a.2 a.1).length = 2 := rfl
   simp only [List.map_cons, List.sum_cons, List.length_cons]
   omega
 rw [this, List.length_zipIdx]
theorem flatT_get : ∀ (n : Nat) (ts : List (List Int)) (i : Nat) (hn : ts.length = n) (hi : i < ts.length), (flatT ts)[i * 2]? = some (.int .i64 (i : Int)) ∧ (flatT ts)[i * 2 + 1]? = some (.string (bT ts[i]))
 | 0, ts, i, hn, hi => by omega
 | n + 1, ts, i, hn, hi => by
  rcases List.eq_nil_or_concat ts with rfl | ⟨l, t, rfl⟩
  ·simp at hn
  ·simp only [List.concat_eq_append] at hn hi ⊢
   have hl := flatT_len l
   rw [List.length_append, List.length_singleton] at hi hn
   rw [flatT_snoc]
   by_cases h : i < l.length
   ·obtain ⟨h1, h2⟩ := flatT_get n l i (by omega) h
    rw [List.getElem?_append_left (by omega), List.getElem?_append_left (by omega), h1, h2]
    exact ⟨rfl, by rw [List.getElem_append_left h]⟩
   ·obtain rfl : i = l.length := by omega
    rw [List.getElem?_append_right (by omega), List.getElem?_append_right (by omega), hl]
    rw [show l.length * 2 - 2 * l.length = 0 by omega, show l.length * 2 + 1 - 2 * l.length = 1 by omega]
    exact ⟨rfl, by simp [tokV]⟩
theorem step_append_any {P : Program} {ops : Array Oper} {o : Oper} {a : Act} {w : World} {K : Act → World → Prop} {Q : Exit → Act → World → Prop} {E : Prop} (hgd : o.guard = none) (s x : Operand) (t : TypeId)
  (ho : o.op = .call { callee := .builtin .append, args := #[s, x], argTypes := #[t, t] })
  (base : Nat) (e : TypeId) (i : TypeInfo) (z : Value) (size bytes : Nat) (ht : P.underlying t = some (.slice e)) (hi : P.info? e = some i) (hz : i.zero = some z)
  (hsize : i.size = size) (hby : i.bytes = bytes) (hzs : z.cells.size = size) (hsz : 0 < size)
  (v : Value) (n : Nat) (xs : List Value) (hs : a.eval s = v) (hown : w.ownsRow base e size v n xs)
  (ad : Addr) (m c : Nat) (news : List Value) (hx : a.eval x = .slice (some ad) m c) (hl : news.length = m * size) (hnews : ∀ j u, news[j]? = some u → w.cell? (ad.add j) = some u) (h1 : ∀ u ∈ news, u.oneCell' = true)
  (h63 : n + m ≤ maxLen) (hbytes : (n + m) * bytes ≤ 140737488355328) (hbase : base ≤ w.heap.size)
  (h : ∀ v' w', w'.ownsRow base e size v' (n + m) (xs ++ news) → w.grownBy w' v.ownBlock → K (a.put o.dst v') w') :
  if Region.wanted o (yielded ops a.tmps) = true then Oper.wp P o a w K Q else E := by
 rw [if_pos (by simp [Region.wanted, hgd])]
 exact wp_append_own w s x t ho base e i z size bytes ht hi hz hsize hby hzs hsz v n xs hs hown ad m c news hx hl hnews h1 h63 hbytes hbase fun v' w' h2 h3 _ => h v' w' h2 h3
theorem tokens_calls (l : List Int) (A : Option Addr) (c R : Nat) (s t : Int) (w : World) (hC : (Kd.int .u8).C w A l.length l) (hc : l.length ≤ c) (hb : ∀ x ∈ l, 0 ≤ x ∧ x < 256) (hn : l.length ≤ 1099511627776)
  (hR : w.heap[R]? = some (.cells (rdrC s t (.slice A l.length c) false (.slice none 0 0)) 106 (0, 0))) :
  Calls Tryz.prog 87 #[.pointer (some ⟨R, 0, none⟩)] w fun e w' => ∃ v, e = .returned v ∧ w'.ownsRow w.heap.size 9 1 v (cutS none l).length (strV (cutS none l)) ∧
   w'.heap[R]? = some (.cells (rdrC s t (.slice A l.length c) true v) 106 (0, 0)) ∧ Below R w w' ∧ Kept w w' (fun k => k = R) := by
 obtain ⟨ts, hts⟩ : ∃ ts, ts = cutS none l := ⟨_, rfl⟩
 have hlen := (cutS_len l).1
 rw [← hts] at hlen ⊢
 have HTS := Aside0.mk hts
 clear hts
 have hRl : R < w.heap.size := blk_lt hR
 have r2 : w.cell? ⟨R, 2, none⟩ = some (.slice A l.length c) := (blk_cell hR 2).trans rfl
 have r3 : w.cell? ⟨R, 3, none⟩ = some (.bool false) := (blk_cell hR 3).trans rfl
 have HC := Aside0.mk hC
 have HR := Aside0.mk hR
 have HBY := Aside0.mk hb
 clear hC hR hb
 go_enter Tryz.func87, Tryz.ntmps87
 go_wp2_with fail
 refine (token_Cut.calls l A c _ HC.out hc HBY.out hn).mono ?_
 rintro e w1 ⟨v, rfl, hown, hb1⟩
 rw [← HTS.out] at hown
 obtain ⟨AT, cT, rfl, hcT⟩ := own_sl hown
 have HOT := Aside0.mk hown
 have HB1 := Aside0.mk hb1
 have HR1 := Aside0.mk (blk_below HR.out hb1)
 have HTL := Aside0.mk (show ts.length ≤ 1099511627776 by omega)
 clear hown hb1 r2 r3 hlen
 go_wp2_with fail
 go_loopg [17] ts.length (fun kq v17 wr => ∃ (i : Nat) (vt : Value), v17 = .int .i64 (i : Int) ∧ Aside0 (kq + i = ts.length) ∧ Aside0 (wr.heap[R]? = some (.cells (rdrC s t (.slice A l.length c) false vt) 106 (0, 0))) ∧ Aside0 (wr.ownsRow w.heap.size 9 1 vt i (strV (ts.take i))) ∧
  Aside0 (wr.ownsRow w.heap.size 118 2 (.slice AT ts.length cT) ts.length (flatT ts)) ∧ Aside0 (Below R w wr) ∧ Aside0 (Kept w wr (fun k => k = R)))
 case atStart => exact ⟨0, .slice none 0 0, rfl, ⟨by omega⟩, HR1, ⟨World.ownsRow_nil _ _ _ _⟩, HOT, ⟨HB1.out.mono (Nat.le_of_lt hRl)⟩, ⟨Kept.of_below HB1.out _⟩⟩
 case round =>
  obtain ⟨i, vt, rfl, HI, HRr, HOS, HOTr, HBr, HKr⟩ := hrel
  by_cases hi : i < ts.length
  ·have d0 : decide ((i : Int) < (ts.length : Int)) = true := decide_eq_true (by omega)
   have d1 : decide (i < ts.length) = true := decide_eq_true hi
   obtain ⟨g, cap, hAT, hcell⟩ : ∃ g cap, Value.slice AT ts.length cT = .slice (some ⟨g, 0, none⟩) ts.length cap ∧ ∀ (j : Nat) u, (flatT ts)[j]? = some u → wr.cell? ⟨g, j, none⟩ = some u := by
    rcases HOTr.out.2 with ⟨h0, h1⟩ | ⟨g, cap, cur, h0, _, hg, _, _, _, htake⟩
    ·omega
    ·refine ⟨g, cap, h0, fun j u hu => ?_⟩
     rw [blk_cell hg]
     rw [← htake] at hu
     have hlt := (List.getElem?_eq_some_iff.1 hu).1
     rw [List.length_take] at hlt
     rw [List.getElem?_take_of_lt (by omega)] at hu
     simpa using hu
   cases hAT
   obtain ⟨f1, f2⟩ := flatT_get _ ts i rfl hi
   have c0 := hcell _ _ f1
   have c1 := hcell _ _ f2
   clear hcell f1 f2
   obtain ⟨As, cs, rfl, hcs⟩ := own_sl HOS.out
   have r4 : wr.cell? ⟨R, 4, none⟩ = some (.slice As i cs) := (blk_cell HRr.out 4).trans rfl
   have HT := Aside0.mk (show strV (ts.take i) ++ [.string (bT ts[i])] = strV (ts.take (i + 1)) by unfold strV; rw [List.take_succ_eq_append_getElem hi, List.map_append]; rfl)
   generalize bT ts[i] = tx at c1 HT
   have b4 : (wr.alloc (Obj.cells #[Value.int IntKind.i64 (i : Int), Value.string tx] 118)).heap[R]? = _ := blk_alloc HRr.out _
   have r5 : (wr.alloc (Obj.cells #[Value.int IntKind.i64 (i : Int), Value.string tx] 118)).cell? ⟨R, 4, none⟩ = some (.slice As i cs) := (blk_cell b4 4).trans rfl
   have r6 : ((wr.alloc (Obj.cells #[Value.int IntKind.i64 (i : Int), Value.string tx] 118)).alloc (Obj.cells #[Value.string tx] 9)).cell? ⟨R, 4, none⟩ = some (.slice As i cs) := (blk_cell (blk_alloc b4 _) 4).trans rfl
   have HB4 := Aside0.mk b4
   clear b4
   go_wp2_with fail
   obtain ⟨i0, hi0, hz0, hz1, hz2⟩ := info_parts gStr
   have HI2 := Aside0.mk hi
   go_region_law (refine step_append_any rfl (.tmp 25) (.tmp 28) 35 rfl w.heap.size 9 i0 (.string ⟨#[]⟩) 1 16 Tryz.underlying35 hi0 hz0 hz1 hz2 rfl (by decide) _ i (strV (ts.take i)) rfl (own_bel HOS.out bel5) ⟨wr.heap.size + 1, 0, none⟩ 1 1 [.string tx] rfl rfl (by intro j u h; have h2 := tok_cells (wr.alloc (Obj.cells #[Value.int IntKind.i64 (i : Int), Value.string tx] 118)) [.string tx] 9 j u h; rw [World.size_alloc] at h2; exact h2) (by simp [Value.oneCell']) (by have := HTL.out; unfold maxLen; omega) (by have := HTL.out; omega) (Nat.le_trans HBr.out.size (Below.size (show Below wr.heap.size wr _ from bel5))) ?_; intro v' w4 hown' hgrow; obtain ⟨A9, c9, rfl, hc9⟩ := own_sl hown'; have HO4 := Aside0.mk hown'; have hb5 := blk_grown (blk_below HRr.out bel5) hgrow (fun e => by have := own_base HOS.out R e.symm; omega); have r7 : w4.cell? ⟨R, 4, none⟩ = some (.slice As i cs) := (blk_cell hb5 4).trans rfl; have z7 := blk_frozen hb5 4; have HX := Aside0.mk hb5; have HT4 := Aside0.mk ((own_bel HOTr.out bel5).kept hgrow (own_apart (own_bel HOTr.out bel5) (own_bel HOS.out bel5) (by decide))); have HB4 := Aside0.mk (((HBr.out.trans ((show Below wr.heap.size wr _ from bel5).mono (by have := HBr.out.size; omega)))).grown hgrow (Nat.le_trans (show R ≤ wr.heap.size by have := HBr.out.size; omega) (Below.size (show Below wr.heap.size wr _ from bel5))) (fun k ek => by have := own_base HOS.out k ek; omega)); have HK4 := Aside0.mk (Kept.of_grown hgrow (HKr.out.below bel5) (fun k ek => .inr (own_base HOS.out k ek))); clear hown' hgrow hb5)
   all_goals (
    go_wp2_with fail
    rw [show wrap64 ((i : Int) + 1) = ((i + 1 : Nat) : Int) by have := HTL.out; have := HI2.out; unfold wrap64; omega]
    go_roundg (ts.length - i - 1)
    case measure => have := HI.out; have := HI2.out; omega
    case rel => exact ⟨i + 1, _, rfl, ⟨by have := HI.out; omega⟩, ⟨blk_put HX.out 4 _ rfl⟩, ⟨by rw [← HT.out]; exact ownsRow_setCell_other HO4.out (fun e => by have := own_base HO4.out R e; omega) _⟩, ⟨ownsRow_setCell_other HT4.out (fun e => by have := own_base HT4.out R e; omega) _⟩, ⟨HB4.out.setCell (p := ⟨R, 4, none⟩) (Nat.le_refl _) _⟩, ⟨HK4.out.setCell (p := ⟨R, 4, none⟩) (.inl rfl) _⟩⟩)
  ·have hie : i = ts.length := by have := HI.out; omega
   have d0 : decide ((i : Int) < (ts.length : Int)) = false := decide_eq_false (by omega)
   have d1 : decide (i < ts.length) = false := decide_eq_false hi
   have r3 : wr.cell? ⟨R, 3, none⟩ = some (.bool false) := (blk_cell HRr.out 3).trans rfl
   have z3 := blk_frozen HRr.out 3
   have r4 : wr.cell? ⟨R, 4, none⟩ = some vt := (blk_cell HRr.out 4).trans rfl
   have HOS2 := Aside0.mk (show wr.ownsRow w.heap.size 9 1 vt ts.length (strV ts) by have h := HOS.out; rw [hie, List.take_length] at h; exact h)
   clear hie
   go_wp2_with fail
   go_ret
   exact ⟨vt, rfl, ownsRow_setCell_other HOS2.out (fun e => by have := own_base HOS2.out R e; omega) _, blk_put HRr.out 3 _ rfl, HBr.out.setCell (p := ⟨R, 3, none⟩) (Nat.le_refl _) _, HKr.out.setCell (p := ⟨R, 3, none⟩) (.inl rfl) _⟩
theorem bytes_loop (s : ByteArray) : ∀ (d i : Nat) (r : List UInt8), s.size - i = d → ByteArray.toList.loop s i r = r.reverse ++ s.data.toList.drop i := by
 intro d
 induction d with
 | zero =>
  intro i r h
  rw [ByteArray.toList.loop.eq_1]
  have hs : s.data.toList.length = s.size := by rw [Array.length_toList]; rfl
  rw [if_neg (by omega), List.drop_of_length_le (by omega)]
  simp
 | succ d ih =>
  intro i r h
  rw [ByteArray.toList.loop.eq_1]
  have hs : s.data.toList.length = s.size := by rw [Array.length_toList]; rfl
  have hi : i < s.size := by omega
  have hi' : i < s.data.toList.length := by omega
  rw [if_pos hi, ih (i + 1) _ (by omega), List.drop_eq_getElem_cons hi']
  have e : s.get! i = s.data.toList[i] := by
   rw [Array.getElem_toList]
   show s.data[i]! = _
   exact getElem!_pos s.data i (by have : s.data.size = s.size := rfl; omega)
  rw [e]
  simp
theorem bytes_eq (s : ByteArray) : s.toList = s.data.toList := by
 show ByteArray.toList.loop s 0 [] = _
 rw [bytes_loop s s.size 0 [] rfl]
 simp
theorem bytes_inj {s t : ByteArray} : s.toList = t.toList ↔ s = t := by
 rw [bytes_eq, bytes_eq]
 constructor
 ·intro h
  cases s; cases t
  congr 1
  exact Array.toList_inj.1 h
 ·rintro rfl; rfl
theorem eqS_l0 : ∀ (k : Nat) (p q : List ByteArray) (i : Nat), p.length = q.length → i ≤ p.length → p.length ≤ 1099511627776 → p.length - i < k → slices_Equal_string_string.l0 k p q (p.length : Int) (i : Int) = some (decide (p.drop i = q.drop i))
 | 0, p, q, i, _, _, _, hk => by omega
 | k + 1, p, q, i, hl, hi, hb, hk => by
  unfold slices_Equal_string_string.l0
  by_cases h : i < p.length
  ·have hq : i < q.length := by omega
   rw [if_pos (by omega), if_pos (by omega), if_pos (by omega), if_pos (by omega)]
   have ep : rdOf ByteArray.empty p (i : Int) = p[i] := by simp [rdOf, List.getD, h]
   have eq : rdOf ByteArray.empty q (i : Int) = q[i] := by simp [rdOf, List.getD, hq]
   rw [ep, eq, show List.drop i p = p[i] :: List.drop (i + 1) p from List.drop_eq_getElem_cons h, show List.drop i q = q[i] :: List.drop (i + 1) q from List.drop_eq_getElem_cons hq]
   have ew : wrap64 ((i : Int) + 1) = ((i + 1 : Nat) : Int) := by unfold wrap64; omega
   rw [ew, eqS_l0 k p q (i + 1) hl (by omega) hb (by omega)]
   by_cases h2 : p[i] = q[i]
   ·rw [if_pos (by rw [h2])]
    congr 1
    rw [h2]
    simp only [List.cons.injEq, true_and]
   ·rw [if_neg (fun e => h2 (bytes_inj.1 e))]
    congr 1
    simp only [List.cons.injEq, h2, false_and, decide_false]
  ·rw [if_neg (by omega)]
   rw [List.drop_eq_nil_of_le (by omega), List.drop_eq_nil_of_le (by omega)]
   simp
theorem eqS_f (p q : List ByteArray) (hb : p.length ≤ 1099511627776) : slices_Equal_string_string.f (p.length + 1) p q = some (decide (p = q)) := by
 unfold slices_Equal_string_string.f
 by_cases h : p.length = q.length
 ·rw [if_pos (by omega)]
  have := eqS_l0 (p.length + 1) p q 0 h (Nat.zero_le _) hb (by omega)
  simpa using this
 ·rw [if_neg (by omega)]
  have : p ≠ q := fun e => h (by rw [e])
  simp [this]
def phraseB (all p : List ByteArray) : Bool := (List.range (all.length + 1 - p.length)).any fun i => decide ((all.drop i).take p.length = p)
theorem C_str {w : World} {ad : Addr} {n : Nat} {ts : List ByteArray} (hl : ts.length = n) (hn : n ≤ 9223372036854775807) (hc : ∀ (j : Nat) t, ts[j]? = some t → w.cell? (ad.add j) = some (.string t)) : Kd.C Kd.string w (some ad) n ts :=
 ⟨hl, hn, fun _ => ⟨ad, rfl, fun j p hj => ⟨[.string p], rfl, rfl, fun i u hi => by
  obtain ⟨rfl, rfl⟩ : i = 0 ∧ u = .string p := by
   cases i with
   | zero => simp at hi; exact ⟨rfl, hi.symm⟩
   | succ i => simp at hi
  rw [show j * Kd.string.sz + 0 = j by show j * 1 + 0 = j; omega]
  exact hc j p hj⟩⟩⟩
theorem C_none {w : World} (A : Option Addr) : Kd.C Kd.string w A 0 [] := ⟨rfl, Nat.zero_le _, fun h => absurd h (by omega)⟩
theorem win_C {w : World} {base : Nat} {AT : Option Addr} {n cT : Nat} {ts : List (List Int)} (h : w.ownsRow base 9 1 (.slice AT n cT) n (strV ts)) (hl : ts.length = n) (i m : Nat) (him : i + m ≤ n) (hn : n ≤ 1099511627776) :
  Kd.C Kd.string w (AT.map fun x => x.add i) m (((ts.map bT).drop i).take m) := by
 have hwl : (((ts.map bT).drop i).take m).length = m := by simp; omega
 rcases h.2 with ⟨h1, h2⟩ | ⟨g, cap, cur, hv, _, hk, hle, _, hsz, ht⟩
 ·obtain rfl : m = 0 := by omega
  exact ⟨hwl, Nat.zero_le _, fun h => absurd h (by omega)⟩
 ·cases hv
  refine C_str hwl (by omega) fun j t hj => ?_
  show w.cell? (Addr.add (Addr.add ⟨g, 0, none⟩ i) j) = _
  rw [WideShapes.add_plain, WideShapes.add_plain, blk_cell hk]
  have hjm : j < m := by have := (List.getElem?_eq_some_iff.1 hj).1; omega
  rw [List.getElem?_take_of_lt hjm, List.getElem?_drop, List.getElem?_map] at hj
  obtain ⟨tt, h3, rfl⟩ := Option.map_eq_some_iff.1 hj
  have e1 : (cur.toList.take (n * 1))[i + j]? = some (.string (bT tt)) := by rw [ht]; unfold strV; rw [List.getElem?_map, h3]; rfl
  rw [List.getElem?_take_of_lt (by omega)] at e1
  rw [Nat.zero_add, ← Array.getElem?_toList, e1]
theorem Kd.C_kept_came1 {w W : World} {AP : Option Addr} {p : List ByteArray} {R : Nat} (h : Kd.C Kd.string w AP p.length p) (hk : Kept w W (fun k => k = R)) (hA : ∀ a, AP = some a → a.block ≠ R) : Kd.C Kd.string W AP p.length p := by
 refine ⟨h.1, h.2.1, fun h0 => ?_⟩
 obtain ⟨ad, rfl, hc⟩ := h.2.2 h0
 refine ⟨ad, rfl, fun j q hj => ?_⟩
 obtain ⟨cs, h1, h2, h3⟩ := hc j q hj
 exact ⟨cs, h1, h2, fun i u hi => cell_kept (h3 i u hi) hk (by rw [show (ad.add (j * Kd.string.sz + i)).block = ad.block by unfold Addr.add; split <;> rfl]; exact hA ad rfl)⟩
theorem phrase_yes {all p : List ByteArray} {i : Nat} (hi : i < all.length + 1 - p.length) (h : (all.drop i).take p.length = p) : phraseB all p = true :=
 List.any_eq_true.2 ⟨i, List.mem_range.2 hi, decide_eq_true h⟩
theorem phrase_no {all p : List ByteArray} (h : ∀ j, j < all.length + 1 - p.length → (all.drop j).take p.length ≠ p) : phraseB all p = false := by
 cases e : phraseB all p with
 | false => rfl
 | true =>
  obtain ⟨i, hi, h2⟩ := List.any_eq_true.1 e
  exact absurd (of_decide_eq_true h2) (h i (List.mem_range.1 hi))
end Go.Proofs.YtehaodbheifokaaGreatDoor.P
end
section
namespace Go.Proofs.YtehaodbheifokaaGreatDoor.P
open Go Go.RowKit Go.Proofs.YtehaodbheifokaaGreatDoorW.PrintWords Go.Proofs.YtehaodbheifokaaGreatDoorW.PrintLast Go.Proofs.YtehaodbheifokaaGreatDoorW.PrintMore
attribute [local go_sem] max2_int min2_int max_two min_two
theorem own_lower {w : World} {b b' : Nat} {e : TypeId} {size n : Nat} {v : Value} {xs : List Value} (hb : b ≤ b') (h : w.ownsRow b' e size v n xs) : w.ownsRow b e size v n xs :=
 ⟨h.1, h.2.imp id (fun ⟨g, cap, cur, h1, h2, h3⟩ => ⟨g, cap, cur, h1, Nat.le_trans hb h2, h3⟩)⟩
def valN (lv : ND → Bool) (h : List Bool) (n : ND) : Bool :=
 if n.f0 = 10 then h.getD n.f1.toNat false && h.getD n.f2.toNat false
 else if n.f0 = 11 then h.getD n.f1.toNat false || h.getD n.f2.toNat false
 else if n.f0 = 12 then !h.getD n.f1.toNat false
 else lv n
def heldL (lv : ND → Bool) : List ND → List Bool → List Bool
 | [], h => h
 | n :: r, h => heldL lv r (h ++ [valN lv h n])
def holdsB (lv : ND → Bool) (ns : List ND) : Bool := (heldL lv ns []).getD (ns.length - 1) false
theorem bools_cell {w : World} {g t : Nat} {xs : List Bool} {j : Nat} {x : Bool} (h : w.heap[g]? = some (.cells (bools xs).toArray t (0, 0))) (hx : xs[j]? = some x) : w.cell? ⟨g, j, none⟩ = some (.bool x) := by
 rw [blk_cell h]
 simp [bools, hx]
theorem bools_put {w : World} {g t : Nat} {xs : List Bool} (h : w.heap[g]? = some (.cells (bools xs).toArray t (0, 0))) (j : Nat) (x : Bool) : (w.setCell ⟨g, j, none⟩ (.bool x)).heap[g]? = some (.cells (bools (xs.set j x)).toArray t (0, 0)) := by
 refine blk_put h j _ ?_
 simp [bools, List.map_set]
theorem made_bools (m : Nat) : madeCells #[Value.bool false] m = (bools (List.replicate m false)).toArray := by
 have hl : (madeCells #[Value.bool false] m).toList = bools (List.replicate m false) := by
  apply List.ext_getElem
  ·simp [bools, madeCells]
  ·intro i h1 h2
   simp [bools, madeCells, Nat.mod_one]
 rw [← hl, Array.toArray_toList]
theorem held_set (h : List Bool) (m : Nat) (x : Bool) (hm : 0 < m) : (h ++ List.replicate m false).set h.length x = (h ++ [x]) ++ List.replicate (m - 1) false := by
 obtain ⟨m, rfl⟩ : ∃ k, m = k + 1 := ⟨m - 1, by omega⟩
 rw [List.set_append_right _ _ (Nat.le_refl _), Nat.sub_self, List.replicate_succ, List.set_cons_zero]
 simp
theorem held_get {h : List Bool} {m p : Nat} (hp : p < h.length) : (h ++ List.replicate m false)[p]? = some (h.getD p false) := by
 rw [List.getElem?_append_left hp, List.getD_eq_getElem?_getD, List.getElem?_eq_getElem hp]
 rfl
def RdS (base : Nat) (l : List Int) (s t : Int) (vl : Value) (R : Nat) (W : World) : Prop :=
 ∃ b vt, W.heap[R]? = some (.cells (rdrC s t vl b vt) 106 (0, 0)) ∧ ((b = false ∧ vt = .slice none 0 0) ∨ (b = true ∧ W.ownsRow base 9 1 vt (cutS none l).length (strV (cutS none l))))
theorem RdS.below {base : Nat} {l : List Int} {s t : Int} {vl : Value} {R : Nat} {W W' : World} (h : RdS base l s t vl R W) (hb : Below W.heap.size W W') : RdS base l s t vl R W' := by
 obtain ⟨b, vt, h1, h2⟩ := h
 exact ⟨b, vt, blk_below h1 hb, h2.imp id (fun h3 => ⟨h3.1, pw_own_below h3.2 hb⟩)⟩
theorem RdS.far {base : Nat} {l : List Int} {s t : Int} {vl : Value} {R : Nat} {W : World} (h : RdS base l s t vl R W) {g : Nat} (hg : R ≠ g) (hb : g < base) (j : Nat) (u : Value) : RdS base l s t vl R (W.setCell ⟨g, j, none⟩ u) := by
 obtain ⟨b, vt, h1, h2⟩ := h
 exact ⟨b, vt, blk_far h1 (p := ⟨g, j, none⟩) hg u, h2.imp id (fun h3 => ⟨h3.1, ownsRow_setCell_other h3.2 (fun e => by have := own_base h3.2 g e; omega) _⟩)⟩
def LeafOK (w : World) (l : List Int) (s t : Int) (vl : Value) (n : ND) (b : Bool) : Prop :=
 ∀ (W : World) (A : Option Addr) (c : Nat), Below w.heap.size w W → w.heap.size + 3 ≤ W.heap.size → RdS (w.heap.size + 3) l s t vl (w.heap.size + 1) W → Kd.string.C w A n.f4.length n.f4 → n.f4.length ≤ c →
  Calls Tryz.prog 64 #[.pointer (some ⟨w.heap.size + 1, 0, none⟩), .agg #[.int .i64 n.f0, .int .i64 n.f1, .int .i64 n.f2, .string n.f3, .slice A n.f4.length c, .string n.f5, .int .i64 n.f6, .int .i64 n.f7]] W fun e w' =>
   e = .returned (.bool b) ∧ RdS (w.heap.size + 3) l s t vl (w.heap.size + 1) w' ∧ Below (w.heap.size + 1) W w' ∧ Kept W w' (fun k => k = w.heap.size + 1)
theorem bools_next {h : List Bool} {i n : Nat} (hl : h.length = i) (hi : i < n) {x : Bool} : bools ((h ++ [x]) ++ List.replicate (n - (i + 1)) false) = bools ((h ++ List.replicate (n - i) false).set i x) := by
 subst hl
 rw [held_set h _ x (by omega), show n - (h.length + 1) = n - h.length - 1 by omega]
theorem info_boolG : (Tryz.prog.info? 4).map (fun i => (i.zero, i.size, i.bytes)) = some (some (.bool false), 1, 1) := by kernel_rfl
theorem holds_calls (A : Option Addr) (c : Nat) (ns : List ND) (l : List Int) (s t : Int) (vl : Value) (lv : ND → Bool) (w : World) (hvl : ∃ a n m, vl = .slice a n m) (hC : Kd.C k37 w A ns.length ns) (hc : ns.length ≤ c) (h1 : 1 ≤ ns.length) (h2 : ns.length ≤ 64)
  (hP : ∀ (i : Nat) n, ns[i]? = some n → (partsN n).all (inN i) = true) (hL : ∀ n ∈ ns, n.f0 ≠ 10 → n.f0 ≠ 11 → n.f0 ≠ 12 → LeafOK w l s t vl n (lv n)) :
  Calls Tryz.prog 39 #[.slice A ns.length c, .agg #[.int .i64 s, .int .i64 t, vl]] w fun e w' => e = .returned (.bool (holdsB lv ns)) ∧ Below w.heap.size w w' := by
 obtain ⟨la, ln, lm, rfl⟩ := hvl
 have hmk := print_make_int (P := Tryz.prog) 107 4 (.bool false) 1 Tryz.underlying107 info_boolG rfl (by decide) ns.length (by omega) (by omega)
 rw [Int.toNat_natCast] at hmk
 have HC := Aside0.mk hC
 have HP := Aside0.mk hP
 have HL := Aside0.mk hL
 clear hC hP hL
 go_enter Tryz.func39, Tryz.ntmps39
 go_wp2_with fail
 obtain ⟨wS, hwS⟩ : ∃ wS, wS = (((w.alloc (Obj.cells #[.int .i64 s, .int .i64 t, .slice la ln lm] 27)).alloc (Obj.cells (rdrC s t (.slice la ln lm) false (.slice none 0 0)) 106)).alloc (Obj.cells (madeCells #[.bool false] ns.length) 4)) := ⟨_, rfl⟩
 have HR := Aside0.mk (show RdS (w.heap.size + 3) l s t (.slice la ln lm) (w.heap.size + 1) wS by
  refine ⟨false, .slice none 0 0, ?_, .inl ⟨rfl, rfl⟩⟩
  rw [hwS]
  have h := blk_new (w.alloc (Obj.cells #[.int .i64 s, .int .i64 t, .slice la ln lm] 27)) (Obj.cells (rdrC s t (.slice la ln lm) false (.slice none 0 0)) 106)
  rw [World.size_alloc] at h
  exact blk_alloc h _)
 have HH := Aside0.mk (show wS.heap[w.heap.size + 1 + 1]? = some (.cells (bools (List.replicate ns.length false)).toArray 4 (0, 0)) by
  have h := blk_new ((w.alloc (Obj.cells #[.int .i64 s, .int .i64 t, .slice la ln lm] 27)).alloc (Obj.cells (rdrC s t (.slice la ln lm) false (.slice none 0 0)) 106)) (Obj.cells (madeCells #[.bool false] ns.length) 4)
  rw [World.size_alloc, World.size_alloc] at h
  rw [hwS, h, made_bools])
 have HB := Aside0.mk (show Below w.heap.size w wS by rw [hwS]; repeat (first | exact Below.refl _ _ | apply below_alloc))
 have HSZ := Aside0.mk (show w.heap.size + 3 ≤ wS.heap.size by rw [hwS]; simp)
 rw [← hwS]
 clear hwS hmk
 go_loopg [17] ns.length (fun kq v17 wr => ∃ (i : Nat) (h : List Bool), v17 = .int .i64 (i : Int) ∧ Aside0 (kq + i = ns.length) ∧ Aside0 (h.length = i) ∧ Aside0 (heldL lv (ns.drop i) h = heldL lv ns []) ∧ Aside0 (Below w.heap.size w wr) ∧ Aside0 (w.heap.size + 3 ≤ wr.heap.size) ∧ Aside0 (RdS (w.heap.size + 3) l s t (.slice la ln lm) (w.heap.size + 1) wr) ∧ Aside0 (wr.heap[w.heap.size + 1 + 1]? = some (.cells (bools (h ++ List.replicate (ns.length - i) false)).toArray 4 (0, 0))))
 case atStart => exact ⟨0, [], rfl, ⟨rfl⟩, ⟨rfl⟩, ⟨rfl⟩, HB, HSZ, HR, HH⟩
 case round =>
  clear HB HSZ HR HH
  obtain ⟨i, h, rfl, HI, HHL, HS, HBr, HSr, HRr, HHr⟩ := hrel
  by_cases hi : i < ns.length
  ·have d3 : decide ((i : Int) < (ns.length : Int)) = true := decide_eq_true (by omega)
   have d4 : decide (i < ns.length) = true := decide_eq_true hi
   obtain ⟨ad, A4, c4, rfl, k0, k1, k2, k3, k4, k5, k6, k7, l4, g4⟩ := at_T37 HC.out (i : Int) (by omega) (by omega)
   replace k0 := pw_cell_below HBr.out k0
   replace k1 := pw_cell_below HBr.out k1
   replace k2 := pw_cell_below HBr.out k2
   replace k3 := pw_cell_below HBr.out k3
   replace k4 := pw_cell_below HBr.out k4
   replace k5 := pw_cell_below HBr.out k5
   replace k6 := pw_cell_below HBr.out k6
   replace k7 := pw_cell_below HBr.out k7
   rw [Int.toNat_natCast] at k0 k1 k2 k3 k4 k5 k6 k7
   obtain ⟨n, hn⟩ : ∃ n, rd_T37 ns (i : Int) = n := ⟨_, rfl⟩
   rw [hn] at k0 k1 k2 k3 k4 k5 k6 k7 l4 g4
   have HNE := Aside0.mk (show ns[i]? = some n by rw [← hn]; simp [rd_T37, hi])
   have G4 := Aside0.mk g4
   clear hn g4
   have HI2 := Aside0.mk hi
   have HDR := Aside0.mk (show ns.drop i = n :: ns.drop (i + 1) by rw [List.drop_eq_getElem_cons hi]; have h := HNE.out; rw [List.getElem?_eq_getElem hi] at h; rw [Option.some.inj h])
   by_cases e10 : n.f0 = 10
   ·have d20 : (n.f0 == 10) = true := beq_iff_eq.2 e10
    have HPN := HP.out i n HNE.out
    rw [show partsN n = [n.f1, n.f2] by unfold partsN; rw [if_pos (.inl e10)]] at HPN
    simp only [List.all_cons, List.all_nil, inN, Bool.and_true, Bool.and_eq_true, decide_eq_true_eq] at HPN
    obtain ⟨⟨ha0, ha1⟩, hb0, hb1⟩ := HPN
    obtain ⟨p, hp⟩ : ∃ p : Nat, n.f1 = (p : Int) := ⟨n.f1.toNat, by omega⟩
    obtain ⟨q, hq⟩ : ∃ q : Nat, n.f2 = (q : Int) := ⟨n.f2.toNat, by omega⟩
    have HV := Aside0.mk (show valN lv h n = (h.getD p false && h.getD q false) by unfold valN; rw [if_pos e10, hp, hq, Int.toNat_natCast, Int.toNat_natCast])
    rw [hp] at ha0 ha1 k1
    rw [hq] at hb0 hb1 k2
    have hlp : p < h.length := by have := HHL.out; omega
    have hlq : q < h.length := by have := HHL.out; omega
    have hh := blk_alloc HHr.out (.cells #[.int .i64 n.f0, .int .i64 (p : Int), .int .i64 (q : Int), .string n.f3, .slice A4 n.f4.length c4, .string n.f5, .int .i64 n.f6, .int .i64 n.f7] 37)
    have c0 : (wr.alloc (.cells #[.int .i64 n.f0, .int .i64 (p : Int), .int .i64 (q : Int), .string n.f3, .slice A4 n.f4.length c4, .string n.f5, .int .i64 n.f6, .int .i64 n.f7] 37)).cell? ⟨w.heap.size + 1 + 1, p, none⟩ = some (.bool (h.getD p false)) := bools_cell hh (held_get hlp)
    have c1 : (wr.alloc (.cells #[.int .i64 n.f0, .int .i64 (p : Int), .int .i64 (q : Int), .string n.f3, .slice A4 n.f4.length c4, .string n.f5, .int .i64 n.f6, .int .i64 n.f7] 37)).cell? ⟨w.heap.size + 1 + 1, q, none⟩ = some (.bool (h.getD q false)) := bools_cell hh (held_get hlq)
    have z2 := blk_frozen hh i
    have c2 : (wr.alloc (.cells #[.int .i64 n.f0, .int .i64 (p : Int), .int .i64 (q : Int), .string n.f3, .slice A4 n.f4.length c4, .string n.f5, .int .i64 n.f6, .int .i64 n.f7] 37)).cell? ⟨w.heap.size + 1 + 1, i, none⟩ = some (.bool false) := bools_cell hh (by rw [List.getElem?_append_right (by have := HHL.out; omega)]; rw [List.getElem?_replicate]; rw [if_pos (by have := HHL.out; omega)])
    have d6 : decide ((p : Int) < (ns.length : Int)) = true := decide_eq_true (by omega)
    have d7 : decide (p < ns.length) = true := decide_eq_true (by omega)
    have d7p : p < ns.length := by omega
    have d8 : decide ((q : Int) < (ns.length : Int)) = true := decide_eq_true (by omega)
    have d9 : decide (q < ns.length) = true := decide_eq_true (by omega)
    have d9p : q < ns.length := by omega
    have HB3 := Aside0.mk (below_alloc HBr.out (.cells #[.int .i64 n.f0, .int .i64 (p : Int), .int .i64 (q : Int), .string n.f3, .slice A4 n.f4.length c4, .string n.f5, .int .i64 n.f6, .int .i64 n.f7] 37))
    have HR3 := Aside0.mk (HRr.out.below (below_alloc (Below.refl _ _) (.cells #[.int .i64 n.f0, .int .i64 (p : Int), .int .i64 (q : Int), .string n.f3, .slice A4 n.f4.length c4, .string n.f5, .int .i64 n.f6, .int .i64 n.f7] 37)))
    have HS3 := Aside0.mk (show w.heap.size + 3 ≤ (wr.alloc (.cells #[.int .i64 n.f0, .int .i64 (p : Int), .int .i64 (q : Int), .string n.f3, .slice A4 n.f4.length c4, .string n.f5, .int .i64 n.f6, .int .i64 n.f7] 37)).heap.size by rw [World.size_alloc]; have := HSr.out; omega)
    have HH3 := Aside0.mk hh
    clear hh hp hq ha0 ha1 hb0 hb1 hlp hlq e10 HC HP HL
    obtain ⟨b1, hb1⟩ : ∃ b1, h.getD p false = b1 := ⟨_, rfl⟩
    rw [hb1] at c0 HV
    obtain ⟨b2, hb2⟩ : ∃ b2, h.getD q false = b2 := ⟨_, rfl⟩
    rw [hb2] at c1 HV
    clear hb2
    clear hb1
    cases b1
    all_goals (
     go_wp2_with fail
     try rw [show wrap64 ((i : Int) + 1) = ((i + 1 : Nat) : Int) by have := HI2.out; have := h2; unfold wrap64; omega]
     go_roundg (ns.length - i - 1)
     case measure => have := HI.out; have := HI2.out; omega
     case rel =>
      refine ⟨i + 1, h ++ [valN lv h n], rfl, ⟨by have := HI.out; have := HI2.out; omega⟩, ⟨by rw [List.length_append, HHL.out]; rfl⟩, ⟨by rw [← HS.out, HDR.out]; rfl⟩, ⟨HB3.out.setCell (p := ⟨w.heap.size + 1 + 1, i, none⟩) (by show w.heap.size ≤ w.heap.size + 1 + 1; omega) _⟩, ⟨by rw [World.size_setCell]; exact HS3.out⟩, ⟨HR3.out.far (by omega) (by omega) _ _⟩, ⟨?_⟩⟩
      rw [bools_next HHL.out HI2.out]
      have e := bools_put HH3.out i (valN lv h n)
      rw [HV.out] at e ⊢
      exact e)
   by_cases e11 : n.f0 = 11
   ·have d20 : (n.f0 == 10) = false := beq_eq_false_iff_ne.2 e10
    have d21 : (n.f0 == 11) = true := beq_iff_eq.2 e11
    have HPN := HP.out i n HNE.out
    rw [show partsN n = [n.f1, n.f2] by unfold partsN; rw [if_pos (.inr e11)]] at HPN
    simp only [List.all_cons, List.all_nil, inN, Bool.and_true, Bool.and_eq_true, decide_eq_true_eq] at HPN
    obtain ⟨⟨ha0, ha1⟩, hb0, hb1⟩ := HPN
    obtain ⟨p, hp⟩ : ∃ p : Nat, n.f1 = (p : Int) := ⟨n.f1.toNat, by omega⟩
    obtain ⟨q, hq⟩ : ∃ q : Nat, n.f2 = (q : Int) := ⟨n.f2.toNat, by omega⟩
    have HV := Aside0.mk (show valN lv h n = (h.getD p false || h.getD q false) by unfold valN; rw [if_neg (by omega), if_pos e11, hp, hq, Int.toNat_natCast, Int.toNat_natCast])
    rw [hp] at ha0 ha1 k1
    rw [hq] at hb0 hb1 k2
    have hlp : p < h.length := by have := HHL.out; omega
    have hlq : q < h.length := by have := HHL.out; omega
    have hh := blk_alloc HHr.out (.cells #[.int .i64 n.f0, .int .i64 (p : Int), .int .i64 (q : Int), .string n.f3, .slice A4 n.f4.length c4, .string n.f5, .int .i64 n.f6, .int .i64 n.f7] 37)
    have c0 : (wr.alloc (.cells #[.int .i64 n.f0, .int .i64 (p : Int), .int .i64 (q : Int), .string n.f3, .slice A4 n.f4.length c4, .string n.f5, .int .i64 n.f6, .int .i64 n.f7] 37)).cell? ⟨w.heap.size + 1 + 1, p, none⟩ = some (.bool (h.getD p false)) := bools_cell hh (held_get hlp)
    have c1 : (wr.alloc (.cells #[.int .i64 n.f0, .int .i64 (p : Int), .int .i64 (q : Int), .string n.f3, .slice A4 n.f4.length c4, .string n.f5, .int .i64 n.f6, .int .i64 n.f7] 37)).cell? ⟨w.heap.size + 1 + 1, q, none⟩ = some (.bool (h.getD q false)) := bools_cell hh (held_get hlq)
    have z2 := blk_frozen hh i
    have c2 : (wr.alloc (.cells #[.int .i64 n.f0, .int .i64 (p : Int), .int .i64 (q : Int), .string n.f3, .slice A4 n.f4.length c4, .string n.f5, .int .i64 n.f6, .int .i64 n.f7] 37)).cell? ⟨w.heap.size + 1 + 1, i, none⟩ = some (.bool false) := bools_cell hh (by rw [List.getElem?_append_right (by have := HHL.out; omega)]; rw [List.getElem?_replicate]; rw [if_pos (by have := HHL.out; omega)])
    have d6 : decide ((p : Int) < (ns.length : Int)) = true := decide_eq_true (by omega)
    have d7 : decide (p < ns.length) = true := decide_eq_true (by omega)
    have d7p : p < ns.length := by omega
    have d8 : decide ((q : Int) < (ns.length : Int)) = true := decide_eq_true (by omega)
    have d9 : decide (q < ns.length) = true := decide_eq_true (by omega)
    have d9p : q < ns.length := by omega
    have HB3 := Aside0.mk (below_alloc HBr.out (.cells #[.int .i64 n.f0, .int .i64 (p : Int), .int .i64 (q : Int), .string n.f3, .slice A4 n.f4.length c4, .string n.f5, .int .i64 n.f6, .int .i64 n.f7] 37))
    have HR3 := Aside0.mk (HRr.out.below (below_alloc (Below.refl _ _) (.cells #[.int .i64 n.f0, .int .i64 (p : Int), .int .i64 (q : Int), .string n.f3, .slice A4 n.f4.length c4, .string n.f5, .int .i64 n.f6, .int .i64 n.f7] 37)))
    have HS3 := Aside0.mk (show w.heap.size + 3 ≤ (wr.alloc (.cells #[.int .i64 n.f0, .int .i64 (p : Int), .int .i64 (q : Int), .string n.f3, .slice A4 n.f4.length c4, .string n.f5, .int .i64 n.f6, .int .i64 n.f7] 37)).heap.size by rw [World.size_alloc]; have := HSr.out; omega)
    have HH3 := Aside0.mk hh
    clear hh hp hq ha0 ha1 hb0 hb1 hlp hlq e10 e11 HC HP HL
    obtain ⟨b1, hb1⟩ : ∃ b1, h.getD p false = b1 := ⟨_, rfl⟩
    rw [hb1] at c0 HV
    obtain ⟨b2, hb2⟩ : ∃ b2, h.getD q false = b2 := ⟨_, rfl⟩
    rw [hb2] at c1 HV
    clear hb2
    clear hb1
    cases b1
    all_goals (
     go_wp2_with fail
     try rw [show wrap64 ((i : Int) + 1) = ((i + 1 : Nat) : Int) by have := HI2.out; have := h2; unfold wrap64; omega]
     go_roundg (ns.length - i - 1)
     case measure => have := HI.out; have := HI2.out; omega
     case rel =>
      refine ⟨i + 1, h ++ [valN lv h n], rfl, ⟨by have := HI.out; have := HI2.out; omega⟩, ⟨by rw [List.length_append, HHL.out]; rfl⟩, ⟨by rw [← HS.out, HDR.out]; rfl⟩, ⟨HB3.out.setCell (p := ⟨w.heap.size + 1 + 1, i, none⟩) (by show w.heap.size ≤ w.heap.size + 1 + 1; omega) _⟩, ⟨by rw [World.size_setCell]; exact HS3.out⟩, ⟨HR3.out.far (by omega) (by omega) _ _⟩, ⟨?_⟩⟩
      rw [bools_next HHL.out HI2.out]
      have e := bools_put HH3.out i (valN lv h n)
      rw [HV.out] at e ⊢
      exact e)
   by_cases e12 : n.f0 = 12
   ·have d20 : (n.f0 == 10) = false := beq_eq_false_iff_ne.2 e10
    have d21 : (n.f0 == 11) = false := beq_eq_false_iff_ne.2 e11
    have d22 : (n.f0 == 12) = true := beq_iff_eq.2 e12
    have HPN := HP.out i n HNE.out
    rw [show partsN n = [n.f1] by unfold partsN; rw [if_neg (by omega), if_pos e12]] at HPN
    simp only [List.all_cons, List.all_nil, inN, Bool.and_true, decide_eq_true_eq] at HPN
    obtain ⟨ha0, ha1⟩ := HPN
    obtain ⟨p, hp⟩ : ∃ p : Nat, n.f1 = (p : Int) := ⟨n.f1.toNat, by omega⟩
    have HV := Aside0.mk (show valN lv h n = (!h.getD p false) by unfold valN; rw [if_neg (by omega), if_neg (by omega), if_pos e12, hp, Int.toNat_natCast])
    rw [hp] at ha0 ha1 k1
    have hlp : p < h.length := by have := HHL.out; omega
    have hh := blk_alloc HHr.out (.cells #[.int .i64 n.f0, .int .i64 (p : Int), .int .i64 n.f2, .string n.f3, .slice A4 n.f4.length c4, .string n.f5, .int .i64 n.f6, .int .i64 n.f7] 37)
    have c0 : (wr.alloc (.cells #[.int .i64 n.f0, .int .i64 (p : Int), .int .i64 n.f2, .string n.f3, .slice A4 n.f4.length c4, .string n.f5, .int .i64 n.f6, .int .i64 n.f7] 37)).cell? ⟨w.heap.size + 1 + 1, p, none⟩ = some (.bool (h.getD p false)) := bools_cell hh (held_get hlp)
    have z2 := blk_frozen hh i
    have c2 : (wr.alloc (.cells #[.int .i64 n.f0, .int .i64 (p : Int), .int .i64 n.f2, .string n.f3, .slice A4 n.f4.length c4, .string n.f5, .int .i64 n.f6, .int .i64 n.f7] 37)).cell? ⟨w.heap.size + 1 + 1, i, none⟩ = some (.bool false) := bools_cell hh (by rw [List.getElem?_append_right (by have := HHL.out; omega)]; rw [List.getElem?_replicate]; rw [if_pos (by have := HHL.out; omega)])
    have d6 : decide ((p : Int) < (ns.length : Int)) = true := decide_eq_true (by omega)
    have d7 : decide (p < ns.length) = true := decide_eq_true (by omega)
    have d7p : p < ns.length := by omega
    have HB3 := Aside0.mk (below_alloc HBr.out (.cells #[.int .i64 n.f0, .int .i64 (p : Int), .int .i64 n.f2, .string n.f3, .slice A4 n.f4.length c4, .string n.f5, .int .i64 n.f6, .int .i64 n.f7] 37))
    have HR3 := Aside0.mk (HRr.out.below (below_alloc (Below.refl _ _) (.cells #[.int .i64 n.f0, .int .i64 (p : Int), .int .i64 n.f2, .string n.f3, .slice A4 n.f4.length c4, .string n.f5, .int .i64 n.f6, .int .i64 n.f7] 37)))
    have HS3 := Aside0.mk (show w.heap.size + 3 ≤ (wr.alloc (.cells #[.int .i64 n.f0, .int .i64 (p : Int), .int .i64 n.f2, .string n.f3, .slice A4 n.f4.length c4, .string n.f5, .int .i64 n.f6, .int .i64 n.f7] 37)).heap.size by rw [World.size_alloc]; have := HSr.out; omega)
    have HH3 := Aside0.mk hh
    clear hh hp ha0 ha1 hlp e10 e11 e12 HC HP HL
    obtain ⟨b1, hb1⟩ : ∃ b1, h.getD p false = b1 := ⟨_, rfl⟩
    rw [hb1] at c0 HV
    clear hb1
    cases b1
    all_goals (
     go_wp2_with fail
     try rw [show wrap64 ((i : Int) + 1) = ((i + 1 : Nat) : Int) by have := HI2.out; have := h2; unfold wrap64; omega]
     go_roundg (ns.length - i - 1)
     case measure => have := HI.out; have := HI2.out; omega
     case rel =>
      refine ⟨i + 1, h ++ [valN lv h n], rfl, ⟨by have := HI.out; have := HI2.out; omega⟩, ⟨by rw [List.length_append, HHL.out]; rfl⟩, ⟨by rw [← HS.out, HDR.out]; rfl⟩, ⟨HB3.out.setCell (p := ⟨w.heap.size + 1 + 1, i, none⟩) (by show w.heap.size ≤ w.heap.size + 1 + 1; omega) _⟩, ⟨by rw [World.size_setCell]; exact HS3.out⟩, ⟨HR3.out.far (by omega) (by omega) _ _⟩, ⟨?_⟩⟩
      rw [bools_next HHL.out HI2.out]
      have e := bools_put HH3.out i (valN lv h n)
      rw [HV.out] at e ⊢
      exact e)
   have d20 : (n.f0 == 10) = false := beq_eq_false_iff_ne.2 e10
   have d21 : (n.f0 == 11) = false := beq_eq_false_iff_ne.2 e11
   have d22 : (n.f0 == 12) = false := beq_eq_false_iff_ne.2 e12
   have HV := Aside0.mk (show valN lv h n = lv n by unfold valN; rw [if_neg e10, if_neg e11, if_neg e12])
   have HLN := Aside0.mk (HL.out n (List.mem_of_getElem? HNE.out) e10 e11 e12)
   clear e10 e11 e12
   go_wp2_with fail
   refine (HLN.out _ _ _ (below_alloc HBr.out _) (by rw [World.size_alloc]; have := HSr.out; omega) (HRr.out.below (below_alloc (Below.refl _ _) _)) G4.out l4).mono ?_
   rintro e w3 ⟨rfl, hr3, hb3, hk3⟩
   have hh := blk_kept (blk_alloc HHr.out (.cells #[.int .i64 n.f0, .int .i64 n.f1, .int .i64 n.f2, .string n.f3, .slice A4 n.f4.length c4, .string n.f5, .int .i64 n.f6, .int .i64 n.f7] 37)) hk3 (by omega)
   have z2 := blk_frozen hh i
   have c2 : w3.cell? ⟨w.heap.size + 1 + 1, i, none⟩ = some (.bool false) := bools_cell hh (by rw [List.getElem?_append_right (by have := HHL.out; omega)]; rw [List.getElem?_replicate]; rw [if_pos (by have := HHL.out; omega)])
   have HH3 := Aside0.mk hh
   have HR3 := Aside0.mk hr3
   have HB3 := Aside0.mk ((below_alloc HBr.out (.cells #[.int .i64 n.f0, .int .i64 n.f1, .int .i64 n.f2, .string n.f3, .slice A4 n.f4.length c4, .string n.f5, .int .i64 n.f6, .int .i64 n.f7] 37)).trans (hb3.mono (by omega)))
   have HS3 := Aside0.mk (show w.heap.size + 3 ≤ w3.heap.size by have := hk3.1; rw [World.size_alloc] at this; have := HSr.out; omega)
   clear hh hr3 hb3 hk3 k0 k1 k2 k3 k4 k5 k6 k7
   obtain ⟨b1, hb1⟩ : ∃ b1, lv n = b1 := ⟨_, rfl⟩
   rw [hb1] at HV ⊢
   clear hb1
   go_wp2_with fail
   try rw [show wrap64 ((i : Int) + 1) = ((i + 1 : Nat) : Int) by have := HI2.out; have := h2; unfold wrap64; omega]
   go_roundg (ns.length - i - 1)
   case measure => have := HI.out; have := HI2.out; omega
   case rel =>
    refine ⟨i + 1, h ++ [valN lv h n], rfl, ⟨by have := HI.out; have := HI2.out; omega⟩, ⟨by rw [List.length_append, HHL.out]; rfl⟩, ⟨by rw [← HS.out, HDR.out]; rfl⟩, ⟨HB3.out.setCell (p := ⟨w.heap.size + 1 + 1, i, none⟩) (by show w.heap.size ≤ w.heap.size + 1 + 1; omega) _⟩, ⟨by rw [World.size_setCell]; exact HS3.out⟩, ⟨HR3.out.far (by omega) (by omega) _ _⟩, ⟨?_⟩⟩
    rw [bools_next HHL.out HI2.out]
    have e := bools_put HH3.out i (valN lv h n)
    rw [HV.out] at e ⊢
    exact e
  ·have hie : i = ns.length := by have := HI.out; omega
   subst hie
   have d3 : decide ((ns.length : Int) < (ns.length : Int)) = false := decide_eq_false (by omega)
   have hend : wr.cell? ⟨w.heap.size + 1 + 1, ns.length - 1, none⟩ = some (.bool (holdsB lv ns)) := bools_cell HHr.out (by
    have e : heldL lv ns [] = h := by rw [← HS.out, List.drop_length]; rfl
    unfold holdsB
    rw [e]
    exact held_get (by have := HHL.out; omega))
   go_wp2_with fail
   go_ret
   exact ⟨rfl, HBr.out⟩
theorem formL_all : ∀ (ns : List ND) (j : Nat) (u v : List Int), formL j ns u = some v → ∀ (i : Nat) n, ns[i]? = some n → rightN n = true ∧ (partsN n).all (inN (j + i)) = true
 | [], j, u, v, h, i, n, hn => by simp at hn
 | m :: r, j, u, v, h, i, n, hn => by
  rw [formL] at h
  by_cases hc : rightN m = true ∧ (partsN m).all (inN j) = true
  ·rw [if_pos hc] at h
   cases i with
   | zero =>
    simp at hn
    subst hn
    exact hc
   | succ i =>
    simp at hn
    have := formL_all r (j + 1) _ v h i n hn
    rwa [show j + 1 + i = j + (i + 1) by omega] at this
  ·rw [if_neg hc] at h
   cases h
theorem formed_all {ns : List ND} {k : Int} {ky : ByteArray} {wd sk mo : Int} (h : formedB ns k ky wd sk mo = true) : (1 ≤ ns.length ∧ ns.length ≤ 64) ∧ ∀ (i : Nat) n, ns[i]? = some n → rightN n = true ∧ (partsN n).all (inN i) = true := by
 unfold formedB at h
 rw [Bool.and_eq_true, Bool.and_eq_true] at h
 obtain ⟨⟨h1, h2⟩, h3⟩ := h
 refine ⟨of_decide_eq_true h1, fun i n hn => ?_⟩
 cases hf : formL 0 ns (List.replicate ns.length 0) with
 | none => rw [hf] at h3; cases h3
 | some u =>
  have := formL_all ns 0 _ u hf i n hn
  rwa [Nat.zero_add] at this
theorem Holds_calls (A : Option Addr) (c : Nat) (ns : List ND) (k : Int) (ky : ByteArray) (wd sk mo : Int) (l : List Int) (s t : Int) (vl : Value) (lv : ND → Bool) (w : World) (hvl : ∃ a n m, vl = .slice a n m) (hC : Kd.C k37 w A ns.length ns) (hc : ns.length ≤ c)
  (hA : ∀ W, Calls Tryz.prog 60 #[.agg #[.slice A ns.length c, .int .i64 k, .string ky, .int .i64 wd, .int .i64 sk, .int .i64 mo]] W fun e w' => e = .returned (.bool (askedB k ky wd sk mo)) ∧ Below W.heap.size W w')
  (hR : ∀ n ∈ ns, ∀ W A' c', Kd.string.C W A' n.f4.length n.f4 → n.f4.length ≤ c' → Calls Tryz.prog 61 #[.agg #[.int .i64 n.f0, .int .i64 n.f1, .int .i64 n.f2, .string n.f3, .slice A' n.f4.length c', .string n.f5, .int .i64 n.f6, .int .i64 n.f7]] W fun e w' => e = .returned (.bool (rightN n)) ∧ Below W.heap.size W w')
  (hL : ∀ W, Below w.heap.size w W → ∀ n ∈ ns, rightN n = true → n.f0 ≠ 10 → n.f0 ≠ 11 → n.f0 ≠ 12 → LeafOK W l s t vl n (lv n)) :
  Calls Tryz.prog 14 #[.agg #[.slice A ns.length c, .int .i64 k, .string ky, .int .i64 wd, .int .i64 sk, .int .i64 mo], .agg #[.int .i64 s, .int .i64 t, vl]] w fun e w' =>
   e = .returned (.tuple #[.bool (formedB ns k ky wd sk mo && holdsB lv ns), .int .i64 (if formedB ns k ky wd sk mo = true then 0 else 1)]) ∧ Below w.heap.size w w' := by
 obtain ⟨la, ln, lm, rfl⟩ := hvl
 have HF := Aside0.mk (fun (W : World) (hW : Below w.heap.size w W) => formed_calls A c ns k ky wd sk mo W (Kd.C_below hC hW) hc hA hR)
 obtain ⟨fb, hfb⟩ : ∃ fb, formedB ns k ky wd sk mo = fb := ⟨_, rfl⟩
 rw [hfb] at HF ⊢
 have HFB := Aside0.mk hfb
 have HC := Aside0.mk hC
 have HL := Aside0.mk hL
 clear hA hR hfb hC hL
 go_enter Tryz.func14, Tryz.ntmps14
 go_wp2_with fail
 refine (HF.out _ (by repeat (first | exact Below.refl _ _ | apply below_alloc))).mono ?_
 rintro e w2 ⟨rfl, hb⟩
 have HB := Aside0.mk (below_step (below_alloc (below_alloc (Below.refl w.heap.size w) _) _) hb)
 have hA := blk_below (blk_alloc (blk_new w (.cells #[.slice A ns.length c, .int .i64 k, .string ky, .int .i64 wd, .int .i64 sk, .int .i64 mo] 24)) _) hb
 have c0 : w2.cell? ⟨w.heap.size, 0, none⟩ = some (.slice A ns.length c) := (blk_cell hA 0).trans rfl
 have hR := blk_below (blk_new (w.alloc (.cells #[.slice A ns.length c, .int .i64 k, .string ky, .int .i64 wd, .int .i64 sk, .int .i64 mo] 24)) (.cells #[.int .i64 s, .int .i64 t, .slice la ln lm] 27)) hb
 rw [World.size_alloc] at hR
 have r0 : w2.cell? ⟨w.heap.size + 1, 0, none⟩ = some (.int .i64 s) := (blk_cell hR 0).trans rfl
 have r1 : w2.cell? ⟨w.heap.size + 1, 1, none⟩ = some (.int .i64 t) := (blk_cell hR 1).trans rfl
 have r2 : w2.cell? ⟨w.heap.size + 1, 2, none⟩ = some (.slice la ln lm) := (blk_cell hR 2).trans rfl
 clear hA hR hb HF
 cases fb
 ·go_wp2_with fail
  go_ret2
  exact ⟨rfl, HB.out⟩
 ·have HFA := Aside0.mk (formed_all HFB.out)
  go_wp2_with fail
  refine (holds_calls A c ns l s t (.slice la ln lm) lv _ ⟨_, _, _, rfl⟩ (Kd.C_below HC.out HB.out) hc HFA.out.1.1 HFA.out.1.2 (fun i n hn => (HFA.out.2 i n hn).2) (fun n hn h10 h11 h12 => HL.out _ HB.out n hn (by obtain ⟨i, hi⟩ := List.getElem?_of_mem hn; exact (HFA.out.2 i n hi).1) h10 h11 h12)).mono ?_
  rintro e w3 ⟨rfl, hb⟩
  have HB3 := Aside0.mk (below_step HB.out hb)
  clear hb
  go_wp2_with fail
  go_ret2
  exact ⟨rfl, HB3.out⟩
end Go.Proofs.YtehaodbheifokaaGreatDoor.P
end
