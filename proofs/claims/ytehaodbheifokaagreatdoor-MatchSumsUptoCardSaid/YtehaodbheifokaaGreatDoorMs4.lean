/- Joined by wip/tools/pack.py, pruned: Steps, Read, Short, P0, ReadS, App20, PureEv. -/
import Derived.Test.YtehaodbheifokaaGreatDoorMs3
import Derived.Test.YtehaodbheifokaaGreatDoorRows
import Derived.Deep.Slices
import Derived.ChangeArms
import Derived.Lib.SmallJoins
import Derived.Test.YtehaodbheifokaaGreatDoorProg
set_option maxHeartbeats 8000000
set_option maxRecDepth 100000
set_option linter.unusedVariables false
set_option linter.unusedSimpArgs false
section
namespace Go.Proofs.YtehaodbheifokaaGreatDoor.P
open Go Go.RowKit Go.Proofs.YtehaodbheifokaaGreatDoorW.PrintWords Go.Proofs.YtehaodbheifokaaGreatDoorW.PrintLast Go.Proofs.YtehaodbheifokaaGreatDoorW.PrintMore
variable {P : Program} {md : Region.Mode} {ops : Array Oper} {S : World → Prop} {Q : Exit → Act → World → Prop} {ds : List Nat} {T : Bool × List (List Nat × List Nat)} {B : List Nat} {fuel : Nat} {l : Array Bool} {a a' : Act} {w : World} {oi : Oper} {v : Value}
theorem pS (i : Nat) (N : Option Tmp) (hT : Aside0 (rtab md ops = T)) (h : wpAnyLast P md ops Q S ds fuel (l.setIfInBounds i true) a' w)
  (hi : ops[i]? = some oi := by rfl) (hN : oi.dst = N := by rfl) (hc : anyT T l.toList (l.setIfInBounds i true).toList i = true := by kernel_rfl) (hQ : ∀ c a w, Q (.panic c) (a.put oi.dst v) w → Q (.panic c) a w := by exact fun _ _ _ h => h)
  (hg : Region.wanted oi (yielded ops a.tmps) = true := by rfl) (hv : ∀ w', (execOp a.eval oi).run P w' = .ok (.value v) w' := by intro w'; go_simp; with_reducible rfl)
  (ha : a.put N v = a' := by simp only [Act.put, List.setIfInBounds_toArray, List.set_cons_zero, List.set_cons_succ, i64_w, i32_w]; rfl) : wpAnyLast P md ops Q S ds (fuel + 1) l a w :=
 pure_ _ hi hN (any_of hT.out hc) hQ (Or.inl ⟨hg, hv⟩) ha h
theorem uS (i : Nat) (N : Option Tmp) (hT : Aside0 (rtab md ops = T)) (h : wpAnyLast P md ops Q S ds fuel (l.setIfInBounds i true) a' w)
  (hi : ops[i]? = some oi := by rfl) (hN : oi.dst = N := by rfl) (hc : anyT T l.toList (l.setIfInBounds i true).toList i = true := by kernel_rfl) (hQ : ∀ c a w, Q (.panic c) (a.put oi.dst undef) w → Q (.panic c) a w := by exact fun _ _ _ h => h)
  (hg : Region.wanted oi (yielded ops a.tmps) = false := by rfl)
  (ha : a.put N undef = a' := by simp only [Act.put, List.setIfInBounds_toArray, List.set_cons_zero, List.set_cons_succ, i64_w, i32_w]; rfl) : wpAnyLast P md ops Q S ds (fuel + 1) l a w :=
 pure_ _ hi hN (any_of hT.out hc) hQ (Or.inr ⟨hg, rfl⟩) ha h
theorem tS (i : Nat) (N : Option Tmp) (hT : Aside0 (rtab md ops = T)) (hW : Aside0 (waitsOk T.2 B = true)) (hS : S w) (h : wpAnyLast P md ops Q S ds fuel (l.setIfInBounds i true) a' w)
  (hi : ops[i]? = some oi := by rfl) (hN : oi.dst = N := by rfl) (hc : takeW T B ds l.toList (l.setIfInBounds i true).toList i = true := by kernel_rfl) (hQ : ∀ c a w, Q (.panic c) (a.put oi.dst v) w → Q (.panic c) a w := by exact fun _ _ _ h => h)
  (hg : Region.wanted oi (yielded ops a.tmps) = true := by rfl) (hv : ∀ w', S w' → (execOp a.eval oi).run P w' = .ok (.value v) w' := by (intro w' hs_; (repeat (obtain ⟨_, hs_⟩ := hs_)); go_simp; with_reducible rfl))
  (ha : a.put N v = a' := by simp only [Act.put, List.setIfInBounds_toArray, List.set_cons_zero, List.set_cons_succ, i64_w, i32_w]; rfl) : wpAnyLast P md ops Q S ds (fuel + 1) l a w :=
 take_ _ hi hN (take_ofW hT.out hW.out hc) hQ (Or.inl ⟨hg, hv⟩) hS ha h
theorem bel6 {n : Nat} {w w' : World} (h : Below n w w' := by repeat (first | exact Below.refl _ _ | apply pw_below_drewN | apply below_drew1 | apply below_drew | apply Below.setCell (hp := Nat.le_succ _) | apply below_alloc)) : Below n w w' := h
theorem bel5 {n : Nat} {w w' : World} (h : Below n w w' := by repeat (first | exact Below.refl _ _ | apply pw_below_drewN | apply below_drew1 | apply below_drew | apply below_alloc)) : Below n w w' := h
theorem eB {a b : Bool} (h : a = b) : Ending.returned (Value.bool a) = Ending.returned (Value.bool b) := congrArg (fun z => Ending.returned (Value.bool z)) h
theorem rs_ {p : Prop} (h : p := by first | rfl | (simp; done) | (simp [*]; done)) : p := h
theorem as_ {p : Prop} (h : p := by first | (with_reducible assumption) | assumption) : p := h
theorem mp_ {p : Prop} (h : p := by (try simp only [List.map_toArray, List.map_cons, List.map_nil]); first | done | rfl | (simp only [List.length_drop, List.length_take]; rfl)) : p := h
theorem dr_ {w w' : World} (h : Drawn0 w w' := by repeat (first | exact Drawn0.refl _ | apply Drawn0.step)) : Drawn0 w w' := h
theorem bU_ {p q : Prop} (h : p) (k : p → q := by (intro hk_; (with_reducible repeat (first | refine blk_drewN ?_ _ | refine blk_drew ?_ | refine blk_alloc ?_ _)); exact hk_)) : q := k h
end Go.Proofs.YtehaodbheifokaaGreatDoor.P
end
section
namespace Go.Proofs.YtehaodbheifokaaGreatDoor.Read
open Go Go.RowKit Go.ChangeShapes Go.WideShapes Go.Deep Go.Proofs.YtehaodbheifokaaGreatDoorW.PrintWords
structure Reads {α : Type} (P : Program) (t : TypeId) (d : Kd α) (ok : α → Prop) (bulk : α → Nat) : Prop where
 cells : P.cellsOf t = d.sz
 opens : ∀ {H : Type} {enc : TypeId × Value → H} {w : World} {base : Nat} {spare : Nat → Bool} {held : Bool} {fuel : Nat} {cs : List Value} {x : DataW H × List MemPlace},
  DataW.trod enc P w base spare held fuel t cs = some x → ∃ a, d.K w a cs ∧ ok a ∧ bulk a ≤ Rows.uptoBulk x.1
variable {P : Program} {t e : TypeId}
theorem reads_int {k : IntKind} (ht : P.underlying t = some (.int k)) (hc : P.cellsOf t = 1) : Reads P t (Kd.int k) (fun n => (Lit.int k n).wf = true) (fun _ => 1) :=
 ⟨hc, fun h => by
  obtain ⟨n, rfl, rfl, hw⟩ := DataW.trod_int ht h
  exact ⟨n, rfl, hw, by simp [Rows.uptoBulk]⟩⟩
theorem reads_string (ht : P.underlying t = some .string) (hc : P.cellsOf t = 1) : Reads P t Kd.string (fun s => s.size ≤ maxLen) (fun s => s.size + 1) :=
 ⟨hc, fun h => by
  obtain ⟨s, rfl, rfl, hs⟩ := DataW.trod_string ht h
  exact ⟨s, rfl, hs, by simp only [Rows.uptoBulk, Array.length_toList]; exact Nat.le_refl _⟩⟩
def sumBulk {α : Type} (bulk : α → Nat) : List α → Nat
 | [] => 0
 | x :: r => bulk x + sumBulk bulk r
theorem reads_slice {α : Type} {d : Kd α} {ok : α → Prop} {bulk : α → Nat} [Inhabited α] (ht : P.underlying t = some (.slice e)) (hc : P.cellsOf t = 1) (he : Reads P e d ok bulk) :
  Reads P t (Kd.slice e d) (fun xs => ∀ x ∈ xs, ok x) (fun xs => sumBulk bulk xs + 1) :=
 ⟨hc, fun {H enc w base spare held fuel cs x} h => by
  rcases open_slice ht h with ⟨rfl, rfl⟩ | ⟨a, len, cap, m, n, D, Pl, rfl, hb, hl, hm, hmm, rfl, hx⟩
  ·refine ⟨[], ⟨none, 0, rfl, Nat.le_refl _, Kd.C_nil d w⟩, by simp, by simp [sumBulk, Rows.uptoBulk]⟩
  ·have hlm : len ≤ m := by rw [hmm]; split <;> omega
   obtain ⟨F, hF⟩ := choose_lt (α := α) (p := fun i y => ∃ cs', w.cells? base (a.add (i * P.cellsOf e)) (P.cellsOf e) = some cs' ∧ d.K w y cs' ∧ ok y ∧ bulk y ≤ Rows.uptoBulk (D i)) (n := len) (fun i hi => by
    obtain ⟨cs', h1, h2⟩ := hx i (by omega)
    obtain ⟨y, hk, ho, hbk⟩ := he.opens h2
    exact ⟨y, cs', h1, hk, ho, hbk⟩)
   have hlen : ((List.range len).map F).length = len := by simp
   refine ⟨(List.range len).map F, ⟨some a, cap, by rw [hlen], by rw [hlen]; exact hl, rfl, by rw [hlen]; unfold maxLen at hm; omega, fun _ => ⟨a, rfl, fun j p hj => ?_⟩⟩, ?_, ?_⟩
   ·have hjl : j < len := by have := (List.getElem?_eq_some_iff.1 hj).1; rw [hlen] at this; exact this
    have hp : F j = p := by
     rw [List.getElem?_map, List.getElem?_range hjl] at hj
     exact Option.some.inj hj
    subst hp
    obtain ⟨cs', h1, hk, _⟩ := hF j hjl
    refine ⟨cs', d.K_len hk, hk, fun i u hu => ?_⟩
    obtain ⟨_, hlen', hget⟩ := World.cells?_some h1
    have hi : i < cs'.length := (List.getElem?_eq_some_iff.1 hu).1
    have := hget i (by omega)
    rw [hu] at this
    rw [Deep.add_add, he.cells] at this
    exact this
   ·intro x hx'
    obtain ⟨i, hi, rfl⟩ := List.mem_map.1 hx'
    exact (hF i (List.mem_range.1 hi)).choose_spec.2.2.1
   ·have key : ∀ l : List Nat, (∀ i ∈ l, i < len) → sumBulk bulk (l.map F) ≤ Rows.uptoBulkAll (l.map D) := by
     intro l
     induction l with
     | nil => intro _; simp [sumBulk, Rows.uptoBulkAll]
     | cons i l ih =>
      intro hl'
      have h1 := (hF i (hl' i (by simp))).choose_spec.2.2.2
      have h2 := ih (fun j hj => hl' j (by simp [hj]))
      simp only [List.map_cons, sumBulk, Rows.uptoBulkAll]
      omega
    have := key (List.range len) (fun i hi => List.mem_range.1 hi)
    simp only [Rows.uptoBulk]
    omega⟩
theorem sum_len {α : Type} (f : α → Nat) (h : ∀ x, 1 ≤ f x) (l : List α) : l.length ≤ sumBulk f l := by
 induction l with
 | nil => exact Nat.le_refl _
 | cons x l ih => simp only [sumBulk, List.length_cons]; have := h x; omega
end Go.Proofs.YtehaodbheifokaaGreatDoor.Read
end
section
namespace Go.Proofs.YtehaodbheifokaaGreatDoor.P
open Go Go.RowKit Go.Proofs.YtehaodbheifokaaGreatDoorW.PrintWords Go.Proofs.YtehaodbheifokaaGreatDoorW.PrintLast Go.Proofs.YtehaodbheifokaaGreatDoorW.PrintMore
theorem bkA {g : Nat} {o : Obj} {v w w' : World} (B : Aside0 (v.heap[g]? = some o)) (hb : Below w.heap.size w w')
  (s : v.heap[g]? = some o → w.heap[g]? = some o := by intro h_; (with_reducible repeat (first | refine blk_drewN ?_ _ | refine blk_drew ?_ | refine blk_alloc ?_ _ | refine blk_far ?_ (Aside0.out (by assumption)) _)); exact h_) : Aside0 (w'.heap[g]? = some o) := Aside0.mk (blk_below (s B.out) hb)
theorem bsA {w v W w2 : World} (B : Aside0 (Below w.heap.size w v)) (hb : Below W.heap.size W w2)
  (s : Below w.heap.size w v → Below w.heap.size w W := by intro h_; repeat (first | (with_reducible first | exact h_ | apply below_alloc | apply pw_below_drewN | apply below_drew1 | refine below_set ?_ (Aside0.out (by assumption))) | exact h_)) : Aside0 (Below w.heap.size w w2) := Aside0.mk (below_step (s B.out) hb)
theorem szA {g : Nat} {w v W : World} (B : Aside0 (Below w.heap.size w v)) (hg : g = W.heap.size)
  (s : Below w.heap.size w v → Below w.heap.size w W := by intro h_; repeat (first | (with_reducible first | exact h_ | apply below_alloc | apply pw_below_drewN | apply below_drew1 | refine below_set ?_ (Aside0.out (by assumption))) | exact h_)) : Aside0 (w.heap.size ≤ g) := Aside0.mk (by rw [hg]; exact below_size (s B.out))
theorem neA {g g' : Nat} {o : Obj} {v W : World} (B : Aside0 (v.heap[g]? = some o)) (hg : g' = W.heap.size)
  (s : v.heap[g]? = some o → W.heap[g]? = some o := by intro h_; (with_reducible repeat (first | refine blk_drewN ?_ _ | refine blk_drew ?_ | refine blk_alloc ?_ _)); exact h_) : Aside0 (g ≠ g') := Aside0.mk (by rw [hg]; exact Nat.ne_of_lt (blk_lt (s B.out)))
theorem neB {g g' : Nat} {o : Obj} {v W : World} (B : Aside0 (v.heap[g]? = some o)) (hg : g' = W.heap.size)
  (s : v.heap[g]? = some o → W.heap[g]? = some o := by intro h_; (with_reducible repeat (first | refine blk_drewN ?_ _ | refine blk_drew ?_ | refine blk_alloc ?_ _)); exact h_) : Aside0 (g' ≠ g) := Aside0.mk (by rw [hg]; exact Nat.ne_of_gt (blk_lt (s B.out)))
theorem wAl (a b : Int) : wrap64 (wrap64 a + b) = wrap64 (a + b) := by unfold wrap64; omega
theorem wAr (a b : Int) : wrap64 (a + wrap64 b) = wrap64 (a + b) := by unfold wrap64; omega
theorem wSl (a b : Int) : wrap64 (wrap64 a - b) = wrap64 (a - b) := by unfold wrap64; omega
theorem wSr (a b : Int) : wrap64 (a - wrap64 b) = wrap64 (a - b) := by unfold wrap64; omega
theorem wW (a : Int) : wrap64 (wrap64 a) = wrap64 a := by unfold wrap64; omega
end Go.Proofs.YtehaodbheifokaaGreatDoor.P
end
section
namespace Go.Proofs.YtehaodbheifokaaGreatDoor.P
open Go.RowKit Go.Proofs.YtehaodbheifokaaGreatDoorW.PrintWords Go.Proofs.YtehaodbheifokaaGreatDoorW.PrintLast Go.Proofs.YtehaodbheifokaaGreatDoorW.PrintMore
attribute [local go_sem] max2_int min2_int max_two min_two max_three min_three max_four min_four  
def errW : Option Int → Value
 | none => .nilIface
 | some c => .iface 207 (.int .i64 c)
theorem errW_none : errW none = .nilIface := rfl
theorem errW_some (c : Int) : errW (some c) = .iface 207 (.int .i64 c) := rfl
theorem info9 : (Tryz.prog.info? 9).map (fun i => (i.zero, i.size, i.bytes)) = some (some (.string ⟨#[]⟩), 1, 16) := by kernel_rfl
theorem info37 : (Tryz.prog.info? 37).map (fun i => (i.zero, i.size, i.bytes)) = some (some (.agg #[(.int .i64 0), (.int .i64 0), (.int .i64 0), (.string ⟨#[]⟩), (.slice none 0 0), (.string ⟨#[]⟩), (.int .i64 0), (.int .i64 0)]), 8, 96) := by kernel_rfl
structure S37 where
 f0 : Int
 f1 : Int
 f2 : Int
 f3 : ByteArray
 f4 : (List ByteArray)
 f5 : ByteArray
 f6 : Int
 f7 : Int
def z37 : S37 := ⟨(0 : Int), (0 : Int), (0 : Int), (⟨#[]⟩ : ByteArray), ([] : List ByteArray), (⟨#[]⟩ : ByteArray), (0 : Int), (0 : Int)⟩
def k37 : Kd S37 := Kd.iso (Kd.pair (Kd.int .i64) (Kd.pair (Kd.int .i64) (Kd.pair (Kd.int .i64) (Kd.pair Kd.string (Kd.pair (Kd.slice 9 Kd.string) (Kd.pair Kd.string (Kd.pair (Kd.int .i64) (Kd.int .i64)))))))) (fun x : S37 => (x.f0, x.f1, x.f2, x.f3, x.f4, x.f5, x.f6, x.f7))
theorem k37_open {w : World} {x : S37} {cs : List Value} (h : k37.K w x cs) : ∃ A4 c4, cs = [.int .i64 x.f0, .int .i64 x.f1, .int .i64 x.f2, .string x.f3, .slice A4 x.f4.length c4, .string x.f5, .int .i64 x.f6, .int .i64 x.f7] ∧ x.f4.length ≤ c4 ∧ Kd.string.C w A4 x.f4.length x.f4 := by
 obtain ⟨_, _, rfl, rfl, ⟨_, _, rfl, rfl, ⟨_, _, rfl, rfl, ⟨_, _, rfl, rfl, ⟨_, _, rfl, ⟨A4, c4, rfl, l4, g4⟩, ⟨_, _, rfl, rfl, ⟨_, _, rfl, rfl, rfl⟩⟩⟩⟩⟩⟩⟩ := h
 exact ⟨A4, c4, rfl, l4, g4⟩
theorem k37_mk (w : World) (x : S37) {A4 : Option Addr} {c4 : Nat} (l4 : x.f4.length ≤ c4) (g4 : Kd.string.C w A4 x.f4.length x.f4) : k37.K w x [.int .i64 x.f0, .int .i64 x.f1, .int .i64 x.f2, .string x.f3, .slice A4 x.f4.length c4, .string x.f5, .int .i64 x.f6, .int .i64 x.f7] := ⟨[.int .i64 x.f0], [.int .i64 x.f1, .int .i64 x.f2, .string x.f3, .slice A4 x.f4.length c4, .string x.f5, .int .i64 x.f6, .int .i64 x.f7], rfl, rfl, ⟨[.int .i64 x.f1], [.int .i64 x.f2, .string x.f3, .slice A4 x.f4.length c4, .string x.f5, .int .i64 x.f6, .int .i64 x.f7], rfl, rfl, ⟨[.int .i64 x.f2], [.string x.f3, .slice A4 x.f4.length c4, .string x.f5, .int .i64 x.f6, .int .i64 x.f7], rfl, rfl, ⟨[.string x.f3], [.slice A4 x.f4.length c4, .string x.f5, .int .i64 x.f6, .int .i64 x.f7], rfl, rfl, ⟨[.slice A4 x.f4.length c4], [.string x.f5, .int .i64 x.f6, .int .i64 x.f7], rfl, ⟨A4, c4, rfl, l4, g4⟩, ⟨[.string x.f5], [.int .i64 x.f6, .int .i64 x.f7], rfl, rfl, ⟨[.int .i64 x.f6], [.int .i64 x.f7], rfl, rfl, rfl⟩⟩⟩⟩⟩⟩⟩
theorem k37_openF {W : World} {ok : Nat → Prop} {x : S37} {cs : List Value} (h : Kd.FK k37 W ok x cs) : ∃ A4 c4, cs = [.int .i64 x.f0, .int .i64 x.f1, .int .i64 x.f2, .string x.f3, .slice A4 x.f4.length c4, .string x.f5, .int .i64 x.f6, .int .i64 x.f7] ∧ x.f4.length ≤ c4 ∧ Kd.F Kd.string W ok A4 x.f4.length x.f4 := by
 obtain ⟨A4, c4, rfl, l4, _⟩ := k37_open (Kd.FK_now h)
 exact ⟨A4, c4, rfl, l4, (fun W' hW => by obtain ⟨A4_, c4_, he, l4_, g4_⟩ := k37_open (h W' hW); injection (Option.some.inj (show some (Value.slice A4 x.f4.length c4) = some (Value.slice A4_ x.f4.length c4_) from congrArg (fun l => l[4]?) he)) with ha_ _ _; rw [ha_]; exact g4_)⟩
theorem k37_mkF (W : World) (ok : Nat → Prop) (x : S37) {A4 : Option Addr} {c4 : Nat} (l4 : x.f4.length ≤ c4) (g4 : Kd.F Kd.string W ok A4 x.f4.length x.f4) : Kd.FK k37 W ok x [.int .i64 x.f0, .int .i64 x.f1, .int .i64 x.f2, .string x.f3, .slice A4 x.f4.length c4, .string x.f5, .int .i64 x.f6, .int .i64 x.f7] := fun W2 hW => k37_mk W2 x l4 (g4 W2 hW)
def rd_T37 (xs : List S37) (i : Int) : S37 := xs.getD i.toNat z37
theorem at_T37 {w : World} {A : Option Addr} {n : Nat} {xs : List S37} (h : Kd.C k37 w A n xs) (i : Int) (h0 : 0 ≤ i) (h1 : i < n) : ∃ ad A4 c4, A = some ad ∧ w.cell? (ad.add (i.toNat * 8)) = some (.int .i64 (rd_T37 xs i).f0) ∧ w.cell? ⟨(ad.add (i.toNat * 8)).block, (ad.add (i.toNat * 8)).off + 1, none⟩ = some (.int .i64 (rd_T37 xs i).f1) ∧ w.cell? ⟨(ad.add (i.toNat * 8)).block, (ad.add (i.toNat * 8)).off + 2, none⟩ = some (.int .i64 (rd_T37 xs i).f2) ∧ w.cell? ⟨(ad.add (i.toNat * 8)).block, (ad.add (i.toNat * 8)).off + 3, none⟩ = some (.string (rd_T37 xs i).f3) ∧ w.cell? ⟨(ad.add (i.toNat * 8)).block, (ad.add (i.toNat * 8)).off + 4, none⟩ = some (.slice A4 (rd_T37 xs i).f4.length c4) ∧ w.cell? ⟨(ad.add (i.toNat * 8)).block, (ad.add (i.toNat * 8)).off + 5, none⟩ = some (.string (rd_T37 xs i).f5) ∧ w.cell? ⟨(ad.add (i.toNat * 8)).block, (ad.add (i.toNat * 8)).off + 6, none⟩ = some (.int .i64 (rd_T37 xs i).f6) ∧ w.cell? ⟨(ad.add (i.toNat * 8)).block, (ad.add (i.toNat * 8)).off + 7, none⟩ = some (.int .i64 (rd_T37 xs i).f7) ∧ (rd_T37 xs i).f4.length ≤ c4 ∧ Kd.string.C w A4 (rd_T37 xs i).f4.length (rd_T37 xs i).f4 := by
 obtain ⟨ad, c, e, _, hK, hc0⟩ := Kd.C_get h z37 i h0 h1
 have hc : ∀ j u, c[j]? = some u → w.cell? (ad.add (i.toNat * 8 + j)) = some u := hc0
 obtain ⟨A4, c4, rfl, l4, g4⟩ := k37_open hK
 exact ⟨ad, A4, c4, e, hc 0 _ rfl, by rw [← add_field _ _ 1 (by omega)]; exact hc 1 _ rfl, by rw [← add_field _ _ 2 (by omega)]; exact hc 2 _ rfl, by rw [← add_field _ _ 3 (by omega)]; exact hc 3 _ rfl, by rw [← add_field _ _ 4 (by omega)]; exact hc 4 _ rfl, by rw [← add_field _ _ 5 (by omega)]; exact hc 5 _ rfl, by rw [← add_field _ _ 6 (by omega)]; exact hc 6 _ rfl, by rw [← add_field _ _ 7 (by omega)]; exact hc 7 _ rfl, l4, g4⟩
structure S110 where
 f0 : ByteArray
 f1 : Int
 f2 : Int
 f3 : ByteArray
def z110 : S110 := ⟨(⟨#[]⟩ : ByteArray), (0 : Int), (0 : Int), (⟨#[]⟩ : ByteArray)⟩
def k110 : Kd S110 := Kd.iso (Kd.pair Kd.string (Kd.pair (Kd.int .i64) (Kd.pair (Kd.int .i64) Kd.string))) (fun x : S110 => (x.f0, x.f1, x.f2, x.f3))
theorem k110_open {w : World} {x : S110} {cs : List Value} (h : k110.K w x cs) : cs = [.string x.f0, .int .i64 x.f1, .int .i64 x.f2, .string x.f3] := by
 obtain ⟨_, _, rfl, rfl, ⟨_, _, rfl, rfl, ⟨_, _, rfl, rfl, rfl⟩⟩⟩ := h
 exact rfl
theorem k110_mkM (w : World) (base : Nat) (ok : Nat → Prop) (x : S110)  : k110.M w base ok x [.string x.f0, .int .i64 x.f1, .int .i64 x.f2, .string x.f3] := ⟨[.string x.f0], [.int .i64 x.f1, .int .i64 x.f2, .string x.f3], rfl, rfl, ⟨[.int .i64 x.f1], [.int .i64 x.f2, .string x.f3], rfl, rfl, ⟨[.int .i64 x.f2], [.string x.f3], rfl, rfl, rfl⟩⟩⟩
def rd_T110 (xs : List S110) (i : Int) : S110 := xs.getD i.toNat z110
theorem at_T110 {w : World} {A : Option Addr} {n : Nat} {xs : List S110} (h : Kd.C k110 w A n xs) (i : Int) (h0 : 0 ≤ i) (h1 : i < n) : ∃ ad , A = some ad ∧ w.cell? (ad.add (i.toNat * 4)) = some (.string (rd_T110 xs i).f0) ∧ w.cell? ⟨(ad.add (i.toNat * 4)).block, (ad.add (i.toNat * 4)).off + 1, none⟩ = some (.int .i64 (rd_T110 xs i).f1) ∧ w.cell? ⟨(ad.add (i.toNat * 4)).block, (ad.add (i.toNat * 4)).off + 2, none⟩ = some (.int .i64 (rd_T110 xs i).f2) ∧ w.cell? ⟨(ad.add (i.toNat * 4)).block, (ad.add (i.toNat * 4)).off + 3, none⟩ = some (.string (rd_T110 xs i).f3) := by
 obtain ⟨ad, c, e, _, hK, hc0⟩ := Kd.C_get h z110 i h0 h1
 have hc : ∀ j u, c[j]? = some u → w.cell? (ad.add (i.toNat * 4 + j)) = some u := hc0
 obtain rfl := k110_open hK
 exact ⟨ad, e, hc 0 _ rfl, by rw [← add_field _ _ 1 (by omega)]; exact hc 1 _ rfl, by rw [← add_field _ _ 2 (by omega)]; exact hc 2 _ rfl, by rw [← add_field _ _ 3 (by omega)]; exact hc 3 _ rfl⟩
structure S27 where
 f0 : Int
 f1 : Int
 f2 : (List Int)
def z27 : S27 := ⟨(0 : Int), (0 : Int), ([] : List Int)⟩
structure S24 where
 f0 : (List S37)
 f1 : Int
 f2 : ByteArray
 f3 : Int
 f4 : Int
 f5 : Int
def k24 : Kd S24 := Kd.iso (Kd.pair (Kd.slice 37 k37) (Kd.pair (Kd.int .i64) (Kd.pair Kd.string (Kd.pair (Kd.int .i64) (Kd.pair (Kd.int .i64) (Kd.int .i64)))))) (fun x : S24 => (x.f0, x.f1, x.f2, x.f3, x.f4, x.f5))
theorem k24_open {w : World} {x : S24} {cs : List Value} (h : k24.K w x cs) : ∃ A0 c0, cs = [.slice A0 x.f0.length c0, .int .i64 x.f1, .string x.f2, .int .i64 x.f3, .int .i64 x.f4, .int .i64 x.f5] ∧ x.f0.length ≤ c0 ∧ k37.C w A0 x.f0.length x.f0 := by
 obtain ⟨_, _, rfl, ⟨A0, c0, rfl, l0, g0⟩, ⟨_, _, rfl, rfl, ⟨_, _, rfl, rfl, ⟨_, _, rfl, rfl, ⟨_, _, rfl, rfl, rfl⟩⟩⟩⟩⟩ := h
 exact ⟨A0, c0, rfl, l0, g0⟩
end Go.Proofs.YtehaodbheifokaaGreatDoor.P
end
section
namespace Go.Proofs.YtehaodbheifokaaGreatDoor.Read
open Go Go.RowKit Go.ChangeShapes Go.WideShapes Go.Deep Go.Proofs.YtehaodbheifokaaGreatDoorW.PrintWords Go.Proofs.YtehaodbheifokaaGreatDoor.P
def kLine : Kd (List Int) where
 sz := 1
 E := []
 K := fun w xs cs => ∃ A c, cs = [.slice A xs.length c] ∧ xs.length ≤ c ∧ (Kd.int .u8).C w A xs.length xs ∧ (A = none → c = 0)
 M := fun _ _ _ _ _ => False
 K_len := by rintro w x cs ⟨A, c, rfl, _⟩; rfl
 K_one := by
  rintro w x cs ⟨A, c, rfl, _⟩ u hu
  obtain rfl := List.mem_singleton.1 hu
  rfl
 K_below := by
  rintro w w1 x cs hb ⟨A, c, rfl, h1, h2, h3⟩
  exact ⟨A, c, rfl, h1, Kd.C_below h2 hb, h3⟩
 K_of_M := fun h => h.elim
 M_mono := fun _ h => h
 M_bound := fun h => h
 M_move := fun _ h => h
 M_lower := fun _ h => h
theorem reads_line : Reads Tryz.prog 25 kLine (fun xs => ∀ z ∈ xs, (Lit.int .u8 z).wf = true) (fun xs => sumBulk (fun _ => 1) xs + 1) :=
 ⟨by kernel_rfl, fun {H enc w base spare held fuel cs x} h => by
  obtain ⟨xs, hK, ho, hb⟩ := (reads_slice (P := Tryz.prog) Tryz.underlying25 (by kernel_rfl) (reads_int (k := .u8) Tryz.underlying5 (by kernel_rfl))).opens h
  refine ⟨xs, ?_, ho, hb⟩
  obtain ⟨A, c, rfl, h1, h2⟩ := hK
  refine ⟨A, c, rfl, h1, h2, ?_⟩
  rintro rfl
  rcases open_slice Tryz.underlying25 h with ⟨hcs, _⟩ | ⟨a, len, cap, m, n, D, Pl, hcs, _⟩
  ·injection hcs with h3 _
   injection h3
  ·injection hcs with h3 _
   injection h3 with h4
   cases h4⟩
def kRowL : Kd S27 := Kd.iso (Kd.pair (Kd.int .i64) (Kd.pair (Kd.int .i64) kLine)) (fun x : S27 => (x.f0, x.f1, x.f2))
theorem kRowL_open {w : World} {x : S27} {cs : List Value} (h : kRowL.K w x cs) : ∃ A2 c2, cs = [.int .i64 x.f0, .int .i64 x.f1, .slice A2 x.f2.length c2] ∧ x.f2.length ≤ c2 ∧ (Kd.int .u8).C w A2 x.f2.length x.f2 ∧ (A2 = none → c2 = 0) := by
 obtain ⟨_, _, rfl, rfl, ⟨_, _, rfl, rfl, ⟨A2, c2, rfl, l2, g2, n2⟩⟩⟩ := h
 exact ⟨A2, c2, rfl, l2, g2, n2⟩
instance : Inhabited S37 := ⟨z37⟩
instance : Inhabited S27 := ⟨z27⟩
def okNode (x : S37) : Prop := (Lit.int .i64 x.f0).wf = true ∧ (Lit.int .i64 x.f1).wf = true ∧ (Lit.int .i64 x.f2).wf = true ∧ x.f3.size ≤ maxLen ∧ (∀ z ∈ x.f4, z.size ≤ maxLen) ∧ x.f5.size ≤ maxLen ∧ (Lit.int .i64 x.f6).wf = true ∧ (Lit.int .i64 x.f7).wf = true
def bulkNode (x : S37) : Nat := 1 + 1 + 1 + (x.f3.size + 1) + (sumBulk (fun s => s.size + 1) x.f4 + 1) + (x.f5.size + 1) + 1 + 1 + 1
theorem list8_Node {α : Type} {l : List α} (h : l.length = 8) : ∃ c0 c1 c2 c3 c4 c5 c6 c7, l = [c0, c1, c2, c3, c4, c5, c6, c7] := by
 match l, h with
 | [c0, c1, c2, c3, c4, c5, c6, c7], _ => exact ⟨c0, c1, c2, c3, c4, c5, c6, c7, rfl⟩
theorem reads_Node : Reads Tryz.prog 37 k37 okNode bulkNode :=
 ⟨by kernel_rfl, fun {H enc w base spare held fuel cs x} h => by
  obtain ⟨xs, n, _, rfl, hl, hlen, hf⟩ := DataW.trod_struct Tryz.underlying37 h
  have hc : Tryz.prog.cellsOf 37 = 8 := by kernel_rfl
  rw [hc] at hl
  obtain ⟨c0, c1, c2, c3, c4, c5, c6, c7, rfl⟩ := list8_Node hl
  obtain ⟨y0, y1, y2, y3, y4, y5, y6, y7, rfl⟩ := list8_Node (hlen.trans rfl)
  have e3 : Tryz.prog.cellsOf 3 = 1 := by kernel_rfl
  have e9 : Tryz.prog.cellsOf 9 = 1 := by kernel_rfl
  have e35 : Tryz.prog.cellsOf 35 = 1 := by kernel_rfl
  have h0 := hf 0 _ rfl
  simp only [e3, e9, e35, List.drop_zero, List.drop_succ_cons, List.take_succ_cons, List.take_zero, List.take_nil, List.getElem?_cons_zero, List.getElem?_cons_succ] at h0
  obtain ⟨a0, ka0, oa0, ba0⟩ := Reads.opens (reads_int Tryz.underlying3 (by kernel_rfl)) h0
  have h1 := hf 1 _ rfl
  simp only [e3, e9, e35, List.drop_zero, List.drop_succ_cons, List.take_succ_cons, List.take_zero, List.take_nil, List.getElem?_cons_zero, List.getElem?_cons_succ] at h1
  obtain ⟨a1, ka1, oa1, ba1⟩ := Reads.opens (reads_int Tryz.underlying3 (by kernel_rfl)) h1
  have h2 := hf 2 _ rfl
  simp only [e3, e9, e35, List.drop_zero, List.drop_succ_cons, List.take_succ_cons, List.take_zero, List.take_nil, List.getElem?_cons_zero, List.getElem?_cons_succ] at h2
  obtain ⟨a2, ka2, oa2, ba2⟩ := Reads.opens (reads_int Tryz.underlying3 (by kernel_rfl)) h2
  have h3 := hf 3 _ rfl
  simp only [e3, e9, e35, List.drop_zero, List.drop_succ_cons, List.take_succ_cons, List.take_zero, List.take_nil, List.getElem?_cons_zero, List.getElem?_cons_succ] at h3
  obtain ⟨a3, ka3, oa3, ba3⟩ := Reads.opens (reads_string Tryz.underlying9 (by kernel_rfl)) h3
  have h4 := hf 4 _ rfl
  simp only [e3, e9, e35, List.drop_zero, List.drop_succ_cons, List.take_succ_cons, List.take_zero, List.take_nil, List.getElem?_cons_zero, List.getElem?_cons_succ] at h4
  obtain ⟨a4, ka4, oa4, ba4⟩ := Reads.opens (reads_slice Tryz.underlying35 (by kernel_rfl) (reads_string Tryz.underlying9 (by kernel_rfl))) h4
  have h5 := hf 5 _ rfl
  simp only [e3, e9, e35, List.drop_zero, List.drop_succ_cons, List.take_succ_cons, List.take_zero, List.take_nil, List.getElem?_cons_zero, List.getElem?_cons_succ] at h5
  obtain ⟨a5, ka5, oa5, ba5⟩ := Reads.opens (reads_string Tryz.underlying9 (by kernel_rfl)) h5
  have h6 := hf 6 _ rfl
  simp only [e3, e9, e35, List.drop_zero, List.drop_succ_cons, List.take_succ_cons, List.take_zero, List.take_nil, List.getElem?_cons_zero, List.getElem?_cons_succ] at h6
  obtain ⟨a6, ka6, oa6, ba6⟩ := Reads.opens (reads_int Tryz.underlying3 (by kernel_rfl)) h6
  have h7 := hf 7 _ rfl
  simp only [e3, e9, e35, List.drop_zero, List.drop_succ_cons, List.take_succ_cons, List.take_zero, List.take_nil, List.getElem?_cons_zero, List.getElem?_cons_succ] at h7
  obtain ⟨a7, ka7, oa7, ba7⟩ := Reads.opens (reads_int Tryz.underlying3 (by kernel_rfl)) h7
  refine ⟨⟨a0, a1, a2, a3, a4, a5, a6, a7⟩, ⟨[c0], [c1, c2, c3, c4, c5, c6, c7], rfl, ka0, ⟨[c1], [c2, c3, c4, c5, c6, c7], rfl, ka1, ⟨[c2], [c3, c4, c5, c6, c7], rfl, ka2, ⟨[c3], [c4, c5, c6, c7], rfl, ka3, ⟨[c4], [c5, c6, c7], rfl, ka4, ⟨[c5], [c6, c7], rfl, ka5, ⟨[c6], [c7], rfl, ka6, ka7⟩⟩⟩⟩⟩⟩⟩, ⟨oa0, oa1, oa2, oa3, oa4, oa5, oa6, oa7⟩, ?_⟩
  simp only [Rows.uptoBulk, Rows.uptoBulkAll, List.map_cons, List.map_nil, bulkNode]
  omega⟩
def okAsk (x : S24) : Prop := (∀ z ∈ x.f0, okNode z) ∧ (Lit.int .i64 x.f1).wf = true ∧ x.f2.size ≤ maxLen ∧ (Lit.int .i64 x.f3).wf = true ∧ (Lit.int .i64 x.f4).wf = true ∧ (Lit.int .i64 x.f5).wf = true
def bulkAsk (x : S24) : Nat := (sumBulk bulkNode x.f0 + 1) + 1 + (x.f2.size + 1) + 1 + 1 + 1 + 1
theorem list6_Ask {α : Type} {l : List α} (h : l.length = 6) : ∃ c0 c1 c2 c3 c4 c5, l = [c0, c1, c2, c3, c4, c5] := by
 match l, h with
 | [c0, c1, c2, c3, c4, c5], _ => exact ⟨c0, c1, c2, c3, c4, c5, rfl⟩
theorem reads_Ask : Reads Tryz.prog 24 k24 okAsk bulkAsk :=
 ⟨by kernel_rfl, fun {H enc w base spare held fuel cs x} h => by
  obtain ⟨xs, n, _, rfl, hl, hlen, hf⟩ := DataW.trod_struct Tryz.underlying24 h
  have hc : Tryz.prog.cellsOf 24 = 6 := by kernel_rfl
  rw [hc] at hl
  obtain ⟨c0, c1, c2, c3, c4, c5, rfl⟩ := list6_Ask hl
  obtain ⟨y0, y1, y2, y3, y4, y5, rfl⟩ := list6_Ask (hlen.trans rfl)
  have e22 : Tryz.prog.cellsOf 22 = 1 := by kernel_rfl
  have e3 : Tryz.prog.cellsOf 3 = 1 := by kernel_rfl
  have e9 : Tryz.prog.cellsOf 9 = 1 := by kernel_rfl
  have h0 := hf 0 _ rfl
  simp only [e22, e3, e9, List.drop_zero, List.drop_succ_cons, List.take_succ_cons, List.take_zero, List.take_nil, List.getElem?_cons_zero, List.getElem?_cons_succ] at h0
  obtain ⟨a0, ka0, oa0, ba0⟩ := Reads.opens (reads_slice Tryz.underlying22 (by kernel_rfl) reads_Node) h0
  have h1 := hf 1 _ rfl
  simp only [e22, e3, e9, List.drop_zero, List.drop_succ_cons, List.take_succ_cons, List.take_zero, List.take_nil, List.getElem?_cons_zero, List.getElem?_cons_succ] at h1
  obtain ⟨a1, ka1, oa1, ba1⟩ := Reads.opens (reads_int Tryz.underlying3 (by kernel_rfl)) h1
  have h2 := hf 2 _ rfl
  simp only [e22, e3, e9, List.drop_zero, List.drop_succ_cons, List.take_succ_cons, List.take_zero, List.take_nil, List.getElem?_cons_zero, List.getElem?_cons_succ] at h2
  obtain ⟨a2, ka2, oa2, ba2⟩ := Reads.opens (reads_string Tryz.underlying9 (by kernel_rfl)) h2
  have h3 := hf 3 _ rfl
  simp only [e22, e3, e9, List.drop_zero, List.drop_succ_cons, List.take_succ_cons, List.take_zero, List.take_nil, List.getElem?_cons_zero, List.getElem?_cons_succ] at h3
  obtain ⟨a3, ka3, oa3, ba3⟩ := Reads.opens (reads_int Tryz.underlying3 (by kernel_rfl)) h3
  have h4 := hf 4 _ rfl
  simp only [e22, e3, e9, List.drop_zero, List.drop_succ_cons, List.take_succ_cons, List.take_zero, List.take_nil, List.getElem?_cons_zero, List.getElem?_cons_succ] at h4
  obtain ⟨a4, ka4, oa4, ba4⟩ := Reads.opens (reads_int Tryz.underlying3 (by kernel_rfl)) h4
  have h5 := hf 5 _ rfl
  simp only [e22, e3, e9, List.drop_zero, List.drop_succ_cons, List.take_succ_cons, List.take_zero, List.take_nil, List.getElem?_cons_zero, List.getElem?_cons_succ] at h5
  obtain ⟨a5, ka5, oa5, ba5⟩ := Reads.opens (reads_int Tryz.underlying3 (by kernel_rfl)) h5
  refine ⟨⟨a0, a1, a2, a3, a4, a5⟩, ⟨[c0], [c1, c2, c3, c4, c5], rfl, ka0, ⟨[c1], [c2, c3, c4, c5], rfl, ka1, ⟨[c2], [c3, c4, c5], rfl, ka2, ⟨[c3], [c4, c5], rfl, ka3, ⟨[c4], [c5], rfl, ka4, ka5⟩⟩⟩⟩⟩, ⟨oa0, oa1, oa2, oa3, oa4, oa5⟩, ?_⟩
  simp only [Rows.uptoBulk, Rows.uptoBulkAll, List.map_cons, List.map_nil, bulkAsk]
  omega⟩
theorem arg_Ask {H : Type} {enc : TypeId × Value → H} {w : World} {base : Nat} {spare : Nat → Bool} {held : Bool} {r : Reach} {b0 : Nat} {v : Value} {x : DataW H} {p : List MemPlace} (hv : Value.okWide Tryz.prog w r b0 24 v) (h : DataW.Trod enc Tryz.prog w base spare held 24 v x p) :
  ∃ (cs : Array Value) (y : S24), v = .agg cs ∧ k24.K w y cs.toList ∧ okAsk y ∧ bulkAsk y ≤ Rows.uptoBulk x := by
 obtain ⟨cs, rfl, hsz⟩ := okWide_struct Tryz.underlying24 hv
 obtain ⟨fuel, hf⟩ := h
 have hf2 : DataW.trod enc Tryz.prog w base spare held fuel 24 cs.toList = some (x, p) := hf
 obtain ⟨y, hk, ho, hb⟩ := Reads.opens reads_Ask hf2
 exact ⟨cs, y, rfl, hk, ho, hb⟩
def okRow (x : S27) : Prop := (Lit.int .i64 x.f0).wf = true ∧ (Lit.int .i64 x.f1).wf = true ∧ (∀ z ∈ x.f2, (Lit.int .u8 z).wf = true)
def bulkRow (x : S27) : Nat := 1 + 1 + (sumBulk (fun _ => 1) x.f2 + 1) + 1
theorem list3_Row {α : Type} {l : List α} (h : l.length = 3) : ∃ c0 c1 c2, l = [c0, c1, c2] := by
 match l, h with
 | [c0, c1, c2], _ => exact ⟨c0, c1, c2, rfl⟩
theorem reads_Row : Reads Tryz.prog 27 kRowL okRow bulkRow :=
 ⟨by kernel_rfl, fun {H enc w base spare held fuel cs x} h => by
  obtain ⟨xs, n, _, rfl, hl, hlen, hf⟩ := DataW.trod_struct Tryz.underlying27 h
  have hc : Tryz.prog.cellsOf 27 = 3 := by kernel_rfl
  rw [hc] at hl
  obtain ⟨c0, c1, c2, rfl⟩ := list3_Row hl
  obtain ⟨y0, y1, y2, rfl⟩ := list3_Row (hlen.trans rfl)
  have e3 : Tryz.prog.cellsOf 3 = 1 := by kernel_rfl
  have e25 : Tryz.prog.cellsOf 25 = 1 := by kernel_rfl
  have h0 := hf 0 _ rfl
  simp only [e3, e25, List.drop_zero, List.drop_succ_cons, List.take_succ_cons, List.take_zero, List.take_nil, List.getElem?_cons_zero, List.getElem?_cons_succ] at h0
  obtain ⟨a0, ka0, oa0, ba0⟩ := Reads.opens (reads_int Tryz.underlying3 (by kernel_rfl)) h0
  have h1 := hf 1 _ rfl
  simp only [e3, e25, List.drop_zero, List.drop_succ_cons, List.take_succ_cons, List.take_zero, List.take_nil, List.getElem?_cons_zero, List.getElem?_cons_succ] at h1
  obtain ⟨a1, ka1, oa1, ba1⟩ := Reads.opens (reads_int Tryz.underlying3 (by kernel_rfl)) h1
  have h2 := hf 2 _ rfl
  simp only [e3, e25, List.drop_zero, List.drop_succ_cons, List.take_succ_cons, List.take_zero, List.take_nil, List.getElem?_cons_zero, List.getElem?_cons_succ] at h2
  obtain ⟨a2, ka2, oa2, ba2⟩ := Reads.opens reads_line h2
  refine ⟨⟨a0, a1, a2⟩, ⟨[c0], [c1, c2], rfl, ka0, ⟨[c1], [c2], rfl, ka1, ka2⟩⟩, ⟨oa0, oa1, oa2⟩, ?_⟩
  simp only [Rows.uptoBulk, Rows.uptoBulkAll, List.map_cons, List.map_nil, bulkRow]
  omega⟩
theorem arg_Row {H : Type} {enc : TypeId × Value → H} {w : World} {base : Nat} {spare : Nat → Bool} {held : Bool} {r : Reach} {b0 : Nat} {v : Value} {x : DataW H} {p : List MemPlace} (hv : Value.okWide Tryz.prog w r b0 27 v) (h : DataW.Trod enc Tryz.prog w base spare held 27 v x p) :
  ∃ (cs : Array Value) (y : S27), v = .agg cs ∧ kRowL.K w y cs.toList ∧ okRow y ∧ bulkRow y ≤ Rows.uptoBulk x := by
 obtain ⟨cs, rfl, hsz⟩ := okWide_struct Tryz.underlying27 hv
 obtain ⟨fuel, hf⟩ := h
 have hf2 : DataW.trod enc Tryz.prog w base spare held fuel 27 cs.toList = some (x, p) := hf
 obtain ⟨y, hk, ho, hb⟩ := Reads.opens reads_Row hf2
 exact ⟨cs, y, rfl, hk, ho, hb⟩
end Go.Proofs.YtehaodbheifokaaGreatDoor.Read
end
section
namespace Go.Proofs.YtehaodbheifokaaGreatDoor.P
open Go Go.RowKit Go.Proofs.YtehaodbheifokaaGreatDoorW.PrintWords Go.Proofs.YtehaodbheifokaaGreatDoorW.PrintLast Go.Proofs.YtehaodbheifokaaGreatDoorW.PrintMore
def Rd {α : Type} (d : Kd α) (W : World) (g : Nat) (xs : List α) : Prop := ReadsRow (fun x c => Kd.FK d W (fun q => q ≠ g) x c) d.sz W (some ⟨g, 0, none⟩) xs.length xs
section
variable {α : Type} {d : Kd α} {W W1 : World} {g : Nat} {xs : List α}
theorem Rd.mk (inner : List Value) (hm : xs.length ≤ 9223372036854775807) (hlen : inner.length = xs.length * d.sz) (hc : ∀ j u, inner[j]? = some u → W.cell? ⟨g, j, none⟩ = some u)
  (hk : ∀ j x, xs[j]? = some x → Kd.FK d W (fun q => q ≠ g) x ((inner.drop (j * d.sz)).take d.sz)) : Rd d W g xs := by
 refine ⟨rfl, hm, fun _ => ⟨⟨g, 0, none⟩, rfl, fun j p hj => ⟨(inner.drop (j * d.sz)).take d.sz, ?_, hk j p hj, fun i u hi => ?_⟩⟩⟩
 ·exact d.K_len (Kd.FK_now (hk j p hj))
 ·have hi8 : i < d.sz := by have := (List.getElem?_eq_some_iff.1 hi).1; rw [List.length_take] at this; omega
  rw [List.getElem?_take_of_lt hi8, List.getElem?_drop] at hi
  rw [WideShapes.add_plain, Nat.zero_add]
  exact hc _ u hi
theorem Rd.inner (h : Rd d W g xs) : ∃ inner : List Value, inner.length = xs.length * d.sz ∧ (∀ j u, inner[j]? = some u → W.cell? ⟨g, j, none⟩ = some u) ∧ ∀ j x, xs[j]? = some x → Kd.FK d W (fun q => q ≠ g) x ((inner.drop (j * d.sz)).take d.sz) := by
 obtain ⟨inner, ⟨h1, h2⟩, h3⟩ := ReadsRow.inner_ h
 refine ⟨inner, h1, fun j u hu => ?_, h2⟩
 have := h3 j u hu
 rw [WideShapes.add_plain, Nat.zero_add] at this
 exact this
theorem Rd.C (h : Rd d W g xs) : d.C W (some ⟨g, 0, none⟩) xs.length xs := by
 obtain ⟨h1, h2, h3⟩ := h
 refine ⟨h1, h2, fun hp => ?_⟩
 obtain ⟨ad, e, h4⟩ := h3 hp
 refine ⟨ad, e, fun j p hj => ?_⟩
 obtain ⟨c, h5, h6, h7⟩ := h4 j p hj
 exact ⟨c, h5, Kd.FK_now h6, h7⟩
theorem Rd.step (h : Rd d W g xs) (hg : g < W.heap.size) (hb : ∀ k, k < W.heap.size → W1.heap[k]? = W.heap[k]?) : Rd d W1 g xs := by
 obtain ⟨inner, h1, h2, h3⟩ := h.inner
 refine Rd.mk inner h.2.1 h1 (fun j u hu => ?_) (fun j x hx => Kd.FK_step (h3 j x hx) (fun k _ hk => hb k hk))
 have := h2 j u hu
 rw [World.cell?_of_block (w := W) (hb g hg)]
 exact this
theorem Rd.below (h : Rd d W g xs) (hg : g < W.heap.size) (hb : Below W.heap.size W W1) : Rd d W1 g xs := h.step hg (fun k hk => hb.block k hk)
theorem Rd.of_N {e base n cap : Nat} {ok : Nat → Prop} (h : Kd.N d e W base ok (.slice (some ⟨g, 0, none⟩) n cap) xs) : Rd d W g xs := by
 obtain ⟨h0, rows, hl, hR, hf⟩ := h
 have hN := Kd.N_reads' (⟨h0, rows, hl, hR, hf⟩ : Kd.N d e W base ok (.slice (some ⟨g, 0, none⟩) n cap) xs)
 obtain ⟨hn, _, hC⟩ := hN
 have hm := hC.2.1
 obtain ⟨_, inner, ho, hr⟩ := hR
 obtain ⟨h1, h2 | ⟨g', cap', cur, he, hb, hcur, hnc, hcm, hcs, ht⟩⟩ := ho
 ·simp at h2
 ·injection he with e1 e2 e3
  injection e1 with e1
  injection e1 with e1
  subst e1
  have hil : inner.length = xs.length * d.sz := by rw [h1, hl]; rfl
  refine Rd.mk inner (by omega) hil (fun j u hu => ?_) (fun j x hx => ?_)
  ·rw [blk_cell hcur]
   rw [← ht] at hu
   have hlt := (List.getElem?_eq_some_iff.1 hu).1
   rw [List.length_take] at hlt
   rw [List.getElem?_take_of_lt (by omega)] at hu
   simpa using hu
  ·have hj : j < rows.length := by rw [hl]; exact (List.getElem?_eq_some_iff.1 hx).1
   have h3 := hr.2 j _ (List.getElem?_eq_getElem hj)
   have h4 := hf j x _ hx (List.getElem?_eq_getElem hj)
   rw [← h3.1] at h4
   refine Kd.FK_mono h4 (fun k hk => fun e => hk.2 ?_)
   rw [e]; rfl
end
section
variable {P : Program} {ops : Array Oper} {o : Oper} {a : Act} {Q : Exit → Act → World → Prop} {K : Act → World → Prop} {α : Type}
theorem app_own (d : Kd α) {w0 W : World} (base : Nat) (hw : Region.wanted o (yielded ops a.tmps) = true) (s x : Operand) (t e : TypeId) (z : Value) (bytes : Nat)
  (ho : o.op = .call { callee := .builtin .append, args := #[s, x], argTypes := #[t, t] })
  (ht : P.underlying t = some (.slice e)) (hinfo : (P.info? e).map (fun i => (i.zero, i.size, i.bytes)) = some (some z, d.sz, bytes)) (hz : z.cells.size = d.sz) (hs0 : 0 < d.sz) (hb0 : 0 < bytes)
  (g n cap : Nat) (xs : List α) (p : α) (cs : List Value) (ok okp : Nat → Prop) (hs : a.eval s = .slice (some ⟨g, 0, none⟩) n cap) (gx : Nat) (hx : a.eval x = .slice (some ⟨gx, 0, none⟩) 1 1) (hcx : ∀ j u, cs[j]? = some u → W.cell? ⟨gx, j, none⟩ = some u) (hp : Kd.FK d W okp p cs) (hokp : ∀ k, okp k → ok k ∧ k ≠ g) (hfresh : ∀ k, W.heap.size ≤ k → ok k)
  (HO : Kd.N d e W base ok (.slice (some ⟨g, 0, none⟩) n cap) xs) (HB : Below base w0 W) (hbase : base ≤ W.heap.size) (hl : (xs.length + 1) * bytes ≤ 140737488355328)
  (h : ∀ g1 c1 w1, Rd d w1 g1 (xs ++ [p]) → Rd d w1 g xs → g1 < w1.heap.size → g < w1.heap.size → xs.length + 1 ≤ c1 → Below base w0 w1 → W.grownBy w1 (some g) → K (a.put o.dst (.slice (some ⟨g1, 0, none⟩) (xs.length + 1) c1)) w1) :
  if Region.wanted o (yielded ops a.tmps) = true then Oper.wp P o a W K Q else K (a.put o.dst undef) W := by
 have hlen : xs.length + 1 ≤ 140737488355328 := Nat.le_trans (Nat.le_mul_of_pos_right _ hb0) hl
 have hn : n = xs.length := (Kd.N_reads' HO).1
 have HR0 := Rd.of_N HO
 have hglt : g < W.heap.size := Kd.N_lt HO g rfl
 obtain ⟨h0, rows, hlr, hR, hf⟩ := HO
 obtain ⟨hi0, inner, hown, hr⟩ := hR
 have hin : inner.length = n * d.sz := by rw [hown.1, hlr, hn]; rfl
 have hown2 := hown
 obtain ⟨_, h2 | ⟨g', cap', cur, he, hb, hcur, hnc, hcm, hcs, htk⟩⟩ := hown2
 ·simp at h2
 injection he with e1 e2 e3
 injection e1 with e1
 injection e1 with e1
 subst e1
 subst e3
 obtain ⟨i0, hi, hzz⟩ := Option.map_eq_some_iff.1 hinfo
 simp only [Prod.mk.injEq] at hzz
 obtain ⟨hz0, hz1, hz2⟩ := hzz
 have hys : cs.length = d.sz := d.K_len (Kd.FK_now hp)
 have hnews : ∀ j u, cs[j]? = some u → W.cell? ((⟨gx, 0, none⟩ : Addr).add j) = some u := fun j u hu => by rw [WideShapes.add_plain, Nat.zero_add]; exact hcx j u hu
 have h1c := d.K_one (Kd.FK_now hp)
 rw [if_pos hw]
 obtain ⟨v1, w1, hrun, hown1, hg, _, hat⟩ := run_append_own_at (P := P) W base t o.type e i0 z d.sz bytes ht hi hz0 hz1 hz2 hz hs0 (.slice (some ⟨g, 0, none⟩) n cap) n inner (by rw [hn, ← hlr]; exact (by rw [hn, ← hlr] at hown; exact hown)) ⟨gx, 0, none⟩ 1 1 cs (by rw [hys]; simp)
  hnews h1c (by simp only [maxLen]; omega) (by rw [hn]; exact hl) hbase
 unfold Oper.wp execOp
 simp only [ho, resolve, invoke, builtin, Sem.run_bind, Sem.run_pure, Result.andThen_ok, List.map_toArray, List.map_cons, List.map_nil, hs, hx, hrun]
 have hG : W.grownBy w1 (some g) := hg
 have hgs : W.heap.size ≤ w1.heap.size := hg.size
 have hBw : Below base w0 w1 := HB.grown hg hbase (fun k hk => by have hk : some g = some k := hk; injection hk with hk; omega)
 obtain ⟨hl1, h3 | ⟨g1, cap1, cur1, rfl, hb1, hcur1, hnc1, hcm1, hcs1, htk1⟩⟩ := hown1
 ·omega
 have cell1 : ∀ j u, (inner ++ cs)[j]? = some u → w1.cell? ⟨g1, j, none⟩ = some u := fun j u hu => by
  rw [blk_cell hcur1]
  rw [← htk1] at hu
  have hlt := (List.getElem?_eq_some_iff.1 hu).1
  rw [List.length_take] at hlt
  rw [List.getElem?_take_of_lt (by omega)] at hu
  simpa using hu
 have hg1ne : ∀ k, k ≠ g → k < W.heap.size → k ≠ g1 := by
  intro k hk hlt he
  rcases hat with hat | hat
  ·have hat : some g1 = some g := hat
   injection hat with hat
   exact hk (he.trans hat)
  ·have hat : some g1 = some W.heap.size := hat
   injection hat with hat
   omega
 have stepK : ∀ {y : α} {c : List Value}, Kd.FK d W (fun k => k ≠ g) y c → Kd.FK d w1 (fun k => k ≠ g1) y c := fun hq =>
  Kd.FK_mono (Kd.FK_step (Kd.FK_bound hq) (fun k hk hlt => hG.block k hlt (fun e => hk.1 (by injection e)))) (fun k hk => hg1ne k hk.1 hk.2)
 have stepG : ∀ {y : α} {c : List Value}, Kd.FK d W (fun k => k ≠ g) y c → Kd.FK d w1 (fun k => k ≠ g) y c := fun hq =>
  Kd.FK_step hq (fun k hk hlt => hG.block k hlt (fun e => hk (by injection e)))
 obtain ⟨inner0, hi1, hi2, hi3⟩ := HR0.inner
 have hii : inner0 = inner := by
  apply List.ext_getElem?
  intro j
  by_cases hj : j < xs.length * d.sz
  ·have a1 := hi2 j _ (List.getElem?_eq_getElem (by omega))
   have hj2 : j < inner.length := by rw [hin, hn]; exact hj
   have a2 : inner[j]? = some inner[j] := List.getElem?_eq_getElem hj2
   have key : ∀ u, inner[j]? = some u → W.cell? ⟨g, j, none⟩ = some u := fun u hu => by
    rw [blk_cell hcur]
    rw [← htk] at hu
    have hlt := (List.getElem?_eq_some_iff.1 hu).1
    rw [List.length_take] at hlt
    rw [List.getElem?_take_of_lt (by omega)] at hu
    simpa using hu
   have a3 := key _ a2
   rw [List.getElem?_eq_getElem (by omega), List.getElem?_eq_getElem hj2]
   exact a1.symm.trans a3
  ·rw [List.getElem?_eq_none (by omega), List.getElem?_eq_none (by rw [hin, hn]; omega)]
 subst hii
 have hnewR : Rd d w1 g1 (xs ++ [p]) := by
  refine Rd.mk (inner0 ++ cs) (by simp; omega) (by rw [List.length_append, hi1, hys, List.length_append, List.length_singleton, Nat.add_mul, Nat.one_mul]) cell1 (fun j x hx => ?_)
  rcases Nat.lt_or_ge j xs.length with hj | hj
  ·rw [List.getElem?_append_left hj] at hx
   have hle : (j + 1) * d.sz ≤ xs.length * d.sz := Nat.mul_le_mul_right _ hj
   rw [Nat.add_mul, Nat.one_mul] at hle
   rw [List.drop_append_of_le_length (by omega), List.take_append_of_le_length (by rw [List.length_drop]; omega)]
   exact stepK (hi3 j x hx)
  ·rw [List.getElem?_append_right hj] at hx
   have hj0 : j = xs.length := by have := (List.getElem?_eq_some_iff.1 hx).1; simp at this; omega
   subst hj0
   simp at hx
   subst hx
   rw [← hi1, List.drop_left, ← hys, List.take_length]
   exact stepK (Kd.FK_mono hp (fun k hk => (hokp k hk).2))
 have hoff : n + 1 = xs.length + 1 := by omega
 have holdR : Rd d w1 g xs := by
  rcases Nat.lt_or_ge cap (n + 1) with hroom | hroom
  ·obtain ⟨v2, w2, hrun2, _, hg2⟩ := run_append_arg_grows (P := P) (w := W) t o.type e i0 z d.sz bytes ht hi hz0 hz1 hz2 hz hs0 ⟨g, 0, none⟩ n cap inner0 hin
    (fun j u hu => by
     rw [WideShapes.add_plain, Nat.zero_add]
     exact hi2 j u hu) ⟨gx, 0, none⟩ 1 1 cs (by rw [hys]; simp) hnews hroom (by simp only [maxLen]; omega) (by rw [hn]; exact hl)
   have hww := hrun.symm.trans hrun2
   injection hww with hv hw2
   subst hw2
   exact HR0.step hglt (fun k hk => by
    rw [hg2.block k hk (by simp)])
  ·have hrr := run_append_room (P := P) (w := W) t o.type e i0 ht hi g n cap cur hcur ⟨gx, 0, none⟩ 1 1 cs (by rw [hys, hz1]; simp) hnews h1c hroom (by
    rw [hys, hz1, hcs]
    have : (n + 1) * d.sz ≤ cap * d.sz := Nat.mul_le_mul_right _ hroom
    rw [Nat.add_mul, Nat.one_mul] at this
    exact this)
   have hww := hrun.symm.trans hrr
   injection hww with hv hw2
   injection hv with hv1 hv2 hv3
   injection hv1 with hv1
   injection hv1 with hv1
   subst hv1
   refine Rd.mk inner0 HR0.2.1 hi1 (fun j u hu => cell1 j u ?_) (fun j x hx => stepG (hi3 j x hx))
   rw [List.getElem?_append_left (List.getElem?_eq_some_iff.1 hu).1]
   exact hu
 rw [hoff]
 exact h g1 cap1 w1 hnewR holdR (Array.getElem?_eq_some_iff.1 hcur1).1 (by omega) (by omega) hBw hG
theorem app_cut (d : Kd α) {w0 W : World} (base : Nat) (hw : Region.wanted o (yielded ops a.tmps) = true) (s x : Operand) (t e : TypeId) (z : Value) (bytes : Nat)
  (ho : o.op = .call { callee := .builtin .append, args := #[s, x], argTypes := #[t, t] })
  (ht : P.underlying t = some (.slice e)) (hinfo : (P.info? e).map (fun i => (i.zero, i.size, i.bytes)) = some (some z, d.sz, bytes)) (hz : z.cells.size = d.sz) (hs0 : 0 < d.sz) (hb0 : 0 < bytes)
  (g n : Nat) (xs : List α) (p : α) (cs : List Value) (okp : Nat → Prop) (hs : a.eval s = .slice (some ⟨g, 0, none⟩) n n) (hn : n = xs.length) (gx : Nat) (hx : a.eval x = .slice (some ⟨gx, 0, none⟩) 1 1) (hcx : ∀ j u, cs[j]? = some u → W.cell? ⟨gx, j, none⟩ = some u) (hp : Kd.FK d W okp p cs)
  (HO : Rd d W g xs) (hglt : g < W.heap.size) (HB : Below base w0 W) (hbase : base ≤ W.heap.size) (hl : (xs.length + 1) * bytes ≤ 140737488355328)
  (h : ∀ g1 c1 w1, Rd d w1 g1 (xs ++ [p]) → g1 < w1.heap.size → xs.length + 1 ≤ c1 → Below base w0 w1 → (∀ k, k < W.heap.size → w1.heap[k]? = W.heap[k]?) → K (a.put o.dst (.slice (some ⟨g1, 0, none⟩) (xs.length + 1) c1)) w1) :
  if Region.wanted o (yielded ops a.tmps) = true then Oper.wp P o a W K Q else K (a.put o.dst undef) W := by
 have hlen : xs.length + 1 ≤ 140737488355328 := Nat.le_trans (Nat.le_mul_of_pos_right _ hb0) hl
 subst hn
 obtain ⟨inner0, hi1, hi2, hi3⟩ := HO.inner
 obtain ⟨i0, hi, hzz⟩ := Option.map_eq_some_iff.1 hinfo
 simp only [Prod.mk.injEq] at hzz
 obtain ⟨hz0, hz1, hz2⟩ := hzz
 have hys : cs.length = d.sz := d.K_len (Kd.FK_now hp)
 have hnews : ∀ j u, cs[j]? = some u → W.cell? ((⟨gx, 0, none⟩ : Addr).add j) = some u := fun j u hu => by rw [WideShapes.add_plain, Nat.zero_add]; exact hcx j u hu
 rw [if_pos hw]
 obtain ⟨v1, w1, hrun, hown1, hg2⟩ := run_append_arg_grows (P := P) (w := W) t o.type e i0 z d.sz bytes ht hi hz0 hz1 hz2 hz hs0 ⟨g, 0, none⟩ xs.length xs.length inner0 hi1
    (fun j u hu => by
     rw [WideShapes.add_plain, Nat.zero_add]
     exact hi2 j u hu) ⟨gx, 0, none⟩ 1 1 cs (by rw [hys]; simp) hnews (by omega) (by simp only [maxLen]; omega) hl
 unfold Oper.wp execOp
 simp only [ho, resolve, invoke, builtin, Sem.run_bind, Sem.run_pure, Result.andThen_ok, List.map_toArray, List.map_cons, List.map_nil, hs, hx, hrun]
 have hblk : ∀ k, k < W.heap.size → w1.heap[k]? = W.heap[k]? := fun k hk => by rw [hg2.block k hk (by simp)]
 have hBw : Below base w0 w1 := HB.grown hg2 hbase (fun k hk => by simp at hk)
 obtain ⟨hl1, h3 | ⟨g1, cap1, cur1, rfl, hb1, hcur1, hnc1, hcm1, hcs1, htk1⟩⟩ := hown1
 ·omega
 have cell1 : ∀ j u, (inner0 ++ cs)[j]? = some u → w1.cell? ⟨g1, j, none⟩ = some u := fun j u hu => by
  rw [blk_cell hcur1]
  rw [← htk1] at hu
  have hlt := (List.getElem?_eq_some_iff.1 hu).1
  rw [List.length_take] at hlt
  rw [List.getElem?_take_of_lt (by omega)] at hu
  simpa using hu
 have hb2 : W.heap.size ≤ g1 := hb1
 have stepK : ∀ {y : α} {c : List Value} {okq : Nat → Prop}, Kd.FK d W okq y c → Kd.FK d w1 (fun k => k ≠ g1) y c := fun hq =>
  Kd.FK_mono (Kd.FK_step (Kd.FK_bound hq) (fun k hk hlt => hblk k hlt)) (fun k hk => by have := hk.2; omega)
 refine h g1 cap1 w1 ?_ (Array.getElem?_eq_some_iff.1 hcur1).1 hnc1 hBw hblk
 refine Rd.mk (inner0 ++ cs) (by simp; omega) (by rw [List.length_append, hi1, hys, List.length_append, List.length_singleton, Nat.add_mul, Nat.one_mul]) cell1 (fun j x hx => ?_)
 rcases Nat.lt_or_ge j xs.length with hj | hj
 ·rw [List.getElem?_append_left hj] at hx
  have hle : (j + 1) * d.sz ≤ xs.length * d.sz := Nat.mul_le_mul_right _ hj
  rw [Nat.add_mul, Nat.one_mul] at hle
  rw [List.drop_append_of_le_length (by omega), List.take_append_of_le_length (by rw [List.length_drop]; omega)]
  exact stepK (hi3 j x hx)
 ·rw [List.getElem?_append_right hj] at hx
  have hj0 : j = xs.length := by have := (List.getElem?_eq_some_iff.1 hx).1; simp at this; omega
  subst hj0
  simp at hx
  subst hx
  rw [← hi1, List.drop_left, ← hys, List.take_length]
  exact stepK hp
end
end Go.Proofs.YtehaodbheifokaaGreatDoor.P
end
section
namespace Go.Proofs.YtehaodbheifokaaGreatDoor.Pure
open Go Go.RowKit Go.Proofs.YtehaodbheifokaaGreatDoorW.PrintWords
theorem Ev.call {α β : Type} {g f : Nat → Option β} {c : Nat → Option α} {a : α} {r : β} (hc : Ev c a) (hk : Ev f r) (h : ∀ k, c k = some a → g (k + 1) = f k) : Ev g r := by
 obtain ⟨K, hc⟩ := hc
 obtain ⟨K', hk⟩ := hk
 refine ⟨max K K' + 1, fun n hn => ?_⟩
 obtain ⟨m, rfl⟩ : ∃ m, n = m + 1 := ⟨n - 1, by omega⟩
 rw [h m (hc m (by omega))]
 exact hk m (by omega)
theorem Ev.sb {α β : Type} {g : Nat → Option β} {c : Nat → Option α} {F : Nat → α → Option β} {a : α} {r : β} (hc : Ev c a) (h : ∀ k, g (k + 1) = (c k).bind (F k)) (hk : Ev (fun n => F n a) r) : Ev g r := Ev.step h (Ev.bind hc hk)
theorem wrap_in {x : Int} (h0 : -9223372036854775808 ≤ x) (h1 : x ≤ 9223372036854775807) : wrap64 x = x := by unfold wrap64; omega
end Go.Proofs.YtehaodbheifokaaGreatDoor.Pure
end
