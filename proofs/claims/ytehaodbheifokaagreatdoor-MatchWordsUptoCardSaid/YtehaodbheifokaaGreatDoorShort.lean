/- Short words for what the printed walks say over and over: a block, a row, the old part of the heap behind a step. -/
import Derived.Test.YtehaodbheifokaaGreatDoorWWords
import Derived.Test.YtehaodbheifokaaGreatDoorWLast
import Derived.Test.YtehaodbheifokaaGreatDoorWMore
namespace Go.Proofs.YtehaodbheifokaaGreatDoor.P
open Go Go.RowKit Go.Proofs.YtehaodbheifokaaGreatDoorW.PrintWords Go.Proofs.YtehaodbheifokaaGreatDoorW.PrintLast Go.Proofs.YtehaodbheifokaaGreatDoorW.PrintMore
theorem bkA {g : Nat} {o : Obj} {v w w' : World} (B : Aside0 (v.heap[g]? = some o)) (hb : Below w.heap.size w w')
    (s : v.heap[g]? = some o → w.heap[g]? = some o := by intro h_; (with_reducible repeat (first | refine blk_drewN ?_ _ | refine blk_drew ?_ | refine blk_alloc ?_ _ | refine blk_far ?_ (Aside0.out (by assumption)) _)); exact h_) : Aside0 (w'.heap[g]? = some o) := Aside0.mk (blk_below (s B.out) hb)
theorem bsA {w v W w2 : World} (B : Aside0 (Below w.heap.size w v)) (hb : Below W.heap.size W w2)
    (s : Below w.heap.size w v → Below w.heap.size w W := by intro h_; repeat (first | (with_reducible first | exact h_ | apply below_alloc | apply pw_below_drewN | apply below_drew1 | refine below_set ?_ (Aside0.out (by assumption))) | exact h_)) : Aside0 (Below w.heap.size w w2) := Aside0.mk (below_step (s B.out) hb)
theorem szA {g : Nat} {w v W : World} (B : Aside0 (Below w.heap.size w v)) (hg : g = W.heap.size)
    (s : Below w.heap.size w v → Below w.heap.size w W := by intro h_; repeat (first | (with_reducible first | exact h_ | apply below_alloc | apply pw_below_drewN | apply below_drew1 | refine below_set ?_ (Aside0.out (by assumption))) | exact h_)) : Aside0 (w.heap.size ≤ g) := Aside0.mk (by rw [hg]; exact below_size (s B.out))
theorem neA {g g' : Nat} {o : Obj} {v W : World} (B : Aside0 (v.heap[g]? = some o)) (hg : g' = W.heap.size)
    (s : v.heap[g]? = some o → W.heap[g]? = some o := by intro h_; (with_reducible repeat (first | refine blk_drewN ?_ _ | refine blk_drew ?_ | refine blk_alloc ?_ _)); exact h_) : Aside0 (g ≠ g') := Aside0.mk (by rw [hg]; exact Nat.ne_of_lt (blk_lt (s B.out)))
theorem neB {g g' : Nat} {o : Obj} {v W : World} (B : Aside0 (v.heap[g]? = some o)) (hg : g' = W.heap.size)
    (s : v.heap[g]? = some o → W.heap[g]? = some o := by intro h_; (with_reducible repeat (first | refine blk_drewN ?_ _ | refine blk_drew ?_ | refine blk_alloc ?_ _)); exact h_) : Aside0 (g' ≠ g) := Aside0.mk (by rw [hg]; exact Nat.ne_of_gt (blk_lt (s B.out)))
theorem rbA {α : Type} {d : Kd α} {e : Nat} {v0 w w' : World} {base : Nat} {ok : Nat → Prop} {v : Value} {xs : List α} (B : Aside0 (Kd.R d e v0 base ok v xs)) (hb : Below w.heap.size w w')
    (s : Kd.R d e v0 base ok v xs → Kd.R d e w base ok v xs := by intro h_; (with_reducible repeat (first | apply Kd.R_alloc | apply Kd.R_drewN | apply Kd.R_drew)); exact h_) : Aside0 (Kd.R d e w' base ok v xs) := Aside0.mk (Kd.R_below (s B.out) hb)
theorem sc_drewN (w : World) (n : Nat) (a : Addr) (v : Value) : (w.drewN n).setCell a v = (w.setCell a v).drewN n := rfl
theorem rnA {α : Type} {d : Kd α} {e t g base : Nat} {w : World} {ok : Nat → Prop} {v : Value} {xs : List α} {cells : Array Value} (H : Aside0 (Kd.R d e w base ok v xs)) (B : Aside0 (w.heap[g]? = some (.cells cells t (0, 0))))
    (hn : e ≠ t ∨ ∀ k, ok k → k ≠ g := by first | (apply Or.inl; decide) | (apply Or.inr; intro _ hk; first | exact hk.2 | exact hk.1.2 | exact hk.1.1.2 | exact hk.1.1.1.2)) : some g ≠ v.ownBlock := by
  rcases hn with hn | hn
  · exact Kd.R_ne H.out B.out hn
  · exact fun he => hn g (H.out.1 g he.symm) rfl
theorem callsArgs {P : Program} {f : Nat} {args args' : Array Value} {w : World} {post : Ending → World → Prop} (h : args = args') (H : Calls P f args w post) : Calls P f args' w post := h ▸ H
theorem wAl (a b : Int) : wrap64 (wrap64 a + b) = wrap64 (a + b) := by unfold wrap64; omega
theorem wAr (a b : Int) : wrap64 (a + wrap64 b) = wrap64 (a + b) := by unfold wrap64; omega
theorem wSl (a b : Int) : wrap64 (wrap64 a - b) = wrap64 (a - b) := by unfold wrap64; omega
theorem wSr (a b : Int) : wrap64 (a - wrap64 b) = wrap64 (a - b) := by unfold wrap64; omega
theorem wW (a : Int) : wrap64 (wrap64 a) = wrap64 a := by unfold wrap64; omega
end Go.Proofs.YtehaodbheifokaaGreatDoor.P
