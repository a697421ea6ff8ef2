/- slices.Chunk of at most 32 numbers by 32: one chunk, the list itself. -/
import Derived.RangeFuncNested
import Derived.RangeFuncBound
import Derived.RangeFuncBox
import Derived.RangeFuncCalls
import Derived.RangeFuncLeaves
import Derived.Shelf.Abstract
import Derived.Shelf.RegionOpen
import Derived.WalkKit
import Derived.OwnWalkIn
import Derived.TacticsInMore
import Derived.LoopNIn
import Derived.LoopIn
import Derived.Sort.QuietIn
import Derived.RegionIn
import Derived.Test.YtnmidkjmflnolaaWords
import Derived.Test.YtnmidkjmflnolaaWLast
import Derived.Test.YtnmidkjmflnolaaProg
namespace Go.Proofs.Ytnmidkjmflnolaa.P
open Go Go.RowKit Go.Shelf Go.Proofs.YtnmidkjmflnolaaW.PrintWords Go.Proofs.YtnmidkjmflnolaaW.PrintLast
attribute [local go_sem] Oper.semAt_some
set_option linter.unusedVariables false
set_option linter.unusedSimpArgs false

def KpB (B1 B2 : Nat) (W W' : World) : Prop := W'.heap[B1]? = W.heap[B1]? ∧ W'.heap[B2]? = W.heap[B2]?
theorem info_u64 : (Try.prog.info? 60).map (fun i => (i.zero, i.size, i.bytes)) = some (some (.int .u64 0), 1, 8) := by kernel_rfl
def cLeft : Value → Nat
  | .int _ x => if x = 0 then 1 else 0
  | _ => 0
theorem grown_below {w w' : World} (h : Below w.heap.size w w') : w.grownBy w' none := ⟨h.os, h.tape, h.output, h.size, fun k hk _ => h.block k hk⟩
set_option maxRecDepth 100000 in
set_option maxHeartbeats 4000000 in
theorem chunk1_in (n : Nat) (hn : 1 ≤ n) (l B1 B2 : Nat) (A : Option Addr) (m c : Nat) (hcc : m ≤ c) (h1 : 1 ≤ m) (h32 : m ≤ 32)
    (J Jx : List Unit → World → Prop) (W : World) (hJ : AbidesFrom W.heap.size J)
    (hY : ∀ W1, J [] W1 → YieldAt Fence.wide (n - 1) Try.prog l #[.slice A m m] W1 fun e W' =>
      (e = .returned (.bool true) ∧ J [()] W' ∧ KpB B1 B2 W1 W') ∨ (e = .returned (.bool false) ∧ Jx [()] W'))
    (hBx : W.heap[B1]? = some (.cells #[.slice A m c] 85 (0, 0))) (hBy : W.heap[B2]? = some (.cells #[.int .i64 32] 3 (0, 0))) (h0 : J [] W) :
    CallsIn Fence.wide n Try.prog 99 #[.func (.yield l) #[] #[], .pointer (some ⟨B1, 0, none⟩), .pointer (some ⟨B2, 0, none⟩)] W fun e W' => (∃ v, e = .returned v) ∧ (J [()] W' ∨ Jx [()] W') := by
  refine callsIn_of_wp Try.func99 rfl trivial ?_ rfl
  simp only [Try.ntmps99, List.size_toArray, List.length_cons, List.length_nil, Nat.reduceAdd, Nat.reduceSub, Array.replicate_succ, Array.replicate_zero, List.push_toArray, List.append_toArray, List.nil_append, List.cons_append]
  have HY := Aside0.mk hY
  have HJ := Aside0.mk hJ
  have H1 := Aside0.mk h1
  have H32 := Aside0.mk h32
  have HC := Aside0.mk hcc
  clear hY hJ h1 h32 hcc
  gi_wp2
  gi_loopw [4] (fun v wr => (v = .int .i64 0 ∧ Aside0 (J [] wr)  ∧ Aside0 (wr.heap[B1]? = some (.cells #[.slice A m c] 85 (0, 0))) ∧ Aside0 (wr.heap[B2]? = some (.cells #[.int .i64 32] 3 (0, 0)))) ∨ (v = .int .i64 32 ∧ Aside0 (J [()] wr)  ∧ Aside0 (wr.heap[B1]? = some (.cells #[.slice A m c] 85 (0, 0))) ∧ Aside0 (wr.heap[B2]? = some (.cells #[.int .i64 32] 3 (0, 0))))) (fun v _ => cLeft v)
  case atStart => exact .inl ⟨rfl, ⟨h0⟩, ⟨hBx⟩, ⟨hBy⟩⟩
  case round =>
    clear h0 hBx hBy
    obtain ⟨rfl, hJs, hb1, hb2⟩ | ⟨rfl, hJs, hb1, hb2⟩ := hrel
    · have hc1 : wr.cell? ⟨B1, 0, none⟩ = some (.slice A m c) := (blk_cell hb1.out 0).trans rfl
      have hc2 : wr.cell? ⟨B2, 0, none⟩ = some (.int .i64 32) := (blk_cell hb2.out 0).trans rfl
      have d0 : decide ((0 : Int) < (m : Int)) = true := decide_eq_true (by have := H1.out; omega)
      have d1 : decide (0 < m) = true := decide_eq_true (by have := H1.out; omega)
      obtain ⟨i0, hi0, _, hsz0, _⟩ := info_parts info_u64
      have hmin : (if (m : Int) < 32 then (m : Int) else 32) = (m : Int) := by have := H32.out; split <;> omega
      gi_wp2
      gi_quiet (fail)
      have hb := pw_below_drewN (Below.refl wr.heap.size wr) nq
      have hJ2 := HJ.out _ _ _ _ hJs.out (grown_below hb) (fun r e => by cases e)
      obtain ⟨fn, tmps, assign, body, hy, hR⟩ := HY.out _ hJ2
      have HR := Aside0.mk hR
      have hle : m ≤ c := HC.out
      have hle2 : (m : Int) ≤ (c : Int) := by omega
      clear hR hJ2 hb
      gi_wp2
      refine HR.out.mono ?_
      rintro e W3 (⟨rfl, hJ3, hk3⟩ | ⟨rfl, hJx3⟩)
      · have hc3 : W3.cell? ⟨B2, 0, none⟩ = some (.int .i64 32) := (blk_cell (hk3.2.trans hb2.out) 0).trans rfl
        gi_wp2
        go_roundw
        case rel => exact .inr ⟨rfl, ⟨hJ3⟩, ⟨hk3.1.trans hb1.out⟩, ⟨hk3.2.trans hb2.out⟩⟩
        case measure => simp [cLeft]
      · gi_wp2
        refine bodyPost_ret (results_none rfl _ _ _) rfl ?_
        exact ⟨⟨_, rfl⟩, .inr hJx3⟩
    · have hc1 : wr.cell? ⟨B1, 0, none⟩ = some (.slice A m c) := (blk_cell hb1.out 0).trans rfl
      have d0 : decide ((32 : Int) < (m : Int)) = false := decide_eq_false (by have := H32.out; omega)
      have d1 : decide (32 < m) = false := decide_eq_false (by have := H32.out; omega)
      gi_wp2
      refine bodyPost_end (results_none rfl _ _ _) rfl ?_
      exact ⟨⟨_, rfl⟩, .inl hJs.out⟩
/-- The iterator, to any body. -/
theorem chunk_stops (n : Nat) (hn : 1 ≤ n) (B1 B2 : Nat) (w : World) (A : Option Addr) (m c : Nat) (hcc : m ≤ c) (h1 : 1 ≤ m) (h32 : m ≤ 32) (hB1 : B1 < w.heap.size) (hB2 : B2 < w.heap.size)
    (hBx : w.heap[B1]? = some (.cells #[.slice A m c] 85 (0, 0))) (hBy : w.heap[B2]? = some (.cells #[.int .i64 32] 3 (0, 0))) :
    SeqStopsK Fence.wide n Try.prog 99 #[.pointer (some ⟨B1, 0, none⟩), .pointer (some ⟨B2, 0, none⟩)] (fun (_ : Unit) => #[.slice A m m]) (KpB B1 B2) (fun ys => ys = [()]) (fun pre => pre = [()]) 1 w := fun l J Jx W hW hJ _ hY h0 => by
  refine (chunk1_in n hn l B1 B2 A m c hcc h1 h32 J Jx W hJ (fun W1 hs => ?_) ((hW.block B1 hB1).trans hBx) ((hW.block B2 hB2).trans hBy) h0).mono ?_
  · exact hY [] () W1 hs (by simp)
  · rintro e W' ⟨he, hj | hj⟩
    · exact ⟨he, .inl ⟨_, rfl, hj⟩⟩
    · exact ⟨he, .inr ⟨_, rfl, hj⟩⟩
set_option maxHeartbeats 4000000 in
theorem chunk_in (n : Nat) (A : Option Addr) (len c : Nat) (w : World) :
    CallsIn Fence.wide n Try.prog 78 #[.slice A len c, .int .i64 32] w fun e w' => e = .returned (.func (.func 99) #[] #[.pointer (some ⟨w.heap.size, 0, none⟩), .pointer (some ⟨w.heap.size + 1, 0, none⟩)]) ∧ w' = (w.alloc (.cells #[.slice A len c] 85)).alloc (.cells #[.int .i64 32] 3) := by
  refine callsIn_of_wp Try.func78 rfl trivial ?_ rfl
  simp only [Try.ntmps78, List.size_toArray, List.length_cons, List.length_nil, Nat.reduceAdd, Nat.reduceSub, Array.replicate_succ, Array.replicate_zero, List.push_toArray, List.append_toArray, List.nil_append, List.cons_append]
  gi_wp2
  go_ret
  exact ⟨by simp, rfl⟩
end Go.Proofs.Ytnmidkjmflnolaa.P
