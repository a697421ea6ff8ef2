/- rowset.All: its closure tells the rows of a set to any loop body, rising. -/
import Derived.RangeFuncNested
import Derived.RangeFuncBound
import Derived.RangeFuncBox
import Derived.RangeFuncCalls
import Derived.RangeFuncLeaves
import Derived.Shelf.Abstract
import Derived.Shelf.RegionOpen
import Derived.WalkKit
import Derived.OwnWalkIn
import Derived.TacticsInMore
import Derived.LoopNIn
import Derived.LoopIn
import Derived.Test.YtiaaicmkpjlplaaDoorAllSpec
import Derived.Test.YtiaaicmkpjlplaaDoorP1
import Derived.Test.YtiaaicmkpjlplaaDoorPureFormed
namespace Go.Proofs.YtiaaicmkpjlplaaDoor.P
open Go Go.RowKit Go.Shelf Go.Proofs.YtiaaicmkpjlplaaDoorW.PrintWords Go.Proofs.YtiaaicmkpjlplaaDoorW.PrintLast Go.Proofs.YtiaaicmkpjlplaaDoor.Pure
attribute [local go_sem] Oper.semAt_some
set_option linter.unusedVariables false

theorem grown_of_below {w w' : World} (h : Below w.heap.size w w') : w.grownBy w' none := ⟨h.os, h.tape, h.output, h.size, fun k hk _ => h.block k hk⟩
/-- The words lie in blocks below n₀. -/
def WordsAt (n₀ : Nat) (w : World) (A : Option Addr) (l : List Int) : Prop := ∀ j : Nat, j < l.length → ∃ ad, A = some ad ∧ ad.block < n₀ ∧ w.cell? (ad.add j) = some (.int .u64 (l.getD j 0))
theorem WordsAt.below {n₀ : Nat} {w w' : World} {A : Option Addr} {l : List Int} (h : WordsAt n₀ w A l) (hb : Below n₀ w w') : WordsAt n₀ w' A l := fun j hj => by
  obtain ⟨ad, e, hb', hc⟩ := h j hj
  exact ⟨ad, e, hb', (hb.cell (p := ad.add j) (by unfold Addr.add; split <;> exact hb')).trans hc⟩
theorem TzLaid.below {n₀ : Nat} {w w' : World} (h : TzLaid w) (h0 : 0 < n₀) (hb : Below n₀ w w') : TzLaid w' := fun i hi => (hb.cell (p := ⟨0, i, none⟩) h0).trans (h i hi)
abbrev enc12 (x : Fin 4096) : Array Value := #[.int .i64 ((x.val : Nat) : Int)]
set_option maxRecDepth 100000 in
set_option maxHeartbeats 4000000 in
theorem all1_in (n : Nat) (hn : 1 ≤ n) (l B n₀ : Nat) (N : Int) (Ws : List Int) (A : Option Addr) (c : Nat) (hcc : Ws.length ≤ c) (J Jx : List (Fin 4096) → World → Prop) (hlen : Ws.length ≤ 64) (ok : okws Ws) (h00 : 0 < n₀)
    (hform : rowset_Formed.f N Ws = some true)
    (W : World) (hn₀ : n₀ ≤ W.heap.size) (hJ : AbidesFrom W.heap.size J)
    (hY : ∀ pre x W1, J pre W1 → pre.length < 4096 → YieldAt Fence.wide (n - 1) Tryd.prog l (enc12 x) W1 fun e W' =>
      (e = .returned (.bool true) ∧ J (pre ++ [x]) W' ∧ Below n₀ W1 W') ∨ (e = .returned (.bool false) ∧ Jx (pre ++ [x]) W'))
    (hBx : W.heap[B]? = some (.cells #[.int .i64 N, .slice A Ws.length c] 24 (0, 0))) (hC : Kd.C (Kd.int .u64) W A Ws.length Ws) (hWs : WordsAt n₀ W A Ws) (hT : TzLaid W) (h0 : J [] W) :
    CallsIn Fence.wide n Tryd.prog 22 #[.func (.yield l) #[] #[], .pointer (some ⟨B, 0, none⟩)] W fun e W' => (∃ v, e = .returned v) ∧
      ((∃ ys, ys = lst Ws (64 * Ws.length) ∧ J ys W') ∨ (∃ pre, (∃ k, k ≤ 64 * Ws.length ∧ pre = lst Ws k) ∧ Jx pre W')) := by
  refine callsIn_of_wp Tryd.func22 rfl trivial ?_ rfl
  simp only [Tryd.ntmps22, List.size_toArray, List.length_cons, List.length_nil, Nat.reduceAdd, Nat.reduceSub, Array.replicate_succ, Array.replicate_zero, List.push_toArray, List.append_toArray, List.nil_append, List.cons_append]
  have hc0 : W.cell? ⟨B, 0, none⟩ = some (.int .i64 N) := (blk_cell hBx 0).trans rfl
  have hc1 : W.cell? ⟨B, 1, none⟩ = some (.slice A Ws.length c) := (blk_cell hBx 1).trans rfl
  gi_wp2_with (refine ⟨trivial, ?_⟩; gi_at_call 10; refine (callsIn_wide.2 (rowset_Formed.calls N A c Ws true W hC hcc hform)).mono ?_; rintro e w1 ⟨rfl, hb1⟩; have hc1' := (hb1.cell (p := ⟨B, 1, none⟩) (World.block_lt_of_cell? W _ hc1)).trans hc1)
  have hJ1 : J [] w1 := hJ _ _ _ _ h0 (grown_of_below hb1) (fun r e => by cases e)
  have hb0 : Below n₀ W w1 := hb1.mono hn₀
  gi_loopw [11] (fun v wr => ∃ j : Nat, j ≤ Ws.length ∧ v = .int .i64 j ∧ J (lst Ws (64 * j)) wr ∧ Below n₀ W wr) (fun v _ => Ws.length - (intOf v).toNat)
  case atStart => exact ⟨0, Nat.zero_le _, rfl, hJ1, hb0⟩
  case round =>
    obtain ⟨j, hj, rfl, hJs, hnx⟩ := hrel
    by_cases hlt : j < Ws.length
    · obtain ⟨ad, hA, hadb, hcell⟩ := (hWs.below hnx) j hlt
      cases hA
      have okj : okw (Ws.getD j 0) := by rw [List.getD_eq_getElem?_getD, List.getElem?_eq_getElem hlt]; exact ok _ (List.getElem_mem hlt)
      gi_wp2
      gi_loopw [4] (fun v wr2 => ∃ (x cc : Nat), v = .int .u64 x ∧ LeftW Ws j cc x ∧ J (lst Ws cc) wr2 ∧ Below n₀ W wr2) (fun v _ => (intOf v).toNat)
      case atStart =>
        refine ⟨(Ws.getD j 0).toNat, 64 * j, ?_, left_start ok j hlt, hJs, hnx⟩
        rw [Int.toNat_of_nonneg okj.1]
        simp [List.getD, hlt]
      case round =>
        obtain ⟨x, cc, rfl, hL, hJi, hni⟩ := hrel
        by_cases hx : x = 0
        · subst hx
          rw [← left_end hL] at hJi
          gi_wp2
          go_roundw
          case rel => exact ⟨j + 1, by omega, by simp, hJi, hni⟩
          case measure => simp [intOf]; omega
        · obtain ⟨t, m, hX⟩ := low_bit x (by omega)
          have hx0 : ((x : Int) == 0) = false := by simp; omega
          have hz : Calls Tryd.prog 23 #[.int .u64 ((x : Nat) : Int)] wr fun e w' => e = .returned (.int .i64 (t : Int)) ∧ w' = wr := by
            have h := tz_calls t m (hX ▸ hL.1) wr (hT.below h00 hni)
            rwa [← hX] at h
          have hn := left_next (t := t) (m := m) (hX ▸ hL)
          rw [← hX] at hn
          obtain ⟨hl1, hl2, ht, hcc2⟩ := hn
          have hl3 := lst_len Ws cc
          obtain ⟨y, hyv⟩ : ∃ y : Fin 4096, y.val = 64 * j + t := ⟨⟨64 * j + t, by omega⟩, rfl⟩
          rw [ofNat_eq hyv] at hl1
          obtain ⟨fn, tmps, assign, body, hy, hR⟩ := hY (lst Ws cc) y _ hJi (by omega)
          have hv : ((y.val : Nat) : Int) = (j : Int) * 64 + (t : Int) := by rw [hyv]; exact enc_val j t
          dsimp only [enc12] at hy
          rw [hv] at hy
          have hx1 : 0 < x := Nat.pos_of_ne_zero hx
          have hx2 : x < 2 ^ 64 := hL.1
          clear hX hL hx hl3
          gi_wp2_with (refine ⟨trivial, ?_⟩; gi_at_call 23; refine (callsIn_wide.2 hz).mono ?_; clear hz; rintro e w2 ⟨rfl, rfl⟩)
          refine hR.mono ?_
          rintro e W3 (⟨rfl, hJ3, hk3⟩ | ⟨rfl, hJx3⟩)
          · gi_wp2
            go_roundw
            case rel => exact ⟨_, _, by rw [and_sub hx1 hx2], hl2, by rw [hl1]; exact hJ3, hni.trans hk3⟩
            case measure =>
              rw [and_sub hx1 hx2]
              have hle : x &&& (x - 1) ≤ x - 1 := Nat.and_le_right
              show ((x &&& (x - 1) : Nat) : Int).toNat < ((x : Nat) : Int).toNat
              rw [Int.toNat_natCast, Int.toNat_natCast]
              exact Nat.lt_of_le_of_lt hle (Nat.sub_lt hx1 Nat.one_pos)
          · gi_wp2
            refine bodyPost_ret (results_none rfl _ _ _) rfl ?_
            exact ⟨⟨_, rfl⟩, .inr ⟨_, ⟨64 * j + t + 1, by omega, hl1.symm⟩, hJx3⟩⟩
    · obtain rfl : j = Ws.length := by omega
      gi_wp2
      go_end0
      exact ⟨⟨_, rfl⟩, .inl ⟨_, rfl, hJs⟩⟩
set_option maxRecDepth 100000 in
set_option maxHeartbeats 4000000 in
theorem all1_no (n : Nat) (hn : 1 ≤ n) (l B : Nat) (N : Int) (Ws : List Int) (A : Option Addr) (c : Nat) (hcc : Ws.length ≤ c) (J : List (Fin 4096) → World → Prop)
    (hform : rowset_Formed.f N Ws = some false) (W : World) (hJ : AbidesFrom W.heap.size J)
    (hBx : W.heap[B]? = some (.cells #[.int .i64 N, .slice A Ws.length c] 24 (0, 0))) (hC : Kd.C (Kd.int .u64) W A Ws.length Ws) (h0 : J [] W) :
    CallsIn Fence.wide n Tryd.prog 22 #[.func (.yield l) #[] #[], .pointer (some ⟨B, 0, none⟩)] W fun e W' => (∃ v, e = .returned v) ∧ J [] W' := by
  refine callsIn_of_wp Tryd.func22 rfl trivial ?_ rfl
  simp only [Tryd.ntmps22, List.size_toArray, List.length_cons, List.length_nil, Nat.reduceAdd, Nat.reduceSub, Array.replicate_succ, Array.replicate_zero, List.push_toArray, List.append_toArray, List.nil_append, List.cons_append]
  have hc0 : W.cell? ⟨B, 0, none⟩ = some (.int .i64 N) := (blk_cell hBx 0).trans rfl
  have hc1 : W.cell? ⟨B, 1, none⟩ = some (.slice A Ws.length c) := (blk_cell hBx 1).trans rfl
  gi_wp2_with (refine ⟨trivial, ?_⟩; gi_at_call 10; refine (callsIn_wide.2 (rowset_Formed.calls N A c Ws false W hC hcc hform)).mono ?_; rintro e w1 ⟨rfl, hb1⟩)
  have hJ1 : J [] w1 := hJ _ _ _ _ h0 (grown_of_below hb1) (fun r e => by cases e)
  refine bodyPost_ret (results_none rfl _ _ _) rfl ?_
  exact ⟨⟨_, rfl⟩, hJ1⟩
/-- What All tells of a set. -/
noncomputable def told (N : Int) (Ws : List Int) : List (Fin 4096) := if fm N Ws = true then lst Ws (64 * Ws.length) else []
theorem lst_pre {Ws : List Int} {k : Nat} : ∀ {d : Nat}, k ≤ d → lst Ws k <+: lst Ws d
  | 0, h => by
    obtain rfl : k = 0 := by omega
    exact List.prefix_refl _
  | d + 1, h => by
    by_cases e : k = d + 1
    · rw [e]
      exact List.prefix_refl _
    · refine (lst_pre (d := d) (by omega)).trans ?_
      unfold lst rng
      rw [List.range_succ, List.filter_append, List.map_append]
      exact List.prefix_append _ _
theorem all_stops (n : Nat) (hn : 1 ≤ n) (B n₀ : Nat) (N : Int) (Ws : List Int) (A : Option Addr) (c : Nat) (hcc : Ws.length ≤ c) (hbig : Ws.length ≤ 100000000) (ok : okws Ws) (h00 : 0 < n₀) (w : World) (hn₀ : n₀ ≤ w.heap.size) (hBl : B < w.heap.size)
    (hBx : w.heap[B]? = some (.cells #[.int .i64 N, .slice A Ws.length c] 24 (0, 0))) (hC : Kd.C (Kd.int .u64) w A Ws.length Ws) (hWs : WordsAt n₀ w A Ws) (hT : TzLaid w) :
    SeqStopsK Fence.wide n Tryd.prog 22 #[.pointer (some ⟨B, 0, none⟩)] enc12 (Below n₀) (fun ys => ys = told N Ws) (fun pre => pre <+: told N Ws) 4096 w := fun l J Jx W hW hJ _ hY h0 => by
  have hBx' := (hW.block B hBl).trans hBx
  have hC' := Kd.C_below hC hW
  have hWs' := hWs.below (hW.mono hn₀)
  have hT' := hT.below h00 (hW.mono hn₀)
  have hf := formed_f N Ws ok hbig
  by_cases h : fm N Ws = true
  · rw [h] at hf
    have s := fm_iff.1 h
    have hl : Ws.length ≤ 64 := by have := s.2.2.1; have := s.2.1; omega
    have e : told N Ws = lst Ws (64 * Ws.length) := if_pos h
    rw [e]
    refine (all1_in n hn l B n₀ N Ws A c hcc J Jx hl ok h00 hf W (Nat.le_trans hn₀ hW.size) hJ hY hBx' hC' hWs' hT' h0).mono ?_
    rintro e W' ⟨he, ⟨ys, rfl, hj⟩ | ⟨pre, ⟨k, hk, rfl⟩, hj⟩⟩
    · exact ⟨he, .inl ⟨_, rfl, hj⟩⟩
    · exact ⟨he, .inr ⟨_, lst_pre hk, hj⟩⟩
  · rw [Bool.not_eq_true] at h
    rw [h] at hf
    have e : told N Ws = [] := if_neg (by rw [h]; simp)
    refine (all1_no n hn l B N Ws A c hcc J hf W hJ hBx' hC' h0).mono ?_
    rintro e' W' ⟨he, hj⟩
    exact ⟨he, .inl ⟨[], e.symm, hj⟩⟩
set_option maxHeartbeats 4000000 in
theorem all_in (n : Nat) (N : Int) (A : Option Addr) (len c : Nat) (w : World) :
    CallsIn Fence.wide n Tryd.prog 8 #[.agg #[.int .i64 N, .slice A len c]] w fun e w' => e = .returned (.func (.func 22) #[] #[.pointer (some ⟨w.heap.size, 0, none⟩)]) ∧ w' = w.alloc (.cells #[.int .i64 N, .slice A len c] 24) := by
  refine callsIn_of_wp Tryd.func8 rfl trivial ?_ rfl
  simp only [Tryd.ntmps8, List.size_toArray, List.length_cons, List.length_nil, Nat.reduceAdd, Nat.reduceSub, Array.replicate_succ, Array.replicate_zero, List.push_toArray, List.append_toArray, List.nil_append, List.cons_append]
  gi_wp2
  go_ret
  exact ⟨rfl, rfl⟩
end Go.Proofs.YtiaaicmkpjlplaaDoor.P
