/- field.words: its closure tells the words of a line to any loop body. -/
import Derived.RangeFuncNested
import Derived.RangeFuncBound
import Derived.RangeFuncBox
import Derived.RangeFuncCalls
import Derived.RangeFuncLeaves
import Derived.Shelf.Abstract
import Derived.Shelf.RegionOpen
import Derived.WalkKit
import Derived.OwnWalkIn
import Derived.TacticsInMore
import Derived.LoopNIn
import Derived.LoopIn
import Derived.Laws.BytesArg
import Derived.Test.YtehaodbheifokaaGreatDoorTrim
namespace Go.Proofs.YtehaodbheifokaaGreatDoor.P
open Go Go.RowKit Go.Shelf Go.Proofs.YtehaodbheifokaaGreatDoorW.PrintWords Go.Proofs.YtehaodbheifokaaGreatDoorW.PrintLast
attribute [local go_sem] Oper.semAt_some
set_option linter.unusedVariables false
set_option linter.unusedSimpArgs false

theorem grown_of_below {w w' : World} (h : Below w.heap.size w w') : w.grownBy w' none := ⟨h.os, h.tape, h.output, h.size, fun k hk _ => h.block k hk⟩
theorem bytesAt_up {w0 w : World} {p : Option Addr} {n : Nat} {bs : List UInt8} (h : Lib.BytesAt w0 p n bs) (hB : Below w0.heap.size w0 w) : Lib.BytesAt w p n bs := h.below hB
theorem conv_take (b o k c : Nat) (t : List UInt8) (w : World) (hk : k ≤ t.length) (h1 : Lib.BytesAt w (some ⟨b, o, none⟩) t.length t) (h0 : 0 < t.length) :
    (convert 25 9 (.slice (some ⟨b, o, none⟩) k c)).run Tryz.prog w = .ok (.string ⟨(t.take k).toArray⟩) w := by
  obtain ⟨b', o', e, hc⟩ := h1 h0
  cases e
  have h := run_convert_bytes_arg (P := Tryz.prog) w 25 5 (Tryz.underlying25) (Tryz.underlying5) b o k c ((t.take k).map fun x => (x.toNat : Int)) (by simp; omega) (fun i hi => by
    rw [hc i (by omega)]
    simp [List.getD, List.getElem?_map, List.getElem?_take, hi]
    cases t[i]? <;> rfl) 9 Tryz.underlying9
  rw [h]
  have e : strOfNums ((t.take k).map fun x => (x.toNat : Int)) = ⟨(t.take k).toArray⟩ := by
    apply ByteArray.ext
    apply Array.toList_inj.1
    rw [strOfNums_data, List.map_map]
    show _ = t.take k
    conv => rhs; rw [← List.map_id (t.take k)]
    apply List.map_congr_left
    intro x _
    simp
  rw [e]
theorem idx_calls (b o c : Nat) (t : List UInt8) (w0 w : World) (h0 : 0 < t.length) (hc : t.length ≤ c) (hbig : t.length ≤ 9223372036854775807) (h1 : Lib.BytesAt w0 (some ⟨b, o, none⟩) t.length t) (hB : Below w0.heap.size w0 w) (hx : FieldIn w0) :
    Calls Tryz.prog 137 #[.slice (some ⟨b, o, none⟩) t.length c, .string ⟨#[9, 10, 13, 32]⟩] w fun e w' => e = .returned (.int .i64 (Lib.indexAny t blankL)) ∧ Below w.heap.size w w' :=
  bytes_IndexAny b o t.length c t ⟨#[9, 10, 13, 32]⟩ w rfl h0 hc hbig (h1.below hB) (by decide) (by decide) blank_lt (hx.below hB)
theorem bytesAt_drop {w : World} {b o q : Nat} {t : List UInt8} (h : Lib.BytesAt w (some ⟨b, o, none⟩) t.length t) (hq : q ≤ t.length) : Lib.BytesAt w (some ⟨b, o + q, none⟩) (t.length - q) (t.drop q) := fun h0 => by
  obtain ⟨b', o', e, hc⟩ := h (by omega)
  cases e
  exact ⟨b, o + q, rfl, fun i hi => by rw [Nat.add_assoc, hc (q + i) (by omega), getD_drop]⟩
def lenV : Value → Nat
  | .slice _ m _ => m
  | _ => 0
abbrev encB (x : ByteArray) : Array Value := #[.string x]

set_option maxRecDepth 100000 in
set_option maxHeartbeats 8000000 in
theorem words1_in (n : Nat) (hn : 1 ≤ n) (l B : Nat) (w0 : World) (A : Option Addr) (c : Nat) (bs : List UInt8) (hcc : bs.length ≤ c) (hbig : bs.length ≤ 9223372036854775807) (hX : FieldIn w0) (hL : Lib.BytesAt w0 A bs.length bs)
    (J Jx : List ByteArray → World → Prop) (W : World) (hB0 : Below w0.heap.size w0 W) (hJ : AbidesFrom W.heap.size J)
    (hY : ∀ pre x W1, J pre W1 → (pre ++ [x]) <+: wordsL bs → YieldAt Fence.wide (n - 1) Tryz.prog l (encB x) W1 fun e W' =>
      (e = .returned (.bool true) ∧ J (pre ++ [x]) W' ∧ Below w0.heap.size W1 W') ∨ (e = .returned (.bool false) ∧ Jx (pre ++ [x]) W'))
    (hBx : W.heap[B]? = some (.cells #[.slice A bs.length c] 25 (0, 0))) (h0 : J [] W) :
    CallsIn Fence.wide n Tryz.prog 135 #[.func (.yield l) #[] #[], .pointer (some ⟨B, 0, none⟩)] W fun e W' => (∃ v, e = .returned v) ∧
      ((∃ ys, ys = wordsL bs ∧ J ys W') ∨ (∃ pre, pre <+: wordsL bs ∧ Jx pre W')) := by
  refine callsIn_of_wp Tryz.func135 rfl trivial ?_ rfl
  simp only [Tryz.ntmps135, List.size_toArray, List.length_cons, List.length_nil, Nat.reduceAdd, Nat.reduceSub, Array.replicate_succ, Array.replicate_zero, List.push_toArray, List.append_toArray, List.nil_append, List.cons_append]
  have hc0 : W.cell? ⟨B, 0, none⟩ = some (.slice A bs.length c) := (blk_cell hBx 0).trans rfl
  have HY := Aside0.mk hY
  have HJ := Aside0.mk hJ
  have HX := Aside0.mk hX
  have HL := Aside0.mk hL
  clear hY hJ hX hL
  gi_wp2
  gi_loopw [3] (fun v wr => ∃ (pa : Option Addr) (cc : Nat) (rem : List UInt8) (pre : List ByteArray), v = .slice pa rem.length cc ∧ rem.length ≤ cc ∧ rem.length ≤ 9223372036854775807 ∧ Aside0 (Lib.BytesAt w0 pa rem.length rem) ∧ Aside0 (J pre wr) ∧ Aside0 (Below w0.heap.size w0 wr) ∧ Aside0 (wordsL bs = pre ++ wordsL rem)) (fun v _ => lenV v)
  case atStart => exact ⟨A, c, bs, [], rfl, hcc, hbig, HL, Aside0.mk h0, Aside0.mk hB0, Aside0.mk rfl⟩
  case round =>
    obtain ⟨pa, cc, rem, pre, rfl, hc1, hc2, hRL, hJs, hnx, hW⟩ := hrel
    by_cases hd : rem.dropWhile isB = []
    · have hT := Aside0.mk (trim_none pa rem.length cc rem wr rfl hc1 hc2 (hRL.out.below hnx.out) hd)
      have hW2 : Aside0 (wordsL bs = pre) := Aside0.mk (by rw [hW.out, wordsL_none hd, List.append_nil])
      clear hd
      gi_wp2_with (refine ⟨trivial, ?_⟩; gi_at_call 136; refine (callsIn_wide.2 hT.out).mono ?_; rintro e w1 ⟨rfl, hb1⟩; have hB1 := Aside0.mk hb1; clear hb1)
      refine bodyPost_ret (results_none rfl _ _ _) rfl ?_
      exact ⟨⟨_, rfl⟩, .inl ⟨_, hW2.out.symm, HJ.out _ _ _ _ hJs.out (grown_of_below hB1.out) (fun r e => by cases e)⟩⟩
    · obtain ⟨t, ht⟩ : ∃ t, rem.dropWhile isB = t := ⟨_, rfl⟩
      have hw := wordsL_some hd
      have hf := first_word hd
      have hlt := rest_lt hd
      rw [ht] at hd hw hf hlt
      have hl : 0 < t.length := List.length_pos_iff.2 hd
      have hle1 := dropWhile_le isB rem
      rw [ht] at hle1
      obtain ⟨b, o, c', hc1', hTL, hT⟩ := trim_some pa rem.length cc rem t w0 wr rfl hc1 hc2 hRL.out hnx.out ht hd
      have HT := Aside0.mk hT
      have HTL := Aside0.mk hTL
      have HW := Aside0.mk hw
      clear hw hT hTL hd ht
      have hd2 := dropWhile_drop' nB t
      have htw := takeWhile_take nB t
      obtain ⟨q, hq⟩ : ∃ q, (t.takeWhile nB).length = q := ⟨_, rfl⟩
      have hqn : (t.takeWhile nB).length ≤ t.length := (List.takeWhile_prefix nB).length_le
      rw [hq] at hd2 htw hf hqn
      rw [hd2] at hlt
      obtain ⟨x, hx⟩ : ∃ x : ByteArray, x = ⟨(t.take q).toArray⟩ := ⟨_, rfl⟩
      rw [htw, hd2, ← hx] at HW
      have HI := fun W hB => Aside0.mk (idx_calls b o c' t w0 W hl hc1' (by omega) HTL.out hB HX.out)
      have hpl : (pre ++ [x]) <+: wordsL bs := ⟨wordsL (t.drop q), by rw [hW.out, HW.out]; simp⟩
      have hWx : Aside0 (wordsL bs = (pre ++ [x]) ++ wordsL (t.drop q)) := Aside0.mk (by rw [hW.out, HW.out]; simp)
      have hcd : Aside0 (q < t.length → Lib.BytesAt w0 (some ⟨b, o + q, none⟩) (t.length - q) (t.drop q)) := Aside0.mk (fun hlt2 => bytesAt_drop HTL.out (Nat.le_of_lt hlt2))
      have hdl : (t.drop q).length = t.length - q := List.length_drop
      have HXE := Aside0.mk hx
      clear hd2 HW hx
      by_cases hqt : q < t.length
      · have hidx := indexAny_word (t := t) (by rw [hq]; exact hqt)
        rw [hq] at hidx
        rw [hidx] at HI
        have HLT := Aside0.mk hlt
        have HF := Aside0.mk hf
        have HDL := Aside0.mk hdl
        clear hidx htw hq hlt hdl
        have hqc : ¬ c' = q := by omega
        gi_wp2_with (first
          | (refine ⟨trivial, ?_⟩; gi_at_call 136; refine (callsIn_wide.2 HT.out).mono ?_; rintro e w1 ⟨rfl, hb1⟩; have hB1 := Aside0.mk (hnx.out.trans (hb1.mono hnx.out.size)); have hJ1 := Aside0.mk (HJ.out _ _ _ _ hJs.out (grown_of_below hb1) (fun r e => by cases e)); clear hb1)
          | (refine ⟨trivial, ?_⟩; gi_at_call 137; refine (callsIn_wide.2 (HI _ hB1.out).out).mono ?_; rintro e w2 ⟨rfl, hb2⟩; have hB2 := Aside0.mk (hB1.out.trans (hb2.mono hB1.out.size)); have hJ2 := Aside0.mk (HJ.out _ _ _ _ hJ1.out (grown_of_below hb2) (fun r e => by cases e)); clear hb2; obtain ⟨fn, tmps, assign, body, hy, hR⟩ := HY.out pre x w2 hJ2.out hpl; have HR := Aside0.mk hR; clear hR; have hcv := conv_take b o q c' t w2 hqn (HTL.out.below hB2.out) hl; rw [← HXE.out] at hcv; dsimp only [encB] at hy))
        refine HR.out.mono ?_
        rintro e W3 (⟨rfl, hJ3, hk3⟩ | ⟨rfl, hJx3⟩)
        · gi_wp2
          go_roundw
          case rel => exact ⟨_, _, t.drop q, pre ++ [x], by rw [HDL.out], by rw [HDL.out]; omega, by rw [HDL.out]; omega, by rw [HDL.out]; exact Aside0.mk (hcd.out hqt), Aside0.mk hJ3, Aside0.mk (hB2.out.trans (hk3.mono (Nat.le_refl _))), hWx⟩
          case measure =>
            have := HLT.out
            rw [HDL.out] at this
            simpa [lenV] using this
        · gi_wp2
          refine bodyPost_ret (results_none rfl _ _ _) rfl ?_
          exact ⟨⟨_, rfl⟩, .inr ⟨_, ⟨_, hWx.out.symm⟩, hJx3⟩⟩
      · obtain rfl : q = t.length := by omega
        have hidx := indexAny_noword (t := t) hq
        rw [hidx] at HI
        have HLT := Aside0.mk hlt
        have HDL := Aside0.mk hdl
        clear hidx htw hq hlt hdl hqt
        by_cases hct : c' = t.length
        · subst hct
          gi_wp2_with (first
            | (refine ⟨trivial, ?_⟩; gi_at_call 136; refine (callsIn_wide.2 HT.out).mono ?_; rintro e w1 ⟨rfl, hb1⟩; have hB1 := Aside0.mk (hnx.out.trans (hb1.mono hnx.out.size)); have hJ1 := Aside0.mk (HJ.out _ _ _ _ hJs.out (grown_of_below hb1) (fun r e => by cases e)); clear hb1)
            | (refine ⟨trivial, ?_⟩; gi_at_call 137; refine (callsIn_wide.2 (HI _ hB1.out).out).mono ?_; rintro e w2 ⟨rfl, hb2⟩; have hB2 := Aside0.mk (hB1.out.trans (hb2.mono hB1.out.size)); have hJ2 := Aside0.mk (HJ.out _ _ _ _ hJ1.out (grown_of_below hb2) (fun r e => by cases e)); clear hb2; obtain ⟨fn, tmps, assign, body, hy, hR⟩ := HY.out pre x w2 hJ2.out hpl; have HR := Aside0.mk hR; clear hR; have hcv := conv_take b o t.length t.length t w2 (Nat.le_refl _) (HTL.out.below hB2.out) hl; rw [← HXE.out] at hcv; dsimp only [encB] at hy))
          refine HR.out.mono ?_
          rintro e W3 (⟨rfl, hJ3, hk3⟩ | ⟨rfl, hJx3⟩)
          · gi_wp2
            go_roundw
            case rel => exact ⟨_, _, t.drop t.length, pre ++ [x], by rw [HDL.out, Nat.sub_self], by rw [HDL.out]; omega, by rw [HDL.out]; omega, by rw [HDL.out, Nat.sub_self]; exact Aside0.mk (fun h0 => absurd h0 (Nat.lt_irrefl _)), Aside0.mk hJ3, Aside0.mk (hB2.out.trans (hk3.mono (Nat.le_refl _))), hWx⟩
            case measure =>
              have := HLT.out
              rw [HDL.out] at this
              simpa [lenV] using this
          · gi_wp2
            refine bodyPost_ret (results_none rfl _ _ _) rfl ?_
            exact ⟨⟨_, rfl⟩, .inr ⟨_, ⟨_, hWx.out.symm⟩, hJx3⟩⟩
        · have hct0 : ¬ c' = t.length := hct
          gi_wp2_with (first
            | (refine ⟨trivial, ?_⟩; gi_at_call 136; refine (callsIn_wide.2 HT.out).mono ?_; rintro e w1 ⟨rfl, hb1⟩; have hB1 := Aside0.mk (hnx.out.trans (hb1.mono hnx.out.size)); have hJ1 := Aside0.mk (HJ.out _ _ _ _ hJs.out (grown_of_below hb1) (fun r e => by cases e)); clear hb1)
            | (refine ⟨trivial, ?_⟩; gi_at_call 137; refine (callsIn_wide.2 (HI _ hB1.out).out).mono ?_; rintro e w2 ⟨rfl, hb2⟩; have hB2 := Aside0.mk (hB1.out.trans (hb2.mono hB1.out.size)); have hJ2 := Aside0.mk (HJ.out _ _ _ _ hJ1.out (grown_of_below hb2) (fun r e => by cases e)); clear hb2; obtain ⟨fn, tmps, assign, body, hy, hR⟩ := HY.out pre x w2 hJ2.out hpl; have HR := Aside0.mk hR; clear hR; have hcv := conv_take b o t.length c' t w2 (Nat.le_refl _) (HTL.out.below hB2.out) hl; rw [← HXE.out] at hcv; dsimp only [encB] at hy))
          refine HR.out.mono ?_
          rintro e W3 (⟨rfl, hJ3, hk3⟩ | ⟨rfl, hJx3⟩)
          · gi_wp2
            go_roundw
            case rel => exact ⟨_, _, t.drop t.length, pre ++ [x], by rw [HDL.out, Nat.sub_self], by rw [HDL.out]; omega, by rw [HDL.out]; omega, by rw [HDL.out, Nat.sub_self]; exact Aside0.mk (fun h0 => absurd h0 (Nat.lt_irrefl _)), Aside0.mk hJ3, Aside0.mk (hB2.out.trans (hk3.mono (Nat.le_refl _))), hWx⟩
            case measure =>
              have := HLT.out
              rw [HDL.out] at this
              simpa [lenV] using this
          · gi_wp2
            refine bodyPost_ret (results_none rfl _ _ _) rfl ?_
            exact ⟨⟨_, rfl⟩, .inr ⟨_, ⟨_, hWx.out.symm⟩, hJx3⟩⟩
abbrev encP {P : ByteArray → Prop} (x : {x : ByteArray // P x}) : Array Value := #[.string x.val]
/-- The iterator, to a body that knows of each word that P holds. -/
theorem words_stops (P : ByteArray → Prop) (n : Nat) (hn : 1 ≤ n) (B : Nat) (w0 w : World) (A : Option Addr) (c : Nat) (bs : List UInt8) (hcc : bs.length ≤ c) (hbig : bs.length ≤ 9223372036854775807) (hX : FieldIn w0) (hL : Lib.BytesAt w0 A bs.length bs)
    (hP : ∀ x ∈ wordsL bs, P x) (hB0 : Below w0.heap.size w0 w) (hBl : B < w.heap.size) (hBx : w.heap[B]? = some (.cells #[.slice A bs.length c] 25 (0, 0))) :
    SeqStopsK Fence.wide n Tryz.prog 135 #[.pointer (some ⟨B, 0, none⟩)] (encP (P := P)) (Below w0.heap.size) (fun ys => ys.map Subtype.val = wordsL bs) (fun pre => pre.map Subtype.val <+: wordsL bs) ((wordsL bs).length + 1) w := fun l J Jx W hW hJ _ hY h0 => by
  refine (words1_in n hn l B w0 A c bs hcc hbig hX hL (fun pre W => ∃ p : List {x : ByteArray // P x}, p.map Subtype.val = pre ∧ J p W) (fun pre W => ∃ p : List {x : ByteArray // P x}, p.map Subtype.val = pre ∧ Jx p W) W (hB0.trans (hW.mono hB0.size)) ?_ ?_ ((hW.block B hBl).trans hBx) ⟨[], rfl, h0⟩).mono ?_
  · rintro s X Y row ⟨p, hp, hs⟩ hg hr
    exact ⟨p, hp, hJ p X Y row hs hg hr⟩
  · rintro pre x W1 ⟨p, rfl, hs⟩ hpre
    have hx : P x := hP x (hpre.subset (by simp))
    have hlen := hpre.length_le
    simp only [List.length_append, List.length_map, List.length_singleton] at hlen
    refine (hY p ⟨x, hx⟩ W1 hs (by omega)).mono ?_
    rintro e W' (⟨he, h2, h3⟩ | ⟨he, h2⟩)
    · exact .inl ⟨he, ⟨p ++ [⟨x, hx⟩], by simp, h2⟩, h3⟩
    · exact .inr ⟨he, ⟨p ++ [⟨x, hx⟩], by simp, h2⟩⟩
  · rintro e W' ⟨he, ⟨ys, rfl, p, hp, hj⟩ | ⟨pre, hpre, p, rfl, hj⟩⟩
    · exact ⟨he, .inl ⟨p, hp, hj⟩⟩
    · exact ⟨he, .inr ⟨p, hpre, hj⟩⟩
set_option maxHeartbeats 4000000 in
theorem words_in (n : Nat) (A : Option Addr) (len c : Nat) (w : World) :
    CallsIn Fence.wide n Tryz.prog 113 #[.slice A len c] w fun e w' => e = .returned (.func (.func 135) #[] #[.pointer (some ⟨w.heap.size, 0, none⟩)]) ∧ w' = w.alloc (.cells #[.slice A len c] 25) := by
  refine callsIn_of_wp Tryz.func113 rfl trivial ?_ rfl
  simp only [Tryz.ntmps113, List.size_toArray, List.length_cons, List.length_nil, Nat.reduceAdd, Nat.reduceSub, Array.replicate_succ, Array.replicate_zero, List.push_toArray, List.append_toArray, List.nil_append, List.cons_append]
  gi_wp2
  go_ret
  exact ⟨rfl, rfl⟩
end Go.Proofs.YtehaodbheifokaaGreatDoor.P
