/- Joined by wip/tools/pack.py, pruned: Right20, LawSums20, PureMatchSums, Laid8. -/
import Derived.Test.YtehaodbheifokaaGreatDoorMs10
import Derived.Test.YtehaodbheifokaaGreatDoorMs20
import Derived.Test.YtehaodbheifokaaGreatDoorMs21
import Derived.Test.YtehaodbheifokaaGreatDoorMs25
import Derived.Test.YtehaodbheifokaaGreatDoorMs27
import Derived.Test.YtehaodbheifokaaGreatDoorMs28
import Derived.Lib.LaidU8T
import Derived.Stop.LaidErr
set_option maxHeartbeats 8000000
set_option maxRecDepth 100000
set_option linter.unusedVariables false
set_option linter.unusedSimpArgs false
section
namespace Go.Proofs.YtehaodbheifokaaGreatDoor.P
open Go Go.RowKit Go.Proofs.YtehaodbheifokaaGreatDoorW.PrintWords Go.Proofs.YtehaodbheifokaaGreatDoorW.PrintLast Go.Proofs.YtehaodbheifokaaGreatDoorW.PrintMore
theorem right_calls (n : ND) (W : World) (A : Option Addr) (c : Nat) (hC : Kd.string.C W A n.f4.length n.f4) (hc : n.f4.length ≤ c) (hn : n.f4.length ≤ 1099511627776) (hk : n.f5.size ≤ 9223372036854775807) :
  Calls Tryz.prog 61 #[.agg #[.int .i64 n.f0, .int .i64 n.f1, .int .i64 n.f2, .string n.f3, .slice A n.f4.length c, .string n.f5, .int .i64 n.f6, .int .i64 n.f7]] W fun e w' => e = .returned (.bool (rightN n)) ∧ Below W.heap.size W w' := by
 obtain ⟨k, a, b, tx, tm, ky, lo, hi⟩ := n
 show Calls _ _ _ _ (fun e w' => e = .returned (.bool (rightB k a b tx tm ky lo hi)) ∧ _)
 dsimp only at *
 unfold rightB
 by_cases h1 : k = 1
 ·rw [if_pos h1]; subst h1; exact right_1 a b tx A c tm ky lo hi W hC hc hn
 rw [if_neg h1]
 by_cases h2 : k = 2
 ·rw [if_pos (.inl h2)]; subst h2; exact right_2 a b tx A c tm ky lo hi W hC hc hn
 by_cases h3 : k = 3
 ·rw [if_pos (.inr h3)]; subst h3; exact right_3 a b tx A c tm ky lo hi W hC hc hn
 rw [if_neg (by omega)]
 by_cases h4 : k = 4
 ·rw [if_pos h4]; subst h4; exact right_4 a b tx A c tm ky lo hi W hC hc hn
 rw [if_neg h4]
 by_cases h5 : k = 5
 ·rw [if_pos h5]; subst h5; exact right_5 a b tx A c tm ky lo hi W hC hc hn
 rw [if_neg h5]
 by_cases h6 : k = 6
 ·rw [if_pos h6]; subst h6; exact right_6 a b tx A c tm ky lo hi W hC hc hn hk
 rw [if_neg h6]
 by_cases h7 : k = 7
 ·rw [if_pos (.inl h7)]; subst h7; exact right_7 a b tx A c tm ky lo hi W hC hc hn hk
 by_cases h8 : k = 8
 ·rw [if_pos (.inr h8)]; subst h8; exact right_8 a b tx A c tm ky lo hi W hC hc hn hk
 rw [if_neg (by omega)]
 by_cases h9 : k = 9
 ·rw [if_pos h9]; subst h9; exact right_9 a b tx A c tm ky lo hi W hC hc hn
 rw [if_neg h9]
 by_cases h10 : k = 10
 ·rw [if_pos (.inl h10)]; subst h10; exact right_10 a b tx A c tm ky lo hi W hC hc hn
 by_cases h11 : k = 11
 ·rw [if_pos (.inr h11)]; subst h11; exact right_11 a b tx A c tm ky lo hi W hC hc hn
 rw [if_neg (by omega)]
 by_cases h12 : k = 12
 ·rw [if_pos h12]; subst h12; exact right_12 a b tx A c tm ky lo hi W hC hc hn
 rw [if_neg h12]
 exact right_0 k a b tx _ ⟨_, _, _, rfl⟩ ky lo hi W h1 h2 h3 h4 h5 h6 h7 h8 h9 h10 h11 h12
theorem one_lv (A : Option Addr) (c : Nat) (ns : List ND) (l : List Int) (s t : Int) (AL : Option Addr) (cL : Nat) (w : World) (hC : Kd.C k37 w A ns.length ns) (hc : ns.length ≤ c) (h4 : ∀ n ∈ ns, n.f4.length ≤ 1099511627776) (h5 : ∀ n ∈ ns, n.f5.size ≤ 9223372036854775807) (hCL : (Kd.int .u8).C w AL l.length l) (hcL : l.length ≤ cL) (hNL : AL = none → cL = 0) (hb : ∀ x ∈ l, 0 ≤ x ∧ x < 256) (hX : FieldIn w) (hl : l.length ≤ 1000000) (hF : formedB ns 2 ⟨#[]⟩ 0 0 0 = true) :
  Calls Tryz.prog 18 #[.slice A ns.length c, .agg #[.int .i64 s, .int .i64 t, .slice AL l.length cL]] w fun e w' => e = .returned (.tuple #[.bool (holdsB (lvN l t) ns), .bool true]) ∧ Below w.heap.size w w' :=
 one_calls A c ns l s t (.slice AL l.length cL) (lvN l t) w ⟨_, _, _, rfl⟩ hC hc (fun n hn W A' c' h1 h2 => right_calls n W A' c' h1 h2 (h4 n hn) (h5 n hn))
  (fun W hW n hn hr h10 h11 h12 => leafOK_lv W l s t _ n (LineN.below ⟨⟨AL, cL, rfl, hcL, hCL, hb, by omega, hNL⟩⟩ hW) (hX.below hW) (by omega) (h4 n hn) hr h10 h11 h12) hF
theorem copy06 (l : List ByteArray) (h : l.length ≤ 1099511627776) : dragnetref06_Copy.f l = some l := by
 unfold dragnetref06_Copy.f
 simp only [Option.bind_some, List.length_nil, List.nil_append]
 rw [if_pos (by omega)]
theorem copy19_l (k : Int) (ky : ByteArray) (wd sk mo : Int) (l0 : List ND) : ∀ (d : Nat) (xs : List ND) (i : Nat), (∀ n ∈ xs, n.f4.length ≤ 1099511627776) → xs.length - i = d → i ≤ xs.length → xs.length ≤ 1099511627776 → dragnetref19_Copy.l0 (d + 1) xs (i : Int) l0 k ky wd sk mo = some (xs, k, ky, wd, sk, mo)
 | 0, xs, i, h4, hd, hi, hN => by
  simp only [dragnetref19_Copy.l0]
  rw [if_neg (by omega)]
 | d + 1, xs, i, h4, hd, hi, hN => by
  rw [dragnetref19_Copy.l0, if_pos (by omega), if_pos (by omega)]
  have hlt : i < xs.length := by omega
  have hr : rd_T37 xs (i : Int) = xs[i] := by
   unfold rd_T37
   rw [Int.toNat_natCast, List.getD_eq_getElem?_getD, List.getElem?_eq_getElem hlt]
   rfl
  rw [hr, copy06 _ (h4 _ (List.getElem_mem hlt)), Option.bind_some, Int.toNat_natCast]
  have hs : xs.set i (⟨xs[i].f0, xs[i].f1, xs[i].f2, xs[i].f3, xs[i].f4, xs[i].f5, xs[i].f6, xs[i].f7⟩ : S37) = xs := List.set_getElem_self hlt
  rw [hs, show wrap64 ((i : Int) + 1) = ((i + 1 : Nat) : Int) by unfold wrap64; omega]
  exact copy19_l k ky wd sk mo l0 d xs (i + 1) h4 (by omega) (by omega) hN
theorem copy19 (ns : List ND) (k : Int) (ky : ByteArray) (wd sk mo : Int) (h4 : ∀ n ∈ ns, n.f4.length ≤ 1099511627776) (hN : ns.length ≤ 1099511627776) : dragnetref19_Copy.f (ns.length + 1) ns k ky wd sk mo = some (ns, k, ky, wd, sk, mo) := by
 unfold dragnetref19_Copy.f
 simp only [Option.bind_some, List.length_nil, List.nil_append]
 rw [if_pos (by omega)]
 exact copy19_l k ky wd sk mo ns ns.length ns 0 h4 (by omega) (by omega) hN
theorem node_heap : Kd.Heap k37 := by
 unfold k37
 exact Kd.heap_iso _ (Kd.heap_pair (Kd.heap_int _) (Kd.heap_pair (Kd.heap_int _) (Kd.heap_pair (Kd.heap_int _) (Kd.heap_pair Kd.heap_string (Kd.heap_pair (Kd.heap_slice _ Kd.heap_string) (Kd.heap_pair Kd.heap_string (Kd.heap_pair (Kd.heap_int _) (Kd.heap_int _))))))))
theorem sums_parts {ms : List ND} {k : Int} {ky : ByteArray} {wd sk mo : Int} (h : formedB ms k ky wd sk mo = true) : ∀ x ∈ ms, (10 ≤ x.f0 → 0 ≤ x.f1 ∧ x.f1 ≤ 64) ∧ (x.f0 = 10 ∨ x.f0 = 11 → 0 ≤ x.f2 ∧ x.f2 ≤ 64) := by
 intro x hx
 obtain ⟨hl, ht⟩ := formed_tree h
 obtain ⟨i, hi⟩ := List.mem_iff_getElem?.1 hx
 obtain ⟨hr, hp⟩ := tree_all ht i x hi
 have hlt := (List.getElem?_eq_some_iff.1 hi).1
 have hin := parts_in hp
 have hk := right_kind hr
 have two : x.f0 = 10 ∨ x.f0 = 11 → (0 ≤ x.f1 ∧ x.f1 ≤ 64) ∧ 0 ≤ x.f2 ∧ x.f2 ≤ 64 := by
  intro h2
  have e : partsN x = [x.f1, x.f2] := by unfold partsN; rw [if_pos h2]
  have h3 := hin x.f1 (by rw [e]; simp)
  have h4 := hin x.f2 (by rw [e]; simp)
  omega
 refine ⟨fun h10 => ?_, fun h2 => (two h2).2⟩
 rcases hk with h3 | h3 | h3
 ·omega
 ·exact (two h3).1
 ·have e : partsN x = [x.f1] := by unfold partsN; rw [if_neg (by omega), if_pos h3]
  have h4 := hin x.f1 (by rw [e]; simp)
  omega
theorem sums_calls (A A2 : Option Addr) (c c2 : Nat) (ns ms : List ND) (k : Int) (ky : ByteArray) (wd sk mo : Int) (k2 : Int) (ky2 : ByteArray) (wd2 sk2 mo2 : Int) (s t : Int) (AL : Option Addr) (cL : Nat) (l : List Int) (w : World) (hC1 : Kd.C k37 w A ns.length ns) (hc1 : ns.length ≤ c) (hC2 : Kd.C k37 w A2 ms.length ms) (hc2 : ms.length ≤ c2) (hCL : (Kd.int .u8).C w AL l.length l) (hcL : l.length ≤ cL) (hNL : AL = none → cL = 0) (hb : ∀ x ∈ l, 0 ≤ x ∧ x < 256)
  (hN : ns.length ≤ 1099511627776) (h4 : ∀ n ∈ ns, n.f4.length ≤ 1099511627776) (h5 : ∀ n ∈ ns, n.f5.size ≤ 9223372036854775807) (hky : ky.size ≤ 9223372036854775807)
  (hM : ms.length ≤ 1099511627776) (g4 : ∀ n ∈ ms, n.f4.length ≤ 1099511627776) (g5 : ∀ n ∈ ms, n.f5.size ≤ 9223372036854775807) (gky : ky2.size ≤ 9223372036854775807) (hX : FieldIn w) :
  Calls Tryz.prog 4 #[.agg #[.slice A ns.length c, .int .i64 k, .string ky, .int .i64 wd, .int .i64 sk, .int .i64 mo], .agg #[.slice A2 ms.length c2, .int .i64 k2, .string ky2, .int .i64 wd2, .int .i64 sk2, .int .i64 mo2], .agg #[.int .i64 s, .int .i64 t, .slice AL l.length cL]] w fun e w' => e = .returned (.bool true) ∧ Below w.heap.size w w' := by
 have lens : ∀ zs : List ND, (∀ n ∈ zs, n ∈ ns ∨ (∃ m ∈ ms, n = shiftN ns.length m) ∨ ∃ k a b, n = topN k a b) → (∀ n ∈ zs, n.f4.length ≤ 1099511627776) ∧ ∀ n ∈ zs, n.f5.size ≤ 9223372036854775807 := by
  intro zs hz
  constructor
  ·intro n hn
   rcases hz n hn with h | ⟨m, h, rfl⟩ | ⟨_, _, _, rfl⟩
   ·exact h4 n h
   ·exact g4 m h
   ·exact Nat.zero_le _
  ·intro n hn
   rcases hz n hn with h | ⟨m, h, rfl⟩ | ⟨_, _, _, rfl⟩
   ·exact h5 n h
   ·exact g5 m h
   ·exact Nat.zero_le _
 refine sums_walk A A2 c c2 ns ms k ky wd sk mo k2 ky2 wd2 sk2 mo2 s t AL cL l w (formedB ns k ky wd sk mo) (formedB ms k2 ky2 wd2 sk2 mo2) (holdsB (lvN l t) ns) (holdsB (lvN l t) ms)
  ⟨fun W hW => alive20 W (hX.below hW)⟩ ⟨fun W hW => rformed_calls A c ns k ky wd sk mo W (Kd.C_below hC1 hW) hc1 hN h4 h5 hky⟩ ⟨fun W hW => rformed_calls A2 c2 ms k2 ky2 wd2 sk2 mo2 W (Kd.C_below hC2 hW) hc2 hM g4 g5 gky⟩
  ⟨fun h => (formed_tree h).1⟩ ⟨fun h => (formed_tree h).1⟩ ⟨fun _ W hW => ?_⟩ ⟨Kd.C_F node_heap hC2⟩ ⟨fun h => sums_parts h⟩ ⟨fun hl h W hW => ?_⟩ ⟨fun hl h W hW => ?_⟩ ⟨fun hl h1 h2 hs kd g c1 W hk hW hR hc => ?_⟩ ⟨fun hl h1 hs g c1 W hW hR hc => ?_⟩
 ·exact dragnetref19_Copy.calls (ns.length + 1) (fun q => q < w.heap.size) A c ns k ky wd sk mo ns k ky wd sk mo W (Kd.V_mk hc1 (Kd.F_step (Kd.C_F node_heap hC1) (fun q hq _ => hW.block q hq))) (copy19 ns k ky wd sk mo h4 hN)
 ·exact one_lv A c ns l s t AL cL W (Kd.C_below hC1 hW) hc1 h4 h5 (Kd.C_below hCL hW) hcL hNL hb (hX.below hW) (by omega) (formed_two (formed_tree h).1 (formed_tree h).2)
 ·exact one_lv A2 c2 ms l s t AL cL W (Kd.C_below hC2 hW) hc2 g4 g5 (Kd.C_below hCL hW) hcL hNL hb (hX.below hW) (by omega) (formed_two (formed_tree h).1 (formed_tree h).2)
 ·obtain ⟨f1, t1⟩ := formed_tree h1
  obtain ⟨f2, t2⟩ := formed_tree h2
  have hT := tree_join f1.1 f2.1 t1 t2 hk
  have hH := holds_join (lvN l t) f1.1 f2.1 t2 hk
  rw [← List.append_assoc, show ((ns.length + ms.length : Nat) - 1 : Int) = (ns.length : Int) + (ms.length : Int) - 1 by omega] at hT hH
  have hlen : (ns ++ ms.map (shiftN ns.length) ++ [topN kd ((ns.length : Int) - 1) ((ns.length : Int) + (ms.length : Int) - 1)]).length = (ns ++ ms.map (shiftN ns.length)).length + 1 := by rw [List.length_append, List.length_singleton]
  have hl2 : (ns ++ ms.map (shiftN ns.length)).length = ns.length + ms.length := by rw [List.length_append, List.length_map]
  obtain ⟨b4, b5⟩ := lens (ns ++ ms.map (shiftN ns.length) ++ [topN kd ((ns.length : Int) - 1) ((ns.length : Int) + (ms.length : Int) - 1)]) (fun n hn => by
   rcases List.mem_append.1 hn with hn | hn
   ·rcases List.mem_append.1 hn with hn | hn
    ·exact .inl hn
    ·obtain ⟨m, hm, rfl⟩ := List.mem_map.1 hn
     exact .inr (.inl ⟨m, hm, rfl⟩)
   ·exact .inr (.inr ⟨_, _, _, List.mem_singleton.1 hn⟩))
  have H := one_lv (some ⟨g, 0, none⟩) c1 _ l s t AL cL W hR.C (by rw [hlen]; exact hc) b4 b5 (Kd.C_below hCL hW) hcL hNL hb (hX.below hW) (by omega) (formed_two (by rw [hlen, hl2]; omega) hT)
  rw [hlen, hH] at H
  exact H
 ·obtain ⟨f1, t1⟩ := formed_tree h1
  have hT := tree_not f1.1 t1
  have hH := holds_not (lvN l t) f1.1
  have hlen : (ns ++ [topN 12 ((ns.length : Int) - 1) 0]).length = ns.length + 1 := by rw [List.length_append, List.length_singleton]
  obtain ⟨b4, b5⟩ := lens (ns ++ [topN 12 ((ns.length : Int) - 1) 0]) (fun n hn => by
   rcases List.mem_append.1 hn with hn | hn
   ·exact .inl hn
   ·exact .inr (.inr ⟨_, _, _, List.mem_singleton.1 hn⟩))
  have H := one_lv (some ⟨g, 0, none⟩) c1 _ l s t AL cL W hR.C (by rw [hlen]; exact hc) b4 b5 (Kd.C_below hCL hW) hcL hNL hb (hX.below hW) (by omega) (formed_two (by rw [hlen]; omega) hT)
  rw [hlen, hH] at H
  exact H
noncomputable def dragnetlaw20_MatchSums.f (a b : S24) (r : S27) : Option Bool := open Classical in if (∀ x ∈ r.f2, 0 ≤ x ∧ x < 256) ∧ (a.f0.length ≤ 1099511627776 ∧ (∀ n ∈ a.f0, n.f4.length ≤ 1099511627776) ∧ (∀ n ∈ a.f0, n.f5.size ≤ 9223372036854775807) ∧ a.f2.size ≤ 9223372036854775807) ∧ (b.f0.length ≤ 1099511627776 ∧ (∀ n ∈ b.f0, n.f4.length ≤ 1099511627776) ∧ (∀ n ∈ b.f0, n.f5.size ≤ 9223372036854775807) ∧ b.f2.size ≤ 9223372036854775807) then some true else none
theorem dragnetlaw20_MatchSums.calls (a b : S24) (r : S27) {A : Option Addr} {c : Nat} {A2 : Option Addr} {c2 : Nat} {AL : Option Addr} {cL : Nat} (w : World) (hC : Kd.C k37 w A a.f0.length a.f0) (hc : a.f0.length ≤ c) (hC2 : Kd.C k37 w A2 b.f0.length b.f0) (hc2 : b.f0.length ≤ c2) (hCL : (Kd.int .u8).C w AL r.f2.length r.f2) (hcL : r.f2.length ≤ cL) (hNL : AL = none → cL = 0) (h : dragnetlaw20_MatchSums.f a b r = some true) (hx : FieldIn w) :
  Calls Tryz.prog 4 #[.agg #[.slice A a.f0.length c, .int .i64 a.f1, .string a.f2, .int .i64 a.f3, .int .i64 a.f4, .int .i64 a.f5], .agg #[.slice A2 b.f0.length c2, .int .i64 b.f1, .string b.f2, .int .i64 b.f3, .int .i64 b.f4, .int .i64 b.f5], .agg #[.int .i64 r.f0, .int .i64 r.f1, .slice AL r.f2.length cL]] w fun e w' => e = .returned (.bool true) ∧ Below w.heap.size w w' := by
 classical
 unfold dragnetlaw20_MatchSums.f at h
 split at h
 ·rename_i hh
  obtain ⟨h1, ⟨h2, h3, h4, h5⟩, h6, h7, h8, h9⟩ := hh
  exact sums_calls A A2 c c2 a.f0 b.f0 a.f1 a.f2 a.f3 a.f4 a.f5 b.f1 b.f2 b.f3 b.f4 b.f5 r.f0 r.f1 AL cL r.f2 w hC hc hC2 hc2 hCL hcL hNL h1 h2 h3 h4 h5 h6 h7 h8 h9 hx
 ·cases h
end Go.Proofs.YtehaodbheifokaaGreatDoor.P
end
section
namespace Go.Proofs.YtehaodbheifokaaGreatDoor.Pure
open Go Go.RowKit Go.Proofs.YtehaodbheifokaaGreatDoor.P
theorem sum_mem {α : Type} (f : α → Nat) : ∀ (l : List α) (x : α), x ∈ l → f x ≤ Read.sumBulk f l
 | [], x, h => by cases h
 | y :: l, x, h => by
  simp only [Read.sumBulk]
  rcases List.mem_cons.1 h with rfl | h
  ·omega
  ·have := sum_mem f l x h; omega
theorem ask_bounds {x : S24} (hs : Read.bulkAsk x ≤ 1048576) : x.f0.length ≤ 1099511627776 ∧ (∀ n ∈ x.f0, n.f4.length ≤ 1099511627776) ∧ (∀ n ∈ x.f0, n.f5.size ≤ 9223372036854775807) ∧ x.f2.size ≤ 9223372036854775807 := by
 unfold Read.bulkAsk at hs
 have h1 := Read.sum_len Read.bulkNode (fun n => by unfold Read.bulkNode; omega) x.f0
 have hm := sum_mem Read.bulkNode x.f0
 generalize Read.sumBulk Read.bulkNode x.f0 = z at h1 hm hs
 refine ⟨by omega, fun n hn => ?_, fun n hn => ?_, by omega⟩
 ·have h2 := hm n hn
  unfold Read.bulkNode at h2
  have h3 := Read.sum_len (fun s : ByteArray => s.size + 1) (fun s => by omega) n.f4
  omega
 ·have h2 := hm n hn
  unfold Read.bulkNode at h2
  omega
theorem line_bytes {x : S27} (h : Read.okRow x) : ∀ z ∈ x.f2, 0 ≤ z ∧ z < 256 := by
 intro z hz
 have h2 := h.2.2 z hz
 simp [Lit.wf, IntKind.min, IntKind.max, IntKind.signed, IntKind.bits] at h2
 omega
theorem MatchSums (x0 x1 : S24) (x2 : S27) (h0 : Read.okAsk x0) (h1 : Read.okAsk x1) (h2 : Read.okRow x2) (hs : Read.bulkAsk x0 + Read.bulkAsk x1 + Read.bulkRow x2 ≤ 1048576) : dragnetlaw20_MatchSums.f x0 x1 x2 = some true := by
 unfold dragnetlaw20_MatchSums.f
 exact if_pos ⟨line_bytes h2, ask_bounds (by omega), ask_bounds (by omega)⟩
end Go.Proofs.YtehaodbheifokaaGreatDoor.Pure
end
section
namespace Go.Proofs.YtehaodbheifokaaGreatDoor.P
open Go Go.Lib Go.RowKit Go.Shelf Go.Proofs.YtehaodbheifokaaGreatDoorW.PrintWords Go.Proofs.YtehaodbheifokaaGreatDoorW.PrintLast
def renU8 : Ren := ⟨fun n => n, fun | 5 => 5 | 119 => 203 | 138 => 205 | 139 => 206 | n => n, fun | 3 => 2 | 4 => 3 | n => n⟩
theorem star : "*" ++ "errors.errorString" = "*errors.errorString" := by decide
theorem rowErr (u : TypeId) (h : Tryz.prog.typeName? 3 u = some "*errors.errorString") : u = 222 :=
 typeName_ptr_named (nm := "errors.errorString") (by rw [star]; kernel_rfl) (by kernel_rfl) (by decide) u (by rw [star]; exact h)
theorem max_of_shape {w : World} (h : w.ShapedOpen Tryz.prog) : ∃ m, w.cell? ⟨0, 0, none⟩ = some (.int .i64 m) := by
 have h0 : ((begin Tryz.prog (fun _ _ => 0) default).world.heap[0]?).bind Obj.row? = some (#[.int .i64 0], 3) := by kernel_rfl
 obtain ⟨cs, hh, hs, hr⟩ := h.1 0 #[.int .i64 0] 3 (of_decide_eq_true (by kernel_rfl)) h0
 obtain ⟨ts, hts, _, hall⟩ := hr (by kernel_rfl)
 have hc : Tryz.prog.cellTypes Tryz.prog.depth 3 = some [3] := by kernel_rfl
 rw [hc] at hts
 cases hts
 have h1 : 0 < cs.size := by rw [hs]; decide
 obtain ⟨v0, hv0⟩ : ∃ v0, cs[0]? = some v0 := ⟨cs[0]'h1, Array.getElem?_eq_getElem h1⟩
 obtain ⟨u, hu', hok⟩ := hall 0 v0 hv0
 obtain rfl : u = 3 := by simpa using hu'.symm
 have hcell : w.cell? ⟨0, 0, none⟩ = some v0 := by simp [World.cell?, hh, hv0]
 rw [hcell]
 unfold Cell.ok at hok
 rw [Tryz.underlying3] at hok
 clear hall hr hcell
 cases v0 <;> simp at hok
 obtain ⟨rfl, _⟩ := hok
 exact ⟨_, rfl⟩
theorem dF : (firstData : DataW Unit) = Rows.laid_unicode_utf8_first := by kernel_rfl
theorem dA : (acceptData : DataW Unit) = Rows.laid_unicode_utf8_acceptRanges := by kernel_rfl
theorem FieldIn.of {w : World} (hL : laidMetH Tryz.prog Rows.matchTimesUptoRow.laid w) (hS : w.ShapedOpen Tryz.prog) : FieldIn w := by
 have h : laidMet Tryz.prog Rows.matchTimesUptoRow.laid w := hL
 obtain ⟨a1, t1, hv1, _⟩ := laid_sentinel (g := 5) h.tail.tail.tail.tail (by kernel_rfl) (by kernel_rfl) Tryz.underlying187 rowErr Tryz.underlying222 Tryz.underlying224 rfl rfl Tryz.underlying9 (by kernel_rfl) (by kernel_rfl)
 obtain ⟨a2, t2, hv2, _⟩ := laid_sentinel (g := 4) h.tail.tail.tail.tail.tail (by kernel_rfl) (by kernel_rfl) Tryz.underlying187 rowErr Tryz.underlying222 Tryz.underlying224 rfl rfl Tryz.underlying9 (by kernel_rfl) (by kernel_rfl)
 refine ⟨?_, ?_, ?_, max_of_shape hS, ?_⟩
 ·exact Lib.tabIs_of_head (t := 201) (e := 142) (n := 20) (g := 1) (by kernel_rfl) (by kernel_rfl) Tryz.underlying201 (by kernel_rfl) (by kernel_rfl) (by kernel_rfl) h.tail.tail
 ·exact ⟨_, _, by have h0 := World.var?_cell (show Tryz.prog.globalNamed "strconv.ErrSyntax" = some 4 by kernel_rfl) hv2 0; simpa using h0⟩
 ·exact ⟨_, _, by have h0 := World.var?_cell (show Tryz.prog.globalNamed "strconv.ErrRange" = some 5 by kernel_rfl) hv1 0; simpa using h0⟩
 ·exact utf8Tabs_of_readsT (ρ := renU8) ⟨Tryz.underlying5, Tryz.underlying203, Tryz.underlying205, Tryz.underlying206⟩ ⟨by kernel_rfl, by kernel_rfl, by kernel_rfl, by kernel_rfl, by kernel_rfl, by kernel_rfl, by kernel_rfl⟩
   (by rw [dF]; exact Lib.laidMet.reads h (by simp [Rows.matchTimesUptoRow])) (by rw [dA]; exact Lib.laidMet.reads h (by simp [Rows.matchTimesUptoRow]))
end Go.Proofs.YtehaodbheifokaaGreatDoor.P
end
