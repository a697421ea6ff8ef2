/- Joined by wip/tools/pack.py, pruned: Right20, AliveM20, LawHolds20, PureMatchHolds, Laid8. -/
import Derived.Test.YtehaodbheifokaaGreatDoorMq18
import Derived.Test.YtehaodbheifokaaGreatDoorMq28
import Derived.Test.YtehaodbheifokaaGreatDoorMq30
import Derived.Test.YtehaodbheifokaaGreatDoorMq31
import Derived.Lib.SlBytesConst
import Derived.Lib.LaidU8T
import Derived.Stop.LaidErr
set_option maxHeartbeats 8000000
set_option maxRecDepth 100000
set_option linter.unusedVariables false
set_option linter.unusedSimpArgs false
section
namespace Go.Proofs.YtehaodbheifokaaGreatDoor.P
open Go Go.RowKit Go.Proofs.YtehaodbheifokaaGreatDoorW.PrintWords Go.Proofs.YtehaodbheifokaaGreatDoorW.PrintLast Go.Proofs.YtehaodbheifokaaGreatDoorW.PrintMore
theorem right_calls (n : ND) (W : World) (A : Option Addr) (c : Nat) (hC : Kd.string.C W A n.f4.length n.f4) (hc : n.f4.length ≤ c) (hn : n.f4.length ≤ 1099511627776) (hk : n.f5.size ≤ 9223372036854775807) :
  Calls Tryz.prog 61 #[.agg #[.int .i64 n.f0, .int .i64 n.f1, .int .i64 n.f2, .string n.f3, .slice A n.f4.length c, .string n.f5, .int .i64 n.f6, .int .i64 n.f7]] W fun e w' => e = .returned (.bool (rightN n)) ∧ Below W.heap.size W w' := by
 obtain ⟨k, a, b, tx, tm, ky, lo, hi⟩ := n
 show Calls _ _ _ _ (fun e w' => e = .returned (.bool (rightB k a b tx tm ky lo hi)) ∧ _)
 dsimp only at *
 unfold rightB
 by_cases h1 : k = 1
 ·rw [if_pos h1]; subst h1; exact right_1 a b tx A c tm ky lo hi W hC hc hn
 rw [if_neg h1]
 by_cases h2 : k = 2
 ·rw [if_pos (.inl h2)]; subst h2; exact right_2 a b tx A c tm ky lo hi W hC hc hn
 by_cases h3 : k = 3
 ·rw [if_pos (.inr h3)]; subst h3; exact right_3 a b tx A c tm ky lo hi W hC hc hn
 rw [if_neg (by omega)]
 by_cases h4 : k = 4
 ·rw [if_pos h4]; subst h4; exact right_4 a b tx A c tm ky lo hi W hC hc hn
 rw [if_neg h4]
 by_cases h5 : k = 5
 ·rw [if_pos h5]; subst h5; exact right_5 a b tx A c tm ky lo hi W hC hc hn
 rw [if_neg h5]
 by_cases h6 : k = 6
 ·rw [if_pos h6]; subst h6; exact right_6 a b tx A c tm ky lo hi W hC hc hn hk
 rw [if_neg h6]
 by_cases h7 : k = 7
 ·rw [if_pos (.inl h7)]; subst h7; exact right_7 a b tx A c tm ky lo hi W hC hc hn hk
 by_cases h8 : k = 8
 ·rw [if_pos (.inr h8)]; subst h8; exact right_8 a b tx A c tm ky lo hi W hC hc hn hk
 rw [if_neg (by omega)]
 by_cases h9 : k = 9
 ·rw [if_pos h9]; subst h9; exact right_9 a b tx A c tm ky lo hi W hC hc hn
 rw [if_neg h9]
 by_cases h10 : k = 10
 ·rw [if_pos (.inl h10)]; subst h10; exact right_10 a b tx A c tm ky lo hi W hC hc hn
 by_cases h11 : k = 11
 ·rw [if_pos (.inr h11)]; subst h11; exact right_11 a b tx A c tm ky lo hi W hC hc hn
 rw [if_neg (by omega)]
 by_cases h12 : k = 12
 ·rw [if_pos h12]; subst h12; exact right_12 a b tx A c tm ky lo hi W hC hc hn
 rw [if_neg h12]
 exact right_0 k a b tx _ ⟨_, _, _, rfl⟩ ky lo hi W h1 h2 h3 h4 h5 h6 h7 h8 h9 h10 h11 h12
end Go.Proofs.YtehaodbheifokaaGreatDoor.P
end
section
namespace Go.Proofs.YtehaodbheifokaaGreatDoor.P
open Go Go.RowKit Go.Proofs.YtehaodbheifokaaGreatDoorW.PrintWords Go.Proofs.YtehaodbheifokaaGreatDoorW.PrintLast Go.Proofs.YtehaodbheifokaaGreatDoorW.PrintMore
attribute [local go_sem] max2_int min2_int max_two min_two
def getLine : List Int := [71, 69, 84, 32, 47, 97, 32, 109, 115, 61, 49, 50, 48]
theorem C_of {W : World} {g : Nat} {arr : Array Value} (h : W.heap[g]? = some (.cells arr 37 (0, 0))) (ns : List ND) (hn : ns.length ≤ 64) (hk : ∀ (j : Nat) p, ns[j]? = some p → k37.K W p ((arr.toList.drop (j * 8)).take 8)) : Kd.C k37 W (some ⟨g, 0, none⟩) ns.length ns := by
 refine ⟨rfl, by omega, fun _ => ⟨⟨g, 0, none⟩, rfl, fun j p hj => ⟨(arr.toList.drop (j * 8)).take 8, k37.K_len (hk j p hj), hk j p hj, fun i u hi => ?_⟩⟩⟩
 show W.cell? (Addr.add ⟨g, 0, none⟩ (j * 8 + i)) = some u
 have hi8 : i < 8 := by have := (List.getElem?_eq_some_iff.1 hi).1; rw [List.length_take] at this; omega
 rw [List.getElem?_take_of_lt hi8, List.getElem?_drop, Array.getElem?_toList] at hi
 rw [WideShapes.add_plain, Nat.zero_add, blk_cell h]
 exact hi
theorem rightN_4 (a b : Int) (tx : ByteArray) (tm : List ByteArray) (ky : ByteArray) (lo hi : Int) : rightN ⟨4, a, b, tx, tm, ky, lo, hi⟩ = (decide (0 < tm.length) && tm.all tokB && decide (a = 0 ∧ b = 0 ∧ tx = ⟨#[]⟩ ∧ ky = ⟨#[]⟩ ∧ lo = 0 ∧ hi = 0)) := by
 show rightB 4 a b tx tm ky lo hi = _
 unfold rightB
 simp only [show ¬((4 : Int) = 1) by decide, show ¬((4 : Int) = 2 ∨ (4 : Int) = 3) by decide, if_false, if_true]
theorem rightN_8 (a b : Int) (tx : ByteArray) (tm : List ByteArray) (ky : ByteArray) (lo hi : Int) : rightN ⟨8, a, b, tx, tm, ky, lo, hi⟩ = (Pure.keyB ky && decide (a = 0 ∧ b = 0 ∧ tx = ⟨#[]⟩ ∧ tm = [] ∧ hi = 0)) := by
 show rightB 8 a b tx tm ky lo hi = _
 unfold rightB
 rw [if_neg (by decide), if_neg (by decide), if_neg (by decide), if_neg (by decide), if_neg (by decide), if_pos (by decide)]
def nodeA : ND := ⟨4, 0, 0, ⟨#[]⟩, [⟨#[103, 101, 116]⟩, ⟨#[97]⟩], ⟨#[]⟩, 0, 0⟩
def nodeB : ND := ⟨8, 0, 0, ⟨#[]⟩, [], ⟨#[109, 115]⟩, 120, 0⟩
def lvA (n : ND) : Bool := if n.f0 = 4 then phraseB ((cutS none getLine).map bT) n.f4 else decide (n.f6 < 120)
theorem get_ms : field_Get.f 60 getLine ⟨#[109, 115]⟩ = some (⟨#[109, 115]⟩, 1, 120, ⟨#[]⟩, true) := by kernel_rfl
theorem formA : formedB [nodeA] 2 ⟨#[]⟩ 0 0 0 = true := by kernel_rfl
theorem formB : formedB [nodeB] 2 ⟨#[]⟩ 0 0 0 = true := by kernel_rfl
theorem heldA : holdsB lvA [nodeA] = true := by kernel_rfl
theorem heldB : holdsB lvA [nodeB] = false := by kernel_rfl
theorem asked_two (A : Option Addr) (n c : Nat) (W : World) : Calls Tryz.prog 60 #[.agg #[.slice A n c, .int .i64 2, .string ⟨#[]⟩, .int .i64 0, .int .i64 0, .int .i64 0]] W fun e w' => e = .returned (.bool (askedB 2 ⟨#[]⟩ 0 0 0)) ∧ Below W.heap.size W w' := asked_2 A n c ⟨#[]⟩ 0 0 0 W
theorem one_mem {α : Type} {x y : α} (h : x ∈ [y]) : x = y := by simpa using h
theorem HoldsA (g gt : Nat) (l : List Int) (s t : Int) (vl : Value) (w : World) (hl : LineIs w l vl) (hG : l = getLine) (hN : w.heap[g]? = some (.cells #[.int .i64 4, .int .i64 0, .int .i64 0, .string ⟨#[]⟩, .slice (some ⟨gt, 0, none⟩) 2 2, .string ⟨#[]⟩, .int .i64 0, .int .i64 0] 37 (0, 0))) (hT : w.heap[gt]? = some (.cells #[.string ⟨#[103, 101, 116]⟩, .string ⟨#[97]⟩] 9 (0, 0))) :
  Calls Tryz.prog 14 #[.agg #[.slice (some ⟨g, 0, none⟩) 1 1, .int .i64 2, .string ⟨#[]⟩, .int .i64 0, .int .i64 0, .int .i64 0], .agg #[.int .i64 s, .int .i64 t, vl]] w fun e w' => e = .returned (.tuple #[.bool true, .int .i64 0]) ∧ Below w.heap.size w w' := by
 subst hG
 have hC : Kd.string.C w (some ⟨gt, 0, none⟩) 2 nodeA.f4 := C_str rfl (by decide) (fun j u hj => by
  rw [WideShapes.add_plain, Nat.zero_add, blk_cell hT]
  match j, hj with
  | 0, hj => simp [nodeA] at hj; simp [hj]
  | 1, hj => simp [nodeA] at hj; simp [hj]
  | j + 2, hj => simp [nodeA] at hj)
 have hv : ∃ a n m, vl = .slice a n m := by obtain ⟨a, m, rfl, _⟩ := hl.out; exact ⟨_, _, _, rfl⟩
 have H := Holds_calls (some ⟨g, 0, none⟩) 1 [nodeA] 2 ⟨#[]⟩ 0 0 0 getLine s t vl lvA w hv
  (C_of hN [nodeA] (by decide) (fun j p hj => by
   match j, hj with
   | 0, hj => simp at hj; subst hj; exact k37_mk w nodeA (Nat.le_refl _) hC
   | j + 1, hj => simp at hj)) (Nat.le_refl _) (fun W => asked_two _ _ _ W)
  (fun n hn W A' c' h1 h2 => by obtain rfl := one_mem hn; rw [show rightN nodeA = _ from rightN_4 _ _ _ _ _ _ _]; exact right_4 _ _ _ A' c' _ _ _ _ W h1 h2 (by decide))
  (fun W hW n hn _ _ _ _ => by
   obtain rfl := one_mem hn
   obtain ⟨a, m, h1, h2, h3, h4⟩ := hl.out
   exact leafOK_phrase W getLine s t vl nodeA ⟨⟨a, m, h1, h2, Kd.C_below h3 hW, h4⟩⟩ rfl (by decide) (by decide))
 rw [formA, heldA] at H
 exact H
theorem HoldsB (g : Nat) (l : List Int) (s t : Int) (vl : Value) (w : World) (hX : FieldIn w) (hl : LineIs w l vl) (hG : l = getLine) (hN : w.heap[g]? = some (.cells #[.int .i64 8, .int .i64 0, .int .i64 0, .string ⟨#[]⟩, .slice none 0 0, .string ⟨#[109, 115]⟩, .int .i64 120, .int .i64 0] 37 (0, 0))) :
  Calls Tryz.prog 14 #[.agg #[.slice (some ⟨g, 0, none⟩) 1 1, .int .i64 2, .string ⟨#[]⟩, .int .i64 0, .int .i64 0, .int .i64 0], .agg #[.int .i64 s, .int .i64 t, vl]] w fun e w' => e = .returned (.tuple #[.bool false, .int .i64 0]) ∧ Below w.heap.size w w' := by
 subst hG
 have hv : ∃ a n m, vl = .slice a n m := by obtain ⟨a, m, rfl, _⟩ := hl.out; exact ⟨_, _, _, rfl⟩
 have H := Holds_calls (some ⟨g, 0, none⟩) 1 [nodeB] 2 ⟨#[]⟩ 0 0 0 getLine s t vl lvA w hv
  (C_of hN [nodeB] (by decide) (fun j p hj => by
   match j, hj with
   | 0, hj => simp at hj; subst hj; exact k37_mk w nodeB (Nat.le_refl _) (Kd.C_nil _ _)
   | j + 1, hj => simp at hj)) (Nat.le_refl _) (fun W => asked_two _ _ _ W)
  (fun n hn W A' c' h1 h2 => by obtain rfl := one_mem hn; rw [show rightN nodeB = _ from rightN_8 _ _ _ _ _ _ _]; exact right_8 _ _ _ A' c' _ _ _ _ W h1 h2 (by decide) (by decide))
  (fun W hW n hn _ _ _ _ => by
   obtain rfl := one_mem hn
   obtain ⟨a, m, h1, h2, h3, h4⟩ := hl.out
   exact leafOK_more W getLine s t vl nodeB ⟨⟨a, m, h1, h2, Kd.C_below h3 hW, h4⟩⟩ (hX.below hW) rfl get_ms)
 rw [formB, heldB] at H
 exact H
theorem alive20 (w : World) (hX : FieldIn w) :
  Calls Tryz.prog 13 #[] w fun e w' => e = .returned (.bool true) ∧ Below w.heap.size w w' := by
 obtain ⟨C, hC⟩ : ∃ C : Array Value, C = #[.int .u8 71, .int .u8 69, .int .u8 84, .int .u8 32, .int .u8 47, .int .u8 97, .int .u8 32, .int .u8 109, .int .u8 115, .int .u8 61, .int .u8 49, .int .u8 50, .int .u8 48] := ⟨_, rfl⟩
 have kc := Lib.run_convert_bytes_const (P := Tryz.prog) w 25 5 C 13 13 Tryz.underlying25 Tryz.underlying5
 have hb : Below w.heap.size w (w.alloc (.cells C 5 (C.size, C.size + 1))) := (Below.refl _ _).alloc (Nat.le_refl _) _
 have hR : Kd.C (Kd.int .u8) (w.alloc (.cells C 5 (C.size, C.size + 1))) (some ⟨w.heap.size, 0, none⟩) 13 getLine := by
  have hC2 : C = (getLine.map (Value.int .u8)).toArray := by rw [hC]; rfl
  refine ⟨rfl, by omega, fun _ => ⟨⟨w.heap.size, 0, none⟩, rfl, fun j p hj => ⟨[.int .u8 p], rfl, rfl, fun i u hi => ?_⟩⟩⟩
  obtain ⟨rfl, rfl⟩ : i = 0 ∧ u = .int .u8 p := by
   cases i with
   | zero => simp at hi; exact ⟨rfl, hi.symm⟩
   | succ i => simp at hi
  show _ = _
  rw [WideShapes.add_plain, show 0 + (j * (Kd.int .u8).sz + 0) = j by show 0 + (j * 1 + 0) = j; omega, World.cell?_alloc_mark, hC2]
  simp [hj]
 rw [hC] at kc hb hR
 clear hC
 have HR := Aside0.mk hR
 have HB := Aside0.mk hb
 clear hb hR
 go_enter Tryz.func13, Tryz.ntmps13
 go_wp2_with fail
 obtain ⟨w7, hw7⟩ : ∃ w7, w7 = (((((((w.alloc (Obj.cells #[.int .u8 71, .int .u8 69, .int .u8 84, .int .u8 32, .int .u8 47, .int .u8 97, .int .u8 32, .int .u8 109, .int .u8 115, .int .u8 61, .int .u8 49, .int .u8 50, .int .u8 48] 5 (13, 14))).alloc (Obj.cells #[.int .i64 0, .int .i64 0, .slice (some ⟨w.heap.size, 0, none⟩) 13 13] 27)).alloc (Obj.cells #[.string ⟨#[103, 101, 116]⟩, .string ⟨#[97]⟩] 9)).alloc (Obj.cells #[.int .i64 4, .int .i64 0, .int .i64 0, .string ⟨#[]⟩, .slice (some ⟨w.heap.size + 1 + 1, 0, none⟩) 2 2, .string ⟨#[]⟩, .int .i64 0, .int .i64 0] 37)).alloc (Obj.cells #[.slice (some ⟨w.heap.size + 1 + 1 + 1, 0, none⟩) 1 1, .int .i64 2, .string ⟨#[]⟩, .int .i64 0, .int .i64 0, .int .i64 0] 24)).alloc (Obj.cells #[.int .i64 8, .int .i64 0, .int .i64 0, .string ⟨#[]⟩, .slice none 0 0, .string ⟨#[109, 115]⟩, .int .i64 120, .int .i64 0] 37)).alloc (Obj.cells #[.slice (some ⟨w.heap.size + 1 + 1 + 1 + 1 + 1, 0, none⟩) 1 1, .int .i64 2, .string ⟨#[]⟩, .int .i64 0, .int .i64 0, .int .i64 0] 24)) := ⟨_, rfl⟩
 have H1 := Aside0.mk (show w7.heap[w.heap.size + 1]? = some (Obj.cells #[.int .i64 0, .int .i64 0, .slice (some ⟨w.heap.size, 0, none⟩) 13 13] 27 (0, 0)) by
  have h := blk_new (w.alloc (Obj.cells #[.int .u8 71, .int .u8 69, .int .u8 84, .int .u8 32, .int .u8 47, .int .u8 97, .int .u8 32, .int .u8 109, .int .u8 115, .int .u8 61, .int .u8 49, .int .u8 50, .int .u8 48] 5 (13, 14))) (Obj.cells #[.int .i64 0, .int .i64 0, .slice (some ⟨w.heap.size, 0, none⟩) 13 13] 27)
  simp only [World.size_alloc] at h
  rw [hw7]
  exact blk_alloc (blk_alloc (blk_alloc (blk_alloc (blk_alloc (h) _) _) _) _) _)
 have H2 := Aside0.mk (show w7.heap[w.heap.size + 1 + 1]? = some (Obj.cells #[.string ⟨#[103, 101, 116]⟩, .string ⟨#[97]⟩] 9 (0, 0)) by
  have h := blk_new ((w.alloc (Obj.cells #[.int .u8 71, .int .u8 69, .int .u8 84, .int .u8 32, .int .u8 47, .int .u8 97, .int .u8 32, .int .u8 109, .int .u8 115, .int .u8 61, .int .u8 49, .int .u8 50, .int .u8 48] 5 (13, 14))).alloc (Obj.cells #[.int .i64 0, .int .i64 0, .slice (some ⟨w.heap.size, 0, none⟩) 13 13] 27)) (Obj.cells #[.string ⟨#[103, 101, 116]⟩, .string ⟨#[97]⟩] 9)
  simp only [World.size_alloc] at h
  rw [hw7]
  exact blk_alloc (blk_alloc (blk_alloc (blk_alloc (h) _) _) _) _)
 have H3 := Aside0.mk (show w7.heap[w.heap.size + 1 + 1 + 1]? = some (Obj.cells #[.int .i64 4, .int .i64 0, .int .i64 0, .string ⟨#[]⟩, .slice (some ⟨w.heap.size + 1 + 1, 0, none⟩) 2 2, .string ⟨#[]⟩, .int .i64 0, .int .i64 0] 37 (0, 0)) by
  have h := blk_new (((w.alloc (Obj.cells #[.int .u8 71, .int .u8 69, .int .u8 84, .int .u8 32, .int .u8 47, .int .u8 97, .int .u8 32, .int .u8 109, .int .u8 115, .int .u8 61, .int .u8 49, .int .u8 50, .int .u8 48] 5 (13, 14))).alloc (Obj.cells #[.int .i64 0, .int .i64 0, .slice (some ⟨w.heap.size, 0, none⟩) 13 13] 27)).alloc (Obj.cells #[.string ⟨#[103, 101, 116]⟩, .string ⟨#[97]⟩] 9)) (Obj.cells #[.int .i64 4, .int .i64 0, .int .i64 0, .string ⟨#[]⟩, .slice (some ⟨w.heap.size + 1 + 1, 0, none⟩) 2 2, .string ⟨#[]⟩, .int .i64 0, .int .i64 0] 37)
  simp only [World.size_alloc] at h
  rw [hw7]
  exact blk_alloc (blk_alloc (blk_alloc (h) _) _) _)
 have H5 := Aside0.mk (show w7.heap[w.heap.size + 1 + 1 + 1 + 1 + 1]? = some (Obj.cells #[.int .i64 8, .int .i64 0, .int .i64 0, .string ⟨#[]⟩, .slice none 0 0, .string ⟨#[109, 115]⟩, .int .i64 120, .int .i64 0] 37 (0, 0)) by
  have h := blk_new (((((w.alloc (Obj.cells #[.int .u8 71, .int .u8 69, .int .u8 84, .int .u8 32, .int .u8 47, .int .u8 97, .int .u8 32, .int .u8 109, .int .u8 115, .int .u8 61, .int .u8 49, .int .u8 50, .int .u8 48] 5 (13, 14))).alloc (Obj.cells #[.int .i64 0, .int .i64 0, .slice (some ⟨w.heap.size, 0, none⟩) 13 13] 27)).alloc (Obj.cells #[.string ⟨#[103, 101, 116]⟩, .string ⟨#[97]⟩] 9)).alloc (Obj.cells #[.int .i64 4, .int .i64 0, .int .i64 0, .string ⟨#[]⟩, .slice (some ⟨w.heap.size + 1 + 1, 0, none⟩) 2 2, .string ⟨#[]⟩, .int .i64 0, .int .i64 0] 37)).alloc (Obj.cells #[.slice (some ⟨w.heap.size + 1 + 1 + 1, 0, none⟩) 1 1, .int .i64 2, .string ⟨#[]⟩, .int .i64 0, .int .i64 0, .int .i64 0] 24)) (Obj.cells #[.int .i64 8, .int .i64 0, .int .i64 0, .string ⟨#[]⟩, .slice none 0 0, .string ⟨#[109, 115]⟩, .int .i64 120, .int .i64 0] 37)
  simp only [World.size_alloc] at h
  rw [hw7]
  exact blk_alloc (h) _)
 have H6 := Aside0.mk (show w7.heap[w.heap.size + 1 + 1 + 1 + 1 + 1 + 1]? = some (Obj.cells #[.slice (some ⟨w.heap.size + 1 + 1 + 1 + 1 + 1, 0, none⟩) 1 1, .int .i64 2, .string ⟨#[]⟩, .int .i64 0, .int .i64 0, .int .i64 0] 24 (0, 0)) by
  have h := blk_new ((((((w.alloc (Obj.cells #[.int .u8 71, .int .u8 69, .int .u8 84, .int .u8 32, .int .u8 47, .int .u8 97, .int .u8 32, .int .u8 109, .int .u8 115, .int .u8 61, .int .u8 49, .int .u8 50, .int .u8 48] 5 (13, 14))).alloc (Obj.cells #[.int .i64 0, .int .i64 0, .slice (some ⟨w.heap.size, 0, none⟩) 13 13] 27)).alloc (Obj.cells #[.string ⟨#[103, 101, 116]⟩, .string ⟨#[97]⟩] 9)).alloc (Obj.cells #[.int .i64 4, .int .i64 0, .int .i64 0, .string ⟨#[]⟩, .slice (some ⟨w.heap.size + 1 + 1, 0, none⟩) 2 2, .string ⟨#[]⟩, .int .i64 0, .int .i64 0] 37)).alloc (Obj.cells #[.slice (some ⟨w.heap.size + 1 + 1 + 1, 0, none⟩) 1 1, .int .i64 2, .string ⟨#[]⟩, .int .i64 0, .int .i64 0, .int .i64 0] 24)).alloc (Obj.cells #[.int .i64 8, .int .i64 0, .int .i64 0, .string ⟨#[]⟩, .slice none 0 0, .string ⟨#[109, 115]⟩, .int .i64 120, .int .i64 0] 37)) (Obj.cells #[.slice (some ⟨w.heap.size + 1 + 1 + 1 + 1 + 1, 0, none⟩) 1 1, .int .i64 2, .string ⟨#[]⟩, .int .i64 0, .int .i64 0, .int .i64 0] 24)
  simp only [World.size_alloc] at h
  rw [hw7]
  exact h)
 have HB7 := Aside0.mk (show Below w.heap.size w w7 by rw [hw7]; repeat (first | exact Below.refl _ _ | apply below_alloc))
 have HL7 := Aside0.mk (show LineIs w7 getLine (.slice (some ⟨w.heap.size, 0, none⟩) 13 13) by
  refine ⟨⟨_, _, rfl, Nat.le_refl _, ?_, by decide, by decide⟩⟩
  rw [hw7]
  refine Kd.C_below HR.out ?_
  repeat (first | exact Below.refl _ _ | apply below_alloc))
 rw [← hw7]
 clear hw7 kc
 refine (HoldsA _ _ getLine 0 0 _ w7 HL7.out rfl H3.out H2.out).mono ?_
 rintro e w8 ⟨rfl, hb⟩
 have b1 := blk_below H1.out hb
 have r0 : w8.cell? ⟨w.heap.size + 1, 0, none⟩ = some (.int .i64 0) := (blk_cell b1 0).trans rfl
 have r1 : w8.cell? ⟨w.heap.size + 1, 1, none⟩ = some (.int .i64 0) := (blk_cell b1 1).trans rfl
 have r2 : w8.cell? ⟨w.heap.size + 1, 2, none⟩ = some (.slice (some ⟨w.heap.size, 0, none⟩) 13 13) := (blk_cell b1 2).trans rfl
 have b6 := blk_below H6.out hb
 have q0 : w8.cell? ⟨w.heap.size + 1 + 1 + 1 + 1 + 1 + 1, 0, none⟩ = some (.slice (some ⟨w.heap.size + 1 + 1 + 1 + 1 + 1, 0, none⟩) 1 1) := (blk_cell b6 0).trans rfl
 have q1 : w8.cell? ⟨w.heap.size + 1 + 1 + 1 + 1 + 1 + 1, 1, none⟩ = some (.int .i64 2) := (blk_cell b6 1).trans rfl
 have q2 : w8.cell? ⟨w.heap.size + 1 + 1 + 1 + 1 + 1 + 1, 2, none⟩ = some (.string ⟨#[]⟩) := (blk_cell b6 2).trans rfl
 have q3 : w8.cell? ⟨w.heap.size + 1 + 1 + 1 + 1 + 1 + 1, 3, none⟩ = some (.int .i64 0) := (blk_cell b6 3).trans rfl
 have q4 : w8.cell? ⟨w.heap.size + 1 + 1 + 1 + 1 + 1 + 1, 4, none⟩ = some (.int .i64 0) := (blk_cell b6 4).trans rfl
 have q5 : w8.cell? ⟨w.heap.size + 1 + 1 + 1 + 1 + 1 + 1, 5, none⟩ = some (.int .i64 0) := (blk_cell b6 5).trans rfl
 have H58 := Aside0.mk (blk_below H5.out hb)
 have HL8 := Aside0.mk (show LineIs w8 getLine (.slice (some ⟨w.heap.size, 0, none⟩) 13 13) by obtain ⟨a, m, h1, h2, h3, h4⟩ := HL7.out.out; exact ⟨⟨a, m, h1, h2, Kd.C_below h3 hb, h4⟩⟩)
 have HB8 := Aside0.mk (below_step HB7.out hb)
 have HX8 := Aside0.mk (hX.below HB8.out)
 clear b1 b6 hb hX
 go_wp2_with fail
 refine (HoldsB _ getLine 0 0 _ w8 HX8.out HL8.out rfl H58.out).mono ?_
 rintro e w9 ⟨rfl, hb⟩
 have HB9 := Aside0.mk (below_step HB8.out hb)
 clear hb
 go_wp2_with fail
 go_ret
 exact ⟨rfl, HB9.out⟩
def holdsV (ns : List ND) (k : Int) (ky : ByteArray) (wd sk mo : Int) (l : List Int) (t : Int) : Bool := formedB ns k ky wd sk mo && holdsB (lvN l t) ns
theorem pHolds_calls (A : Option Addr) (c : Nat) (ns : List ND) (k : Int) (ky : ByteArray) (wd sk mo : Int) (s t : Int) (AL : Option Addr) (cL : Nat) (l : List Int) (w : World) (hC : Kd.C k37 w A ns.length ns) (hc : ns.length ≤ c) (hCL : (Kd.int .u8).C w AL l.length l) (hcL : l.length ≤ cL) (hNL : AL = none → cL = 0) (hb : ∀ x ∈ l, 0 ≤ x ∧ x < 256) (hN : ns.length ≤ 1099511627776) (h4 : ∀ n ∈ ns, n.f4.length ≤ 1099511627776) (h5 : ∀ n ∈ ns, n.f5.size ≤ 9223372036854775807) (hky : ky.size ≤ 9223372036854775807) (hX : FieldIn w) (hl : l.length ≤ 1000000) :
  Calls Tryz.prog 14 #[.agg #[.slice A ns.length c, .int .i64 k, .string ky, .int .i64 wd, .int .i64 sk, .int .i64 mo], .agg #[.int .i64 s, .int .i64 t, .slice AL l.length cL]] w fun e w' => e = .returned (.tuple #[.bool (holdsV ns k ky wd sk mo l t), .int .i64 (if formedB ns k ky wd sk mo = true then 0 else 1)]) ∧ Below w.heap.size w w' :=
 Holds_calls A c ns k ky wd sk mo l s t (.slice AL l.length cL) (lvN l t) w ⟨_, _, _, rfl⟩ hC hc (fun W => asked_calls A ns.length c k ky wd sk mo W hky)
  (fun n hn W A' c' h1 h2 => right_calls n W A' c' h1 h2 (h4 n hn) (h5 n hn))
  (fun W hW n hn hr h10 h11 h12 => leafOK_lv W l s t _ n (LineN.below ⟨⟨AL, cL, rfl, hcL, hCL, hb, by omega, hNL⟩⟩ hW) (hX.below hW) (by omega) (h4 n hn) hr h10 h11 h12)
theorem rHolds_calls (A : Option Addr) (c : Nat) (ns : List ND) (k : Int) (ky : ByteArray) (wd sk mo : Int) (s t : Int) (AL : Option Addr) (cL : Nat) (l : List Int) (w : World) (hC : Kd.C k37 w A ns.length ns) (hc : ns.length ≤ c) (hCL : (Kd.int .u8).C w AL l.length l) (hcL : l.length ≤ cL) (hNL : AL = none → cL = 0) (hb : ∀ x ∈ l, 0 ≤ x ∧ x < 256) (hN : ns.length ≤ 1099511627776) (h4 : ∀ n ∈ ns, n.f4.length ≤ 1099511627776) (h5 : ∀ n ∈ ns, n.f5.size ≤ 9223372036854775807) (hky : ky.size ≤ 9223372036854775807) (hl : l.length ≤ 1000000) :
  Calls Tryz.prog 15 #[.agg #[.slice A ns.length c, .int .i64 k, .string ky, .int .i64 wd, .int .i64 sk, .int .i64 mo], .agg #[.int .i64 s, .int .i64 t, .slice AL l.length cL]] w fun e w' => e = .returned (.tuple #[.bool (holdsV ns k ky wd sk mo l t), .int .i64 (if formedB ns k ky wd sk mo = true then 0 else 1)]) ∧ Below w.heap.size w w' := by
 have HFM := Aside0.mk (fun (W : World) (hW : Below w.heap.size w W) => rformed_calls A c ns k ky wd sk mo W (Kd.C_below hC hW) hc hN h4 h5 hky)
 have HC := Aside0.mk hC
 have HCL := Aside0.mk hCL
 have HBY := Aside0.mk hb
 have H4 := Aside0.mk h4
 unfold holdsV
 obtain ⟨fb, hfb⟩ : ∃ fb, formedB ns k ky wd sk mo = fb := ⟨_, rfl⟩
 rw [hfb] at HFM ⊢
 have HFB := Aside0.mk hfb
 clear hfb hC hCL hb h4 h5 hky
 have HA0 := Aside0.mk (blk_alloc (blk_new w (Obj.cells #[.slice A ns.length c, .int .i64 k, .string ky, .int .i64 wd, .int .i64 sk, .int .i64 mo] 24)) (Obj.cells #[.int .i64 s, .int .i64 t, .slice AL l.length cL] 27))
 have hR0_ := blk_new (w.alloc (Obj.cells #[.slice A ns.length c, .int .i64 k, .string ky, .int .i64 wd, .int .i64 sk, .int .i64 mo] 24)) (Obj.cells #[.int .i64 s, .int .i64 t, .slice AL l.length cL] 27)
 rw [World.size_alloc] at hR0_
 have HR0 := Aside0.mk hR0_
 have HB0 := Aside0.mk (show Below w.heap.size w ((w.alloc (Obj.cells #[.slice A ns.length c, .int .i64 k, .string ky, .int .i64 wd, .int .i64 sk, .int .i64 mo] 24)).alloc (Obj.cells #[.int .i64 s, .int .i64 t, .slice AL l.length cL] 27)) from below_alloc (below_alloc (Below.refl _ _) _) _)
 clear hR0_
 go_enter Tryz.func15, Tryz.ntmps15
 go_wp2_with fail
 refine (HFM.out _ HB0.out).mono ?_
 rintro e w2 ⟨rfl, hb2⟩
 have HB2 := Aside0.mk (below_step HB0.out hb2)
 have hA_ := blk_below HA0.out hb2
 have hR_ := blk_below HR0.out hb2
 have a0 : w2.cell? ⟨w.heap.size, 0, none⟩ = some (.slice A ns.length c) := (blk_cell hA_ 0).trans rfl
 have a1 : w2.cell? ⟨w.heap.size, 1, none⟩ = some (.int .i64 k) := (blk_cell hA_ 1).trans rfl
 have a2 : w2.cell? ⟨w.heap.size, 2, none⟩ = some (.string ky) := (blk_cell hA_ 2).trans rfl
 have a3 : w2.cell? ⟨w.heap.size, 3, none⟩ = some (.int .i64 wd) := (blk_cell hA_ 3).trans rfl
 have a4 : w2.cell? ⟨w.heap.size, 4, none⟩ = some (.int .i64 sk) := (blk_cell hA_ 4).trans rfl
 have a5 : w2.cell? ⟨w.heap.size, 5, none⟩ = some (.int .i64 mo) := (blk_cell hA_ 5).trans rfl
 have r0 : w2.cell? ⟨w.heap.size + 1, 0, none⟩ = some (.int .i64 s) := (blk_cell hR_ 0).trans rfl
 have r1 : w2.cell? ⟨w.heap.size + 1, 1, none⟩ = some (.int .i64 t) := (blk_cell hR_ 1).trans rfl
 have r2 : w2.cell? ⟨w.heap.size + 1, 2, none⟩ = some (.slice AL l.length cL) := (blk_cell hR_ 2).trans rfl
 clear hA_ hR_
 clear hb2
 cases fb
 ·go_wp2_with fail
  go_ret2
  exact ⟨rfl, HB2.out⟩
 ·have HFA := Aside0.mk (formed_all HFB.out)
  obtain ⟨m, hm⟩ : ∃ m, ns.length - 1 = m := ⟨_, rfl⟩
  have HM := Aside0.mk hm
  have hnd := Node_calls A c ns l AL cL s t w HC.out HFA.out.1.2 H4.out HFA.out.2 HCL.out hcL HBY.out hl ns.length m (by have := HFA.out.1; omega) (by have := HFA.out.1; omega) w2 HB2.out
  rw [show ((m : Nat) : Int) = (ns.length : Int) - 1 by have := HFA.out.1; omega] at hnd
  have HND := Aside0.mk hnd
  clear hnd
  clear hm
  go_wp2_with fail
  refine HND.out.mono ?_
  rintro e w3 ⟨rfl, hb3⟩
  have HB3 := Aside0.mk (below_step HB2.out hb3)
  clear hb3
  go_wp2_with fail
  go_ret2
  exact ⟨by rw [treeB_last, HM.out]; rfl, HB3.out⟩
theorem lawHolds_calls (A : Option Addr) (c : Nat) (ns : List ND) (k : Int) (ky : ByteArray) (wd sk mo : Int) (s t : Int) (AL : Option Addr) (cL : Nat) (l : List Int) (w : World) (hC : Kd.C k37 w A ns.length ns) (hc : ns.length ≤ c) (hCL : (Kd.int .u8).C w AL l.length l) (hcL : l.length ≤ cL) (hNL : AL = none → cL = 0) (hb : ∀ x ∈ l, 0 ≤ x ∧ x < 256) (hN : ns.length ≤ 1099511627776) (h4 : ∀ n ∈ ns, n.f4.length ≤ 1099511627776) (h5 : ∀ n ∈ ns, n.f5.size ≤ 9223372036854775807) (hky : ky.size ≤ 9223372036854775807) (hX : FieldIn w) :
  Calls Tryz.prog 3 #[.agg #[.slice A ns.length c, .int .i64 k, .string ky, .int .i64 wd, .int .i64 sk, .int .i64 mo], .agg #[.int .i64 s, .int .i64 t, .slice AL l.length cL]] w fun e w' => e = .returned (.bool true) ∧ Below w.heap.size w w' := by
 have HAL := Aside0.mk (fun (W : World) (hW : Below w.heap.size w W) => alive20 W (hX.below hW))
 have HPH := Aside0.mk (fun (W : World) (hW : Below w.heap.size w W) (hl : l.length ≤ 1000000) => pHolds_calls A c ns k ky wd sk mo s t AL cL l W (Kd.C_below hC hW) hc (Kd.C_below hCL hW) hcL hNL hb hN h4 h5 hky (hX.below hW) hl)
 have HRH := Aside0.mk (fun (W : World) (hW : Below w.heap.size w W) (hl : l.length ≤ 1000000) => rHolds_calls A c ns k ky wd sk mo s t AL cL l W (Kd.C_below hC hW) hc (Kd.C_below hCL hW) hcL hNL hb hN h4 h5 hky hl)
 clear hC hCL hb h4 h5 hky hX hNL
 have HA0 := Aside0.mk (blk_alloc (blk_new w (Obj.cells #[.slice A ns.length c, .int .i64 k, .string ky, .int .i64 wd, .int .i64 sk, .int .i64 mo] 24)) (Obj.cells #[.int .i64 s, .int .i64 t, .slice AL l.length cL] 27))
 have hR0_ := blk_new (w.alloc (Obj.cells #[.slice A ns.length c, .int .i64 k, .string ky, .int .i64 wd, .int .i64 sk, .int .i64 mo] 24)) (Obj.cells #[.int .i64 s, .int .i64 t, .slice AL l.length cL] 27)
 rw [World.size_alloc] at hR0_
 have HR0 := Aside0.mk hR0_
 have HB0 := Aside0.mk (show Below w.heap.size w ((w.alloc (Obj.cells #[.slice A ns.length c, .int .i64 k, .string ky, .int .i64 wd, .int .i64 sk, .int .i64 mo] 24)).alloc (Obj.cells #[.int .i64 s, .int .i64 t, .slice AL l.length cL] 27)) from below_alloc (below_alloc (Below.refl _ _) _) _)
 clear hR0_
 go_enter Tryz.func3, Tryz.ntmps3
 go_wp2_with fail
 refine (HAL.out _ HB0.out).mono ?_
 rintro e w2 ⟨rfl, hb2⟩
 have HB2 := Aside0.mk (below_step HB0.out hb2)
 have HLT2 := Aside0.mk (blk_below HA0.out hb2)
 have HRT2 := Aside0.mk (blk_below HR0.out hb2)
 have hA_ := blk_below HA0.out hb2
 have hR_ := blk_below HR0.out hb2
 have a0 : w2.cell? ⟨w.heap.size, 0, none⟩ = some (.slice A ns.length c) := (blk_cell hA_ 0).trans rfl
 have a1 : w2.cell? ⟨w.heap.size, 1, none⟩ = some (.int .i64 k) := (blk_cell hA_ 1).trans rfl
 have a2 : w2.cell? ⟨w.heap.size, 2, none⟩ = some (.string ky) := (blk_cell hA_ 2).trans rfl
 have a3 : w2.cell? ⟨w.heap.size, 3, none⟩ = some (.int .i64 wd) := (blk_cell hA_ 3).trans rfl
 have a4 : w2.cell? ⟨w.heap.size, 4, none⟩ = some (.int .i64 sk) := (blk_cell hA_ 4).trans rfl
 have a5 : w2.cell? ⟨w.heap.size, 5, none⟩ = some (.int .i64 mo) := (blk_cell hA_ 5).trans rfl
 have r0 : w2.cell? ⟨w.heap.size + 1, 0, none⟩ = some (.int .i64 s) := (blk_cell hR_ 0).trans rfl
 have r1 : w2.cell? ⟨w.heap.size + 1, 1, none⟩ = some (.int .i64 t) := (blk_cell hR_ 1).trans rfl
 have r2 : w2.cell? ⟨w.heap.size + 1, 2, none⟩ = some (.slice AL l.length cL) := (blk_cell hR_ 2).trans rfl
 clear hA_ hR_
 clear hb2
 by_cases hl : l.length > 2000
 ·have d1 : decide ((2000 : Int) < (l.length : Int)) = true := decide_eq_true (by omega)
  go_wp2_with fail
  go_ret
  exact ⟨rfl, HB2.out⟩
 have d1 : decide ((2000 : Int) < (l.length : Int)) = false := decide_eq_false (by omega)
 have HPC := Aside0.mk (HPH.out _ HB2.out (by omega))
 obtain ⟨x, hx⟩ : ∃ x, holdsV ns k ky wd sk mo l t = x := ⟨_, rfl⟩
 obtain ⟨y, hy⟩ : ∃ y : Int, (if formedB ns k ky wd sk mo = true then 0 else 1) = y := ⟨_, rfl⟩
 have HRC := Aside0.mk (fun W hW => HRH.out W hW (by omega))
 rw [hx, hy] at HPC HRC
 clear hx hy HPH HRH hl
 go_wp2_with fail
 refine HPC.out.mono ?_
 rintro e w3 ⟨rfl, hb3⟩
 have HB3 := Aside0.mk (below_step HB2.out hb3)
 clear a0 a1 a2 a3 a4 a5 r0 r1 r2
 have hA_ := blk_below HLT2.out hb3
 have hR_ := blk_below HRT2.out hb3
 have a0 : w3.cell? ⟨w.heap.size, 0, none⟩ = some (.slice A ns.length c) := (blk_cell hA_ 0).trans rfl
 have a1 : w3.cell? ⟨w.heap.size, 1, none⟩ = some (.int .i64 k) := (blk_cell hA_ 1).trans rfl
 have a2 : w3.cell? ⟨w.heap.size, 2, none⟩ = some (.string ky) := (blk_cell hA_ 2).trans rfl
 have a3 : w3.cell? ⟨w.heap.size, 3, none⟩ = some (.int .i64 wd) := (blk_cell hA_ 3).trans rfl
 have a4 : w3.cell? ⟨w.heap.size, 4, none⟩ = some (.int .i64 sk) := (blk_cell hA_ 4).trans rfl
 have a5 : w3.cell? ⟨w.heap.size, 5, none⟩ = some (.int .i64 mo) := (blk_cell hA_ 5).trans rfl
 have r0 : w3.cell? ⟨w.heap.size + 1, 0, none⟩ = some (.int .i64 s) := (blk_cell hR_ 0).trans rfl
 have r1 : w3.cell? ⟨w.heap.size + 1, 1, none⟩ = some (.int .i64 t) := (blk_cell hR_ 1).trans rfl
 have r2 : w3.cell? ⟨w.heap.size + 1, 2, none⟩ = some (.slice AL l.length cL) := (blk_cell hR_ 2).trans rfl
 clear hA_ hR_
 clear hb3
 go_wp2_with fail
 refine (HRC.out _ HB3.out).mono ?_
 rintro e w4 ⟨rfl, hb4⟩
 have HB4 := Aside0.mk (below_step HB3.out hb4)
 clear hb4
 cases x
 all_goals (
  go_wp2_with fail
  go_ret
  refine ⟨?_, HB4.out⟩
  first | rfl | simp)
noncomputable def dragnetlaw20_MatchHolds.f (a : S24) (b : S27) : Option Bool := open Classical in if (∀ x ∈ b.f2, 0 ≤ x ∧ x < 256) ∧ a.f0.length ≤ 1099511627776 ∧ (∀ n ∈ a.f0, n.f4.length ≤ 1099511627776) ∧ (∀ n ∈ a.f0, n.f5.size ≤ 9223372036854775807) ∧ a.f2.size ≤ 9223372036854775807 then some true else none
theorem dragnetlaw20_MatchHolds.calls (a : S24) (b : S27) {A : Option Addr} {c : Nat} {AL : Option Addr} {cL : Nat} (w : World) (hC : Kd.C k37 w A a.f0.length a.f0) (hc : a.f0.length ≤ c) (hCL : (Kd.int .u8).C w AL b.f2.length b.f2) (hcL : b.f2.length ≤ cL) (hNL : AL = none → cL = 0) (h : dragnetlaw20_MatchHolds.f a b = some true) (hx : FieldIn w) :
  Calls Tryz.prog 3 #[.agg #[.slice A a.f0.length c, .int .i64 a.f1, .string a.f2, .int .i64 a.f3, .int .i64 a.f4, .int .i64 a.f5], .agg #[.int .i64 b.f0, .int .i64 b.f1, .slice AL b.f2.length cL]] w fun e w' => e = .returned (.bool true) ∧ Below w.heap.size w w' := by
 classical
 unfold dragnetlaw20_MatchHolds.f at h
 split at h
 ·rename_i hh
  exact lawHolds_calls A c a.f0 a.f1 a.f2 a.f3 a.f4 a.f5 b.f0 b.f1 AL cL b.f2 w hC hc hCL hcL hNL hh.1 hh.2.1 hh.2.2.1 hh.2.2.2.1 hh.2.2.2.2 hx
 ·cases h
end Go.Proofs.YtehaodbheifokaaGreatDoor.P
end
section
namespace Go.Proofs.YtehaodbheifokaaGreatDoor.Pure
open Go Go.RowKit Go.Proofs.YtehaodbheifokaaGreatDoor.P
theorem sum_mem {α : Type} (f : α → Nat) : ∀ (l : List α) (x : α), x ∈ l → f x ≤ Read.sumBulk f l
 | [], x, h => by cases h
 | y :: l, x, h => by
  simp only [Read.sumBulk]
  rcases List.mem_cons.1 h with rfl | h
  ·omega
  ·have := sum_mem f l x h; omega
theorem ask_bounds {x : S24} (hs : Read.bulkAsk x ≤ 1048576) : x.f0.length ≤ 1099511627776 ∧ (∀ n ∈ x.f0, n.f4.length ≤ 1099511627776) ∧ (∀ n ∈ x.f0, n.f5.size ≤ 9223372036854775807) ∧ x.f2.size ≤ 9223372036854775807 := by
 unfold Read.bulkAsk at hs
 have h1 := Read.sum_len Read.bulkNode (fun n => by unfold Read.bulkNode; omega) x.f0
 have hm := sum_mem Read.bulkNode x.f0
 generalize Read.sumBulk Read.bulkNode x.f0 = z at h1 hm hs
 refine ⟨by omega, fun n hn => ?_, fun n hn => ?_, by omega⟩
 ·have h2 := hm n hn
  unfold Read.bulkNode at h2
  have h3 := Read.sum_len (fun s : ByteArray => s.size + 1) (fun s => by omega) n.f4
  omega
 ·have h2 := hm n hn
  unfold Read.bulkNode at h2
  omega
theorem line_bytes {x : S27} (h : Read.okRow x) : ∀ z ∈ x.f2, 0 ≤ z ∧ z < 256 := by
 intro z hz
 have h2 := h.2.2 z hz
 simp [Lit.wf, IntKind.min, IntKind.max, IntKind.signed, IntKind.bits] at h2
 omega
theorem MatchHolds (x0 : S24) (x1 : S27) (h0 : Read.okAsk x0) (h1 : Read.okRow x1) (hs : Read.bulkAsk x0 + Read.bulkRow x1 ≤ 1048576) : dragnetlaw20_MatchHolds.f x0 x1 = some true := by
 unfold dragnetlaw20_MatchHolds.f
 exact if_pos ⟨line_bytes h1, ask_bounds (by omega)⟩
end Go.Proofs.YtehaodbheifokaaGreatDoor.Pure
end
section
namespace Go.Proofs.YtehaodbheifokaaGreatDoor.P
open Go Go.Lib Go.RowKit Go.Shelf Go.Proofs.YtehaodbheifokaaGreatDoorW.PrintWords Go.Proofs.YtehaodbheifokaaGreatDoorW.PrintLast
def renU8 : Ren := ⟨fun n => n, fun | 5 => 5 | 119 => 203 | 138 => 205 | 139 => 206 | n => n, fun | 3 => 2 | 4 => 3 | n => n⟩
theorem star : "*" ++ "errors.errorString" = "*errors.errorString" := by decide
theorem rowErr (u : TypeId) (h : Tryz.prog.typeName? 3 u = some "*errors.errorString") : u = 222 :=
 typeName_ptr_named (nm := "errors.errorString") (by rw [star]; kernel_rfl) (by kernel_rfl) (by decide) u (by rw [star]; exact h)
theorem max_of_shape {w : World} (h : w.ShapedOpen Tryz.prog) : ∃ m, w.cell? ⟨0, 0, none⟩ = some (.int .i64 m) := by
 have h0 : ((begin Tryz.prog (fun _ _ => 0) default).world.heap[0]?).bind Obj.row? = some (#[.int .i64 0], 3) := by kernel_rfl
 obtain ⟨cs, hh, hs, hr⟩ := h.1 0 #[.int .i64 0] 3 (of_decide_eq_true (by kernel_rfl)) h0
 obtain ⟨ts, hts, _, hall⟩ := hr (by kernel_rfl)
 have hc : Tryz.prog.cellTypes Tryz.prog.depth 3 = some [3] := by kernel_rfl
 rw [hc] at hts
 cases hts
 have h1 : 0 < cs.size := by rw [hs]; decide
 obtain ⟨v0, hv0⟩ : ∃ v0, cs[0]? = some v0 := ⟨cs[0]'h1, Array.getElem?_eq_getElem h1⟩
 obtain ⟨u, hu', hok⟩ := hall 0 v0 hv0
 obtain rfl : u = 3 := by simpa using hu'.symm
 have hcell : w.cell? ⟨0, 0, none⟩ = some v0 := by simp [World.cell?, hh, hv0]
 rw [hcell]
 unfold Cell.ok at hok
 rw [Tryz.underlying3] at hok
 clear hall hr hcell
 cases v0 <;> simp at hok
 obtain ⟨rfl, _⟩ := hok
 exact ⟨_, rfl⟩
theorem dF : (firstData : DataW Unit) = Rows.laid_unicode_utf8_first := by kernel_rfl
theorem dA : (acceptData : DataW Unit) = Rows.laid_unicode_utf8_acceptRanges := by kernel_rfl
theorem FieldIn.of {w : World} (hL : laidMetH Tryz.prog Rows.matchTimesUptoRow.laid w) (hS : w.ShapedOpen Tryz.prog) : FieldIn w := by
 have h : laidMet Tryz.prog Rows.matchTimesUptoRow.laid w := hL
 obtain ⟨a1, t1, hv1, _⟩ := laid_sentinel (g := 5) h.tail.tail.tail.tail (by kernel_rfl) (by kernel_rfl) Tryz.underlying187 rowErr Tryz.underlying222 Tryz.underlying224 rfl rfl Tryz.underlying9 (by kernel_rfl) (by kernel_rfl)
 obtain ⟨a2, t2, hv2, _⟩ := laid_sentinel (g := 4) h.tail.tail.tail.tail.tail (by kernel_rfl) (by kernel_rfl) Tryz.underlying187 rowErr Tryz.underlying222 Tryz.underlying224 rfl rfl Tryz.underlying9 (by kernel_rfl) (by kernel_rfl)
 refine ⟨?_, ?_, ?_, max_of_shape hS, ?_⟩
 ·exact Lib.tabIs_of_head (t := 201) (e := 142) (n := 20) (g := 1) (by kernel_rfl) (by kernel_rfl) Tryz.underlying201 (by kernel_rfl) (by kernel_rfl) (by kernel_rfl) h.tail.tail
 ·exact ⟨_, _, by have h0 := World.var?_cell (show Tryz.prog.globalNamed "strconv.ErrSyntax" = some 4 by kernel_rfl) hv2 0; simpa using h0⟩
 ·exact ⟨_, _, by have h0 := World.var?_cell (show Tryz.prog.globalNamed "strconv.ErrRange" = some 5 by kernel_rfl) hv1 0; simpa using h0⟩
 ·exact utf8Tabs_of_readsT (ρ := renU8) ⟨Tryz.underlying5, Tryz.underlying203, Tryz.underlying205, Tryz.underlying206⟩ ⟨by kernel_rfl, by kernel_rfl, by kernel_rfl, by kernel_rfl, by kernel_rfl, by kernel_rfl, by kernel_rfl⟩
   (by rw [dF]; exact Lib.laidMet.reads h (by simp [Rows.matchTimesUptoRow])) (by rw [dA]; exact Lib.laidMet.reads h (by simp [Rows.matchTimesUptoRow]))
end Go.Proofs.YtehaodbheifokaaGreatDoor.P
end
