/- Joined by wip/tools/pack.py, pruned: AliveM20. -/
import Derived.Test.YtehaodbheifokaaGreatDoorMs11
import Derived.Test.YtehaodbheifokaaGreatDoorMs14
import Derived.Lib.SlBytesConst
set_option maxHeartbeats 8000000
set_option maxRecDepth 100000
set_option linter.unusedVariables false
set_option linter.unusedSimpArgs false
section
namespace Go.Proofs.YtehaodbheifokaaGreatDoor.P
open Go Go.RowKit Go.Proofs.YtehaodbheifokaaGreatDoorW.PrintWords Go.Proofs.YtehaodbheifokaaGreatDoorW.PrintLast Go.Proofs.YtehaodbheifokaaGreatDoorW.PrintMore
attribute [local go_sem] max2_int min2_int max_two min_two
def getLine : List Int := [71, 69, 84, 32, 47, 97, 32, 109, 115, 61, 49, 50, 48]
theorem C_of {W : World} {g : Nat} {arr : Array Value} (h : W.heap[g]? = some (.cells arr 37 (0, 0))) (ns : List ND) (hn : ns.length ≤ 64) (hk : ∀ (j : Nat) p, ns[j]? = some p → k37.K W p ((arr.toList.drop (j * 8)).take 8)) : Kd.C k37 W (some ⟨g, 0, none⟩) ns.length ns := by
 refine ⟨rfl, by omega, fun _ => ⟨⟨g, 0, none⟩, rfl, fun j p hj => ⟨(arr.toList.drop (j * 8)).take 8, k37.K_len (hk j p hj), hk j p hj, fun i u hi => ?_⟩⟩⟩
 show W.cell? (Addr.add ⟨g, 0, none⟩ (j * 8 + i)) = some u
 have hi8 : i < 8 := by have := (List.getElem?_eq_some_iff.1 hi).1; rw [List.length_take] at this; omega
 rw [List.getElem?_take_of_lt hi8, List.getElem?_drop, Array.getElem?_toList] at hi
 rw [WideShapes.add_plain, Nat.zero_add, blk_cell h]
 exact hi
theorem rightN_4 (a b : Int) (tx : ByteArray) (tm : List ByteArray) (ky : ByteArray) (lo hi : Int) : rightN ⟨4, a, b, tx, tm, ky, lo, hi⟩ = (decide (0 < tm.length) && tm.all tokB && decide (a = 0 ∧ b = 0 ∧ tx = ⟨#[]⟩ ∧ ky = ⟨#[]⟩ ∧ lo = 0 ∧ hi = 0)) := by
 show rightB 4 a b tx tm ky lo hi = _
 unfold rightB
 simp only [show ¬((4 : Int) = 1) by decide, show ¬((4 : Int) = 2 ∨ (4 : Int) = 3) by decide, if_false, if_true]
theorem rightN_8 (a b : Int) (tx : ByteArray) (tm : List ByteArray) (ky : ByteArray) (lo hi : Int) : rightN ⟨8, a, b, tx, tm, ky, lo, hi⟩ = (Pure.keyB ky && decide (a = 0 ∧ b = 0 ∧ tx = ⟨#[]⟩ ∧ tm = [] ∧ hi = 0)) := by
 show rightB 8 a b tx tm ky lo hi = _
 unfold rightB
 rw [if_neg (by decide), if_neg (by decide), if_neg (by decide), if_neg (by decide), if_neg (by decide), if_pos (by decide)]
def nodeA : ND := ⟨4, 0, 0, ⟨#[]⟩, [⟨#[103, 101, 116]⟩, ⟨#[97]⟩], ⟨#[]⟩, 0, 0⟩
def nodeB : ND := ⟨8, 0, 0, ⟨#[]⟩, [], ⟨#[109, 115]⟩, 120, 0⟩
def lvA (n : ND) : Bool := if n.f0 = 4 then phraseB ((cutS none getLine).map bT) n.f4 else decide (n.f6 < 120)
theorem get_ms : field_Get.f 60 getLine ⟨#[109, 115]⟩ = some (⟨#[109, 115]⟩, 1, 120, ⟨#[]⟩, true) := by kernel_rfl
theorem formA : formedB [nodeA] 2 ⟨#[]⟩ 0 0 0 = true := by kernel_rfl
theorem formB : formedB [nodeB] 2 ⟨#[]⟩ 0 0 0 = true := by kernel_rfl
theorem heldA : holdsB lvA [nodeA] = true := by kernel_rfl
theorem heldB : holdsB lvA [nodeB] = false := by kernel_rfl
theorem asked_two (A : Option Addr) (n c : Nat) (W : World) : Calls Tryz.prog 60 #[.agg #[.slice A n c, .int .i64 2, .string ⟨#[]⟩, .int .i64 0, .int .i64 0, .int .i64 0]] W fun e w' => e = .returned (.bool (askedB 2 ⟨#[]⟩ 0 0 0)) ∧ Below W.heap.size W w' := asked_2 A n c ⟨#[]⟩ 0 0 0 W
theorem one_mem {α : Type} {x y : α} (h : x ∈ [y]) : x = y := by simpa using h
theorem HoldsA (g gt : Nat) (l : List Int) (s t : Int) (vl : Value) (w : World) (hl : LineIs w l vl) (hG : l = getLine) (hN : w.heap[g]? = some (.cells #[.int .i64 4, .int .i64 0, .int .i64 0, .string ⟨#[]⟩, .slice (some ⟨gt, 0, none⟩) 2 2, .string ⟨#[]⟩, .int .i64 0, .int .i64 0] 37 (0, 0))) (hT : w.heap[gt]? = some (.cells #[.string ⟨#[103, 101, 116]⟩, .string ⟨#[97]⟩] 9 (0, 0))) :
  Calls Tryz.prog 14 #[.agg #[.slice (some ⟨g, 0, none⟩) 1 1, .int .i64 2, .string ⟨#[]⟩, .int .i64 0, .int .i64 0, .int .i64 0], .agg #[.int .i64 s, .int .i64 t, vl]] w fun e w' => e = .returned (.tuple #[.bool true, .int .i64 0]) ∧ Below w.heap.size w w' := by
 subst hG
 have hC : Kd.string.C w (some ⟨gt, 0, none⟩) 2 nodeA.f4 := C_str rfl (by decide) (fun j u hj => by
  rw [WideShapes.add_plain, Nat.zero_add, blk_cell hT]
  match j, hj with
  | 0, hj => simp [nodeA] at hj; simp [hj]
  | 1, hj => simp [nodeA] at hj; simp [hj]
  | j + 2, hj => simp [nodeA] at hj)
 have hv : ∃ a n m, vl = .slice a n m := by obtain ⟨a, m, rfl, _⟩ := hl.out; exact ⟨_, _, _, rfl⟩
 have H := Holds_calls (some ⟨g, 0, none⟩) 1 [nodeA] 2 ⟨#[]⟩ 0 0 0 getLine s t vl lvA w hv
  (C_of hN [nodeA] (by decide) (fun j p hj => by
   match j, hj with
   | 0, hj => simp at hj; subst hj; exact k37_mk w nodeA (Nat.le_refl _) hC
   | j + 1, hj => simp at hj)) (Nat.le_refl _) (fun W => asked_two _ _ _ W)
  (fun n hn W A' c' h1 h2 => by obtain rfl := one_mem hn; rw [show rightN nodeA = _ from rightN_4 _ _ _ _ _ _ _]; exact right_4 _ _ _ A' c' _ _ _ _ W h1 h2 (by decide))
  (fun W hW n hn _ _ _ _ => by
   obtain rfl := one_mem hn
   obtain ⟨a, m, h1, h2, h3, h4⟩ := hl.out
   exact leafOK_phrase W getLine s t vl nodeA ⟨⟨a, m, h1, h2, Kd.C_below h3 hW, h4⟩⟩ rfl (by decide) (by decide))
 rw [formA, heldA] at H
 exact H
theorem HoldsB (g : Nat) (l : List Int) (s t : Int) (vl : Value) (w : World) (hX : FieldIn w) (hl : LineIs w l vl) (hG : l = getLine) (hN : w.heap[g]? = some (.cells #[.int .i64 8, .int .i64 0, .int .i64 0, .string ⟨#[]⟩, .slice none 0 0, .string ⟨#[109, 115]⟩, .int .i64 120, .int .i64 0] 37 (0, 0))) :
  Calls Tryz.prog 14 #[.agg #[.slice (some ⟨g, 0, none⟩) 1 1, .int .i64 2, .string ⟨#[]⟩, .int .i64 0, .int .i64 0, .int .i64 0], .agg #[.int .i64 s, .int .i64 t, vl]] w fun e w' => e = .returned (.tuple #[.bool false, .int .i64 0]) ∧ Below w.heap.size w w' := by
 subst hG
 have hv : ∃ a n m, vl = .slice a n m := by obtain ⟨a, m, rfl, _⟩ := hl.out; exact ⟨_, _, _, rfl⟩
 have H := Holds_calls (some ⟨g, 0, none⟩) 1 [nodeB] 2 ⟨#[]⟩ 0 0 0 getLine s t vl lvA w hv
  (C_of hN [nodeB] (by decide) (fun j p hj => by
   match j, hj with
   | 0, hj => simp at hj; subst hj; exact k37_mk w nodeB (Nat.le_refl _) (Kd.C_nil _ _)
   | j + 1, hj => simp at hj)) (Nat.le_refl _) (fun W => asked_two _ _ _ W)
  (fun n hn W A' c' h1 h2 => by obtain rfl := one_mem hn; rw [show rightN nodeB = _ from rightN_8 _ _ _ _ _ _ _]; exact right_8 _ _ _ A' c' _ _ _ _ W h1 h2 (by decide) (by decide))
  (fun W hW n hn _ _ _ _ => by
   obtain rfl := one_mem hn
   obtain ⟨a, m, h1, h2, h3, h4⟩ := hl.out
   exact leafOK_more W getLine s t vl nodeB ⟨⟨a, m, h1, h2, Kd.C_below h3 hW, h4⟩⟩ (hX.below hW) rfl get_ms)
 rw [formB, heldB] at H
 exact H
theorem alive20 (w : World) (hX : FieldIn w) :
  Calls Tryz.prog 13 #[] w fun e w' => e = .returned (.bool true) ∧ Below w.heap.size w w' := by
 obtain ⟨C, hC⟩ : ∃ C : Array Value, C = #[.int .u8 71, .int .u8 69, .int .u8 84, .int .u8 32, .int .u8 47, .int .u8 97, .int .u8 32, .int .u8 109, .int .u8 115, .int .u8 61, .int .u8 49, .int .u8 50, .int .u8 48] := ⟨_, rfl⟩
 have kc := Lib.run_convert_bytes_const (P := Tryz.prog) w 25 5 C 13 13 Tryz.underlying25 Tryz.underlying5
 have hb : Below w.heap.size w (w.alloc (.cells C 5 (C.size, C.size + 1))) := (Below.refl _ _).alloc (Nat.le_refl _) _
 have hR : Kd.C (Kd.int .u8) (w.alloc (.cells C 5 (C.size, C.size + 1))) (some ⟨w.heap.size, 0, none⟩) 13 getLine := by
  have hC2 : C = (getLine.map (Value.int .u8)).toArray := by rw [hC]; rfl
  refine ⟨rfl, by omega, fun _ => ⟨⟨w.heap.size, 0, none⟩, rfl, fun j p hj => ⟨[.int .u8 p], rfl, rfl, fun i u hi => ?_⟩⟩⟩
  obtain ⟨rfl, rfl⟩ : i = 0 ∧ u = .int .u8 p := by
   cases i with
   | zero => simp at hi; exact ⟨rfl, hi.symm⟩
   | succ i => simp at hi
  show _ = _
  rw [WideShapes.add_plain, show 0 + (j * (Kd.int .u8).sz + 0) = j by show 0 + (j * 1 + 0) = j; omega, World.cell?_alloc_mark, hC2]
  simp [hj]
 rw [hC] at kc hb hR
 clear hC
 have HR := Aside0.mk hR
 have HB := Aside0.mk hb
 clear hb hR
 go_enter Tryz.func13, Tryz.ntmps13
 go_wp2_with fail
 obtain ⟨w7, hw7⟩ : ∃ w7, w7 = (((((((w.alloc (Obj.cells #[.int .u8 71, .int .u8 69, .int .u8 84, .int .u8 32, .int .u8 47, .int .u8 97, .int .u8 32, .int .u8 109, .int .u8 115, .int .u8 61, .int .u8 49, .int .u8 50, .int .u8 48] 5 (13, 14))).alloc (Obj.cells #[.int .i64 0, .int .i64 0, .slice (some ⟨w.heap.size, 0, none⟩) 13 13] 27)).alloc (Obj.cells #[.string ⟨#[103, 101, 116]⟩, .string ⟨#[97]⟩] 9)).alloc (Obj.cells #[.int .i64 4, .int .i64 0, .int .i64 0, .string ⟨#[]⟩, .slice (some ⟨w.heap.size + 1 + 1, 0, none⟩) 2 2, .string ⟨#[]⟩, .int .i64 0, .int .i64 0] 37)).alloc (Obj.cells #[.slice (some ⟨w.heap.size + 1 + 1 + 1, 0, none⟩) 1 1, .int .i64 2, .string ⟨#[]⟩, .int .i64 0, .int .i64 0, .int .i64 0] 24)).alloc (Obj.cells #[.int .i64 8, .int .i64 0, .int .i64 0, .string ⟨#[]⟩, .slice none 0 0, .string ⟨#[109, 115]⟩, .int .i64 120, .int .i64 0] 37)).alloc (Obj.cells #[.slice (some ⟨w.heap.size + 1 + 1 + 1 + 1 + 1, 0, none⟩) 1 1, .int .i64 2, .string ⟨#[]⟩, .int .i64 0, .int .i64 0, .int .i64 0] 24)) := ⟨_, rfl⟩
 have H1 := Aside0.mk (show w7.heap[w.heap.size + 1]? = some (Obj.cells #[.int .i64 0, .int .i64 0, .slice (some ⟨w.heap.size, 0, none⟩) 13 13] 27 (0, 0)) by
  have h := blk_new (w.alloc (Obj.cells #[.int .u8 71, .int .u8 69, .int .u8 84, .int .u8 32, .int .u8 47, .int .u8 97, .int .u8 32, .int .u8 109, .int .u8 115, .int .u8 61, .int .u8 49, .int .u8 50, .int .u8 48] 5 (13, 14))) (Obj.cells #[.int .i64 0, .int .i64 0, .slice (some ⟨w.heap.size, 0, none⟩) 13 13] 27)
  simp only [World.size_alloc] at h
  rw [hw7]
  exact blk_alloc (blk_alloc (blk_alloc (blk_alloc (blk_alloc (h) _) _) _) _) _)
 have H2 := Aside0.mk (show w7.heap[w.heap.size + 1 + 1]? = some (Obj.cells #[.string ⟨#[103, 101, 116]⟩, .string ⟨#[97]⟩] 9 (0, 0)) by
  have h := blk_new ((w.alloc (Obj.cells #[.int .u8 71, .int .u8 69, .int .u8 84, .int .u8 32, .int .u8 47, .int .u8 97, .int .u8 32, .int .u8 109, .int .u8 115, .int .u8 61, .int .u8 49, .int .u8 50, .int .u8 48] 5 (13, 14))).alloc (Obj.cells #[.int .i64 0, .int .i64 0, .slice (some ⟨w.heap.size, 0, none⟩) 13 13] 27)) (Obj.cells #[.string ⟨#[103, 101, 116]⟩, .string ⟨#[97]⟩] 9)
  simp only [World.size_alloc] at h
  rw [hw7]
  exact blk_alloc (blk_alloc (blk_alloc (blk_alloc (h) _) _) _) _)
 have H3 := Aside0.mk (show w7.heap[w.heap.size + 1 + 1 + 1]? = some (Obj.cells #[.int .i64 4, .int .i64 0, .int .i64 0, .string ⟨#[]⟩, .slice (some ⟨w.heap.size + 1 + 1, 0, none⟩) 2 2, .string ⟨#[]⟩, .int .i64 0, .int .i64 0] 37 (0, 0)) by
  have h := blk_new (((w.alloc (Obj.cells #[.int .u8 71, .int .u8 69, .int .u8 84, .int .u8 32, .int .u8 47, .int .u8 97, .int .u8 32, .int .u8 109, .int .u8 115, .int .u8 61, .int .u8 49, .int .u8 50, .int .u8 48] 5 (13, 14))).alloc (Obj.cells #[.int .i64 0, .int .i64 0, .slice (some ⟨w.heap.size, 0, none⟩) 13 13] 27)).alloc (Obj.cells #[.string ⟨#[103, 101, 116]⟩, .string ⟨#[97]⟩] 9)) (Obj.cells #[.int .i64 4, .int .i64 0, .int .i64 0, .string ⟨#[]⟩, .slice (some ⟨w.heap.size + 1 + 1, 0, none⟩) 2 2, .string ⟨#[]⟩, .int .i64 0, .int .i64 0] 37)
  simp only [World.size_alloc] at h
  rw [hw7]
  exact blk_alloc (blk_alloc (blk_alloc (h) _) _) _)
 have H5 := Aside0.mk (show w7.heap[w.heap.size + 1 + 1 + 1 + 1 + 1]? = some (Obj.cells #[.int .i64 8, .int .i64 0, .int .i64 0, .string ⟨#[]⟩, .slice none 0 0, .string ⟨#[109, 115]⟩, .int .i64 120, .int .i64 0] 37 (0, 0)) by
  have h := blk_new (((((w.alloc (Obj.cells #[.int .u8 71, .int .u8 69, .int .u8 84, .int .u8 32, .int .u8 47, .int .u8 97, .int .u8 32, .int .u8 109, .int .u8 115, .int .u8 61, .int .u8 49, .int .u8 50, .int .u8 48] 5 (13, 14))).alloc (Obj.cells #[.int .i64 0, .int .i64 0, .slice (some ⟨w.heap.size, 0, none⟩) 13 13] 27)).alloc (Obj.cells #[.string ⟨#[103, 101, 116]⟩, .string ⟨#[97]⟩] 9)).alloc (Obj.cells #[.int .i64 4, .int .i64 0, .int .i64 0, .string ⟨#[]⟩, .slice (some ⟨w.heap.size + 1 + 1, 0, none⟩) 2 2, .string ⟨#[]⟩, .int .i64 0, .int .i64 0] 37)).alloc (Obj.cells #[.slice (some ⟨w.heap.size + 1 + 1 + 1, 0, none⟩) 1 1, .int .i64 2, .string ⟨#[]⟩, .int .i64 0, .int .i64 0, .int .i64 0] 24)) (Obj.cells #[.int .i64 8, .int .i64 0, .int .i64 0, .string ⟨#[]⟩, .slice none 0 0, .string ⟨#[109, 115]⟩, .int .i64 120, .int .i64 0] 37)
  simp only [World.size_alloc] at h
  rw [hw7]
  exact blk_alloc (h) _)
 have H6 := Aside0.mk (show w7.heap[w.heap.size + 1 + 1 + 1 + 1 + 1 + 1]? = some (Obj.cells #[.slice (some ⟨w.heap.size + 1 + 1 + 1 + 1 + 1, 0, none⟩) 1 1, .int .i64 2, .string ⟨#[]⟩, .int .i64 0, .int .i64 0, .int .i64 0] 24 (0, 0)) by
  have h := blk_new ((((((w.alloc (Obj.cells #[.int .u8 71, .int .u8 69, .int .u8 84, .int .u8 32, .int .u8 47, .int .u8 97, .int .u8 32, .int .u8 109, .int .u8 115, .int .u8 61, .int .u8 49, .int .u8 50, .int .u8 48] 5 (13, 14))).alloc (Obj.cells #[.int .i64 0, .int .i64 0, .slice (some ⟨w.heap.size, 0, none⟩) 13 13] 27)).alloc (Obj.cells #[.string ⟨#[103, 101, 116]⟩, .string ⟨#[97]⟩] 9)).alloc (Obj.cells #[.int .i64 4, .int .i64 0, .int .i64 0, .string ⟨#[]⟩, .slice (some ⟨w.heap.size + 1 + 1, 0, none⟩) 2 2, .string ⟨#[]⟩, .int .i64 0, .int .i64 0] 37)).alloc (Obj.cells #[.slice (some ⟨w.heap.size + 1 + 1 + 1, 0, none⟩) 1 1, .int .i64 2, .string ⟨#[]⟩, .int .i64 0, .int .i64 0, .int .i64 0] 24)).alloc (Obj.cells #[.int .i64 8, .int .i64 0, .int .i64 0, .string ⟨#[]⟩, .slice none 0 0, .string ⟨#[109, 115]⟩, .int .i64 120, .int .i64 0] 37)) (Obj.cells #[.slice (some ⟨w.heap.size + 1 + 1 + 1 + 1 + 1, 0, none⟩) 1 1, .int .i64 2, .string ⟨#[]⟩, .int .i64 0, .int .i64 0, .int .i64 0] 24)
  simp only [World.size_alloc] at h
  rw [hw7]
  exact h)
 have HB7 := Aside0.mk (show Below w.heap.size w w7 by rw [hw7]; repeat (first | exact Below.refl _ _ | apply below_alloc))
 have HL7 := Aside0.mk (show LineIs w7 getLine (.slice (some ⟨w.heap.size, 0, none⟩) 13 13) by
  refine ⟨⟨_, _, rfl, Nat.le_refl _, ?_, by decide, by decide⟩⟩
  rw [hw7]
  refine Kd.C_below HR.out ?_
  repeat (first | exact Below.refl _ _ | apply below_alloc))
 rw [← hw7]
 clear hw7 kc
 refine (HoldsA _ _ getLine 0 0 _ w7 HL7.out rfl H3.out H2.out).mono ?_
 rintro e w8 ⟨rfl, hb⟩
 have b1 := blk_below H1.out hb
 have r0 : w8.cell? ⟨w.heap.size + 1, 0, none⟩ = some (.int .i64 0) := (blk_cell b1 0).trans rfl
 have r1 : w8.cell? ⟨w.heap.size + 1, 1, none⟩ = some (.int .i64 0) := (blk_cell b1 1).trans rfl
 have r2 : w8.cell? ⟨w.heap.size + 1, 2, none⟩ = some (.slice (some ⟨w.heap.size, 0, none⟩) 13 13) := (blk_cell b1 2).trans rfl
 have b6 := blk_below H6.out hb
 have q0 : w8.cell? ⟨w.heap.size + 1 + 1 + 1 + 1 + 1 + 1, 0, none⟩ = some (.slice (some ⟨w.heap.size + 1 + 1 + 1 + 1 + 1, 0, none⟩) 1 1) := (blk_cell b6 0).trans rfl
 have q1 : w8.cell? ⟨w.heap.size + 1 + 1 + 1 + 1 + 1 + 1, 1, none⟩ = some (.int .i64 2) := (blk_cell b6 1).trans rfl
 have q2 : w8.cell? ⟨w.heap.size + 1 + 1 + 1 + 1 + 1 + 1, 2, none⟩ = some (.string ⟨#[]⟩) := (blk_cell b6 2).trans rfl
 have q3 : w8.cell? ⟨w.heap.size + 1 + 1 + 1 + 1 + 1 + 1, 3, none⟩ = some (.int .i64 0) := (blk_cell b6 3).trans rfl
 have q4 : w8.cell? ⟨w.heap.size + 1 + 1 + 1 + 1 + 1 + 1, 4, none⟩ = some (.int .i64 0) := (blk_cell b6 4).trans rfl
 have q5 : w8.cell? ⟨w.heap.size + 1 + 1 + 1 + 1 + 1 + 1, 5, none⟩ = some (.int .i64 0) := (blk_cell b6 5).trans rfl
 have H58 := Aside0.mk (blk_below H5.out hb)
 have HL8 := Aside0.mk (show LineIs w8 getLine (.slice (some ⟨w.heap.size, 0, none⟩) 13 13) by obtain ⟨a, m, h1, h2, h3, h4⟩ := HL7.out.out; exact ⟨⟨a, m, h1, h2, Kd.C_below h3 hb, h4⟩⟩)
 have HB8 := Aside0.mk (below_step HB7.out hb)
 have HX8 := Aside0.mk (hX.below HB8.out)
 clear b1 b6 hb hX
 go_wp2_with fail
 refine (HoldsB _ getLine 0 0 _ w8 HX8.out HL8.out rfl H58.out).mono ?_
 rintro e w9 ⟨rfl, hb⟩
 have HB9 := Aside0.mk (below_step HB8.out hb)
 clear hb
 go_wp2_with fail
 go_ret
 exact ⟨rfl, HB9.out⟩
theorem one_calls (A : Option Addr) (c : Nat) (ns : List ND) (l : List Int) (s t : Int) (vl : Value) (lv : ND → Bool) (w : World) (hvl : ∃ a n m, vl = .slice a n m) (hC : Kd.C k37 w A ns.length ns) (hc : ns.length ≤ c)
  (hR : ∀ n ∈ ns, ∀ W A' c', Kd.string.C W A' n.f4.length n.f4 → n.f4.length ≤ c' → Calls Tryz.prog 61 #[.agg #[.int .i64 n.f0, .int .i64 n.f1, .int .i64 n.f2, .string n.f3, .slice A' n.f4.length c', .string n.f5, .int .i64 n.f6, .int .i64 n.f7]] W fun e w' => e = .returned (.bool (rightN n)) ∧ Below W.heap.size W w')
  (hL : ∀ W, Below w.heap.size w W → ∀ n ∈ ns, rightN n = true → n.f0 ≠ 10 → n.f0 ≠ 11 → n.f0 ≠ 12 → LeafOK W l s t vl n (lv n)) (hF : formedB ns 2 ⟨#[]⟩ 0 0 0 = true) :
  Calls Tryz.prog 18 #[.slice A ns.length c, .agg #[.int .i64 s, .int .i64 t, vl]] w fun e w' => e = .returned (.tuple #[.bool (holdsB lv ns), .bool true]) ∧ Below w.heap.size w w' := by
 obtain ⟨la, ln, lm, rfl⟩ := hvl
 have hH := fun (W : World) (hW : Below w.heap.size w W) => Holds_calls A c ns 2 ⟨#[]⟩ 0 0 0 l s t (.slice la ln lm) lv W ⟨_, _, _, rfl⟩ (Kd.C_below hC hW) hc (fun W => asked_two _ _ _ W) hR (fun W' hW' n hn h1 h2 h3 h4 => hL W' (below_step hW hW') n hn h1 h2 h3 h4)
 rw [hF] at hH
 have HH := Aside0.mk hH
 clear hH hL hR hC
 go_enter Tryz.func18, Tryz.ntmps18
 go_wp2_with fail
 refine (HH.out _ (by repeat (first | exact Below.refl _ _ | apply below_alloc))).mono ?_
 rintro e w2 ⟨rfl, hb⟩
 have HB := Aside0.mk (below_step (show Below w.heap.size w _ by repeat (first | exact Below.refl _ _ | apply below_alloc)) hb)
 clear hb
 go_wp2_with fail
 go_ret2
 exact ⟨by simp, HB.out⟩
end Go.Proofs.YtehaodbheifokaaGreatDoor.P
end
