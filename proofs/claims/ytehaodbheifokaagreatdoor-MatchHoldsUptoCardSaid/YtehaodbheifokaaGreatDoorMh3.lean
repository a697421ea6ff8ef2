/- Texts of this claim joined by a program of this session (wip/tools/pack.py), without what is not used: WordsAll, Cut, Number, P15, ReadPre, Read0, P16, LeafG20, P2, LeafH20, Lower20. Words and contracts that the kit's printer wrote for this seat stand among them. -/
import Derived.Test.YtehaodbheifokaaGreatDoorMh2
import Derived.Lib.DecodeNEq
import Derived.Lib.TrimU
import Derived.Lib.IndexAny
import Derived.Lib.Index
import Derived.Shelf.Unicode.DecodeSlow
import Derived.WalkKit
import Derived.Laws.RangeAny
import Derived.Shelf.Spec.DecodeRune
import Derived.Lib.IndexEntry
import Derived.Lib.Builder
import Derived.Deep.LoopGhost
import Derived.Shelf.Bytes.SlTrim
import Derived.RangeFuncNested
import Derived.RangeFuncBound
import Derived.RangeFuncBox
import Derived.RangeFuncCalls
import Derived.RangeFuncLeaves
import Derived.Shelf.Abstract
import Derived.Shelf.RegionOpen
import Derived.OwnWalkIn
import Derived.TacticsInMore
import Derived.LoopNIn
import Derived.LoopIn
import Derived.Laws.BytesArg
import Derived.Maps.AppendAt
import Derived.Shelf.SlicesQ.IndexFunc
import Derived.Lib.ConvBytes
import Derived.Deep.Light
set_option maxHeartbeats 8000000
set_option maxRecDepth 100000
set_option linter.unusedVariables false
set_option linter.unusedSimpArgs false
section
section
namespace Go.Proofs.YtehaodbheifokaaGreatDoor.P
open Go
theorem dec_n (n b0 b1 b2 b3 : Nat) (hn : 1 ≤ n) (h128 : 128 ≤ b0) (h0 : b0 < 256) :
  1 ≤ (Lib.decodeN n b0 b1 b2 b3).2 ∧ (Lib.decodeN n b0 b1 b2 b3).2 ≤ n ∧ (Lib.decodeN n b0 b1 b2 b3).2 ≤ 4 ∧ 128 ≤ (Lib.decodeN n b0 b1 b2 b3).1 ∧
  (2 ≤ (Lib.decodeN n b0 b1 b2 b3).2 → 128 ≤ b1) ∧ (3 ≤ (Lib.decodeN n b0 b1 b2 b3).2 → 128 ≤ b2) ∧ (4 ≤ (Lib.decodeN n b0 b1 b2 b3).2 → 128 ≤ b3) ∧
  ((Lib.decodeN n b0 b1 b2 b3).1 = 65533 ∨ ((Lib.decodeN n b0 b1 b2 b3).2 = 2 ∧ (Lib.decodeN n b0 b1 b2 b3).1 < 2048) ∨ ((Lib.decodeN n b0 b1 b2 b3).2 = 3 ∧ 2048 ≤ (Lib.decodeN n b0 b1 b2 b3).1 ∧ (Lib.decodeN n b0 b1 b2 b3).1 < 65536) ∨ ((Lib.decodeN n b0 b1 b2 b3).2 = 4 ∧ 65536 ≤ (Lib.decodeN n b0 b1 b2 b3).1)) ∧
  ((Lib.decodeN n b0 b1 b2 b3).1 < 55296 ∨ (57344 ≤ (Lib.decodeN n b0 b1 b2 b3).1 ∧ (Lib.decodeN n b0 b1 b2 b3).1 ≤ 1114111)) := by
 unfold Lib.decodeN
 repeat' split
 all_goals (dsimp only; refine ⟨?_, ?_, ?_, ?_, fun _ => ?_, fun _ => ?_, fun _ => ?_, ?_, ?_⟩ <;> first | omega | exact Or.inl rfl)
theorem valid_of {c : Nat} (h : c < 55296 ∨ (57344 ≤ c ∧ c ≤ 1114111)) : Utf8.valid (c : Int) = true := by
 simp only [Utf8.valid, Bool.or_eq_true, Bool.and_eq_true, decide_eq_true_eq]
 omega
theorem u8_ge {n : Nat} (h : 128 ≤ n) (h2 : n < 256) : 128 ≤ (UInt8.ofNat n).toNat := by
 rw [UInt8.toNat_ofNat']
 omega
theorem enc_of {c k : Nat} (hv : c < 55296 ∨ (57344 ≤ c ∧ c ≤ 1114111)) (h128 : 128 ≤ c)
  (hk : (k = 2 ∧ c < 2048) ∨ (k = 3 ∧ 2048 ≤ c ∧ c < 65536) ∨ (k = 4 ∧ 65536 ≤ c)) :
  (Utf8.encode (c : Int)).size = k ∧ ∃ x t, (Utf8.encode (c : Int)).data.toList = x :: t ∧ 128 ≤ x.toNat := by
 have hval := valid_of hv
 simp only [Utf8.encode, hval, if_true, Int.toNat_natCast]
 rw [if_neg (by omega)]
 rcases hk with ⟨rfl, h⟩ | ⟨rfl, h1, h2⟩ | ⟨rfl, h⟩
 ·rw [if_pos (by omega)]
  exact ⟨rfl, _, _, rfl, u8_ge (by omega) (by omega)⟩
 ·rw [if_neg (by omega), if_pos (by omega)]
  exact ⟨rfl, _, _, rfl, u8_ge (by omega) (by omega)⟩
 ·rw [if_neg (by omega), if_neg (by omega)]
  exact ⟨rfl, _, _, rfl, u8_ge (by omega) (by omega)⟩
theorem index_high (l t : List UInt8) (x : UInt8) (hx : 128 ≤ x.toNat) : (∀ b ∈ l, b.toNat < 128) → Lib.index l (x :: t) = -1 := by
 induction l with
 | nil => intro _; rfl
 | cons b l ih =>
  intro h
  have hne : (x == b) = false := beq_eq_false_iff_ne.2 (by rintro rfl; have := h x (by simp); omega)
  rw [Lib.index, ih (fun b hb => h b (by simp [hb]))]
  simp only [List.isPrefixOf, hne, Bool.false_and, Bool.false_eq_true, if_false]
  rfl
structure DecAt (bs : List UInt8) (i c k : Nat) : Prop where
 pos : 1 ≤ k
 room : i + k ≤ bs.length
 high : 128 ≤ c
 le : c ≤ 1114111
 skip : ∀ j, i ≤ j → j < i + k → 128 ≤ (bs.getD j 0).toNat
 enc : c ≠ 65533 → (Utf8.encode (c : Int)).size = k ∧ 2 ≤ k ∧ ∃ x t, (Utf8.encode (c : Int)).data.toList = x :: t ∧ 128 ≤ x.toNat
theorem getD_drop (bs : List UInt8) (i j : Nat) : (bs.drop i).getD j 0 = bs.getD (i + j) 0 := by simp [List.getD]
theorem get!_list (l : List UInt8) (j : Nat) : (⟨l.toArray⟩ : ByteArray).get! j = l.getD j 0 := by
 simp only [ByteArray.get!, List.getD]
 rw [getElem!_def]
 simp only [List.getElem?_toArray]
 cases l[j]? <;> rfl
theorem decAt (bs : List UInt8) (i : Nat) (hi : i < bs.length) (h128 : 128 ≤ (bs.getD i 0).toNat) : DecAt bs i (Lib.decodeGo ⟨(bs.drop i).toArray⟩).1 (Lib.decodeGo ⟨(bs.drop i).toArray⟩).2 := by
 have hsz : (⟨(bs.drop i).toArray⟩ : ByteArray).size = bs.length - i := by simp [ByteArray.size]
 have hd : Lib.decodeGo ⟨(bs.drop i).toArray⟩ = Lib.decodeN (bs.length - i) (bs.getD i 0).toNat (bs.getD (i + 1) 0).toNat (bs.getD (i + 2) 0).toNat (bs.getD (i + 3) 0).toNat := by
  simp only [Lib.decodeGo]
  rw [if_neg (by rw [hsz]; omega), Lib.decode_at, hsz]
  simp only [get!_list, getD_drop, Nat.add_zero, Nat.zero_add, Nat.sub_zero]
 rw [hd]
 have hlt := UInt8.toNat_lt (bs.getD i 0)
 obtain ⟨h1, h2, h3, h4, h5, h6, h7, h8, h9⟩ := dec_n (bs.length - i) (bs.getD i 0).toNat (bs.getD (i + 1) 0).toNat (bs.getD (i + 2) 0).toNat (bs.getD (i + 3) 0).toNat (by omega) h128 hlt
 generalize Lib.decodeN (bs.length - i) (bs.getD i 0).toNat (bs.getD (i + 1) 0).toNat (bs.getD (i + 2) 0).toNat (bs.getD (i + 3) 0).toNat = d at *
 refine ⟨h1, by omega, h4, by omega, fun j hj hjk => ?_, fun hne => ?_⟩
 ·obtain ⟨m, rfl⟩ : ∃ m, j = i + m := ⟨j - i, by omega⟩
  have : m = 0 ∨ m = 1 ∨ m = 2 ∨ m = 3 := by omega
  rcases this with rfl | rfl | rfl | rfl
  ·exact h128
  ·exact h5 (by omega)
  ·exact h6 (by omega)
  ·exact h7 (by omega)
 ·have hk : (d.2 = 2 ∧ d.1 < 2048) ∨ (d.2 = 3 ∧ 2048 ≤ d.1 ∧ d.1 < 65536) ∨ (d.2 = 4 ∧ 65536 ≤ d.1) := by omega
  obtain ⟨e1, e2⟩ := enc_of h9 h4 hk
  exact ⟨e1, by omega, e2⟩
theorem noAny_skip {bs cs : List UInt8} {i k : Nat} (h : Lib.NoAny bs cs i) (hc : ∀ b ∈ cs, b.toNat < 128) (hs : ∀ j, i ≤ j → j < i + k → 128 ≤ (bs.getD j 0).toNat) : Lib.NoAny bs cs (i + k) := by
 intro j b hj hb
 by_cases hji : j < i
 ·exact h j b hji hb
 ·have := hs j (by omega) hj
  simp only [List.getD, hb, Option.getD_some] at this
  cases hcon : cs.contains b with
  | false => rfl
  | true => have := hc b (List.contains_iff_mem.1 hcon); omega
end Go.Proofs.YtehaodbheifokaaGreatDoor.P
end
section
namespace Go.Proofs.YtehaodbheifokaaGreatDoor.P
open Go Go.RowKit Go.Proofs.YtehaodbheifokaaGreatDoorW.PrintWords Go.Proofs.YtehaodbheifokaaGreatDoorW.PrintLast
theorem shouldUse (n : Int) (w : World) : Calls Tryz.prog 155 #[.int .i64 n] w fun e w' => e = .returned (.bool (decide (8 < n))) ∧ w' = w := by
 go_enter Tryz.func155, Tryz.ntmps155
 go_wp2
 go_ret
 exact ⟨rfl, rfl⟩
theorem blanks_not_empty {cs : ByteArray} (h : 2 ≤ cs.size) : cs.toList.isEmpty = false := by
 rw [Lib.toList_data]
 cases e : cs.data.toList with
 | nil => have := Lib.size_eq cs; rw [e, List.length_nil] at this; omega
 | cons _ _ => rfl
theorem info63 : (Tryz.prog.info? 177).map (fun i => (i.zero, i.size)) = some (some (.agg (Array.replicate 256 (.bool false))), 256) := by kernel_rfl
theorem indexAny_long (b o n c : Nat) (bs : List UInt8) (cs : ByteArray) (w : World) (hb : bs.length = n) (hnc : n ≤ c) (hbig : n ≤ 9223372036854775807)
  (h1 : Lib.BytesAt w (some ⟨b, o, none⟩) n bs) (h8 : 8 < n) (h2 : 2 ≤ cs.size) (hcs : cs.size < 4294967281) (hascii : ∀ (j : Nat) b, cs.data.toList[j]? = some b → b.toNat < 128) :
  Calls Tryz.prog 137 #[.slice (some ⟨b, o, none⟩) n c, .string cs] w fun e w' => e = .returned (.int .i64 (Lib.indexAny bs cs.data.toList)) ∧ Below w.heap.size w w' := by
 have hM := Any.bytes_makeASCIISet Tryz.laysV11 (zero_of_info info63).1 (zero_of_info info63).2 cs w hcs hascii
 simp only [Tryz.laysV11_ren] at hM
 clear hascii
 have hemp := blanks_not_empty h2
 have hn1 : ((cs.size : Int) == 1) = false := beq_eq_false_iff_ne.2 (by omega)
 have hn2 : ((n : Int) == 1) = false := beq_eq_false_iff_ne.2 (by omega)
 have h8z : decide ((8 : Int) < (n : Int)) = true := decide_eq_true (by omega)
 have hsc : (storeCells ⟨w.heap.size + 1, 0, none⟩ (Lib.setCells cs.data.toList).toList 0).run Tryz.prog ((w.alloc (.cells (Lib.setCells cs.data.toList) 177)).alloc (.cells Tryz.zeroCells177 177)) = .ok () ((w.alloc (.cells (Lib.setCells cs.data.toList) 177)).alloc (.cells (Lib.setCells cs.data.toList) 177)) := by
  have := run_storeCells_new (P := Tryz.prog) (w.alloc (.cells (Lib.setCells cs.data.toList) 177)) 177 Tryz.zeroCells177 (Lib.setCells cs.data.toList) (by rw [Lib.setCells_size]; exact (zero_of_info info63).2) (by rw [Lib.setCells_size, Tryz.zeroCells177_size]) (Lib.setCells_one _)
  simpa using this
 have hsz := Lib.setCells_size cs.data.toList
 have hcellAt : ∀ x : UInt8, ((w.alloc (.cells (Lib.setCells cs.data.toList) 177)).alloc (.cells (Lib.setCells cs.data.toList) 177)).cell? ⟨w.heap.size + 1, x.toNat, none⟩ = some (.bool (cs.data.toList.contains x)) := fun x => by
  rw [World.cell?_alloc_at _ _ _ _ (by simp), Lib.setCells_at]
 have HC : Aside (∀ x : UInt8, ((w.alloc (.cells (Lib.setCells cs.data.toList) 177)).alloc (.cells (Lib.setCells cs.data.toList) 177)).cell? ⟨w.heap.size + 1, x.toNat, none⟩ = some (.bool (cs.data.toList.contains x))) := hcellAt
 have hB2 : Below w.heap.size w ((w.alloc (.cells (Lib.setCells cs.data.toList) 177)).alloc (.cells (Lib.setCells cs.data.toList) 177)) := ((Below.refl _ _).alloc (Nat.le_refl _) _).alloc (by simp) _
 have h1' := h1.below hB2
 have HB : Aside0 _ := Aside0.mk hB2
 clear hcellAt h1 hB2
 obtain ⟨b', o', hbo, hc⟩ := h1' (by omega)
 cases hbo
 have HBY : Aside _ := hc
 clear hc h1'
 go_enter Tryz.func137, Tryz.ntmps137
 go_wp2_with (first
  | (go_at_call 155; refine (shouldUse _ _).mono ?_; rintro e w' ⟨rfl, hw⟩; rw [hw, h8z])
  | (go_at_call 150; refine hM.mono ?_; rintro e w' ⟨rfl, hw⟩; rw [hw]))
 clear hM hsc
 go_loopg [9, 10, 62] n (fun g _ _ s62 wx => ∃ i : Nat, i + g = n ∧ s62 = .int .i64 i ∧ wx = ((w.alloc (.cells (Lib.setCells cs.data.toList) 177)).alloc (.cells (Lib.setCells cs.data.toList) 177)) ∧ Lib.NoAny bs cs.data.toList i)
 case atStart => exact ⟨0, by omega, rfl, rfl, Lib.NoAny.zero _ _⟩
 case round =>
  obtain ⟨i, hig, rfl, rfl, hno⟩ := hrel
  have HN : Aside (Lib.NoAny bs cs.data.toList i) := hno
  clear hno
  cases gk with
  | zero =>
   obtain rfl : i = n := by omega
   have hiz : ¬ ((i : Int) < (i : Int)) := by omega
   go_wp2
   go_ret
   exact ⟨by rw [Lib.indexAny_none (by rw [hb]; exact HN.out)]; rfl, HB.out⟩
  | succ g =>
   have hi : i < n := by omega
   have hiz : (i : Int) < (n : Int) := by omega
   have hci := HBY.out i hi
   obtain ⟨x, hx⟩ : ∃ x, x = bs.getD i 0 := ⟨_, rfl⟩
   rw [← hx] at hci
   have hxl : bs[i]? = some x := by rw [hx]; exact Lib.getElem?_getD_sl _ _ _ (by omega)
   have Hx : Aside (bs[i]? = some x) := hxl
   clear hxl hx
   have hcx := HC.out x
   have hct := fun W h => Any.bytes_asciiSet_contains Tryz.laysV16 (w.heap.size + 1) x (cs.data.toList.contains x) W h
   simp only [Tryz.laysV16_ren] at hct
   have HCT : Aside _ := hct
   clear hct
   cases hin : cs.data.toList.contains x <;> rw [hin] at hcx
   ·go_wp2_with (go_at_call 156; refine (HCT.out _ (HC.out x)).mono ?_; rintro e w' ⟨rfl, hw⟩; rw [hw, hin])
    go_roundg g
    case measure => omega
    case rel => exact ⟨i + 1, by omega, by first | rfl | simp, rfl, HN.out.succ Hx.out hin⟩
   ·go_wp2_with (go_at_call 156; refine (HCT.out _ (HC.out x)).mono ?_; rintro e w' ⟨rfl, hw⟩; rw [hw, hin])
    go_ret
    exact ⟨by rw [Lib.indexAny_hit HN.out Hx.out hin]; rfl, HB.out⟩
theorem run46 (s : ByteArray) (x : UInt8) (w : World) : (callFunc 153 #[.string s, .int .u8 x.toNat]).run Tryz.prog w = .ok (.value (.int .i64 (Lib.indexByte s.data.toList x))) w := by
 rw [run_callFunc_extern Tryz.func153 (by kernel_rfl) (by kernel_rfl) (by kernel_rfl) (e := Extern.BytealgIndexByte.indexByte) (by kernel_rfl), Lib.run_indexByteString]
 simp [Result.andThen]
theorem run51 (s b : ByteArray) (m : Int) (w : World) (hm : w.cell? ⟨0, 0, none⟩ = some (.int .i64 m)) (h2 : 2 ≤ b.size) (hb : (b.size : Int) ≤ m) (hs : s.size < 4294967281) : (callFunc 158 #[.string s, .string b]).run Tryz.prog w = .ok (.value (.int .i64 (Lib.index s.data.toList b.data.toList))) w := by
 rw [run_callFunc_extern Tryz.func158 (by kernel_rfl) (by kernel_rfl) (by kernel_rfl) (e := Extern.BytealgIndex.index) (by kernel_rfl), Lib.run_indexString s b w 0 m (by kernel_rfl) hm h2 hb hs]
 simp [Result.andThen]
theorem indexAny_single (b o c : Nat) (x : UInt8) (cs : ByteArray) (w : World) (hnc : 1 ≤ c)
  (hx : w.cell? ⟨b, o, none⟩ = some (.int .u8 x.toNat)) (h2 : 2 ≤ cs.size) (hcs : cs.size < 4294967281) (hascii : ∀ (j : Nat) b, cs.data.toList[j]? = some b → b.toNat < 128) :
  Calls Tryz.prog 137 #[.slice (some ⟨b, o, none⟩) 1 c, .string cs] w fun e w' => e = .returned (.int .i64 (Lib.indexAny [x] cs.data.toList)) ∧ Below w.heap.size w w' := by
 have HA : Aside (∀ (j : Nat) b, cs.data.toList[j]? = some b → b.toNat < 128) := hascii
 clear hascii
 have hemp := blanks_not_empty h2
 have hn1 : ((cs.size : Int) == 1) = false := beq_eq_false_iff_ne.2 (by omega)
 have hB1 : ∀ pos, Below w.heap.size w (w.iter cs pos) := fun pos => (Below.refl _ _).alloc (Nat.le_refl _) _
 have HB : Aside _ := hB1
 clear hB1
 have hx256 : (x.toNat : Int) < 256 := by have := UInt8.toNat_lt x; omega
 by_cases h128 : (128 : Int) ≤ (x.toNat : Int)
 ·have hres : Lib.indexAny [x] cs.data.toList = -1 := Lib.indexAny_none (fun j y hj hy => by
   obtain rfl : j = 0 := by simp at hj; exact hj
   simp at hy
   subst hy
   cases hcon : cs.data.toList.contains x with
   | false => rfl
   | true =>
    obtain ⟨j, hj⟩ := List.mem_iff_getElem?.1 (List.contains_iff_mem.1 hcon)
    have := HA.out j x hj
    omega)
  rw [hres]
  go_enter Tryz.func137, Tryz.ntmps137
  go_wp2
  go_loopg [5] cs.size (fun g _ wx => ∃ i : Nat, i + g = cs.size ∧ wx = w.iter cs i)
  case atStart => exact ⟨0, by omega, rfl⟩
  case round =>
   obtain ⟨i, hig, rfl⟩ := hrel
   cases gk with
   | zero =>
    obtain rfl : i = cs.size := by omega
    have hnx := run_next_end (P := Tryz.prog) w cs cs.size
    go_wp2
    go_ret
    exact ⟨rfl, HB.out _⟩
   | succ g =>
    have hi : i < cs.size := by omega
    obtain ⟨y, hy⟩ : ∃ y : UInt8, cs[i]'hi = y := ⟨_, rfl⟩
    have hyl : cs.data.toList[i]? = some y := by rw [← hy]; exact Lib.data_getElem? cs i hi
    have hy128 : y.toNat < 128 := HA.out i y hyl
    have hnx := fun ty => run_next_ascii (P := Tryz.prog) w cs i ty hi (by rw [hy]; exact hy128)
    rw [hy] at hnx
    have hne : ((y.toNat : Int) == 65533) = false := beq_eq_false_iff_ne.2 (by omega)
    clear hyl hy
    go_wp2
    go_roundg g
    case measure => omega
    case rel => exact ⟨i + 1, by omega, rfl⟩
 ·have e46 := fun W => run46 cs x W
  have hcon := Lib.contains_iff_indexByte cs.data.toList x
  cases hin : cs.data.toList.contains x with
  | false =>
   rw [hin] at hcon
   have hlt : ¬ ((0 : Int) ≤ Lib.indexByte cs.data.toList x) := of_decide_eq_false hcon.symm
   have hres : Lib.indexAny [x] cs.data.toList = -1 := by rw [Lib.indexAny, hin]; rfl
   rw [hres]
   clear hcon hres
   go_enter Tryz.func137, Tryz.ntmps137
   go_wp2
   go_ret
   exact ⟨rfl, Below.refl _ _⟩
  | true =>
   rw [hin] at hcon
   have hge : (0 : Int) ≤ Lib.indexByte cs.data.toList x := of_decide_eq_true hcon.symm
   have hres : Lib.indexAny [x] cs.data.toList = 0 := by rw [Lib.indexAny, hin]; rfl
   rw [hres]
   clear hcon hres
   go_enter Tryz.func137, Tryz.ntmps137
   go_wp2
   go_ret
   exact ⟨rfl, Below.refl _ _⟩
theorem list_arr_size (l : List UInt8) : (⟨l.toArray⟩ : ByteArray).size = l.length := by simp [ByteArray.size]
theorem decodeRune_at (b o i n c : Nat) (bs : List UInt8) (w : World) (hb : bs.length = n) (hi : i < n) (hu : Lib.Utf8Tabs 2 3 w)
  (hc : ∀ j, j < n → w.cell? ⟨b, o + j, none⟩ = some (.int .u8 (bs.getD j 0).toNat)) :
  Calls Tryz.prog 157 #[.slice (some ⟨b, o + i, none⟩) (n - i) c] w fun e w' => e = .returned (.tuple #[.int .i32 (Lib.decodeGo ⟨(bs.drop i).toArray⟩).1, .int .i64 (Lib.decodeGo ⟨(bs.drop i).toArray⟩).2]) ∧ Below w.heap.size w w' := by
 have h := Any7.utf8_DecodeRune Tryz.lays7_32 ⟨(bs.drop i).toArray⟩ b (o + i) c w hu (fun j hj => by
  rw [list_arr_size, List.length_drop, hb] at hj
  rw [Nat.add_assoc, hc (i + j) (by omega), get!_list, getD_drop])
 rw [list_arr_size, List.length_drop, hb] at h
 exact h
theorem indexAny_short (b o n c : Nat) (bs : List UInt8) (cs : ByteArray) (w : World) (hb : bs.length = n) (hnc : n ≤ c) (hbig : n ≤ 9223372036854775807)
  (h1 : Lib.BytesAt w (some ⟨b, o, none⟩) n bs) (hn : 2 ≤ n) (h8 : n ≤ 8) (h2 : 2 ≤ cs.size) (hcs : cs.size < 4294967281) (hascii : ∀ b ∈ cs.data.toList, b.toNat < 128) (hx : FieldIn w) :
  Calls Tryz.prog 137 #[.slice (some ⟨b, o, none⟩) n c, .string cs] w fun e w' => e = .returned (.int .i64 (Lib.indexAny bs cs.data.toList)) ∧ Below w.heap.size w w' := by
 have HA : Aside (∀ b ∈ cs.data.toList, b.toNat < 128) := hascii
 have HX : Aside (FieldIn w) := hx
 obtain ⟨mx, hmx⟩ := hx.max
 have HMX : Aside _ := hmx
 obtain ⟨b', o', hbo, hc⟩ := h1 (by omega)
 cases hbo
 have HBY : Aside _ := hc
 clear hascii hx hmx hc h1
 have hemp := blanks_not_empty h2
 have hn1 : ((cs.size : Int) == 1) = false := beq_eq_false_iff_ne.2 (by omega)
 have hn2 : ((n : Int) == 1) = false := beq_eq_false_iff_ne.2 (by omega)
 have h8z : decide ((8 : Int) < (n : Int)) = false := decide_eq_false (by omega)
 go_enter Tryz.func137, Tryz.ntmps137
 go_wp2_with (go_at_call 155; refine (shouldUse _ _).mono ?_; rintro e w' ⟨rfl, hw⟩; rw [hw, h8z])
 go_loopg [11, 12, 13, 15] n (fun g _ s12 _ _ wx => ∃ i : Nat, i ≤ n ∧ n ≤ g + i ∧ s12 = .int .i64 i ∧ Aside0 (Below w.heap.size w wx) ∧ Lib.NoAny bs cs.data.toList i)
 case atStart => exact ⟨0, by omega, by omega, rfl, Aside0.mk (Below.refl _ _), Lib.NoAny.zero _ _⟩
 case round =>
  obtain ⟨i, hin, hig, rfl, hbx, hno⟩ := hrel
  have HN : Aside (Lib.NoAny bs cs.data.toList i) := hno
  clear hno
  by_cases hi : i < n
  case neg =>
   obtain rfl : i = n := by omega
   go_wp2
   go_ret
   exact ⟨by rw [Lib.indexAny_none (by rw [hb]; exact HN.out)]; rfl, hbx.out⟩
  have hci : wr.cell? ⟨b, o + i, none⟩ = _ := cell_up hbx.out (HBY.out i hi)
  obtain ⟨x, hx⟩ : ∃ x, x = bs.getD i 0 := ⟨_, rfl⟩
  rw [← hx] at hci
  have hxl : bs[i]? = some x := by rw [hx]; exact Lib.getElem?_getD_sl _ _ _ (by omega)
  have Hx : Aside (bs[i]? = some x) := hxl
  have HXD : Aside (x = bs.getD i 0) := hx
  clear hxl hx
  have hx256 : (x.toNat : Int) < 256 := by have := UInt8.toNat_lt x; omega
  by_cases h128 : (x.toNat : Int) < 128
  ·have e46 := fun W => run46 cs x W
   have hcon := Lib.contains_iff_indexByte cs.data.toList x
   cases hin : cs.data.toList.contains x with
   | false =>
    rw [hin] at hcon
    have hlt : ¬ ((0 : Int) ≤ Lib.indexByte cs.data.toList x) := of_decide_eq_false hcon.symm
    have HI : Aside _ := hin
    clear hcon hin
    go_wp2
    go_roundg (gk - 1)
    case measure => omega
    case rel => exact ⟨i + 1, by omega, by omega, by first | rfl | simp, hbx, HN.out.succ Hx.out HI.out⟩
   | true =>
    rw [hin] at hcon
    have hge : (0 : Int) ≤ Lib.indexByte cs.data.toList x := of_decide_eq_true hcon.symm
    have HI : Aside _ := hin
    clear hcon hin
    go_wp2
    go_ret
    exact ⟨by rw [Lib.indexAny_hit HN.out Hx.out HI.out]; rfl, hbx.out⟩
  ·have hD := decodeRune_at b o i n (c - i) bs wr hb hi (HX.out.below hbx.out).utf (fun j hj => cell_up hbx.out (HBY.out j hj))
   have hF := decAt bs i (by omega) (by rw [← HXD.out]; omega)
   generalize Lib.decodeGo ⟨(bs.drop i).toArray⟩ = d at hD hF
   obtain ⟨r, k⟩ := d
   simp only at hD hF
   have HD := Aside0.mk hD
   have hk1 := hF.pos
   have hk2 := hF.room
   have hr1 := hF.high
   have hr2 := hF.le
   have HF : Aside _ := hF
   clear hD hF
   obtain ⟨G, hG1, hG2⟩ : ∃ G, G < gk ∧ n ≤ G + 1 + i := ⟨gk - 1, by omega, by omega⟩
   by_cases hr : r = 65533
   ·subst hr
    go_wp2_with (go_at_call 157; refine HD.out.mono ?_; rintro e w1 ⟨rfl, hb1⟩; have hB1 : Aside0 (Below w.heap.size w w1) := Aside0.mk (hbx.out.trans (hb1.mono hbx.out.size)); clear hb1)
    clear hci
    go_loopg [15] cs.size (fun g _ wx => ∃ j : Nat, j + g = cs.size ∧ wx = w1.iter cs j)
    case atStart => exact ⟨0, by omega, rfl⟩
    case round =>
     obtain ⟨j, hjg, rfl⟩ := hrel
     cases gk with
     | zero =>
      obtain rfl : j = cs.size := by omega
      have hnx := run_next_end (P := Tryz.prog) w1 cs cs.size
      go_wp2
      go_roundg G
      case measure => omega
      case rel => exact ⟨i + k, by omega, by omega, by first | rfl | simp, Aside0.mk (hB1.out.alloc hB1.out.size _), noAny_skip HN.out HA.out HF.out.skip⟩
     | succ g =>
      have hj : j < cs.size := by omega
      obtain ⟨y, hy⟩ : ∃ y : UInt8, cs[j]'hj = y := ⟨_, rfl⟩
      have hyl : cs.data.toList[j]? = some y := by rw [← hy]; exact Lib.data_getElem? cs j hj
      have hy128 : y.toNat < 128 := HA.out y (List.mem_iff_getElem?.2 ⟨j, hyl⟩)
      have hnx := fun ty => run_next_ascii (P := Tryz.prog) w1 cs j ty hj (by rw [hy]; exact hy128)
      rw [hy] at hnx
      have hne : ((65533 : Int) == (y.toNat : Int)) = false := beq_eq_false_iff_ne.2 (by omega)
      clear hyl hy
      go_wp2
      go_roundg g
      case measure => omega
      case rel => exact ⟨j + 1, by omega, rfl⟩
   ·have hrz : ((r : Int) == 65533) = false := beq_eq_false_iff_ne.2 (by omega)
    obtain ⟨hek, hk3, xe, te, hex, hx128⟩ := HF.out.enc hr
    have hneq : (cs.toList == (Utf8.encode (r : Int)).toList) = false := beq_eq_false_iff_ne.2 (fun e => by
     rw [Lib.toList_data, Lib.toList_data, hex] at e
     have := HA.out xe (by rw [e]; simp)
     omega)
    have hidx := index_high cs.data.toList te xe hx128 HA.out
    rw [← hex] at hidx
    have HEK := Aside0.mk hek
    clear hex hek
    by_cases hck : cs.size = k
    ·have hcz : ((cs.size : Int) == (k : Int)) = true := beq_iff_eq.2 (by omega)
     clear hck hidx
     go_wp2_with (go_at_call 157; refine HD.out.mono ?_; rintro e w1 ⟨rfl, hb1⟩; have hB1 : Aside0 (Below w.heap.size w w1) := Aside0.mk (hbx.out.trans (hb1.mono hbx.out.size)); clear hb1)
     go_roundg G
     case measure => omega
     case rel => exact ⟨i + k, by omega, by omega, by first | rfl | simp, hB1, noAny_skip HN.out HA.out HF.out.skip⟩
    ·have hcz : ((cs.size : Int) == (k : Int)) = false := beq_eq_false_iff_ne.2 (by omega)
     clear hck
     by_cases hmk : (k : Int) ≤ mx
     ·have e51 := fun W h => run51 cs (Utf8.encode (r : Int)) mx W h (by rw [HEK.out]; omega) (by rw [HEK.out]; omega) (by omega)
      rw [hidx] at e51
      clear hidx
      have E51 := Aside0.mk e51
      clear e51
      go_wp2_with (first
       | (go_at_call 157; refine HD.out.mono ?_; rintro e w1 ⟨rfl, hb1⟩; have hB1 : Aside0 (Below w.heap.size w w1) := Aside0.mk (hbx.out.trans (hb1.mono hbx.out.size)); clear hb1; have hm1 := cell_up hB1.out HMX.out; have e51 := E51.out w1 hm1))
      go_roundg G
      case measure => omega
      case rel => exact ⟨i + k, by omega, by omega, by first | rfl | simp, hB1, noAny_skip HN.out HA.out HF.out.skip⟩
     ·go_wp2_with (first
       | (go_at_call 157; refine HD.out.mono ?_; rintro e w1 ⟨rfl, hb1⟩; have hB1 : Aside0 (Below w.heap.size w w1) := Aside0.mk (hbx.out.trans (hb1.mono hbx.out.size)); clear hb1; have hm1 := cell_up hB1.out HMX.out))
      clear hci
      go_loopg [15] cs.size (fun g _ wx => ∃ j : Nat, j + g = cs.size ∧ wx = w1.iter cs j)
      case atStart => exact ⟨0, by omega, rfl⟩
      case round =>
       obtain ⟨j, hjg, rfl⟩ := hrel
       cases gk with
       | zero =>
        obtain rfl : j = cs.size := by omega
        have hnx := run_next_end (P := Tryz.prog) w1 cs cs.size
        go_wp2
        go_roundg G
        case measure => omega
        case rel => exact ⟨i + k, by omega, by omega, by first | rfl | simp, Aside0.mk (hB1.out.alloc hB1.out.size _), noAny_skip HN.out HA.out HF.out.skip⟩
       | succ g =>
        have hj : j < cs.size := by omega
        obtain ⟨y, hy⟩ : ∃ y : UInt8, cs[j]'hj = y := ⟨_, rfl⟩
        have hyl : cs.data.toList[j]? = some y := by rw [← hy]; exact Lib.data_getElem? cs j hj
        have hy128 : y.toNat < 128 := HA.out y (List.mem_iff_getElem?.2 ⟨j, hyl⟩)
        have hnx := fun ty => run_next_ascii (P := Tryz.prog) w1 cs j ty hj (by rw [hy]; exact hy128)
        rw [hy] at hnx
        have hne : ((r : Int) == (y.toNat : Int)) = false := beq_eq_false_iff_ne.2 (by omega)
        clear hyl hy
        go_wp2
        go_roundg g
        case measure => omega
        case rel => exact ⟨j + 1, by omega, rfl⟩
theorem bytes_IndexAny (b o n c : Nat) (bs : List UInt8) (cs : ByteArray) (w : World) (hb : bs.length = n) (hn0 : 0 < n) (hnc : n ≤ c) (hbig : n ≤ 9223372036854775807)
  (h1 : Lib.BytesAt w (some ⟨b, o, none⟩) n bs) (h2 : 2 ≤ cs.size) (hcs : cs.size < 4294967281) (hascii : ∀ b ∈ cs.data.toList, b.toNat < 128) (hx : FieldIn w) :
  Calls Tryz.prog 137 #[.slice (some ⟨b, o, none⟩) n c, .string cs] w fun e w' => e = .returned (.int .i64 (Lib.indexAny bs cs.data.toList)) ∧ Below w.heap.size w w' := by
 have ha : ∀ (j : Nat) b, cs.data.toList[j]? = some b → b.toNat < 128 := fun j b h => hascii b (List.mem_iff_getElem?.2 ⟨j, h⟩)
 by_cases h8 : 8 < n
 ·exact indexAny_long b o n c bs cs w hb hnc hbig h1 h8 h2 hcs ha
 by_cases hn : n = 1
 ·subst hn
  obtain ⟨x, rfl⟩ := List.length_eq_one_iff.1 hb
  obtain ⟨b', o', hbo, hc⟩ := h1 (by omega)
  cases hbo
  exact indexAny_single b o c x cs w hnc (hc 0 (by omega)) h2 hcs ha
 ·exact indexAny_short b o n c bs cs w hb hnc hbig h1 (by omega) (by omega) h2 hcs hascii hx
end Go.Proofs.YtehaodbheifokaaGreatDoor.P
end
section
namespace Go.Proofs.YtehaodbheifokaaGreatDoor.P
open Go
def blankL : List UInt8 := [9, 10, 13, 32]
def isB (b : UInt8) : Bool := blankL.contains b
def nB (b : UInt8) : Bool := !isB b
def wordsF : Nat → List UInt8 → List ByteArray
 | 0, _ => []
 | f + 1, l => if l.dropWhile isB = [] then [] else ⟨((l.dropWhile isB).takeWhile nB).toArray⟩ :: wordsF f ((l.dropWhile isB).dropWhile nB)
def wordsL (l : List UInt8) : List ByteArray := wordsF l.length l
theorem dropWhile_le {α : Type} (p : α → Bool) (l : List α) : (l.dropWhile p).length ≤ l.length := (List.dropWhile_suffix p).length_le
theorem take_drop {α : Type} (p : α → Bool) (l : List α) : (l.takeWhile p).length + (l.dropWhile p).length = l.length := by rw [← List.length_append, List.takeWhile_append_dropWhile]
theorem first_word {l : List UInt8} (h : l.dropWhile isB ≠ []) : 1 ≤ ((l.dropWhile isB).takeWhile nB).length := by
 cases e : l.dropWhile isB with
 | nil => exact absurd e h
 | cons x t =>
  have hx : isB x = false := by
   have := List.head_dropWhile_not isB (l := l) h
   simp only [e, List.head_cons] at this
   exact this
  simp [List.takeWhile, nB, hx]
theorem rest_lt {l : List UInt8} (h : l.dropWhile isB ≠ []) : ((l.dropWhile isB).dropWhile nB).length < l.length := by
 have h1 := first_word h
 have h2 := take_drop nB (l.dropWhile isB)
 have h3 := dropWhile_le isB l
 omega
theorem wordsF_eq : ∀ (f g : Nat) (l : List UInt8), l.length ≤ f → l.length ≤ g → wordsF f l = wordsF g l
 | 0, 0, _, _, _ => rfl
 | 0, g + 1, l, h, _ => by
  obtain rfl : l = [] := List.length_eq_zero_iff.1 (by omega)
  simp [wordsF]
 | f + 1, 0, l, _, h => by
  obtain rfl : l = [] := List.length_eq_zero_iff.1 (by omega)
  simp [wordsF]
 | f + 1, g + 1, l, h1, h2 => by
  rw [wordsF, wordsF]
  by_cases h : l.dropWhile isB = []
  ·rw [if_pos h, if_pos h]
  ·rw [if_neg h, if_neg h]
   have := rest_lt h
   rw [wordsF_eq f g _ (by omega) (by omega)]
theorem wordsL_none {l : List UInt8} (h : l.dropWhile isB = []) : wordsL l = [] := by
 unfold wordsL
 cases l with
 | nil => rfl
 | cons x t => rw [List.length_cons, wordsF, if_pos h]
theorem wordsL_some {l : List UInt8} (h : l.dropWhile isB ≠ []) : wordsL l = ⟨((l.dropWhile isB).takeWhile nB).toArray⟩ :: wordsL ((l.dropWhile isB).dropWhile nB) := by
 unfold wordsL
 have := rest_lt h
 cases l with
 | nil => exact absurd rfl h
 | cons x t =>
  rw [List.length_cons, wordsF, if_neg h, wordsF_eq _ _ _ _ (Nat.le_refl _)]
  rw [List.length_cons] at this
  omega
theorem takeWhile_getElem {α : Type} {p : α → Bool} : ∀ {l : List α} {j : Nat}, j < (l.takeWhile p).length → ∃ x, l[j]? = some x ∧ p x = true
 | [], j, h => by simp at h
 | x :: t, j, h => by
  cases hp : p x with
  | false => simp [List.takeWhile, hp] at h
  | true =>
   rw [List.takeWhile, hp] at h
   cases j with
   | zero => exact ⟨x, rfl, hp⟩
   | succ j =>
    obtain ⟨y, h1, h2⟩ := takeWhile_getElem (l := t) (j := j) (by simpa using h)
    exact ⟨y, h1, h2⟩
theorem takeWhile_stop {α : Type} {p : α → Bool} : ∀ {l : List α}, (l.takeWhile p).length < l.length → ∃ x, l[(l.takeWhile p).length]? = some x ∧ p x = false
 | [], h => by simp at h
 | x :: t, h => by
  cases hp : p x with
  | false => exact ⟨x, by simp [List.takeWhile, hp], hp⟩
  | true =>
   rw [List.takeWhile, hp] at h ⊢
   obtain ⟨y, h1, h2⟩ := takeWhile_stop (p := p) (l := t) (by simpa using h)
   exact ⟨y, by simpa using h1, h2⟩
theorem noAny_word (t : List UInt8) : Lib.NoAny t blankL (t.takeWhile nB).length := fun j b hj hb => by
 obtain ⟨x, h1, h2⟩ := takeWhile_getElem hj
 rw [h1] at hb
 cases hb
 simp only [nB, isB] at h2
 simpa using h2
theorem indexAny_word {t : List UInt8} (h : (t.takeWhile nB).length < t.length) : Lib.indexAny t blankL = (t.takeWhile nB).length := by
 obtain ⟨x, h1, h2⟩ := takeWhile_stop h
 exact Lib.indexAny_hit (noAny_word t) h1 (by simp only [nB, isB] at h2; simpa using h2)
theorem indexAny_noword {t : List UInt8} (h : (t.takeWhile nB).length = t.length) : Lib.indexAny t blankL = -1 := Lib.indexAny_none (h ▸ noAny_word t)
theorem takeWhile_take {α : Type} (p : α → Bool) (l : List α) : l.takeWhile p = l.take (l.takeWhile p).length := List.prefix_iff_eq_take.1 (List.takeWhile_prefix p)
theorem dropWhile_drop' {α : Type} (p : α → Bool) (l : List α) : l.dropWhile p = l.drop (l.takeWhile p).length := by
 have h := List.drop_left (l₁ := l.takeWhile p) (l₂ := l.dropWhile p)
 rw [List.takeWhile_append_dropWhile] at h
 exact h.symm
end Go.Proofs.YtehaodbheifokaaGreatDoor.P
end
section
namespace Go.Proofs.YtehaodbheifokaaGreatDoor.P
open Go Go.RowKit Go.Proofs.YtehaodbheifokaaGreatDoorW.PrintWords Go.Proofs.YtehaodbheifokaaGreatDoorW.PrintLast
theorem blank_ascii : ∀ (j : Nat) b, blankL[j]? = some b → b.toNat < 128 := fun j b h => by
 have hall : ∀ b ∈ blankL, b.toNat < 128 := by decide
 exact hall b (List.mem_iff_getElem?.2 ⟨j, h⟩)
theorem blank_lt : ∀ b ∈ ((⟨#[9, 10, 13, 32]⟩ : ByteArray)).data.toList, b.toNat < 128 := by decide
theorem bytesAt_tail {w : World} {b o : Nat} {x : UInt8} {t : List UInt8} (h : Lib.BytesAt w (some ⟨b, o, none⟩) (t.length + 1) (x :: t)) : w.cell? ⟨b, o, none⟩ = some (.int .u8 x.toNat) ∧ Lib.BytesAt w (some ⟨b, o + 1, none⟩) t.length t := by
 obtain ⟨b', o', e, hc⟩ := h (by omega)
 cases e
 refine ⟨hc 0 (by omega), fun _ => ⟨b, o + 1, rfl, fun i hi => ?_⟩⟩
 rw [show o + 1 + i = o + (i + 1) by omega, hc (i + 1) (by omega)]
 rfl
theorem contains_calls49 (g : Nat) (x : UInt8) (w : World) (h : w.cell? ⟨g, x.toNat, none⟩ = some (.bool (isB x))) : Calls Tryz.prog 156 #[.pointer (some ⟨g, 0, none⟩), .int .u8 x.toNat] w fun e w' => e = .returned (.bool (isB x)) ∧ w' = w :=
 Any.bytes_asciiSet_contains Tryz.laysV16 g x (isB x) w h
theorem trimAscii_some (b o c g : Nat) (rem t : List UInt8) (w : World) (hc : rem.length ≤ c) (hm : rem.length ≤ 9223372036854775807) (h1 : Lib.BytesAt w (some ⟨b, o, none⟩) rem.length rem) (ht : rem.dropWhile isB = t) (h : t ≠ [])
  (hset : ∀ x : UInt8, w.cell? ⟨g, x.toNat, none⟩ = some (.bool (isB x))) :
  Calls Tryz.prog 151 #[.slice (some ⟨b, o, none⟩) rem.length c, .pointer (some ⟨g, 0, none⟩)] w fun e w' => e = .returned (.slice (some ⟨b, o + (rem.length - t.length), none⟩) t.length (c - (rem.length - t.length))) ∧ w' = w := by
 have HS := Aside0.mk hset
 have H1 := Aside0.mk h1
 have HT := Aside0.mk ht
 clear hset h1 ht
 go_enter Tryz.func151, Tryz.ntmps151
 go_wp2
 go_loopg [0] rem.length (fun k s0 wr => ∃ (rest : List UInt8) (j : Nat), j + rest.length = rem.length ∧ rest.length ≤ k ∧ s0 = .slice (some ⟨b, o + j, none⟩) rest.length (c - j) ∧ wr = w ∧ Aside0 (Lib.BytesAt w (some ⟨b, o + j, none⟩) rest.length rest) ∧ Aside0 (rest.dropWhile isB = t))
 case atStart => exact ⟨rem, 0, by omega, by omega, by simp, rfl, H1, HT⟩
 case round =>
  obtain ⟨rest, j, hj, hk, rfl, rfl, hb, hd⟩ := hrel
  cases rest with
  | nil => exact absurd hd.out.symm h
  | cons x r =>
   obtain ⟨hcx, hbr⟩ := bytesAt_tail (x := x) (t := r) hb.out
   have HBR := Aside0.mk hbr
   have hx := HS.out x
   rw [List.length_cons] at *
   have hcj : r.length + 1 ≤ c - j := by omega
   cases hbx : isB x with
   | false =>
    have e : x :: r = t := by
     have := hd.out
     rwa [List.dropWhile_cons_of_neg (by rw [hbx]; simp)] at this
    have hjl : rem.length - t.length = j := by rw [← e, List.length_cons]; omega
    have hl : t.length = r.length + 1 := by rw [← e, List.length_cons]
    have HJL := Aside0.mk hjl
    have HTL := Aside0.mk hl
    clear hbr hd hb hjl hl e
    go_wp2_with (go_at_call 156; refine (contains_calls49 g x _ hx).mono ?_; rintro e w' ⟨rfl, hw⟩; rw [hw, hbx])
    go_ret
    exact ⟨by rw [HJL.out, HTL.out]; rfl, rfl⟩
   | true =>
    have hd2 : r.dropWhile isB = t := by
     have := hd.out
     rwa [List.dropWhile_cons_of_pos hbx] at this
    have HD := Aside0.mk hd2
    have hr : r ≠ [] := by rintro rfl; exact h hd2.symm
    have hr0 : 0 < r.length := List.length_pos_iff.2 hr
    have hne : ¬ c - j = 1 := by omega
    clear hbr hd hb hd2 hr
    go_wp2_with (go_at_call 156; refine (contains_calls49 g x _ hx).mono ?_; rintro e w' ⟨rfl, hw⟩; rw [hw, hbx])
    go_roundg r.length
    case measure => omega
    case rel => exact ⟨r, j + 1, by omega, by omega, by simp; omega, rfl, HBR, HD⟩
theorem trimAscii_none (p0 : Option Addr) (c g : Nat) (rem : List UInt8) (w : World) (hc : rem.length ≤ c) (hm : rem.length ≤ 9223372036854775807) (h1 : Lib.BytesAt w p0 rem.length rem) (ht : rem.dropWhile isB = [])
  (hset : ∀ x : UInt8, w.cell? ⟨g, x.toNat, none⟩ = some (.bool (isB x))) :
  Calls Tryz.prog 151 #[.slice p0 rem.length c, .pointer (some ⟨g, 0, none⟩)] w fun e w' => e = .returned (.slice none 0 0) ∧ w' = w := by
 have HS := Aside0.mk hset
 have H1 := Aside0.mk h1
 have HT := Aside0.mk ht
 clear hset h1 ht
 go_enter Tryz.func151, Tryz.ntmps151
 go_wp2
 go_loopg [0] rem.length (fun k s0 wr => ∃ (p : Option Addr) (rest : List UInt8) (cc : Nat), rest.length ≤ cc ∧ rest.length ≤ k ∧ rest.length ≤ rem.length ∧ s0 = .slice p rest.length cc ∧ wr = w ∧ Aside0 (Lib.BytesAt w p rest.length rest) ∧ Aside0 (rest.dropWhile isB = []))
 case atStart => exact ⟨p0, rem, c, hc, Nat.le_refl _, Nat.le_refl _, rfl, rfl, H1, HT⟩
 case round =>
  obtain ⟨p, rest, cc, hcc, hk, hrl, rfl, rfl, hb, hd⟩ := hrel
  cases rest with
  | nil =>
   go_wp2
   go_ret
   exact ⟨rfl, rfl⟩
  | cons x r =>
   obtain ⟨b, o, rfl, hcell⟩ := hb.out (by simp)
   obtain ⟨hcx, hbr⟩ := bytesAt_tail (x := x) (t := r) hb.out
   have HBR := Aside0.mk hbr
   have hx := HS.out x
   rw [List.length_cons] at *
   have hbx : isB x = true := by
    cases hbx : isB x with
    | true => rfl
    | false =>
     have := hd.out
     rw [List.dropWhile_cons_of_neg (by rw [hbx]; simp)] at this
     cases this
   have hd2 : r.dropWhile isB = [] := by
    have := hd.out
    rwa [List.dropWhile_cons_of_pos hbx] at this
   have HD := Aside0.mk hd2
   clear hbr hd hb hd2 hcell
   by_cases hc1 : cc = 1
   ·subst hc1
    obtain rfl : r = [] := List.length_eq_zero_iff.1 (by omega)
    rw [List.length_nil] at *
    go_wp2_with (go_at_call 156; refine (contains_calls49 g x _ hx).mono ?_; rintro e w' ⟨rfl, hw⟩; rw [hw, hbx])
    go_roundg 0
    case measure => omega
    case rel => exact ⟨_, [], 0, Nat.le_refl _, Nat.le_refl _, by simp, rfl, rfl, Aside0.mk (fun h0 => absurd h0 (Nat.lt_irrefl _)), HD⟩
   ·go_wp2_with (go_at_call 156; refine (contains_calls49 g x _ hx).mono ?_; rintro e w' ⟨rfl, hw⟩; rw [hw, hbx])
    go_roundg r.length
    case measure => omega
    case rel => exact ⟨some ⟨b, o + 1, none⟩, r, cc - 1, by omega, Nat.le_refl _, by omega, by simp, rfl, HBR, HD⟩
theorem trimLeft_of (pa : Option Addr) (m c : Nat) (rem : List UInt8) (w : World) (v : Value) (hm : rem.length = m) (h0 : 0 < m)
  (hT : ∀ g W, Below w.heap.size w W → (∀ x : UInt8, W.cell? ⟨g, x.toNat, none⟩ = some (.bool (isB x))) → Calls Tryz.prog 151 #[.slice pa m c, .pointer (some ⟨g, 0, none⟩)] W fun e w' => e = .returned v ∧ w' = W) :
  Calls Tryz.prog 136 #[.slice pa m c, .string ⟨#[9, 10, 13, 32]⟩] w fun e w' => e = .returned v ∧ Below w.heap.size w w' := by
 obtain ⟨cs, hcs⟩ : ∃ cs : ByteArray, cs = ⟨#[9, 10, 13, 32]⟩ := ⟨_, rfl⟩
 have hbl : cs.data.toList = blankL := by rw [hcs]; rfl
 have hs4 : cs.size = 4 := by rw [hcs]; rfl
 rw [← hcs]
 clear hcs
 have hM := Any.bytes_makeASCIISet Tryz.laysV11 (zero_of_info info63).1 (zero_of_info info63).2 cs w (by omega) (by rw [hbl]; exact blank_ascii)
 simp only [Tryz.laysV11_ren] at hM
 have hemp := blanks_not_empty (cs := cs) (by omega)
 have hn1 : ((cs.size : Int) == 1) = false := beq_eq_false_iff_ne.2 (by omega)
 have hn2 : ((m : Int) == 0) = false := beq_eq_false_iff_ne.2 (by omega)
 have hsc : (storeCells ⟨w.heap.size + 1, 0, none⟩ (Lib.setCells cs.data.toList).toList 0).run Tryz.prog ((w.alloc (.cells (Lib.setCells cs.data.toList) 177)).alloc (.cells Tryz.zeroCells177 177)) = .ok () ((w.alloc (.cells (Lib.setCells cs.data.toList) 177)).alloc (.cells (Lib.setCells cs.data.toList) 177)) := by
  have := run_storeCells_new (P := Tryz.prog) (w.alloc (.cells (Lib.setCells cs.data.toList) 177)) 177 Tryz.zeroCells177 (Lib.setCells cs.data.toList) (by rw [Lib.setCells_size]; exact (zero_of_info info63).2) (by rw [Lib.setCells_size, Tryz.zeroCells177_size]) (Lib.setCells_one _)
  simpa using this
 have hsz := Lib.setCells_size cs.data.toList
 have hB2 : Below w.heap.size w ((w.alloc (.cells (Lib.setCells cs.data.toList) 177)).alloc (.cells (Lib.setCells cs.data.toList) 177)) := ((Below.refl _ _).alloc (Nat.le_refl _) _).alloc (by simp) _
 have hT2 := Aside0.mk (hT (w.heap.size + 1) _ hB2 (fun x => by
  rw [World.cell?_alloc_at _ _ _ _ (by simp), Lib.setCells_at, hbl]
  rfl))
 have HB := Aside0.mk hB2
 clear hB2 hT hbl hs4
 go_enter Tryz.func136, Tryz.ntmps136
 go_wp2_with (first
  | (go_at_call 150; refine hM.mono ?_; rintro e w' ⟨rfl, hw⟩; rw [hw])
  | (go_at_call 151; refine hT2.out.mono ?_; rintro e w' ⟨rfl, hw⟩; rw [hw]))
 go_ret
 exact ⟨rfl, HB.out⟩
theorem trimLeft_nil (pa : Option Addr) (c : Nat) (w : World) : Calls Tryz.prog 136 #[.slice pa 0 c, .string ⟨#[9, 10, 13, 32]⟩] w fun e w' => e = .returned (.slice none 0 0) ∧ Below w.heap.size w w' := by
 go_enter Tryz.func136, Tryz.ntmps136
 go_wp2
 go_ret
 exact ⟨rfl, Below.refl _ _⟩
theorem trim_none (pa : Option Addr) (m c : Nat) (rem : List UInt8) (w : World) (hm : rem.length = m) (hc : m ≤ c) (hbig : m ≤ 9223372036854775807) (h1 : Lib.BytesAt w pa m rem) (h : rem.dropWhile isB = []) :
  Calls Tryz.prog 136 #[.slice pa m c, .string ⟨#[9, 10, 13, 32]⟩] w fun e w' => e = .returned (.slice none 0 0) ∧ Below w.heap.size w w' := by
 by_cases h0 : m = 0
 ·rw [h0]
  exact trimLeft_nil pa c w
 ·subst hm
  exact trimLeft_of pa rem.length c rem w _ rfl (by omega) (fun g W hB hset => trimAscii_none pa c g rem W hc hbig (h1.below hB) h hset)
theorem trim_some (pa : Option Addr) (m c : Nat) (rem t : List UInt8) (w0 w : World) (hm : rem.length = m) (hc : m ≤ c) (hbig : m ≤ 9223372036854775807) (h1 : Lib.BytesAt w0 pa m rem) (hB : Below w0.heap.size w0 w) (ht : rem.dropWhile isB = t) (h : t ≠ []) :
  ∃ b o c', t.length ≤ c' ∧ Lib.BytesAt w0 (some ⟨b, o, none⟩) t.length t ∧
  Calls Tryz.prog 136 #[.slice pa m c, .string ⟨#[9, 10, 13, 32]⟩] w fun e w' => e = .returned (.slice (some ⟨b, o, none⟩) t.length c') ∧ Below w.heap.size w w' := by
 subst hm
 have hl : 0 < t.length := List.length_pos_iff.2 h
 have hle : t.length ≤ rem.length := by rw [← ht]; exact dropWhile_le isB rem
 have h1' := h1
 obtain ⟨b, o, rfl, hcell⟩ := h1 (by omega)
 have hd : t = rem.drop (rem.length - t.length) := by
  have h3 := take_drop isB rem
  have h4 := dropWhile_drop' isB rem
  rw [ht] at h3 h4
  rw [show rem.length - t.length = (rem.takeWhile isB).length by omega]
  exact h4
 refine ⟨b, o + (rem.length - t.length), c - (rem.length - t.length), by omega, fun _ => ⟨b, _, rfl, fun i hi => ?_⟩, ?_⟩
 ·rw [Nat.add_assoc, hcell (rem.length - t.length + i) (by omega)]
  congr 3
  conv => rhs; rw [hd]
  rw [getD_drop]
 ·exact trimLeft_of _ rem.length c rem w _ rfl (by omega) (fun g W hB2 hset => trimAscii_some b o c g rem t W hc hbig (h1'.below (hB.trans (hB2.mono hB.size))) ht h hset)
end Go.Proofs.YtehaodbheifokaaGreatDoor.P
end
section
namespace Go.Proofs.YtehaodbheifokaaGreatDoor.P
open Go Go.RowKit Go.Shelf Go.Proofs.YtehaodbheifokaaGreatDoorW.PrintWords Go.Proofs.YtehaodbheifokaaGreatDoorW.PrintLast
attribute [local go_sem] Oper.semAt_some
theorem grown_of_below {w w' : World} (h : Below w.heap.size w w') : w.grownBy w' none := ⟨h.os, h.tape, h.output, h.size, fun k hk _ => h.block k hk⟩
theorem conv_take (b o k c : Nat) (t : List UInt8) (w : World) (hk : k ≤ t.length) (h1 : Lib.BytesAt w (some ⟨b, o, none⟩) t.length t) (h0 : 0 < t.length) :
  (convert 25 9 (.slice (some ⟨b, o, none⟩) k c)).run Tryz.prog w = .ok (.string ⟨(t.take k).toArray⟩) w := by
 obtain ⟨b', o', e, hc⟩ := h1 h0
 cases e
 have h := run_convert_bytes_arg (P := Tryz.prog) w 25 5 (Tryz.underlying25) (Tryz.underlying5) b o k c ((t.take k).map fun x => (x.toNat : Int)) (by simp; omega) (fun i hi => by
  rw [hc i (by omega)]
  simp [List.getD, List.getElem?_map, List.getElem?_take, hi]
  cases t[i]? <;> rfl) 9 Tryz.underlying9
 rw [h]
 have e : strOfNums ((t.take k).map fun x => (x.toNat : Int)) = ⟨(t.take k).toArray⟩ := by
  apply ByteArray.ext
  apply Array.toList_inj.1
  rw [strOfNums_data, List.map_map]
  show _ = t.take k
  conv => rhs; rw [← List.map_id (t.take k)]
  apply List.map_congr_left
  intro x _
  simp
 rw [e]
theorem idx_calls (b o c : Nat) (t : List UInt8) (w0 w : World) (h0 : 0 < t.length) (hc : t.length ≤ c) (hbig : t.length ≤ 9223372036854775807) (h1 : Lib.BytesAt w0 (some ⟨b, o, none⟩) t.length t) (hB : Below w0.heap.size w0 w) (hx : FieldIn w0) :
  Calls Tryz.prog 137 #[.slice (some ⟨b, o, none⟩) t.length c, .string ⟨#[9, 10, 13, 32]⟩] w fun e w' => e = .returned (.int .i64 (Lib.indexAny t blankL)) ∧ Below w.heap.size w w' :=
 bytes_IndexAny b o t.length c t ⟨#[9, 10, 13, 32]⟩ w rfl h0 hc hbig (h1.below hB) (by decide) (by decide) blank_lt (hx.below hB)
theorem bytesAt_drop {w : World} {b o q : Nat} {t : List UInt8} (h : Lib.BytesAt w (some ⟨b, o, none⟩) t.length t) (hq : q ≤ t.length) : Lib.BytesAt w (some ⟨b, o + q, none⟩) (t.length - q) (t.drop q) := fun h0 => by
 obtain ⟨b', o', e, hc⟩ := h (by omega)
 cases e
 exact ⟨b, o + q, rfl, fun i hi => by rw [Nat.add_assoc, hc (q + i) (by omega), getD_drop]⟩
def lenV : Value → Nat
 | .slice _ m _ => m
 | _ => 0
abbrev encB (x : ByteArray) : Array Value := #[.string x]
theorem words1_in (n : Nat) (hn : 1 ≤ n) (l B : Nat) (w0 : World) (A : Option Addr) (c : Nat) (bs : List UInt8) (hcc : bs.length ≤ c) (hbig : bs.length ≤ 9223372036854775807) (hX : FieldIn w0) (hL : Lib.BytesAt w0 A bs.length bs)
  (J Jx : List ByteArray → World → Prop) (W : World) (hB0 : Below w0.heap.size w0 W) (hJ : AbidesFrom W.heap.size J)
  (hY : ∀ pre x W1, J pre W1 → (pre ++ [x]) <+: wordsL bs → YieldAt Fence.wide (n - 1) Tryz.prog l (encB x) W1 fun e W' =>
   (e = .returned (.bool true) ∧ J (pre ++ [x]) W' ∧ Below w0.heap.size W1 W') ∨ (e = .returned (.bool false) ∧ Jx (pre ++ [x]) W'))
  (hBx : W.heap[B]? = some (.cells #[.slice A bs.length c] 25 (0, 0))) (h0 : J [] W) :
  CallsIn Fence.wide n Tryz.prog 135 #[.func (.yield l) #[] #[], .pointer (some ⟨B, 0, none⟩)] W fun e W' => (∃ v, e = .returned v) ∧
   ((∃ ys, ys = wordsL bs ∧ J ys W') ∨ (∃ pre, pre <+: wordsL bs ∧ Jx pre W')) := by
 refine callsIn_of_wp Tryz.func135 rfl trivial ?_ rfl
 simp only [Tryz.ntmps135, List.size_toArray, List.length_cons, List.length_nil, Nat.reduceAdd, Nat.reduceSub, Array.replicate_succ, Array.replicate_zero, List.push_toArray, List.append_toArray, List.nil_append, List.cons_append]
 have hc0 : W.cell? ⟨B, 0, none⟩ = some (.slice A bs.length c) := (blk_cell hBx 0).trans rfl
 have HY := Aside0.mk hY
 have HJ := Aside0.mk hJ
 have HX := Aside0.mk hX
 have HL := Aside0.mk hL
 clear hY hJ hX hL
 gi_wp2
 gi_loopw [3] (fun v wr => ∃ (pa : Option Addr) (cc : Nat) (rem : List UInt8) (pre : List ByteArray), v = .slice pa rem.length cc ∧ rem.length ≤ cc ∧ rem.length ≤ 9223372036854775807 ∧ Aside0 (Lib.BytesAt w0 pa rem.length rem) ∧ Aside0 (J pre wr) ∧ Aside0 (Below w0.heap.size w0 wr) ∧ Aside0 (wordsL bs = pre ++ wordsL rem)) (fun v _ => lenV v)
 case atStart => exact ⟨A, c, bs, [], rfl, hcc, hbig, HL, Aside0.mk h0, Aside0.mk hB0, Aside0.mk rfl⟩
 case round =>
  obtain ⟨pa, cc, rem, pre, rfl, hc1, hc2, hRL, hJs, hnx, hW⟩ := hrel
  by_cases hd : rem.dropWhile isB = []
  ·have hT := Aside0.mk (trim_none pa rem.length cc rem wr rfl hc1 hc2 (hRL.out.below hnx.out) hd)
   have hW2 : Aside0 (wordsL bs = pre) := Aside0.mk (by rw [hW.out, wordsL_none hd, List.append_nil])
   clear hd
   gi_wp2_with (refine ⟨trivial, ?_⟩; gi_at_call 136; refine (callsIn_wide.2 hT.out).mono ?_; rintro e w1 ⟨rfl, hb1⟩; have hB1 := Aside0.mk hb1; clear hb1)
   refine bodyPost_ret (results_none rfl _ _ _) rfl ?_
   exact ⟨⟨_, rfl⟩, .inl ⟨_, hW2.out.symm, HJ.out _ _ _ _ hJs.out (grown_of_below hB1.out) (fun r e => by cases e)⟩⟩
  ·obtain ⟨t, ht⟩ : ∃ t, rem.dropWhile isB = t := ⟨_, rfl⟩
   have hw := wordsL_some hd
   have hf := first_word hd
   have hlt := rest_lt hd
   rw [ht] at hd hw hf hlt
   have hl : 0 < t.length := List.length_pos_iff.2 hd
   have hle1 := dropWhile_le isB rem
   rw [ht] at hle1
   obtain ⟨b, o, c', hc1', hTL, hT⟩ := trim_some pa rem.length cc rem t w0 wr rfl hc1 hc2 hRL.out hnx.out ht hd
   have HT := Aside0.mk hT
   have HTL := Aside0.mk hTL
   have HW := Aside0.mk hw
   clear hw hT hTL hd ht
   have hd2 := dropWhile_drop' nB t
   have htw := takeWhile_take nB t
   obtain ⟨q, hq⟩ : ∃ q, (t.takeWhile nB).length = q := ⟨_, rfl⟩
   have hqn : (t.takeWhile nB).length ≤ t.length := (List.takeWhile_prefix nB).length_le
   rw [hq] at hd2 htw hf hqn
   rw [hd2] at hlt
   obtain ⟨x, hx⟩ : ∃ x : ByteArray, x = ⟨(t.take q).toArray⟩ := ⟨_, rfl⟩
   rw [htw, hd2, ← hx] at HW
   have HI := fun W hB => Aside0.mk (idx_calls b o c' t w0 W hl hc1' (by omega) HTL.out hB HX.out)
   have hpl : (pre ++ [x]) <+: wordsL bs := ⟨wordsL (t.drop q), by rw [hW.out, HW.out]; simp⟩
   have hWx : Aside0 (wordsL bs = (pre ++ [x]) ++ wordsL (t.drop q)) := Aside0.mk (by rw [hW.out, HW.out]; simp)
   have hcd : Aside0 (q < t.length → Lib.BytesAt w0 (some ⟨b, o + q, none⟩) (t.length - q) (t.drop q)) := Aside0.mk (fun hlt2 => bytesAt_drop HTL.out (Nat.le_of_lt hlt2))
   have hdl : (t.drop q).length = t.length - q := List.length_drop
   have HXE := Aside0.mk hx
   clear hd2 HW hx
   by_cases hqt : q < t.length
   ·have hidx := indexAny_word (t := t) (by rw [hq]; exact hqt)
    rw [hq] at hidx
    rw [hidx] at HI
    have HLT := Aside0.mk hlt
    have HF := Aside0.mk hf
    have HDL := Aside0.mk hdl
    clear hidx htw hq hlt hdl
    have hqc : ¬ c' = q := by omega
    gi_wp2_with (first
     | (refine ⟨trivial, ?_⟩; gi_at_call 136; refine (callsIn_wide.2 HT.out).mono ?_; rintro e w1 ⟨rfl, hb1⟩; have hB1 := Aside0.mk (hnx.out.trans (hb1.mono hnx.out.size)); have hJ1 := Aside0.mk (HJ.out _ _ _ _ hJs.out (grown_of_below hb1) (fun r e => by cases e)); clear hb1)
     | (refine ⟨trivial, ?_⟩; gi_at_call 137; refine (callsIn_wide.2 (HI _ hB1.out).out).mono ?_; rintro e w2 ⟨rfl, hb2⟩; have hB2 := Aside0.mk (hB1.out.trans (hb2.mono hB1.out.size)); have hJ2 := Aside0.mk (HJ.out _ _ _ _ hJ1.out (grown_of_below hb2) (fun r e => by cases e)); clear hb2; obtain ⟨fn, tmps, assign, body, hy, hR⟩ := HY.out pre x w2 hJ2.out hpl; have HR := Aside0.mk hR; clear hR; have hcv := conv_take b o q c' t w2 hqn (HTL.out.below hB2.out) hl; rw [← HXE.out] at hcv; dsimp only [encB] at hy))
    refine HR.out.mono ?_
    rintro e W3 (⟨rfl, hJ3, hk3⟩ | ⟨rfl, hJx3⟩)
    ·gi_wp2
     go_roundw
     case rel => exact ⟨_, _, t.drop q, pre ++ [x], by rw [HDL.out], by rw [HDL.out]; omega, by rw [HDL.out]; omega, by rw [HDL.out]; exact Aside0.mk (hcd.out hqt), Aside0.mk hJ3, Aside0.mk (hB2.out.trans (hk3.mono (Nat.le_refl _))), hWx⟩
     case measure =>
      have := HLT.out
      rw [HDL.out] at this
      simpa [lenV] using this
    ·gi_wp2
     refine bodyPost_ret (results_none rfl _ _ _) rfl ?_
     exact ⟨⟨_, rfl⟩, .inr ⟨_, ⟨_, hWx.out.symm⟩, hJx3⟩⟩
   ·obtain rfl : q = t.length := by omega
    have hidx := indexAny_noword (t := t) hq
    rw [hidx] at HI
    have HLT := Aside0.mk hlt
    have HDL := Aside0.mk hdl
    clear hidx htw hq hlt hdl hqt
    by_cases hct : c' = t.length
    ·subst hct
     gi_wp2_with (first
      | (refine ⟨trivial, ?_⟩; gi_at_call 136; refine (callsIn_wide.2 HT.out).mono ?_; rintro e w1 ⟨rfl, hb1⟩; have hB1 := Aside0.mk (hnx.out.trans (hb1.mono hnx.out.size)); have hJ1 := Aside0.mk (HJ.out _ _ _ _ hJs.out (grown_of_below hb1) (fun r e => by cases e)); clear hb1)
      | (refine ⟨trivial, ?_⟩; gi_at_call 137; refine (callsIn_wide.2 (HI _ hB1.out).out).mono ?_; rintro e w2 ⟨rfl, hb2⟩; have hB2 := Aside0.mk (hB1.out.trans (hb2.mono hB1.out.size)); have hJ2 := Aside0.mk (HJ.out _ _ _ _ hJ1.out (grown_of_below hb2) (fun r e => by cases e)); clear hb2; obtain ⟨fn, tmps, assign, body, hy, hR⟩ := HY.out pre x w2 hJ2.out hpl; have HR := Aside0.mk hR; clear hR; have hcv := conv_take b o t.length t.length t w2 (Nat.le_refl _) (HTL.out.below hB2.out) hl; rw [← HXE.out] at hcv; dsimp only [encB] at hy))
     refine HR.out.mono ?_
     rintro e W3 (⟨rfl, hJ3, hk3⟩ | ⟨rfl, hJx3⟩)
     ·gi_wp2
      go_roundw
      case rel => exact ⟨_, _, t.drop t.length, pre ++ [x], by rw [HDL.out, Nat.sub_self], by rw [HDL.out]; omega, by rw [HDL.out]; omega, by rw [HDL.out, Nat.sub_self]; exact Aside0.mk (fun h0 => absurd h0 (Nat.lt_irrefl _)), Aside0.mk hJ3, Aside0.mk (hB2.out.trans (hk3.mono (Nat.le_refl _))), hWx⟩
      case measure =>
       have := HLT.out
       rw [HDL.out] at this
       simpa [lenV] using this
     ·gi_wp2
      refine bodyPost_ret (results_none rfl _ _ _) rfl ?_
      exact ⟨⟨_, rfl⟩, .inr ⟨_, ⟨_, hWx.out.symm⟩, hJx3⟩⟩
    ·have hct0 : ¬ c' = t.length := hct
     gi_wp2_with (first
      | (refine ⟨trivial, ?_⟩; gi_at_call 136; refine (callsIn_wide.2 HT.out).mono ?_; rintro e w1 ⟨rfl, hb1⟩; have hB1 := Aside0.mk (hnx.out.trans (hb1.mono hnx.out.size)); have hJ1 := Aside0.mk (HJ.out _ _ _ _ hJs.out (grown_of_below hb1) (fun r e => by cases e)); clear hb1)
      | (refine ⟨trivial, ?_⟩; gi_at_call 137; refine (callsIn_wide.2 (HI _ hB1.out).out).mono ?_; rintro e w2 ⟨rfl, hb2⟩; have hB2 := Aside0.mk (hB1.out.trans (hb2.mono hB1.out.size)); have hJ2 := Aside0.mk (HJ.out _ _ _ _ hJ1.out (grown_of_below hb2) (fun r e => by cases e)); clear hb2; obtain ⟨fn, tmps, assign, body, hy, hR⟩ := HY.out pre x w2 hJ2.out hpl; have HR := Aside0.mk hR; clear hR; have hcv := conv_take b o t.length c' t w2 (Nat.le_refl _) (HTL.out.below hB2.out) hl; rw [← HXE.out] at hcv; dsimp only [encB] at hy))
     refine HR.out.mono ?_
     rintro e W3 (⟨rfl, hJ3, hk3⟩ | ⟨rfl, hJx3⟩)
     ·gi_wp2
      go_roundw
      case rel => exact ⟨_, _, t.drop t.length, pre ++ [x], by rw [HDL.out, Nat.sub_self], by rw [HDL.out]; omega, by rw [HDL.out]; omega, by rw [HDL.out, Nat.sub_self]; exact Aside0.mk (fun h0 => absurd h0 (Nat.lt_irrefl _)), Aside0.mk hJ3, Aside0.mk (hB2.out.trans (hk3.mono (Nat.le_refl _))), hWx⟩
      case measure =>
       have := HLT.out
       rw [HDL.out] at this
       simpa [lenV] using this
     ·gi_wp2
      refine bodyPost_ret (results_none rfl _ _ _) rfl ?_
      exact ⟨⟨_, rfl⟩, .inr ⟨_, ⟨_, hWx.out.symm⟩, hJx3⟩⟩
abbrev encP {P : ByteArray → Prop} (x : {x : ByteArray // P x}) : Array Value := #[.string x.val]
theorem words_stops (P : ByteArray → Prop) (n : Nat) (hn : 1 ≤ n) (B : Nat) (w0 w : World) (A : Option Addr) (c : Nat) (bs : List UInt8) (hcc : bs.length ≤ c) (hbig : bs.length ≤ 9223372036854775807) (hX : FieldIn w0) (hL : Lib.BytesAt w0 A bs.length bs)
  (hP : ∀ x ∈ wordsL bs, P x) (hB0 : Below w0.heap.size w0 w) (hBl : B < w.heap.size) (hBx : w.heap[B]? = some (.cells #[.slice A bs.length c] 25 (0, 0))) :
  SeqStopsK Fence.wide n Tryz.prog 135 #[.pointer (some ⟨B, 0, none⟩)] (encP (P := P)) (Below w0.heap.size) (fun ys => ys.map Subtype.val = wordsL bs) (fun pre => pre.map Subtype.val <+: wordsL bs) ((wordsL bs).length + 1) w := fun l J Jx W hW hJ _ hY h0 => by
 refine (words1_in n hn l B w0 A c bs hcc hbig hX hL (fun pre W => ∃ p : List {x : ByteArray // P x}, p.map Subtype.val = pre ∧ J p W) (fun pre W => ∃ p : List {x : ByteArray // P x}, p.map Subtype.val = pre ∧ Jx p W) W (hB0.trans (hW.mono hB0.size)) ?_ ?_ ((hW.block B hBl).trans hBx) ⟨[], rfl, h0⟩).mono ?_
 ·rintro s X Y row ⟨p, hp, hs⟩ hg hr
  exact ⟨p, hp, hJ p X Y row hs hg hr⟩
 ·rintro pre x W1 ⟨p, rfl, hs⟩ hpre
  have hx : P x := hP x (hpre.subset (by simp))
  have hlen := hpre.length_le
  simp only [List.length_append, List.length_map, List.length_singleton] at hlen
  refine (hY p ⟨x, hx⟩ W1 hs (by omega)).mono ?_
  rintro e W' (⟨he, h2, h3⟩ | ⟨he, h2⟩)
  ·exact .inl ⟨he, ⟨p ++ [⟨x, hx⟩], by simp, h2⟩, h3⟩
  ·exact .inr ⟨he, ⟨p ++ [⟨x, hx⟩], by simp, h2⟩⟩
 ·rintro e W' ⟨he, ⟨ys, rfl, p, hp, hj⟩ | ⟨pre, hpre, p, rfl, hj⟩⟩
  ·exact ⟨he, .inl ⟨p, hp, hj⟩⟩
  ·exact ⟨he, .inr ⟨p, hpre, hj⟩⟩
theorem words_in (n : Nat) (A : Option Addr) (len c : Nat) (w : World) :
  CallsIn Fence.wide n Tryz.prog 113 #[.slice A len c] w fun e w' => e = .returned (.func (.func 135) #[] #[.pointer (some ⟨w.heap.size, 0, none⟩)]) ∧ w' = w.alloc (.cells #[.slice A len c] 25) := by
 refine callsIn_of_wp Tryz.func113 rfl trivial ?_ rfl
 simp only [Tryz.ntmps113, List.size_toArray, List.length_cons, List.length_nil, Nat.reduceAdd, Nat.reduceSub, Array.replicate_succ, Array.replicate_zero, List.push_toArray, List.append_toArray, List.nil_append, List.cons_append]
 gi_wp2
 go_ret
 exact ⟨rfl, rfl⟩
end Go.Proofs.YtehaodbheifokaaGreatDoor.P
end
end
section
namespace Go.Proofs.YtehaodbheifokaaGreatDoor.P
open Go Go.RowKit Go.Proofs.YtehaodbheifokaaGreatDoorW.PrintWords Go.Proofs.YtehaodbheifokaaGreatDoorW.PrintLast
def strings_Cut.f (s sep : ByteArray) : Option (ByteArray × ByteArray × Bool) :=
 if s.size < 4294967281 then some (⟨(Lib.cut s.data.toList sep.data.toList).1.toArray⟩, ⟨(Lib.cut s.data.toList sep.data.toList).2.1.toArray⟩, (Lib.cut s.data.toList sep.data.toList).2.2) else none
theorem strings_Cut.calls (s sep : ByteArray) (r1 r2 : ByteArray) (r3 : Bool) (w : World) (h : strings_Cut.f s sep = some (r1, r2, r3)) (hx : FieldIn w := by exact FieldIn.go (by assumption) (by assumption)) :
  Calls Tryz.prog 138 #[.string s, .string sep] w fun e w' => e = .returned (.tuple #[.string r1, .string r2, .bool r3]) ∧ Drawn0 w w' := by
 unfold strings_Cut.f at h
 by_cases hs : s.size < 4294967281
 case neg => rw [if_neg hs] at h; cases h
 rw [if_pos hs] at h
 cases h
 obtain ⟨m, hm⟩ := hx.max
 refine (Tryz.strings_Cut s sep m w hs hm).mono ?_
 rintro e w' ⟨rfl, n, rfl⟩
 exact ⟨rfl, n, rfl⟩
def field_Number.f (t : ByteArray) : Option (Int × Bool) :=
 if t.size ≤ 281474976710656 then
  match Lib.atoiAll t.data.toList with
  | .ok v => (strconv_Itoa.f v).bind fun s => some (if s = t then (v, true) else (0, false))
  | _ => some (0, false)
 else none
theorem number_ok (t s : ByteArray) (v : Int) (w : World) (hsz : t.size ≤ 281474976710656) (h : Lib.atoiAll t.data.toList = .ok v) (hs : strconv_Itoa.f v = some s) (hx : FieldIn w) :
  Calls Tryz.prog 139 #[.string t] w fun e w' => e = .returned (.tuple #[.int .i64 (if s = t then v else 0), .bool (decide (s = t))]) ∧ Below w.heap.size w w' := by
 by_cases hst : s = t
 ·subst hst
  rw [if_pos rfl, decide_eq_true rfl]
  go_enter Tryz.func139, Tryz.ntmps139
  go_wp2_with (first
   | (go_at_call 160; refine (Tryz.strconv_Atoi_ok s (by omega) v h _).mono ?_; rintro e w1 ⟨rfl, hw1⟩; have hb1 : Below w.heap.size w w1 := (by rcases hw1 with rfl | ⟨q, rfl⟩; exact Below.refl _ _; exact Lib.bytesWorld_below _ _ _))
   | (go_at_call 96; refine (strconv_Itoa.calls v s _ hs (hx.below hb1)).mono ?_; rintro e w2 ⟨rfl, hb2⟩))
  go_ret2
  exact ⟨rfl, hb1.trans (hb2.mono hb1.size)⟩
 ·have hne : (s.toList == t.toList) = false := beq_eq_false_iff_ne.mpr (fun e => hst (by
   rw [Lib.toList_data, Lib.toList_data] at e
   exact ByteArray.ext (Array.toList_inj.1 e)))
  rw [if_neg hst, decide_eq_false hst]
  clear hst
  go_enter Tryz.func139, Tryz.ntmps139
  go_wp2_with (first
   | (go_at_call 160; refine (Tryz.strconv_Atoi_ok t (by omega) v h _).mono ?_; rintro e w1 ⟨rfl, hw1⟩; have hb1 : Below w.heap.size w w1 := (by rcases hw1 with rfl | ⟨q, rfl⟩; exact Below.refl _ _; exact Lib.bytesWorld_below _ _ _))
   | (go_at_call 96; refine (strconv_Itoa.calls v s _ hs (hx.below hb1)).mono ?_; rintro e w2 ⟨rfl, hb2⟩))
  go_ret2
  exact ⟨rfl, hb1.trans (hb2.mono hb1.size)⟩
theorem number_bad (t : ByteArray) (u : Int) (w : World) (te : Nat) (hA : Calls Tryz.prog 160 #[.string t] w fun e w' => (∃ pe, e = .returned (.tuple #[.int .i64 u, .iface te pe])) ∧ Below w.heap.size w w') :
  Calls Tryz.prog 139 #[.string t] w fun e w' => e = .returned (.tuple #[.int .i64 0, .bool false]) ∧ Below w.heap.size w w' := by
 go_enter Tryz.func139, Tryz.ntmps139
 go_wp2_with (go_at_call 160; refine hA.mono ?_; rintro e w1 ⟨⟨pe, rfl⟩, hb1⟩)
 go_ret2
 exact ⟨rfl, hb1⟩
theorem field_Number.calls (t : ByteArray) (r1 : Int) (r2 : Bool) (w : World) (h : field_Number.f t = some (r1, r2)) (hx : FieldIn w := by exact FieldIn.go (by assumption) (by assumption)) :
  Calls Tryz.prog 139 #[.string t] w fun e w' => e = .returned (.tuple #[.int .i64 r1, .bool r2]) ∧ Below w.heap.size w w' := by
 unfold field_Number.f at h
 by_cases hsz : t.size ≤ 281474976710656
 case neg => rw [if_neg hsz] at h; cases h
 rw [if_pos hsz] at h
 cases ha : Lib.atoiAll t.data.toList with
 | ok v =>
  rw [ha] at h
  simp only at h
  obtain ⟨s, hs, h2⟩ := Option.bind_eq_some_iff.1 h
  have := number_ok t s v w hsz ha hs hx
  by_cases hst : s = t
  ·rw [if_pos hst] at h2
   cases h2
   rwa [if_pos hst, decide_eq_true hst] at this
  ·rw [if_neg hst] at h2
   cases h2
   rwa [if_neg hst, decide_eq_false hst] at this
 | «syntax» =>
  rw [ha] at h
  cases h
  obtain ⟨te, pe, he⟩ := hx.syn
  exact number_bad t 0 w _ ((Tryz.strconv_Atoi_syntax t hsz ha (.iface te pe) w he (.inr ⟨te, pe, rfl⟩)).mono fun e w' ⟨N, he, _, _, hb⟩ => ⟨⟨_, he⟩, hb⟩)
 | range =>
  rw [ha] at h
  cases h
  obtain ⟨te, pe, he⟩ := hx.rng
  exact number_bad t _ w _ ((Tryz.strconv_Atoi_range t hsz ha (.iface te pe) w he (.inr ⟨te, pe, rfl⟩)).mono fun e w' ⟨N, he, _, _, hb⟩ => ⟨⟨_, he⟩, hb⟩)
end Go.Proofs.YtehaodbheifokaaGreatDoor.P
end
section
namespace Go.Proofs.YtehaodbheifokaaGreatDoor.P
open Go.RowKit Go.Proofs.YtehaodbheifokaaGreatDoorW.PrintWords Go.Proofs.YtehaodbheifokaaGreatDoorW.PrintLast Go.Proofs.YtehaodbheifokaaGreatDoorW.PrintMore
attribute [local go_sem] max2_int min2_int max_two min_two max_three min_three max_four min_four   -- for this text's walks alone
def field_one.j0 : Nat → ByteArray → ByteArray → Bool → Option (ByteArray × Int × Int × ByteArray × Bool)
 | 0, _, _, _ => none
 | k + 1, x4, x5, x21 => if x21 = true then (some ((⟨#[]⟩ : ByteArray), 0, 0, (⟨#[]⟩ : ByteArray), false)) else ((field_Number.f x5).bind fun bt132 => (if bt132.2 = true then (some (x4, 1, bt132.1, (⟨#[]⟩ : ByteArray), true)) else (some (x4, 2, 0, x5, decide ((x5.size : Int) ≤ 64)))))
def field_one.f (k : Nat) (a0 : ByteArray) : Option (ByteArray × Int × Int × ByteArray × Bool) := (strings_Cut.f a0 (⟨#[61]⟩ : ByteArray)).bind fun bt128 => (if bt128.2.2 = true then ((field_IsKey.f k bt128.1).bind fun t131 => (field_one.j0 k bt128.1 bt128.2.1 (!t131))) else (field_one.j0 k bt128.1 bt128.2.1 true))
theorem field_one.calls (k : Nat) (a0 : ByteArray) (r1 : ByteArray) (r2 : Int) (r3 : Int) (r4 : ByteArray) (r5 : Bool) (w : World) (h : field_one.f k a0 = some (r1, r2, r3, r4, r5)) (hx : FieldIn w := by exact FieldIn.go (by assumption) (by assumption)) :
  Calls Tryz.prog 114 #[.string a0] w fun e w' => e = .returned (.tuple #[.agg #[.string r1, .int .i64 r2, .int .i64 r3, .string r4], .bool r5]) ∧ Below w.heap.size w w' := by
 have HX := Aside0.mk hx
 clear hx
 have hu110 := Tryz.underlying110
 have HB := Aside0.mk (Below.refl w.heap.size w)
 have H : ((strings_Cut.f a0 (⟨#[61]⟩ : ByteArray)).bind fun bt128 => (if bt128.2.2 = true then ((field_IsKey.f k bt128.1).bind fun t131 => (field_one.j0 k bt128.1 bt128.2.1 (!t131))) else (field_one.j0 k bt128.1 bt128.2.1 true))) = some (r1, r2, r3, r4, r5) := h
 clear h
 replace H := Option.bind_eq_some_iff.mp H
 obtain ⟨⟨t128, t129, t130⟩, A20, H⟩ := H
 replace H : (if t130 = true then ((field_IsKey.f k t128).bind fun t131 => (field_one.j0 k t128 t129 (!t131))) else (field_one.j0 k t128 t129 true)) = some (r1, r2, r3, r4, r5) := H
 have A2 := Aside0.mk A20
 clear A20
 have HC3 := Aside0.mk H
 clear H
 go_enter Tryz.func114, Tryz.ntmps114
 go_upto_region 2 with (first | ((with_reducible refine gate_dst (N := 2) rfl ?_); refine box_event ?hg (N := 2) ?hd (cs := #[.string (⟨#[]⟩ : ByteArray), .int .i64 0, .int .i64 0, .string (⟨#[]⟩ : ByteArray)]) (t := 110) ?hr ?_; (case hd => rfl); (case hg => rfl); (case hr => first | (go_simp; done) | (go_simp; rfl) | (go_simp; simp only [wAl, wAr, wSl, wSr, wW])); intro gb127 hg w4 hbox hb; have n0_ := bsA HB hb; have n1_ := Aside0.mk (hbox); have n2_ := szA HB hg; have n3_ := szA HB hg; clear HB; have HB := n0_; have BK127 := n1_; have GW127 := n2_; have GE127 := n3_; clear n0_ n1_ n2_ n3_; clear hb hbox hg) | ((with_reducible refine gate_callee (f := 138) rfl ?_); refine goesL_ (some 11) rfl rfl Tryz.func138 (by kernel_rfl) rfl #[.string a0, .string (⟨#[61]⟩ : ByteArray)] rfl mp_ ?_; (with_reducible refine (strings_Cut.calls a0 (⟨#[61]⟩ : ByteArray) t128 t129 t130 _ A2.out).mono ?_); rintro e w' ⟨rfl, ⟨nd, rfl⟩⟩; refine ⟨_, rfl, ?_⟩))
 (try simp only [Act.put, List.setIfInBounds_toArray, List.set_cons_zero, List.set_cons_succ])
 go_cut [21] (fun v21 wc => ∃ (kq : Nat) (x21_2 : Bool), v21 = .bool x21_2 ∧ Aside0 (field_one.j0 kq t128 t129 x21_2 = some (r1, r2, r3, r4, r5)) ∧ Aside0 (kq ≤ k) ∧ Aside0 (wc.heap[gb127]? = some (.cells #[.string (⟨#[]⟩ : ByteArray), .int .i64 0, .int .i64 0, .string (⟨#[]⟩ : ByteArray)] 110 (0, 0))) ∧ Aside0 (Below w.heap.size w wc))
 case first =>
  have H := HC3.out
  clear HC3
  by_cases c5 : t130 = true
  ·subst c5
   have H1 : ((field_IsKey.f k t128).bind fun t131 => (field_one.j0 k t128 t129 (!t131))) = some (r1, r2, r3, r4, r5) := by rw [if_pos rfl] at H; exact H
   clear H
   have H := H1
   clear H1
   replace H := Option.bind_eq_some_iff.mp H
   obtain ⟨t131, A60, H⟩ := H
   replace H : (field_one.j0 k t128 t129 (!t131)) = some (r1, r2, r3, r4, r5) := H
   have A6 := Aside0.mk A60
   clear A60
   have H' := Aside0.mk H
   clear H
   go_wp2_with (first | (go_at_call 80; (with_reducible refine (field_IsKey.calls k t128 t131 _ A6.out).mono ?_); rintro e w' ⟨rfl, ⟨nd, rfl⟩⟩))
   go_meet
   case rel => exact ⟨_, (!t131), rs_, H', ⟨by first | omega | exact Nat.le_refl _⟩, ⟨bU_ BK127.out⟩, ⟨by repeat (first | (with_reducible first | exact HB.out | apply below_alloc | apply pw_below_drewN | apply below_drew1 | refine below_set ?_ GE127.out) | exact HB.out)⟩⟩
  ·replace c5 := Bool.eq_false_iff.mpr c5
   subst c5
   have H1 : (field_one.j0 k t128 t129 true) = some (r1, r2, r3, r4, r5) := by rw [if_neg (show ¬ (false = true) by decide)] at H; exact H
   clear H
   have H := H1
   clear H1
   have H' := Aside0.mk H
   clear H
   go_wp2
   go_meet
   case rel => exact ⟨_, (true), rs_, H', ⟨by first | omega | exact Nat.le_refl _⟩, ⟨bU_ BK127.out⟩, ⟨by repeat (first | (with_reducible first | exact HB.out | apply below_alloc | apply pw_below_drewN | apply below_drew1 | refine below_set ?_ GE127.out) | exact HB.out)⟩⟩
 case rest =>
  clear HC3
  try clear c1
  try clear p2
  try clear c5
  obtain ⟨kq, x21_2, rfl, HA, HJ2, BK127, HB⟩ := hcut
  cases kq with
  | zero => exact absurd HA.out (by simp [field_one.j0])
  | succ kj2 =>
   have H := HA.out
   clear HA
   simp only [field_one.j0] at H
   by_cases c7 : x21_2 = true
   ·subst c7
    have H1 : (some ((⟨#[]⟩ : ByteArray), 0, 0, (⟨#[]⟩ : ByteArray), false)) = some (r1, r2, r3, r4, r5) := by rw [if_pos rfl] at H; exact H
    clear H
    have H := H1
    clear H1
    simp only [Option.some.injEq, Prod.mk.injEq] at H
    obtain ⟨rfl, rfl, rfl, rfl, rfl⟩ := H
    have hcz8_0 : wc.cell? ⟨gb127, 0, none⟩ = some (.string (⟨#[]⟩ : ByteArray)) := (blk_cell BK127.out 0).trans rfl
    have hcz8_1 : wc.cell? ⟨gb127, 1, none⟩ = some (.int .i64 0) := (blk_cell BK127.out 1).trans rfl
    have hcz8_2 : wc.cell? ⟨gb127, 2, none⟩ = some (.int .i64 0) := (blk_cell BK127.out 2).trans rfl
    have hcz8_3 : wc.cell? ⟨gb127, 3, none⟩ = some (.string (⟨#[]⟩ : ByteArray)) := (blk_cell BK127.out 3).trans rfl
    have hfz8_0 := blk_frozen BK127.out 0
    have hfz8_1 := blk_frozen BK127.out 1
    have hfz8_2 := blk_frozen BK127.out 2
    have hfz8_3 := blk_frozen BK127.out 3
    go_wp2
    refine bodyPost_ret (results_ct rfl _ _ gb127 110 #[.string (⟨#[]⟩ : ByteArray), .int .i64 0, .int .i64 0, .string (⟨#[]⟩ : ByteArray)] (0, 0) _ rfl (by (with_reducible repeat (first | refine blk_drewN ?_ _ | refine blk_drew ?_ | refine blk_alloc ?_ _)); refine blk_put (cs := #[.string (⟨#[]⟩ : ByteArray), .int .i64 0, .int .i64 0, .string (⟨#[]⟩ : ByteArray)]) ?_ 3 _ rfl; (with_reducible repeat (first | refine blk_drewN ?_ _ | refine blk_drew ?_ | refine blk_alloc ?_ _)); refine blk_put (cs := #[.string (⟨#[]⟩ : ByteArray), .int .i64 0, .int .i64 0, .string (⟨#[]⟩ : ByteArray)]) ?_ 2 _ rfl; (with_reducible repeat (first | refine blk_drewN ?_ _ | refine blk_drew ?_ | refine blk_alloc ?_ _)); refine blk_put (cs := #[.string (⟨#[]⟩ : ByteArray), .int .i64 0, .int .i64 0, .string (⟨#[]⟩ : ByteArray)]) ?_ 1 _ rfl; (with_reducible repeat (first | refine blk_drewN ?_ _ | refine blk_drew ?_ | refine blk_alloc ?_ _)); refine blk_put (cs := #[.string (⟨#[]⟩ : ByteArray), .int .i64 0, .int .i64 0, .string (⟨#[]⟩ : ByteArray)]) ?_ 0 _ rfl; (with_reducible repeat (first | refine blk_drewN ?_ _ | refine blk_drew ?_ | refine blk_alloc ?_ _)); exact BK127.out) Tryz.underlying110 rfl (by kernel_rfl)) rfl ?_
    exact ⟨by first | rfl | (simp [errW_none, errW_some] <;> rfl) | (simp [*, errW_none, errW_some] <;> rfl), by repeat (first | (with_reducible first | exact HB.out | apply below_alloc | apply pw_below_drewN | apply below_drew1 | refine below_set ?_ GE127.out) | exact HB.out)⟩
   ·replace c7 := Bool.eq_false_iff.mpr c7
    subst c7
    have H1 : ((field_Number.f t129).bind fun bt132 => (if bt132.2 = true then (some (t128, 1, bt132.1, (⟨#[]⟩ : ByteArray), true)) else (some (t128, 2, 0, t129, decide ((t129.size : Int) ≤ 64))))) = some (r1, r2, r3, r4, r5) := by rw [if_neg (show ¬ (false = true) by decide)] at H; exact H
    clear H
    have H := H1
    clear H1
    replace H := Option.bind_eq_some_iff.mp H
    obtain ⟨⟨t132, t133⟩, A90, H⟩ := H
    replace H : (if t133 = true then (some (t128, 1, t132, (⟨#[]⟩ : ByteArray), true)) else (some (t128, 2, 0, t129, decide ((t129.size : Int) ≤ 64)))) = some (r1, r2, r3, r4, r5) := H
    have A9 := Aside0.mk A90
    clear A90
    by_cases c10 : t133 = true
    ·subst c10
     have H1 : (some (t128, 1, t132, (⟨#[]⟩ : ByteArray), true)) = some (r1, r2, r3, r4, r5) := by rw [if_pos rfl] at H; exact H
     clear H
     have H := H1
     clear H1
     simp only [Option.some.injEq, Prod.mk.injEq] at H
     obtain ⟨rfl, rfl, rfl, rfl, rfl⟩ := H
     go_wp2_with (first | ((with_reducible refine gate_callee (f := 139) rfl ?_); refine goesL_ (some 25) rfl rfl Tryz.func139 (by kernel_rfl) rfl #[.string t129] rfl mp_ ?_; (with_reducible refine (field_Number.calls t129 t132 true _ A9.out).mono ?_); rintro e w11 ⟨rfl, hb⟩; refine ⟨_, rfl, ?_⟩; have n0_ := bkA BK127 hb; have n1_ := bsA HB hb; clear BK127; clear HB; have BK127 := n0_; have HB := n1_; clear n0_ n1_; (try clear hb); (try clear hb2); (try clear hk); (try clear hi); have hcz12_0 : w11.cell? ⟨gb127, 0, none⟩ = some (.string (⟨#[]⟩ : ByteArray)) := (blk_cell BK127.out 0).trans rfl; have hcz12_1 : w11.cell? ⟨gb127, 1, none⟩ = some (.int .i64 0) := (blk_cell BK127.out 1).trans rfl; have hcz12_2 : w11.cell? ⟨gb127, 2, none⟩ = some (.int .i64 0) := (blk_cell BK127.out 2).trans rfl; have hcz12_3 : w11.cell? ⟨gb127, 3, none⟩ = some (.string (⟨#[]⟩ : ByteArray)) := (blk_cell BK127.out 3).trans rfl; have hfz12_0 := blk_frozen BK127.out 0; have hfz12_1 := blk_frozen BK127.out 1; have hfz12_2 := blk_frozen BK127.out 2; have hfz12_3 := blk_frozen BK127.out 3))
     refine bodyPost_ret (results_ct rfl _ _ gb127 110 #[.string t128, .int .i64 1, .int .i64 t132, .string (⟨#[]⟩ : ByteArray)] (0, 0) _ rfl (by (with_reducible repeat (first | refine blk_drewN ?_ _ | refine blk_drew ?_ | refine blk_alloc ?_ _)); refine blk_put (cs := #[.string t128, .int .i64 1, .int .i64 t132, .string (⟨#[]⟩ : ByteArray)]) ?_ 3 _ rfl; (with_reducible repeat (first | refine blk_drewN ?_ _ | refine blk_drew ?_ | refine blk_alloc ?_ _)); refine blk_put (cs := #[.string t128, .int .i64 1, .int .i64 0, .string (⟨#[]⟩ : ByteArray)]) ?_ 2 _ rfl; (with_reducible repeat (first | refine blk_drewN ?_ _ | refine blk_drew ?_ | refine blk_alloc ?_ _)); refine blk_put (cs := #[.string t128, .int .i64 0, .int .i64 0, .string (⟨#[]⟩ : ByteArray)]) ?_ 1 _ rfl; (with_reducible repeat (first | refine blk_drewN ?_ _ | refine blk_drew ?_ | refine blk_alloc ?_ _)); refine blk_put (cs := #[.string (⟨#[]⟩ : ByteArray), .int .i64 0, .int .i64 0, .string (⟨#[]⟩ : ByteArray)]) ?_ 0 _ rfl; (with_reducible repeat (first | refine blk_drewN ?_ _ | refine blk_drew ?_ | refine blk_alloc ?_ _)); exact BK127.out) Tryz.underlying110 rfl (by kernel_rfl)) rfl ?_
     exact ⟨by first | rfl | (simp [errW_none, errW_some] <;> rfl) | (simp [*, errW_none, errW_some] <;> rfl), by repeat (first | (with_reducible first | exact HB.out | apply below_alloc | apply pw_below_drewN | apply below_drew1 | refine below_set ?_ GE127.out) | exact HB.out)⟩
    ·replace c10 := Bool.eq_false_iff.mpr c10
     subst c10
     have H1 : (some (t128, 2, 0, t129, decide ((t129.size : Int) ≤ 64))) = some (r1, r2, r3, r4, r5) := by rw [if_neg (show ¬ (false = true) by decide)] at H; exact H
     clear H
     have H := H1
     clear H1
     simp only [Option.some.injEq, Prod.mk.injEq] at H
     obtain ⟨rfl, rfl, rfl, rfl, rfl⟩ := H
     go_wp2_with (first | ((with_reducible refine gate_callee (f := 139) rfl ?_); refine goesL_ (some 25) rfl rfl Tryz.func139 (by kernel_rfl) rfl #[.string t129] rfl mp_ ?_; (with_reducible refine (field_Number.calls t129 t132 false _ A9.out).mono ?_); rintro e w13 ⟨rfl, hb⟩; refine ⟨_, rfl, ?_⟩; have n0_ := bkA BK127 hb; have n1_ := bsA HB hb; clear BK127; clear HB; have BK127 := n0_; have HB := n1_; clear n0_ n1_; (try clear hb); (try clear hb2); (try clear hk); (try clear hi); have hcz14_0 : w13.cell? ⟨gb127, 0, none⟩ = some (.string (⟨#[]⟩ : ByteArray)) := (blk_cell BK127.out 0).trans rfl; have hcz14_1 : w13.cell? ⟨gb127, 1, none⟩ = some (.int .i64 0) := (blk_cell BK127.out 1).trans rfl; have hcz14_2 : w13.cell? ⟨gb127, 2, none⟩ = some (.int .i64 0) := (blk_cell BK127.out 2).trans rfl; have hcz14_3 : w13.cell? ⟨gb127, 3, none⟩ = some (.string (⟨#[]⟩ : ByteArray)) := (blk_cell BK127.out 3).trans rfl; have hfz14_0 := blk_frozen BK127.out 0; have hfz14_1 := blk_frozen BK127.out 1; have hfz14_2 := blk_frozen BK127.out 2; have hfz14_3 := blk_frozen BK127.out 3))
     refine bodyPost_ret (results_ct rfl _ _ gb127 110 #[.string t128, .int .i64 2, .int .i64 0, .string t129] (0, 0) _ rfl (by (with_reducible repeat (first | refine blk_drewN ?_ _ | refine blk_drew ?_ | refine blk_alloc ?_ _)); refine blk_put (cs := #[.string t128, .int .i64 2, .int .i64 0, .string (⟨#[]⟩ : ByteArray)]) ?_ 3 _ rfl; (with_reducible repeat (first | refine blk_drewN ?_ _ | refine blk_drew ?_ | refine blk_alloc ?_ _)); refine blk_put (cs := #[.string t128, .int .i64 2, .int .i64 0, .string (⟨#[]⟩ : ByteArray)]) ?_ 2 _ rfl; (with_reducible repeat (first | refine blk_drewN ?_ _ | refine blk_drew ?_ | refine blk_alloc ?_ _)); refine blk_put (cs := #[.string t128, .int .i64 0, .int .i64 0, .string (⟨#[]⟩ : ByteArray)]) ?_ 1 _ rfl; (with_reducible repeat (first | refine blk_drewN ?_ _ | refine blk_drew ?_ | refine blk_alloc ?_ _)); refine blk_put (cs := #[.string (⟨#[]⟩ : ByteArray), .int .i64 0, .int .i64 0, .string (⟨#[]⟩ : ByteArray)]) ?_ 0 _ rfl; (with_reducible repeat (first | refine blk_drewN ?_ _ | refine blk_drew ?_ | refine blk_alloc ?_ _)); exact BK127.out) Tryz.underlying110 rfl (by kernel_rfl)) rfl ?_
     exact ⟨by first | rfl | (simp [errW_none, errW_some] <;> rfl) | (simp [*, errW_none, errW_some] <;> rfl), by repeat (first | (with_reducible first | exact HB.out | apply below_alloc | apply pw_below_drewN | apply below_drew1 | refine below_set ?_ GE127.out) | exact HB.out)⟩
end Go.Proofs.YtehaodbheifokaaGreatDoor.P
end
section
namespace Go.Proofs.YtehaodbheifokaaGreatDoor.P
open Go Go.RowKit Go.Shelf Go.Proofs.YtehaodbheifokaaGreatDoorW.PrintWords Go.Proofs.YtehaodbheifokaaGreatDoorW.PrintLast
instance : Inhabited S110 := ⟨z110⟩
def cells110 (x : S110) : List Value := [.string x.f0, .int .i64 x.f1, .int .i64 x.f2, .string x.f3]
def flat (l : List S110) : List Value := l.flatMap cells110
theorem flat_len (l : List S110) : (flat l).length = l.length * 4 := by
 induction l with
 | nil => rfl
 | cons x t ih => simp only [flat, List.flatMap_cons, List.length_append] at *; rw [ih]; simp [cells110]; omega
theorem flat_snoc (l : List S110) (x : S110) : flat (l ++ [x]) = flat l ++ cells110 x := by simp [flat]
theorem flat_at : ∀ (l : List S110) (j : Nat), j < l.length → ((flat l).drop (j * 4)).take 4 = cells110 l[j]!
 | [], j, h => by simp at h
 | x :: t, 0, h => by simp [flat, cells110]
 | x :: t, j + 1, h => by
  have ih := flat_at t j (by simpa using h)
  have e : (flat (x :: t)).drop ((j + 1) * 4) = (flat t).drop (j * 4) := by
   show (cells110 x ++ flat t).drop _ = _
   rw [show (j + 1) * 4 = (cells110 x).length + j * 4 by simp [cells110]; omega, List.drop_append, List.drop_eq_nil_of_le (by omega), List.nil_append, Nat.add_sub_cancel_left]
  rw [e, ih]
  simp
theorem flat_get {l : List S110} {j i : Nat} {v : Value} (hj : j < l.length) (h : (cells110 l[j]!)[i]? = some v) : (flat l)[j * 4 + i]? = some v := by
 rw [← flat_at l j hj] at h
 have hi : i < 4 := by
  have := (List.getElem?_eq_some_iff.1 h).1
  rw [List.length_take] at this
  omega
 rw [List.getElem?_take_of_lt hi, List.getElem?_drop] at h
 exact h
theorem R_flat {w : World} {base : Nat} {v : Value} {l : List S110} (h : w.ownsRow base 110 4 v l.length (flat l)) : Kd.R k110 110 w base (fun _ => True) v l :=
 ⟨fun _ _ => trivial, flat l, h, by
  refine ⟨flat_len l, fun j p hj => ?_⟩
  obtain ⟨hl, hp⟩ := List.getElem?_eq_some_iff.1 hj
  have e : ((flat l).drop (j * 4)).take 4 = cells110 l[j]! := flat_at l j hl
  have e2 : l[j]! = p := by rw [getElem!_pos l j hl]; exact hp
  rw [e2] at e
  show k110.M _ _ _ p (((flat l).drop (j * 4)).take 4)
  rw [e]
  exact k110_mkM _ _ _ p⟩
theorem had_calls (G : Nat) (y x : S110) (W : World) (hG : W.heap[G]? = some (.cells (cells110 y).toArray 110 (0, 0))) :
  Calls Tryz.prog 116 #[.agg (cells110 x).toArray, .pointer (some ⟨G, 0, none⟩)] W fun e w' => e = .returned (.bool (decide (x.f0 = y.f0))) ∧ Below W.heap.size W w' := by
 have hc0 : W.cell? ⟨G, 0, none⟩ = some (.string y.f0) := (blk_cell hG 0).trans rfl
 have hlt : G < W.heap.size := (Array.getElem?_eq_some_iff.1 hG).1
 have hBA : Below W.heap.size W (W.alloc (.cells (cells110 x).toArray 110)) := (Below.refl _ _).alloc (Nat.le_refl _) _
 have hc0' : (W.alloc (.cells (cells110 x).toArray 110)).cell? ⟨G, 0, none⟩ = some (.string y.f0) := (hBA.cell (p := ⟨G, 0, none⟩) hlt).trans hc0
 have hb : (x.f0.toList == y.f0.toList) = decide (x.f0 = y.f0) := by
  by_cases e : x.f0 = y.f0
  ·rw [e]; simp
  ·rw [decide_eq_false e]
   exact beq_eq_false_iff_ne.2 (fun h => e (by
    rw [Lib.toList_data, Lib.toList_data] at h
    exact ByteArray.ext (Array.toList_inj.1 h)))
 unfold cells110 at *
 clear hG hc0
 go_enter Tryz.func116, Tryz.ntmps116
 go_wp2
 go_ret
 exact ⟨by rw [← hb]; rfl, hBA⟩
theorem had_below (G : Nat) (y : S110) (W : World) (hG : W.heap[G]? = some (.cells (cells110 y).toArray 110 (0, 0))) :
  PredBelow Tryz.prog 116 #[.pointer (some ⟨G, 0, none⟩)] (fun x : S110 => .agg (cells110 x).toArray) (fun x => decide (x.f0 = y.f0)) W := fun V x hb => by
 have h := had_calls G y x V ((hb.block G (Array.getElem?_eq_some_iff.1 hG).1).trans hG)
 refine h.mono ?_
 rintro e w' ⟨rfl, hb2⟩
 exact ⟨rfl, hb.trans (hb2.mono hb.size)⟩
theorem index_nil (f : Value) (W : World) : Calls Tryz.prog 140 #[.slice none 0 0, f] W fun e w' => e = .returned (.int .i64 (-1)) ∧ Below W.heap.size W w' := by
 go_enter Tryz.func140, Tryz.ntmps140
 go_wp2
 go_loopg [5, 8] 0 (fun gg _ s8 wr => s8 = .int .i64 0 ∧ wr = W)
 case atStart => exact ⟨rfl, rfl⟩
 case round =>
  obtain ⟨rfl, rfl⟩ := hrel
  go_wp2
  go_ret
  exact ⟨rfl, Below.refl _ _⟩
theorem contains_nil (f : Value) (W : World) : Calls Tryz.prog 115 #[.slice none 0 0, f] W fun e w' => e = .returned (.bool false) ∧ Below W.heap.size W w' := by
 go_enter Tryz.func115, Tryz.ntmps115
 go_wp2_with (go_at_call 140; refine (index_nil f _).mono ?_; rintro e w' ⟨rfl, hb⟩)
 go_ret
 exact ⟨rfl, hb⟩
theorem contains_calls (base : Nat) (v : Value) (l : List S110) (G : Nat) (y : S110) (W : World) (hl : l.length ≤ 16) (h : W.ownsRow base 110 4 v l.length (flat l)) (hG : W.heap[G]? = some (.cells (cells110 y).toArray 110 (0, 0))) :
  Calls Tryz.prog 115 #[v, .func (.func 116) #[] #[.pointer (some ⟨G, 0, none⟩)]] W fun e w' => e = .returned (.bool (l.any (fun x => decide (x.f0 = y.f0)))) ∧ Below W.heap.size W w' := by
 rcases h.2 with ⟨rfl, hn⟩ | ⟨g, cap, cur, rfl, _, hg, hnc, hcm, hcs, htake⟩
 ·obtain rfl : l = [] := List.length_eq_zero_iff.1 hn
  exact contains_nil _ W
 ·have hc := AnyQ.slices_ContainsFunc Tryz.laysH8 4 Tryz.isAgg110 Tryz.sizeOf110 cells110 (fun _ => rfl) (fun x => decide (x.f0 = y.f0)) 116 #[.pointer (some ⟨G, 0, none⟩)] (enters_of Tryz.func116 (by kernel_rfl) rfl) g 0 l.length cap l W
   (had_below G y W hG) (Nat.le_refl _) (by omega) (Array.getElem?_eq_some_iff.1 hg).1 (fun j hj i u hu => by
    have h1 := flat_get hj hu
    rw [← htake] at h1
    have h2 : cur.toList[j * 4 + i]? = some u := by
     have hlt := (List.getElem?_eq_some_iff.1 h1).1
     rw [List.length_take] at hlt
     rwa [List.getElem?_take_of_lt (by omega)] at h1
    rw [Nat.zero_add, blk_cell hg]
    simpa using h2)
  rw [List.take_of_length_le (Nat.le_refl _)] at hc
  exact hc
theorem own_below {w w1 : World} {base : Nat} {e : TypeId} {size n : Nat} {v : Value} {xs : List Value} (h : w.ownsRow base e size v n xs) (hb : Below w.heap.size w w1) : w1.ownsRow base e size v n xs := own_move h (fun k hk => hb.block k (own_lt h k hk))
theorem boxed_below {W W1 : World} {B : Nat} {t : TypeId} {v : Value} (h : Boxed W B t v) (hb : Below W.heap.size W W1) : Boxed W1 B t v := (hb.block B h.lt).trans h
def oneT (x : ByteArray) : S110 × Bool :=
 match field_one.f (x.size + 8) x with
 | some (a, b, c, d, ok) => (⟨a, b, c, d⟩, ok)
 | none => (z110, false)
def rdStep (st : List S110) (x : ByteArray) : List S110 :=
 if st.length = 16 then st else if (oneT x).2 = false ∨ st.any (fun y => decide (y.f0 = (oneT x).1.f0)) = true then st else st ++ [(oneT x).1]
def rdSt (pre : List ByteArray) : List S110 := pre.foldl rdStep []
theorem rdSt_snoc (pre : List ByteArray) (x : ByteArray) : rdSt (pre ++ [x]) = rdStep (rdSt pre) x := by unfold rdSt; rw [List.foldl_append]; rfl
theorem rdFold_le (pre : List ByteArray) : ∀ st : List S110, st.length ≤ 16 → (pre.foldl rdStep st).length ≤ 16 := by
 induction pre with
 | nil => intro st h; exact h
 | cons x t ih =>
  intro st h
  refine ih _ ?_
  unfold rdStep
  split
  ·exact h
  ·split
   ·exact h
   ·simp only [List.length_append, List.length_singleton]; omega
theorem rdSt_le (pre : List ByteArray) : (rdSt pre).length ≤ 16 := rdFold_le pre [] (by simp)
theorem rdFold_full (pre : List ByteArray) : ∀ st : List S110, st.length = 16 → pre.foldl rdStep st = st := by
 induction pre with
 | nil => intro st h; rfl
 | cons x t ih =>
  intro st h
  rw [List.foldl_cons, show rdStep st x = st from if_pos h]
  exact ih st h
theorem rdSt_full {pre ws : List ByteArray} (h : pre <+: ws) (h16 : (rdSt pre).length = 16) : rdSt ws = rdSt pre := by
 obtain ⟨t, rfl⟩ := h
 unfold rdSt at *
 rw [List.foldl_append]
 exact rdFold_full t _ h16
end Go.Proofs.YtehaodbheifokaaGreatDoor.P
end
section
namespace Go.Proofs.YtehaodbheifokaaGreatDoor.P
open Go Go.RowKit Go.Shelf Go.Proofs.YtehaodbheifokaaGreatDoorW.PrintWords Go.Proofs.YtehaodbheifokaaGreatDoorW.PrintLast
attribute [local go_sem] Oper.semAt_some
theorem appended2 {W w1 : World} {n₀ nb B : Nat} {t e : TypeId} {size : Nat} {v v' : Value} {k m : Nat} {xs ys : List Value} {tmp : Obj}
  (hv : Boxed W B t v) (hte : t ≠ e) (hrow : W.ownsRow nb e size v k xs) (hn : n₀ ≤ nb) (hnb : nb ≤ W.heap.size) (hB : n₀ ≤ B) (hown' : w1.ownsRow nb e size v' m ys) (hgrow : (W.alloc tmp).grownBy w1 v.ownBlock) :
  Boxed w1 B t v ∧ Boxed (w1.setCell ⟨B, 0, none⟩ v') B t v' ∧ (w1.setCell ⟨B, 0, none⟩ v').ownsRow nb e size v' m ys ∧ KeepsOthers W (w1.setCell ⟨B, 0, none⟩ v') ∧ Below n₀ W (w1.setCell ⟨B, 0, none⟩ v') := by
 have hv1 : Boxed w1 B t v := (hv.alloc tmp).kept hgrow (hv.not_row hte hrow)
 refine ⟨hv1, hv1.set v', own_setCell hown' (hv1.not_row hte hown') v', ?_, ?_⟩
 ·refine ((KeepsOthers.alloc W tmp).trans (KeepsOthers.of_grownBy hgrow fun j o ej hj => ?_)).trans (KeepsOthers.setCell _ _ _)
  rcases (hrow.alloc tmp).2 with ⟨rfl, _⟩ | ⟨g, cap, cur, rfl, _, hgb, _⟩
  ·simp [Value.ownBlock] at ej
  ·obtain rfl : g = j := by simpa [Value.ownBlock] using ej
   rw [hgb] at hj; cases hj; rfl
 ·exact (((Below.refl n₀ W).alloc (Nat.le_trans hn hnb) tmp).grown hgrow (by simp; omega) fun j ej => Nat.le_trans hn (own_base hrow j ej)).setCell (p := ⟨B, 0, none⟩) hB v'
theorem gInfo110 : (Tryz.prog.info? 110).map (fun i => (i.zero, i.size, i.bytes)) = some (some (.agg (cells110 z110).toArray), 4, 48) := by kernel_rfl
theorem keeps_below {W W' : World} (h : Below W.heap.size W W') : KeepsOthers W W' := KeepsOthers.of_grownBy (grown_of_below h) (fun j o e _ => by cases e)
theorem own_slice {w : World} {base : Nat} {e : TypeId} {size n : Nat} {v : Value} {xs : List Value} (h : w.ownsRow base e size v n xs) : ∃ A c, v = .slice A n c := by
 rcases h.2 with ⟨rfl, rfl⟩ | ⟨g, cap, cur, rfl, _⟩
 ·exact ⟨_, _, rfl⟩
 ·exact ⟨_, _, rfl⟩
theorem cells_new (w : World) (cs : List Value) (t : TypeId) : ∀ (j : Nat) u, cs[j]? = some u → (w.alloc (.cells cs.toArray t)).cell? ((⟨w.heap.size, 0, none⟩ : Addr).add j) = some u := fun j u h => by
 rw [WideShapes.add_plain, Nat.zero_add, blk_cell (World.alloc_heap_new w _)]
 simpa using h
def okWord (x : ByteArray) : Bool := (field_one.f (x.size + 8) x).isSome
def rdA (pre : List {x : ByteArray // okWord x = true}) : List S110 := rdSt (pre.map Subtype.val)
theorem rdA_snoc (pre : List {x : ByteArray // okWord x = true}) (x : {x : ByteArray // okWord x = true}) : rdA (pre ++ [x]) = rdStep (rdA pre) x.val := by unfold rdA; rw [List.map_append]; exact rdSt_snoc _ _
theorem rdA_le (pre : List {x : ByteArray // okWord x = true}) : (rdA pre).length ≤ 16 := rdSt_le _
theorem read_in (n : Nat) (hn : 3 ≤ n) (A : Option Addr) (c : Nat) (bs : List UInt8) (hcc : bs.length ≤ c) (hbig : bs.length ≤ 9223372036854775807) (w : World) (hX : FieldIn w) (hL : Lib.BytesAt w A bs.length bs) (hok : ∀ x ∈ wordsL bs, okWord x = true) :
  CallsIn Fence.wide n Tryz.prog 95 #[.slice A bs.length c] w fun e W' => ∃ v, e = .returned v ∧ W'.ownsRow w.heap.size 110 4 v (rdSt (wordsL bs)).length (flat (rdSt (wordsL bs))) ∧ Below w.heap.size w W' := by
 have h1 : 1 ≤ n := by omega
 obtain ⟨i0, hi, hz0, hz1, hz2⟩ := info_parts gInfo110
 refine callsIn_of_wp_marks Tryz.func95 rfl trivial ?_ rfl
 simp only [Tryz.ntmps95, List.size_toArray, List.length_cons, List.length_nil, Nat.reduceAdd, Nat.reduceSub, Array.replicate_succ, Array.replicate_zero, List.push_toArray, List.append_toArray, List.nil_append, List.cons_append]
 have HX := Aside0.mk hX
 have HL := Aside0.mk hL
 have HOK := Aside0.mk hok
 clear hX hL hok
 gi_wp2
 refine wpIn_wide.2 (wp_scope_straight ((wpIn_wide (n := n)).1 ?_))
 gi_wp2
 refine wpIn_label ?_
 gi_wp2_with (refine ⟨trivial, ?_⟩; gi_at_call 113; refine (words_in (n - 1) A bs.length c _).mono ?_; rintro e w' ⟨rfl, rfl⟩)
 obtain ⟨W0, hW0⟩ : ∃ W0, ((w.alloc (Obj.cells #[Value.slice none 0 0] 130)).alloc (Obj.cells #[Value.slice A bs.length c] 25)) = W0 := ⟨_, rfl⟩
 have hB0 : Below w.heap.size w W0 := by rw [← hW0]; exact ((Below.refl _ w).alloc (Nat.le_refl _) _).alloc (by simp) _
 have hsz : W0.heap.size = w.heap.size + 2 := by rw [← hW0]; simp
 have bL : Boxed W0 w.heap.size 130 (.slice none 0 0) := by
  rw [← hW0]
  exact (Boxed.new w 130 (.slice none 0 0)).alloc _
 have bS : W0.heap[w.heap.size + 1]? = some (.cells #[.slice A bs.length c] 25 (0, 0)) := by
  have h := World.alloc_heap_new (w.alloc (Obj.cells #[Value.slice none 0 0] 130)) (Obj.cells #[Value.slice A bs.length c] 25)
  rw [World.size_alloc] at h
  rw [← hW0]
  exact h
 rw [hW0]
 clear hW0
 have hS := Aside0.mk (words_stops (fun x => okWord x = true) (n - 1) (by omega) (w.heap.size + 1) w W0 A c bs hcc hbig HX.out HL.out HOK.out hB0 (by omega) bS)
 refine wpIn_rangeFunc_ownG rfl h1 (gf := 135) (lb := #[.pointer (some ⟨w.heap.size + 1, 0, none⟩)]) rfl trivial (enters_of Tryz.func135 (by kernel_rfl) rfl)
  hS.out belowK_t (belowK_b (by omega)) (Below.refl _ _) (fun _ => rfl)
  (fun pre W => (∃ v, Boxed W w.heap.size 130 v ∧ W.ownsRow W0.heap.size 110 4 v (rdA pre).length (flat (rdA pre)) ∧ True) ∧ Below w.heap.size w W ∧ W0.heap.size ≤ W.heap.size)
  (fun co pre W => (∃ v, Boxed W w.heap.size 130 v ∧ W.ownsRow W0.heap.size 110 4 v (rdA pre).length (flat (rdA pre)) ∧ (co = .exit 0 ∧ (rdA pre).length = 16)) ∧ Below w.heap.size w W ∧ W0.heap.size ≤ W.heap.size)
  (OwnFrom.and (Own.from (holdsRow_own W0.heap.size w.heap.size 130 110 4 (fun pre => (rdA pre).length) (fun pre => flat (rdA pre)) (fun _ _ => True)) _) (OwnFrom.and (ownFrom_below (Nat.le_refl _) (by omega)) (fun _ _ _ _ hs hg _ => Nat.le_trans hs hg.size)))
  (fun co => OwnFrom.and (Own.from (holdsRow_own W0.heap.size w.heap.size 130 110 4 (fun pre => (rdA pre).length) (fun pre => flat (rdA pre)) (fun pre _ => co = .exit 0 ∧ (rdA pre).length = 16)) _) (OwnFrom.and (ownFrom_below (Nat.le_refl _) (by omega)) (fun _ _ _ _ hs hg _ => Nat.le_trans hs hg.size)))
  ⟨⟨_, bL, World.ownsRow_nil _ _ _ _, trivial⟩, hB0, Nat.le_refl _⟩
  (fun x => { tmps := #[.slice A bs.length c, undef, .slice none 0 0, .pointer (some ⟨w.heap.size, 0, none⟩), .string x.val, undef, undef, .slice A bs.length c, .func (.func 135) #[] #[.pointer (some ⟨w.heap.size + 1, 0, none⟩)], .string x.val, undef, undef, undef, undef, undef, undef, undef, undef, undef, undef, undef, undef, undef, undef, undef, undef, undef, undef, undef, undef, undef, undef], defers := [] }) ?assign ?body ?done ?stop
 case assign =>
  intro l x W K hK
  gi_wp2
  exact hK
 case body =>
  rintro l pre ⟨x, hx⟩ W ⟨⟨v, hv, hrow, _⟩, hB, hsz2⟩ hlt
  have hs := rdA_snoc pre ⟨x, hx⟩
  have hle := rdA_le pre
  generalize rdA pre = st at hrow hs hle
  obtain ⟨A', c', rfl⟩ := own_slice hrow
  have hone : ∃ a b d e ok, field_one.f (x.size + 8) x = some (a, b, d, e, ok) := by
   unfold okWord at hx
   cases h : field_one.f (x.size + 8) x with
   | none => rw [h] at hx; cases hx
   | some r => obtain ⟨a, b, d, e, ok⟩ := r; exact ⟨a, b, d, e, ok, rfl⟩
  obtain ⟨a, b, d, e, ok, hone⟩ := hone
  have hT : oneT x = (⟨a, b, d, e⟩, ok) := by unfold oneT; rw [hone]
  unfold rdStep at hs
  rw [hT] at hs
  dsimp only at hs
  have HS := Aside0.mk hs
  have hC := Aside0.mk (field_one.calls (x.size + 8) x a b d e ok W hone (HX.out.below hB))
  have HOW := Aside0.mk hrow
  have HV := Aside0.mk hv
  have HB := Aside0.mk hB
  clear hone hT hrow hB hlt hs hv
  have h11 : 1 ≤ n - 1 - 1 := by omega
  by_cases h16 : st.length = 16
  ·have hz : ((st.length : Int) == 16) = true := by rw [h16]; rfl
   have HS2 := Aside0.mk (HS.out.trans (if_pos h16))
   have H16 := Aside0.mk h16
   clear h16 HS
   gi_wp2_with (refine ⟨trivial, ?_⟩; gi_at_call 114; refine (CallsIn.inRound l (callsIn_wide.2 hC.out)).mono ?_; rintro e' w1 ⟨rfl, hb1⟩; have hv1 := (boxed_below HV.out hb1).alloc (Obj.cells #[.string a, .int .i64 b, .int .i64 d, .string e] 110); have hc1 := hv1.cell; have hf1 := hv1.frozen; have HV1 := Aside0.mk hv1; have HOW1 := Aside0.mk ((own_below HOW.out hb1).alloc (Obj.cells #[.string a, .int .i64 b, .int .i64 d, .string e] 110)); have hg1 := Aside0.mk (World.alloc_heap_new w1 (Obj.cells #[.string a, .int .i64 b, .int .i64 d, .string e] 110)); have HB1 := Aside0.mk (hb1.alloc hb1.size (Obj.cells #[.string a, .int .i64 b, .int .i64 d, .string e] 110)); clear hb1 hv1)
   exact ⟨(keeps_below HB1.out).from _, ⟨_, HV1.out, by rw [HS2.out]; exact HOW1.out, rfl, by rw [HS2.out]; exact H16.out⟩, HB.out.trans (HB1.out.mono (by omega)), Nat.le_trans hsz2 HB1.out.size⟩
  ·have hz : ((st.length : Int) == 16) = false := beq_eq_false_iff_ne.2 (by omega)
   have HS2 := Aside0.mk (HS.out.trans (if_neg h16))
   clear h16 HS
   cases ok with
   | false =>
    have HS3 := Aside0.mk (HS2.out.trans (if_pos (Or.inl rfl)))
    clear HS2
    gi_wp2_with (refine ⟨trivial, ?_⟩; gi_at_call 114; refine (CallsIn.inRound l (callsIn_wide.2 hC.out)).mono ?_; rintro e' w1 ⟨rfl, hb1⟩; have hv1 := (boxed_below HV.out hb1).alloc (Obj.cells #[.string a, .int .i64 b, .int .i64 d, .string e] 110); have hc1 := hv1.cell; have hf1 := hv1.frozen; have HV1 := Aside0.mk hv1; have HOW1 := Aside0.mk ((own_below HOW.out hb1).alloc (Obj.cells #[.string a, .int .i64 b, .int .i64 d, .string e] 110)); have hg1 := Aside0.mk (World.alloc_heap_new w1 (Obj.cells #[.string a, .int .i64 b, .int .i64 d, .string e] 110)); have HB1 := Aside0.mk (hb1.alloc hb1.size (Obj.cells #[.string a, .int .i64 b, .int .i64 d, .string e] 110)); clear hb1 hv1)
    refine ⟨trivial, ?_⟩
    gi_wp2
    exact ⟨(keeps_below HB1.out).from _, HB1.out.mono (by omega), ⟨_, HV1.out, by rw [HS3.out]; exact HOW1.out, trivial⟩, HB.out.trans (HB1.out.mono (by omega)), Nat.le_trans hsz2 HB1.out.size⟩
   | true =>
    cases hany : st.any (fun z => decide (z.f0 = a)) with
    | true =>
     have HS3 := Aside0.mk (HS2.out.trans (if_pos (Or.inr hany)))
     clear HS2
     gi_wp2_with (first
      | (refine ⟨trivial, ?_⟩; gi_at_call 114; refine (CallsIn.inRound l (callsIn_wide.2 hC.out)).mono ?_; rintro e' w1 ⟨rfl, hb1⟩; have hv1 := (boxed_below HV.out hb1).alloc (Obj.cells #[.string a, .int .i64 b, .int .i64 d, .string e] 110); have hc1 := hv1.cell; have hf1 := hv1.frozen; have HV1 := Aside0.mk hv1; have HOW1 := Aside0.mk ((own_below HOW.out hb1).alloc (Obj.cells #[.string a, .int .i64 b, .int .i64 d, .string e] 110)); have hg1 := Aside0.mk (World.alloc_heap_new w1 (Obj.cells #[.string a, .int .i64 b, .int .i64 d, .string e] 110)); have HB1 := Aside0.mk (hb1.alloc hb1.size (Obj.cells #[.string a, .int .i64 b, .int .i64 d, .string e] 110)); clear hb1 hv1)
      | (refine ⟨trivial, ?_⟩; gi_at_call 115; refine (CallsIn.inRound l (callsIn_wide.2 (contains_calls W0.heap.size _ st w1.heap.size ⟨a, b, d, e⟩ _ hle HOW1.out hg1.out))).mono ?_; rintro e' w3 ⟨rfl, hb3⟩; rw [hany]; have hv3 := boxed_below HV1.out hb3; have hc3 := hv3.cell; have hf3 := hv3.frozen; have HV3 := Aside0.mk hv3; have HOW3 := Aside0.mk (own_below HOW1.out hb3); have hg3 := Aside0.mk ((hb3.block w1.heap.size (by simp)).trans hg1.out); have HB3 := Aside0.mk (HB1.out.trans (hb3.mono HB1.out.size)); have hd0 := (blk_cell hg3.out 0).trans rfl; have hd1 := (blk_cell hg3.out 1).trans rfl; have hd2 := (blk_cell hg3.out 2).trans rfl; have hd3 := (blk_cell hg3.out 3).trans rfl; clear hb3 hv3))
     exact ⟨(keeps_below HB3.out).from _, HB3.out.mono (by omega), ⟨_, HV3.out, by rw [HS3.out]; exact HOW3.out, trivial⟩, HB.out.trans (HB3.out.mono (by omega)), Nat.le_trans hsz2 HB3.out.size⟩
    | false =>
     have HS3 := Aside0.mk (HS2.out.trans (if_neg (by rw [hany]; simp)))
     clear HS2
     gi_wp2_with (first
      | (refine ⟨trivial, ?_⟩; gi_at_call 114; refine (CallsIn.inRound l (callsIn_wide.2 hC.out)).mono ?_; rintro e' w1 ⟨rfl, hb1⟩; have hv1 := (boxed_below HV.out hb1).alloc (Obj.cells #[.string a, .int .i64 b, .int .i64 d, .string e] 110); have hc1 := hv1.cell; have hf1 := hv1.frozen; have HV1 := Aside0.mk hv1; have HOW1 := Aside0.mk ((own_below HOW.out hb1).alloc (Obj.cells #[.string a, .int .i64 b, .int .i64 d, .string e] 110)); have hg1 := Aside0.mk (World.alloc_heap_new w1 (Obj.cells #[.string a, .int .i64 b, .int .i64 d, .string e] 110)); have HB1 := Aside0.mk (hb1.alloc hb1.size (Obj.cells #[.string a, .int .i64 b, .int .i64 d, .string e] 110)); clear hb1 hv1)
      | (refine ⟨trivial, ?_⟩; gi_at_call 115; refine (CallsIn.inRound l (callsIn_wide.2 (contains_calls W0.heap.size _ st w1.heap.size ⟨a, b, d, e⟩ _ hle HOW1.out hg1.out))).mono ?_; rintro e' w3 ⟨rfl, hb3⟩; rw [hany]; have hv3 := boxed_below HV1.out hb3; have hc3 := hv3.cell; have hf3 := hv3.frozen; have HV3 := Aside0.mk hv3; have HOW3 := Aside0.mk (own_below HOW1.out hb3); have hg3 := Aside0.mk ((hb3.block w1.heap.size (by simp)).trans hg1.out); have HB3 := Aside0.mk (HB1.out.trans (hb3.mono HB1.out.size)); have hd0 := (blk_cell hg3.out 0).trans rfl; have hd1 := (blk_cell hg3.out 1).trans rfl; have hd2 := (blk_cell hg3.out 2).trans rfl; have hd3 := (blk_cell hg3.out 3).trans rfl; clear hb3 hv3; have hsz3 : W0.heap.size ≤ w3.heap.size := Nat.le_trans hsz2 HB3.out.size)
      | (gi_at_builtin; refine wpListIn_append_own _ rfl _ _ 130 rfl W0.heap.size 110 i0 (.agg (cells110 z110).toArray) 4 48 Tryz.underlying130 hi hz0 hz1 hz2 rfl (by decide) _ _ _ rfl (HOW3.out.alloc _) ⟨w3.heap.size, 0, none⟩ 1 1 (cells110 ⟨a, b, d, e⟩) rfl rfl (cells_new _ _ _) (by simp [Value.oneCell', cells110]) (by unfold maxLen; omega) (by omega) (by simp; omega) ?_; intro v' w4 hown' hgrow _; obtain ⟨g', cap', rfl⟩ := ownsRow_succ hown'; obtain ⟨hv4, hv5, hr5, hk5, hb5⟩ := appended2 (n₀ := w.heap.size) HV3.out (by decide) HOW3.out (by omega) hsz3 (Nat.le_refl _) hown' hgrow; have hc4 := hv4.cell; have hf4 := hv4.frozen; have HV5 := Aside0.mk hv5; have HR5 := Aside0.mk hr5; have HK5 := Aside0.mk hk5; have HB5 := Aside0.mk hb5; clear hv4 hv5 hr5 hk5 hb5 hown' hgrow))
     have hB5 : Below w.heap.size W _ := (HB3.out.mono (by omega)).trans HB5.out
     exact ⟨((keeps_below HB3.out).trans HK5.out).from _, hB5, ⟨_, HV5.out, by rw [HS3.out, flat_snoc, List.length_append]; exact HR5.out, trivial⟩, HB.out.trans hB5, Nat.le_trans hsz2 hB5.size⟩
 case done =>
  rintro D ys W hD hys ⟨⟨v, hv, hrow, _⟩, hB, hsz2⟩ hK
  have hc := hv.cell
  unfold rdA at hrow
  rw [hys] at hrow
  clear hys
  gi_wp2
  refine ⟨by simp, .inl ⟨_, _, rfl, run_takeDeferred hK, ?_⟩⟩
  exact ⟨_, results_tmp rfl _ _ _, v, rfl, own_weaken (ownsRow_putObj hrow _ hK rfl) (by omega), hB.trans (belowK_b (w := w) (Nat.le_refl _) W D _ _ (by omega) hK rfl rfl)⟩
 case stop =>
  rintro D co pre W hD hpre ⟨⟨v, hv, hrow, rfl, h16⟩, hB, hsz2⟩ hK
  have hc := hv.cell
  unfold rdA at hrow h16
  rw [← rdSt_full hpre h16] at hrow
  clear hpre h16
  gi_wp2
  refine ⟨by simp, .inl ⟨_, _, rfl, run_takeDeferred hK, ?_⟩⟩
  exact ⟨_, results_tmp rfl _ _ _, v, rfl, own_weaken (ownsRow_putObj hrow _ hK rfl) (by omega), hB.trans (belowK_b (w := w) (Nat.le_refl _) W D _ _ (by omega) hK rfl rfl)⟩
def byteB (x : Int) : Bool := decide (0 ≤ x) && decide (x < 256)
theorem bytesAt_of {w : World} {A : Option Addr} {l : List Int} (h : Kd.C (Kd.int .u8) w A l.length l) (hb : l.all byteB = true) : Lib.BytesAt w A l.length (Lib.bytesOf l) := fun hn => by
 obtain ⟨ad, rfl, hc0⟩ := Kd.at_int h 0 (by omega) (by omega)
 obtain ⟨_, _, _, _, hsp⟩ := World.shape?_of_cell? hc0
 have hs : ad.spot = none := by
  cases ad with
  | mk b o sp => simpa [Addr.add] using hsp
 obtain ⟨b, o, sp⟩ := ad
 cases hs
 refine ⟨b, o, rfl, fun i hi => ?_⟩
 obtain ⟨ad, e, hc⟩ := Kd.at_int h (i : Int) (by omega) (by omega)
 cases e
 rw [Int.toNat_natCast, WideShapes.add_plain] at hc
 rw [hc]
 have hl : i < l.length := hi
 have hx : l[i] ∈ l := List.getElem_mem hl
 have hr := List.all_eq_true.1 hb _ hx
 simp only [byteB, Bool.and_eq_true, decide_eq_true_eq] at hr
 have e1 : rd l (i : Int) = l[i] := by simp [rd, List.getD, List.getElem?_eq_getElem hl]
 have e2 : (Lib.bytesOf l).getD i 0 = UInt8.ofNat (l[i]).toNat := by simp [Lib.bytesOf, List.getD, List.getElem?_eq_getElem hl]
 rw [e1, e2]
 congr 2
 simp only [UInt8.toNat_ofNat']
 omega
def field_Read.f (l0 : List Int) : Option (List S110) :=
 if l0.all byteB = true ∧ (wordsL (Lib.bytesOf l0)).all okWord = true then some (rdSt (wordsL (Lib.bytesOf l0))) else none
theorem field_Read.calls (A0 : Option Addr) (c0 : Nat) (l0 : List Int) (r : List S110) (w : World) (hr0 : Kd.C (Kd.int .u8) w A0 l0.length l0) (hc0 : l0.length ≤ c0) (h : field_Read.f l0 = some r) (hx : FieldIn w := by exact FieldIn.go (by assumption) (by assumption)) :
  Calls Tryz.prog 95 #[.slice A0 l0.length c0] w fun e w' => ∃ v0_ : Value, e = .returned (v0_) ∧ Kd.R k110 110 w' w.heap.size (fun _ => True) v0_ r ∧ Below w.heap.size w w' := by
 unfold field_Read.f at h
 split at h
 case isFalse => cases h
 case isTrue hok =>
  obtain ⟨h1, h2⟩ := hok
  obtain rfl := Option.some.inj h
  have hlen : (Lib.bytesOf l0).length = l0.length := by simp [Lib.bytesOf]
  have hL := bytesAt_of hr0 h1
  have hm : l0.length ≤ 9223372036854775807 := hr0.2.1
  rw [← hlen] at hL hc0 hm ⊢
  refine ((callsIn_wide (n := 3)).1 (read_in 3 (by omega) A0 c0 (Lib.bytesOf l0) hc0 hm w hx hL (fun x hxm => List.all_eq_true.1 h2 x hxm))).mono ?_
  rintro e w' ⟨v, rfl, ho, hb⟩
  exact ⟨v, rfl, R_flat ho, hb⟩
end Go.Proofs.YtehaodbheifokaaGreatDoor.P
end
section
namespace Go.Proofs.YtehaodbheifokaaGreatDoor.P
open Go.RowKit Go.Proofs.YtehaodbheifokaaGreatDoorW.PrintWords Go.Proofs.YtehaodbheifokaaGreatDoorW.PrintLast Go.Proofs.YtehaodbheifokaaGreatDoorW.PrintMore
attribute [local go_sem] max2_int min2_int max_two min_two max_three min_three max_four min_four   -- for this text's walks alone
def field_Get.l0 : Nat → ByteArray → List (S110) → Int → Int → Option (ByteArray × Int × Int × ByteArray × Bool)
 | 0, _, _, _, _ => none
 | k + 1, x1, x9, x10, x11 => if x11 < x10 then (if 0 ≤ x11 then (if x11 < (x9.length : Int) then (if ((rd_T110 x9 x11).f0).toList = x1.toList then (some ((rd_T110 x9 x11).f0, (rd_T110 x9 x11).f1, (rd_T110 x9 x11).f2, (rd_T110 x9 x11).f3, true)) else (field_Get.l0 k x1 x9 x10 (wrap64 (x11 + 1)))) else (none)) else (none)) else (some ((⟨#[]⟩ : ByteArray), 0, 0, (⟨#[]⟩ : ByteArray), false))
def field_Get.f (k : Nat) (l0 : List Int) (a1 : ByteArray) : Option (ByteArray × Int × Int × ByteArray × Bool) := (field_Read.f l0).bind fun t135 => (field_Get.l0 k a1 t135 (t135.length : Int) 0)
theorem field_Get.calls (k : Nat) (A0 : Option Addr) (c0 : Nat) (l0 : List Int) (a1 : ByteArray) (r1 : ByteArray) (r2 : Int) (r3 : Int) (r4 : ByteArray) (r5 : Bool) (w : World) (hr0 : Kd.C (Kd.int .u8) w A0 l0.length l0) (hc0 : l0.length ≤ c0) (h : field_Get.f k l0 a1 = some (r1, r2, r3, r4, r5)) (hx : FieldIn w := by exact FieldIn.go (by assumption) (by assumption)) :
  Calls Tryz.prog 72 #[.slice A0 l0.length c0, .string a1] w fun e w' => e = .returned (.tuple #[.agg #[.string r1, .int .i64 r2, .int .i64 r3, .string r4], .bool r5]) ∧ Below w.heap.size w w' := by
 have HX := Aside0.mk hx
 clear hx
 have hu110 := Tryz.underlying110
 have HR0 := Aside0.mk hr0
 have HC0 := Aside0.mk hc0
 clear hr0 hc0
 have HB := Aside0.mk (Below.refl w.heap.size w)
 have H : ((field_Read.f l0).bind fun t135 => (field_Get.l0 k a1 t135 (t135.length : Int) 0)) = some (r1, r2, r3, r4, r5) := h
 clear h
 replace H := Option.bind_eq_some_iff.mp H
 obtain ⟨t135, A30, H⟩ := H
 replace H : (field_Get.l0 k a1 t135 (t135.length : Int) 0) = some (r1, r2, r3, r4, r5) := H
 have A3 := Aside0.mk A30
 clear A30
 have H' := Aside0.mk H
 clear H
 go_enter Tryz.func72, Tryz.ntmps72
 go_wp2_with (first | ((with_reducible refine gate_dst (N := 4) rfl ?_); refine box_event ?hg (N := 4) ?hd (cs := #[.string (⟨#[]⟩ : ByteArray), .int .i64 0, .int .i64 0, .string (⟨#[]⟩ : ByteArray)]) (t := 110) ?hr ?_; (case hd => rfl); (case hg => rfl); (case hr => first | (go_simp; done) | (go_simp; rfl) | (go_simp; simp only [wAl, wAr, wSl, wSr, wW])); intro gb134 hg w4 hbox hb; have n0_ := bsA HB hb; have n1_ := Aside0.mk (hbox); have n2_ := szA HB hg; have n3_ := szA HB hg; clear HB; have HB := n0_; have BK134 := n1_; have GW134 := n2_; have GE134 := n3_; clear n0_ n1_ n2_ n3_; clear hb hbox hg) | ((with_reducible refine gate_callee (f := 95) rfl ?_); refine goesL_ (some 9) rfl rfl Tryz.func95 (by kernel_rfl) rfl #[.slice A0 l0.length c0] rfl mp_ ?_; (with_reducible refine (field_Read.calls _ _ l0 t135 _ ?side1 ?side2 A3.out).mono ?_); (case side1 => repeat (first | exact (Kd.C_below HR0.out HB.out) | (with_reducible refine Kd.C_alloc ?_ _) | (with_reducible refine Kd.C_drewN ?_ _) | (with_reducible refine Kd.C_drew ?_))); (case side2 => exact HC0.out); rintro e w5 ⟨v136, rfl, ho0, hb⟩; refine ⟨_, rfl, ?_⟩; have n0_ := Aside0.mk (Kd.R_lower (Kd.R_newB ho0 (g := gb134) (o := .cells #[.string (⟨#[]⟩ : ByteArray), .int .i64 0, .int .i64 0, .string (⟨#[]⟩ : ByteArray)] 110 (0, 0)) (bU_ BK134.out)) (below_size (by repeat (first | (with_reducible first | exact HB.out | apply below_alloc | apply pw_below_drewN | apply below_drew1 | refine below_set ?_ GE134.out) | exact HB.out)))); have n1_ := bkA BK134 hb; have n2_ := bsA HB hb; clear BK134; clear HB; have HO137 := n0_; have BK134 := n1_; have HB := n2_; clear n0_ n1_ n2_; (try clear hb); (try clear hb2); (try clear hk); (try clear hi); (try clear ho0); obtain ⟨Ao6, co6, eo6⟩ := Kd.R_slice HO137.out; subst eo6))
 go_loopg [11] k (fun kq v11 w' => ∃ (x11_1 : Int) (x135000_1 : ByteArray) (x135001_1 : Int) (x135002_1 : Int) (x135003_1 : ByteArray), v11 = .int .i64 x11_1 ∧ Aside0 (field_Get.l0 kq a1 t135 (t135.length : Int) x11_1 = some (r1, r2, r3, r4, r5)) ∧ Aside0 (kq ≤ k) ∧ Aside0 (Kd.R k110 110 w' w.heap.size (fun k_ => k_ ≠ gb134) (.slice Ao6 t135.length co6) t135) ∧ Aside0 (w'.heap[gb134]? = some (.cells #[.string x135000_1, .int .i64 x135001_1, .int .i64 x135002_1, .string x135003_1] 110 (0, 0))) ∧ Aside0 (Below w.heap.size w w'))
 case atStart => exact ⟨(0), ((⟨#[]⟩ : ByteArray)), (0), (0), ((⟨#[]⟩ : ByteArray)), rs_, H', ⟨Nat.le_refl _⟩, ⟨by (with_reducible repeat (first | apply Kd.R_alloc | apply Kd.R_drewN | apply Kd.R_drew)); exact Kd.R_mono HO137.out (fun _ hk => hk.2)⟩, ⟨bU_ BK134.out⟩, ⟨by repeat (first | (with_reducible first | exact HB.out | apply below_alloc | apply pw_below_drewN | apply below_drew1 | refine below_set ?_ GE134.out) | exact HB.out)⟩⟩
 case round =>
  clear H'
  try clear p2
  obtain ⟨x11_1, x135000_1, x135001_1, x135002_1, x135003_1, rfl, HA, HK1, HO_9, BK134, HB⟩ := hrel
  cases gk with
  | zero => exact absurd HA.out (by simp [field_Get.l0])
  | succ k1 =>
   have H := HA.out
   clear HA
   simp only [field_Get.l0] at H
   by_cases c7 : x11_1 < (t135.length : Int)
   ·rw [if_pos c7] at H
    have c7b0 : decide (x11_1 < (t135.length : Int)) = true := decide_eq_true c7
    clear c7
    by_cases c8 : 0 ≤ x11_1
    ·rw [if_pos c8] at H
     have c8b0 : decide (0 ≤ x11_1) = true := decide_eq_true c8
     clear c8
     by_cases c9 : x11_1 < (t135.length : Int)
     ·rw [if_pos c9] at H
      have c9b0 : decide (x11_1 < (t135.length : Int)) = true := decide_eq_true c9
      clear c9
      by_cases c10 : ((rd_T110 t135 x11_1).f0).toList = a1.toList
      ·rw [if_pos c10] at H
       have c10b0 : (((rd_T110 t135 x11_1).f0).toList == a1.toList) = true := beq_iff_eq.mpr c10
       have c10b1 : (((rd_T110 t135 x11_1).f0).toList != a1.toList) = false := bne_eq_false_iff_eq.mpr c10
       clear c10
       simp only [Option.some.injEq, Prod.mk.injEq] at H
       obtain ⟨rfl, rfl, rfl, rfl, rfl⟩ := H
       have p138 : 0 ≤ (x11_1 : Int) := of_decide_eq_true as_
       have q138 : x11_1 < (t135.length : Int) := of_decide_eq_true as_
       obtain ⟨ad138, e138, hx138_0, hx138_1, hx138_2, hx138_3⟩ := at_T110 (Kd.R_reads' HO_9.out).2.2 x11_1 p138 q138
       cases e138
       replace p138 := eq_true p138
       replace q138 := eq_true q138
       go_wp2_with (first | ((with_reducible refine gate_dst (N := 7) rfl ?_); refine box_event ?hg (N := 7) ?hd (cs := #[.string (⟨#[]⟩ : ByteArray), .int .i64 0, .int .i64 0, .string (⟨#[]⟩ : ByteArray)]) (t := 110) ?hr ?_; (case hd => rfl); (case hg => rfl); (case hr => first | (go_simp; done) | (go_simp; rfl) | (go_simp; simp only [wAl, wAr, wSl, wSr, wW])); intro gb139 hg w11 hbox hb; have n0_ := Aside0.mk (Kd.R_below (Kd.R_elderB (by (with_reducible repeat (first | apply Kd.R_alloc | apply Kd.R_drewN | apply Kd.R_drew)); exact HO_9.out) gb139 (Nat.le_of_eq hg.symm)) hb); have n1_ := bkA BK134 hb; have n2_ := bsA HB hb; have n3_ := Aside0.mk (hbox); have n4_ := szA HB hg; have n5_ := szA HB hg; have n6_ := neA BK134 hg; have n7_ := neB BK134 hg; clear HO_9; clear BK134; clear HB; have HO_9 := n0_; have BK134 := n1_; have HB := n2_; have BK139 := n3_; have GW139 := n4_; have GE139 := n5_; have NB134_139 := n6_; have NB139_134 := n7_; clear n0_ n1_ n2_ n3_ n4_ n5_ n6_ n7_; clear hb hbox hg; have hnb12 := NB139_134.out; have hnc12 := NB134_139.out; have hcz13_0 : w11.cell? ⟨gb139, 0, none⟩ = some (.string (⟨#[]⟩ : ByteArray)) := (blk_cell BK139.out 0).trans rfl; have hcz13_1 : w11.cell? ⟨gb139, 1, none⟩ = some (.int .i64 0) := (blk_cell BK139.out 1).trans rfl; have hcz13_2 : w11.cell? ⟨gb139, 2, none⟩ = some (.int .i64 0) := (blk_cell BK139.out 2).trans rfl; have hcz13_3 : w11.cell? ⟨gb139, 3, none⟩ = some (.string (⟨#[]⟩ : ByteArray)) := (blk_cell BK139.out 3).trans rfl; have hfz13_0 := blk_frozen BK139.out 0; have hfz13_1 := blk_frozen BK139.out 1; have hfz13_2 := blk_frozen BK139.out 2; have hfz13_3 := blk_frozen BK139.out 3; have hcz14_0 : w11.cell? ⟨gb134, 0, none⟩ = some (.string x135000_1) := (blk_cell BK134.out 0).trans rfl; have hcz14_1 : w11.cell? ⟨gb134, 1, none⟩ = some (.int .i64 x135001_1) := (blk_cell BK134.out 1).trans rfl; have hcz14_2 : w11.cell? ⟨gb134, 2, none⟩ = some (.int .i64 x135002_1) := (blk_cell BK134.out 2).trans rfl; have hcz14_3 : w11.cell? ⟨gb134, 3, none⟩ = some (.string x135003_1) := (blk_cell BK134.out 3).trans rfl; have hfz14_0 := blk_frozen BK134.out 0; have hfz14_1 := blk_frozen BK134.out 1; have hfz14_2 := blk_frozen BK134.out 2; have hfz14_3 := blk_frozen BK134.out 3))
       refine bodyPost_ret (results_ct rfl _ _ gb134 110 #[.string ((rd_T110 t135 x11_1).f0), .int .i64 ((rd_T110 t135 x11_1).f1), .int .i64 ((rd_T110 t135 x11_1).f2), .string ((rd_T110 t135 x11_1).f3)] (0, 0) _ rfl (by (with_reducible repeat (first | refine blk_drewN ?_ _ | refine blk_drew ?_ | refine blk_alloc ?_ _)); refine blk_put (cs := #[.string ((rd_T110 t135 x11_1).f0), .int .i64 ((rd_T110 t135 x11_1).f1), .int .i64 ((rd_T110 t135 x11_1).f2), .string x135003_1]) ?_ 3 _ rfl; (with_reducible repeat (first | refine blk_drewN ?_ _ | refine blk_drew ?_ | refine blk_alloc ?_ _)); refine blk_put (cs := #[.string ((rd_T110 t135 x11_1).f0), .int .i64 ((rd_T110 t135 x11_1).f1), .int .i64 x135002_1, .string x135003_1]) ?_ 2 _ rfl; (with_reducible repeat (first | refine blk_drewN ?_ _ | refine blk_drew ?_ | refine blk_alloc ?_ _)); refine blk_put (cs := #[.string ((rd_T110 t135 x11_1).f0), .int .i64 x135001_1, .int .i64 x135002_1, .string x135003_1]) ?_ 1 _ rfl; (with_reducible repeat (first | refine blk_drewN ?_ _ | refine blk_drew ?_ | refine blk_alloc ?_ _)); refine blk_put (cs := #[.string x135000_1, .int .i64 x135001_1, .int .i64 x135002_1, .string x135003_1]) ?_ 0 _ rfl; (with_reducible repeat (first | refine blk_drewN ?_ _ | refine blk_drew ?_ | refine blk_alloc ?_ _)); refine blk_far ?_ NB134_139.out _; (with_reducible repeat (first | refine blk_drewN ?_ _ | refine blk_drew ?_ | refine blk_alloc ?_ _)); refine blk_far ?_ NB134_139.out _; (with_reducible repeat (first | refine blk_drewN ?_ _ | refine blk_drew ?_ | refine blk_alloc ?_ _)); refine blk_far ?_ NB134_139.out _; (with_reducible repeat (first | refine blk_drewN ?_ _ | refine blk_drew ?_ | refine blk_alloc ?_ _)); refine blk_far ?_ NB134_139.out _; (with_reducible repeat (first | refine blk_drewN ?_ _ | refine blk_drew ?_ | refine blk_alloc ?_ _)); exact BK134.out) Tryz.underlying110 rfl (by kernel_rfl)) rfl ?_
       exact ⟨by first | rfl | (simp [errW_none, errW_some] <;> rfl) | (simp [*, errW_none, errW_some] <;> rfl), by repeat (first | (with_reducible first | exact HB.out | apply below_alloc | apply pw_below_drewN | apply below_drew1 | refine below_set ?_ GE134.out | refine below_set ?_ GE139.out) | exact HB.out)⟩
      ·rw [if_neg c10] at H
       have c10b0 : (((rd_T110 t135 x11_1).f0).toList == a1.toList) = false := beq_eq_false_iff_ne.mpr c10
       have c10b1 : (((rd_T110 t135 x11_1).f0).toList != a1.toList) = true := bne_iff_ne.mpr c10
       have H' := Aside0.mk H
       clear H
       have p138 : 0 ≤ (x11_1 : Int) := of_decide_eq_true as_
       have q138 : x11_1 < (t135.length : Int) := of_decide_eq_true as_
       obtain ⟨ad138, e138, hx138_0, hx138_1, hx138_2, hx138_3⟩ := at_T110 (Kd.R_reads' HO_9.out).2.2 x11_1 p138 q138
       cases e138
       replace p138 := eq_true p138
       replace q138 := eq_true q138
       go_wp2_with (first | ((with_reducible refine gate_dst (N := 7) rfl ?_); refine box_event ?hg (N := 7) ?hd (cs := #[.string (⟨#[]⟩ : ByteArray), .int .i64 0, .int .i64 0, .string (⟨#[]⟩ : ByteArray)]) (t := 110) ?hr ?_; (case hd => rfl); (case hg => rfl); (case hr => first | (go_simp; done) | (go_simp; rfl) | (go_simp; simp only [wAl, wAr, wSl, wSr, wW])); intro gb139 hg w15 hbox hb; have n0_ := Aside0.mk (Kd.R_below (Kd.R_elderB (by (with_reducible repeat (first | apply Kd.R_alloc | apply Kd.R_drewN | apply Kd.R_drew)); exact HO_9.out) gb139 (Nat.le_of_eq hg.symm)) hb); have n1_ := bkA BK134 hb; have n2_ := bsA HB hb; have n3_ := Aside0.mk (hbox); have n4_ := szA HB hg; have n5_ := szA HB hg; have n6_ := neA BK134 hg; have n7_ := neB BK134 hg; clear HO_9; clear BK134; clear HB; have HO_9 := n0_; have BK134 := n1_; have HB := n2_; have BK139 := n3_; have GW139 := n4_; have GE139 := n5_; have NB134_139 := n6_; have NB139_134 := n7_; clear n0_ n1_ n2_ n3_ n4_ n5_ n6_ n7_; clear hb hbox hg; have hnb16 := NB139_134.out; have hnc16 := NB134_139.out; have hcz17_0 : w15.cell? ⟨gb139, 0, none⟩ = some (.string (⟨#[]⟩ : ByteArray)) := (blk_cell BK139.out 0).trans rfl; have hcz17_1 : w15.cell? ⟨gb139, 1, none⟩ = some (.int .i64 0) := (blk_cell BK139.out 1).trans rfl; have hcz17_2 : w15.cell? ⟨gb139, 2, none⟩ = some (.int .i64 0) := (blk_cell BK139.out 2).trans rfl; have hcz17_3 : w15.cell? ⟨gb139, 3, none⟩ = some (.string (⟨#[]⟩ : ByteArray)) := (blk_cell BK139.out 3).trans rfl; have hfz17_0 := blk_frozen BK139.out 0; have hfz17_1 := blk_frozen BK139.out 1; have hfz17_2 := blk_frozen BK139.out 2; have hfz17_3 := blk_frozen BK139.out 3))
       go_roundg k1
       case measure => have := HK1.out; omega
       case rel => exact ⟨(wrap64 (x11_1 + 1)), (x135000_1), (x135001_1), (x135002_1), (x135003_1), rs_, H', ⟨by have := HK1.out; omega⟩, ⟨by (with_reducible repeat (first | apply Kd.R_alloc | apply Kd.R_drewN | apply Kd.R_drew)); exact Kd.R_mono (Kd.R_far (p := ⟨gb139, 3, none⟩) (Kd.R_far (p := ⟨gb139, 2, none⟩) (Kd.R_far (p := ⟨gb139, 1, none⟩) (Kd.R_far (p := ⟨gb139, 0, none⟩) (Kd.R_mono HO_9.out (fun k_ hk => (⟨hk, hk.2⟩ : _ ∧ k_ ≠ gb139))) (fun _ hk => hk.2) (.string ((rd_T110 t135 x11_1).f0))) (fun _ hk => hk.2) (.int .i64 ((rd_T110 t135 x11_1).f1))) (fun _ hk => hk.2) (.int .i64 ((rd_T110 t135 x11_1).f2))) (fun _ hk => hk.2) (.string ((rd_T110 t135 x11_1).f3))) (fun _ hk => hk.1.1)⟩, ⟨by (with_reducible repeat (first | refine blk_drewN ?_ _ | refine blk_drew ?_ | refine blk_alloc ?_ _)); refine blk_far ?_ NB134_139.out _; (with_reducible repeat (first | refine blk_drewN ?_ _ | refine blk_drew ?_ | refine blk_alloc ?_ _)); refine blk_far ?_ NB134_139.out _; (with_reducible repeat (first | refine blk_drewN ?_ _ | refine blk_drew ?_ | refine blk_alloc ?_ _)); refine blk_far ?_ NB134_139.out _; (with_reducible repeat (first | refine blk_drewN ?_ _ | refine blk_drew ?_ | refine blk_alloc ?_ _)); refine blk_far ?_ NB134_139.out _; (with_reducible repeat (first | refine blk_drewN ?_ _ | refine blk_drew ?_ | refine blk_alloc ?_ _)); exact BK134.out⟩, ⟨by repeat (first | (with_reducible first | exact HB.out | apply below_alloc | apply pw_below_drewN | apply below_drew1 | refine below_set ?_ GE134.out | refine below_set ?_ GE139.out) | exact HB.out)⟩⟩
     ·rw [if_neg c9] at H
      exact absurd H (by simp)
    ·rw [if_neg c8] at H
     exact absurd H (by simp)
   ·rw [if_neg c7] at H
    have c7b0 : decide (x11_1 < (t135.length : Int)) = false := decide_eq_false c7
    clear c7
    simp only [Option.some.injEq, Prod.mk.injEq] at H
    obtain ⟨rfl, rfl, rfl, rfl, rfl⟩ := H
    have hcz18_0 : wr.cell? ⟨gb134, 0, none⟩ = some (.string x135000_1) := (blk_cell BK134.out 0).trans rfl
    have hcz18_1 : wr.cell? ⟨gb134, 1, none⟩ = some (.int .i64 x135001_1) := (blk_cell BK134.out 1).trans rfl
    have hcz18_2 : wr.cell? ⟨gb134, 2, none⟩ = some (.int .i64 x135002_1) := (blk_cell BK134.out 2).trans rfl
    have hcz18_3 : wr.cell? ⟨gb134, 3, none⟩ = some (.string x135003_1) := (blk_cell BK134.out 3).trans rfl
    have hfz18_0 := blk_frozen BK134.out 0
    have hfz18_1 := blk_frozen BK134.out 1
    have hfz18_2 := blk_frozen BK134.out 2
    have hfz18_3 := blk_frozen BK134.out 3
    go_wp2
    refine bodyPost_ret (results_ct rfl _ _ gb134 110 #[.string (⟨#[]⟩ : ByteArray), .int .i64 0, .int .i64 0, .string (⟨#[]⟩ : ByteArray)] (0, 0) _ rfl (by (with_reducible repeat (first | refine blk_drewN ?_ _ | refine blk_drew ?_ | refine blk_alloc ?_ _)); refine blk_put (cs := #[.string (⟨#[]⟩ : ByteArray), .int .i64 0, .int .i64 0, .string x135003_1]) ?_ 3 _ rfl; (with_reducible repeat (first | refine blk_drewN ?_ _ | refine blk_drew ?_ | refine blk_alloc ?_ _)); refine blk_put (cs := #[.string (⟨#[]⟩ : ByteArray), .int .i64 0, .int .i64 x135002_1, .string x135003_1]) ?_ 2 _ rfl; (with_reducible repeat (first | refine blk_drewN ?_ _ | refine blk_drew ?_ | refine blk_alloc ?_ _)); refine blk_put (cs := #[.string (⟨#[]⟩ : ByteArray), .int .i64 x135001_1, .int .i64 x135002_1, .string x135003_1]) ?_ 1 _ rfl; (with_reducible repeat (first | refine blk_drewN ?_ _ | refine blk_drew ?_ | refine blk_alloc ?_ _)); refine blk_put (cs := #[.string x135000_1, .int .i64 x135001_1, .int .i64 x135002_1, .string x135003_1]) ?_ 0 _ rfl; (with_reducible repeat (first | refine blk_drewN ?_ _ | refine blk_drew ?_ | refine blk_alloc ?_ _)); exact BK134.out) Tryz.underlying110 rfl (by kernel_rfl)) rfl ?_
    exact ⟨by first | rfl | (simp [errW_none, errW_some] <;> rfl) | (simp [*, errW_none, errW_some] <;> rfl), by repeat (first | (with_reducible first | exact HB.out | apply below_alloc | apply pw_below_drewN | apply below_drew1 | refine below_set ?_ GE134.out) | exact HB.out)⟩
end Go.Proofs.YtehaodbheifokaaGreatDoor.P
end
section
namespace Go.Proofs.YtehaodbheifokaaGreatDoor.P
open Go Go.RowKit Go.Proofs.YtehaodbheifokaaGreatDoorW.PrintWords Go.Proofs.YtehaodbheifokaaGreatDoorW.PrintLast Go.Proofs.YtehaodbheifokaaGreatDoorW.PrintMore
theorem tokens_cut (R : Nat) (s t : Int) (vl : Value) (v : Value) (w : World) (hR : w.heap[R]? = some (.cells (rdrC s t vl true v) 106 (0, 0))) :
  Calls Tryz.prog 87 #[.pointer (some ⟨R, 0, none⟩)] w fun e w' => e = .returned v ∧ Below w.heap.size w w' := by
 have r3 : w.cell? ⟨R, 3, none⟩ = some (.bool true) := (blk_cell hR 3).trans rfl
 have r4 : w.cell? ⟨R, 4, none⟩ = some v := (blk_cell hR 4).trans rfl
 clear hR
 go_enter Tryz.func87, Tryz.ntmps87
 go_wp2_with fail
 go_ret
 exact ⟨rfl, Below.refl _ _⟩
theorem tokensG (base : Nat) (l : List Int) (A : Option Addr) (c R : Nat) (s t : Int) (w : World) (hC : (Kd.int .u8).C w A l.length l) (hc : l.length ≤ c) (hb : ∀ x ∈ l, 0 ≤ x ∧ x < 256) (hn : l.length ≤ 1099511627776) (hbase : base ≤ w.heap.size) (hRb : R < base)
  (hR : RdS base l s t (.slice A l.length c) R w) :
  Calls Tryz.prog 87 #[.pointer (some ⟨R, 0, none⟩)] w fun e w' => ∃ v, e = .returned v ∧ w'.ownsRow base 9 1 v (cutS none l).length (strV (cutS none l)) ∧
   w'.heap[R]? = some (.cells (rdrC s t (.slice A l.length c) true v) 106 (0, 0)) ∧ Below R w w' ∧ Kept w w' (fun k => k = R) := by
 obtain ⟨b, vt, h1, ⟨rfl, rfl⟩ | ⟨rfl, h2⟩⟩ := hR
 ·refine (tokens_calls l A c R s t w hC hc hb hn h1).mono ?_
  rintro e w' ⟨v, rfl, h3, h4, h5, h6⟩
  exact ⟨v, rfl, own_lower hbase h3, h4, h5, h6⟩
 ·refine (tokens_cut R s t _ vt w h1).mono ?_
  rintro e w' ⟨rfl, hb⟩
  exact ⟨vt, rfl, pw_own_below h2 hb, blk_below h1 hb, hb.mono (by omega), Kept.of_below hb _⟩
theorem phraseG (base : Nat) (l : List Int) (A : Option Addr) (c R : Nat) (s t : Int) (AP : Option Addr) (cP : Nat) (p : List ByteArray) (w : World) (hC : (Kd.int .u8).C w A l.length l) (hc : l.length ≤ c) (hb : ∀ x ∈ l, 0 ≤ x ∧ x < 256) (hn : l.length ≤ 1099511627776) (hbase : base ≤ w.heap.size) (hRb : R < base)
  (hR : RdS base l s t (.slice A l.length c) R w) (hP : Kd.string.C w AP p.length p) (hcP : p.length ≤ cP) (hAP : ∀ a, AP = some a → a.block ≠ R) (hpn : p.length ≤ 1099511627776) :
  Calls Tryz.prog 90 #[.pointer (some ⟨R, 0, none⟩), .slice AP p.length cP] w fun e w' => e = .returned (.bool (phraseB ((cutS none l).map bT) p)) ∧ RdS base l s t (.slice A l.length c) R w' ∧ Below R w w' ∧ Kept w w' (fun k => k = R) := by
 have HT := Aside0.mk (tokensG base l A c R s t w hC hc hb hn hbase hRb hR)
 have hlen := (cutS_len l).1
 have hRl := Nat.lt_of_lt_of_le hRb hbase
 have HP := Aside0.mk hP
 clear hC hR hP hb
 obtain ⟨ts, hts⟩ : ∃ ts, cutS none l = ts := ⟨_, rfl⟩
 unfold RdS
 rw [hts] at hlen HT ⊢
 clear hts
 go_enter Tryz.func90, Tryz.ntmps90
 go_wp2_with fail
 refine HT.out.mono ?_
 rintro e w1 ⟨v, rfl, hown, hR1, hB1, hK1⟩
 obtain ⟨AT, cT, rfl, hcT⟩ := own_sl hown
 have HO := Aside0.mk hown
 have HR1 := Aside0.mk hR1
 have HB1 := Aside0.mk hB1
 have HK1 := Aside0.mk hK1
 have HPK := Aside0.mk (Kd.C_kept_came1 HP.out hK1 hAP)
 clear hown hR1 hB1 hK1
 go_wp2_with fail
 obtain ⟨M, hM⟩ : ∃ M, ts.length + 1 - p.length = M := ⟨_, rfl⟩
 rw [show max (0 : Int) ((ts.length : Int) - (p.length : Int) + 1) = (M : Int) by omega]
 go_loopg [16] M (fun kq v16 wr => ∃ i : Nat, v16 = .int .i64 (i : Int) ∧ Aside0 (kq + i = M) ∧ Aside0 (∀ j, j < i → ((ts.map bT).drop j).take p.length ≠ p) ∧ Aside0 (Below w1.heap.size w1 wr))
 case atStart => exact ⟨0, rfl, ⟨by omega⟩, ⟨fun j h => by omega⟩, ⟨Below.refl _ _⟩⟩
 case round =>
  obtain ⟨i, rfl, HI, HN, HBr⟩ := hrel
  by_cases hi : i < M
  ·have d0 : decide ((i : Int) < (M : Int)) = true := decide_eq_true (by omega)
   have d1 : decide (i < M) = true := decide_eq_true hi
   have him : i + p.length ≤ ts.length := by omega
   have HOr := Aside0.mk (own_bel HO.out HBr.out)
   have HPr := Aside0.mk (Kd.C_below HPK.out HBr.out)
   have hEq : ∀ (A0 : Option Addr) (c0 : Nat), p.length ≤ c0 → Kd.C Kd.string wr A0 p.length (((ts.map bT).drop i).take p.length) → Calls Tryz.prog 105 #[.slice A0 p.length c0, .slice AP p.length cP] wr fun e w' => e = .returned (.bool (decide (((ts.map bT).drop i).take p.length = p))) ∧ Drawn0 wr w' := by
    intro A0 c0 h0 hw
    have hwl : (((ts.map bT).drop i).take p.length).length = p.length := by simp; omega
    have hf := eqS_f (((ts.map bT).drop i).take p.length) p (by omega)
    have H := slices_Equal_string_string.calls (p.length + 1) A0 c0 (((ts.map bT).drop i).take p.length) AP cP p (decide (((ts.map bT).drop i).take p.length = p)) wr (by rw [hwl]; exact hw) (by omega) (HPr.out) hcP (by rw [hwl] at hf; exact hf)
    rw [hwl] at H
    exact H
   have HE := Aside0.mk hEq
   clear hEq
   by_cases hci : cT = i
   ·obtain hp0 : p.length = 0 := by omega
    have HP0 := Aside0.mk hp0
    have hci2 := hci.symm
    clear hci
    subst hci2
    clear hp0
    go_wp2_with fail
    refine (HE.out _ _ (by have := HP0.out; omega) (by have h := HP0.out; rw [h, List.take_zero]; exact C_none _)).mono ?_
    rintro e w3 ⟨rfl, hd⟩
    have HB3 := Aside0.mk (below_step HBr.out hd.below)
    clear hd
    by_cases hw : ((ts.map bT).drop i).take p.length = p
    ·rw [decide_eq_true hw]
     have HW := Aside0.mk hw
     clear hw
     go_wp2_with fail
     go_ret
     exact ⟨by rw [phrase_yes (i := i) (by rw [List.length_map]; omega) HW.out]; rfl, ⟨true, _, blk_below HR1.out HB3.out, .inr ⟨rfl, own_bel HO.out HB3.out⟩⟩, HB1.out.trans (HB3.out.mono (by have := HB1.out.size; omega)), HK1.out.below HB3.out⟩
    ·rw [decide_eq_false hw]
     have HW := Aside0.mk hw
     clear hw
     go_wp2_with fail
     have ew : (i : Int) + 1 = ((i + 1 : Nat) : Int) := rfl
     try rw [ew]
     go_roundg (M - i - 1)
     case measure => have := HI.out; omega
     case rel => exact ⟨i + 1, rfl, ⟨by have := HI.out; omega⟩, ⟨fun j hj => by
      by_cases hji : j = i
      ·rw [hji]; exact HW.out
      ·exact HN.out j (by omega)⟩, HB3⟩
   ·go_wp2_with fail
    refine (HE.out _ _ (by omega) (win_C HOr.out rfl i p.length him (by omega))).mono ?_
    rintro e w3 ⟨rfl, hd⟩
    have HB3 := Aside0.mk (below_step HBr.out hd.below)
    clear hd
    by_cases hw : ((ts.map bT).drop i).take p.length = p
    ·rw [decide_eq_true hw]
     have HW := Aside0.mk hw
     clear hw
     go_wp2_with fail
     go_ret
     exact ⟨by rw [phrase_yes (i := i) (by rw [List.length_map]; omega) HW.out]; rfl, ⟨true, _, blk_below HR1.out HB3.out, .inr ⟨rfl, own_bel HO.out HB3.out⟩⟩, HB1.out.trans (HB3.out.mono (by have := HB1.out.size; omega)), HK1.out.below HB3.out⟩
    ·rw [decide_eq_false hw]
     have HW := Aside0.mk hw
     clear hw
     go_wp2_with fail
     have ew : (i : Int) + 1 = ((i + 1 : Nat) : Int) := rfl
     try rw [ew]
     go_roundg (M - i - 1)
     case measure => have := HI.out; omega
     case rel => exact ⟨i + 1, rfl, ⟨by have := HI.out; omega⟩, ⟨fun j hj => by
      by_cases hji : j = i
      ·rw [hji]; exact HW.out
      ·exact HN.out j (by omega)⟩, HB3⟩
  ·have d0 : decide ((i : Int) < (M : Int)) = false := decide_eq_false (by omega)
   have d1 : decide (i < M) = false := decide_eq_false hi
   go_wp2_with fail
   go_ret
   exact ⟨by rw [phrase_no (fun j hj => HN.out j (by rw [List.length_map] at hj; omega))]; rfl, ⟨true, _, blk_below HR1.out HBr.out, .inr ⟨rfl, own_bel HO.out HBr.out⟩⟩, HB1.out.trans (HBr.out.mono (by have := HB1.out.size; omega)), HK1.out.below HBr.out⟩
attribute [local go_sem] max2_int min2_int max_two min_two
theorem leafG_time (R : Nat) (s t : Int) (a b : Int) (tx : ByteArray) (A4 : Option Addr) (n4 c4 : Nat) (ky : ByteArray) (lo hi : Int) (vl : Value) (bc : Bool) (vt : Value) (w : World) (hR : w.heap[R]? = some (.cells (rdrC s t vl bc vt) 106 (0, 0))) :
  Calls Tryz.prog 64 #[.pointer (some ⟨R, 0, none⟩), .agg (#[.int .i64 9, .int .i64 a, .int .i64 b, .string tx, .slice A4 n4 c4, .string ky, .int .i64 lo, .int .i64 hi])] w fun e w' => e = .returned (.bool (decide (lo ≤ t) && decide (t < hi))) ∧ Below w.heap.size w w' := by
 have hB := blk_alloc hR (.cells (#[.int .i64 9, .int .i64 a, .int .i64 b, .string tx, .slice A4 n4 c4, .string ky, .int .i64 lo, .int .i64 hi]) 37)
 have r1 : (w.alloc (.cells (#[.int .i64 9, .int .i64 a, .int .i64 b, .string tx, .slice A4 n4 c4, .string ky, .int .i64 lo, .int .i64 hi]) 37)).cell? ⟨R, 1, none⟩ = some (.int .i64 t) := (blk_cell hB 1).trans rfl
 clear hB hR
 by_cases h1 : lo ≤ t
 ·have d1 : decide (lo ≤ t) = true := decide_eq_true h1
  by_cases h2 : t < hi
  ·have d2 : decide (t < hi) = true := decide_eq_true h2
   rw [d1, d2]
   go_enter Tryz.func64, Tryz.ntmps64
   go_wp2_with fail
   go_region
   all_goals (try go_wp2)
   all_goals go_ret
   all_goals exact ⟨rfl, by repeat (first | exact Below.refl _ _ | apply pw_below_drewN | apply below_drew1 | apply below_drew | apply below_alloc)⟩
  ·have d2 : decide (t < hi) = false := decide_eq_false h2
   rw [d1, d2]
   go_enter Tryz.func64, Tryz.ntmps64
   go_wp2_with fail
   go_region
   all_goals (try go_wp2)
   all_goals go_ret
   all_goals exact ⟨rfl, by repeat (first | exact Below.refl _ _ | apply pw_below_drewN | apply below_drew1 | apply below_drew | apply below_alloc)⟩
 ·have d1 : decide (lo ≤ t) = false := decide_eq_false h1
  rw [d1]
  go_enter Tryz.func64, Tryz.ntmps64
  go_wp2_with fail
  go_region
  all_goals (try go_wp2)
  all_goals go_ret
  all_goals exact ⟨rfl, by repeat (first | exact Below.refl _ _ | apply pw_below_drewN | apply below_drew1 | apply below_drew | apply below_alloc)⟩
theorem leafG_more (l : List Int) (A : Option Addr) (c R : Nat) (s t : Int) (bc : Bool) (vt : Value) (a b : Int) (tx4 : ByteArray) (A4 : Option Addr) (n4 c4 : Nat) (key kk tx : ByteArray) (lo hi n : Int) (k : Nat) (w : World) (hX : FieldIn w) (hC : (Kd.int .u8).C w A l.length l) (hc : l.length ≤ c)
  (hR : w.heap[R]? = some (.cells (rdrC s t (.slice A l.length c) bc vt) 106 (0, 0))) (hf : field_Get.f k l key = some (kk, 1, n, tx, true)) :
  Calls Tryz.prog 64 #[.pointer (some ⟨R, 0, none⟩), .agg (#[.int .i64 8, .int .i64 a, .int .i64 b, .string tx4, .slice A4 n4 c4, .string key, .int .i64 lo, .int .i64 hi])] w fun e w' => e = .returned (.bool (decide (lo < n))) ∧ Below w.heap.size w w' := by
 have hB := blk_alloc hR (.cells (#[.int .i64 8, .int .i64 a, .int .i64 b, .string tx4, .slice A4 n4 c4, .string key, .int .i64 lo, .int .i64 hi]) 37)
 have r2 : (w.alloc (.cells (#[.int .i64 8, .int .i64 a, .int .i64 b, .string tx4, .slice A4 n4 c4, .string key, .int .i64 lo, .int .i64 hi]) 37)).cell? ⟨R, 2, none⟩ = some (.slice A l.length c) := (blk_cell hB 2).trans rfl
 have r3 : ((w.alloc (.cells (#[.int .i64 8, .int .i64 a, .int .i64 b, .string tx4, .slice A4 n4 c4, .string key, .int .i64 lo, .int .i64 hi]) 37)).alloc (Obj.cells #[.string ⟨#[]⟩, .int .i64 0, .int .i64 0, .string ⟨#[]⟩] 110)).cell? ⟨R, 2, none⟩ = some (.slice A l.length c) := (blk_cell (blk_alloc hB _) 2).trans rfl
 have q3 : ((w.alloc (.cells (#[.int .i64 8, .int .i64 a, .int .i64 b, .string tx4, .slice A4 n4 c4, .string key, .int .i64 lo, .int .i64 hi]) 37)).alloc (Obj.cells #[.string ⟨#[]⟩, .int .i64 0, .int .i64 0, .string ⟨#[]⟩] 110)).cell? ⟨w.heap.size, 5, none⟩ = some (.string key) := (blk_cell (blk_alloc (blk_new w _) _) 5).trans rfl
 have hb0 : Below w.heap.size w (w.alloc (.cells (#[.int .i64 8, .int .i64 a, .int .i64 b, .string tx4, .slice A4 n4 c4, .string key, .int .i64 lo, .int .i64 hi]) 37)) := below_alloc (Below.refl _ _) _
 have HC := Aside0.mk (fun (W : World) (hW : Below w.heap.size w W) => field_Get.calls k A c l key kk 1 n tx true W (Kd.C_below hC hW) hc hf (hX.below hW))
 have BZ := Aside0.mk (show ((w.alloc (.cells (#[.int .i64 8, .int .i64 a, .int .i64 b, .string tx4, .slice A4 n4 c4, .string key, .int .i64 lo, .int .i64 hi]) 37)).alloc (Obj.cells #[.string ⟨#[]⟩, .int .i64 0, .int .i64 0, .string ⟨#[]⟩] 110)).heap[w.heap.size + 1]? = some (.cells #[.string ⟨#[]⟩, .int .i64 0, .int .i64 0, .string ⟨#[]⟩] 110 (0, 0)) by have h := blk_new (w.alloc (.cells (#[.int .i64 8, .int .i64 a, .int .i64 b, .string tx4, .slice A4 n4 c4, .string key, .int .i64 lo, .int .i64 hi]) 37)) (Obj.cells #[.string ⟨#[]⟩, .int .i64 0, .int .i64 0, .string ⟨#[]⟩] 110); rw [World.size_alloc] at h; exact h)
 have BX := Aside0.mk (blk_new w (.cells (#[.int .i64 8, .int .i64 a, .int .i64 b, .string tx4, .slice A4 n4 c4, .string key, .int .i64 lo, .int .i64 hi]) 37))
 have HB0 := Aside0.mk hb0
 clear hB hR hC hX hf hb0
 go_enter Tryz.func64, Tryz.ntmps64
 go_wp2_with fail
 go_region_with (go_at_call 72; refine (HC.out _ bel5).mono ?_; rintro e w1 ⟨rfl, hb1⟩; have HB1 := Aside0.mk (below_step (show Below w.heap.size w _ from bel5) hb1); have bb := blk_below (blk_below BX.out bel5) hb1; have b1 : w1.cell? ⟨w.heap.size, 0, none⟩ = some (.int .i64 8) := (blk_cell bb 0).trans rfl; have b2 : w1.cell? ⟨w.heap.size, 6, none⟩ = some (.int .i64 lo) := (blk_cell bb 6).trans rfl; have BB := Aside0.mk bb; clear bb; (first | (have bz : w1.heap[w.heap.size + 1]? = some (.cells #[.string ⟨#[]⟩, .int .i64 0, .int .i64 0, .string ⟨#[]⟩] 110 (0, 0)) := (hb1.block (w.heap.size + 1) (by simp)).trans BZ.out; have e0 : w1.cell? ⟨w.heap.size + 1, 0, none⟩ = some (.string ⟨#[]⟩) := (blk_cell bz 0).trans rfl; have f0 : w1.frozen? ⟨w.heap.size + 1, 0, none⟩ = false := blk_frozen bz 0; have e1 : w1.cell? ⟨w.heap.size + 1, 1, none⟩ = some (.int .i64 0) := (blk_cell bz 1).trans rfl; have f1 : w1.frozen? ⟨w.heap.size + 1, 1, none⟩ = false := blk_frozen bz 1; have e2 : w1.cell? ⟨w.heap.size + 1, 2, none⟩ = some (.int .i64 0) := (blk_cell bz 2).trans rfl; have f2 : w1.frozen? ⟨w.heap.size + 1, 2, none⟩ = false := blk_frozen bz 2; have e3 : w1.cell? ⟨w.heap.size + 1, 3, none⟩ = some (.string ⟨#[]⟩) := (blk_cell bz 3).trans rfl; have f3 : w1.frozen? ⟨w.heap.size + 1, 3, none⟩ = false := blk_frozen bz 3; clear bz) | (have g00 : (w1.alloc (Obj.cells #[.string ⟨#[]⟩, .int .i64 0, .int .i64 0, .string ⟨#[]⟩] 110)).cell? ⟨w.heap.size, 0, none⟩ = some (.int .i64 8) := (blk_cell (blk_alloc BB.out _) 0).trans rfl; have g06 : (w1.alloc (Obj.cells #[.string ⟨#[]⟩, .int .i64 0, .int .i64 0, .string ⟨#[]⟩] 110)).cell? ⟨w.heap.size, 6, none⟩ = some (.int .i64 lo) := (blk_cell (blk_alloc BB.out _) 6).trans rfl; have g10 : (w1.alloc (Obj.cells #[.string kk, .int .i64 1, .int .i64 n, .string tx] 110)).cell? ⟨w.heap.size, 0, none⟩ = some (.int .i64 8) := (blk_cell (blk_alloc BB.out _) 0).trans rfl; have g16 : (w1.alloc (Obj.cells #[.string kk, .int .i64 1, .int .i64 n, .string tx] 110)).cell? ⟨w.heap.size, 6, none⟩ = some (.int .i64 lo) := (blk_cell (blk_alloc BB.out _) 6).trans rfl; have bz := blk_new w1 (Obj.cells #[.string ⟨#[]⟩, .int .i64 0, .int .i64 0, .string ⟨#[]⟩] 110); have e0 : (w1.alloc (Obj.cells #[.string ⟨#[]⟩, .int .i64 0, .int .i64 0, .string ⟨#[]⟩] 110)).cell? ⟨w1.heap.size, 0, none⟩ = some (.string ⟨#[]⟩) := (blk_cell bz 0).trans rfl; have f0 : (w1.alloc (Obj.cells #[.string ⟨#[]⟩, .int .i64 0, .int .i64 0, .string ⟨#[]⟩] 110)).frozen? ⟨w1.heap.size, 0, none⟩ = false := blk_frozen bz 0; have e1 : (w1.alloc (Obj.cells #[.string ⟨#[]⟩, .int .i64 0, .int .i64 0, .string ⟨#[]⟩] 110)).cell? ⟨w1.heap.size, 1, none⟩ = some (.int .i64 0) := (blk_cell bz 1).trans rfl; have f1 : (w1.alloc (Obj.cells #[.string ⟨#[]⟩, .int .i64 0, .int .i64 0, .string ⟨#[]⟩] 110)).frozen? ⟨w1.heap.size, 1, none⟩ = false := blk_frozen bz 1; have e2 : (w1.alloc (Obj.cells #[.string ⟨#[]⟩, .int .i64 0, .int .i64 0, .string ⟨#[]⟩] 110)).cell? ⟨w1.heap.size, 2, none⟩ = some (.int .i64 0) := (blk_cell bz 2).trans rfl; have f2 : (w1.alloc (Obj.cells #[.string ⟨#[]⟩, .int .i64 0, .int .i64 0, .string ⟨#[]⟩] 110)).frozen? ⟨w1.heap.size, 2, none⟩ = false := blk_frozen bz 2; have e3 : (w1.alloc (Obj.cells #[.string ⟨#[]⟩, .int .i64 0, .int .i64 0, .string ⟨#[]⟩] 110)).cell? ⟨w1.heap.size, 3, none⟩ = some (.string ⟨#[]⟩) := (blk_cell bz 3).trans rfl; have f3 : (w1.alloc (Obj.cells #[.string ⟨#[]⟩, .int .i64 0, .int .i64 0, .string ⟨#[]⟩] 110)).frozen? ⟨w1.heap.size, 3, none⟩ = false := blk_frozen bz 3; clear bz)); clear hb1)
 all_goals (go_wp2_with fail)
 all_goals go_ret
 all_goals exact ⟨rfl, by repeat (first | apply Below.setCell (hp := Nat.le_succ _) | apply pw_below_drewN | apply below_drew | apply below_alloc | exact HB1.out)⟩
theorem leafG_phrase (base : Nat) (l : List Int) (A : Option Addr) (c R : Nat) (s t : Int) (a b : Int) (tx ky : ByteArray) (lo hi : Int) (AP : Option Addr) (cP : Nat) (p : List ByteArray) (w : World) (hC : (Kd.int .u8).C w A l.length l) (hc : l.length ≤ c) (hb : ∀ x ∈ l, 0 ≤ x ∧ x < 256) (hn : l.length ≤ 1099511627776) (hbase : base ≤ w.heap.size) (hRb : R < base)
  (hR : RdS base l s t (.slice A l.length c) R w) (hP : Kd.string.C w AP p.length p) (hcP : p.length ≤ cP) (hAP : ∀ a, AP = some a → a.block ≠ R) (hpn : p.length ≤ 1099511627776) :
  Calls Tryz.prog 64 #[.pointer (some ⟨R, 0, none⟩), .agg #[.int .i64 4, .int .i64 a, .int .i64 b, .string tx, .slice AP p.length cP, .string ky, .int .i64 lo, .int .i64 hi]] w fun e w' => e = .returned (.bool (phraseB ((cutS none l).map bT) p)) ∧ RdS base l s t (.slice A l.length c) R w' ∧ Below R w w' ∧ Kept w w' (fun k => k = R) := by
 have hb0 : Below w.heap.size w (w.alloc (.cells #[.int .i64 4, .int .i64 a, .int .i64 b, .string tx, .slice AP p.length cP, .string ky, .int .i64 lo, .int .i64 hi] 37)) := below_alloc (Below.refl _ _) _
 have HR := Aside0.mk (Nat.lt_of_lt_of_le hRb hbase)
 have HC := Aside0.mk (phraseG base l A c R s t AP cP p _ (Kd.C_below hC hb0) hc hb hn (by rw [World.size_alloc]; omega) hRb (hR.below hb0) (Kd.C_below hP hb0) hcP hAP hpn)
 have HB0 := Aside0.mk hb0
 clear hC hb hR hP hb0
 go_enter Tryz.func64, Tryz.ntmps64
 go_wp2_with fail
 refine HC.out.mono ?_
 rintro e w1 ⟨rfl, h2, h3, h4⟩
 have H2 := Aside0.mk h2
 have H3 := Aside0.mk h3
 have H4 := Aside0.mk h4
 clear h2 h3 h4
 go_wp2_with fail
 go_ret
 exact ⟨rfl, H2.out, (HB0.out.mono (Nat.le_of_lt HR.out)).trans H3.out, (Kept.of_below HB0.out _).then_ H4.out (fun k hk => .inl hk)⟩
theorem C_ne {w : World} {A : Option Addr} {p : List ByteArray} (h : Kd.string.C w A p.length p) (hp : 0 < p.length) : ∀ a, A = some a → a.block < w.heap.size := by
 rintro a rfl
 obtain ⟨ad, e, hc⟩ := Kd.at_string h 0 (Int.le_refl _) (by omega)
 cases e
 have h2 := World.block_lt_of_cell? w _ hc
 rwa [show (a.add (0 : Int).toNat).block = a.block by unfold Addr.add; split <;> rfl] at h2
structure LineIs (w : World) (l : List Int) (vl : Value) : Prop where
 mk :: (out : ∃ A c, vl = .slice A l.length c ∧ l.length ≤ c ∧ (Kd.int .u8).C w A l.length l ∧ (∀ x ∈ l, 0 ≤ x ∧ x < 256) ∧ l.length ≤ 1099511627776)
theorem leafOK_time (w : World) (l : List Int) (s t : Int) (vl : Value) (n : ND) (h9 : n.f0 = 9) : LeafOK w l s t vl n (decide (n.f6 ≤ t) && decide (t < n.f7)) := by
 intro W A c hB hs hR hC hc
 rw [h9]
 have hR' := hR
 obtain ⟨b, vt, h1, h2⟩ := hR'
 refine (leafG_time (w.heap.size + 1) s t _ _ _ _ _ _ _ _ _ _ _ _ W h1).mono ?_
 rintro e w' ⟨rfl, hb⟩
 exact ⟨rfl, hR.below hb, hb.mono (by omega), Kept.of_below hb _⟩
theorem leafOK_phrase (w : World) (l : List Int) (s t : Int) (vl : Value) (n : ND) (hl : LineIs w l vl) (h4 : n.f0 = 4) (hp : 0 < n.f4.length) (hn : n.f4.length ≤ 1099511627776) : LeafOK w l s t vl n (phraseB ((cutS none l).map bT) n.f4) := by
 obtain ⟨A, c, rfl, hc, hC, hb, hln⟩ := hl.out
 intro W A4 c4 hB hs hR hC4 hc4
 rw [h4]
 exact leafG_phrase (w.heap.size + 3) l A c (w.heap.size + 1) s t _ _ _ _ _ _ A4 c4 n.f4 W (Kd.C_below hC hB) hc hb hln hs (by omega) hR (Kd.C_below hC4 hB) hc4 (fun a ha => by have := C_ne hC4 hp a ha; omega) hn
theorem leafOK_more (w : World) (l : List Int) (s t : Int) (vl : Value) (n : ND) (hl : LineIs w l vl) (hX : FieldIn w) (h8 : n.f0 = 8) {kk tx : ByteArray} {m : Int} {k : Nat} (hf : field_Get.f k l n.f5 = some (kk, 1, m, tx, true)) : LeafOK w l s t vl n (decide (n.f6 < m)) := by
 obtain ⟨A, c, rfl, hc, hC, hb, hln⟩ := hl.out
 intro W A4 c4 hB hs hR hC4 hc4
 rw [h8]
 have hR' := hR
 obtain ⟨b, vt, h1, h2⟩ := hR'
 refine (leafG_more l A c (w.heap.size + 1) s t b vt _ _ _ A4 _ c4 _ kk tx _ _ m k W (hX.below hB) (Kd.C_below hC hB) hc h1 hf).mono ?_
 rintro e w' ⟨rfl, hb⟩
 exact ⟨rfl, hR.below hb, hb.mono (by omega), Kept.of_below hb _⟩
end Go.Proofs.YtehaodbheifokaaGreatDoor.P
end
section
namespace Go.Proofs.YtehaodbheifokaaGreatDoor.P
open Go.RowKit Go.Proofs.YtehaodbheifokaaGreatDoorW.PrintWords Go.Proofs.YtehaodbheifokaaGreatDoorW.PrintLast Go.Proofs.YtehaodbheifokaaGreatDoorW.PrintMore
attribute [local go_sem] max2_int min2_int max_two min_two max_three min_three max_four min_four   -- for this text's walks alone
def slices_Index_string_string.l0 : Nat → List ByteArray → ByteArray → Int → Int → Option (Int)
 | 0, _, _, _, _ => none
 | k + 1, x0, x1, x7, x8 => if x8 < x7 then (if 0 ≤ x8 then (if x8 < (x0.length : Int) then (if x1.toList = (rdOf ByteArray.empty x0 x8).toList then (some x8) else (slices_Index_string_string.l0 k x0 x1 x7 (wrap64 (x8 + 1)))) else (none)) else (none)) else (some (-1))
def slices_Index_string_string.f (k : Nat) (l0 : List ByteArray) (a1 : ByteArray) : Option (Int) := slices_Index_string_string.l0 k l0 a1 (l0.length : Int) 0
theorem slices_Index_string_string.calls (k : Nat) (A0 : Option Addr) (c0 : Nat) (l0 : List ByteArray) (a1 : ByteArray) (r : Int) (w : World) (hr0 : Kd.C Kd.string w A0 l0.length l0) (hc0 : l0.length ≤ c0) (h : slices_Index_string_string.f k l0 a1 = some r) :
  Calls Tryz.prog 106 #[.slice A0 l0.length c0, .string a1] w fun e w' => e = .returned (.int .i64 r) ∧ Drawn0 w w' := by
 have HR0 := Aside0.mk hr0
 have HC0 := Aside0.mk hc0
 clear hr0 hc0
 have H : (slices_Index_string_string.l0 k l0 a1 (l0.length : Int) 0) = some r := h
 clear h
 have H' := Aside0.mk H
 clear H
 go_enter Tryz.func106, Tryz.ntmps106
 go_wp2
 go_loopg [8] k (fun kq v8 w' => ∃ (x8_1 : Int), v8 = .int .i64 x8_1 ∧ Aside0 (slices_Index_string_string.l0 kq l0 a1 (l0.length : Int) x8_1 = some r) ∧ Aside0 (kq ≤ k) ∧ Drawn0 w w')
 case atStart => exact ⟨(0), rs_, H', ⟨Nat.le_refl _⟩, dr_⟩
 case round =>
  clear H'
  try clear c1
  try clear p2
  obtain ⟨x8_1, rfl, HA, HK1, ⟨m1, rfl⟩⟩ := hrel
  cases gk with
  | zero => exact absurd HA.out (by simp [slices_Index_string_string.l0])
  | succ k1 =>
   have H := HA.out
   clear HA
   simp only [slices_Index_string_string.l0] at H
   by_cases c3 : x8_1 < (l0.length : Int)
   ·rw [if_pos c3] at H
    have c3b0 : decide (x8_1 < (l0.length : Int)) = true := decide_eq_true c3
    clear c3
    by_cases c4 : 0 ≤ x8_1
    ·rw [if_pos c4] at H
     have c4b0 : decide (0 ≤ x8_1) = true := decide_eq_true c4
     clear c4
     by_cases c5 : x8_1 < (l0.length : Int)
     ·rw [if_pos c5] at H
      have c5b0 : decide (x8_1 < (l0.length : Int)) = true := decide_eq_true c5
      clear c5
      by_cases c6 : a1.toList = (rdOf ByteArray.empty l0 x8_1).toList
      ·rw [if_pos c6] at H
       have c6b0 : (a1.toList == (rdOf ByteArray.empty l0 x8_1).toList) = true := beq_iff_eq.mpr c6
       have c6b1 : (a1.toList != (rdOf ByteArray.empty l0 x8_1).toList) = false := bne_eq_false_iff_eq.mpr c6
       clear c6
       obtain rfl := Option.some.inj H
       have p142 : 0 ≤ (x8_1 : Int) := of_decide_eq_true as_
       have q142 : x8_1 < (l0.length : Int) := of_decide_eq_true as_
       obtain ⟨ad142, e142, hx142_0⟩ := Kd.at_string HR0.out x8_1 p142 q142
       cases e142
       replace p142 := eq_true p142
       replace q142 := eq_true q142
       go_wp2
       go_ret
       exact ⟨by first | rfl | (simp; done) | (simp [*]; done), dr_⟩
      ·rw [if_neg c6] at H
       have c6b0 : (a1.toList == (rdOf ByteArray.empty l0 x8_1).toList) = false := beq_eq_false_iff_ne.mpr c6
       have c6b1 : (a1.toList != (rdOf ByteArray.empty l0 x8_1).toList) = true := bne_iff_ne.mpr c6
       have H' := Aside0.mk H
       clear H
       have p142 : 0 ≤ (x8_1 : Int) := of_decide_eq_true as_
       have q142 : x8_1 < (l0.length : Int) := of_decide_eq_true as_
       obtain ⟨ad142, e142, hx142_0⟩ := Kd.at_string HR0.out x8_1 p142 q142
       cases e142
       replace p142 := eq_true p142
       replace q142 := eq_true q142
       go_wp2
       go_roundg k1
       case measure => have := HK1.out; omega
       case rel => exact ⟨(wrap64 (x8_1 + 1)), rs_, H', ⟨by have := HK1.out; omega⟩, dr_⟩
     ·rw [if_neg c5] at H
      exact absurd H (by simp)
    ·rw [if_neg c4] at H
     exact absurd H (by simp)
   ·rw [if_neg c3] at H
    have c3b0 : decide (x8_1 < (l0.length : Int)) = false := decide_eq_false c3
    clear c3
    obtain rfl := Option.some.inj H
    go_wp2
    go_ret
    exact ⟨by first | rfl | (simp; done) | (simp [*]; done), dr_⟩
def slices_Contains_string_string.f (k : Nat) (l0 : List ByteArray) (a1 : ByteArray) : Option (Bool) := (slices_Index_string_string.f k l0 a1).bind fun t143 => (some (decide (t143 ≥ 0)))
theorem slices_Contains_string_string.calls (k : Nat) (A0 : Option Addr) (c0 : Nat) (l0 : List ByteArray) (a1 : ByteArray) (r : Bool) (w : World) (hr0 : Kd.C Kd.string w A0 l0.length l0) (hc0 : l0.length ≤ c0) (h : slices_Contains_string_string.f k l0 a1 = some r) :
  Calls Tryz.prog 86 #[.slice A0 l0.length c0, .string a1] w fun e w' => e = .returned (.bool r) ∧ Drawn0 w w' := by
 have HR0 := Aside0.mk hr0
 have HC0 := Aside0.mk hc0
 clear hr0 hc0
 have H : ((slices_Index_string_string.f k l0 a1).bind fun t143 => (some (decide (t143 ≥ 0)))) = some r := h
 clear h
 replace H := Option.bind_eq_some_iff.mp H
 obtain ⟨t143, A30, H⟩ := H
 replace H : (some (decide (t143 ≥ 0))) = some r := H
 have A3 := Aside0.mk A30
 clear A30
 obtain rfl := Option.some.inj H
 go_enter Tryz.func86, Tryz.ntmps86
 go_wp2_with (first | ((with_reducible refine gate_callee (f := 106) rfl ?_); refine goesL_ (some 7) rfl rfl Tryz.func106 (by kernel_rfl) rfl #[.slice A0 l0.length c0, .string a1] rfl mp_ ?_; (with_reducible refine (slices_Index_string_string.calls k _ _ l0 a1 t143 _ ?side1 ?side2 A3.out).mono ?_); (case side1 => repeat (first | exact HR0.out | (with_reducible refine Kd.C_alloc ?_ _) | (with_reducible refine Kd.C_drewN ?_ _) | (with_reducible refine Kd.C_drew ?_))); (case side2 => exact HC0.out); rintro e w' ⟨rfl, ⟨nd, rfl⟩⟩; refine ⟨_, rfl, ?_⟩))
 go_ret
 exact ⟨by first | rfl | (simp; done) | (simp [*]; done), dr_⟩
def dragnetref06_Same.l0 : Nat → List ByteArray → List ByteArray → Int → Option (Bool)
 | 0, _, _, _ => none
 | k + 1, x0, x1, x5 => if x5 < (x0.length : Int) then (if 0 ≤ x5 then (if x5 < (x1.length : Int) then (if (rdOf ByteArray.empty x0 x5).toList = (rdOf ByteArray.empty x1 x5).toList then (dragnetref06_Same.l0 k x0 x1 (wrap64 (x5 + 1))) else (some false)) else (none)) else (none)) else (some true)
def dragnetref06_Same.f (k : Nat) (l0 : List ByteArray) (l1 : List ByteArray) : Option (Bool) := if (l0.length : Int) = (l1.length : Int) then (dragnetref06_Same.l0 k l0 l1 0) else (some false)
theorem dragnetref06_Same.calls (k : Nat) (A0 : Option Addr) (c0 : Nat) (l0 : List ByteArray) (A1 : Option Addr) (c1 : Nat) (l1 : List ByteArray) (r : Bool) (w : World) (hr0 : Kd.C Kd.string w A0 l0.length l0) (hc0 : l0.length ≤ c0) (hr1 : Kd.C Kd.string w A1 l1.length l1) (hc1 : l1.length ≤ c1) (h : dragnetref06_Same.f k l0 l1 = some r) :
  Calls Tryz.prog 71 #[.slice A0 l0.length c0, .slice A1 l1.length c1] w fun e w' => e = .returned (.bool r) ∧ Drawn0 w w' := by
 have HR0 := Aside0.mk hr0
 have HC0 := Aside0.mk hc0
 clear hr0 hc0
 have HR1 := Aside0.mk hr1
 have HC1 := Aside0.mk hc1
 clear hr1 hc1
 have H : (if (l0.length : Int) = (l1.length : Int) then (dragnetref06_Same.l0 k l0 l1 0) else (some false)) = some r := h
 clear h
 by_cases c3 : (l0.length : Int) = (l1.length : Int)
 ·rw [if_pos c3] at H
  have c3b0 : ((l0.length : Int) == (l1.length : Int)) = true := beq_iff_eq.mpr c3
  have c3b1 : ((l0.length : Int) != (l1.length : Int)) = false := bne_eq_false_iff_eq.mpr c3
  have c3b2 : (l0.length == l1.length) = true := by first | simpa using c3 | (simp at c3 ⊢; omega)
  clear c3
  have H' := Aside0.mk H
  clear H
  go_enter Tryz.func71, Tryz.ntmps71
  go_wp2
  repeat (go_quiet (fail); try go_wp2)
  go_loopg [5] k (fun kq v5 w' => ∃ (x5_1 : Int), v5 = .int .i64 x5_1 ∧ Aside0 (dragnetref06_Same.l0 kq l0 l1 x5_1 = some r) ∧ Aside0 (kq ≤ k) ∧ Drawn0 w w')
  case atStart => exact ⟨(0), rs_, H', ⟨Nat.le_refl _⟩, dr_⟩
  case round =>
   clear H'
   try clear c1
   try clear p2
   try clear c3
   try clear c3b0
   try clear c3b1
   try clear c3b2
   obtain ⟨x5_1, rfl, HA, HK1, ⟨m1, rfl⟩⟩ := hrel
   cases gk with
   | zero => exact absurd HA.out (by simp [dragnetref06_Same.l0])
   | succ k1 =>
    have H := HA.out
    clear HA
    simp only [dragnetref06_Same.l0] at H
    by_cases c4 : x5_1 < (l0.length : Int)
    ·rw [if_pos c4] at H
     have c4b0 : decide (x5_1 < (l0.length : Int)) = true := decide_eq_true c4
     clear c4
     by_cases c5 : 0 ≤ x5_1
     ·rw [if_pos c5] at H
      have c5b0 : decide (0 ≤ x5_1) = true := decide_eq_true c5
      clear c5
      by_cases c6 : x5_1 < (l1.length : Int)
      ·rw [if_pos c6] at H
       have c6b0 : decide (x5_1 < (l1.length : Int)) = true := decide_eq_true c6
       clear c6
       by_cases c7 : (rdOf ByteArray.empty l0 x5_1).toList = (rdOf ByteArray.empty l1 x5_1).toList
       ·rw [if_pos c7] at H
        have c7b0 : ((rdOf ByteArray.empty l0 x5_1).toList == (rdOf ByteArray.empty l1 x5_1).toList) = true := beq_iff_eq.mpr c7
        have c7b1 : ((rdOf ByteArray.empty l0 x5_1).toList != (rdOf ByteArray.empty l1 x5_1).toList) = false := bne_eq_false_iff_eq.mpr c7
        clear c7
        have H' := Aside0.mk H
        clear H
        have p152 : 0 ≤ (x5_1 : Int) := of_decide_eq_true as_
        have q152 : x5_1 < (l0.length : Int) := of_decide_eq_true as_
        obtain ⟨ad152, e152, hx152_0⟩ := Kd.at_string HR0.out x5_1 p152 q152
        cases e152
        replace p152 := eq_true p152
        replace q152 := eq_true q152
        have p153 : 0 ≤ (x5_1 : Int) := of_decide_eq_true as_
        have q153 : x5_1 < (l1.length : Int) := of_decide_eq_true as_
        obtain ⟨ad153, e153, hx153_0⟩ := Kd.at_string HR1.out x5_1 p153 q153
        cases e153
        replace p153 := eq_true p153
        replace q153 := eq_true q153
        go_wp2
        repeat (go_quiet (fail); try go_wp2)
        go_roundg k1
        case measure => have := HK1.out; omega
        case rel => exact ⟨(wrap64 (x5_1 + 1)), rs_, H', ⟨by have := HK1.out; omega⟩, dr_⟩
       ·rw [if_neg c7] at H
        have c7b0 : ((rdOf ByteArray.empty l0 x5_1).toList == (rdOf ByteArray.empty l1 x5_1).toList) = false := beq_eq_false_iff_ne.mpr c7
        have c7b1 : ((rdOf ByteArray.empty l0 x5_1).toList != (rdOf ByteArray.empty l1 x5_1).toList) = true := bne_iff_ne.mpr c7
        obtain rfl := Option.some.inj H
        have p152 : 0 ≤ (x5_1 : Int) := of_decide_eq_true as_
        have q152 : x5_1 < (l0.length : Int) := of_decide_eq_true as_
        obtain ⟨ad152, e152, hx152_0⟩ := Kd.at_string HR0.out x5_1 p152 q152
        cases e152
        replace p152 := eq_true p152
        replace q152 := eq_true q152
        have p153 : 0 ≤ (x5_1 : Int) := of_decide_eq_true as_
        have q153 : x5_1 < (l1.length : Int) := of_decide_eq_true as_
        obtain ⟨ad153, e153, hx153_0⟩ := Kd.at_string HR1.out x5_1 p153 q153
        cases e153
        replace p153 := eq_true p153
        replace q153 := eq_true q153
        go_wp2
        repeat (go_quiet (fail); try go_wp2)
        go_ret
        exact ⟨by first | rfl | (simp; done) | (simp [*]; done), dr_⟩
      ·rw [if_neg c6] at H
       exact absurd H (by simp)
     ·rw [if_neg c5] at H
      exact absurd H (by simp)
    ·rw [if_neg c4] at H
     have c4b0 : decide (x5_1 < (l0.length : Int)) = false := decide_eq_false c4
     clear c4
     obtain rfl := Option.some.inj H
     go_wp2
     repeat (go_quiet (fail); try go_wp2)
     go_ret
     exact ⟨by first | rfl | (simp; done) | (simp [*]; done), dr_⟩
 ·rw [if_neg c3] at H
  have c3b0 : ((l0.length : Int) == (l1.length : Int)) = false := beq_eq_false_iff_ne.mpr c3
  have c3b1 : ((l0.length : Int) != (l1.length : Int)) = true := bne_iff_ne.mpr c3
  have c3b2 : (l0.length == l1.length) = false := by first | simpa using c3 | (simp at c3 ⊢; omega)
  obtain rfl := Option.some.inj H
  go_enter Tryz.func71, Tryz.ntmps71
  go_wp2
  repeat (go_quiet (fail); try go_wp2)
  go_ret
  exact ⟨by first | rfl | (simp; done) | (simp [*]; done), dr_⟩
def dragnetref19_SameNode.f (k : Nat) (a0_0 : Int) (a0_1 : Int) (a0_2 : Int) (a0_3 : ByteArray) (l0_4 : List ByteArray) (a0_5 : ByteArray) (a0_6 : Int) (a0_7 : Int) (a1_0 : Int) (a1_1 : Int) (a1_2 : Int) (a1_3 : ByteArray) (l1_4 : List ByteArray) (a1_5 : ByteArray) (a1_6 : Int) (a1_7 : Int) : Option (Bool) := if a0_0 = a1_0 then (if a0_1 = a1_1 then (if a0_2 = a1_2 then (if a0_3.toList = a1_3.toList then ((dragnetref06_Same.f k l0_4 l1_4).bind fun t156 => (if t156 = true then (if a0_5.toList = a1_5.toList then (if a0_6 = a1_6 then (some (a0_7 == a1_7)) else (some false)) else (some false)) else (some false))) else (some false)) else (some false)) else (some false)) else (some false)
theorem dragnetref19_SameNode.calls (k : Nat) (a0_0 : Int) (a0_1 : Int) (a0_2 : Int) (a0_3 : ByteArray) (A0_4 : Option Addr) (c0_4 : Nat) (l0_4 : List ByteArray) (a0_5 : ByteArray) (a0_6 : Int) (a0_7 : Int) (a1_0 : Int) (a1_1 : Int) (a1_2 : Int) (a1_3 : ByteArray) (A1_4 : Option Addr) (c1_4 : Nat) (l1_4 : List ByteArray) (a1_5 : ByteArray) (a1_6 : Int) (a1_7 : Int) (r : Bool) (w : World) (hr0_4 : Kd.C Kd.string w A0_4 l0_4.length l0_4) (hc0_4 : l0_4.length ≤ c0_4) (hr1_4 : Kd.C Kd.string w A1_4 l1_4.length l1_4) (hc1_4 : l1_4.length ≤ c1_4) (h : dragnetref19_SameNode.f k a0_0 a0_1 a0_2 a0_3 l0_4 a0_5 a0_6 a0_7 a1_0 a1_1 a1_2 a1_3 l1_4 a1_5 a1_6 a1_7 = some r) :
  Calls Tryz.prog 48 #[.agg #[.int .i64 a0_0, .int .i64 a0_1, .int .i64 a0_2, .string a0_3, .slice A0_4 l0_4.length c0_4, .string a0_5, .int .i64 a0_6, .int .i64 a0_7], .agg #[.int .i64 a1_0, .int .i64 a1_1, .int .i64 a1_2, .string a1_3, .slice A1_4 l1_4.length c1_4, .string a1_5, .int .i64 a1_6, .int .i64 a1_7]] w fun e w' => e = .returned (.bool r) ∧ Below w.heap.size w w' := by
 have hu37 := Tryz.underlying37
 have HR0_4 := Aside0.mk hr0_4
 have HC0_4 := Aside0.mk hc0_4
 clear hr0_4 hc0_4
 have HR1_4 := Aside0.mk hr1_4
 have HC1_4 := Aside0.mk hc1_4
 clear hr1_4 hc1_4
 have HB := Aside0.mk (Below.refl w.heap.size w)
 have H : (if a0_0 = a1_0 then (if a0_1 = a1_1 then (if a0_2 = a1_2 then (if a0_3.toList = a1_3.toList then ((dragnetref06_Same.f k l0_4 l1_4).bind fun t156 => (if t156 = true then (if a0_5.toList = a1_5.toList then (if a0_6 = a1_6 then (some (a0_7 == a1_7)) else (some false)) else (some false)) else (some false))) else (some false)) else (some false)) else (some false)) else (some false)) = some r := h
 clear h
 by_cases c3 : a0_0 = a1_0
 ·rw [if_pos c3] at H
  have c3b0 : (a0_0 == a1_0) = true := beq_iff_eq.mpr c3
  have c3b1 : (a0_0 != a1_0) = false := bne_eq_false_iff_eq.mpr c3
  clear c3
  by_cases c4 : a0_1 = a1_1
  ·rw [if_pos c4] at H
   have c4b0 : (a0_1 == a1_1) = true := beq_iff_eq.mpr c4
   have c4b1 : (a0_1 != a1_1) = false := bne_eq_false_iff_eq.mpr c4
   clear c4
   by_cases c5 : a0_2 = a1_2
   ·rw [if_pos c5] at H
    have c5b0 : (a0_2 == a1_2) = true := beq_iff_eq.mpr c5
    have c5b1 : (a0_2 != a1_2) = false := bne_eq_false_iff_eq.mpr c5
    clear c5
    by_cases c6 : a0_3.toList = a1_3.toList
    ·rw [if_pos c6] at H
     have c6b0 : (a0_3.toList == a1_3.toList) = true := beq_iff_eq.mpr c6
     have c6b1 : (a0_3.toList != a1_3.toList) = false := bne_eq_false_iff_eq.mpr c6
     clear c6
     replace H := Option.bind_eq_some_iff.mp H
     obtain ⟨t156, A70, H⟩ := H
     replace H : (if t156 = true then (if a0_5.toList = a1_5.toList then (if a0_6 = a1_6 then (some (a0_7 == a1_7)) else (some false)) else (some false)) else (some false)) = some r := H
     have A7 := Aside0.mk A70
     clear A70
     by_cases c8 : t156 = true
     ·subst c8
      have H1 : (if a0_5.toList = a1_5.toList then (if a0_6 = a1_6 then (some (a0_7 == a1_7)) else (some false)) else (some false)) = some r := by rw [if_pos rfl] at H; exact H
      clear H
      have H := H1
      clear H1
      by_cases c9 : a0_5.toList = a1_5.toList
      ·rw [if_pos c9] at H
       have c9b0 : (a0_5.toList == a1_5.toList) = true := beq_iff_eq.mpr c9
       have c9b1 : (a0_5.toList != a1_5.toList) = false := bne_eq_false_iff_eq.mpr c9
       clear c9
       by_cases c10 : a0_6 = a1_6
       ·rw [if_pos c10] at H
        have c10b0 : (a0_6 == a1_6) = true := beq_iff_eq.mpr c10
        have c10b1 : (a0_6 != a1_6) = false := bne_eq_false_iff_eq.mpr c10
        clear c10
        obtain rfl := Option.some.inj H
        go_enter Tryz.func48, Tryz.ntmps48
        go_wp2_with (first | ((with_reducible refine gate_dst (N := 2) rfl ?_); refine box_event ?hg (N := 2) ?hd (cs := #[.int .i64 a0_0, .int .i64 a0_1, .int .i64 a0_2, .string a0_3, .slice A0_4 l0_4.length c0_4, .string a0_5, .int .i64 a0_6, .int .i64 a0_7]) (t := 37) ?hr ?_; (case hd => rfl); (case hg => rfl); (case hr => first | (go_simp; done) | (go_simp; rfl) | (go_simp; simp only [wAl, wAr, wSl, wSr, wW])); intro gb154 hg w11 hbox hb; have n0_ := bsA HB hb; have n1_ := Aside0.mk (hbox); have n2_ := szA HB hg; have n3_ := szA HB hg; clear HB; have HB := n0_; have BK154 := n1_; have GW154 := n2_; have GE154 := n3_; clear n0_ n1_ n2_ n3_; clear hb hbox hg) | ((with_reducible refine gate_dst (N := 3) rfl ?_); refine box_event ?hg (N := 3) ?hd (cs := #[.int .i64 a1_0, .int .i64 a1_1, .int .i64 a1_2, .string a1_3, .slice A1_4 l1_4.length c1_4, .string a1_5, .int .i64 a1_6, .int .i64 a1_7]) (t := 37) ?hr ?_; (case hd => rfl); (case hg => rfl); (case hr => first | (go_simp; done) | (go_simp; rfl) | (go_simp; simp only [wAl, wAr, wSl, wSr, wW])); intro gb155 hg w12 hbox hb; have n0_ := bkA BK154 hb; have n1_ := bsA HB hb; have n2_ := Aside0.mk (hbox); have n3_ := szA HB hg; have n4_ := szA HB hg; have n5_ := neA BK154 hg; have n6_ := neB BK154 hg; clear BK154; clear HB; have BK154 := n0_; have HB := n1_; have BK155 := n2_; have GW155 := n3_; have GE155 := n4_; have NB154_155 := n5_; have NB155_154 := n6_; clear n0_ n1_ n2_ n3_ n4_ n5_ n6_; clear hb hbox hg; have hnb13 := NB154_155.out; have hnc13 := NB155_154.out; have hcz14_0 : w12.cell? ⟨gb154, 0, none⟩ = some (.int .i64 a0_0) := (blk_cell BK154.out 0).trans rfl; have hcz14_1 : w12.cell? ⟨gb154, 1, none⟩ = some (.int .i64 a0_1) := (blk_cell BK154.out 1).trans rfl; have hcz14_2 : w12.cell? ⟨gb154, 2, none⟩ = some (.int .i64 a0_2) := (blk_cell BK154.out 2).trans rfl; have hcz14_3 : w12.cell? ⟨gb154, 3, none⟩ = some (.string a0_3) := (blk_cell BK154.out 3).trans rfl; have hcz14_4 : w12.cell? ⟨gb154, 4, none⟩ = some (.slice A0_4 l0_4.length c0_4) := (blk_cell BK154.out 4).trans rfl; have hcz14_5 : w12.cell? ⟨gb154, 5, none⟩ = some (.string a0_5) := (blk_cell BK154.out 5).trans rfl; have hcz14_6 : w12.cell? ⟨gb154, 6, none⟩ = some (.int .i64 a0_6) := (blk_cell BK154.out 6).trans rfl; have hcz14_7 : w12.cell? ⟨gb154, 7, none⟩ = some (.int .i64 a0_7) := (blk_cell BK154.out 7).trans rfl; have hfz14_0 := blk_frozen BK154.out 0; have hfz14_1 := blk_frozen BK154.out 1; have hfz14_2 := blk_frozen BK154.out 2; have hfz14_3 := blk_frozen BK154.out 3; have hfz14_4 := blk_frozen BK154.out 4; have hfz14_5 := blk_frozen BK154.out 5; have hfz14_6 := blk_frozen BK154.out 6; have hfz14_7 := blk_frozen BK154.out 7; have hcz15_0 : w12.cell? ⟨gb155, 0, none⟩ = some (.int .i64 a1_0) := (blk_cell BK155.out 0).trans rfl; have hcz15_1 : w12.cell? ⟨gb155, 1, none⟩ = some (.int .i64 a1_1) := (blk_cell BK155.out 1).trans rfl; have hcz15_2 : w12.cell? ⟨gb155, 2, none⟩ = some (.int .i64 a1_2) := (blk_cell BK155.out 2).trans rfl; have hcz15_3 : w12.cell? ⟨gb155, 3, none⟩ = some (.string a1_3) := (blk_cell BK155.out 3).trans rfl; have hcz15_4 : w12.cell? ⟨gb155, 4, none⟩ = some (.slice A1_4 l1_4.length c1_4) := (blk_cell BK155.out 4).trans rfl; have hcz15_5 : w12.cell? ⟨gb155, 5, none⟩ = some (.string a1_5) := (blk_cell BK155.out 5).trans rfl; have hcz15_6 : w12.cell? ⟨gb155, 6, none⟩ = some (.int .i64 a1_6) := (blk_cell BK155.out 6).trans rfl; have hcz15_7 : w12.cell? ⟨gb155, 7, none⟩ = some (.int .i64 a1_7) := (blk_cell BK155.out 7).trans rfl; have hfz15_0 := blk_frozen BK155.out 0; have hfz15_1 := blk_frozen BK155.out 1; have hfz15_2 := blk_frozen BK155.out 2; have hfz15_3 := blk_frozen BK155.out 3; have hfz15_4 := blk_frozen BK155.out 4; have hfz15_5 := blk_frozen BK155.out 5; have hfz15_6 := blk_frozen BK155.out 6; have hfz15_7 := blk_frozen BK155.out 7) | (go_at_call 71; (with_reducible refine (dragnetref06_Same.calls k _ _ l0_4 _ _ l1_4 true _ ?side1 ?side2 ?side3 ?side4 A7.out).mono ?_); (case side1 => repeat (first | exact (Kd.C_below HR0_4.out HB.out) | (with_reducible refine Kd.C_alloc ?_ _) | (with_reducible refine Kd.C_drewN ?_ _) | (with_reducible refine Kd.C_drew ?_))); (case side2 => exact HC0_4.out); (case side3 => repeat (first | exact (Kd.C_below HR1_4.out HB.out) | (with_reducible refine Kd.C_alloc ?_ _) | (with_reducible refine Kd.C_drewN ?_ _) | (with_reducible refine Kd.C_drew ?_))); (case side4 => exact HC1_4.out); rintro e w' ⟨rfl, ⟨nd, rfl⟩⟩))
        go_ret
        exact ⟨by first | rfl | (simp [errW_none, errW_some] <;> rfl) | (simp [*, errW_none, errW_some] <;> rfl), by repeat (first | (with_reducible first | exact HB.out | apply below_alloc | apply pw_below_drewN | apply below_drew1 | refine below_set ?_ GE154.out | refine below_set ?_ GE155.out) | exact HB.out)⟩
       ·rw [if_neg c10] at H
        have c10b0 : (a0_6 == a1_6) = false := beq_eq_false_iff_ne.mpr c10
        have c10b1 : (a0_6 != a1_6) = true := bne_iff_ne.mpr c10
        obtain rfl := Option.some.inj H
        go_enter Tryz.func48, Tryz.ntmps48
        go_wp2_with (first | ((with_reducible refine gate_dst (N := 2) rfl ?_); refine box_event ?hg (N := 2) ?hd (cs := #[.int .i64 a0_0, .int .i64 a0_1, .int .i64 a0_2, .string a0_3, .slice A0_4 l0_4.length c0_4, .string a0_5, .int .i64 a0_6, .int .i64 a0_7]) (t := 37) ?hr ?_; (case hd => rfl); (case hg => rfl); (case hr => first | (go_simp; done) | (go_simp; rfl) | (go_simp; simp only [wAl, wAr, wSl, wSr, wW])); intro gb154 hg w16 hbox hb; have n0_ := bsA HB hb; have n1_ := Aside0.mk (hbox); have n2_ := szA HB hg; have n3_ := szA HB hg; clear HB; have HB := n0_; have BK154 := n1_; have GW154 := n2_; have GE154 := n3_; clear n0_ n1_ n2_ n3_; clear hb hbox hg) | ((with_reducible refine gate_dst (N := 3) rfl ?_); refine box_event ?hg (N := 3) ?hd (cs := #[.int .i64 a1_0, .int .i64 a1_1, .int .i64 a1_2, .string a1_3, .slice A1_4 l1_4.length c1_4, .string a1_5, .int .i64 a1_6, .int .i64 a1_7]) (t := 37) ?hr ?_; (case hd => rfl); (case hg => rfl); (case hr => first | (go_simp; done) | (go_simp; rfl) | (go_simp; simp only [wAl, wAr, wSl, wSr, wW])); intro gb155 hg w17 hbox hb; have n0_ := bkA BK154 hb; have n1_ := bsA HB hb; have n2_ := Aside0.mk (hbox); have n3_ := szA HB hg; have n4_ := szA HB hg; have n5_ := neA BK154 hg; have n6_ := neB BK154 hg; clear BK154; clear HB; have BK154 := n0_; have HB := n1_; have BK155 := n2_; have GW155 := n3_; have GE155 := n4_; have NB154_155 := n5_; have NB155_154 := n6_; clear n0_ n1_ n2_ n3_ n4_ n5_ n6_; clear hb hbox hg; have hnb18 := NB154_155.out; have hnc18 := NB155_154.out; have hcz19_0 : w17.cell? ⟨gb154, 0, none⟩ = some (.int .i64 a0_0) := (blk_cell BK154.out 0).trans rfl; have hcz19_1 : w17.cell? ⟨gb154, 1, none⟩ = some (.int .i64 a0_1) := (blk_cell BK154.out 1).trans rfl; have hcz19_2 : w17.cell? ⟨gb154, 2, none⟩ = some (.int .i64 a0_2) := (blk_cell BK154.out 2).trans rfl; have hcz19_3 : w17.cell? ⟨gb154, 3, none⟩ = some (.string a0_3) := (blk_cell BK154.out 3).trans rfl; have hcz19_4 : w17.cell? ⟨gb154, 4, none⟩ = some (.slice A0_4 l0_4.length c0_4) := (blk_cell BK154.out 4).trans rfl; have hcz19_5 : w17.cell? ⟨gb154, 5, none⟩ = some (.string a0_5) := (blk_cell BK154.out 5).trans rfl; have hcz19_6 : w17.cell? ⟨gb154, 6, none⟩ = some (.int .i64 a0_6) := (blk_cell BK154.out 6).trans rfl; have hcz19_7 : w17.cell? ⟨gb154, 7, none⟩ = some (.int .i64 a0_7) := (blk_cell BK154.out 7).trans rfl; have hfz19_0 := blk_frozen BK154.out 0; have hfz19_1 := blk_frozen BK154.out 1; have hfz19_2 := blk_frozen BK154.out 2; have hfz19_3 := blk_frozen BK154.out 3; have hfz19_4 := blk_frozen BK154.out 4; have hfz19_5 := blk_frozen BK154.out 5; have hfz19_6 := blk_frozen BK154.out 6; have hfz19_7 := blk_frozen BK154.out 7; have hcz20_0 : w17.cell? ⟨gb155, 0, none⟩ = some (.int .i64 a1_0) := (blk_cell BK155.out 0).trans rfl; have hcz20_1 : w17.cell? ⟨gb155, 1, none⟩ = some (.int .i64 a1_1) := (blk_cell BK155.out 1).trans rfl; have hcz20_2 : w17.cell? ⟨gb155, 2, none⟩ = some (.int .i64 a1_2) := (blk_cell BK155.out 2).trans rfl; have hcz20_3 : w17.cell? ⟨gb155, 3, none⟩ = some (.string a1_3) := (blk_cell BK155.out 3).trans rfl; have hcz20_4 : w17.cell? ⟨gb155, 4, none⟩ = some (.slice A1_4 l1_4.length c1_4) := (blk_cell BK155.out 4).trans rfl; have hcz20_5 : w17.cell? ⟨gb155, 5, none⟩ = some (.string a1_5) := (blk_cell BK155.out 5).trans rfl; have hcz20_6 : w17.cell? ⟨gb155, 6, none⟩ = some (.int .i64 a1_6) := (blk_cell BK155.out 6).trans rfl; have hcz20_7 : w17.cell? ⟨gb155, 7, none⟩ = some (.int .i64 a1_7) := (blk_cell BK155.out 7).trans rfl; have hfz20_0 := blk_frozen BK155.out 0; have hfz20_1 := blk_frozen BK155.out 1; have hfz20_2 := blk_frozen BK155.out 2; have hfz20_3 := blk_frozen BK155.out 3; have hfz20_4 := blk_frozen BK155.out 4; have hfz20_5 := blk_frozen BK155.out 5; have hfz20_6 := blk_frozen BK155.out 6; have hfz20_7 := blk_frozen BK155.out 7) | (go_at_call 71; (with_reducible refine (dragnetref06_Same.calls k _ _ l0_4 _ _ l1_4 true _ ?side1 ?side2 ?side3 ?side4 A7.out).mono ?_); (case side1 => repeat (first | exact (Kd.C_below HR0_4.out HB.out) | (with_reducible refine Kd.C_alloc ?_ _) | (with_reducible refine Kd.C_drewN ?_ _) | (with_reducible refine Kd.C_drew ?_))); (case side2 => exact HC0_4.out); (case side3 => repeat (first | exact (Kd.C_below HR1_4.out HB.out) | (with_reducible refine Kd.C_alloc ?_ _) | (with_reducible refine Kd.C_drewN ?_ _) | (with_reducible refine Kd.C_drew ?_))); (case side4 => exact HC1_4.out); rintro e w' ⟨rfl, ⟨nd, rfl⟩⟩))
        go_ret
        exact ⟨by first | rfl | (simp [errW_none, errW_some] <;> rfl) | (simp [*, errW_none, errW_some] <;> rfl), by repeat (first | (with_reducible first | exact HB.out | apply below_alloc | apply pw_below_drewN | apply below_drew1 | refine below_set ?_ GE154.out | refine below_set ?_ GE155.out) | exact HB.out)⟩
      ·rw [if_neg c9] at H
       have c9b0 : (a0_5.toList == a1_5.toList) = false := beq_eq_false_iff_ne.mpr c9
       have c9b1 : (a0_5.toList != a1_5.toList) = true := bne_iff_ne.mpr c9
       obtain rfl := Option.some.inj H
       go_enter Tryz.func48, Tryz.ntmps48
       go_wp2_with (first | ((with_reducible refine gate_dst (N := 2) rfl ?_); refine box_event ?hg (N := 2) ?hd (cs := #[.int .i64 a0_0, .int .i64 a0_1, .int .i64 a0_2, .string a0_3, .slice A0_4 l0_4.length c0_4, .string a0_5, .int .i64 a0_6, .int .i64 a0_7]) (t := 37) ?hr ?_; (case hd => rfl); (case hg => rfl); (case hr => first | (go_simp; done) | (go_simp; rfl) | (go_simp; simp only [wAl, wAr, wSl, wSr, wW])); intro gb154 hg w21 hbox hb; have n0_ := bsA HB hb; have n1_ := Aside0.mk (hbox); have n2_ := szA HB hg; have n3_ := szA HB hg; clear HB; have HB := n0_; have BK154 := n1_; have GW154 := n2_; have GE154 := n3_; clear n0_ n1_ n2_ n3_; clear hb hbox hg) | ((with_reducible refine gate_dst (N := 3) rfl ?_); refine box_event ?hg (N := 3) ?hd (cs := #[.int .i64 a1_0, .int .i64 a1_1, .int .i64 a1_2, .string a1_3, .slice A1_4 l1_4.length c1_4, .string a1_5, .int .i64 a1_6, .int .i64 a1_7]) (t := 37) ?hr ?_; (case hd => rfl); (case hg => rfl); (case hr => first | (go_simp; done) | (go_simp; rfl) | (go_simp; simp only [wAl, wAr, wSl, wSr, wW])); intro gb155 hg w22 hbox hb; have n0_ := bkA BK154 hb; have n1_ := bsA HB hb; have n2_ := Aside0.mk (hbox); have n3_ := szA HB hg; have n4_ := szA HB hg; have n5_ := neA BK154 hg; have n6_ := neB BK154 hg; clear BK154; clear HB; have BK154 := n0_; have HB := n1_; have BK155 := n2_; have GW155 := n3_; have GE155 := n4_; have NB154_155 := n5_; have NB155_154 := n6_; clear n0_ n1_ n2_ n3_ n4_ n5_ n6_; clear hb hbox hg; have hnb23 := NB154_155.out; have hnc23 := NB155_154.out; have hcz24_0 : w22.cell? ⟨gb154, 0, none⟩ = some (.int .i64 a0_0) := (blk_cell BK154.out 0).trans rfl; have hcz24_1 : w22.cell? ⟨gb154, 1, none⟩ = some (.int .i64 a0_1) := (blk_cell BK154.out 1).trans rfl; have hcz24_2 : w22.cell? ⟨gb154, 2, none⟩ = some (.int .i64 a0_2) := (blk_cell BK154.out 2).trans rfl; have hcz24_3 : w22.cell? ⟨gb154, 3, none⟩ = some (.string a0_3) := (blk_cell BK154.out 3).trans rfl; have hcz24_4 : w22.cell? ⟨gb154, 4, none⟩ = some (.slice A0_4 l0_4.length c0_4) := (blk_cell BK154.out 4).trans rfl; have hcz24_5 : w22.cell? ⟨gb154, 5, none⟩ = some (.string a0_5) := (blk_cell BK154.out 5).trans rfl; have hcz24_6 : w22.cell? ⟨gb154, 6, none⟩ = some (.int .i64 a0_6) := (blk_cell BK154.out 6).trans rfl; have hcz24_7 : w22.cell? ⟨gb154, 7, none⟩ = some (.int .i64 a0_7) := (blk_cell BK154.out 7).trans rfl; have hfz24_0 := blk_frozen BK154.out 0; have hfz24_1 := blk_frozen BK154.out 1; have hfz24_2 := blk_frozen BK154.out 2; have hfz24_3 := blk_frozen BK154.out 3; have hfz24_4 := blk_frozen BK154.out 4; have hfz24_5 := blk_frozen BK154.out 5; have hfz24_6 := blk_frozen BK154.out 6; have hfz24_7 := blk_frozen BK154.out 7; have hcz25_0 : w22.cell? ⟨gb155, 0, none⟩ = some (.int .i64 a1_0) := (blk_cell BK155.out 0).trans rfl; have hcz25_1 : w22.cell? ⟨gb155, 1, none⟩ = some (.int .i64 a1_1) := (blk_cell BK155.out 1).trans rfl; have hcz25_2 : w22.cell? ⟨gb155, 2, none⟩ = some (.int .i64 a1_2) := (blk_cell BK155.out 2).trans rfl; have hcz25_3 : w22.cell? ⟨gb155, 3, none⟩ = some (.string a1_3) := (blk_cell BK155.out 3).trans rfl; have hcz25_4 : w22.cell? ⟨gb155, 4, none⟩ = some (.slice A1_4 l1_4.length c1_4) := (blk_cell BK155.out 4).trans rfl; have hcz25_5 : w22.cell? ⟨gb155, 5, none⟩ = some (.string a1_5) := (blk_cell BK155.out 5).trans rfl; have hcz25_6 : w22.cell? ⟨gb155, 6, none⟩ = some (.int .i64 a1_6) := (blk_cell BK155.out 6).trans rfl; have hcz25_7 : w22.cell? ⟨gb155, 7, none⟩ = some (.int .i64 a1_7) := (blk_cell BK155.out 7).trans rfl; have hfz25_0 := blk_frozen BK155.out 0; have hfz25_1 := blk_frozen BK155.out 1; have hfz25_2 := blk_frozen BK155.out 2; have hfz25_3 := blk_frozen BK155.out 3; have hfz25_4 := blk_frozen BK155.out 4; have hfz25_5 := blk_frozen BK155.out 5; have hfz25_6 := blk_frozen BK155.out 6; have hfz25_7 := blk_frozen BK155.out 7) | (go_at_call 71; (with_reducible refine (dragnetref06_Same.calls k _ _ l0_4 _ _ l1_4 true _ ?side1 ?side2 ?side3 ?side4 A7.out).mono ?_); (case side1 => repeat (first | exact (Kd.C_below HR0_4.out HB.out) | (with_reducible refine Kd.C_alloc ?_ _) | (with_reducible refine Kd.C_drewN ?_ _) | (with_reducible refine Kd.C_drew ?_))); (case side2 => exact HC0_4.out); (case side3 => repeat (first | exact (Kd.C_below HR1_4.out HB.out) | (with_reducible refine Kd.C_alloc ?_ _) | (with_reducible refine Kd.C_drewN ?_ _) | (with_reducible refine Kd.C_drew ?_))); (case side4 => exact HC1_4.out); rintro e w' ⟨rfl, ⟨nd, rfl⟩⟩))
       go_ret
       exact ⟨by first | rfl | (simp [errW_none, errW_some] <;> rfl) | (simp [*, errW_none, errW_some] <;> rfl), by repeat (first | (with_reducible first | exact HB.out | apply below_alloc | apply pw_below_drewN | apply below_drew1 | refine below_set ?_ GE154.out | refine below_set ?_ GE155.out) | exact HB.out)⟩
     ·replace c8 := Bool.eq_false_iff.mpr c8
      subst c8
      have H1 : (some false) = some r := by rw [if_neg (show ¬ (false = true) by decide)] at H; exact H
      clear H
      have H := H1
      clear H1
      obtain rfl := Option.some.inj H
      go_enter Tryz.func48, Tryz.ntmps48
      go_wp2_with (first | ((with_reducible refine gate_dst (N := 2) rfl ?_); refine box_event ?hg (N := 2) ?hd (cs := #[.int .i64 a0_0, .int .i64 a0_1, .int .i64 a0_2, .string a0_3, .slice A0_4 l0_4.length c0_4, .string a0_5, .int .i64 a0_6, .int .i64 a0_7]) (t := 37) ?hr ?_; (case hd => rfl); (case hg => rfl); (case hr => first | (go_simp; done) | (go_simp; rfl) | (go_simp; simp only [wAl, wAr, wSl, wSr, wW])); intro gb154 hg w26 hbox hb; have n0_ := bsA HB hb; have n1_ := Aside0.mk (hbox); have n2_ := szA HB hg; have n3_ := szA HB hg; clear HB; have HB := n0_; have BK154 := n1_; have GW154 := n2_; have GE154 := n3_; clear n0_ n1_ n2_ n3_; clear hb hbox hg) | ((with_reducible refine gate_dst (N := 3) rfl ?_); refine box_event ?hg (N := 3) ?hd (cs := #[.int .i64 a1_0, .int .i64 a1_1, .int .i64 a1_2, .string a1_3, .slice A1_4 l1_4.length c1_4, .string a1_5, .int .i64 a1_6, .int .i64 a1_7]) (t := 37) ?hr ?_; (case hd => rfl); (case hg => rfl); (case hr => first | (go_simp; done) | (go_simp; rfl) | (go_simp; simp only [wAl, wAr, wSl, wSr, wW])); intro gb155 hg w27 hbox hb; have n0_ := bkA BK154 hb; have n1_ := bsA HB hb; have n2_ := Aside0.mk (hbox); have n3_ := szA HB hg; have n4_ := szA HB hg; have n5_ := neA BK154 hg; have n6_ := neB BK154 hg; clear BK154; clear HB; have BK154 := n0_; have HB := n1_; have BK155 := n2_; have GW155 := n3_; have GE155 := n4_; have NB154_155 := n5_; have NB155_154 := n6_; clear n0_ n1_ n2_ n3_ n4_ n5_ n6_; clear hb hbox hg; have hnb28 := NB154_155.out; have hnc28 := NB155_154.out; have hcz29_0 : w27.cell? ⟨gb154, 0, none⟩ = some (.int .i64 a0_0) := (blk_cell BK154.out 0).trans rfl; have hcz29_1 : w27.cell? ⟨gb154, 1, none⟩ = some (.int .i64 a0_1) := (blk_cell BK154.out 1).trans rfl; have hcz29_2 : w27.cell? ⟨gb154, 2, none⟩ = some (.int .i64 a0_2) := (blk_cell BK154.out 2).trans rfl; have hcz29_3 : w27.cell? ⟨gb154, 3, none⟩ = some (.string a0_3) := (blk_cell BK154.out 3).trans rfl; have hcz29_4 : w27.cell? ⟨gb154, 4, none⟩ = some (.slice A0_4 l0_4.length c0_4) := (blk_cell BK154.out 4).trans rfl; have hcz29_5 : w27.cell? ⟨gb154, 5, none⟩ = some (.string a0_5) := (blk_cell BK154.out 5).trans rfl; have hcz29_6 : w27.cell? ⟨gb154, 6, none⟩ = some (.int .i64 a0_6) := (blk_cell BK154.out 6).trans rfl; have hcz29_7 : w27.cell? ⟨gb154, 7, none⟩ = some (.int .i64 a0_7) := (blk_cell BK154.out 7).trans rfl; have hfz29_0 := blk_frozen BK154.out 0; have hfz29_1 := blk_frozen BK154.out 1; have hfz29_2 := blk_frozen BK154.out 2; have hfz29_3 := blk_frozen BK154.out 3; have hfz29_4 := blk_frozen BK154.out 4; have hfz29_5 := blk_frozen BK154.out 5; have hfz29_6 := blk_frozen BK154.out 6; have hfz29_7 := blk_frozen BK154.out 7; have hcz30_0 : w27.cell? ⟨gb155, 0, none⟩ = some (.int .i64 a1_0) := (blk_cell BK155.out 0).trans rfl; have hcz30_1 : w27.cell? ⟨gb155, 1, none⟩ = some (.int .i64 a1_1) := (blk_cell BK155.out 1).trans rfl; have hcz30_2 : w27.cell? ⟨gb155, 2, none⟩ = some (.int .i64 a1_2) := (blk_cell BK155.out 2).trans rfl; have hcz30_3 : w27.cell? ⟨gb155, 3, none⟩ = some (.string a1_3) := (blk_cell BK155.out 3).trans rfl; have hcz30_4 : w27.cell? ⟨gb155, 4, none⟩ = some (.slice A1_4 l1_4.length c1_4) := (blk_cell BK155.out 4).trans rfl; have hcz30_5 : w27.cell? ⟨gb155, 5, none⟩ = some (.string a1_5) := (blk_cell BK155.out 5).trans rfl; have hcz30_6 : w27.cell? ⟨gb155, 6, none⟩ = some (.int .i64 a1_6) := (blk_cell BK155.out 6).trans rfl; have hcz30_7 : w27.cell? ⟨gb155, 7, none⟩ = some (.int .i64 a1_7) := (blk_cell BK155.out 7).trans rfl; have hfz30_0 := blk_frozen BK155.out 0; have hfz30_1 := blk_frozen BK155.out 1; have hfz30_2 := blk_frozen BK155.out 2; have hfz30_3 := blk_frozen BK155.out 3; have hfz30_4 := blk_frozen BK155.out 4; have hfz30_5 := blk_frozen BK155.out 5; have hfz30_6 := blk_frozen BK155.out 6; have hfz30_7 := blk_frozen BK155.out 7) | (go_at_call 71; (with_reducible refine (dragnetref06_Same.calls k _ _ l0_4 _ _ l1_4 false _ ?side1 ?side2 ?side3 ?side4 A7.out).mono ?_); (case side1 => repeat (first | exact (Kd.C_below HR0_4.out HB.out) | (with_reducible refine Kd.C_alloc ?_ _) | (with_reducible refine Kd.C_drewN ?_ _) | (with_reducible refine Kd.C_drew ?_))); (case side2 => exact HC0_4.out); (case side3 => repeat (first | exact (Kd.C_below HR1_4.out HB.out) | (with_reducible refine Kd.C_alloc ?_ _) | (with_reducible refine Kd.C_drewN ?_ _) | (with_reducible refine Kd.C_drew ?_))); (case side4 => exact HC1_4.out); rintro e w' ⟨rfl, ⟨nd, rfl⟩⟩))
      go_ret
      exact ⟨by first | rfl | (simp [errW_none, errW_some] <;> rfl) | (simp [*, errW_none, errW_some] <;> rfl), by repeat (first | (with_reducible first | exact HB.out | apply below_alloc | apply pw_below_drewN | apply below_drew1 | refine below_set ?_ GE154.out | refine below_set ?_ GE155.out) | exact HB.out)⟩
    ·rw [if_neg c6] at H
     have c6b0 : (a0_3.toList == a1_3.toList) = false := beq_eq_false_iff_ne.mpr c6
     have c6b1 : (a0_3.toList != a1_3.toList) = true := bne_iff_ne.mpr c6
     obtain rfl := Option.some.inj H
     go_enter Tryz.func48, Tryz.ntmps48
     go_wp2_with (first | ((with_reducible refine gate_dst (N := 2) rfl ?_); refine box_event ?hg (N := 2) ?hd (cs := #[.int .i64 a0_0, .int .i64 a0_1, .int .i64 a0_2, .string a0_3, .slice A0_4 l0_4.length c0_4, .string a0_5, .int .i64 a0_6, .int .i64 a0_7]) (t := 37) ?hr ?_; (case hd => rfl); (case hg => rfl); (case hr => first | (go_simp; done) | (go_simp; rfl) | (go_simp; simp only [wAl, wAr, wSl, wSr, wW])); intro gb154 hg w31 hbox hb; have n0_ := bsA HB hb; have n1_ := Aside0.mk (hbox); have n2_ := szA HB hg; have n3_ := szA HB hg; clear HB; have HB := n0_; have BK154 := n1_; have GW154 := n2_; have GE154 := n3_; clear n0_ n1_ n2_ n3_; clear hb hbox hg) | ((with_reducible refine gate_dst (N := 3) rfl ?_); refine box_event ?hg (N := 3) ?hd (cs := #[.int .i64 a1_0, .int .i64 a1_1, .int .i64 a1_2, .string a1_3, .slice A1_4 l1_4.length c1_4, .string a1_5, .int .i64 a1_6, .int .i64 a1_7]) (t := 37) ?hr ?_; (case hd => rfl); (case hg => rfl); (case hr => first | (go_simp; done) | (go_simp; rfl) | (go_simp; simp only [wAl, wAr, wSl, wSr, wW])); intro gb155 hg w32 hbox hb; have n0_ := bkA BK154 hb; have n1_ := bsA HB hb; have n2_ := Aside0.mk (hbox); have n3_ := szA HB hg; have n4_ := szA HB hg; have n5_ := neA BK154 hg; have n6_ := neB BK154 hg; clear BK154; clear HB; have BK154 := n0_; have HB := n1_; have BK155 := n2_; have GW155 := n3_; have GE155 := n4_; have NB154_155 := n5_; have NB155_154 := n6_; clear n0_ n1_ n2_ n3_ n4_ n5_ n6_; clear hb hbox hg; have hnb33 := NB154_155.out; have hnc33 := NB155_154.out; have hcz34_0 : w32.cell? ⟨gb154, 0, none⟩ = some (.int .i64 a0_0) := (blk_cell BK154.out 0).trans rfl; have hcz34_1 : w32.cell? ⟨gb154, 1, none⟩ = some (.int .i64 a0_1) := (blk_cell BK154.out 1).trans rfl; have hcz34_2 : w32.cell? ⟨gb154, 2, none⟩ = some (.int .i64 a0_2) := (blk_cell BK154.out 2).trans rfl; have hcz34_3 : w32.cell? ⟨gb154, 3, none⟩ = some (.string a0_3) := (blk_cell BK154.out 3).trans rfl; have hcz34_4 : w32.cell? ⟨gb154, 4, none⟩ = some (.slice A0_4 l0_4.length c0_4) := (blk_cell BK154.out 4).trans rfl; have hcz34_5 : w32.cell? ⟨gb154, 5, none⟩ = some (.string a0_5) := (blk_cell BK154.out 5).trans rfl; have hcz34_6 : w32.cell? ⟨gb154, 6, none⟩ = some (.int .i64 a0_6) := (blk_cell BK154.out 6).trans rfl; have hcz34_7 : w32.cell? ⟨gb154, 7, none⟩ = some (.int .i64 a0_7) := (blk_cell BK154.out 7).trans rfl; have hfz34_0 := blk_frozen BK154.out 0; have hfz34_1 := blk_frozen BK154.out 1; have hfz34_2 := blk_frozen BK154.out 2; have hfz34_3 := blk_frozen BK154.out 3; have hfz34_4 := blk_frozen BK154.out 4; have hfz34_5 := blk_frozen BK154.out 5; have hfz34_6 := blk_frozen BK154.out 6; have hfz34_7 := blk_frozen BK154.out 7; have hcz35_0 : w32.cell? ⟨gb155, 0, none⟩ = some (.int .i64 a1_0) := (blk_cell BK155.out 0).trans rfl; have hcz35_1 : w32.cell? ⟨gb155, 1, none⟩ = some (.int .i64 a1_1) := (blk_cell BK155.out 1).trans rfl; have hcz35_2 : w32.cell? ⟨gb155, 2, none⟩ = some (.int .i64 a1_2) := (blk_cell BK155.out 2).trans rfl; have hcz35_3 : w32.cell? ⟨gb155, 3, none⟩ = some (.string a1_3) := (blk_cell BK155.out 3).trans rfl; have hcz35_4 : w32.cell? ⟨gb155, 4, none⟩ = some (.slice A1_4 l1_4.length c1_4) := (blk_cell BK155.out 4).trans rfl; have hcz35_5 : w32.cell? ⟨gb155, 5, none⟩ = some (.string a1_5) := (blk_cell BK155.out 5).trans rfl; have hcz35_6 : w32.cell? ⟨gb155, 6, none⟩ = some (.int .i64 a1_6) := (blk_cell BK155.out 6).trans rfl; have hcz35_7 : w32.cell? ⟨gb155, 7, none⟩ = some (.int .i64 a1_7) := (blk_cell BK155.out 7).trans rfl; have hfz35_0 := blk_frozen BK155.out 0; have hfz35_1 := blk_frozen BK155.out 1; have hfz35_2 := blk_frozen BK155.out 2; have hfz35_3 := blk_frozen BK155.out 3; have hfz35_4 := blk_frozen BK155.out 4; have hfz35_5 := blk_frozen BK155.out 5; have hfz35_6 := blk_frozen BK155.out 6; have hfz35_7 := blk_frozen BK155.out 7))
     go_ret
     exact ⟨by first | rfl | (simp [errW_none, errW_some] <;> rfl) | (simp [*, errW_none, errW_some] <;> rfl), by repeat (first | (with_reducible first | exact HB.out | apply below_alloc | apply pw_below_drewN | apply below_drew1 | refine below_set ?_ GE154.out | refine below_set ?_ GE155.out) | exact HB.out)⟩
   ·rw [if_neg c5] at H
    have c5b0 : (a0_2 == a1_2) = false := beq_eq_false_iff_ne.mpr c5
    have c5b1 : (a0_2 != a1_2) = true := bne_iff_ne.mpr c5
    obtain rfl := Option.some.inj H
    go_enter Tryz.func48, Tryz.ntmps48
    go_wp2_with (first | ((with_reducible refine gate_dst (N := 2) rfl ?_); refine box_event ?hg (N := 2) ?hd (cs := #[.int .i64 a0_0, .int .i64 a0_1, .int .i64 a0_2, .string a0_3, .slice A0_4 l0_4.length c0_4, .string a0_5, .int .i64 a0_6, .int .i64 a0_7]) (t := 37) ?hr ?_; (case hd => rfl); (case hg => rfl); (case hr => first | (go_simp; done) | (go_simp; rfl) | (go_simp; simp only [wAl, wAr, wSl, wSr, wW])); intro gb154 hg w36 hbox hb; have n0_ := bsA HB hb; have n1_ := Aside0.mk (hbox); have n2_ := szA HB hg; have n3_ := szA HB hg; clear HB; have HB := n0_; have BK154 := n1_; have GW154 := n2_; have GE154 := n3_; clear n0_ n1_ n2_ n3_; clear hb hbox hg) | ((with_reducible refine gate_dst (N := 3) rfl ?_); refine box_event ?hg (N := 3) ?hd (cs := #[.int .i64 a1_0, .int .i64 a1_1, .int .i64 a1_2, .string a1_3, .slice A1_4 l1_4.length c1_4, .string a1_5, .int .i64 a1_6, .int .i64 a1_7]) (t := 37) ?hr ?_; (case hd => rfl); (case hg => rfl); (case hr => first | (go_simp; done) | (go_simp; rfl) | (go_simp; simp only [wAl, wAr, wSl, wSr, wW])); intro gb155 hg w37 hbox hb; have n0_ := bkA BK154 hb; have n1_ := bsA HB hb; have n2_ := Aside0.mk (hbox); have n3_ := szA HB hg; have n4_ := szA HB hg; have n5_ := neA BK154 hg; have n6_ := neB BK154 hg; clear BK154; clear HB; have BK154 := n0_; have HB := n1_; have BK155 := n2_; have GW155 := n3_; have GE155 := n4_; have NB154_155 := n5_; have NB155_154 := n6_; clear n0_ n1_ n2_ n3_ n4_ n5_ n6_; clear hb hbox hg; have hnb38 := NB154_155.out; have hnc38 := NB155_154.out; have hcz39_0 : w37.cell? ⟨gb154, 0, none⟩ = some (.int .i64 a0_0) := (blk_cell BK154.out 0).trans rfl; have hcz39_1 : w37.cell? ⟨gb154, 1, none⟩ = some (.int .i64 a0_1) := (blk_cell BK154.out 1).trans rfl; have hcz39_2 : w37.cell? ⟨gb154, 2, none⟩ = some (.int .i64 a0_2) := (blk_cell BK154.out 2).trans rfl; have hcz39_3 : w37.cell? ⟨gb154, 3, none⟩ = some (.string a0_3) := (blk_cell BK154.out 3).trans rfl; have hcz39_4 : w37.cell? ⟨gb154, 4, none⟩ = some (.slice A0_4 l0_4.length c0_4) := (blk_cell BK154.out 4).trans rfl; have hcz39_5 : w37.cell? ⟨gb154, 5, none⟩ = some (.string a0_5) := (blk_cell BK154.out 5).trans rfl; have hcz39_6 : w37.cell? ⟨gb154, 6, none⟩ = some (.int .i64 a0_6) := (blk_cell BK154.out 6).trans rfl; have hcz39_7 : w37.cell? ⟨gb154, 7, none⟩ = some (.int .i64 a0_7) := (blk_cell BK154.out 7).trans rfl; have hfz39_0 := blk_frozen BK154.out 0; have hfz39_1 := blk_frozen BK154.out 1; have hfz39_2 := blk_frozen BK154.out 2; have hfz39_3 := blk_frozen BK154.out 3; have hfz39_4 := blk_frozen BK154.out 4; have hfz39_5 := blk_frozen BK154.out 5; have hfz39_6 := blk_frozen BK154.out 6; have hfz39_7 := blk_frozen BK154.out 7; have hcz40_0 : w37.cell? ⟨gb155, 0, none⟩ = some (.int .i64 a1_0) := (blk_cell BK155.out 0).trans rfl; have hcz40_1 : w37.cell? ⟨gb155, 1, none⟩ = some (.int .i64 a1_1) := (blk_cell BK155.out 1).trans rfl; have hcz40_2 : w37.cell? ⟨gb155, 2, none⟩ = some (.int .i64 a1_2) := (blk_cell BK155.out 2).trans rfl; have hcz40_3 : w37.cell? ⟨gb155, 3, none⟩ = some (.string a1_3) := (blk_cell BK155.out 3).trans rfl; have hcz40_4 : w37.cell? ⟨gb155, 4, none⟩ = some (.slice A1_4 l1_4.length c1_4) := (blk_cell BK155.out 4).trans rfl; have hcz40_5 : w37.cell? ⟨gb155, 5, none⟩ = some (.string a1_5) := (blk_cell BK155.out 5).trans rfl; have hcz40_6 : w37.cell? ⟨gb155, 6, none⟩ = some (.int .i64 a1_6) := (blk_cell BK155.out 6).trans rfl; have hcz40_7 : w37.cell? ⟨gb155, 7, none⟩ = some (.int .i64 a1_7) := (blk_cell BK155.out 7).trans rfl; have hfz40_0 := blk_frozen BK155.out 0; have hfz40_1 := blk_frozen BK155.out 1; have hfz40_2 := blk_frozen BK155.out 2; have hfz40_3 := blk_frozen BK155.out 3; have hfz40_4 := blk_frozen BK155.out 4; have hfz40_5 := blk_frozen BK155.out 5; have hfz40_6 := blk_frozen BK155.out 6; have hfz40_7 := blk_frozen BK155.out 7))
    go_ret
    exact ⟨by first | rfl | (simp [errW_none, errW_some] <;> rfl) | (simp [*, errW_none, errW_some] <;> rfl), by repeat (first | (with_reducible first | exact HB.out | apply below_alloc | apply pw_below_drewN | apply below_drew1 | refine below_set ?_ GE154.out | refine below_set ?_ GE155.out) | exact HB.out)⟩
  ·rw [if_neg c4] at H
   have c4b0 : (a0_1 == a1_1) = false := beq_eq_false_iff_ne.mpr c4
   have c4b1 : (a0_1 != a1_1) = true := bne_iff_ne.mpr c4
   obtain rfl := Option.some.inj H
   go_enter Tryz.func48, Tryz.ntmps48
   go_wp2_with (first | ((with_reducible refine gate_dst (N := 2) rfl ?_); refine box_event ?hg (N := 2) ?hd (cs := #[.int .i64 a0_0, .int .i64 a0_1, .int .i64 a0_2, .string a0_3, .slice A0_4 l0_4.length c0_4, .string a0_5, .int .i64 a0_6, .int .i64 a0_7]) (t := 37) ?hr ?_; (case hd => rfl); (case hg => rfl); (case hr => first | (go_simp; done) | (go_simp; rfl) | (go_simp; simp only [wAl, wAr, wSl, wSr, wW])); intro gb154 hg w41 hbox hb; have n0_ := bsA HB hb; have n1_ := Aside0.mk (hbox); have n2_ := szA HB hg; have n3_ := szA HB hg; clear HB; have HB := n0_; have BK154 := n1_; have GW154 := n2_; have GE154 := n3_; clear n0_ n1_ n2_ n3_; clear hb hbox hg) | ((with_reducible refine gate_dst (N := 3) rfl ?_); refine box_event ?hg (N := 3) ?hd (cs := #[.int .i64 a1_0, .int .i64 a1_1, .int .i64 a1_2, .string a1_3, .slice A1_4 l1_4.length c1_4, .string a1_5, .int .i64 a1_6, .int .i64 a1_7]) (t := 37) ?hr ?_; (case hd => rfl); (case hg => rfl); (case hr => first | (go_simp; done) | (go_simp; rfl) | (go_simp; simp only [wAl, wAr, wSl, wSr, wW])); intro gb155 hg w42 hbox hb; have n0_ := bkA BK154 hb; have n1_ := bsA HB hb; have n2_ := Aside0.mk (hbox); have n3_ := szA HB hg; have n4_ := szA HB hg; have n5_ := neA BK154 hg; have n6_ := neB BK154 hg; clear BK154; clear HB; have BK154 := n0_; have HB := n1_; have BK155 := n2_; have GW155 := n3_; have GE155 := n4_; have NB154_155 := n5_; have NB155_154 := n6_; clear n0_ n1_ n2_ n3_ n4_ n5_ n6_; clear hb hbox hg; have hnb43 := NB154_155.out; have hnc43 := NB155_154.out; have hcz44_0 : w42.cell? ⟨gb154, 0, none⟩ = some (.int .i64 a0_0) := (blk_cell BK154.out 0).trans rfl; have hcz44_1 : w42.cell? ⟨gb154, 1, none⟩ = some (.int .i64 a0_1) := (blk_cell BK154.out 1).trans rfl; have hcz44_2 : w42.cell? ⟨gb154, 2, none⟩ = some (.int .i64 a0_2) := (blk_cell BK154.out 2).trans rfl; have hcz44_3 : w42.cell? ⟨gb154, 3, none⟩ = some (.string a0_3) := (blk_cell BK154.out 3).trans rfl; have hcz44_4 : w42.cell? ⟨gb154, 4, none⟩ = some (.slice A0_4 l0_4.length c0_4) := (blk_cell BK154.out 4).trans rfl; have hcz44_5 : w42.cell? ⟨gb154, 5, none⟩ = some (.string a0_5) := (blk_cell BK154.out 5).trans rfl; have hcz44_6 : w42.cell? ⟨gb154, 6, none⟩ = some (.int .i64 a0_6) := (blk_cell BK154.out 6).trans rfl; have hcz44_7 : w42.cell? ⟨gb154, 7, none⟩ = some (.int .i64 a0_7) := (blk_cell BK154.out 7).trans rfl; have hfz44_0 := blk_frozen BK154.out 0; have hfz44_1 := blk_frozen BK154.out 1; have hfz44_2 := blk_frozen BK154.out 2; have hfz44_3 := blk_frozen BK154.out 3; have hfz44_4 := blk_frozen BK154.out 4; have hfz44_5 := blk_frozen BK154.out 5; have hfz44_6 := blk_frozen BK154.out 6; have hfz44_7 := blk_frozen BK154.out 7; have hcz45_0 : w42.cell? ⟨gb155, 0, none⟩ = some (.int .i64 a1_0) := (blk_cell BK155.out 0).trans rfl; have hcz45_1 : w42.cell? ⟨gb155, 1, none⟩ = some (.int .i64 a1_1) := (blk_cell BK155.out 1).trans rfl; have hcz45_2 : w42.cell? ⟨gb155, 2, none⟩ = some (.int .i64 a1_2) := (blk_cell BK155.out 2).trans rfl; have hcz45_3 : w42.cell? ⟨gb155, 3, none⟩ = some (.string a1_3) := (blk_cell BK155.out 3).trans rfl; have hcz45_4 : w42.cell? ⟨gb155, 4, none⟩ = some (.slice A1_4 l1_4.length c1_4) := (blk_cell BK155.out 4).trans rfl; have hcz45_5 : w42.cell? ⟨gb155, 5, none⟩ = some (.string a1_5) := (blk_cell BK155.out 5).trans rfl; have hcz45_6 : w42.cell? ⟨gb155, 6, none⟩ = some (.int .i64 a1_6) := (blk_cell BK155.out 6).trans rfl; have hcz45_7 : w42.cell? ⟨gb155, 7, none⟩ = some (.int .i64 a1_7) := (blk_cell BK155.out 7).trans rfl; have hfz45_0 := blk_frozen BK155.out 0; have hfz45_1 := blk_frozen BK155.out 1; have hfz45_2 := blk_frozen BK155.out 2; have hfz45_3 := blk_frozen BK155.out 3; have hfz45_4 := blk_frozen BK155.out 4; have hfz45_5 := blk_frozen BK155.out 5; have hfz45_6 := blk_frozen BK155.out 6; have hfz45_7 := blk_frozen BK155.out 7))
   go_ret
   exact ⟨by first | rfl | (simp [errW_none, errW_some] <;> rfl) | (simp [*, errW_none, errW_some] <;> rfl), by repeat (first | (with_reducible first | exact HB.out | apply below_alloc | apply pw_below_drewN | apply below_drew1 | refine below_set ?_ GE154.out | refine below_set ?_ GE155.out) | exact HB.out)⟩
 ·rw [if_neg c3] at H
  have c3b0 : (a0_0 == a1_0) = false := beq_eq_false_iff_ne.mpr c3
  have c3b1 : (a0_0 != a1_0) = true := bne_iff_ne.mpr c3
  obtain rfl := Option.some.inj H
  go_enter Tryz.func48, Tryz.ntmps48
  go_wp2_with (first | ((with_reducible refine gate_dst (N := 2) rfl ?_); refine box_event ?hg (N := 2) ?hd (cs := #[.int .i64 a0_0, .int .i64 a0_1, .int .i64 a0_2, .string a0_3, .slice A0_4 l0_4.length c0_4, .string a0_5, .int .i64 a0_6, .int .i64 a0_7]) (t := 37) ?hr ?_; (case hd => rfl); (case hg => rfl); (case hr => first | (go_simp; done) | (go_simp; rfl) | (go_simp; simp only [wAl, wAr, wSl, wSr, wW])); intro gb154 hg w46 hbox hb; have n0_ := bsA HB hb; have n1_ := Aside0.mk (hbox); have n2_ := szA HB hg; have n3_ := szA HB hg; clear HB; have HB := n0_; have BK154 := n1_; have GW154 := n2_; have GE154 := n3_; clear n0_ n1_ n2_ n3_; clear hb hbox hg) | ((with_reducible refine gate_dst (N := 3) rfl ?_); refine box_event ?hg (N := 3) ?hd (cs := #[.int .i64 a1_0, .int .i64 a1_1, .int .i64 a1_2, .string a1_3, .slice A1_4 l1_4.length c1_4, .string a1_5, .int .i64 a1_6, .int .i64 a1_7]) (t := 37) ?hr ?_; (case hd => rfl); (case hg => rfl); (case hr => first | (go_simp; done) | (go_simp; rfl) | (go_simp; simp only [wAl, wAr, wSl, wSr, wW])); intro gb155 hg w47 hbox hb; have n0_ := bkA BK154 hb; have n1_ := bsA HB hb; have n2_ := Aside0.mk (hbox); have n3_ := szA HB hg; have n4_ := szA HB hg; have n5_ := neA BK154 hg; have n6_ := neB BK154 hg; clear BK154; clear HB; have BK154 := n0_; have HB := n1_; have BK155 := n2_; have GW155 := n3_; have GE155 := n4_; have NB154_155 := n5_; have NB155_154 := n6_; clear n0_ n1_ n2_ n3_ n4_ n5_ n6_; clear hb hbox hg; have hnb48 := NB154_155.out; have hnc48 := NB155_154.out; have hcz49_0 : w47.cell? ⟨gb154, 0, none⟩ = some (.int .i64 a0_0) := (blk_cell BK154.out 0).trans rfl; have hcz49_1 : w47.cell? ⟨gb154, 1, none⟩ = some (.int .i64 a0_1) := (blk_cell BK154.out 1).trans rfl; have hcz49_2 : w47.cell? ⟨gb154, 2, none⟩ = some (.int .i64 a0_2) := (blk_cell BK154.out 2).trans rfl; have hcz49_3 : w47.cell? ⟨gb154, 3, none⟩ = some (.string a0_3) := (blk_cell BK154.out 3).trans rfl; have hcz49_4 : w47.cell? ⟨gb154, 4, none⟩ = some (.slice A0_4 l0_4.length c0_4) := (blk_cell BK154.out 4).trans rfl; have hcz49_5 : w47.cell? ⟨gb154, 5, none⟩ = some (.string a0_5) := (blk_cell BK154.out 5).trans rfl; have hcz49_6 : w47.cell? ⟨gb154, 6, none⟩ = some (.int .i64 a0_6) := (blk_cell BK154.out 6).trans rfl; have hcz49_7 : w47.cell? ⟨gb154, 7, none⟩ = some (.int .i64 a0_7) := (blk_cell BK154.out 7).trans rfl; have hfz49_0 := blk_frozen BK154.out 0; have hfz49_1 := blk_frozen BK154.out 1; have hfz49_2 := blk_frozen BK154.out 2; have hfz49_3 := blk_frozen BK154.out 3; have hfz49_4 := blk_frozen BK154.out 4; have hfz49_5 := blk_frozen BK154.out 5; have hfz49_6 := blk_frozen BK154.out 6; have hfz49_7 := blk_frozen BK154.out 7; have hcz50_0 : w47.cell? ⟨gb155, 0, none⟩ = some (.int .i64 a1_0) := (blk_cell BK155.out 0).trans rfl; have hcz50_1 : w47.cell? ⟨gb155, 1, none⟩ = some (.int .i64 a1_1) := (blk_cell BK155.out 1).trans rfl; have hcz50_2 : w47.cell? ⟨gb155, 2, none⟩ = some (.int .i64 a1_2) := (blk_cell BK155.out 2).trans rfl; have hcz50_3 : w47.cell? ⟨gb155, 3, none⟩ = some (.string a1_3) := (blk_cell BK155.out 3).trans rfl; have hcz50_4 : w47.cell? ⟨gb155, 4, none⟩ = some (.slice A1_4 l1_4.length c1_4) := (blk_cell BK155.out 4).trans rfl; have hcz50_5 : w47.cell? ⟨gb155, 5, none⟩ = some (.string a1_5) := (blk_cell BK155.out 5).trans rfl; have hcz50_6 : w47.cell? ⟨gb155, 6, none⟩ = some (.int .i64 a1_6) := (blk_cell BK155.out 6).trans rfl; have hcz50_7 : w47.cell? ⟨gb155, 7, none⟩ = some (.int .i64 a1_7) := (blk_cell BK155.out 7).trans rfl; have hfz50_0 := blk_frozen BK155.out 0; have hfz50_1 := blk_frozen BK155.out 1; have hfz50_2 := blk_frozen BK155.out 2; have hfz50_3 := blk_frozen BK155.out 3; have hfz50_4 := blk_frozen BK155.out 4; have hfz50_5 := blk_frozen BK155.out 5; have hfz50_6 := blk_frozen BK155.out 6; have hfz50_7 := blk_frozen BK155.out 7))
  go_ret
  exact ⟨by first | rfl | (simp [errW_none, errW_some] <;> rfl) | (simp [*, errW_none, errW_some] <;> rfl), by repeat (first | (with_reducible first | exact HB.out | apply below_alloc | apply pw_below_drewN | apply below_drew1 | refine below_set ?_ GE154.out | refine below_set ?_ GE155.out) | exact HB.out)⟩
end Go.Proofs.YtehaodbheifokaaGreatDoor.P
end
section
namespace Go.Proofs.YtehaodbheifokaaGreatDoor.P
open Go Go.RowKit Go.Proofs.YtehaodbheifokaaGreatDoorW.PrintWords Go.Proofs.YtehaodbheifokaaGreatDoorW.PrintLast Go.Proofs.YtehaodbheifokaaGreatDoorW.PrintMore
section
def ConvTo (P : Program) (S T : TypeId) (s : ByteArray) (w : World) (post : Ending → World → Prop) : Prop := ∃ v w', (convert S T (.string s)).run P w = .ok v w' ∧ post (.returned v) w'
theorem ConvTo.mono {P : Program} {S T : TypeId} {s : ByteArray} {w : World} {p q : Ending → World → Prop} (h : ConvTo P S T s w p) (hpq : ∀ e w', p e w' → q e w') : ConvTo P S T s w q := by
 obtain ⟨v, w', h1, h2⟩ := h
 exact ⟨v, w', h1, hpq _ _ h2⟩
section
variable {P : Program} {ops : Array Oper} {oi : Oper} {a : Act} {w : World} {Q : Exit → Act → World → Prop} {K : Act → World → Prop} {S T : TypeId} {x : Operand} {N : Option Tmp}
theorem conv_run {s : ByteArray} {v : Value} {w' : World} (hop : oi.op = .convert S T x) (hx : a.eval x = .string s) (h : (convert S T (.string s)).run P w = .ok v w') : (execOp a.eval oi).run P w = .ok (.value v) w' := by
 unfold execOp
 simp [hop, hx, h, Result.andThen]
theorem conv_ (s : ByteArray) (hw : Region.wanted oi (yielded ops a.tmps) = true) (hN : oi.dst = N) (hop : oi.op = .convert S T x) (hx : a.eval x = .string s)
  (h : ConvTo P S T s w fun e w' => ∃ v, e = .returned v ∧ K (a.put N v) w') : if Region.wanted oi (yielded ops a.tmps) = true then Oper.wp P oi a w K Q else K (a.put N undef) w := by
 obtain ⟨v, w', h1, v', h2, h3⟩ := h
 cases h2
 subst hN
 exact event_step hw (conv_run hop hx h1) h3
end
def Kr (d : Kd Int) (e : Nat) (w : World) (base : Nat) (ok : Nat → Prop) (v : Value) (xs : List Int) : Prop := (∀ k, v.ownBlock = some k → base ≤ k) ∧ ∃ A c, v = .slice A xs.length c ∧ xs.length ≤ c ∧ Kd.C d w A xs.length xs
section
variable {d : Kd Int} {e base : Nat} {w w1 : World} {ok : Nat → Prop} {v : Value} {xs : List Int}
theorem Kr.below (h : Kr d e w base ok v xs) (hb : Below w.heap.size w w1) : Kr d e w1 base ok v xs := by
 obtain ⟨h1, A, c, h2, h3, h4⟩ := h
 exact ⟨h1, A, c, h2, h3, Kd.C_below h4 hb⟩
theorem Kr.alloc (h : Kr d e w base ok v xs) (o : Obj) : Kr d e (w.alloc o) base ok v xs := h.below (below_alloc (Below.refl _ _) o)
theorem Kr.drew (h : Kr d e w base ok v xs) : Kr d e w.drew base ok v xs := h.below (below_drew (Below.refl _ _))
theorem Kr.drewN (h : Kr d e w base ok v xs) (m : Nat) : Kr d e (w.drewN m) base ok v xs := h.below (pw_below_drewN (Below.refl _ _) m)
theorem Kr.slice (h : Kr d e w base ok v xs) : ∃ A c, v = .slice A xs.length c := by
 obtain ⟨_, A, c, h2, _⟩ := h
 exact ⟨A, c, h2⟩
end
end
def prefB (p s : ByteArray) : Bool := p.data.toList.isPrefixOf s.data.toList
def memB (l : List ByteArray) (s : ByteArray) : Bool := l.any (fun x => decide (s = x))
theorem idx_l0 (l : List ByteArray) (s : ByteArray) (hl : l.length ≤ 1099511627776) : ∀ (d i k : Nat), i + d = l.length → d < k → ∃ r : Int, slices_Index_string_string.l0 k l s (l.length : Int) (i : Int) = some r ∧ decide (r ≥ 0) = (l.drop i).any (fun x => decide (s = x))
 | 0, i, k, hi, hk => by
  obtain ⟨k, rfl⟩ : ∃ m, k = m + 1 := ⟨k - 1, by omega⟩
  refine ⟨-1, ?_, ?_⟩
  ·rw [slices_Index_string_string.l0, if_neg (by omega)]
  ·rw [List.drop_eq_nil_of_le (by omega)]; rfl
 | d + 1, i, k, hi, hk => by
  obtain ⟨k, rfl⟩ : ∃ m, k = m + 1 := ⟨k - 1, by omega⟩
  have h : i < l.length := by omega
  have e1 : rdOf ByteArray.empty l (i : Int) = l[i] := by simp [rdOf, List.getD, h]
  rw [slices_Index_string_string.l0, if_pos (by omega), if_pos (by omega), if_pos (by omega), e1, List.drop_eq_getElem_cons h, List.any_cons]
  by_cases h2 : s = l[i]
  ·refine ⟨(i : Int), by rw [if_pos (by rw [h2])], ?_⟩
   rw [decide_eq_true h2, decide_eq_true (show (i : Int) ≥ 0 by omega)]; rfl
  ·rw [if_neg (fun e => h2 (bytes_inj0.1 e)), decide_eq_false h2, Bool.false_or]
   have ew : wrap64 ((i : Int) + 1) = ((i + 1 : Nat) : Int) := by unfold wrap64; omega
   rw [ew]
   exact idx_l0 l s hl d (i + 1) k (by omega) (by omega)
theorem mem_f (l : List ByteArray) (s : ByteArray) (hl : l.length ≤ 1099511627776) : slices_Contains_string_string.f (l.length + 1) l s = some (memB l s) := by
 obtain ⟨r, h1, h2⟩ := idx_l0 l s hl l.length 0 (l.length + 1) (by omega) (by omega)
 unfold slices_Contains_string_string.f slices_Index_string_string.f
 have h1' : slices_Index_string_string.l0 (l.length + 1) l s (l.length : Int) 0 = some r := h1
 rw [h1', Option.bind_some]
 exact congrArg some h2
theorem C_own {w : World} {base : Nat} {A : Option Addr} {n c : Nat} {ts : List (List Int)} (h : w.ownsRow base 9 1 (.slice A n c) n (strV ts)) (hl : ts.length = n) (hn : n ≤ 1099511627776) : Kd.C Kd.string w A n (ts.map bT) := by
 rcases h.2 with ⟨h1, h2⟩ | ⟨g, cap, cur, hv, _, hk, hle, _, hsz, ht⟩
 ·obtain rfl : n = 0 := h2
  have : ts = [] := List.eq_nil_of_length_eq_zero hl
  rw [this]
  exact C_none _
 ·cases hv
  refine C_str (by rw [List.length_map]; exact hl) (by omega) fun j t hj => ?_
  rw [WideShapes.add_plain, blk_cell hk]
  rw [List.getElem?_map] at hj
  obtain ⟨tt, h3, rfl⟩ := Option.map_eq_some_iff.1 hj
  have hjn : j < n := by have := (List.getElem?_eq_some_iff.1 h3).1; omega
  have e1 : (cur.toList.take (n * 1))[j]? = some (.string (bT tt)) := by rw [ht]; unfold strV; rw [List.getElem?_map, h3]; rfl
  rw [List.getElem?_take_of_lt (by omega)] at e1
  rw [Nat.zero_add, ← Array.getElem?_toList, e1]
theorem hasPrefix_calls (s p : ByteArray) (w : World) :
  Calls Tryz.prog 89 #[.string s, .string p] w fun e w' => e = .returned (.bool (prefB p s)) ∧ Drawn0 w w' := by
 refine (Tryz.strings_HasPrefix s p w).mono ?_
 rintro e w' ⟨rfl, rfl⟩
 refine ⟨?_, Drawn0.refl _⟩
 rfl
theorem prefix_calls (g : Nat) (p s : ByteArray) (w : World) (hg : w.cell? ⟨g, 3, none⟩ = some (.string p)) :
  Calls Tryz.prog 88 #[.string s, .pointer (some ⟨g, 0, none⟩)] w fun e w' => e = .returned (.bool (prefB p s)) ∧ Drawn0 w w' := by
 have HT := Aside0.mk (hasPrefix_calls s p)
 go_enter Tryz.func88, Tryz.ntmps88
 go_wp2_with fail
 refine (HT.out _).mono ?_
 rintro e w1 ⟨rfl, hd⟩
 have HD := Aside0.mk hd
 clear hd
 go_wp2_with fail
 go_ret
 exact ⟨rfl, HD.out⟩
theorem bytesOf_in (s : ByteArray) : ∀ x ∈ bytesOf s, 0 ≤ x ∧ x < 256 := by
 intro x hx
 obtain ⟨b, _, rfl⟩ := List.mem_map.1 hx
 have := b.toNat_lt
 omega
theorem subMade (W : World) (s : ByteArray) (hs : s.size ≤ 9223372036854775807) : Kd.C (Kd.int .u8) (Lib.bytesWorld W 5 s) (some ⟨W.heap.size, 0, none⟩) s.size (bytesOf s) := by
 have h := bytes_reads W 5 s hs
 exact Kd.C_of_reads (h1 := fun _ => rfl) h
def subB (l ys : List Int) : Bool := Lib.contains (Lib.bytesOf l) (Lib.bytesOf ys)
theorem subIn_calls (A : Option Addr) (c g c2 : Nat) (l ys : List Int) (w : World) (hm : ∃ m, w.cell? ⟨0, 0, none⟩ = some (.int .i64 m)) (hC : (Kd.int .u8).C w A l.length l) (hc : l.length ≤ c) (hA : A = none → c = 0) (hb : ∀ x ∈ l, 0 ≤ x ∧ x < 256) (hn : l.length < 4294967281)
  (hC2 : (Kd.int .u8).C w (some ⟨g, 0, none⟩) ys.length ys) (hb2 : ∀ x ∈ ys, 0 ≤ x ∧ x < 256) :
  Calls Tryz.prog 91 #[.slice A l.length c, .slice (some ⟨g, 0, none⟩) ys.length c2] w fun e w' => e = .returned (.bool (subB l ys)) ∧ Drawn0 w w' := by
 obtain ⟨m, hm⟩ := hm
 have r2 := Kd.reads_of_C (enc := Value.int .u8) (d := (0 : Int)) (h1 := fun _ => rfl) hC2
 have k2 : ∀ i, i < ys.length → w.cell? ((⟨g, 0, none⟩ : Addr).add i) = some (.int .u8 (ys.getD i 0)) := fun i hi => by
  obtain ⟨ad, e, h⟩ := r2.2.2 (by omega)
  cases e
  exact h i hi
 cases A with
 | none =>
  obtain rfl := hA rfl
  obtain rfl : l = [] := List.eq_nil_of_length_eq_zero (by omega)
  refine (Tryz.bytes_Contains_nil (some ⟨g, 0, none⟩) ys.length c2 w r2.2.1 (fun h => ⟨g, 0, ys.getD 0 0, rfl, ?_⟩)).mono ?_
  ·have := k2 0 (by omega)
   rwa [WideShapes.add_plain] at this
  ·rintro e w' ⟨rfl, rfl⟩
   refine ⟨?_, Drawn0.refl _⟩
   refine congrArg (fun z => Ending.returned (Value.bool z)) ?_
   cases ys with
   | nil => rfl
   | cons y ys => rfl
 | some a =>
  have r1 := Kd.reads_of_C (enc := Value.int .u8) (d := (0 : Int)) (h1 := fun _ => rfl) hC
  refine (Tryz.bytes_Contains_at a ⟨g, 0, none⟩ l.length c ys.length c2 l ys m w rfl rfl hb hb2 (fun i hi => ?_) k2 hc hn r2.2.1 hm).mono ?_
  ·obtain ⟨ad, e, h⟩ := r1.2.2 (by omega)
   cases e
   exact h i hi
  ·rintro e w' ⟨rfl, q, rfl⟩
   exact ⟨rfl, ⟨⟨q, rfl⟩⟩⟩
abbrev nodeV (k a b : Int) (tx : ByteArray) (v4 : Value) (ky : ByteArray) (lo hi : Int) : Array Value := #[.int .i64 k, .int .i64 a, .int .i64 b, .string tx, v4, .string ky, .int .i64 lo, .int .i64 hi]
theorem indexP (A : Option Addr) (c : Nat) (tm : List ByteArray) (g : Nat) (p : ByteArray) (w : World) (hG : ∀ (m : Nat) s, Calls Tryz.prog 88 #[.string s, .pointer (some ⟨g, 0, none⟩)] (w.drewN m) fun e w' => e = .returned (.bool (prefB p s)) ∧ Drawn0 (w.drewN m) w') (hC : Kd.string.C w A tm.length tm) (hc : tm.length ≤ c) (hn : tm.length ≤ 1099511627776) :
  Calls Tryz.prog 104 #[.slice A tm.length c, .func (.func 88) #[] #[.pointer (some ⟨g, 0, none⟩)]] w fun e w' => ∃ i : Int, e = .returned (.int .i64 i) ∧ decide (0 ≤ i) = (tm.any (prefB p)) ∧ Drawn0 w w' := by
 have HC := Aside0.mk hC
 have HG := Aside0.mk hG
 clear hC hG
 go_enter Tryz.func104, Tryz.ntmps104
 go_wp2_with fail
 go_loopg [8] tm.length (fun kq v8 wr => ∃ i : Nat, v8 = .int .i64 (i : Int) ∧ Aside0 (kq + i = tm.length) ∧ Aside0 (∀ j, j < i → ∀ s, tm[j]? = some s → prefB p s = false) ∧ Drawn0 w wr)
 case atStart => exact ⟨0, rfl, ⟨rfl⟩, ⟨fun j h => by omega⟩, Drawn0.refl _⟩
 case round =>
  obtain ⟨i, rfl, HI, HA, HD⟩ := hrel
  obtain ⟨⟨m, rfl⟩⟩ := HD
  by_cases hi : i < tm.length
  ·have d0 : decide ((i : Int) < (tm.length : Int)) = true := decide_eq_true (by omega)
   have d1 : decide (i < tm.length) = true := decide_eq_true hi
   obtain ⟨ad, rfl, c0⟩ := Kd.at_string (Kd.C_drewN HC.out m) (i : Int) (by omega) (by omega)
   rw [Int.toNat_natCast] at c0
   have hs : tm[i]? = some (rdOf ByteArray.empty tm (i : Int)) := by simp [rdOf, List.getD, hi]
   have HS := Aside0.mk hs
   obtain ⟨b, hb⟩ : ∃ b, prefB p (rdOf ByteArray.empty tm (i : Int)) = b := ⟨_, rfl⟩
   have HB := Aside0.mk hb
   have hN := HG.out m (rdOf ByteArray.empty tm (i : Int))
   rw [hb] at hN
   have HN := Aside0.mk hN
   clear hN
   clear hb hs
   have HIL := Aside0.mk hi
   go_wp2_with fail
   refine HN.out.mono ?_
   rintro e w3 ⟨rfl, ⟨⟨n3, rfl⟩⟩⟩
   cases b
   ·go_wp2_with fail
    have ew : (i : Int) + 1 = ((i + 1 : Nat) : Int) := rfl
    try rw [show wrap64 ((i : Int) + 1) = ((i + 1 : Nat) : Int) by have := HIL.out; unfold wrap64; omega]
    try rw [ew]
    go_roundg (tm.length - i - 1)
    case measure => have := HI.out; have := HIL.out; omega
    case rel =>
     refine ⟨i + 1, rfl, ⟨by have := HI.out; have := HIL.out; omega⟩, ⟨fun j hj s hs => ?_⟩, ⟨⟨_, rfl⟩⟩⟩
     by_cases hji : j = i
     ·subst hji
      rw [HS.out] at hs
      cases hs
      exact HB.out
     ·exact HA.out j (by omega) s hs
   ·go_wp2_with fail
    go_ret
    refine ⟨_, rfl, ?_, ⟨⟨_, rfl⟩⟩⟩
    rw [decide_eq_true (by omega)]
    exact (List.any_eq_true.2 ⟨_, List.mem_of_getElem? HS.out, HB.out⟩).symm
  ·have d0 : decide ((i : Int) < (tm.length : Int)) = false := decide_eq_false (by omega)
   have d1 : decide (i < tm.length) = false := decide_eq_false hi
   go_wp2_with fail
   go_ret
   refine ⟨_, rfl, ?_, ⟨⟨_, rfl⟩⟩⟩
   have : tm.any (prefB p) = false := by
    cases e : tm.any (prefB p) with
    | false => rfl
    | true =>
     obtain ⟨s, hs, h2⟩ := List.any_eq_true.1 e
     obtain ⟨j, hj⟩ := List.getElem?_of_mem hs
     have hl := (List.getElem?_eq_some_iff.1 hj).1
     rw [HA.out j (by omega) s hj] at h2
     exact absurd h2 (by decide)
   rw [this]; rfl
theorem containsP (A : Option Addr) (c : Nat) (tm : List ByteArray) (g : Nat) (p : ByteArray) (w : World) (hG : ∀ (m : Nat) s, Calls Tryz.prog 88 #[.string s, .pointer (some ⟨g, 0, none⟩)] (w.drewN m) fun e w' => e = .returned (.bool (prefB p s)) ∧ Drawn0 (w.drewN m) w') (hC : Kd.string.C w A tm.length tm) (hc : tm.length ≤ c) (hn : tm.length ≤ 1099511627776) :
  Calls Tryz.prog 82 #[.slice A tm.length c, .func (.func 88) #[] #[.pointer (some ⟨g, 0, none⟩)]] w fun e w' => e = .returned (.bool (tm.any (prefB p))) ∧ Drawn0 w w' := by
 have hX := indexP A c tm g p w hG hC hc hn
 obtain ⟨b, hb⟩ : ∃ b, (tm.any (prefB p)) = b := ⟨_, rfl⟩
 rw [hb] at hX ⊢
 have HX := Aside0.mk hX
 clear hC hG hb hX
 go_enter Tryz.func82, Tryz.ntmps82
 go_wp2_with fail
 refine HX.out.mono ?_
 rintro e w3 ⟨i, rfl, hi, hd⟩
 have HD := Aside0.mk hd
 subst hi
 clear hd
 go_wp2_with fail
 all_goals go_ret
 all_goals exact ⟨by rfl, HD.out⟩
theorem up_made {W : World} {p : Addr} {v : Value} (h : W.cell? p = some v) (s : ByteArray) : (Lib.bytesWorld W 5 s).cell? p = some v := ((bytes_below (B := W.heap.size) (Below.refl _ _) (Nat.le_refl _) _ _).cell (World.block_lt_of_cell? _ _ h)).trans h
def match_leaf.T9 : Bool × List (List Nat × List Nat) := (true, [([], []), ([0], [0]), ([1], [1]), ([2], [2]), ([3], [3]), ([], []), ([5], [5]), ([6], [6]), ([4, 7], [4, 7]), ([8, 8, 0, 1, 2, 3, 4, 5, 6, 7, 8], [8])])
def match_leaf.B9 : List Nat := [0, 1, 3, 7, 15, 0, 32, 96, 255, 511]
theorem match_leaf.tab9 : rtab .any (opsOf Tryz.f64 9) = match_leaf.T9 := by kernel_rfl
theorem match_leaf.bits9 : waitsOk match_leaf.T9.2 match_leaf.B9 = true := by kernel_rfl
section
variable (base : Nat) (l : List Int) (A : Option Addr) (c R : Nat) (s t : Int) (a b : Int) (tx ky : ByteArray) (lo hi : Int) (A4 : Option Addr) (n4 c4 : Nat) (w : World) (hC : (Kd.int .u8).C w A l.length l) (hc : l.length ≤ c) (hb : ∀ x ∈ l, 0 ≤ x ∧ x < 256) (hn : l.length ≤ 1099511627776) (hbase : base ≤ w.heap.size) (hRb : R < base)
  (hR : RdS base l s t (.slice A l.length c) R w)
include hC hc hb hn hbase hRb hR
theorem leafG_term :
  Calls Tryz.prog 64 #[.pointer (some ⟨R, 0, none⟩), .agg (nodeV 2 a b tx (.slice A4 n4 c4) ky lo hi)] w fun e w' => e = .returned (.bool (memB ((cutS none l).map bT) tx)) ∧ RdS base l s t (.slice A l.length c) R w' ∧ Below R w w' ∧ Kept w w' (fun k => k = R) := by
 have hb0 : Below w.heap.size w (w.alloc (.cells (nodeV 2 a b tx (.slice A4 n4 c4) ky lo hi) 37)) := below_alloc (Below.refl _ _) _
 have HR := Aside0.mk (Nat.lt_of_lt_of_le hRb hbase)
 have HT := Aside0.mk (fun (W : World) (hW : Below w.heap.size w W) => tokensG base l A c R s t W (Kd.C_below hC hW) hc hb hn (Nat.le_trans hbase hW.size) hRb (hR.below hW))
 have HB0 := Aside0.mk hb0
 have HN := Aside0.mk (blk_new w (.cells (nodeV 2 a b tx (.slice A4 n4 c4) ky lo hi) 37))
 have HLN := Aside0.mk (cutS_len l).1
 clear hC hb hR hb0
 unfold RdS
 go_enter Tryz.func64, Tryz.ntmps64
 go_wp2_with fail
 go_region_with (first | (go_at_call 87; refine (HT.out _ bel5).mono ?_; rintro e w1 ⟨v, rfl, h1, h2, h3, h4⟩; obtain ⟨AT, cT, rfl, hcT⟩ := own_sl h1; have hn1 := blk_kept (blk_below HN.out bel5) h4 (by have := HR.out; omega); have k3 : w1.cell? ⟨w.heap.size, 3, none⟩ = some (.string tx) := (blk_cell hn1 3).trans rfl; have hm := slices_Contains_string_string.calls _ AT cT ((cutS none l).map bT) tx _ w1 (by rw [List.length_map]; exact C_own h1 rfl (by have := HLN.out; omega)) (by rw [List.length_map]; exact hcT) (mem_f _ tx (by rw [List.length_map]; have := HLN.out; omega)); rw [List.length_map] at hm; have HM := Aside0.mk hm; have H1 := Aside0.mk h1; have H2 := Aside0.mk h2; have H3 := Aside0.mk (((show Below w.heap.size w _ from bel5).mono (Nat.le_of_lt HR.out)).trans h3); have H4 := Aside0.mk ((Kept.of_below (show Below w.heap.size w _ from bel5) (fun k => k = R)).then_ h4 (fun k hk => .inl hk)); clear h1 h2 h3 h4 hn1 hm) | (go_at_call 86; refine HM.out.mono ?_; rintro e w2 ⟨rfl, hd⟩; have HB := Aside0.mk hd.below; clear hd))
 all_goals (try go_wp2_with fail)
 all_goals go_ret
 all_goals exact ⟨rfl, ⟨true, _, blk_below H2.out HB.out, .inr ⟨rfl, pw_own_below H1.out HB.out⟩⟩, H3.out.trans (HB.out.mono (by have h5 := H4.out.1; have := HR.out; omega)), H4.out.below HB.out⟩
theorem leafG_prefix :
  Calls Tryz.prog 64 #[.pointer (some ⟨R, 0, none⟩), .agg (nodeV 3 a b tx (.slice A4 n4 c4) ky lo hi)] w fun e w' => e = .returned (.bool (((cutS none l).map bT).any (prefB tx))) ∧ RdS base l s t (.slice A l.length c) R w' ∧ Below R w w' ∧ Kept w w' (fun k => k = R) := by
 have hb0 : Below w.heap.size w (w.alloc (.cells (nodeV 3 a b tx (.slice A4 n4 c4) ky lo hi) 37)) := below_alloc (Below.refl _ _) _
 have HR := Aside0.mk (Nat.lt_of_lt_of_le hRb hbase)
 have HT := Aside0.mk (fun (W : World) (hW : Below w.heap.size w W) => tokensG base l A c R s t W (Kd.C_below hC hW) hc hb hn (Nat.le_trans hbase hW.size) hRb (hR.below hW))
 have HB0 := Aside0.mk hb0
 have HN := Aside0.mk (blk_new w (.cells (nodeV 3 a b tx (.slice A4 n4 c4) ky lo hi) 37))
 have HLN := Aside0.mk (cutS_len l).1
 clear hC hb hR hb0
 unfold RdS
 go_enter Tryz.func64, Tryz.ntmps64
 go_wp2_with fail
 refine (HT.out _ (by repeat (first | exact Below.refl _ _ | apply below_alloc))).mono ?_
 rintro e w1 ⟨v, rfl, h1, h2, h3, h4⟩
 obtain ⟨AT, cT, rfl, hcT⟩ := own_sl h1
 have hn1 := blk_kept HN.out h4 (by have := HR.out; omega)
 have hm := containsP AT cT ((cutS none l).map bT) w.heap.size tx w1 (fun m s => prefix_calls w.heap.size tx s _ ((blk_cell hn1 3).trans rfl)) (by rw [List.length_map]; exact C_own h1 rfl (by have := HLN.out; omega)) (by rw [List.length_map]; exact hcT) (by rw [List.length_map]; have := HLN.out; omega)
 rw [List.length_map] at hm
 have HM := Aside0.mk hm
 have H1 := Aside0.mk h1
 have H2 := Aside0.mk h2
 have H3 := Aside0.mk ((HB0.out.mono (Nat.le_of_lt HR.out)).trans h3)
 have H4 := Aside0.mk ((Kept.of_below HB0.out (fun k => k = R)).then_ h4 (fun k hk => .inl hk))
 clear h1 h2 h3 h4 hn1 hm
 go_wp2_with fail
 refine HM.out.mono ?_
 rintro e w2 ⟨rfl, hd⟩
 have HB := Aside0.mk hd.below
 clear hd
 go_wp2_with fail
 go_ret
 exact ⟨by rw [List.any_map]; rfl, ⟨true, _, blk_below H2.out HB.out, .inr ⟨rfl, pw_own_below H1.out HB.out⟩⟩, H3.out.trans (HB.out.mono (by have h5 := H4.out.1; have := HR.out; omega)), H4.out.below HB.out⟩
theorem leafG_sub (hX : FieldIn w) (hA : A = none → c = 0) (hn2 : l.length < 4294967281) (hts : tx.size ≤ 9223372036854775807) :
  Calls Tryz.prog 64 #[.pointer (some ⟨R, 0, none⟩), .agg (nodeV 5 a b tx (.slice A4 n4 c4) ky lo hi)] w fun e w' => e = .returned (.bool (subB l (bytesOf tx))) ∧ Below w.heap.size w w' := by
 obtain ⟨bc, vt, hR1, hR2⟩ := hR
 have hcv := fun W : World => print_bytes (P := Tryz.prog) 9 25 5 Tryz.underlying9 Tryz.underlying25 Tryz.underlying5 tx W
 have hB0 := blk_alloc hR1 (.cells (nodeV 5 a b tx (.slice A4 n4 c4) ky lo hi) 37)
 have r2 : (w.alloc (.cells (nodeV 5 a b tx (.slice A4 n4 c4) ky lo hi) 37)).cell? ⟨R, 2, none⟩ = some (.slice A l.length c) := (blk_cell hB0 2).trans rfl
 have r3 : (w.alloc (.cells (nodeV 5 a b tx (.slice A4 n4 c4) ky lo hi) 37)).cell? ⟨w.heap.size, 3, none⟩ = some (.string tx) := (blk_cell (blk_new w _) 3).trans rfl
 have HC := Aside0.mk (fun (W : World) (hW : Below w.heap.size w W) => fun g c2 hC2 => subIn_calls A c g c2 l (bytesOf tx) W (hX.below hW).max (Kd.C_below hC hW) hc hA hb hn2 hC2 (bytesOf_in tx))
 rw [bytesOf_length] at HC
 have HT := Aside0.mk hts
 clear hC hb hR1 hR2 hB0 hX hts
 go_enter Tryz.func64, Tryz.ntmps64
 go_wp2_with fail
 refine start_ (n := 10) (S := fun w' => w'.cell? ⟨R, 2, none⟩ = some (.slice A l.length c) ∧ w'.cell? ⟨w.heap.size, 3, none⟩ = some (.string tx)) (ds := []) #[false, false, false, false, false, false, false, false, false, false] (by kernel_rfl) rfl rfl ⟨r2, r3⟩ (fun hHeld => ?_)
 refine with_tabW match_leaf.tab9 match_leaf.bits9 (fun HT_ HW_ => ?_)
 refine pS 0 (some 30) HT_ ?_
 refine pS 1 (some 31) HT_ ?_
 refine pS 2 (some 32) HT_ ?_
 refine pS 3 (some 33) HT_ ?_
 refine tS 4 (some 34) HT_ HW_ hHeld ?_
 refine pS 5 (some 35) HT_ ?_
 refine tS 6 (some 36) HT_ HW_ hHeld ?_
 refine one_ (i := 7) (N := some 37) #[true, true, true, true, true, true, true, true, false, false] rfl rfl (one_of HT_.out (by kernel_rfl)) (by decide) (fun K hK => ?_)
 refine conv_ tx (by rfl) rfl rfl (by rfl) ?_
 refine ⟨_, _, hcv _, _, rfl, ?_⟩
 refine hK.out _ _ ⟨up_made hHeld.1 tx, up_made hHeld.2 tx⟩ (fun hHeld => ?_)
 clear hK K
 refine norm_ (a' := ?_) ?_ ?_
 rotate_left
 ·show Act.put _ (some 37) _ = _
  simp only [Act.put, List.setIfInBounds_toArray, List.set_cons_zero, List.set_cons_succ, i64_w, i32_w]
  rfl
 refine one_ (i := 8) (N := some 38) #[true, true, true, true, true, true, true, true, true, false] rfl rfl (one_of HT_.out (by kernel_rfl)) (by decide) (fun K hK => ?_)
 refine goes_ Tryz.func91 (by kernel_rfl) rfl #[.slice A l.length c, .slice (some ⟨(w.alloc (.cells (nodeV 5 a b tx (.slice A4 n4 c4) ky lo hi) 37)).drew.heap.size, 0, none⟩) tx.size (grownCap (w.alloc (.cells (nodeV 5 a b tx (.slice A4 n4 c4) ky lo hi) 37)).drew tx.size 0 5)] (by rfl) rfl rfl (by (try simp only [List.map_toArray, List.map_cons, List.map_nil]); first | done | rfl) ?_
 refine (HC.out _ (bytes_below (below_drew (below_alloc (Below.refl _ _) _)) (by simp) _ _) _ _ (subMade _ tx HT.out)).mono ?_
 rintro e w' ⟨rfl, ⟨⟨nd, rfl⟩⟩⟩
 refine ⟨_, rfl, ?_⟩
 refine hK.out _ _ hHeld (fun hHeld => ?_)
 clear hK K
 refine norm_ (a' := ?_) ?_ ?_
 rotate_left
 ·show Act.put _ (some 38) _ = _
  simp only [Act.put, List.setIfInBounds_toArray, List.set_cons_zero, List.set_cons_succ, i64_w, i32_w]
  rfl
 refine pS 9 (some 4) HT_ ?_
 refine done_ (done_of HT_.out (by kernel_rfl)) ?_
 clear hHeld HT_ HW_
 go_wp2_with fail
 go_ret
 exact ⟨rfl, pw_below_drewN (bytes_below (below_drew (below_alloc (Below.refl _ _) _)) (by simp) _ _) nd⟩
theorem leafG_all :
  Calls Tryz.prog 64 #[.pointer (some ⟨R, 0, none⟩), .agg (nodeV 1 a b tx (.slice A4 n4 c4) ky lo hi)] w fun e w' => e = .returned (.bool true) ∧ Below w.heap.size w w' := by
 clear hC hb hR
 go_enter Tryz.func64, Tryz.ntmps64
 go_wp2_with fail
 go_ret
 exact ⟨rfl, below_alloc (Below.refl _ _) _⟩
end
structure LineN (w : World) (l : List Int) (vl : Value) : Prop where
 mk :: (out : ∃ A c, vl = .slice A l.length c ∧ l.length ≤ c ∧ (Kd.int .u8).C w A l.length l ∧ (∀ x ∈ l, 0 ≤ x ∧ x < 256) ∧ l.length ≤ 1099511627776 ∧ (A = none → c = 0))
theorem LineN.is {w : World} {l : List Int} {vl : Value} (h : LineN w l vl) : LineIs w l vl := by
 obtain ⟨A, c, h1, h2, h3, h4, h5, _⟩ := h.out
 exact ⟨⟨A, c, h1, h2, h3, h4, h5⟩⟩
theorem LineN.below {w W : World} {l : List Int} {vl : Value} (h : LineN w l vl) (hb : Below w.heap.size w W) : LineN W l vl := by
 obtain ⟨A, c, h1, h2, h3, h4, h5, h6⟩ := h.out
 exact ⟨⟨A, c, h1, h2, Kd.C_below h3 hb, h4, h5, h6⟩⟩
theorem LineIs.below {w W : World} {l : List Int} {vl : Value} (h : LineIs w l vl) (hb : Below w.heap.size w W) : LineIs W l vl := by
 obtain ⟨A, c, h1, h2, h3, h4, h5⟩ := h.out
 exact ⟨⟨A, c, h1, h2, Kd.C_below h3 hb, h4, h5⟩⟩
theorem LineIs.slice {w : World} {l : List Int} {vl : Value} (h : LineIs w l vl) : ∃ a n m, vl = .slice a n m := by
 obtain ⟨A, c, h1, _⟩ := h.out
 exact ⟨_, _, _, h1⟩
theorem LineN.slice {w : World} {l : List Int} {vl : Value} (h : LineN w l vl) : ∃ a n m, vl = .slice a n m := by
 obtain ⟨A, c, h1, _⟩ := h.out
 exact ⟨_, _, _, h1⟩
theorem leafOK_all (w : World) (l : List Int) (s t : Int) (vl : Value) (n : ND) (hl : LineIs w l vl) (h1 : n.f0 = 1) : LeafOK w l s t vl n true := by
 obtain ⟨A, c, rfl, hc, hC, hb, hln⟩ := hl.out
 intro W A4 c4 hB hs hR hC4 hc4
 rw [h1]
 refine (leafG_all (w.heap.size + 3) l A c (w.heap.size + 1) s t _ _ _ _ _ _ _ _ _ W (Kd.C_below hC hB) hc hb hln hs (by omega) hR).mono ?_
 rintro e w' ⟨rfl, hb⟩
 exact ⟨rfl, hR.below hb, hb.mono (by omega), Kept.of_below hb _⟩
theorem leafOK_term (w : World) (l : List Int) (s t : Int) (vl : Value) (n : ND) (hl : LineIs w l vl) (h1 : n.f0 = 2) : LeafOK w l s t vl n (memB ((cutS none l).map bT) n.f3) := by
 obtain ⟨A, c, rfl, hc, hC, hb, hln⟩ := hl.out
 intro W A4 c4 hB hs hR hC4 hc4
 rw [h1]
 exact leafG_term (w.heap.size + 3) l A c (w.heap.size + 1) s t _ _ _ _ _ _ _ _ _ W (Kd.C_below hC hB) hc hb hln hs (by omega) hR
theorem leafOK_prefix (w : World) (l : List Int) (s t : Int) (vl : Value) (n : ND) (hl : LineIs w l vl) (h1 : n.f0 = 3) : LeafOK w l s t vl n (((cutS none l).map bT).any (prefB n.f3)) := by
 obtain ⟨A, c, rfl, hc, hC, hb, hln⟩ := hl.out
 intro W A4 c4 hB hs hR hC4 hc4
 rw [h1]
 exact leafG_prefix (w.heap.size + 3) l A c (w.heap.size + 1) s t _ _ _ _ _ _ _ _ _ W (Kd.C_below hC hB) hc hb hln hs (by omega) hR
theorem leafOK_sub (w : World) (l : List Int) (s t : Int) (vl : Value) (n : ND) (hl : LineN w l vl) (hX : FieldIn w) (hn : l.length < 4294967281) (ht : n.f3.size ≤ 9223372036854775807) (h1 : n.f0 = 5) : LeafOK w l s t vl n (subB l (bytesOf n.f3)) := by
 obtain ⟨A, c, rfl, hc, hC, hb, hln, hA⟩ := hl.out
 intro W A4 c4 hB hs hR hC4 hc4
 rw [h1]
 refine (leafG_sub (w.heap.size + 3) l A c (w.heap.size + 1) s t _ _ _ _ _ _ _ _ _ W (Kd.C_below hC hB) hc hb hln hs (by omega) hR (hX.below hB) hA hn ht).mono ?_
 rintro e w' ⟨rfl, hb⟩
 exact ⟨rfl, hR.below hb, hb.mono (by omega), Kept.of_below hb _⟩
def MarkedB (g : Nat) (xs : List Int) (W : World) : Prop := ∃ cs, W.heap[g]? = some (.cells cs 5 (cs.size, cs.size + 1)) ∧ xs.length ≤ cs.size ∧ ∀ (j : Nat) x, xs[j]? = some x → cs[j]? = some (.int .u8 x)
theorem MarkedB.cell {g : Nat} {xs : List Int} {W : World} (h : MarkedB g xs W) {j : Nat} {x : Int} (hx : xs[j]? = some x) : W.cell? ⟨g, j, none⟩ = some (.int .u8 x) := by
 obtain ⟨cs, h1, h2, h3⟩ := h
 rw [cell_of_row W g j cs _ _ h1]
 exact h3 j x hx
theorem MarkedB.frozen {g : Nat} {xs : List Int} {W : World} (h : MarkedB g xs W) {j : Nat} (hj : j < xs.length) : W.frozen? ⟨g, j, none⟩ = false := by
 obtain ⟨cs, h1, h2, h3⟩ := h
 simp [World.frozen?, h1]
 omega
theorem MarkedB.put {g : Nat} {xs : List Int} {W : World} (h : MarkedB g xs W) (j : Nat) (x : Int) : MarkedB g (xs.set j x) (W.setCell ⟨g, j, none⟩ (.int .u8 x)) := by
 obtain ⟨cs, h1, h2, h3⟩ := h
 have hg : g < W.heap.size := (Array.getElem?_eq_some_iff.1 h1).1
 have e : (W.setCell ⟨g, j, none⟩ (.int .u8 x)).heap[g]? = some (.cells (cs.setIfInBounds j (.int .u8 x)) 5 (cs.size, cs.size + 1)) := by
  unfold World.setCell
  simp [Array.getElem?_modify, h1]
 refine ⟨_, by rw [e, Array.size_setIfInBounds], by rw [List.length_set, Array.size_setIfInBounds]; exact h2, fun i y hy => ?_⟩
 rw [List.getElem?_set] at hy
 by_cases hij : j = i
 ·subst hij
  rw [if_pos rfl] at hy
  by_cases hl : j < xs.length
  ·rw [if_pos hl] at hy
   cases hy
   rw [Array.getElem?_setIfInBounds_self_of_lt (by omega)]
  ·rw [if_neg hl] at hy; cases hy
 ·rw [if_neg hij] at hy
  rw [Array.getElem?_setIfInBounds_ne hij]
  exact h3 i y hy
theorem MarkedB.made (W : World) (s : ByteArray) : MarkedB W.heap.size (bytesOf s) (Lib.bytesWorld W 5 s) := by
 refine ⟨_, Lib.bytesWorld_at_new W 5 s, ?_, fun j x hx => ?_⟩
 ·rw [bytesOf_length]
  simp [Lib.bytesCells]
 ·have hj := (List.getElem?_eq_some_iff.1 hx).1
  have h := Lib.bytesWorld_cell W 5 s j (by rw [bytesOf_length] at hj; exact hj)
  rw [cell_of_row _ _ j _ _ _ (Lib.bytesWorld_at_new W 5 s)] at h
  rw [h]
  have h2 : s.data.toList.length = s.size := by rw [Array.length_toList]; rfl
  rw [bytesOf_length] at hj
  simp [bytesOf, List.getElem?_map] at hx
  obtain ⟨b, hb, rfl⟩ := hx
  simp [List.getD, hb]
theorem MarkedB.C {g : Nat} {xs : List Int} {W : World} (h : MarkedB g xs W) (hn : xs.length ≤ 1099511627776) : Kd.C (Kd.int .u8) W (some ⟨g, 0, none⟩) xs.length xs := by
 refine ⟨rfl, by omega, fun _ => ⟨⟨g, 0, none⟩, rfl, fun j p hj => ⟨[.int .u8 p], rfl, rfl, fun i u hi => ?_⟩⟩⟩
 obtain ⟨rfl, rfl⟩ : i = 0 ∧ u = .int .u8 p := by
  cases i with
  | zero => simp at hi; exact ⟨rfl, hi.symm⟩
  | succ i => simp at hi
 show W.cell? _ = _
 rw [WideShapes.add_plain, show 0 + (j * (Kd.int .u8).sz + 0) = j by show 0 + (j * 1 + 0) = j; omega]
 exact h.cell hj
def lowTo (xs : List Int) (i : Nat) : List Int := (xs.take i).map lowB ++ xs.drop i
theorem lowTo_next {xs : List Int} {i : Nat} {x : Int} (h : xs[i]? = some x) : (lowTo xs i).set i (lowB x) = lowTo xs (i + 1) := by
 obtain ⟨hl, rfl⟩ := List.getElem?_eq_some_iff.1 h
 unfold lowTo
 rw [List.set_append_right _ _ (by simp; exact Nat.min_le_left _ _), List.take_succ_eq_append_getElem hl, List.map_append, List.drop_eq_getElem_cons hl]
 rw [List.length_map, List.length_take, Nat.min_eq_left (by omega), Nat.sub_self, List.set_cons_zero]
 simp
theorem lowTo_at {xs : List Int} {i : Nat} {x : Int} (h : xs[i]? = some x) : (lowTo xs i)[i]? = some x := by
 obtain ⟨hl, _⟩ := List.getElem?_eq_some_iff.1 h
 unfold lowTo
 rw [List.getElem?_append_right (by simp; exact Nat.min_le_left _ _), List.length_map, List.length_take, Nat.min_eq_left (by omega), Nat.sub_self, List.getElem?_drop]
 exact h
theorem setSelf {xs : List Int} {i : Nat} {x : Int} (h : xs[i]? = some x) : xs.set i x = xs := by
 obtain ⟨hl, rfl⟩ := List.getElem?_eq_some_iff.1 h
 exact List.set_getElem_self hl
theorem lowTo_len (xs : List Int) (i : Nat) : (lowTo xs i).length = xs.length := by unfold lowTo; simp; omega
theorem lower_calls (s : ByteArray) (w : World) (hs : s.size ≤ 1099511627776) :
  Calls Tryz.prog 20 #[.string s] w fun e w' => e = .returned (.string (strOfNums ((bytesOf s).map lowB))) ∧ Below w.heap.size w w' := by
 have hcv := fun W : World => print_bytes (P := Tryz.prog) 9 25 5 Tryz.underlying9 Tryz.underlying25 Tryz.underlying5 s W
 obtain ⟨xs, hxs⟩ : ∃ xs, bytesOf s = xs := ⟨_, rfl⟩
 have HL := Aside0.mk (show xs.length = s.size by rw [← hxs, bytesOf_length])
 have HM := Aside0.mk (show MarkedB w.heap.size xs (Lib.bytesWorld w 5 s) by rw [← hxs]; exact MarkedB.made w s)
 have HIN := Aside0.mk (show ∀ x ∈ xs, 0 ≤ x ∧ x < 256 by rw [← hxs]; exact bytesOf_in s)
 rw [hxs]
 clear hxs
 go_enter Tryz.func20, Tryz.ntmps20
 go_wp2_with fail
 go_loopg [4] s.size (fun kq v4 wr => ∃ i : Nat, v4 = .int .i64 (i : Int) ∧ Aside0 (kq + i = s.size) ∧ Aside0 (Below w.heap.size w wr) ∧ Aside0 (MarkedB w.heap.size (lowTo xs i) wr))
 case atStart => exact ⟨0, rfl, ⟨rfl⟩, ⟨bytes_below (Below.refl _ _) (Nat.le_refl _) _ _⟩, ⟨HM.out⟩⟩
 case round =>
  clear hcv
  obtain ⟨i, rfl, HI, HB, HK⟩ := hrel
  by_cases hi : i < s.size
  ·have d0 : decide ((i : Int) < (s.size : Int)) = true := decide_eq_true (by omega)
   have d1 : decide (i < s.size) = true := decide_eq_true hi
   obtain ⟨x, hx⟩ : ∃ x, xs[i]? = some x := ⟨_, List.getElem?_eq_getElem (by have := HL.out; omega)⟩
   have c0 := HK.out.cell (lowTo_at hx)
   have z0 := HK.out.frozen (j := i) (by rw [lowTo_len]; have := HL.out; omega)
   have hxr := HIN.out x (List.mem_of_getElem? hx)
   have HX := Aside0.mk hx
   have HI2 := Aside0.mk hi
   clear hx
   by_cases h1 : 65 ≤ x
   ·have e1 : decide (65 ≤ x) = true := decide_eq_true h1
    by_cases h2 : x ≤ 90
    ·have e2 : decide (x ≤ 90) = true := decide_eq_true h2
     have HLB := Aside0.mk (show lowB x = x + 32 by unfold lowB; rw [if_pos ⟨h1, h2⟩])
     have HMOD := Aside0.mk (show (x + 32) % 256 = x + 32 by omega)
     clear h1 h2 hxr
     go_wp2_with fail
     try rw [show wrap64 ((i : Int) + 1) = ((i + 1 : Nat) : Int) by have := HI2.out; unfold wrap64; omega]
     go_roundg (s.size - i - 1)
     case measure => have := HI.out; have := HI2.out; omega
     case rel =>
      refine ⟨i + 1, rfl, ⟨by have := HI.out; have := HI2.out; omega⟩, ⟨HB.out.setCell (p := ⟨w.heap.size, i, none⟩) (Nat.le_refl _) _⟩, ⟨?_⟩⟩
      rw [← lowTo_next HX.out, HLB.out]
      have h := HK.out.put i (x + 32)
      try rw [HMOD.out]
      exact h
    ·have e2 : decide (x ≤ 90) = false := decide_eq_false h2
     have HLB := Aside0.mk (show lowB x = x by unfold lowB; rw [if_neg (fun h => h2 h.2)])
     clear h1 h2 hxr
     go_wp2_with fail
     try rw [show wrap64 ((i : Int) + 1) = ((i + 1 : Nat) : Int) by have := HI2.out; unfold wrap64; omega]
     go_roundg (s.size - i - 1)
     case measure => have := HI.out; have := HI2.out; omega
     case rel => exact ⟨i + 1, rfl, ⟨by have := HI.out; have := HI2.out; omega⟩, HB, ⟨by rw [← lowTo_next HX.out, HLB.out, setSelf (lowTo_at HX.out)]; exact HK.out⟩⟩
   ·have e1 : decide (65 ≤ x) = false := decide_eq_false h1
    have HLB := Aside0.mk (show lowB x = x by unfold lowB; rw [if_neg (fun h => h1 h.1)])
    clear h1 hxr
    go_wp2_with fail
    try rw [show wrap64 ((i : Int) + 1) = ((i + 1 : Nat) : Int) by have := HI2.out; unfold wrap64; omega]
    go_roundg (s.size - i - 1)
    case measure => have := HI.out; have := HI2.out; omega
    case rel => exact ⟨i + 1, rfl, ⟨by have := HI.out; have := HI2.out; omega⟩, HB, ⟨by rw [← lowTo_next HX.out, HLB.out, setSelf (lowTo_at HX.out)]; exact HK.out⟩⟩
  ·have hie : i = s.size := by have := HI.out; omega
   have d0 : decide ((i : Int) < (s.size : Int)) = false := decide_eq_false (by omega)
   have d1 : decide (i < s.size) = false := decide_eq_false hi
   have hlow : lowTo xs i = xs.map lowB := by unfold lowTo; rw [hie, ← HL.out, List.take_length, List.drop_length, List.append_nil]
   have hC := HK.out.C (by rw [lowTo_len]; have := HL.out; omega)
   rw [hlow, List.length_map, HL.out] at hC
   have hst := Kd.C_string (P := Tryz.prog) (c := grownCap w s.size 0 5) Tryz.underlying25 Tryz.underlying5 Tryz.underlying9 hC
   clear hlow hC hie
   go_wp2_with fail
   go_ret
   exact ⟨rfl, HB.out⟩
theorem refIn_calls (c : Int) (w : World) :
  Calls Tryz.prog 44 #[.int .u8 c] w fun e w' => e = .returned (.bool (inB c)) ∧ Drawn0 w w' := by
 obtain ⟨r, hr⟩ : ∃ r, inB c = r := ⟨_, rfl⟩
 rw [hr]
 have HR := Aside0.mk hr
 clear hr
 go_enter Tryz.func44, Tryz.ntmps44
 go_wp2
 all_goals go_ret
 all_goals (refine ⟨?_, Drawn0.refl _⟩)
 all_goals first | refine congrArg (fun z => Ending.returned (Value.bool z)) (show true = r from ?_) | refine congrArg (fun z => Ending.returned (Value.bool z)) (show false = r from ?_) | refine congrArg (fun z => Ending.returned (Value.bool z)) (show decide _ = r from ?_) | refine congrArg (fun z => Ending.returned (Value.bool z)) (show (_ || _) = r from ?_)
 all_goals (rw [← HR.out]; clear HR; go_light; unfold inB)
 all_goals grind
theorem strOf_inj {xs ys : List Int} (hx : ∀ x ∈ xs, 0 ≤ x ∧ x < 256) (hy : ∀ x ∈ ys, 0 ≤ x ∧ x < 256) (h : Lib.bytesOf xs = Lib.bytesOf ys) : xs = ys := by
 induction xs generalizing ys with
 | nil => cases ys with
  | nil => rfl
  | cons y ys => simp [Lib.bytesOf] at h
 | cons x xs ih =>
  cases ys with
  | nil => simp [Lib.bytesOf] at h
  | cons y ys =>
   simp only [Lib.bytesOf, List.map_cons, List.cons.injEq] at h
   have h1 := hx x (by simp); have h2 := hy y (by simp)
   have e : x = y := by
    have h3 := congrArg UInt8.toNat h.1
    simp at h3
    omega
   rw [e, ih (fun z hz => hx z (by simp [hz])) (fun z hz => hy z (by simp [hz])) h.2]
theorem bytesOf_back (s : ByteArray) : Lib.bytesOf (bytesOf s) = s.toList := by
 rw [bytes_eq0]
 unfold Lib.bytesOf bytesOf
 rw [List.map_map]
 conv => rhs; rw [← List.map_id s.data.toList]
 apply List.map_congr_left
 intro b _
 simp
theorem tok_iff (s : ByteArray) (h : 1 ≤ s.size ∧ s.size ≤ 64) : tokB s = (decide ((bytesOf s).map lowB = bytesOf s) && (bytesOf s).all inB) := by
 unfold tokB
 rw [decide_eq_true h, Bool.true_and]
 have key : ∀ (d i : Nat), i + d = s.size → tokFrom s i = (decide (((bytesOf s).drop i).map lowB = (bytesOf s).drop i) && ((bytesOf s).drop i).all inB) := by
  intro d
  induction d with
  | zero =>
   intro i hi
   obtain rfl : i = s.size := by omega
   rw [tokFrom_end, List.drop_eq_nil_of_le (by rw [bytesOf_length]; omega)]
   rfl
  | succ d ih =>
   intro i hi
   have hl : i < (bytesOf s).length := by rw [bytesOf_length]; omega
   rw [tokFrom_step s i (by omega), ih (i + 1) (by omega), List.drop_eq_getElem_cons hl]
   have e : (bytesOf s)[i] = bt s (i : Int) := by
    rw [← rd_bytesOf]
    simp [rd, List.getD, hl]
   rw [e]
   unfold tokC
   simp only [List.map_cons, List.cons.injEq, List.all_cons]
   by_cases h1 : lowB (bt s (i : Int)) = bt s (i : Int) <;> by_cases h2 : ((bytesOf s).drop (i + 1)).map lowB = (bytesOf s).drop (i + 1) <;> cases inB (bt s (i : Int)) <;> simp [h1, h2]
 have := key s.size 0 (by omega)
 rwa [List.drop_zero] at this
theorem is_calls (s : ByteArray) (w : World) :
  Calls Tryz.prog 19 #[.string s] w fun e w' => e = .returned (.bool (tokB s)) ∧ Below w.heap.size w w' := by
 by_cases h1 : s.size < 1
 ·have hf : tokB s = false := by unfold tokB; rw [decide_eq_false (by omega)]; rfl
  rw [hf]
  have d1 : decide ((s.size : Int) < 1) = true := decide_eq_true (by omega)
  go_enter Tryz.func19, Tryz.ntmps19
  go_wp2_with fail
  go_ret
  exact ⟨rfl, Below.refl _ _⟩
 have d1 : decide ((s.size : Int) < 1) = false := decide_eq_false (by omega)
 by_cases h2 : s.size > 64
 ·have hf : tokB s = false := by unfold tokB; rw [decide_eq_false (show ¬(1 ≤ s.size ∧ s.size ≤ 64) by omega)]; rfl
  rw [hf]
  have d2 : decide ((64 : Int) < (s.size : Int)) = true := decide_eq_true (by omega)
  go_enter Tryz.func19, Tryz.ntmps19
  go_wp2_with fail
  all_goals go_ret
  all_goals exact ⟨rfl, Below.refl _ _⟩
 have d2 : decide ((64 : Int) < (s.size : Int)) = false := decide_eq_false (by omega)
 have hk := tok_iff s ⟨by omega, by omega⟩
 have HLW := Aside0.mk (fun W => lower_calls s W (by omega))
 have HSZ := Aside0.mk (show s.size ≤ 64 by omega)
 obtain ⟨t, ht⟩ : ∃ t, strOfNums ((bytesOf s).map lowB) = t := ⟨_, rfl⟩
 have hte : t.toList = s.toList ↔ (bytesOf s).map lowB = bytesOf s := by
  rw [← ht, Lib.strOfNums_toList, ← bytesOf_back]
  constructor
  ·intro h
   refine strOf_inj (fun x hx => ?_) (bytesOf_in s) h
   obtain ⟨y, hy, rfl⟩ := List.mem_map.1 hx
   have := bytesOf_in s y hy
   unfold lowB
   split <;> omega
  ·intro h; rw [h]
 rw [ht] at HLW
 clear ht
 obtain ⟨r, hr⟩ : ∃ r, tokB s = r := ⟨_, rfl⟩
 rw [hr] at hk ⊢
 clear hr
 by_cases hb : t.toList = s.toList
 ·have c1 : (t.toList == s.toList) = true := beq_iff_eq.2 hb
  have c2 : (t.toList != s.toList) = false := bne_eq_false_iff_eq.2 hb
  rw [decide_eq_true (hte.1 hb), Bool.true_and] at hk
  have HK := Aside0.mk hk
  clear hk hte hb h1 h2
  go_enter Tryz.func19, Tryz.ntmps19
  go_wp2_with fail
  refine (HLW.out _).mono ?_
  rintro e w1 ⟨rfl, hb⟩
  have HB1 := Aside0.mk hb
  clear hb
  go_wp2_with fail
  go_loopg [3] s.size (fun kq v3 wr => ∃ (i : Nat) (z : Int), v3 = .int .i64 z ∧ Aside0 (z = (i : Int)) ∧ Aside0 (kq + i = s.size) ∧ Aside0 (Below w.heap.size w wr) ∧ Aside0 (∀ (j : Nat) x, j < i → (bytesOf s)[j]? = some x → inB x = true))
  case atStart => exact ⟨0, 0, rfl, ⟨rfl⟩, ⟨rfl⟩, HB1, ⟨fun j x h => by omega⟩⟩
  case round =>
   obtain ⟨i, z, rfl, HZ, HI, HB, HA⟩ := hrel
   by_cases hi : i < s.size
   ·have d0 : decide (z < (s.size : Int)) = true := decide_eq_true (by have := HZ.out; omega)
    have d4 : decide (0 ≤ z) = true := decide_eq_true (by have := HZ.out; omega)
    have p5 : (0 ≤ z) = True := eq_true (by have := HZ.out; omega)
    have q5 : (z < (s.size : Int)) = True := eq_true (by have := HZ.out; omega)
    have hx5 := bt_at s z
    obtain ⟨b, hb⟩ : ∃ b, inB (bt s z) = b := ⟨_, rfl⟩
    have HX := Aside0.mk (show (bytesOf s)[i]? = some (bt s z) by
     have hl : i < (bytesOf s).length := by rw [bytesOf_length]; exact hi
     rw [List.getElem?_eq_getElem hl, HZ.out, ← rd_bytesOf]
     simp [rd, List.getD, hl])
    have hIN := refIn_calls (bt s z)
    rw [hb] at hIN
    have HIN := Aside0.mk hIN
    clear hIN
    have HBB := Aside0.mk hb
    have HI2 := Aside0.mk hi
    clear hb hi
    go_wp2_with fail
    refine (HIN.out _).mono ?_
    rintro e w3 ⟨rfl, hd⟩
    have HB3 := Aside0.mk (below_step HB.out hd.below)
    clear hd
    cases b
    ·go_wp2_with fail
     go_ret
     refine ⟨?_, HB3.out⟩
     rw [HK.out]
     refine congrArg (fun z => Ending.returned (Value.bool z)) ?_
     cases e : (bytesOf s).all inB with
     | false => rfl
     | true => have := List.all_eq_true.1 e _ (List.mem_of_getElem? HX.out); rw [HBB.out] at this; exact absurd this (by decide)
    ·go_wp2_with fail
     have hzw : wrap64 (z + 1) = z + 1 := by have := HZ.out; have := HI2.out; have := HSZ.out; unfold wrap64; omega
     try rw [hzw]
     go_roundg (s.size - i - 1)
     case measure => have := HI.out; have := HI2.out; omega
     case rel =>
      refine ⟨i + 1, z + 1, rfl, ⟨by have := HZ.out; omega⟩, ⟨by have := HI.out; have := HI2.out; omega⟩, HB3, ⟨fun j x hj hx => ?_⟩⟩
      by_cases hji : j = i
      ·subst hji
       rw [HX.out] at hx
       cases hx
       exact HBB.out
      ·exact HA.out j x (by omega) hx
   ·have d0 : decide (z < (s.size : Int)) = false := decide_eq_false (by have := HZ.out; omega)
    go_wp2_with fail
    go_ret
    refine ⟨?_, HB.out⟩
    rw [HK.out]
    refine congrArg (fun z => Ending.returned (Value.bool z)) ?_
    refine (List.all_eq_true.2 (fun x hx => ?_)).symm
    obtain ⟨j, hj⟩ := List.getElem?_of_mem hx
    have hl := (List.getElem?_eq_some_iff.1 hj).1
    rw [bytesOf_length] at hl
    exact HA.out j x (by omega) hj
 ·have c1 : (t.toList == s.toList) = false := beq_eq_false_iff_ne.2 hb
  have c2 : (t.toList != s.toList) = true := bne_iff_ne.2 hb
  rw [decide_eq_false (fun h => hb (hte.2 h)), Bool.false_and] at hk
  subst hk
  clear hte hb h1 h2
  go_enter Tryz.func19, Tryz.ntmps19
  go_wp2_with fail
  refine (HLW.out _).mono ?_
  rintro e w1 ⟨rfl, hb⟩
  have HB1 := Aside0.mk hb
  clear hb
  go_wp2_with fail
  go_ret
  exact ⟨rfl, HB1.out⟩
end Go.Proofs.YtehaodbheifokaaGreatDoor.P
end
