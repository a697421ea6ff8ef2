/- Joined by wip/tools/pack.py, pruned: WordsAll, Cut, Number. -/
import Derived.Test.YtehaodbheifokaaGreatDoorMs7
import Derived.Lib.DecodeNEq
import Derived.Lib.TrimU
import Derived.Lib.IndexAny
import Derived.Lib.Index
import Derived.Laws.RangeAny
import Derived.Lib.IndexEntry
import Derived.Lib.Builder
import Derived.RangeFuncNested
import Derived.RangeFuncBound
import Derived.RangeFuncBox
import Derived.RangeFuncCalls
import Derived.RangeFuncLeaves
import Derived.Shelf.Abstract
import Derived.Shelf.RegionOpen
import Derived.OwnWalkIn
import Derived.TacticsInMore
import Derived.LoopNIn
import Derived.LoopIn
set_option maxHeartbeats 8000000
set_option maxRecDepth 100000
set_option linter.unusedVariables false
set_option linter.unusedSimpArgs false
section
section
namespace Go.Proofs.YtehaodbheifokaaGreatDoor.P
open Go
theorem dec_n (n b0 b1 b2 b3 : Nat) (hn : 1 ≤ n) (h128 : 128 ≤ b0) (h0 : b0 < 256) :
  1 ≤ (Lib.decodeN n b0 b1 b2 b3).2 ∧ (Lib.decodeN n b0 b1 b2 b3).2 ≤ n ∧ (Lib.decodeN n b0 b1 b2 b3).2 ≤ 4 ∧ 128 ≤ (Lib.decodeN n b0 b1 b2 b3).1 ∧
  (2 ≤ (Lib.decodeN n b0 b1 b2 b3).2 → 128 ≤ b1) ∧ (3 ≤ (Lib.decodeN n b0 b1 b2 b3).2 → 128 ≤ b2) ∧ (4 ≤ (Lib.decodeN n b0 b1 b2 b3).2 → 128 ≤ b3) ∧
  ((Lib.decodeN n b0 b1 b2 b3).1 = 65533 ∨ ((Lib.decodeN n b0 b1 b2 b3).2 = 2 ∧ (Lib.decodeN n b0 b1 b2 b3).1 < 2048) ∨ ((Lib.decodeN n b0 b1 b2 b3).2 = 3 ∧ 2048 ≤ (Lib.decodeN n b0 b1 b2 b3).1 ∧ (Lib.decodeN n b0 b1 b2 b3).1 < 65536) ∨ ((Lib.decodeN n b0 b1 b2 b3).2 = 4 ∧ 65536 ≤ (Lib.decodeN n b0 b1 b2 b3).1)) ∧
  ((Lib.decodeN n b0 b1 b2 b3).1 < 55296 ∨ (57344 ≤ (Lib.decodeN n b0 b1 b2 b3).1 ∧ (Lib.decodeN n b0 b1 b2 b3).1 ≤ 1114111)) := by
 unfold Lib.decodeN
 repeat' split
 all_goals (dsimp only; refine ⟨?_, ?_, ?_, ?_, fun _ => ?_, fun _ => ?_, fun _ => ?_, ?_, ?_⟩ <;> first | omega | exact Or.inl rfl)
theorem valid_of {c : Nat} (h : c < 55296 ∨ (57344 ≤ c ∧ c ≤ 1114111)) : Utf8.valid (c : Int) = true := by
 simp only [Utf8.valid, Bool.or_eq_true, Bool.and_eq_true, decide_eq_true_eq]
 omega
theorem u8_ge {n : Nat} (h : 128 ≤ n) (h2 : n < 256) : 128 ≤ (UInt8.ofNat n).toNat := by
 rw [UInt8.toNat_ofNat']
 omega
theorem enc_of {c k : Nat} (hv : c < 55296 ∨ (57344 ≤ c ∧ c ≤ 1114111)) (h128 : 128 ≤ c)
  (hk : (k = 2 ∧ c < 2048) ∨ (k = 3 ∧ 2048 ≤ c ∧ c < 65536) ∨ (k = 4 ∧ 65536 ≤ c)) :
  (Utf8.encode (c : Int)).size = k ∧ ∃ x t, (Utf8.encode (c : Int)).data.toList = x :: t ∧ 128 ≤ x.toNat := by
 have hval := valid_of hv
 simp only [Utf8.encode, hval, if_true, Int.toNat_natCast]
 rw [if_neg (by omega)]
 rcases hk with ⟨rfl, h⟩ | ⟨rfl, h1, h2⟩ | ⟨rfl, h⟩
 ·rw [if_pos (by omega)]
  exact ⟨rfl, _, _, rfl, u8_ge (by omega) (by omega)⟩
 ·rw [if_neg (by omega), if_pos (by omega)]
  exact ⟨rfl, _, _, rfl, u8_ge (by omega) (by omega)⟩
 ·rw [if_neg (by omega), if_neg (by omega)]
  exact ⟨rfl, _, _, rfl, u8_ge (by omega) (by omega)⟩
theorem index_high (l t : List UInt8) (x : UInt8) (hx : 128 ≤ x.toNat) : (∀ b ∈ l, b.toNat < 128) → Lib.index l (x :: t) = -1 := by
 induction l with
 | nil => intro _; rfl
 | cons b l ih =>
  intro h
  have hne : (x == b) = false := beq_eq_false_iff_ne.2 (by rintro rfl; have := h x (by simp); omega)
  rw [Lib.index, ih (fun b hb => h b (by simp [hb]))]
  simp only [List.isPrefixOf, hne, Bool.false_and, Bool.false_eq_true, if_false]
  rfl
structure DecAt (bs : List UInt8) (i c k : Nat) : Prop where
 pos : 1 ≤ k
 room : i + k ≤ bs.length
 high : 128 ≤ c
 le : c ≤ 1114111
 skip : ∀ j, i ≤ j → j < i + k → 128 ≤ (bs.getD j 0).toNat
 enc : c ≠ 65533 → (Utf8.encode (c : Int)).size = k ∧ 2 ≤ k ∧ ∃ x t, (Utf8.encode (c : Int)).data.toList = x :: t ∧ 128 ≤ x.toNat
theorem getD_drop (bs : List UInt8) (i j : Nat) : (bs.drop i).getD j 0 = bs.getD (i + j) 0 := by simp [List.getD]
theorem get!_list (l : List UInt8) (j : Nat) : (⟨l.toArray⟩ : ByteArray).get! j = l.getD j 0 := by
 simp only [ByteArray.get!, List.getD]
 rw [getElem!_def]
 simp only [List.getElem?_toArray]
 cases l[j]? <;> rfl
theorem decAt (bs : List UInt8) (i : Nat) (hi : i < bs.length) (h128 : 128 ≤ (bs.getD i 0).toNat) : DecAt bs i (Lib.decodeGo ⟨(bs.drop i).toArray⟩).1 (Lib.decodeGo ⟨(bs.drop i).toArray⟩).2 := by
 have hsz : (⟨(bs.drop i).toArray⟩ : ByteArray).size = bs.length - i := by simp [ByteArray.size]
 have hd : Lib.decodeGo ⟨(bs.drop i).toArray⟩ = Lib.decodeN (bs.length - i) (bs.getD i 0).toNat (bs.getD (i + 1) 0).toNat (bs.getD (i + 2) 0).toNat (bs.getD (i + 3) 0).toNat := by
  simp only [Lib.decodeGo]
  rw [if_neg (by rw [hsz]; omega), Lib.decode_at, hsz]
  simp only [get!_list, getD_drop, Nat.add_zero, Nat.zero_add, Nat.sub_zero]
 rw [hd]
 have hlt := UInt8.toNat_lt (bs.getD i 0)
 obtain ⟨h1, h2, h3, h4, h5, h6, h7, h8, h9⟩ := dec_n (bs.length - i) (bs.getD i 0).toNat (bs.getD (i + 1) 0).toNat (bs.getD (i + 2) 0).toNat (bs.getD (i + 3) 0).toNat (by omega) h128 hlt
 generalize Lib.decodeN (bs.length - i) (bs.getD i 0).toNat (bs.getD (i + 1) 0).toNat (bs.getD (i + 2) 0).toNat (bs.getD (i + 3) 0).toNat = d at *
 refine ⟨h1, by omega, h4, by omega, fun j hj hjk => ?_, fun hne => ?_⟩
 ·obtain ⟨m, rfl⟩ : ∃ m, j = i + m := ⟨j - i, by omega⟩
  have : m = 0 ∨ m = 1 ∨ m = 2 ∨ m = 3 := by omega
  rcases this with rfl | rfl | rfl | rfl
  ·exact h128
  ·exact h5 (by omega)
  ·exact h6 (by omega)
  ·exact h7 (by omega)
 ·have hk : (d.2 = 2 ∧ d.1 < 2048) ∨ (d.2 = 3 ∧ 2048 ≤ d.1 ∧ d.1 < 65536) ∨ (d.2 = 4 ∧ 65536 ≤ d.1) := by omega
  obtain ⟨e1, e2⟩ := enc_of h9 h4 hk
  exact ⟨e1, by omega, e2⟩
theorem noAny_skip {bs cs : List UInt8} {i k : Nat} (h : Lib.NoAny bs cs i) (hc : ∀ b ∈ cs, b.toNat < 128) (hs : ∀ j, i ≤ j → j < i + k → 128 ≤ (bs.getD j 0).toNat) : Lib.NoAny bs cs (i + k) := by
 intro j b hj hb
 by_cases hji : j < i
 ·exact h j b hji hb
 ·have := hs j (by omega) hj
  simp only [List.getD, hb, Option.getD_some] at this
  cases hcon : cs.contains b with
  | false => rfl
  | true => have := hc b (List.contains_iff_mem.1 hcon); omega
end Go.Proofs.YtehaodbheifokaaGreatDoor.P
end
section
namespace Go.Proofs.YtehaodbheifokaaGreatDoor.P
open Go Go.RowKit Go.Proofs.YtehaodbheifokaaGreatDoorW.PrintWords Go.Proofs.YtehaodbheifokaaGreatDoorW.PrintLast
theorem shouldUse (n : Int) (w : World) : Calls Tryz.prog 155 #[.int .i64 n] w fun e w' => e = .returned (.bool (decide (8 < n))) ∧ w' = w := by
 go_enter Tryz.func155, Tryz.ntmps155
 go_wp2
 go_ret
 exact ⟨rfl, rfl⟩
theorem blanks_not_empty {cs : ByteArray} (h : 2 ≤ cs.size) : cs.toList.isEmpty = false := by
 rw [Lib.toList_data]
 cases e : cs.data.toList with
 | nil => have := Lib.size_eq cs; rw [e, List.length_nil] at this; omega
 | cons _ _ => rfl
theorem info63 : (Tryz.prog.info? 177).map (fun i => (i.zero, i.size)) = some (some (.agg (Array.replicate 256 (.bool false))), 256) := by kernel_rfl
theorem indexAny_long (b o n c : Nat) (bs : List UInt8) (cs : ByteArray) (w : World) (hb : bs.length = n) (hnc : n ≤ c) (hbig : n ≤ 9223372036854775807)
  (h1 : Lib.BytesAt w (some ⟨b, o, none⟩) n bs) (h8 : 8 < n) (h2 : 2 ≤ cs.size) (hcs : cs.size < 4294967281) (hascii : ∀ (j : Nat) b, cs.data.toList[j]? = some b → b.toNat < 128) :
  Calls Tryz.prog 137 #[.slice (some ⟨b, o, none⟩) n c, .string cs] w fun e w' => e = .returned (.int .i64 (Lib.indexAny bs cs.data.toList)) ∧ Below w.heap.size w w' := by
 have hM := Any.bytes_makeASCIISet Tryz.laysV11 (zero_of_info info63).1 (zero_of_info info63).2 cs w hcs hascii
 simp only [Tryz.laysV11_ren] at hM
 clear hascii
 have hemp := blanks_not_empty h2
 have hn1 : ((cs.size : Int) == 1) = false := beq_eq_false_iff_ne.2 (by omega)
 have hn2 : ((n : Int) == 1) = false := beq_eq_false_iff_ne.2 (by omega)
 have h8z : decide ((8 : Int) < (n : Int)) = true := decide_eq_true (by omega)
 have hsc : (storeCells ⟨w.heap.size + 1, 0, none⟩ (Lib.setCells cs.data.toList).toList 0).run Tryz.prog ((w.alloc (.cells (Lib.setCells cs.data.toList) 177)).alloc (.cells Tryz.zeroCells177 177)) = .ok () ((w.alloc (.cells (Lib.setCells cs.data.toList) 177)).alloc (.cells (Lib.setCells cs.data.toList) 177)) := by
  have := run_storeCells_new (P := Tryz.prog) (w.alloc (.cells (Lib.setCells cs.data.toList) 177)) 177 Tryz.zeroCells177 (Lib.setCells cs.data.toList) (by rw [Lib.setCells_size]; exact (zero_of_info info63).2) (by rw [Lib.setCells_size, Tryz.zeroCells177_size]) (Lib.setCells_one _)
  simpa using this
 have hsz := Lib.setCells_size cs.data.toList
 have hcellAt : ∀ x : UInt8, ((w.alloc (.cells (Lib.setCells cs.data.toList) 177)).alloc (.cells (Lib.setCells cs.data.toList) 177)).cell? ⟨w.heap.size + 1, x.toNat, none⟩ = some (.bool (cs.data.toList.contains x)) := fun x => by
  rw [World.cell?_alloc_at _ _ _ _ (by simp), Lib.setCells_at]
 have HC : Aside (∀ x : UInt8, ((w.alloc (.cells (Lib.setCells cs.data.toList) 177)).alloc (.cells (Lib.setCells cs.data.toList) 177)).cell? ⟨w.heap.size + 1, x.toNat, none⟩ = some (.bool (cs.data.toList.contains x))) := hcellAt
 have hB2 : Below w.heap.size w ((w.alloc (.cells (Lib.setCells cs.data.toList) 177)).alloc (.cells (Lib.setCells cs.data.toList) 177)) := ((Below.refl _ _).alloc (Nat.le_refl _) _).alloc (by simp) _
 have h1' := h1.below hB2
 have HB : Aside0 _ := Aside0.mk hB2
 clear hcellAt h1 hB2
 obtain ⟨b', o', hbo, hc⟩ := h1' (by omega)
 cases hbo
 have HBY : Aside _ := hc
 clear hc h1'
 go_enter Tryz.func137, Tryz.ntmps137
 go_wp2_with (first
  | (go_at_call 155; refine (shouldUse _ _).mono ?_; rintro e w' ⟨rfl, hw⟩; rw [hw, h8z])
  | (go_at_call 150; refine hM.mono ?_; rintro e w' ⟨rfl, hw⟩; rw [hw]))
 clear hM hsc
 go_loopg [9, 10, 62] n (fun g _ _ s62 wx => ∃ i : Nat, i + g = n ∧ s62 = .int .i64 i ∧ wx = ((w.alloc (.cells (Lib.setCells cs.data.toList) 177)).alloc (.cells (Lib.setCells cs.data.toList) 177)) ∧ Lib.NoAny bs cs.data.toList i)
 case atStart => exact ⟨0, by omega, rfl, rfl, Lib.NoAny.zero _ _⟩
 case round =>
  obtain ⟨i, hig, rfl, rfl, hno⟩ := hrel
  have HN : Aside (Lib.NoAny bs cs.data.toList i) := hno
  clear hno
  cases gk with
  | zero =>
   obtain rfl : i = n := by omega
   have hiz : ¬ ((i : Int) < (i : Int)) := by omega
   go_wp2
   go_ret
   exact ⟨by rw [Lib.indexAny_none (by rw [hb]; exact HN.out)]; rfl, HB.out⟩
  | succ g =>
   have hi : i < n := by omega
   have hiz : (i : Int) < (n : Int) := by omega
   have hci := HBY.out i hi
   obtain ⟨x, hx⟩ : ∃ x, x = bs.getD i 0 := ⟨_, rfl⟩
   rw [← hx] at hci
   have hxl : bs[i]? = some x := by rw [hx]; exact Lib.getElem?_getD_sl _ _ _ (by omega)
   have Hx : Aside (bs[i]? = some x) := hxl
   clear hxl hx
   have hcx := HC.out x
   have hct := fun W h => Any.bytes_asciiSet_contains Tryz.laysV16 (w.heap.size + 1) x (cs.data.toList.contains x) W h
   simp only [Tryz.laysV16_ren] at hct
   have HCT : Aside _ := hct
   clear hct
   cases hin : cs.data.toList.contains x <;> rw [hin] at hcx
   ·go_wp2_with (go_at_call 156; refine (HCT.out _ (HC.out x)).mono ?_; rintro e w' ⟨rfl, hw⟩; rw [hw, hin])
    go_roundg g
    case measure => omega
    case rel => exact ⟨i + 1, by omega, by first | rfl | simp, rfl, HN.out.succ Hx.out hin⟩
   ·go_wp2_with (go_at_call 156; refine (HCT.out _ (HC.out x)).mono ?_; rintro e w' ⟨rfl, hw⟩; rw [hw, hin])
    go_ret
    exact ⟨by rw [Lib.indexAny_hit HN.out Hx.out hin]; rfl, HB.out⟩
theorem run46 (s : ByteArray) (x : UInt8) (w : World) : (callFunc 153 #[.string s, .int .u8 x.toNat]).run Tryz.prog w = .ok (.value (.int .i64 (Lib.indexByte s.data.toList x))) w := by
 rw [run_callFunc_extern Tryz.func153 (by kernel_rfl) (by kernel_rfl) (by kernel_rfl) (e := Extern.BytealgIndexByte.indexByte) (by kernel_rfl), Lib.run_indexByteString]
 simp [Result.andThen]
theorem run51 (s b : ByteArray) (m : Int) (w : World) (hm : w.cell? ⟨0, 0, none⟩ = some (.int .i64 m)) (h2 : 2 ≤ b.size) (hb : (b.size : Int) ≤ m) (hs : s.size < 4294967281) : (callFunc 158 #[.string s, .string b]).run Tryz.prog w = .ok (.value (.int .i64 (Lib.index s.data.toList b.data.toList))) w := by
 rw [run_callFunc_extern Tryz.func158 (by kernel_rfl) (by kernel_rfl) (by kernel_rfl) (e := Extern.BytealgIndex.index) (by kernel_rfl), Lib.run_indexString s b w 0 m (by kernel_rfl) hm h2 hb hs]
 simp [Result.andThen]
theorem indexAny_single (b o c : Nat) (x : UInt8) (cs : ByteArray) (w : World) (hnc : 1 ≤ c)
  (hx : w.cell? ⟨b, o, none⟩ = some (.int .u8 x.toNat)) (h2 : 2 ≤ cs.size) (hcs : cs.size < 4294967281) (hascii : ∀ (j : Nat) b, cs.data.toList[j]? = some b → b.toNat < 128) :
  Calls Tryz.prog 137 #[.slice (some ⟨b, o, none⟩) 1 c, .string cs] w fun e w' => e = .returned (.int .i64 (Lib.indexAny [x] cs.data.toList)) ∧ Below w.heap.size w w' := by
 have HA : Aside (∀ (j : Nat) b, cs.data.toList[j]? = some b → b.toNat < 128) := hascii
 clear hascii
 have hemp := blanks_not_empty h2
 have hn1 : ((cs.size : Int) == 1) = false := beq_eq_false_iff_ne.2 (by omega)
 have hB1 : ∀ pos, Below w.heap.size w (w.iter cs pos) := fun pos => (Below.refl _ _).alloc (Nat.le_refl _) _
 have HB : Aside _ := hB1
 clear hB1
 have hx256 : (x.toNat : Int) < 256 := by have := UInt8.toNat_lt x; omega
 by_cases h128 : (128 : Int) ≤ (x.toNat : Int)
 ·have hres : Lib.indexAny [x] cs.data.toList = -1 := Lib.indexAny_none (fun j y hj hy => by
   obtain rfl : j = 0 := by simp at hj; exact hj
   simp at hy
   subst hy
   cases hcon : cs.data.toList.contains x with
   | false => rfl
   | true =>
    obtain ⟨j, hj⟩ := List.mem_iff_getElem?.1 (List.contains_iff_mem.1 hcon)
    have := HA.out j x hj
    omega)
  rw [hres]
  go_enter Tryz.func137, Tryz.ntmps137
  go_wp2
  go_loopg [5] cs.size (fun g _ wx => ∃ i : Nat, i + g = cs.size ∧ wx = w.iter cs i)
  case atStart => exact ⟨0, by omega, rfl⟩
  case round =>
   obtain ⟨i, hig, rfl⟩ := hrel
   cases gk with
   | zero =>
    obtain rfl : i = cs.size := by omega
    have hnx := run_next_end (P := Tryz.prog) w cs cs.size
    go_wp2
    go_ret
    exact ⟨rfl, HB.out _⟩
   | succ g =>
    have hi : i < cs.size := by omega
    obtain ⟨y, hy⟩ : ∃ y : UInt8, cs[i]'hi = y := ⟨_, rfl⟩
    have hyl : cs.data.toList[i]? = some y := by rw [← hy]; exact Lib.data_getElem? cs i hi
    have hy128 : y.toNat < 128 := HA.out i y hyl
    have hnx := fun ty => run_next_ascii (P := Tryz.prog) w cs i ty hi (by rw [hy]; exact hy128)
    rw [hy] at hnx
    have hne : ((y.toNat : Int) == 65533) = false := beq_eq_false_iff_ne.2 (by omega)
    clear hyl hy
    go_wp2
    go_roundg g
    case measure => omega
    case rel => exact ⟨i + 1, by omega, rfl⟩
 ·have e46 := fun W => run46 cs x W
  have hcon := Lib.contains_iff_indexByte cs.data.toList x
  cases hin : cs.data.toList.contains x with
  | false =>
   rw [hin] at hcon
   have hlt : ¬ ((0 : Int) ≤ Lib.indexByte cs.data.toList x) := of_decide_eq_false hcon.symm
   have hres : Lib.indexAny [x] cs.data.toList = -1 := by rw [Lib.indexAny, hin]; rfl
   rw [hres]
   clear hcon hres
   go_enter Tryz.func137, Tryz.ntmps137
   go_wp2
   go_ret
   exact ⟨rfl, Below.refl _ _⟩
  | true =>
   rw [hin] at hcon
   have hge : (0 : Int) ≤ Lib.indexByte cs.data.toList x := of_decide_eq_true hcon.symm
   have hres : Lib.indexAny [x] cs.data.toList = 0 := by rw [Lib.indexAny, hin]; rfl
   rw [hres]
   clear hcon hres
   go_enter Tryz.func137, Tryz.ntmps137
   go_wp2
   go_ret
   exact ⟨rfl, Below.refl _ _⟩
theorem list_arr_size (l : List UInt8) : (⟨l.toArray⟩ : ByteArray).size = l.length := by simp [ByteArray.size]
theorem decodeRune_at (b o i n c : Nat) (bs : List UInt8) (w : World) (hb : bs.length = n) (hi : i < n) (hu : Lib.Utf8Tabs 2 3 w)
  (hc : ∀ j, j < n → w.cell? ⟨b, o + j, none⟩ = some (.int .u8 (bs.getD j 0).toNat)) :
  Calls Tryz.prog 157 #[.slice (some ⟨b, o + i, none⟩) (n - i) c] w fun e w' => e = .returned (.tuple #[.int .i32 (Lib.decodeGo ⟨(bs.drop i).toArray⟩).1, .int .i64 (Lib.decodeGo ⟨(bs.drop i).toArray⟩).2]) ∧ Below w.heap.size w w' := by
 have h := Any7.utf8_DecodeRune Tryz.lays7_32 ⟨(bs.drop i).toArray⟩ b (o + i) c w hu (fun j hj => by
  rw [list_arr_size, List.length_drop, hb] at hj
  rw [Nat.add_assoc, hc (i + j) (by omega), get!_list, getD_drop])
 rw [list_arr_size, List.length_drop, hb] at h
 exact h
theorem indexAny_short (b o n c : Nat) (bs : List UInt8) (cs : ByteArray) (w : World) (hb : bs.length = n) (hnc : n ≤ c) (hbig : n ≤ 9223372036854775807)
  (h1 : Lib.BytesAt w (some ⟨b, o, none⟩) n bs) (hn : 2 ≤ n) (h8 : n ≤ 8) (h2 : 2 ≤ cs.size) (hcs : cs.size < 4294967281) (hascii : ∀ b ∈ cs.data.toList, b.toNat < 128) (hx : FieldIn w) :
  Calls Tryz.prog 137 #[.slice (some ⟨b, o, none⟩) n c, .string cs] w fun e w' => e = .returned (.int .i64 (Lib.indexAny bs cs.data.toList)) ∧ Below w.heap.size w w' := by
 have HA : Aside (∀ b ∈ cs.data.toList, b.toNat < 128) := hascii
 have HX : Aside (FieldIn w) := hx
 obtain ⟨mx, hmx⟩ := hx.max
 have HMX : Aside _ := hmx
 obtain ⟨b', o', hbo, hc⟩ := h1 (by omega)
 cases hbo
 have HBY : Aside _ := hc
 clear hascii hx hmx hc h1
 have hemp := blanks_not_empty h2
 have hn1 : ((cs.size : Int) == 1) = false := beq_eq_false_iff_ne.2 (by omega)
 have hn2 : ((n : Int) == 1) = false := beq_eq_false_iff_ne.2 (by omega)
 have h8z : decide ((8 : Int) < (n : Int)) = false := decide_eq_false (by omega)
 go_enter Tryz.func137, Tryz.ntmps137
 go_wp2_with (go_at_call 155; refine (shouldUse _ _).mono ?_; rintro e w' ⟨rfl, hw⟩; rw [hw, h8z])
 go_loopg [11, 12, 13, 15] n (fun g _ s12 _ _ wx => ∃ i : Nat, i ≤ n ∧ n ≤ g + i ∧ s12 = .int .i64 i ∧ Aside0 (Below w.heap.size w wx) ∧ Lib.NoAny bs cs.data.toList i)
 case atStart => exact ⟨0, by omega, by omega, rfl, Aside0.mk (Below.refl _ _), Lib.NoAny.zero _ _⟩
 case round =>
  obtain ⟨i, hin, hig, rfl, hbx, hno⟩ := hrel
  have HN : Aside (Lib.NoAny bs cs.data.toList i) := hno
  clear hno
  by_cases hi : i < n
  case neg =>
   obtain rfl : i = n := by omega
   go_wp2
   go_ret
   exact ⟨by rw [Lib.indexAny_none (by rw [hb]; exact HN.out)]; rfl, hbx.out⟩
  have hci : wr.cell? ⟨b, o + i, none⟩ = _ := cell_up hbx.out (HBY.out i hi)
  obtain ⟨x, hx⟩ : ∃ x, x = bs.getD i 0 := ⟨_, rfl⟩
  rw [← hx] at hci
  have hxl : bs[i]? = some x := by rw [hx]; exact Lib.getElem?_getD_sl _ _ _ (by omega)
  have Hx : Aside (bs[i]? = some x) := hxl
  have HXD : Aside (x = bs.getD i 0) := hx
  clear hxl hx
  have hx256 : (x.toNat : Int) < 256 := by have := UInt8.toNat_lt x; omega
  by_cases h128 : (x.toNat : Int) < 128
  ·have e46 := fun W => run46 cs x W
   have hcon := Lib.contains_iff_indexByte cs.data.toList x
   cases hin : cs.data.toList.contains x with
   | false =>
    rw [hin] at hcon
    have hlt : ¬ ((0 : Int) ≤ Lib.indexByte cs.data.toList x) := of_decide_eq_false hcon.symm
    have HI : Aside _ := hin
    clear hcon hin
    go_wp2
    go_roundg (gk - 1)
    case measure => omega
    case rel => exact ⟨i + 1, by omega, by omega, by first | rfl | simp, hbx, HN.out.succ Hx.out HI.out⟩
   | true =>
    rw [hin] at hcon
    have hge : (0 : Int) ≤ Lib.indexByte cs.data.toList x := of_decide_eq_true hcon.symm
    have HI : Aside _ := hin
    clear hcon hin
    go_wp2
    go_ret
    exact ⟨by rw [Lib.indexAny_hit HN.out Hx.out HI.out]; rfl, hbx.out⟩
  ·have hD := decodeRune_at b o i n (c - i) bs wr hb hi (HX.out.below hbx.out).utf (fun j hj => cell_up hbx.out (HBY.out j hj))
   have hF := decAt bs i (by omega) (by rw [← HXD.out]; omega)
   generalize Lib.decodeGo ⟨(bs.drop i).toArray⟩ = d at hD hF
   obtain ⟨r, k⟩ := d
   simp only at hD hF
   have HD := Aside0.mk hD
   have hk1 := hF.pos
   have hk2 := hF.room
   have hr1 := hF.high
   have hr2 := hF.le
   have HF : Aside _ := hF
   clear hD hF
   obtain ⟨G, hG1, hG2⟩ : ∃ G, G < gk ∧ n ≤ G + 1 + i := ⟨gk - 1, by omega, by omega⟩
   by_cases hr : r = 65533
   ·subst hr
    go_wp2_with (go_at_call 157; refine HD.out.mono ?_; rintro e w1 ⟨rfl, hb1⟩; have hB1 : Aside0 (Below w.heap.size w w1) := Aside0.mk (hbx.out.trans (hb1.mono hbx.out.size)); clear hb1)
    clear hci
    go_loopg [15] cs.size (fun g _ wx => ∃ j : Nat, j + g = cs.size ∧ wx = w1.iter cs j)
    case atStart => exact ⟨0, by omega, rfl⟩
    case round =>
     obtain ⟨j, hjg, rfl⟩ := hrel
     cases gk with
     | zero =>
      obtain rfl : j = cs.size := by omega
      have hnx := run_next_end (P := Tryz.prog) w1 cs cs.size
      go_wp2
      go_roundg G
      case measure => omega
      case rel => exact ⟨i + k, by omega, by omega, by first | rfl | simp, Aside0.mk (hB1.out.alloc hB1.out.size _), noAny_skip HN.out HA.out HF.out.skip⟩
     | succ g =>
      have hj : j < cs.size := by omega
      obtain ⟨y, hy⟩ : ∃ y : UInt8, cs[j]'hj = y := ⟨_, rfl⟩
      have hyl : cs.data.toList[j]? = some y := by rw [← hy]; exact Lib.data_getElem? cs j hj
      have hy128 : y.toNat < 128 := HA.out y (List.mem_iff_getElem?.2 ⟨j, hyl⟩)
      have hnx := fun ty => run_next_ascii (P := Tryz.prog) w1 cs j ty hj (by rw [hy]; exact hy128)
      rw [hy] at hnx
      have hne : ((65533 : Int) == (y.toNat : Int)) = false := beq_eq_false_iff_ne.2 (by omega)
      clear hyl hy
      go_wp2
      go_roundg g
      case measure => omega
      case rel => exact ⟨j + 1, by omega, rfl⟩
   ·have hrz : ((r : Int) == 65533) = false := beq_eq_false_iff_ne.2 (by omega)
    obtain ⟨hek, hk3, xe, te, hex, hx128⟩ := HF.out.enc hr
    have hneq : (cs.toList == (Utf8.encode (r : Int)).toList) = false := beq_eq_false_iff_ne.2 (fun e => by
     rw [Lib.toList_data, Lib.toList_data, hex] at e
     have := HA.out xe (by rw [e]; simp)
     omega)
    have hidx := index_high cs.data.toList te xe hx128 HA.out
    rw [← hex] at hidx
    have HEK := Aside0.mk hek
    clear hex hek
    by_cases hck : cs.size = k
    ·have hcz : ((cs.size : Int) == (k : Int)) = true := beq_iff_eq.2 (by omega)
     clear hck hidx
     go_wp2_with (go_at_call 157; refine HD.out.mono ?_; rintro e w1 ⟨rfl, hb1⟩; have hB1 : Aside0 (Below w.heap.size w w1) := Aside0.mk (hbx.out.trans (hb1.mono hbx.out.size)); clear hb1)
     go_roundg G
     case measure => omega
     case rel => exact ⟨i + k, by omega, by omega, by first | rfl | simp, hB1, noAny_skip HN.out HA.out HF.out.skip⟩
    ·have hcz : ((cs.size : Int) == (k : Int)) = false := beq_eq_false_iff_ne.2 (by omega)
     clear hck
     by_cases hmk : (k : Int) ≤ mx
     ·have e51 := fun W h => run51 cs (Utf8.encode (r : Int)) mx W h (by rw [HEK.out]; omega) (by rw [HEK.out]; omega) (by omega)
      rw [hidx] at e51
      clear hidx
      have E51 := Aside0.mk e51
      clear e51
      go_wp2_with (first
       | (go_at_call 157; refine HD.out.mono ?_; rintro e w1 ⟨rfl, hb1⟩; have hB1 : Aside0 (Below w.heap.size w w1) := Aside0.mk (hbx.out.trans (hb1.mono hbx.out.size)); clear hb1; have hm1 := cell_up hB1.out HMX.out; have e51 := E51.out w1 hm1))
      go_roundg G
      case measure => omega
      case rel => exact ⟨i + k, by omega, by omega, by first | rfl | simp, hB1, noAny_skip HN.out HA.out HF.out.skip⟩
     ·go_wp2_with (first
       | (go_at_call 157; refine HD.out.mono ?_; rintro e w1 ⟨rfl, hb1⟩; have hB1 : Aside0 (Below w.heap.size w w1) := Aside0.mk (hbx.out.trans (hb1.mono hbx.out.size)); clear hb1; have hm1 := cell_up hB1.out HMX.out))
      clear hci
      go_loopg [15] cs.size (fun g _ wx => ∃ j : Nat, j + g = cs.size ∧ wx = w1.iter cs j)
      case atStart => exact ⟨0, by omega, rfl⟩
      case round =>
       obtain ⟨j, hjg, rfl⟩ := hrel
       cases gk with
       | zero =>
        obtain rfl : j = cs.size := by omega
        have hnx := run_next_end (P := Tryz.prog) w1 cs cs.size
        go_wp2
        go_roundg G
        case measure => omega
        case rel => exact ⟨i + k, by omega, by omega, by first | rfl | simp, Aside0.mk (hB1.out.alloc hB1.out.size _), noAny_skip HN.out HA.out HF.out.skip⟩
       | succ g =>
        have hj : j < cs.size := by omega
        obtain ⟨y, hy⟩ : ∃ y : UInt8, cs[j]'hj = y := ⟨_, rfl⟩
        have hyl : cs.data.toList[j]? = some y := by rw [← hy]; exact Lib.data_getElem? cs j hj
        have hy128 : y.toNat < 128 := HA.out y (List.mem_iff_getElem?.2 ⟨j, hyl⟩)
        have hnx := fun ty => run_next_ascii (P := Tryz.prog) w1 cs j ty hj (by rw [hy]; exact hy128)
        rw [hy] at hnx
        have hne : ((r : Int) == (y.toNat : Int)) = false := beq_eq_false_iff_ne.2 (by omega)
        clear hyl hy
        go_wp2
        go_roundg g
        case measure => omega
        case rel => exact ⟨j + 1, by omega, rfl⟩
theorem bytes_IndexAny (b o n c : Nat) (bs : List UInt8) (cs : ByteArray) (w : World) (hb : bs.length = n) (hn0 : 0 < n) (hnc : n ≤ c) (hbig : n ≤ 9223372036854775807)
  (h1 : Lib.BytesAt w (some ⟨b, o, none⟩) n bs) (h2 : 2 ≤ cs.size) (hcs : cs.size < 4294967281) (hascii : ∀ b ∈ cs.data.toList, b.toNat < 128) (hx : FieldIn w) :
  Calls Tryz.prog 137 #[.slice (some ⟨b, o, none⟩) n c, .string cs] w fun e w' => e = .returned (.int .i64 (Lib.indexAny bs cs.data.toList)) ∧ Below w.heap.size w w' := by
 have ha : ∀ (j : Nat) b, cs.data.toList[j]? = some b → b.toNat < 128 := fun j b h => hascii b (List.mem_iff_getElem?.2 ⟨j, h⟩)
 by_cases h8 : 8 < n
 ·exact indexAny_long b o n c bs cs w hb hnc hbig h1 h8 h2 hcs ha
 by_cases hn : n = 1
 ·subst hn
  obtain ⟨x, rfl⟩ := List.length_eq_one_iff.1 hb
  obtain ⟨b', o', hbo, hc⟩ := h1 (by omega)
  cases hbo
  exact indexAny_single b o c x cs w hnc (hc 0 (by omega)) h2 hcs ha
 ·exact indexAny_short b o n c bs cs w hb hnc hbig h1 (by omega) (by omega) h2 hcs hascii hx
end Go.Proofs.YtehaodbheifokaaGreatDoor.P
end
section
namespace Go.Proofs.YtehaodbheifokaaGreatDoor.P
open Go
def blankL : List UInt8 := [9, 10, 13, 32]
def isB (b : UInt8) : Bool := blankL.contains b
def nB (b : UInt8) : Bool := !isB b
def wordsF : Nat → List UInt8 → List ByteArray
 | 0, _ => []
 | f + 1, l => if l.dropWhile isB = [] then [] else ⟨((l.dropWhile isB).takeWhile nB).toArray⟩ :: wordsF f ((l.dropWhile isB).dropWhile nB)
def wordsL (l : List UInt8) : List ByteArray := wordsF l.length l
theorem dropWhile_le {α : Type} (p : α → Bool) (l : List α) : (l.dropWhile p).length ≤ l.length := (List.dropWhile_suffix p).length_le
theorem take_drop {α : Type} (p : α → Bool) (l : List α) : (l.takeWhile p).length + (l.dropWhile p).length = l.length := by rw [← List.length_append, List.takeWhile_append_dropWhile]
theorem first_word {l : List UInt8} (h : l.dropWhile isB ≠ []) : 1 ≤ ((l.dropWhile isB).takeWhile nB).length := by
 cases e : l.dropWhile isB with
 | nil => exact absurd e h
 | cons x t =>
  have hx : isB x = false := by
   have := List.head_dropWhile_not isB (l := l) h
   simp only [e, List.head_cons] at this
   exact this
  simp [List.takeWhile, nB, hx]
theorem rest_lt {l : List UInt8} (h : l.dropWhile isB ≠ []) : ((l.dropWhile isB).dropWhile nB).length < l.length := by
 have h1 := first_word h
 have h2 := take_drop nB (l.dropWhile isB)
 have h3 := dropWhile_le isB l
 omega
theorem wordsF_eq : ∀ (f g : Nat) (l : List UInt8), l.length ≤ f → l.length ≤ g → wordsF f l = wordsF g l
 | 0, 0, _, _, _ => rfl
 | 0, g + 1, l, h, _ => by
  obtain rfl : l = [] := List.length_eq_zero_iff.1 (by omega)
  simp [wordsF]
 | f + 1, 0, l, _, h => by
  obtain rfl : l = [] := List.length_eq_zero_iff.1 (by omega)
  simp [wordsF]
 | f + 1, g + 1, l, h1, h2 => by
  rw [wordsF, wordsF]
  by_cases h : l.dropWhile isB = []
  ·rw [if_pos h, if_pos h]
  ·rw [if_neg h, if_neg h]
   have := rest_lt h
   rw [wordsF_eq f g _ (by omega) (by omega)]
theorem wordsL_none {l : List UInt8} (h : l.dropWhile isB = []) : wordsL l = [] := by
 unfold wordsL
 cases l with
 | nil => rfl
 | cons x t => rw [List.length_cons, wordsF, if_pos h]
theorem wordsL_some {l : List UInt8} (h : l.dropWhile isB ≠ []) : wordsL l = ⟨((l.dropWhile isB).takeWhile nB).toArray⟩ :: wordsL ((l.dropWhile isB).dropWhile nB) := by
 unfold wordsL
 have := rest_lt h
 cases l with
 | nil => exact absurd rfl h
 | cons x t =>
  rw [List.length_cons, wordsF, if_neg h, wordsF_eq _ _ _ _ (Nat.le_refl _)]
  rw [List.length_cons] at this
  omega
theorem takeWhile_getElem {α : Type} {p : α → Bool} : ∀ {l : List α} {j : Nat}, j < (l.takeWhile p).length → ∃ x, l[j]? = some x ∧ p x = true
 | [], j, h => by simp at h
 | x :: t, j, h => by
  cases hp : p x with
  | false => simp [List.takeWhile, hp] at h
  | true =>
   rw [List.takeWhile, hp] at h
   cases j with
   | zero => exact ⟨x, rfl, hp⟩
   | succ j =>
    obtain ⟨y, h1, h2⟩ := takeWhile_getElem (l := t) (j := j) (by simpa using h)
    exact ⟨y, h1, h2⟩
theorem takeWhile_stop {α : Type} {p : α → Bool} : ∀ {l : List α}, (l.takeWhile p).length < l.length → ∃ x, l[(l.takeWhile p).length]? = some x ∧ p x = false
 | [], h => by simp at h
 | x :: t, h => by
  cases hp : p x with
  | false => exact ⟨x, by simp [List.takeWhile, hp], hp⟩
  | true =>
   rw [List.takeWhile, hp] at h ⊢
   obtain ⟨y, h1, h2⟩ := takeWhile_stop (p := p) (l := t) (by simpa using h)
   exact ⟨y, by simpa using h1, h2⟩
theorem noAny_word (t : List UInt8) : Lib.NoAny t blankL (t.takeWhile nB).length := fun j b hj hb => by
 obtain ⟨x, h1, h2⟩ := takeWhile_getElem hj
 rw [h1] at hb
 cases hb
 simp only [nB, isB] at h2
 simpa using h2
theorem indexAny_word {t : List UInt8} (h : (t.takeWhile nB).length < t.length) : Lib.indexAny t blankL = (t.takeWhile nB).length := by
 obtain ⟨x, h1, h2⟩ := takeWhile_stop h
 exact Lib.indexAny_hit (noAny_word t) h1 (by simp only [nB, isB] at h2; simpa using h2)
theorem indexAny_noword {t : List UInt8} (h : (t.takeWhile nB).length = t.length) : Lib.indexAny t blankL = -1 := Lib.indexAny_none (h ▸ noAny_word t)
theorem takeWhile_take {α : Type} (p : α → Bool) (l : List α) : l.takeWhile p = l.take (l.takeWhile p).length := List.prefix_iff_eq_take.1 (List.takeWhile_prefix p)
theorem dropWhile_drop' {α : Type} (p : α → Bool) (l : List α) : l.dropWhile p = l.drop (l.takeWhile p).length := by
 have h := List.drop_left (l₁ := l.takeWhile p) (l₂ := l.dropWhile p)
 rw [List.takeWhile_append_dropWhile] at h
 exact h.symm
end Go.Proofs.YtehaodbheifokaaGreatDoor.P
end
section
namespace Go.Proofs.YtehaodbheifokaaGreatDoor.P
open Go Go.RowKit Go.Proofs.YtehaodbheifokaaGreatDoorW.PrintWords Go.Proofs.YtehaodbheifokaaGreatDoorW.PrintLast
theorem blank_ascii : ∀ (j : Nat) b, blankL[j]? = some b → b.toNat < 128 := fun j b h => by
 have hall : ∀ b ∈ blankL, b.toNat < 128 := by decide
 exact hall b (List.mem_iff_getElem?.2 ⟨j, h⟩)
theorem blank_lt : ∀ b ∈ ((⟨#[9, 10, 13, 32]⟩ : ByteArray)).data.toList, b.toNat < 128 := by decide
theorem bytesAt_tail {w : World} {b o : Nat} {x : UInt8} {t : List UInt8} (h : Lib.BytesAt w (some ⟨b, o, none⟩) (t.length + 1) (x :: t)) : w.cell? ⟨b, o, none⟩ = some (.int .u8 x.toNat) ∧ Lib.BytesAt w (some ⟨b, o + 1, none⟩) t.length t := by
 obtain ⟨b', o', e, hc⟩ := h (by omega)
 cases e
 refine ⟨hc 0 (by omega), fun _ => ⟨b, o + 1, rfl, fun i hi => ?_⟩⟩
 rw [show o + 1 + i = o + (i + 1) by omega, hc (i + 1) (by omega)]
 rfl
theorem contains_calls49 (g : Nat) (x : UInt8) (w : World) (h : w.cell? ⟨g, x.toNat, none⟩ = some (.bool (isB x))) : Calls Tryz.prog 156 #[.pointer (some ⟨g, 0, none⟩), .int .u8 x.toNat] w fun e w' => e = .returned (.bool (isB x)) ∧ w' = w :=
 Any.bytes_asciiSet_contains Tryz.laysV16 g x (isB x) w h
theorem trimAscii_some (b o c g : Nat) (rem t : List UInt8) (w : World) (hc : rem.length ≤ c) (hm : rem.length ≤ 9223372036854775807) (h1 : Lib.BytesAt w (some ⟨b, o, none⟩) rem.length rem) (ht : rem.dropWhile isB = t) (h : t ≠ [])
  (hset : ∀ x : UInt8, w.cell? ⟨g, x.toNat, none⟩ = some (.bool (isB x))) :
  Calls Tryz.prog 151 #[.slice (some ⟨b, o, none⟩) rem.length c, .pointer (some ⟨g, 0, none⟩)] w fun e w' => e = .returned (.slice (some ⟨b, o + (rem.length - t.length), none⟩) t.length (c - (rem.length - t.length))) ∧ w' = w := by
 have HS := Aside0.mk hset
 have H1 := Aside0.mk h1
 have HT := Aside0.mk ht
 clear hset h1 ht
 go_enter Tryz.func151, Tryz.ntmps151
 go_wp2
 go_loopg [0] rem.length (fun k s0 wr => ∃ (rest : List UInt8) (j : Nat), j + rest.length = rem.length ∧ rest.length ≤ k ∧ s0 = .slice (some ⟨b, o + j, none⟩) rest.length (c - j) ∧ wr = w ∧ Aside0 (Lib.BytesAt w (some ⟨b, o + j, none⟩) rest.length rest) ∧ Aside0 (rest.dropWhile isB = t))
 case atStart => exact ⟨rem, 0, by omega, by omega, by simp, rfl, H1, HT⟩
 case round =>
  obtain ⟨rest, j, hj, hk, rfl, rfl, hb, hd⟩ := hrel
  cases rest with
  | nil => exact absurd hd.out.symm h
  | cons x r =>
   obtain ⟨hcx, hbr⟩ := bytesAt_tail (x := x) (t := r) hb.out
   have HBR := Aside0.mk hbr
   have hx := HS.out x
   rw [List.length_cons] at *
   have hcj : r.length + 1 ≤ c - j := by omega
   cases hbx : isB x with
   | false =>
    have e : x :: r = t := by
     have := hd.out
     rwa [List.dropWhile_cons_of_neg (by rw [hbx]; simp)] at this
    have hjl : rem.length - t.length = j := by rw [← e, List.length_cons]; omega
    have hl : t.length = r.length + 1 := by rw [← e, List.length_cons]
    have HJL := Aside0.mk hjl
    have HTL := Aside0.mk hl
    clear hbr hd hb hjl hl e
    go_wp2_with (go_at_call 156; refine (contains_calls49 g x _ hx).mono ?_; rintro e w' ⟨rfl, hw⟩; rw [hw, hbx])
    go_ret
    exact ⟨by rw [HJL.out, HTL.out]; rfl, rfl⟩
   | true =>
    have hd2 : r.dropWhile isB = t := by
     have := hd.out
     rwa [List.dropWhile_cons_of_pos hbx] at this
    have HD := Aside0.mk hd2
    have hr : r ≠ [] := by rintro rfl; exact h hd2.symm
    have hr0 : 0 < r.length := List.length_pos_iff.2 hr
    have hne : ¬ c - j = 1 := by omega
    clear hbr hd hb hd2 hr
    go_wp2_with (go_at_call 156; refine (contains_calls49 g x _ hx).mono ?_; rintro e w' ⟨rfl, hw⟩; rw [hw, hbx])
    go_roundg r.length
    case measure => omega
    case rel => exact ⟨r, j + 1, by omega, by omega, by simp; omega, rfl, HBR, HD⟩
theorem trimAscii_none (p0 : Option Addr) (c g : Nat) (rem : List UInt8) (w : World) (hc : rem.length ≤ c) (hm : rem.length ≤ 9223372036854775807) (h1 : Lib.BytesAt w p0 rem.length rem) (ht : rem.dropWhile isB = [])
  (hset : ∀ x : UInt8, w.cell? ⟨g, x.toNat, none⟩ = some (.bool (isB x))) :
  Calls Tryz.prog 151 #[.slice p0 rem.length c, .pointer (some ⟨g, 0, none⟩)] w fun e w' => e = .returned (.slice none 0 0) ∧ w' = w := by
 have HS := Aside0.mk hset
 have H1 := Aside0.mk h1
 have HT := Aside0.mk ht
 clear hset h1 ht
 go_enter Tryz.func151, Tryz.ntmps151
 go_wp2
 go_loopg [0] rem.length (fun k s0 wr => ∃ (p : Option Addr) (rest : List UInt8) (cc : Nat), rest.length ≤ cc ∧ rest.length ≤ k ∧ rest.length ≤ rem.length ∧ s0 = .slice p rest.length cc ∧ wr = w ∧ Aside0 (Lib.BytesAt w p rest.length rest) ∧ Aside0 (rest.dropWhile isB = []))
 case atStart => exact ⟨p0, rem, c, hc, Nat.le_refl _, Nat.le_refl _, rfl, rfl, H1, HT⟩
 case round =>
  obtain ⟨p, rest, cc, hcc, hk, hrl, rfl, rfl, hb, hd⟩ := hrel
  cases rest with
  | nil =>
   go_wp2
   go_ret
   exact ⟨rfl, rfl⟩
  | cons x r =>
   obtain ⟨b, o, rfl, hcell⟩ := hb.out (by simp)
   obtain ⟨hcx, hbr⟩ := bytesAt_tail (x := x) (t := r) hb.out
   have HBR := Aside0.mk hbr
   have hx := HS.out x
   rw [List.length_cons] at *
   have hbx : isB x = true := by
    cases hbx : isB x with
    | true => rfl
    | false =>
     have := hd.out
     rw [List.dropWhile_cons_of_neg (by rw [hbx]; simp)] at this
     cases this
   have hd2 : r.dropWhile isB = [] := by
    have := hd.out
    rwa [List.dropWhile_cons_of_pos hbx] at this
   have HD := Aside0.mk hd2
   clear hbr hd hb hd2 hcell
   by_cases hc1 : cc = 1
   ·subst hc1
    obtain rfl : r = [] := List.length_eq_zero_iff.1 (by omega)
    rw [List.length_nil] at *
    go_wp2_with (go_at_call 156; refine (contains_calls49 g x _ hx).mono ?_; rintro e w' ⟨rfl, hw⟩; rw [hw, hbx])
    go_roundg 0
    case measure => omega
    case rel => exact ⟨_, [], 0, Nat.le_refl _, Nat.le_refl _, by simp, rfl, rfl, Aside0.mk (fun h0 => absurd h0 (Nat.lt_irrefl _)), HD⟩
   ·go_wp2_with (go_at_call 156; refine (contains_calls49 g x _ hx).mono ?_; rintro e w' ⟨rfl, hw⟩; rw [hw, hbx])
    go_roundg r.length
    case measure => omega
    case rel => exact ⟨some ⟨b, o + 1, none⟩, r, cc - 1, by omega, Nat.le_refl _, by omega, by simp, rfl, HBR, HD⟩
theorem trimLeft_of (pa : Option Addr) (m c : Nat) (rem : List UInt8) (w : World) (v : Value) (hm : rem.length = m) (h0 : 0 < m)
  (hT : ∀ g W, Below w.heap.size w W → (∀ x : UInt8, W.cell? ⟨g, x.toNat, none⟩ = some (.bool (isB x))) → Calls Tryz.prog 151 #[.slice pa m c, .pointer (some ⟨g, 0, none⟩)] W fun e w' => e = .returned v ∧ w' = W) :
  Calls Tryz.prog 136 #[.slice pa m c, .string ⟨#[9, 10, 13, 32]⟩] w fun e w' => e = .returned v ∧ Below w.heap.size w w' := by
 obtain ⟨cs, hcs⟩ : ∃ cs : ByteArray, cs = ⟨#[9, 10, 13, 32]⟩ := ⟨_, rfl⟩
 have hbl : cs.data.toList = blankL := by rw [hcs]; rfl
 have hs4 : cs.size = 4 := by rw [hcs]; rfl
 rw [← hcs]
 clear hcs
 have hM := Any.bytes_makeASCIISet Tryz.laysV11 (zero_of_info info63).1 (zero_of_info info63).2 cs w (by omega) (by rw [hbl]; exact blank_ascii)
 simp only [Tryz.laysV11_ren] at hM
 have hemp := blanks_not_empty (cs := cs) (by omega)
 have hn1 : ((cs.size : Int) == 1) = false := beq_eq_false_iff_ne.2 (by omega)
 have hn2 : ((m : Int) == 0) = false := beq_eq_false_iff_ne.2 (by omega)
 have hsc : (storeCells ⟨w.heap.size + 1, 0, none⟩ (Lib.setCells cs.data.toList).toList 0).run Tryz.prog ((w.alloc (.cells (Lib.setCells cs.data.toList) 177)).alloc (.cells Tryz.zeroCells177 177)) = .ok () ((w.alloc (.cells (Lib.setCells cs.data.toList) 177)).alloc (.cells (Lib.setCells cs.data.toList) 177)) := by
  have := run_storeCells_new (P := Tryz.prog) (w.alloc (.cells (Lib.setCells cs.data.toList) 177)) 177 Tryz.zeroCells177 (Lib.setCells cs.data.toList) (by rw [Lib.setCells_size]; exact (zero_of_info info63).2) (by rw [Lib.setCells_size, Tryz.zeroCells177_size]) (Lib.setCells_one _)
  simpa using this
 have hsz := Lib.setCells_size cs.data.toList
 have hB2 : Below w.heap.size w ((w.alloc (.cells (Lib.setCells cs.data.toList) 177)).alloc (.cells (Lib.setCells cs.data.toList) 177)) := ((Below.refl _ _).alloc (Nat.le_refl _) _).alloc (by simp) _
 have hT2 := Aside0.mk (hT (w.heap.size + 1) _ hB2 (fun x => by
  rw [World.cell?_alloc_at _ _ _ _ (by simp), Lib.setCells_at, hbl]
  rfl))
 have HB := Aside0.mk hB2
 clear hB2 hT hbl hs4
 go_enter Tryz.func136, Tryz.ntmps136
 go_wp2_with (first
  | (go_at_call 150; refine hM.mono ?_; rintro e w' ⟨rfl, hw⟩; rw [hw])
  | (go_at_call 151; refine hT2.out.mono ?_; rintro e w' ⟨rfl, hw⟩; rw [hw]))
 go_ret
 exact ⟨rfl, HB.out⟩
theorem trimLeft_nil (pa : Option Addr) (c : Nat) (w : World) : Calls Tryz.prog 136 #[.slice pa 0 c, .string ⟨#[9, 10, 13, 32]⟩] w fun e w' => e = .returned (.slice none 0 0) ∧ Below w.heap.size w w' := by
 go_enter Tryz.func136, Tryz.ntmps136
 go_wp2
 go_ret
 exact ⟨rfl, Below.refl _ _⟩
theorem trim_none (pa : Option Addr) (m c : Nat) (rem : List UInt8) (w : World) (hm : rem.length = m) (hc : m ≤ c) (hbig : m ≤ 9223372036854775807) (h1 : Lib.BytesAt w pa m rem) (h : rem.dropWhile isB = []) :
  Calls Tryz.prog 136 #[.slice pa m c, .string ⟨#[9, 10, 13, 32]⟩] w fun e w' => e = .returned (.slice none 0 0) ∧ Below w.heap.size w w' := by
 by_cases h0 : m = 0
 ·rw [h0]
  exact trimLeft_nil pa c w
 ·subst hm
  exact trimLeft_of pa rem.length c rem w _ rfl (by omega) (fun g W hB hset => trimAscii_none pa c g rem W hc hbig (h1.below hB) h hset)
theorem trim_some (pa : Option Addr) (m c : Nat) (rem t : List UInt8) (w0 w : World) (hm : rem.length = m) (hc : m ≤ c) (hbig : m ≤ 9223372036854775807) (h1 : Lib.BytesAt w0 pa m rem) (hB : Below w0.heap.size w0 w) (ht : rem.dropWhile isB = t) (h : t ≠ []) :
  ∃ b o c', t.length ≤ c' ∧ Lib.BytesAt w0 (some ⟨b, o, none⟩) t.length t ∧
  Calls Tryz.prog 136 #[.slice pa m c, .string ⟨#[9, 10, 13, 32]⟩] w fun e w' => e = .returned (.slice (some ⟨b, o, none⟩) t.length c') ∧ Below w.heap.size w w' := by
 subst hm
 have hl : 0 < t.length := List.length_pos_iff.2 h
 have hle : t.length ≤ rem.length := by rw [← ht]; exact dropWhile_le isB rem
 have h1' := h1
 obtain ⟨b, o, rfl, hcell⟩ := h1 (by omega)
 have hd : t = rem.drop (rem.length - t.length) := by
  have h3 := take_drop isB rem
  have h4 := dropWhile_drop' isB rem
  rw [ht] at h3 h4
  rw [show rem.length - t.length = (rem.takeWhile isB).length by omega]
  exact h4
 refine ⟨b, o + (rem.length - t.length), c - (rem.length - t.length), by omega, fun _ => ⟨b, _, rfl, fun i hi => ?_⟩, ?_⟩
 ·rw [Nat.add_assoc, hcell (rem.length - t.length + i) (by omega)]
  congr 3
  conv => rhs; rw [hd]
  rw [getD_drop]
 ·exact trimLeft_of _ rem.length c rem w _ rfl (by omega) (fun g W hB2 hset => trimAscii_some b o c g rem t W hc hbig (h1'.below (hB.trans (hB2.mono hB.size))) ht h hset)
end Go.Proofs.YtehaodbheifokaaGreatDoor.P
end
section
namespace Go.Proofs.YtehaodbheifokaaGreatDoor.P
open Go Go.RowKit Go.Shelf Go.Proofs.YtehaodbheifokaaGreatDoorW.PrintWords Go.Proofs.YtehaodbheifokaaGreatDoorW.PrintLast
attribute [local go_sem] Oper.semAt_some
theorem grown_of_below {w w' : World} (h : Below w.heap.size w w') : w.grownBy w' none := ⟨h.os, h.tape, h.output, h.size, fun k hk _ => h.block k hk⟩
theorem conv_take (b o k c : Nat) (t : List UInt8) (w : World) (hk : k ≤ t.length) (h1 : Lib.BytesAt w (some ⟨b, o, none⟩) t.length t) (h0 : 0 < t.length) :
  (convert 25 9 (.slice (some ⟨b, o, none⟩) k c)).run Tryz.prog w = .ok (.string ⟨(t.take k).toArray⟩) w := by
 obtain ⟨b', o', e, hc⟩ := h1 h0
 cases e
 have h := run_convert_bytes_arg (P := Tryz.prog) w 25 5 (Tryz.underlying25) (Tryz.underlying5) b o k c ((t.take k).map fun x => (x.toNat : Int)) (by simp; omega) (fun i hi => by
  rw [hc i (by omega)]
  simp [List.getD, List.getElem?_map, List.getElem?_take, hi]
  cases t[i]? <;> rfl) 9 Tryz.underlying9
 rw [h]
 have e : strOfNums ((t.take k).map fun x => (x.toNat : Int)) = ⟨(t.take k).toArray⟩ := by
  apply ByteArray.ext
  apply Array.toList_inj.1
  rw [strOfNums_data, List.map_map]
  show _ = t.take k
  conv => rhs; rw [← List.map_id (t.take k)]
  apply List.map_congr_left
  intro x _
  simp
 rw [e]
theorem idx_calls (b o c : Nat) (t : List UInt8) (w0 w : World) (h0 : 0 < t.length) (hc : t.length ≤ c) (hbig : t.length ≤ 9223372036854775807) (h1 : Lib.BytesAt w0 (some ⟨b, o, none⟩) t.length t) (hB : Below w0.heap.size w0 w) (hx : FieldIn w0) :
  Calls Tryz.prog 137 #[.slice (some ⟨b, o, none⟩) t.length c, .string ⟨#[9, 10, 13, 32]⟩] w fun e w' => e = .returned (.int .i64 (Lib.indexAny t blankL)) ∧ Below w.heap.size w w' :=
 bytes_IndexAny b o t.length c t ⟨#[9, 10, 13, 32]⟩ w rfl h0 hc hbig (h1.below hB) (by decide) (by decide) blank_lt (hx.below hB)
theorem bytesAt_drop {w : World} {b o q : Nat} {t : List UInt8} (h : Lib.BytesAt w (some ⟨b, o, none⟩) t.length t) (hq : q ≤ t.length) : Lib.BytesAt w (some ⟨b, o + q, none⟩) (t.length - q) (t.drop q) := fun h0 => by
 obtain ⟨b', o', e, hc⟩ := h (by omega)
 cases e
 exact ⟨b, o + q, rfl, fun i hi => by rw [Nat.add_assoc, hc (q + i) (by omega), getD_drop]⟩
def lenV : Value → Nat
 | .slice _ m _ => m
 | _ => 0
abbrev encB (x : ByteArray) : Array Value := #[.string x]
theorem words1_in (n : Nat) (hn : 1 ≤ n) (l B : Nat) (w0 : World) (A : Option Addr) (c : Nat) (bs : List UInt8) (hcc : bs.length ≤ c) (hbig : bs.length ≤ 9223372036854775807) (hX : FieldIn w0) (hL : Lib.BytesAt w0 A bs.length bs)
  (J Jx : List ByteArray → World → Prop) (W : World) (hB0 : Below w0.heap.size w0 W) (hJ : AbidesFrom W.heap.size J)
  (hY : ∀ pre x W1, J pre W1 → (pre ++ [x]) <+: wordsL bs → YieldAt Fence.wide (n - 1) Tryz.prog l (encB x) W1 fun e W' =>
   (e = .returned (.bool true) ∧ J (pre ++ [x]) W' ∧ Below w0.heap.size W1 W') ∨ (e = .returned (.bool false) ∧ Jx (pre ++ [x]) W'))
  (hBx : W.heap[B]? = some (.cells #[.slice A bs.length c] 25 (0, 0))) (h0 : J [] W) :
  CallsIn Fence.wide n Tryz.prog 135 #[.func (.yield l) #[] #[], .pointer (some ⟨B, 0, none⟩)] W fun e W' => (∃ v, e = .returned v) ∧
   ((∃ ys, ys = wordsL bs ∧ J ys W') ∨ (∃ pre, pre <+: wordsL bs ∧ Jx pre W')) := by
 refine callsIn_of_wp Tryz.func135 rfl trivial ?_ rfl
 simp only [Tryz.ntmps135, List.size_toArray, List.length_cons, List.length_nil, Nat.reduceAdd, Nat.reduceSub, Array.replicate_succ, Array.replicate_zero, List.push_toArray, List.append_toArray, List.nil_append, List.cons_append]
 have hc0 : W.cell? ⟨B, 0, none⟩ = some (.slice A bs.length c) := (blk_cell hBx 0).trans rfl
 have HY := Aside0.mk hY
 have HJ := Aside0.mk hJ
 have HX := Aside0.mk hX
 have HL := Aside0.mk hL
 clear hY hJ hX hL
 gi_wp2
 gi_loopw [3] (fun v wr => ∃ (pa : Option Addr) (cc : Nat) (rem : List UInt8) (pre : List ByteArray), v = .slice pa rem.length cc ∧ rem.length ≤ cc ∧ rem.length ≤ 9223372036854775807 ∧ Aside0 (Lib.BytesAt w0 pa rem.length rem) ∧ Aside0 (J pre wr) ∧ Aside0 (Below w0.heap.size w0 wr) ∧ Aside0 (wordsL bs = pre ++ wordsL rem)) (fun v _ => lenV v)
 case atStart => exact ⟨A, c, bs, [], rfl, hcc, hbig, HL, Aside0.mk h0, Aside0.mk hB0, Aside0.mk rfl⟩
 case round =>
  obtain ⟨pa, cc, rem, pre, rfl, hc1, hc2, hRL, hJs, hnx, hW⟩ := hrel
  by_cases hd : rem.dropWhile isB = []
  ·have hT := Aside0.mk (trim_none pa rem.length cc rem wr rfl hc1 hc2 (hRL.out.below hnx.out) hd)
   have hW2 : Aside0 (wordsL bs = pre) := Aside0.mk (by rw [hW.out, wordsL_none hd, List.append_nil])
   clear hd
   gi_wp2_with (refine ⟨trivial, ?_⟩; gi_at_call 136; refine (callsIn_wide.2 hT.out).mono ?_; rintro e w1 ⟨rfl, hb1⟩; have hB1 := Aside0.mk hb1; clear hb1)
   refine bodyPost_ret (results_none rfl _ _ _) rfl ?_
   exact ⟨⟨_, rfl⟩, .inl ⟨_, hW2.out.symm, HJ.out _ _ _ _ hJs.out (grown_of_below hB1.out) (fun r e => by cases e)⟩⟩
  ·obtain ⟨t, ht⟩ : ∃ t, rem.dropWhile isB = t := ⟨_, rfl⟩
   have hw := wordsL_some hd
   have hf := first_word hd
   have hlt := rest_lt hd
   rw [ht] at hd hw hf hlt
   have hl : 0 < t.length := List.length_pos_iff.2 hd
   have hle1 := dropWhile_le isB rem
   rw [ht] at hle1
   obtain ⟨b, o, c', hc1', hTL, hT⟩ := trim_some pa rem.length cc rem t w0 wr rfl hc1 hc2 hRL.out hnx.out ht hd
   have HT := Aside0.mk hT
   have HTL := Aside0.mk hTL
   have HW := Aside0.mk hw
   clear hw hT hTL hd ht
   have hd2 := dropWhile_drop' nB t
   have htw := takeWhile_take nB t
   obtain ⟨q, hq⟩ : ∃ q, (t.takeWhile nB).length = q := ⟨_, rfl⟩
   have hqn : (t.takeWhile nB).length ≤ t.length := (List.takeWhile_prefix nB).length_le
   rw [hq] at hd2 htw hf hqn
   rw [hd2] at hlt
   obtain ⟨x, hx⟩ : ∃ x : ByteArray, x = ⟨(t.take q).toArray⟩ := ⟨_, rfl⟩
   rw [htw, hd2, ← hx] at HW
   have HI := fun W hB => Aside0.mk (idx_calls b o c' t w0 W hl hc1' (by omega) HTL.out hB HX.out)
   have hpl : (pre ++ [x]) <+: wordsL bs := ⟨wordsL (t.drop q), by rw [hW.out, HW.out]; simp⟩
   have hWx : Aside0 (wordsL bs = (pre ++ [x]) ++ wordsL (t.drop q)) := Aside0.mk (by rw [hW.out, HW.out]; simp)
   have hcd : Aside0 (q < t.length → Lib.BytesAt w0 (some ⟨b, o + q, none⟩) (t.length - q) (t.drop q)) := Aside0.mk (fun hlt2 => bytesAt_drop HTL.out (Nat.le_of_lt hlt2))
   have hdl : (t.drop q).length = t.length - q := List.length_drop
   have HXE := Aside0.mk hx
   clear hd2 HW hx
   by_cases hqt : q < t.length
   ·have hidx := indexAny_word (t := t) (by rw [hq]; exact hqt)
    rw [hq] at hidx
    rw [hidx] at HI
    have HLT := Aside0.mk hlt
    have HF := Aside0.mk hf
    have HDL := Aside0.mk hdl
    clear hidx htw hq hlt hdl
    have hqc : ¬ c' = q := by omega
    gi_wp2_with (first
     | (refine ⟨trivial, ?_⟩; gi_at_call 136; refine (callsIn_wide.2 HT.out).mono ?_; rintro e w1 ⟨rfl, hb1⟩; have hB1 := Aside0.mk (hnx.out.trans (hb1.mono hnx.out.size)); have hJ1 := Aside0.mk (HJ.out _ _ _ _ hJs.out (grown_of_below hb1) (fun r e => by cases e)); clear hb1)
     | (refine ⟨trivial, ?_⟩; gi_at_call 137; refine (callsIn_wide.2 (HI _ hB1.out).out).mono ?_; rintro e w2 ⟨rfl, hb2⟩; have hB2 := Aside0.mk (hB1.out.trans (hb2.mono hB1.out.size)); have hJ2 := Aside0.mk (HJ.out _ _ _ _ hJ1.out (grown_of_below hb2) (fun r e => by cases e)); clear hb2; obtain ⟨fn, tmps, assign, body, hy, hR⟩ := HY.out pre x w2 hJ2.out hpl; have HR := Aside0.mk hR; clear hR; have hcv := conv_take b o q c' t w2 hqn (HTL.out.below hB2.out) hl; rw [← HXE.out] at hcv; dsimp only [encB] at hy))
    refine HR.out.mono ?_
    rintro e W3 (⟨rfl, hJ3, hk3⟩ | ⟨rfl, hJx3⟩)
    ·gi_wp2
     go_roundw
     case rel => exact ⟨_, _, t.drop q, pre ++ [x], by rw [HDL.out], by rw [HDL.out]; omega, by rw [HDL.out]; omega, by rw [HDL.out]; exact Aside0.mk (hcd.out hqt), Aside0.mk hJ3, Aside0.mk (hB2.out.trans (hk3.mono (Nat.le_refl _))), hWx⟩
     case measure =>
      have := HLT.out
      rw [HDL.out] at this
      simpa [lenV] using this
    ·gi_wp2
     refine bodyPost_ret (results_none rfl _ _ _) rfl ?_
     exact ⟨⟨_, rfl⟩, .inr ⟨_, ⟨_, hWx.out.symm⟩, hJx3⟩⟩
   ·obtain rfl : q = t.length := by omega
    have hidx := indexAny_noword (t := t) hq
    rw [hidx] at HI
    have HLT := Aside0.mk hlt
    have HDL := Aside0.mk hdl
    clear hidx htw hq hlt hdl hqt
    by_cases hct : c' = t.length
    ·subst hct
     gi_wp2_with (first
      | (refine ⟨trivial, ?_⟩; gi_at_call 136; refine (callsIn_wide.2 HT.out).mono ?_; rintro e w1 ⟨rfl, hb1⟩; have hB1 := Aside0.mk (hnx.out.trans (hb1.mono hnx.out.size)); have hJ1 := Aside0.mk (HJ.out _ _ _ _ hJs.out (grown_of_below hb1) (fun r e => by cases e)); clear hb1)
      | (refine ⟨trivial, ?_⟩; gi_at_call 137; refine (callsIn_wide.2 (HI _ hB1.out).out).mono ?_; rintro e w2 ⟨rfl, hb2⟩; have hB2 := Aside0.mk (hB1.out.trans (hb2.mono hB1.out.size)); have hJ2 := Aside0.mk (HJ.out _ _ _ _ hJ1.out (grown_of_below hb2) (fun r e => by cases e)); clear hb2; obtain ⟨fn, tmps, assign, body, hy, hR⟩ := HY.out pre x w2 hJ2.out hpl; have HR := Aside0.mk hR; clear hR; have hcv := conv_take b o t.length t.length t w2 (Nat.le_refl _) (HTL.out.below hB2.out) hl; rw [← HXE.out] at hcv; dsimp only [encB] at hy))
     refine HR.out.mono ?_
     rintro e W3 (⟨rfl, hJ3, hk3⟩ | ⟨rfl, hJx3⟩)
     ·gi_wp2
      go_roundw
      case rel => exact ⟨_, _, t.drop t.length, pre ++ [x], by rw [HDL.out, Nat.sub_self], by rw [HDL.out]; omega, by rw [HDL.out]; omega, by rw [HDL.out, Nat.sub_self]; exact Aside0.mk (fun h0 => absurd h0 (Nat.lt_irrefl _)), Aside0.mk hJ3, Aside0.mk (hB2.out.trans (hk3.mono (Nat.le_refl _))), hWx⟩
      case measure =>
       have := HLT.out
       rw [HDL.out] at this
       simpa [lenV] using this
     ·gi_wp2
      refine bodyPost_ret (results_none rfl _ _ _) rfl ?_
      exact ⟨⟨_, rfl⟩, .inr ⟨_, ⟨_, hWx.out.symm⟩, hJx3⟩⟩
    ·have hct0 : ¬ c' = t.length := hct
     gi_wp2_with (first
      | (refine ⟨trivial, ?_⟩; gi_at_call 136; refine (callsIn_wide.2 HT.out).mono ?_; rintro e w1 ⟨rfl, hb1⟩; have hB1 := Aside0.mk (hnx.out.trans (hb1.mono hnx.out.size)); have hJ1 := Aside0.mk (HJ.out _ _ _ _ hJs.out (grown_of_below hb1) (fun r e => by cases e)); clear hb1)
      | (refine ⟨trivial, ?_⟩; gi_at_call 137; refine (callsIn_wide.2 (HI _ hB1.out).out).mono ?_; rintro e w2 ⟨rfl, hb2⟩; have hB2 := Aside0.mk (hB1.out.trans (hb2.mono hB1.out.size)); have hJ2 := Aside0.mk (HJ.out _ _ _ _ hJ1.out (grown_of_below hb2) (fun r e => by cases e)); clear hb2; obtain ⟨fn, tmps, assign, body, hy, hR⟩ := HY.out pre x w2 hJ2.out hpl; have HR := Aside0.mk hR; clear hR; have hcv := conv_take b o t.length c' t w2 (Nat.le_refl _) (HTL.out.below hB2.out) hl; rw [← HXE.out] at hcv; dsimp only [encB] at hy))
     refine HR.out.mono ?_
     rintro e W3 (⟨rfl, hJ3, hk3⟩ | ⟨rfl, hJx3⟩)
     ·gi_wp2
      go_roundw
      case rel => exact ⟨_, _, t.drop t.length, pre ++ [x], by rw [HDL.out, Nat.sub_self], by rw [HDL.out]; omega, by rw [HDL.out]; omega, by rw [HDL.out, Nat.sub_self]; exact Aside0.mk (fun h0 => absurd h0 (Nat.lt_irrefl _)), Aside0.mk hJ3, Aside0.mk (hB2.out.trans (hk3.mono (Nat.le_refl _))), hWx⟩
      case measure =>
       have := HLT.out
       rw [HDL.out] at this
       simpa [lenV] using this
     ·gi_wp2
      refine bodyPost_ret (results_none rfl _ _ _) rfl ?_
      exact ⟨⟨_, rfl⟩, .inr ⟨_, ⟨_, hWx.out.symm⟩, hJx3⟩⟩
abbrev encP {P : ByteArray → Prop} (x : {x : ByteArray // P x}) : Array Value := #[.string x.val]
theorem words_stops (P : ByteArray → Prop) (n : Nat) (hn : 1 ≤ n) (B : Nat) (w0 w : World) (A : Option Addr) (c : Nat) (bs : List UInt8) (hcc : bs.length ≤ c) (hbig : bs.length ≤ 9223372036854775807) (hX : FieldIn w0) (hL : Lib.BytesAt w0 A bs.length bs)
  (hP : ∀ x ∈ wordsL bs, P x) (hB0 : Below w0.heap.size w0 w) (hBl : B < w.heap.size) (hBx : w.heap[B]? = some (.cells #[.slice A bs.length c] 25 (0, 0))) :
  SeqStopsK Fence.wide n Tryz.prog 135 #[.pointer (some ⟨B, 0, none⟩)] (encP (P := P)) (Below w0.heap.size) (fun ys => ys.map Subtype.val = wordsL bs) (fun pre => pre.map Subtype.val <+: wordsL bs) ((wordsL bs).length + 1) w := fun l J Jx W hW hJ _ hY h0 => by
 refine (words1_in n hn l B w0 A c bs hcc hbig hX hL (fun pre W => ∃ p : List {x : ByteArray // P x}, p.map Subtype.val = pre ∧ J p W) (fun pre W => ∃ p : List {x : ByteArray // P x}, p.map Subtype.val = pre ∧ Jx p W) W (hB0.trans (hW.mono hB0.size)) ?_ ?_ ((hW.block B hBl).trans hBx) ⟨[], rfl, h0⟩).mono ?_
 ·rintro s X Y row ⟨p, hp, hs⟩ hg hr
  exact ⟨p, hp, hJ p X Y row hs hg hr⟩
 ·rintro pre x W1 ⟨p, rfl, hs⟩ hpre
  have hx : P x := hP x (hpre.subset (by simp))
  have hlen := hpre.length_le
  simp only [List.length_append, List.length_map, List.length_singleton] at hlen
  refine (hY p ⟨x, hx⟩ W1 hs (by omega)).mono ?_
  rintro e W' (⟨he, h2, h3⟩ | ⟨he, h2⟩)
  ·exact .inl ⟨he, ⟨p ++ [⟨x, hx⟩], by simp, h2⟩, h3⟩
  ·exact .inr ⟨he, ⟨p ++ [⟨x, hx⟩], by simp, h2⟩⟩
 ·rintro e W' ⟨he, ⟨ys, rfl, p, hp, hj⟩ | ⟨pre, hpre, p, rfl, hj⟩⟩
  ·exact ⟨he, .inl ⟨p, hp, hj⟩⟩
  ·exact ⟨he, .inr ⟨p, hpre, hj⟩⟩
theorem words_in (n : Nat) (A : Option Addr) (len c : Nat) (w : World) :
  CallsIn Fence.wide n Tryz.prog 113 #[.slice A len c] w fun e w' => e = .returned (.func (.func 135) #[] #[.pointer (some ⟨w.heap.size, 0, none⟩)]) ∧ w' = w.alloc (.cells #[.slice A len c] 25) := by
 refine callsIn_of_wp Tryz.func113 rfl trivial ?_ rfl
 simp only [Tryz.ntmps113, List.size_toArray, List.length_cons, List.length_nil, Nat.reduceAdd, Nat.reduceSub, Array.replicate_succ, Array.replicate_zero, List.push_toArray, List.append_toArray, List.nil_append, List.cons_append]
 gi_wp2
 go_ret
 exact ⟨rfl, rfl⟩
end Go.Proofs.YtehaodbheifokaaGreatDoor.P
end
end
section
namespace Go.Proofs.YtehaodbheifokaaGreatDoor.P
open Go Go.RowKit Go.Proofs.YtehaodbheifokaaGreatDoorW.PrintWords Go.Proofs.YtehaodbheifokaaGreatDoorW.PrintLast
def strings_Cut.f (s sep : ByteArray) : Option (ByteArray × ByteArray × Bool) :=
 if s.size < 4294967281 then some (⟨(Lib.cut s.data.toList sep.data.toList).1.toArray⟩, ⟨(Lib.cut s.data.toList sep.data.toList).2.1.toArray⟩, (Lib.cut s.data.toList sep.data.toList).2.2) else none
theorem strings_Cut.calls (s sep : ByteArray) (r1 r2 : ByteArray) (r3 : Bool) (w : World) (h : strings_Cut.f s sep = some (r1, r2, r3)) (hx : FieldIn w := by exact FieldIn.go (by assumption) (by assumption)) :
  Calls Tryz.prog 138 #[.string s, .string sep] w fun e w' => e = .returned (.tuple #[.string r1, .string r2, .bool r3]) ∧ Drawn0 w w' := by
 unfold strings_Cut.f at h
 by_cases hs : s.size < 4294967281
 case neg => rw [if_neg hs] at h; cases h
 rw [if_pos hs] at h
 cases h
 obtain ⟨m, hm⟩ := hx.max
 refine (Tryz.strings_Cut s sep m w hs hm).mono ?_
 rintro e w' ⟨rfl, n, rfl⟩
 exact ⟨rfl, n, rfl⟩
def field_Number.f (t : ByteArray) : Option (Int × Bool) :=
 if t.size ≤ 281474976710656 then
  match Lib.atoiAll t.data.toList with
  | .ok v => (strconv_Itoa.f v).bind fun s => some (if s = t then (v, true) else (0, false))
  | _ => some (0, false)
 else none
theorem number_ok (t s : ByteArray) (v : Int) (w : World) (hsz : t.size ≤ 281474976710656) (h : Lib.atoiAll t.data.toList = .ok v) (hs : strconv_Itoa.f v = some s) (hx : FieldIn w) :
  Calls Tryz.prog 139 #[.string t] w fun e w' => e = .returned (.tuple #[.int .i64 (if s = t then v else 0), .bool (decide (s = t))]) ∧ Below w.heap.size w w' := by
 by_cases hst : s = t
 ·subst hst
  rw [if_pos rfl, decide_eq_true rfl]
  go_enter Tryz.func139, Tryz.ntmps139
  go_wp2_with (first
   | (go_at_call 160; refine (Tryz.strconv_Atoi_ok s (by omega) v h _).mono ?_; rintro e w1 ⟨rfl, hw1⟩; have hb1 : Below w.heap.size w w1 := (by rcases hw1 with rfl | ⟨q, rfl⟩; exact Below.refl _ _; exact Lib.bytesWorld_below _ _ _))
   | (go_at_call 96; refine (strconv_Itoa.calls v s _ hs (hx.below hb1)).mono ?_; rintro e w2 ⟨rfl, hb2⟩))
  go_ret2
  exact ⟨rfl, hb1.trans (hb2.mono hb1.size)⟩
 ·have hne : (s.toList == t.toList) = false := beq_eq_false_iff_ne.mpr (fun e => hst (by
   rw [Lib.toList_data, Lib.toList_data] at e
   exact ByteArray.ext (Array.toList_inj.1 e)))
  rw [if_neg hst, decide_eq_false hst]
  clear hst
  go_enter Tryz.func139, Tryz.ntmps139
  go_wp2_with (first
   | (go_at_call 160; refine (Tryz.strconv_Atoi_ok t (by omega) v h _).mono ?_; rintro e w1 ⟨rfl, hw1⟩; have hb1 : Below w.heap.size w w1 := (by rcases hw1 with rfl | ⟨q, rfl⟩; exact Below.refl _ _; exact Lib.bytesWorld_below _ _ _))
   | (go_at_call 96; refine (strconv_Itoa.calls v s _ hs (hx.below hb1)).mono ?_; rintro e w2 ⟨rfl, hb2⟩))
  go_ret2
  exact ⟨rfl, hb1.trans (hb2.mono hb1.size)⟩
theorem number_bad (t : ByteArray) (u : Int) (w : World) (te : Nat) (hA : Calls Tryz.prog 160 #[.string t] w fun e w' => (∃ pe, e = .returned (.tuple #[.int .i64 u, .iface te pe])) ∧ Below w.heap.size w w') :
  Calls Tryz.prog 139 #[.string t] w fun e w' => e = .returned (.tuple #[.int .i64 0, .bool false]) ∧ Below w.heap.size w w' := by
 go_enter Tryz.func139, Tryz.ntmps139
 go_wp2_with (go_at_call 160; refine hA.mono ?_; rintro e w1 ⟨⟨pe, rfl⟩, hb1⟩)
 go_ret2
 exact ⟨rfl, hb1⟩
theorem field_Number.calls (t : ByteArray) (r1 : Int) (r2 : Bool) (w : World) (h : field_Number.f t = some (r1, r2)) (hx : FieldIn w := by exact FieldIn.go (by assumption) (by assumption)) :
  Calls Tryz.prog 139 #[.string t] w fun e w' => e = .returned (.tuple #[.int .i64 r1, .bool r2]) ∧ Below w.heap.size w w' := by
 unfold field_Number.f at h
 by_cases hsz : t.size ≤ 281474976710656
 case neg => rw [if_neg hsz] at h; cases h
 rw [if_pos hsz] at h
 cases ha : Lib.atoiAll t.data.toList with
 | ok v =>
  rw [ha] at h
  simp only at h
  obtain ⟨s, hs, h2⟩ := Option.bind_eq_some_iff.1 h
  have := number_ok t s v w hsz ha hs hx
  by_cases hst : s = t
  ·rw [if_pos hst] at h2
   cases h2
   rwa [if_pos hst, decide_eq_true hst] at this
  ·rw [if_neg hst] at h2
   cases h2
   rwa [if_neg hst, decide_eq_false hst] at this
 | range =>
  rw [ha] at h
  cases h
  obtain ⟨te, pe, he⟩ := hx.rng
  exact number_bad t _ w _ ((Tryz.strconv_Atoi_range t hsz ha (.iface te pe) w he (.inr ⟨te, pe, rfl⟩)).mono fun e w' ⟨N, he, _, _, hb⟩ => ⟨⟨_, he⟩, hb⟩)
 | _ =>
  rw [ha] at h
  cases h
  obtain ⟨te, pe, he⟩ := hx.syn
  exact number_bad t 0 w _ ((Tryz.strconv_Atoi_syntax t hsz ha (.iface te pe) w he (.inr ⟨te, pe, rfl⟩)).mono fun e w' ⟨N, he, _, _, hb⟩ => ⟨⟨_, he⟩, hb⟩)
end Go.Proofs.YtehaodbheifokaaGreatDoor.P
end
