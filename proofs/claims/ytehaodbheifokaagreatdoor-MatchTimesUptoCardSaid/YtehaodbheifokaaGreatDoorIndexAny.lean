/- bytes.IndexAny at ASCII chars (two or more), at any bytes. -/
import Derived.Test.YtehaodbheifokaaGreatDoorDec
import Derived.Test.YtehaodbheifokaaGreatDoorFieldIn
import Derived.WalkKit
import Derived.Laws.RangeAny
import Derived.Shelf.Spec.DecodeRune
import Derived.Lib.IndexEntry
import Derived.Lib.Builder
import Derived.Deep.LoopGhost
namespace Go.Proofs.YtehaodbheifokaaGreatDoor.P
open Go Go.RowKit Go.Proofs.YtehaodbheifokaaGreatDoorW.PrintWords Go.Proofs.YtehaodbheifokaaGreatDoorW.PrintLast
set_option linter.unusedVariables false
set_option linter.unusedSimpArgs false

set_option maxRecDepth 100000 in
theorem shouldUse (n : Int) (w : World) : Calls Tryz.prog 155 #[.int .i64 n] w fun e w' => e = .returned (.bool (decide (8 < n))) ∧ w' = w := by
  go_enter Tryz.func155, Tryz.ntmps155
  go_wp2
  go_ret
  exact ⟨rfl, rfl⟩
theorem blanks_not_empty {cs : ByteArray} (h : 2 ≤ cs.size) : cs.toList.isEmpty = false := by
  rw [Lib.toList_data]
  cases e : cs.data.toList with
  | nil => have := Lib.size_eq cs; rw [e, List.length_nil] at this; omega
  | cons _ _ => rfl
theorem info63 : (Tryz.prog.info? 177).map (fun i => (i.zero, i.size)) = some (some (.agg (Array.replicate 256 (.bool false))), 256) := by kernel_rfl

set_option maxHeartbeats 8000000 in
set_option maxRecDepth 1000000 in
/-- More than 8 bytes: by the set. -/
theorem indexAny_long (b o n c : Nat) (bs : List UInt8) (cs : ByteArray) (w : World) (hb : bs.length = n) (hnc : n ≤ c) (hbig : n ≤ 9223372036854775807)
    (h1 : Lib.BytesAt w (some ⟨b, o, none⟩) n bs) (h8 : 8 < n) (h2 : 2 ≤ cs.size) (hcs : cs.size < 4294967281) (hascii : ∀ (j : Nat) b, cs.data.toList[j]? = some b → b.toNat < 128) :
    Calls Tryz.prog 137 #[.slice (some ⟨b, o, none⟩) n c, .string cs] w fun e w' => e = .returned (.int .i64 (Lib.indexAny bs cs.data.toList)) ∧ Below w.heap.size w w' := by
  have hM := Any.bytes_makeASCIISet Tryz.laysV11 (zero_of_info info63).1 (zero_of_info info63).2 cs w hcs hascii
  simp only [Tryz.laysV11_ren] at hM
  clear hascii
  have hemp := blanks_not_empty h2
  have hn1 : ((cs.size : Int) == 1) = false := beq_eq_false_iff_ne.2 (by omega)
  have hn2 : ((n : Int) == 1) = false := beq_eq_false_iff_ne.2 (by omega)
  have h8z : decide ((8 : Int) < (n : Int)) = true := decide_eq_true (by omega)
  have hsc : (storeCells ⟨w.heap.size + 1, 0, none⟩ (Lib.setCells cs.data.toList).toList 0).run Tryz.prog ((w.alloc (.cells (Lib.setCells cs.data.toList) 177)).alloc (.cells Tryz.zeroCells177 177)) = .ok () ((w.alloc (.cells (Lib.setCells cs.data.toList) 177)).alloc (.cells (Lib.setCells cs.data.toList) 177)) := by
    have := run_storeCells_new (P := Tryz.prog) (w.alloc (.cells (Lib.setCells cs.data.toList) 177)) 177 Tryz.zeroCells177 (Lib.setCells cs.data.toList) (by rw [Lib.setCells_size]; exact (zero_of_info info63).2) (by rw [Lib.setCells_size, Tryz.zeroCells177_size]) (Lib.setCells_one _)
    simpa using this
  have hsz := Lib.setCells_size cs.data.toList
  have hcellAt : ∀ x : UInt8, ((w.alloc (.cells (Lib.setCells cs.data.toList) 177)).alloc (.cells (Lib.setCells cs.data.toList) 177)).cell? ⟨w.heap.size + 1, x.toNat, none⟩ = some (.bool (cs.data.toList.contains x)) := fun x => by
    rw [World.cell?_alloc_at _ _ _ _ (by simp), Lib.setCells_at]
  have HC : Aside (∀ x : UInt8, ((w.alloc (.cells (Lib.setCells cs.data.toList) 177)).alloc (.cells (Lib.setCells cs.data.toList) 177)).cell? ⟨w.heap.size + 1, x.toNat, none⟩ = some (.bool (cs.data.toList.contains x))) := hcellAt
  have hB2 : Below w.heap.size w ((w.alloc (.cells (Lib.setCells cs.data.toList) 177)).alloc (.cells (Lib.setCells cs.data.toList) 177)) := ((Below.refl _ _).alloc (Nat.le_refl _) _).alloc (by simp) _
  have h1' := h1.below hB2
  have HB : Aside0 _ := Aside0.mk hB2
  clear hcellAt h1 hB2
  obtain ⟨b', o', hbo, hc⟩ := h1' (by omega)
  cases hbo
  have HBY : Aside _ := hc
  clear hc h1'
  go_enter Tryz.func137, Tryz.ntmps137
  go_wp2_with (first
    | (go_at_call 155; refine (shouldUse _ _).mono ?_; rintro e w' ⟨rfl, hw⟩; rw [hw, h8z])
    | (go_at_call 150; refine hM.mono ?_; rintro e w' ⟨rfl, hw⟩; rw [hw]))
  clear hM hsc
  go_loopg [9, 10, 62] n (fun g _ _ s62 wx => ∃ i : Nat, i + g = n ∧ s62 = .int .i64 i ∧ wx = ((w.alloc (.cells (Lib.setCells cs.data.toList) 177)).alloc (.cells (Lib.setCells cs.data.toList) 177)) ∧ Lib.NoAny bs cs.data.toList i)
  case atStart => exact ⟨0, by omega, rfl, rfl, Lib.NoAny.zero _ _⟩
  case round =>
    obtain ⟨i, hig, rfl, rfl, hno⟩ := hrel
    have HN : Aside (Lib.NoAny bs cs.data.toList i) := hno
    clear hno
    cases gk with
    | zero =>
      obtain rfl : i = n := by omega
      have hiz : ¬ ((i : Int) < (i : Int)) := by omega
      go_wp2
      go_ret
      exact ⟨by rw [Lib.indexAny_none (by rw [hb]; exact HN.out)]; rfl, HB.out⟩
    | succ g =>
      have hi : i < n := by omega
      have hiz : (i : Int) < (n : Int) := by omega
      have hci := HBY.out i hi
      obtain ⟨x, hx⟩ : ∃ x, x = bs.getD i 0 := ⟨_, rfl⟩
      rw [← hx] at hci
      have hxl : bs[i]? = some x := by rw [hx]; exact Lib.getElem?_getD_sl _ _ _ (by omega)
      have Hx : Aside (bs[i]? = some x) := hxl
      clear hxl hx
      have hcx := HC.out x
      have hct := fun W h => Any.bytes_asciiSet_contains Tryz.laysV16 (w.heap.size + 1) x (cs.data.toList.contains x) W h
      simp only [Tryz.laysV16_ren] at hct
      have HCT : Aside _ := hct
      clear hct
      cases hin : cs.data.toList.contains x <;> rw [hin] at hcx
      · go_wp2_with (go_at_call 156; refine (HCT.out _ (HC.out x)).mono ?_; rintro e w' ⟨rfl, hw⟩; rw [hw, hin])
        go_roundg g
        case measure => omega
        case rel => exact ⟨i + 1, by omega, by first | rfl | simp, rfl, HN.out.succ Hx.out hin⟩
      · go_wp2_with (go_at_call 156; refine (HCT.out _ (HC.out x)).mono ?_; rintro e w' ⟨rfl, hw⟩; rw [hw, hin])
        go_ret
        exact ⟨by rw [Lib.indexAny_hit HN.out Hx.out hin]; rfl, HB.out⟩

theorem run46 (s : ByteArray) (x : UInt8) (w : World) : (callFunc 153 #[.string s, .int .u8 x.toNat]).run Tryz.prog w = .ok (.value (.int .i64 (Lib.indexByte s.data.toList x))) w := by
  rw [run_callFunc_extern Tryz.func153 (by kernel_rfl) (by kernel_rfl) (by kernel_rfl) (e := Extern.BytealgIndexByte.indexByte) (by kernel_rfl), Lib.run_indexByteString]
  simp [Result.andThen]
theorem run51 (s b : ByteArray) (m : Int) (w : World) (hm : w.cell? ⟨0, 0, none⟩ = some (.int .i64 m)) (h2 : 2 ≤ b.size) (hb : (b.size : Int) ≤ m) (hs : s.size < 4294967281) : (callFunc 158 #[.string s, .string b]).run Tryz.prog w = .ok (.value (.int .i64 (Lib.index s.data.toList b.data.toList))) w := by
  rw [run_callFunc_extern Tryz.func158 (by kernel_rfl) (by kernel_rfl) (by kernel_rfl) (e := Extern.BytealgIndex.index) (by kernel_rfl), Lib.run_indexString s b w 0 m (by kernel_rfl) hm h2 hb hs]
  simp [Result.andThen]

set_option maxHeartbeats 8000000 in
set_option maxRecDepth 1000000 in
/-- One byte. -/
theorem indexAny_single (b o c : Nat) (x : UInt8) (cs : ByteArray) (w : World) (hnc : 1 ≤ c)
    (hx : w.cell? ⟨b, o, none⟩ = some (.int .u8 x.toNat)) (h2 : 2 ≤ cs.size) (hcs : cs.size < 4294967281) (hascii : ∀ (j : Nat) b, cs.data.toList[j]? = some b → b.toNat < 128) :
    Calls Tryz.prog 137 #[.slice (some ⟨b, o, none⟩) 1 c, .string cs] w fun e w' => e = .returned (.int .i64 (Lib.indexAny [x] cs.data.toList)) ∧ Below w.heap.size w w' := by
  have HA : Aside (∀ (j : Nat) b, cs.data.toList[j]? = some b → b.toNat < 128) := hascii
  clear hascii
  have hemp := blanks_not_empty h2
  have hn1 : ((cs.size : Int) == 1) = false := beq_eq_false_iff_ne.2 (by omega)
  have hB1 : ∀ pos, Below w.heap.size w (w.iter cs pos) := fun pos => (Below.refl _ _).alloc (Nat.le_refl _) _
  have HB : Aside _ := hB1
  clear hB1
  have hx256 : (x.toNat : Int) < 256 := by have := UInt8.toNat_lt x; omega
  by_cases h128 : (128 : Int) ≤ (x.toNat : Int)
  · have hres : Lib.indexAny [x] cs.data.toList = -1 := Lib.indexAny_none (fun j y hj hy => by
      obtain rfl : j = 0 := by simp at hj; exact hj
      simp at hy
      subst hy
      cases hcon : cs.data.toList.contains x with
      | false => rfl
      | true =>
        obtain ⟨j, hj⟩ := List.mem_iff_getElem?.1 (List.contains_iff_mem.1 hcon)
        have := HA.out j x hj
        omega)
    rw [hres]
    go_enter Tryz.func137, Tryz.ntmps137
    go_wp2
    go_loopg [5] cs.size (fun g _ wx => ∃ i : Nat, i + g = cs.size ∧ wx = w.iter cs i)
    case atStart => exact ⟨0, by omega, rfl⟩
    case round =>
      obtain ⟨i, hig, rfl⟩ := hrel
      cases gk with
      | zero =>
        obtain rfl : i = cs.size := by omega
        have hnx := run_next_end (P := Tryz.prog) w cs cs.size
        go_wp2
        go_ret
        exact ⟨rfl, HB.out _⟩
      | succ g =>
        have hi : i < cs.size := by omega
        obtain ⟨y, hy⟩ : ∃ y : UInt8, cs[i]'hi = y := ⟨_, rfl⟩
        have hyl : cs.data.toList[i]? = some y := by rw [← hy]; exact Lib.data_getElem? cs i hi
        have hy128 : y.toNat < 128 := HA.out i y hyl
        have hnx := fun ty => run_next_ascii (P := Tryz.prog) w cs i ty hi (by rw [hy]; exact hy128)
        rw [hy] at hnx
        have hne : ((y.toNat : Int) == 65533) = false := beq_eq_false_iff_ne.2 (by omega)
        clear hyl hy
        go_wp2
        go_roundg g
        case measure => omega
        case rel => exact ⟨i + 1, by omega, rfl⟩
  · have e46 := fun W => run46 cs x W
    have hcon := Lib.contains_iff_indexByte cs.data.toList x
    cases hin : cs.data.toList.contains x with
    | false =>
      rw [hin] at hcon
      have hlt : ¬ ((0 : Int) ≤ Lib.indexByte cs.data.toList x) := of_decide_eq_false hcon.symm
      have hres : Lib.indexAny [x] cs.data.toList = -1 := by rw [Lib.indexAny, hin]; rfl
      rw [hres]
      clear hcon hres
      go_enter Tryz.func137, Tryz.ntmps137
      go_wp2
      go_ret
      exact ⟨rfl, Below.refl _ _⟩
    | true =>
      rw [hin] at hcon
      have hge : (0 : Int) ≤ Lib.indexByte cs.data.toList x := of_decide_eq_true hcon.symm
      have hres : Lib.indexAny [x] cs.data.toList = 0 := by rw [Lib.indexAny, hin]; rfl
      rw [hres]
      clear hcon hres
      go_enter Tryz.func137, Tryz.ntmps137
      go_wp2
      go_ret
      exact ⟨rfl, Below.refl _ _⟩

theorem list_arr_size (l : List UInt8) : (⟨l.toArray⟩ : ByteArray).size = l.length := by simp [ByteArray.size]
theorem decodeRune_at (b o i n c : Nat) (bs : List UInt8) (w : World) (hb : bs.length = n) (hi : i < n) (hu : Lib.Utf8Tabs 2 3 w)
    (hc : ∀ j, j < n → w.cell? ⟨b, o + j, none⟩ = some (.int .u8 (bs.getD j 0).toNat)) :
    Calls Tryz.prog 157 #[.slice (some ⟨b, o + i, none⟩) (n - i) c] w fun e w' => e = .returned (.tuple #[.int .i32 (Lib.decodeGo ⟨(bs.drop i).toArray⟩).1, .int .i64 (Lib.decodeGo ⟨(bs.drop i).toArray⟩).2]) ∧ Below w.heap.size w w' := by
  have h := Any7.utf8_DecodeRune Tryz.lays7_32 ⟨(bs.drop i).toArray⟩ b (o + i) c w hu (fun j hj => by
    rw [list_arr_size, List.length_drop, hb] at hj
    rw [Nat.add_assoc, hc (i + j) (by omega), get!_list, getD_drop])
  rw [list_arr_size, List.length_drop, hb] at h
  exact h

set_option maxHeartbeats 16000000 in
set_option maxRecDepth 1000000 in
/-- Up to 8 bytes. -/
theorem indexAny_short (b o n c : Nat) (bs : List UInt8) (cs : ByteArray) (w : World) (hb : bs.length = n) (hnc : n ≤ c) (hbig : n ≤ 9223372036854775807)
    (h1 : Lib.BytesAt w (some ⟨b, o, none⟩) n bs) (hn : 2 ≤ n) (h8 : n ≤ 8) (h2 : 2 ≤ cs.size) (hcs : cs.size < 4294967281) (hascii : ∀ b ∈ cs.data.toList, b.toNat < 128) (hx : FieldIn w) :
    Calls Tryz.prog 137 #[.slice (some ⟨b, o, none⟩) n c, .string cs] w fun e w' => e = .returned (.int .i64 (Lib.indexAny bs cs.data.toList)) ∧ Below w.heap.size w w' := by
  have HA : Aside (∀ b ∈ cs.data.toList, b.toNat < 128) := hascii
  have HX : Aside (FieldIn w) := hx
  obtain ⟨mx, hmx⟩ := hx.max
  have HMX : Aside _ := hmx
  obtain ⟨b', o', hbo, hc⟩ := h1 (by omega)
  cases hbo
  have HBY : Aside _ := hc
  clear hascii hx hmx hc h1
  have hemp := blanks_not_empty h2
  have hn1 : ((cs.size : Int) == 1) = false := beq_eq_false_iff_ne.2 (by omega)
  have hn2 : ((n : Int) == 1) = false := beq_eq_false_iff_ne.2 (by omega)
  have h8z : decide ((8 : Int) < (n : Int)) = false := decide_eq_false (by omega)
  go_enter Tryz.func137, Tryz.ntmps137
  go_wp2_with (go_at_call 155; refine (shouldUse _ _).mono ?_; rintro e w' ⟨rfl, hw⟩; rw [hw, h8z])
  go_loopg [11, 12, 13, 15] n (fun g _ s12 _ _ wx => ∃ i : Nat, i ≤ n ∧ n ≤ g + i ∧ s12 = .int .i64 i ∧ Aside0 (Below w.heap.size w wx) ∧ Lib.NoAny bs cs.data.toList i)
  case atStart => exact ⟨0, by omega, by omega, rfl, Aside0.mk (Below.refl _ _), Lib.NoAny.zero _ _⟩
  case round =>
    obtain ⟨i, hin, hig, rfl, hbx, hno⟩ := hrel
    have HN : Aside (Lib.NoAny bs cs.data.toList i) := hno
    clear hno
    by_cases hi : i < n
    case neg =>
      obtain rfl : i = n := by omega
      go_wp2
      go_ret
      exact ⟨by rw [Lib.indexAny_none (by rw [hb]; exact HN.out)]; rfl, hbx.out⟩
    have hci : wr.cell? ⟨b, o + i, none⟩ = _ := cell_up hbx.out (HBY.out i hi)
    obtain ⟨x, hx⟩ : ∃ x, x = bs.getD i 0 := ⟨_, rfl⟩
    rw [← hx] at hci
    have hxl : bs[i]? = some x := by rw [hx]; exact Lib.getElem?_getD_sl _ _ _ (by omega)
    have Hx : Aside (bs[i]? = some x) := hxl
    have HXD : Aside (x = bs.getD i 0) := hx
    clear hxl hx
    have hx256 : (x.toNat : Int) < 256 := by have := UInt8.toNat_lt x; omega
    by_cases h128 : (x.toNat : Int) < 128
    · have e46 := fun W => run46 cs x W
      have hcon := Lib.contains_iff_indexByte cs.data.toList x
      cases hin : cs.data.toList.contains x with
      | false =>
        rw [hin] at hcon
        have hlt : ¬ ((0 : Int) ≤ Lib.indexByte cs.data.toList x) := of_decide_eq_false hcon.symm
        have HI : Aside _ := hin
        clear hcon hin
        go_wp2
        go_roundg (gk - 1)
        case measure => omega
        case rel => exact ⟨i + 1, by omega, by omega, by first | rfl | simp, hbx, HN.out.succ Hx.out HI.out⟩
      | true =>
        rw [hin] at hcon
        have hge : (0 : Int) ≤ Lib.indexByte cs.data.toList x := of_decide_eq_true hcon.symm
        have HI : Aside _ := hin
        clear hcon hin
        go_wp2
        go_ret
        exact ⟨by rw [Lib.indexAny_hit HN.out Hx.out HI.out]; rfl, hbx.out⟩
    · have hD := decodeRune_at b o i n (c - i) bs wr hb hi (HX.out.below hbx.out).utf (fun j hj => cell_up hbx.out (HBY.out j hj))
      have hF := decAt bs i (by omega) (by rw [← HXD.out]; omega)
      generalize Lib.decodeGo ⟨(bs.drop i).toArray⟩ = d at hD hF
      obtain ⟨r, k⟩ := d
      simp only at hD hF
      have HD := Aside0.mk hD
      have hk1 := hF.pos
      have hk2 := hF.room
      have hr1 := hF.high
      have hr2 := hF.le
      have HF : Aside _ := hF
      clear hD hF
      obtain ⟨G, hG1, hG2⟩ : ∃ G, G < gk ∧ n ≤ G + 1 + i := ⟨gk - 1, by omega, by omega⟩
      by_cases hr : r = 65533
      · subst hr
        go_wp2_with (go_at_call 157; refine HD.out.mono ?_; rintro e w1 ⟨rfl, hb1⟩; have hB1 : Aside0 (Below w.heap.size w w1) := Aside0.mk (hbx.out.trans (hb1.mono hbx.out.size)); clear hb1)
        clear hci
        go_loopg [15] cs.size (fun g _ wx => ∃ j : Nat, j + g = cs.size ∧ wx = w1.iter cs j)
        case atStart => exact ⟨0, by omega, rfl⟩
        case round =>
          obtain ⟨j, hjg, rfl⟩ := hrel
          cases gk with
          | zero =>
            obtain rfl : j = cs.size := by omega
            have hnx := run_next_end (P := Tryz.prog) w1 cs cs.size
            go_wp2
            go_roundg G
            case measure => omega
            case rel => exact ⟨i + k, by omega, by omega, by first | rfl | simp, Aside0.mk (hB1.out.alloc hB1.out.size _), noAny_skip HN.out HA.out HF.out.skip⟩
          | succ g =>
            have hj : j < cs.size := by omega
            obtain ⟨y, hy⟩ : ∃ y : UInt8, cs[j]'hj = y := ⟨_, rfl⟩
            have hyl : cs.data.toList[j]? = some y := by rw [← hy]; exact Lib.data_getElem? cs j hj
            have hy128 : y.toNat < 128 := HA.out y (List.mem_iff_getElem?.2 ⟨j, hyl⟩)
            have hnx := fun ty => run_next_ascii (P := Tryz.prog) w1 cs j ty hj (by rw [hy]; exact hy128)
            rw [hy] at hnx
            have hne : ((65533 : Int) == (y.toNat : Int)) = false := beq_eq_false_iff_ne.2 (by omega)
            clear hyl hy
            go_wp2
            go_roundg g
            case measure => omega
            case rel => exact ⟨j + 1, by omega, rfl⟩
      · have hrz : ((r : Int) == 65533) = false := beq_eq_false_iff_ne.2 (by omega)
        obtain ⟨hek, hk3, xe, te, hex, hx128⟩ := HF.out.enc hr
        have hneq : (cs.toList == (Utf8.encode (r : Int)).toList) = false := beq_eq_false_iff_ne.2 (fun e => by
          rw [Lib.toList_data, Lib.toList_data, hex] at e
          have := HA.out xe (by rw [e]; simp)
          omega)
        have hidx := index_high cs.data.toList te xe hx128 HA.out
        rw [← hex] at hidx
        have HEK := Aside0.mk hek
        clear hex hek
        by_cases hck : cs.size = k
        · have hcz : ((cs.size : Int) == (k : Int)) = true := beq_iff_eq.2 (by omega)
          clear hck hidx
          go_wp2_with (go_at_call 157; refine HD.out.mono ?_; rintro e w1 ⟨rfl, hb1⟩; have hB1 : Aside0 (Below w.heap.size w w1) := Aside0.mk (hbx.out.trans (hb1.mono hbx.out.size)); clear hb1)
          go_roundg G
          case measure => omega
          case rel => exact ⟨i + k, by omega, by omega, by first | rfl | simp, hB1, noAny_skip HN.out HA.out HF.out.skip⟩
        · have hcz : ((cs.size : Int) == (k : Int)) = false := beq_eq_false_iff_ne.2 (by omega)
          clear hck
          by_cases hmk : (k : Int) ≤ mx
          · have e51 := fun W h => run51 cs (Utf8.encode (r : Int)) mx W h (by rw [HEK.out]; omega) (by rw [HEK.out]; omega) (by omega)
            rw [hidx] at e51
            clear hidx
            have E51 := Aside0.mk e51
            clear e51
            go_wp2_with (first
              | (go_at_call 157; refine HD.out.mono ?_; rintro e w1 ⟨rfl, hb1⟩; have hB1 : Aside0 (Below w.heap.size w w1) := Aside0.mk (hbx.out.trans (hb1.mono hbx.out.size)); clear hb1; have hm1 := cell_up hB1.out HMX.out; have e51 := E51.out w1 hm1))
            go_roundg G
            case measure => omega
            case rel => exact ⟨i + k, by omega, by omega, by first | rfl | simp, hB1, noAny_skip HN.out HA.out HF.out.skip⟩
          · go_wp2_with (first
              | (go_at_call 157; refine HD.out.mono ?_; rintro e w1 ⟨rfl, hb1⟩; have hB1 : Aside0 (Below w.heap.size w w1) := Aside0.mk (hbx.out.trans (hb1.mono hbx.out.size)); clear hb1; have hm1 := cell_up hB1.out HMX.out))
            clear hci
            go_loopg [15] cs.size (fun g _ wx => ∃ j : Nat, j + g = cs.size ∧ wx = w1.iter cs j)
            case atStart => exact ⟨0, by omega, rfl⟩
            case round =>
              obtain ⟨j, hjg, rfl⟩ := hrel
              cases gk with
              | zero =>
                obtain rfl : j = cs.size := by omega
                have hnx := run_next_end (P := Tryz.prog) w1 cs cs.size
                go_wp2
                go_roundg G
                case measure => omega
                case rel => exact ⟨i + k, by omega, by omega, by first | rfl | simp, Aside0.mk (hB1.out.alloc hB1.out.size _), noAny_skip HN.out HA.out HF.out.skip⟩
              | succ g =>
                have hj : j < cs.size := by omega
                obtain ⟨y, hy⟩ : ∃ y : UInt8, cs[j]'hj = y := ⟨_, rfl⟩
                have hyl : cs.data.toList[j]? = some y := by rw [← hy]; exact Lib.data_getElem? cs j hj
                have hy128 : y.toNat < 128 := HA.out y (List.mem_iff_getElem?.2 ⟨j, hyl⟩)
                have hnx := fun ty => run_next_ascii (P := Tryz.prog) w1 cs j ty hj (by rw [hy]; exact hy128)
                rw [hy] at hnx
                have hne : ((r : Int) == (y.toNat : Int)) = false := beq_eq_false_iff_ne.2 (by omega)
                clear hyl hy
                go_wp2
                go_roundg g
                case measure => omega
                case rel => exact ⟨j + 1, by omega, rfl⟩

/-- bytes.IndexAny at bytes that are there, at ASCII chars. -/
theorem bytes_IndexAny (b o n c : Nat) (bs : List UInt8) (cs : ByteArray) (w : World) (hb : bs.length = n) (hn0 : 0 < n) (hnc : n ≤ c) (hbig : n ≤ 9223372036854775807)
    (h1 : Lib.BytesAt w (some ⟨b, o, none⟩) n bs) (h2 : 2 ≤ cs.size) (hcs : cs.size < 4294967281) (hascii : ∀ b ∈ cs.data.toList, b.toNat < 128) (hx : FieldIn w) :
    Calls Tryz.prog 137 #[.slice (some ⟨b, o, none⟩) n c, .string cs] w fun e w' => e = .returned (.int .i64 (Lib.indexAny bs cs.data.toList)) ∧ Below w.heap.size w w' := by
  have ha : ∀ (j : Nat) b, cs.data.toList[j]? = some b → b.toNat < 128 := fun j b h => hascii b (List.mem_iff_getElem?.2 ⟨j, h⟩)
  by_cases h8 : 8 < n
  · exact indexAny_long b o n c bs cs w hb hnc hbig h1 h8 h2 hcs ha
  by_cases hn : n = 1
  · subst hn
    obtain ⟨x, rfl⟩ := List.length_eq_one_iff.1 hb
    obtain ⟨b', o', hbo, hc⟩ := h1 (by omega)
    cases hbo
    exact indexAny_single b o c x cs w hnc (hc 0 (by omega)) h2 hcs ha
  · exact indexAny_short b o n c bs cs w hb hnc hbig h1 (by omega) (by omega) h2 hcs hascii hx
end Go.Proofs.YtehaodbheifokaaGreatDoor.P
