/- bytes.TrimLeft at the four blanks, whatever the capacity. -/
import Derived.Test.YtehaodbheifokaaGreatDoorWordsSpec
import Derived.Test.YtehaodbheifokaaGreatDoorIndexAny
namespace Go.Proofs.YtehaodbheifokaaGreatDoor.P
open Go Go.RowKit Go.Proofs.YtehaodbheifokaaGreatDoorW.PrintWords Go.Proofs.YtehaodbheifokaaGreatDoorW.PrintLast
set_option linter.unusedVariables false
set_option linter.unusedSimpArgs false

theorem blank_ascii : ∀ (j : Nat) b, blankL[j]? = some b → b.toNat < 128 := fun j b h => by
  have hall : ∀ b ∈ blankL, b.toNat < 128 := by decide
  exact hall b (List.mem_iff_getElem?.2 ⟨j, h⟩)
theorem blank_lt : ∀ b ∈ ((⟨#[9, 10, 13, 32]⟩ : ByteArray)).data.toList, b.toNat < 128 := by decide
theorem bytesAt_tail {w : World} {b o : Nat} {x : UInt8} {t : List UInt8} (h : Lib.BytesAt w (some ⟨b, o, none⟩) (t.length + 1) (x :: t)) : w.cell? ⟨b, o, none⟩ = some (.int .u8 x.toNat) ∧ Lib.BytesAt w (some ⟨b, o + 1, none⟩) t.length t := by
  obtain ⟨b', o', e, hc⟩ := h (by omega)
  cases e
  refine ⟨hc 0 (by omega), fun _ => ⟨b, o + 1, rfl, fun i hi => ?_⟩⟩
  rw [show o + 1 + i = o + (i + 1) by omega, hc (i + 1) (by omega)]
  rfl
theorem contains_calls49 (g : Nat) (x : UInt8) (w : World) (h : w.cell? ⟨g, x.toNat, none⟩ = some (.bool (isB x))) : Calls Tryz.prog 156 #[.pointer (some ⟨g, 0, none⟩), .int .u8 x.toNat] w fun e w' => e = .returned (.bool (isB x)) ∧ w' = w :=
  Any.bytes_asciiSet_contains Tryz.laysV16 g x (isB x) w h
set_option maxHeartbeats 8000000 in
set_option maxRecDepth 1000000 in
theorem trimAscii_some (b o c g : Nat) (rem t : List UInt8) (w : World) (hc : rem.length ≤ c) (hm : rem.length ≤ 9223372036854775807) (h1 : Lib.BytesAt w (some ⟨b, o, none⟩) rem.length rem) (ht : rem.dropWhile isB = t) (h : t ≠ [])
    (hset : ∀ x : UInt8, w.cell? ⟨g, x.toNat, none⟩ = some (.bool (isB x))) :
    Calls Tryz.prog 151 #[.slice (some ⟨b, o, none⟩) rem.length c, .pointer (some ⟨g, 0, none⟩)] w fun e w' => e = .returned (.slice (some ⟨b, o + (rem.length - t.length), none⟩) t.length (c - (rem.length - t.length))) ∧ w' = w := by
  have HS := Aside0.mk hset
  have H1 := Aside0.mk h1
  have HT := Aside0.mk ht
  clear hset h1 ht
  go_enter Tryz.func151, Tryz.ntmps151
  go_wp2
  go_loopg [0] rem.length (fun k s0 wr => ∃ (rest : List UInt8) (j : Nat), j + rest.length = rem.length ∧ rest.length ≤ k ∧ s0 = .slice (some ⟨b, o + j, none⟩) rest.length (c - j) ∧ wr = w ∧ Aside0 (Lib.BytesAt w (some ⟨b, o + j, none⟩) rest.length rest) ∧ Aside0 (rest.dropWhile isB = t))
  case atStart => exact ⟨rem, 0, by omega, by omega, by simp, rfl, H1, HT⟩
  case round =>
    obtain ⟨rest, j, hj, hk, rfl, rfl, hb, hd⟩ := hrel
    cases rest with
    | nil => exact absurd hd.out.symm h
    | cons x r =>
      obtain ⟨hcx, hbr⟩ := bytesAt_tail (x := x) (t := r) hb.out
      have HBR := Aside0.mk hbr
      have hx := HS.out x
      rw [List.length_cons] at *
      have hcj : r.length + 1 ≤ c - j := by omega
      cases hbx : isB x with
      | false =>
        have e : x :: r = t := by
          have := hd.out
          rwa [List.dropWhile_cons_of_neg (by rw [hbx]; simp)] at this
        have hjl : rem.length - t.length = j := by rw [← e, List.length_cons]; omega
        have hl : t.length = r.length + 1 := by rw [← e, List.length_cons]
        have HJL := Aside0.mk hjl
        have HTL := Aside0.mk hl
        clear hbr hd hb hjl hl e
        go_wp2_with (go_at_call 156; refine (contains_calls49 g x _ hx).mono ?_; rintro e w' ⟨rfl, hw⟩; rw [hw, hbx])
        go_ret
        exact ⟨by rw [HJL.out, HTL.out]; rfl, rfl⟩
      | true =>
        have hd2 : r.dropWhile isB = t := by
          have := hd.out
          rwa [List.dropWhile_cons_of_pos hbx] at this
        have HD := Aside0.mk hd2
        have hr : r ≠ [] := by rintro rfl; exact h hd2.symm
        have hr0 : 0 < r.length := List.length_pos_iff.2 hr
        have hne : ¬ c - j = 1 := by omega
        clear hbr hd hb hd2 hr
        go_wp2_with (go_at_call 156; refine (contains_calls49 g x _ hx).mono ?_; rintro e w' ⟨rfl, hw⟩; rw [hw, hbx])
        go_roundg r.length
        case measure => omega
        case rel => exact ⟨r, j + 1, by omega, by omega, by simp; omega, rfl, HBR, HD⟩
set_option maxHeartbeats 8000000 in
set_option maxRecDepth 1000000 in
theorem trimAscii_none (p0 : Option Addr) (c g : Nat) (rem : List UInt8) (w : World) (hc : rem.length ≤ c) (hm : rem.length ≤ 9223372036854775807) (h1 : Lib.BytesAt w p0 rem.length rem) (ht : rem.dropWhile isB = [])
    (hset : ∀ x : UInt8, w.cell? ⟨g, x.toNat, none⟩ = some (.bool (isB x))) :
    Calls Tryz.prog 151 #[.slice p0 rem.length c, .pointer (some ⟨g, 0, none⟩)] w fun e w' => e = .returned (.slice none 0 0) ∧ w' = w := by
  have HS := Aside0.mk hset
  have H1 := Aside0.mk h1
  have HT := Aside0.mk ht
  clear hset h1 ht
  go_enter Tryz.func151, Tryz.ntmps151
  go_wp2
  go_loopg [0] rem.length (fun k s0 wr => ∃ (p : Option Addr) (rest : List UInt8) (cc : Nat), rest.length ≤ cc ∧ rest.length ≤ k ∧ rest.length ≤ rem.length ∧ s0 = .slice p rest.length cc ∧ wr = w ∧ Aside0 (Lib.BytesAt w p rest.length rest) ∧ Aside0 (rest.dropWhile isB = []))
  case atStart => exact ⟨p0, rem, c, hc, Nat.le_refl _, Nat.le_refl _, rfl, rfl, H1, HT⟩
  case round =>
    obtain ⟨p, rest, cc, hcc, hk, hrl, rfl, rfl, hb, hd⟩ := hrel
    cases rest with
    | nil =>
      go_wp2
      go_ret
      exact ⟨rfl, rfl⟩
    | cons x r =>
      obtain ⟨b, o, rfl, hcell⟩ := hb.out (by simp)
      obtain ⟨hcx, hbr⟩ := bytesAt_tail (x := x) (t := r) hb.out
      have HBR := Aside0.mk hbr
      have hx := HS.out x
      rw [List.length_cons] at *
      have hbx : isB x = true := by
        cases hbx : isB x with
        | true => rfl
        | false =>
          have := hd.out
          rw [List.dropWhile_cons_of_neg (by rw [hbx]; simp)] at this
          cases this
      have hd2 : r.dropWhile isB = [] := by
        have := hd.out
        rwa [List.dropWhile_cons_of_pos hbx] at this
      have HD := Aside0.mk hd2
      clear hbr hd hb hd2 hcell
      by_cases hc1 : cc = 1
      · subst hc1
        obtain rfl : r = [] := List.length_eq_zero_iff.1 (by omega)
        rw [List.length_nil] at *
        go_wp2_with (go_at_call 156; refine (contains_calls49 g x _ hx).mono ?_; rintro e w' ⟨rfl, hw⟩; rw [hw, hbx])
        go_roundg 0
        case measure => omega
        case rel => exact ⟨_, [], 0, Nat.le_refl _, Nat.le_refl _, by simp, rfl, rfl, Aside0.mk (fun h0 => absurd h0 (Nat.lt_irrefl _)), HD⟩
      · go_wp2_with (go_at_call 156; refine (contains_calls49 g x _ hx).mono ?_; rintro e w' ⟨rfl, hw⟩; rw [hw, hbx])
        go_roundg r.length
        case measure => omega
        case rel => exact ⟨some ⟨b, o + 1, none⟩, r, cc - 1, by omega, Nat.le_refl _, by omega, by simp, rfl, HBR, HD⟩
set_option maxHeartbeats 8000000 in
set_option maxRecDepth 1000000 in
theorem trimLeft_of (pa : Option Addr) (m c : Nat) (rem : List UInt8) (w : World) (v : Value) (hm : rem.length = m) (h0 : 0 < m)
    (hT : ∀ g W, Below w.heap.size w W → (∀ x : UInt8, W.cell? ⟨g, x.toNat, none⟩ = some (.bool (isB x))) → Calls Tryz.prog 151 #[.slice pa m c, .pointer (some ⟨g, 0, none⟩)] W fun e w' => e = .returned v ∧ w' = W) :
    Calls Tryz.prog 136 #[.slice pa m c, .string ⟨#[9, 10, 13, 32]⟩] w fun e w' => e = .returned v ∧ Below w.heap.size w w' := by
  obtain ⟨cs, hcs⟩ : ∃ cs : ByteArray, cs = ⟨#[9, 10, 13, 32]⟩ := ⟨_, rfl⟩
  have hbl : cs.data.toList = blankL := by rw [hcs]; rfl
  have hs4 : cs.size = 4 := by rw [hcs]; rfl
  rw [← hcs]
  clear hcs
  have hM := Any.bytes_makeASCIISet Tryz.laysV11 (zero_of_info info63).1 (zero_of_info info63).2 cs w (by omega) (by rw [hbl]; exact blank_ascii)
  simp only [Tryz.laysV11_ren] at hM
  have hemp := blanks_not_empty (cs := cs) (by omega)
  have hn1 : ((cs.size : Int) == 1) = false := beq_eq_false_iff_ne.2 (by omega)
  have hn2 : ((m : Int) == 0) = false := beq_eq_false_iff_ne.2 (by omega)
  have hsc : (storeCells ⟨w.heap.size + 1, 0, none⟩ (Lib.setCells cs.data.toList).toList 0).run Tryz.prog ((w.alloc (.cells (Lib.setCells cs.data.toList) 177)).alloc (.cells Tryz.zeroCells177 177)) = .ok () ((w.alloc (.cells (Lib.setCells cs.data.toList) 177)).alloc (.cells (Lib.setCells cs.data.toList) 177)) := by
    have := run_storeCells_new (P := Tryz.prog) (w.alloc (.cells (Lib.setCells cs.data.toList) 177)) 177 Tryz.zeroCells177 (Lib.setCells cs.data.toList) (by rw [Lib.setCells_size]; exact (zero_of_info info63).2) (by rw [Lib.setCells_size, Tryz.zeroCells177_size]) (Lib.setCells_one _)
    simpa using this
  have hsz := Lib.setCells_size cs.data.toList
  have hB2 : Below w.heap.size w ((w.alloc (.cells (Lib.setCells cs.data.toList) 177)).alloc (.cells (Lib.setCells cs.data.toList) 177)) := ((Below.refl _ _).alloc (Nat.le_refl _) _).alloc (by simp) _
  have hT2 := Aside0.mk (hT (w.heap.size + 1) _ hB2 (fun x => by
    rw [World.cell?_alloc_at _ _ _ _ (by simp), Lib.setCells_at, hbl]
    rfl))
  have HB := Aside0.mk hB2
  clear hB2 hT hbl hs4
  go_enter Tryz.func136, Tryz.ntmps136
  go_wp2_with (first
    | (go_at_call 150; refine hM.mono ?_; rintro e w' ⟨rfl, hw⟩; rw [hw])
    | (go_at_call 151; refine hT2.out.mono ?_; rintro e w' ⟨rfl, hw⟩; rw [hw]))
  go_ret
  exact ⟨rfl, HB.out⟩
set_option maxRecDepth 100000 in
theorem trimLeft_nil (pa : Option Addr) (c : Nat) (w : World) : Calls Tryz.prog 136 #[.slice pa 0 c, .string ⟨#[9, 10, 13, 32]⟩] w fun e w' => e = .returned (.slice none 0 0) ∧ Below w.heap.size w w' := by
  go_enter Tryz.func136, Tryz.ntmps136
  go_wp2
  go_ret
  exact ⟨rfl, Below.refl _ _⟩
theorem trim_none (pa : Option Addr) (m c : Nat) (rem : List UInt8) (w : World) (hm : rem.length = m) (hc : m ≤ c) (hbig : m ≤ 9223372036854775807) (h1 : Lib.BytesAt w pa m rem) (h : rem.dropWhile isB = []) :
    Calls Tryz.prog 136 #[.slice pa m c, .string ⟨#[9, 10, 13, 32]⟩] w fun e w' => e = .returned (.slice none 0 0) ∧ Below w.heap.size w w' := by
  by_cases h0 : m = 0
  · rw [h0]
    exact trimLeft_nil pa c w
  · subst hm
    exact trimLeft_of pa rem.length c rem w _ rfl (by omega) (fun g W hB hset => trimAscii_none pa c g rem W hc hbig (h1.below hB) h hset)
theorem trim_some (pa : Option Addr) (m c : Nat) (rem t : List UInt8) (w0 w : World) (hm : rem.length = m) (hc : m ≤ c) (hbig : m ≤ 9223372036854775807) (h1 : Lib.BytesAt w0 pa m rem) (hB : Below w0.heap.size w0 w) (ht : rem.dropWhile isB = t) (h : t ≠ []) :
    ∃ b o c', t.length ≤ c' ∧ Lib.BytesAt w0 (some ⟨b, o, none⟩) t.length t ∧
    Calls Tryz.prog 136 #[.slice pa m c, .string ⟨#[9, 10, 13, 32]⟩] w fun e w' => e = .returned (.slice (some ⟨b, o, none⟩) t.length c') ∧ Below w.heap.size w w' := by
  subst hm
  have hl : 0 < t.length := List.length_pos_iff.2 h
  have hle : t.length ≤ rem.length := by rw [← ht]; exact dropWhile_le isB rem
  have h1' := h1
  obtain ⟨b, o, rfl, hcell⟩ := h1 (by omega)
  have hd : t = rem.drop (rem.length - t.length) := by
    have h3 := take_drop isB rem
    have h4 := dropWhile_drop' isB rem
    rw [ht] at h3 h4
    rw [show rem.length - t.length = (rem.takeWhile isB).length by omega]
    exact h4
  refine ⟨b, o + (rem.length - t.length), c - (rem.length - t.length), by omega, fun _ => ⟨b, _, rfl, fun i hi => ?_⟩, ?_⟩
  · rw [Nat.add_assoc, hcell (rem.length - t.length + i) (by omega)]
    congr 3
    conv => rhs; rw [hd]
    rw [getD_drop]
  · exact trimLeft_of _ rem.length c rem w _ rfl (by omega) (fun g W hB2 hset => trimAscii_some b o c g rem t W hc hbig (h1'.below (hB.trans (hB2.mono hB.size))) ht h hset)
end Go.Proofs.YtehaodbheifokaaGreatDoor.P
