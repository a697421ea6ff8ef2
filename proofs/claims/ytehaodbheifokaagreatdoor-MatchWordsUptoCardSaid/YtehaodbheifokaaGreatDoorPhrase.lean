/- match: whether terms stand one behind the other. -/
import Derived.Test.YtehaodbheifokaaGreatDoorTokens
import Derived.Test.YtehaodbheifokaaGreatDoorP1
namespace Go.Proofs.YtehaodbheifokaaGreatDoor.P
open Go Go.RowKit Go.Proofs.YtehaodbheifokaaGreatDoorW.PrintWords Go.Proofs.YtehaodbheifokaaGreatDoorW.PrintLast Go.Proofs.YtehaodbheifokaaGreatDoorW.PrintMore
set_option linter.unusedVariables false
set_option linter.unusedSimpArgs false

theorem bytes_loop (s : ByteArray) : ∀ (d i : Nat) (r : List UInt8), s.size - i = d → ByteArray.toList.loop s i r = r.reverse ++ s.data.toList.drop i := by
  intro d
  induction d with
  | zero =>
    intro i r h
    rw [ByteArray.toList.loop.eq_1]
    have hs : s.data.toList.length = s.size := by rw [Array.length_toList]; rfl
    rw [if_neg (by omega), List.drop_of_length_le (by omega)]
    simp
  | succ d ih =>
    intro i r h
    rw [ByteArray.toList.loop.eq_1]
    have hs : s.data.toList.length = s.size := by rw [Array.length_toList]; rfl
    have hi : i < s.size := by omega
    have hi' : i < s.data.toList.length := by omega
    rw [if_pos hi, ih (i + 1) _ (by omega), List.drop_eq_getElem_cons hi']
    have e : s.get! i = s.data.toList[i] := by
      rw [Array.getElem_toList]
      show s.data[i]! = _
      exact getElem!_pos s.data i (by have : s.data.size = s.size := rfl; omega)
    rw [e]
    simp
theorem bytes_eq (s : ByteArray) : s.toList = s.data.toList := by
  show ByteArray.toList.loop s 0 [] = _
  rw [bytes_loop s s.size 0 [] rfl]
  simp
theorem bytes_inj {s t : ByteArray} : s.toList = t.toList ↔ s = t := by
  rw [bytes_eq, bytes_eq]
  constructor
  · intro h
    cases s; cases t
    congr 1
    exact Array.toList_inj.1 h
  · rintro rfl; rfl
theorem eqS_l0 : ∀ (k : Nat) (p q : List ByteArray) (i : Nat), p.length = q.length → i ≤ p.length → p.length ≤ 1099511627776 → p.length - i < k → slices_Equal_string_string.l0 k p q (p.length : Int) (i : Int) = some (decide (p.drop i = q.drop i))
  | 0, p, q, i, _, _, _, hk => by omega
  | k + 1, p, q, i, hl, hi, hb, hk => by
    unfold slices_Equal_string_string.l0
    by_cases h : i < p.length
    · have hq : i < q.length := by omega
      rw [if_pos (by omega), if_pos (by omega), if_pos (by omega), if_pos (by omega)]
      have ep : rdOf ByteArray.empty p (i : Int) = p[i] := by simp [rdOf, List.getD, h]
      have eq : rdOf ByteArray.empty q (i : Int) = q[i] := by simp [rdOf, List.getD, hq]
      rw [ep, eq, show List.drop i p = p[i] :: List.drop (i + 1) p from List.drop_eq_getElem_cons h, show List.drop i q = q[i] :: List.drop (i + 1) q from List.drop_eq_getElem_cons hq]
      have ew : wrap64 ((i : Int) + 1) = ((i + 1 : Nat) : Int) := by unfold wrap64; omega
      rw [ew, eqS_l0 k p q (i + 1) hl (by omega) hb (by omega)]
      by_cases h2 : p[i] = q[i]
      · rw [if_pos (by rw [h2])]
        congr 1
        rw [h2]
        simp only [List.cons.injEq, true_and]
      · rw [if_neg (fun e => h2 (bytes_inj.1 e))]
        congr 1
        simp only [List.cons.injEq, h2, false_and, decide_false]
    · rw [if_neg (by omega)]
      rw [List.drop_eq_nil_of_le (by omega), List.drop_eq_nil_of_le (by omega)]
      simp
theorem eqS_f (p q : List ByteArray) (hb : p.length ≤ 1099511627776) : slices_Equal_string_string.f (p.length + 1) p q = some (decide (p = q)) := by
  unfold slices_Equal_string_string.f
  by_cases h : p.length = q.length
  · rw [if_pos (by omega)]
    have := eqS_l0 (p.length + 1) p q 0 h (Nat.zero_le _) hb (by omega)
    simpa using this
  · rw [if_neg (by omega)]
    have : p ≠ q := fun e => h (by rw [e])
    simp [this]
/-- Do terms stand in all, one behind the other? -/
def phraseB (all p : List ByteArray) : Bool := (List.range (all.length + 1 - p.length)).any fun i => decide ((all.drop i).take p.length = p)
theorem C_str {w : World} {ad : Addr} {n : Nat} {ts : List ByteArray} (hl : ts.length = n) (hn : n ≤ 9223372036854775807) (hc : ∀ (j : Nat) t, ts[j]? = some t → w.cell? (ad.add j) = some (.string t)) : Kd.C Kd.string w (some ad) n ts :=
  ⟨hl, hn, fun _ => ⟨ad, rfl, fun j p hj => ⟨[.string p], rfl, rfl, fun i u hi => by
    obtain ⟨rfl, rfl⟩ : i = 0 ∧ u = .string p := by
      cases i with
      | zero => simp at hi; exact ⟨rfl, hi.symm⟩
      | succ i => simp at hi
    rw [show j * Kd.string.sz + 0 = j by show j * 1 + 0 = j; omega]
    exact hc j p hj⟩⟩⟩
theorem C_none {w : World} (A : Option Addr) : Kd.C Kd.string w A 0 [] := ⟨rfl, Nat.zero_le _, fun h => absurd h (by omega)⟩
theorem win_C {w : World} {base : Nat} {AT : Option Addr} {n cT : Nat} {ts : List (List Int)} (h : w.ownsRow base 9 1 (.slice AT n cT) n (strV ts)) (hl : ts.length = n) (i m : Nat) (him : i + m ≤ n) (hn : n ≤ 1099511627776) :
    Kd.C Kd.string w (AT.map fun x => x.add i) m (((ts.map bT).drop i).take m) := by
  have hwl : (((ts.map bT).drop i).take m).length = m := by simp; omega
  rcases h.2 with ⟨h1, h2⟩ | ⟨g, cap, cur, hv, _, hk, hle, _, hsz, ht⟩
  · obtain rfl : m = 0 := by omega
    exact ⟨hwl, Nat.zero_le _, fun h => absurd h (by omega)⟩
  · cases hv
    refine C_str hwl (by omega) fun j t hj => ?_
    show w.cell? (Addr.add (Addr.add ⟨g, 0, none⟩ i) j) = _
    rw [WideShapes.add_plain, WideShapes.add_plain, blk_cell hk]
    have hjm : j < m := by have := (List.getElem?_eq_some_iff.1 hj).1; omega
    rw [List.getElem?_take_of_lt hjm, List.getElem?_drop, List.getElem?_map] at hj
    obtain ⟨tt, h3, rfl⟩ := Option.map_eq_some_iff.1 hj
    have e1 : (cur.toList.take (n * 1))[i + j]? = some (.string (bT tt)) := by rw [ht]; unfold strV; rw [List.getElem?_map, h3]; rfl
    rw [List.getElem?_take_of_lt (by omega)] at e1
    rw [Nat.zero_add, ← Array.getElem?_toList, e1]
theorem Kd.C_kept_came1 {w W : World} {AP : Option Addr} {p : List ByteArray} {R : Nat} (h : Kd.C Kd.string w AP p.length p) (hk : Kept w W (fun k => k = R)) (hA : ∀ a, AP = some a → a.block ≠ R) : Kd.C Kd.string W AP p.length p := by
  refine ⟨h.1, h.2.1, fun h0 => ?_⟩
  obtain ⟨ad, rfl, hc⟩ := h.2.2 h0
  refine ⟨ad, rfl, fun j q hj => ?_⟩
  obtain ⟨cs, h1, h2, h3⟩ := hc j q hj
  exact ⟨cs, h1, h2, fun i u hi => cell_kept (h3 i u hi) hk (by rw [show (ad.add (j * Kd.string.sz + i)).block = ad.block by unfold Addr.add; split <;> rfl]; exact hA ad rfl)⟩
theorem phrase_yes {all p : List ByteArray} {i : Nat} (hi : i < all.length + 1 - p.length) (h : (all.drop i).take p.length = p) : phraseB all p = true :=
  List.any_eq_true.2 ⟨i, List.mem_range.2 hi, decide_eq_true h⟩
theorem phrase_no {all p : List ByteArray} (h : ∀ j, j < all.length + 1 - p.length → (all.drop j).take p.length ≠ p) : phraseB all p = false := by
  cases e : phraseB all p with
  | false => rfl
  | true =>
    obtain ⟨i, hi, h2⟩ := List.any_eq_true.1 e
    exact absurd (of_decide_eq_true h2) (h i (List.mem_range.1 hi))
set_option maxHeartbeats 8000000 in
set_option maxRecDepth 100000 in
theorem phrase_calls (l : List Int) (A : Option Addr) (c R : Nat) (s t : Int) (AP : Option Addr) (cP : Nat) (p : List ByteArray) (w : World) (hC : (Kd.int .u8).C w A l.length l) (hc : l.length ≤ c) (hb : ∀ x ∈ l, 0 ≤ x ∧ x < 256) (hn : l.length ≤ 1099511627776)
    (hR : w.heap[R]? = some (.cells (rdrC s t (.slice A l.length c) false (.slice none 0 0)) 106 (0, 0))) (hP : Kd.string.C w AP p.length p) (hcP : p.length ≤ cP) (hAP : ∀ a, AP = some a → a.block ≠ R) (hpn : p.length ≤ 1099511627776) :
    Calls Tryz.prog 90 #[.pointer (some ⟨R, 0, none⟩), .slice AP p.length cP] w fun e w' => e = .returned (.bool (phraseB ((cutS none l).map bT) p)) ∧
      ∃ v, w'.ownsRow w.heap.size 9 1 v (cutS none l).length (strV (cutS none l)) ∧ w'.heap[R]? = some (.cells (rdrC s t (.slice A l.length c) true v) 106 (0, 0)) ∧ Below R w w' ∧ Kept w w' (fun k => k = R) := by
  have HT := Aside0.mk (tokens_calls l A c R s t w hC hc hb hn hR)
  have hlen := (cutS_len l).1
  have hRl := blk_lt hR
  have HP := Aside0.mk hP
  clear hC hR hP hb
  obtain ⟨ts, hts⟩ : ∃ ts, cutS none l = ts := ⟨_, rfl⟩
  rw [hts] at hlen HT ⊢
  clear hts
  go_enter Tryz.func90, Tryz.ntmps90
  go_wp2_with fail
  refine HT.out.mono ?_
  rintro e w1 ⟨v, rfl, hown, hR1, hB1, hK1⟩
  obtain ⟨AT, cT, rfl, hcT⟩ := own_sl hown
  have HO := Aside0.mk hown
  have HR1 := Aside0.mk hR1
  have HB1 := Aside0.mk hB1
  have HK1 := Aside0.mk hK1
  have HPK := Aside0.mk (Kd.C_kept_came1 HP.out hK1 hAP)
  clear hown hR1 hB1 hK1
  go_wp2_with fail
  obtain ⟨M, hM⟩ : ∃ M, ts.length + 1 - p.length = M := ⟨_, rfl⟩
  rw [show max (0 : Int) ((ts.length : Int) - (p.length : Int) + 1) = (M : Int) by omega]
  go_loopg [16] M (fun kq v16 wr => ∃ i : Nat, v16 = .int .i64 (i : Int) ∧ Aside0 (kq + i = M) ∧ Aside0 (∀ j, j < i → ((ts.map bT).drop j).take p.length ≠ p) ∧ Aside0 (Below w1.heap.size w1 wr))
  case atStart => exact ⟨0, rfl, ⟨by omega⟩, ⟨fun j h => by omega⟩, ⟨Below.refl _ _⟩⟩
  case round =>
    obtain ⟨i, rfl, HI, HN, HBr⟩ := hrel
    by_cases hi : i < M
    · have d0 : decide ((i : Int) < (M : Int)) = true := decide_eq_true (by omega)
      have d1 : decide (i < M) = true := decide_eq_true hi
      have him : i + p.length ≤ ts.length := by omega
      have HOr := Aside0.mk (own_bel HO.out HBr.out)
      have HPr := Aside0.mk (Kd.C_below HPK.out HBr.out)
      have hEq : ∀ (A0 : Option Addr) (c0 : Nat), p.length ≤ c0 → Kd.C Kd.string wr A0 p.length (((ts.map bT).drop i).take p.length) → Calls Tryz.prog 105 #[.slice A0 p.length c0, .slice AP p.length cP] wr fun e w' => e = .returned (.bool (decide (((ts.map bT).drop i).take p.length = p))) ∧ Drawn0 wr w' := by
        intro A0 c0 h0 hw
        have hwl : (((ts.map bT).drop i).take p.length).length = p.length := by simp; omega
        have hf := eqS_f (((ts.map bT).drop i).take p.length) p (by omega)
        have H := slices_Equal_string_string.calls (p.length + 1) A0 c0 (((ts.map bT).drop i).take p.length) AP cP p (decide (((ts.map bT).drop i).take p.length = p)) wr (by rw [hwl]; exact hw) (by omega) (HPr.out) hcP (by rw [hwl] at hf; exact hf)
        rw [hwl] at H
        exact H
      have HE := Aside0.mk hEq
      clear hEq
      by_cases hci : cT = i
      · obtain hp0 : p.length = 0 := by omega
        have HP0 := Aside0.mk hp0
        have hci2 := hci.symm
        clear hci
        subst hci2
        clear hp0
        go_wp2_with fail
        refine (HE.out _ _ (by have := HP0.out; omega) (by have h := HP0.out; rw [h, List.take_zero]; exact C_none _)).mono ?_
        rintro e w3 ⟨rfl, hd⟩
        have HB3 := Aside0.mk (below_step HBr.out hd.below)
        clear hd
        by_cases hw : ((ts.map bT).drop i).take p.length = p
        · rw [decide_eq_true hw]
          have HW := Aside0.mk hw
          clear hw
          go_wp2_with fail
          go_ret
          exact ⟨by rw [phrase_yes (i := i) (by rw [List.length_map]; omega) HW.out]; rfl, _, own_bel HO.out HB3.out, blk_below HR1.out HB3.out, HB1.out.trans (HB3.out.mono (by have := HB1.out.size; omega)), HK1.out.below HB3.out⟩
        · rw [decide_eq_false hw]
          have HW := Aside0.mk hw
          clear hw
          go_wp2_with fail
          have ew : (i : Int) + 1 = ((i + 1 : Nat) : Int) := rfl
          try rw [ew]
          go_roundg (M - i - 1)
          case measure => have := HI.out; omega
          case rel => exact ⟨i + 1, rfl, ⟨by have := HI.out; omega⟩, ⟨fun j hj => by
            by_cases hji : j = i
            · rw [hji]; exact HW.out
            · exact HN.out j (by omega)⟩, HB3⟩
      · go_wp2_with fail
        refine (HE.out _ _ (by omega) (win_C HOr.out rfl i p.length him (by omega))).mono ?_
        rintro e w3 ⟨rfl, hd⟩
        have HB3 := Aside0.mk (below_step HBr.out hd.below)
        clear hd
        by_cases hw : ((ts.map bT).drop i).take p.length = p
        · rw [decide_eq_true hw]
          have HW := Aside0.mk hw
          clear hw
          go_wp2_with fail
          go_ret
          exact ⟨by rw [phrase_yes (i := i) (by rw [List.length_map]; omega) HW.out]; rfl, _, own_bel HO.out HB3.out, blk_below HR1.out HB3.out, HB1.out.trans (HB3.out.mono (by have := HB1.out.size; omega)), HK1.out.below HB3.out⟩
        · rw [decide_eq_false hw]
          have HW := Aside0.mk hw
          clear hw
          go_wp2_with fail
          have ew : (i : Int) + 1 = ((i + 1 : Nat) : Int) := rfl
          try rw [ew]
          go_roundg (M - i - 1)
          case measure => have := HI.out; omega
          case rel => exact ⟨i + 1, rfl, ⟨by have := HI.out; omega⟩, ⟨fun j hj => by
            by_cases hji : j = i
            · rw [hji]; exact HW.out
            · exact HN.out j (by omega)⟩, HB3⟩
    · have d0 : decide ((i : Int) < (M : Int)) = false := decide_eq_false (by omega)
      have d1 : decide (i < M) = false := decide_eq_false hi
      go_wp2_with fail
      go_ret
      exact ⟨by rw [phrase_no (fun j hj => HN.out j (by rw [List.length_map] at hj; omega))]; rfl, _, own_bel HO.out HBr.out, blk_below HR1.out HBr.out, HB1.out.trans (HBr.out.mono (by have := HB1.out.size; omega)), HK1.out.below HBr.out⟩
end Go.Proofs.YtehaodbheifokaaGreatDoor.P
