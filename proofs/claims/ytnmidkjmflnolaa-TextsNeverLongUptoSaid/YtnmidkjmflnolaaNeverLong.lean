/- The law TextsNeverLong, walked: one line again and again is laid as a granule. -/
import Derived.Test.YtnmidkjmflnolaaTextsAlive
import Derived.Maps.AppendAt
namespace Go.Proofs.Ytnmidkjmflnolaa.P
open Go Go.RowKit Go.Proofs.YtnmidkjmflnolaaW.PrintWords Go.Proofs.YtnmidkjmflnolaaW.PrintLast Go.Proofs.YtnmidkjmflnolaaW.PrintMore Go.Proofs.Ytnmidkjmflnolaa.Maps
attribute [local go_sem] max2_int min2_int max_two min_two max_three min_three max_four min_four
set_option linter.unusedVariables false
set_option linter.unusedSimpArgs false

def dragnetlaw11_TextsNeverLong.f (k : Nat) (l0 : List Int) (a1 : Int) : Option Bool :=
  if 0 ≤ a1 ∧ a1 ≤ 255 then
    if (l0.length : Int) > 4096 then some true
    else (texts_Put.f k [] (List.replicate ((a1 % 16).toNat + 1) l0)).bind fun b =>
      some (decide (b.2 = 0) && decide ((b.1.length : Int) ≤ (((a1 % 16).toNat + 1) * l0.length : Nat) + (((a1 % 16).toNat + 1) * l0.length / 255 : Nat) + 2 + 9 + 72))
  else none
theorem info_sl : (Try.prog.info? 23).map (fun i => (i.zero, i.size, i.bytes)) = some (some (.slice none 0 0), 1, 24) := by kernel_rfl
theorem rows_of {w : World} {base n : Nat} {A A' : Option Addr} {c c' : Nat} {l : List Int} (h : w.ownsRow base 23 1 (.slice A' n c') n (List.replicate n (.slice A l.length c))) (hC : Kd.C (Kd.int .u8) w A l.length l) (hc : l.length ≤ c) (hn : n ≤ 1000) : Kd.C (Kd.slice 5 (Kd.int .u8)) w A' n (List.replicate n l) := by
  refine ⟨by simp, by omega, fun hpos => ?_⟩
  rcases h.2 with ⟨h0, _⟩ | ⟨g, cap, cur, he, hge, hb, hnc, hcm, hcs, ht⟩
  · have := h.1
    omega
  · injection he with e1 e2 e3
    refine ⟨⟨g, 0, none⟩, e1, fun j p hj => ?_⟩
    obtain ⟨hjn, hp⟩ := List.getElem?_eq_some_iff.1 hj
    rw [List.getElem_replicate] at hp
    subst hp
    refine ⟨[.slice A l.length c], rfl, ⟨A, c, rfl, hc, hC⟩, fun i u hi => ?_⟩
    obtain ⟨rfl, rfl⟩ : i = 0 ∧ u = .slice A l.length c := by
      cases i with
      | zero => simp at hi; exact ⟨rfl, hi.symm⟩
      | succ i => simp at hi
    rw [List.length_replicate] at hjn
    show _ = _
    rw [WideShapes.add_plain, show 0 + (j * (Kd.slice 5 (Kd.int .u8)).sz + 0) = j by show 0 + (j * 1 + 0) = j; omega, blk_cell hb]
    have h2 : (cur.toList.take n)[j]? = some (.slice A l.length c) := by
      rw [show n = n * 1 by omega, ht, List.getElem?_replicate]
      simp [hjn]
    rw [List.getElem?_take_of_lt hjn] at h2
    simpa using h2
theorem mulS (i n : Nat) (h : (i + 1) * n ≤ 1000000) : wrap64 ((i : Int) * (n : Int) + (n : Int)) = ((i + 1 : Nat) : Int) * (n : Int) := by
  have e : ((i + 1 : Nat) : Int) * (n : Int) = (((i + 1) * n : Nat) : Int) := (Int.natCast_mul _ _).symm
  have e2 : (i : Int) * (n : Int) + (n : Int) = (((i + 1) * n : Nat) : Int) := by rw [Nat.succ_mul, Int.natCast_add, Int.natCast_mul]
  rw [e, e2]
  unfold wrap64
  omega
set_option maxHeartbeats 4000000 in
set_option maxRecDepth 100000 in
theorem dragnetlaw11_TextsNeverLong.calls (k : Nat) (A0 : Option Addr) (c0 : Nat) (l0 : List Int) (a1 : Int) (w : World) (hr0 : Kd.C (Kd.int .u8) w A0 l0.length l0) (hc0 : l0.length ≤ c0) (h : dragnetlaw11_TextsNeverLong.f k l0 a1 = some true) :
    Calls Try.prog 10 #[.slice A0 l0.length c0, .int .u8 a1] w fun e w' => e = .returned (.bool true) ∧ Below w.heap.size w w' := by
  unfold dragnetlaw11_TextsNeverLong.f at h
  by_cases hb : 0 ≤ a1 ∧ a1 ≤ 255
  case neg => rw [if_neg hb] at h; cases h
  rw [if_pos hb] at h
  have HR0 := Aside0.mk hr0
  have HC0 := Aside0.mk hc0
  clear hr0 hc0
  have hal := Aside0.mk (dragnetlaw11_alive.calls true w rfl)
  by_cases hl : (l0.length : Int) > 4096
  · have d0 : decide ((4096 : Int) < (l0.length : Int)) = true := decide_eq_true hl
    have d1 : decide (4096 < l0.length) = true := decide_eq_true (by omega)
    clear h hl hb
    go_enter Try.func10, Try.ntmps10
    go_wp2_with (go_at_call 30; refine hal.out.mono ?_; rintro e w1 ⟨rfl, hb1⟩; have HB := Aside0.mk hb1; clear hb1)
    go_ret
    exact ⟨rfl, HB.out⟩
  · rw [if_neg hl] at h
    obtain ⟨⟨b, e2⟩, hput, hres⟩ := Option.bind_eq_some_iff.1 h
    obtain ⟨m, hm⟩ : ∃ m : Nat, (a1 % 16).toNat = m := ⟨_, rfl⟩
    rw [hm] at hput hres
    have hm16 : m ≤ 15 := by omega
    have hmod : Int.tmod a1 16 = (m : Int) := by rw [Int.tmod_eq_emod_of_nonneg hb.1]; omega
    have hwa : wrap64 a1 = a1 := by unfold wrap64; omega
    have HSUM := Aside0.mk (show wrap64 (wrap64 (wrap64 (wrap64 (((m : Int) + 1) * (l0.length : Int) + wrap64 ((((m : Int) + 1) * (l0.length : Int)).tdiv 255)) + 2) + 9) + 72) = (((m + 1) * l0.length : Nat) : Int) + (((m + 1) * l0.length / 255 : Nat) : Int) + 2 + 9 + 72 by
      have hmul : (m + 1) * l0.length ≤ 16 * 4096 := Nat.mul_le_mul (by omega) (by omega)
      have e : ((m : Int) + 1) * (l0.length : Int) = (((m + 1) * l0.length : Nat) : Int) := by rw [Int.natCast_mul]; rfl
      rw [e, Int.tdiv_eq_ediv_of_nonneg (by omega)]
      generalize (m + 1) * l0.length = q at hmul ⊢
      have e2 : ((q : Int) / 255) = ((q / 255 : Nat) : Int) := by omega
      rw [e2]
      have hd : q / 255 ≤ 65536 := Nat.le_trans (Nat.div_le_self _ _) hmul
      generalize q / 255 = d at hd ⊢
      simp only [wAl, wAr]
      unfold wrap64
      omega)
    have HPUT := Aside0.mk hput
    have HRES := Aside0.mk (Option.some.inj hres)
    have HM := Aside0.mk hm16
    have HL := Aside0.mk (show l0.length ≤ 4096 by omega)
    have d0 : decide ((4096 : Int) < (l0.length : Int)) = false := decide_eq_false hl
    have d1 : decide (4096 < l0.length) = false := decide_eq_false (by omega)
    clear h hput hres hl hm hm16 hb
    go_enter Try.func10, Try.ntmps10
    go_wp2_with (go_at_call 30; refine hal.out.mono ?_; rintro e w1 ⟨rfl, hb1⟩; have HB := Aside0.mk hb1; clear hb1)
    go_loopg [5, 6, 7] (m + 1) (fun kq v5 v6 v7 wr => ∃ i : Nat, v6 = .int .i64 ((i : Int) * (l0.length : Int)) ∧ v7 = .int .i64 (i : Int) ∧ Aside0 (kq + i = m + 1) ∧ Aside0 (wr.ownsRow w.heap.size 23 1 v5 i (List.replicate i (.slice A0 l0.length c0))) ∧ Aside0 (Below w.heap.size w wr))
    case atStart => exact ⟨0, by simp, rfl, ⟨by omega⟩, ⟨World.ownsRow_nil _ _ _ _⟩, HB⟩
    case round =>
      clear HB hal
      obtain ⟨i, rfl, rfl, HI, HO, HB⟩ := hrel
      obtain ⟨i0, hi, hz0, hz1, hz2⟩ := info_parts info_sl
      by_cases hi2 : i ≤ m
      · have t0 : decide ((i : Int) ≤ (m : Int)) = true := decide_eq_true (by omega)
        have t1 : decide (i ≤ m) = true := decide_eq_true hi2
        have hmul : i * l0.length ≤ 16 * 4096 := Nat.mul_le_mul (by have := HM.out; omega) HL.out
        have hw6 := Aside0.mk (mulS i l0.length (by rw [Nat.succ_mul]; have := HL.out; omega))
        have hw7 := Aside0.mk (show wrap64 ((i : Int) + 1) = ((i + 1 : Nat) : Int) by have := HM.out; unfold wrap64; omega)
        have HI2 := Aside0.mk hi2
        clear hmul hi2
        go_wp2_with ((with_reducible refine gate_dst (N := 25) rfl ?_); refine wpList_append_own_at _ rfl _ _ 41 rfl w.heap.size 23 i0 (.slice none 0 0) 1 24 Try.underlying41 hi hz0 hz1 hz2 rfl (by decide) _ i (List.replicate i (.slice A0 l0.length c0)) rfl (HO.out.alloc _) ⟨wr.heap.size, 0, none⟩ 1 1 [.slice A0 l0.length c0] rfl rfl (cellsP _ _ _) (by simp [Value.oneCell']) (by have := HI2.out; have := HM.out; unfold maxLen; omega) (by have := HI2.out; have := HM.out; omega) (by rw [World.size_alloc]; have := HB.out.size; omega) ?_; intro v' w4 hown' hgrow hnil hat; have HO4 := Aside0.mk hown'; have HB4 := Aside0.mk ((below_alloc HB.out (.cells #[.slice A0 l0.length c0] 23)).grown hgrow (by rw [World.size_alloc]; have := HB.out.size; omega) (fun j ej => own_base HO.out j ej)); clear hown' hgrow hnil hat)
        go_roundg (m - i)
        case measure => have := HI.out; have := HI2.out; omega
        case rel => exact ⟨i + 1, by first | rfl | rw [hw6.out], by first | rfl | rw [hw7.out], ⟨by have := HI2.out; omega⟩, ⟨by rw [List.replicate_succ']; exact HO4.out⟩, HB4⟩
      · have t0 : decide ((i : Int) ≤ (m : Int)) = false := decide_eq_false (by omega)
        have t1 : decide (i ≤ m) = false := decide_eq_false hi2
        obtain rfl : i = m + 1 := by have := HI.out; omega
        obtain ⟨A', c', rfl⟩ := own_slice' HO.out
        have hC := rows_of HO.out (Kd.C_below HR0.out HB.out) HC0.out (by have := HM.out; omega)
        have hc' : m + 1 ≤ c' := by
          rcases HO.out.2 with ⟨h0, h00⟩ | ⟨g, cap, cur, he, hge, hb, hnc, rest⟩
          · omega
          · injection he with e1 e2 e3
            omega
        have HC := Aside0.mk hC
        have HC' := Aside0.mk hc'
        have hres := HRES.out
        simp only [Bool.and_eq_true, decide_eq_true_eq] at hres
        obtain ⟨rfl, hlen⟩ := hres
        have HLEN := Aside0.mk hlen
        clear hC hc' hlen hi2
        go_wp2_with (go_at_call 33; refine callsArgs (args := #[.slice none 0 0, .slice A' (List.replicate (m + 1) l0).length c']) (by rw [List.length_replicate]) ((texts_Put.calls k none 0 [] A' c' (List.replicate (m + 1) l0) b 0 _ (Kd.C_nil _ _) (Nat.le_refl _) (by rw [List.length_replicate]; exact HC.out) (by rw [List.length_replicate]; exact HC'.out) HPUT.out).mono ?_); rintro e w2 ⟨v2, rfl, ho2, hb2⟩; obtain ⟨A2, c2, rfl⟩ := Kd.R_slice ho2; have HB2 := Aside0.mk (below_step HB.out hb2); clear ho2 hb2)
        go_ret
        exact ⟨by rw [HSUM.out, decide_eq_true HLEN.out]; rfl, HB2.out⟩
end Go.Proofs.Ytnmidkjmflnolaa.P
