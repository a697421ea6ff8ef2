/- The law MatchTimes: what it returns at every argument. -/
import Derived.Test.YtehaodbheifokaaGreatDoorAliveM20
namespace Go.Proofs.YtehaodbheifokaaGreatDoor.P
open Go Go.RowKit Go.Proofs.YtehaodbheifokaaGreatDoorW.PrintWords Go.Proofs.YtehaodbheifokaaGreatDoorW.PrintLast Go.Proofs.YtehaodbheifokaaGreatDoorW.PrintMore
attribute [local go_sem] max2_int min2_int max_two min_two
set_option linter.unusedVariables false
set_option linter.unusedSimpArgs false

/-- 'one', in general: out of what 'asked', 'right' and 'leaf' come to. -/
theorem one_calls (A : Option Addr) (c : Nat) (ns : List ND) (l : List Int) (s t : Int) (vl : Value) (lv : ND → Bool) (w : World) (hvl : ∃ a n m, vl = .slice a n m) (hC : Kd.C k37 w A ns.length ns) (hc : ns.length ≤ c)
    (hR : ∀ n ∈ ns, ∀ W A' c', Kd.string.C W A' n.f4.length n.f4 → n.f4.length ≤ c' → Calls Tryz.prog 61 #[.agg #[.int .i64 n.f0, .int .i64 n.f1, .int .i64 n.f2, .string n.f3, .slice A' n.f4.length c', .string n.f5, .int .i64 n.f6, .int .i64 n.f7]] W fun e w' => e = .returned (.bool (rightN n)) ∧ Below W.heap.size W w')
    (hL : ∀ W, Below w.heap.size w W → ∀ n ∈ ns, rightN n = true → n.f0 ≠ 10 → n.f0 ≠ 11 → n.f0 ≠ 12 → LeafOK W l s t vl n (lv n)) (hF : formedB ns 2 ⟨#[]⟩ 0 0 0 = true) :
    Calls Tryz.prog 18 #[.slice A ns.length c, .agg #[.int .i64 s, .int .i64 t, vl]] w fun e w' => e = .returned (.tuple #[.bool (holdsB lv ns), .bool true]) ∧ Below w.heap.size w w' := by
  obtain ⟨la, ln, lm, rfl⟩ := hvl
  have hH := fun (W : World) (hW : Below w.heap.size w W) => Holds_calls A c ns 2 ⟨#[]⟩ 0 0 0 l s t (.slice la ln lm) lv W ⟨_, _, _, rfl⟩ (Kd.C_below hC hW) hc (fun W => asked_two _ _ _ W) hR (fun W' hW' n hn h1 h2 h3 h4 => hL W' (below_step hW hW') n hn h1 h2 h3 h4)
  rw [hF] at hH
  have HH := Aside0.mk hH
  clear hH hL hR hC
  go_enter Tryz.func18, Tryz.ntmps18
  go_wp2_with fail
  refine (HH.out _ (by repeat (first | exact Below.refl _ _ | apply below_alloc))).mono ?_
  rintro e w2 ⟨rfl, hb⟩
  have HB := Aside0.mk (below_step (show Below w.heap.size w _ by repeat (first | exact Below.refl _ _ | apply below_alloc)) hb)
  clear hb
  go_wp2_with fail
  go_ret2
  exact ⟨by simp, HB.out⟩
def tN (lo hi : Int) : ND := ⟨9, 0, 0, ⟨#[]⟩, [], ⟨#[]⟩, lo, hi⟩
def jN (k : Int) : ND := ⟨k, 0, 1, ⟨#[]⟩, [], ⟨#[]⟩, 0, 0⟩
def lvT (t : Int) (n : ND) : Bool := decide (n.f6 ≤ t) && decide (t < n.f7)
theorem rightT (n : ND) (hn : (∃ lo hi, n = tN lo hi) ∨ n = jN 10 ∨ n = jN 11) : ∀ W A' c', Kd.string.C W A' n.f4.length n.f4 → n.f4.length ≤ c' → Calls Tryz.prog 61 #[.agg #[.int .i64 n.f0, .int .i64 n.f1, .int .i64 n.f2, .string n.f3, .slice A' n.f4.length c', .string n.f5, .int .i64 n.f6, .int .i64 n.f7]] W fun e w' => e = .returned (.bool (rightN n)) ∧ Below W.heap.size W w' := by
  intro W A' c' h1 h2
  rcases hn with ⟨lo, hi, rfl⟩ | rfl | rfl
  · exact right_9 _ _ _ A' c' _ _ _ _ W h1 h2 (by show (0 : Nat) ≤ _; omega)
  · exact right_10 _ _ _ A' c' _ _ _ _ W h1 h2 (by show (0 : Nat) ≤ _; omega)
  · exact right_11 _ _ _ A' c' _ _ _ _ W h1 h2 (by show (0 : Nat) ≤ _; omega)
theorem leafT (W : World) (s t : Int) (n : ND) (hn : (∃ lo hi, n = tN lo hi) ∨ n = jN 10 ∨ n = jN 11) (h10 : n.f0 ≠ 10) (h11 : n.f0 ≠ 11) : LeafOK W [] s t (.slice none 0 0) n (lvT t n) := by
  rcases hn with ⟨lo, hi, rfl⟩ | rfl | rfl
  · exact leafOK_time W [] s t _ _ rfl
  · exact absurd rfl h10
  · exact absurd rfl h11
theorem k_plain (W : World) (n : ND) (h : n.f4 = []) : k37.K W n [.int .i64 n.f0, .int .i64 n.f1, .int .i64 n.f2, .string n.f3, .slice none 0 0, .string n.f5, .int .i64 n.f6, .int .i64 n.f7] := by
  have := k37_mk W n (A4 := none) (c4 := 0) (by rw [h]; exact Nat.le_refl _) (by rw [h]; exact Kd.C_nil _ _)
  rwa [h] at this
abbrev cellsT (lo hi : Int) : Array Value := #[.int .i64 9, .int .i64 0, .int .i64 0, .string ⟨#[]⟩, .slice none 0 0, .string ⟨#[]⟩, .int .i64 lo, .int .i64 hi]
abbrev cells3 (k lo mid hi : Int) : Array Value := #[.int .i64 9, .int .i64 0, .int .i64 0, .string ⟨#[]⟩, .slice none 0 0, .string ⟨#[]⟩, .int .i64 lo, .int .i64 mid, .int .i64 9, .int .i64 0, .int .i64 0, .string ⟨#[]⟩, .slice none 0 0, .string ⟨#[]⟩, .int .i64 mid, .int .i64 hi, .int .i64 k, .int .i64 0, .int .i64 1, .string ⟨#[]⟩, .slice none 0 0, .string ⟨#[]⟩, .int .i64 0, .int .i64 0]
set_option maxRecDepth 100000 in
theorem form1 (lo hi : Int) : formedB [tN lo hi] 2 ⟨#[]⟩ 0 0 0 = true := by kernel_rfl
set_option maxRecDepth 100000 in
theorem form3a (lo mid hi : Int) : formedB [tN lo mid, tN mid hi, jN 10] 2 ⟨#[]⟩ 0 0 0 = true := by kernel_rfl
set_option maxRecDepth 100000 in
theorem form3o (lo mid hi : Int) : formedB [tN lo mid, tN mid hi, jN 11] 2 ⟨#[]⟩ 0 0 0 = true := by kernel_rfl
theorem held1 (lo hi t : Int) : holdsB (lvT t) [tN lo hi] = (decide (lo ≤ t) && decide (t < hi)) := by kernel_rfl
theorem held3a (lo mid hi t : Int) : holdsB (lvT t) [tN lo mid, tN mid hi, jN 10] = ((decide (lo ≤ t) && decide (t < mid)) && (decide (mid ≤ t) && decide (t < hi))) := by kernel_rfl
theorem held3o (lo mid hi t : Int) : holdsB (lvT t) [tN lo mid, tN mid hi, jN 11] = ((decide (lo ≤ t) && decide (t < mid)) || (decide (mid ≤ t) && decide (t < hi))) := by kernel_rfl
theorem oneT1 (g : Nat) (s t lo hi : Int) (w : World) (hN : w.heap[g]? = some (.cells (cellsT lo hi) 37 (0, 0))) :
    Calls Tryz.prog 18 #[.slice (some ⟨g, 0, none⟩) 1 1, .agg #[.int .i64 s, .int .i64 t, .slice none 0 0]] w fun e w' => e = .returned (.tuple #[.bool (decide (lo ≤ t) && decide (t < hi)), .bool true]) ∧ Below w.heap.size w w' := by
  have H := one_calls (some ⟨g, 0, none⟩) 1 [tN lo hi] [] s t (.slice none 0 0) (lvT t) w ⟨_, _, _, rfl⟩ (C_of hN [tN lo hi] (by simp) (fun j p hj => by
      match j, hj with
      | 0, hj => simp at hj; subst hj; exact k_plain w (tN lo hi) rfl
      | j + 1, hj => simp at hj)) (Nat.le_refl _)
    (fun n hn => rightT n (.inl ⟨lo, hi, one_mem hn⟩)) (fun W hW n hn _ h10 h11 _ => leafT W s t n (.inl ⟨lo, hi, one_mem hn⟩) h10 h11) (form1 lo hi)
  rw [held1] at H
  exact H
theorem oneT3a (g : Nat) (s t lo mid hi : Int) (w : World) (hN : w.heap[g]? = some (.cells (cells3 10 lo mid hi) 37 (0, 0))) :
    Calls Tryz.prog 18 #[.slice (some ⟨g, 0, none⟩) 3 3, .agg #[.int .i64 s, .int .i64 t, .slice none 0 0]] w fun e w' => e = .returned (.tuple #[.bool ((decide (lo ≤ t) && decide (t < mid)) && (decide (mid ≤ t) && decide (t < hi))), .bool true]) ∧ Below w.heap.size w w' := by
  have hm : ∀ n ∈ [tN lo mid, tN mid hi, jN 10], (∃ lo hi, n = tN lo hi) ∨ n = jN 10 ∨ n = jN 11 := by
    intro n hn
    simp only [List.mem_cons, List.not_mem_nil, or_false] at hn
    rcases hn with rfl | rfl | rfl
    · exact .inl ⟨_, _, rfl⟩
    · exact .inl ⟨_, _, rfl⟩
    · exact .inr (.inl rfl)
  have H := one_calls (some ⟨g, 0, none⟩) 3 [tN lo mid, tN mid hi, jN 10] [] s t (.slice none 0 0) (lvT t) w ⟨_, _, _, rfl⟩ (C_of hN [tN lo mid, tN mid hi, jN 10] (by simp) (fun j p hj => by
      match j, hj with
      | 0, hj => simp at hj; subst hj; exact k_plain w (tN lo mid) rfl
      | 1, hj => simp at hj; subst hj; exact k_plain w (tN mid hi) rfl
      | 2, hj => simp at hj; subst hj; exact k_plain w (jN 10) rfl
      | j + 3, hj => simp at hj)) (Nat.le_refl _)
    (fun n hn => rightT n (hm n hn)) (fun W hW n hn _ h10 h11 _ => leafT W s t n (hm n hn) h10 h11) (form3a lo mid hi)
  rw [held3a] at H
  exact H
theorem oneT3o (g : Nat) (s t lo mid hi : Int) (w : World) (hN : w.heap[g]? = some (.cells (cells3 11 lo mid hi) 37 (0, 0))) :
    Calls Tryz.prog 18 #[.slice (some ⟨g, 0, none⟩) 3 3, .agg #[.int .i64 s, .int .i64 t, .slice none 0 0]] w fun e w' => e = .returned (.tuple #[.bool ((decide (lo ≤ t) && decide (t < mid)) || (decide (mid ≤ t) && decide (t < hi))), .bool true]) ∧ Below w.heap.size w w' := by
  have hm : ∀ n ∈ [tN lo mid, tN mid hi, jN 11], (∃ lo hi, n = tN lo hi) ∨ n = jN 10 ∨ n = jN 11 := by
    intro n hn
    simp only [List.mem_cons, List.not_mem_nil, or_false] at hn
    rcases hn with rfl | rfl | rfl
    · exact .inl ⟨_, _, rfl⟩
    · exact .inl ⟨_, _, rfl⟩
    · exact .inr (.inr rfl)
  have H := one_calls (some ⟨g, 0, none⟩) 3 [tN lo mid, tN mid hi, jN 11] [] s t (.slice none 0 0) (lvT t) w ⟨_, _, _, rfl⟩ (C_of hN [tN lo mid, tN mid hi, jN 11] (by simp) (fun j p hj => by
      match j, hj with
      | 0, hj => simp at hj; subst hj; exact k_plain w (tN lo mid) rfl
      | 1, hj => simp at hj; subst hj; exact k_plain w (tN mid hi) rfl
      | 2, hj => simp at hj; subst hj; exact k_plain w (jN 11) rfl
      | j + 3, hj => simp at hj)) (Nat.le_refl _)
    (fun n hn => rightT n (hm n hn)) (fun W hW n hn _ h10 h11 _ => leafT W s t n (hm n hn) h10 h11) (form3o lo mid hi)
  rw [held3o] at H
  exact H
noncomputable def dragnetlaw20_MatchTimes.f (a0 a1 a2 : Int) : Option Bool := some true
set_option maxHeartbeats 4000000 in
set_option maxRecDepth 100000 in
theorem times_ok (lo mid hi : Int) (w : World) (hX : FieldIn w) (h1 : lo ≤ mid) (h2 : mid ≤ hi) :
    Calls Tryz.prog 6 #[.int .i64 lo, .int .i64 mid, .int .i64 hi] w fun e w' => e = .returned (.bool true) ∧ Below w.heap.size w w' := by
  have HA := Aside0.mk (alive20 w hX)
  have d0 : decide (mid < lo) = false := decide_eq_false (by omega)
  have d1 : decide (hi < mid) = false := decide_eq_false (by omega)
  have HL := Aside0.mk h1
  have HH := Aside0.mk h2
  clear hX h1 h2
  go_enter Tryz.func6, Tryz.ntmps6
  go_wp2_with fail
  refine HA.out.mono ?_
  rintro e w1 ⟨rfl, hb⟩
  have HB1 := Aside0.mk hb
  clear hb
  go_wp2_with fail
  go_loopg [8] 3 (fun kq v8 wr => ∃ (i : Nat), v8 = .int .i64 (i : Int) ∧ Aside0 (kq + i = 3) ∧ Aside0 (Below w.heap.size w wr) ∧ Aside0 (wr.heap[w1.heap.size]? = some (.cells #[.int .i64 lo, .int .i64 mid, .int .i64 hi] 44 (0, 0))))
  case atStart => exact ⟨0, rfl, ⟨rfl⟩, ⟨below_alloc HB1.out _⟩, ⟨blk_new w1 _⟩⟩
  case round =>
    obtain ⟨i, rfl, HI, HB, HK⟩ := hrel
    by_cases hi3 : i < 3
    · have d2 : decide ((i : Int) < 3) = true := decide_eq_true (by omega)
      have d3 : decide (i < 3) = true := decide_eq_true hi3
      obtain ⟨t, ht, hlt⟩ : ∃ t, ([lo, mid, hi] : List Int)[i]? = some t ∧ lo ≤ t := by
        have := HL.out; have := HH.out
        match i, hi3 with
        | 0, _ => exact ⟨lo, rfl, by omega⟩
        | 1, _ => exact ⟨mid, rfl, by omega⟩
        | 2, _ => exact ⟨hi, rfl, by omega⟩
      have kt : ∀ W : World, Below wr.heap.size wr W → W.cell? ⟨w1.heap.size, i, none⟩ = some (.int .i64 t) := fun W hW => by
        rw [blk_cell (blk_below HK.out hW)]
        match i, ht with
        | 0, ht => simp at ht; subst ht; rfl
        | 1, ht => simp at ht; subst ht; rfl
        | 2, ht => simp at ht; subst ht; rfl
      have k0 := kt wr (Below.refl _ _)
      have KT := Aside0.mk kt
      have HLT := Aside0.mk hlt
      have HI2 := Aside0.mk hi3
      clear kt ht hlt
      go_wp2_with fail
      obtain ⟨w2, hw2⟩ : ∃ w2, w2 = ((wr.alloc (Obj.cells #[.int .i64 0, .int .i64 t, .slice none 0 0] 27)).alloc (Obj.cells (cellsT lo hi) 37)) := ⟨_, rfl⟩
      have b2 : w2.heap[wr.heap.size + 1]? = some (.cells (cellsT lo hi) 37 (0, 0)) := by
        have h := blk_new (wr.alloc (Obj.cells #[.int .i64 0, .int .i64 t, .slice none 0 0] 27)) (Obj.cells (cellsT lo hi) 37)
        rw [World.size_alloc] at h
        rw [hw2]; exact h
      have BR := Aside0.mk (show w2.heap[wr.heap.size]? = some (.cells #[.int .i64 0, .int .i64 t, .slice none 0 0] 27 (0, 0)) by rw [hw2]; exact blk_alloc (blk_new wr _) _)
      have HB2 := Aside0.mk (show Below wr.heap.size wr w2 by rw [hw2]; repeat (first | exact Below.refl _ _ | apply below_alloc))
      change Calls _ _ _ ((wr.alloc (Obj.cells #[.int .i64 0, .int .i64 t, .slice none 0 0] 27)).alloc (Obj.cells (cellsT lo hi) 37)) _
      rw [← hw2]
      refine (oneT1 _ 0 t lo hi w2 b2).mono ?_
      rintro e w3 ⟨rfl, hb⟩
      have HB3 := Aside0.mk (below_step HB2.out hb)
      have br := blk_below BR.out hb
      have r0 : w3.cell? ⟨wr.heap.size, 0, none⟩ = some (.int .i64 0) := (blk_cell br 0).trans rfl
      have r1 : w3.cell? ⟨wr.heap.size, 1, none⟩ = some (.int .i64 t) := (blk_cell br 1).trans rfl
      have r2 : w3.cell? ⟨wr.heap.size, 2, none⟩ = some (.slice none 0 0) := (blk_cell br 2).trans rfl
      have brA := blk_alloc br (Obj.cells (cells3 11 lo mid hi) 37)
      have s0 : (w3.alloc (Obj.cells (cells3 11 lo mid hi) 37)).cell? ⟨wr.heap.size, 0, none⟩ = some (.int .i64 0) := (blk_cell brA 0).trans rfl
      have s1 : (w3.alloc (Obj.cells (cells3 11 lo mid hi) 37)).cell? ⟨wr.heap.size, 1, none⟩ = some (.int .i64 t) := (blk_cell brA 1).trans rfl
      have s2 : (w3.alloc (Obj.cells (cells3 11 lo mid hi) 37)).cell? ⟨wr.heap.size, 2, none⟩ = some (.slice none 0 0) := (blk_cell brA 2).trans rfl
      have BR3 := Aside0.mk brA
      have hwhole : (decide (lo ≤ t) && decide (t < hi)) = decide (t < hi) := by rw [decide_eq_true HLT.out, Bool.true_and]
      rw [hwhole]
      obtain ⟨wb, hwb⟩ : ∃ wb, decide (t < hi) = wb := ⟨_, rfl⟩
      rw [hwb]
      have HWB := Aside0.mk hwb
      clear br brA hb b2 hw2 k0 hwhole hwb
      go_wp2_with fail
      refine (oneT3o w3.heap.size 0 t lo mid hi _ (blk_new w3 _)).mono ?_
      rintro e w4 ⟨rfl, hb⟩
      have HB4 := Aside0.mk (below_step HB3.out (below_step (below_alloc (Below.refl _ _) _) hb))
      have br := blk_below BR3.out hb
      have r0 : w4.cell? ⟨wr.heap.size, 0, none⟩ = some (.int .i64 0) := (blk_cell br 0).trans rfl
      have r1 : w4.cell? ⟨wr.heap.size, 1, none⟩ = some (.int .i64 t) := (blk_cell br 1).trans rfl
      have r2 : w4.cell? ⟨wr.heap.size, 2, none⟩ = some (.slice none 0 0) := (blk_cell br 2).trans rfl
      have brA := blk_alloc br (Obj.cells (cells3 10 lo mid hi) 37)
      have s0 : (w4.alloc (Obj.cells (cells3 10 lo mid hi) 37)).cell? ⟨wr.heap.size, 0, none⟩ = some (.int .i64 0) := (blk_cell brA 0).trans rfl
      have s1 : (w4.alloc (Obj.cells (cells3 10 lo mid hi) 37)).cell? ⟨wr.heap.size, 1, none⟩ = some (.int .i64 t) := (blk_cell brA 1).trans rfl
      have s2 : (w4.alloc (Obj.cells (cells3 10 lo mid hi) 37)).cell? ⟨wr.heap.size, 2, none⟩ = some (.slice none 0 0) := (blk_cell brA 2).trans rfl
      have hparts : ((decide (lo ≤ t) && decide (t < mid)) || (decide (mid ≤ t) && decide (t < hi))) = wb := by
        rw [← HWB.out, decide_eq_true HLT.out, Bool.true_and]
        have := HH.out
        by_cases h : t < mid
        · rw [decide_eq_true h, decide_eq_true (show t < hi by omega)]; rfl
        · rw [decide_eq_false h, decide_eq_true (show mid ≤ t by omega)]; rfl
      rw [hparts]
      clear br brA hb hparts
      go_wp2_with fail
      refine (oneT3a w4.heap.size 0 t lo mid hi _ (blk_new w4 _)).mono ?_
      rintro e w5 ⟨rfl, hb⟩
      have HB5 := Aside0.mk (below_step HB4.out (below_step (below_alloc (Below.refl _ _) _) hb))
      have hboth : ((decide (lo ≤ t) && decide (t < mid)) && (decide (mid ≤ t) && decide (t < hi))) = false := by
        by_cases h : t < mid
        · rw [decide_eq_false (show ¬ mid ≤ t by omega)]; simp
        · rw [decide_eq_false h]; simp
      rw [hboth]
      have kk := KT.out w5 HB5.out
      have HBN := Aside0.mk (HB.out.trans (HB5.out.mono HB.out.size))
      have HKN := Aside0.mk (blk_below HK.out HB5.out)
      clear hb hboth
      cases wb
      all_goals (
        have d9 := HWB.out
        go_wp2_with fail
        try rw [show wrap64 ((i : Int) + 1) = ((i + 1 : Nat) : Int) by have := HI2.out; unfold wrap64; omega]
        go_roundg (3 - i - 1)
        case measure => have := HI.out; have := HI2.out; omega
        case rel => exact ⟨i + 1, rfl, ⟨by have := HI.out; have := HI2.out; omega⟩, HBN, HKN⟩)
    · have d2 : decide ((i : Int) < 3) = false := decide_eq_false (by omega)
      go_wp2_with fail
      go_ret
      exact ⟨rfl, HB.out⟩
set_option maxHeartbeats 4000000 in
set_option maxRecDepth 100000 in
theorem times_skip (lo mid hi : Int) (w : World) (hX : FieldIn w) (h : mid < lo ∨ hi < mid) :
    Calls Tryz.prog 6 #[.int .i64 lo, .int .i64 mid, .int .i64 hi] w fun e w' => e = .returned (.bool true) ∧ Below w.heap.size w w' := by
  have HA := Aside0.mk (alive20 w hX)
  by_cases h1 : mid < lo
  · have d0 : decide (mid < lo) = true := decide_eq_true h1
    go_enter Tryz.func6, Tryz.ntmps6
    go_wp2_with fail
    refine HA.out.mono ?_
    rintro e w1 ⟨rfl, hb⟩
    have HB1 := Aside0.mk hb
    clear hb
    go_wp2_with fail
    go_ret
    exact ⟨rfl, HB1.out⟩
  · have d0 : decide (mid < lo) = false := decide_eq_false h1
    have d1 : decide (hi < mid) = true := decide_eq_true (by omega)
    clear h
    go_enter Tryz.func6, Tryz.ntmps6
    go_wp2_with fail
    refine HA.out.mono ?_
    rintro e w1 ⟨rfl, hb⟩
    have HB1 := Aside0.mk hb
    clear hb
    go_wp2_with fail
    go_ret
    exact ⟨rfl, HB1.out⟩
theorem dragnetlaw20_MatchTimes.calls (a0 a1 a2 : Int) (w : World) (h : dragnetlaw20_MatchTimes.f a0 a1 a2 = some true) (hx : FieldIn w) :
    Calls Tryz.prog 6 #[.int .i64 a0, .int .i64 a1, .int .i64 a2] w fun e w' => e = .returned (.bool true) ∧ Below w.heap.size w w' := by
  by_cases h1 : a0 ≤ a1 ∧ a1 ≤ a2
  · exact times_ok a0 a1 a2 w hx h1.1 h1.2
  · exact times_skip a0 a1 a2 w hx (by omega)
end Go.Proofs.YtehaodbheifokaaGreatDoor.P
