/- Several texts in one: Lower20, Words20, LawWords20. -/
import Derived.Test.YtehaodbheifokaaGreatDoorLeafH20
import Derived.Deep.Light
import Derived.Test.YtehaodbheifokaaGreatDoorAliveM20
import Derived.Test.YtehaodbheifokaaGreatDoorRightB20
section
namespace Go.Proofs.YtehaodbheifokaaGreatDoor.P
open Go Go.RowKit Go.Proofs.YtehaodbheifokaaGreatDoorW.PrintWords Go.Proofs.YtehaodbheifokaaGreatDoorW.PrintLast Go.Proofs.YtehaodbheifokaaGreatDoorW.PrintMore
set_option linter.unusedVariables false
set_option linter.unusedSimpArgs false

/-- A block of bytes that bears a mark behind its last cell. -/
def MarkedB (g : Nat) (xs : List Int) (W : World) : Prop := ∃ cs, W.heap[g]? = some (.cells cs 5 (cs.size, cs.size + 1)) ∧ xs.length ≤ cs.size ∧ ∀ (j : Nat) x, xs[j]? = some x → cs[j]? = some (.int .u8 x)
theorem MarkedB.cell {g : Nat} {xs : List Int} {W : World} (h : MarkedB g xs W) {j : Nat} {x : Int} (hx : xs[j]? = some x) : W.cell? ⟨g, j, none⟩ = some (.int .u8 x) := by
  obtain ⟨cs, h1, h2, h3⟩ := h
  rw [cell_of_row W g j cs _ _ h1]
  exact h3 j x hx
theorem MarkedB.frozen {g : Nat} {xs : List Int} {W : World} (h : MarkedB g xs W) {j : Nat} (hj : j < xs.length) : W.frozen? ⟨g, j, none⟩ = false := by
  obtain ⟨cs, h1, h2, h3⟩ := h
  simp [World.frozen?, h1]
  omega
theorem MarkedB.put {g : Nat} {xs : List Int} {W : World} (h : MarkedB g xs W) (j : Nat) (x : Int) : MarkedB g (xs.set j x) (W.setCell ⟨g, j, none⟩ (.int .u8 x)) := by
  obtain ⟨cs, h1, h2, h3⟩ := h
  have hg : g < W.heap.size := (Array.getElem?_eq_some_iff.1 h1).1
  have e : (W.setCell ⟨g, j, none⟩ (.int .u8 x)).heap[g]? = some (.cells (cs.setIfInBounds j (.int .u8 x)) 5 (cs.size, cs.size + 1)) := by
    unfold World.setCell
    simp [Array.getElem?_modify, h1]
  refine ⟨_, by rw [e, Array.size_setIfInBounds], by rw [List.length_set, Array.size_setIfInBounds]; exact h2, fun i y hy => ?_⟩
  rw [List.getElem?_set] at hy
  by_cases hij : j = i
  · subst hij
    rw [if_pos rfl] at hy
    by_cases hl : j < xs.length
    · rw [if_pos hl] at hy
      cases hy
      rw [Array.getElem?_setIfInBounds_self_of_lt (by omega)]
    · rw [if_neg hl] at hy; cases hy
  · rw [if_neg hij] at hy
    rw [Array.getElem?_setIfInBounds_ne hij]
    exact h3 i y hy
theorem MarkedB.made (W : World) (s : ByteArray) : MarkedB W.heap.size (bytesOf s) (Lib.bytesWorld W 5 s) := by
  refine ⟨_, Lib.bytesWorld_at_new W 5 s, ?_, fun j x hx => ?_⟩
  · rw [bytesOf_length]
    simp [Lib.bytesCells]
  · have hj := (List.getElem?_eq_some_iff.1 hx).1
    have h := Lib.bytesWorld_cell W 5 s j (by rw [bytesOf_length] at hj; exact hj)
    rw [cell_of_row _ _ j _ _ _ (Lib.bytesWorld_at_new W 5 s)] at h
    rw [h]
    have h2 : s.data.toList.length = s.size := by rw [Array.length_toList]; rfl
    rw [bytesOf_length] at hj
    simp [bytesOf, List.getElem?_map] at hx
    obtain ⟨b, hb, rfl⟩ := hx
    simp [List.getD, hb]
theorem MarkedB.C {g : Nat} {xs : List Int} {W : World} (h : MarkedB g xs W) (hn : xs.length ≤ 1099511627776) : Kd.C (Kd.int .u8) W (some ⟨g, 0, none⟩) xs.length xs := by
  refine ⟨rfl, by omega, fun _ => ⟨⟨g, 0, none⟩, rfl, fun j p hj => ⟨[.int .u8 p], rfl, rfl, fun i u hi => ?_⟩⟩⟩
  obtain ⟨rfl, rfl⟩ : i = 0 ∧ u = .int .u8 p := by
    cases i with
    | zero => simp at hi; exact ⟨rfl, hi.symm⟩
    | succ i => simp at hi
  show W.cell? _ = _
  rw [WideShapes.add_plain, show 0 + (j * (Kd.int .u8).sz + 0) = j by show 0 + (j * 1 + 0) = j; omega]
  exact h.cell hj
/-- What is lowered up to place i. -/
def lowTo (xs : List Int) (i : Nat) : List Int := (xs.take i).map lowB ++ xs.drop i
theorem lowTo_next {xs : List Int} {i : Nat} {x : Int} (h : xs[i]? = some x) : (lowTo xs i).set i (lowB x) = lowTo xs (i + 1) := by
  obtain ⟨hl, rfl⟩ := List.getElem?_eq_some_iff.1 h
  unfold lowTo
  rw [List.set_append_right _ _ (by simp; exact Nat.min_le_left _ _), List.take_succ_eq_append_getElem hl, List.map_append, List.drop_eq_getElem_cons hl]
  rw [List.length_map, List.length_take, Nat.min_eq_left (by omega), Nat.sub_self, List.set_cons_zero]
  simp
theorem lowTo_at {xs : List Int} {i : Nat} {x : Int} (h : xs[i]? = some x) : (lowTo xs i)[i]? = some x := by
  obtain ⟨hl, _⟩ := List.getElem?_eq_some_iff.1 h
  unfold lowTo
  rw [List.getElem?_append_right (by simp; exact Nat.min_le_left _ _), List.length_map, List.length_take, Nat.min_eq_left (by omega), Nat.sub_self, List.getElem?_drop]
  exact h
theorem setSelf {xs : List Int} {i : Nat} {x : Int} (h : xs[i]? = some x) : xs.set i x = xs := by
  obtain ⟨hl, rfl⟩ := List.getElem?_eq_some_iff.1 h
  exact List.set_getElem_self hl
theorem lowTo_len (xs : List Int) (i : Nat) : (lowTo xs i).length = xs.length := by unfold lowTo; simp; omega
set_option maxHeartbeats 4000000 in
set_option maxRecDepth 100000 in
theorem lower_calls (s : ByteArray) (w : World) (hs : s.size ≤ 1099511627776) :
    Calls Tryz.prog 20 #[.string s] w fun e w' => e = .returned (.string (strOfNums ((bytesOf s).map lowB))) ∧ Below w.heap.size w w' := by
  have hcv := fun W : World => print_bytes (P := Tryz.prog) 9 25 5 Tryz.underlying9 Tryz.underlying25 Tryz.underlying5 s W
  obtain ⟨xs, hxs⟩ : ∃ xs, bytesOf s = xs := ⟨_, rfl⟩
  have HL := Aside0.mk (show xs.length = s.size by rw [← hxs, bytesOf_length])
  have HM := Aside0.mk (show MarkedB w.heap.size xs (Lib.bytesWorld w 5 s) by rw [← hxs]; exact MarkedB.made w s)
  have HIN := Aside0.mk (show ∀ x ∈ xs, 0 ≤ x ∧ x < 256 by rw [← hxs]; exact bytesOf_in s)
  rw [hxs]
  clear hxs
  go_enter Tryz.func20, Tryz.ntmps20
  go_wp2_with fail
  go_loopg [4] s.size (fun kq v4 wr => ∃ i : Nat, v4 = .int .i64 (i : Int) ∧ Aside0 (kq + i = s.size) ∧ Aside0 (Below w.heap.size w wr) ∧ Aside0 (MarkedB w.heap.size (lowTo xs i) wr))
  case atStart => exact ⟨0, rfl, ⟨rfl⟩, ⟨bytes_below (Below.refl _ _) (Nat.le_refl _) _ _⟩, ⟨HM.out⟩⟩
  case round =>
    clear hcv
    obtain ⟨i, rfl, HI, HB, HK⟩ := hrel
    by_cases hi : i < s.size
    · have d0 : decide ((i : Int) < (s.size : Int)) = true := decide_eq_true (by omega)
      have d1 : decide (i < s.size) = true := decide_eq_true hi
      obtain ⟨x, hx⟩ : ∃ x, xs[i]? = some x := ⟨_, List.getElem?_eq_getElem (by have := HL.out; omega)⟩
      have c0 := HK.out.cell (lowTo_at hx)
      have z0 := HK.out.frozen (j := i) (by rw [lowTo_len]; have := HL.out; omega)
      have hxr := HIN.out x (List.mem_of_getElem? hx)
      have HX := Aside0.mk hx
      have HI2 := Aside0.mk hi
      clear hx
      by_cases h1 : 65 ≤ x
      · have e1 : decide (65 ≤ x) = true := decide_eq_true h1
        by_cases h2 : x ≤ 90
        · have e2 : decide (x ≤ 90) = true := decide_eq_true h2
          have HLB := Aside0.mk (show lowB x = x + 32 by unfold lowB; rw [if_pos ⟨h1, h2⟩])
          have HMOD := Aside0.mk (show (x + 32) % 256 = x + 32 by omega)
          clear h1 h2 hxr
          go_wp2_with fail
          try rw [show wrap64 ((i : Int) + 1) = ((i + 1 : Nat) : Int) by have := HI2.out; unfold wrap64; omega]
          go_roundg (s.size - i - 1)
          case measure => have := HI.out; have := HI2.out; omega
          case rel =>
            refine ⟨i + 1, rfl, ⟨by have := HI.out; have := HI2.out; omega⟩, ⟨HB.out.setCell (p := ⟨w.heap.size, i, none⟩) (Nat.le_refl _) _⟩, ⟨?_⟩⟩
            rw [← lowTo_next HX.out, HLB.out]
            have h := HK.out.put i (x + 32)
            try rw [HMOD.out]
            exact h
        · have e2 : decide (x ≤ 90) = false := decide_eq_false h2
          have HLB := Aside0.mk (show lowB x = x by unfold lowB; rw [if_neg (fun h => h2 h.2)])
          clear h1 h2 hxr
          go_wp2_with fail
          try rw [show wrap64 ((i : Int) + 1) = ((i + 1 : Nat) : Int) by have := HI2.out; unfold wrap64; omega]
          go_roundg (s.size - i - 1)
          case measure => have := HI.out; have := HI2.out; omega
          case rel => exact ⟨i + 1, rfl, ⟨by have := HI.out; have := HI2.out; omega⟩, HB, ⟨by rw [← lowTo_next HX.out, HLB.out, setSelf (lowTo_at HX.out)]; exact HK.out⟩⟩
      · have e1 : decide (65 ≤ x) = false := decide_eq_false h1
        have HLB := Aside0.mk (show lowB x = x by unfold lowB; rw [if_neg (fun h => h1 h.1)])
        clear h1 hxr
        go_wp2_with fail
        try rw [show wrap64 ((i : Int) + 1) = ((i + 1 : Nat) : Int) by have := HI2.out; unfold wrap64; omega]
        go_roundg (s.size - i - 1)
        case measure => have := HI.out; have := HI2.out; omega
        case rel => exact ⟨i + 1, rfl, ⟨by have := HI.out; have := HI2.out; omega⟩, HB, ⟨by rw [← lowTo_next HX.out, HLB.out, setSelf (lowTo_at HX.out)]; exact HK.out⟩⟩
    · have hie : i = s.size := by have := HI.out; omega
      have d0 : decide ((i : Int) < (s.size : Int)) = false := decide_eq_false (by omega)
      have d1 : decide (i < s.size) = false := decide_eq_false hi
      have hlow : lowTo xs i = xs.map lowB := by unfold lowTo; rw [hie, ← HL.out, List.take_length, List.drop_length, List.append_nil]
      have hC := HK.out.C (by rw [lowTo_len]; have := HL.out; omega)
      rw [hlow, List.length_map, HL.out] at hC
      have hst := Kd.C_string (P := Tryz.prog) (c := grownCap w s.size 0 5) Tryz.underlying25 Tryz.underlying5 Tryz.underlying9 hC
      clear hlow hC hie
      go_wp2_with fail
      go_ret
      exact ⟨rfl, HB.out⟩
set_option maxHeartbeats 4000000 in
set_option maxRecDepth 100000 in
theorem refIn_calls (c : Int) (w : World) :
    Calls Tryz.prog 44 #[.int .u8 c] w fun e w' => e = .returned (.bool (inB c)) ∧ Drawn0 w w' := by
  obtain ⟨r, hr⟩ : ∃ r, inB c = r := ⟨_, rfl⟩
  rw [hr]
  have HR := Aside0.mk hr
  clear hr
  go_enter Tryz.func44, Tryz.ntmps44
  go_wp2
  all_goals go_ret
  all_goals (refine ⟨?_, Drawn0.refl _⟩)
  all_goals first | refine congrArg (fun z => Ending.returned (Value.bool z)) (show true = r from ?_) | refine congrArg (fun z => Ending.returned (Value.bool z)) (show false = r from ?_) | refine congrArg (fun z => Ending.returned (Value.bool z)) (show decide _ = r from ?_) | refine congrArg (fun z => Ending.returned (Value.bool z)) (show (_ || _) = r from ?_)
  all_goals (rw [← HR.out]; clear HR; go_light; unfold inB)
  all_goals grind
theorem strOf_inj {xs ys : List Int} (hx : ∀ x ∈ xs, 0 ≤ x ∧ x < 256) (hy : ∀ x ∈ ys, 0 ≤ x ∧ x < 256) (h : Lib.bytesOf xs = Lib.bytesOf ys) : xs = ys := by
  induction xs generalizing ys with
  | nil => cases ys with
    | nil => rfl
    | cons y ys => simp [Lib.bytesOf] at h
  | cons x xs ih =>
    cases ys with
    | nil => simp [Lib.bytesOf] at h
    | cons y ys =>
      simp only [Lib.bytesOf, List.map_cons, List.cons.injEq] at h
      have h1 := hx x (by simp); have h2 := hy y (by simp)
      have e : x = y := by
        have h3 := congrArg UInt8.toNat h.1
        simp at h3
        omega
      rw [e, ih (fun z hz => hx z (by simp [hz])) (fun z hz => hy z (by simp [hz])) h.2]
theorem bytesOf_back (s : ByteArray) : Lib.bytesOf (bytesOf s) = s.toList := by
  rw [bytes_eq0]
  unfold Lib.bytesOf bytesOf
  rw [List.map_map]
  conv => rhs; rw [← List.map_id s.data.toList]
  apply List.map_congr_left
  intro b _
  simp
theorem tok_iff (s : ByteArray) (h : 1 ≤ s.size ∧ s.size ≤ 64) : tokB s = (decide ((bytesOf s).map lowB = bytesOf s) && (bytesOf s).all inB) := by
  unfold tokB
  rw [decide_eq_true h, Bool.true_and]
  have key : ∀ (d i : Nat), i + d = s.size → tokFrom s i = (decide (((bytesOf s).drop i).map lowB = (bytesOf s).drop i) && ((bytesOf s).drop i).all inB) := by
    intro d
    induction d with
    | zero =>
      intro i hi
      obtain rfl : i = s.size := by omega
      rw [tokFrom_end, List.drop_eq_nil_of_le (by rw [bytesOf_length]; omega)]
      rfl
    | succ d ih =>
      intro i hi
      have hl : i < (bytesOf s).length := by rw [bytesOf_length]; omega
      rw [tokFrom_step s i (by omega), ih (i + 1) (by omega), List.drop_eq_getElem_cons hl]
      have e : (bytesOf s)[i] = bt s (i : Int) := by
        rw [← rd_bytesOf]
        simp [rd, List.getD, hl]
      rw [e]
      unfold tokC
      simp only [List.map_cons, List.cons.injEq, List.all_cons]
      by_cases h1 : lowB (bt s (i : Int)) = bt s (i : Int) <;> by_cases h2 : ((bytesOf s).drop (i + 1)).map lowB = (bytesOf s).drop (i + 1) <;> cases inB (bt s (i : Int)) <;> simp [h1, h2]
  have := key s.size 0 (by omega)
  rwa [List.drop_zero] at this
set_option maxHeartbeats 4000000 in
set_option maxRecDepth 100000 in
theorem is_calls (s : ByteArray) (w : World) :
    Calls Tryz.prog 19 #[.string s] w fun e w' => e = .returned (.bool (tokB s)) ∧ Below w.heap.size w w' := by
  by_cases h1 : s.size < 1
  · have hf : tokB s = false := by unfold tokB; rw [decide_eq_false (by omega)]; rfl
    rw [hf]
    have d1 : decide ((s.size : Int) < 1) = true := decide_eq_true (by omega)
    go_enter Tryz.func19, Tryz.ntmps19
    go_wp2_with fail
    go_ret
    exact ⟨rfl, Below.refl _ _⟩
  have d1 : decide ((s.size : Int) < 1) = false := decide_eq_false (by omega)
  by_cases h2 : s.size > 64
  · have hf : tokB s = false := by unfold tokB; rw [decide_eq_false (show ¬(1 ≤ s.size ∧ s.size ≤ 64) by omega)]; rfl
    rw [hf]
    have d2 : decide ((64 : Int) < (s.size : Int)) = true := decide_eq_true (by omega)
    go_enter Tryz.func19, Tryz.ntmps19
    go_wp2_with fail
    all_goals go_ret
    all_goals exact ⟨rfl, Below.refl _ _⟩
  have d2 : decide ((64 : Int) < (s.size : Int)) = false := decide_eq_false (by omega)
  have hk := tok_iff s ⟨by omega, by omega⟩
  have HLW := Aside0.mk (fun W => lower_calls s W (by omega))
  have HSZ := Aside0.mk (show s.size ≤ 64 by omega)
  obtain ⟨t, ht⟩ : ∃ t, strOfNums ((bytesOf s).map lowB) = t := ⟨_, rfl⟩
  have hte : t.toList = s.toList ↔ (bytesOf s).map lowB = bytesOf s := by
    rw [← ht, Lib.strOfNums_toList, ← bytesOf_back]
    constructor
    · intro h
      refine strOf_inj (fun x hx => ?_) (bytesOf_in s) h
      obtain ⟨y, hy, rfl⟩ := List.mem_map.1 hx
      have := bytesOf_in s y hy
      unfold lowB
      split <;> omega
    · intro h; rw [h]
  rw [ht] at HLW
  clear ht
  obtain ⟨r, hr⟩ : ∃ r, tokB s = r := ⟨_, rfl⟩
  rw [hr] at hk ⊢
  clear hr
  by_cases hb : t.toList = s.toList
  · have c1 : (t.toList == s.toList) = true := beq_iff_eq.2 hb
    have c2 : (t.toList != s.toList) = false := bne_eq_false_iff_eq.2 hb
    rw [decide_eq_true (hte.1 hb), Bool.true_and] at hk
    have HK := Aside0.mk hk
    clear hk hte hb h1 h2
    go_enter Tryz.func19, Tryz.ntmps19
    go_wp2_with fail
    refine (HLW.out _).mono ?_
    rintro e w1 ⟨rfl, hb⟩
    have HB1 := Aside0.mk hb
    clear hb
    go_wp2_with fail
    go_loopg [3] s.size (fun kq v3 wr => ∃ (i : Nat) (z : Int), v3 = .int .i64 z ∧ Aside0 (z = (i : Int)) ∧ Aside0 (kq + i = s.size) ∧ Aside0 (Below w.heap.size w wr) ∧ Aside0 (∀ (j : Nat) x, j < i → (bytesOf s)[j]? = some x → inB x = true))
    case atStart => exact ⟨0, 0, rfl, ⟨rfl⟩, ⟨rfl⟩, HB1, ⟨fun j x h => by omega⟩⟩
    case round =>
      obtain ⟨i, z, rfl, HZ, HI, HB, HA⟩ := hrel
      by_cases hi : i < s.size
      · have d0 : decide (z < (s.size : Int)) = true := decide_eq_true (by have := HZ.out; omega)
        have d4 : decide (0 ≤ z) = true := decide_eq_true (by have := HZ.out; omega)
        have p5 : (0 ≤ z) = True := eq_true (by have := HZ.out; omega)
        have q5 : (z < (s.size : Int)) = True := eq_true (by have := HZ.out; omega)
        have hx5 := bt_at s z
        obtain ⟨b, hb⟩ : ∃ b, inB (bt s z) = b := ⟨_, rfl⟩
        have HX := Aside0.mk (show (bytesOf s)[i]? = some (bt s z) by
          have hl : i < (bytesOf s).length := by rw [bytesOf_length]; exact hi
          rw [List.getElem?_eq_getElem hl, HZ.out, ← rd_bytesOf]
          simp [rd, List.getD, hl])
        have hIN := refIn_calls (bt s z)
        rw [hb] at hIN
        have HIN := Aside0.mk hIN
        clear hIN
        have HBB := Aside0.mk hb
        have HI2 := Aside0.mk hi
        clear hb hi
        go_wp2_with fail
        refine (HIN.out _).mono ?_
        rintro e w3 ⟨rfl, hd⟩
        have HB3 := Aside0.mk (below_step HB.out hd.below)
        clear hd
        cases b
        · go_wp2_with fail
          go_ret
          refine ⟨?_, HB3.out⟩
          rw [HK.out]
          refine congrArg (fun z => Ending.returned (Value.bool z)) ?_
          cases e : (bytesOf s).all inB with
          | false => rfl
          | true => have := List.all_eq_true.1 e _ (List.mem_of_getElem? HX.out); rw [HBB.out] at this; exact absurd this (by decide)
        · go_wp2_with fail
          have hzw : wrap64 (z + 1) = z + 1 := by have := HZ.out; have := HI2.out; have := HSZ.out; unfold wrap64; omega
          try rw [hzw]
          go_roundg (s.size - i - 1)
          case measure => have := HI.out; have := HI2.out; omega
          case rel =>
            refine ⟨i + 1, z + 1, rfl, ⟨by have := HZ.out; omega⟩, ⟨by have := HI.out; have := HI2.out; omega⟩, HB3, ⟨fun j x hj hx => ?_⟩⟩
            by_cases hji : j = i
            · subst hji
              rw [HX.out] at hx
              cases hx
              exact HBB.out
            · exact HA.out j x (by omega) hx
      · have d0 : decide (z < (s.size : Int)) = false := decide_eq_false (by have := HZ.out; omega)
        go_wp2_with fail
        go_ret
        refine ⟨?_, HB.out⟩
        rw [HK.out]
        refine congrArg (fun z => Ending.returned (Value.bool z)) ?_
        refine (List.all_eq_true.2 (fun x hx => ?_)).symm
        obtain ⟨j, hj⟩ := List.getElem?_of_mem hx
        have hl := (List.getElem?_eq_some_iff.1 hj).1
        rw [bytesOf_length] at hl
        exact HA.out j x (by omega) hj
  · have c1 : (t.toList == s.toList) = false := beq_eq_false_iff_ne.2 hb
    have c2 : (t.toList != s.toList) = true := bne_iff_ne.2 hb
    rw [decide_eq_false (fun h => hb (hte.2 h)), Bool.false_and] at hk
    subst hk
    clear hte hb h1 h2
    go_enter Tryz.func19, Tryz.ntmps19
    go_wp2_with fail
    refine (HLW.out _).mono ?_
    rintro e w1 ⟨rfl, hb⟩
    have HB1 := Aside0.mk hb
    clear hb
    go_wp2_with fail
    go_ret
    exact ⟨rfl, HB1.out⟩
end Go.Proofs.YtehaodbheifokaaGreatDoor.P
end
section
namespace Go.Proofs.YtehaodbheifokaaGreatDoor.P
open Go Go.RowKit Go.Proofs.YtehaodbheifokaaGreatDoorW.PrintWords Go.Proofs.YtehaodbheifokaaGreatDoorW.PrintLast Go.Proofs.YtehaodbheifokaaGreatDoorW.PrintMore
set_option linter.unusedVariables false
set_option linter.unusedSimpArgs false

theorem word_phrase (ts : List ByteArray) (p : ByteArray) : phraseB ts [p] = memB ts p := by
  unfold phraseB memB
  show ((List.range (ts.length + 1 - 1)).any fun i => decide ((ts.drop i).take 1 = [p])) = _
  rw [Nat.add_sub_cancel, Bool.eq_iff_iff, List.any_eq_true, List.any_eq_true]
  constructor
  · rintro ⟨i, hi, h⟩
    have hl := List.mem_range.1 hi
    have h2 := of_decide_eq_true h
    rw [List.drop_eq_getElem_cons hl] at h2
    simp only [List.take_succ_cons, List.take_zero, List.cons.injEq, and_true] at h2
    exact ⟨ts[i], List.getElem_mem hl, decide_eq_true h2.symm⟩
  · rintro ⟨x, hx, h⟩
    obtain ⟨i, hi, rfl⟩ := List.getElem_of_mem hx
    refine ⟨i, List.mem_range.2 hi, decide_eq_true ?_⟩
    rw [List.drop_eq_getElem_cons hi]
    simp only [List.take_succ_cons, List.take_zero]
    rw [of_decide_eq_true h]
theorem word_prefix {ts : List ByteArray} {p : ByteArray} (h : memB ts p = true) : ts.any (prefB p) = true := by
  obtain ⟨x, hx, h2⟩ := List.any_eq_true.1 h
  refine List.any_eq_true.2 ⟨x, hx, ?_⟩
  rw [← of_decide_eq_true h2]
  unfold prefB
  rw [List.isPrefixOf_iff_prefix]
  exact List.prefix_refl _
theorem fin_in (r : List Int) : finT r = [] ∨ finT r = r := by
  unfold finT
  split
  · exact .inl rfl
  · exact .inr rfl
theorem cut_in : ∀ (l : List Int) (o : Option (List Int)), ∀ t ∈ cutS o l, t = [] ∨ ∃ a b, o.getD [] ++ l.map lowB = a ++ (t ++ b)
  | [], none, t, h => by simp [cutS] at h
  | [], some r, t, h => by
    simp only [cutS, List.mem_singleton] at h
    subst h
    rcases fin_in r with h | h
    · exact .inl h
    · exact .inr ⟨[], [], by rw [h]; simp⟩
  | c :: l, none, t, h => by
    simp only [cutS] at h
    by_cases hc : inB c = true
    · rw [if_pos hc] at h
      rcases cut_in l (some [lowB c]) t h with h2 | ⟨a, b, h2⟩
      · exact .inl h2
      · exact .inr ⟨a, b, by rw [← h2]; rfl⟩
    · rw [if_neg hc] at h
      rcases cut_in l none t h with h2 | ⟨a, b, h2⟩
      · exact .inl h2
      · refine .inr ⟨lowB c :: a, b, ?_⟩
        show lowB c :: l.map lowB = _
        have : l.map lowB = a ++ (t ++ b) := h2
        rw [this]; rfl
  | c :: l, some r, t, h => by
    simp only [cutS] at h
    by_cases hc : inB c = true
    · rw [if_pos hc] at h
      rcases cut_in l (some (r ++ [lowB c])) t h with h2 | ⟨a, b, h2⟩
      · exact .inl h2
      · refine .inr ⟨a, b, ?_⟩
        rw [← h2]
        show r ++ (lowB c :: l.map lowB) = (r ++ [lowB c]) ++ l.map lowB
        simp
    · rw [if_neg hc] at h
      rcases List.mem_cons.1 h with h | h
      · subst h
        rcases fin_in r with h | h
        · exact .inl h
        · exact .inr ⟨[], (c :: l).map lowB, by rw [h]; rfl⟩
      · rcases cut_in l none t h with h2 | ⟨a, b, h2⟩
        · exact .inl h2
        · refine .inr ⟨r ++ (lowB c :: a), b, ?_⟩
          have : l.map lowB = a ++ (t ++ b) := h2
          show r ++ (lowB c :: l.map lowB) = _
          rw [this]
          simp
theorem back0 (s : ByteArray) : Lib.bytesOf (bytesOf s) = s.data.toList := by
  unfold Lib.bytesOf bytesOf
  rw [List.map_map]
  conv => rhs; rw [← List.map_id s.data.toList]
  apply List.map_congr_left
  intro b _
  simp
theorem prefix_sub {l : List Int} {p : ByteArray} (hp : 1 ≤ p.size) (h : ((cutS none l).map bT).any (prefB p) = true) : subB (l.map lowB) (bytesOf p) = true := by
  obtain ⟨x, hx, h2⟩ := List.any_eq_true.1 h
  obtain ⟨t, ht, rfl⟩ := List.mem_map.1 hx
  unfold prefB at h2
  rw [List.isPrefixOf_iff_prefix] at h2
  obtain ⟨q, hq⟩ := h2
  have hb : (bT t).data.toList = Lib.bytesOf t := by unfold bT Lib.bytesOf; simp
  rw [hb] at hq
  rcases cut_in l none t ht with h3 | ⟨a, b, h3⟩
  · exfalso
    rw [h3] at hq
    have h4 : p.data.toList.length + q.length = 0 := by
      have h5 := congrArg List.length hq
      rw [List.length_append] at h5
      exact h5
    have : p.data.toList.length = p.size := by rw [Array.length_toList]; rfl
    omega
  · have h3' : l.map lowB = a ++ (t ++ b) := h3
    unfold subB Lib.contains
    rw [back0, h3']
    refine decide_eq_true ?_
    rcases Lib.index_spec (Lib.bytesOf (a ++ (t ++ b))) p.data.toList with ⟨_, h5⟩ | ⟨i, h5, _⟩
    · exfalso
      have h6 := h5 a.length (by simp [Lib.bytesOf])
      unfold Lib.occAt at h6
      have h7 : p.data.toList.isPrefixOf ((Lib.bytesOf (a ++ (t ++ b))).drop a.length) = true := by
        rw [List.isPrefixOf_iff_prefix]
        refine ⟨q ++ Lib.bytesOf b, ?_⟩
        have e : (Lib.bytesOf (a ++ (t ++ b))).drop a.length = Lib.bytesOf t ++ Lib.bytesOf b := by
          unfold Lib.bytesOf
          rw [List.map_append, List.map_append, List.drop_left' (by simp)]
        rw [e, ← hq, List.append_assoc]
      rw [h7] at h6
      exact absurd h6 (by decide)
    · rw [h5]; omega
end Go.Proofs.YtehaodbheifokaaGreatDoor.P
end
section
namespace Go.Proofs.YtehaodbheifokaaGreatDoor.P
open Go Go.RowKit Go.Proofs.YtehaodbheifokaaGreatDoorW.PrintWords Go.Proofs.YtehaodbheifokaaGreatDoorW.PrintLast Go.Proofs.YtehaodbheifokaaGreatDoorW.PrintMore
attribute [local go_sem] max2_int min2_int max_two min_two
set_option linter.unusedVariables false
set_option linter.unusedSimpArgs false

theorem rightN_2 (a b : Int) (tx : ByteArray) (tm : List ByteArray) (ky : ByteArray) (lo hi : Int) : rightN ⟨2, a, b, tx, tm, ky, lo, hi⟩ = (tokB tx && decide (a = 0 ∧ b = 0 ∧ tm = [] ∧ ky = ⟨#[]⟩ ∧ lo = 0 ∧ hi = 0)) := by
  show rightB 2 a b tx tm ky lo hi = _
  unfold rightB
  rw [if_neg (by decide), if_pos (by decide)]
theorem rightN_3 (a b : Int) (tx : ByteArray) (tm : List ByteArray) (ky : ByteArray) (lo hi : Int) : rightN ⟨3, a, b, tx, tm, ky, lo, hi⟩ = (tokB tx && decide (a = 0 ∧ b = 0 ∧ tm = [] ∧ ky = ⟨#[]⟩ ∧ lo = 0 ∧ hi = 0)) := by
  show rightB 3 a b tx tm ky lo hi = _
  unfold rightB
  rw [if_neg (by decide), if_pos (by decide)]
theorem rightN_5 (a b : Int) (tx : ByteArray) (tm : List ByteArray) (ky : ByteArray) (lo hi : Int) : rightN ⟨5, a, b, tx, tm, ky, lo, hi⟩ = (decide (1 ≤ tx.size ∧ tx.size ≤ 64) && decide (a = 0 ∧ b = 0 ∧ tm = [] ∧ ky = ⟨#[]⟩ ∧ lo = 0 ∧ hi = 0)) := by
  show rightB 5 a b tx tm ky lo hi = _
  unfold rightB
  rw [if_neg (by decide), if_neg (by decide), if_neg (by decide), if_pos (by decide)]
theorem formed_one (n : ND) (h : rightN n = true) (hp : partsN n = []) : formedB [n] 2 ⟨#[]⟩ 0 0 0 = true := by
  unfold formedB
  rw [show askedB 2 ⟨#[]⟩ 0 0 0 = true by kernel_rfl, formL, if_pos ⟨h, by rw [hp]; rfl⟩]
  rw [hp]
  rfl
theorem held_one (lv : ND → Bool) (n : ND) (h10 : n.f0 ≠ 10) (h11 : n.f0 ≠ 11) (h12 : n.f0 ≠ 12) : holdsB lv [n] = lv n := by
  unfold holdsB heldL heldL valN
  rw [if_neg h10, if_neg h11, if_neg h12]
  rfl
theorem MarkedB.move {g : Nat} {xs : List Int} {W W' : World} (h : MarkedB g xs W) (e : W'.heap[g]? = W.heap[g]?) : MarkedB g xs W' := by
  obtain ⟨cs, h1, h2⟩ := h
  exact ⟨cs, e.trans h1, h2⟩
theorem blk_alloc_eq {g : Nat} (W : World) (o : Obj) (h : g < W.heap.size) : (W.alloc o).heap[g]? = W.heap[g]? := (below_alloc (Below.refl W.heap.size W) o).block g h
theorem strSize (l : List Int) : (strOfNums l).size = l.length := by
  show (strOfNums l).data.size = _
  rw [← Array.length_toList, ← bytes_eq0, Lib.strOfNums_toList]
  simp [Lib.bytesOf]
theorem strBack (l : List Int) (hb : ∀ x ∈ l, 0 ≤ x ∧ x < 256) : bytesOf (strOfNums l) = l := by
  unfold bytesOf
  rw [← bytes_eq0, Lib.strOfNums_toList]
  unfold Lib.bytesOf
  rw [List.map_map]
  conv => rhs; rw [← List.map_id l]
  apply List.map_congr_left
  intro x hx
  have := hb x hx
  simp
  omega
theorem tok_size {p : ByteArray} (h : tokB p = true) : 1 ≤ p.size ∧ p.size ≤ 64 := by
  unfold tokB at h
  rw [Bool.and_eq_true] at h
  exact of_decide_eq_true h.1
/-- 'one' at a single leaf. -/
theorem one_single (g : Nat) (A4 : Option Addr) (c4 : Nat) (n : ND) (b : Bool) (l : List Int) (s t : Int) (vl : Value) (w : World) (hvl : ∃ a n m, vl = .slice a n m)
    (hN : w.heap[g]? = some (.cells #[.int .i64 n.f0, .int .i64 n.f1, .int .i64 n.f2, .string n.f3, .slice A4 n.f4.length c4, .string n.f5, .int .i64 n.f6, .int .i64 n.f7] 37 (0, 0))) (hC : Kd.string.C w A4 n.f4.length n.f4) (hc : n.f4.length ≤ c4)
    (hr : rightN n = true) (hp : partsN n = []) (h10 : n.f0 ≠ 10) (h11 : n.f0 ≠ 11) (h12 : n.f0 ≠ 12)
    (hR : ∀ W A' c', Kd.string.C W A' n.f4.length n.f4 → n.f4.length ≤ c' → Calls Tryz.prog 61 #[.agg #[.int .i64 n.f0, .int .i64 n.f1, .int .i64 n.f2, .string n.f3, .slice A' n.f4.length c', .string n.f5, .int .i64 n.f6, .int .i64 n.f7]] W fun e w' => e = .returned (.bool (rightN n)) ∧ Below W.heap.size W w')
    (hL : ∀ W, Below w.heap.size w W → LeafOK W l s t vl n b) :
    Calls Tryz.prog 18 #[.slice (some ⟨g, 0, none⟩) 1 1, .agg #[.int .i64 s, .int .i64 t, vl]] w fun e w' => e = .returned (.tuple #[.bool b, .bool true]) ∧ Below w.heap.size w w' := by
  have H := one_calls (some ⟨g, 0, none⟩) 1 [n] l s t vl (fun _ => b) w hvl (C_of hN [n] (by simp) (fun j p hj => by
      match j, hj with
      | 0, hj => simp at hj; subst hj; exact k37_mk w n hc hC
      | j + 1, hj => simp at hj)) (Nat.le_refl _)
    (fun m hm => by obtain rfl := one_mem hm; exact hR) (fun W hW m hm _ _ _ _ => by obtain rfl := one_mem hm; exact hL W hW) (formed_one n hr hp)
  rw [held_one _ n h10 h11 h12] at H
  exact H
def wN (k : Int) (p : ByteArray) : ND := ⟨k, 0, 0, p, [], ⟨#[]⟩, 0, 0⟩
def phN (p : ByteArray) : ND := ⟨4, 0, 0, ⟨#[]⟩, [p], ⟨#[]⟩, 0, 0⟩
theorem oneTerm (g : Nat) (p : ByteArray) (l : List Int) (s t : Int) (vl : Value) (w : World) (ht : tokB p = true) (hl : LineIs w l vl)
    (hN : w.heap[g]? = some (.cells #[.int .i64 2, .int .i64 0, .int .i64 0, .string p, .slice none 0 0, .string ⟨#[]⟩, .int .i64 0, .int .i64 0] 37 (0, 0))) :
    Calls Tryz.prog 18 #[.slice (some ⟨g, 0, none⟩) 1 1, .agg #[.int .i64 s, .int .i64 t, vl]] w fun e w' => e = .returned (.tuple #[.bool (memB ((cutS none l).map bT) p), .bool true]) ∧ Below w.heap.size w w' :=
  one_single g none 0 (wN 2 p) _ l s t vl w hl.slice hN (Kd.C_nil _ _) (Nat.le_refl _) (by unfold wN; rw [rightN_2, ht]; decide) rfl (show (2 : Int) ≠ 10 by decide) (show (2 : Int) ≠ 11 by decide) (show (2 : Int) ≠ 12 by decide)
    (fun W A' c' h1 h2 => by rw [show rightN (wN 2 p) = _ from rightN_2 _ _ _ _ _ _ _]; exact right_2 _ _ _ A' c' _ _ _ _ W h1 h2 (by show (0 : Nat) ≤ _; omega))
    (fun W hW => leafOK_term W l s t vl (wN 2 p) (hl.below hW) rfl)
theorem onePrefix (g : Nat) (p : ByteArray) (l : List Int) (s t : Int) (vl : Value) (w : World) (ht : tokB p = true) (hl : LineIs w l vl)
    (hN : w.heap[g]? = some (.cells #[.int .i64 3, .int .i64 0, .int .i64 0, .string p, .slice none 0 0, .string ⟨#[]⟩, .int .i64 0, .int .i64 0] 37 (0, 0))) :
    Calls Tryz.prog 18 #[.slice (some ⟨g, 0, none⟩) 1 1, .agg #[.int .i64 s, .int .i64 t, vl]] w fun e w' => e = .returned (.tuple #[.bool (((cutS none l).map bT).any (prefB p)), .bool true]) ∧ Below w.heap.size w w' :=
  one_single g none 0 (wN 3 p) _ l s t vl w hl.slice hN (Kd.C_nil _ _) (Nat.le_refl _) (by unfold wN; rw [rightN_3, ht]; decide) rfl (show (3 : Int) ≠ 10 by decide) (show (3 : Int) ≠ 11 by decide) (show (3 : Int) ≠ 12 by decide)
    (fun W A' c' h1 h2 => by rw [show rightN (wN 3 p) = _ from rightN_3 _ _ _ _ _ _ _]; exact right_3 _ _ _ A' c' _ _ _ _ W h1 h2 (by show (0 : Nat) ≤ _; omega))
    (fun W hW => leafOK_prefix W l s t vl (wN 3 p) (hl.below hW) rfl)
theorem onePhrase (g gt : Nat) (p : ByteArray) (l : List Int) (s t : Int) (vl : Value) (w : World) (ht : tokB p = true) (hl : LineIs w l vl)
    (hN : w.heap[g]? = some (.cells #[.int .i64 4, .int .i64 0, .int .i64 0, .string ⟨#[]⟩, .slice (some ⟨gt, 0, none⟩) 1 1, .string ⟨#[]⟩, .int .i64 0, .int .i64 0] 37 (0, 0))) (hT : w.heap[gt]? = some (.cells #[.string p] 9 (0, 0))) :
    Calls Tryz.prog 18 #[.slice (some ⟨g, 0, none⟩) 1 1, .agg #[.int .i64 s, .int .i64 t, vl]] w fun e w' => e = .returned (.tuple #[.bool (memB ((cutS none l).map bT) p), .bool true]) ∧ Below w.heap.size w w' := by
  rw [← word_phrase]
  have hC : Kd.string.C w (some ⟨gt, 0, none⟩) 1 (phN p).f4 := C_str rfl (by decide) (fun j u hj => by
    rw [WideShapes.add_plain, Nat.zero_add, blk_cell hT]
    match j, hj with
    | 0, hj => simp [phN] at hj; simp [hj]
    | j + 1, hj => simp [phN] at hj)
  exact one_single g (some ⟨gt, 0, none⟩) 1 (phN p) _ l s t vl w hl.slice hN hC (Nat.le_refl _) (by unfold phN; rw [rightN_4]; simp [ht]) rfl (show (4 : Int) ≠ 10 by decide) (show (4 : Int) ≠ 11 by decide) (show (4 : Int) ≠ 12 by decide)
    (fun W A' c' h1 h2 => by rw [show rightN (phN p) = _ from rightN_4 _ _ _ _ _ _ _]; exact right_4 _ _ _ A' c' _ _ _ _ W h1 h2 (by show (1 : Nat) ≤ _; omega))
    (fun W hW => leafOK_phrase W l s t vl (phN p) (hl.below hW) rfl (by show 0 < 1; omega) (by show (1 : Nat) ≤ _; omega))
theorem oneSub (g : Nat) (p : ByteArray) (l : List Int) (s t : Int) (vl : Value) (w : World) (ht : tokB p = true) (hl : LineN w l vl) (hX : FieldIn w) (hn : l.length < 4294967281)
    (hN : w.heap[g]? = some (.cells #[.int .i64 5, .int .i64 0, .int .i64 0, .string p, .slice none 0 0, .string ⟨#[]⟩, .int .i64 0, .int .i64 0] 37 (0, 0))) :
    Calls Tryz.prog 18 #[.slice (some ⟨g, 0, none⟩) 1 1, .agg #[.int .i64 s, .int .i64 t, vl]] w fun e w' => e = .returned (.tuple #[.bool (subB l (bytesOf p)), .bool true]) ∧ Below w.heap.size w w' :=
  one_single g none 0 (wN 5 p) _ l s t vl w hl.slice hN (Kd.C_nil _ _) (Nat.le_refl _) (by unfold wN; rw [rightN_5, decide_eq_true (tok_size ht)]; decide) rfl (show (5 : Int) ≠ 10 by decide) (show (5 : Int) ≠ 11 by decide) (show (5 : Int) ≠ 12 by decide)
    (fun W A' c' h1 h2 => by rw [show rightN (wN 5 p) = _ from rightN_5 _ _ _ _ _ _ _]; exact right_5 _ _ _ A' c' _ _ _ _ W h1 h2 (by show (0 : Nat) ≤ _; omega))
    (fun W hW => leafOK_sub W l s t vl (wN 5 p) (hl.below hW) (hX.below hW) hn (by have := tok_size ht; show p.size ≤ _; omega) rfl)
set_option maxHeartbeats 4000000 in
set_option maxRecDepth 100000 in
theorem words_calls (p : ByteArray) (s t : Int) (A : Option Addr) (c : Nat) (l : List Int) (w : World) (hC : (Kd.int .u8).C w A l.length l) (hc : l.length ≤ c) (hb : ∀ x ∈ l, 0 ≤ x ∧ x < 256) (hX : FieldIn w) :
    Calls Tryz.prog 5 #[.string p, .agg #[.int .i64 s, .int .i64 t, .slice A l.length c]] w fun e w' => e = .returned (.bool true) ∧ Below w.heap.size w w' := by
  have HA := Aside0.mk (fun (W : World) (hW : Below w.heap.size w W) => alive20 W (hX.below hW))
  have HC := Aside0.mk hC
  have HX := Aside0.mk hX
  have HBY := Aside0.mk hb
  clear hC hX hb
  go_enter Tryz.func5, Tryz.ntmps5
  go_wp2_with fail
  refine (HA.out _ (below_alloc (Below.refl _ _) _)).mono ?_
  rintro e w1 ⟨rfl, hb⟩
  have HB1 := Aside0.mk (below_step (below_alloc (Below.refl w.heap.size w) _) hb)
  have HR1 := Aside0.mk (blk_below (blk_new w (.cells #[.int .i64 s, .int .i64 t, .slice A l.length c] 27)) hb)
  have r2 : w1.cell? ⟨w.heap.size, 2, none⟩ = some (.slice A l.length c) := (blk_cell HR1.out 2).trans rfl
  clear hb
  by_cases hn : l.length > 2000
  · have d1 : decide ((2000 : Int) < (l.length : Int)) = true := decide_eq_true (by omega)
    go_wp2_with fail
    go_ret
    exact ⟨rfl, HB1.out⟩
  have d1 : decide ((2000 : Int) < (l.length : Int)) = false := decide_eq_false (by omega)
  have HIS := Aside0.mk (is_calls p)
  obtain ⟨tb, htb⟩ : ∃ tb, tokB p = tb := ⟨_, rfl⟩
  rw [htb] at HIS
  have HTB := Aside0.mk htb
  clear htb
  go_wp2_with fail
  refine (HIS.out w1).mono ?_
  rintro e w2 ⟨rfl, hb⟩
  have HB2 := Aside0.mk (below_step HB1.out hb)
  have HR2 := Aside0.mk (blk_below HR1.out hb)
  clear hb r2 HIS
  cases tb
  · go_wp2_with fail
    go_ret
    exact ⟨rfl, HB2.out⟩
  have HLI := Aside0.mk (fun (W : World) (hW : Below w.heap.size w W) => (⟨⟨A, c, rfl, hc, Kd.C_below HC.out hW, HBY.out, by omega⟩⟩ : LineIs W l (.slice A l.length c)))
  have HNN := Aside0.mk (show l.length ≤ 2000 by omega)
  clear hn
  have hA := blk_alloc HR2.out (Obj.cells (nodeV 2 0 0 p (.slice none 0 0) ⟨#[]⟩ 0 0) 37)
  have q0 : (w2.alloc (Obj.cells (nodeV 2 0 0 p (.slice none 0 0) ⟨#[]⟩ 0 0) 37)).cell? ⟨w.heap.size, 0, none⟩ = some (.int .i64 s) := (blk_cell hA 0).trans rfl
  have q1 : (w2.alloc (Obj.cells (nodeV 2 0 0 p (.slice none 0 0) ⟨#[]⟩ 0 0) 37)).cell? ⟨w.heap.size, 1, none⟩ = some (.int .i64 t) := (blk_cell hA 1).trans rfl
  have q2 : (w2.alloc (Obj.cells (nodeV 2 0 0 p (.slice none 0 0) ⟨#[]⟩ 0 0) 37)).cell? ⟨w.heap.size, 2, none⟩ = some (.slice A l.length c) := (blk_cell hA 2).trans rfl
  have p0 : w2.cell? ⟨w.heap.size, 0, none⟩ = some (.int .i64 s) := (blk_cell HR2.out 0).trans rfl
  have p1 : w2.cell? ⟨w.heap.size, 1, none⟩ = some (.int .i64 t) := (blk_cell HR2.out 1).trans rfl
  have p2 : w2.cell? ⟨w.heap.size, 2, none⟩ = some (.slice A l.length c) := (blk_cell HR2.out 2).trans rfl
  clear hA
  go_wp2_with fail
  refine (oneTerm w2.heap.size p l s t _ _ HTB.out (HLI.out _ (below_alloc HB2.out _)) (blk_new w2 _)).mono ?_
  rintro e w3 ⟨rfl, hb⟩
  have HB3 := Aside0.mk (below_step (below_alloc HB2.out _) hb)
  have HR3 := Aside0.mk (blk_below (blk_alloc HR2.out _) hb)
  clear hb p0 p1 p2 q0 q1 q2
  have hA := blk_alloc (blk_alloc HR3.out (Obj.cells #[.string p] 9)) (Obj.cells (nodeV 4 0 0 ⟨#[]⟩ (.slice (some ⟨w3.heap.size, 0, none⟩) 1 1) ⟨#[]⟩ 0 0) 37)
  have q0 : ((w3.alloc (Obj.cells #[.string p] 9)).alloc (Obj.cells (nodeV 4 0 0 ⟨#[]⟩ (.slice (some ⟨w3.heap.size, 0, none⟩) 1 1) ⟨#[]⟩ 0 0) 37)).cell? ⟨w.heap.size, 0, none⟩ = some (.int .i64 s) := (blk_cell hA 0).trans rfl
  have q1 : ((w3.alloc (Obj.cells #[.string p] 9)).alloc (Obj.cells (nodeV 4 0 0 ⟨#[]⟩ (.slice (some ⟨w3.heap.size, 0, none⟩) 1 1) ⟨#[]⟩ 0 0) 37)).cell? ⟨w.heap.size, 1, none⟩ = some (.int .i64 t) := (blk_cell hA 1).trans rfl
  have q2 : ((w3.alloc (Obj.cells #[.string p] 9)).alloc (Obj.cells (nodeV 4 0 0 ⟨#[]⟩ (.slice (some ⟨w3.heap.size, 0, none⟩) 1 1) ⟨#[]⟩ 0 0) 37)).cell? ⟨w.heap.size, 2, none⟩ = some (.slice A l.length c) := (blk_cell hA 2).trans rfl
  clear hA
  obtain ⟨b1, hb1⟩ : ∃ b1, memB ((cutS none l).map bT) p = b1 := ⟨_, rfl⟩
  rw [hb1]
  have HM := Aside0.mk hb1
  clear hb1
  go_wp2_with fail
  refine (onePhrase (w3.heap.size + 1) w3.heap.size p l s t _ _ HTB.out (HLI.out _ (below_alloc (below_alloc HB3.out _) _)) (by have h := blk_new (w3.alloc (Obj.cells #[.string p] 9)) (Obj.cells (nodeV 4 0 0 ⟨#[]⟩ (.slice (some ⟨w3.heap.size, 0, none⟩) 1 1) ⟨#[]⟩ 0 0) 37); rw [World.size_alloc] at h; exact h) (blk_alloc (blk_new w3 _) _)).mono ?_
  rintro e w4 ⟨rfl, hb⟩
  have HB4 := Aside0.mk (below_step (below_alloc (below_alloc HB3.out _) _) hb)
  have HR4 := Aside0.mk (blk_below (blk_alloc (blk_alloc HR3.out _) _) hb)
  rw [HM.out]
  clear hb q0 q1 q2
  have hA := blk_alloc HR4.out (Obj.cells (nodeV 3 0 0 p (.slice none 0 0) ⟨#[]⟩ 0 0) 37)
  have q0 : (w4.alloc (Obj.cells (nodeV 3 0 0 p (.slice none 0 0) ⟨#[]⟩ 0 0) 37)).cell? ⟨w.heap.size, 0, none⟩ = some (.int .i64 s) := (blk_cell hA 0).trans rfl
  have q1 : (w4.alloc (Obj.cells (nodeV 3 0 0 p (.slice none 0 0) ⟨#[]⟩ 0 0) 37)).cell? ⟨w.heap.size, 1, none⟩ = some (.int .i64 t) := (blk_cell hA 1).trans rfl
  have q2 : (w4.alloc (Obj.cells (nodeV 3 0 0 p (.slice none 0 0) ⟨#[]⟩ 0 0) 37)).cell? ⟨w.heap.size, 2, none⟩ = some (.slice A l.length c) := (blk_cell hA 2).trans rfl
  clear hA
  go_wp2_with fail
  refine (onePrefix w4.heap.size p l s t _ _ HTB.out (HLI.out _ (below_alloc HB4.out _)) (blk_new w4 _)).mono ?_
  rintro e w5 ⟨rfl, hb⟩
  have HB5 := Aside0.mk (below_step (below_alloc HB4.out _) hb)
  have HR5 := Aside0.mk (blk_below (blk_alloc HR4.out _) hb)
  clear hb q0 q1 q2
  have q0 : w5.cell? ⟨w.heap.size, 0, none⟩ = some (.int .i64 s) := (blk_cell HR5.out 0).trans rfl
  have q1 : w5.cell? ⟨w.heap.size, 1, none⟩ = some (.int .i64 t) := (blk_cell HR5.out 1).trans rfl
  have q2 : w5.cell? ⟨w.heap.size, 2, none⟩ = some (.slice A l.length c) := (blk_cell HR5.out 2).trans rfl
  obtain ⟨b2, hb2⟩ : ∃ b2, ((cutS none l).map bT).any (prefB p) = b2 := ⟨_, rfl⟩
  rw [hb2]
  have HP := Aside0.mk hb2
  clear hb2
  have hA := blk_alloc HR5.out (Obj.cells #[.int .i64 s, .int .i64 t, .slice A l.length c] 27)
  have r0 : (w5.alloc (Obj.cells #[.int .i64 s, .int .i64 t, .slice A l.length c] 27)).cell? ⟨w.heap.size, 0, none⟩ = some (.int .i64 s) := (blk_cell hA 0).trans rfl
  have r1 : (w5.alloc (Obj.cells #[.int .i64 s, .int .i64 t, .slice A l.length c] 27)).cell? ⟨w.heap.size, 1, none⟩ = some (.int .i64 t) := (blk_cell hA 1).trans rfl
  have r2 : (w5.alloc (Obj.cells #[.int .i64 s, .int .i64 t, .slice A l.length c] 27)).cell? ⟨w.heap.size, 2, none⟩ = some (.slice A l.length c) := (blk_cell hA 2).trans rfl
  have hst := Kd.C_string (P := Tryz.prog) (c := c) Tryz.underlying25 Tryz.underlying5 Tryz.underlying9 (Kd.C_below HC.out (below_alloc HB5.out (Obj.cells #[.int .i64 s, .int .i64 t, .slice A l.length c] 27)))
  clear hA
  go_wp2_with fail
  have hss : (strOfNums l).size = l.length := strSize l
  refine (lower_calls (strOfNums l) _ (by rw [hss]; have := HNN.out; omega)).mono ?_
  rintro e w6 ⟨rfl, hb⟩
  have HB6 := Aside0.mk (below_step (below_alloc HB5.out (Obj.cells #[.int .i64 s, .int .i64 t, .slice A l.length c] 27)) hb)
  have HLW := Aside0.mk (blk_below (blk_new w5 (Obj.cells #[.int .i64 s, .int .i64 t, .slice A l.length c] 27)) hb)
  clear hb r0 r1 r2 q0 q1 q2 hst hss
  rw [strBack l HBY.out]
  obtain ⟨ls, hls⟩ : ∃ ls, strOfNums (l.map lowB) = ls := ⟨_, rfl⟩
  rw [hls]
  have HLS := Aside0.mk (show bytesOf ls = l.map lowB by rw [← hls]; exact strBack _ (fun x hx => by obtain ⟨y, hy, rfl⟩ := List.mem_map.1 hx; have := HBY.out y hy; unfold lowB; split <;> omega))
  clear hls
  have hcv := fun W : World => print_bytes (P := Tryz.prog) 9 25 5 Tryz.underlying9 Tryz.underlying25 Tryz.underlying5 ls W
  have HBW := Aside0.mk (bytes_below (Below.refl w6.heap.size w6) (Nat.le_refl _) 5 ls)
  have hB := blk_below HLW.out HBW.out
  have u0 : (Lib.bytesWorld w6 5 ls).cell? ⟨w5.heap.size, 0, none⟩ = some (.int .i64 s) := (blk_cell hB 0).trans rfl
  have u1 : (Lib.bytesWorld w6 5 ls).cell? ⟨w5.heap.size, 1, none⟩ = some (.int .i64 t) := (blk_cell hB 1).trans rfl
  have u2 : (Lib.bytesWorld w6 5 ls).cell? ⟨w5.heap.size, 2, none⟩ = some (.slice A l.length c) := (blk_cell hB 2).trans rfl
  have z2 := blk_frozen hB 2
  have HLB := Aside0.mk hB
  clear hB
  have H65 := Aside0.mk (blk_lt HLW.out)
  have hP := blk_put HLB.out 2 (.slice (some ⟨w6.heap.size, 0, none⟩) ls.size (grownCap w6 ls.size 0 5)) rfl
  have hA := blk_alloc hP (Obj.cells (nodeV 5 0 0 p (.slice none 0 0) ⟨#[]⟩ 0 0) 37)
  have v0 : (((Lib.bytesWorld w6 5 ls).setCell ⟨w5.heap.size, 2, none⟩ (.slice (some ⟨w6.heap.size, 0, none⟩) ls.size (grownCap w6 ls.size 0 5))).alloc (Obj.cells (nodeV 5 0 0 p (.slice none 0 0) ⟨#[]⟩ 0 0) 37)).cell? ⟨w5.heap.size, 0, none⟩ = some (.int .i64 s) := (blk_cell hA 0).trans rfl
  have v1 : (((Lib.bytesWorld w6 5 ls).setCell ⟨w5.heap.size, 2, none⟩ (.slice (some ⟨w6.heap.size, 0, none⟩) ls.size (grownCap w6 ls.size 0 5))).alloc (Obj.cells (nodeV 5 0 0 p (.slice none 0 0) ⟨#[]⟩ 0 0) 37)).cell? ⟨w5.heap.size, 1, none⟩ = some (.int .i64 t) := (blk_cell hA 1).trans rfl
  have v2 : (((Lib.bytesWorld w6 5 ls).setCell ⟨w5.heap.size, 2, none⟩ (.slice (some ⟨w6.heap.size, 0, none⟩) ls.size (grownCap w6 ls.size 0 5))).alloc (Obj.cells (nodeV 5 0 0 p (.slice none 0 0) ⟨#[]⟩ 0 0) 37)).cell? ⟨w5.heap.size, 2, none⟩ = some (.slice (some ⟨w6.heap.size, 0, none⟩) ls.size (grownCap w6 ls.size 0 5)) := (blk_cell hA 2).trans rfl
  have HLN := Aside0.mk (show LineN (((Lib.bytesWorld w6 5 ls).setCell ⟨w5.heap.size, 2, none⟩ (.slice (some ⟨w6.heap.size, 0, none⟩) ls.size (grownCap w6 ls.size 0 5))).alloc (Obj.cells (nodeV 5 0 0 p (.slice none 0 0) ⟨#[]⟩ 0 0) 37)) (l.map lowB) (.slice (some ⟨w6.heap.size, 0, none⟩) ls.size (grownCap w6 ls.size 0 5)) by
    have hm : MarkedB w6.heap.size (l.map lowB) (((Lib.bytesWorld w6 5 ls).setCell ⟨w5.heap.size, 2, none⟩ (.slice (some ⟨w6.heap.size, 0, none⟩) ls.size (grownCap w6 ls.size 0 5))).alloc (Obj.cells (nodeV 5 0 0 p (.slice none 0 0) ⟨#[]⟩ 0 0) 37)) := by
      have h := MarkedB.made w6 ls
      rw [HLS.out] at h
      refine h.move ?_
      rw [blk_alloc_eq _ _ (by rw [World.size_setCell]; exact blk_lt (Lib.bytesWorld_at_new w6 5 ls))]
      exact Below.heap_setCell _ _ _ _ (by show w6.heap.size ≠ w5.heap.size; have := H65.out; omega)
    have hl : ls.size = (l.map lowB).length := by rw [← HLS.out, bytesOf_length]
    refine ⟨⟨some ⟨w6.heap.size, 0, none⟩, _, by rw [← hl], by rw [← hl]; exact grownCap_ge _ _ _ _, hm.C (by rw [List.length_map]; have := HNN.out; omega), fun x hx => ?_, by rw [List.length_map]; have := HNN.out; omega, fun h => by cases h⟩⟩
    obtain ⟨y, hy, rfl⟩ := List.mem_map.1 hx
    have := HBY.out y hy
    unfold lowB
    split <;> omega)
  have HB8 := Aside0.mk (show Below w.heap.size w (((Lib.bytesWorld w6 5 ls).setCell ⟨w5.heap.size, 2, none⟩ (.slice (some ⟨w6.heap.size, 0, none⟩) ls.size (grownCap w6 ls.size 0 5))).alloc (Obj.cells (nodeV 5 0 0 p (.slice none 0 0) ⟨#[]⟩ 0 0) 37)) from below_alloc ((below_step HB6.out HBW.out).setCell (p := ⟨w5.heap.size, 2, none⟩) HB5.out.size _) _)
  have HN5 := Aside0.mk (show (((Lib.bytesWorld w6 5 ls).setCell ⟨w5.heap.size, 2, none⟩ (.slice (some ⟨w6.heap.size, 0, none⟩) ls.size (grownCap w6 ls.size 0 5))).alloc (Obj.cells (nodeV 5 0 0 p (.slice none 0 0) ⟨#[]⟩ 0 0) 37)).heap[(Lib.bytesWorld w6 5 ls).heap.size]? = some (.cells (nodeV 5 0 0 p (.slice none 0 0) ⟨#[]⟩ 0 0) 37 (0, 0)) by
    have h := blk_new ((Lib.bytesWorld w6 5 ls).setCell ⟨w5.heap.size, 2, none⟩ (.slice (some ⟨w6.heap.size, 0, none⟩) ls.size (grownCap w6 ls.size 0 5))) (Obj.cells (nodeV 5 0 0 p (.slice none 0 0) ⟨#[]⟩ 0 0) 37)
    rw [World.size_setCell] at h
    exact h)
  clear hP hA
  go_wp2_with fail
  refine (oneSub _ p (l.map lowB) s t _ _ HTB.out HLN.out (HX.out.below HB8.out) (by rw [List.length_map]; have := HNN.out; omega) HN5.out).mono ?_
  rintro e w9 ⟨rfl, hb⟩
  have HB9 := Aside0.mk (below_step HB8.out hb)
  clear hb
  obtain ⟨b3, hb3⟩ : ∃ b3, subB (l.map lowB) (bytesOf p) = b3 := ⟨_, rfl⟩
  rw [hb3]
  have h12 : b1 = true → b2 = true := fun h => by rw [← HP.out]; exact word_prefix (by rw [HM.out]; exact h)
  have h23 : b2 = true → b3 = true := fun h => by rw [← hb3]; exact prefix_sub (tok_size HTB.out).1 (by rw [HP.out]; exact h)
  have H12 := Aside0.mk h12
  have H23 := Aside0.mk h23
  clear hb3 h12 h23 HLN HB8 HN5
  cases b1 <;> cases b2 <;> cases b3
  all_goals first
    | exact absurd (H12.out rfl) (by decide)
    | exact absurd (H23.out rfl) (by decide)
    | skip
  all_goals (
    go_wp2_with fail
    go_ret
    exact ⟨rfl, HB9.out⟩)
noncomputable def dragnetlaw20_MatchWords.f (a0 : ByteArray) (a1_0 a1_1 : Int) (l : List Int) : Option Bool := open Classical in if (∀ x ∈ l, 0 ≤ x ∧ x < 256) then some true else none
theorem dragnetlaw20_MatchWords.calls (a0 : ByteArray) (a1_0 a1_1 : Int) (A : Option Addr) (c : Nat) (l : List Int) (w : World) (hr : (Kd.int .u8).C w A l.length l) (hc : l.length ≤ c) (h : dragnetlaw20_MatchWords.f a0 a1_0 a1_1 l = some true) (hx : FieldIn w) :
    Calls Tryz.prog 5 #[.string a0, .agg #[.int .i64 a1_0, .int .i64 a1_1, .slice A l.length c]] w fun e w' => e = .returned (.bool true) ∧ Below w.heap.size w w' := by
  have hb : ∀ x ∈ l, 0 ≤ x ∧ x < 256 := by
    classical
    by_cases c : ∀ x ∈ l, 0 ≤ x ∧ x < 256
    · exact c
    · unfold dragnetlaw20_MatchWords.f at h
      rw [if_neg c] at h
      cases h
  exact words_calls a0 a1_0 a1_1 A c l w hr hc hb hx
end Go.Proofs.YtehaodbheifokaaGreatDoor.P
end
