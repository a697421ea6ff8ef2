/- match.holds and match.Holds, in general: out of what 'asked', 'right' and 'leaf' come to. -/
import Derived.Test.YtehaodbheifokaaGreatDoorForm20
import Derived.Test.YtehaodbheifokaaGreatDoorPhrase
namespace Go.Proofs.YtehaodbheifokaaGreatDoor.P
open Go Go.RowKit Go.Proofs.YtehaodbheifokaaGreatDoorW.PrintWords Go.Proofs.YtehaodbheifokaaGreatDoorW.PrintLast Go.Proofs.YtehaodbheifokaaGreatDoorW.PrintMore
attribute [local go_sem] max2_int min2_int max_two min_two
set_option linter.unusedVariables false
set_option linter.unusedSimpArgs false

theorem own_lower {w : World} {b b' : Nat} {e : TypeId} {size n : Nat} {v : Value} {xs : List Value} (hb : b ≤ b') (h : w.ownsRow b' e size v n xs) : w.ownsRow b e size v n xs :=
  ⟨h.1, h.2.imp id (fun ⟨g, cap, cur, h1, h2, h3⟩ => ⟨g, cap, cur, h1, Nat.le_trans hb h2, h3⟩)⟩
/-! ### the plain law -/
/-- What a node comes to, those ahead of it having come to h. -/
def valN (lv : ND → Bool) (h : List Bool) (n : ND) : Bool :=
  if n.f0 = 10 then h.getD n.f1.toNat false && h.getD n.f2.toNat false
  else if n.f0 = 11 then h.getD n.f1.toNat false || h.getD n.f2.toNat false
  else if n.f0 = 12 then !h.getD n.f1.toNat false
  else lv n
def heldL (lv : ND → Bool) : List ND → List Bool → List Bool
  | [], h => h
  | n :: r, h => heldL lv r (h ++ [valN lv h n])
def holdsB (lv : ND → Bool) (ns : List ND) : Bool := (heldL lv ns []).getD (ns.length - 1) false
theorem bools_cell {w : World} {g t : Nat} {xs : List Bool} {j : Nat} {x : Bool} (h : w.heap[g]? = some (.cells (bools xs).toArray t (0, 0))) (hx : xs[j]? = some x) : w.cell? ⟨g, j, none⟩ = some (.bool x) := by
  rw [blk_cell h]
  simp [bools, hx]
theorem bools_put {w : World} {g t : Nat} {xs : List Bool} (h : w.heap[g]? = some (.cells (bools xs).toArray t (0, 0))) (j : Nat) (x : Bool) : (w.setCell ⟨g, j, none⟩ (.bool x)).heap[g]? = some (.cells (bools (xs.set j x)).toArray t (0, 0)) := by
  refine blk_put h j _ ?_
  simp [bools, List.map_set]
theorem made_bools (m : Nat) : madeCells #[Value.bool false] m = (bools (List.replicate m false)).toArray := by
  have hl : (madeCells #[Value.bool false] m).toList = bools (List.replicate m false) := by
    apply List.ext_getElem
    · simp [bools, madeCells]
    · intro i h1 h2
      simp [bools, madeCells, Nat.mod_one]
  rw [← hl, Array.toArray_toList]
theorem held_set (h : List Bool) (m : Nat) (x : Bool) (hm : 0 < m) : (h ++ List.replicate m false).set h.length x = (h ++ [x]) ++ List.replicate (m - 1) false := by
  obtain ⟨m, rfl⟩ : ∃ k, m = k + 1 := ⟨m - 1, by omega⟩
  rw [List.set_append_right _ _ (Nat.le_refl _), Nat.sub_self, List.replicate_succ, List.set_cons_zero]
  simp
theorem held_get {h : List Bool} {m p : Nat} (hp : p < h.length) : (h ++ List.replicate m false)[p]? = some (h.getD p false) := by
  rw [List.getElem?_append_left hp, List.getD_eq_getElem?_getD, List.getElem?_eq_getElem hp]
  rfl
/-! ### the reader -/
/-- A reader of a row: not cut yet, or cut, with its terms in a row of the call's own from base on. -/
def RdS (base : Nat) (l : List Int) (s t : Int) (vl : Value) (R : Nat) (W : World) : Prop :=
  ∃ b vt, W.heap[R]? = some (.cells (rdrC s t vl b vt) 106 (0, 0)) ∧ ((b = false ∧ vt = .slice none 0 0) ∨ (b = true ∧ W.ownsRow base 9 1 vt (cutS none l).length (strV (cutS none l))))
theorem RdS.below {base : Nat} {l : List Int} {s t : Int} {vl : Value} {R : Nat} {W W' : World} (h : RdS base l s t vl R W) (hb : Below W.heap.size W W') : RdS base l s t vl R W' := by
  obtain ⟨b, vt, h1, h2⟩ := h
  exact ⟨b, vt, blk_below h1 hb, h2.imp id (fun h3 => ⟨h3.1, pw_own_below h3.2 hb⟩)⟩
theorem RdS.far {base : Nat} {l : List Int} {s t : Int} {vl : Value} {R : Nat} {W : World} (h : RdS base l s t vl R W) {g : Nat} (hg : R ≠ g) (hb : g < base) (j : Nat) (u : Value) : RdS base l s t vl R (W.setCell ⟨g, j, none⟩ u) := by
  obtain ⟨b, vt, h1, h2⟩ := h
  exact ⟨b, vt, blk_far h1 (p := ⟨g, j, none⟩) hg u, h2.imp id (fun h3 => ⟨h3.1, ownsRow_setCell_other h3.2 (fun e => by have := own_base h3.2 g e; omega) _⟩)⟩
/-- What a call of 'leaf' at a node comes to, w being the world ahead of 'holds'. -/
def LeafOK (w : World) (l : List Int) (s t : Int) (vl : Value) (n : ND) (b : Bool) : Prop :=
  ∀ (W : World) (A : Option Addr) (c : Nat), Below w.heap.size w W → w.heap.size + 3 ≤ W.heap.size → RdS (w.heap.size + 3) l s t vl (w.heap.size + 1) W → Kd.string.C w A n.f4.length n.f4 → n.f4.length ≤ c →
    Calls Tryz.prog 64 #[.pointer (some ⟨w.heap.size + 1, 0, none⟩), .agg #[.int .i64 n.f0, .int .i64 n.f1, .int .i64 n.f2, .string n.f3, .slice A n.f4.length c, .string n.f5, .int .i64 n.f6, .int .i64 n.f7]] W fun e w' =>
      e = .returned (.bool b) ∧ RdS (w.heap.size + 3) l s t vl (w.heap.size + 1) w' ∧ Below (w.heap.size + 1) W w' ∧ Kept W w' (fun k => k = w.heap.size + 1)
theorem bools_next {h : List Bool} {i n : Nat} (hl : h.length = i) (hi : i < n) {x : Bool} : bools ((h ++ [x]) ++ List.replicate (n - (i + 1)) false) = bools ((h ++ List.replicate (n - i) false).set i x) := by
  subst hl
  rw [held_set h _ x (by omega), show n - (h.length + 1) = n - h.length - 1 by omega]
theorem info_boolG : (Tryz.prog.info? 4).map (fun i => (i.zero, i.size, i.bytes)) = some (some (.bool false), 1, 1) := by kernel_rfl
set_option maxHeartbeats 4000000 in
set_option maxRecDepth 100000 in
theorem holds_calls (A : Option Addr) (c : Nat) (ns : List ND) (l : List Int) (s t : Int) (vl : Value) (lv : ND → Bool) (w : World) (hvl : ∃ a n m, vl = .slice a n m) (hC : Kd.C k37 w A ns.length ns) (hc : ns.length ≤ c) (h1 : 1 ≤ ns.length) (h2 : ns.length ≤ 64)
    (hP : ∀ (i : Nat) n, ns[i]? = some n → (partsN n).all (inN i) = true) (hL : ∀ n ∈ ns, n.f0 ≠ 10 → n.f0 ≠ 11 → n.f0 ≠ 12 → LeafOK w l s t vl n (lv n)) :
    Calls Tryz.prog 39 #[.slice A ns.length c, .agg #[.int .i64 s, .int .i64 t, vl]] w fun e w' => e = .returned (.bool (holdsB lv ns)) ∧ Below w.heap.size w w' := by
  obtain ⟨la, ln, lm, rfl⟩ := hvl
  have hmk := print_make_int (P := Tryz.prog) 107 4 (.bool false) 1 Tryz.underlying107 info_boolG rfl (by decide) ns.length (by omega) (by omega)
  rw [Int.toNat_natCast] at hmk
  have HC := Aside0.mk hC
  have HP := Aside0.mk hP
  have HL := Aside0.mk hL
  clear hC hP hL
  go_enter Tryz.func39, Tryz.ntmps39
  go_wp2_with fail
  obtain ⟨wS, hwS⟩ : ∃ wS, wS = (((w.alloc (Obj.cells #[.int .i64 s, .int .i64 t, .slice la ln lm] 27)).alloc (Obj.cells (rdrC s t (.slice la ln lm) false (.slice none 0 0)) 106)).alloc (Obj.cells (madeCells #[.bool false] ns.length) 4)) := ⟨_, rfl⟩
  have HR := Aside0.mk (show RdS (w.heap.size + 3) l s t (.slice la ln lm) (w.heap.size + 1) wS by
    refine ⟨false, .slice none 0 0, ?_, .inl ⟨rfl, rfl⟩⟩
    rw [hwS]
    have h := blk_new (w.alloc (Obj.cells #[.int .i64 s, .int .i64 t, .slice la ln lm] 27)) (Obj.cells (rdrC s t (.slice la ln lm) false (.slice none 0 0)) 106)
    rw [World.size_alloc] at h
    exact blk_alloc h _)
  have HH := Aside0.mk (show wS.heap[w.heap.size + 1 + 1]? = some (.cells (bools (List.replicate ns.length false)).toArray 4 (0, 0)) by
    have h := blk_new ((w.alloc (Obj.cells #[.int .i64 s, .int .i64 t, .slice la ln lm] 27)).alloc (Obj.cells (rdrC s t (.slice la ln lm) false (.slice none 0 0)) 106)) (Obj.cells (madeCells #[.bool false] ns.length) 4)
    rw [World.size_alloc, World.size_alloc] at h
    rw [hwS, h, made_bools])
  have HB := Aside0.mk (show Below w.heap.size w wS by rw [hwS]; repeat (first | exact Below.refl _ _ | apply below_alloc))
  have HSZ := Aside0.mk (show w.heap.size + 3 ≤ wS.heap.size by rw [hwS]; simp)
  rw [← hwS]
  clear hwS hmk
  go_loopg [17] ns.length (fun kq v17 wr => ∃ (i : Nat) (h : List Bool), v17 = .int .i64 (i : Int) ∧ Aside0 (kq + i = ns.length) ∧ Aside0 (h.length = i) ∧ Aside0 (heldL lv (ns.drop i) h = heldL lv ns []) ∧ Aside0 (Below w.heap.size w wr) ∧ Aside0 (w.heap.size + 3 ≤ wr.heap.size) ∧ Aside0 (RdS (w.heap.size + 3) l s t (.slice la ln lm) (w.heap.size + 1) wr) ∧ Aside0 (wr.heap[w.heap.size + 1 + 1]? = some (.cells (bools (h ++ List.replicate (ns.length - i) false)).toArray 4 (0, 0))))
  case atStart => exact ⟨0, [], rfl, ⟨rfl⟩, ⟨rfl⟩, ⟨rfl⟩, HB, HSZ, HR, HH⟩
  case round =>
    clear HB HSZ HR HH
    obtain ⟨i, h, rfl, HI, HHL, HS, HBr, HSr, HRr, HHr⟩ := hrel
    by_cases hi : i < ns.length
    · have d3 : decide ((i : Int) < (ns.length : Int)) = true := decide_eq_true (by omega)
      have d4 : decide (i < ns.length) = true := decide_eq_true hi
      obtain ⟨ad, A4, c4, rfl, k0, k1, k2, k3, k4, k5, k6, k7, l4, g4⟩ := at_T37 HC.out (i : Int) (by omega) (by omega)
      replace k0 := pw_cell_below HBr.out k0
      replace k1 := pw_cell_below HBr.out k1
      replace k2 := pw_cell_below HBr.out k2
      replace k3 := pw_cell_below HBr.out k3
      replace k4 := pw_cell_below HBr.out k4
      replace k5 := pw_cell_below HBr.out k5
      replace k6 := pw_cell_below HBr.out k6
      replace k7 := pw_cell_below HBr.out k7
      rw [Int.toNat_natCast] at k0 k1 k2 k3 k4 k5 k6 k7
      obtain ⟨n, hn⟩ : ∃ n, rd_T37 ns (i : Int) = n := ⟨_, rfl⟩
      rw [hn] at k0 k1 k2 k3 k4 k5 k6 k7 l4 g4
      have HNE := Aside0.mk (show ns[i]? = some n by rw [← hn]; simp [rd_T37, hi])
      have G4 := Aside0.mk g4
      clear hn g4
      have HI2 := Aside0.mk hi
      have HDR := Aside0.mk (show ns.drop i = n :: ns.drop (i + 1) by rw [List.drop_eq_getElem_cons hi]; have h := HNE.out; rw [List.getElem?_eq_getElem hi] at h; rw [Option.some.inj h])
      by_cases e10 : n.f0 = 10
      · have d20 : (n.f0 == 10) = true := beq_iff_eq.2 e10
        have HPN := HP.out i n HNE.out
        rw [show partsN n = [n.f1, n.f2] by unfold partsN; rw [if_pos (.inl e10)]] at HPN
        simp only [List.all_cons, List.all_nil, inN, Bool.and_true, Bool.and_eq_true, decide_eq_true_eq] at HPN
        obtain ⟨⟨ha0, ha1⟩, hb0, hb1⟩ := HPN
        obtain ⟨p, hp⟩ : ∃ p : Nat, n.f1 = (p : Int) := ⟨n.f1.toNat, by omega⟩
        obtain ⟨q, hq⟩ : ∃ q : Nat, n.f2 = (q : Int) := ⟨n.f2.toNat, by omega⟩
        have HV := Aside0.mk (show valN lv h n = (h.getD p false && h.getD q false) by unfold valN; rw [if_pos e10, hp, hq, Int.toNat_natCast, Int.toNat_natCast])
        rw [hp] at ha0 ha1 k1
        rw [hq] at hb0 hb1 k2
        have hlp : p < h.length := by have := HHL.out; omega
        have hlq : q < h.length := by have := HHL.out; omega
        have hh := blk_alloc HHr.out (.cells #[.int .i64 n.f0, .int .i64 (p : Int), .int .i64 (q : Int), .string n.f3, .slice A4 n.f4.length c4, .string n.f5, .int .i64 n.f6, .int .i64 n.f7] 37)
        have c0 : (wr.alloc (.cells #[.int .i64 n.f0, .int .i64 (p : Int), .int .i64 (q : Int), .string n.f3, .slice A4 n.f4.length c4, .string n.f5, .int .i64 n.f6, .int .i64 n.f7] 37)).cell? ⟨w.heap.size + 1 + 1, p, none⟩ = some (.bool (h.getD p false)) := bools_cell hh (held_get hlp)
        have c1 : (wr.alloc (.cells #[.int .i64 n.f0, .int .i64 (p : Int), .int .i64 (q : Int), .string n.f3, .slice A4 n.f4.length c4, .string n.f5, .int .i64 n.f6, .int .i64 n.f7] 37)).cell? ⟨w.heap.size + 1 + 1, q, none⟩ = some (.bool (h.getD q false)) := bools_cell hh (held_get hlq)
        have z2 := blk_frozen hh i
        have c2 : (wr.alloc (.cells #[.int .i64 n.f0, .int .i64 (p : Int), .int .i64 (q : Int), .string n.f3, .slice A4 n.f4.length c4, .string n.f5, .int .i64 n.f6, .int .i64 n.f7] 37)).cell? ⟨w.heap.size + 1 + 1, i, none⟩ = some (.bool false) := bools_cell hh (by rw [List.getElem?_append_right (by have := HHL.out; omega)]; rw [List.getElem?_replicate]; rw [if_pos (by have := HHL.out; omega)])
        have d6 : decide ((p : Int) < (ns.length : Int)) = true := decide_eq_true (by omega)
        have d7 : decide (p < ns.length) = true := decide_eq_true (by omega)
        have d7p : p < ns.length := by omega
        have d8 : decide ((q : Int) < (ns.length : Int)) = true := decide_eq_true (by omega)
        have d9 : decide (q < ns.length) = true := decide_eq_true (by omega)
        have d9p : q < ns.length := by omega
        have HB3 := Aside0.mk (below_alloc HBr.out (.cells #[.int .i64 n.f0, .int .i64 (p : Int), .int .i64 (q : Int), .string n.f3, .slice A4 n.f4.length c4, .string n.f5, .int .i64 n.f6, .int .i64 n.f7] 37))
        have HR3 := Aside0.mk (HRr.out.below (below_alloc (Below.refl _ _) (.cells #[.int .i64 n.f0, .int .i64 (p : Int), .int .i64 (q : Int), .string n.f3, .slice A4 n.f4.length c4, .string n.f5, .int .i64 n.f6, .int .i64 n.f7] 37)))
        have HS3 := Aside0.mk (show w.heap.size + 3 ≤ (wr.alloc (.cells #[.int .i64 n.f0, .int .i64 (p : Int), .int .i64 (q : Int), .string n.f3, .slice A4 n.f4.length c4, .string n.f5, .int .i64 n.f6, .int .i64 n.f7] 37)).heap.size by rw [World.size_alloc]; have := HSr.out; omega)
        have HH3 := Aside0.mk hh
        clear hh hp hq ha0 ha1 hb0 hb1 hlp hlq e10 HC HP HL
        obtain ⟨b1, hb1⟩ : ∃ b1, h.getD p false = b1 := ⟨_, rfl⟩
        rw [hb1] at c0 HV
        obtain ⟨b2, hb2⟩ : ∃ b2, h.getD q false = b2 := ⟨_, rfl⟩
        rw [hb2] at c1 HV
        clear hb2
        clear hb1
        cases b1
        all_goals (
          go_wp2_with fail
          try rw [show wrap64 ((i : Int) + 1) = ((i + 1 : Nat) : Int) by have := HI2.out; have := h2; unfold wrap64; omega]
          go_roundg (ns.length - i - 1)
          case measure => have := HI.out; have := HI2.out; omega
          case rel =>
            refine ⟨i + 1, h ++ [valN lv h n], rfl, ⟨by have := HI.out; have := HI2.out; omega⟩, ⟨by rw [List.length_append, HHL.out]; rfl⟩, ⟨by rw [← HS.out, HDR.out]; rfl⟩, ⟨HB3.out.setCell (p := ⟨w.heap.size + 1 + 1, i, none⟩) (by show w.heap.size ≤ w.heap.size + 1 + 1; omega) _⟩, ⟨by rw [World.size_setCell]; exact HS3.out⟩, ⟨HR3.out.far (by omega) (by omega) _ _⟩, ⟨?_⟩⟩
            rw [bools_next HHL.out HI2.out]
            have e := bools_put HH3.out i (valN lv h n)
            rw [HV.out] at e ⊢
            exact e)
      by_cases e11 : n.f0 = 11
      · have d20 : (n.f0 == 10) = false := beq_eq_false_iff_ne.2 e10
        have d21 : (n.f0 == 11) = true := beq_iff_eq.2 e11
        have HPN := HP.out i n HNE.out
        rw [show partsN n = [n.f1, n.f2] by unfold partsN; rw [if_pos (.inr e11)]] at HPN
        simp only [List.all_cons, List.all_nil, inN, Bool.and_true, Bool.and_eq_true, decide_eq_true_eq] at HPN
        obtain ⟨⟨ha0, ha1⟩, hb0, hb1⟩ := HPN
        obtain ⟨p, hp⟩ : ∃ p : Nat, n.f1 = (p : Int) := ⟨n.f1.toNat, by omega⟩
        obtain ⟨q, hq⟩ : ∃ q : Nat, n.f2 = (q : Int) := ⟨n.f2.toNat, by omega⟩
        have HV := Aside0.mk (show valN lv h n = (h.getD p false || h.getD q false) by unfold valN; rw [if_neg (by omega), if_pos e11, hp, hq, Int.toNat_natCast, Int.toNat_natCast])
        rw [hp] at ha0 ha1 k1
        rw [hq] at hb0 hb1 k2
        have hlp : p < h.length := by have := HHL.out; omega
        have hlq : q < h.length := by have := HHL.out; omega
        have hh := blk_alloc HHr.out (.cells #[.int .i64 n.f0, .int .i64 (p : Int), .int .i64 (q : Int), .string n.f3, .slice A4 n.f4.length c4, .string n.f5, .int .i64 n.f6, .int .i64 n.f7] 37)
        have c0 : (wr.alloc (.cells #[.int .i64 n.f0, .int .i64 (p : Int), .int .i64 (q : Int), .string n.f3, .slice A4 n.f4.length c4, .string n.f5, .int .i64 n.f6, .int .i64 n.f7] 37)).cell? ⟨w.heap.size + 1 + 1, p, none⟩ = some (.bool (h.getD p false)) := bools_cell hh (held_get hlp)
        have c1 : (wr.alloc (.cells #[.int .i64 n.f0, .int .i64 (p : Int), .int .i64 (q : Int), .string n.f3, .slice A4 n.f4.length c4, .string n.f5, .int .i64 n.f6, .int .i64 n.f7] 37)).cell? ⟨w.heap.size + 1 + 1, q, none⟩ = some (.bool (h.getD q false)) := bools_cell hh (held_get hlq)
        have z2 := blk_frozen hh i
        have c2 : (wr.alloc (.cells #[.int .i64 n.f0, .int .i64 (p : Int), .int .i64 (q : Int), .string n.f3, .slice A4 n.f4.length c4, .string n.f5, .int .i64 n.f6, .int .i64 n.f7] 37)).cell? ⟨w.heap.size + 1 + 1, i, none⟩ = some (.bool false) := bools_cell hh (by rw [List.getElem?_append_right (by have := HHL.out; omega)]; rw [List.getElem?_replicate]; rw [if_pos (by have := HHL.out; omega)])
        have d6 : decide ((p : Int) < (ns.length : Int)) = true := decide_eq_true (by omega)
        have d7 : decide (p < ns.length) = true := decide_eq_true (by omega)
        have d7p : p < ns.length := by omega
        have d8 : decide ((q : Int) < (ns.length : Int)) = true := decide_eq_true (by omega)
        have d9 : decide (q < ns.length) = true := decide_eq_true (by omega)
        have d9p : q < ns.length := by omega
        have HB3 := Aside0.mk (below_alloc HBr.out (.cells #[.int .i64 n.f0, .int .i64 (p : Int), .int .i64 (q : Int), .string n.f3, .slice A4 n.f4.length c4, .string n.f5, .int .i64 n.f6, .int .i64 n.f7] 37))
        have HR3 := Aside0.mk (HRr.out.below (below_alloc (Below.refl _ _) (.cells #[.int .i64 n.f0, .int .i64 (p : Int), .int .i64 (q : Int), .string n.f3, .slice A4 n.f4.length c4, .string n.f5, .int .i64 n.f6, .int .i64 n.f7] 37)))
        have HS3 := Aside0.mk (show w.heap.size + 3 ≤ (wr.alloc (.cells #[.int .i64 n.f0, .int .i64 (p : Int), .int .i64 (q : Int), .string n.f3, .slice A4 n.f4.length c4, .string n.f5, .int .i64 n.f6, .int .i64 n.f7] 37)).heap.size by rw [World.size_alloc]; have := HSr.out; omega)
        have HH3 := Aside0.mk hh
        clear hh hp hq ha0 ha1 hb0 hb1 hlp hlq e10 e11 HC HP HL
        obtain ⟨b1, hb1⟩ : ∃ b1, h.getD p false = b1 := ⟨_, rfl⟩
        rw [hb1] at c0 HV
        obtain ⟨b2, hb2⟩ : ∃ b2, h.getD q false = b2 := ⟨_, rfl⟩
        rw [hb2] at c1 HV
        clear hb2
        clear hb1
        cases b1
        all_goals (
          go_wp2_with fail
          try rw [show wrap64 ((i : Int) + 1) = ((i + 1 : Nat) : Int) by have := HI2.out; have := h2; unfold wrap64; omega]
          go_roundg (ns.length - i - 1)
          case measure => have := HI.out; have := HI2.out; omega
          case rel =>
            refine ⟨i + 1, h ++ [valN lv h n], rfl, ⟨by have := HI.out; have := HI2.out; omega⟩, ⟨by rw [List.length_append, HHL.out]; rfl⟩, ⟨by rw [← HS.out, HDR.out]; rfl⟩, ⟨HB3.out.setCell (p := ⟨w.heap.size + 1 + 1, i, none⟩) (by show w.heap.size ≤ w.heap.size + 1 + 1; omega) _⟩, ⟨by rw [World.size_setCell]; exact HS3.out⟩, ⟨HR3.out.far (by omega) (by omega) _ _⟩, ⟨?_⟩⟩
            rw [bools_next HHL.out HI2.out]
            have e := bools_put HH3.out i (valN lv h n)
            rw [HV.out] at e ⊢
            exact e)
      by_cases e12 : n.f0 = 12
      · have d20 : (n.f0 == 10) = false := beq_eq_false_iff_ne.2 e10
        have d21 : (n.f0 == 11) = false := beq_eq_false_iff_ne.2 e11
        have d22 : (n.f0 == 12) = true := beq_iff_eq.2 e12
        have HPN := HP.out i n HNE.out
        rw [show partsN n = [n.f1] by unfold partsN; rw [if_neg (by omega), if_pos e12]] at HPN
        simp only [List.all_cons, List.all_nil, inN, Bool.and_true, decide_eq_true_eq] at HPN
        obtain ⟨ha0, ha1⟩ := HPN
        obtain ⟨p, hp⟩ : ∃ p : Nat, n.f1 = (p : Int) := ⟨n.f1.toNat, by omega⟩
        have HV := Aside0.mk (show valN lv h n = (!h.getD p false) by unfold valN; rw [if_neg (by omega), if_neg (by omega), if_pos e12, hp, Int.toNat_natCast])
        rw [hp] at ha0 ha1 k1
        have hlp : p < h.length := by have := HHL.out; omega
        have hh := blk_alloc HHr.out (.cells #[.int .i64 n.f0, .int .i64 (p : Int), .int .i64 n.f2, .string n.f3, .slice A4 n.f4.length c4, .string n.f5, .int .i64 n.f6, .int .i64 n.f7] 37)
        have c0 : (wr.alloc (.cells #[.int .i64 n.f0, .int .i64 (p : Int), .int .i64 n.f2, .string n.f3, .slice A4 n.f4.length c4, .string n.f5, .int .i64 n.f6, .int .i64 n.f7] 37)).cell? ⟨w.heap.size + 1 + 1, p, none⟩ = some (.bool (h.getD p false)) := bools_cell hh (held_get hlp)
        have z2 := blk_frozen hh i
        have c2 : (wr.alloc (.cells #[.int .i64 n.f0, .int .i64 (p : Int), .int .i64 n.f2, .string n.f3, .slice A4 n.f4.length c4, .string n.f5, .int .i64 n.f6, .int .i64 n.f7] 37)).cell? ⟨w.heap.size + 1 + 1, i, none⟩ = some (.bool false) := bools_cell hh (by rw [List.getElem?_append_right (by have := HHL.out; omega)]; rw [List.getElem?_replicate]; rw [if_pos (by have := HHL.out; omega)])
        have d6 : decide ((p : Int) < (ns.length : Int)) = true := decide_eq_true (by omega)
        have d7 : decide (p < ns.length) = true := decide_eq_true (by omega)
        have d7p : p < ns.length := by omega
        have HB3 := Aside0.mk (below_alloc HBr.out (.cells #[.int .i64 n.f0, .int .i64 (p : Int), .int .i64 n.f2, .string n.f3, .slice A4 n.f4.length c4, .string n.f5, .int .i64 n.f6, .int .i64 n.f7] 37))
        have HR3 := Aside0.mk (HRr.out.below (below_alloc (Below.refl _ _) (.cells #[.int .i64 n.f0, .int .i64 (p : Int), .int .i64 n.f2, .string n.f3, .slice A4 n.f4.length c4, .string n.f5, .int .i64 n.f6, .int .i64 n.f7] 37)))
        have HS3 := Aside0.mk (show w.heap.size + 3 ≤ (wr.alloc (.cells #[.int .i64 n.f0, .int .i64 (p : Int), .int .i64 n.f2, .string n.f3, .slice A4 n.f4.length c4, .string n.f5, .int .i64 n.f6, .int .i64 n.f7] 37)).heap.size by rw [World.size_alloc]; have := HSr.out; omega)
        have HH3 := Aside0.mk hh
        clear hh hp ha0 ha1 hlp e10 e11 e12 HC HP HL
        obtain ⟨b1, hb1⟩ : ∃ b1, h.getD p false = b1 := ⟨_, rfl⟩
        rw [hb1] at c0 HV
        clear hb1
        cases b1
        all_goals (
          go_wp2_with fail
          try rw [show wrap64 ((i : Int) + 1) = ((i + 1 : Nat) : Int) by have := HI2.out; have := h2; unfold wrap64; omega]
          go_roundg (ns.length - i - 1)
          case measure => have := HI.out; have := HI2.out; omega
          case rel =>
            refine ⟨i + 1, h ++ [valN lv h n], rfl, ⟨by have := HI.out; have := HI2.out; omega⟩, ⟨by rw [List.length_append, HHL.out]; rfl⟩, ⟨by rw [← HS.out, HDR.out]; rfl⟩, ⟨HB3.out.setCell (p := ⟨w.heap.size + 1 + 1, i, none⟩) (by show w.heap.size ≤ w.heap.size + 1 + 1; omega) _⟩, ⟨by rw [World.size_setCell]; exact HS3.out⟩, ⟨HR3.out.far (by omega) (by omega) _ _⟩, ⟨?_⟩⟩
            rw [bools_next HHL.out HI2.out]
            have e := bools_put HH3.out i (valN lv h n)
            rw [HV.out] at e ⊢
            exact e)
      have d20 : (n.f0 == 10) = false := beq_eq_false_iff_ne.2 e10
      have d21 : (n.f0 == 11) = false := beq_eq_false_iff_ne.2 e11
      have d22 : (n.f0 == 12) = false := beq_eq_false_iff_ne.2 e12
      have HV := Aside0.mk (show valN lv h n = lv n by unfold valN; rw [if_neg e10, if_neg e11, if_neg e12])
      have HLN := Aside0.mk (HL.out n (List.mem_of_getElem? HNE.out) e10 e11 e12)
      clear e10 e11 e12
      go_wp2_with fail
      refine (HLN.out _ _ _ (below_alloc HBr.out _) (by rw [World.size_alloc]; have := HSr.out; omega) (HRr.out.below (below_alloc (Below.refl _ _) _)) G4.out l4).mono ?_
      rintro e w3 ⟨rfl, hr3, hb3, hk3⟩
      have hh := blk_kept (blk_alloc HHr.out (.cells #[.int .i64 n.f0, .int .i64 n.f1, .int .i64 n.f2, .string n.f3, .slice A4 n.f4.length c4, .string n.f5, .int .i64 n.f6, .int .i64 n.f7] 37)) hk3 (by omega)
      have z2 := blk_frozen hh i
      have c2 : w3.cell? ⟨w.heap.size + 1 + 1, i, none⟩ = some (.bool false) := bools_cell hh (by rw [List.getElem?_append_right (by have := HHL.out; omega)]; rw [List.getElem?_replicate]; rw [if_pos (by have := HHL.out; omega)])
      have HH3 := Aside0.mk hh
      have HR3 := Aside0.mk hr3
      have HB3 := Aside0.mk ((below_alloc HBr.out (.cells #[.int .i64 n.f0, .int .i64 n.f1, .int .i64 n.f2, .string n.f3, .slice A4 n.f4.length c4, .string n.f5, .int .i64 n.f6, .int .i64 n.f7] 37)).trans (hb3.mono (by omega)))
      have HS3 := Aside0.mk (show w.heap.size + 3 ≤ w3.heap.size by have := hk3.1; rw [World.size_alloc] at this; have := HSr.out; omega)
      clear hh hr3 hb3 hk3 k0 k1 k2 k3 k4 k5 k6 k7
      obtain ⟨b1, hb1⟩ : ∃ b1, lv n = b1 := ⟨_, rfl⟩
      rw [hb1] at HV ⊢
      clear hb1
      go_wp2_with fail
      try rw [show wrap64 ((i : Int) + 1) = ((i + 1 : Nat) : Int) by have := HI2.out; have := h2; unfold wrap64; omega]
      go_roundg (ns.length - i - 1)
      case measure => have := HI.out; have := HI2.out; omega
      case rel =>
        refine ⟨i + 1, h ++ [valN lv h n], rfl, ⟨by have := HI.out; have := HI2.out; omega⟩, ⟨by rw [List.length_append, HHL.out]; rfl⟩, ⟨by rw [← HS.out, HDR.out]; rfl⟩, ⟨HB3.out.setCell (p := ⟨w.heap.size + 1 + 1, i, none⟩) (by show w.heap.size ≤ w.heap.size + 1 + 1; omega) _⟩, ⟨by rw [World.size_setCell]; exact HS3.out⟩, ⟨HR3.out.far (by omega) (by omega) _ _⟩, ⟨?_⟩⟩
        rw [bools_next HHL.out HI2.out]
        have e := bools_put HH3.out i (valN lv h n)
        rw [HV.out] at e ⊢
        exact e
    · have hie : i = ns.length := by have := HI.out; omega
      subst hie
      have d3 : decide ((ns.length : Int) < (ns.length : Int)) = false := decide_eq_false (by omega)
      have hend : wr.cell? ⟨w.heap.size + 1 + 1, ns.length - 1, none⟩ = some (.bool (holdsB lv ns)) := bools_cell HHr.out (by
        have e : heldL lv ns [] = h := by rw [← HS.out, List.drop_length]; rfl
        unfold holdsB
        rw [e]
        exact held_get (by have := HHL.out; omega))
      go_wp2_with fail
      go_ret
      exact ⟨rfl, HBr.out⟩
theorem formL_all : ∀ (ns : List ND) (j : Nat) (u v : List Int), formL j ns u = some v → ∀ (i : Nat) n, ns[i]? = some n → rightN n = true ∧ (partsN n).all (inN (j + i)) = true
  | [], j, u, v, h, i, n, hn => by simp at hn
  | m :: r, j, u, v, h, i, n, hn => by
    rw [formL] at h
    by_cases hc : rightN m = true ∧ (partsN m).all (inN j) = true
    · rw [if_pos hc] at h
      cases i with
      | zero =>
        simp at hn
        subst hn
        exact hc
      | succ i =>
        simp at hn
        have := formL_all r (j + 1) _ v h i n hn
        rwa [show j + 1 + i = j + (i + 1) by omega] at this
    · rw [if_neg hc] at h
      cases h
theorem formed_all {ns : List ND} {k : Int} {ky : ByteArray} {wd sk mo : Int} (h : formedB ns k ky wd sk mo = true) : (1 ≤ ns.length ∧ ns.length ≤ 64) ∧ ∀ (i : Nat) n, ns[i]? = some n → rightN n = true ∧ (partsN n).all (inN i) = true := by
  unfold formedB at h
  rw [Bool.and_eq_true, Bool.and_eq_true] at h
  obtain ⟨⟨h1, h2⟩, h3⟩ := h
  refine ⟨of_decide_eq_true h1, fun i n hn => ?_⟩
  cases hf : formL 0 ns (List.replicate ns.length 0) with
  | none => rw [hf] at h3; cases h3
  | some u =>
    have := formL_all ns 0 _ u hf i n hn
    rwa [Nat.zero_add] at this
set_option maxHeartbeats 4000000 in
set_option maxRecDepth 100000 in
theorem Holds_calls (A : Option Addr) (c : Nat) (ns : List ND) (k : Int) (ky : ByteArray) (wd sk mo : Int) (l : List Int) (s t : Int) (vl : Value) (lv : ND → Bool) (w : World) (hvl : ∃ a n m, vl = .slice a n m) (hC : Kd.C k37 w A ns.length ns) (hc : ns.length ≤ c)
    (hA : ∀ W, Calls Tryz.prog 60 #[.agg #[.slice A ns.length c, .int .i64 k, .string ky, .int .i64 wd, .int .i64 sk, .int .i64 mo]] W fun e w' => e = .returned (.bool (askedB k ky wd sk mo)) ∧ Below W.heap.size W w')
    (hR : ∀ n ∈ ns, ∀ W A' c', Kd.string.C W A' n.f4.length n.f4 → n.f4.length ≤ c' → Calls Tryz.prog 61 #[.agg #[.int .i64 n.f0, .int .i64 n.f1, .int .i64 n.f2, .string n.f3, .slice A' n.f4.length c', .string n.f5, .int .i64 n.f6, .int .i64 n.f7]] W fun e w' => e = .returned (.bool (rightN n)) ∧ Below W.heap.size W w')
    (hL : ∀ W, Below w.heap.size w W → ∀ n ∈ ns, rightN n = true → n.f0 ≠ 10 → n.f0 ≠ 11 → n.f0 ≠ 12 → LeafOK W l s t vl n (lv n)) :
    Calls Tryz.prog 14 #[.agg #[.slice A ns.length c, .int .i64 k, .string ky, .int .i64 wd, .int .i64 sk, .int .i64 mo], .agg #[.int .i64 s, .int .i64 t, vl]] w fun e w' =>
      e = .returned (.tuple #[.bool (formedB ns k ky wd sk mo && holdsB lv ns), .int .i64 (if formedB ns k ky wd sk mo = true then 0 else 1)]) ∧ Below w.heap.size w w' := by
  obtain ⟨la, ln, lm, rfl⟩ := hvl
  have HF := Aside0.mk (fun (W : World) (hW : Below w.heap.size w W) => formed_calls A c ns k ky wd sk mo W (Kd.C_below hC hW) hc hA hR)
  obtain ⟨fb, hfb⟩ : ∃ fb, formedB ns k ky wd sk mo = fb := ⟨_, rfl⟩
  rw [hfb] at HF ⊢
  have HFB := Aside0.mk hfb
  have HC := Aside0.mk hC
  have HL := Aside0.mk hL
  clear hA hR hfb hC hL
  go_enter Tryz.func14, Tryz.ntmps14
  go_wp2_with fail
  refine (HF.out _ (by repeat (first | exact Below.refl _ _ | apply below_alloc))).mono ?_
  rintro e w2 ⟨rfl, hb⟩
  have HB := Aside0.mk (below_step (below_alloc (below_alloc (Below.refl w.heap.size w) _) _) hb)
  have hA := blk_below (blk_alloc (blk_new w (.cells #[.slice A ns.length c, .int .i64 k, .string ky, .int .i64 wd, .int .i64 sk, .int .i64 mo] 24)) _) hb
  have c0 : w2.cell? ⟨w.heap.size, 0, none⟩ = some (.slice A ns.length c) := (blk_cell hA 0).trans rfl
  have hR := blk_below (blk_new (w.alloc (.cells #[.slice A ns.length c, .int .i64 k, .string ky, .int .i64 wd, .int .i64 sk, .int .i64 mo] 24)) (.cells #[.int .i64 s, .int .i64 t, .slice la ln lm] 27)) hb
  rw [World.size_alloc] at hR
  have r0 : w2.cell? ⟨w.heap.size + 1, 0, none⟩ = some (.int .i64 s) := (blk_cell hR 0).trans rfl
  have r1 : w2.cell? ⟨w.heap.size + 1, 1, none⟩ = some (.int .i64 t) := (blk_cell hR 1).trans rfl
  have r2 : w2.cell? ⟨w.heap.size + 1, 2, none⟩ = some (.slice la ln lm) := (blk_cell hR 2).trans rfl
  clear hA hR hb HF
  cases fb
  · go_wp2_with fail
    go_ret2
    exact ⟨rfl, HB.out⟩
  · have HFA := Aside0.mk (formed_all HFB.out)
    go_wp2_with fail
    refine (holds_calls A c ns l s t (.slice la ln lm) lv _ ⟨_, _, _, rfl⟩ (Kd.C_below HC.out HB.out) hc HFA.out.1.1 HFA.out.1.2 (fun i n hn => (HFA.out.2 i n hn).2) (fun n hn h10 h11 h12 => HL.out _ HB.out n hn (by obtain ⟨i, hi⟩ := List.getElem?_of_mem hn; exact (HFA.out.2 i n hi).1) h10 h11 h12)).mono ?_
    rintro e w3 ⟨rfl, hb⟩
    have HB3 := Aside0.mk (below_step HB.out hb)
    clear hb
    go_wp2_with fail
    go_ret2
    exact ⟨rfl, HB3.out⟩
end Go.Proofs.YtehaodbheifokaaGreatDoor.P
