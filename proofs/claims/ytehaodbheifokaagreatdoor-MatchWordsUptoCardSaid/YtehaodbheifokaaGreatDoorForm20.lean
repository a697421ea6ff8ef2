/- query.Formed, in general: out of what 'asked' and 'right' come to. -/
import Derived.Test.YtehaodbheifokaaGreatDoorSpec20
import Derived.Deep.Light
namespace Go.Proofs.YtehaodbheifokaaGreatDoor.P
open Go Go.RowKit Go.Proofs.YtehaodbheifokaaGreatDoorW.PrintWords Go.Proofs.YtehaodbheifokaaGreatDoorW.PrintLast Go.Proofs.YtehaodbheifokaaGreatDoorW.PrintMore
attribute [local go_sem] max2_int min2_int max_two min_two
set_option linter.unusedVariables false
set_option linter.unusedSimpArgs false
theorem info_i64G : (Tryz.prog.info? 3).map (fun i => (i.zero, i.size, i.bytes)) = some (some (.int .i64 0), 1, 8) := by kernel_rfl
/-! ### the plain law -/
abbrev ND := S37
def rightN (n : ND) : Bool := rightB n.f0 n.f1 n.f2 n.f3 n.f4 n.f5 n.f6 n.f7
def partsN (n : ND) : List Int := if n.f0 = 10 ∨ n.f0 = 11 then [n.f1, n.f2] else if n.f0 = 12 then [n.f1] else []
def inN (i : Nat) (k : Int) : Bool := decide (0 ≤ k ∧ k < i)
def bump (u : List Int) (ps : List Int) : List Int := ps.foldl (fun u k => u.set k.toNat (wrap64 (u.getD k.toNat 0 + 1))) u
def formL : Nat → List ND → List Int → Option (List Int)
  | _, [], u => some u
  | i, n :: r, u => if rightN n = true ∧ (partsN n).all (inN i) = true then formL (i + 1) r (bump u (partsN n)) else none
def onesB (u : List Int) : Bool := (u.take (u.length - 1)).all (fun n => n == 1)
def formedB (ns : List ND) (k : Int) (ky : ByteArray) (wd sk mo : Int) : Bool :=
  decide (1 ≤ ns.length ∧ ns.length ≤ 64) && askedB k ky wd sk mo && (match formL 0 ns (List.replicate ns.length 0) with | none => false | some u => onesB u)
theorem made_nums (m : Nat) : madeCells #[Value.int .i64 0] m = (nums .i64 (List.replicate m 0)).toArray := by
  have hl : (madeCells #[Value.int .i64 0] m).toList = nums .i64 (List.replicate m 0) := by
    apply List.ext_getElem
    · simp [nums, madeCells]
    · intro i h1 h2
      simp [nums, madeCells, Nat.mod_one]
  rw [← hl, Array.toArray_toList]
theorem bump_len : ∀ (ps : List Int) (u : List Int), (bump u ps).length = u.length
  | [], u => rfl
  | p :: ps, u => by unfold bump; rw [List.foldl_cons]; exact (bump_len ps _).trans (by simp)
theorem bump_snoc (u : List Int) (ps : List Int) (p : Int) : bump u (ps ++ [p]) = (bump u ps).set p.toNat (wrap64 ((bump u ps).getD p.toNat 0 + 1)) := by
  unfold bump
  rw [List.foldl_append]
  rfl
theorem take_next {ps : List Int} {j : Nat} {p : Int} (h : ps[j]? = some p) : ps.take (j + 1) = ps.take j ++ [p] := by
  obtain ⟨hl, he⟩ := List.getElem?_eq_some_iff.1 h
  rw [List.take_succ_eq_append_getElem hl, he]
theorem formL_step (i : Nat) (n : ND) (r : List ND) (u : List Int) {v : List Int} (h : rightN n = true) (ha : (partsN n).all (inN i) = true) (hv : v = bump u (partsN n) := by rfl) : formL i (n :: r) u = formL (i + 1) r v := by
  subst hv
  rw [formL, if_pos ⟨h, ha⟩]
theorem formL_stop (i : Nat) (n : ND) (r : List ND) (u : List Int) {p : Int} (h : p ∈ partsN n) (hp : inN i p = false) : formL i (n :: r) u = none := by
  rw [formL, if_neg (fun e => by have := List.all_eq_true.1 e.2 p h; rw [hp] at this; exact absurd this (by decide))]
theorem nums_cell {w : World} {g t : Nat} {xs : List Int} {j : Nat} {x : Int} (h : w.heap[g]? = some (.cells (nums .i64 xs).toArray t (0, 0))) (hx : xs[j]? = some x) : w.cell? ⟨g, j, none⟩ = some (.int .i64 x) := by
  rw [blk_cell h]
  simp [nums, hx]
theorem nums_put {w : World} {g t : Nat} {xs : List Int} (h : w.heap[g]? = some (.cells (nums .i64 xs).toArray t (0, 0))) (j : Nat) (x : Int) : (w.setCell ⟨g, j, none⟩ (.int .i64 x)).heap[g]? = some (.cells (nums .i64 (xs.set j x)).toArray t (0, 0)) := by
  refine blk_put h j _ ?_
  simp [nums, List.map_set]
def oneU (n : Int) : Bool := n == 1
set_option maxHeartbeats 4000000 in
set_option maxRecDepth 100000 in
theorem notOne_calls (n : Int) (w : World) :
    Calls Tryz.prog 63 #[.int .i64 n] w fun e w' => e = .returned (.bool (!oneU n)) ∧ Drawn0 w w' := by
  go_enter Tryz.func63, Tryz.ntmps63
  go_wp2
  go_ret
  exact ⟨rfl, Drawn0.refl _⟩
set_option maxHeartbeats 4000000 in
set_option maxRecDepth 100000 in
theorem indexU (A : Option Addr) (c : Nat) (tm : List Int) (w : World) (hC : (Kd.int .i64).C w A tm.length tm) (hc : tm.length ≤ c) (hn : tm.length ≤ 1099511627776) :
    Calls Tryz.prog 85 #[.slice A tm.length c, .func (.func 63) #[] #[]] w fun e w' => ∃ i : Int, e = .returned (.int .i64 i) ∧ decide (0 ≤ i) = (!tm.all oneU) ∧ Drawn0 w w' := by
  have HC := Aside0.mk hC
  clear hC
  go_enter Tryz.func85, Tryz.ntmps85
  go_wp2_with fail
  go_loopg [8] tm.length (fun kq v8 wr => ∃ i : Nat, v8 = .int .i64 (i : Int) ∧ Aside0 (kq + i = tm.length) ∧ Aside0 (∀ j, j < i → ∀ s, tm[j]? = some s → oneU s = true) ∧ Drawn0 w wr)
  case atStart => exact ⟨0, rfl, ⟨rfl⟩, ⟨fun j h => by omega⟩, Drawn0.refl _⟩
  case round =>
    obtain ⟨i, rfl, HI, HA, HD⟩ := hrel
    obtain ⟨⟨m, rfl⟩⟩ := HD
    by_cases hi : i < tm.length
    · have d0 : decide ((i : Int) < (tm.length : Int)) = true := decide_eq_true (by omega)
      have d1 : decide (i < tm.length) = true := decide_eq_true hi
      obtain ⟨ad, rfl, c0⟩ := Kd.at_int (Kd.C_drewN HC.out m) (i : Int) (by omega) (by omega)
      rw [Int.toNat_natCast] at c0
      have hs : tm[i]? = some (rd tm (i : Int)) := by simp [rd, List.getD, hi]
      have HS := Aside0.mk hs
      obtain ⟨b, hb⟩ : ∃ b, oneU (rd tm (i : Int)) = b := ⟨_, rfl⟩
      have HB := Aside0.mk hb
      have HN := Aside0.mk (notOne_calls (rd tm (i : Int)))
      rw [hb] at HN
      clear hb hs
      have HIL := Aside0.mk hi
      go_wp2_with fail
      refine (HN.out _).mono ?_
      rintro e w3 ⟨rfl, ⟨⟨n3, rfl⟩⟩⟩
      cases b
      · go_wp2_with fail
        go_ret
        refine ⟨_, rfl, ?_, ⟨⟨_, rfl⟩⟩⟩
        rw [decide_eq_true (by omega)]
        have : tm.all oneU = false := by
          cases e : tm.all oneU with
          | false => rfl
          | true => have := List.all_eq_true.1 e _ (List.mem_of_getElem? HS.out); rw [HB.out] at this; exact absurd this (by decide)
        rw [this]; rfl
      · go_wp2_with fail
        have ew : (i : Int) + 1 = ((i + 1 : Nat) : Int) := rfl
        try rw [show wrap64 ((i : Int) + 1) = ((i + 1 : Nat) : Int) by have := HIL.out; unfold wrap64; omega]
        try rw [ew]
        go_roundg (tm.length - i - 1)
        case measure => have := HI.out; have := HIL.out; omega
        case rel =>
          refine ⟨i + 1, rfl, ⟨by have := HI.out; have := HIL.out; omega⟩, ⟨fun j hj s hs => ?_⟩, ⟨⟨_, rfl⟩⟩⟩
          by_cases hji : j = i
          · subst hji
            rw [HS.out] at hs
            cases hs
            exact HB.out
          · exact HA.out j (by omega) s hs
    · have d0 : decide ((i : Int) < (tm.length : Int)) = false := decide_eq_false (by omega)
      have d1 : decide (i < tm.length) = false := decide_eq_false hi
      go_wp2_with fail
      go_ret
      refine ⟨_, rfl, ?_, ⟨⟨_, rfl⟩⟩⟩
      have : tm.all oneU = true := List.all_eq_true.2 (fun s hs => by
        obtain ⟨j, hj⟩ := List.getElem?_of_mem hs
        have hl := (List.getElem?_eq_some_iff.1 hj).1
        exact HA.out j (by omega) s hj)
      rw [this]; rfl
set_option maxHeartbeats 4000000 in
set_option maxRecDepth 100000 in
theorem containsU (A : Option Addr) (c : Nat) (tm : List Int) (w : World) (hC : (Kd.int .i64).C w A tm.length tm) (hc : tm.length ≤ c) (hn : tm.length ≤ 1099511627776) :
    Calls Tryz.prog 62 #[.slice A tm.length c, .func (.func 63) #[] #[]] w fun e w' => e = .returned (.bool (!tm.all oneU)) ∧ Drawn0 w w' := by
  have hX := indexU A c tm w hC hc hn
  obtain ⟨b, hb⟩ : ∃ b, (!tm.all oneU) = b := ⟨_, rfl⟩
  rw [hb] at hX ⊢
  have HX := Aside0.mk hX
  clear hC hb hX
  go_enter Tryz.func62, Tryz.ntmps62
  go_wp2_with fail
  refine HX.out.mono ?_
  rintro e w3 ⟨i, rfl, hi, hd⟩
  have HD := Aside0.mk hd
  subst hi
  clear hd
  go_wp2_with fail
  all_goals go_ret
  all_goals exact ⟨by rfl, HD.out⟩
theorem nums_take {w : World} {g t : Nat} {xs : List Int} (h : w.heap[g]? = some (.cells (nums .i64 xs).toArray t (0, 0))) {m : Nat} (hm : m ≤ xs.length) (hn : m ≤ 1099511627776) : (Kd.int .i64).C w (some ⟨g, 0, none⟩) m (xs.take m) := by
  refine ⟨by rw [List.length_take]; omega, by omega, fun h0 => ⟨⟨g, 0, none⟩, rfl, fun j p hj => ⟨[.int .i64 p], rfl, rfl, fun i u hi => ?_⟩⟩⟩
  obtain ⟨rfl, rfl⟩ : i = 0 ∧ u = .int .i64 p := by
    cases i with
    | zero => simp at hi; exact ⟨rfl, hi.symm⟩
    | succ i => simp at hi
  show w.cell? _ = _
  rw [WideShapes.add_plain, show 0 + (j * (Kd.int .i64).sz + 0) = j by show 0 + (j * 1 + 0) = j; omega]
  have hjm : j < m := by have := (List.getElem?_eq_some_iff.1 hj).1; rw [List.length_take] at this; omega
  rw [List.getElem?_take_of_lt hjm] at hj
  exact nums_cell h hj
/-! ### the walk -/
set_option maxHeartbeats 4000000 in
set_option maxRecDepth 100000 in
theorem formed_calls (A : Option Addr) (c : Nat) (ns : List ND) (k : Int) (ky : ByteArray) (wd sk mo : Int) (w : World) (hC : Kd.C k37 w A ns.length ns) (hc : ns.length ≤ c)
    (hA : ∀ W, Calls Tryz.prog 60 #[.agg #[.slice A ns.length c, .int .i64 k, .string ky, .int .i64 wd, .int .i64 sk, .int .i64 mo]] W fun e w' => e = .returned (.bool (askedB k ky wd sk mo)) ∧ Below W.heap.size W w')
    (hR : ∀ n ∈ ns, ∀ W A' c', Kd.string.C W A' n.f4.length n.f4 → n.f4.length ≤ c' → Calls Tryz.prog 61 #[.agg #[.int .i64 n.f0, .int .i64 n.f1, .int .i64 n.f2, .string n.f3, .slice A' n.f4.length c', .string n.f5, .int .i64 n.f6, .int .i64 n.f7]] W fun e w' => e = .returned (.bool (rightN n)) ∧ Below W.heap.size W w') :
    Calls Tryz.prog 38 #[.agg #[.slice A ns.length c, .int .i64 k, .string ky, .int .i64 wd, .int .i64 sk, .int .i64 mo]] w fun e w' => e = .returned (.bool (formedB ns k ky wd sk mo)) ∧ Below w.heap.size w w' := by
  by_cases h1 : ns.length < 1
  · have hf : formedB ns k ky wd sk mo = false := by unfold formedB; rw [decide_eq_false (by omega)]; rfl
    rw [hf]
    have d1 : decide ((ns.length : Int) < 1) = true := decide_eq_true (by omega)
    go_enter Tryz.func38, Tryz.ntmps38
    go_wp2_with fail
    go_ret
    exact ⟨rfl, by repeat (first | exact Below.refl _ _ | apply below_alloc)⟩
  · have d1 : decide ((ns.length : Int) < 1) = false := decide_eq_false (by omega)
    by_cases h2 : ns.length > 64
    · have hf : formedB ns k ky wd sk mo = false := by unfold formedB; rw [decide_eq_false (show ¬(1 ≤ ns.length ∧ ns.length ≤ 64) by omega)]; rfl
      rw [hf]
      have d2 : decide ((64 : Int) < (ns.length : Int)) = true := decide_eq_true (by omega)
      go_enter Tryz.func38, Tryz.ntmps38
      go_wp2_with fail
      all_goals go_ret
      all_goals exact ⟨rfl, by repeat (first | exact Below.refl _ _ | apply below_alloc)⟩
    · have d2 : decide ((64 : Int) < (ns.length : Int)) = false := decide_eq_false (by omega)
      have HF := Aside0.mk (show formedB ns k ky wd sk mo = (askedB k ky wd sk mo && (match formL 0 ns (List.replicate ns.length 0) with | none => false | some u => onesB u)) by unfold formedB; rw [decide_eq_true (show (1 ≤ ns.length ∧ ns.length ≤ 64) by omega)]; rfl)
      obtain ⟨r, hr⟩ : ∃ r, formedB ns k ky wd sk mo = r := ⟨_, rfl⟩
      rw [hr] at HF ⊢
      clear hr
      obtain ⟨b, hb⟩ : ∃ b, askedB k ky wd sk mo = b := ⟨_, rfl⟩
      rw [hb] at HF
      simp only [hb] at hA
      have HA := Aside0.mk hA
      have HR := Aside0.mk hR
      have HC := Aside0.mk hC
      clear hA hR hC hb
      go_enter Tryz.func38, Tryz.ntmps38
      go_wp2_with fail
      refine (HA.out _).mono ?_
      rintro e w2 ⟨rfl, hb⟩
      have HB := Aside0.mk (below_step (below_alloc (Below.refl _ _) _) hb)
      have hA : w2.heap[w.heap.size]? = some (.cells #[.slice A ns.length c, .int .i64 k, .string ky, .int .i64 wd, .int .i64 sk, .int .i64 mo] 24 (0, 0)) := (hb.block _ (by rw [World.size_alloc]; omega)).trans (blk_new w _)
      cases b
      · clear hb hA
        go_wp2_with fail
        go_ret
        exact ⟨by rw [HF.out]; rfl, HB.out⟩
      have hA0 : w2.cell? ⟨w.heap.size, 0, none⟩ = some (.slice A ns.length c) := (blk_cell hA 0).trans rfl
      have HN2 := Aside0.mk (Kd.C_below HC.out HB.out)
      have hmk := print_make (P := Tryz.prog) 101 3 .i64 8 Tryz.underlying101 info_i64G (by decide) ns.length (by omega)
      have hA1 : (w2.alloc (.cells (madeCells #[.int .i64 0] ns.length) 3)).cell? ⟨w.heap.size, 0, none⟩ = some (.slice A ns.length c) := ((below_alloc (Below.refl w2.heap.size w2) _).cell (World.block_lt_of_cell? w2 _ hA0)).trans hA0
      have HZ := Aside0.mk (show (w2.alloc (.cells (madeCells #[.int .i64 0] ns.length) 3)).heap[w2.heap.size]? = some (.cells (nums .i64 (List.replicate ns.length 0)).toArray 3 (0, 0)) by rw [← made_nums]; exact blk_new w2 _)
      clear hb hA
      go_wp2_with fail
      go_loopg [31] ns.length (fun kq v31 wr => ∃ (i : Nat) (u : List Int), v31 = .int .i64 (i : Int) ∧ Aside0 (kq + i = ns.length) ∧ Aside0 (u.length = ns.length) ∧ Aside0 (formL i (ns.drop i) u = formL 0 ns (List.replicate ns.length 0)) ∧ Aside0 (Below w.heap.size w wr) ∧ Aside0 (Below w2.heap.size w2 wr) ∧ Aside0 (wr.heap[w2.heap.size]? = some (.cells (nums .i64 u).toArray 3 (0, 0))))
      case atStart => exact ⟨0, List.replicate ns.length 0, rfl, ⟨rfl⟩, ⟨by simp⟩, ⟨rfl⟩, ⟨below_alloc HB.out _⟩, ⟨below_alloc (Below.refl _ _) _⟩, HZ⟩
      case round =>
        clear hmk hA0 hA1
        obtain ⟨i, u, rfl, HI, HUL, HS, HBr, HBr2, HU⟩ := hrel
        by_cases hi : i < ns.length
        · have d3 : decide ((i : Int) < (ns.length : Int)) = true := decide_eq_true (by omega)
          have d4 : decide (i < ns.length) = true := decide_eq_true hi
          obtain ⟨ad, A4, c4, rfl, k0, k1, k2, k3, k4, k5, k6, k7, l4, g4⟩ := at_T37 (Kd.C_below HN2.out HBr2.out) (i : Int) (by omega) (by omega)
          rw [Int.toNat_natCast] at k0 k1 k2 k3 k4 k5 k6 k7
          obtain ⟨n, hn⟩ : ∃ n, rd_T37 ns (i : Int) = n := ⟨_, rfl⟩
          rw [hn] at k0 k1 k2 k3 k4 k5 k6 k7 l4 g4
          have HNE := Aside0.mk (show ns[i]? = some n by rw [← hn]; simp [rd_T37, hi])
          have G4 := Aside0.mk g4
          clear hn g4
          go_wp2_with fail
          refine (HR.out n (List.mem_of_getElem? HNE.out) _ _ _ (Kd.C_below G4.out (below_alloc (Below.refl _ _) _)) l4).mono ?_
          rintro e w3 ⟨rfl, hb⟩
          have HI2 := Aside0.mk hi
          have HB3 := Aside0.mk (below_step (below_alloc HBr.out _) hb)
          have HB32 := Aside0.mk (below_step (below_alloc HBr2.out _) hb)
          have HA := Aside0.mk ((hb.block _ (by rw [World.size_alloc]; omega)).trans (blk_new wr (.cells #[.int .i64 n.f0, .int .i64 n.f1, .int .i64 n.f2, .string n.f3, .slice A4 n.f4.length c4, .string n.f5, .int .i64 n.f6, .int .i64 n.f7] 37)))
          have HU3 := Aside0.mk (blk_below (blk_alloc HU.out (.cells #[.int .i64 n.f0, .int .i64 n.f1, .int .i64 n.f2, .string n.f3, .slice A4 n.f4.length c4, .string n.f5, .int .i64 n.f6, .int .i64 n.f7] 37)) hb)
          have HDR := Aside0.mk (show ns.drop i = n :: ns.drop (i + 1) by rw [List.drop_eq_getElem_cons hi]; have h := HNE.out; rw [List.getElem?_eq_getElem hi] at h; rw [Option.some.inj h])
          have hA0 : w3.cell? ⟨wr.heap.size, 0, none⟩ = some (.int .i64 n.f0) := (blk_cell HA.out 0).trans rfl
          have hA1 : w3.cell? ⟨wr.heap.size, 1, none⟩ = some (.int .i64 n.f1) := (blk_cell HA.out 1).trans rfl
          have hA2 : w3.cell? ⟨wr.heap.size, 2, none⟩ = some (.int .i64 n.f2) := (blk_cell HA.out 2).trans rfl
          clear hb k0 k1 k2 k3 k4 k5 k6 k7 l4
          obtain ⟨rb, hrb⟩ : ∃ rb, rightN n = rb := ⟨_, rfl⟩
          rw [hrb]
          have HRB := Aside0.mk hrb
          clear hrb
          cases rb
          · go_wp2_with fail
            go_ret
            refine ⟨?_, HB3.out⟩
            rw [HF.out, ← HS.out, HDR.out]
            unfold formL
            rw [if_neg (fun h => by rw [HRB.out] at h; exact absurd h.1 (by decide))]
            rfl
          · by_cases e10 : n.f0 = 10
            · have HPS := Aside0.mk (show partsN n = [n.f1, n.f2] by unfold partsN; rw [if_pos (.inl e10)])
              have d20 : (n.f0 == 10) = true := beq_iff_eq.2 e10
              clear e10
              go_wp2_with fail
              go_loopg [56] 2 (fun kq v56 wq => ∃ (j : Nat), v56 = .int .i64 (j : Int) ∧ Aside0 (kq + j = 2) ∧ Aside0 (List.all (List.take j [n.f1, n.f2]) (inN i) = true) ∧ Aside0 (Below w.heap.size w wq) ∧ Aside0 (Below w2.heap.size w2 wq) ∧ Aside0 (wq.heap[w3.heap.size]? = some (.cells (nums .i64 [n.f1, n.f2]).toArray 3 (0, 0))) ∧ Aside0 (wq.heap[w2.heap.size]? = some (.cells (nums .i64 (bump u (([n.f1, n.f2]).take j))).toArray 3 (0, 0))))
              case atStart => exact ⟨0, rfl, ⟨rfl⟩, ⟨rfl⟩, ⟨below_alloc HB3.out _⟩, ⟨below_alloc HB32.out _⟩, ⟨blk_new w3 _⟩, ⟨blk_alloc HU3.out _⟩⟩
              case round =>
                clear hA0 hA1 hA2
                obtain ⟨j, rfl, HJ, HAL, HBq, HBq2, HPB, HUB⟩ := hrel
                by_cases hj : j < 2
                · have d5 : decide ((j : Int) < 2) = true := decide_eq_true (by omega)
                  obtain ⟨p, hp⟩ : ∃ p, ([n.f1, n.f2])[j]? = some p := ⟨_, List.getElem?_eq_getElem (show j < ([n.f1, n.f2]).length from hj)⟩
                  have HP := Aside0.mk hp
                  have kp : wr.cell? ⟨w3.heap.size, j, none⟩ = some (.int .i64 p) := nums_cell HPB.out hp
                  clear hp
                  by_cases hp0 : p < 0
                  · have d6 : decide (p < 0) = true := decide_eq_true hp0
                    have HQ := Aside0.mk hp0
                    clear hp0
                    go_wp2_with fail
                    go_ret
                    refine ⟨?_, HBq.out⟩
                    rw [HF.out, ← HS.out, HDR.out, formL_stop _ _ _ _ (p := p) (by rw [HPS.out]; exact List.mem_of_getElem? HP.out) (by have := HQ.out; unfold inN; exact decide_eq_false (by omega))]
                    rfl
                  · have d6 : decide (p < 0) = false := decide_eq_false hp0
                    by_cases hp1 : p < (i : Int)
                    · have d7 : decide ((i : Int) ≤ p) = false := decide_eq_false (by omega)
                      have hul : (bump u (([n.f1, n.f2]).take j)).length = ns.length := (bump_len _ _).trans HUL.out
                      obtain ⟨q, hq⟩ : ∃ q : Nat, p = (q : Int) := ⟨p.toNat, by omega⟩
                      subst hq
                      have d8 : decide ((q : Int) < (ns.length : Int)) = true := decide_eq_true (by omega)
                      have d9 : decide (q < ns.length) = true := decide_eq_true (by omega)
                      have d10 : decide (0 ≤ (q : Int)) = true := decide_eq_true (by omega)
                      have ku : wr.cell? ⟨w2.heap.size, q, none⟩ = some (.int .i64 ((bump u (([n.f1, n.f2]).take j)).getD q 0)) := nums_cell HUB.out (by rw [List.getD_eq_getElem?_getD, List.getElem?_eq_getElem (by omega)]; rfl)
                      have kz := blk_frozen HUB.out q
                      have HQ := Aside0.mk hp1
                      have HJ2 := Aside0.mk hj
                      clear hul hp0
                      go_wp2_with fail
                      go_roundg (2 - j - 1)
                      case measure => have := HJ.out; have := HJ2.out; omega
                      case rel =>
                        refine ⟨j + 1, rfl, ⟨by have := HJ.out; have := HJ2.out; omega⟩, ⟨?_⟩, ⟨HBq.out.setCell (p := ⟨w2.heap.size, q, none⟩) (by have := HB.out.size; omega) _⟩, ⟨HBq2.out.setCell (p := ⟨w2.heap.size, q, none⟩) (Nat.le_refl _) _⟩, ⟨blk_far HPB.out (p := ⟨w2.heap.size, q, none⟩) (by show w3.heap.size ≠ w2.heap.size; have := HU3.out; have := blk_lt this; omega) _⟩, ⟨?_⟩⟩
                        · rw [take_next HP.out, List.all_append, HAL.out]
                          have := HQ.out
                          simp only [List.all_cons, List.all_nil, inN, Bool.and_true, Bool.true_and]
                          exact decide_eq_true (by omega)
                        · rw [take_next HP.out, bump_snoc]
                          exact nums_put HUB.out q _
                    · have d7 : decide ((i : Int) ≤ p) = true := decide_eq_true (by omega)
                      have HQ := Aside0.mk hp1
                      clear hp0 hp1
                      go_wp2_with fail
                      go_ret
                      refine ⟨?_, HBq.out⟩
                      rw [HF.out, ← HS.out, HDR.out, formL_stop _ _ _ _ (p := p) (by rw [HPS.out]; exact List.mem_of_getElem? HP.out) (by have := HQ.out; unfold inN; exact decide_eq_false (by omega))]
                      rfl
                · have hje : j = 2 := by have := HJ.out; omega
                  subst hje
                  go_wp2_with fail
                  try rw [show wrap64 ((i : Int) + 1) = ((i + 1 : Nat) : Int) by have := HI2.out; have := HI.out; have := h2; unfold wrap64; omega]
                  go_roundg (ns.length - i - 1)
                  case measure => have := HI.out; have := HI2.out; omega
                  case rel => exact ⟨i + 1, bump u ([n.f1, n.f2]), rfl, ⟨by have := HI.out; have := HI2.out; omega⟩, ⟨(bump_len _ _).trans HUL.out⟩, ⟨by rw [← HS.out, HDR.out]; exact (formL_step _ _ _ _ HRB.out (by rw [HPS.out]; exact HAL.out) (by rw [HPS.out])).symm⟩, HBq, HBq2, HUB⟩
            · by_cases e11 : n.f0 = 11
              · have HPS := Aside0.mk (show partsN n = [n.f1, n.f2] by unfold partsN; rw [if_pos (.inr e11)])
                have d20 : (n.f0 == 10) = false := beq_eq_false_iff_ne.2 e10
                have d21 : (n.f0 == 11) = true := beq_iff_eq.2 e11
                clear e10 e11
                go_wp2_with fail
                go_loopg [56] 2 (fun kq v56 wq => ∃ (j : Nat), v56 = .int .i64 (j : Int) ∧ Aside0 (kq + j = 2) ∧ Aside0 (List.all (List.take j [n.f1, n.f2]) (inN i) = true) ∧ Aside0 (Below w.heap.size w wq) ∧ Aside0 (Below w2.heap.size w2 wq) ∧ Aside0 (wq.heap[w3.heap.size]? = some (.cells (nums .i64 [n.f1, n.f2]).toArray 3 (0, 0))) ∧ Aside0 (wq.heap[w2.heap.size]? = some (.cells (nums .i64 (bump u (([n.f1, n.f2]).take j))).toArray 3 (0, 0))))
                case atStart => exact ⟨0, rfl, ⟨rfl⟩, ⟨rfl⟩, ⟨below_alloc HB3.out _⟩, ⟨below_alloc HB32.out _⟩, ⟨blk_new w3 _⟩, ⟨blk_alloc HU3.out _⟩⟩
                case round =>
                  clear hA0 hA1 hA2
                  obtain ⟨j, rfl, HJ, HAL, HBq, HBq2, HPB, HUB⟩ := hrel
                  by_cases hj : j < 2
                  · have d5 : decide ((j : Int) < 2) = true := decide_eq_true (by omega)
                    obtain ⟨p, hp⟩ : ∃ p, ([n.f1, n.f2])[j]? = some p := ⟨_, List.getElem?_eq_getElem (show j < ([n.f1, n.f2]).length from hj)⟩
                    have HP := Aside0.mk hp
                    have kp : wr.cell? ⟨w3.heap.size, j, none⟩ = some (.int .i64 p) := nums_cell HPB.out hp
                    clear hp
                    by_cases hp0 : p < 0
                    · have d6 : decide (p < 0) = true := decide_eq_true hp0
                      have HQ := Aside0.mk hp0
                      clear hp0
                      go_wp2_with fail
                      go_ret
                      refine ⟨?_, HBq.out⟩
                      rw [HF.out, ← HS.out, HDR.out, formL_stop _ _ _ _ (p := p) (by rw [HPS.out]; exact List.mem_of_getElem? HP.out) (by have := HQ.out; unfold inN; exact decide_eq_false (by omega))]
                      rfl
                    · have d6 : decide (p < 0) = false := decide_eq_false hp0
                      by_cases hp1 : p < (i : Int)
                      · have d7 : decide ((i : Int) ≤ p) = false := decide_eq_false (by omega)
                        have hul : (bump u (([n.f1, n.f2]).take j)).length = ns.length := (bump_len _ _).trans HUL.out
                        obtain ⟨q, hq⟩ : ∃ q : Nat, p = (q : Int) := ⟨p.toNat, by omega⟩
                        subst hq
                        have d8 : decide ((q : Int) < (ns.length : Int)) = true := decide_eq_true (by omega)
                        have d9 : decide (q < ns.length) = true := decide_eq_true (by omega)
                        have d10 : decide (0 ≤ (q : Int)) = true := decide_eq_true (by omega)
                        have ku : wr.cell? ⟨w2.heap.size, q, none⟩ = some (.int .i64 ((bump u (([n.f1, n.f2]).take j)).getD q 0)) := nums_cell HUB.out (by rw [List.getD_eq_getElem?_getD, List.getElem?_eq_getElem (by omega)]; rfl)
                        have kz := blk_frozen HUB.out q
                        have HQ := Aside0.mk hp1
                        have HJ2 := Aside0.mk hj
                        clear hul hp0
                        go_wp2_with fail
                        go_roundg (2 - j - 1)
                        case measure => have := HJ.out; have := HJ2.out; omega
                        case rel =>
                          refine ⟨j + 1, rfl, ⟨by have := HJ.out; have := HJ2.out; omega⟩, ⟨?_⟩, ⟨HBq.out.setCell (p := ⟨w2.heap.size, q, none⟩) (by have := HB.out.size; omega) _⟩, ⟨HBq2.out.setCell (p := ⟨w2.heap.size, q, none⟩) (Nat.le_refl _) _⟩, ⟨blk_far HPB.out (p := ⟨w2.heap.size, q, none⟩) (by show w3.heap.size ≠ w2.heap.size; have := HU3.out; have := blk_lt this; omega) _⟩, ⟨?_⟩⟩
                          · rw [take_next HP.out, List.all_append, HAL.out]
                            have := HQ.out
                            simp only [List.all_cons, List.all_nil, inN, Bool.and_true, Bool.true_and]
                            exact decide_eq_true (by omega)
                          · rw [take_next HP.out, bump_snoc]
                            exact nums_put HUB.out q _
                      · have d7 : decide ((i : Int) ≤ p) = true := decide_eq_true (by omega)
                        have HQ := Aside0.mk hp1
                        clear hp0 hp1
                        go_wp2_with fail
                        go_ret
                        refine ⟨?_, HBq.out⟩
                        rw [HF.out, ← HS.out, HDR.out, formL_stop _ _ _ _ (p := p) (by rw [HPS.out]; exact List.mem_of_getElem? HP.out) (by have := HQ.out; unfold inN; exact decide_eq_false (by omega))]
                        rfl
                  · have hje : j = 2 := by have := HJ.out; omega
                    subst hje
                    go_wp2_with fail
                    try rw [show wrap64 ((i : Int) + 1) = ((i + 1 : Nat) : Int) by have := HI2.out; have := HI.out; have := h2; unfold wrap64; omega]
                    go_roundg (ns.length - i - 1)
                    case measure => have := HI.out; have := HI2.out; omega
                    case rel => exact ⟨i + 1, bump u ([n.f1, n.f2]), rfl, ⟨by have := HI.out; have := HI2.out; omega⟩, ⟨(bump_len _ _).trans HUL.out⟩, ⟨by rw [← HS.out, HDR.out]; exact (formL_step _ _ _ _ HRB.out (by rw [HPS.out]; exact HAL.out) (by rw [HPS.out])).symm⟩, HBq, HBq2, HUB⟩
              · by_cases e12 : n.f0 = 12
                · have HPS := Aside0.mk (show partsN n = [n.f1] by unfold partsN; rw [if_neg (by omega), if_pos e12])
                  have d20 : (n.f0 == 10) = false := beq_eq_false_iff_ne.2 e10
                  have d21 : (n.f0 == 11) = false := beq_eq_false_iff_ne.2 e11
                  have d22 : (n.f0 == 12) = true := beq_iff_eq.2 e12
                  clear e10 e11 e12
                  go_wp2_with fail
                  go_loopg [56] 1 (fun kq v56 wq => ∃ (j : Nat), v56 = .int .i64 (j : Int) ∧ Aside0 (kq + j = 1) ∧ Aside0 (List.all (List.take j [n.f1]) (inN i) = true) ∧ Aside0 (Below w.heap.size w wq) ∧ Aside0 (Below w2.heap.size w2 wq) ∧ Aside0 (wq.heap[w3.heap.size]? = some (.cells (nums .i64 [n.f1]).toArray 3 (0, 0))) ∧ Aside0 (wq.heap[w2.heap.size]? = some (.cells (nums .i64 (bump u (([n.f1]).take j))).toArray 3 (0, 0))))
                  case atStart => exact ⟨0, rfl, ⟨rfl⟩, ⟨rfl⟩, ⟨below_alloc HB3.out _⟩, ⟨below_alloc HB32.out _⟩, ⟨blk_new w3 _⟩, ⟨blk_alloc HU3.out _⟩⟩
                  case round =>
                    clear hA0 hA1 hA2
                    obtain ⟨j, rfl, HJ, HAL, HBq, HBq2, HPB, HUB⟩ := hrel
                    by_cases hj : j < 1
                    · have d5 : decide ((j : Int) < 1) = true := decide_eq_true (by omega)
                      obtain ⟨p, hp⟩ : ∃ p, ([n.f1])[j]? = some p := ⟨_, List.getElem?_eq_getElem (show j < ([n.f1]).length from hj)⟩
                      have HP := Aside0.mk hp
                      have kp : wr.cell? ⟨w3.heap.size, j, none⟩ = some (.int .i64 p) := nums_cell HPB.out hp
                      clear hp
                      by_cases hp0 : p < 0
                      · have d6 : decide (p < 0) = true := decide_eq_true hp0
                        have HQ := Aside0.mk hp0
                        clear hp0
                        go_wp2_with fail
                        go_ret
                        refine ⟨?_, HBq.out⟩
                        rw [HF.out, ← HS.out, HDR.out, formL_stop _ _ _ _ (p := p) (by rw [HPS.out]; exact List.mem_of_getElem? HP.out) (by have := HQ.out; unfold inN; exact decide_eq_false (by omega))]
                        rfl
                      · have d6 : decide (p < 0) = false := decide_eq_false hp0
                        by_cases hp1 : p < (i : Int)
                        · have d7 : decide ((i : Int) ≤ p) = false := decide_eq_false (by omega)
                          have hul : (bump u (([n.f1]).take j)).length = ns.length := (bump_len _ _).trans HUL.out
                          obtain ⟨q, hq⟩ : ∃ q : Nat, p = (q : Int) := ⟨p.toNat, by omega⟩
                          subst hq
                          have d8 : decide ((q : Int) < (ns.length : Int)) = true := decide_eq_true (by omega)
                          have d9 : decide (q < ns.length) = true := decide_eq_true (by omega)
                          have d10 : decide (0 ≤ (q : Int)) = true := decide_eq_true (by omega)
                          have ku : wr.cell? ⟨w2.heap.size, q, none⟩ = some (.int .i64 ((bump u (([n.f1]).take j)).getD q 0)) := nums_cell HUB.out (by rw [List.getD_eq_getElem?_getD, List.getElem?_eq_getElem (by omega)]; rfl)
                          have kz := blk_frozen HUB.out q
                          have HQ := Aside0.mk hp1
                          have HJ2 := Aside0.mk hj
                          clear hul hp0
                          go_wp2_with fail
                          go_roundg (1 - j - 1)
                          case measure => have := HJ.out; have := HJ2.out; omega
                          case rel =>
                            refine ⟨j + 1, rfl, ⟨by have := HJ.out; have := HJ2.out; omega⟩, ⟨?_⟩, ⟨HBq.out.setCell (p := ⟨w2.heap.size, q, none⟩) (by have := HB.out.size; omega) _⟩, ⟨HBq2.out.setCell (p := ⟨w2.heap.size, q, none⟩) (Nat.le_refl _) _⟩, ⟨blk_far HPB.out (p := ⟨w2.heap.size, q, none⟩) (by show w3.heap.size ≠ w2.heap.size; have := HU3.out; have := blk_lt this; omega) _⟩, ⟨?_⟩⟩
                            · rw [take_next HP.out, List.all_append, HAL.out]
                              have := HQ.out
                              simp only [List.all_cons, List.all_nil, inN, Bool.and_true, Bool.true_and]
                              exact decide_eq_true (by omega)
                            · rw [take_next HP.out, bump_snoc]
                              exact nums_put HUB.out q _
                        · have d7 : decide ((i : Int) ≤ p) = true := decide_eq_true (by omega)
                          have HQ := Aside0.mk hp1
                          clear hp0 hp1
                          go_wp2_with fail
                          go_ret
                          refine ⟨?_, HBq.out⟩
                          rw [HF.out, ← HS.out, HDR.out, formL_stop _ _ _ _ (p := p) (by rw [HPS.out]; exact List.mem_of_getElem? HP.out) (by have := HQ.out; unfold inN; exact decide_eq_false (by omega))]
                          rfl
                    · have hje : j = 1 := by have := HJ.out; omega
                      subst hje
                      go_wp2_with fail
                      try rw [show wrap64 ((i : Int) + 1) = ((i + 1 : Nat) : Int) by have := HI2.out; have := HI.out; have := h2; unfold wrap64; omega]
                      go_roundg (ns.length - i - 1)
                      case measure => have := HI.out; have := HI2.out; omega
                      case rel => exact ⟨i + 1, bump u ([n.f1]), rfl, ⟨by have := HI.out; have := HI2.out; omega⟩, ⟨(bump_len _ _).trans HUL.out⟩, ⟨by rw [← HS.out, HDR.out]; exact (formL_step _ _ _ _ HRB.out (by rw [HPS.out]; exact HAL.out) (by rw [HPS.out])).symm⟩, HBq, HBq2, HUB⟩
                · have HPS := Aside0.mk (show partsN n = [] by unfold partsN; rw [if_neg (by omega), if_neg e12])
                  have d20 : (n.f0 == 10) = false := beq_eq_false_iff_ne.2 e10
                  have d21 : (n.f0 == 11) = false := beq_eq_false_iff_ne.2 e11
                  have d22 : (n.f0 == 12) = false := beq_eq_false_iff_ne.2 e12
                  clear e10 e11 e12
                  go_wp2_with fail
                  go_loopg [56] 0 (fun kq v56 wq => v56 = .int .i64 0 ∧ wq = w3)
                  case atStart => exact ⟨rfl, rfl⟩
                  case round =>
                    obtain ⟨rfl, rfl⟩ := hrel
                    go_wp2_with fail
                    try rw [show wrap64 ((i : Int) + 1) = ((i + 1 : Nat) : Int) by have := HI2.out; have := HI.out; have := h2; unfold wrap64; omega]
                    go_roundg (ns.length - i - 1)
                    case measure => have := HI.out; have := HI2.out; omega
                    case rel => exact ⟨i + 1, u, rfl, ⟨by have := HI.out; have := HI2.out; omega⟩, HUL, ⟨by rw [← HS.out, HDR.out]; exact (formL_step _ _ _ _ HRB.out (by rw [HPS.out]; rfl) (by rw [HPS.out]; rfl)).symm⟩, HB3, HB32, HU3⟩
        · have hie : i = ns.length := by have := HI.out; omega
          subst hie
          have d3 : decide ((ns.length : Int) < (ns.length : Int)) = false := decide_eq_false (by omega)
          have HUC := Aside0.mk (nums_take HU.out (m := ns.length - 1) (by have := HUL.out; omega) (by omega))
          go_wp2_with fail
          have hcc := containsU (some ⟨w2.heap.size, 0, none⟩) ns.length (u.take (ns.length - 1)) wr (by rw [List.length_take, HUL.out, Nat.min_eq_left (by omega)]; exact HUC.out) (by rw [List.length_take]; omega) (by rw [List.length_take]; omega)
          rw [List.length_take, HUL.out, Nat.min_eq_left (by omega)] at hcc
          refine hcc.mono ?_
          rintro e w5 ⟨rfl, hd⟩
          have HB5 := Aside0.mk (below_step HBr.out hd.below)
          clear hd
          go_wp2_with fail
          go_ret
          refine ⟨?_, HB5.out⟩
          rw [HF.out, ← HS.out]
          simp only [List.drop_length, formL]
          show _ = Ending.returned (Value.bool (true && onesB u))
          unfold onesB
          rw [HUL.out]
          rw [Bool.true_and]
          first | rfl | (rw [Bool.not_not]; rfl)
end Go.Proofs.YtehaodbheifokaaGreatDoor.P
