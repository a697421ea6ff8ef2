/- The plain law of RowsetCovers. -/
import Derived.Test.YtiaaicmkpjlplaaDoorPureGran
import Derived.Test.YtiaaicmkpjlplaaDoorPureWithinW
import Derived.Test.YtiaaicmkpjlplaaDoorPureInts
import Derived.Test.YtiaaicmkpjlplaaDoorPureAlive
import Derived.Test.YtiaaicmkpjlplaaDoorPureJoinAnd
import Derived.Test.YtiaaicmkpjlplaaDoorRead
import Derived.Test.YtiaaicmkpjlplaaDoorP8
namespace Go.Proofs.YtiaaicmkpjlplaaDoor.Pure
open Go Go.RowKit Go.Proofs.YtiaaicmkpjlplaaDoorW.PrintWords Go.Proofs.YtiaaicmkpjlplaaDoorW.PrintLast Go.Proofs.YtiaaicmkpjlplaaDoorW.PrintMore Go.Proofs.YtiaaicmkpjlplaaDoor.P
set_option linter.unusedVariables false

/-- Has granule q a row? -/
def hasG (W : List Int) (q : Nat) : Bool := (List.range 16).any (fun i => bitAt W (16 * q + i))
theorem hasG_iff {W : List Int} {q : Nat} : hasG W q = true ↔ ∃ x, x / 16 = q ∧ bitAt W x = true := by
  unfold hasG
  rw [List.any_eq_true]
  constructor
  · rintro ⟨i, hi, hb⟩
    rw [List.mem_range] at hi
    exact ⟨16 * q + i, by omega, hb⟩
  · rintro ⟨x, hx, hb⟩
    refine ⟨x - 16 * q, by rw [List.mem_range]; omega, ?_⟩
    rwa [show 16 * q + (x - 16 * q) = x by omega]
/-- The granules of the first j granules' rows, as rowset.Granules lists them. -/
def grs (W : List Int) (j : Nat) : List Int := ((List.range j).filter (hasG W)).map (fun q => ((q : Nat) : Int))
theorem grs_mem {W : List Int} {j : Nat} {g : Int} : g ∈ grs W j ↔ ∃ q : Nat, g = (q : Int) ∧ q < j ∧ hasG W q = true := by
  unfold grs
  rw [List.mem_map]
  constructor
  · rintro ⟨q, hq, e⟩
    rw [List.mem_filter, List.mem_range] at hq
    exact ⟨q, e.symm, hq.1, hq.2⟩
  · rintro ⟨q, e, h1, h2⟩
    exact ⟨q, by rw [List.mem_filter, List.mem_range]; exact ⟨h1, h2⟩, e.symm⟩
theorem gFold_same (q : Int) : ∀ (l : List (Fin 4096)) (acc : List Int), (∀ x ∈ l, ((x.val / 16 : Nat) : Int) = q) → l.foldl gStep (acc, q) = (acc, q)
  | [], _, _ => rfl
  | x :: l, acc, h => by
    rw [List.foldl_cons]
    have : gStep (acc, q) x = (acc, q) := by unfold gStep; rw [if_pos (h x (by simp))]
    rw [this]
    exact gFold_same q l acc (fun y hy => h y (by simp [hy]))
theorem gFold_new (q : Int) (l : List (Fin 4096)) (st : List Int × Int) (hs : st.2 ≠ q) (h : ∀ x ∈ l, ((x.val / 16 : Nat) : Int) = q) : l.foldl gStep st = if l = [] then st else (st.1 ++ [q], q) := by
  cases l with
  | nil => rfl
  | cons x l =>
    rw [if_neg (by simp), List.foldl_cons]
    have e := h x (by simp)
    have : gStep st x = (st.1 ++ [q], q) := by unfold gStep; rw [if_neg (by rw [e]; exact fun k => hs k.symm), e]
    rw [this]
    exact gFold_same q l _ (fun y hy => h y (by simp [hy]))
theorem gSt_grs (W : List Int) : ∀ j, 16 * j ≤ 4096 → (gSt (lst W (16 * j))).1 = grs W j ∧ (gSt (lst W (16 * j))).2 < (j : Int)
  | 0, _ => ⟨rfl, by show (-1 : Int) < 0; omega⟩
  | j + 1, hj => by
    obtain ⟨h1, h2⟩ := gSt_grs W j (by omega)
    have e : lst W (16 * (j + 1)) = lst W (16 * j) ++ (((List.range 16).map (16 * j + ·)).filter (bitAt W)).map (Fin.ofNat 4096) := by
      unfold lst rng
      rw [show 16 * (j + 1) = 16 * j + 16 by omega, List.range_add, List.filter_append, List.map_append]
    have hx : ∀ x ∈ (((List.range 16).map (16 * j + ·)).filter (bitAt W)).map (Fin.ofNat 4096), ((x.val / 16 : Nat) : Int) = (j : Int) := fun x hx => by
      rw [List.mem_map] at hx
      obtain ⟨y, hy, rfl⟩ := hx
      rw [List.mem_filter, List.mem_map] at hy
      obtain ⟨⟨i, hi, rfl⟩, _⟩ := hy
      rw [List.mem_range] at hi
      rw [Fin.val_ofNat, Nat.mod_eq_of_lt (by omega)]
      omega
    have hnil : (((List.range 16).map (16 * j + ·)).filter (bitAt W)).map (Fin.ofNat 4096) = [] ↔ hasG W j = false := by
      rw [List.map_eq_nil_iff, List.filter_eq_nil_iff]
      unfold hasG
      rw [List.any_eq_false]
      constructor
      · intro h i hi
        exact h _ (List.mem_map.2 ⟨i, hi, rfl⟩)
      · intro h x hx
        obtain ⟨i, hi, rfl⟩ := List.mem_map.1 hx
        exact h i hi
    have hg : grs W (j + 1) = grs W j ++ (if hasG W j = true then [((j : Nat) : Int)] else []) := by
      unfold grs
      rw [List.range_succ, List.filter_append, List.map_append, List.filter_cons]
      split <;> simp_all
    rw [e]
    unfold gSt at h1 h2 ⊢
    rw [List.foldl_append, gFold_new (j : Int) _ _ (by omega) hx, hg]
    by_cases h : hasG W j = true
    · rw [if_pos h, if_neg (fun k => by rw [hnil.1 k] at h; cases h)]
      exact ⟨by rw [h1], by show ((j : Nat) : Int) < _; omega⟩
    · rw [if_neg h, if_pos (hnil.2 (by simpa using h)), List.append_nil]
      exact ⟨h1, by omega⟩
theorem told_grs {N : Int} {W : List Int} (h : fm N W = true) : (gSt (told N W)).1 = grs W 256 := by
  have s := fm_iff.1 h
  have e : told N W = lst W (16 * 256) := by
    unfold told
    rw [if_pos h]
    refine (lst_none (c := 64 * W.length) (d := 16 * 256) ?_ (fun q h1 _ => s.2.2.2 q ?_)).symm
    · have := s.2.2.1
      have := s.2.1
      omega
    · have := s.2.2.1
      omega
  rw [e]
  exact (gSt_grs W 256 (by omega)).1
/-- What Within lays: the rows of the granules. -/
theorem fill_bit : ∀ (c a : Nat) (W : List Int), okws W → (a + c + 63) / 64 ≤ W.length → okws (fill W a c) ∧ ∀ x, bitAt (fill W a c) x = (bitAt W x || (decide (a ≤ x) && decide (x < a + c)))
  | 0, a, W, ok, h => ⟨ok, fun x => by
    have : (decide (a ≤ x) && decide (x < a + 0)) = false := by
      rw [Bool.and_eq_false_iff, decide_eq_false_iff_not, decide_eq_false_iff_not]
      omega
    rw [this, Bool.or_false]
    rfl⟩
  | c + 1, a, W, ok, h => by
    have hq : a / 64 < W.length := by omega
    have hw : okw (W.getD (a / 64) 0) := by
      rw [List.getD_eq_getElem?_getD, List.getElem?_eq_getElem hq]
      exact ok _ (List.getElem_mem hq)
    have ok1 : okws (setBit W a) := by
      refine set_okws ok ?_ _
      obtain ⟨e1, o1⟩ := one_shl (show a % 64 < 64 by omega)
      rw [e1]
      exact (or_nat hw o1).2
    obtain ⟨h1, h2⟩ := fill_bit c (a + 1) (setBit W a) ok1 (by rw [setBit_len]; omega)
    refine ⟨h1, fun x => ?_⟩
    rw [fill, h2, setBit, bitAt_or ok hq]
    by_cases e : x = a
    · subst e
      simp
    · have e2 : decide (a = x) = false := decide_eq_false (fun k => e k.symm)
      rw [e2, Bool.or_false]
      congr 1
      rw [← Bool.decide_and, ← Bool.decide_and, decide_eq_decide]
      omega
theorem within_bit (n : Nat) (hn : n ≤ 4096) : ∀ (gs W : List Int), okws W → W.length = (n + 63) / 64 → (∀ g ∈ gs, 0 ≤ g ∧ 16 * g < (n : Int)) →
    ∃ R, withinC n gs W = ((n : Int), R, 0) ∧ okws R ∧ R.length = W.length ∧ ∀ x, bitAt R x = (bitAt W x || (decide (x < n) && decide (((x / 16 : Nat) : Int) ∈ gs)))
  | [], W, ok, hl, _ => ⟨W, rfl, ok, rfl, fun x => by simp⟩
  | g :: gs, W, ok, hl, h => by
    obtain ⟨g0, g1⟩ := h g (by simp)
    obtain ⟨p, rfl⟩ := Int.eq_ofNat_of_zero_le g0
    have hc : 16 * p + (min n (16 * p + 16) - 16 * p) = min n (16 * p + 16) := by omega
    obtain ⟨f1, f2⟩ := fill_bit (min n (16 * p + 16) - 16 * p) (16 * p) W ok (by rw [hc, hl]; omega)
    obtain ⟨R, r1, r2, r3, r4⟩ := within_bit n hn gs (fill W (16 * p) (min n (16 * p + 16) - 16 * p)) f1 (by rw [fill_len]; exact hl) (fun y hy => h y (by simp [hy]))
    refine ⟨R, ?_, r2, by rw [r3, fill_len], fun x => ?_⟩
    · rw [withinC, if_neg (by omega), Int.toNat_natCast]
      exact r1
    · rw [r4, f2, hc, Bool.or_assoc]
      congr 1
      rw [← Bool.decide_and, ← Bool.decide_and, ← Bool.decide_or, ← Bool.decide_and, decide_eq_decide, List.mem_cons]
      by_cases hx : ((x / 16 : Nat) : Int) ∈ gs
      · simp only [hx, or_true, and_true]
        omega
      · simp only [hx, or_false, and_false]
        omega
theorem RowsetCovers : ∀ (x0_0 : Int) (x0_1 : List Int), ((Lit.int .i64 x0_0).wf = true) → (∀ x ∈ x0_1, (fun n => (Lit.int .u64 n).wf = true) x) → ((1) + (Read.sumBulk (fun _ => 1) x0_1 + 1) + 1) ≤ 1048576 → ∃ k, dragnetlaw09_RowsetCovers.f k x0_0 x0_1 = some true := by
  intro N Ws _ wf hsum
  rw [Read.sum_one] at hsum
  have ok := wf_okws wf
  have hl : Ws.length ≤ 100000000 := by omega
  have hgl : (gSt (told N Ws)).1.length ≤ 4096 := Nat.le_trans (gSt_len _) (told_len N Ws ok)
  obtain ⟨k0, h0⟩ := alive09
  obtain ⟨k1, h1⟩ := formedR_ev N Ws ok hl
  obtain ⟨k2, h2⟩ := within_ev N (gSt (told N Ws)).1 (by omega)
  dsimp only at h0 h1 h2
  by_cases h : fm N Ws = true
  · rw [h] at h1
    have s := fm_iff.1 h
    have hg := told_grs h
    obtain ⟨n, rfl⟩ := Int.eq_ofNat_of_zero_le s.1
    have l1 : Ws.length = (n + 63) / 64 := s.2.2.1
    have hn : n ≤ 4096 := by have := s.2.1; omega
    have hbe : ∀ x, n ≤ x → bitAt Ws x = false := fun x hx => s.2.2.2 x (by rw [Int.toNat_natCast]; exact hx)
    have hz := setAt_zero n
    have hgs : ∀ g ∈ grs Ws 256, 0 ≤ g ∧ 16 * g < (n : Int) := fun g hm => by
      obtain ⟨q, rfl, _, hq⟩ := grs_mem.1 hm
      obtain ⟨x, hx, hb⟩ := hasG_iff.1 hq
      have : x < n := by
        rcases Nat.lt_or_ge x n with h | h
        · exact h
        · rw [hbe x h] at hb; cases hb
      omega
    obtain ⟨R, r1, r2, r3, r4⟩ := within_bit n hn (grs Ws 256) (List.replicate ((n + 63) / 64) 0) hz.1 (by simp) hgs
    rw [if_neg (by omega), hg, Int.toNat_natCast, r1] at h2
    rw [List.length_replicate] at r3
    have rb : ∀ x, bitAt R x = (decide (x < n) && hasG Ws (x / 16)) := fun x => by
      rw [r4, hz.2.2]
      have e0 : (List.replicate n false).getD x false = false := by
        rw [List.getD_eq_getElem?_getD, List.getElem?_replicate]
        split <;> rfl
      rw [e0, Bool.and_false, Bool.false_or]
      by_cases hx : x < n
      · rw [decide_eq_true hx, Bool.true_and, Bool.true_and]
        rw [Bool.eq_iff_iff, decide_eq_true_eq, grs_mem]
        constructor
        · rintro ⟨q, e, _, hq⟩
          rwa [show x / 16 = q by omega]
        · intro hq
          exact ⟨x / 16, rfl, by omega, hq⟩
      · rw [decide_eq_false hx, Bool.false_and, Bool.false_and]
    have sR : IsSet (n : Int) R := ⟨by omega, by omega, by rw [Int.toNat_natCast]; omega, fun x hx => by rw [Int.toNat_natCast] at hx; rw [rb, decide_eq_false (by omega), Bool.false_and]⟩
    have fR := fm_iff.2 sR
    have both : joinW .and Ws R = Ws := by
      have e : Ws.length = R.length := by omega
      refine words_ext (joinW_ok joins_and ok r2) ok (by rw [joinW_len e]) (fun x _ => ?_)
      rw [joinW_bit joins_and ok r2 e, rb]
      cases hb : bitAt Ws x
      · rfl
      · have hx : x < n := by
          rcases Nat.lt_or_ge x n with h | h
          · exact h
          · rw [hbe x h] at hb; cases hb
        rw [decide_eq_true hx, hasG_iff.2 ⟨x, rfl, hb⟩]
        rfl
    have same : (gSt (told (n : Int) R)).1 = grs Ws 256 := by
      rw [told_grs fR]
      unfold grs
      congr 1
      refine List.filter_congr (fun q _ => ?_)
      rw [Bool.eq_iff_iff, hasG_iff, hasG_iff]
      constructor
      · rintro ⟨x, hx, hb⟩
        rw [rb, Bool.and_eq_true] at hb
        rw [hx] at hb
        exact hasG_iff.1 hb.2
      · rintro ⟨x, hx, hb⟩
        refine ⟨x, hx, ?_⟩
        have hxn : x < n := by
          rcases Nat.lt_or_ge x n with h | h
          · exact h
          · rw [hbe x h] at hb; cases hb
        rw [rb, decide_eq_true hxn, hx, hasG_iff.2 ⟨x, hx, hb⟩]
        rfl
    have hRl : R.length ≤ 100000000 := by omega
    obtain ⟨k3, h3⟩ := andW_ev (n : Int) Ws (n : Int) R ok r2 hl hRl
    dsimp only at h3
    have ej : joinC .and (n : Int) Ws (n : Int) R = ((n : Int), Ws, 0) := by
      unfold joinC
      rw [if_pos ⟨h, fR, rfl⟩, both]
    rw [ej] at h3
    obtain ⟨k4, h4⟩ := same09 (n : Int) (n : Int) Ws Ws hl
    rw [decide_eq_true (by exact ⟨rfl, rfl⟩)] at h4
    rw [hg] at hgl
    obtain ⟨k5, h5⟩ := ints09 (grs Ws 256) (grs Ws 256) (by omega)
    rw [decide_eq_true rfl] at h5
    dsimp only at h4 h5
    refine ⟨k0 + k1 + k2 + k3 + k4 + k5, ?_⟩
    unfold dragnetlaw09_RowsetCovers.f
    rw [h0 _ (by omega), Option.bind_some, if_pos rfl, granP_f _ Ws ok hl, hg, Option.bind_some, h2 _ (by omega), Option.bind_some, h1 _ (by omega), Option.bind_some, if_pos rfl, h3 _ (by omega), Option.bind_some, if_pos rfl, if_pos rfl, h4 _ (by omega), Option.bind_some, if_pos rfl, granP_f _ R r2 hRl, same, Option.bind_some, h5 _ (by omega), Option.bind_some]
  · rw [Bool.not_eq_true] at h
    rw [h] at h1
    have e : (gSt (told N Ws)).1 = [] := by
      unfold told
      rw [if_neg (by rw [h]; simp)]
      rfl
    rw [e] at h2
    refine ⟨k0 + k1 + k2, ?_⟩
    unfold dragnetlaw09_RowsetCovers.f
    rw [h0 _ (by omega), Option.bind_some, if_pos rfl, granP_f N Ws ok hl, e, Option.bind_some, h2 _ (by omega), Option.bind_some, h1 _ (by omega), Option.bind_some, if_neg (by simp)]
    rfl
end Go.Proofs.YtiaaicmkpjlplaaDoor.Pure
