/- Decimal numerals: written, and read again. -/
import Derived.Lib.AtoiAllCases
import Derived.Lib.ItoaMem
namespace Go.Proofs.YtdkgmiagjhcllaaDoor.Pure
open Go Go.Lib
set_option linter.unusedVariables false
set_option linter.unusedSimpArgs false

def digB (b : UInt8) : Bool := decide (48 ≤ b.toNat) && decide (b.toNat ≤ 57)
theorem digB_iff {b : UInt8} : digB b = true ↔ 48 ≤ b.toNat ∧ b.toNat ≤ 57 := by unfold digB; simp
def valD (acc : Nat) (l : List UInt8) : Nat := l.foldl (fun a b => a * 10 + (b.toNat - 48)) acc
theorem valD_nil (acc : Nat) : valD acc [] = acc := rfl
theorem valD_cons (acc : Nat) (b : UInt8) (l : List UInt8) : valD acc (b :: l) = valD (acc * 10 + (b.toNat - 48)) l := by unfold valD; rw [List.foldl_cons]
theorem valD_snoc (acc : Nat) (l : List UInt8) (b : UInt8) : valD acc (l ++ [b]) = valD acc l * 10 + (b.toNat - 48) := by unfold valD; rw [List.foldl_append]; rfl
theorem valD_ge (l : List UInt8) : ∀ acc : Nat, acc ≤ valD acc l := by
  induction l with
  | nil => intro acc; exact Nat.le_refl _
  | cons b l ih =>
    intro acc
    have h := ih (acc * 10 + (b.toNat - 48))
    rw [valD_cons]
    omega
theorem all_two {c : UInt8} {r : List UInt8} (h : (c :: r).all digB = true) : digB c = true ∧ r.all digB = true := by
  rw [List.all_cons] at h
  exact Bool.and_eq_true_iff.1 h
theorem ofNat_dig {d : Nat} (h : d < 10) : (UInt8.ofNat (48 + d)).toNat = 48 + d := by rw [UInt8.toNat_ofNat']; omega
theorem dd_small {u : Nat} (h : u < 10) : decDigits u = [UInt8.ofNat (48 + u)] := by rw [decDigits, dif_pos h]
theorem dd_big {u : Nat} (h : ¬ u < 10) : decDigits u = decDigits (u / 10) ++ [UInt8.ofNat (48 + u % 10)] := by rw [decDigits, dif_neg h]
theorem dd_ind {P : Nat → Prop} (h1 : ∀ u, u < 10 → P u) (h2 : ∀ u, ¬ u < 10 → P (u / 10) → P u) (u : Nat) : P u := by
  induction u using Nat.strongRecOn with
  | _ u ih =>
    by_cases h : u < 10
    · exact h1 u h
    · exact h2 u h (ih (u / 10) (by omega))
theorem dd_all (u : Nat) : (decDigits u).all digB = true := by
  refine dd_ind (P := fun u => (decDigits u).all digB = true) (fun u h => ?_) (fun u h ih => ?_) u
  · rw [dd_small h]
    simp only [List.all_cons, List.all_nil, Bool.and_true]
    rw [digB_iff, ofNat_dig h]
    omega
  · rw [dd_big h, List.all_append, ih]
    simp only [List.all_cons, List.all_nil, Bool.and_true, Bool.true_and]
    rw [digB_iff, ofNat_dig (by omega)]
    omega
theorem dd_val (u : Nat) : valD 0 (decDigits u) = u := by
  refine dd_ind (P := fun u => valD 0 (decDigits u) = u) (fun u h => ?_) (fun u h ih => ?_) u
  · rw [dd_small h, valD_cons, valD_nil, ofNat_dig h]
    omega
  · rw [dd_big h, valD_snoc, ih, ofNat_dig (by omega)]
    omega
theorem dd_ne (u : Nat) : decDigits u ≠ [] := by
  by_cases h : u < 10
  · rw [dd_small h]; simp
  · rw [dd_big h]; simp
theorem dd_head (u : Nat) (h0 : 1 ≤ u) : ∃ c r, decDigits u = c :: r ∧ 49 ≤ c.toNat := by
  refine dd_ind (P := fun u => 1 ≤ u → ∃ c r, decDigits u = c :: r ∧ 49 ≤ c.toNat) (fun u h h0 => ?_) (fun u h ih h0 => ?_) u h0
  · exact ⟨_, [], dd_small h, by rw [ofNat_dig h]; omega⟩
  · obtain ⟨c, r, e, hc⟩ := ih (by omega)
    exact ⟨c, r ++ [UInt8.ofNat (48 + u % 10)], by rw [dd_big h, e]; rfl, hc⟩
theorem dd_len (k : Nat) : ∀ u, u < 10 ^ (k + 1) → (decDigits u).length ≤ k + 1 := by
  induction k with
  | zero => intro u h; rw [dd_small (by simpa using h)]; simp
  | succ k ih =>
    intro u h
    by_cases hu : u < 10
    · rw [dd_small hu]; simp
    · rw [dd_big hu, List.length_append]
      have := ih (u / 10) (by rw [Nat.pow_succ] at h; omega)
      simp only [List.length_singleton]
      omega
/-- Digits without a leading 0 are the numeral of their value. -/
theorem dd_of : ∀ (n : Nat) (l : List UInt8), l.length = n → l ≠ [] → l.all digB = true → (∀ c r, l = c :: r → c.toNat = 48 → r = []) → decDigits (valD 0 l) = l
  | 0, l, hn, hne, _, _ => absurd (List.length_eq_zero_iff.1 hn) hne
  | n + 1, l, hn, hne, hall, hz => by
    obtain ⟨xs, d, rfl⟩ : ∃ xs d, l = xs ++ [d] := ⟨l.dropLast, l.getLast hne, (List.dropLast_concat_getLast hne).symm⟩
    rw [List.all_append] at hall
    obtain ⟨hx, hd⟩ := Bool.and_eq_true_iff.1 hall
    simp only [List.all_cons, List.all_nil, Bool.and_true] at hd
    have hd2 := digB_iff.1 hd
    have hdd : UInt8.ofNat (48 + (d.toNat - 48)) = d := by
      rw [show 48 + (d.toNat - 48) = d.toNat by omega]
      exact UInt8.ofNat_toNat
    rw [valD_snoc]
    cases xs with
    | nil =>
      rw [valD_nil, dd_small (by omega), show 0 * 10 + (d.toNat - 48) = d.toNat - 48 by omega, hdd]
      rfl
    | cons c r =>
      have hc : c.toNat ≠ 48 := fun e => by
        have := hz c (r ++ [d]) rfl e
        simp at this
      have hcd := digB_iff.1 (all_two hx).1
      have hv : 1 ≤ valD 0 (c :: r) := by
        rw [valD_cons]
        have := valD_ge r (0 * 10 + (c.toNat - 48))
        omega
      have ih := dd_of n (c :: r) (by simp at hn ⊢; omega) (by simp) hx (fun c' r' e h48 => by cases e; exact absurd h48 hc)
      rw [dd_big (by omega), show (valD 0 (c :: r) * 10 + (d.toNat - 48)) / 10 = valD 0 (c :: r) by omega, show (valD 0 (c :: r) * 10 + (d.toNat - 48)) % 10 = d.toNat - 48 by omega, hdd, ih]
theorem parse_val : ∀ (l : List UInt8) (acc : Nat), l.all digB = true → valD acc l < 18446744073709551616 → parseUint10 acc l = .ok (valD acc l)
  | [], acc, _, _ => rfl
  | c :: r, acc, h, hv => by
    obtain ⟨hc, hr⟩ := all_two h
    have hcd := digB_iff.1 hc
    rw [valD_cons] at hv ⊢
    have := valD_ge r (acc * 10 + (c.toNat - 48))
    rw [parseUint10, if_pos hcd, if_neg (by omega), if_neg (by omega)]
    exact parse_val r _ hr hv
theorem parseMag_dd (u : Nat) (h : u < 18446744073709551616) : parseMag (decDigits u) = .ok u := by
  unfold parseMag
  rw [if_neg (dd_ne u), parse_val _ _ (dd_all u) (by rw [dd_val]; exact h), dd_val]
/-- What is written is read again. -/
theorem atoi_itoa (v : Int) (h0 : -9223372036854775808 ≤ v) (h1 : v ≤ 9223372036854775807) : atoiAll (itoa v) = .ok v := by
  unfold itoa
  by_cases hv : v < 0
  · rw [if_pos hv, atoiAll_minus, parseMag_dd _ (by omega)]
    simp only [signed]
    rw [if_neg (by omega)]
    congr 1
    omega
  · rw [if_neg hv]
    have hn : ∃ c r, decDigits v.toNat = c :: r ∧ digB c = true := by
      cases e : decDigits v.toNat with
      | nil => exact absurd e (dd_ne _)
      | cons c r =>
        have := dd_all v.toNat
        rw [e] at this
        exact ⟨c, r, rfl, (all_two this).1⟩
    obtain ⟨c, r, e, hc⟩ := hn
    have hcd := digB_iff.1 hc
    have hm := parseMag_dd v.toNat (by omega)
    rw [e] at hm ⊢
    rw [atoiAll_plain c r (by omega) (by omega), hm]
    simp only [signless]
    rw [if_neg (by omega)]
    congr 1
    omega
/-- What the document reads of a text. -/
def refMag (least : Bool) (ds : List UInt8) : Int × Bool :=
  if ds.length < 1 ∨ 19 < ds.length ∨ (ds.head?.map (·.toNat) = some 48 ∧ (1 < ds.length ∨ least = true)) then (0, false)
  else if ds.all digB = true then
    (if least = true then (if 9223372036854775808 < valD 0 ds then (0, false) else (-(valD 0 ds : Int), true)) else (if 9223372036854775807 < valD 0 ds then (0, false) else ((valD 0 ds : Int), true)))
  else (0, false)
def refNum (t : List UInt8) : Int × Bool :=
  match t with
  | [] => refMag false []
  | c :: r => if c.toNat = 45 then refMag true r else refMag false (c :: r)
theorem refMag_no {least : Bool} {ds : List UInt8} {x : Int} (h : refMag least ds = (x, false)) : x = 0 := by
  unfold refMag at h
  repeat' split at h
  all_goals first | (cases h; rfl) | (injection h with h1 h2; cases h2)
theorem refMag_yes {least : Bool} {ds : List UInt8} {x : Int} (h : refMag least ds = (x, true)) : decDigits (valD 0 ds) = ds ∧ x = (if least = true then -(valD 0 ds : Int) else (valD 0 ds : Int)) ∧ valD 0 ds ≤ 9223372036854775808 ∧ (least = false → valD 0 ds ≤ 9223372036854775807) ∧ (least = true → 1 ≤ valD 0 ds) := by
  unfold refMag at h
  split at h
  · injection h with _ h2; cases h2
  · rename_i hg
    simp only [not_or, not_and] at hg
    obtain ⟨g1, g2, g3⟩ := hg
    split at h
    case isFalse => injection h with _ h2; cases h2
    case isTrue hall =>
      have hne : ds ≠ [] := fun e => by subst e; simp at g1
      have hdd := dd_of ds.length ds rfl hne hall (fun c r e h48 => by
        subst e
        have := g3 (by simp [h48])
        cases r with
        | nil => rfl
        | cons _ _ => simp at this)
      have hz : least = true → 1 ≤ valD 0 ds := fun hl => by
        cases ds with
        | nil => exact absurd rfl hne
        | cons c r =>
          have hc : c.toNat ≠ 48 := fun e => by
            have := g3 (by simp [e])
            exact this.2 hl
          have hcd := digB_iff.1 (all_two hall).1
          rw [valD_cons]
          have := valD_ge r (0 * 10 + (c.toNat - 48))
          omega
      cases least with
      | true =>
        simp only [if_true] at h
        split at h
        · injection h with _ h2; cases h2
        · injection h with h1 _
          exact ⟨hdd, h1.symm, by omega, (fun e => by cases e), hz⟩
      | false =>
        simp only [Bool.false_eq_true, if_false] at h
        split at h
        · injection h with _ h2; cases h2
        · injection h with h1 _
          exact ⟨hdd, h1.symm, by omega, (fun _ => by omega), hz⟩
/-- What the document reads as a number is that number's text. -/
theorem refNum_yes {t : List UInt8} {x : Int} (h : refNum t = (x, true)) : t = itoa x ∧ -9223372036854775808 ≤ x ∧ x ≤ 9223372036854775807 := by
  unfold refNum at h
  split at h
  · obtain ⟨_, _, _, _, _⟩ := refMag_yes h
    simp [refMag] at h
  · rename_i c r
    split at h
    · rename_i hc
      obtain ⟨h1, h2, h3, _, h5⟩ := refMag_yes h
      simp only [if_true] at h2
      have h6 := h5 rfl
      refine ⟨?_, by omega, by omega⟩
      rw [h2, itoa_neg _ h6, h1]
      congr 1
      exact UInt8.toNat_inj.1 hc
    · obtain ⟨h1, h2, _, h4, _⟩ := refMag_yes h
      simp only [Bool.false_eq_true, if_false] at h2
      have h6 := h4 rfl
      refine ⟨?_, by omega, by omega⟩
      rw [h2, itoa_nonneg, h1]
theorem refMag_dd (least : Bool) (u : Nat) (h : u ≤ 9223372036854775808) (h1 : least = false → u ≤ 9223372036854775807) (h2 : least = true → 1 ≤ u) : refMag least (decDigits u) = (if least = true then -(u : Int) else (u : Int), true) := by
  unfold refMag
  have hl := dd_len 18 u (by omega)
  have hne : 1 ≤ (decDigits u).length := by
    have := dd_ne u
    cases e : decDigits u with
    | nil => exact absurd e this
    | cons _ _ => simp
  have hh : ¬ ((decDigits u).head?.map (·.toNat) = some 48 ∧ (1 < (decDigits u).length ∨ least = true)) := by
    rintro ⟨e1, e2⟩
    by_cases hu : 1 ≤ u
    · obtain ⟨c, r, e, hc⟩ := dd_head u hu
      rw [e] at e1
      simp at e1
      omega
    · obtain rfl : u = 0 := by omega
      rcases e2 with e2 | e2
      · rw [dd_small (by omega)] at e2
        simp at e2
      · have := h2 e2
        omega
  rw [if_neg (by
    rintro (e | e | e)
    · omega
    · omega
    · exact hh e), if_pos (dd_all u), dd_val]
  cases least with
  | true => simp only [if_true]; rw [if_neg (by omega)]
  | false => have := h1 rfl; simp only [Bool.false_eq_true, if_false]; rw [if_neg (by omega)]
theorem refNum_itoa (v : Int) (h0 : -9223372036854775808 ≤ v) (h1 : v ≤ 9223372036854775807) : refNum (itoa v) = (v, true) := by
  unfold itoa
  by_cases hv : v < 0
  · rw [if_pos hv]
    show (if (45 : UInt8).toNat = 45 then refMag true (decDigits v.natAbs) else refMag false (45 :: decDigits v.natAbs)) = _
    rw [if_pos (by decide), refMag_dd true v.natAbs (by omega) (fun e => by cases e) (fun _ => by omega)]
    simp only [if_true]
    congr 1
    omega
  · rw [if_neg hv]
    cases e : decDigits v.toNat with
    | nil => exact absurd e (dd_ne _)
    | cons c r =>
      have ha := dd_all v.toNat
      rw [e] at ha
      have hcd := digB_iff.1 (all_two ha).1
      show (if c.toNat = 45 then refMag true r else refMag false (c :: r)) = _
      rw [if_neg (by omega), ← e, refMag_dd false v.toNat (by omega) (fun _ => by omega) (fun e => by cases e)]
      simp only [Bool.false_eq_true, if_false]
      congr 1
      omega
end Go.Proofs.YtdkgmiagjhcllaaDoor.Pure
