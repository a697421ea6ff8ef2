/- What rowset.All tells: the bits of a row of words, rising. -/
import Derived.Test.YtiaaicmkpjlplaaDoorPureBits
import Derived.Test.YtiaaicmkpjlplaaDoorTz
namespace Go.Proofs.YtiaaicmkpjlplaaDoor.Pure
open Go Go.RowKit Go.Proofs.YtiaaicmkpjlplaaDoorW.PrintWords Go.Proofs.YtiaaicmkpjlplaaDoorW.PrintLast Go.Proofs.YtiaaicmkpjlplaaDoorW.PrintMore Go.Proofs.YtiaaicmkpjlplaaDoor.P
set_option linter.unusedVariables false

/-- The bits below c, rising. -/
def rng (W : List Int) (c : Nat) : List Nat := (List.range c).filter (bitAt W)
def lst (W : List Int) (c : Nat) : List (Fin 4096) := (rng W c).map (Fin.ofNat 4096)
theorem ofNat_eq {p : Nat} {y : Fin 4096} (h : y.val = p) : Fin.ofNat 4096 p = y := by
  subst h
  apply Fin.ext
  rw [Fin.val_ofNat, Nat.mod_eq_of_lt y.isLt]
theorem rng_none {W : List Int} {c : Nat} : ∀ {d : Nat}, c ≤ d → (∀ q, c ≤ q → q < d → bitAt W q = false) → rng W d = rng W c
  | 0, h, _ => by
    obtain rfl : c = 0 := by omega
    rfl
  | d + 1, h, k => by
    by_cases e : c = d + 1
    · rw [e]
    · have ih := rng_none (W := W) (c := c) (d := d) (by omega) (fun q h1 h2 => k q h1 (by omega))
      rw [← ih]
      unfold rng
      rw [List.range_succ, List.filter_append, List.filter_cons, k d (by omega) (by omega)]
      simp
theorem rng_step {W : List Int} {c p : Nat} (h : c ≤ p) (hb : bitAt W p = true) (k : ∀ q, c ≤ q → q < p → bitAt W q = false) : rng W (p + 1) = rng W c ++ [p] := by
  rw [← rng_none h k]
  unfold rng
  rw [List.range_succ, List.filter_append, List.filter_cons, hb]
  simp
theorem lst_none {W : List Int} {c d : Nat} (h : c ≤ d) (k : ∀ q, c ≤ q → q < d → bitAt W q = false) : lst W d = lst W c := by unfold lst; rw [rng_none h k]
theorem lst_step {W : List Int} {c p : Nat} (h : c ≤ p) (hb : bitAt W p = true) (k : ∀ q, c ≤ q → q < p → bitAt W q = false) : lst W (p + 1) = lst W c ++ [Fin.ofNat 4096 p] := by
  unfold lst
  rw [rng_step h hb k, List.map_append]
  rfl
theorem rng_len (W : List Int) (c : Nat) : (rng W c).length ≤ c := by
  unfold rng
  have := List.length_filter_le (bitAt W) (List.range c)
  rwa [List.length_range] at this
theorem lst_len (W : List Int) (c : Nat) : (lst W c).length ≤ c := by
  unfold lst
  rw [List.length_map]
  exact rng_len W c
/-- What is left of word j: its bits from c on. -/
def LeftW (W : List Int) (j c x : Nat) : Prop := x < 2 ^ 64 ∧ 64 * j ≤ c ∧ c ≤ 64 * (j + 1) ∧ ∀ i, i < 64 → x.testBit i = (decide (c ≤ 64 * j + i) && bitAt W (64 * j + i))
theorem left_start {W : List Int} (hW : okws W) (j : Nat) (hj : j < W.length) : LeftW W j (64 * j) (W.getD j 0).toNat := by
  have hw : okw (W.getD j 0) := by
    rw [List.getD_eq_getElem?_getD, List.getElem?_eq_getElem hj]
    exact hW _ (List.getElem_mem hj)
  refine ⟨nat_lt hw, Nat.le_refl _, by omega, fun i hi => ?_⟩
  rw [decide_eq_true (by omega), Bool.true_and]
  unfold bitAt
  rw [show (64 * j + i) / 64 = j by omega, show (64 * j + i) % 64 = i by omega]
theorem left_end {W : List Int} {j c : Nat} (h : LeftW W j c 0) : lst W (64 * (j + 1)) = lst W c := by
  refine lst_none h.2.2.1 (fun q h1 h2 => ?_)
  have := h.2.2.2 (q - 64 * j) (by omega)
  have := h.2.1
  rw [show 64 * j + (q - 64 * j) = q by omega, decide_eq_true h1, Bool.true_and] at *
  rw [Nat.zero_testBit] at *
  simp_all
theorem left_next {W : List Int} {j c t m : Nat} (h : LeftW W j c (2 ^ t * (2 * m + 1))) : lst W (64 * j + t + 1) = lst W c ++ [Fin.ofNat 4096 (64 * j + t)] ∧ LeftW W j (64 * j + t + 1) (2 ^ t * (2 * m + 1) &&& (2 ^ t * (2 * m + 1) - 1)) ∧ t < 64 ∧ c ≤ 64 * j + t := by
  have ht := t_lt h.1
  obtain ⟨h1, h2, h3, h4⟩ := h
  have at_ := h4 t ht
  rw [x_at] at at_
  have hc : c ≤ 64 * j + t := by
    cases e : decide (c ≤ 64 * j + t)
    · rw [e] at at_; simp at at_
    · exact of_decide_eq_true e
  have hb : bitAt W (64 * j + t) = true := by
    rw [decide_eq_true hc] at at_
    simpa using at_.symm
  have none_ : ∀ q, c ≤ q → q < 64 * j + t → bitAt W q = false := fun q q1 q2 => by
    have := h4 (q - 64 * j) (by omega)
    rw [x_low (by omega), show 64 * j + (q - 64 * j) = q by omega, decide_eq_true q1] at this
    simpa using this.symm
  refine ⟨lst_step hc hb none_, ⟨Nat.lt_of_le_of_lt Nat.and_le_left h1, by omega, by omega, fun i hi => ?_⟩, ht, hc⟩
  rw [clear_low, h4 i hi]
  by_cases a : i ≤ t
  · rw [decide_eq_false (show ¬ 64 * j + t + 1 ≤ 64 * j + i by omega), Bool.false_and]
    by_cases b : i = t
    · subst b; simp
    · by_cases q : c ≤ 64 * j + i
      · rw [none_ _ q (by omega)]; simp
      · rw [decide_eq_false q]; simp
  · rw [decide_eq_true (show 64 * j + t + 1 ≤ 64 * j + i by omega), decide_eq_true (show c ≤ 64 * j + i by omega), decide_eq_true (show i ≠ t by omega)]
    simp
theorem enc_val (j t : Nat) : ((64 * j + t : Nat) : Int) = (j : Int) * 64 + (t : Int) := by omega
theorem and_sub {x : Nat} (h0 : 0 < x) (h : x < 2 ^ 64) : Go.bits .and .u64 (x : Int) ((x : Int) - 1) = ((x &&& (x - 1) : Nat) : Int) := by
  rw [show (x : Int) - 1 = ((x - 1 : Nat) : Int) by omega]
  exact (bits_nat .u64 64 (by decide) (fun n h0 h1 => wrapU ⟨h0, by omega⟩) x (x - 1) h (by omega)).1
end Go.Proofs.YtiaaicmkpjlplaaDoor.Pure
