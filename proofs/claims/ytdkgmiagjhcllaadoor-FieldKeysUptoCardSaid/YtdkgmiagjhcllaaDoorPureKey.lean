/- Keys: what the program's IsKey and the document's compute. -/
import Derived.Test.YtdkgmiagjhcllaaDoorDec
import Derived.Test.YtdkgmiagjhcllaaDoorP1
namespace Go.Proofs.YtdkgmiagjhcllaaDoor.Pure
open Go Go.RowKit Go.Proofs.YtdkgmiagjhcllaaDoorW.PrintWords Go.Proofs.YtdkgmiagjhcllaaDoorW.PrintLast Go.Proofs.YtdkgmiagjhcllaaDoorW.PrintMore Go.Proofs.YtdkgmiagjhcllaaDoor.P
set_option linter.unusedVariables false
set_option linter.unusedSimpArgs false

theorem Ev.call {α β : Type} {g f : Nat → Option β} {c : Nat → Option α} {a : α} {r : β} (hc : Ev c a) (hk : Ev f r) (h : ∀ k, c k = some a → g (k + 1) = f k) : Ev g r := by
  obtain ⟨K, hc⟩ := hc
  obtain ⟨K', hk⟩ := hk
  refine ⟨max K K' + 1, fun n hn => ?_⟩
  obtain ⟨m, rfl⟩ : ∃ m, n = m + 1 := ⟨n - 1, by omega⟩
  rw [h m (hc m (by omega))]
  exact hk m (by omega)
theorem Ev.call0 {α β : Type} {g f : Nat → Option β} {c : Nat → Option α} {a : α} {r : β} (hc : Ev c a) (hk : Ev f r) (h : ∀ k, c k = some a → g k = f k) : Ev g r := by
  obtain ⟨K, hc⟩ := hc
  obtain ⟨K', hk⟩ := hk
  refine ⟨max K K', fun n hn => ?_⟩
  rw [h n (hc n (by omega))]
  exact hk n (by omega)
theorem wrap_in {x : Int} (h0 : -9223372036854775808 ≤ x) (h1 : x ≤ 9223372036854775807) : wrap64 x = x := by unfold wrap64; omega
def inK (c : Int) : Bool := decide (97 ≤ c ∧ c ≤ 122) || decide (65 ≤ c ∧ c ≤ 90) || decide (48 ≤ c ∧ c ≤ 57) || decide (c = 95) || decide (c = 46) || decide (c = 45)
theorem inK_true {c : Int} : inK c = true ↔ (97 ≤ c ∧ c ≤ 122) ∨ (65 ≤ c ∧ c ≤ 90) ∨ (48 ≤ c ∧ c ≤ 57) ∨ c = 95 ∨ c = 46 ∨ c = 45 := by
  unfold inK
  simp only [Bool.or_eq_true, decide_eq_true_eq]
  omega
theorem inKey_f (k : Nat) (c : Int) : field_inKey.f (k + 2) c = some (inK c) := by
  have h : field_inKey.f (k + 2) c = some true ∧ inK c = true ∨ field_inKey.f (k + 2) c = some false ∧ ¬ inK c = true := by
    rw [inK_true]
    simp only [field_inKey.f, field_inKey.j0, field_inKey.j1, decide_eq_true_eq]
    repeat' split
    all_goals first | (left; exact ⟨rfl, by omega⟩) | (right; exact ⟨rfl, by omega⟩) | skip
    all_goals (by_cases e : c = 45 <;> simp_all <;> omega)
  rcases h with ⟨h1, h2⟩ | ⟨h1, h2⟩
  · rw [h1, h2]
  · rw [h1, Bool.eq_false_iff.mpr h2]
/-- All bytes from place i on may stand in a key. -/
def keyFrom (s : ByteArray) (i : Nat) : Bool := (List.range' i (s.size - i)).all fun (j : Nat) => inK (bt s (j : Int))
def keyB (s : ByteArray) : Bool := keyFrom s 0 && decide (1 ≤ s.size ∧ s.size ≤ 32)
theorem keyFrom_end (s : ByteArray) : keyFrom s s.size = true := by unfold keyFrom; rw [Nat.sub_self]; rfl
theorem keyFrom_step (s : ByteArray) (i : Nat) (h : i < s.size) : keyFrom s i = (inK (bt s (i : Int)) && keyFrom s (i + 1)) := by
  unfold keyFrom
  obtain ⟨d, hd⟩ : ∃ d, s.size - i = d + 1 := ⟨s.size - i - 1, by omega⟩
  rw [hd, show s.size - (i + 1) = d by omega, List.range'_succ, List.all_cons]
theorem isKey_loop (s : ByteArray) (hs : s.size ≤ 9223372036854775807) : ∀ (d i : Nat), i + d = s.size → Ev (fun k => field_IsKey.l0 k s (s.size : Int) (i : Int)) (keyFrom s i && decide (1 ≤ s.size ∧ s.size ≤ 32))
  | 0, i, hi => by
    obtain rfl : i = s.size := by omega
    rw [keyFrom_end, Bool.true_and]
    refine Ev.step (f := fun _ => some (decide (1 ≤ s.size ∧ s.size ≤ 32))) (fun k => ?_) (Ev.now _)
    simp only [field_IsKey.l0]
    rw [if_neg (by omega)]
    by_cases h0 : (s.size : Int) > 0
    · rw [if_pos h0]
      congr 1
      exact decide_eq_decide.2 (by omega)
    · rw [if_neg h0]
      congr 1
      exact (decide_eq_false (by omega)).symm
  | d + 1, i, hi => by
    have ih := isKey_loop s hs d (i + 1) (by omega)
    rw [keyFrom_step s i (by omega)]
    cases hc : inK (bt s (i : Int)) with
    | false =>
      refine ⟨3, fun k hk => ?_⟩
      obtain ⟨m, rfl⟩ : ∃ m, k = (m + 2) + 1 := ⟨k - 3, by omega⟩
      simp only [field_IsKey.l0]
      rw [if_pos (by omega), if_pos (by omega), if_pos (by omega), inKey_f, hc]
      rfl
    | true =>
      rw [Bool.true_and]
      obtain ⟨K, hK⟩ := ih
      dsimp only at hK
      refine ⟨K + 3, fun k hk => ?_⟩
      obtain ⟨m, rfl⟩ : ∃ m, k = (m + 2) + 1 := ⟨k - 3, by omega⟩
      simp only [field_IsKey.l0]
      rw [if_pos (by omega), if_pos (by omega), if_pos (by omega), inKey_f, hc, Option.bind_some, if_pos rfl, wrap_in (by omega) (by omega), show ((i : Int) + 1) = ((i + 1 : Nat) : Int) by omega]
      exact hK (m + 2) (by omega)
theorem isKey_ev (s : ByteArray) (hs : s.size ≤ 9223372036854775807) : Ev (fun k => field_IsKey.f k s) (keyB s) := isKey_loop s hs s.size 0 (by omega)
/-- One step of the document's loop. -/
theorem refKey_step (k : Nat) (s : ByteArray) (i : Nat) (h : i < s.size) (hs : s.size ≤ 9223372036854775807) : dragnetref08_IsKey.l0 (k + 1) s (i : Int) = if inK (bt s (i : Int)) = true then dragnetref08_IsKey.l0 k s ((i + 1 : Nat) : Int) else some false := by
  simp only [dragnetref08_IsKey.l0]
  rw [if_pos (by omega), if_pos (by omega), wrap_in (by omega) (by omega), show ((i : Int) + 1) = ((i + 1 : Nat) : Int) by omega]
  have hk := @inK_true (bt s (i : Int))
  generalize dragnetref08_IsKey.l0 k s ((i + 1 : Nat) : Int) = R
  generalize bt s (i : Int) = c at *
  by_cases hc : inK c = true
  · rw [if_pos hc]
    rw [hc] at hk
    have h2 := hk.1 rfl
    clear hk hc
    repeat' split
    all_goals first | rfl | (exfalso; omega)
  · rw [if_neg hc]
    have h2 : ¬ ((97 ≤ c ∧ c ≤ 122) ∨ (65 ≤ c ∧ c ≤ 90) ∨ (48 ≤ c ∧ c ≤ 57) ∨ c = 95 ∨ c = 46 ∨ c = 45) := fun e => hc (hk.2 e)
    clear hk hc
    repeat' split
    all_goals first | rfl | (exfalso; omega)
theorem refKey_loop (s : ByteArray) (hs : s.size ≤ 9223372036854775807) : ∀ (d i : Nat), i + d = s.size → Ev (fun k => dragnetref08_IsKey.l0 k s (i : Int)) (keyFrom s i && decide (1 ≤ s.size ∧ s.size ≤ 32))
  | 0, i, hi => by
    obtain rfl : i = s.size := by omega
    rw [keyFrom_end, Bool.true_and]
    refine Ev.step (f := fun _ => some (decide (1 ≤ s.size ∧ s.size ≤ 32))) (fun k => ?_) (Ev.now _)
    simp only [dragnetref08_IsKey.l0]
    rw [if_neg (by omega)]
    by_cases h0 : (s.size : Int) ≥ 1
    · rw [if_pos h0]
      congr 1
      exact decide_eq_decide.2 (by omega)
    · rw [if_neg h0]
      congr 1
      exact (decide_eq_false (by omega)).symm
  | d + 1, i, hi => by
    have ih := refKey_loop s hs d (i + 1) (by omega)
    rw [keyFrom_step s i (by omega)]
    cases hc : inK (bt s (i : Int)) with
    | false =>
      refine Ev.step (f := fun _ => some false) (fun k => ?_) (Ev.now _)
      rw [refKey_step k s i (by omega) hs, hc]
      rfl
    | true =>
      rw [Bool.true_and]
      refine Ev.step (fun k => ?_) ih
      rw [refKey_step k s i (by omega) hs, hc, if_pos rfl]
theorem refKey_ev (s : ByteArray) (hs : s.size ≤ 9223372036854775807) : Ev (fun k => dragnetref08_IsKey.f k s) (keyB s) := refKey_loop s hs s.size 0 (by omega)
end Go.Proofs.YtdkgmiagjhcllaaDoor.Pure
