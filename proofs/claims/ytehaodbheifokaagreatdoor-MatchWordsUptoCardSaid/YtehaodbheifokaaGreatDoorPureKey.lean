/- Keys: what the program's IsKey and the document's compute. -/
import Derived.Test.YtehaodbheifokaaGreatDoorPureEv
import Derived.Test.YtehaodbheifokaaGreatDoorP1
namespace Go.Proofs.YtehaodbheifokaaGreatDoor.Pure
open Go Go.RowKit Go.Proofs.YtehaodbheifokaaGreatDoorW.PrintWords Go.Proofs.YtehaodbheifokaaGreatDoorW.PrintLast Go.Proofs.YtehaodbheifokaaGreatDoorW.PrintMore Go.Proofs.YtehaodbheifokaaGreatDoor.P
set_option linter.unusedVariables false
set_option linter.unusedSimpArgs false

def inK (c : Int) : Bool := decide (97 ≤ c ∧ c ≤ 122) || decide (65 ≤ c ∧ c ≤ 90) || decide (48 ≤ c ∧ c ≤ 57) || decide (c = 95) || decide (c = 46) || decide (c = 45)
theorem inK_true {c : Int} : inK c = true ↔ (97 ≤ c ∧ c ≤ 122) ∨ (65 ≤ c ∧ c ≤ 90) ∨ (48 ≤ c ∧ c ≤ 57) ∨ c = 95 ∨ c = 46 ∨ c = 45 := by
  unfold inK
  simp only [Bool.or_eq_true, decide_eq_true_eq]
  omega
theorem inKey_f (k : Nat) (c : Int) : field_inKey.f (k + 2) c = some (inK c) := by
  have h : field_inKey.f (k + 2) c = some true ∧ inK c = true ∨ field_inKey.f (k + 2) c = some false ∧ ¬ inK c = true := by
    rw [inK_true]
    simp only [field_inKey.f, field_inKey.j0, field_inKey.j1, decide_eq_true_eq]
    repeat' split
    all_goals first | (left; exact ⟨rfl, by omega⟩) | (right; exact ⟨rfl, by omega⟩) | skip
    all_goals (by_cases e : c = 45 <;> simp_all <;> omega)
  rcases h with ⟨h1, h2⟩ | ⟨h1, h2⟩
  · rw [h1, h2]
  · rw [h1, Bool.eq_false_iff.mpr h2]
/-- All bytes from place i on may stand in a key. -/
def keyFrom (s : ByteArray) (i : Nat) : Bool := (List.range' i (s.size - i)).all fun (j : Nat) => inK (bt s (j : Int))
def keyB (s : ByteArray) : Bool := keyFrom s 0 && decide (1 ≤ s.size ∧ s.size ≤ 32)
theorem keyFrom_end (s : ByteArray) : keyFrom s s.size = true := by unfold keyFrom; rw [Nat.sub_self]; rfl
theorem keyFrom_step (s : ByteArray) (i : Nat) (h : i < s.size) : keyFrom s i = (inK (bt s (i : Int)) && keyFrom s (i + 1)) := by
  unfold keyFrom
  obtain ⟨d, hd⟩ : ∃ d, s.size - i = d + 1 := ⟨s.size - i - 1, by omega⟩
  rw [hd, show s.size - (i + 1) = d by omega, List.range'_succ, List.all_cons]
theorem isKey_loop (s : ByteArray) (hs : s.size ≤ 9223372036854775807) : ∀ (d i k : Nat), i + d = s.size → d + 3 ≤ k → field_IsKey.l0 k s (s.size : Int) (i : Int) = some (keyFrom s i && decide (1 ≤ s.size ∧ s.size ≤ 32))
  | 0, i, k, hi, hk => by
    obtain rfl : i = s.size := by omega
    obtain ⟨k, rfl⟩ : ∃ m, k = m + 1 := ⟨k - 1, by omega⟩
    rw [keyFrom_end, Bool.true_and]
    simp only [field_IsKey.l0]
    rw [if_neg (by omega)]
    by_cases h0 : (s.size : Int) > 0
    · rw [if_pos h0]
      congr 1
      exact decide_eq_decide.2 (by omega)
    · rw [if_neg h0]
      congr 1
      exact (decide_eq_false (by omega)).symm
  | d + 1, i, k, hi, hk => by
    obtain ⟨m, rfl⟩ : ∃ m, k = (m + 2) + 1 := ⟨k - 3, by omega⟩
    have ih := isKey_loop s hs d (i + 1) (m + 2) (by omega) (by omega)
    rw [keyFrom_step s i (by omega)]
    cases hc : inK (bt s (i : Int)) with
    | false =>
      simp only [field_IsKey.l0]
      rw [if_pos (by omega), if_pos (by omega), if_pos (by omega), inKey_f, hc]
      rfl
    | true =>
      rw [Bool.true_and]
      simp only [field_IsKey.l0]
      rw [if_pos (by omega), if_pos (by omega), if_pos (by omega), inKey_f, hc, Option.bind_some, if_pos rfl, wrap_in (by omega) (by omega), show ((i : Int) + 1) = ((i + 1 : Nat) : Int) by omega]
      exact ih
theorem isKey_f (s : ByteArray) (hs : s.size ≤ 9223372036854775807) (k : Nat) (hk : s.size + 3 ≤ k) : field_IsKey.f k s = some (keyB s) := isKey_loop s hs s.size 0 k (by omega) hk
theorem isKey_ev (s : ByteArray) (hs : s.size ≤ 9223372036854775807) : Ev (fun k => field_IsKey.f k s) (keyB s) := ⟨s.size + 3, fun k hk => isKey_f s hs k hk⟩
end Go.Proofs.YtehaodbheifokaaGreatDoor.Pure
