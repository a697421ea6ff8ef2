/- What field.words tells: the pieces of a line between blanks. -/
import Derived.Test.YtehaodbheifokaaGreatDoorDec
import Derived.Shelf.Bytes.SlTrim
namespace Go.Proofs.YtehaodbheifokaaGreatDoor.P
open Go

def blankL : List UInt8 := [9, 10, 13, 32]
def isB (b : UInt8) : Bool := blankL.contains b
def nB (b : UInt8) : Bool := !isB b
def wordsF : Nat → List UInt8 → List ByteArray
  | 0, _ => []
  | f + 1, l => if l.dropWhile isB = [] then [] else ⟨((l.dropWhile isB).takeWhile nB).toArray⟩ :: wordsF f ((l.dropWhile isB).dropWhile nB)
def wordsL (l : List UInt8) : List ByteArray := wordsF l.length l
theorem dropWhile_le {α : Type} (p : α → Bool) (l : List α) : (l.dropWhile p).length ≤ l.length := (List.dropWhile_suffix p).length_le
theorem take_drop {α : Type} (p : α → Bool) (l : List α) : (l.takeWhile p).length + (l.dropWhile p).length = l.length := by rw [← List.length_append, List.takeWhile_append_dropWhile]
/-- What is left of a line that is not blank begins with no blank. -/
theorem first_word {l : List UInt8} (h : l.dropWhile isB ≠ []) : 1 ≤ ((l.dropWhile isB).takeWhile nB).length := by
  cases e : l.dropWhile isB with
  | nil => exact absurd e h
  | cons x t =>
    have hx : isB x = false := by
      have := List.head_dropWhile_not isB (l := l) h
      simp only [e, List.head_cons] at this
      exact this
    simp [List.takeWhile, nB, hx]
theorem rest_lt {l : List UInt8} (h : l.dropWhile isB ≠ []) : ((l.dropWhile isB).dropWhile nB).length < l.length := by
  have h1 := first_word h
  have h2 := take_drop nB (l.dropWhile isB)
  have h3 := dropWhile_le isB l
  omega
theorem wordsF_eq : ∀ (f g : Nat) (l : List UInt8), l.length ≤ f → l.length ≤ g → wordsF f l = wordsF g l
  | 0, 0, _, _, _ => rfl
  | 0, g + 1, l, h, _ => by
    obtain rfl : l = [] := List.length_eq_zero_iff.1 (by omega)
    simp [wordsF]
  | f + 1, 0, l, _, h => by
    obtain rfl : l = [] := List.length_eq_zero_iff.1 (by omega)
    simp [wordsF]
  | f + 1, g + 1, l, h1, h2 => by
    rw [wordsF, wordsF]
    by_cases h : l.dropWhile isB = []
    · rw [if_pos h, if_pos h]
    · rw [if_neg h, if_neg h]
      have := rest_lt h
      rw [wordsF_eq f g _ (by omega) (by omega)]
theorem wordsL_none {l : List UInt8} (h : l.dropWhile isB = []) : wordsL l = [] := by
  unfold wordsL
  cases l with
  | nil => rfl
  | cons x t => rw [List.length_cons, wordsF, if_pos h]
theorem wordsL_some {l : List UInt8} (h : l.dropWhile isB ≠ []) : wordsL l = ⟨((l.dropWhile isB).takeWhile nB).toArray⟩ :: wordsL ((l.dropWhile isB).dropWhile nB) := by
  unfold wordsL
  have := rest_lt h
  cases l with
  | nil => exact absurd rfl h
  | cons x t =>
    rw [List.length_cons, wordsF, if_neg h, wordsF_eq _ _ _ _ (Nat.le_refl _)]
    rw [List.length_cons] at this
    omega
theorem wordsF_len : ∀ (f : Nat) (l : List UInt8), (wordsF f l).length ≤ f
  | 0, _ => Nat.le_refl _
  | f + 1, l => by
    rw [wordsF]
    split
    · exact Nat.zero_le _
    · have := wordsF_len f ((l.dropWhile isB).dropWhile nB)
      simp only [List.length_cons]
      omega
theorem wordsL_len (l : List UInt8) : (wordsL l).length ≤ l.length := wordsF_len _ _
theorem takeWhile_getElem {α : Type} {p : α → Bool} : ∀ {l : List α} {j : Nat}, j < (l.takeWhile p).length → ∃ x, l[j]? = some x ∧ p x = true
  | [], j, h => by simp at h
  | x :: t, j, h => by
    cases hp : p x with
    | false => simp [List.takeWhile, hp] at h
    | true =>
      rw [List.takeWhile, hp] at h
      cases j with
      | zero => exact ⟨x, rfl, hp⟩
      | succ j =>
        obtain ⟨y, h1, h2⟩ := takeWhile_getElem (l := t) (j := j) (by simpa using h)
        exact ⟨y, h1, h2⟩
theorem takeWhile_stop {α : Type} {p : α → Bool} : ∀ {l : List α}, (l.takeWhile p).length < l.length → ∃ x, l[(l.takeWhile p).length]? = some x ∧ p x = false
  | [], h => by simp at h
  | x :: t, h => by
    cases hp : p x with
    | false => exact ⟨x, by simp [List.takeWhile, hp], hp⟩
    | true =>
      rw [List.takeWhile, hp] at h ⊢
      obtain ⟨y, h1, h2⟩ := takeWhile_stop (p := p) (l := t) (by simpa using h)
      exact ⟨y, by simpa using h1, h2⟩
theorem noAny_word (t : List UInt8) : Lib.NoAny t blankL (t.takeWhile nB).length := fun j b hj hb => by
  obtain ⟨x, h1, h2⟩ := takeWhile_getElem hj
  rw [h1] at hb
  cases hb
  simp only [nB, isB] at h2
  simpa using h2
/-- bytes.IndexAny where a blank stands, and where none. -/
theorem indexAny_word {t : List UInt8} (h : (t.takeWhile nB).length < t.length) : Lib.indexAny t blankL = (t.takeWhile nB).length := by
  obtain ⟨x, h1, h2⟩ := takeWhile_stop h
  exact Lib.indexAny_hit (noAny_word t) h1 (by simp only [nB, isB] at h2; simpa using h2)
theorem indexAny_noword {t : List UInt8} (h : (t.takeWhile nB).length = t.length) : Lib.indexAny t blankL = -1 := Lib.indexAny_none (h ▸ noAny_word t)
theorem takeWhile_take {α : Type} (p : α → Bool) (l : List α) : l.takeWhile p = l.take (l.takeWhile p).length := List.prefix_iff_eq_take.1 (List.takeWhile_prefix p)
theorem dropWhile_drop' {α : Type} (p : α → Bool) (l : List α) : l.dropWhile p = l.drop (l.takeWhile p).length := by
  have h := List.drop_left (l₁ := l.takeWhile p) (l₂ := l.dropWhile p)
  rw [List.takeWhile_append_dropWhile] at h
  exact h.symm
theorem trim_eq (l : List UInt8) : Lib.trimLeftS l blankL = l.dropWhile isB := rfl
end Go.Proofs.YtehaodbheifokaaGreatDoor.P
