/- How long a code is: where each stretch of eight, or of two, stands in the table. -/
import Derived.Test.YtnmidkjmflnolaaPureShortEnc
namespace Go.Proofs.Ytnmidkjmflnolaa.Pure
open Go Go.RowKit Go.Proofs.YtnmidkjmflnolaaW.PrintWords Go.Proofs.Ytnmidkjmflnolaa.P Go.Proofs.Ytnmidkjmflnolaa.Maps
set_option linter.unusedVariables false

def win (B : List Int) (p n : Nat) : ByteArray := strOfNums ((B.drop p).take n)
theorem win_size {B : List Int} {p n : Nat} (h : p + n ≤ B.length) : (win B p n).size = n := by
  unfold win
  rw [str_size, List.length_take, List.length_drop]
  omega
theorem win_extract (B : List Int) (a n : Nat) : (strOfNums B).extract a (a + n) = win B a n := by
  apply text_ext
  unfold win
  rw [extract_list, str_list, str_list, ← List.map_take, ← List.map_drop, List.drop_take]
  congr 2
  omega
theorem codesF_in {l : List ByteArray} {X : ByteArray} (h : X ∈ l) : ∃ c, codesF l l.length X = some c := by
  cases hc : codesF l l.length X with
  | some c => exact ⟨c, rfl⟩
  | none =>
    obtain ⟨m, hm, e⟩ := List.mem_iff_getElem.1 h
    exact absurd e (codesF_none l l.length (Nat.le_refl _) X hc m hm hm)
theorem len8 {l : List ByteArray} (hf : formedB l = true) (B : List Int) (hB : okbs B) (hn : B.length ≤ 1000) (hW : ∀ k, 8 * k + 8 ≤ B.length → win B (8 * k) 8 ∈ l) :
    ∀ (d k r : Nat) (out : List Int), 8 * k + 8 * d + r = B.length → out.length + d ≤ 1000 → ∃ res, Ev (fun n => sym_Encode.l0 n l out (strOfNums (B.drop (8 * k)))) (res, 0) ∧ res.length ≤ out.length + d + 2 * r := by
  intro d
  induction d with
  | zero =>
    intro k r out hd ho
    obtain ⟨codes, h1, _, h3, _⟩ := enc_dec hf B hB (by omega) (B.length + 1) (8 * k) out (by omega) (by omega) (by omega)
    exact ⟨out ++ codes, h1, by rw [List.length_append]; omega⟩
  | succ d ih =>
    intro k r out hd ho
    have hsz : (strOfNums (B.drop (8 * k))).size = B.length - 8 * k := by rw [str_size, List.length_drop]
    obtain ⟨c, hc⟩ := codesF_in (hW k (by omega))
    have ht : tryN l (strOfNums (B.drop (8 * k))) (min 8 (strOfNums (B.drop (8 * k))).size) = some (8, c) := by
      rw [show min 8 (strOfNums (B.drop (8 * k))).size = 8 by omega]
      exact tryN_some (by omega) (by rw [str_take]; exact hc)
    obtain ⟨res, h1, h2⟩ := ih (k + 1) r (out ++ [c % 256]) (by omega) (by rw [List.length_append, List.length_singleton]; omega)
    rw [List.length_append, List.length_singleton] at h2
    refine ⟨res, Ev.step (fun n => ?_) h1, by omega⟩
    rw [sym_Encode.step, if_pos (by omega), ht]
    simp only [afterTry]
    rw [if_pos (by omega), str_drop, List.drop_drop]
    rfl
theorem len2 {l : List ByteArray} (hf : formedB l = true) (B : List Int) (hB : okbs B) (hn : B.length ≤ 1000) (hW : ∀ p, p + 2 ≤ B.length → win B p 2 ∈ l) :
    ∀ (n p : Nat) (out : List Int), B.length - p < n → p ≤ B.length → out.length + (B.length - p) ≤ 1000 → ∃ res, Ev (fun n => sym_Encode.l0 n l out (strOfNums (B.drop p))) (res, 0) ∧ res.length ≤ out.length + (if B.length - p = 1 then 2 else B.length - p) := by
  intro n
  induction n with
  | zero => intro p out h; omega
  | succ n ih =>
    intro p out hlt hle ho
    by_cases h2 : B.length - p < 2
    · obtain ⟨codes, h1, _, h3, _⟩ := enc_dec hf B hB (by omega) (B.length + 1) p out (by omega) (by omega) (by omega)
      refine ⟨out ++ codes, h1, ?_⟩
      rw [List.length_append]
      split <;> omega
    · have hsz : (strOfNums (B.drop p)).size = B.length - p := by rw [str_size, List.length_drop]
      obtain ⟨c2, hc2⟩ := codesF_in (hW p (by omega))
      rcases tryN_spec l (strOfNums (B.drop p)) (min 8 (strOfNums (B.drop p)).size) with ⟨_, hno⟩ | ⟨m, c, ht, hm2, hm8, _, _⟩
      · have := hno 2 (by omega) (by omega)
        rw [str_take] at this
        rw [show strOfNums ((B.drop p).take 2) = win B p 2 from rfl, hc2] at this
        cases this
      · obtain ⟨res, h1, h3⟩ := ih (p + m) (out ++ [c % 256]) (by omega) (by omega) (by rw [List.length_append, List.length_singleton]; omega)
        rw [List.length_append, List.length_singleton] at h3
        refine ⟨res, Ev.step (fun n => ?_) h1, ?_⟩
        · rw [sym_Encode.step, if_pos (by omega), ht]
          simp only [afterTry]
          rw [if_pos (by omega), str_drop, List.drop_drop]
        · rw [if_neg (by omega)]
          split at h3 <;> omega
end Go.Proofs.Ytnmidkjmflnolaa.Pure
