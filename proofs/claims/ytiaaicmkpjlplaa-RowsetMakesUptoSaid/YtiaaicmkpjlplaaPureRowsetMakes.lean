/- The plain law of RowsetMakes. -/
import Derived.Test.YtiaaicmkpjlplaaPureWithin
import Derived.Test.YtiaaicmkpjlplaaRead
import Derived.Test.YtiaaicmkpjlplaaP7
import Derived.Test.YtiaaicmkpjlplaaP2
namespace Go.Proofs.Ytiaaicmkpjlplaa.Pure
open Go Go.RowKit Go.Proofs.YtiaaicmkpjlplaaW.PrintWords Go.Proofs.YtiaaicmkpjlplaaW.PrintLast Go.Proofs.YtiaaicmkpjlplaaW.PrintMore Go.Proofs.Ytiaaicmkpjlplaa.P
set_option linter.unusedVariables false

theorem alive09 : Ev (fun k => dragnetlaw09_alive.f k) true := Ev.of (fun k => dragnetlaw09_alive.mono k) (show dragnetlaw09_alive.f 10 = some true by decide +kernel)
theorem ofC_short (n : Int) : ∀ (l W : List Int), W.length ≤ 64 → (ofC n l W).2.1.length ≤ 64
  | [], W, h => h
  | x :: l, W, h => by
    rw [ofC]
    split
    · exact Nat.zero_le _
    · exact ofC_short n l _ (by rw [setBit_len]; exact h)
theorem withinC_short (n : Nat) : ∀ (l W : List Int), W.length ≤ 64 → (withinC n l W).2.1.length ≤ 64
  | [], W, h => h
  | x :: l, W, h => by
    rw [withinC]
    split
    · exact Nat.zero_le _
    · exact withinC_short n l _ (by rw [fill_len]; exact h)
/-- Both Full answer alike. -/
theorem full_both (n : Int) : ∃ r : Int × List Int × Int, r.2.1.length ≤ 64 ∧ Ev (fun k => rowset_Full.f k n) r ∧ Ev (fun k => dragnetref09_Full.f k n) r := by
  by_cases h : n < 0 ∨ 4096 < n
  · refine ⟨(0, [], 1), Nat.zero_le _, Ev.congr (f := fun _ => some (0, [], 1)) (fun k => ?_) (Ev.now _), ?_⟩
    · unfold rowset_Full.f
      rw [empty_f, if_pos h, Option.bind_some, if_neg (by simp)]
    · have ho := ofRef_ev n [] (by simp)
      rw [if_pos h] at ho
      refine Ev.call0 ho (Ev.now _) (fun k hk => ?_)
      unfold dragnetref09_Full.f
      rw [hk, Option.bind_some, if_neg (by simp)]
  · obtain ⟨m, rfl⟩ := Int.eq_ofNat_of_zero_le (show 0 ≤ n by omega)
    obtain ⟨R, h1, h2⟩ := full_ev m (by omega)
    obtain ⟨S, h3, h4⟩ := fullRef_ev m (by omega)
    have e : (List.replicate m true).length = m := List.length_replicate
    obtain rfl : R = S := setAt_same (l := List.replicate m true) (by rw [e]; exact h1) (by rw [e]; exact h3)
    exact ⟨_, by show R.length ≤ 64; rw [h1.2.1]; omega, h2, h4⟩
theorem RowsetMakes : ∀ (x0 : Int) (x1 : List Int), ((Lit.int .i64 x0).wf = true) → (∀ x ∈ x1, (fun n => (Lit.int .i64 n).wf = true) x) → (1) + (Read.sumBulk (fun _ => 1) x1 + 1) ≤ 1048576 → ∃ k, dragnetlaw09_RowsetMakes.f k x0 x1 = some true := by
  intro n l _ _ hsum
  have hl : l.length ≤ 1048576 := by
    have : ∀ l : List Int, Read.sumBulk (fun _ => 1) l = l.length := by
      intro l
      induction l with
      | nil => rfl
      | cons x l ih => simp only [Read.sumBulk, List.length_cons] at ih ⊢; omega
    rw [this] at hsum
    omega
  have z : (List.replicate ((n.toNat + 63) / 64) (0 : Int)).length ≤ 64 ∨ (n < 0 ∨ 4096 < n) := by
    rw [List.length_replicate]
    omega
  have h1 := of_ev n l (by omega)
  have h2 := ofRef_ev n l (by omega)
  have h5 := within_ev n l (by omega)
  have h6 := withinR_ev n l (by omega)
  obtain ⟨f, hf, h3, h4⟩ := full_both n
  generalize he : (if n < 0 ∨ 4096 < n then ((0 : Int), ([] : List Int), (1 : Int)) else ofC n l (List.replicate ((n.toNat + 63) / 64) 0)) = o at h1 h2
  generalize he2 : (if n < 0 ∨ 4096 < n then ((0 : Int), ([] : List Int), (1 : Int)) else withinC n.toNat l (List.replicate ((n.toNat + 63) / 64) 0)) = v at h5 h6
  have ho : o.2.1.length ≤ 64 := by
    rw [← he]
    split
    · exact Nat.zero_le _
    · exact ofC_short _ _ _ (by omega)
  have hv : v.2.1.length ≤ 64 := by
    rw [← he2]
    split
    · exact Nat.zero_le _
    · exact withinC_short _ _ _ (by omega)
  have s1 := same09 o.1 o.1 o.2.1 o.2.1 (by omega)
  have s2 := same09 f.1 f.1 f.2.1 f.2.1 (by omega)
  have s3 := same09 v.1 v.1 v.2.1 v.2.1 (by omega)
  have s4 := ints09 l l (by omega)
  rw [decide_eq_true (by exact ⟨rfl, rfl⟩)] at s1 s2 s3
  rw [decide_eq_true rfl] at s4
  obtain ⟨k0, h0⟩ := alive09
  obtain ⟨k1, h1⟩ := h1
  obtain ⟨k2, h2⟩ := h2
  obtain ⟨k3, h3⟩ := h3
  obtain ⟨k4, h4⟩ := h4
  obtain ⟨k5, h5⟩ := h5
  obtain ⟨k6, h6⟩ := h6
  obtain ⟨k7, s1⟩ := s1
  obtain ⟨k8, s2⟩ := s2
  obtain ⟨k9, s3⟩ := s3
  obtain ⟨k10, s4⟩ := s4
  refine ⟨k0 + k1 + k2 + k3 + k4 + k5 + k6 + k7 + k8 + k9 + k10, ?_⟩
  generalize hk : k0 + k1 + k2 + k3 + k4 + k5 + k6 + k7 + k8 + k9 + k10 = k
  dsimp only at h0 h1 h2 h3 h4 h5 h6 s1 s2 s3 s4
  unfold dragnetlaw09_RowsetMakes.f
  rw [h0 k (by omega), Option.bind_some, if_pos rfl, Option.bind_some, if_pos (by simp; omega), Option.bind_some, List.nil_append, h1 k (by omega), Option.bind_some, h2 k (by omega), Option.bind_some, h3 k (by omega), Option.bind_some, h4 k (by omega), Option.bind_some, h5 k (by omega), Option.bind_some, h6 k (by omega), Option.bind_some,
    s1 k (by omega), Option.bind_some, if_pos rfl, if_pos rfl, s2 k (by omega), Option.bind_some, if_pos rfl, if_pos rfl, s3 k (by omega), Option.bind_some, if_pos rfl, if_pos rfl, s4 k (by omega), Option.bind_some]
end Go.Proofs.Ytiaaicmkpjlplaa.Pure
