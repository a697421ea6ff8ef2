/- The reference's Of computes what rowset.Of does. -/
import Derived.Test.YtiaaicmkpjlplaaPureSet
namespace Go.Proofs.Ytiaaicmkpjlplaa.Pure
open Go Go.RowKit Go.Proofs.YtiaaicmkpjlplaaW.PrintWords Go.Proofs.YtiaaicmkpjlplaaW.PrintLast Go.Proofs.YtiaaicmkpjlplaaW.PrintMore Go.Proofs.Ytiaaicmkpjlplaa.P
set_option linter.unusedVariables false

/-- The words W hold just what l says. -/
theorem ofC_sets (n : Int) : ∀ (rows : List Int) (W : List Int) (L : List Bool), L.length = n.toNat → SetAt L L.length W →
    (∃ R M, ofC n rows W = (n, R, 0) ∧ M.length = n.toNat ∧ SetAt M M.length R ∧ (∀ x ∈ rows, 0 ≤ x ∧ x < n) ∧ M = rows.foldl (fun M x => M.set x.toNat true) L) ∨ (ofC n rows W = (0, [], 1) ∧ ∃ x ∈ rows, x < 0 ∨ n ≤ x)
  | [], W, L, hL, hW => .inl ⟨W, L, rfl, hL, hW, fun x hx => by simp at hx, rfl⟩
  | x :: rows, W, L, hL, hW => by
    rw [ofC]
    by_cases h : x < 0 ∨ n ≤ x
    · rw [if_pos h]
      exact .inr ⟨rfl, x, by simp, h⟩
    · rw [if_neg h]
      have hq : x.toNat / 64 < W.length := by rw [hW.2.1, hL]; omega
      have hs : SetAt (L.set x.toNat true) (L.set x.toNat true).length (setBit W x.toNat) := by
        refine ⟨set_okws hW.1 ?_ _, by rw [setBit_len, List.length_set]; exact hW.2.1, fun j => ?_⟩
        · obtain ⟨e1, o1⟩ := one_shl (show x.toNat % 64 < 64 by omega)
          rw [e1]
          refine (or_nat ?_ o1).2
          rw [List.getD_eq_getElem?_getD, List.getElem?_eq_getElem hq]
          exact hW.1 _ (List.getElem_mem hq)
        · rw [setBit, bitAt_or hW.1 hq, hW.2.2, List.length_set]
          by_cases e : x.toNat = j
          · subst e
            simp [List.getD, show x.toNat < L.length by omega]
          · simp [List.getD, List.getElem?_set_ne e, e]
      rcases ofC_sets n rows (setBit W x.toNat) (L.set x.toNat true) (by rw [List.length_set]; exact hL) hs with ⟨R, M, h1, h2, h3, h4, h5⟩ | ⟨h1, y, h2, h3⟩
      · exact .inl ⟨R, M, h1, h2, h3, fun y hy => by
          rcases List.mem_cons.1 hy with rfl | hy
          · omega
          · exact h4 y hy, h5⟩
      · exact .inr ⟨h1, y, by simp [h2], h3⟩
theorem setAt_same {l : List Bool} {R S : List Int} (h1 : SetAt l l.length R) (h2 : SetAt l l.length S) : R = S :=
  words_ext h1.1 h2.1 (by rw [h1.2.1, h2.2.1]) (fun i _ => by rw [h1.2.2, h2.2.2])
theorem setAt_zero (n : Nat) : SetAt (List.replicate n false) (List.replicate n false).length (List.replicate ((n + 63) / 64) 0) := by
  refine ⟨fun x hx => ?_, by simp, fun j => ?_⟩
  · rw [List.mem_replicate] at hx
    rw [hx.2]
    exact ⟨by omega, by omega⟩
  · unfold bitAt
    simp only [List.getD_eq_getElem?_getD, List.getElem?_replicate]
    split <;> split <;> simp
theorem setBit_at {L : List Bool} {W : List Int} (hW : SetAt L L.length W) {x : Nat} (hx : x < L.length) : SetAt (L.set x true) (L.set x true).length (setBit W x) := by
  have hq : x / 64 < W.length := by rw [hW.2.1]; omega
  refine ⟨set_okws hW.1 ?_ _, by rw [setBit_len, List.length_set]; exact hW.2.1, fun j => ?_⟩
  · obtain ⟨e1, o1⟩ := one_shl (show x % 64 < 64 by omega)
    rw [e1]
    refine (or_nat ?_ o1).2
    rw [List.getD_eq_getElem?_getD, List.getElem?_eq_getElem hq]
    exact hW.1 _ (List.getElem_mem hq)
  · rw [setBit, bitAt_or hW.1 hq, hW.2.2, List.length_set]
    by_cases e : x = j
    · subst e
      simp [List.getD, hx]
    · simp [List.getD, List.getElem?_set_ne e, e]
theorem ofRef_loop (n : Int) (h0 : 0 ≤ n) (h1 : n ≤ 4096) (l : List Int) (hl : l.length ≤ 100000000) : ∀ (d i : Nat) (W : List Int) (L : List Bool), i + d = l.length → L.length = n.toNat → SetAt L L.length W →
    Ev (fun k => dragnetref09_Of.l0 k n l L (i : Int)) (ofC n (l.drop i) W)
  | 0, i, W, L, hi, hL, hW => by
    rw [List.drop_of_length_le (by omega)]
    obtain ⟨R, hR, hev⟩ := set_ev L (by omega)
    obtain rfl := setAt_same hW hR
    refine Ev.call hev (Ev.now _) (fun k hk => ?_)
    simp only [dragnetref09_Of.l0]
    rw [if_neg (by omega), hk, Option.bind_some, ofC, show ((L.length : Nat) : Int) = n by omega]
  | d + 1, i, W, L, hi, hL, hW => by
    have hil : i < l.length := by omega
    have hr : rd l (i : Int) = l[i] := by simp [rd, List.getD, hil]
    rw [List.drop_eq_getElem_cons hil, ofC]
    by_cases hx : l[i] < 0 ∨ n ≤ l[i]
    · rw [if_pos hx]
      refine Ev.step (f := fun _ => some (0, [], 1)) (fun k => ?_) (Ev.now _)
      simp only [dragnetref09_Of.l0, hr]
      rw [if_pos (by omega), if_pos (by omega)]
      by_cases h2 : l[i] < 0
      · rw [if_pos h2]
      · rw [if_neg h2, if_pos (by omega)]
    · rw [if_neg hx]
      obtain ⟨x, hxe⟩ := Int.eq_ofNat_of_zero_le (show 0 ≤ l[i] by omega)
      rw [hxe, Int.toNat_natCast]
      have ih := ofRef_loop n h0 h1 l hl d (i + 1) (setBit W x) (L.set x true) (by omega) (by rw [List.length_set]; exact hL) (setBit_at hW (by omega))
      refine Ev.step (fun k => ?_) ih
      simp only [dragnetref09_Of.l0, hr, hxe]
      rw [if_pos (by omega), if_pos (by omega), if_neg (by omega), if_neg (by omega), if_pos (by omega), if_pos (by omega), wrap_in (by omega) (by omega), Int.toNat_natCast]
      rfl
theorem ofRef_ev (n : Int) (l : List Int) (hl : l.length ≤ 100000000) : Ev (fun k => dragnetref09_Of.f k n l) (if n < 0 ∨ 4096 < n then (0, [], 1) else ofC n l (List.replicate ((n.toNat + 63) / 64) 0)) := by
  have bad : Ev (fun k => dragnetref09_Of.j0 k n l true) (0, [], 1) := Ev.step (f := fun _ => some (0, [], 1)) (fun k => by simp only [dragnetref09_Of.j0]; rw [if_pos trivial]) (Ev.now _)
  by_cases h : n < 0
  · rw [if_pos (Or.inl h)]
    refine Ev.congr (fun k => ?_) bad
    unfold dragnetref09_Of.f
    rw [if_pos h]
  · by_cases h2 : n > 4096
    · rw [if_pos (Or.inr h2)]
      refine Ev.congr (fun k => ?_) bad
      unfold dragnetref09_Of.f
      rw [if_neg h, decide_eq_true h2]
    · rw [if_neg (by omega)]
      have hk := ofRef_loop n (by omega) (by omega) l hl l.length 0 (List.replicate ((n.toNat + 63) / 64) 0) (List.replicate n.toNat false) (by omega) (by simp) (setAt_zero n.toNat)
      refine Ev.congr (f := fun k => dragnetref09_Of.j0 k n l false) (fun k => ?_) (Ev.step (fun k => ?_) hk)
      · unfold dragnetref09_Of.f
        rw [if_neg h, decide_eq_false h2]
      · simp only [dragnetref09_Of.j0]
        rw [if_neg (by simp), if_pos (by omega), if_pos (by omega)]
        rfl
end Go.Proofs.Ytiaaicmkpjlplaa.Pure
