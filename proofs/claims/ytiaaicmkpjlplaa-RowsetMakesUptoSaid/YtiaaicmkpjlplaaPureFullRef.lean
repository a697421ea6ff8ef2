/- The reference's Full. -/
import Derived.Test.YtiaaicmkpjlplaaPureBitsRow
import Derived.Test.YtiaaicmkpjlplaaP5
namespace Go.Proofs.Ytiaaicmkpjlplaa.Pure
open Go Go.RowKit Go.Proofs.YtiaaicmkpjlplaaW.PrintWords Go.Proofs.YtiaaicmkpjlplaaW.PrintLast Go.Proofs.YtiaaicmkpjlplaaW.PrintMore Go.Proofs.Ytiaaicmkpjlplaa.P
set_option linter.unusedVariables false

theorem fullRef_loop (n : Nat) (hn : n ≤ 1000000) : ∀ (d i : Nat) (l : List Bool), i + d = n → l.length = n → (∀ j, j < i → l.getD j false = true) → ∃ R, SetAt (List.replicate n true) n R ∧ Ev (fun k => dragnetref09_Full.l0 k l (i : Int)) ((n : Int), R, 0)
  | 0, i, l, hi, hl, hb => by
    have he : l = List.replicate n true := by
      refine List.ext_getElem (by simp [hl]) (fun j h1 h2 => ?_)
      have := hb j (by omega)
      simpa [List.getD, h1] using this
    obtain ⟨R, h1, h2⟩ := set_ev l (by omega)
    rw [hl] at h1
    refine ⟨R, he ▸ h1, Ev.call h2 (Ev.now _) (fun k hk => ?_)⟩
    simp only [dragnetref09_Full.l0]
    rw [if_neg (by omega), hk, Option.bind_some, hl]
  | d + 1, i, l, hi, hl, hb => by
    obtain ⟨R, h1, h2⟩ := fullRef_loop n hn d (i + 1) (l.set i true) (by omega) (by rw [List.length_set]; exact hl) (fun j hj => by
      by_cases e : j = i
      · subst e; simp [List.getD, show j < l.length by omega]
      · rw [← hb j (by omega)]
        simp [List.getD, List.getElem?_set_ne (fun h => e h.symm)])
    refine ⟨R, h1, Ev.step (fun k => ?_) h2⟩
    simp only [dragnetref09_Full.l0]
    rw [if_pos (by omega), if_pos (by omega), wrap_in (by omega) (by omega), Int.toNat_natCast]
    rfl
theorem fullRef_ev (n : Nat) (hn : n ≤ 4096) : ∃ R, SetAt (List.replicate n true) n R ∧ Ev (fun k => dragnetref09_Full.f k (n : Int)) ((n : Int), R, 0) := by
  have ho := ofRef_ev (n : Int) [] (by simp)
  rw [if_neg (by omega), Int.toNat_natCast, ofC] at ho
  have hz := setAt_zero n
  obtain ⟨B, hb1, hb2, hb3⟩ := bits_ev (List.replicate ((n + 63) / 64) 0) hz.1 n (by omega) (by simp; omega)
  obtain ⟨R, h1, h2⟩ := fullRef_loop n (by omega) n 0 B (by omega) hb1 (fun j hj => by omega)
  have mid : Ev (fun k => (dragnetref09_Bits.f k (n : Int) (List.replicate ((n + 63) / 64) 0)).bind fun t => dragnetref09_Full.l0 k t 0) ((n : Int), R, 0) := by
    refine Ev.call0 hb3 h2 (fun k hk => ?_)
    rw [hk, Option.bind_some]
    rfl
  refine ⟨R, h1, Ev.call0 ho mid (fun k hk => ?_)⟩
  unfold dragnetref09_Full.f
  rw [hk, Option.bind_some, if_pos rfl]
end Go.Proofs.Ytiaaicmkpjlplaa.Pure
