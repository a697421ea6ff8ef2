/- rowset.And. -/
import Derived.Test.YtiaaicmkpjlplaaDoorPureJoins
import Derived.Test.YtiaaicmkpjlplaaDoorP6
namespace Go.Proofs.YtiaaicmkpjlplaaDoor.Pure
open Go Go.RowKit Go.Proofs.YtiaaicmkpjlplaaDoorW.PrintWords Go.Proofs.YtiaaicmkpjlplaaDoorW.PrintLast Go.Proofs.YtiaaicmkpjlplaaDoorW.PrintMore Go.Proofs.YtiaaicmkpjlplaaDoor.P
set_option linter.unusedVariables false

theorem joinedAnd_loop (n : Int) (W V : List Int) (h : W.length = V.length) (hb : W.length ≤ 100000000) : ∀ (d i : Nat) (R : List Int), i + d = W.length → R.length = W.length → (∀ j, j < i → R.getD j 0 = (joinW .and W V).getD j 0) →
    Ev (fun k => rowset_joinedAnd.l0 k 0 (W.length : Int) (i : Int) n W n V n R) (n, joinW .and W V, 0)
  | 0, i, R, hi, hR, hj => by
    have e : R = joinW .and W V := by
      refine List.ext_getElem (by rw [hR, joinW_len h]) (fun j h1 h2 => ?_)
      have := hj j (by omega)
      simpa [List.getD, h1, h2] using this
    rw [e]
    refine Ev.step (f := fun _ => some (n, joinW .and W V, 0)) (fun k => ?_) (Ev.now _)
    simp only [rowset_joinedAnd.l0]
    rw [if_neg (by omega)]
  | d + 1, i, R, hi, hR, hj => by
    have hil : i < W.length := by omega
    have ih := joinedAnd_loop n W V h hb d (i + 1) (R.set i (Go.bits .and .u64 (W.getD i 0) (V.getD i 0))) (by omega) (by rw [List.length_set]; exact hR) (fun j hj2 => by
      by_cases e : j = i
      · subst e
        rw [joinW_at h hil]
        simp [List.getD, show j < R.length by omega]
      · rw [← hj j (by omega)]
        simp [List.getD, List.getElem?_set_ne (fun h => e h.symm)])
    refine Ev.step (fun k => ?_) ih
    simp only [rowset_joinedAnd.l0]
    rw [if_pos (by omega), if_pos (by omega), if_pos (by omega), if_pos (by omega), rowset_And_c1.f, Option.bind_some, if_pos (by omega), wrap_in (by omega) (by omega), Int.toNat_natCast, rd_getD, rd_getD]
    rfl
theorem andW_ev (n : Int) (W : List Int) (m : Int) (V : List Int) (hW : okws W) (hV : okws V) (hl : W.length ≤ 100000000) (hm : V.length ≤ 100000000) : Ev (fun k => rowset_And.f k n W m V) (joinC .and n W m V) := by
  have bad : Ev (fun k => rowset_joinedAnd.j0 k true n W m V) (0, [], 1) := Ev.step (f := fun _ => some (0, [], 1)) (fun k => by simp only [rowset_joinedAnd.j0]; rw [if_pos trivial]) (Ev.now _)
  have main : Ev (fun k => rowset_joinedAnd.f k n W m V) (joinC .and n W m V) := by
    by_cases h1 : fm n W = true
    · by_cases h2 : fm m V = true
      · by_cases h3 : n = m
        · subst h3
          have s1 := fm_iff.1 h1
          have s2 := fm_iff.1 h2
          have hlen : W.length = V.length := by rw [s1.2.2.1, s2.2.2.1]
          have hk := joinedAnd_loop n W V hlen hl W.length 0 (List.replicate W.length 0) (by omega) (by simp) (fun j hj => by omega)
          have e : joinC .and n W n V = (n, joinW .and W V, 0) := by unfold joinC; rw [if_pos ⟨h1, h2, rfl⟩]
          rw [e]
          refine Ev.congr (f := fun k => rowset_joinedAnd.j0 k false n W n V) (fun k => ?_) (Ev.step (fun k => ?_) hk)
          · unfold rowset_joinedAnd.f
            rw [formed_f n W hW hl, Option.bind_some, if_pos h1, formed_f n V hV hm, Option.bind_some, if_pos h2, show (n != n) = false by simp]
          · simp only [rowset_joinedAnd.j0]
            rw [if_neg (by simp), empty_f, if_neg (by have := s1.1; have := s1.2.1; omega), Option.bind_some, ← s1.2.2.1, List.length_replicate]
            rfl
        · rw [joinC_no (fun h => h3 h.2.2)]
          refine Ev.congr (fun k => ?_) bad
          unfold rowset_joinedAnd.f
          rw [formed_f n W hW hl, Option.bind_some, if_pos h1, formed_f m V hV hm, Option.bind_some, if_pos h2, show (n != m) = true by simp [h3]]
      · rw [joinC_no (fun h => h2 h.2.1)]
        refine Ev.congr (fun k => ?_) bad
        unfold rowset_joinedAnd.f
        rw [formed_f n W hW hl, Option.bind_some, if_pos h1, formed_f m V hV hm, Option.bind_some, if_neg h2]
    · rw [joinC_no (fun h => h1 h.1)]
      refine Ev.congr (fun k => ?_) bad
      unfold rowset_joinedAnd.f
      rw [formed_f n W hW hl, Option.bind_some, if_neg h1]
  refine Ev.call0 main (Ev.now _) (fun k hk => ?_)
  unfold rowset_And.f
  rw [hk, Option.bind_some]
end Go.Proofs.YtiaaicmkpjlplaaDoor.Pure
