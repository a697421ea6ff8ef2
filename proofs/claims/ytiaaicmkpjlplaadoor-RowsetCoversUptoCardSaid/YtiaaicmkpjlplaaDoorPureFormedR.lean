/- Formed and Copy of the reference. -/
import Derived.Test.YtiaaicmkpjlplaaDoorPureFormed
import Derived.Test.YtiaaicmkpjlplaaDoorPureBitsRow
import Derived.Test.YtiaaicmkpjlplaaDoorP4
namespace Go.Proofs.YtiaaicmkpjlplaaDoor.Pure
open Go Go.RowKit Go.Proofs.YtiaaicmkpjlplaaDoorW.PrintWords Go.Proofs.YtiaaicmkpjlplaaDoorW.PrintLast Go.Proofs.YtiaaicmkpjlplaaDoorW.PrintMore Go.Proofs.YtiaaicmkpjlplaaDoor.P
set_option linter.unusedVariables false

theorem formedR_ev (n : Int) (W : List Int) (hW : okws W) (hlen : W.length ≤ 100000000) : Ev (fun k => dragnetref09_Formed.f k n W) (fm n W) := by
  by_cases h0 : n ≥ 0
  · by_cases h1 : n ≤ 4096
    · obtain ⟨m, rfl⟩ := Int.eq_ofNat_of_zero_le h0
      have hw : wrap64 (Int.tdiv (wrap64 ((m : Int) + 63)) 64) = (((m + 63) / 64 : Nat) : Int) := by
        rw [wrap_in (x := (m : Int) + 63) (by omega) (by omega), Int.tdiv_eq_ediv_of_nonneg (by omega), wrap_in (by omega) (by omega)]
        omega
      by_cases h2 : W.length = (m + 63) / 64
      · obtain ⟨B, hb1, hb2, hb3⟩ := bits_ev W hW m (by omega) (by omega)
        obtain ⟨R, hr1, hr2⟩ := set_ev B (by omega)
        have hs := same09 (m : Int) (m : Int) W R (by omega)
        have key : (decide ((m : Int) = (m : Int) ∧ W = R)) = fm (m : Int) W := by
          rw [Bool.eq_iff_iff, decide_eq_true_eq, fm_iff]
          constructor
          · rintro ⟨_, rfl⟩
            refine ⟨h0, h1, by rw [Int.toNat_natCast]; exact h2, fun j hj => ?_⟩
            rw [Int.toNat_natCast] at hj
            rw [hr1.2.2, decide_eq_false (by omega), Bool.false_and]
          · intro h
            refine ⟨rfl, words_ext hW hr1.1 (by rw [hr1.2.1, hb1]; exact h2) (fun j _ => ?_)⟩
            rw [hr1.2.2, hb1]
            by_cases hj : j < m
            · rw [decide_eq_true hj, Bool.true_and, hb2 j hj]
            · rw [decide_eq_false hj, Bool.false_and]
              exact h.2.2.2 j (by rw [Int.toNat_natCast]; omega)
        rw [key] at hs
        have s3 : Ev (fun k => (dragnetref09_Same.f k (m : Int) W (m : Int) R).bind fun t357 => (some t357)) (fm (m : Int) W) := Ev.call0 hs (Ev.now _) (fun k hk => by rw [hk, Option.bind_some])
        have s2 : Ev (fun k => (dragnetref09_Set.f k B).bind fun bt353 => ((dragnetref09_Same.f k (m : Int) W bt353.1 bt353.2).bind fun t357 => (some t357))) (fm (m : Int) W) := Ev.call0 hr2 s3 (fun k hk => by rw [hk, Option.bind_some, hb1])
        refine Ev.call0 hb3 s2 (fun k hk => ?_)
        unfold dragnetref09_Formed.f
        rw [if_pos h0, if_pos h1, hw, if_pos (by omega), hk, Option.bind_some]
      · rw [fm_not (fun h => by have := h.2.2.1; rw [Int.toNat_natCast] at this; omega)]
        refine Ev.congr (f := fun _ => some false) (fun k => ?_) (Ev.now _)
        unfold dragnetref09_Formed.f
        rw [if_pos h0, if_pos h1, hw, if_neg (by omega)]
    · rw [fm_not (fun h => by have := h.2.1; omega)]
      refine Ev.congr (f := fun _ => some false) (fun k => ?_) (Ev.now _)
      unfold dragnetref09_Formed.f
      rw [if_pos h0, if_neg h1]
  · rw [fm_not (fun h => by have := h.1; omega)]
    refine Ev.congr (f := fun _ => some false) (fun k => ?_) (Ev.now _)
    unfold dragnetref09_Formed.f
    rw [if_neg h0]
theorem copy_f (n : Int) (W : List Int) (h : W.length ≤ 100000000) : dragnetref09_Copy.f n W = some (n, W) := by
  unfold dragnetref09_Copy.f
  rw [Option.bind_some, if_pos (by simp; omega), List.nil_append]
end Go.Proofs.YtiaaicmkpjlplaaDoor.Pure
