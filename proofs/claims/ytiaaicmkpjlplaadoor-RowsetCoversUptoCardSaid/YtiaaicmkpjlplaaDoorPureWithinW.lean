/- Within of the program computes withinC. -/
import Derived.Test.YtiaaicmkpjlplaaDoorPureBitsOf
import Derived.Test.YtiaaicmkpjlplaaDoorP5
namespace Go.Proofs.YtiaaicmkpjlplaaDoor.Pure
open Go Go.RowKit Go.Proofs.YtiaaicmkpjlplaaDoorW.PrintWords Go.Proofs.YtiaaicmkpjlplaaDoorW.PrintLast Go.Proofs.YtiaaicmkpjlplaaDoorW.PrintMore Go.Proofs.YtiaaicmkpjlplaaDoor.P
set_option linter.unusedVariables false

/-- c bits from a on. -/
def fill (W : List Int) (a : Nat) : Nat → List Int
  | 0 => W
  | c + 1 => fill (setBit W a) (a + 1) c
def withinC (n : Nat) : List Int → List Int → Int × List Int × Int
  | [], W => ((n : Int), W, 0)
  | g :: gs, W => if g < 0 ∨ (n : Int) ≤ 16 * g then (0, [], 1) else withinC n gs (fill W (16 * g.toNat) (min n (16 * g.toNat + 16) - 16 * g.toNat))
theorem fill_len : ∀ (c a : Nat) (W : List Int), (fill W a c).length = W.length
  | 0, _, _ => rfl
  | c + 1, a, W => by rw [fill, fill_len, setBit_len]
theorem mn_min (n g : Nat) : mn (n : Int) (((g : Int) + 1) * 16) = ((min n (16 * g + 16) : Nat) : Int) := by
  unfold mn
  split <;> omega
theorem within_inner (n : Nat) (hn : n ≤ 4096) (x8 : Int) (gs : List Int) (len i : Int) (g : Nat) (hg : 16 * g < n) (r : Int × List Int × Int) : ∀ (c a : Nat) (W : List Int), a + c = min n (16 * g + 16) → W.length = (n + 63) / 64 →
    Ev (fun k => rowset_Within.l0 k (n : Int) x8 gs len (wrap64 (i + 1)) (n : Int) (fill W a c)) r → Ev (fun k => rowset_Within.l1 k (n : Int) x8 (g : Int) (a : Int) gs len i (n : Int) W) r
  | 0, a, W, ha, hW, h => by
    refine Ev.step (fun k => ?_) h
    simp only [rowset_Within.l1, fill]
    rw [wrap_in (x := (g : Int) + 1) (by omega) (by omega), wrap_in (x := ((g : Int) + 1) * 16) (by omega) (by omega), mn_min, if_neg (by omega)]
  | c + 1, a, W, ha, hW, h => by
    refine Ev.step (fun k => ?_) (within_inner n hn x8 gs len i g hg r c (a + 1) (setBit W a) (by omega) (by rw [setBit_len]; exact hW) h)
    simp only [rowset_Within.l1, div64 a (by omega), mod64]
    rw [wrap_in (x := (g : Int) + 1) (by omega) (by omega), wrap_in (x := ((g : Int) + 1) * 16) (by omega) (by omega), mn_min, if_pos (by omega), if_pos (by omega), if_pos (by rw [hW]; omega), if_pos (by omega), wrap_in (x := (a : Int) + 1) (by omega) (by omega), Int.toNat_natCast, rd_getD]
    rfl
theorem within_loop (n : Nat) (hn : n ≤ 4096) (gs : List Int) (hl : gs.length ≤ 100000000) : ∀ (d i : Nat) (W : List Int), i + d = gs.length → W.length = (n + 63) / 64 →
    Ev (fun k => rowset_Within.l0 k (n : Int) (((n + 15) / 16 : Nat) : Int) gs (gs.length : Int) (i : Int) (n : Int) W) (withinC n (gs.drop i) W)
  | 0, i, W, hi, hW => by
    rw [List.drop_of_length_le (by omega)]
    refine Ev.step (f := fun _ => some ((n : Int), W, 0)) (fun k => ?_) (Ev.now _)
    simp only [rowset_Within.l0]
    rw [if_neg (by omega)]
  | d + 1, i, W, hi, hW => by
    have hil : i < gs.length := by omega
    have hr : rd gs (i : Int) = gs[i] := rd_at gs i hil
    rw [List.drop_eq_getElem_cons hil, withinC]
    have bad : ∀ g, Ev (fun k => rowset_Within.j1 k (n : Int) (((n + 15) / 16 : Nat) : Int) g gs (gs.length : Int) (i : Int) true (n : Int) W) (0, [], 1) := fun g => Ev.step (f := fun _ => some (0, [], 1)) (fun k => by simp only [rowset_Within.j1]; rw [if_pos trivial]) (Ev.now _)
    by_cases h0 : gs[i] < 0
    · rw [if_pos (Or.inl h0)]
      refine Ev.step (fun k => ?_) (bad gs[i])
      simp only [rowset_Within.l0, hr]
      rw [if_pos (by omega), if_pos (by omega), if_pos (by omega), if_pos h0]
    · by_cases h1 : (n : Int) ≤ 16 * gs[i]
      · rw [if_pos (Or.inr h1)]
        refine Ev.step (fun k => ?_) (bad gs[i])
        simp only [rowset_Within.l0, hr]
        rw [if_pos (by omega), if_pos (by omega), if_pos (by omega), if_neg h0, decide_eq_true (by omega)]
      · rw [if_neg (by omega)]
        obtain ⟨g, hg⟩ := Int.eq_ofNat_of_zero_le (show 0 ≤ gs[i] by omega)
        rw [hg, Int.toNat_natCast]
        rw [hg] at h1
        have ih := within_loop n hn gs hl d (i + 1) (fill W (16 * g) (min n (16 * g + 16) - 16 * g)) (by omega) (by rw [fill_len]; exact hW)
        have hin := within_inner n hn (((n + 15) / 16 : Nat) : Int) gs (gs.length : Int) (i : Int) g (by omega) _ (min n (16 * g + 16) - 16 * g) (16 * g) W (by omega) hW (by rw [wrap_in (by omega) (by omega)]; exact ih)
        refine Ev.step (f := fun k => rowset_Within.j1 k (n : Int) (((n + 15) / 16 : Nat) : Int) (g : Int) gs (gs.length : Int) (i : Int) false (n : Int) W) (fun k => ?_) (Ev.step (fun k => ?_) hin)
        · simp only [rowset_Within.l0, hr, hg]
          rw [if_pos (by omega), if_pos (by omega), if_pos (by omega), if_neg (by omega), decide_eq_false (by omega)]
        · simp only [rowset_Within.j1]
          rw [if_neg (by simp), wrap_in (by omega) (by omega), show (g : Int) * 16 = ((16 * g : Nat) : Int) by omega]
theorem within_ev (n : Int) (gs : List Int) (hl : gs.length ≤ 100000000) : Ev (fun k => rowset_Within.f k n gs) (if n < 0 ∨ 4096 < n then (0, [], 1) else withinC n.toNat gs (List.replicate ((n.toNat + 63) / 64) 0)) := by
  by_cases h : n < 0 ∨ 4096 < n
  · rw [if_pos h]
    refine Ev.congr (f := fun _ => some (0, [], 1)) (fun k => ?_) (Ev.now _)
    unfold rowset_Within.f
    rw [empty_f, if_pos h, Option.bind_some, if_neg (by simp)]
  · rw [if_neg h]
    obtain ⟨m, rfl⟩ := Int.eq_ofNat_of_zero_le (show 0 ≤ n by omega)
    rw [Int.toNat_natCast]
    have hk := within_loop m (by omega) gs hl gs.length 0 (List.replicate ((m + 63) / 64) 0) (by omega) (by simp)
    refine Ev.congr (fun k => ?_) hk
    unfold rowset_Within.f
    rw [empty_f, if_neg h, Option.bind_some, if_pos rfl, Int.toNat_natCast, wrap_in (x := (m : Int) + 16) (by omega) (by omega), wrap_in (x := (m : Int) + 16 - 1) (by omega) (by omega), Int.tdiv_eq_ediv_of_nonneg (by omega), wrap_in (by omega) (by omega), show ((m : Int) + 16 - 1) / 16 = (((m + 15) / 16 : Nat) : Int) by omega]
    rfl
end Go.Proofs.YtiaaicmkpjlplaaDoor.Pure
