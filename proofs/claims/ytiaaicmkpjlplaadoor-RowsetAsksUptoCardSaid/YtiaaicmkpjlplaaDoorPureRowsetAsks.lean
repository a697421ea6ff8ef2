/- The plain law of RowsetAsks. -/
import Derived.Test.YtiaaicmkpjlplaaDoorPureGran
import Derived.Test.YtiaaicmkpjlplaaDoorPureInts
import Derived.Test.YtiaaicmkpjlplaaDoorPureAlive
import Derived.Test.YtiaaicmkpjlplaaDoorRead
import Derived.Test.YtiaaicmkpjlplaaDoorP7
namespace Go.Proofs.YtiaaicmkpjlplaaDoor.Pure
open Go Go.RowKit Go.Proofs.YtiaaicmkpjlplaaDoorW.PrintWords Go.Proofs.YtiaaicmkpjlplaaDoorW.PrintLast Go.Proofs.YtiaaicmkpjlplaaDoorW.PrintMore Go.Proofs.YtiaaicmkpjlplaaDoor.P
set_option linter.unusedVariables false

theorem asks_loop (x1 : Int) (L : List Int) (N : Int) (Ws : List Int) (hL : L.length ≤ 4096) (hT : Ev (fun k => dragnetlaw09_RowsetAsks.l0 k x1 L (decide (x1 ∈ L)) (L.length : Int) N Ws N Ws) true) :
    ∀ (d i : Nat) (has : Bool), i + d = L.length → (has || decide (x1 ∈ L.drop i)) = decide (x1 ∈ L) → Ev (fun k => dragnetlaw09_RowsetAsks.l0 k x1 L has (i : Int) N Ws N Ws) true
  | 0, i, has, hi, hh => by
    obtain rfl : i = L.length := by omega
    rw [List.drop_length] at hh
    have e : has = decide (x1 ∈ L) := by rw [← hh]; simp
    rw [e]
    exact hT
  | d + 1, i, has, hi, hh => by
    have hil : i < L.length := by omega
    rw [List.drop_eq_getElem_cons hil] at hh
    have hr : rd L (i : Int) = L[i] := by simp [rd, List.getD, hil]
    have ih := asks_loop x1 L N Ws hL hT d (i + 1) (has || (L[i] == x1)) (by omega) (by
      have e : (L[i] == x1) = decide (x1 = L[i]) := by
        rw [Bool.eq_iff_iff, beq_iff_eq, decide_eq_true_eq]
        exact ⟨Eq.symm, Eq.symm⟩
      rw [← hh, e, Bool.or_assoc, ← Bool.decide_or]
      congr 1
      rw [decide_eq_decide, List.mem_cons])
    refine Ev.step (fun k => ?_) ih
    simp only [dragnetlaw09_RowsetAsks.l0]
    rw [if_pos (by omega), hr, wrap_in (by omega) (by omega)]
    cases has
    · rw [if_neg (by simp), if_pos (by omega), Bool.false_or]
      rfl
    · rw [if_pos rfl, Bool.true_or]
      rfl
theorem RowsetAsks : ∀ (x0_0 : Int) (x0_1 : List Int) (x1 : Int), ((Lit.int .i64 x0_0).wf = true) → (∀ x ∈ x0_1, (fun n => (Lit.int .u64 n).wf = true) x) → ((Lit.int .i64 x1).wf = true) → ((1) + (Read.sumBulk (fun _ => 1) x0_1 + 1) + 1) + (1) ≤ 1048576 → ∃ k, dragnetlaw09_RowsetAsks.f k x0_0 x0_1 x1 = some true := by
  intro N Ws i _ wf _ hsum
  rw [Read.sum_one] at hsum
  have ok := wf_okws wf
  have hl : Ws.length ≤ 100000000 := by omega
  have hL := tl_len N Ws ok
  have hgl : (gSt (told N Ws)).1.length ≤ 4096 := Nat.le_trans (gSt_len _) (told_len N Ws ok)
  have hT : Ev (fun k => dragnetlaw09_RowsetAsks.l0 k i (tl N Ws) (decide (i ∈ tl N Ws)) ((tl N Ws).length : Int) N Ws N Ws) true := by
    obtain ⟨k1, h1⟩ := formedR_ev N Ws ok hl
    obtain ⟨k2, h2⟩ := countT_ev N Ws ok hl
    obtain ⟨k3, h3⟩ := granR_ev N Ws ok hl
    obtain ⟨k4, h4⟩ := ints09 (gSt (told N Ws)).1 (gSt (told N Ws)).1 (by omega)
    obtain ⟨k5, h5⟩ := same09 N N Ws Ws hl
    rw [decide_eq_true rfl] at h4
    rw [decide_eq_true (by exact ⟨rfl, rfl⟩)] at h5
    dsimp only at h1 h2 h3 h4 h5
    refine ⟨k1 + k2 + k3 + k4 + k5 + 1, fun k hk => ?_⟩
    obtain ⟨m, rfl⟩ : ∃ m, k = m + 1 := ⟨k - 1, by omega⟩
    simp only [dragnetlaw09_RowsetAsks.l0]
    rw [if_neg (by omega), formed_f N Ws ok hl, Option.bind_some, h1 m (by omega), Option.bind_some, if_pos (by simp), has_f N Ws i ok hl, Option.bind_some, if_pos (by simp), h2 m (by omega), Option.bind_some, if_pos rfl, granP_f N Ws ok hl, Option.bind_some,
      h3 m (by omega), Option.bind_some, h4 m (by omega), Option.bind_some, if_pos rfl, h5 m (by omega), Option.bind_some]
  obtain ⟨k0, h0⟩ := alive09
  obtain ⟨k1, h1⟩ := list_ev N Ws ok hl
  obtain ⟨k2, h2⟩ := asks_loop i (tl N Ws) N Ws hL hT (tl N Ws).length 0 false (by omega) (by rw [List.drop_zero, Bool.false_or])
  dsimp only at h0 h1 h2
  refine ⟨k0 + k1 + k2, ?_⟩
  unfold dragnetlaw09_RowsetAsks.f
  rw [h0 _ (by omega), Option.bind_some, if_pos rfl, copy_f N Ws hl, Option.bind_some, h1 _ (by omega), Option.bind_some]
  exact h2 _ (by omega)
end Go.Proofs.YtiaaicmkpjlplaaDoor.Pure
