/- Sets of some rows: what rowset.Of and the reference's Of compute. -/
import Derived.Test.YtiaaicmkpjlplaaDoorPureBits
import Derived.Test.YtiaaicmkpjlplaaDoorP2
namespace Go.Proofs.YtiaaicmkpjlplaaDoor.Pure
open Go Go.RowKit Go.Proofs.YtiaaicmkpjlplaaDoorW.PrintWords Go.Proofs.YtiaaicmkpjlplaaDoorW.PrintLast Go.Proofs.YtiaaicmkpjlplaaDoorW.PrintMore Go.Proofs.YtiaaicmkpjlplaaDoor.P
set_option linter.unusedVariables false

/-- A call, and what follows; with a round, and without. -/
theorem Ev.call {α β : Type} {g f : Nat → Option β} {c : Nat → Option α} {a : α} {r : β} (hc : Ev c a) (hk : Ev f r) (h : ∀ k, c k = some a → g (k + 1) = f k) : Ev g r := by
  obtain ⟨K, hc⟩ := hc
  obtain ⟨K', hk⟩ := hk
  refine ⟨max K K' + 1, fun n hn => ?_⟩
  obtain ⟨m, rfl⟩ : ∃ m, n = m + 1 := ⟨n - 1, by omega⟩
  rw [h m (hc m (by omega))]
  exact hk m (by omega)
theorem Ev.call0 {α β : Type} {g f : Nat → Option β} {c : Nat → Option α} {a : α} {r : β} (hc : Ev c a) (hk : Ev f r) (h : ∀ k, c k = some a → g k = f k) : Ev g r := by
  obtain ⟨K, hc⟩ := hc
  obtain ⟨K', hk⟩ := hk
  refine ⟨max K K', fun n hn => ?_⟩
  rw [h n (hc n (by omega))]
  exact hk n (by omega)
theorem wrap_in {x : Int} (h0 : -9223372036854775808 ≤ x) (h1 : x ≤ 9223372036854775807) : wrap64 x = x := by unfold wrap64; omega
theorem div64 (i : Nat) (h : i ≤ 1000000) : wrap64 (Int.tdiv (i : Int) 64) = ((i / 64 : Nat) : Int) := by
  rw [Int.tdiv_eq_ediv_of_nonneg (by omega), wrap_in (by omega) (by omega)]
  omega
theorem mod64 (i : Nat) : Int.tmod (i : Int) 64 = ((i % 64 : Nat) : Int) := by
  rw [Int.tmod_eq_emod_of_nonneg (by omega)]
  omega
theorem rd_getD (l : List Int) (i : Nat) : rd l (i : Int) = l.getD i 0 := by simp [rd]
theorem words_f {n : Int} (h0 : 0 ≤ n) (h1 : n ≤ 4096) : rowset_words.f n = some ((((n.toNat + 63) / 64 : Nat) : Int)) := by
  obtain ⟨m, rfl⟩ := Int.eq_ofNat_of_zero_le h0
  unfold rowset_words.f
  rw [wrap_in (x := (m : Int) + 64) (by omega) (by omega), wrap_in (x := (m : Int) + 64 - 1) (by omega) (by omega), Int.tdiv_eq_ediv_of_nonneg (by omega), wrap_in (by omega) (by omega), Int.toNat_natCast]
  congr 1
  omega
/-- A bit more. -/
def setBit (W : List Int) (i : Nat) : List Int := W.set (i / 64) (Go.bits .or .u64 (W.getD (i / 64) 0) (shl .u64 1 ((i % 64 : Nat) : Int)))
def ofC (n : Int) : List Int → List Int → Int × List Int × Int
  | [], W => (n, W, 0)
  | x :: l, W => if x < 0 ∨ n ≤ x then (0, [], 1) else ofC n l (setBit W x.toNat)
theorem setBit_len (W : List Int) (i : Nat) : (setBit W i).length = W.length := by unfold setBit; rw [List.length_set]
theorem of_loop (n : Int) (h0 : 0 ≤ n) (h1 : n ≤ 4096) (l : List Int) (hl : l.length ≤ 100000000) : ∀ (d i : Nat) (W : List Int), i + d = l.length → W.length = (n.toNat + 63) / 64 →
    Ev (fun k => rowset_Of.l0 k n l (l.length : Int) (i : Int) n W) (ofC n (l.drop i) W)
  | 0, i, W, hi, hW => by
    rw [List.drop_of_length_le (by omega)]
    refine Ev.step (f := fun _ => some (n, W, 0)) (fun k => ?_) (Ev.now _)
    simp only [rowset_Of.l0]
    rw [if_neg (by omega)]
  | d + 1, i, W, hi, hW => by
    have hil : i < l.length := by omega
    have hr : rd l (i : Int) = l[i] := by simp [rd, List.getD, hil]
    rw [List.drop_eq_getElem_cons hil, ofC]
    by_cases hx : l[i] < 0 ∨ n ≤ l[i]
    · rw [if_pos hx]
      refine Ev.step (f := fun _ => some (0, [], 1)) (fun k => ?_) (Ev.now _)
      simp only [rowset_Of.l0, hr]
      rw [if_pos (by omega), if_pos (by omega), if_pos (by omega)]
      by_cases h2 : l[i] < 0
      · rw [if_pos h2]
      · rw [if_neg h2, if_pos (by omega)]
    · rw [if_neg hx]
      obtain ⟨x, hxe⟩ := Int.eq_ofNat_of_zero_le (show 0 ≤ l[i] by omega)
      have ih := of_loop n h0 h1 l hl d (i + 1) (setBit W x) (by omega) (by rw [setBit_len]; exact hW)
      rw [hxe, Int.toNat_natCast]
      refine Ev.step (fun k => ?_) ih
      simp only [rowset_Of.l0, hr, hxe]
      rw [if_pos (by omega), if_pos (by omega), if_pos (by omega), if_neg (by omega), if_neg (by omega), div64 x (by omega), mod64, if_pos (by omega), if_pos (by rw [hW]; omega), if_pos (by omega), wrap_in (by omega) (by omega), Int.toNat_natCast, rd_getD]
      rfl
theorem empty_f (n : Int) : rowset_empty.f n = some (if n < 0 ∨ 4096 < n then (0, [], 1) else (n, List.replicate ((n.toNat + 63) / 64) 0, 0)) := by
  unfold rowset_empty.f
  by_cases h0 : n < 0
  · rw [if_pos h0, if_pos (Or.inl h0)]
  · rw [if_neg h0]
    by_cases h1 : n > 4096
    · rw [if_pos h1, if_pos (Or.inr h1)]
    · rw [if_neg h1, words_f (by omega) (by omega), Option.bind_some, if_pos (by omega), Int.toNat_natCast, if_pos (by omega), if_neg (by omega)]
theorem of_ev (n : Int) (l : List Int) (hl : l.length ≤ 100000000) : Ev (fun k => rowset_Of.f k n l) (if n < 0 ∨ 4096 < n then (0, [], 1) else ofC n l (List.replicate ((n.toNat + 63) / 64) 0)) := by
  by_cases h : n < 0 ∨ 4096 < n
  · rw [if_pos h]
    refine Ev.congr (f := fun _ => some (0, [], 1)) (fun k => ?_) (Ev.now _)
    unfold rowset_Of.f
    rw [empty_f, if_pos h, Option.bind_some, if_neg (by simp)]
  · rw [if_neg h]
    have hk := of_loop n (by omega) (by omega) l hl l.length 0 (List.replicate ((n.toNat + 63) / 64) 0) (by omega) (by simp)
    refine Ev.congr (fun k => ?_) hk
    unfold rowset_Of.f
    rw [empty_f, if_neg h, Option.bind_some, if_pos rfl]
    rfl
end Go.Proofs.YtiaaicmkpjlplaaDoor.Pure
