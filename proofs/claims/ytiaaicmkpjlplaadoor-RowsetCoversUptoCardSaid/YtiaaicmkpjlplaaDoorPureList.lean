/- The reference's List: what All tells. -/
import Derived.Test.YtiaaicmkpjlplaaDoorGran
import Derived.Test.YtiaaicmkpjlplaaDoorPureFormedR
import Derived.Test.YtiaaicmkpjlplaaDoorP4
namespace Go.Proofs.YtiaaicmkpjlplaaDoor.Pure
open Go Go.RowKit Go.Proofs.YtiaaicmkpjlplaaDoorW.PrintWords Go.Proofs.YtiaaicmkpjlplaaDoorW.PrintLast Go.Proofs.YtiaaicmkpjlplaaDoorW.PrintMore Go.Proofs.YtiaaicmkpjlplaaDoor.P
set_option linter.unusedVariables false

/-- What All tells, as numbers. -/
noncomputable def tl (N : Int) (Ws : List Int) : List Int := (told N Ws).map (fun x => ((x.val : Nat) : Int))
theorem rng_lt {W : List Int} {c x : Nat} (h : x ∈ rng W c) : x < c ∧ bitAt W x = true := by
  unfold rng at h
  rw [List.mem_filter, List.mem_range] at h
  exact h
theorem tl_set {N : Int} {Ws : List Int} (h : fm N Ws = true) : tl N Ws = (rng Ws N.toNat).map (fun x => ((x : Nat) : Int)) := by
  have s := fm_iff.1 h
  have e : rng Ws (64 * Ws.length) = rng Ws N.toNat := by
    have := s.2.2.1
    exact rng_none (by omega) (fun q h1 _ => s.2.2.2 q h1)
  unfold tl told
  rw [if_pos h]
  unfold lst
  rw [e, List.map_map]
  refine List.map_congr_left (fun x hx => ?_)
  have := (rng_lt hx).1
  have := s.2.1
  show (((Fin.ofNat 4096 x).val : Nat) : Int) = _
  rw [Fin.val_ofNat, Nat.mod_eq_of_lt (by omega)]
theorem tl_not {N : Int} {Ws : List Int} (h : fm N Ws = false) : tl N Ws = [] := by
  unfold tl told
  rw [if_neg (by rw [h]; simp)]
  rfl
theorem list_loop (Ws : List Int) (n : Nat) (hn : n ≤ 4096) (B : List Bool) (hB : B.length = n) (hb : BitsAt Ws n B) : ∀ (d i : Nat), i + d = n → Ev (fun k => dragnetref09_List.l0 k ((rng Ws i).map (fun x => ((x : Nat) : Int))) B (i : Int)) ((rng Ws n).map (fun x => ((x : Nat) : Int)))
  | 0, i, hi => by
    obtain rfl : i = n := by omega
    refine Ev.step (f := fun _ => some _) (fun k => ?_) (Ev.now _)
    simp only [dragnetref09_List.l0]
    rw [if_neg (by omega)]
  | d + 1, i, hi => by
    have ih := list_loop Ws n hn B hB hb d (i + 1) (by omega)
    have hl := rng_len Ws i
    have hr : rdOf false B (i : Int) = bitAt Ws i := by
      rw [← hb i (by omega)]
      simp [rdOf]
    have hs : rng Ws (i + 1) = rng Ws i ++ (if bitAt Ws i = true then [i] else []) := by
      unfold rng
      rw [List.range_succ, List.filter_append, List.filter_cons]
      split <;> simp_all
    rw [hs] at ih
    refine Ev.step (fun k => ?_) ih
    simp only [dragnetref09_List.l0]
    rw [if_pos (by omega), if_pos (by omega), hr, wrap_in (by omega) (by omega)]
    by_cases h : bitAt Ws i = true
    · rw [if_pos h, if_pos (by rw [List.length_map]; omega), if_pos h, List.map_append]
      rfl
    · rw [if_neg h, if_neg h, List.append_nil]
      rfl
theorem list_ev (N : Int) (Ws : List Int) (ok : okws Ws) (hl : Ws.length ≤ 100000000) : Ev (fun k => dragnetref09_List.f k N Ws) (tl N Ws) := by
  have f1 := formedR_ev N Ws ok hl
  by_cases h : fm N Ws = true
  · rw [tl_set h]
    rw [h] at f1
    have s := fm_iff.1 h
    obtain ⟨n, rfl⟩ := Int.eq_ofNat_of_zero_le s.1
    have l1 : Ws.length = (n + 63) / 64 := s.2.2.1
    have hn : n ≤ 4096 := by have := s.2.1; omega
    obtain ⟨B, b1, b2, b3⟩ := bits_ev Ws ok n (by omega) (by omega)
    have hk := list_loop Ws n hn B b1 b2 n 0 (by omega)
    rw [Int.toNat_natCast]
    have e1 : Ev (fun k => (dragnetref09_Bits.f k (n : Int) Ws).bind fun t172 => (dragnetref09_List.l0 k ([] : List Int) t172 0)) ((rng Ws n).map (fun x => ((x : Nat) : Int))) := Ev.call0 b3 hk (fun k hk => by rw [hk, Option.bind_some]; rfl)
    refine Ev.call0 f1 e1 (fun k hk => ?_)
    unfold dragnetref09_List.f
    rw [hk, Option.bind_some, if_pos rfl]
  · rw [Bool.not_eq_true] at h
    rw [tl_not h]
    rw [h] at f1
    refine Ev.call0 f1 (Ev.now _) (fun k hk => ?_)
    unfold dragnetref09_List.f
    rw [hk, Option.bind_some, if_neg (by simp)]
theorem tl_len (N : Int) (Ws : List Int) (ok : okws Ws) : (tl N Ws).length ≤ 4096 := by
  unfold tl
  rw [List.length_map]
  exact told_len N Ws ok
end Go.Proofs.YtiaaicmkpjlplaaDoor.Pure
