/- The plain laws of numbers and rows: what num's functions compute, and the reference's are the same. -/
import Derived.Test.YtnmidkjmflnolaaP2
import Derived.Test.YtnmidkjmflnolaaP4
import Derived.Test.YtnmidkjmflnolaaTake
import Derived.Test.YtnmidkjmflnolaaPureSym
namespace Go.Proofs.Ytnmidkjmflnolaa.Pure
open Go Go.RowKit Go.Proofs.YtnmidkjmflnolaaW.PrintWords Go.Proofs.Ytnmidkjmflnolaa.P Go.Proofs.Ytnmidkjmflnolaa.Maps
set_option linter.unusedVariables false

/-! ### how many bytes a number has -/
theorem aux_iff : ∀ (f x : Nat), x < 2 ^ f → ∀ n, Lib.bitLenAux f x ≤ n ↔ x < 2 ^ n
  | 0, x, h, n => by
    have : x = 0 := by simpa using h
    subst this
    simp [Lib.bitLenAux, Nat.two_pow_pos]
  | f + 1, x, h, n => by
    unfold Lib.bitLenAux
    split
    · next h0 => subst h0; simp [Nat.two_pow_pos]
    · next h0 =>
      cases n with
      | zero => simp; omega
      | succ n =>
        have ih := aux_iff f (x / 2) (by rw [Nat.pow_succ] at h; omega) n
        rw [Nat.pow_succ]
        constructor
        · intro h1
          have := ih.1 (by omega)
          omega
        · intro h1
          have := ih.2 (by omega)
          omega
theorem lenOf_iff {v : Int} (h0 : 0 ≤ v) (h1 : v ≤ 18446744073709551615) (m : Nat) : lenOf v ≤ m ↔ v < 256 ^ m := by
  obtain ⟨x, rfl⟩ := Int.eq_ofNat_of_zero_le h0
  have hx := aux_iff 64 x (by omega) (8 * m)
  unfold lenOf Lib.bitLen
  rw [Int.toNat_natCast]
  have hp : (2 : Nat) ^ (8 * m) = 256 ^ m := by rw [Nat.pow_mul]
  rw [hp] at hx
  constructor
  · intro h
    have := hx.1 (by omega)
    have h2 : ((x : Nat) : Int) < ((256 ^ m : Nat) : Int) := Int.ofNat_lt.2 this
    rw [Int.natCast_pow] at h2
    exact h2
  · intro h
    have h2 : ((x : Nat) : Int) < ((256 ^ m : Nat) : Int) := by rw [Int.natCast_pow]; exact h
    have := hx.2 (Int.ofNat_lt.1 h2)
    omega
theorem lenOf_zero : lenOf 0 = 0 := by decide
theorem lenOf_succ {v : Int} (h0 : 0 < v) (h1 : v ≤ 18446744073709551615) : lenOf v = lenOf (v / 256) + 1 := by
  have a := lenOf_iff (v := v) (by omega) h1
  have b := lenOf_iff (v := v / 256) (by omega) (by omega)
  have a0 : ¬ lenOf v ≤ 0 := by rw [a 0]; simp; omega
  apply Nat.le_antisymm
  · rw [a, Int.pow_succ]
    have := (b (lenOf (v / 256))).1 (Nat.le_refl _)
    omega
  · obtain ⟨q, hq⟩ : ∃ q, lenOf v = q + 1 := ⟨lenOf v - 1, by omega⟩
    have h := (a (q + 1)).1 (by omega)
    rw [Int.pow_succ] at h
    have := (b q).2 (by omega)
    omega
theorem lenOf_le8 {v : Int} (h0 : 0 ≤ v) (h1 : v ≤ 18446744073709551615) : lenOf v ≤ 8 := (size_f h0 h1).2
theorem leBytes_okbs : ∀ (n : Nat) (v : Int), okbs (P.leBytes n v)
  | 0, _ => fun x hx => by simp [P.leBytes] at hx
  | n + 1, v => fun x hx => by
    rw [P.leBytes, List.mem_cons] at hx
    rcases hx with rfl | hx
    · exact ⟨by omega, by omega⟩
    · exact leBytes_okbs n _ x hx
theorem numBytes_okbs {v : Int} (h0 : 0 ≤ v) (h1 : v ≤ 18446744073709551615) : okbs (numBytes v) := by
  have := lenOf_le8 h0 h1
  intro x hx
  unfold numBytes at hx
  split at hx
  · simp at hx; subst hx; exact ⟨by omega, by omega⟩
  · rw [List.mem_cons] at hx
    rcases hx with rfl | hx
    · exact ⟨by omega, by omega⟩
    · exact leBytes_okbs _ _ x hx
theorem numBytes_len {v : Int} : (numBytes v).length = if v ≤ 247 then 1 else lenOf v + 1 := by
  unfold numBytes
  split
  · rfl
  · rw [List.length_cons, leBytes_ok]

/-! ### Bytes -/
theorem u64_in {x : Int} (h0 : 0 ≤ x) (h1 : x ≤ 18446744073709551615) : IntKind.u64.wrap x = x := by
  simp [IntKind.wrap, IntKind.bits, IntKind.signed]
  omega
theorem bytes02_loop : ∀ (n : Nat) (v h : Int) (out : List Int), lenOf v = n → 0 ≤ v → v ≤ 18446744073709551615 → 0 ≤ h → h + n ≤ 255 → out.length + n ≤ 1000 →
    Ev (fun k => dragnetref02_Bytes.l0 k v (h :: out)) ((h + (n : Int)) :: (out ++ P.leBytes n v))
  | 0, v, h, out, hn, h0, h1, _, _, _ => by
    have : v < 256 ^ 0 := (lenOf_iff h0 h1 0).1 (by omega)
    refine Ev.step (f := fun _ => some (h :: out)) (fun k => ?_) (by simpa [P.leBytes] using Ev.now (h :: out))
    simp only [dragnetref02_Bytes.l0]
    rw [if_neg (by simp at this; omega)]
  | n + 1, v, h, out, hn, h0, h1, hh0, hh1, hl => by
    have hv : 0 < v := by
      rcases Int.lt_or_le 0 v with h | h
      · exact h
      · have : v = 0 := by omega
        subst this
        rw [lenOf_zero] at hn
        omega
    have hs := lenOf_succ hv h1
    have ih := bytes02_loop n (v / 256) (h + 1) (out ++ [v % 256]) (by omega) (by omega) (by omega) (by omega) (by omega) (by simp; omega)
    rw [show (h + ((n + 1 : Nat) : Int)) :: (out ++ P.leBytes (n + 1) v) = (h + 1 + (n : Int)) :: (out ++ [v % 256] ++ P.leBytes n (v / 256)) by rw [P.leBytes, List.append_assoc, show h + ((n + 1 : Nat) : Int) = h + 1 + (n : Int) by omega]; rfl]
    refine Ev.step (fun k => ?_) ih
    simp only [dragnetref02_Bytes.l0, Option.bind_some]
    rw [if_pos hv, if_pos (by simp; omega), if_pos (by simp; omega), Int.tmod_eq_emod_of_nonneg h0, Int.tdiv_eq_ediv_of_nonneg h0, u64_in (by omega) (by omega), Int.emod_emod_of_dvd _ (Int.dvd_refl _)]
    simp only [List.cons_append, Int.toNat_zero, List.set_cons_zero, rd, List.getD_cons_zero]
    rw [Int.emod_eq_of_lt (by omega) (by omega)]
theorem bytes02 {v : Int} (h0 : 0 ≤ v) (h1 : v ≤ 18446744073709551615) : Ev (fun k => dragnetref02_Bytes.f k v) (numBytes v) := by
  unfold numBytes
  split
  · next h =>
    refine Ev.congr (f := fun _ => some [v]) (fun k => ?_) (Ev.now _)
    unfold dragnetref02_Bytes.f
    rw [if_pos h, Int.emod_eq_of_lt h0 (by omega)]
  · next h =>
    have := lenOf_le8 h0 h1
    refine Ev.congr (fun k => ?_) (bytes02_loop (lenOf v) v 247 [] rfl h0 h1 (by omega) (by omega) (by simp; omega))
    unfold dragnetref02_Bytes.f
    rw [if_neg h]

/-! ### Take -/
theorem take02_loop (l : List Int) (hl : okbs l) (hn : l.length ≤ 100000000) (K : Nat) (hK : K ≤ 8) (hK1 : 1 + K ≤ l.length) (hK0 : 0 < K) : ∀ (i : Nat), i ≤ K →
    Ev (fun k => dragnetref02_Take.l0 k l (K : Int) (leVal (((l.take (1 + K)).drop 1).drop i)) (i : Int))
      (if leVal ((l.take (1 + K)).drop 1) ≤ 247 ∨ lenOf (leVal ((l.take (1 + K)).drop 1)) < K then (0, 0, 2) else (leVal ((l.take (1 + K)).drop 1), 1 + (K : Int), 0)) := by
  have hbl : ((l.take (1 + K)).drop 1).length = K := by simp; omega
  have hbo : okbs ((l.take (1 + K)).drop 1) := okbs_drop (okbs_take hl _) _
  have hat : ∀ i (hi : i < K), rd ((l.take (1 + K)).drop 1) (i : Int) = rd l ((i + 1 : Nat) : Int) := by
    intro i hi
    rw [rd_nat _ i (by omega), rd_nat _ (i + 1) (by omega)]
    simp [Nat.add_comm]
  generalize (l.take (1 + K)).drop 1 = bs at hbl hbo hat
  have hp8 : ∀ n, n ≤ 8 → (256 : Int) ^ n ≤ 18446744073709551616 := by
    intro n h
    rcases (by omega : n = 0 ∨ n = 1 ∨ n = 2 ∨ n = 3 ∨ n = 4 ∨ n = 5 ∨ n = 6 ∨ n = 7 ∨ n = 8) with rfl | rfl | rfl | rfl | rfl | rfl | rfl | rfl | rfl <;> decide
  have hV := leVal_lt bs hbo
  rw [hbl] at hV
  have hV1 : leVal bs ≤ 18446744073709551615 := by have := hp8 K hK; omega
  have hle : lenOf (leVal bs) ≤ K := (lenOf_iff hV.1 hV1 K).2 hV.2
  intro i
  induction i with
  | zero =>
    intro _
    refine Ev.call (bytes02 hV.1 hV1) (Ev.now _) (fun k hk => ?_)
    simp only [dragnetref02_Take.l0, List.drop_zero]
    rw [if_neg (by simp), hk, Option.bind_some, wrap_in (by omega) (by omega), numBytes_len]
    by_cases h : leVal bs ≤ 247
    · rw [if_pos h, if_neg (by simp; omega), if_pos (Or.inl h)]
    · rw [if_neg h]
      by_cases h2 : lenOf (leVal bs) < K
      · rw [if_neg (by simp; omega), if_pos (Or.inr h2)]
      · rw [if_pos (by simp; omega), if_neg (by omega)]
  | succ i ih =>
    intro hi
    have hd : bs.drop i = rd bs (i : Int) :: bs.drop (i + 1) := drop_cons_rd bs i (by omega)
    have hv := leVal_lt (bs.drop (i + 1)) (okbs_drop hbo _)
    have hv2 := leVal_lt (bs.drop i) (okbs_drop hbo _)
    rw [hd, leVal, List.length_cons, Int.pow_succ] at hv2
    have hlen : (bs.drop (i + 1)).length + 1 ≤ 8 := by simp; omega
    have hp := hp8 _ hlen
    rw [Int.pow_succ] at hp
    have hb := rd_ok hbo (i : Int)
    refine Ev.step (fun k => ?_) (ih (by omega))
    simp only [dragnetref02_Take.l0]
    rw [if_pos (by omega), if_pos (by omega), if_pos (by omega), ← hat i (by omega), wrap_in (by omega) (by omega), hd, leVal]
    unfold okb at hb
    rw [u64_in (x := rd bs (i : Int)) (by omega) (by omega), u64_in (x := leVal (bs.drop (i + 1)) * 256) (by omega) (by omega), u64_in (by omega) (by omega)]
    congr 1
    · omega
    · omega
theorem take02 {l : List Int} (hl : okbs l) (hn : l.length ≤ 100000000) : Ev (fun k => dragnetref02_Take.f k l) (takeNum l) := by
  unfold takeNum
  split
  · next h =>
    refine Ev.congr (f := fun _ => some (0, 0, 3)) (fun k => ?_) (Ev.now _)
    unfold dragnetref02_Take.f
    rw [if_pos (by omega)]
  · next h =>
    have hx := rd_ok hl 0
    have hx0 := hx.1
    have hx1 := hx.2
    split
    · next h2 =>
      refine Ev.congr (f := fun _ => some (rd l 0, 1, 0)) (fun k => ?_) (Ev.now _)
      unfold dragnetref02_Take.f
      rw [if_neg (by omega), if_pos (by omega), if_pos h2, u64_in hx0 (by omega)]
    · next h2 =>
      have e1 : wrap64 (rd l 0) = rd l 0 := wrap_in (by omega) (by omega)
      have e2 : wrap64 (rd l 0 - 247) = rd l 0 - 247 := wrap_in (by omega) (by omega)
      have e3 : wrap64 ((l.length : Int) - 1) = (l.length : Int) - 1 := wrap_in (by omega) (by omega)
      split
      · next h3 =>
        refine Ev.congr (f := fun _ => some (0, 0, 3)) (fun k => ?_) (Ev.now _)
        unfold dragnetref02_Take.f
        rw [if_neg (by omega), if_pos (by omega), if_neg h2, e1, e2, e3, if_pos h3]
      · next h3 =>
        obtain ⟨K, hK⟩ := Int.eq_ofNat_of_zero_le (show 0 ≤ rd l 0 - 247 by omega)
        have := take02_loop l hl hn K (by omega) (by omega) (by omega) K (Nat.le_refl _)
        rw [List.drop_of_length_le (by simp; omega)] at this
        rw [hK, Int.toNat_natCast]
        refine Ev.congr (fun k => ?_) (by simpa using this)
        unfold dragnetref02_Take.f
        rw [if_neg (by omega), if_pos (by omega), if_neg h2, e1, e2, e3, if_neg h3, hK]
        rfl
end Go.Proofs.Ytnmidkjmflnolaa.Pure
