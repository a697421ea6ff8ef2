/- What is encoded is decoded as it was: with no reference in sight. -/
import Derived.Test.YtnmidkjmflnolaaP1
import Derived.Test.YtnmidkjmflnolaaSymDecode
import Derived.Test.YtnmidkjmflnolaaPureBase
namespace Go.Proofs.Ytnmidkjmflnolaa.Pure
open Go Go.RowKit Go.Proofs.YtnmidkjmflnolaaW.PrintWords Go.Proofs.Ytnmidkjmflnolaa.P Go.Proofs.Ytnmidkjmflnolaa.Maps
set_option linter.unusedVariables false

theorem rdE (l : List ByteArray) (i : Nat) (h : i < l.length) : rdOf ByteArray.empty l (i : Int) = l[i] := rdOf_nat _ l i h
theorem same01 {l r : List Int} (hl : okbs l) (hr : okbs r) : dragnetref01_Same.f l r = some (decide (l = r)) := by
  unfold dragnetref01_Same.f
  rw [str_beq hl hr]
theorem codesF_some (l : List ByteArray) : ∀ (k : Nat), k ≤ l.length → ∀ s c, codesF l k s = some c → ∃ (m : Nat) (h : m < l.length), m < k ∧ c = (m : Int) ∧ l[m] = s := by
  intro k
  induction k with
  | zero => intro _ s c h; cases h
  | succ k ih =>
    intro hk s c h
    simp only [codesF, upd] at h
    split at h
    · rename_i e
      injection h with h
      exact ⟨k, by omega, by omega, h.symm, by rw [e, rdE l k (by omega)]⟩
    · obtain ⟨m, hm, h1, h2, h3⟩ := ih (by omega) s c h
      exact ⟨m, hm, by omega, h2, h3⟩
theorem codesF_none (l : List ByteArray) : ∀ (k : Nat), k ≤ l.length → ∀ s, codesF l k s = none → ∀ (m : Nat) (h : m < l.length), m < k → l[m] ≠ s := by
  intro k
  induction k with
  | zero => intro _ s _ m _ hm; omega
  | succ k ih =>
    intro hk s h m hm hmk e
    simp only [codesF, upd] at h
    split at h
    · cases h
    · rename_i hne
      by_cases hlt : m < k
      · exact ih (by omega) s h m hm hlt e
      · obtain rfl : m = k := by omega
        exact hne (by rw [rdE l m hm, e])
theorem fresh_apart : ∀ (seen l : List ByteArray), freshIn seen l = true → (∀ (i : Nat) (h : i < l.length), memB l[i] seen = false) ∧ ∀ (i j : Nat) (hi : i < l.length) (hj : j < l.length), l[i] = l[j] → i = j
  | _, [], _ => ⟨fun i h => absurd h (Nat.not_lt_zero _), fun i _ h => absurd h (Nat.not_lt_zero _)⟩
  | seen, s :: r, h => by
    simp only [freshIn, Bool.and_eq_true, Bool.not_eq_true'] at h
    obtain ⟨h1, h2⟩ := fresh_apart (seen ++ [s]) r h.2
    have hm : ∀ (i : Nat) (hi : i < r.length), memB r[i] seen = false ∧ s ≠ r[i] := fun i hi => by
      have := h1 i hi
      rw [memB_snoc, Bool.or_eq_false_iff] at this
      exact ⟨this.1, of_decide_eq_false this.2⟩
    refine ⟨fun i hi => ?_, fun i j hi hj he => ?_⟩
    · cases i with
      | zero => exact h.1.2
      | succ i => simpa using (hm i (by simpa using hi)).1
    · cases i with
      | zero =>
        cases j with
        | zero => rfl
        | succ j => exact absurd (by simpa using he) (hm j (Nat.lt_of_succ_lt_succ hj)).2
      | succ i =>
        cases j with
        | zero => exact absurd (by simpa using he.symm) (hm i (Nat.lt_of_succ_lt_succ hi)).2
        | succ j => rw [h2 i j (by simpa using hi) (by simpa using hj) (by simpa using he)]
theorem formed_apart {l : List ByteArray} (h : formedB l = true) (i j : Nat) (hi : i < l.length) (hj : j < l.length) (he : l[i] = l[j]) : i = j := by
  simp only [formedB, Bool.and_eq_true] at h
  exact (fresh_apart [] l h.2).2 i j hi hj he
theorem formed_len {l : List ByteArray} (h : formedB l = true) : l.length ≤ 32 := by
  simp only [formedB, Bool.and_eq_true, decide_eq_true_eq] at h
  exact h.1
theorem formed_size {l : List ByteArray} (h : formedB l = true) (i : Nat) (hi : i < l.length) : 2 ≤ l[i].size ∧ l[i].size ≤ 8 := by
  have := sized_of_formed h i hi
  rwa [rdE l i hi] at this

/-- What 'tryN' finds. -/
theorem tryN_spec (l : List ByteArray) (s : ByteArray) : ∀ n : Nat,
    (tryN l s n = none ∧ ∀ j, 2 ≤ j → j ≤ n → codesF l l.length (s.extract 0 j) = none) ∨
    ∃ m c, tryN l s n = some (m, c) ∧ 2 ≤ m ∧ m ≤ n ∧ codesF l l.length (s.extract 0 m) = some c ∧ ∀ j, m < j → j ≤ n → codesF l l.length (s.extract 0 j) = none
  | 0 => .inl ⟨rfl, fun j h1 h2 => by omega⟩
  | n + 1 => by
    by_cases h2 : n + 1 < 2
    · exact .inl ⟨tryN_low h2, fun j h1 h2 => by omega⟩
    · cases hc : codesF l l.length (s.extract 0 (n + 1)) with
      | some c => exact .inr ⟨n + 1, c, tryN_some (by omega) hc, by omega, Nat.le_refl _, hc, fun j h1 h2 => by omega⟩
      | none =>
        rw [tryN_none (by omega) hc]
        rcases tryN_spec l s n with ⟨h3, h4⟩ | ⟨m, c, h3, h4, h5, h6, h7⟩
        · refine .inl ⟨h3, fun j hj1 hj2 => ?_⟩
          by_cases e : j = n + 1
          · rw [e]; exact hc
          · exact h4 j hj1 (by omega)
        · refine .inr ⟨m, c, h3, h4, by omega, h6, fun j hj1 hj2 => ?_⟩
          by_cases e : j = n + 1
          · rw [e]; exact hc
          · exact h7 j hj1 (by omega)
theorem try_cases {l : List ByteArray} (hf : formedB l = true) (b : List Int) (hb : b ≠ []) :
    tryN l (strOfNums b) (min 8 (strOfNums b).size) = none ∨
    ∃ (m : Nat) (h : m < l.length), l[m].size ≤ b.length ∧ strOfNums (b.take l[m].size) = l[m] ∧ tryN l (strOfNums b) (min 8 (strOfNums b).size) = some (l[m].size, (m : Int)) := by
  rw [str_size]
  rcases tryN_spec l (strOfNums b) (min 8 b.length) with ⟨h, _⟩ | ⟨n, c, h1, h2, h3, h4, _⟩
  · exact .inl h
  · obtain ⟨m, hm, _, rfl, he⟩ := codesF_some l l.length (Nat.le_refl _) _ _ h4
    rw [str_take] at he
    have hs : l[m].size = n := by rw [he, str_size, List.length_take]; omega
    exact .inr ⟨m, hm, by omega, by rw [hs, he], by rw [h1, hs]⟩
theorem enc_dec {l : List ByteArray} (hf : formedB l = true) (b : List Int) (hb : okbs b) (hn : b.length ≤ 1048576) : ∀ (n at_ : Nat) (out : List Int), b.length - at_ < n → at_ ≤ b.length → out.length + 2 * (b.length - at_) ≤ 4194304 →
    ∃ codes, Ev (fun k => sym_Encode.l0 k l out (strOfNums (b.drop at_))) (out ++ codes, 0) ∧ okbs codes ∧ codes.length ≤ 2 * (b.length - at_) ∧ Ev (fun k => sym_Decode.l0 k l codes (b.length : Int) (b.take at_)) (b, 0) := by
  intro n
  induction n with
  | zero => intro at_ out h; omega
  | succ n ih =>
    intro at_ out hlt hle hsum
    have hlen := formed_len hf
    by_cases he : at_ < b.length
    · have hne : b.drop at_ ≠ [] := by simp; omega
      have hsz : (strOfNums (b.drop at_)).size = b.length - at_ := by rw [str_size, List.length_drop]
      have hd0 : okbs (b.drop at_) := okbs_drop hb _
      have htl : (b.take at_).length = at_ := by rw [List.length_take]; omega
      rcases try_cases hf (b.drop at_) hne with ht | ⟨m, hm, h1, h2, ht⟩
      · have hbt : bt (strOfNums (b.drop at_)) 0 = rd b (at_ : Int) := by
          rw [str_bt hd0 (by omega) (by simp; omega)]
          simp [rd, List.getD]
        have hc := rd_ok hb (at_ : Int)
        obtain ⟨codes, hq1, hq2, hq3, hq4⟩ := ih (at_ + 1) (out ++ [255, rd b (at_ : Int)]) (by omega) (by omega) (by simp; omega)
        rw [List.append_assoc] at hq1
        refine ⟨[255, rd b (at_ : Int)] ++ codes, Ev.step (fun k => ?_) hq1, okbs_append (fun x hx => by
          simp only [List.mem_cons, List.not_mem_nil, or_false] at hx
          rcases hx with rfl | rfl
          · exact ⟨by omega, by omega⟩
          · exact hc) hq2, by simp; omega, Ev.step (fun k => ?_) hq4⟩
        · rw [sym_Encode.step, if_pos (by omega), ht]
          simp only [afterTry]
          rw [if_pos (by omega), hbt, str_drop, List.drop_drop]
        · have h0 : rd ([255, rd b (at_ : Int)] ++ codes) 0 = 255 := rfl
          have hw : wrap64 255 = 255 := wrap_in (by omega) (by omega)
          have hcut : (([255, rd b (at_ : Int)] ++ codes).take 2).drop 1 = [rd b (at_ : Int)] := rfl
          have hdr : ([255, rd b (at_ : Int)] ++ codes).drop 2 = codes := rfl
          have hbo : bytesOf (strOfNums [rd b (at_ : Int)]) = [rd b (at_ : Int)] := bytesOf_str (fun x hx => by simp at hx; subst hx; exact hc)
          simp only [sym_Decode.l0, h0, hw, hcut, hdr, hbo, htl]
          rw [if_pos (by simp), if_pos (by omega), if_neg (by omega), if_pos ⟨trivial, by simp⟩, if_neg (by omega), if_pos (by omega)]
          congr 1
          rw [List.take_succ_eq_append_getElem he, rd_nat b at_ he]
      · have hsz := formed_size hf m hm
        rw [List.length_drop] at h1
        obtain ⟨codes, hq1, hq2, hq3, hq4⟩ := ih (at_ + l[m].size) (out ++ [(m : Int) % 256]) (by omega) (by omega) (by simp; omega)
        rw [List.append_assoc] at hq1
        refine ⟨[(m : Int) % 256] ++ codes, Ev.step (fun k => ?_) hq1, okbs_append (fun x hx => by
          simp only [List.mem_cons, List.not_mem_nil, or_false] at hx
          subst hx
          exact ⟨by omega, by omega⟩) hq2, by simp; omega, Ev.step (fun k => ?_) hq4⟩
        · rw [sym_Encode.step, if_pos (by omega), ht]
          simp only [afterTry]
          rw [if_pos (by omega), str_drop, List.drop_drop]
        · have h0 : rd ([(m : Int) % 256] ++ codes) 0 = (m : Int) := by
            show (m : Int) % 256 = (m : Int)
            omega
          have hw : wrap64 (m : Int) = (m : Int) := wrap_in (by omega) (by omega)
          have hdr : ([(m : Int) % 256] ++ codes).drop 1 = codes := rfl
          have hbo : bytesOf l[m] = (b.drop at_).take l[m].size := by
            have := congrArg bytesOf h2
            rw [bytesOf_str (okbs_take hd0 _)] at this
            exact this.symm
          simp only [sym_Decode.l0, h0, hw, hdr, htl, rdE l m hm]
          have c1 : 0 < ([(m : Int) % 256] ++ codes).length := by simp
          have c2 : (0 : Int) ≤ (m : Int) := Int.natCast_nonneg m
          have c3 : (m : Int) < (l.length : Int) := Int.ofNat_lt.2 hm
          have c4 : ¬ ((at_ : Int) + (l[m].size : Int) > (b.length : Int)) := by omega
          have c5 : at_ + l[m].size < 140737488355328 := by omega
          rw [if_pos c1, if_pos c2, if_pos c3, if_neg c4, if_pos c5, hbo]
          congr 1
          rw [List.take_add]
    · obtain rfl : at_ = b.length := by omega
      refine ⟨[], ?_, fun x hx => by simp at hx, by simp, Ev.step (f := fun _ => some (b, 0)) (fun k => ?_) (Ev.now _)⟩
      · rw [List.append_nil]
        refine Ev.step (f := fun _ => some (out, 0)) (fun k => ?_) (Ev.now _)
        rw [sym_Encode.step, if_neg (by rw [str_size]; simp)]
      · simp only [sym_Decode.l0]
        rw [if_neg (by simp), List.take_length]
theorem back06 {l : List ByteArray} (hf : formedB l = true) (b : List Int) (hb : okbs b) (hn : b.length ≤ 1048576) : ∃ codes, Ev (fun k => sym_Encode.f k l b) (codes, 0) ∧ okbs codes ∧ codes.length ≤ 2 * b.length ∧ Ev (fun k => sym_Decode.f k l codes (b.length : Int)) (b, 0) := by
  obtain ⟨codes, h1, h2, h3, h4⟩ := enc_dec hf b hb hn (b.length + 1) 0 [] (by omega) (by omega) (by simp; omega)
  refine ⟨codes, ?_, h2, by simpa using h3, ?_⟩
  · refine Ev.congr (fun k => ?_) h1
    unfold sym_Encode.f
    rw [if_pos hf, List.drop_zero]
  · refine Ev.congr (fun k => ?_) h4
    unfold sym_Decode.f
    rw [if_pos ⟨hf, by omega⟩, List.take_zero]

end Go.Proofs.Ytnmidkjmflnolaa.Pure
