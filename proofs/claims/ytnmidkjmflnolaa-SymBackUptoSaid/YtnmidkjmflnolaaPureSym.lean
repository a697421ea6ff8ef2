/- Plain law on tables: what the reference's printed functions come to. -/
import Derived.Test.YtnmidkjmflnolaaP1
import Derived.Test.YtnmidkjmflnolaaSymEncode
import Derived.Test.YtnmidkjmflnolaaPureBase
namespace Go.Proofs.Ytnmidkjmflnolaa.Pure
open Go Go.RowKit Go.Proofs.YtnmidkjmflnolaaW.PrintWords Go.Proofs.Ytnmidkjmflnolaa.P Go.Proofs.Ytnmidkjmflnolaa.Maps
set_option linter.unusedVariables false

theorem rdE (l : List ByteArray) (i : Nat) (h : i < l.length) : rdOf ByteArray.empty l (i : Int) = l[i] := rdOf_nat _ l i h

/-! ### copies and comparisons -/
theorem copy06 {l : List ByteArray} (h : l.length ≤ 1048576) : dragnetref06_Copy.f l = some l := by
  unfold dragnetref06_Copy.f
  simp only [Option.bind_some, List.nil_append, List.length_nil, Nat.zero_add]
  rw [if_pos (by omega)]
theorem copy01 {l : List Int} (h : l.length ≤ 100000000) : dragnetref01_Copy.f l = some l := by
  unfold dragnetref01_Copy.f
  simp only [Option.bind_some, List.nil_append, List.length_nil, Nat.zero_add]
  rw [if_pos (by omega)]
theorem same01 {l r : List Int} (hl : okbs l) (hr : okbs r) : dragnetref01_Same.f l r = some (decide (l = r)) := by
  unfold dragnetref01_Same.f
  rw [str_beq hl hr]
theorem same06_loop (l r : List ByteArray) (hn : l.length ≤ 1048576) (hr : l.length = r.length) : ∀ (d i : Nat), i + d = l.length → (∀ j, j < i → l[j]? = r[j]?) → Ev (fun k => dragnetref06_Same.l0 k l r (i : Int)) (decide (l = r)) := by
  intro d
  induction d with
  | zero =>
    intro i hi hp
    have e : l = r := List.ext_getElem? (fun j => by
      by_cases h : j < i
      · exact hp j h
      · rw [List.getElem?_eq_none (by omega), List.getElem?_eq_none (by omega)])
    refine Ev.step (f := fun _ => some true) (fun k => ?_) (by rw [decide_eq_true e]; exact Ev.now true)
    simp only [dragnetref06_Same.l0]
    rw [if_neg (by omega)]
  | succ d ih =>
    intro i hi hp
    by_cases hx : l[i]'(by omega) = r[i]'(by omega)
    · refine Ev.step (f := fun k => dragnetref06_Same.l0 k l r ((i + 1 : Nat) : Int)) (fun k => ?_) (ih (i + 1) (by omega) (fun j hj => ?_))
      · simp only [dragnetref06_Same.l0]
        rw [if_pos (by omega), if_pos (by omega), if_pos (by omega), rdE l i (by omega), rdE r i (by omega), if_pos (by rw [hx]), wrap_in (by omega) (by omega)]
        rfl
      · by_cases h : j < i
        · exact hp j h
        · obtain rfl : j = i := by omega
          rw [List.getElem?_eq_getElem (by omega), List.getElem?_eq_getElem (by omega), hx]
    · refine Ev.step (f := fun _ => some false) (fun k => ?_) (by rw [decide_eq_false (fun e => hx (by subst e; rfl))]; exact Ev.now false)
      simp only [dragnetref06_Same.l0]
      rw [if_pos (by omega), if_pos (by omega), if_pos (by omega), rdE l i (by omega), rdE r i (by omega), if_neg (fun e => hx (toList_inj.1 e))]
theorem same06 (l r : List ByteArray) (hn : l.length ≤ 1048576) : Ev (fun k => dragnetref06_Same.f k l r) (decide (l = r)) := by
  unfold dragnetref06_Same.f
  by_cases h : l.length = r.length
  · refine Ev.congr (f := fun k => dragnetref06_Same.l0 k l r 0) (fun k => by rw [if_pos (by omega)]) ?_
    exact same06_loop l r hn h l.length 0 (by omega) (fun j hj => absurd hj (Nat.not_lt_zero _))
  · refine Ev.congr (f := fun _ => some false) (fun k => by rw [if_neg (by omega)]) ?_
    rw [decide_eq_false (fun e => h (by rw [e]))]
    exact Ev.now false

/-! ### formed -/
theorem drop_take_cons (l : List ByteArray) (i j : Nat) (hi : i < l.length) (hj : j < i) : (l.take i).drop j = l[j] :: (l.take i).drop (j + 1) := by
  rw [List.drop_eq_getElem_cons (by simp; omega)]
  simp
theorem formed_l1 (l : List ByteArray) (r : Bool) (i : Nat) (hl : l.length ≤ 32) (hi : i < l.length) (hr : Ev (fun k => dragnetref06_Formed.l0 k l ((i + 1 : Nat) : Int)) r) :
    ∀ (d j : Nat), j + d = i → Ev (fun k => dragnetref06_Formed.l1 k l (i : Int) (j : Int)) (if memB l[i] ((l.take i).drop j) = true then false else r) := by
  intro d
  induction d with
  | zero =>
    intro j hj
    obtain rfl : j = i := by omega
    rw [List.drop_of_length_le (by simp; omega), show memB l[j] [] = false from rfl, if_neg (by simp)]
    refine Ev.step (fun k => ?_) hr
    simp only [dragnetref06_Formed.l1]
    rw [if_neg (by omega), wrap_in (by omega) (by omega)]
    rfl
  | succ d ih =>
    intro j hj
    rw [drop_take_cons l i j hi (by omega)]
    by_cases hx : l[i] = l[j]
    · rw [if_pos (by simp [memB, hx])]
      refine Ev.step (f := fun _ => some false) (fun k => ?_) (Ev.now false)
      simp only [dragnetref06_Formed.l1]
      rw [if_pos (by omega), if_pos (by omega), if_pos (by omega), if_pos (by omega), if_pos (by omega), rdE l i hi, rdE l j (by omega), if_pos (by rw [hx])]
    · have e : memB l[i] (l[j] :: (l.take i).drop (j + 1)) = memB l[i] ((l.take i).drop (j + 1)) := by
        simp only [memB, List.any_cons]
        rw [decide_eq_false (fun e => hx e.symm)]
        rfl
      rw [e]
      refine Ev.step (fun k => ?_) (ih (j + 1) (by omega))
      simp only [dragnetref06_Formed.l1]
      rw [if_pos (by omega), if_pos (by omega), if_pos (by omega), if_pos (by omega), if_pos (by omega), rdE l i hi, rdE l j (by omega), if_neg (fun e => hx (toList_inj.1 e)), wrap_in (by omega) (by omega)]
      rfl
theorem formed_l0 (l : List ByteArray) (hl : l.length ≤ 32) : ∀ (d i : Nat), i + d = l.length → Ev (fun k => dragnetref06_Formed.l0 k l (i : Int)) (freshIn (l.take i) (l.drop i)) := by
  intro d
  induction d with
  | zero =>
    intro i hi
    rw [List.drop_of_length_le (by omega)]
    refine Ev.step (f := fun _ => some true) (fun k => ?_) (Ev.now true)
    simp only [dragnetref06_Formed.l0]
    rw [if_neg (by omega)]
  | succ d ih =>
    intro i hi
    have hlt : i < l.length := by omega
    rw [List.drop_eq_getElem_cons hlt]
    simp only [freshIn]
    by_cases h2 : l[i].size < 2
    · rw [show okSym l[i] = false by simp only [okSym]; rw [decide_eq_false (by omega)]; rfl]
      simp only [Bool.false_and]
      refine Ev.step (f := fun k => dragnetref06_Formed.j1 k l (i : Int) true) (fun k => ?_) (Ev.step (f := fun _ => some false) (fun k => ?_) (Ev.now false))
      · simp only [dragnetref06_Formed.l0]
        rw [if_pos (by omega), if_pos (by omega), rdE l i hlt, if_pos (by omega)]
      · simp only [dragnetref06_Formed.j1]
        rw [if_pos trivial]
    · by_cases h8 : l[i].size ≤ 8
      · rw [show okSym l[i] = true by simp only [okSym]; rw [decide_eq_true (by omega), decide_eq_true h8]; rfl]
        simp only [Bool.true_and]
        have e : (!memB l[i] (l.take i) && freshIn (l.take i ++ [l[i]]) (l.drop (i + 1))) = if memB l[i] ((l.take i).drop 0) = true then false else freshIn (l.take (i + 1)) (l.drop (i + 1)) := by
          rw [List.drop_zero, List.take_succ_eq_append_getElem hlt]
          cases memB l[i] (l.take i) <;> simp
        rw [e]
        refine Ev.step (f := fun k => dragnetref06_Formed.j1 k l (i : Int) false) (fun k => ?_) (Ev.step (f := fun k => dragnetref06_Formed.l1 k l (i : Int) ((0 : Nat) : Int)) (fun k => ?_) (formed_l1 l _ i hl hlt (ih (i + 1) (by omega)) i 0 (by omega)))
        · simp only [dragnetref06_Formed.l0]
          rw [if_pos (by omega), if_pos (by omega), rdE l i hlt, if_neg (by omega), decide_eq_false (by omega)]
        · simp only [dragnetref06_Formed.j1]
          rw [if_neg (by simp)]
          rfl
      · rw [show okSym l[i] = false by simp only [okSym]; rw [decide_eq_false h8]; simp]
        simp only [Bool.false_and]
        refine Ev.step (f := fun k => dragnetref06_Formed.j1 k l (i : Int) true) (fun k => ?_) (Ev.step (f := fun _ => some false) (fun k => ?_) (Ev.now false))
        · simp only [dragnetref06_Formed.l0]
          rw [if_pos (by omega), if_pos (by omega), rdE l i hlt, if_neg (by omega), decide_eq_true (by omega)]
        · simp only [dragnetref06_Formed.j1]
          rw [if_pos trivial]
theorem formed06 (l : List ByteArray) : Ev (fun k => dragnetref06_Formed.f k l) (formedB l) := by
  unfold dragnetref06_Formed.f formedB
  by_cases h : l.length ≤ 32
  · refine Ev.congr (f := fun k => dragnetref06_Formed.l0 k l ((0 : Nat) : Int)) (fun k => by rw [if_neg (by omega)]; rfl) ?_
    rw [decide_eq_true h]
    simpa using formed_l0 l h l.length 0 (by omega)
  · refine Ev.congr (f := fun _ => some false) (fun k => by rw [if_pos (by omega)]) ?_
    rw [decide_eq_false h]
    exact Ev.now false

/-! ### the longest symbol -/
/-- Symbol t begins bytes b. -/
def isPre (t : ByteArray) (b : List Int) : Prop := t.size ≤ b.length ∧ strOfNums (b.take t.size) = t
instance (t : ByteArray) (b : List Int) : Decidable (isPre t b) := by unfold isPre; exact inferInstance
/-- What is known of 'best' when the first i symbols have been seen. -/
def Best (l : List ByteArray) (b : List Int) (i : Nat) (best : Int) : Prop :=
  (best = -1 ∧ ∀ (j : Nat) (h : j < l.length), j < i → ¬ isPre l[j] b) ∨
  (∃ (m : Nat) (h : m < l.length), best = (m : Int) ∧ m < i ∧ isPre l[m] b ∧ ∀ (j : Nat) (h' : j < l.length), j < i → isPre l[j] b → l[j].size ≤ l[m].size)
theorem longest_loop (l : List ByteArray) (b : List Int) (hl : l.length ≤ 1048576) (hb : b.length ≤ 100000000) : ∀ (d i : Nat) (best : Int), i + d = l.length → Best l b i best → ∃ r, Ev (fun k => dragnetref06_longest.l0 k l b best (i : Int)) r ∧ Best l b l.length r := by
  intro d
  induction d with
  | zero =>
    intro i best hi hB
    refine ⟨best, Ev.step (f := fun _ => some best) (fun k => ?_) (Ev.now best), by rw [← show i = l.length by omega]; exact hB⟩
    simp only [dragnetref06_longest.l0]
    rw [if_neg (by omega)]
  | succ d ih =>
    intro i best hi hB
    have hlt : i < l.length := by omega
    have hw : wrap64 ((i : Int) + 1) = ((i + 1 : Nat) : Int) := by rw [wrap_in (by omega) (by omega)]; rfl
    -- the same best goes on
    have keep : ∀ (hP : ¬ isPre l[i] b ∨ ∃ (m : Nat) (h : m < l.length), best = (m : Int) ∧ l[i].size ≤ l[m].size), Best l b (i + 1) best := by
      intro hP
      rcases hB with ⟨h1, h2⟩ | ⟨m, hm, h1, h2, h3, h4⟩
      · refine .inl ⟨h1, fun j hj hji => ?_⟩
        by_cases e : j < i
        · exact h2 j hj e
        · obtain rfl : j = i := by omega
          rcases hP with hP | ⟨m, hm, h3, _⟩
          · exact hP
          · omega
      · refine .inr ⟨m, hm, h1, by omega, h3, fun j hj hji hp => ?_⟩
        by_cases e : j < i
        · exact h4 j hj e hp
        · obtain rfl : j = i := by omega
          rcases hP with hP | ⟨m', hm', h5, h6⟩
          · exact absurd hp hP
          · obtain rfl : m = m' := by omega
            exact h6
    have take : ∀ (hP : isPre l[i] b) (hS : best = -1 ∨ ∃ (m : Nat) (h : m < l.length), best = (m : Int) ∧ l[m].size < l[i].size), Best l b (i + 1) (i : Int) := by
      intro hP hS
      refine .inr ⟨i, hlt, rfl, by omega, hP, fun j hj hji hp => ?_⟩
      by_cases e : j < i
      · rcases hB with ⟨h1, h2⟩ | ⟨m, hm, h1, h2, h3, h4⟩
        · exact absurd hp (h2 j hj e)
        · have := h4 j hj e hp
          rcases hS with hS | ⟨m', hm', h5, h6⟩
          · omega
          · obtain rfl : m = m' := by omega
            omega
      · obtain rfl : j = i := by omega
        exact Nat.le_refl _
    by_cases hsz : l[i].size ≤ b.length
    · by_cases heq : strOfNums (b.take l[i].size) = l[i]
      · have hP : isPre l[i] b := ⟨hsz, heq⟩
        have hcond : (strOfNums (b.take (((l[i].size : Int) : Int).toNat))).toList = l[i].toList := by rw [Int.toNat_natCast, heq]
        by_cases hneg : best < 0
        · have hb1 : best = -1 := by rcases hB with ⟨h, _⟩ | ⟨m, _, h, _⟩ <;> omega
          obtain ⟨r, hr, hR⟩ := ih (i + 1) (i : Int) (by omega) (take hP (.inl hb1))
          refine ⟨r, Ev.step (fun k => ?_) hr, hR⟩
          simp only [dragnetref06_longest.l0]
          rw [if_pos (by omega), if_pos (by omega), rdE l i hlt, if_pos (by omega), if_pos (by omega), if_pos hcond, if_pos hneg, hw]
        · obtain ⟨m, hm, h1, h2, h3, h4⟩ : ∃ (m : Nat) (h : m < l.length), best = (m : Int) ∧ m < i ∧ isPre l[m] b ∧ ∀ (j : Nat) (h' : j < l.length), j < i → isPre l[j] b → l[j].size ≤ l[m].size := by
            rcases hB with ⟨h, _⟩ | h
            · omega
            · exact h
          subst h1
          by_cases hgt : l[m].size < l[i].size
          · obtain ⟨r, hr, hR⟩ := ih (i + 1) (i : Int) (by omega) (take hP (.inr ⟨m, hm, rfl, hgt⟩))
            refine ⟨r, Ev.step (fun k => ?_) hr, hR⟩
            simp only [dragnetref06_longest.l0]
            rw [if_pos (by omega), if_pos (by omega), rdE l i hlt, if_pos (by omega), if_pos (by omega), if_pos hcond, if_neg hneg, if_pos (by omega), if_pos (by omega), rdE l m hm, if_pos (by omega), hw]
          · obtain ⟨r, hr, hR⟩ := ih (i + 1) (m : Int) (by omega) (keep (.inr ⟨m, hm, rfl, by omega⟩))
            refine ⟨r, Ev.step (fun k => ?_) hr, hR⟩
            simp only [dragnetref06_longest.l0]
            rw [if_pos (by omega), if_pos (by omega), rdE l i hlt, if_pos (by omega), if_pos (by omega), if_pos hcond, if_neg hneg, if_pos (by omega), if_pos (by omega), rdE l m hm, if_neg (by omega), hw]
      · have hcond : ¬ (strOfNums (b.take (((l[i].size : Int) : Int).toNat))).toList = l[i].toList := by rw [Int.toNat_natCast]; exact fun e => heq (toList_inj.1 e)
        obtain ⟨r, hr, hR⟩ := ih (i + 1) best (by omega) (keep (.inl (fun h => heq h.2)))
        refine ⟨r, Ev.step (fun k => ?_) hr, hR⟩
        simp only [dragnetref06_longest.l0]
        rw [if_pos (by omega), if_pos (by omega), rdE l i hlt, if_pos (by omega), if_pos (by omega), if_neg hcond, hw]
    · obtain ⟨r, hr, hR⟩ := ih (i + 1) best (by omega) (keep (.inl (fun h => hsz h.1)))
      refine ⟨r, Ev.step (fun k => ?_) hr, hR⟩
      simp only [dragnetref06_longest.l0]
      rw [if_pos (by omega), if_pos (by omega), rdE l i hlt, if_neg (by omega), hw]
theorem longest06 (l : List ByteArray) (b : List Int) (hl : l.length ≤ 1048576) (hb : b.length ≤ 100000000) : ∃ r, Ev (fun k => dragnetref06_longest.f k l b) r ∧ Best l b l.length r := by
  unfold dragnetref06_longest.f
  exact longest_loop l b hl hb l.length 0 (-1) (by omega) (.inl ⟨rfl, fun j _ h => absurd h (Nat.not_lt_zero _)⟩)

/-! ### the codes of a formed table -/
theorem codesF_some (l : List ByteArray) : ∀ (k : Nat), k ≤ l.length → ∀ s c, codesF l k s = some c → ∃ (m : Nat) (h : m < l.length), m < k ∧ c = (m : Int) ∧ l[m] = s := by
  intro k
  induction k with
  | zero => intro _ s c h; cases h
  | succ k ih =>
    intro hk s c h
    simp only [codesF, upd] at h
    split at h
    · rename_i e
      injection h with h
      exact ⟨k, by omega, by omega, h.symm, by rw [e, rdE l k (by omega)]⟩
    · obtain ⟨m, hm, h1, h2, h3⟩ := ih (by omega) s c h
      exact ⟨m, hm, by omega, h2, h3⟩
theorem codesF_none (l : List ByteArray) : ∀ (k : Nat), k ≤ l.length → ∀ s, codesF l k s = none → ∀ (m : Nat) (h : m < l.length), m < k → l[m] ≠ s := by
  intro k
  induction k with
  | zero => intro _ s _ m _ hm; omega
  | succ k ih =>
    intro hk s h m hm hmk e
    simp only [codesF, upd] at h
    split at h
    · cases h
    · rename_i hne
      by_cases hlt : m < k
      · exact ih (by omega) s h m hm hlt e
      · obtain rfl : m = k := by omega
        exact hne (by rw [rdE l m hm, e])
theorem fresh_apart : ∀ (seen l : List ByteArray), freshIn seen l = true → (∀ (i : Nat) (h : i < l.length), memB l[i] seen = false) ∧ ∀ (i j : Nat) (hi : i < l.length) (hj : j < l.length), l[i] = l[j] → i = j
  | _, [], _ => ⟨fun i h => absurd h (Nat.not_lt_zero _), fun i _ h => absurd h (Nat.not_lt_zero _)⟩
  | seen, s :: r, h => by
    simp only [freshIn, Bool.and_eq_true, Bool.not_eq_true'] at h
    obtain ⟨h1, h2⟩ := fresh_apart (seen ++ [s]) r h.2
    have hm : ∀ (i : Nat) (hi : i < r.length), memB r[i] seen = false ∧ s ≠ r[i] := fun i hi => by
      have := h1 i hi
      rw [memB_snoc, Bool.or_eq_false_iff] at this
      exact ⟨this.1, of_decide_eq_false this.2⟩
    refine ⟨fun i hi => ?_, fun i j hi hj he => ?_⟩
    · cases i with
      | zero => exact h.1.2
      | succ i => simpa using (hm i (by simpa using hi)).1
    · cases i with
      | zero =>
        cases j with
        | zero => rfl
        | succ j => exact absurd (by simpa using he) (hm j (Nat.lt_of_succ_lt_succ hj)).2
      | succ i =>
        cases j with
        | zero => exact absurd (by simpa using he.symm) (hm i (Nat.lt_of_succ_lt_succ hi)).2
        | succ j => rw [h2 i j (by simpa using hi) (by simpa using hj) (by simpa using he)]
theorem formed_apart {l : List ByteArray} (h : formedB l = true) (i j : Nat) (hi : i < l.length) (hj : j < l.length) (he : l[i] = l[j]) : i = j := by
  simp only [formedB, Bool.and_eq_true] at h
  exact (fresh_apart [] l h.2).2 i j hi hj he
theorem formed_len {l : List ByteArray} (h : formedB l = true) : l.length ≤ 32 := by
  simp only [formedB, Bool.and_eq_true, decide_eq_true_eq] at h
  exact h.1
theorem formed_size {l : List ByteArray} (h : formedB l = true) (i : Nat) (hi : i < l.length) : 2 ≤ l[i].size ∧ l[i].size ≤ 8 := by
  have := sized_of_formed h i hi
  rwa [rdE l i hi] at this

/-- What 'tryN' finds. -/
theorem tryN_spec (l : List ByteArray) (s : ByteArray) : ∀ n : Nat,
    (tryN l s n = none ∧ ∀ j, 2 ≤ j → j ≤ n → codesF l l.length (s.extract 0 j) = none) ∨
    ∃ m c, tryN l s n = some (m, c) ∧ 2 ≤ m ∧ m ≤ n ∧ codesF l l.length (s.extract 0 m) = some c ∧ ∀ j, m < j → j ≤ n → codesF l l.length (s.extract 0 j) = none
  | 0 => .inl ⟨rfl, fun j h1 h2 => by omega⟩
  | n + 1 => by
    by_cases h2 : n + 1 < 2
    · exact .inl ⟨tryN_low h2, fun j h1 h2 => by omega⟩
    · cases hc : codesF l l.length (s.extract 0 (n + 1)) with
      | some c => exact .inr ⟨n + 1, c, tryN_some (by omega) hc, by omega, Nat.le_refl _, hc, fun j h1 h2 => by omega⟩
      | none =>
        rw [tryN_none (by omega) hc]
        rcases tryN_spec l s n with ⟨h3, h4⟩ | ⟨m, c, h3, h4, h5, h6, h7⟩
        · refine .inl ⟨h3, fun j hj1 hj2 => ?_⟩
          by_cases e : j = n + 1
          · rw [e]; exact hc
          · exact h4 j hj1 (by omega)
        · refine .inr ⟨m, c, h3, h4, by omega, h6, fun j hj1 hj2 => ?_⟩
          by_cases e : j = n + 1
          · rw [e]; exact hc
          · exact h7 j hj1 (by omega)
/-- By a formed table the two searches find the same. -/
theorem try_longest {l : List ByteArray} (hf : formedB l = true) (b : List Int) (hb : b ≠ []) {r : Int} (hB : Best l b l.length r) :
    (r = -1 ∧ tryN l (strOfNums b) (min 8 (strOfNums b).size) = none) ∨
    ∃ (m : Nat) (h : m < l.length), r = (m : Int) ∧ l[m].size ≤ b.length ∧ strOfNums (b.take l[m].size) = l[m] ∧ tryN l (strOfNums b) (min 8 (strOfNums b).size) = some (l[m].size, (m : Int)) := by
  rw [str_size]
  rcases hB with ⟨rfl, hno⟩ | ⟨m, hm, rfl, _, hp, hmax⟩
  · refine .inl ⟨rfl, ?_⟩
    rcases tryN_spec l (strOfNums b) (min 8 b.length) with ⟨h, _⟩ | ⟨n, c, _, h2, h3, h4, _⟩
    · exact h
    · obtain ⟨m, hm, _, _, he⟩ := codesF_some l l.length (Nat.le_refl _) _ _ h4
      rw [str_take] at he
      have hs : l[m].size = n := by rw [he, str_size, List.length_take]; omega
      exact absurd ⟨by omega, by rw [hs, he]⟩ (hno m hm hm)
  · refine .inr ⟨m, hm, rfl, hp.1, hp.2, ?_⟩
    have hsz := formed_size hf m hm
    have hin : codesF l l.length ((strOfNums b).extract 0 l[m].size) = some (m : Int) := by
      rw [str_take, hp.2]
      cases hc : codesF l l.length l[m] with
      | none => exact absurd rfl (codesF_none l l.length (Nat.le_refl _) _ hc m hm hm)
      | some c =>
        obtain ⟨m', hm', _, rfl, he⟩ := codesF_some l l.length (Nat.le_refl _) _ _ hc
        rw [formed_apart hf m' m hm' hm he]
    have hle : l[m].size ≤ min 8 b.length := by have := hp.1; omega
    rcases tryN_spec l (strOfNums b) (min 8 b.length) with ⟨_, h⟩ | ⟨n, c, h1, h2, h3, h4, h5⟩
    · have := h l[m].size hsz.1 hle
      rw [hin] at this
      cases this
    · obtain ⟨m', hm', _, hc, he⟩ := codesF_some l l.length (Nat.le_refl _) _ _ h4
      rw [str_take] at he
      have hs : l[m'].size = n := by rw [he, str_size, List.length_take]; omega
      have h6 := hmax m' hm' hm' ⟨by omega, by rw [hs, he]⟩
      have h7 : n = l[m].size := by
        by_cases e : n < l[m].size
        · have := h5 l[m].size e hle
          rw [hin] at this
          cases this
        · omega
      subst h7
      rw [hin] at h4
      rw [h1, ← Option.some.inj h4]

/-! ### encoding -/
theorem enc_both {l : List ByteArray} (hf : formedB l = true) (b : List Int) (hb : okbs b) (hn : b.length ≤ 1048576) : ∀ (n at_ : Nat) (out : List Int), b.length - at_ < n → at_ ≤ b.length → out.length + 2 * (b.length - at_) ≤ 4194304 → okbs out →
    ∃ r, Ev (fun k => sym_Encode.l0 k l out (strOfNums (b.drop at_))) (r, 0) ∧ Ev (fun k => dragnetref06_Encode.l0 k l b out (at_ : Int)) (r, 0) ∧ okbs r ∧ r.length ≤ out.length + 2 * (b.length - at_) := by
  intro n
  induction n with
  | zero => intro at_ out h; omega
  | succ n ih =>
    intro at_ out hlt hle hsum hok
    have hlen := formed_len hf
    by_cases he : at_ < b.length
    · have hne : b.drop at_ ≠ [] := by simp; omega
      have hsz : (strOfNums (b.drop at_)).size = b.length - at_ := by rw [str_size, List.length_drop]
      have hd0 : okbs (b.drop at_) := okbs_drop hb _
      obtain ⟨r, hr, hB⟩ := longest06 l (b.drop at_) (by omega) (by simp; omega)
      rcases try_longest hf (b.drop at_) hne hB with ⟨rfl, ht⟩ | ⟨m, hm, rfl, h1, h2, ht⟩
      · have hbt : bt (strOfNums (b.drop at_)) 0 = rd b (at_ : Int) := by
          rw [str_bt hd0 (by omega) (by simp; omega)]
          simp [rd, List.getD]
        obtain ⟨q, hq1, hq2, hq3, hq4⟩ := ih (at_ + 1) (out ++ [255, rd b (at_ : Int)]) (by omega) (by omega) (by simp; omega) (okbs_append hok (fun x hx => by
          simp only [List.mem_cons, List.not_mem_nil, or_false] at hx
          rcases hx with rfl | rfl
          · exact ⟨by omega, by omega⟩
          · exact rd_ok hb _))
        refine ⟨q, Ev.step (fun k => ?_) hq1, Ev.call hr hq2 (fun k hk => ?_), hq3, by simp at hq4; omega⟩
        · rw [sym_Encode.step, if_pos (by omega), ht]
          simp only [afterTry]
          rw [if_pos (by omega), hbt, str_drop, List.drop_drop]
        · simp only [dragnetref06_Encode.l0]
          rw [if_pos (by omega), if_pos (by omega), if_pos (by omega), Int.toNat_natCast, hk]
          simp only [Option.bind_some]
          rw [if_pos (by omega), if_pos (by simp; omega), wrap_in (by omega) (by omega)]
          rfl
      · have hsz := formed_size hf m hm
        rw [List.length_drop] at h1
        obtain ⟨q, hq1, hq2, hq3, hq4⟩ := ih (at_ + l[m].size) (out ++ [(m : Int) % 256]) (by omega) (by omega) (by simp; omega) (okbs_append hok (fun x hx => by
          simp only [List.mem_cons, List.not_mem_nil, or_false] at hx
          subst hx
          exact ⟨by omega, by omega⟩))
        refine ⟨q, Ev.step (fun k => ?_) hq1, Ev.call hr hq2 (fun k hk => ?_), hq3, by simp at hq4; omega⟩
        · rw [sym_Encode.step, if_pos (by omega), ht]
          simp only [afterTry]
          rw [if_pos (by omega), str_drop, List.drop_drop]
        · simp only [dragnetref06_Encode.l0]
          rw [if_pos (by omega), if_pos (by omega), if_pos (by omega), Int.toNat_natCast, hk]
          simp only [Option.bind_some]
          rw [if_neg (by omega), if_pos (by omega), if_pos (by omega), if_pos (by omega), rdE l m hm, wrap_in (by omega) (by omega)]
          rfl
    · obtain rfl : at_ = b.length := by omega
      refine ⟨out, Ev.step (f := fun _ => some (out, 0)) (fun k => ?_) (Ev.now _), Ev.step (f := fun _ => some (out, 0)) (fun k => ?_) (Ev.now _), hok, by omega⟩
      · rw [sym_Encode.step, if_neg (by rw [str_size]; simp)]
      · simp only [dragnetref06_Encode.l0]
        rw [if_neg (by omega)]
/-- Both encode alike. -/
theorem encode06 (l : List ByteArray) (b : List Int) (hb : okbs b) (hn : b.length ≤ 1048576) : ∃ r e, Ev (fun k => sym_Encode.f k l b) (r, e) ∧ Ev (fun k => dragnetref06_Encode.f k l b) (r, e) ∧ okbs r ∧ (formedB l = true → e = 0 ∧ r.length ≤ 2 * b.length) ∧ (formedB l = false → e = 1 ∧ r = []) := by
  cases hf : formedB l with
  | true =>
    obtain ⟨r, h1, h2, h3, h4⟩ := enc_both hf b hb hn (b.length + 1) 0 [] (by omega) (by omega) (by simp; omega) (fun x hx => by simp at hx)
    refine ⟨r, 0, ?_, ?_, h3, fun _ => ⟨rfl, by simpa using h4⟩, (fun h => by cases h)⟩
    · refine Ev.congr (fun k => ?_) h1
      unfold sym_Encode.f
      rw [if_pos hf, List.drop_zero]
    · refine Ev.call0 (formed06 l) h2 (fun k hk => ?_)
      unfold dragnetref06_Encode.f
      rw [hk, hf]
      rfl
  | false =>
    refine ⟨[], 1, ?_, ?_, fun x hx => by simp at hx, (fun h => by cases h), fun _ => ⟨rfl, rfl⟩⟩
    · refine Ev.congr (f := fun _ => some ([], 1)) (fun k => ?_) (Ev.now _)
      unfold sym_Encode.f
      rw [if_neg (by rw [hf]; simp)]
    · refine Ev.call0 (formed06 l) (Ev.now ([], 1)) (fun k hk => ?_)
      unfold dragnetref06_Encode.f
      rw [hk, hf]
      rfl
end Go.Proofs.Ytnmidkjmflnolaa.Pure
