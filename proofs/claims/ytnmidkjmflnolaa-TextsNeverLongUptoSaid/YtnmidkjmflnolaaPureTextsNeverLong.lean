/- Several texts in one: PureBase, PureSymT, PurePut, PureTab, PureLz, PureSame, PureTextsPut, LawTextsNeverLong. -/
import Derived.Test.YtnmidkjmflnolaaWWords
import Derived.Test.YtnmidkjmflnolaaWLast
import Derived.IntWalk
import Derived.Laws.BytesArg
import Derived.Test.YtnmidkjmflnolaaP2
import Derived.Test.YtnmidkjmflnolaaSymEncode
import Derived.Test.YtnmidkjmflnolaaP10
import Derived.Test.YtnmidkjmflnolaaTables
import Derived.Test.YtnmidkjmflnolaaTrainAll
import Derived.Test.YtnmidkjmflnolaaSymFormed
import Derived.Test.YtnmidkjmflnolaaLzAll
import Derived.Test.YtnmidkjmflnolaaPutList
import Derived.Test.YtnmidkjmflnolaaP11
import Derived.Test.YtnmidkjmflnolaaNeverLong
import Derived.Test.YtnmidkjmflnolaaRead
section
namespace Go.Proofs.Ytnmidkjmflnolaa.Pure
open Go Go.RowKit Go.Proofs.YtnmidkjmflnolaaW.PrintWords

theorem wrap_in {x : Int} (h0 : -9223372036854775808 ≤ x) (h1 : x ≤ 9223372036854775807) : wrap64 x = x := by unfold wrap64; omega

/-! ### texts -/
theorem toList_loop (s : ByteArray) : ∀ (d i : Nat) (r : List UInt8), s.size - i = d → ByteArray.toList.loop s i r = r.reverse ++ s.data.toList.drop i := by
  intro d
  induction d with
  | zero =>
    intro i r h
    rw [ByteArray.toList.loop.eq_1]
    have hs : s.data.toList.length = s.size := by rw [Array.length_toList]; rfl
    rw [if_neg (by omega), List.drop_of_length_le (by omega)]
    simp
  | succ d ih =>
    intro i r h
    rw [ByteArray.toList.loop.eq_1]
    have hs : s.data.toList.length = s.size := by rw [Array.length_toList]; rfl
    have hi : i < s.size := by omega
    have hi' : i < s.data.toList.length := by omega
    rw [if_pos hi, ih (i + 1) _ (by omega), List.drop_eq_getElem_cons hi']
    have e : s.get! i = s.data.toList[i] := by
      rw [Array.getElem_toList]
      show s.data[i]! = _
      exact getElem!_pos s.data i (by have : s.data.size = s.size := rfl; omega)
    rw [e]
    simp
theorem toList_eq (s : ByteArray) : s.toList = s.data.toList := by
  show ByteArray.toList.loop s 0 [] = _
  rw [toList_loop s s.size 0 [] rfl]
  simp
theorem toList_inj {s t : ByteArray} : s.toList = t.toList ↔ s = t := by
  rw [toList_eq, toList_eq]
  constructor
  · intro h
    cases s; cases t
    congr 1
    exact Array.toList_inj.1 h
  · rintro rfl; rfl
theorem size_eq (s : ByteArray) : s.data.toList.length = s.size := by rw [Array.length_toList]; rfl
theorem text_ext {s t : ByteArray} (h : s.data.toList = t.data.toList) : s = t := toList_inj.1 (by rw [toList_eq, toList_eq, h])
theorem extract_list (s : ByteArray) (i j : Nat) : (s.extract i j).data.toList = (s.data.toList.take j).drop i := by
  rw [ByteArray.data_extract, Array.toList_extract]
  rw [List.extract_eq_take_drop, List.drop_take]

/-! ### bytes as numbers -/
def okb (n : Int) : Prop := 0 ≤ n ∧ n ≤ 255
theorem okb_wf {n : Int} (h : (Lit.int .u8 n).wf = true) : okb n := by
  simpa [Lit.wf, IntKind.min, IntKind.max, IntKind.signed, IntKind.bits, okb] using h
def okbs (l : List Int) : Prop := ∀ x ∈ l, okb x
theorem okbs_drop {l : List Int} (h : okbs l) (n : Nat) : okbs (l.drop n) := fun x hx => h x (List.mem_of_mem_drop hx)
theorem okbs_take {l : List Int} (h : okbs l) (n : Nat) : okbs (l.take n) := fun x hx => h x (List.mem_of_mem_take hx)
theorem okbs_append {l r : List Int} (h : okbs l) (h' : okbs r) : okbs (l ++ r) := fun x hx => (List.mem_append.1 hx).elim (h x) (h' x)
theorem okbs_wf {l : List Int} (h : ∀ x ∈ l, (Lit.int .u8 x).wf = true) : okbs l := fun x hx => okb_wf (h x hx)
def b8 (n : Int) : UInt8 := UInt8.ofNat n.toNat
theorem b8_inj {m n : Int} (hm : okb m) (hn : okb n) (h : b8 m = b8 n) : m = n := by
  unfold okb at hm hn
  unfold b8 at h
  have h2 := congrArg UInt8.toNat h
  rw [UInt8.toNat_ofNat', UInt8.toNat_ofNat'] at h2
  omega
theorem b8_nat {n : Int} (h : okb n) : ((b8 n).toNat : Int) = n := by
  unfold okb at h
  unfold b8
  rw [UInt8.toNat_ofNat']
  omega
theorem str_list (l : List Int) : (strOfNums l).data.toList = l.map b8 := by simp [strOfNums, b8]
theorem str_size (l : List Int) : (strOfNums l).size = l.length := by rw [← size_eq, str_list, List.length_map]
theorem map_b8_inj : ∀ {l r : List Int}, okbs l → okbs r → l.map b8 = r.map b8 → l = r
  | [], [], _, _, _ => rfl
  | [], _ :: _, _, _, h => by simp at h
  | _ :: _, [], _, _, h => by simp at h
  | x :: l, y :: r, hl, hr, h => by
    simp only [List.map_cons, List.cons.injEq] at h
    rw [b8_inj (hl x (by simp)) (hr y (by simp)) h.1, map_b8_inj (fun z hz => hl z (by simp [hz])) (fun z hz => hr z (by simp [hz])) h.2]
theorem str_inj {l r : List Int} (hl : okbs l) (hr : okbs r) (h : strOfNums l = strOfNums r) : l = r :=
  map_b8_inj hl hr (by rw [← str_list, ← str_list, h])
theorem str_beq {l r : List Int} (hl : okbs l) (hr : okbs r) : ((strOfNums l).toList == (strOfNums r).toList) = decide (l = r) := by
  by_cases h : l = r
  · subst h; simp
  · rw [decide_eq_false h, beq_eq_false_iff_ne]
    intro e
    exact h (str_inj hl hr (toList_inj.1 e))
theorem str_take (l : List Int) (n : Nat) : (strOfNums l).extract 0 n = strOfNums (l.take n) := by
  apply text_ext
  rw [extract_list, str_list, str_list]
  simp [List.map_take]
theorem str_drop (l : List Int) (n : Nat) : (strOfNums l).extract n (strOfNums l).size = strOfNums (l.drop n) := by
  apply text_ext
  rw [extract_list, str_list, str_list, str_size, List.take_of_length_le (by simp)]
  simp [List.map_drop]
theorem str_bt {l : List Int} (h : okbs l) {i : Int} (h0 : 0 ≤ i) (h1 : i < l.length) : bt (strOfNums l) i = rd l i := by
  obtain ⟨n, rfl⟩ := Int.eq_ofNat_of_zero_le h0
  have hn : n < l.length := by omega
  have hs : n < (strOfNums l).size := by rw [str_size]; exact hn
  have hb := bt_at (strOfNums l) (n : Int) (by simpa using hs)
  rw [← hb]
  simp only [Int.toNat_natCast]
  have e : (strOfNums l)[n]'hs = b8 l[n] := by
    show (strOfNums l).data[n]'_ = _
    have : (strOfNums l).data.toList[n]'(by rw [size_eq]; exact hs) = b8 l[n] := by
      have := str_list l
      simp only [this]
      simp
    rw [← this, Array.getElem_toList]
  rw [e, b8_nat (h _ (List.getElem_mem hn))]
  simp [rd, List.getD, hn]
theorem bytesOf_ok (s : ByteArray) : okbs (bytesOf s) := by
  intro x hx
  unfold bytesOf at hx
  obtain ⟨b, _, rfl⟩ := List.mem_map.1 hx
  have := b.toNat_lt
  unfold okb
  omega
theorem str_bytesOf (s : ByteArray) : strOfNums (bytesOf s) = s := by
  apply text_ext
  rw [str_list]
  unfold bytesOf
  rw [List.map_map]
  have : ∀ b : UInt8, (b8 ∘ fun b : UInt8 => (b.toNat : Int)) b = b := fun b => by simp [b8]
  rw [List.map_congr_left (fun b _ => this b), List.map_id']
theorem bytesOf_str {l : List Int} (h : okbs l) : bytesOf (strOfNums l) = l := str_inj (bytesOf_ok _) h (str_bytesOf _)

/-! ### elements -/
theorem rdOf_nat {α : Type} (d : α) (l : List α) (i : Nat) (h : i < l.length) : rdOf d l (i : Int) = l[i] := by simp [rdOf, List.getD, h]
theorem rd_nat (l : List Int) (i : Nat) (h : i < l.length) : rd l (i : Int) = l[i] := by simp [rd, List.getD, h]
theorem rd_ok {l : List Int} (h : okbs l) (i : Int) : okb (rd l i) := by
  unfold rd
  rw [List.getD_eq_getElem?_getD]
  cases hx : l[i.toNat]? with
  | none => exact ⟨by simp, by simp⟩
  | some x => exact h x (List.mem_of_getElem? hx)
theorem drop_cons_rd (l : List Int) (i : Nat) (h : i < l.length) : l.drop i = rd l (i : Int) :: l.drop (i + 1) := by
  rw [List.drop_eq_getElem_cons h, rd_nat l i h]

/-! ### rounds: 'Ev' -/
theorem Ev.map_step {α : Type} {g f : Nat → Option α} {r : α} (k : Ev f r) (h : ∀ k, g (k + 1) = f k) : Ev g r := Ev.step h k
theorem Ev.two {α : Type} {g : Nat → Option α} {r q : α} (h : Ev g r) (h' : Ev g q) : r = q := by
  obtain ⟨K, h⟩ := h
  obtain ⟨K', h'⟩ := h'
  have a := h (max K K') (Nat.le_max_left _ _)
  have b := h' (max K K') (Nat.le_max_right _ _)
  rw [a] at b
  exact Option.some.inj b
theorem Ev.const {α : Type} {o : Option α} {r : α} (h : o = some r) : Ev (fun _ => o) r := ⟨0, fun _ _ => h⟩
theorem Ev.let_ {α β : Type} {o : Option α} {f : Nat → α → Option β} {a : α} {r : β} (h : o = some a) (k : Ev (fun n => f n a) r) : Ev (fun n => o.bind (f n)) r := Ev.bind (Ev.const h) k
/-- A call, and what follows; with a round, and without. -/
theorem Ev.call {α β : Type} {g f : Nat → Option β} {c : Nat → Option α} {a : α} {r : β} (hc : Ev c a) (hk : Ev f r) (h : ∀ k, c k = some a → g (k + 1) = f k) : Ev g r := by
  obtain ⟨K, hc⟩ := hc
  obtain ⟨K', hk⟩ := hk
  refine ⟨max K K' + 1, fun n hn => ?_⟩
  obtain ⟨m, rfl⟩ : ∃ m, n = m + 1 := ⟨n - 1, by omega⟩
  rw [h m (hc m (by omega))]
  exact hk m (by omega)
theorem Ev.call0 {α β : Type} {g f : Nat → Option β} {c : Nat → Option α} {a : α} {r : β} (hc : Ev c a) (hk : Ev f r) (h : ∀ k, c k = some a → g k = f k) : Ev g r := by
  obtain ⟨K, hc⟩ := hc
  obtain ⟨K', hk⟩ := hk
  refine ⟨max K K', fun n hn => ?_⟩
  rw [h n (hc n (by omega))]
  exact hk n (by omega)
end Go.Proofs.Ytnmidkjmflnolaa.Pure
end
section
namespace Go.Proofs.Ytnmidkjmflnolaa.Pure
open Go Go.RowKit Go.Proofs.YtnmidkjmflnolaaW.PrintWords Go.Proofs.Ytnmidkjmflnolaa.P Go.Proofs.Ytnmidkjmflnolaa.Maps
set_option linter.unusedVariables false

theorem rdE (l : List ByteArray) (i : Nat) (h : i < l.length) : rdOf ByteArray.empty l (i : Int) = l[i] := rdOf_nat _ l i h

/-! ### copies and comparisons -/
theorem copy01 {l : List Int} (h : l.length ≤ 100000000) : dragnetref01_Copy.f l = some l := by
  unfold dragnetref01_Copy.f
  simp only [Option.bind_some, List.nil_append, List.length_nil, Nat.zero_add]
  rw [if_pos (by omega)]
theorem same01 {l r : List Int} (hl : okbs l) (hr : okbs r) : dragnetref01_Same.f l r = some (decide (l = r)) := by
  unfold dragnetref01_Same.f
  rw [str_beq hl hr]
/-! ### formed -/
theorem drop_take_cons (l : List ByteArray) (i j : Nat) (hi : i < l.length) (hj : j < i) : (l.take i).drop j = l[j] :: (l.take i).drop (j + 1) := by
  rw [List.drop_eq_getElem_cons (by simp; omega)]
  simp
theorem formed_l1 (l : List ByteArray) (r : Bool) (i : Nat) (hl : l.length ≤ 32) (hi : i < l.length) (hr : Ev (fun k => dragnetref06_Formed.l0 k l ((i + 1 : Nat) : Int)) r) :
    ∀ (d j : Nat), j + d = i → Ev (fun k => dragnetref06_Formed.l1 k l (i : Int) (j : Int)) (if memB l[i] ((l.take i).drop j) = true then false else r) := by
  intro d
  induction d with
  | zero =>
    intro j hj
    obtain rfl : j = i := by omega
    rw [List.drop_of_length_le (by simp; omega), show memB l[j] [] = false from rfl, if_neg (by simp)]
    refine Ev.step (fun k => ?_) hr
    simp only [dragnetref06_Formed.l1]
    rw [if_neg (by omega), wrap_in (by omega) (by omega)]
    rfl
  | succ d ih =>
    intro j hj
    rw [drop_take_cons l i j hi (by omega)]
    by_cases hx : l[i] = l[j]
    · rw [if_pos (by simp [memB, hx])]
      refine Ev.step (f := fun _ => some false) (fun k => ?_) (Ev.now false)
      simp only [dragnetref06_Formed.l1]
      rw [if_pos (by omega), if_pos (by omega), if_pos (by omega), if_pos (by omega), if_pos (by omega), rdE l i hi, rdE l j (by omega), if_pos (by rw [hx])]
    · have e : memB l[i] (l[j] :: (l.take i).drop (j + 1)) = memB l[i] ((l.take i).drop (j + 1)) := by
        simp only [memB, List.any_cons]
        rw [decide_eq_false (fun e => hx e.symm)]
        rfl
      rw [e]
      refine Ev.step (fun k => ?_) (ih (j + 1) (by omega))
      simp only [dragnetref06_Formed.l1]
      rw [if_pos (by omega), if_pos (by omega), if_pos (by omega), if_pos (by omega), if_pos (by omega), rdE l i hi, rdE l j (by omega), if_neg (fun e => hx (toList_inj.1 e)), wrap_in (by omega) (by omega)]
      rfl
theorem formed_l0 (l : List ByteArray) (hl : l.length ≤ 32) : ∀ (d i : Nat), i + d = l.length → Ev (fun k => dragnetref06_Formed.l0 k l (i : Int)) (freshIn (l.take i) (l.drop i)) := by
  intro d
  induction d with
  | zero =>
    intro i hi
    rw [List.drop_of_length_le (by omega)]
    refine Ev.step (f := fun _ => some true) (fun k => ?_) (Ev.now true)
    simp only [dragnetref06_Formed.l0]
    rw [if_neg (by omega)]
  | succ d ih =>
    intro i hi
    have hlt : i < l.length := by omega
    rw [List.drop_eq_getElem_cons hlt]
    simp only [freshIn]
    by_cases h2 : l[i].size < 2
    · rw [show okSym l[i] = false by simp only [okSym]; rw [decide_eq_false (by omega)]; rfl]
      simp only [Bool.false_and]
      refine Ev.step (f := fun k => dragnetref06_Formed.j1 k l (i : Int) true) (fun k => ?_) (Ev.step (f := fun _ => some false) (fun k => ?_) (Ev.now false))
      · simp only [dragnetref06_Formed.l0]
        rw [if_pos (by omega), if_pos (by omega), rdE l i hlt, if_pos (by omega)]
      · simp only [dragnetref06_Formed.j1]
        rw [if_pos trivial]
    · by_cases h8 : l[i].size ≤ 8
      · rw [show okSym l[i] = true by simp only [okSym]; rw [decide_eq_true (by omega), decide_eq_true h8]; rfl]
        simp only [Bool.true_and]
        have e : (!memB l[i] (l.take i) && freshIn (l.take i ++ [l[i]]) (l.drop (i + 1))) = if memB l[i] ((l.take i).drop 0) = true then false else freshIn (l.take (i + 1)) (l.drop (i + 1)) := by
          rw [List.drop_zero, List.take_succ_eq_append_getElem hlt]
          cases memB l[i] (l.take i) <;> simp
        rw [e]
        refine Ev.step (f := fun k => dragnetref06_Formed.j1 k l (i : Int) false) (fun k => ?_) (Ev.step (f := fun k => dragnetref06_Formed.l1 k l (i : Int) ((0 : Nat) : Int)) (fun k => ?_) (formed_l1 l _ i hl hlt (ih (i + 1) (by omega)) i 0 (by omega)))
        · simp only [dragnetref06_Formed.l0]
          rw [if_pos (by omega), if_pos (by omega), rdE l i hlt, if_neg (by omega), decide_eq_false (by omega)]
        · simp only [dragnetref06_Formed.j1]
          rw [if_neg (by simp)]
          rfl
      · rw [show okSym l[i] = false by simp only [okSym]; rw [decide_eq_false h8]; simp]
        simp only [Bool.false_and]
        refine Ev.step (f := fun k => dragnetref06_Formed.j1 k l (i : Int) true) (fun k => ?_) (Ev.step (f := fun _ => some false) (fun k => ?_) (Ev.now false))
        · simp only [dragnetref06_Formed.l0]
          rw [if_pos (by omega), if_pos (by omega), rdE l i hlt, if_neg (by omega), decide_eq_true (by omega)]
        · simp only [dragnetref06_Formed.j1]
          rw [if_pos trivial]
theorem formed06 (l : List ByteArray) : Ev (fun k => dragnetref06_Formed.f k l) (formedB l) := by
  unfold dragnetref06_Formed.f formedB
  by_cases h : l.length ≤ 32
  · refine Ev.congr (f := fun k => dragnetref06_Formed.l0 k l ((0 : Nat) : Int)) (fun k => by rw [if_neg (by omega)]; rfl) ?_
    rw [decide_eq_true h]
    simpa using formed_l0 l h l.length 0 (by omega)
  · refine Ev.congr (f := fun _ => some false) (fun k => by rw [if_pos (by omega)]) ?_
    rw [decide_eq_false h]
    exact Ev.now false

/-! ### the longest symbol -/
/-- Symbol t begins bytes b. -/
def isPre (t : ByteArray) (b : List Int) : Prop := t.size ≤ b.length ∧ strOfNums (b.take t.size) = t
instance (t : ByteArray) (b : List Int) : Decidable (isPre t b) := by unfold isPre; exact inferInstance
/-- What is known of 'best' when the first i symbols have been seen. -/
def Best (l : List ByteArray) (b : List Int) (i : Nat) (best : Int) : Prop :=
  (best = -1 ∧ ∀ (j : Nat) (h : j < l.length), j < i → ¬ isPre l[j] b) ∨
  (∃ (m : Nat) (h : m < l.length), best = (m : Int) ∧ m < i ∧ isPre l[m] b ∧ ∀ (j : Nat) (h' : j < l.length), j < i → isPre l[j] b → l[j].size ≤ l[m].size)
theorem longest_loop (l : List ByteArray) (b : List Int) (hl : l.length ≤ 1048576) (hb : b.length ≤ 100000000) : ∀ (d i : Nat) (best : Int), i + d = l.length → Best l b i best → ∃ r, Ev (fun k => dragnetref06_longest.l0 k l b best (i : Int)) r ∧ Best l b l.length r := by
  intro d
  induction d with
  | zero =>
    intro i best hi hB
    refine ⟨best, Ev.step (f := fun _ => some best) (fun k => ?_) (Ev.now best), by rw [← show i = l.length by omega]; exact hB⟩
    simp only [dragnetref06_longest.l0]
    rw [if_neg (by omega)]
  | succ d ih =>
    intro i best hi hB
    have hlt : i < l.length := by omega
    have hw : wrap64 ((i : Int) + 1) = ((i + 1 : Nat) : Int) := by rw [wrap_in (by omega) (by omega)]; rfl
    -- the same best goes on
    have keep : ∀ (hP : ¬ isPre l[i] b ∨ ∃ (m : Nat) (h : m < l.length), best = (m : Int) ∧ l[i].size ≤ l[m].size), Best l b (i + 1) best := by
      intro hP
      rcases hB with ⟨h1, h2⟩ | ⟨m, hm, h1, h2, h3, h4⟩
      · refine .inl ⟨h1, fun j hj hji => ?_⟩
        by_cases e : j < i
        · exact h2 j hj e
        · obtain rfl : j = i := by omega
          rcases hP with hP | ⟨m, hm, h3, _⟩
          · exact hP
          · omega
      · refine .inr ⟨m, hm, h1, by omega, h3, fun j hj hji hp => ?_⟩
        by_cases e : j < i
        · exact h4 j hj e hp
        · obtain rfl : j = i := by omega
          rcases hP with hP | ⟨m', hm', h5, h6⟩
          · exact absurd hp hP
          · obtain rfl : m = m' := by omega
            exact h6
    have take : ∀ (hP : isPre l[i] b) (hS : best = -1 ∨ ∃ (m : Nat) (h : m < l.length), best = (m : Int) ∧ l[m].size < l[i].size), Best l b (i + 1) (i : Int) := by
      intro hP hS
      refine .inr ⟨i, hlt, rfl, by omega, hP, fun j hj hji hp => ?_⟩
      by_cases e : j < i
      · rcases hB with ⟨h1, h2⟩ | ⟨m, hm, h1, h2, h3, h4⟩
        · exact absurd hp (h2 j hj e)
        · have := h4 j hj e hp
          rcases hS with hS | ⟨m', hm', h5, h6⟩
          · omega
          · obtain rfl : m = m' := by omega
            omega
      · obtain rfl : j = i := by omega
        exact Nat.le_refl _
    by_cases hsz : l[i].size ≤ b.length
    · by_cases heq : strOfNums (b.take l[i].size) = l[i]
      · have hP : isPre l[i] b := ⟨hsz, heq⟩
        have hcond : (strOfNums (b.take (((l[i].size : Int) : Int).toNat))).toList = l[i].toList := by rw [Int.toNat_natCast, heq]
        by_cases hneg : best < 0
        · have hb1 : best = -1 := by rcases hB with ⟨h, _⟩ | ⟨m, _, h, _⟩ <;> omega
          obtain ⟨r, hr, hR⟩ := ih (i + 1) (i : Int) (by omega) (take hP (.inl hb1))
          refine ⟨r, Ev.step (fun k => ?_) hr, hR⟩
          simp only [dragnetref06_longest.l0]
          rw [if_pos (by omega), if_pos (by omega), rdE l i hlt, if_pos (by omega), if_pos (by omega), if_pos hcond, if_pos hneg, hw]
        · obtain ⟨m, hm, h1, h2, h3, h4⟩ : ∃ (m : Nat) (h : m < l.length), best = (m : Int) ∧ m < i ∧ isPre l[m] b ∧ ∀ (j : Nat) (h' : j < l.length), j < i → isPre l[j] b → l[j].size ≤ l[m].size := by
            rcases hB with ⟨h, _⟩ | h
            · omega
            · exact h
          subst h1
          by_cases hgt : l[m].size < l[i].size
          · obtain ⟨r, hr, hR⟩ := ih (i + 1) (i : Int) (by omega) (take hP (.inr ⟨m, hm, rfl, hgt⟩))
            refine ⟨r, Ev.step (fun k => ?_) hr, hR⟩
            simp only [dragnetref06_longest.l0]
            rw [if_pos (by omega), if_pos (by omega), rdE l i hlt, if_pos (by omega), if_pos (by omega), if_pos hcond, if_neg hneg, if_pos (by omega), if_pos (by omega), rdE l m hm, if_pos (by omega), hw]
          · obtain ⟨r, hr, hR⟩ := ih (i + 1) (m : Int) (by omega) (keep (.inr ⟨m, hm, rfl, by omega⟩))
            refine ⟨r, Ev.step (fun k => ?_) hr, hR⟩
            simp only [dragnetref06_longest.l0]
            rw [if_pos (by omega), if_pos (by omega), rdE l i hlt, if_pos (by omega), if_pos (by omega), if_pos hcond, if_neg hneg, if_pos (by omega), if_pos (by omega), rdE l m hm, if_neg (by omega), hw]
      · have hcond : ¬ (strOfNums (b.take (((l[i].size : Int) : Int).toNat))).toList = l[i].toList := by rw [Int.toNat_natCast]; exact fun e => heq (toList_inj.1 e)
        obtain ⟨r, hr, hR⟩ := ih (i + 1) best (by omega) (keep (.inl (fun h => heq h.2)))
        refine ⟨r, Ev.step (fun k => ?_) hr, hR⟩
        simp only [dragnetref06_longest.l0]
        rw [if_pos (by omega), if_pos (by omega), rdE l i hlt, if_pos (by omega), if_pos (by omega), if_neg hcond, hw]
    · obtain ⟨r, hr, hR⟩ := ih (i + 1) best (by omega) (keep (.inl (fun h => hsz h.1)))
      refine ⟨r, Ev.step (fun k => ?_) hr, hR⟩
      simp only [dragnetref06_longest.l0]
      rw [if_pos (by omega), if_pos (by omega), rdE l i hlt, if_neg (by omega), hw]
theorem longest06 (l : List ByteArray) (b : List Int) (hl : l.length ≤ 1048576) (hb : b.length ≤ 100000000) : ∃ r, Ev (fun k => dragnetref06_longest.f k l b) r ∧ Best l b l.length r := by
  unfold dragnetref06_longest.f
  exact longest_loop l b hl hb l.length 0 (-1) (by omega) (.inl ⟨rfl, fun j _ h => absurd h (Nat.not_lt_zero _)⟩)

/-! ### the codes of a formed table -/
theorem codesF_some (l : List ByteArray) : ∀ (k : Nat), k ≤ l.length → ∀ s c, codesF l k s = some c → ∃ (m : Nat) (h : m < l.length), m < k ∧ c = (m : Int) ∧ l[m] = s := by
  intro k
  induction k with
  | zero => intro _ s c h; cases h
  | succ k ih =>
    intro hk s c h
    simp only [codesF, upd] at h
    split at h
    · rename_i e
      injection h with h
      exact ⟨k, by omega, by omega, h.symm, by rw [e, rdE l k (by omega)]⟩
    · obtain ⟨m, hm, h1, h2, h3⟩ := ih (by omega) s c h
      exact ⟨m, hm, by omega, h2, h3⟩
theorem codesF_none (l : List ByteArray) : ∀ (k : Nat), k ≤ l.length → ∀ s, codesF l k s = none → ∀ (m : Nat) (h : m < l.length), m < k → l[m] ≠ s := by
  intro k
  induction k with
  | zero => intro _ s _ m _ hm; omega
  | succ k ih =>
    intro hk s h m hm hmk e
    simp only [codesF, upd] at h
    split at h
    · cases h
    · rename_i hne
      by_cases hlt : m < k
      · exact ih (by omega) s h m hm hlt e
      · obtain rfl : m = k := by omega
        exact hne (by rw [rdE l m hm, e])
theorem fresh_apart : ∀ (seen l : List ByteArray), freshIn seen l = true → (∀ (i : Nat) (h : i < l.length), memB l[i] seen = false) ∧ ∀ (i j : Nat) (hi : i < l.length) (hj : j < l.length), l[i] = l[j] → i = j
  | _, [], _ => ⟨fun i h => absurd h (Nat.not_lt_zero _), fun i _ h => absurd h (Nat.not_lt_zero _)⟩
  | seen, s :: r, h => by
    simp only [freshIn, Bool.and_eq_true, Bool.not_eq_true'] at h
    obtain ⟨h1, h2⟩ := fresh_apart (seen ++ [s]) r h.2
    have hm : ∀ (i : Nat) (hi : i < r.length), memB r[i] seen = false ∧ s ≠ r[i] := fun i hi => by
      have := h1 i hi
      rw [memB_snoc, Bool.or_eq_false_iff] at this
      exact ⟨this.1, of_decide_eq_false this.2⟩
    refine ⟨fun i hi => ?_, fun i j hi hj he => ?_⟩
    · cases i with
      | zero => exact h.1.2
      | succ i => simpa using (hm i (by simpa using hi)).1
    · cases i with
      | zero =>
        cases j with
        | zero => rfl
        | succ j => exact absurd (by simpa using he) (hm j (Nat.lt_of_succ_lt_succ hj)).2
      | succ i =>
        cases j with
        | zero => exact absurd (by simpa using he.symm) (hm i (Nat.lt_of_succ_lt_succ hi)).2
        | succ j => rw [h2 i j (by simpa using hi) (by simpa using hj) (by simpa using he)]
theorem formed_apart {l : List ByteArray} (h : formedB l = true) (i j : Nat) (hi : i < l.length) (hj : j < l.length) (he : l[i] = l[j]) : i = j := by
  simp only [formedB, Bool.and_eq_true] at h
  exact (fresh_apart [] l h.2).2 i j hi hj he
theorem formed_len {l : List ByteArray} (h : formedB l = true) : l.length ≤ 32 := by
  simp only [formedB, Bool.and_eq_true, decide_eq_true_eq] at h
  exact h.1
theorem formed_size {l : List ByteArray} (h : formedB l = true) (i : Nat) (hi : i < l.length) : 2 ≤ l[i].size ∧ l[i].size ≤ 8 := by
  have := sized_of_formed h i hi
  rwa [rdE l i hi] at this

/-- What 'tryN' finds. -/
theorem tryN_spec (l : List ByteArray) (s : ByteArray) : ∀ n : Nat,
    (tryN l s n = none ∧ ∀ j, 2 ≤ j → j ≤ n → codesF l l.length (s.extract 0 j) = none) ∨
    ∃ m c, tryN l s n = some (m, c) ∧ 2 ≤ m ∧ m ≤ n ∧ codesF l l.length (s.extract 0 m) = some c ∧ ∀ j, m < j → j ≤ n → codesF l l.length (s.extract 0 j) = none
  | 0 => .inl ⟨rfl, fun j h1 h2 => by omega⟩
  | n + 1 => by
    by_cases h2 : n + 1 < 2
    · exact .inl ⟨tryN_low h2, fun j h1 h2 => by omega⟩
    · cases hc : codesF l l.length (s.extract 0 (n + 1)) with
      | some c => exact .inr ⟨n + 1, c, tryN_some (by omega) hc, by omega, Nat.le_refl _, hc, fun j h1 h2 => by omega⟩
      | none =>
        rw [tryN_none (by omega) hc]
        rcases tryN_spec l s n with ⟨h3, h4⟩ | ⟨m, c, h3, h4, h5, h6, h7⟩
        · refine .inl ⟨h3, fun j hj1 hj2 => ?_⟩
          by_cases e : j = n + 1
          · rw [e]; exact hc
          · exact h4 j hj1 (by omega)
        · refine .inr ⟨m, c, h3, h4, by omega, h6, fun j hj1 hj2 => ?_⟩
          by_cases e : j = n + 1
          · rw [e]; exact hc
          · exact h7 j hj1 (by omega)
/-- By a formed table the two searches find the same. -/
theorem try_longest {l : List ByteArray} (hf : formedB l = true) (b : List Int) (hb : b ≠ []) {r : Int} (hB : Best l b l.length r) :
    (r = -1 ∧ tryN l (strOfNums b) (min 8 (strOfNums b).size) = none) ∨
    ∃ (m : Nat) (h : m < l.length), r = (m : Int) ∧ l[m].size ≤ b.length ∧ strOfNums (b.take l[m].size) = l[m] ∧ tryN l (strOfNums b) (min 8 (strOfNums b).size) = some (l[m].size, (m : Int)) := by
  rw [str_size]
  rcases hB with ⟨rfl, hno⟩ | ⟨m, hm, rfl, _, hp, hmax⟩
  · refine .inl ⟨rfl, ?_⟩
    rcases tryN_spec l (strOfNums b) (min 8 b.length) with ⟨h, _⟩ | ⟨n, c, _, h2, h3, h4, _⟩
    · exact h
    · obtain ⟨m, hm, _, _, he⟩ := codesF_some l l.length (Nat.le_refl _) _ _ h4
      rw [str_take] at he
      have hs : l[m].size = n := by rw [he, str_size, List.length_take]; omega
      exact absurd ⟨by omega, by rw [hs, he]⟩ (hno m hm hm)
  · refine .inr ⟨m, hm, rfl, hp.1, hp.2, ?_⟩
    have hsz := formed_size hf m hm
    have hin : codesF l l.length ((strOfNums b).extract 0 l[m].size) = some (m : Int) := by
      rw [str_take, hp.2]
      cases hc : codesF l l.length l[m] with
      | none => exact absurd rfl (codesF_none l l.length (Nat.le_refl _) _ hc m hm hm)
      | some c =>
        obtain ⟨m', hm', _, rfl, he⟩ := codesF_some l l.length (Nat.le_refl _) _ _ hc
        rw [formed_apart hf m' m hm' hm he]
    have hle : l[m].size ≤ min 8 b.length := by have := hp.1; omega
    rcases tryN_spec l (strOfNums b) (min 8 b.length) with ⟨_, h⟩ | ⟨n, c, h1, h2, h3, h4, h5⟩
    · have := h l[m].size hsz.1 hle
      rw [hin] at this
      cases this
    · obtain ⟨m', hm', _, hc, he⟩ := codesF_some l l.length (Nat.le_refl _) _ _ h4
      rw [str_take] at he
      have hs : l[m'].size = n := by rw [he, str_size, List.length_take]; omega
      have h6 := hmax m' hm' hm' ⟨by omega, by rw [hs, he]⟩
      have h7 : n = l[m].size := by
        by_cases e : n < l[m].size
        · have := h5 l[m].size e hle
          rw [hin] at this
          cases this
        · omega
      subst h7
      rw [hin] at h4
      rw [h1, ← Option.some.inj h4]

/-! ### encoding -/
theorem enc_both {l : List ByteArray} (hf : formedB l = true) (b : List Int) (hb : okbs b) (hn : b.length ≤ 1048576) : ∀ (n at_ : Nat) (out : List Int), b.length - at_ < n → at_ ≤ b.length → out.length + 2 * (b.length - at_) ≤ 4194304 → okbs out →
    ∃ r, Ev (fun k => sym_Encode.l0 k l out (strOfNums (b.drop at_))) (r, 0) ∧ Ev (fun k => dragnetref06_Encode.l0 k l b out (at_ : Int)) (r, 0) ∧ okbs r ∧ r.length ≤ out.length + 2 * (b.length - at_) := by
  intro n
  induction n with
  | zero => intro at_ out h; omega
  | succ n ih =>
    intro at_ out hlt hle hsum hok
    have hlen := formed_len hf
    by_cases he : at_ < b.length
    · have hne : b.drop at_ ≠ [] := by simp; omega
      have hsz : (strOfNums (b.drop at_)).size = b.length - at_ := by rw [str_size, List.length_drop]
      have hd0 : okbs (b.drop at_) := okbs_drop hb _
      obtain ⟨r, hr, hB⟩ := longest06 l (b.drop at_) (by omega) (by simp; omega)
      rcases try_longest hf (b.drop at_) hne hB with ⟨rfl, ht⟩ | ⟨m, hm, rfl, h1, h2, ht⟩
      · have hbt : bt (strOfNums (b.drop at_)) 0 = rd b (at_ : Int) := by
          rw [str_bt hd0 (by omega) (by simp; omega)]
          simp [rd, List.getD]
        obtain ⟨q, hq1, hq2, hq3, hq4⟩ := ih (at_ + 1) (out ++ [255, rd b (at_ : Int)]) (by omega) (by omega) (by simp; omega) (okbs_append hok (fun x hx => by
          simp only [List.mem_cons, List.not_mem_nil, or_false] at hx
          rcases hx with rfl | rfl
          · exact ⟨by omega, by omega⟩
          · exact rd_ok hb _))
        refine ⟨q, Ev.step (fun k => ?_) hq1, Ev.call hr hq2 (fun k hk => ?_), hq3, by simp at hq4; omega⟩
        · rw [sym_Encode.step, if_pos (by omega), ht]
          simp only [afterTry]
          rw [if_pos (by omega), hbt, str_drop, List.drop_drop]
        · simp only [dragnetref06_Encode.l0]
          rw [if_pos (by omega), if_pos (by omega), if_pos (by omega), Int.toNat_natCast, hk]
          simp only [Option.bind_some]
          rw [if_pos (by omega), if_pos (by simp; omega), wrap_in (by omega) (by omega)]
          rfl
      · have hsz := formed_size hf m hm
        rw [List.length_drop] at h1
        obtain ⟨q, hq1, hq2, hq3, hq4⟩ := ih (at_ + l[m].size) (out ++ [(m : Int) % 256]) (by omega) (by omega) (by simp; omega) (okbs_append hok (fun x hx => by
          simp only [List.mem_cons, List.not_mem_nil, or_false] at hx
          subst hx
          exact ⟨by omega, by omega⟩))
        refine ⟨q, Ev.step (fun k => ?_) hq1, Ev.call hr hq2 (fun k hk => ?_), hq3, by simp at hq4; omega⟩
        · rw [sym_Encode.step, if_pos (by omega), ht]
          simp only [afterTry]
          rw [if_pos (by omega), str_drop, List.drop_drop]
        · simp only [dragnetref06_Encode.l0]
          rw [if_pos (by omega), if_pos (by omega), if_pos (by omega), Int.toNat_natCast, hk]
          simp only [Option.bind_some]
          rw [if_neg (by omega), if_pos (by omega), if_pos (by omega), if_pos (by omega), rdE l m hm, wrap_in (by omega) (by omega)]
          rfl
    · obtain rfl : at_ = b.length := by omega
      refine ⟨out, Ev.step (f := fun _ => some (out, 0)) (fun k => ?_) (Ev.now _), Ev.step (f := fun _ => some (out, 0)) (fun k => ?_) (Ev.now _), hok, by omega⟩
      · rw [sym_Encode.step, if_neg (by rw [str_size]; simp)]
      · simp only [dragnetref06_Encode.l0]
        rw [if_neg (by omega)]
/-- Both encode alike. -/
theorem encode06 (l : List ByteArray) (b : List Int) (hb : okbs b) (hn : b.length ≤ 1048576) : ∃ r e, Ev (fun k => sym_Encode.f k l b) (r, e) ∧ Ev (fun k => dragnetref06_Encode.f k l b) (r, e) ∧ okbs r ∧ (formedB l = true → e = 0 ∧ r.length ≤ 2 * b.length) ∧ (formedB l = false → e = 1 ∧ r = []) := by
  cases hf : formedB l with
  | true =>
    obtain ⟨r, h1, h2, h3, h4⟩ := enc_both hf b hb hn (b.length + 1) 0 [] (by omega) (by omega) (by simp; omega) (fun x hx => by simp at hx)
    refine ⟨r, 0, ?_, ?_, h3, fun _ => ⟨rfl, by simpa using h4⟩, (fun h => by cases h)⟩
    · refine Ev.congr (fun k => ?_) h1
      unfold sym_Encode.f
      rw [if_pos hf, List.drop_zero]
    · refine Ev.call0 (formed06 l) h2 (fun k hk => ?_)
      unfold dragnetref06_Encode.f
      rw [hk, hf]
      rfl
  | false =>
    refine ⟨[], 1, ?_, ?_, fun x hx => by simp at hx, (fun h => by cases h), fun _ => ⟨rfl, rfl⟩⟩
    · refine Ev.congr (f := fun _ => some ([], 1)) (fun k => ?_) (Ev.now _)
      unfold sym_Encode.f
      rw [if_neg (by rw [hf]; simp)]
    · refine Ev.call0 (formed06 l) (Ev.now ([], 1)) (fun k hk => ?_)
      unfold dragnetref06_Encode.f
      rw [hk, hf]
      rfl
end Go.Proofs.Ytnmidkjmflnolaa.Pure
end
section
namespace Go.Proofs.Ytnmidkjmflnolaa.Pure
open Go Go.RowKit Go.Proofs.YtnmidkjmflnolaaW.PrintWords Go.Proofs.Ytnmidkjmflnolaa.P Go.Proofs.Ytnmidkjmflnolaa.Maps
set_option linter.unusedVariables false

theorem aux_iff : ∀ (f x : Nat), x < 2 ^ f → ∀ n, Lib.bitLenAux f x ≤ n ↔ x < 2 ^ n
  | 0, x, h, n => by
    have : x = 0 := by simpa using h
    subst this
    simp [Lib.bitLenAux, Nat.two_pow_pos]
  | f + 1, x, h, n => by
    unfold Lib.bitLenAux
    split
    · next h0 => subst h0; simp [Nat.two_pow_pos]
    · next h0 =>
      cases n with
      | zero => simp; omega
      | succ n =>
        have ih := aux_iff f (x / 2) (by rw [Nat.pow_succ] at h; omega) n
        rw [Nat.pow_succ]
        constructor
        · intro h1
          have := ih.1 (by omega)
          omega
        · intro h1
          have := ih.2 (by omega)
          omega
theorem lenOf_iff {v : Int} (h0 : 0 ≤ v) (h1 : v ≤ 18446744073709551615) (m : Nat) : lenOf v ≤ m ↔ v < 256 ^ m := by
  obtain ⟨x, rfl⟩ := Int.eq_ofNat_of_zero_le h0
  have hx := aux_iff 64 x (by omega) (8 * m)
  unfold lenOf Lib.bitLen
  rw [Int.toNat_natCast]
  have hp : (2 : Nat) ^ (8 * m) = 256 ^ m := by rw [Nat.pow_mul]
  rw [hp] at hx
  constructor
  · intro h
    have := hx.1 (by omega)
    have h2 : ((x : Nat) : Int) < ((256 ^ m : Nat) : Int) := Int.ofNat_lt.2 this
    rw [Int.natCast_pow] at h2
    exact h2
  · intro h
    have h2 : ((x : Nat) : Int) < ((256 ^ m : Nat) : Int) := by rw [Int.natCast_pow]; exact h
    have := hx.2 (Int.ofNat_lt.1 h2)
    omega
theorem lenOf_zero : lenOf 0 = 0 := by decide
theorem lenOf_succ {v : Int} (h0 : 0 < v) (h1 : v ≤ 18446744073709551615) : lenOf v = lenOf (v / 256) + 1 := by
  have a := lenOf_iff (v := v) (by omega) h1
  have b := lenOf_iff (v := v / 256) (by omega) (by omega)
  have a0 : ¬ lenOf v ≤ 0 := by rw [a 0]; simp; omega
  apply Nat.le_antisymm
  · rw [a, Int.pow_succ]
    have := (b (lenOf (v / 256))).1 (Nat.le_refl _)
    omega
  · obtain ⟨q, hq⟩ : ∃ q, lenOf v = q + 1 := ⟨lenOf v - 1, by omega⟩
    have h := (a (q + 1)).1 (by omega)
    rw [Int.pow_succ] at h
    have := (b q).2 (by omega)
    omega
theorem lenOf_le8 {v : Int} (h0 : 0 ≤ v) (h1 : v ≤ 18446744073709551615) : lenOf v ≤ 8 := (size_f h0 h1).2
theorem leBytes_okbs : ∀ (n : Nat) (v : Int), okbs (P.leBytes n v)
  | 0, _ => fun x hx => by simp [P.leBytes] at hx
  | n + 1, v => fun x hx => by
    rw [P.leBytes, List.mem_cons] at hx
    rcases hx with rfl | hx
    · exact ⟨by omega, by omega⟩
    · exact leBytes_okbs n _ x hx
theorem numBytes_okbs {v : Int} (h0 : 0 ≤ v) (h1 : v ≤ 18446744073709551615) : okbs (numBytes v) := by
  have := lenOf_le8 h0 h1
  intro x hx
  unfold numBytes at hx
  split at hx
  · simp at hx; subst hx; exact ⟨by omega, by omega⟩
  · rw [List.mem_cons] at hx
    rcases hx with rfl | hx
    · exact ⟨by omega, by omega⟩
    · exact leBytes_okbs _ _ x hx
theorem numBytes_len {v : Int} : (numBytes v).length = if v ≤ 247 then 1 else lenOf v + 1 := by
  unfold numBytes
  split
  · rfl
  · rw [List.length_cons, leBytes_ok]

/-! ### Bytes -/
theorem u64_in {x : Int} (h0 : 0 ≤ x) (h1 : x ≤ 18446744073709551615) : IntKind.u64.wrap x = x := by
  simp [IntKind.wrap, IntKind.bits, IntKind.signed]
  omega
theorem bytes02_loop : ∀ (n : Nat) (v h : Int) (out : List Int), lenOf v = n → 0 ≤ v → v ≤ 18446744073709551615 → 0 ≤ h → h + n ≤ 255 → out.length + n ≤ 1000 →
    Ev (fun k => dragnetref02_Bytes.l0 k v (h :: out)) ((h + (n : Int)) :: (out ++ P.leBytes n v))
  | 0, v, h, out, hn, h0, h1, _, _, _ => by
    have : v < 256 ^ 0 := (lenOf_iff h0 h1 0).1 (by omega)
    refine Ev.step (f := fun _ => some (h :: out)) (fun k => ?_) (by simpa [P.leBytes] using Ev.now (h :: out))
    simp only [dragnetref02_Bytes.l0]
    rw [if_neg (by simp at this; omega)]
  | n + 1, v, h, out, hn, h0, h1, hh0, hh1, hl => by
    have hv : 0 < v := by
      rcases Int.lt_or_le 0 v with h | h
      · exact h
      · have : v = 0 := by omega
        subst this
        rw [lenOf_zero] at hn
        omega
    have hs := lenOf_succ hv h1
    have ih := bytes02_loop n (v / 256) (h + 1) (out ++ [v % 256]) (by omega) (by omega) (by omega) (by omega) (by omega) (by simp; omega)
    rw [show (h + ((n + 1 : Nat) : Int)) :: (out ++ P.leBytes (n + 1) v) = (h + 1 + (n : Int)) :: (out ++ [v % 256] ++ P.leBytes n (v / 256)) by rw [P.leBytes, List.append_assoc, show h + ((n + 1 : Nat) : Int) = h + 1 + (n : Int) by omega]; rfl]
    refine Ev.step (fun k => ?_) ih
    simp only [dragnetref02_Bytes.l0, Option.bind_some]
    rw [if_pos hv, if_pos (by simp; omega), if_pos (by simp; omega), Int.tmod_eq_emod_of_nonneg h0, Int.tdiv_eq_ediv_of_nonneg h0, u64_in (by omega) (by omega), Int.emod_emod_of_dvd _ (Int.dvd_refl _)]
    simp only [List.cons_append, Int.toNat_zero, List.set_cons_zero, rd, List.getD_cons_zero]
    rw [Int.emod_eq_of_lt (by omega) (by omega)]
theorem bytes02 {v : Int} (h0 : 0 ≤ v) (h1 : v ≤ 18446744073709551615) : Ev (fun k => dragnetref02_Bytes.f k v) (numBytes v) := by
  unfold numBytes
  split
  · next h =>
    refine Ev.congr (f := fun _ => some [v]) (fun k => ?_) (Ev.now _)
    unfold dragnetref02_Bytes.f
    rw [if_pos h, Int.emod_eq_of_lt h0 (by omega)]
  · next h =>
    have := lenOf_le8 h0 h1
    refine Ev.congr (fun k => ?_) (bytes02_loop (lenOf v) v 247 [] rfl h0 h1 (by omega) (by omega) (by simp; omega))
    unfold dragnetref02_Bytes.f
    rw [if_neg h]

/-! ### a table is laid -/
def rowB (s : ByteArray) : List Int := numBytes (s.size : Int) ++ bytesOf s
def tableB (t : List ByteArray) : List Int := numBytes (t.length : Int) ++ t.flatMap rowB
theorem bytesOf_len (s : ByteArray) : (bytesOf s).length = s.size := bytesOf_length s
theorem numBytes_len9 {v : Int} (h0 : 0 ≤ v) (h1 : v ≤ 18446744073709551615) : (numBytes v).length ≤ 9 := by
  have := lenOf_le8 h0 h1
  rw [numBytes_len]
  split <;> omega
theorem put_ok {l : List Int} {v : Int} (hl : l.length ≤ 100000000) (h0 : 0 ≤ v) (h1 : v ≤ 18446744073709551615) : num_Put.f l v = some (l ++ numBytes v) := by
  unfold num_Put.f
  rw [if_pos ⟨by omega, h0, h1⟩]
theorem putRow_ok {l r : List Int} (hl : l.length ≤ 100000000) (hr : r.length ≤ 100000000) : num_PutRow.f l r = some (l ++ numBytes (r.length : Int) ++ r) := by
  have := numBytes_len9 (v := (r.length : Int)) (by omega) (by omega)
  unfold num_PutRow.f
  rw [u64_in (by omega) (by omega), put_ok hl (by omega) (by omega), Option.bind_some, if_pos (by simp; omega)]
theorem putRows_ok : ∀ (t : List ByteArray) (out : List Int), (∀ s ∈ t, s.size ≤ 8) → out.length + 20 * t.length ≤ 100000000 → putRows t out = some (out ++ t.flatMap rowB)
  | [], out, _, _ => by simp [putRows]
  | s :: t, out, hs, hl => by
    have h8 := hs s (by simp)
    have hb := bytesOf_len s
    have := numBytes_len9 (v := (s.size : Int)) (by omega) (by omega)
    rw [List.length_cons] at hl
    rw [putRows, if_pos (by omega), putRow_ok (by omega) (by omega), Option.bind_some, putRows_ok t _ (fun s hm => hs s (by simp [hm])) (by simp [hb]; omega), hb]
    simp [rowB]
theorem bytes02_row (r : List Int) (hr : r.length ≤ 100000000) : Ev (fun k => dragnetref02_Row.f k r) (numBytes (r.length : Int) ++ r) := by
  have := numBytes_len9 (v := (r.length : Int)) (by omega) (by omega)
  refine Ev.call0 (bytes02 (v := (r.length : Int)) (by omega) (by omega)) (Ev.now (numBytes (r.length : Int) ++ r)) (fun k hk => ?_)
  unfold dragnetref02_Row.f
  rw [u64_in (by omega) (by omega), hk, Option.bind_some, if_pos (by omega)]
theorem tableRows_ok : ∀ (t : List ByteArray) (out : List Int), (∀ s ∈ t, s.size ≤ 8) → out.length + 20 * t.length ≤ 100000000 → Ev (fun k => tableRows k t out) (out ++ t.flatMap rowB)
  | [], out, _, _ => by
    simp only [List.flatMap_nil, List.append_nil]
    exact Ev.congr (f := fun _ => some out) (fun k => rfl) (Ev.now out)
  | s :: t, out, hs, hl => by
    have h8 := hs s (by simp)
    have hb := bytesOf_len s
    have := numBytes_len9 (v := (s.size : Int)) (by omega) (by omega)
    rw [List.length_cons] at hl
    have ih := tableRows_ok t (out ++ rowB s) (fun s hm => hs s (by simp [hm])) (by simp [rowB, hb]; omega)
    rw [List.append_assoc] at ih
    refine Ev.call0 (bytes02_row (bytesOf s) (by omega)) (by simpa using ih) (fun k hk => ?_)
    rw [tableRows, if_pos (by omega), hk, Option.bind_some, if_pos (by simp [hb]; omega), hb]
    rfl
theorem formed_sizes {t : List ByteArray} (h : formedB t = true) : ∀ s ∈ t, s.size ≤ 8 := fun s hs => by
  obtain ⟨i, hi, rfl⟩ := List.getElem_of_mem hs
  exact (formed_size h i hi).2
theorem tableB_okbs {t : List ByteArray} (h : formedB t = true) : okbs (tableB t) := by
  have := formed_len h
  refine okbs_append (numBytes_okbs (by omega) (by omega)) (fun x hx => ?_)
  obtain ⟨s, hs, hx⟩ := List.mem_flatMap.1 hx
  have := formed_sizes h s hs
  exact okbs_append (numBytes_okbs (by omega) (by omega)) (bytesOf_ok s) x hx
theorem table_sym_ok {t : List ByteArray} (h : formedB t = true) {l : List Int} (hl : l.length ≤ 50000000) : sym_PutTable.f l t = some (l ++ tableB t, 0) := by
  have hlen := formed_len h
  have := numBytes_len9 (v := (t.length : Int)) (by omega) (by omega)
  unfold sym_PutTable.f
  rw [if_pos h, put_ok (by omega) (by omega) (by omega), Option.bind_some, putRows_ok t _ (formed_sizes h) (by simp; omega)]
  simp [tableB]
theorem table_ref_ok {t : List ByteArray} (h : formedB t = true) : Ev (fun k => dragnetref06_Table.f k t) (tableB t) := by
  have hlen := formed_len h
  have := numBytes_len9 (v := (t.length : Int)) (by omega) (by omega)
  refine Ev.call0 (bytes02 (v := (t.length : Int)) (by omega) (by omega)) (tableRows_ok t (numBytes (t.length : Int)) (formed_sizes h) (by omega)) (fun k hk => ?_)
  unfold dragnetref06_Table.f
  rw [hk, Option.bind_some]
theorem rows_len : ∀ (t : List ByteArray), (∀ s ∈ t, s.size ≤ 8) → (t.flatMap rowB).length ≤ 17 * t.length
  | [], _ => by simp
  | s :: t, h => by
    have h8 := h s (by simp)
    have hb := bytesOf_len s
    have := numBytes_len9 (v := (s.size : Int)) (by omega) (by omega)
    have ih := rows_len t (fun s hm => h s (by simp [hm]))
    rw [List.flatMap_cons, List.length_append, rowB, List.length_append, List.length_cons]
    omega
theorem tableB_len {t : List ByteArray} (h : formedB t = true) : (tableB t).length ≤ 1000 := by
  have hlen := formed_len h
  have := numBytes_len9 (v := (t.length : Int)) (by omega) (by omega)
  have := rows_len t (formed_sizes h)
  rw [tableB, List.length_append]
  omega
end Go.Proofs.Ytnmidkjmflnolaa.Pure
end
section
namespace Go.Proofs.Ytnmidkjmflnolaa.Pure
open Go Go.RowKit Go.Lib Go.Proofs.YtnmidkjmflnolaaW.PrintWords Go.Proofs.Ytnmidkjmflnolaa.P Go.Proofs.Ytnmidkjmflnolaa.Maps
set_option linter.unusedVariables false

/-! ### a table of pieces is formed -/
theorem fresh_of : ∀ (l seen : List ByteArray), (∀ x ∈ l, 2 ≤ x.size ∧ x.size ≤ 8) → (seen ++ l).Nodup → freshIn seen l = true
  | [], _, _, _ => rfl
  | s :: r, seen, h, hn => by
    have h1 := h s (List.mem_cons_self ..)
    rw [freshIn, okSym, decide_eq_true h1.1, decide_eq_true h1.2, fresh_of r (seen ++ [s]) (fun x hx => h x (List.mem_cons_of_mem _ hx)) (by rw [List.append_assoc]; exact hn)]
    have h2 : memB s seen = false := by
      rw [← Bool.not_eq_true, memB_iff]
      intro e
      exact (List.nodup_append.1 hn).2.2 s e s (List.mem_cons_self ..) rfl
    rw [h2]
    rfl
theorem train_mem {all : List ByteArray} {x : ByteArray} (h : x ∈ trainAll all) : x ∈ all := by
  unfold trainAll at h
  obtain ⟨y, hy, rfl⟩ := List.mem_map.1 h
  have h1 := (List.mergeSort_perm (candP all) leP).mem_iff.1 (List.mem_of_mem_take hy)
  unfold candP at h1
  obtain ⟨s, hs, rfl⟩ := List.mem_map.1 h1
  exact mem_distP.1 ((List.mem_filter.1 hs).1)
theorem train_nodup (all : List ByteArray) : (trainAll all).Nodup := by
  unfold trainAll
  rw [List.map_take]
  refine List.Nodup.sublist (List.take_sublist _ _) ?_
  refine ((List.mergeSort_perm (candP all) leP).map (·.1)).nodup_iff.2 ?_
  unfold candP
  rw [List.map_map, show ((fun x : ByteArray × Int => x.1) ∘ worthP all) = id from rfl, List.map_id]
  exact (nodup_distP all).filter _
theorem train_len (all : List ByteArray) : (trainAll all).length ≤ 32 := by
  unfold trainAll
  rw [List.length_map, List.length_take]
  omega
theorem train_formed (x0 : List (List Int)) : formedB (trainAll (allP 1024 x0)) = true := by
  unfold formedB
  rw [decide_eq_true (train_len _), fresh_of _ [] (fun x hx => allP_size _ _ x (train_mem hx)) (by rw [List.nil_append]; exact train_nodup _)]
  rfl
end Go.Proofs.Ytnmidkjmflnolaa.Pure
end
section
namespace Go.Proofs.Ytnmidkjmflnolaa.Pure
open Go Go.RowKit Go.Proofs.YtnmidkjmflnolaaW.PrintWords Go.Proofs.Ytnmidkjmflnolaa.P Go.Proofs.Ytnmidkjmflnolaa.Maps
set_option linter.unusedVariables false

/-- What stands for a number beyond 15. -/
def layB (n : Nat) : List Int := List.replicate (n / 255) 255 ++ [((n % 255 : Nat) : Int)]
theorem layB_len (n : Nat) : (layB n).length = n / 255 + 1 := by simp [layB]
theorem layB_big {n : Nat} (h : 255 ≤ n) : layB n = 255 :: layB (n - 255) := by
  unfold layB
  rw [show n / 255 = (n - 255) / 255 + 1 by omega, show n % 255 = (n - 255) % 255 by omega]
  rfl
theorem layB_small {n : Nat} (h : n < 255) : layB n = [(n : Int)] := by
  unfold layB
  rw [show n / 255 = 0 by omega, show n % 255 = n by omega]
  rfl
theorem lay_ok : ∀ (n : Nat) (b : List Int), n ≤ 10000000 → b.length + n ≤ 100000000 → Ev (fun k => lz_lay.f k b (n : Int)) (b ++ layB n) := by
  intro n
  induction n using Nat.strongRecOn with
  | ind n ih =>
    intro b hn hb
    rcases Nat.lt_or_ge n 255 with h | h
    · refine Ev.step (f := fun _ => some (b ++ layB n)) (fun k => ?_) (Ev.now _)
      show lz_lay.l0 (k + 1) b (n : Int) = _
      rw [lz_lay.l0, if_neg (by omega), if_pos (by omega), layB_small h, Int.emod_eq_of_lt (by omega) (by omega)]
    · have := ih (n - 255) (by omega) (b ++ [255]) (by omega) (by simp; omega)
      rw [List.append_assoc, List.singleton_append, ← layB_big h] at this
      refine Ev.step (fun k => ?_) this
      show lz_lay.l0 (k + 1) b (n : Int) = lz_lay.l0 k (b ++ [255]) ((n - 255 : Nat) : Int)
      rw [lz_lay.l0, if_pos (by omega), if_pos (by omega), wrap_in (by omega) (by omega)]
      congr 1
      omega
/-- A part's first byte: how many literals, how long what comes again is beyond 4. -/
def tokB (a m : Nat) : Int := (Go.bits .or .i64 (((min a 15 : Nat) : Int) * 16) ((min m 15 : Nat) : Int)) % 256
theorem mn_nat (a : Nat) : mn (a : Int) 15 = ((min a 15 : Nat) : Int) := by unfold mn; split <;> omega
def litB (l : List Int) (m : Nat) : List Int := tokB l.length m :: ((if 15 ≤ l.length then layB (l.length - 15) else []) ++ l)
theorem litB_len (l : List Int) (m : Nat) : (litB l m).length = 1 + (if 15 ≤ l.length then (l.length - 15) / 255 + 1 else 0) + l.length := by
  unfold litB
  split
  · simp [layB_len]; omega
  · simp; omega
theorem lit_ok (b l : List Int) (m : Nat) (hb : b.length + 2 * l.length ≤ 50000000) (hl : l.length ≤ 10000000) : Ev (fun k => lz_literals.f k b l (m : Int)) (b ++ litB l m) := by
  by_cases h15 : 15 ≤ l.length
  · have hlay := lay_ok (l.length - 15) (b ++ [tokB l.length m]) (by omega) (by simp; omega)
    refine Ev.call0 hlay (Ev.now _) (fun k hk => ?_)
    have hmin : min l.length 15 = 15 := by omega
    have hll : (layB (l.length - 15)).length ≤ l.length := by rw [layB_len]; omega
    unfold lz_literals.f
    rw [if_pos (by omega), Option.bind_some, mn_nat, mn_nat]
    rw [if_pos (by rw [hmin]; rfl), wrap_in (by omega) (by omega), show ((l.length : Int) - 15) = ((l.length - 15 : Nat) : Int) by omega]
    show ((lz_lay.f k (b ++ [tokB l.length m]) _).bind _) = _
    rw [hk, Option.bind_some, if_pos (by simp; omega)]
    unfold litB
    rw [if_pos h15]
    simp
  · refine Ev.congr (f := fun _ => some (b ++ litB l m)) (fun k => ?_) (Ev.now _)
    have hmin : min l.length 15 = l.length := by omega
    unfold lz_literals.f
    rw [if_pos (by omega), Option.bind_some, mn_nat, mn_nat]
    rw [if_neg (by rw [hmin]; omega)]
    show (if (b ++ [tokB l.length m]).length + l.length < _ then _ else _) = _
    rw [if_pos (by simp; omega)]
    unfold litB
    rw [if_neg h15]
    simp [tokB]
/-- A part: literals, how far back, how long. -/
def partB (l : List Int) (dist m : Nat) : List Int := litB l m ++ [((dist % 256 : Nat) : Int), ((dist / 256 % 256 : Nat) : Int)] ++ (if 15 ≤ m then layB (m - 15) else [])
theorem partB_len (l : List Int) (dist m : Nat) : 255 * (partB l dist m).length ≤ 256 * (l.length + (m + 4)) := by
  unfold partB
  rw [List.length_append, List.length_append, litB_len]
  simp only [List.length_cons, List.length_nil]
  have h1 := layB_len (m - 15)
  split <;> split <;> (try simp only [List.length_nil]) <;> omega
theorem hitAt_lt {b : List Int} {i k : Nat} (h : hitAt b i = some k) : k < i ∧ i ≤ k + 65535 ∧ lastIx b i (key4 b i) = some (k : Int) := by
  unfold hitAt at h
  obtain ⟨j, hj, h2⟩ := Option.bind_eq_some_iff.1 h
  obtain ⟨q, rfl, hq⟩ := lastIx_lt b i _ j hj
  split at h2
  · cases h2
  · next hf =>
    cases h2
    rw [Int.toNat_natCast]
    exact ⟨hq, by omega, hj⟩
theorem pack_step_some {b : List Int} {i j : Nat} (h : hitAt b i = some j) (hi : ¬ b.length < i + 4) (hb : b.length ≤ 1048576) (D : Nat) (out : List Int) (fr : Nat) (hfr : fr ≤ i) (ho : out.length ≤ 4000000) {r : List Int}
    (hr : Ev (fun k => packL b k D (out ++ partB ((b.take i).drop fr) (i - j) (matchN b i j b.length 4 - 4)) (i + matchN b i j b.length 4) (i + matchN b i j b.length 4)) r) :
    Ev (fun k => packL b k (D + 1) out fr i) r := by
  obtain ⟨hj, hfar, _⟩ := hitAt_lt h
  obtain ⟨hm1, hm2⟩ := matchN_le b i j b.length 4
  have hm3 := hm2 (by omega)
  obtain ⟨M, hM⟩ : ∃ M, matchN b i j b.length 4 = M := ⟨_, rfl⟩
  rw [hM] at hr hm1 hm3
  have hml : ((b.take i).drop fr).length ≤ b.length := by rw [List.length_drop, List.length_take]; omega
  have h1 := lit_ok out ((b.take i).drop fr) (M - 4) (by omega) (by omega)
  have e1 : ((M : Nat) : Int) - 4 = ((M - 4 : Nat) : Int) := by omega
  have hll := litB_len ((b.take i).drop fr) (M - 4)
  have hlen : (out ++ litB ((b.take i).drop fr) (M - 4)).length ≤ 10000000 := by
    rw [List.length_append, hll]
    split <;> omega
  have ed : ((i : Int) - (j : Int)) = ((i - j : Nat) : Int) := by omega
  have e2 : [((i : Int) - (j : Int)) % 256, (((i : Int) - (j : Int)) / 256) % 256] = [(((i - j) % 256 : Nat) : Int), (((i - j) / 256 % 256 : Nat) : Int)] := by
    rw [ed]
    congr 1
  by_cases h15 : 15 ≤ M - 4
  · have h2 := lay_ok (M - 4 - 15) (out ++ litB ((b.take i).drop fr) (M - 4) ++ [(((i - j) % 256 : Nat) : Int), (((i - j) / 256 % 256 : Nat) : Int)]) (by omega) (by simp only [List.length_append, List.length_cons, List.length_nil] at *; omega)
    unfold partB at hr
    rw [if_pos h15] at hr
    have h3 : Ev (fun k => (lz_lay.f k (out ++ litB ((b.take i).drop fr) (M - 4) ++ [(((i - j) % 256 : Nat) : Int), (((i - j) / 256 % 256 : Nat) : Int)]) ((M - 4 - 15 : Nat) : Int)).bind fun o3 => packL b k D o3 (i + M) (i + M)) r := Ev.bind h2 (by simpa only [List.append_assoc] using hr)
    refine Ev.call0 h1 h3 (fun k hk => ?_)
    rw [packL, if_neg hi, h]
    simp only [hM]
    rw [e1, hk, Option.bind_some, if_pos (by omega), if_pos (by omega), e2, show ((M - 4 : Nat) : Int) - 15 = ((M - 4 - 15 : Nat) : Int) by omega]
  · unfold partB at hr
    rw [if_neg h15, List.append_nil] at hr
    refine Ev.call0 h1 hr (fun k hk => ?_)
    rw [packL, if_neg hi, h]
    simp only [hM]
    rw [e1, hk, Option.bind_some, if_pos (by omega), if_neg (by omega), e2]
    simp only [List.append_assoc]
theorem pack_ev (b : List Int) (hb : b.length ≤ 1048576) : ∀ (D : Nat) (out : List Int) (fr i : Nat), fr ≤ i → i ≤ b.length → b.length + 2 ≤ D + i → 255 * out.length ≤ 256 * fr →
    ∃ r, Ev (fun k => packL b k D out fr i) r ∧ 255 * r.length ≤ 256 * b.length + 510
  | 0, out, fr, i, h1, h2, h3, h4 => by omega
  | D + 1, out, fr, i, h1, h2, h3, h4 => by
    by_cases hend : b.length < i + 4
    · refine ⟨_, Ev.congr (fun k => ?_) (lit_ok out (b.drop fr) 0 (by rw [List.length_drop]; omega) (by rw [List.length_drop]; omega)), ?_⟩
      · rw [packL, if_pos hend]
        rfl
      · rw [List.length_append, litB_len, List.length_drop]
        split <;> omega
    · cases hh : hitAt b i with
      | none =>
        obtain ⟨r, hr, hl⟩ := pack_ev b hb D out fr (i + 1) (by omega) (by omega) (by omega) h4
        exact ⟨r, Ev.congr (fun k => by rw [packL, if_neg hend, hh]) hr, hl⟩
      | some j =>
        obtain ⟨hm1, hm2⟩ := matchN_le b i j b.length 4
        have hm3 := hm2 (by omega)
        have hp := partB_len ((b.take i).drop fr) (i - j) (matchN b i j b.length 4 - 4)
        have hml : ((b.take i).drop fr).length = i - fr := by rw [List.length_drop, List.length_take]; omega
        obtain ⟨r, hr, hl⟩ := pack_ev b hb D (out ++ partB ((b.take i).drop fr) (i - j) (matchN b i j b.length 4 - 4)) (i + matchN b i j b.length 4) (i + matchN b i j b.length 4) (Nat.le_refl _) hm3 (by omega) (by rw [List.length_append]; omega)
        exact ⟨r, pack_step_some hh hend hb D out fr h1 (by omega) hr, hl⟩
theorem pack_all (b : List Int) (hb : b.length ≤ 1048576) : ∃ r, Ev (fun k => lz_Pack.f k b) r ∧ r.length ≤ b.length + b.length / 255 + 2 := by
  obtain ⟨r, hr, hl⟩ := pack_ev b hb (b.length + 2) [] 0 0 (Nat.le_refl _) (Nat.zero_le _) (by omega) (by simp)
  refine ⟨r, Ev.congr (fun k => ?_) hr, by omega⟩
  unfold lz_Pack.f
  rw [if_pos hb]
end Go.Proofs.Ytnmidkjmflnolaa.Pure
end
section
namespace Go.Proofs.Ytnmidkjmflnolaa.Pure
open Go Go.RowKit Go.Proofs.YtnmidkjmflnolaaW.PrintWords Go.Proofs.YtnmidkjmflnolaaW.PrintMore Go.Proofs.Ytnmidkjmflnolaa.P Go.Proofs.Ytnmidkjmflnolaa.Maps
set_option linter.unusedVariables false

theorem rd_rep {n i : Nat} {v : Int} (h : i < n) : rd (List.replicate n v) (i : Int) = v := by
  rw [rd_nat _ _ (by simpa using h), List.getElem_replicate]
theorem min_rep (n : Nat) (v : Int) (hn : n ≤ 1000) : ∀ d i : Nat, i + d = n → Ev (fun k => slices_Min_uint64_uint64.l0 k (List.replicate n v) v (i : Int)) v
  | 0, i, h => by
    refine Ev.step (f := fun _ => some v) (fun k => ?_) (Ev.now _)
    rw [slices_Min_uint64_uint64.l0, if_neg (by simp; omega)]
  | d + 1, i, h => by
    refine Ev.step (fun k => ?_) (min_rep n v hn d (i + 1) (by omega))
    rw [slices_Min_uint64_uint64.l0, if_pos (by simp; omega), if_pos (by omega), rd_rep (by omega), wrap_in (by omega) (by omega), show mn v v = v by unfold mn; split <;> rfl]
    rfl
theorem min_all (n : Nat) (v : Int) (h1 : 1 ≤ n) (hn : n ≤ 1000) : Ev (fun k => slices_Min_uint64_uint64.f k (List.replicate n v)) v := by
  refine Ev.congr (fun k => ?_) (min_rep n v hn (n - 1) 1 (by omega))
  unfold slices_Min_uint64_uint64.f
  rw [if_neg (by simp; omega), if_pos (by simp; omega), show (0 : Int) = ((0 : Nat) : Int) from rfl, rd_rep (by omega)]
  rfl
theorem high0 (w : Nat) (h : w ≤ 64) : pfor_high.f 0 (w : Int) = some 0 := by
  unfold pfor_high.f
  split
  · rfl
  · rw [if_pos (by omega)]
    simp [shr]
theorem width_in (n : Nat) (hn : n ≤ 32) (best least : Int) (w : Nat) (hw : w ≤ 64) (x6 r : Int) (hr : Ev (fun k => pfor_width.l1 k (List.replicate n 0) best least (w : Int) x6 (List.replicate n 0) (n : Int) (n : Int)) r) :
    ∀ d i : Nat, i + d = n → Ev (fun k => pfor_width.l1 k (List.replicate n 0) best least (w : Int) x6 (List.replicate n 0) (n : Int) (i : Int)) r
  | 0, i, h => by
    obtain rfl : i = n := by omega
    exact hr
  | d + 1, i, h => by
    refine Ev.step (fun k => ?_) (width_in n hn best least w hw x6 r hr d (i + 1) (by omega))
    rw [pfor_width.l1, if_pos (by omega), if_pos (by omega), if_pos (by simp; omega), rd_rep (by omega), high0 w hw, Option.bind_some, if_neg (by omega), wrap_in (by omega) (by omega)]
    rfl
theorem width_from (n : Nat) (h1 : 1 ≤ n) (hn : n ≤ 32) : ∀ d w : Nat, w + d = 65 → 1 ≤ w → Ev (fun k => pfor_width.l0 k (List.replicate n 0) 0 0 (w : Int)) 0
  | 0, w, h, _ => by
    refine Ev.step (f := fun _ => some 0) (fun k => ?_) (Ev.now _)
    rw [pfor_width.l0, if_neg (by omega)]
  | d + 1, w, h, hw => by
    have ih := width_from n h1 hn d (w + 1) (by omega) (by omega)
    have hnw : n ≤ n * w := Nat.le_mul_of_pos_right n hw
    have hnw2 : n * w ≤ 32 * 64 := Nat.mul_le_mul hn (by omega)
    have hx : wrap64 (Int.tdiv (wrap64 (wrap64 ((n : Int) * (w : Int)) + 7)) 8) = (((n * w + 7) / 8 : Nat) : Int) := by
      rw [show (n : Int) * (w : Int) = ((n * w : Nat) : Int) from (Int.natCast_mul n w).symm]
      generalize n * w = q at hnw hnw2 ⊢
      rw [wrap_in (x := (q : Int)) (by omega) (by omega), wrap_in (x := (q : Int) + 7) (by omega) (by omega), Int.tdiv_eq_ediv_of_nonneg (by omega), wrap_in (by omega) (by omega)]
      omega
    have hpos : 1 ≤ (n * w + 7) / 8 := by omega
    have h2 : Ev (fun k => pfor_width.l1 k (List.replicate n 0) 0 0 (w : Int) (((n * w + 7) / 8 : Nat) : Int) (List.replicate n 0) (n : Int) (n : Int)) 0 := by
      refine Ev.step (fun k => ?_) ih
      rw [pfor_width.l1, if_neg (by omega), if_neg (by omega), if_neg (by omega), wrap_in (by omega) (by omega)]
      rfl
    refine Ev.step (fun k => ?_) (width_in n hn 0 0 w (by omega) _ 0 h2 n 0 (by omega))
    rw [pfor_width.l0, if_pos (by omega), List.length_replicate, hx]
    rfl
theorem width_rep (n : Nat) (h1 : 1 ≤ n) (hn : n ≤ 32) : Ev (fun k => pfor_width.f k (List.replicate n 0)) 0 := by
  have ih := width_from n h1 hn 64 1 (by omega) (by omega)
  have h2 : Ev (fun k => pfor_width.l1 k (List.replicate n 0) 0 (-1) ((0 : Nat) : Int) 0 (List.replicate n 0) (n : Int) (n : Int)) 0 := by
    refine Ev.step (fun k => ?_) ih
    rw [pfor_width.l1, if_neg (by omega), if_pos (by omega), wrap_in (by omega) (by omega)]
    rfl
  have h3 : Ev (fun k => pfor_width.l0 k (List.replicate n 0) 0 (-1) 0) 0 := by
    refine Ev.step (fun k => ?_) (width_in n hn 0 (-1) 0 (by omega) 0 0 h2 n 0 (by omega))
    rw [pfor_width.l0, if_pos (by omega), List.length_replicate, Int.mul_zero, wrap_in (x := 0) (by omega) (by omega), wrap_in (x := 0 + 7) (by omega) (by omega), show Int.tdiv (0 + 7) 8 = 0 from rfl, wrap_in (by omega) (by omega)]
    rfl
  exact Ev.congr (fun k => rfl) h3
theorem bitsW_rep (n : Nat) (hn : n ≤ 32) : ∀ d i : Nat, i + d = n → Ev (fun k => bits_Width.l0 k 0 (List.replicate n 0) (n : Int) (i : Int)) 0
  | 0, i, h => by
    refine Ev.step (f := fun _ => some 0) (fun k => ?_) (Ev.now _)
    rw [bits_Width.l0, if_neg (by omega)]
    rfl
  | d + 1, i, h => by
    refine Ev.step (fun k => ?_) (bitsW_rep n hn d (i + 1) (by omega))
    rw [bits_Width.l0, if_pos (by omega), if_pos (by omega), if_pos (by simp; omega), rd_rep (by omega), wrap_in (by omega) (by omega)]
    rfl
theorem bitsP_rep (n : Nat) (hn : n ≤ 32) : ∀ d i : Nat, i + d = n → Ev (fun k => bits_Pack.l0 k 0 [] 0 0 (List.replicate n 0) (n : Int) (i : Int)) ([], 0)
  | 0, i, h => by
    refine Ev.step (f := fun _ => some ([], 0)) (fun k => ?_) (Ev.now _)
    rw [bits_Pack.l0, if_neg (by omega), if_neg (by omega)]
  | d + 1, i, h => by
    refine Ev.step (f := fun k => bits_Pack.l1 k 0 [] 0 0 0 0 (List.replicate n 0) (n : Int) (i : Int)) (fun k => ?_) (Ev.step (fun k => ?_) (bitsP_rep n hn d (i + 1) (by omega)))
    · rw [bits_Pack.l0, if_pos (by omega), if_pos (by omega), if_pos (by simp; omega), rd_rep (by omega)]
    · rw [bits_Pack.l1, if_neg (by omega), wrap_in (by omega) (by omega)]
      rfl
theorem bitsP_all (n : Nat) (h1 : 1 ≤ n) (hn : n ≤ 32) : Ev (fun k => bits_Pack.f k (List.replicate n 0) 0) ([], 0) := by
  have hw : Ev (fun k => bits_Width.f k (List.replicate n 0)) 0 := Ev.congr (fun k => by unfold bits_Width.f; rw [List.length_replicate]; rfl) (bitsW_rep n hn n 0 (by omega))
  have hp := bitsP_rep n hn n 0 (by omega)
  refine Ev.congr (g := fun k => bits_Pack.f k (List.replicate n 0) 0) (f := fun k => bits_Pack.j0 k (List.replicate n 0) 0 false) (fun k => by unfold bits_Pack.f; rw [if_neg (by omega)]; rfl) ?_
  refine Ev.step (f := fun k => (bits_Width.f k (List.replicate n 0)).bind fun t => if t > 0 then some (([] : List Int), 7) else (make_bytes.f (wrap64 ((wrap64 ((wrap64 ((n : Int) / 8)) * 0)) + 0))).bind fun t149 => bits_Pack.l0 k 0 t149 0 0 (List.replicate n 0) (n : Int) 0) (fun k => by rw [bits_Pack.j0, if_neg (by simp), List.length_replicate]) ?_
  refine Ev.bind hw (Ev.congr (fun k => ?_) hp)
  rw [if_neg (by omega), Int.mul_zero, wrap_in (x := 0) (by omega) (by omega), wrap_in (x := 0 + 0) (by omega) (by omega), show make_bytes.f (0 + 0) = some [] from rfl, Option.bind_some]
  rfl
theorem rdL (l : List (List Int)) (i : Nat) (h : i < l.length) : rd_L4 l (i : Int) = l[i] := by simp [rd_L4, List.getD, h]
theorem concat_l1 (ls : List (List Int)) (hn : ls.length ≤ 1000) : ∀ (d i : Nat) (out : List Int), i + d = ls.length → out.length + (ls.drop i).flatten.length ≤ 100000000 → Ev (fun k => slices_Concat_byte_byte.l1 k out ls (ls.length : Int) (i : Int)) (out ++ (ls.drop i).flatten)
  | 0, i, out, h, hb => by
    refine Ev.step (f := fun _ => some (out ++ (ls.drop i).flatten)) (fun k => ?_) (Ev.now _)
    rw [slices_Concat_byte_byte.l1, if_neg (by omega), List.drop_of_length_le (by omega)]
    simp
  | d + 1, i, out, h, hb => by
    have hi : i < ls.length := by omega
    have e : (ls.drop i).flatten = ls[i] ++ (ls.drop (i + 1)).flatten := by rw [List.drop_eq_getElem_cons hi]; rfl
    rw [e, List.length_append] at hb
    have ih := concat_l1 ls hn d (i + 1) (out ++ ls[i]) (by omega) (by rw [List.length_append]; omega)
    rw [e, ← List.append_assoc]
    refine Ev.step (fun k => ?_) ih
    rw [slices_Concat_byte_byte.l1, if_pos (by omega), if_pos (by omega), if_pos (by omega), rdL _ _ hi, if_pos (by omega), wrap_in (by omega) (by omega)]
    rfl
theorem concat_l0 (ls : List (List Int)) (hn : ls.length ≤ 1000) (ht : ls.flatten.length ≤ 1048576) : ∀ (d i s : Nat), i + d = ls.length → s + (ls.drop i).flatten.length ≤ 1048576 → Ev (fun k => slices_Concat_byte_byte.l0 k ls (s : Int) ls (ls.length : Int) (i : Int)) ls.flatten
  | 0, i, s, h, hb => by
    have h1 := concat_l1 ls hn ls.length 0 [] (by omega) (by simpa using Nat.le_trans ht (by omega))
    rw [List.drop_zero, List.nil_append] at h1
    refine Ev.step (fun k => ?_) h1
    rw [slices_Concat_byte_byte.l0, if_neg (by omega), show slices_Grow_nil.f (s : Int) = some [] by unfold slices_Grow_nil.f; rw [if_pos (by omega)], Option.bind_some]
    rfl
  | d + 1, i, s, h, hb => by
    have hi : i < ls.length := by omega
    have e : (ls.drop i).flatten = ls[i] ++ (ls.drop (i + 1)).flatten := by rw [List.drop_eq_getElem_cons hi]; rfl
    rw [e, List.length_append] at hb
    have ih := concat_l0 ls hn ht d (i + 1) (s + ls[i].length) (by omega) (by omega)
    refine Ev.step (fun k => ?_) ih
    rw [slices_Concat_byte_byte.l0, if_pos (by omega), if_pos (by omega), if_pos (by omega), rdL _ _ hi, wrap_in (by omega) (by omega), if_neg (by omega), wrap_in (by omega) (by omega)]
    rfl
theorem concat_ok (ls : List (List Int)) (hn : ls.length ≤ 1000) (ht : ls.flatten.length ≤ 1048576) : Ev (fun k => slices_Concat_byte_byte.f k ls) ls.flatten := Ev.congr (fun k => rfl) (concat_l0 ls hn ht ls.length 0 0 (by omega) (by simpa using ht))
theorem put_l1 (n : Nat) (h1 : 1 ≤ n) (hn : n ≤ 32) (v : Int) (hv0 : 0 ≤ v) (hv : v ≤ 18446744073709551615) (b : List Int) (hb : b.length ≤ 1000000) : ∀ d i : Nat, i + d = n → Ev (fun k => pfor_PutBlock.l1 k b (List.replicate n v) v 0 [] 0 (List.replicate n 0) (List.replicate n 0) (n : Int) (i : Int)) (b ++ [(n : Int)] ++ numBytes v ++ [0, 0], 0)
  | 0, i, h => by
    have hl9 := numBytes_len9 hv0 hv
    obtain ⟨K1, hp⟩ := bitsP_all n h1 hn
    obtain ⟨K2, hc⟩ := concat_ok [b ++ [(n : Int)] ++ numBytes v ++ [0, 0], [], []] (by simp) (by simp; omega)
    refine ⟨K1 + K2 + 1, fun k hk => ?_⟩
    obtain ⟨m, rfl⟩ : ∃ m, k = m + 1 := ⟨k - 1, by omega⟩
    dsimp only at hp hc ⊢
    rw [pfor_PutBlock.l1, if_neg (by omega), hp m (by omega), Option.bind_some]
    simp only
    rw [if_pos trivial, show slices_Clone_byte.f b = some b by unfold slices_Clone_byte.f; rw [if_pos (by omega)], Option.bind_some, if_pos (by omega), List.length_replicate, Int.emod_eq_of_lt (by omega) (by omega), put_ok (by simp; omega) hv0 hv, Option.bind_some, Option.bind_some, if_pos (by simp; omega)]
    have := hc m (by omega)
    simp only [List.flatten_cons, List.flatten_nil, List.append_nil] at this
    rw [show ((0 : Int) % 256) = 0 from rfl, this]
    rfl
  | d + 1, i, h => by
    refine Ev.step (fun k => ?_) (put_l1 n h1 hn v hv0 hv b hb d (i + 1) (by omega))
    rw [pfor_PutBlock.l1, if_pos (by omega), if_pos (by omega), if_pos (by simp; omega), rd_rep (by omega), show pfor_high.f 0 0 = some 0 from high0 0 (by omega), Option.bind_some, if_pos (by simp; omega), Option.bind_some, if_neg (by omega), wrap_in (by omega) (by omega), List.set_replicate_self]
    rfl
theorem put_l0 (n : Nat) (h1 : 1 ≤ n) (hn : n ≤ 32) (v : Int) (hv0 : 0 ≤ v) (hv : v ≤ 18446744073709551615) (b : List Int) (hb : b.length ≤ 1000000) : ∀ d i : Nat, i + d = n → Ev (fun k => pfor_PutBlock.l0 k b (List.replicate n v) v (List.replicate n 0) (List.replicate n v) (n : Int) (i : Int)) (b ++ [(n : Int)] ++ numBytes v ++ [0, 0], 0)
  | 0, i, h => by
    obtain ⟨K1, hw⟩ := width_rep n h1 hn
    obtain ⟨K2, hp⟩ := put_l1 n h1 hn v hv0 hv b hb n 0 (by omega)
    refine ⟨K1 + K2 + 1, fun k hk => ?_⟩
    obtain ⟨m, rfl⟩ : ∃ m, k = m + 1 := ⟨k - 1, by omega⟩
    dsimp only at hw hp ⊢
    rw [pfor_PutBlock.l0, if_neg (by omega), hw m (by omega), Option.bind_some, List.length_replicate, if_pos (by omega), if_pos (by omega), List.length_replicate, Int.toNat_natCast]
    exact hp m (by omega)
  | d + 1, i, h => by
    refine Ev.step (fun k => ?_) (put_l0 n h1 hn v hv0 hv b hb d (i + 1) (by omega))
    rw [pfor_PutBlock.l0, if_pos (by omega), if_pos (by omega), if_pos (by simp; omega), if_pos (by simp; omega), rd_rep (by omega), Int.sub_self, show IntKind.u64.wrap 0 = 0 from rfl, List.set_replicate_self, wrap_in (by omega) (by omega)]
    rfl
theorem block_rep (n : Nat) (h1 : 1 ≤ n) (hn : n ≤ 32) (v : Int) (hv0 : 0 ≤ v) (hv : v ≤ 18446744073709551615) (b : List Int) (hb : b.length ≤ 1000000) : Ev (fun k => pfor_PutBlock.f k b (List.replicate n v)) (b ++ [(n : Int)] ++ numBytes v ++ [0, 0], 0) := by
  obtain ⟨K1, hm⟩ := min_all n v h1 (by omega)
  obtain ⟨K2, hp⟩ := put_l0 n h1 hn v hv0 hv b hb n 0 (by omega)
  refine ⟨K1 + K2 + 1, fun k hk => ?_⟩
  obtain ⟨m, rfl⟩ : ∃ m, k = m + 1 := ⟨k - 1, by omega⟩
  dsimp only at hm hp ⊢
  unfold pfor_PutBlock.f
  rw [List.length_replicate, if_neg (by omega), decide_eq_false (by omega), pfor_PutBlock.j0, if_neg (by simp), hm m (by omega), Option.bind_some, List.length_replicate, if_pos (by omega), if_pos (by omega), Int.toNat_natCast]
  exact hp m (by omega)
theorem list_rep (n : Nat) (h1 : 1 ≤ n) (hn : n ≤ 16) (v : Int) (hv0 : 0 ≤ v) (hv : v ≤ 18446744073709551615) (b : List Int) (hb : b.length ≤ 900000) : Ev (fun k => pfor_PutList.f k b (List.replicate n v)) (b ++ numBytes (n : Int) ++ [(n : Int)] ++ numBytes v ++ [0, 0]) := by
  have hl9 := numBytes_len9 (v := (n : Int)) (by omega) (by omega)
  obtain ⟨K2, hp⟩ := block_rep n h1 (by omega) v hv0 hv (b ++ numBytes (n : Int)) (by simp; omega)
  refine ⟨K2, fun k hk => ?_⟩
  dsimp only at hp ⊢
  unfold pfor_PutList.f
  rw [List.length_replicate, if_pos ⟨h1, by omega⟩, put_ok (by omega) (by omega) (by omega), Option.bind_some, hp k hk, Option.bind_some]
end Go.Proofs.Ytnmidkjmflnolaa.Pure
end
section
namespace Go.Proofs.Ytnmidkjmflnolaa.Pure
open Go Go.RowKit Go.Proofs.YtnmidkjmflnolaaW.PrintWords Go.Proofs.YtnmidkjmflnolaaW.PrintMore Go.Proofs.Ytnmidkjmflnolaa.P Go.Proofs.Ytnmidkjmflnolaa.Maps
set_option linter.unusedVariables false

def lensI (l : List (List Int)) : List Int := l.map fun x => (x.length : Int)
theorem lensI_len (l : List (List Int)) : (lensI l).length = l.length := by simp [lensI]
/-- The state of the loop that tells the lengths. -/
def lensAt (l : List (List Int)) (i : Nat) : List Int := lensI (l.take i) ++ List.replicate (l.length - i) 0
theorem lensAt_zero (l : List (List Int)) : lensAt l 0 = List.replicate l.length 0 := by simp [lensAt, lensI]
theorem lensAt_end (l : List (List Int)) : lensAt l l.length = lensI l := by simp [lensAt]
theorem lensAt_len (l : List (List Int)) (i : Nat) (h : i ≤ l.length) : (lensAt l i).length = l.length := by
  simp [lensAt, lensI]
  omega
theorem lensAt_set (l : List (List Int)) (i : Nat) (h : i < l.length) : (lensAt l i).set i (l[i].length : Int) = lensAt l (i + 1) := by
  unfold lensAt
  have e1 : (lensI (l.take i)).length = i := by rw [lensI_len, List.length_take]; omega
  rw [List.set_append_right _ _ (by omega), e1, Nat.sub_self, show l.length - i = (l.length - (i + 1)) + 1 by omega, List.replicate_succ, List.set_cons_zero]
  have e2 : lensI (l.take (i + 1)) = lensI (l.take i) ++ [(l[i].length : Int)] := by
    unfold lensI
    rw [List.take_succ_eq_append_getElem h, List.map_append]
    rfl
  rw [e2, List.append_assoc]
  rfl
/-- A payload, and its kind. -/
def pickB (t c p : List Int) : Int × List Int := if t.length + c.length < p.length then (2, t ++ c) else (1, p)
theorem lens_loop (b : List Int) (l : List (List Int)) (h16 : l.length ≤ 16) (hl : ∀ x ∈ l, x.length ≤ 65536) (r : List Int × Int) (hend : Ev (fun k => texts_Put.l0 k b l (lensI l) l (l.length : Int) (l.length : Int)) r) :
    ∀ d i : Nat, i + d = l.length → Ev (fun k => texts_Put.l0 k b l (lensAt l i) l (l.length : Int) (i : Int)) r
  | 0, i, h => by
    obtain rfl : i = l.length := by omega
    rw [lensAt_end]
    exact hend
  | d + 1, i, h => by
    have hi : i < l.length := by omega
    have ih := lens_loop b l h16 hl r hend d (i + 1) (by omega)
    have hx := hl l[i] (List.getElem_mem hi)
    refine Ev.step (fun k => ?_) ih
    rw [texts_Put.l0, if_pos (by omega), if_pos (by omega), if_pos (by omega), rdL _ _ hi, if_neg (by omega), if_pos (by rw [lensAt_len _ _ (by omega)]; omega), Int.toNat_natCast, u64_in (by omega) (by omega), lensAt_set _ _ hi, wrap_in (by omega) (by omega)]
    rfl
theorem partOk_of {l : List (List Int)} (hl : ∀ x ∈ l, x.length ≤ 65536) (hb : ∀ x ∈ l, okbs x) : l.all partOk = true := by
  rw [List.all_eq_true]
  intro x hx
  unfold partOk
  rw [decide_eq_true (hl x hx), Bool.true_and, List.all_eq_true]
  intro y hy
  have := hb x hx y hy
  unfold byteI
  rw [decide_eq_true this.1, decide_eq_true (by have := this.2; omega)]
  rfl
theorem put_texts (b : List Int) (l : List (List Int)) (h1 : 1 ≤ l.length) (h16 : l.length ≤ 16) (hl : ∀ x ∈ l, x.length ≤ 65536) (hok : ∀ x ∈ l, okbs x) (hb : b.length ≤ 5000000)
    (p c L : List Int) (hp : Ev (fun k => lz_Pack.f k l.flatten) p) (hpl : p.length ≤ 4000000) (hc : Ev (fun k => sym_Encode.f k (trainAll (allP 1024 l)) l.flatten) (c, 0)) (hcl : c.length ≤ 4000000)
    (hL : ∀ kind : Int, Ev (fun k => pfor_PutList.f k (b ++ [kind]) (lensI l)) (b ++ [kind] ++ L)) (hLl : L.length ≤ 4000000) :
    Ev (fun k => texts_Put.f k b l) (b ++ [(pickB (tableB (trainAll (allP 1024 l))) c p).1] ++ L ++ numBytes ((pickB (tableB (trainAll (allP 1024 l))) c p).2.length : Int) ++ (pickB (tableB (trainAll (allP 1024 l))) c p).2, 0) := by
  have hf := train_formed l
  have htl := tableB_len hf
  have hend : Ev (fun k => texts_Put.l0 k b l (lensI l) l (l.length : Int) (l.length : Int)) (b ++ [(pickB (tableB (trainAll (allP 1024 l))) c p).1] ++ L ++ numBytes ((pickB (tableB (trainAll (allP 1024 l))) c p).2.length : Int) ++ (pickB (tableB (trainAll (allP 1024 l))) c p).2, 0) := by
    obtain ⟨K1, hp⟩ := hp
    obtain ⟨K2, hc⟩ := hc
    obtain ⟨K3, h1L⟩ := hL 1
    obtain ⟨K4, h2L⟩ := hL 2
    dsimp only at hp hc h1L h2L
    refine ⟨K1 + K2 + K3 + K4 + 1, fun k hk => ?_⟩
    obtain ⟨m, rfl⟩ : ∃ m, k = m + 1 := ⟨k - 1, by omega⟩
    dsimp only
    have hj : bytes_Join.f l ([] : List Int) = some l.flatten := by unfold bytes_Join.f; rw [if_pos ⟨rfl, h16, partOk_of hl hok⟩]
    have hcl0 : bytes_Clone.f b = some b := by unfold bytes_Clone.f; rw [if_pos (by omega)]
    have htr : sym_Train.f l = some (trainAll (allP 1024 l)) := rfl
    have hpt := table_sym_ok hf (l := []) (by simp)
    rw [List.nil_append] at hpt
    rw [texts_Put.l0, if_neg (by omega), hj, Option.bind_some, hp m (by omega), Option.bind_some, htr, Option.bind_some, hpt, Option.bind_some, hc m (by omega), Option.bind_some]
    dsimp only
    rw [wrap_in (by omega) (by omega)]
    unfold pickB
    by_cases hlt : (tableB (trainAll (allP 1024 l))).length + c.length < p.length
    · rw [if_pos (by omega), if_pos (by omega), if_pos hlt, hcl0, Option.bind_some, if_pos (by omega), h2L m (by omega), Option.bind_some, putRow_ok (by simp; omega) (by simp; omega), Option.bind_some]
    · rw [if_neg (by omega), if_neg hlt, hcl0, Option.bind_some, if_pos (by omega), h1L m (by omega), Option.bind_some, putRow_ok (by simp; omega) (by omega), Option.bind_some]
  have hloop := lens_loop b l h16 hl _ hend l.length 0 (by omega)
  rw [lensAt_zero] at hloop
  refine Ev.congr (f := fun k => texts_Put.j0 k b l false) (fun k => ?_) (Ev.step (fun k => ?_) hloop)
  · unfold texts_Put.f
    rw [if_neg (by omega), decide_eq_false (by omega)]
  · rw [texts_Put.j0, if_neg (by simp), if_pos (by omega), if_pos (by omega), Int.toNat_natCast]
    rfl
end Go.Proofs.Ytnmidkjmflnolaa.Pure
end
section
namespace Go.Proofs.Ytnmidkjmflnolaa.Pure
open Go Go.RowKit Go.Proofs.YtnmidkjmflnolaaW.PrintWords Go.Proofs.YtnmidkjmflnolaaW.PrintMore Go.Proofs.Ytnmidkjmflnolaa.P Go.Proofs.Ytnmidkjmflnolaa.Maps
set_option linter.unusedVariables false

theorem TextsNeverLong : ∀ (x0 : List Int) (x1 : Int), (∀ x ∈ x0, (fun n => (Lit.int .u8 n).wf = true) x) → ((Lit.int .u8 x1).wf = true) → (Read.sumBulk (fun _ => 1) x0 + 1) + (1) ≤ 1048576 → ∃ k, dragnetlaw11_TextsNeverLong.f k x0 x1 = some true := by
  intro x a hx ha hsum
  have hx' : okbs x := okbs_wf hx
  have ha' := okb_wf ha
  unfold dragnetlaw11_TextsNeverLong.f
  by_cases hl : (x.length : Int) > 4096
  · exact ⟨0, by rw [if_pos ⟨ha'.1, ha'.2⟩, if_pos hl]⟩
  · obtain ⟨n, hn⟩ : ∃ n : Nat, (a % 16).toNat + 1 = n := ⟨_, rfl⟩
    have hn1 : 1 ≤ n := by omega
    have hn16 : n ≤ 16 := by have := ha'.1; omega
    have hflat : (List.replicate n x).flatten.length = n * x.length := by simp
    have hmul : n * x.length ≤ 16 * 4096 := Nat.mul_le_mul hn16 (by omega)
    have hmem : ∀ y ∈ List.replicate n x, y = x := fun y hy => (List.mem_replicate.1 hy).2
    have hokF : okbs (List.replicate n x).flatten := by
      intro y hy
      obtain ⟨z, hz, hyz⟩ := List.mem_flatten.1 hy
      rw [hmem z hz] at hyz
      exact hx' y hyz
    obtain ⟨p, hp, hpl⟩ := pack_all (List.replicate n x).flatten (by omega)
    obtain ⟨c, e, hc, _, hcok, hcf, _⟩ := encode06 (trainAll (allP 1024 (List.replicate n x))) (List.replicate n x).flatten hokF (by omega)
    obtain ⟨he, hcl⟩ := hcf (train_formed _)
    subst he
    have hlens : lensI (List.replicate n x) = List.replicate n (x.length : Int) := by simp [lensI]
    have hput := put_texts [] (List.replicate n x) (by simpa using hn1) (by simpa using hn16) (fun y hy => by rw [hmem y hy]; omega) (fun y hy => by rw [hmem y hy]; exact hx') (by simp) p c
      (numBytes (n : Int) ++ [(n : Int)] ++ numBytes (x.length : Int) ++ [0, 0]) hp (by omega) hc (by omega)
      (fun kind => by
        rw [hlens]
        have := list_rep n hn1 hn16 (x.length : Int) (by omega) (by omega) ([] ++ [kind]) (by simp)
        simpa only [List.append_assoc] using this)
      (by
        have h1 := numBytes_len9 (v := (n : Int)) (by omega) (by omega)
        have h2 := numBytes_len9 (v := (x.length : Int)) (by omega) (by omega)
        simp only [List.length_append, List.length_cons, List.length_nil]
        omega)
    obtain ⟨k, hk⟩ := hput.rounds
    refine ⟨k, ?_⟩
    rw [if_pos ⟨ha'.1, ha'.2⟩, if_neg hl, hn, hk, Option.bind_some]
    have hpick : (pickB (tableB (trainAll (allP 1024 (List.replicate n x)))) c p).2.length ≤ p.length := by
      unfold pickB
      split
      · next h => simp only [List.length_append]; omega
      · exact Nat.le_refl _
    have h1 := numBytes_len9 (v := (n : Int)) (by omega) (by omega)
    have h2 := numBytes_len9 (v := (x.length : Int)) (by omega) (by omega)
    have h3 := numBytes_len9 (v := ((pickB (tableB (trainAll (allP 1024 (List.replicate n x)))) c p).2.length : Int)) (by omega) (by omega)
    rw [hflat] at hpl
    rw [decide_eq_true rfl, Bool.true_and, decide_eq_true]
    simp only [List.length_append, List.length_cons, List.length_nil]
    omega
end Go.Proofs.Ytnmidkjmflnolaa.Pure
end
