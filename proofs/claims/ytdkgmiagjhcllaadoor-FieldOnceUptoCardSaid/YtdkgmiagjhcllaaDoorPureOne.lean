/- The field of a word: what the program's one computes. -/
import Derived.Test.YtdkgmiagjhcllaaDoorPureKey
import Derived.Test.YtdkgmiagjhcllaaDoorPureNumber
import Derived.Test.YtdkgmiagjhcllaaDoorRead0
import Derived.Lib.IndexMore
namespace Go.Proofs.YtdkgmiagjhcllaaDoor.Pure
open Go Go.RowKit Go.Proofs.YtdkgmiagjhcllaaDoorW.PrintWords Go.Proofs.YtdkgmiagjhcllaaDoorW.PrintLast Go.Proofs.YtdkgmiagjhcllaaDoorW.PrintMore Go.Proofs.YtdkgmiagjhcllaaDoor.P
set_option linter.unusedVariables false
set_option linter.unusedSimpArgs false

def noEq (c : UInt8) : Bool := c != 61
def eqPos (l : List UInt8) : Nat := (l.takeWhile noEq).length
theorem index_eq : ∀ l : List UInt8, Lib.index l [61] = if eqPos l < l.length then (eqPos l : Int) else -1
  | [] => rfl
  | b :: l => by
    have ih := index_eq l
    unfold Lib.index
    by_cases hb : b = 61
    · subst hb
      rw [if_pos (by simp [List.isPrefixOf])]
      simp [eqPos, List.takeWhile, noEq]
    · have hn : noEq b = true := by simp [noEq, hb]
      have he : eqPos (b :: l) = eqPos l + 1 := by simp [eqPos, List.takeWhile, hn]
      rw [if_neg (by simp [List.isPrefixOf]; exact fun e => hb e.symm), ih, he, List.length_cons]
      by_cases h : eqPos l < l.length
      · rw [if_pos h, if_neg (by simp), if_pos (by omega)]
        omega
      · rw [if_neg h, if_pos (by decide), if_neg (by omega)]
theorem cut_eq (l : List UInt8) : Lib.cut l [61] = if eqPos l < l.length then (l.take (eqPos l), l.drop (eqPos l + 1), true) else (l, [], false) := by
  unfold Lib.cut
  rw [index_eq]
  by_cases h : eqPos l < l.length
  · rw [if_pos h, if_pos (by omega), if_pos h]
    simp
  · rw [if_neg h, if_neg (by omega), if_neg h]
def bA (l : List UInt8) : ByteArray := ⟨l.toArray⟩
theorem bA_list (l : List UInt8) : (bA l).data.toList = l := rfl
theorem bA_size (l : List UInt8) : (bA l).size = l.length := by rw [Lib.size_eq]; rfl
theorem bA_of (x : ByteArray) : bA x.data.toList = x := rfl
/-- The field of a word, and whether it is one. -/
def oneS (l : List UInt8) : S28 × Bool :=
  if eqPos l < l.length then
    if (refNum (l.drop (eqPos l + 1))).2 = true then (⟨bA (l.take (eqPos l)), 1, (refNum (l.drop (eqPos l + 1))).1, ⟨#[]⟩⟩, keyB (bA (l.take (eqPos l))))
    else (⟨bA (l.take (eqPos l)), 2, 0, bA (l.drop (eqPos l + 1))⟩, keyB (bA (l.take (eqPos l))) && decide ((l.drop (eqPos l + 1)).length ≤ 64))
  else (z28, false)
def oneF (l : List UInt8) : S28 × Bool := if eqPos l < l.length ∧ keyB (bA (l.take (eqPos l))) = true then oneS l else (z28, false)
theorem oneF_snd (l : List UInt8) : (oneF l).2 = (oneS l).2 := by
  unfold oneF
  by_cases h : eqPos l < l.length ∧ keyB (bA (l.take (eqPos l))) = true
  · rw [if_pos h]
  · rw [if_neg h]
    unfold oneS
    by_cases h1 : eqPos l < l.length
    · have h2 : keyB (bA (l.take (eqPos l))) = false := Bool.eq_false_iff.2 fun e => h ⟨h1, e⟩
      rw [if_pos h1, h2]
      split <;> rfl
    · rw [if_neg h1]
theorem oneF_fst {l : List UInt8} (h : (oneS l).2 = true) : oneF l = oneS l := by
  unfold oneF
  rw [if_pos]
  unfold oneS at h
  by_cases h1 : eqPos l < l.length
  · rw [if_pos h1] at h
    refine ⟨h1, ?_⟩
    split at h
    · exact h
    · exact (Bool.and_eq_true_iff.1 h).1
  · rw [if_neg h1] at h
    cases h
theorem one_f (x : ByteArray) (hx : x.size < 4294967281) : field_one.f (x.size + 8) x = some ((oneF x.data.toList).1.f0, (oneF x.data.toList).1.f1, (oneF x.data.toList).1.f2, (oneF x.data.toList).1.f3, (oneF x.data.toList).2) := by
  have hl : x.data.toList.length = x.size := (Lib.size_eq x).symm
  unfold field_one.f strings_Cut.f
  rw [if_pos hx, Option.bind_some, show ((⟨#[61]⟩ : ByteArray)).data.toList = [61] from rfl, cut_eq]
  generalize x.data.toList = l at hl ⊢
  by_cases h : eqPos l < l.length
  · rw [if_pos h]
    dsimp only
    rw [if_pos rfl]
    show (field_IsKey.f (x.size + 8) (bA (l.take (eqPos l)))).bind _ = _
    have hks : (bA (l.take (eqPos l))).size ≤ x.size := by rw [bA_size, List.length_take]; omega
    rw [isKey_f _ (by omega) _ (by omega), Option.bind_some]
    show field_one.j0 ((x.size + 7) + 1) _ (bA (l.drop (eqPos l + 1))) _ = _
    unfold oneF oneS
    rw [if_pos h]
    simp only [field_one.j0]
    cases hk : keyB (bA (l.take (eqPos l))) with
    | false =>
      rw [if_pos (show (!false) = true from rfl), if_neg (fun e => by cases e.2)]
      rfl
    | true =>
      rw [if_neg (show ¬ (!true) = true by decide), if_pos ⟨h, rfl⟩, number_f _ (by rw [bA_size, List.length_drop]; omega), Option.bind_some, bA_list]
      simp only [Bool.not_true, Bool.false_eq_true, if_false, Bool.true_and]
      by_cases hn : (refNum (l.drop (eqPos l + 1))).2 = true
      · rw [if_pos hn, if_pos hn]
        rfl
      · rw [if_neg hn, if_neg hn]
        dsimp only
        rw [bA_size]
        congr 5
        exact decide_eq_decide.2 (by omega)
  · rw [if_neg h]
    dsimp only
    rw [if_neg (by simp)]
    unfold oneF
    rw [if_neg (fun e => h e.1)]
    rfl
theorem oneT_eq (x : ByteArray) (hx : x.size < 4294967281) : oneT x = oneF x.data.toList := by
  unfold oneT
  rw [one_f x hx]
theorem okWord_of (x : ByteArray) (hx : x.size < 4294967281) : okWord x = true := by
  unfold okWord
  rw [one_f x hx]
  rfl
/-- A field more, or not, by the document. -/
def rdS (st : List S28) (x : ByteArray) : List S28 :=
  if st.length < 16 ∧ (oneS x.data.toList).2 = true ∧ st.any (fun y => decide (y.f0 = (oneS x.data.toList).1.f0)) = false then st ++ [(oneS x.data.toList).1] else st
theorem rdStep_eq (st : List S28) (x : ByteArray) (hs : st.length ≤ 16) (hx : x.size < 4294967281) : rdStep st x = rdS st x := by
  unfold rdStep rdS
  rw [oneT_eq x hx, oneF_snd]
  by_cases h16 : st.length = 16
  · rw [if_pos h16, if_neg (fun e => by omega)]
  · rw [if_neg h16]
    cases h1 : (oneS x.data.toList).2 with
    | false => rw [if_pos (Or.inl rfl), if_neg (fun e => by cases e.2.1)]
    | true =>
      rw [oneF_fst h1]
      cases h2 : st.any (fun y => decide (y.f0 = (oneS x.data.toList).1.f0)) with
      | true => rw [if_pos (Or.inr rfl), if_neg (fun e => by cases e.2.2)]
      | false => rw [if_neg (by simp), if_pos ⟨by omega, rfl, rfl⟩]
theorem rdS_le (st : List S28) (x : ByteArray) (hs : st.length ≤ 16) : (rdS st x).length ≤ 16 := by
  unfold rdS
  split
  · rename_i h
    simp only [List.length_append, List.length_singleton]
    omega
  · exact hs
theorem rdFold_eq : ∀ (ws : List ByteArray) (st : List S28), st.length ≤ 16 → (∀ x ∈ ws, x.size < 4294967281) → ws.foldl rdStep st = ws.foldl rdS st
  | [], _, _, _ => rfl
  | x :: ws, st, hs, hw => by
    rw [List.foldl_cons, List.foldl_cons, rdStep_eq st x hs (hw x List.mem_cons_self)]
    exact rdFold_eq ws _ (rdS_le st x hs) (fun y hy => hw y (List.mem_cons_of_mem _ hy))
/-- The words of a line are no longer than the line. -/
theorem words_size : ∀ (f : Nat) (l : List UInt8), ∀ x ∈ wordsF f l, x.size ≤ l.length
  | 0, _, x, hx => by simp [wordsF] at hx
  | f + 1, l, x, hx => by
    rw [wordsF] at hx
    split at hx
    · simp at hx
    · have h1 := take_drop nB (l.dropWhile isB)
      have h2 := dropWhile_le isB l
      rcases List.mem_cons.1 hx with rfl | hx
      · rw [show (⟨((l.dropWhile isB).takeWhile nB).toArray⟩ : ByteArray) = bA ((l.dropWhile isB).takeWhile nB) from rfl, bA_size]
        omega
      · have := words_size f _ x hx
        omega
/-- The fields of a line. -/
def fieldsL (l : List UInt8) : List S28 := (wordsL l).foldl rdS []
def numsOf (l : List UInt8) : List Int := l.map fun b => (b.toNat : Int)
theorem numsOf_byte (l : List UInt8) : (numsOf l).all byteB = true := by
  rw [List.all_eq_true]
  intro x hx
  obtain ⟨b, _, rfl⟩ := List.mem_map.1 hx
  have := UInt8.toNat_lt b
  simp only [byteB, Bool.and_eq_true, decide_eq_true_eq]
  omega
theorem bytesOf_numsOf (l : List UInt8) : Lib.bytesOf (numsOf l) = l := by
  induction l with
  | nil => rfl
  | cons b l ih =>
    simp only [Lib.bytesOf, numsOf, List.map_cons, List.map_map] at *
    rw [ih]
    simp
theorem numsOf_bytesOf : ∀ {l : List Int}, (∀ x ∈ l, 0 ≤ x ∧ x < 256) → numsOf (Lib.bytesOf l) = l
  | [], _ => rfl
  | x :: l, h => by
    have hx := h x List.mem_cons_self
    have ih := numsOf_bytesOf (l := l) fun y hy => h y (List.mem_cons_of_mem _ hy)
    simp only [Lib.bytesOf, numsOf, List.map_cons, List.map_map] at *
    rw [ih]
    congr 1
    rw [UInt8.toNat_ofNat']
    omega
theorem read_f (l : List UInt8) (hl : l.length < 4294967281) : field_Read.f (numsOf l) = some (fieldsL l) := by
  unfold field_Read.f
  have hw : ∀ x ∈ wordsL l, x.size < 4294967281 := fun x hx => Nat.lt_of_le_of_lt (words_size _ _ x hx) hl
  rw [bytesOf_numsOf, if_pos ⟨numsOf_byte l, List.all_eq_true.2 fun x hx => okWord_of x (hw x hx)⟩]
  congr 1
  exact rdFold_eq _ _ (by simp) hw
theorem nums_of_wf {l : List Int} (h : ∀ x ∈ l, (fun n => (Lit.int .u8 n).wf = true) x) : ∃ b : List UInt8, l = numsOf b ∧ b.length = l.length := by
  refine ⟨Lib.bytesOf l, (numsOf_bytesOf fun x hx => ?_).symm, by simp [Lib.bytesOf]⟩
  have e1 : IntKind.u8.min = 0 := rfl
  have e2 : IntKind.u8.max = 255 := rfl
  have := h x hx
  simp only [Lit.wf, Bool.and_eq_true, decide_eq_true_eq, e1, e2] at this
  omega
end Go.Proofs.YtdkgmiagjhcllaaDoor.Pure
