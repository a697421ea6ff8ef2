/- Plain facts: a rune that begins with a byte beyond ASCII; the first of four blanks. -/
import Derived.Lib.DecodeNEq
import Derived.Lib.TrimU
import Derived.Lib.IndexAny
import Derived.Lib.Index
import Derived.Shelf.Unicode.DecodeSlow
namespace Go.Proofs.YtehaodbheifokaaGreatDoor.P
open Go

theorem dec_n (n b0 b1 b2 b3 : Nat) (hn : 1 ≤ n) (h128 : 128 ≤ b0) (h0 : b0 < 256) :
    1 ≤ (Lib.decodeN n b0 b1 b2 b3).2 ∧ (Lib.decodeN n b0 b1 b2 b3).2 ≤ n ∧ (Lib.decodeN n b0 b1 b2 b3).2 ≤ 4 ∧ 128 ≤ (Lib.decodeN n b0 b1 b2 b3).1 ∧
    (2 ≤ (Lib.decodeN n b0 b1 b2 b3).2 → 128 ≤ b1) ∧ (3 ≤ (Lib.decodeN n b0 b1 b2 b3).2 → 128 ≤ b2) ∧ (4 ≤ (Lib.decodeN n b0 b1 b2 b3).2 → 128 ≤ b3) ∧
    ((Lib.decodeN n b0 b1 b2 b3).1 = 65533 ∨ ((Lib.decodeN n b0 b1 b2 b3).2 = 2 ∧ (Lib.decodeN n b0 b1 b2 b3).1 < 2048) ∨ ((Lib.decodeN n b0 b1 b2 b3).2 = 3 ∧ 2048 ≤ (Lib.decodeN n b0 b1 b2 b3).1 ∧ (Lib.decodeN n b0 b1 b2 b3).1 < 65536) ∨ ((Lib.decodeN n b0 b1 b2 b3).2 = 4 ∧ 65536 ≤ (Lib.decodeN n b0 b1 b2 b3).1)) ∧
    ((Lib.decodeN n b0 b1 b2 b3).1 < 55296 ∨ (57344 ≤ (Lib.decodeN n b0 b1 b2 b3).1 ∧ (Lib.decodeN n b0 b1 b2 b3).1 ≤ 1114111)) := by
  unfold Lib.decodeN
  repeat' split
  all_goals (dsimp only; refine ⟨?_, ?_, ?_, ?_, fun _ => ?_, fun _ => ?_, fun _ => ?_, ?_, ?_⟩ <;> first | omega | exact Or.inl rfl)
theorem valid_of {c : Nat} (h : c < 55296 ∨ (57344 ≤ c ∧ c ≤ 1114111)) : Utf8.valid (c : Int) = true := by
  simp only [Utf8.valid, Bool.or_eq_true, Bool.and_eq_true, decide_eq_true_eq]
  omega
theorem u8_ge {n : Nat} (h : 128 ≤ n) (h2 : n < 256) : 128 ≤ (UInt8.ofNat n).toNat := by
  rw [UInt8.toNat_ofNat']
  omega
/-- What is written of such a rune. -/
theorem enc_of {c k : Nat} (hv : c < 55296 ∨ (57344 ≤ c ∧ c ≤ 1114111)) (h128 : 128 ≤ c)
    (hk : (k = 2 ∧ c < 2048) ∨ (k = 3 ∧ 2048 ≤ c ∧ c < 65536) ∨ (k = 4 ∧ 65536 ≤ c)) :
    (Utf8.encode (c : Int)).size = k ∧ ∃ x t, (Utf8.encode (c : Int)).data.toList = x :: t ∧ 128 ≤ x.toNat := by
  have hval := valid_of hv
  simp only [Utf8.encode, hval, if_true, Int.toNat_natCast]
  rw [if_neg (by omega)]
  rcases hk with ⟨rfl, h⟩ | ⟨rfl, h1, h2⟩ | ⟨rfl, h⟩
  · rw [if_pos (by omega)]
    exact ⟨rfl, _, _, rfl, u8_ge (by omega) (by omega)⟩
  · rw [if_neg (by omega), if_pos (by omega)]
    exact ⟨rfl, _, _, rfl, u8_ge (by omega) (by omega)⟩
  · rw [if_neg (by omega), if_neg (by omega)]
    exact ⟨rfl, _, _, rfl, u8_ge (by omega) (by omega)⟩
/-- None of four ASCII bytes begins it. -/
theorem index_high (l t : List UInt8) (x : UInt8) (hx : 128 ≤ x.toNat) : (∀ b ∈ l, b.toNat < 128) → Lib.index l (x :: t) = -1 := by
  induction l with
  | nil => intro _; rfl
  | cons b l ih =>
    intro h
    have hne : (x == b) = false := beq_eq_false_iff_ne.2 (by rintro rfl; have := h x (by simp); omega)
    rw [Lib.index, ih (fun b hb => h b (by simp [hb]))]
    simp only [List.isPrefixOf, hne, Bool.false_and, Bool.false_eq_true, if_false]
    rfl
structure DecAt (bs : List UInt8) (i c k : Nat) : Prop where
  pos : 1 ≤ k
  room : i + k ≤ bs.length
  high : 128 ≤ c
  le : c ≤ 1114111
  skip : ∀ j, i ≤ j → j < i + k → 128 ≤ (bs.getD j 0).toNat
  enc : c ≠ 65533 → (Utf8.encode (c : Int)).size = k ∧ 2 ≤ k ∧ ∃ x t, (Utf8.encode (c : Int)).data.toList = x :: t ∧ 128 ≤ x.toNat
theorem getD_drop (bs : List UInt8) (i j : Nat) : (bs.drop i).getD j 0 = bs.getD (i + j) 0 := by simp [List.getD]
theorem get!_list (l : List UInt8) (j : Nat) : (⟨l.toArray⟩ : ByteArray).get! j = l.getD j 0 := by
  simp only [ByteArray.get!, List.getD]
  rw [getElem!_def]
  simp only [List.getElem?_toArray]
  cases l[j]? <;> rfl
theorem decAt (bs : List UInt8) (i : Nat) (hi : i < bs.length) (h128 : 128 ≤ (bs.getD i 0).toNat) : DecAt bs i (Lib.decodeGo ⟨(bs.drop i).toArray⟩).1 (Lib.decodeGo ⟨(bs.drop i).toArray⟩).2 := by
  have hsz : (⟨(bs.drop i).toArray⟩ : ByteArray).size = bs.length - i := by simp [ByteArray.size]
  have hd : Lib.decodeGo ⟨(bs.drop i).toArray⟩ = Lib.decodeN (bs.length - i) (bs.getD i 0).toNat (bs.getD (i + 1) 0).toNat (bs.getD (i + 2) 0).toNat (bs.getD (i + 3) 0).toNat := by
    simp only [Lib.decodeGo]
    rw [if_neg (by rw [hsz]; omega), Lib.decode_at, hsz]
    simp only [get!_list, getD_drop, Nat.add_zero, Nat.zero_add, Nat.sub_zero]
  rw [hd]
  have hlt := UInt8.toNat_lt (bs.getD i 0)
  obtain ⟨h1, h2, h3, h4, h5, h6, h7, h8, h9⟩ := dec_n (bs.length - i) (bs.getD i 0).toNat (bs.getD (i + 1) 0).toNat (bs.getD (i + 2) 0).toNat (bs.getD (i + 3) 0).toNat (by omega) h128 hlt
  generalize Lib.decodeN (bs.length - i) (bs.getD i 0).toNat (bs.getD (i + 1) 0).toNat (bs.getD (i + 2) 0).toNat (bs.getD (i + 3) 0).toNat = d at *
  refine ⟨h1, by omega, h4, by omega, fun j hj hjk => ?_, fun hne => ?_⟩
  · obtain ⟨m, rfl⟩ : ∃ m, j = i + m := ⟨j - i, by omega⟩
    have : m = 0 ∨ m = 1 ∨ m = 2 ∨ m = 3 := by omega
    rcases this with rfl | rfl | rfl | rfl
    · exact h128
    · exact h5 (by omega)
    · exact h6 (by omega)
    · exact h7 (by omega)
  · have hk : (d.2 = 2 ∧ d.1 < 2048) ∨ (d.2 = 3 ∧ 2048 ≤ d.1 ∧ d.1 < 65536) ∨ (d.2 = 4 ∧ 65536 ≤ d.1) := by omega
    obtain ⟨e1, e2⟩ := enc_of h9 h4 hk
    exact ⟨e1, by omega, e2⟩
/-- None of the skipped bytes is among ASCII bytes. -/
theorem noAny_skip {bs cs : List UInt8} {i k : Nat} (h : Lib.NoAny bs cs i) (hc : ∀ b ∈ cs, b.toNat < 128) (hs : ∀ j, i ≤ j → j < i + k → 128 ≤ (bs.getD j 0).toNat) : Lib.NoAny bs cs (i + k) := by
  intro j b hj hb
  by_cases hji : j < i
  · exact h j b hji hb
  · have := hs j (by omega) hj
    simp only [List.getD, hb, Option.getD_some] at this
    cases hcon : cs.contains b with
    | false => rfl
    | true => have := hc b (List.contains_iff_mem.1 hcon); omega
end Go.Proofs.YtehaodbheifokaaGreatDoor.P
