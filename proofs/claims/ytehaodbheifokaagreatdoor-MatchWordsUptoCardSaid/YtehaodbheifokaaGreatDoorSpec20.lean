/- What an Ask must be to be formed: the plain law, and the small calls that it rests on. -/
import Derived.Test.YtehaodbheifokaaGreatDoorPureKey
import Derived.Test.YtehaodbheifokaaGreatDoorTokCut
import Derived.Test.YtehaodbheifokaaGreatDoorP1
namespace Go.Proofs.YtehaodbheifokaaGreatDoor.P
open Go Go.RowKit Go.Proofs.YtehaodbheifokaaGreatDoorW.PrintWords Go.Proofs.YtehaodbheifokaaGreatDoorW.PrintLast Go.Proofs.YtehaodbheifokaaGreatDoorW.PrintMore
set_option linter.unusedVariables false
set_option linter.unusedSimpArgs false

/-! ### the pieces -/
theorem bytes_loop0 (s : ByteArray) : ∀ (d i : Nat) (r : List UInt8), s.size - i = d → ByteArray.toList.loop s i r = r.reverse ++ s.data.toList.drop i := by
  intro d
  induction d with
  | zero =>
    intro i r h
    rw [ByteArray.toList.loop.eq_1]
    have hs : s.data.toList.length = s.size := by rw [Array.length_toList]; rfl
    rw [if_neg (by omega), List.drop_of_length_le (by omega)]
    simp
  | succ d ih =>
    intro i r h
    rw [ByteArray.toList.loop.eq_1]
    have hs : s.data.toList.length = s.size := by rw [Array.length_toList]; rfl
    have hi : i < s.size := by omega
    have hi' : i < s.data.toList.length := by omega
    rw [if_pos hi, ih (i + 1) _ (by omega), List.drop_eq_getElem_cons hi']
    have e : s.get! i = s.data.toList[i] := by
      rw [Array.getElem_toList]
      show s.data[i]! = _
      exact getElem!_pos s.data i (by have : s.data.size = s.size := rfl; omega)
    rw [e]
    simp
theorem bytes_eq0 (s : ByteArray) : s.toList = s.data.toList := by
  show ByteArray.toList.loop s 0 [] = _
  rw [bytes_loop0 s s.size 0 [] rfl]
  simp
theorem bytes_inj0 {s t : ByteArray} : s.toList = t.toList ↔ s = t := by
  rw [bytes_eq0, bytes_eq0]
  constructor
  · intro h
    cases s; cases t
    congr 1
    exact Array.toList_inj.1 h
  · rintro rfl; rfl
theorem bytes_nil {s : ByteArray} : s.toList = [] ↔ s = ⟨#[]⟩ := by
  have h : (⟨#[]⟩ : ByteArray).toList = [] := by rw [bytes_eq0]
  exact ⟨fun e => bytes_inj0.1 (e.trans h.symm), fun e => by rw [e]; exact h⟩
theorem eqS0_l0 : ∀ (k : Nat) (p q : List ByteArray) (i : Nat), p.length = q.length → i ≤ p.length → p.length ≤ 1099511627776 → p.length - i < k → slices_Equal_string_string.l0 k p q (p.length : Int) (i : Int) = some (decide (p.drop i = q.drop i))
  | 0, p, q, i, _, _, _, hk => by omega
  | k + 1, p, q, i, hl, hi, hb, hk => by
    unfold slices_Equal_string_string.l0
    by_cases h : i < p.length
    · have hq : i < q.length := by omega
      rw [if_pos (by omega), if_pos (by omega), if_pos (by omega), if_pos (by omega)]
      have ep : rdOf ByteArray.empty p (i : Int) = p[i] := by simp [rdOf, List.getD, h]
      have eq : rdOf ByteArray.empty q (i : Int) = q[i] := by simp [rdOf, List.getD, hq]
      rw [ep, eq, show List.drop i p = p[i] :: List.drop (i + 1) p from List.drop_eq_getElem_cons h, show List.drop i q = q[i] :: List.drop (i + 1) q from List.drop_eq_getElem_cons hq]
      have ew : wrap64 ((i : Int) + 1) = ((i + 1 : Nat) : Int) := by unfold wrap64; omega
      rw [ew, eqS0_l0 k p q (i + 1) hl (by omega) hb (by omega)]
      by_cases h2 : p[i] = q[i]
      · rw [if_pos (by rw [h2])]
        congr 1
        rw [h2]
        simp only [List.cons.injEq, true_and]
      · rw [if_neg (fun e => h2 (bytes_inj0.1 e))]
        congr 1
        simp only [List.cons.injEq, h2, false_and, decide_false]
    · rw [if_neg (by omega)]
      rw [List.drop_eq_nil_of_le (by omega), List.drop_eq_nil_of_le (by omega)]
      simp
theorem eqS0_f (p q : List ByteArray) (hb : p.length ≤ 1099511627776) : slices_Equal_string_string.f (p.length + 1) p q = some (decide (p = q)) := by
  unfold slices_Equal_string_string.f
  by_cases h : p.length = q.length
  · rw [if_pos (by omega)]
    have := eqS0_l0 (p.length + 1) p q 0 h (Nat.zero_le _) hb (by omega)
    simpa using this
  · rw [if_neg (by omega)]
    have : p ≠ q := fun e => h (by rw [e])
    simp [this]
theorem same_f (a0 a1 a2 : Int) (a3 : ByteArray) (l4 : List ByteArray) (a5 : ByteArray) (a6 a7 b0 b1 b2 : Int) (b3 : ByteArray) (m4 : List ByteArray) (b5 : ByteArray) (b6 b7 : Int) (hb : l4.length ≤ 1099511627776) :
    query_same.f (l4.length + 1) a0 a1 a2 a3 l4 a5 a6 a7 b0 b1 b2 b3 m4 b5 b6 b7 = some (decide (a0 = b0 ∧ a1 = b1 ∧ a2 = b2 ∧ a3 = b3 ∧ l4 = m4 ∧ a5 = b5 ∧ a6 = b6 ∧ a7 = b7)) := by
  unfold query_same.f
  simp only [bytes_inj0]
  repeat' split
  all_goals (first | rw [eqS0_f _ _ hb] | skip)
  all_goals simp_all

/-! ### a term -/
def tokC (c : Int) : Bool := inB c && decide (lowB c = c)
def tokFrom (s : ByteArray) (i : Nat) : Bool := (List.range' i (s.size - i)).all fun (j : Nat) => tokC (bt s (j : Int))
def tokB (s : ByteArray) : Bool := decide (1 ≤ s.size ∧ s.size ≤ 64) && tokFrom s 0
theorem tokFrom_end (s : ByteArray) : tokFrom s s.size = true := by unfold tokFrom; rw [Nat.sub_self]; rfl
theorem tokFrom_step (s : ByteArray) (i : Nat) (h : i < s.size) : tokFrom s i = (tokC (bt s (i : Int)) && tokFrom s (i + 1)) := by
  unfold tokFrom
  obtain ⟨d, hd⟩ : ∃ d, s.size - i = d + 1 := ⟨s.size - i - 1, by omega⟩
  rw [hd, show s.size - (i + 1) = d by omega, List.range'_succ, List.all_cons]
theorem inB_f (c : Int) (k : Nat) (hk : 2 ≤ k) : token_in.f k c = some (inB c) := by
  obtain ⟨k, rfl⟩ : ∃ m, k = m + 2 := ⟨k - 2, by omega⟩
  unfold token_in.f inB
  by_cases a : 97 ≤ c <;> by_cases b : c ≤ 122 <;> by_cases d : 65 ≤ c <;> by_cases e : c ≤ 90 <;> by_cases f : 48 ≤ c <;> by_cases g : c ≤ 57 <;> by_cases h : 128 ≤ c <;> first | omega | simp [token_in.j0, token_in.j1, a, b, d, e, f, g, h]
theorem tokIs_loop (s : ByteArray) (hs : s.size ≤ 64) : ∀ (d i k : Nat), i + d = s.size → d + 3 ≤ k → token_Is.l0 k s (s.size : Int) (i : Int) = some (tokFrom s i)
  | 0, i, k, hi, hk => by
    obtain rfl : i = s.size := by omega
    obtain ⟨k, rfl⟩ : ∃ m, k = m + 1 := ⟨k - 1, by omega⟩
    rw [tokFrom_end]
    simp only [token_Is.l0]
    rw [if_neg (by omega)]
  | d + 1, i, k, hi, hk => by
    obtain ⟨m, rfl⟩ : ∃ m, k = m + 1 := ⟨k - 1, by omega⟩
    have ih := tokIs_loop s hs d (i + 1) m (by omega) (by omega)
    rw [tokFrom_step s i (by omega)]
    simp only [token_Is.l0]
    rw [if_pos (by omega), if_pos (by omega), if_pos (by omega), inB_f _ _ (by omega), Option.bind_some, low_f _ (by have := (bt_range s (i : Int)).2; omega), Option.bind_some]
    have ew : wrap64 ((i : Int) + 1) = ((i + 1 : Nat) : Int) := by unfold wrap64; omega
    rw [ew, ih]
    unfold tokC
    by_cases h1 : inB (bt s (i : Int)) = true <;> by_cases h2 : lowB (bt s (i : Int)) = bt s (i : Int) <;> simp [h1, h2]
theorem tokIs_f (s : ByteArray) (k : Nat) (hk : s.size + 4 ≤ k) : token_Is.f k s = some (tokB s) := by
  obtain ⟨k, rfl⟩ : ∃ m, k = m + 1 := ⟨k - 1, by omega⟩
  unfold token_Is.f tokB
  by_cases h1 : s.size < 1
  · rw [if_pos (by omega)]
    simp only [token_Is.j0, if_true]
    rw [decide_eq_false (by omega), Bool.false_and]
  · rw [if_neg (by omega)]
    by_cases h2 : s.size > 64
    · rw [decide_eq_true (show (s.size : Int) > 64 by omega)]
      simp only [token_Is.j0, if_true]
      rw [decide_eq_false (show ¬ (1 ≤ s.size ∧ s.size ≤ 64) by omega), Bool.false_and]
    · rw [decide_eq_false (show ¬ (s.size : Int) > 64 by omega)]
      simp only [token_Is.j0]
      rw [if_neg (by decide), decide_eq_true (show 1 ≤ s.size ∧ s.size ≤ 64 by omega), Bool.true_and]
      exact tokIs_loop s (by omega) s.size 0 k (by omega) (by omega)
theorem tokIs_calls (s : ByteArray) (w : World) : Calls Tryz.prog 81 #[.string s] w fun e w' => e = .returned (.bool (tokB s)) ∧ Drawn0 w w' := token_Is.calls _ s _ w (tokIs_f s _ (Nat.le_refl _))
theorem isKey_calls (s : ByteArray) (w : World) (hs : s.size ≤ 9223372036854775807) : Calls Tryz.prog 80 #[.string s] w fun e w' => e = .returned (.bool (Pure.keyB s)) ∧ Drawn0 w w' := field_IsKey.calls _ s _ w (Pure.isKey_f s hs _ (Nat.le_refl _))

/-! ### what is asked -/
def rngB (sk mo : Int) : Bool := decide (0 ≤ sk ∧ 0 ≤ mo ∧ sk ≤ 2147483647 ∧ mo ≤ 2147483647)
/-- Has a question the fields of its kind, and no others? -/
def askedB (k : Int) (ky : ByteArray) (wd sk mo : Int) : Bool :=
  if k = 1 then rngB sk mo && decide (ky = ⟨#[]⟩ ∧ wd = 0)
  else if k = 2 then decide (ky = ⟨#[]⟩ ∧ wd = 0 ∧ sk = 0 ∧ mo = 0)
  else if k = 3 then Pure.keyB ky && decide (wd = 0 ∧ sk = 0 ∧ mo = 0)
  else if k = 4 then Pure.keyB ky && decide (0 ≤ mo ∧ mo ≤ 1000 ∧ wd = 0 ∧ sk = 0)
  else if k = 5 ∨ k = 6 then decide (1 ≤ wd ∧ ky = ⟨#[]⟩ ∧ sk = 0 ∧ mo = 0)
  else false
/-- Has a node the fields of its kind, and no others? -/
def rightB (k a b : Int) (tx : ByteArray) (tm : List ByteArray) (ky : ByteArray) (lo hi : Int) : Bool :=
  if k = 1 then decide (a = 0 ∧ b = 0 ∧ tx = ⟨#[]⟩ ∧ tm = [] ∧ ky = ⟨#[]⟩ ∧ lo = 0 ∧ hi = 0)
  else if k = 2 ∨ k = 3 then tokB tx && decide (a = 0 ∧ b = 0 ∧ tm = [] ∧ ky = ⟨#[]⟩ ∧ lo = 0 ∧ hi = 0)
  else if k = 4 then decide (0 < tm.length) && tm.all tokB && decide (a = 0 ∧ b = 0 ∧ tx = ⟨#[]⟩ ∧ ky = ⟨#[]⟩ ∧ lo = 0 ∧ hi = 0)
  else if k = 5 then decide (1 ≤ tx.size ∧ tx.size ≤ 64) && decide (a = 0 ∧ b = 0 ∧ tm = [] ∧ ky = ⟨#[]⟩ ∧ lo = 0 ∧ hi = 0)
  else if k = 6 then Pure.keyB ky && decide (tx.size ≤ 64) && decide (a = 0 ∧ b = 0 ∧ tm = [] ∧ lo = 0 ∧ hi = 0)
  else if k = 7 ∨ k = 8 then Pure.keyB ky && decide (a = 0 ∧ b = 0 ∧ tx = ⟨#[]⟩ ∧ tm = [] ∧ hi = 0)
  else if k = 9 then decide (a = 0 ∧ b = 0 ∧ tx = ⟨#[]⟩ ∧ tm = [] ∧ ky = ⟨#[]⟩)
  else if k = 10 ∨ k = 11 then decide (a ≠ b) && decide (tx = ⟨#[]⟩ ∧ tm = [] ∧ ky = ⟨#[]⟩ ∧ lo = 0 ∧ hi = 0)
  else if k = 12 then decide (b = 0 ∧ tx = ⟨#[]⟩ ∧ tm = [] ∧ ky = ⟨#[]⟩ ∧ lo = 0 ∧ hi = 0)
  else false
end Go.Proofs.YtehaodbheifokaaGreatDoor.P
