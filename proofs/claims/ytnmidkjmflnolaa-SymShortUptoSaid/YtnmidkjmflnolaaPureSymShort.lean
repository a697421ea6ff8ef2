/- The plain law of SymShort: a piece that comes again and again is coded by its own table, decoded as it was, and not longer. -/
import Derived.Test.YtnmidkjmflnolaaP4
import Derived.Test.YtnmidkjmflnolaaPureShortCost
import Derived.Test.YtnmidkjmflnolaaPureShortRank
import Derived.Test.YtnmidkjmflnolaaRead
namespace Go.Proofs.Ytnmidkjmflnolaa.Pure
open Go Go.RowKit Go.Lib Go.Proofs.YtnmidkjmflnolaaW.PrintWords Go.Proofs.Ytnmidkjmflnolaa.P Go.Proofs.Ytnmidkjmflnolaa.Maps
set_option linter.unusedVariables false

/-! ### a piece again and again -/
def again (x : List Int) (n : Nat) : List Int := (List.replicate n x).flatten
theorem again_len (x : List Int) : ∀ n, (again x n).length = x.length * n
  | 0 => rfl
  | n + 1 => by
    have := again_len x n
    unfold again at this ⊢
    rw [List.replicate_succ, List.flatten_cons, List.length_append, this, Nat.mul_succ, Nat.add_comm]
theorem again_snoc (x : List Int) (n : Nat) : again x n ++ x = again x (n + 1) := by
  unfold again
  rw [List.replicate_succ', List.flatten_append]
  simp
theorem again_ok {x : List Int} (h : okbs x) : ∀ n, okbs (again x n)
  | 0 => fun y hy => by simp [again] at hy
  | n + 1 => by rw [← again_snoc]; exact okbs_append (again_ok h n) h
theorem again_get (x : List Int) (hx : 0 < x.length) : ∀ (n i : Nat), i < (again x n).length → (again x n)[i]? = x[i % x.length]?
  | 0, i, h => by simp [again] at h
  | n + 1, i, h => by
    have e : again x (n + 1) = x ++ again x n := by
      unfold again
      rw [List.replicate_succ, List.flatten_cons]
    rw [e] at h ⊢
    rw [List.length_append] at h
    by_cases hi : i < x.length
    · rw [List.getElem?_append_left hi, Nat.mod_eq_of_lt hi]
    · rw [List.getElem?_append_right (by omega), again_get x hx n (i - x.length) (by omega), ← Nat.mod_eq_sub_mod (a := i) (b := x.length) (by omega)]
theorem again_win (x : List Int) (hx : 0 < x.length) (n p p' N : Nat) (h : p + N ≤ (again x n).length) (h' : p' + N ≤ (again x n).length) (hm : p % x.length = p' % x.length) : win (again x n) p N = win (again x n) p' N := by
  unfold win
  congr 1
  refine List.ext_getElem? (fun j => ?_)
  by_cases hj : j < N
  · rw [List.getElem?_take_of_lt hj, List.getElem?_take_of_lt hj, List.getElem?_drop, List.getElem?_drop, again_get x hx n _ (by omega), again_get x hx n _ (by omega), Nat.add_mod, hm, ← Nat.add_mod]
  · rw [List.getElem?_eq_none (by rw [List.length_take]; omega), List.getElem?_eq_none (by rw [List.length_take]; omega)]
theorem again_count (x : List Int) (hx : 0 < x.length) (n p N : Nat) (h2 : 2 ≤ N) (h8 : N ≤ 8) (h : p + N ≤ (again x n).length) :
    cntQ x.length (again x n).length N (p % x.length) 0 (again x n).length ≤ (piecesS (strOfNums (again x n))).count (win (again x n) p N) := by
  have := cnt_le (strOfNums (again x n)) (win (again x n) p N) x.length N (p % x.length) h2 h8 (fun a ha hl => by
    rw [str_size] at hl
    rw [win_extract]
    exact again_win x hx n a p N hl h ha) (strOfNums (again x n)).size 0
  rw [str_size] at this
  unfold piecesS
  rw [str_size]
  exact this
/-! ### the finite part -/
def exc (q m : Nat) : Bool := decide (q * m < 8) || (decide (q = 2) && decide (m = 4)) || (decide (q = 3) && decide (m = 3))
def ok8 (q m k : Nat) : Bool := decide (q < 2) || decide (m < 3) || exc q m || decide (q * m < 8 * k + 8) || (decide (2 ≤ cntQ q (q * m) 8 (8 * k % q) 0 (q * m)) && decide (sumG (room (q * m) (7 * cntQ q (q * m) 8 (8 * k % q) 0 (q * m))) 2 7 ≤ 32))
def ok2 (q m p : Nat) : Bool := decide (q < 2) || decide (m < 3) || !exc q m || ((decide (q * m < p + 2) || decide (2 ≤ cntQ q (q * m) 2 (p % q) 0 (q * m))) && decide (sumG (room (q * m) 0) 2 7 ≤ 32) && decide (q * m ≤ 9))
theorem all8 : ((List.range 9).all fun q => (List.range 17).all fun m => (List.range 16).all fun k => ok8 q m k) = true := by decide +kernel
theorem all2 : ((List.range 9).all fun q => (List.range 17).all fun m => (List.range 9).all fun k => ok2 q m k) = true := by decide +kernel
theorem fits8 (q : Nat) (hq : q < 9) (h2 : 2 ≤ q) (m : Nat) (hm : m < 17) (h3 : 3 ≤ m) (he : ¬ exc q m = true) (k : Nat) (hk : k < 16) (hl : 8 * k + 8 ≤ q * m) : 2 ≤ cntQ q (q * m) 8 (8 * k % q) 0 (q * m) ∧ sumG (room (q * m) (7 * cntQ q (q * m) 8 (8 * k % q) 0 (q * m))) 2 7 ≤ 32 := by
  have h := List.all_eq_true.1 (List.all_eq_true.1 (List.all_eq_true.1 all8 q (List.mem_range.2 hq)) m (List.mem_range.2 hm)) k (List.mem_range.2 hk)
  unfold ok8 at h
  rw [decide_eq_false (show ¬ q < 2 by omega), decide_eq_false (show ¬ m < 3 by omega), Bool.eq_false_iff.2 he, decide_eq_false (show ¬ q * m < 8 * k + 8 by omega)] at h
  simpa only [Bool.false_or, Bool.and_eq_true, decide_eq_true_eq] using h
theorem fits2 (q : Nat) (hq : q < 9) (h2 : 2 ≤ q) (m : Nat) (hm : m < 17) (h3 : 3 ≤ m) (he : exc q m = true) (p : Nat) (hp : p < 9) : (p + 2 ≤ q * m → 2 ≤ cntQ q (q * m) 2 (p % q) 0 (q * m)) ∧ sumG (room (q * m) 0) 2 7 ≤ 32 ∧ q * m ≤ 9 := by
  have h := List.all_eq_true.1 (List.all_eq_true.1 (List.all_eq_true.1 all2 q (List.mem_range.2 hq)) m (List.mem_range.2 hm)) p (List.mem_range.2 hp)
  unfold ok2 at h
  rw [decide_eq_false (show ¬ q < 2 by omega), decide_eq_false (show ¬ m < 3 by omega), he] at h
  simp only [Bool.false_or, Bool.not_true, Bool.and_eq_true, Bool.or_eq_true, decide_eq_true_eq] at h
  exact ⟨fun e => h.1.1.resolve_left (by omega), h.1.2, h.2⟩
theorem short_table (x : List Int) (h2 : 2 ≤ x.length) (h8 : x.length ≤ 8) (m : Nat) (hm : 3 ≤ m) (hm' : m ≤ 16) (hx : okbs x) {l : List ByteArray} (hl : l = trainAll (piecesS (strOfNums (again x m)))) (hf : formedB l = true) :
    ∃ res, Ev (fun n => sym_Encode.f n l (again x m)) (res, 0) ∧ res.length ≤ (again x m).length := by
  have hlen := again_len x m
  have hLb : x.length * m ≤ 8 * 16 := Nat.mul_le_mul h8 hm'
  have hLl : 2 * 3 ≤ x.length * m := Nat.mul_le_mul h2 hm
  have hok := again_ok hx m
  have hstr : (strOfNums (again x m)).size = x.length * m := by rw [str_size, hlen]
  have fin : ∀ res, Ev (fun n => sym_Encode.l0 n l [] (strOfNums ((again x m).drop 0))) (res, 0) → Ev (fun n => sym_Encode.f n l (again x m)) (res, 0) := fun res h => by
    refine Ev.congr (fun k => ?_) h
    unfold sym_Encode.f
    rw [if_pos hf, List.drop_zero]
  by_cases hex : exc x.length m = true
  · have hp := fits2 x.length (by omega) h2 m (by omega) hm hex
    obtain ⟨_, hs, h9⟩ := hp 0 (by omega)
    obtain ⟨res, h1, h3⟩ := len2 hf (again x m) hok (by omega) (fun p hpl => by
      have hc := again_count x (by omega) m p 2 (by omega) (by omega) hpl
      rw [hlen] at hc hpl
      have hc2 := (hp p (by omega)).1 hpl
      rw [hl]
      refine in_table _ _ 0 (by omega) ?_ (by rw [hstr]; exact hs)
      rw [win_size (by omega)]
      omega) ((again x m).length + 1) 0 [] (by omega) (by omega) (by simp; omega)
    refine ⟨res, fin res h1, ?_⟩
    rw [List.length_nil, if_neg (by omega)] at h3
    omega
  · have h0 := fits8 x.length (by omega) h2 m (by omega) hm hex
    obtain ⟨res, h1, h3⟩ := len8 hf (again x m) hok (by omega) (fun k hk => by
      have hc := again_count x (by omega) m (8 * k) 8 (by omega) (by omega) hk
      rw [hlen] at hc hk
      obtain ⟨hc2, hs⟩ := h0 k (by omega) hk
      rw [hl]
      refine in_table _ _ (7 * cntQ x.length (x.length * m) 8 (8 * k % x.length) 0 (x.length * m)) (by omega) ?_ (by rw [hstr]; exact hs)
      rw [win_size (by omega)]
      omega) ((again x m).length / 8) 0 ((again x m).length % 8) [] (by omega) (by simp; omega)
    have h8l : ¬ x.length * m < 8 := fun e => hex (by unfold exc; rw [decide_eq_true e]; rfl)
    refine ⟨res, fin res h1, ?_⟩
    rw [List.length_nil] at h3
    omega
/-! ### the law -/
theorem short_all (b : List Int) (h : b.length ≤ 1024) : allP 1024 [b] = piecesS (strOfNums b) := by
  rw [allP, allP, List.append_nil]
  unfold takeS
  rw [List.take_of_length_le (by omega)]
theorem short_end (x : List Int) (hx : okbs x) (h2 : 2 ≤ x.length) (h8 : x.length ≤ 8) (a1 : Nat) (ha : a1 < 256) (i : Nat) (hi : i = a1 % 16 + 1) : Ev (fun k => dragnetlaw06_SymShort.l0 k x (a1 : Int) (again x i) (i : Int)) true := by
  have hw : wrap64 (a1 : Int) = (a1 : Int) := wrap_in (by omega) (by omega)
  have ht : Int.tmod (a1 : Int) 16 = ((a1 % 16 : Nat) : Int) := by rw [Int.tmod_eq_emod_of_nonneg (by omega)]; omega
  have hlen := again_len x i
  have hLb : x.length * i ≤ 8 * 16 := Nat.mul_le_mul h8 (by omega)
  have hall := short_all (again x i) (by omega)
  have hf := train_formed [again x i]
  rw [hall] at hf
  generalize hT : trainAll (piecesS (strOfNums (again x i))) = T at hf
  have hTr : sym_Train.f [again x i] = some T := by unfold sym_Train.f; rw [hall, hT]
  obtain ⟨codes, h1, hok, _, h3⟩ := back06 hf (again x i) (again_ok hx i) (by omega)
  have hbound : ¬ a1 % 16 < 2 → codes.length ≤ (again x i).length := fun h => by
    obtain ⟨res, hr, hl⟩ := short_table x h2 h8 i (by omega) (by omega) hx hT.symm hf
    have e := Ev.two h1 hr
    rw [show codes = res from (Prod.mk.inj e).1]
    exact hl
  obtain ⟨K1, h1⟩ := h1
  obtain ⟨K2, h3⟩ := h3
  refine ⟨K1 + K2 + 1, fun k hk => ?_⟩
  obtain ⟨k, rfl⟩ : ∃ k', k = k' + 1 := ⟨k - 1, by omega⟩
  replace h1 : sym_Encode.f k T (again x i) = _ := h1 k (by omega)
  replace h3 : sym_Decode.f k T codes ((again x i).length : Int) = _ := h3 k (by omega)
  show dragnetlaw06_SymShort.l0 (k + 1) x (a1 : Int) (again x i) (i : Int) = some true
  simp only [dragnetlaw06_SymShort.l0]
  rw [hw, ht, if_neg (by omega), hTr, Option.bind_some, h1, Option.bind_some, h3, Option.bind_some, if_pos rfl, if_pos rfl, same01 (again_ok hx i) (again_ok hx i), Option.bind_some, decide_eq_true rfl, if_pos rfl]
  dsimp only
  by_cases h : a1 % 16 < 2
  · rw [if_pos (by omega)]
  · rw [if_neg (by omega), decide_eq_true (by have := hbound h; omega)]
theorem short_l0 (x : List Int) (hx : okbs x) (h2 : 2 ≤ x.length) (h8 : x.length ≤ 8) (a1 : Nat) (ha : a1 < 256) : ∀ (d i : Nat), i + d = a1 % 16 + 1 → Ev (fun k => dragnetlaw06_SymShort.l0 k x (a1 : Int) (again x i) (i : Int)) true := by
  have hw : wrap64 (a1 : Int) = (a1 : Int) := wrap_in (by omega) (by omega)
  have ht : Int.tmod (a1 : Int) 16 = ((a1 % 16 : Nat) : Int) := by rw [Int.tmod_eq_emod_of_nonneg (by omega)]; omega
  intro d
  induction d with
  | zero => intro i hi; exact short_end x hx h2 h8 a1 ha i (by omega)
  | succ d ih =>
    intro i hi
    have hlen := again_len x i
    have hLb : x.length * i ≤ 8 * 16 := Nat.mul_le_mul h8 (by omega)
    refine Ev.step (fun k => ?_) (ih (i + 1) (by omega))
    simp only [dragnetlaw06_SymShort.l0]
    rw [hw, ht, if_pos (by omega), if_pos (by omega), again_snoc, wrap_in (by omega) (by omega)]
    rfl
theorem SymShort : ∀ (x0 : List Int) (x1 : Int), (∀ x ∈ x0, (fun n => (Lit.int .u8 n).wf = true) x) → ((Lit.int .u8 x1).wf = true) → (Read.sumBulk (fun _ => 1) x0 + 1) + (1) ≤ 1048576 → ∃ k, dragnetlaw06_SymShort.f k x0 x1 = some true := by
  intro x a hx ha hsum
  simp only [Read.sum_one] at hsum
  have hx' : okbs x := okbs_wf hx
  have ha' := okb_wf ha
  obtain ⟨n, rfl⟩ := Int.eq_ofNat_of_zero_le ha'.1
  have hn : n < 256 := by have := ha'.2; omega
  have hyes : Ev (fun k => dragnetlaw06_SymShort.j0 k x (n : Int) true) true := by
    refine Ev.step (f := fun _ => some true) (fun k => ?_) (Ev.now _)
    simp only [dragnetlaw06_SymShort.j0]
    rw [if_pos trivial]
  have hall : Ev (fun k => if (x.length : Int) < 2 then (dragnetlaw06_SymShort.j0 k x (n : Int) true) else (dragnetlaw06_SymShort.j0 k x (n : Int) (decide ((x.length : Int) > 8)))) true := by
    by_cases h2 : x.length < 2
    · exact Ev.congr (fun k => by rw [if_pos (by omega)]) hyes
    · by_cases h8 : x.length ≤ 8
      · refine Ev.congr (f := fun k => dragnetlaw06_SymShort.j0 k x (n : Int) false) (fun k => by rw [if_neg (by omega), decide_eq_false (by omega)]) ?_
        refine Ev.step (fun k => ?_) (short_l0 x hx' (by omega) h8 n hn (n % 16 + 1) 0 (by omega))
        simp only [dragnetlaw06_SymShort.j0]
        rw [if_neg (by decide)]
        rfl
      · exact Ev.congr (fun k => by rw [if_neg (by omega), decide_eq_true (by omega)]) hyes
  obtain ⟨K, h⟩ := hall
  refine ⟨K, ?_⟩
  unfold dragnetlaw06_SymShort.f dragnetlaw06_alive.f
  simp only [Option.bind_some, if_true]
  exact h K (Nat.le_refl _)
end Go.Proofs.Ytnmidkjmflnolaa.Pure
