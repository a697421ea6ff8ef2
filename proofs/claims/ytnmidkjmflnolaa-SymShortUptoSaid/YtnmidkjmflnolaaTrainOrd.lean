/- The order of Train's pieces is one: what is sorted by it stands in one order alone. -/
import Derived.Test.YtnmidkjmflnolaaTrainSpec
import Derived.Lib.Bytealg
namespace Go.Proofs.Ytnmidkjmflnolaa.P
open Go Go.Lib
set_option linter.unusedVariables false
set_option linter.unusedSimpArgs false

theorem cb_cons (a b : UInt8) (as bs : List UInt8) : compareBytes (a :: as) (b :: bs) = if a.toNat < b.toNat then -1 else if b.toNat < a.toNat then 1 else compareBytes as bs := by
  rw [compareBytes]
  simp only [UInt8.lt_iff_toNat_lt]
theorem cb_refl : ∀ l : List UInt8, compareBytes l l = 0
  | [] => rfl
  | a :: l => by rw [cb_cons, if_neg (by omega), if_neg (by omega), cb_refl l]
theorem cb_anti : ∀ l r : List UInt8, compareBytes r l = -compareBytes l r
  | [], [] => rfl
  | [], _ :: _ => rfl
  | _ :: _, [] => rfl
  | a :: l, b :: r => by
    rw [cb_cons, cb_cons]
    have := cb_anti l r
    repeat' split
    all_goals omega
theorem cb_eq : ∀ l r : List UInt8, compareBytes l r = 0 → l = r
  | [], [], _ => rfl
  | [], _ :: _, h => by simp [compareBytes] at h
  | _ :: _, [], h => by simp [compareBytes] at h
  | a :: l, b :: r, h => by
    rw [cb_cons] at h
    by_cases h1 : a.toNat < b.toNat
    · rw [if_pos h1] at h; omega
    · rw [if_neg h1] at h
      by_cases h2 : b.toNat < a.toNat
      · rw [if_pos h2] at h; omega
      · rw [if_neg h2] at h
        rw [cb_eq l r h, UInt8.toNat_inj.1 (show a.toNat = b.toNat by omega)]
theorem cb_trans : ∀ l m r : List UInt8, compareBytes l m ≤ 0 → compareBytes m r ≤ 0 → compareBytes l r ≤ 0 ∧ (compareBytes l r = 0 → compareBytes l m = 0 ∧ compareBytes m r = 0)
  | [], [], r, h1, h2 => ⟨h2, fun h => ⟨rfl, h⟩⟩
  | [], _ :: _, [], h1, h2 => by simp [compareBytes] at h2
  | [], _ :: _, _ :: _, h1, h2 => ⟨by simp [compareBytes], fun h => by simp [compareBytes] at h⟩
  | _ :: _, [], _, h1, h2 => by simp [compareBytes] at h1
  | _ :: _, _ :: _, [], h1, h2 => by simp [compareBytes] at h2
  | a :: l, b :: m, c :: r, h1, h2 => by
    rw [cb_cons] at h1 h2 ⊢
    rw [cb_cons, cb_cons]
    have ih := cb_trans l m r
    by_cases ab : a.toNat < b.toNat
    · by_cases bc : b.toNat < c.toNat
      · rw [if_pos (show a.toNat < c.toNat by omega)]
        exact ⟨by omega, fun h => by omega⟩
      · by_cases cb : c.toNat < b.toNat
        · rw [if_neg bc, if_pos cb] at h2; omega
        · rw [if_pos (show a.toNat < c.toNat by omega)]
          exact ⟨by omega, fun h => by omega⟩
    · by_cases ba : b.toNat < a.toNat
      · rw [if_neg ab, if_pos ba] at h1; omega
      · rw [if_neg ab, if_neg ba] at h1
        by_cases bc : b.toNat < c.toNat
        · rw [if_pos (show a.toNat < c.toNat by omega)]
          exact ⟨by omega, fun h => by omega⟩
        · by_cases cb : c.toNat < b.toNat
          · rw [if_neg bc, if_pos cb] at h2; omega
          · rw [if_neg bc, if_neg cb] at h2
            rw [if_neg (by omega), if_neg (by omega), if_neg ab, if_neg ba, if_neg bc, if_neg cb]
            exact ih h1 h2
theorem cp_eq_cmp (x y : ByteArray × Int) : cmpP x y = if y.2 < x.2 then -1 else if x.2 < y.2 then 1 else compareBytes x.1.data.toList y.1.data.toList := by
  unfold cmpP compareInt
  repeat' split
  all_goals first | rfl | omega
theorem cp_refl (x : ByteArray × Int) : cmpP x x = 0 := by rw [cp_eq_cmp, if_neg (by omega), if_neg (by omega), cb_refl]
theorem cp_anti (x y : ByteArray × Int) : cmpP y x = -cmpP x y := by
  rw [cp_eq_cmp, cp_eq_cmp]
  have := cb_anti x.1.data.toList y.1.data.toList
  repeat' split
  all_goals omega
theorem cp_eq {x y : ByteArray × Int} (h : cmpP x y = 0) : x = y := by
  rw [cp_eq_cmp] at h
  by_cases h1 : y.2 < x.2
  · rw [if_pos h1] at h; omega
  · rw [if_neg h1] at h
    by_cases h2 : x.2 < y.2
    · rw [if_pos h2] at h; omega
    · rw [if_neg h2] at h
      have e := cb_eq _ _ h
      obtain ⟨s, a⟩ := x
      obtain ⟨t, b⟩ := y
      have e1 : s = t := ByteArray.ext (Array.toList_inj.1 e)
      have e2 : a = b := by dsimp only at h1 h2; omega
      rw [e1, e2]
theorem cp_trans (x y z : ByteArray × Int) (h1 : cmpP x y ≤ 0) (h2 : cmpP y z ≤ 0) : cmpP x z ≤ 0 ∧ (cmpP x z = 0 → cmpP x y = 0 ∧ cmpP y z = 0) := by
  have ht := cb_trans x.1.data.toList y.1.data.toList z.1.data.toList
  rw [cp_eq_cmp] at h1 h2 ⊢
  rw [cp_eq_cmp, cp_eq_cmp]
  by_cases xy : y.2 < x.2
  · by_cases yz : y.2 < z.2
    · rw [if_neg (by omega), if_pos yz] at h2; omega
    · rw [if_pos (show z.2 < x.2 by omega)]
      exact ⟨by omega, fun h => by omega⟩
  · by_cases yx : x.2 < y.2
    · rw [if_neg xy, if_pos yx] at h1; omega
    · rw [if_neg xy, if_neg yx] at h1
      by_cases yz : z.2 < y.2
      · rw [if_pos (show z.2 < x.2 by omega)]
        exact ⟨by omega, fun h => by omega⟩
      · by_cases zy : y.2 < z.2
        · rw [if_neg yz, if_pos zy] at h2; omega
        · rw [if_neg yz, if_neg zy] at h2
          rw [if_neg (by omega), if_neg (by omega), if_neg xy, if_neg yx, if_neg yz, if_neg zy]
          exact ht h1 h2
theorem cp_strict {x y z : ByteArray × Int} (h1 : cmpP x y < 0) (h2 : cmpP y z < 0) : cmpP x z < 0 := by
  obtain ⟨h3, h4⟩ := cp_trans x y z (by omega) (by omega)
  by_cases h : cmpP x z = 0
  · have := h4 h; omega
  · omega
theorem leP_iff (x y : ByteArray × Int) : leP x y = true ↔ cmpP x y ≤ 0 := by
  unfold leP
  rw [Bool.not_eq_true', decide_eq_false_iff_not, cp_anti]
  omega
theorem leP_total (x y : ByteArray × Int) : (leP x y || leP y x) = true := by
  rw [Bool.or_eq_true, leP_iff, leP_iff, cp_anti x y]
  omega
theorem leP_trans (x y z : ByteArray × Int) (h1 : leP x y = true) (h2 : leP y z = true) : leP x z = true := by
  rw [leP_iff] at *
  exact (cp_trans x y z h1 h2).1
theorem leP_antisymm (x y : ByteArray × Int) (h1 : leP x y = true) (h2 : leP y x = true) : x = y := by
  rw [leP_iff] at *
  rw [cp_anti x y] at h2
  exact cp_eq (by omega)
/-- In whatever order they come, sorted they are one list. -/
theorem sort_one {l l' : List (ByteArray × Int)} (h : l.Perm l') : l.mergeSort leP = l'.mergeSort leP :=
  List.Perm.eq_of_pairwise (fun a b _ _ h1 h2 => leP_antisymm a b h1 h2) (List.pairwise_mergeSort leP_trans leP_total l) (List.pairwise_mergeSort leP_trans leP_total l') ((List.mergeSort_perm l leP).trans (h.trans (List.mergeSort_perm l' leP).symm))
end Go.Proofs.Ytnmidkjmflnolaa.P
