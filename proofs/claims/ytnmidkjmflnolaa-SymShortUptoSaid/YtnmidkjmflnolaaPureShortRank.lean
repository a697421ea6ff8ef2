/- Who stands in the table: counts of pieces, and how many can stand ahead of one. -/
import Derived.Test.YtnmidkjmflnolaaPureTab
namespace Go.Proofs.Ytnmidkjmflnolaa.Pure
open Go Go.RowKit Go.Lib Go.Proofs.YtnmidkjmflnolaaW.PrintWords Go.Proofs.Ytnmidkjmflnolaa.P Go.Proofs.Ytnmidkjmflnolaa.Maps
set_option linter.unusedVariables false

/-! ### how often -/
def cntQ (q L N r : Nat) : Nat → Nat → Nat
  | _, 0 => 0
  | a, d + 1 => (if a % q = r ∧ a + N ≤ L then 1 else 0) + cntQ q L N r (a + 1) d
theorem mem_piecesAt (s : ByteArray) (a N : Nat) : ∀ d n : Nat, n ≤ N → N < n + d → s.extract a (a + N) ∈ piecesAt s a n d
  | 0, n, h1, h2 => by omega
  | d + 1, n, h1, h2 => by
    rw [piecesAt]
    by_cases h : n = N
    · rw [h]; exact List.mem_cons_self ..
    · exact List.mem_cons_of_mem _ (mem_piecesAt s a N d (n + 1) (by omega) (by omega))
theorem cnt_le (s : ByteArray) (X : ByteArray) (q N r : Nat) (h2 : 2 ≤ N) (h8 : N ≤ 8) (hX : ∀ a, a % q = r → a + N ≤ s.size → s.extract a (a + N) = X) : ∀ d a : Nat, cntQ q s.size N r a d ≤ (piecesFrom s a d).count X
  | 0, a => Nat.zero_le _
  | d + 1, a => by
    rw [cntQ, piecesFrom, List.count_append]
    have ih := cnt_le s X q N r h2 h8 hX d (a + 1)
    by_cases h : a % q = r ∧ a + N ≤ s.size
    · rw [if_pos h]
      have hm : X ∈ piecesAt s a 2 (howMany s a) := by
        have := mem_piecesAt s a N (howMany s a) 2 h2 (by unfold howMany; omega)
        rwa [hX a h.1 h.2] at this
      have := List.count_pos_iff.2 hm
      omega
    · rw [if_neg h]
      omega
/-! ### how many of a size -/
theorem lenAt (s : ByteArray) (a n : Nat) : ∀ d i : Nat, a + i + d ≤ s.size + 1 → ((piecesAt s a i d).filter fun x => decide (x.size = n)).length ≤ if i ≤ n ∧ n < i + d then 1 else 0
  | 0, i, _ => Nat.zero_le _
  | d + 1, i, h => by
    have ih := lenAt s a n d (i + 1) (by omega)
    have hs : (s.extract a (a + i)).size = i := by rw [ByteArray.size_extract]; omega
    rw [piecesAt]
    by_cases e : i = n
    · rw [if_neg (by omega)] at ih
      rw [List.filter_cons_of_pos (by rw [hs]; exact decide_eq_true e), List.length_cons, if_pos (by omega)]
      omega
    · rw [List.filter_cons_of_neg (by rw [hs]; simpa using e)]
      by_cases h3 : i + 1 ≤ n ∧ n < i + 1 + d
      · rw [if_pos h3] at ih
        rw [if_pos (by omega)]
        exact ih
      · rw [if_neg h3] at ih
        exact Nat.le_trans ih (Nat.zero_le _)
theorem lenFrom (s : ByteArray) (n : Nat) : ∀ d a : Nat, a + d = s.size → ((piecesFrom s a d).filter fun x => decide (x.size = n)).length ≤ s.size + 1 - n - a
  | 0, a, _ => Nat.zero_le _
  | d + 1, a, h => by
    have ih := lenFrom s n d (a + 1) (by omega)
    rw [piecesFrom, List.filter_append, List.length_append]
    by_cases h1 : s.size - a < 2
    · have h0 : howMany s a = 0 := by unfold howMany; omega
      rw [h0, piecesAt, List.filter_nil, List.length_nil]
      omega
    · have h2 := lenAt s a n (howMany s a) 2 (by unfold howMany; omega)
      split at h2
      · rename_i h3
        have : howMany s a = min 8 (s.size - a) + 1 - 2 := rfl
        omega
      · omega
theorem sum_count : ∀ (Ys : List ByteArray) (A : List ByteArray) (K : Nat), Ys.Nodup → (∀ y ∈ Ys, K ≤ A.count y) → Ys.length * K ≤ A.length
  | [], A, K, _, _ => by simp
  | y :: Ys, A, K, hn, hk => by
    rw [List.nodup_cons] at hn
    have ih := sum_count Ys (A.filter fun z => !decide (z = y)) K hn.2 (fun z hz => by
      rw [List.count_filter (by simpa using fun e => hn.1 (by rw [← e]; exact hz))]
      exact hk z (List.mem_cons_of_mem _ hz))
    have h1 := hk y (List.mem_cons_self ..)
    have h2 : A.count y + (A.filter fun z => !decide (z = y)).length = A.length := by
      clear ih h1 hk
      induction A with
      | nil => rfl
      | cons a A ih =>
        by_cases e : a = y
        · subst e
          rw [List.count_cons_self, List.filter_cons_of_neg (by simp), List.length_cons]
          omega
        · rw [List.count_cons_of_ne e, List.filter_cons_of_pos (by simpa using e), List.length_cons, List.length_cons]
          omega
    rw [List.length_cons, Nat.add_mul, Nat.one_mul]
    omega
def sumG (g : Nat → Nat) : Nat → Nat → Nat
  | _, 0 => 0
  | i, d + 1 => g i + sumG g (i + 1) d
theorem split_sizes (g : Nat → Nat) : ∀ (d i : Nat) (C : List (ByteArray × Int)), (∀ y ∈ C, i ≤ y.1.size ∧ y.1.size < i + d) → (∀ n, (C.filter fun y => decide (y.1.size = n)).length ≤ g n) → C.length ≤ sumG g i d
  | 0, i, C, h, _ => by
    cases C with
    | nil => exact Nat.le_refl _
    | cons y C => have := h y (List.mem_cons_self ..); omega
  | d + 1, i, C, h, hg => by
    have ih := split_sizes g d (i + 1) (C.filter fun y => !decide (y.1.size = i)) (fun y hy => by
      rw [List.mem_filter] at hy
      have h1 := h y hy.1
      have h2 : ¬ y.1.size = i := by simpa using hy.2
      omega) (fun n => Nat.le_trans ((List.filter_sublist.filter _).length_le) (hg n))
    have h1 := hg i
    have h2 : (C.filter fun y => decide (y.1.size = i)).length + (C.filter fun y => !decide (y.1.size = i)).length = C.length := by
      clear ih h1 hg h
      induction C with
      | nil => rfl
      | cons a A ih =>
        by_cases e : a.1.size = i
        · rw [List.filter_cons_of_pos (by simpa using e), List.filter_cons_of_neg (by simpa using e), List.length_cons, List.length_cons]
          omega
        · rw [List.filter_cons_of_neg (by simpa using e), List.filter_cons_of_pos (by simpa using e), List.length_cons, List.length_cons]
          omega
    rw [sumG]
    omega
/-- At most so many pieces of size n stand ahead of one of worth w. -/
def room (L w n : Nat) : Nat := (L + 1 - n) / max 2 ((w + (n - 2)) / (n - 1))
theorem cand_nodup (all : List ByteArray) : ((candP all).map (·.1)).Nodup := by
  unfold candP
  rw [List.map_map, show ((fun x : ByteArray × Int => x.1) ∘ worthP all) = id from rfl, List.map_id]
  exact (nodup_distP all).filter _
theorem cand_mem {all : List ByteArray} {y : ByteArray × Int} : y ∈ candP all ↔ 1 < all.count y.1 ∧ y.2 = ((y.1.size : Int) - 1) * (all.count y.1 : Int) := by
  unfold candP
  rw [List.mem_map]
  constructor
  · rintro ⟨s, hs, rfl⟩
    rw [List.mem_filter] at hs
    exact ⟨of_decide_eq_true hs.2, rfl⟩
  · rintro ⟨h1, h2⟩
    refine ⟨y.1, List.mem_filter.2 ⟨mem_distP.2 (List.count_pos_iff.1 (by omega)), decide_eq_true h1⟩, ?_⟩
    unfold worthP
    rw [← h2]
theorem ahead_len (s : ByteArray) (w : Nat) (C : List (ByteArray × Int)) (hs : C.Sublist (candP (piecesS s))) (hw : ∀ y ∈ C, (w : Int) ≤ y.2) : C.length ≤ sumG (room s.size w) 2 7 := by
  refine split_sizes (room s.size w) 7 2 C (fun y hy => ?_) (fun n => ?_)
  · have h1 := cand_mem.1 (hs.subset hy)
    have h2 := piecesFrom_size s s.size 0 (by omega) y.1 (List.count_pos_iff.1 (by have := h1.1; unfold piecesS at this; omega))
    omega
  · have hnd : ((C.filter fun y => decide (y.1.size = n)).map (·.1)).Nodup := List.Nodup.sublist ((List.filter_sublist.trans hs).map _) (cand_nodup _)
    have hpos : 0 < max 2 ((w + (n - 2)) / (n - 1)) := by omega
    have hsum := sum_count _ ((piecesS s).filter fun x => decide (x.size = n)) (max 2 ((w + (n - 2)) / (n - 1))) hnd (fun x hx => by
      obtain ⟨y, hy, rfl⟩ := List.mem_map.1 hx
      rw [List.mem_filter] at hy
      have hsz : y.1.size = n := of_decide_eq_true hy.2
      have h1 := cand_mem.1 (hs.subset hy.1)
      have h2 := hw y hy.1
      rw [List.count_filter (by simpa using hsz)]
      have h3 := piecesFrom_size s s.size 0 (by omega) y.1 (List.count_pos_iff.1 (by have := h1.1; unfold piecesS at this; omega))
      rw [h1.2] at h2
      refine Nat.max_le.2 ⟨h1.1, ?_⟩
      have h4 : w ≤ (n - 1) * (piecesS s).count y.1 := by
        have e : (((n - 1 : Nat) : Int)) = (y.1.size : Int) - 1 := by omega
        rw [← e] at h2
        exact_mod_cast h2
      refine Nat.le_of_lt_succ ((Nat.div_lt_iff_lt_mul (by omega)).2 ?_)
      rw [Nat.succ_mul, Nat.mul_comm]
      omega)
    rw [List.length_map] at hsum
    have hlen := lenFrom s n s.size 0 (by omega)
    unfold room
    rw [Nat.le_div_iff_mul_le hpos]
    exact Nat.le_trans hsum (by unfold piecesS; omega)
/-! ### the first 32 -/
theorem rank {all : List ByteArray} {x : ByteArray × Int} (hx : x ∈ candP all) (h : ((candP all).filter fun y => decide (cmpP y x ≤ 0)).length ≤ 32) : x.1 ∈ trainAll all := by
  have hperm := List.mergeSort_perm (candP all) leP
  have hsort := List.pairwise_mergeSort leP_trans leP_total (candP all)
  rw [← (hperm.filter _).length_eq] at h
  have hxM := hperm.mem_iff.2 hx
  unfold trainAll
  generalize (candP all).mergeSort leP = M at h hxM hsort
  obtain ⟨i, hi, rfl⟩ := List.mem_iff_getElem.1 hxM
  have hall : ∀ y ∈ M.take (i + 1), cmpP y M[i] ≤ 0 := by
    intro y hy
    obtain ⟨j, hj, rfl⟩ := List.mem_iff_getElem.1 hy
    rw [List.length_take] at hj
    rw [List.getElem_take]
    by_cases e : j = i
    · subst e; rw [cp_refl]; omega
    · exact (leP_iff _ _).1 (List.pairwise_iff_getElem.1 hsort j i (by omega) hi (by omega))
  have h1 : (M.take (i + 1)).filter (fun y => decide (cmpP y M[i] ≤ 0)) = M.take (i + 1) := List.filter_eq_self.2 (fun y hy => decide_eq_true (hall y hy))
  have h2 := ((List.take_sublist (i + 1) M).filter fun y => decide (cmpP y M[i] ≤ 0)).length_le
  rw [h1, List.length_take] at h2
  exact List.mem_map_of_mem (List.mem_iff_getElem.2 ⟨i, by rw [List.length_take]; omega, List.getElem_take⟩)
theorem in_table (s : ByteArray) (X : ByteArray) (w : Nat) (h2 : 2 ≤ (piecesS s).count X) (hw : (w : Int) ≤ ((X.size : Int) - 1) * ((piecesS s).count X : Int)) (hr : sumG (room s.size w) 2 7 ≤ 32) : X ∈ trainAll (piecesS s) := by
  refine rank (x := (X, ((X.size : Int) - 1) * ((piecesS s).count X : Int))) (cand_mem.2 ⟨h2, rfl⟩) (Nat.le_trans (ahead_len s w _ List.filter_sublist (fun y hy => ?_)) hr)
  rw [List.mem_filter] at hy
  have h := of_decide_eq_true hy.2
  rw [cp_eq_cmp] at h
  split at h
  · omega
  · split at h
    · omega
    · omega
end Go.Proofs.Ytnmidkjmflnolaa.Pure
