/- slices.SortFunc at Train's pieces: whatever row they lie in, it lies sorted behind. -/
import Derived.Test.YtnmidkjmflnolaaTrainCmp
import Derived.Test.YtnmidkjmflnolaaTrainOrd
import Derived.Shelf.SlSortCmp.WholeK
namespace Go.Proofs.Ytnmidkjmflnolaa.P
open Go Go.Shelf Go.RowKit Go.Lib Go.Sort Go.Proofs.YtnmidkjmflnolaaW.PrintWords Go.Proofs.YtnmidkjmflnolaaW.PrintLast
set_option linter.unusedVariables false
set_option linter.unusedSimpArgs false

theorem cmpP_swo : SWO (ltOf cmpP) where
  irrefl x := by unfold ltOf; rw [cp_refl]; rfl
  trans x y z h1 h2 := by unfold ltOf at *; exact decide_eq_true (cp_strict (of_decide_eq_true h1) (of_decide_eq_true h2))
  ntrans x y z h1 h2 := by
    unfold ltOf at *
    have g1 := of_decide_eq_false h1
    have g2 := of_decide_eq_false h2
    have := (cp_trans z y x (by rw [cp_anti]; omega) (by rw [cp_anti]; omega)).1
    rw [cp_anti] at this
    exact decide_eq_false (by omega)
set_option maxHeartbeats 2000000 in
theorem ins_nil (c : Value) (W : World) : Calls Try.prog 89 #[.slice none 0 0, .int .i64 0, .int .i64 0, c] W fun e w' => e = .returned (.tuple #[]) ∧ w' = W := by
  go_enter Try.func89, Try.ntmps89
  go_wp2
  go_loopg [8] 0 (fun g v8 wr => v8 = .int .i64 1 ∧ wr = W)
  case atStart => exact ⟨rfl, rfl⟩
  case round =>
    obtain ⟨rfl, rfl⟩ := hrel
    go_wp2
    go_end0
    exact ⟨rfl, rfl⟩
set_option maxHeartbeats 4000000 in
set_option maxRecDepth 100000 in
theorem pdq_nil (c : Value) (n : Int) (W : World) : Calls Try.prog 70 #[.slice none 0 0, .int .i64 0, .int .i64 0, .int .i64 n, c] W fun e w' => e = .returned (.tuple #[]) ∧ w' = W := by
  go_enter Try.func70, Try.ntmps70
  go_wp2
  go_loopg [1, 2, 3, 10, 11] 0 (fun g v1 v2 v3 v10 v11 wr => v1 = .int .i64 0 ∧ v2 = .int .i64 0 ∧ wr = W)
  case atStart => exact ⟨rfl, rfl, rfl⟩
  case round =>
    obtain ⟨rfl, rfl, rfl⟩ := hrel
    go_wp2_with (go_at_call 89; refine (ins_nil c _).mono ?_; rintro e w' ⟨rfl, rfl⟩)
    refine bodyPost_ret (results_none rfl _ _ _) rfl ?_
    exact ⟨rfl, rfl⟩
set_option maxHeartbeats 4000000 in
set_option maxRecDepth 100000 in
theorem sort_nil (c : Value) (W : World) : Calls Try.prog 47 #[.slice none 0 0, c] W fun e w' => e = .returned (.tuple #[]) ∧ w' = W := by
  have hl : Calls Try.prog 71 #[.int .u64 0] W fun e w' => e = .returned (.int .i64 (Lib.bitLen 0 : Nat)) ∧ w' = W := by
    have h := Any.bits_Len (SlLaysF0.n15.bits (P := Try.prog) (ρ := Try.sortP_ren) { Try.sortP with }) 0 W (by omega) (by omega)
    exact h
  go_enter Try.func47, Try.ntmps47
  go_wp2_with (first | (go_at_call 71; refine hl.mono ?_; rintro e w' ⟨rfl, rfl⟩) | (go_at_call 70; refine (pdq_nil c _ _).mono ?_; rintro e w' ⟨rfl, rfl⟩))
  go_end0
  exact ⟨rfl, rfl⟩
def flatP (l : List (ByteArray × Int)) : List Value := l.flatMap encP
theorem flatP_len (l : List (ByteArray × Int)) : (flatP l).length = l.length * 2 := by
  induction l with
  | nil => rfl
  | cons x t ih => simp only [flatP, List.flatMap_cons, List.length_append] at *; rw [ih]; simp [encP]; omega
theorem flatP_snoc (l : List (ByteArray × Int)) (x : ByteArray × Int) : flatP (l ++ [x]) = flatP l ++ encP x := by simp [flatP]
theorem flatP_get : ∀ (l : List (ByteArray × Int)) (j i : Nat) (hj : j < l.length) (hi : i < 2), (flatP l)[j * 2 + i]? = (encP l[j])[i]?
  | x :: t, 0, i, _, hi => by
    show (encP x ++ flatP t)[0 * 2 + i]? = _
    rw [Nat.zero_mul, Nat.zero_add, List.getElem?_append_left (by simp [encP]; omega)]
    rfl
  | x :: t, j + 1, i, hj, hi => by
    have ih := flatP_get t j i (by simpa using hj) hi
    show (encP x ++ flatP t)[(j + 1) * 2 + i]? = _
    rw [List.getElem?_append_right (by simp [encP]; omega), show (j + 1) * 2 + i - (encP x).length = j * 2 + i by simp [encP]; omega, ih]
    rfl
instance : Inhabited (ByteArray × Int) := ⟨(ByteArray.empty, 0)⟩
theorem holds_flat {w : World} {g : Nat} {ws : List (ByteArray × Int)} (h : ∀ t v, (flatP ws)[t]? = some v → w.cell? ⟨g, t, none⟩ = some v ∧ w.frozen? ⟨g, t, none⟩ = false) : HoldsK encP 2 w g 0 ws.toArray := by
  intro t ht
  rw [size_flatK] at ht
  rw [get_flatK _ _ _ _ ht, Nat.zero_add]
  have hsz : ws.toArray.size = ws.length := by simp
  have hj : t / 2 < ws.length := by omega
  have e : (flatP ws)[t / 2 * 2 + t % 2]? = (encP ws[t / 2])[t % 2]? := flatP_get ws (t / 2) (t % 2) hj (by omega)
  rw [show t / 2 * 2 + t % 2 = t by omega] at e
  have hm : t % 2 < (encP ws[t / 2]).length := by rw [encP_len]; omega
  rw [List.getElem?_eq_getElem hm] at e
  have h2 := h t _ e
  have e2 : ws.toArray[t / 2]! = ws[t / 2] := by rw [getElem!_pos ws.toArray (t / 2) (by simpa using hj)]; simp
  rw [e2, getElem!_pos (encP ws[t / 2]) (t % 2) hm]
  exact h2
theorem holds_get {w : World} {g : Nat} {d : Array (ByteArray × Int)} (h : HoldsK encP 2 w g 0 d) (j : Nat) (hj : j < d.size) : w.cell? ⟨g, j * 2, none⟩ = some (.string d[j].1) ∧ w.cell? ⟨g, j * 2 + 1, none⟩ = some (.int .i64 d[j].2) := by
  have h0 := (h (j * 2) (by rw [size_flatK]; omega)).1
  have h1 := (h (j * 2 + 1) (by rw [size_flatK]; omega)).1
  rw [get_flatK _ _ _ _ (by omega), Nat.zero_add, show j * 2 / 2 = j by omega, show j * 2 % 2 = 0 by omega, getElem!_pos d j hj] at h0
  rw [get_flatK _ _ _ _ (by omega), Nat.zero_add, show (j * 2 + 1) / 2 = j by omega, show (j * 2 + 1) % 2 = 1 by omega, getElem!_pos d j hj] at h1
  exact ⟨h0, h1⟩
theorem below_sort (base : Nat) (w : World) (g m : Nat) (d : Array (ByteArray × Int)) (os : Array Obj) (hg : base ≤ g) (hb : base ≤ w.heap.size) : RowKit.Below base w (sortWorldK encP 2 w g 0 m d os) := by
  refine ⟨rfl, rfl, rfl, ?_, fun k hk => ?_⟩
  · show w.heap.size ≤ ((w.heap.modify g _) ++ os).size
    simp
  · show ((w.heap.modify g _) ++ os)[k]? = w.heap[k]?
    rw [Array.getElem?_append_left (by rw [Array.size_modify]; omega), Array.getElem?_modify, if_neg (by omega)]
/-- The row sorted. -/
theorem sort_calls (base : Nat) (ws : List (ByteArray × Int)) (v : Value) (w : World) (hb : base ≤ w.heap.size) (hs : ws.length < 4611686018427387904) (h : w.ownsRow base 74 2 v ws.length (flatP ws)) :
    Calls Try.prog 47 #[v, .func (.func 48) #[] #[]] w fun e w' => e = .returned (.tuple #[]) ∧ RowKit.Below base w w' ∧
      (ws = [] ∧ v = .slice none 0 0 ∨ ∃ g cap, v = .slice (some ⟨g, 0, none⟩) ws.length cap ∧ ws.length ≤ cap ∧ ∀ (j : Nat) (hj : j < (ws.mergeSort leP).length), w'.cell? ⟨g, j * 2, none⟩ = some (.string (ws.mergeSort leP)[j].1) ∧ w'.cell? ⟨g, j * 2 + 1, none⟩ = some (.int .i64 (ws.mergeSort leP)[j].2)) := by
  rcases h.2 with ⟨rfl, hn⟩ | ⟨g, cap, cur, rfl, hge, hg, hnc, hcm, hcs, htake⟩
  · refine (sort_nil _ w).mono ?_
    rintro e w' ⟨rfl, rfl⟩
    exact ⟨rfl, Below.refl _ _, .inl ⟨List.length_eq_zero_iff.1 hn, rfl⟩⟩
  · have eg : ∀ args w, (callFunc 48 args).run Try.prog w = .ok (.enter 48 args) w := enters_of Try.func48 (by kernel_rfl) rfl
    have hH : HoldsK encP 2 w g 0 ws.toArray := holds_flat fun t u hu => by
      refine ⟨?_, blk_frozen hg t⟩
      rw [blk_cell hg]
      rw [← htake] at hu
      have hlt := (List.getElem?_eq_some_iff.1 hu).1
      rw [List.length_take] at hlt
      rw [List.getElem?_take_of_lt (by omega)] at hu
      simpa using hu
    have hlt : g < w.heap.size := (Array.getElem?_eq_some_iff.1 hg).1
    have hcon := AnyQ.slices_SortFunc Try.sortP 2 Try.isAgg74 Try.sizeOf74 encP encP_len encP_one cmpP cmpP_swo 48 #[] g 0 cap ws.toArray w eg (train_cmpLays g 0 ws.toArray.size w) hH hlt (by simpa using hs)
    have hz : ws.toArray.size = ws.length := by simp
    rw [hz] at hcon
    refine (show Calls Try.prog 47 _ _ _ from hcon).mono ?_
    rintro e w' ⟨rfl, d', n, os, hp, hso, rfl⟩
    have hu : d'.toList = ws.mergeSort leP := by
      have := Sort.sorted_unique_holds (lt := ltOf cmpP) cmpP_swo (fun x y h1 h2 => by
        have g1 := of_decide_eq_false h1
        have g2 := of_decide_eq_false h2
        rw [cp_anti] at g2
        exact cp_eq (by omega)) ws.toArray d' (by rw [hz]; exact hp) (by rw [hz]; exact hso)
      exact this
    have hds : d'.size = ws.toArray.size := by rw [hz]; exact hp.1.trans hz
    refine ⟨rfl, below_sort base w g n d' os hge hb, .inr ⟨g, cap, rfl, hnc, fun j hj => ?_⟩⟩
    have hh := holdsK_sortWorldK encP 2 w g 0 n ws.toArray d' os hlt hH hds
    have hj2 : j < d'.size := by rw [← Array.length_toList, hu]; exact hj
    have := holds_get hh j hj2
    have ej : d'[j] = (ws.mergeSort leP)[j] := by
      have e1 : d'[j] = d'.toList[j]'(by simpa using hj2) := (Array.getElem_toList hj2).symm
      rw [e1]
      congr 1
    rw [ej] at this
    exact this
end Go.Proofs.Ytnmidkjmflnolaa.P
