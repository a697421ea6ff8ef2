/- The plain laws of rows and tables: sym's functions compute what the reference's do. -/
import Derived.Test.YtnmidkjmflnolaaPureNum
import Derived.Test.YtnmidkjmflnolaaTables
import Derived.Test.YtnmidkjmflnolaaTakeTable
import Derived.Test.YtnmidkjmflnolaaP4
namespace Go.Proofs.Ytnmidkjmflnolaa.Pure
open Go Go.RowKit Go.Proofs.YtnmidkjmflnolaaW.PrintWords Go.Proofs.Ytnmidkjmflnolaa.P Go.Proofs.Ytnmidkjmflnolaa.Maps
set_option linter.unusedVariables false

theorem takeNum_ok {l : List Int} (hl : okbs l) {v n e : Int} (h : takeNum l = (v, n, e)) (he : e = 0) : 0 ≤ v ∧ v ≤ 18446744073709551615 ∧ 1 ≤ n ∧ n ≤ l.length := by
  have hx := rd_ok hl 0
  have hx0 := hx.1
  have hx1 := hx.2
  unfold takeNum at h
  split at h
  · simp only [Prod.mk.injEq] at h; omega
  · split at h
    · simp only [Prod.mk.injEq] at h; omega
    · split at h
      · simp only [Prod.mk.injEq] at h; omega
      · split at h
        · simp only [Prod.mk.injEq] at h; omega
        · next h1 h2 h3 h4 =>
          obtain ⟨K, hK⟩ := Int.eq_ofNat_of_zero_le (show 0 ≤ rd l 0 - 247 by omega)
          rw [hK, Int.toNat_natCast] at h h4
          have hV := leVal_lt ((l.take (1 + K)).drop 1) (okbs_drop (okbs_take hl _) _)
          rw [show ((l.take (1 + K)).drop 1).length = K by simp; omega] at hV
          have hp : (256 : Int) ^ K ≤ 18446744073709551616 := by
            rcases (by omega : K = 0 ∨ K = 1 ∨ K = 2 ∨ K = 3 ∨ K = 4 ∨ K = 5 ∨ K = 6 ∨ K = 7 ∨ K = 8) with rfl | rfl | rfl | rfl | rfl | rfl | rfl | rfl | rfl <;> decide
          simp only [Prod.mk.injEq] at h
          generalize leVal ((l.take (1 + K)).drop 1) = V at h hV
          generalize (256 : Int) ^ K = p at hV hp
          omega
def takeRowC (l : List Int) (m : Int) : List Int × Int × Int :=
  if (takeNum l).2.2 = 0 then
    if (takeNum l).1 > m then ([], 0, 5)
    else if (takeNum l).1 > (l.length : Int) - (takeNum l).2.1 then ([], 0, 3)
    else ((l.take ((takeNum l).2.1 + (takeNum l).1).toNat).drop (takeNum l).2.1.toNat, (takeNum l).2.1 + (takeNum l).1, 0)
  else ([], 0, (takeNum l).2.2)
theorem takeRowC_ok {l : List Int} (hl : okbs l) (m : Int) {r : List Int} {n e : Int} (h : takeRowC l m = (r, n, e)) (he : e = 0) : okbs r ∧ 1 ≤ n ∧ n ≤ l.length := by
  unfold takeRowC at h
  split at h
  · next h0 =>
    have hk := takeNum_ok hl (v := (takeNum l).1) (n := (takeNum l).2.1) (e := (takeNum l).2.2) rfl h0
    split at h
    · simp only [Prod.mk.injEq] at h; omega
    · split at h
      · simp only [Prod.mk.injEq] at h; omega
      · simp only [Prod.mk.injEq] at h
        obtain ⟨rfl, rfl, rfl⟩ := h
        exact ⟨okbs_drop (okbs_take hl _) _, by omega, by omega⟩
  · next h0 => simp only [Prod.mk.injEq] at h; omega
theorem takeRow {l : List Int} (hl : okbs l) (hn : l.length ≤ 100000000) {m : Int} (h0 : 0 ≤ m) (h1 : m ≤ 1000000000) : num_TakeRow.f l m = some (takeRowC l m) := by
  unfold num_TakeRow.f num_Take.f takeRowC
  rw [if_neg (by omega), if_pos ⟨okbsB_of hl, by omega⟩, Option.bind_some, u64_in h0 (by omega)]
  by_cases he : (takeNum l).2.2 = 0
  · have hk := takeNum_ok hl (v := (takeNum l).1) (n := (takeNum l).2.1) (e := (takeNum l).2.2) rfl he
    rw [if_pos he, if_pos he]
    by_cases hm : (takeNum l).1 > m
    · rw [if_pos hm, if_pos hm]
    · rw [if_neg hm, if_neg hm, wrap_in (x := (takeNum l).1) (by omega) (by omega), wrap_in (x := (l.length : Int) - (takeNum l).2.1) (by omega) (by omega)]
      by_cases hs : (takeNum l).1 > (l.length : Int) - (takeNum l).2.1
      · rw [if_pos hs, if_pos hs]
      · rw [if_neg hs, if_neg hs, wrap_in (x := (takeNum l).2.1 + (takeNum l).1) (by omega) (by omega), if_pos (by omega), if_pos (by omega), if_pos (by omega)]
        unfold slices_Clone_byte.f
        rw [if_pos (by simp; omega)]
        rfl
  · rw [if_neg he, if_neg he]
theorem takeRow02 {l : List Int} (hl : okbs l) (hn : l.length ≤ 100000000) {m : Int} (h0 : 0 ≤ m) (h1 : m ≤ 1000000000) : Ev (fun k => dragnetref02_TakeRow.f k l m) (takeRowC l m) := by
  refine Ev.call0 (take02 hl hn) (Ev.now (takeRowC l m)) (fun k hk => ?_)
  unfold dragnetref02_TakeRow.f takeRowC
  rw [if_neg (by omega), hk, Option.bind_some, u64_in h0 (by omega)]
  by_cases he : (takeNum l).2.2 = 0
  · have hkk := takeNum_ok hl (v := (takeNum l).1) (n := (takeNum l).2.1) (e := (takeNum l).2.2) rfl he
    rw [if_pos he, if_pos he]
    by_cases hm : (takeNum l).1 > m
    · rw [if_pos hm, if_pos hm]
    · rw [if_neg hm, if_neg hm, wrap_in (x := (takeNum l).1) (by omega) (by omega), wrap_in (x := (l.length : Int) - (takeNum l).2.1) (by omega) (by omega)]
      by_cases hs : (takeNum l).1 > (l.length : Int) - (takeNum l).2.1
      · rw [if_pos hs, if_pos hs]
      · rw [if_neg hs, if_neg hs, wrap_in (x := (takeNum l).2.1 + (takeNum l).1) (by omega) (by omega), if_pos (by omega), if_pos (by omega), if_pos (by omega), copy01 (by simp; omega)]
        rfl
  · rw [if_neg he, if_neg he]

/-! ### a table is taken -/
def fin06 (k : Nat) (s : List ByteArray × Int × Bool) : Option (List ByteArray × Int × Int) :=
  if s.2.2 = true then some ([], 0, 2) else (dragnetref06_Formed.f k s.1).bind fun ok => if ok = true then some (s.1, s.2.1, 0) else some ([], 0, 2)
theorem formedF (t : List ByteArray) : sym_Formed.f t = some (formedB t) := rfl
/-- What a table is, from here on: n rows are to come. -/
def tableC (l : List Int) : Nat → Int → List ByteArray → List ByteArray × Int × Int
  | 0, at_, t => if formedB t = true then (t, at_, 0) else ([], 0, 2)
  | n + 1, at_, t => if (takeRowC (l.drop at_.toNat) 8).2.2 = 0 then tableC l n (at_ + (takeRowC (l.drop at_.toNat) 8).2.1) (t ++ [strOfNums (takeRowC (l.drop at_.toNat) 8).1]) else ([], 0, 2)
theorem table_sym (l : List Int) (hl : okbs l) (hn : l.length ≤ 100000000) (N : Nat) (hN : N ≤ 32) : ∀ (n : Nat) (at_ : Int) (t : List ByteArray), n ≤ N → 0 ≤ at_ → at_ ≤ l.length → t.length + n ≤ 32 →
    Ev (fun k => sym_TakeTable.l0 k l at_ t (N : Int) ((N - n : Nat) : Int)) (tableC l n at_ t)
  | 0, at_, t, _, _, _, _ => by
    refine Ev.step (f := fun _ => some (tableC l 0 at_ t)) (fun k => ?_) (Ev.now _)
    simp only [sym_TakeTable.l0, tableC]
    rw [if_neg (by omega), formedF, Option.bind_some]
    cases formedB t <;> rfl
  | n + 1, at_, t, hnN, h0, h1, ht => by
    have hdl : (l.drop at_.toNat).length = l.length - at_.toNat := List.length_drop
    have hr := takeRow (okbs_drop hl at_.toNat) (by rw [hdl]; omega) (m := 8) (by omega) (by omega)
    by_cases he : (takeRowC (l.drop at_.toNat) 8).2.2 = 0
    · have hk := takeRowC_ok (okbs_drop hl at_.toNat) 8 (r := (takeRowC (l.drop at_.toNat) 8).1) (n := (takeRowC (l.drop at_.toNat) 8).2.1) rfl he
      rw [hdl] at hk
      rw [tableC, if_pos he]
      refine Ev.step (fun k => ?_) (table_sym l hl hn N hN n (at_ + (takeRowC (l.drop at_.toNat) 8).2.1) (t ++ [strOfNums (takeRowC (l.drop at_.toNat) 8).1]) (by omega) (by omega) (by omega) (by simp; omega))
      simp only [sym_TakeTable.l0]
      rw [if_pos (by omega), if_pos h0, if_pos h1, hr, Option.bind_some, if_pos he, if_pos (by omega), wrap_in (by omega) (by omega), u64_in (by omega) (by omega)]
      congr 1
      omega
    · rw [tableC, if_neg he]
      refine Ev.step (f := fun _ => some ([], 0, 2)) (fun k => ?_) (Ev.now _)
      simp only [sym_TakeTable.l0]
      rw [if_pos (by omega), if_pos h0, if_pos h1, hr, Option.bind_some, if_neg he]
theorem table_ref (l : List Int) (hl : okbs l) (hn : l.length ≤ 100000000) : ∀ (n : Nat) (at_ : Int) (t : List ByteArray), 0 ≤ at_ → at_ ≤ l.length → t.length + n ≤ 32 →
    Ev (fun k => (takeRows k l n at_ false t).bind (fin06 k)) (tableC l n at_ t)
  | 0, at_, t, _, _, _ => by
    refine Ev.call0 (formed06 t) (Ev.now (tableC l 0 at_ t)) (fun k hk => ?_)
    simp only [takeRows, Option.bind_some, fin06, tableC]
    rw [if_neg (by simp), hk, Option.bind_some]
    cases formedB t <;> rfl
  | n + 1, at_, t, h0, h1, ht => by
    have hdl : (l.drop at_.toNat).length = l.length - at_.toNat := List.length_drop
    have hr := takeRow02 (okbs_drop hl at_.toNat) (by rw [hdl]; omega) (m := 8) (by omega) (by omega)
    by_cases he : (takeRowC (l.drop at_.toNat) 8).2.2 = 0
    · have hk := takeRowC_ok (okbs_drop hl at_.toNat) 8 (r := (takeRowC (l.drop at_.toNat) 8).1) (n := (takeRowC (l.drop at_.toNat) 8).2.1) rfl he
      rw [hdl] at hk
      rw [tableC, if_pos he]
      refine Ev.call0 hr (table_ref l hl hn n (at_ + (takeRowC (l.drop at_.toNat) 8).2.1) (t ++ [strOfNums (takeRowC (l.drop at_.toNat) 8).1]) (by omega) (by omega) (by simp; omega)) (fun k hk2 => ?_)
      simp only [takeRows]
      unfold dragnetref02_Reader_Row.f
      rw [if_neg (by simp), if_neg (by simp), if_pos ⟨h0, h1⟩, hk2, Option.bind_some, Option.bind_some, if_pos (by omega), wrap_in (by omega) (by omega), show ((takeRowC (l.drop at_.toNat) 8).2.2 != 0) = false by simp [he]]
    · rw [tableC, if_neg he]
      refine Ev.call0 hr (Ev.now ([], 0, 2)) (fun k hk2 => ?_)
      simp only [takeRows]
      unfold dragnetref02_Reader_Row.f
      rw [if_neg (by simp), if_neg (by simp), if_pos ⟨h0, h1⟩, hk2, Option.bind_some, Option.bind_some, if_pos (by omega), show ((takeRowC (l.drop at_.toNat) 8).2.2 != 0) = true by simp [he]]
      cases n with
      | zero => rfl
      | succ n => rfl
/-- What a table is that bytes begin with. -/
def tableOf (l : List Int) : List ByteArray × Int × Int :=
  if (takeNum l).2.2 = 0 ∧ (takeNum l).1 ≤ 32 then tableC l (takeNum l).1.toNat (takeNum l).2.1 [] else ([], 0, 2)
theorem take_sym {l : List Int} (hl : okbs l) (hn : l.length ≤ 100000000) : Ev (fun k => sym_TakeTable.f k l) (tableOf l) := by
  have hf : num_Take.f l = some (takeNum l) := by unfold num_Take.f; rw [if_pos ⟨okbsB_of hl, by omega⟩]
  unfold tableOf
  by_cases he : (takeNum l).2.2 = 0
  · have hk := takeNum_ok hl (v := (takeNum l).1) (n := (takeNum l).2.1) (e := (takeNum l).2.2) rfl he
    by_cases hm : (takeNum l).1 ≤ 32
    · rw [if_pos ⟨he, hm⟩]
      obtain ⟨N, hN⟩ := Int.eq_ofNat_of_zero_le hk.1
      have h := table_sym l hl hn N (by omega) N (takeNum l).2.1 [] (Nat.le_refl _) (by omega) (by omega) (by simp; omega)
      rw [Nat.sub_self] at h
      rw [hN, Int.toNat_natCast]
      refine Ev.congr (f := fun k => sym_TakeTable.j0 k l (takeNum l).1 (takeNum l).2.1 false) (fun k => ?_) (Ev.step (fun k => ?_) h)
      · unfold sym_TakeTable.f
        rw [hf, Option.bind_some, if_pos he, decide_eq_false (by omega)]
      · simp only [sym_TakeTable.j0]
        rw [if_neg (by simp), hN]
        rfl
    · rw [if_neg (fun h => hm h.2)]
      refine Ev.congr (f := fun k => sym_TakeTable.j0 k l (takeNum l).1 (takeNum l).2.1 true) (fun k => ?_) (Ev.step (f := fun _ => some ([], 0, 2)) (fun k => ?_) (Ev.now _))
      · unfold sym_TakeTable.f
        rw [hf, Option.bind_some, if_pos he, decide_eq_true (by omega)]
      · simp only [sym_TakeTable.j0]
        rw [if_pos trivial]
  · rw [if_neg (fun h => he h.1)]
    refine Ev.congr (f := fun k => sym_TakeTable.j0 k l (takeNum l).1 (takeNum l).2.1 true) (fun k => ?_) (Ev.step (f := fun _ => some ([], 0, 2)) (fun k => ?_) (Ev.now _))
    · unfold sym_TakeTable.f
      rw [hf, Option.bind_some, if_neg he]
    · simp only [sym_TakeTable.j0]
      rw [if_pos trivial]
theorem take_ref {l : List Int} (hl : okbs l) (hn : l.length ≤ 100000000) : Ev (fun k => dragnetref06_TakeTable.f k l) (tableOf l) := by
  have ht := take02 hl hn
  have hcnt : ∀ k, dragnetref02_Take.f k l = some (takeNum l) → dragnetref02_Reader_Number.f k l 0 false 32 = (if (takeNum l).2.2 = 0 then (if 32 < (takeNum l).1 then some (0, wrap64 (0 + (takeNum l).2.1), true) else some ((takeNum l).1, wrap64 (0 + (takeNum l).2.1), false)) else some (0, wrap64 (0 + (takeNum l).2.1), true)) := fun k hk => by
    unfold dragnetref02_Reader_Number.f
    rw [if_neg (by simp), if_pos ⟨Int.le_refl _, by omega⟩, show (0 : Int).toNat = 0 from rfl, List.drop_zero, hk, Option.bind_some]
  unfold tableOf
  by_cases he : (takeNum l).2.2 = 0
  · have hk := takeNum_ok hl (v := (takeNum l).1) (n := (takeNum l).2.1) (e := (takeNum l).2.2) rfl he
    by_cases hm : (takeNum l).1 ≤ 32
    · rw [if_pos ⟨he, hm⟩]
      refine Ev.call0 ht (table_ref l hl hn (takeNum l).1.toNat (takeNum l).2.1 [] (by omega) (by omega) (by simp; omega)) (fun k hk2 => ?_)
      unfold dragnetref06_TakeTable.f dragnetref02_Reader_Count.f
      rw [if_pos ⟨by omega, by omega⟩, hcnt k hk2, if_pos he, if_neg (by omega), Option.bind_some, Option.bind_some, wrap_in (x := (takeNum l).1) (by omega) (by omega), if_pos ⟨by omega, by omega⟩, Int.zero_add, wrap_in (x := (takeNum l).2.1) (by omega) (by omega)]
      rfl
    · rw [if_neg (fun h => hm h.2)]
      refine Ev.call0 ht (Ev.now ([], 0, 2)) (fun k hk2 => ?_)
      unfold dragnetref06_TakeTable.f dragnetref02_Reader_Count.f
      rw [if_pos ⟨by omega, by omega⟩, hcnt k hk2, if_pos he, if_pos (by omega)]
      simp only [Option.bind_some]
      rw [wrap_in (x := 0) (by omega) (by omega), if_pos ⟨by omega, by omega⟩]
      rfl
  · rw [if_neg (fun h => he h.1)]
    refine Ev.call0 ht (Ev.now ([], 0, 2)) (fun k hk2 => ?_)
    unfold dragnetref06_TakeTable.f dragnetref02_Reader_Count.f
    rw [if_pos ⟨by omega, by omega⟩, hcnt k hk2, if_neg he]
    simp only [Option.bind_some]
    rw [wrap_in (x := 0) (by omega) (by omega), if_pos ⟨by omega, by omega⟩]
    rfl
theorem tableC_same (l : List Int) : ∀ n at_ t, t.length + n ≤ 1000 → (tableC l n at_ t).1.length ≤ 1000
  | 0, at_, t, h => by
    unfold tableC
    split
    · simpa using h
    · simp
  | n + 1, at_, t, h => by
    unfold tableC
    split
    · exact tableC_same l n _ _ (by simp; omega)
    · simp
theorem tableOf_len (l : List Int) (hl : okbs l) : (tableOf l).1.length ≤ 1000 := by
  unfold tableOf
  split
  · next h =>
    have hk := takeNum_ok hl (v := (takeNum l).1) (n := (takeNum l).2.1) (e := (takeNum l).2.2) rfl h.1
    exact tableC_same l _ _ _ (by simp; omega)
  · simp

/-! ### a table is laid -/
def rowB (s : ByteArray) : List Int := numBytes (s.size : Int) ++ bytesOf s
def tableB (t : List ByteArray) : List Int := numBytes (t.length : Int) ++ t.flatMap rowB
theorem bytesOf_len (s : ByteArray) : (bytesOf s).length = s.size := bytesOf_length s
theorem numBytes_len9 {v : Int} (h0 : 0 ≤ v) (h1 : v ≤ 18446744073709551615) : (numBytes v).length ≤ 9 := by
  have := lenOf_le8 h0 h1
  rw [numBytes_len]
  split <;> omega
theorem put_ok {l : List Int} {v : Int} (hl : l.length ≤ 100000000) (h0 : 0 ≤ v) (h1 : v ≤ 18446744073709551615) : num_Put.f l v = some (l ++ numBytes v) := by
  unfold num_Put.f
  rw [if_pos ⟨by omega, h0, h1⟩]
theorem putRow_ok {l r : List Int} (hl : l.length ≤ 100000000) (hr : r.length ≤ 100000000) : num_PutRow.f l r = some (l ++ numBytes (r.length : Int) ++ r) := by
  have := numBytes_len9 (v := (r.length : Int)) (by omega) (by omega)
  unfold num_PutRow.f
  rw [u64_in (by omega) (by omega), put_ok hl (by omega) (by omega), Option.bind_some, if_pos (by simp; omega)]
theorem putRows_ok : ∀ (t : List ByteArray) (out : List Int), (∀ s ∈ t, s.size ≤ 8) → out.length + 20 * t.length ≤ 100000000 → putRows t out = some (out ++ t.flatMap rowB)
  | [], out, _, _ => by simp [putRows]
  | s :: t, out, hs, hl => by
    have h8 := hs s (by simp)
    have hb := bytesOf_len s
    have := numBytes_len9 (v := (s.size : Int)) (by omega) (by omega)
    rw [List.length_cons] at hl
    rw [putRows, if_pos (by omega), putRow_ok (by omega) (by omega), Option.bind_some, putRows_ok t _ (fun s hm => hs s (by simp [hm])) (by simp [hb]; omega), hb]
    simp [rowB]
theorem bytes02_row (r : List Int) (hr : r.length ≤ 100000000) : Ev (fun k => dragnetref02_Row.f k r) (numBytes (r.length : Int) ++ r) := by
  have := numBytes_len9 (v := (r.length : Int)) (by omega) (by omega)
  refine Ev.call0 (bytes02 (v := (r.length : Int)) (by omega) (by omega)) (Ev.now (numBytes (r.length : Int) ++ r)) (fun k hk => ?_)
  unfold dragnetref02_Row.f
  rw [u64_in (by omega) (by omega), hk, Option.bind_some, if_pos (by omega)]
theorem tableRows_ok : ∀ (t : List ByteArray) (out : List Int), (∀ s ∈ t, s.size ≤ 8) → out.length + 20 * t.length ≤ 100000000 → Ev (fun k => tableRows k t out) (out ++ t.flatMap rowB)
  | [], out, _, _ => by
    simp only [List.flatMap_nil, List.append_nil]
    exact Ev.congr (f := fun _ => some out) (fun k => rfl) (Ev.now out)
  | s :: t, out, hs, hl => by
    have h8 := hs s (by simp)
    have hb := bytesOf_len s
    have := numBytes_len9 (v := (s.size : Int)) (by omega) (by omega)
    rw [List.length_cons] at hl
    have ih := tableRows_ok t (out ++ rowB s) (fun s hm => hs s (by simp [hm])) (by simp [rowB, hb]; omega)
    rw [List.append_assoc] at ih
    refine Ev.call0 (bytes02_row (bytesOf s) (by omega)) (by simpa using ih) (fun k hk => ?_)
    rw [tableRows, if_pos (by omega), hk, Option.bind_some, if_pos (by simp [hb]; omega), hb]
    rfl
theorem formed_sizes {t : List ByteArray} (h : formedB t = true) : ∀ s ∈ t, s.size ≤ 8 := fun s hs => by
  obtain ⟨i, hi, rfl⟩ := List.getElem_of_mem hs
  exact (formed_size h i hi).2
theorem tableB_okbs {t : List ByteArray} (h : formedB t = true) : okbs (tableB t) := by
  have := formed_len h
  refine okbs_append (numBytes_okbs (by omega) (by omega)) (fun x hx => ?_)
  obtain ⟨s, hs, hx⟩ := List.mem_flatMap.1 hx
  have := formed_sizes h s hs
  exact okbs_append (numBytes_okbs (by omega) (by omega)) (bytesOf_ok s) x hx
theorem table_sym_ok {t : List ByteArray} (h : formedB t = true) {l : List Int} (hl : l.length ≤ 50000000) : sym_PutTable.f l t = some (l ++ tableB t, 0) := by
  have hlen := formed_len h
  have := numBytes_len9 (v := (t.length : Int)) (by omega) (by omega)
  unfold sym_PutTable.f
  rw [if_pos h, put_ok (by omega) (by omega) (by omega), Option.bind_some, putRows_ok t _ (formed_sizes h) (by simp; omega)]
  simp [tableB]
theorem table_ref_ok {t : List ByteArray} (h : formedB t = true) : Ev (fun k => dragnetref06_Table.f k t) (tableB t) := by
  have hlen := formed_len h
  have := numBytes_len9 (v := (t.length : Int)) (by omega) (by omega)
  refine Ev.call0 (bytes02 (v := (t.length : Int)) (by omega) (by omega)) (tableRows_ok t (numBytes (t.length : Int)) (formed_sizes h) (by omega)) (fun k hk => ?_)
  unfold dragnetref06_Table.f
  rw [hk, Option.bind_some]
theorem rows_len : ∀ (t : List ByteArray), (∀ s ∈ t, s.size ≤ 8) → (t.flatMap rowB).length ≤ 17 * t.length
  | [], _ => by simp
  | s :: t, h => by
    have h8 := h s (by simp)
    have hb := bytesOf_len s
    have := numBytes_len9 (v := (s.size : Int)) (by omega) (by omega)
    have ih := rows_len t (fun s hm => h s (by simp [hm]))
    rw [List.flatMap_cons, List.length_append, rowB, List.length_append, List.length_cons]
    omega
theorem tableB_len {t : List ByteArray} (h : formedB t = true) : (tableB t).length ≤ 1000 := by
  have hlen := formed_len h
  have := numBytes_len9 (v := (t.length : Int)) (by omega) (by omega)
  have := rows_len t (formed_sizes h)
  rw [tableB, List.length_append]
  omega
end Go.Proofs.Ytnmidkjmflnolaa.Pure
