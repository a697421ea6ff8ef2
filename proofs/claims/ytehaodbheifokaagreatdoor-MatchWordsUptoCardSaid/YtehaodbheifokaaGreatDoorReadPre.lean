/- field.Read's parts: is a key among the fields? One more field. -/
import Derived.Test.YtehaodbheifokaaGreatDoorWordsAll
import Derived.Test.YtehaodbheifokaaGreatDoorP15
import Derived.Maps.AppendAt
import Derived.Shelf.SlicesQ.IndexFunc
namespace Go.Proofs.YtehaodbheifokaaGreatDoor.P
open Go Go.RowKit Go.Shelf Go.Proofs.YtehaodbheifokaaGreatDoorW.PrintWords Go.Proofs.YtehaodbheifokaaGreatDoorW.PrintLast
set_option linter.unusedVariables false
set_option linter.unusedSimpArgs false

instance : Inhabited S110 := ⟨z110⟩
def cells110 (x : S110) : List Value := [.string x.f0, .int .i64 x.f1, .int .i64 x.f2, .string x.f3]
def flat (l : List S110) : List Value := l.flatMap cells110
theorem flat_len (l : List S110) : (flat l).length = l.length * 4 := by
  induction l with
  | nil => rfl
  | cons x t ih => simp only [flat, List.flatMap_cons, List.length_append] at *; rw [ih]; simp [cells110]; omega
theorem flat_snoc (l : List S110) (x : S110) : flat (l ++ [x]) = flat l ++ cells110 x := by simp [flat]
theorem flat_at : ∀ (l : List S110) (j : Nat), j < l.length → ((flat l).drop (j * 4)).take 4 = cells110 l[j]!
  | [], j, h => by simp at h
  | x :: t, 0, h => by simp [flat, cells110]
  | x :: t, j + 1, h => by
    have ih := flat_at t j (by simpa using h)
    have e : (flat (x :: t)).drop ((j + 1) * 4) = (flat t).drop (j * 4) := by
      show (cells110 x ++ flat t).drop _ = _
      rw [show (j + 1) * 4 = (cells110 x).length + j * 4 by simp [cells110]; omega, List.drop_append, List.drop_eq_nil_of_le (by omega), List.nil_append, Nat.add_sub_cancel_left]
    rw [e, ih]
    simp
theorem flat_get {l : List S110} {j i : Nat} {v : Value} (hj : j < l.length) (h : (cells110 l[j]!)[i]? = some v) : (flat l)[j * 4 + i]? = some v := by
  rw [← flat_at l j hj] at h
  have hi : i < 4 := by
    have := (List.getElem?_eq_some_iff.1 h).1
    rw [List.length_take] at this
    omega
  rw [List.getElem?_take_of_lt hi, List.getElem?_drop] at h
  exact h
theorem R_flat {w : World} {base : Nat} {v : Value} {l : List S110} (h : w.ownsRow base 110 4 v l.length (flat l)) : Kd.R k110 110 w base (fun _ => True) v l :=
  ⟨fun _ _ => trivial, flat l, h, by
    refine ⟨flat_len l, fun j p hj => ?_⟩
    obtain ⟨hl, hp⟩ := List.getElem?_eq_some_iff.1 hj
    have e : ((flat l).drop (j * 4)).take 4 = cells110 l[j]! := flat_at l j hl
    have e2 : l[j]! = p := by rw [getElem!_pos l j hl]; exact hp
    rw [e2] at e
    show k110.M _ _ _ p (((flat l).drop (j * 4)).take 4)
    rw [e]
    exact k110_mkM _ _ _ p⟩
set_option maxRecDepth 100000 in
set_option maxHeartbeats 2000000 in
theorem had_calls (G : Nat) (y x : S110) (W : World) (hG : W.heap[G]? = some (.cells (cells110 y).toArray 110 (0, 0))) :
    Calls Tryz.prog 116 #[.agg (cells110 x).toArray, .pointer (some ⟨G, 0, none⟩)] W fun e w' => e = .returned (.bool (decide (x.f0 = y.f0))) ∧ Below W.heap.size W w' := by
  have hc0 : W.cell? ⟨G, 0, none⟩ = some (.string y.f0) := (blk_cell hG 0).trans rfl
  have hlt : G < W.heap.size := (Array.getElem?_eq_some_iff.1 hG).1
  have hBA : Below W.heap.size W (W.alloc (.cells (cells110 x).toArray 110)) := (Below.refl _ _).alloc (Nat.le_refl _) _
  have hc0' : (W.alloc (.cells (cells110 x).toArray 110)).cell? ⟨G, 0, none⟩ = some (.string y.f0) := (hBA.cell (p := ⟨G, 0, none⟩) hlt).trans hc0
  have hb : (x.f0.toList == y.f0.toList) = decide (x.f0 = y.f0) := by
    by_cases e : x.f0 = y.f0
    · rw [e]; simp
    · rw [decide_eq_false e]
      exact beq_eq_false_iff_ne.2 (fun h => e (by
        rw [Lib.toList_data, Lib.toList_data] at h
        exact ByteArray.ext (Array.toList_inj.1 h)))
  unfold cells110 at *
  clear hG hc0
  go_enter Tryz.func116, Tryz.ntmps116
  go_wp2
  go_ret
  exact ⟨by rw [← hb]; rfl, hBA⟩
theorem had_below (G : Nat) (y : S110) (W : World) (hG : W.heap[G]? = some (.cells (cells110 y).toArray 110 (0, 0))) :
    PredBelow Tryz.prog 116 #[.pointer (some ⟨G, 0, none⟩)] (fun x : S110 => .agg (cells110 x).toArray) (fun x => decide (x.f0 = y.f0)) W := fun V x hb => by
  have h := had_calls G y x V ((hb.block G (Array.getElem?_eq_some_iff.1 hG).1).trans hG)
  refine h.mono ?_
  rintro e w' ⟨rfl, hb2⟩
  exact ⟨rfl, hb.trans (hb2.mono hb.size)⟩
set_option maxRecDepth 100000 in
set_option maxHeartbeats 2000000 in
theorem index_nil (f : Value) (W : World) : Calls Tryz.prog 140 #[.slice none 0 0, f] W fun e w' => e = .returned (.int .i64 (-1)) ∧ Below W.heap.size W w' := by
  go_enter Tryz.func140, Tryz.ntmps140
  go_wp2
  go_loopg [5, 8] 0 (fun gg _ s8 wr => s8 = .int .i64 0 ∧ wr = W)
  case atStart => exact ⟨rfl, rfl⟩
  case round =>
    obtain ⟨rfl, rfl⟩ := hrel
    go_wp2
    go_ret
    exact ⟨rfl, Below.refl _ _⟩
set_option maxRecDepth 100000 in
set_option maxHeartbeats 2000000 in
theorem contains_nil (f : Value) (W : World) : Calls Tryz.prog 115 #[.slice none 0 0, f] W fun e w' => e = .returned (.bool false) ∧ Below W.heap.size W w' := by
  go_enter Tryz.func115, Tryz.ntmps115
  go_wp2_with (go_at_call 140; refine (index_nil f _).mono ?_; rintro e w' ⟨rfl, hb⟩)
  go_ret
  exact ⟨rfl, hb⟩
/-- Is the key of field y (in block G) that of one of the fields? -/
theorem contains_calls (base : Nat) (v : Value) (l : List S110) (G : Nat) (y : S110) (W : World) (hl : l.length ≤ 16) (h : W.ownsRow base 110 4 v l.length (flat l)) (hG : W.heap[G]? = some (.cells (cells110 y).toArray 110 (0, 0))) :
    Calls Tryz.prog 115 #[v, .func (.func 116) #[] #[.pointer (some ⟨G, 0, none⟩)]] W fun e w' => e = .returned (.bool (l.any (fun x => decide (x.f0 = y.f0)))) ∧ Below W.heap.size W w' := by
  rcases h.2 with ⟨rfl, hn⟩ | ⟨g, cap, cur, rfl, _, hg, hnc, hcm, hcs, htake⟩
  · obtain rfl : l = [] := List.length_eq_zero_iff.1 hn
    exact contains_nil _ W
  · have hc := AnyQ.slices_ContainsFunc Tryz.laysH8 4 Tryz.isAgg110 Tryz.sizeOf110 cells110 (fun _ => rfl) (fun x => decide (x.f0 = y.f0)) 116 #[.pointer (some ⟨G, 0, none⟩)] (enters_of Tryz.func116 (by kernel_rfl) rfl) g 0 l.length cap l W
      (had_below G y W hG) (Nat.le_refl _) (by omega) (Array.getElem?_eq_some_iff.1 hg).1 (fun j hj i u hu => by
        have h1 := flat_get hj hu
        rw [← htake] at h1
        have h2 : cur.toList[j * 4 + i]? = some u := by
          have hlt := (List.getElem?_eq_some_iff.1 h1).1
          rw [List.length_take] at hlt
          rwa [List.getElem?_take_of_lt (by omega)] at h1
        rw [Nat.zero_add, blk_cell hg]
        simpa using h2)
    rw [List.take_of_length_le (Nat.le_refl _)] at hc
    exact hc
theorem own_below {w w1 : World} {base : Nat} {e : TypeId} {size n : Nat} {v : Value} {xs : List Value} (h : w.ownsRow base e size v n xs) (hb : Below w.heap.size w w1) : w1.ownsRow base e size v n xs := own_move h (fun k hk => hb.block k (own_lt h k hk))
theorem boxed_below {W W1 : World} {B : Nat} {t : TypeId} {v : Value} (h : Boxed W B t v) (hb : Below W.heap.size W W1) : Boxed W1 B t v := (hb.block B h.lt).trans h
/-- What is told of a word; a field more. -/
def oneT (x : ByteArray) : S110 × Bool :=
  match field_one.f (x.size + 8) x with
  | some (a, b, c, d, ok) => (⟨a, b, c, d⟩, ok)
  | none => (z110, false)
def rdStep (st : List S110) (x : ByteArray) : List S110 :=
  if st.length = 16 then st else if (oneT x).2 = false ∨ st.any (fun y => decide (y.f0 = (oneT x).1.f0)) = true then st else st ++ [(oneT x).1]
def rdSt (pre : List ByteArray) : List S110 := pre.foldl rdStep []
theorem rdSt_snoc (pre : List ByteArray) (x : ByteArray) : rdSt (pre ++ [x]) = rdStep (rdSt pre) x := by unfold rdSt; rw [List.foldl_append]; rfl
theorem rdFold_le (pre : List ByteArray) : ∀ st : List S110, st.length ≤ 16 → (pre.foldl rdStep st).length ≤ 16 := by
  induction pre with
  | nil => intro st h; exact h
  | cons x t ih =>
    intro st h
    refine ih _ ?_
    unfold rdStep
    split
    · exact h
    · split
      · exact h
      · simp only [List.length_append, List.length_singleton]; omega
theorem rdSt_le (pre : List ByteArray) : (rdSt pre).length ≤ 16 := rdFold_le pre [] (by simp)
theorem rdFold_full (pre : List ByteArray) : ∀ st : List S110, st.length = 16 → pre.foldl rdStep st = st := by
  induction pre with
  | nil => intro st h; rfl
  | cons x t ih =>
    intro st h
    rw [List.foldl_cons, show rdStep st x = st from if_pos h]
    exact ih st h
/-- Where sixteen have come, no more comes. -/
theorem rdSt_full {pre ws : List ByteArray} (h : pre <+: ws) (h16 : (rdSt pre).length = 16) : rdSt ws = rdSt pre := by
  obtain ⟨t, rfl⟩ := h
  unfold rdSt at *
  rw [List.foldl_append]
  exact rdFold_full t _ h16
end Go.Proofs.YtehaodbheifokaaGreatDoor.P
