/- The reference's Reader: Number, Count, Row. Its struct lies in block g. -/
import Derived.Test.YtnmidkjmflnolaaP2
import Derived.Test.YtnmidkjmflnolaaWords
namespace Go.Proofs.Ytnmidkjmflnolaa.P
open Go.RowKit Go.Proofs.YtnmidkjmflnolaaW.PrintWords Go.Proofs.YtnmidkjmflnolaaW.PrintLast Go.Proofs.YtnmidkjmflnolaaW.PrintMore Go.Proofs.Ytnmidkjmflnolaa.Maps
attribute [local go_sem] max2_int min2_int max_two min_two max_three min_three max_four min_four
set_option linter.unusedVariables false
set_option linter.unusedSimpArgs false

/-- A reader in block g: of the row that came in as A, c; at, bad. -/
def IsReader (W : World) (g : Nat) (A : Option Addr) (c : Nat) (l : List Int) (at_ : Int) (bad : Bool) : Prop :=
  W.heap[g]? = some (.cells #[.slice A l.length c, .int .i64 at_, .bool bad] 69 (0, 0))
theorem IsReader.cells {W : World} {g : Nat} {A : Option Addr} {c : Nat} {l : List Int} {at_ : Int} {bad : Bool} (h : IsReader W g A c l at_ bad) :
    W.cell? ⟨g, 0, none⟩ = some (.slice A l.length c) ∧ W.cell? ⟨g, 1, none⟩ = some (.int .i64 at_) ∧ W.cell? ⟨g, 2, none⟩ = some (.bool bad) ∧ g < W.heap.size :=
  ⟨(blk_cell h 0).trans rfl, (blk_cell h 1).trans rfl, (blk_cell h 2).trans rfl, blk_lt h⟩
theorem IsReader.frozen {W : World} {g : Nat} {A : Option Addr} {c : Nat} {l : List Int} {at_ : Int} {bad : Bool} (h : IsReader W g A c l at_ bad) (i : Nat) : W.frozen? ⟨g, i, none⟩ = false := blk_frozen h i
theorem IsReader.grown {W W1 : World} {g : Nat} {A : Option Addr} {c : Nat} {l : List Int} {at_ : Int} {bad : Bool} {row : Option Nat} (h : IsReader W g A c l at_ bad) (hg : W.grownBy W1 row) (hne : some g ≠ row) : IsReader W1 g A c l at_ bad := blk_grown h hg hne
theorem IsReader.below {W W1 : World} {g : Nat} {A : Option Addr} {c : Nat} {l : List Int} {at_ : Int} {bad : Bool} (h : IsReader W g A c l at_ bad) (hb : Below W.heap.size W W1) : IsReader W1 g A c l at_ bad := h.grown (grown_of_below hb none) (by simp)
theorem IsReader.set1 {W : World} {g : Nat} {A : Option Addr} {c : Nat} {l : List Int} {at_ : Int} {bad : Bool} (h : IsReader W g A c l at_ bad) (x : Int) : IsReader (W.setCell ⟨g, 1, none⟩ (.int .i64 x)) g A c l x bad := by
  unfold IsReader at h ⊢
  simpa using blk_set h 1 (.int .i64 x)
theorem IsReader.set2 {W : World} {g : Nat} {A : Option Addr} {c : Nat} {l : List Int} {at_ : Int} {bad : Bool} (h : IsReader W g A c l at_ bad) (x : Bool) : IsReader (W.setCell ⟨g, 2, none⟩ (.bool x)) g A c l at_ x := by
  unfold IsReader at h ⊢
  simpa using blk_set h 2 (.bool x)
theorem grownBy_set {W W1 : World} {g : Nat} (h : W.grownBy W1 (some g)) (hlt : g < W.heap.size) (i : Nat) (u : Value) : W.grownBy (W1.setCell ⟨g, i, none⟩ u) (some g) := by
  obtain ⟨h1, h2, h3, h4, h5⟩ := h
  refine ⟨h1, h2, h3, by simpa [World.setCell] using h4, fun j hj hne => ?_⟩
  rw [Below.heap_setCell W1 ⟨g, i, none⟩ u j (by rintro rfl; exact hne rfl)]
  exact h5 j hj hne
theorem grownBy_below {W W1 : World} (g : Nat) (h : Below W.heap.size W W1) : W.grownBy W1 (some g) := grown_of_below h _

def dragnetref02_Reader_Number.f (k : Nat) (l : List Int) (at_ : Int) (bad : Bool) (most : Int) : Option (Int × Int × Bool) :=
  if bad = true then some (0, at_, true)
  else if 0 ≤ at_ ∧ at_ ≤ (l.length : Int) then (dragnetref02_Take.f k (l.drop at_.toNat)).bind fun t =>
    if t.2.2 = 0 then (if most < t.1 then some (0, wrap64 (at_ + t.2.1), true) else some (t.1, wrap64 (at_ + t.2.1), false)) else some (0, wrap64 (at_ + t.2.1), true)
  else none

set_option maxHeartbeats 1000000 in
set_option maxRecDepth 100000 in
theorem dragnetref02_Reader_Number.calls (k : Nat) (g : Nat) (A : Option Addr) (c : Nat) (l : List Int) (at_ : Int) (bad : Bool) (most : Int) (r1 r2 : Int) (r3 : Bool) (w : World) (hg : IsReader w g A c l at_ bad) (hr : Kd.C (Kd.int .u8) w A l.length l) (hc : l.length ≤ c) (h : dragnetref02_Reader_Number.f k l at_ bad most = some (r1, r2, r3)) :
    Calls Try.prog 69 #[.pointer (some ⟨g, 0, none⟩), .int .u64 most] w fun e w' => e = .returned (.int .u64 r1) ∧ IsReader w' g A c l r2 r3 ∧ w.grownBy w' (some g) := by
  obtain ⟨hx0, hx1, hx2, hgl⟩ := hg.cells
  have HG := Aside0.mk hg
  have HR := Aside0.mk hr
  have HC := Aside0.mk hc
  clear hg hr hc
  cases bad with
  | true =>
    obtain ⟨rfl, rfl, rfl⟩ : r1 = 0 ∧ r2 = at_ ∧ r3 = true := by unfold dragnetref02_Reader_Number.f at h; simpa [eq_comm] using h
    clear h
    go_enter Try.func69, Try.ntmps69
    go_wp2
    go_ret
    exact ⟨rfl, HG.out, ⟨rfl, rfl, rfl, Nat.le_refl _, fun _ _ _ => rfl⟩⟩
  | false =>
    unfold dragnetref02_Reader_Number.f at h
    rw [if_neg (by simp)] at h
    have hat : 0 ≤ at_ ∧ at_ ≤ (l.length : Int) := by split at h; assumption; cases h
    rw [if_pos hat] at h
    obtain ⟨⟨v, n, e⟩, ht, h⟩ := Option.bind_eq_some_iff.1 h
    simp only at h
    have HT := Aside0.mk ht
    have HH := Aside0.mk h
    clear h ht
    obtain ⟨m, rfl⟩ := Int.eq_ofNat_of_zero_le hat.1
    simp only [Int.toNat_natCast] at HT
    have hm0 : (0 : Int) ≤ (m : Int) := hat.1
    have hm1 : (m : Int) ≤ (l.length : Int) := hat.2
    obtain ⟨A', hcut, hA', hC'⟩ := cut_drop A c l m (by omega) HC.out
    have HR' := Aside0.mk (hA' _ HR.out)
    have HC' := Aside0.mk hC'
    clear hA' hC' hat
    go_enter Try.func69, Try.ntmps69
    go_wp2
    go_region_with (go_at_call 85; rw [show l.length - m = (l.drop m).length from List.length_drop.symm]; refine (dragnetref02_Take.calls k A' (c - m) (l.drop m) v n e _ (Kd.C_drewN HR'.out _) HC'.out HT.out).mono ?_; rintro e w1 ⟨rfl, hb⟩; have HB1 := Aside0.mk (below_step (pw_below_drewN (Below.refl w.heap.size w) _) hb); clear hb)
    all_goals
      have HG1 := Aside0.mk (HG.out.below HB1.out)
      have HW1 := Aside0.mk (grownBy_below g HB1.out)
      obtain ⟨hy0, hy1, hy2, hgl1⟩ := HG1.out.cells
      have hz2 := fun x => (HG1.out.set1 x).cells.2.2.1
      have hfr1 := HG1.out.frozen 1
      have hfr2 := fun x => (HG1.out.set1 x).frozen 2
      have hz2' := fun x y => ((HG1.out.set1 x).set2 y).cells.2.2.1
      by_cases he : e = 0
      · have f0 : (e != 0) = false := by simp [he]
        have H := HH.out
        rw [if_pos he] at H
        by_cases hv : most < v
        · rw [if_pos hv] at H
          obtain ⟨rfl, rfl, rfl⟩ : r1 = 0 ∧ r2 = wrap64 ((m : Int) + n) ∧ r3 = true := by simpa [eq_comm] using H
          have g0 : decide (most < v) = true := decide_eq_true hv
          go_wp2
          go_ret
          exact ⟨rfl, (HG1.out.set1 _).set2 _, grownBy_set (grownBy_set HW1.out hgl 1 _) hgl 2 _⟩
        · rw [if_neg hv] at H
          obtain ⟨rfl, rfl, rfl⟩ : r1 = v ∧ r2 = wrap64 ((m : Int) + n) ∧ r3 = false := by simpa [eq_comm] using H
          have g0 : decide (most < r1) = false := decide_eq_false hv
          go_wp2
          go_ret
          exact ⟨rfl, (HG1.out.set1 _).set2 _, grownBy_set (grownBy_set HW1.out hgl 1 _) hgl 2 _⟩
      · have f0 : (e != 0) = true := by simp [he]
        have H := HH.out
        rw [if_neg he] at H
        obtain ⟨rfl, rfl, rfl⟩ : r1 = 0 ∧ r2 = wrap64 ((m : Int) + n) ∧ r3 = true := by simpa [eq_comm] using H
        go_wp2
        go_ret
        exact ⟨rfl, (HG1.out.set1 _).set2 _, grownBy_set (grownBy_set HW1.out hgl 1 _) hgl 2 _⟩

theorem R_set {W : World} {e base g : Nat} {v : Value} {xs : List Int} (h : Kd.R (Kd.int .u8) e W base (fun _ => True) v xs) (hg : g < base) (i : Nat) (u : Value) : Kd.R (Kd.int .u8) e (W.setCell ⟨g, i, none⟩ u) base (fun _ => True) v xs := by
  have ho := Kd.own_of_R h
  refine Kd.R_of_own ⟨ho.1, ?_⟩ (fun _ _ => trivial)
  rcases ho.2 with hn | ⟨b, cap, cur, he, hb, hh, hr⟩
  · exact .inl hn
  · exact .inr ⟨b, cap, cur, he, hb, (Below.heap_setCell W ⟨g, i, none⟩ u b (by show b ≠ g; omega)).trans hh, hr⟩

def dragnetref02_Reader_Row.f (k : Nat) (l : List Int) (at_ : Int) (bad : Bool) (most : Int) : Option (List Int × Int × Bool) :=
  if bad = true then some ([], at_, true)
  else if 0 ≤ at_ ∧ at_ ≤ (l.length : Int) then (dragnetref02_TakeRow.f k (l.drop at_.toNat) most).bind fun t => some (t.1, wrap64 (at_ + t.2.1), t.2.2 != 0)
  else none

set_option maxHeartbeats 1000000 in
set_option maxRecDepth 100000 in
theorem dragnetref02_Reader_Row.calls (k : Nat) (g : Nat) (A : Option Addr) (c : Nat) (l : List Int) (at_ : Int) (bad : Bool) (most : Int) (r1 : List Int) (r2 : Int) (r3 : Bool) (w : World) (hg : IsReader w g A c l at_ bad) (hr : Kd.C (Kd.int .u8) w A l.length l) (hc : l.length ≤ c) (h : dragnetref02_Reader_Row.f k l at_ bad most = some (r1, r2, r3)) :
    Calls Try.prog 46 #[.pointer (some ⟨g, 0, none⟩), .int .i64 most] w fun e w' => ∃ v0_ : Value, e = .returned v0_ ∧ Kd.R (Kd.int .u8) 5 w' w.heap.size (fun _ => True) v0_ r1 ∧ IsReader w' g A c l r2 r3 ∧ w.grownBy w' (some g) := by
  obtain ⟨hx0, hx1, hx2, hgl⟩ := hg.cells
  have HG := Aside0.mk hg
  have HR := Aside0.mk hr
  have HC := Aside0.mk hc
  clear hg hr hc
  cases bad with
  | true =>
    obtain ⟨rfl, rfl, rfl⟩ : r1 = [] ∧ r2 = at_ ∧ r3 = true := by unfold dragnetref02_Reader_Row.f at h; simpa [eq_comm] using h
    clear h
    go_enter Try.func46, Try.ntmps46
    go_wp2
    go_ret
    exact ⟨_, rfl, Kd.R_nil _ _ _ _ _, HG.out, ⟨rfl, rfl, rfl, Nat.le_refl _, fun _ _ _ => rfl⟩⟩
  | false =>
    unfold dragnetref02_Reader_Row.f at h
    rw [if_neg (by simp)] at h
    have hat : 0 ≤ at_ ∧ at_ ≤ (l.length : Int) := by split at h; assumption; cases h
    rw [if_pos hat] at h
    obtain ⟨⟨v, n, e⟩, ht, h⟩ := Option.bind_eq_some_iff.1 h
    obtain ⟨rfl, rfl, rfl⟩ : r1 = v ∧ r2 = wrap64 (at_ + n) ∧ r3 = (e != 0) := by simpa [eq_comm] using h
    have HT := Aside0.mk ht
    clear h ht
    obtain ⟨m, rfl⟩ := Int.eq_ofNat_of_zero_le hat.1
    simp only [Int.toNat_natCast] at HT
    have hm0 : (0 : Int) ≤ (m : Int) := hat.1
    have hm1 : (m : Int) ≤ (l.length : Int) := hat.2
    obtain ⟨A', hcut, hA', hC'⟩ := cut_drop A c l m (by omega) HC.out
    have HR' := Aside0.mk (hA' _ HR.out)
    have HC' := Aside0.mk hC'
    clear hA' hC' hat
    go_enter Try.func46, Try.ntmps46
    go_wp2
    go_region_with (go_at_call 64; rw [show l.length - m = (l.drop m).length from List.length_drop.symm]; refine (dragnetref02_TakeRow.calls k A' (c - m) (l.drop m) most r1 n e _ (Kd.C_drewN HR'.out _) HC'.out HT.out).mono ?_; rintro e w1 ⟨v1, rfl, hr, hb⟩; have HO1 := Aside0.mk (show Kd.R (Kd.int .u8) 5 w1 w.heap.size (fun _ => True) v1 r1 from hr); have HB1 := Aside0.mk (below_step (pw_below_drewN (Below.refl w.heap.size w) _) hb); clear hb hr)
    all_goals
      have HG1 := Aside0.mk (HG.out.below HB1.out)
      have HW1 := Aside0.mk (grownBy_below g HB1.out)
      obtain ⟨hy0, hy1, hy2, hgl1⟩ := HG1.out.cells
      have hfr1 := HG1.out.frozen 1
      have hfr2 := fun x => (HG1.out.set1 x).frozen 2
      have hz2 := fun x => (HG1.out.set1 x).cells.2.2.1
      go_wp2
      go_ret
      exact ⟨_, rfl, R_set (R_set HO1.out hgl _ _) hgl _ _, (HG1.out.set1 _).set2 _, grownBy_set (grownBy_set HW1.out hgl 1 _) hgl 2 _⟩

def dragnetref02_Reader_Count.f (k : Nat) (l : List Int) (at_ : Int) (bad : Bool) (most : Int) : Option (Int × Int × Bool) :=
  if 0 ≤ most ∧ most ≤ 9223372036854775807 then (dragnetref02_Reader_Number.f k l at_ bad most).bind fun t => some (wrap64 t.1, t.2.1, t.2.2) else none
set_option maxHeartbeats 1000000 in
set_option maxRecDepth 100000 in
theorem dragnetref02_Reader_Count.calls (k : Nat) (g : Nat) (A : Option Addr) (c : Nat) (l : List Int) (at_ : Int) (bad : Bool) (most : Int) (r1 r2 : Int) (r3 : Bool) (w : World) (hg : IsReader w g A c l at_ bad) (hr : Kd.C (Kd.int .u8) w A l.length l) (hc : l.length ≤ c) (h : dragnetref02_Reader_Count.f k l at_ bad most = some (r1, r2, r3)) :
    Calls Try.prog 45 #[.pointer (some ⟨g, 0, none⟩), .int .i64 most] w fun e w' => e = .returned (.int .i64 r1) ∧ IsReader w' g A c l r2 r3 ∧ w.grownBy w' (some g) := by
  have HG := Aside0.mk hg
  have HR := Aside0.mk hr
  have HC := Aside0.mk hc
  clear hg hr hc
  unfold dragnetref02_Reader_Count.f at h
  have hm : 0 ≤ most ∧ most ≤ 9223372036854775807 := by split at h; assumption; cases h
  rw [if_pos hm] at h
  obtain ⟨⟨v, n, e⟩, ht, h⟩ := Option.bind_eq_some_iff.1 h
  obtain ⟨rfl, rfl, rfl⟩ : r1 = wrap64 v ∧ r2 = n ∧ r3 = e := by simpa [eq_comm] using h
  have HT := Aside0.mk ht
  have hm0 := hm.1
  have hm1 := hm.2
  clear h ht hm
  go_enter Try.func45, Try.ntmps45
  go_wp2_with (go_at_call 69; refine (dragnetref02_Reader_Number.calls k g A c l at_ bad most v r2 r3 w HG.out HR.out HC.out HT.out).mono ?_; rintro e w1 ⟨rfl, hg1, hw1⟩; have HG1 := Aside0.mk hg1; have HW1 := Aside0.mk hw1; clear hg1 hw1)
  go_ret
  exact ⟨rfl, HG1.out, HW1.out⟩
end Go.Proofs.Ytnmidkjmflnolaa.P
