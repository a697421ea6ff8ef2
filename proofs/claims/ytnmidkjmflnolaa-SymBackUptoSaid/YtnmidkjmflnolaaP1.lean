-- Written by a program of this session (wip/tools/tp.py: the kit's printer, turned to take functions that were proved by hand). Lean checks it.
import Derived.Test.YtnmidkjmflnolaaP0
namespace Go.Proofs.Ytnmidkjmflnolaa.P
open Go.RowKit Go.Proofs.YtnmidkjmflnolaaW.PrintWords Go.Proofs.YtnmidkjmflnolaaW.PrintLast Go.Proofs.YtnmidkjmflnolaaW.PrintMore
attribute [local go_sem] max2_int min2_int max_two min_two max_three min_three max_four min_four   -- for this text's walks alone
set_option linter.unusedVariables false
set_option linter.unusedSimpArgs false

-- LEVEL 0
/-! ### dragnetref01_Same: function 18 -/
def dragnetref01_Same.f (l0 : List Int) (l1 : List Int) : Option (Bool) := some ((strOfNums l0).toList == (strOfNums l1).toList)
set_option maxHeartbeats 8000000 in
set_option maxRecDepth 100000 in
theorem dragnetref01_Same.calls (A0 : Option Addr) (c0 : Nat) (l0 : List Int) (A1 : Option Addr) (c1 : Nat) (l1 : List Int) (r : Bool) (w : World) (hr0 : Kd.C (Kd.int .u8) w A0 l0.length l0) (hc0 : l0.length ≤ c0) (hr1 : Kd.C (Kd.int .u8) w A1 l1.length l1) (hc1 : l1.length ≤ c1) (h : dragnetref01_Same.f l0 l1 = some r) :
    Calls Try.prog 18 #[.slice A0 l0.length c0, .slice A1 l1.length c1] w fun e w' => e = .returned (.bool r) ∧ Drawn0 w w' := by
  have HR0 := Aside0.mk hr0
  have HC0 := Aside0.mk hc0
  clear hr0 hc0
  have HR1 := Aside0.mk hr1
  have HC1 := Aside0.mk hc1
  clear hr1 hc1
  have H : (some ((strOfNums l0).toList == (strOfNums l1).toList)) = some r := h
  clear h
  obtain rfl := Option.some.inj H
  have hcv3 := Kd.C_string (P := Try.prog) (A := A0) (c := c0) Try.underlying23 Try.underlying5 Try.underlying9 HR0.out
  have hcv4 := fun (i_ : Nat) => Kd.C_string (P := Try.prog) (A := A0) (c := c0) Try.underlying23 Try.underlying5 Try.underlying9 (Kd.C_drewN HR0.out i_)
  have hcv5 := fun (i_ j_ : Nat) => Kd.C_string (P := Try.prog) (A := A0) (c := c0) Try.underlying23 Try.underlying5 Try.underlying9 (Kd.C_drewN (Kd.C_drewN HR0.out i_) j_)
  have hcv6 := Kd.C_string (P := Try.prog) (A := A0) (c := c0) Try.underlying23 Try.underlying5 Try.underlying9 HR0.out
  (try simp only [List.length_take, List.length_drop, Int.toNat_natCast] at hcv6)
  have hcv7 := fun (i_ : Nat) => Kd.C_string (P := Try.prog) (A := A0) (c := c0) Try.underlying23 Try.underlying5 Try.underlying9 (Kd.C_drewN HR0.out i_)
  (try simp only [List.length_take, List.length_drop, Int.toNat_natCast] at hcv7)
  have hcv8 := fun (i_ j_ : Nat) => Kd.C_string (P := Try.prog) (A := A0) (c := c0) Try.underlying23 Try.underlying5 Try.underlying9 (Kd.C_drewN (Kd.C_drewN HR0.out i_) j_)
  (try simp only [List.length_take, List.length_drop, Int.toNat_natCast] at hcv8)
  have hcv9 := Kd.C_string (P := Try.prog) (A := A1) (c := c1) Try.underlying23 Try.underlying5 Try.underlying9 HR1.out
  have hcv10 := fun (i_ : Nat) => Kd.C_string (P := Try.prog) (A := A1) (c := c1) Try.underlying23 Try.underlying5 Try.underlying9 (Kd.C_drewN HR1.out i_)
  have hcv11 := fun (i_ j_ : Nat) => Kd.C_string (P := Try.prog) (A := A1) (c := c1) Try.underlying23 Try.underlying5 Try.underlying9 (Kd.C_drewN (Kd.C_drewN HR1.out i_) j_)
  have hcv12 := Kd.C_string (P := Try.prog) (A := A1) (c := c1) Try.underlying23 Try.underlying5 Try.underlying9 HR1.out
  (try simp only [List.length_take, List.length_drop, Int.toNat_natCast] at hcv12)
  have hcv13 := fun (i_ : Nat) => Kd.C_string (P := Try.prog) (A := A1) (c := c1) Try.underlying23 Try.underlying5 Try.underlying9 (Kd.C_drewN HR1.out i_)
  (try simp only [List.length_take, List.length_drop, Int.toNat_natCast] at hcv13)
  have hcv14 := fun (i_ j_ : Nat) => Kd.C_string (P := Try.prog) (A := A1) (c := c1) Try.underlying23 Try.underlying5 Try.underlying9 (Kd.C_drewN (Kd.C_drewN HR1.out i_) j_)
  (try simp only [List.length_take, List.length_drop, Int.toNat_natCast] at hcv14)
  go_enter Try.func18, Try.ntmps18
  go_wp2
  go_ret
  exact ⟨by first | rfl | (simp; done) | (simp [*]; done), by repeat (first | exact Drawn0.refl _ | apply Drawn0.step)⟩

-- LEVEL 0
/-! ### dragnetref06_Copy: function 14 -/
def dragnetref06_Copy.f (l0 : List ByteArray) : Option (List ByteArray) := (some (([] : List ByteArray) : List ByteArray)).bind fun y101 => (if y101.length + l0.length < 8796093022208 then (some (y101 ++ l0)) else (none))
set_option maxHeartbeats 8000000 in
set_option maxRecDepth 100000 in
theorem dragnetref06_Copy.calls (A0 : Option Addr) (c0 : Nat) (l0 : List ByteArray) (r : List ByteArray) (w : World) (hr0 : Kd.C Kd.string w A0 l0.length l0) (hc0 : l0.length ≤ c0) (h : dragnetref06_Copy.f l0 = some r) :
    Calls Try.prog 14 #[.slice A0 l0.length c0] w fun e w' => ∃ v0_ : Value, e = .returned (v0_) ∧ Kd.R Kd.string 9 w' w.heap.size (fun _ => True) v0_ r ∧ Below w.heap.size w w' := by
  have HR0 := Aside0.mk hr0
  have HC0 := Aside0.mk hc0
  clear hr0 hc0
  have HB := Aside0.mk (Below.refl w.heap.size w)
  have H : ((some (([] : List ByteArray) : List ByteArray)).bind fun y101 => (if y101.length + l0.length < 8796093022208 then (some (y101 ++ l0)) else (none))) = some r := h
  clear h
  obtain ⟨y101, hy101⟩ : ∃ y_ : List ByteArray, y_ = (([] : List ByteArray)) := ⟨_, rfl⟩
  replace H : (if y101.length + l0.length < 8796093022208 then (some (y101 ++ l0)) else (none)) = some r := by first | (rw [hy101]; with_reducible exact H) | (have H2_ := (Option.bind_some _ _).symm.trans H; rw [hy101]; with_reducible exact H2_) | (have H2_ := (Option.bind_some _ _).symm.trans H; with_reducible exact H2_) | with_reducible exact H | (rw [hy101]; exact H) | exact H
  have Ny101 := Aside0.mk hy101
  clear hy101
  by_cases c2 : y101.length + l0.length < 8796093022208
  · rw [if_pos c2] at H
    have LMc2 := Aside0.mk c2
    clear c2
    obtain ⟨y104, hy104⟩ : ∃ y_ : List ByteArray, y_ = (y101 ++ l0) := ⟨_, rfl⟩
    replace H : (some y104) = some r := by first | (rw [hy104]; with_reducible exact H) | (have H2_ := (Option.bind_some _ _).symm.trans H; rw [hy104]; with_reducible exact H2_) | (have H2_ := (Option.bind_some _ _).symm.trans H; with_reducible exact H2_) | with_reducible exact H | (rw [hy104]; exact H) | exact H
    have Ny104 := Aside0.mk hy104
    clear hy104
    obtain rfl := Option.some.inj H
    go_enter Try.func14, Try.ntmps14
    go_wp2_with (first | ((with_reducible refine gate_dst (N := 3) rfl ?_); refine Kd.R_lit Kd.string _ 9 ?hg (N := 3) ?hd (xs := ([] : List ByteArray)) (inner := []) (ok := fun _ => True) (okp := fun _ => True) ?hr ?hp (fun _ hk => hk) trivial (Below.refl _ _) (Nat.le_refl _) (by simp) ?_; (case hd => rfl); (case hg => rfl); (case hr => first | (go_simp; done) | (go_simp; rfl)); (case hp => exact (Reps.none _ _)); intro v102 w3 ho4 hb hg_ hnew_; clear hg_ hnew_; (first | rw [← Ny101.out] at ho4 | (simp only [Int.reduceToNat] at ho4; rw [← Ny101.out] at ho4)); have n0_ := Aside0.mk (Kd.R_lower ho4 (below_size (by repeat (first | (with_reducible first | exact HB.out | apply below_alloc | apply pw_below_drewN | apply below_drew1) | exact HB.out)))); have n1_ := Aside0.mk (below_step (by repeat (first | (with_reducible first | exact HB.out | apply below_alloc | apply pw_below_drewN | apply below_drew1) | exact HB.out)) hb); clear HB; have HO103 := n0_; have HB := n1_; clear n0_ n1_; clear hb ho4) | ((with_reducible refine gate_builtin (b := .append) (xs := #[.tmp 3, .tmp 4]) rfl ?_); at_builtin; refine Kd.R_append_rows Kd.string (w0 := w) w.heap.size rfl (.tmp 3) (.tmp 4) 22 9 (.string ⟨#[]⟩) 16 rfl Try.underlying22 info9 rfl (by decide) (by omega) v102 y101 l0 _ _ _ (fun _ => True) (fun _ => False) rfl rfl ?aO ?aR (fun _ _ h => h) (fun _ h => h.elim) ?aF ?aB ?aS ?aL ?_; (case aR => repeat (first | exact (Kd.C_below HR0.out HB.out) | (with_reducible refine Kd.C_alloc ?_ _) | (with_reducible refine Kd.C_drewN ?_ _) | (with_reducible refine Kd.C_drew ?_))); (case aB => exact (by repeat (first | (with_reducible first | exact HB.out | apply below_alloc | apply pw_below_drewN | apply below_drew1) | exact HB.out))); (case aF => exact (fun _ _ => trivial)); (case aO => exact (by (with_reducible repeat (first | apply Kd.R_alloc | apply Kd.R_drewN | apply Kd.R_drew)); exact HO103.out)); (case aS => exact (below_size (by repeat (first | (with_reducible first | exact HB.out | apply below_alloc | apply pw_below_drewN | apply below_drew1) | exact HB.out)))); (case aL => have := LMc2.out; omega); intro v105 w5 ho hb hg hat; rw [← Ny104.out] at ho; have n0_ := Aside0.mk (hb); have n1_ := Aside0.mk (ho); clear HB; clear HO103; have HB := n0_; have HO106 := n1_; clear n0_ n1_; clear ho hb hg hat))
    go_ret
    exact ⟨_, by first | rfl | (simp [errW_none, errW_some] <;> rfl) | (simp [*, errW_none, errW_some] <;> rfl), by (with_reducible repeat (first | apply Kd.R_alloc | apply Kd.R_drewN | apply Kd.R_drew)); exact HO106.out, by repeat (first | (with_reducible first | exact HB.out | apply below_alloc | apply pw_below_drewN | apply below_drew1) | exact HB.out)⟩
  · rw [if_neg c2] at H
    exact absurd H (by simp)

-- LEVEL 0
/-! ### dragnetref01_Copy: function 15 -/
def dragnetref01_Copy.f (l0 : List Int) : Option (List Int) := (some (([] : List Int) : List Int)).bind fun y107 => (if y107.length + l0.length < 140737488355328 then (some (y107 ++ l0)) else (none))
set_option maxHeartbeats 8000000 in
set_option maxRecDepth 100000 in
theorem dragnetref01_Copy.calls (A0 : Option Addr) (c0 : Nat) (l0 : List Int) (r : List Int) (w : World) (hr0 : Kd.C (Kd.int .u8) w A0 l0.length l0) (hc0 : l0.length ≤ c0) (h : dragnetref01_Copy.f l0 = some r) :
    Calls Try.prog 15 #[.slice A0 l0.length c0] w fun e w' => ∃ v0_ : Value, e = .returned (v0_) ∧ Kd.R (Kd.int .u8) 5 w' w.heap.size (fun _ => True) v0_ r ∧ Below w.heap.size w w' := by
  have HR0 := Aside0.mk hr0
  have HC0 := Aside0.mk hc0
  clear hr0 hc0
  have HB := Aside0.mk (Below.refl w.heap.size w)
  have H : ((some (([] : List Int) : List Int)).bind fun y107 => (if y107.length + l0.length < 140737488355328 then (some (y107 ++ l0)) else (none))) = some r := h
  clear h
  obtain ⟨y107, hy107⟩ : ∃ y_ : List Int, y_ = (([] : List Int)) := ⟨_, rfl⟩
  replace H : (if y107.length + l0.length < 140737488355328 then (some (y107 ++ l0)) else (none)) = some r := by first | (rw [hy107]; with_reducible exact H) | (have H2_ := (Option.bind_some _ _).symm.trans H; rw [hy107]; with_reducible exact H2_) | (have H2_ := (Option.bind_some _ _).symm.trans H; with_reducible exact H2_) | with_reducible exact H | (rw [hy107]; exact H) | exact H
  have Ny107 := Aside0.mk hy107
  clear hy107
  by_cases c2 : y107.length + l0.length < 140737488355328
  · rw [if_pos c2] at H
    have LMc2 := Aside0.mk c2
    clear c2
    obtain ⟨y110, hy110⟩ : ∃ y_ : List Int, y_ = (y107 ++ l0) := ⟨_, rfl⟩
    replace H : (some y110) = some r := by first | (rw [hy110]; with_reducible exact H) | (have H2_ := (Option.bind_some _ _).symm.trans H; rw [hy110]; with_reducible exact H2_) | (have H2_ := (Option.bind_some _ _).symm.trans H; with_reducible exact H2_) | with_reducible exact H | (rw [hy110]; exact H) | exact H
    have Ny110 := Aside0.mk hy110
    clear hy110
    obtain rfl := Option.some.inj H
    go_enter Try.func15, Try.ntmps15
    go_wp2_with (first | ((with_reducible refine gate_dst (N := 3) rfl ?_); refine Kd.R_lit (Kd.int .u8) _ 5 ?hg (N := 3) ?hd (xs := ([] : List Int)) (inner := []) (ok := fun _ => True) (okp := fun _ => True) ?hr ?hp (fun _ hk => hk) trivial (Below.refl _ _) (Nat.le_refl _) (by simp) ?_; (case hd => rfl); (case hg => rfl); (case hr => first | (go_simp; done) | (go_simp; rfl)); (case hp => exact (Reps.none _ _)); intro v108 w3 ho4 hb hg_ hnew_; clear hg_ hnew_; (first | rw [← Ny107.out] at ho4 | (simp only [Int.reduceToNat] at ho4; rw [← Ny107.out] at ho4)); have n0_ := Aside0.mk (Kd.R_lower ho4 (below_size (by repeat (first | (with_reducible first | exact HB.out | apply below_alloc | apply pw_below_drewN | apply below_drew1) | exact HB.out)))); have n1_ := Aside0.mk (below_step (by repeat (first | (with_reducible first | exact HB.out | apply below_alloc | apply pw_below_drewN | apply below_drew1) | exact HB.out)) hb); clear HB; have HO109 := n0_; have HB := n1_; clear n0_ n1_; clear hb ho4) | ((with_reducible refine gate_builtin (b := .append) (xs := #[.tmp 3, .tmp 4]) rfl ?_); at_builtin; refine Kd.R_append_rows (Kd.int .u8) (w0 := w) w.heap.size rfl (.tmp 3) (.tmp 4) 23 5 (.int .u8 0) 1 rfl Try.underlying23 info5 rfl (by decide) (by omega) v108 y107 l0 _ _ _ (fun _ => True) (fun _ => False) rfl rfl ?aO ?aR (fun _ _ h => h) (fun _ h => h.elim) ?aF ?aB ?aS ?aL ?_; (case aR => repeat (first | exact (Kd.C_below HR0.out HB.out) | (with_reducible refine Kd.C_alloc ?_ _) | (with_reducible refine Kd.C_drewN ?_ _) | (with_reducible refine Kd.C_drew ?_))); (case aB => exact (by repeat (first | (with_reducible first | exact HB.out | apply below_alloc | apply pw_below_drewN | apply below_drew1) | exact HB.out))); (case aF => exact (fun _ _ => trivial)); (case aO => exact (by (with_reducible repeat (first | apply Kd.R_alloc | apply Kd.R_drewN | apply Kd.R_drew)); exact HO109.out)); (case aS => exact (below_size (by repeat (first | (with_reducible first | exact HB.out | apply below_alloc | apply pw_below_drewN | apply below_drew1) | exact HB.out)))); (case aL => have := LMc2.out; omega); intro v111 w5 ho hb hg hat; rw [← Ny110.out] at ho; have n0_ := Aside0.mk (hb); have n1_ := Aside0.mk (ho); clear HB; clear HO109; have HB := n0_; have HO112 := n1_; clear n0_ n1_; clear ho hb hg hat))
    go_ret
    exact ⟨_, by first | rfl | (simp [errW_none, errW_some] <;> rfl) | (simp [*, errW_none, errW_some] <;> rfl), by (with_reducible repeat (first | apply Kd.R_alloc | apply Kd.R_drewN | apply Kd.R_drew)); exact HO112.out, by repeat (first | (with_reducible first | exact HB.out | apply below_alloc | apply pw_below_drewN | apply below_drew1) | exact HB.out)⟩
  · rw [if_neg c2] at H
    exact absurd H (by simp)

-- LEVEL 0
/-! ### dragnetref06_Formed: function 20 -/
mutual
def dragnetref06_Formed.l0 : Nat → List ByteArray → Int → Option (Bool)
  | 0, _, _ => none
  | k + 1, x0, x3 => if x3 < (x0.length : Int) then (if 0 ≤ x3 then (if ((rdOf ByteArray.empty x0 x3).size : Int) < 2 then (dragnetref06_Formed.j1 k x0 x3 true) else (dragnetref06_Formed.j1 k x0 x3 (decide (((rdOf ByteArray.empty x0 x3).size : Int) > 8)))) else (none)) else (some true)
def dragnetref06_Formed.j1 : Nat → List ByteArray → Int → Bool → Option (Bool)
  | 0, _, _, _ => none
  | k + 1, x0, x3, x27 => if x27 = true then (some false) else (dragnetref06_Formed.l1 k x0 x3 0)
def dragnetref06_Formed.l1 : Nat → List ByteArray → Int → Int → Option (Bool)
  | 0, _, _, _ => none
  | k + 1, x0, x3, x4 => if x4 < x3 then (if 0 ≤ x3 then (if x3 < (x0.length : Int) then (if 0 ≤ x4 then (if x4 < (x0.length : Int) then (if (rdOf ByteArray.empty x0 x3).toList = (rdOf ByteArray.empty x0 x4).toList then (some false) else (dragnetref06_Formed.l1 k x0 x3 (wrap64 (x4 + 1)))) else (none)) else (none)) else (none)) else (none)) else (dragnetref06_Formed.l0 k x0 (wrap64 (x3 + 1)))
end
def dragnetref06_Formed.f (k : Nat) (l0 : List ByteArray) : Option (Bool) := if (l0.length : Int) > 32 then (some false) else (dragnetref06_Formed.l0 k l0 0)
theorem dragnetref06_Formed.mono_l : ∀ k, (∀ y0 y1, LeO (dragnetref06_Formed.l0 k y0 y1) (dragnetref06_Formed.l0 (k + 1) y0 y1)) ∧ (∀ y0 y1 y2, LeO (dragnetref06_Formed.j1 k y0 y1 y2) (dragnetref06_Formed.j1 (k + 1) y0 y1 y2)) ∧ (∀ y0 y1 y2, LeO (dragnetref06_Formed.l1 k y0 y1 y2) (dragnetref06_Formed.l1 (k + 1) y0 y1 y2))
  | 0 => ⟨fun _ _ r h => by simp [dragnetref06_Formed.l0] at h, fun _ _ _ r h => by simp [dragnetref06_Formed.j1] at h, fun _ _ _ r h => by simp [dragnetref06_Formed.l1] at h⟩
  | k + 1 => by
    obtain ⟨ih0, ih1, ih2⟩ := dragnetref06_Formed.mono_l k
    refine ⟨?_, ?_, ?_⟩
    · intro y0 y1
      unfold dragnetref06_Formed.l0
      repeat' first
      | (with_reducible exact ih0 _ _)
      | (with_reducible exact ih1 _ _ _)
      | (with_reducible exact ih2 _ _ _)
      | (with_reducible exact LeO.refl _)
      | (with_reducible exact LeO.none _)
      | (with_reducible refine LeO.ite ?_ ?_)
      | (with_reducible refine LeO.bind ?_ (fun _ => ?_))
      | exact ih0 _ _
      | exact ih1 _ _ _
      | exact ih2 _ _ _
      | exact LeO.none _
      | refine LeO.ite ?_ ?_
      | refine LeO.bind ?_ (fun _ => ?_)
    · intro y0 y1 y2
      unfold dragnetref06_Formed.j1
      repeat' first
      | (with_reducible exact ih0 _ _)
      | (with_reducible exact ih1 _ _ _)
      | (with_reducible exact ih2 _ _ _)
      | (with_reducible exact LeO.refl _)
      | (with_reducible exact LeO.none _)
      | (with_reducible refine LeO.ite ?_ ?_)
      | (with_reducible refine LeO.bind ?_ (fun _ => ?_))
      | exact ih0 _ _
      | exact ih1 _ _ _
      | exact ih2 _ _ _
      | exact LeO.none _
      | refine LeO.ite ?_ ?_
      | refine LeO.bind ?_ (fun _ => ?_)
    · intro y0 y1 y2
      unfold dragnetref06_Formed.l1
      repeat' first
      | (with_reducible exact ih0 _ _)
      | (with_reducible exact ih1 _ _ _)
      | (with_reducible exact ih2 _ _ _)
      | (with_reducible exact LeO.refl _)
      | (with_reducible exact LeO.none _)
      | (with_reducible refine LeO.ite ?_ ?_)
      | (with_reducible refine LeO.bind ?_ (fun _ => ?_))
      | exact ih0 _ _
      | exact ih1 _ _ _
      | exact ih2 _ _ _
      | exact LeO.none _
      | refine LeO.ite ?_ ?_
      | refine LeO.bind ?_ (fun _ => ?_)
theorem dragnetref06_Formed.mono : ∀ a0 k, LeO (dragnetref06_Formed.f k a0) (dragnetref06_Formed.f (k + 1) a0) := by
  intro a0 k
  obtain ⟨ih0, ih1, ih2⟩ := dragnetref06_Formed.mono_l k
  unfold dragnetref06_Formed.f
  repeat' first
      | (with_reducible exact ih0 _ _)
      | (with_reducible exact ih1 _ _ _)
      | (with_reducible exact ih2 _ _ _)
      | (with_reducible exact LeO.refl _)
      | (with_reducible exact LeO.none _)
      | (with_reducible refine LeO.ite ?_ ?_)
      | (with_reducible refine LeO.bind ?_ (fun _ => ?_))
      | exact ih0 _ _
      | exact ih1 _ _ _
      | exact ih2 _ _ _
      | exact LeO.none _
      | refine LeO.ite ?_ ?_
      | refine LeO.bind ?_ (fun _ => ?_)
set_option maxHeartbeats 8000000 in
set_option maxRecDepth 100000 in
theorem dragnetref06_Formed.calls (k : Nat) (A0 : Option Addr) (c0 : Nat) (l0 : List ByteArray) (r : Bool) (w : World) (hr0 : Kd.C Kd.string w A0 l0.length l0) (hc0 : l0.length ≤ c0) (h : dragnetref06_Formed.f k l0 = some r) :
    Calls Try.prog 20 #[.slice A0 l0.length c0] w fun e w' => e = .returned (.bool r) ∧ Drawn0 w w' := by
  have HR0 := Aside0.mk hr0
  have HC0 := Aside0.mk hc0
  clear hr0 hc0
  have H : (if (l0.length : Int) > 32 then (some false) else (dragnetref06_Formed.l0 k l0 0)) = some r := h
  clear h
  by_cases c2 : (l0.length : Int) > 32
  · rw [if_pos c2] at H
    have c2b0 : decide (32 < (l0.length : Int)) = true := decide_eq_true c2
    have c2b1 : decide (32 < l0.length) = true := decide_eq_true (by omega)
    clear c2
    obtain rfl := Option.some.inj H
    go_enter Try.func20, Try.ntmps20
    go_wp2
    repeat (go_quiet (fail); try go_wp2)
    go_ret
    exact ⟨by first | rfl | (simp; done) | (simp [*]; done), by repeat (first | exact Drawn0.refl _ | apply Drawn0.step)⟩
  · rw [if_neg c2] at H
    have c2b0 : decide (32 < (l0.length : Int)) = false := decide_eq_false c2
    have c2b1 : decide (32 < l0.length) = false := decide_eq_false (by omega)
    clear c2
    have H' := Aside0.mk H
    clear H
    go_enter Try.func20, Try.ntmps20
    go_wp2
    repeat (go_quiet (fail); try go_wp2)
    go_loopg [3] k (fun kq v3 w' => ∃ (x3_1 : Int), v3 = .int .i64 x3_1 ∧ Aside0 (dragnetref06_Formed.l0 kq l0 x3_1 = some r) ∧ Aside0 (kq ≤ k) ∧ Drawn0 w w')
    case atStart => exact ⟨(0), (by first | rfl | (simp; done) | (simp [*]; done)), H', ⟨Nat.le_refl _⟩, by repeat (first | exact Drawn0.refl _ | apply Drawn0.step)⟩
    case round =>
      clear H'
      try clear c2
      try clear c2b0
      try clear c2b1
      try clear p2
      obtain ⟨x3_1, rfl, HA, HK1, ⟨m1, rfl⟩⟩ := hrel
      cases gk with
      | zero => exact absurd HA.out (by simp [dragnetref06_Formed.l0])
      | succ k1 =>
        have H := HA.out
        clear HA
        simp only [dragnetref06_Formed.l0] at H
        by_cases c3 : x3_1 < (l0.length : Int)
        · rw [if_pos c3] at H
          have c3b0 : decide (x3_1 < (l0.length : Int)) = true := decide_eq_true c3
          clear c3
          have HC4 := Aside0.mk H
          clear H
          go_upto_region 6 with (fail)
          repeat (go_quiet (fail); go_upto_region 6 with (fail))
          go_cut [27] (fun v27 wc => ∃ (kq : Nat) (x27_3 : Bool), v27 = .bool x27_3 ∧ Aside0 (dragnetref06_Formed.j1 kq l0 x3_1 x27_3 = some r) ∧ Aside0 (kq ≤ k1) ∧ Drawn0 w wc)
          case first =>
            have H := HC4.out
            clear HC4
            by_cases c5 : 0 ≤ x3_1
            · rw [if_pos c5] at H
              have c5b0 : decide (0 ≤ x3_1) = true := decide_eq_true c5
              clear c5
              (first | rw [c5b0] | (simp only [i64_w, i32_w]; rw [c5b0]) | skip)
              by_cases c6 : ((rdOf ByteArray.empty l0 x3_1).size : Int) < 2
              · rw [if_pos c6] at H
                have c6b0 : decide (((rdOf ByteArray.empty l0 x3_1).size : Int) < 2) = true := decide_eq_true c6
                have c6b1 : decide ((rdOf ByteArray.empty l0 x3_1).size < 2) = true := decide_eq_true (by omega)
                clear c6
                have H' := Aside0.mk H
                clear H
                have p113 : 0 ≤ (x3_1 : Int) := of_decide_eq_true (by first | (with_reducible assumption) | assumption)
                have q113 : x3_1 < (l0.length : Int) := of_decide_eq_true (by first | (with_reducible assumption) | assumption)
                obtain ⟨ad113, e113, hx113_0⟩ := Kd.at_string HR0.out x3_1 p113 q113
                cases e113
                replace p113 := eq_true p113
                replace q113 := eq_true q113
                go_wp2
                repeat (go_quiet (fail); try go_wp2)
                go_meet
                case rel => exact ⟨_, (true), (by first | rfl | (simp; done) | (simp [*]; done)), H', ⟨by have := HK1.out; first | omega | exact Nat.le_refl _⟩, by repeat (first | exact Drawn0.refl _ | apply Drawn0.step)⟩
              · rw [if_neg c6] at H
                have c6b0 : decide (((rdOf ByteArray.empty l0 x3_1).size : Int) < 2) = false := decide_eq_false c6
                have c6b1 : decide ((rdOf ByteArray.empty l0 x3_1).size < 2) = false := decide_eq_false (by omega)
                clear c6
                have H' := Aside0.mk H
                clear H
                have p113 : 0 ≤ (x3_1 : Int) := of_decide_eq_true (by first | (with_reducible assumption) | assumption)
                have q113 : x3_1 < (l0.length : Int) := of_decide_eq_true (by first | (with_reducible assumption) | assumption)
                obtain ⟨ad113, e113, hx113_0⟩ := Kd.at_string HR0.out x3_1 p113 q113
                cases e113
                replace p113 := eq_true p113
                replace q113 := eq_true q113
                have p114 : 0 ≤ (x3_1 : Int) := of_decide_eq_true (by first | (with_reducible assumption) | assumption)
                have q114 : x3_1 < (l0.length : Int) := of_decide_eq_true (by first | (with_reducible assumption) | assumption)
                obtain ⟨ad114, e114, hx114_0⟩ := Kd.at_string HR0.out x3_1 p114 q114
                obtain rfl : ad113 = ad114 := (by injection e114)
                replace p114 := eq_true p114
                replace q114 := eq_true q114
                go_wp2
                repeat (go_quiet (fail); try go_wp2)
                go_meet
                case rel => exact ⟨_, (decide (((rdOf ByteArray.empty l0 x3_1).size : Int) > 8)), (by first | rfl | (simp; done) | (simp [*]; done)), H', ⟨by have := HK1.out; first | omega | exact Nat.le_refl _⟩, by repeat (first | exact Drawn0.refl _ | apply Drawn0.step)⟩
            · rw [if_neg c5] at H
              exact absurd H (by simp)
          case rest =>
            clear HC4
            try clear p1
            try clear q1
            try clear hx1
            try clear c2
            try clear c2b0
            try clear c2b1
            try clear p2
            try clear c3
            try clear c3b0
            try clear c5
            try clear c5b0
            try clear c6
            try clear c6b0
            try clear c6b1
            try clear hx113_0
            try clear hx114_0
            try clear p113
            try clear p114
            try clear p2
            try clear q113
            try clear q114
            obtain ⟨kq, x27_3, rfl, HA, HJ3, ⟨mc3, rfl⟩⟩ := hcut
            cases kq with
            | zero => exact absurd HA.out (by simp [dragnetref06_Formed.j1])
            | succ kj3 =>
              have H := HA.out
              clear HA
              simp only [dragnetref06_Formed.j1] at H
              by_cases c7 : x27_3 = true
              · subst c7
                have H1 : (some false) = some r := by rw [if_pos rfl] at H; exact H
                clear H
                have H := H1
                clear H1
                obtain rfl := Option.some.inj H
                go_wp2
                repeat (go_quiet (fail); try go_wp2)
                go_ret
                exact ⟨by first | rfl | (simp; done) | (simp [*]; done), by repeat (first | exact Drawn0.refl _ | apply Drawn0.step)⟩
              · replace c7 := Bool.eq_false_iff.mpr c7
                subst c7
                have H1 : (dragnetref06_Formed.l1 kj3 l0 x3_1 0) = some r := by rw [if_neg (show ¬ (false = true) by decide)] at H; exact H
                clear H
                have H := H1
                clear H1
                have H' := Aside0.mk H
                clear H
                go_wp2
                repeat (go_quiet (fail); try go_wp2)
                go_loopg [4] kj3 (fun kq v4 w' => ∃ (x4_3 : Int), v4 = .int .i64 x4_3 ∧ Aside0 (dragnetref06_Formed.l1 kq l0 x3_1 x4_3 = some r) ∧ Aside0 (kq ≤ kj3) ∧ Drawn0 w w')
                case atStart => exact ⟨(0), (by first | rfl | (simp; done) | (simp [*]; done)), H', ⟨Nat.le_refl _⟩, by repeat (first | exact Drawn0.refl _ | apply Drawn0.step)⟩
                case round =>
                  clear H'
                  try clear p1
                  try clear q1
                  try clear hx1
                  try clear c2
                  try clear c2b0
                  try clear c2b1
                  try clear p2
                  try clear c3
                  try clear c3b0
                  try clear c5
                  try clear c5b0
                  try clear c6
                  try clear c6b0
                  try clear c6b1
                  try clear c7
                  try clear hx113_0
                  try clear hx114_0
                  try clear p1
                  try clear p113
                  try clear p114
                  try clear p2
                  try clear q1
                  try clear q113
                  try clear q114
                  obtain ⟨x4_3, rfl, HA, HK3, ⟨m3, rfl⟩⟩ := hrel
                  cases gk with
                  | zero => exact absurd HA.out (by simp [dragnetref06_Formed.l1])
                  | succ k3 =>
                    have H := HA.out
                    clear HA
                    simp only [dragnetref06_Formed.l1] at H
                    by_cases c8 : x4_3 < x3_1
                    · rw [if_pos c8] at H
                      have c8b0 : decide (x4_3 < x3_1) = true := decide_eq_true c8
                      clear c8
                      by_cases c9 : 0 ≤ x3_1
                      · rw [if_pos c9] at H
                        have c9b0 : decide (0 ≤ x3_1) = true := decide_eq_true c9
                        clear c9
                        by_cases c10 : x3_1 < (l0.length : Int)
                        · rw [if_pos c10] at H
                          have c10b0 : decide (x3_1 < (l0.length : Int)) = true := decide_eq_true c10
                          clear c10
                          by_cases c11 : 0 ≤ x4_3
                          · rw [if_pos c11] at H
                            have c11b0 : decide (0 ≤ x4_3) = true := decide_eq_true c11
                            clear c11
                            by_cases c12 : x4_3 < (l0.length : Int)
                            · rw [if_pos c12] at H
                              have c12b0 : decide (x4_3 < (l0.length : Int)) = true := decide_eq_true c12
                              clear c12
                              by_cases c13 : (rdOf ByteArray.empty l0 x3_1).toList = (rdOf ByteArray.empty l0 x4_3).toList
                              · rw [if_pos c13] at H
                                have c13b0 : ((rdOf ByteArray.empty l0 x3_1).toList == (rdOf ByteArray.empty l0 x4_3).toList) = true := beq_iff_eq.mpr c13
                                have c13b1 : ((rdOf ByteArray.empty l0 x3_1).toList != (rdOf ByteArray.empty l0 x4_3).toList) = false := bne_eq_false_iff_eq.mpr c13
                                clear c13
                                obtain rfl := Option.some.inj H
                                have p115 : 0 ≤ (x3_1 : Int) := of_decide_eq_true (by first | (with_reducible assumption) | assumption)
                                have q115 : x3_1 < (l0.length : Int) := of_decide_eq_true (by first | (with_reducible assumption) | assumption)
                                obtain ⟨ad115, e115, hx115_0⟩ := Kd.at_string HR0.out x3_1 p115 q115
                                cases e115
                                replace p115 := eq_true p115
                                replace q115 := eq_true q115
                                have p116 : 0 ≤ (x4_3 : Int) := of_decide_eq_true (by first | (with_reducible assumption) | assumption)
                                have q116 : x4_3 < (l0.length : Int) := of_decide_eq_true (by first | (with_reducible assumption) | assumption)
                                obtain ⟨ad116, e116, hx116_0⟩ := Kd.at_string HR0.out x4_3 p116 q116
                                obtain rfl : ad115 = ad116 := (by injection e116)
                                replace p116 := eq_true p116
                                replace q116 := eq_true q116
                                go_wp2
                                repeat (go_quiet (fail); try go_wp2)
                                go_ret
                                exact ⟨by first | rfl | (simp; done) | (simp [*]; done), by repeat (first | exact Drawn0.refl _ | apply Drawn0.step)⟩
                              · rw [if_neg c13] at H
                                have c13b0 : ((rdOf ByteArray.empty l0 x3_1).toList == (rdOf ByteArray.empty l0 x4_3).toList) = false := beq_eq_false_iff_ne.mpr c13
                                have c13b1 : ((rdOf ByteArray.empty l0 x3_1).toList != (rdOf ByteArray.empty l0 x4_3).toList) = true := bne_iff_ne.mpr c13
                                have H' := Aside0.mk H
                                clear H
                                have p115 : 0 ≤ (x3_1 : Int) := of_decide_eq_true (by first | (with_reducible assumption) | assumption)
                                have q115 : x3_1 < (l0.length : Int) := of_decide_eq_true (by first | (with_reducible assumption) | assumption)
                                obtain ⟨ad115, e115, hx115_0⟩ := Kd.at_string HR0.out x3_1 p115 q115
                                cases e115
                                replace p115 := eq_true p115
                                replace q115 := eq_true q115
                                have p116 : 0 ≤ (x4_3 : Int) := of_decide_eq_true (by first | (with_reducible assumption) | assumption)
                                have q116 : x4_3 < (l0.length : Int) := of_decide_eq_true (by first | (with_reducible assumption) | assumption)
                                obtain ⟨ad116, e116, hx116_0⟩ := Kd.at_string HR0.out x4_3 p116 q116
                                obtain rfl : ad115 = ad116 := (by injection e116)
                                replace p116 := eq_true p116
                                replace q116 := eq_true q116
                                go_wp2
                                repeat (go_quiet (fail); try go_wp2)
                                go_roundg k3
                                case measure => have := HK1.out; have := HJ3.out; have := HK3.out; omega
                                case rel => exact ⟨(wrap64 (x4_3 + 1)), (by first | rfl | (simp; done) | (simp [*]; done)), H', ⟨by have := HK1.out; have := HJ3.out; have := HK3.out; omega⟩, by repeat (first | exact Drawn0.refl _ | apply Drawn0.step)⟩
                            · rw [if_neg c12] at H
                              exact absurd H (by simp)
                          · rw [if_neg c11] at H
                            exact absurd H (by simp)
                        · rw [if_neg c10] at H
                          exact absurd H (by simp)
                      · rw [if_neg c9] at H
                        exact absurd H (by simp)
                    · rw [if_neg c8] at H
                      have c8b0 : decide (x4_3 < x3_1) = false := decide_eq_false c8
                      clear c8
                      have H' := Aside0.mk H
                      clear H
                      go_wp2
                      repeat (go_quiet (fail); try go_wp2)
                      go_roundg k3
                      case measure => have := HK1.out; have := HJ3.out; have := HK3.out; omega
                      case rel => exact ⟨(wrap64 (x3_1 + 1)), (by first | rfl | (simp; done) | (simp [*]; done)), H', ⟨by have := HK1.out; have := HJ3.out; have := HK3.out; omega⟩, by repeat (first | exact Drawn0.refl _ | apply Drawn0.step)⟩
        · rw [if_neg c3] at H
          have c3b0 : decide (x3_1 < (l0.length : Int)) = false := decide_eq_false c3
          clear c3
          obtain rfl := Option.some.inj H
          go_wp2
          repeat (go_quiet (fail); try go_wp2)
          go_ret
          exact ⟨by first | rfl | (simp; done) | (simp [*]; done), by repeat (first | exact Drawn0.refl _ | apply Drawn0.step)⟩

-- LEVEL 0
/-! ### dragnetref06_longest: function 38 -/
def dragnetref06_longest.l0 : Nat → List ByteArray → List Int → Int → Int → Option (Int)
  | 0, _, _, _, _ => none
  | k + 1, x0, x1, x5, x6 => if x6 < (x0.length : Int) then (if 0 ≤ x6 then (if ((rdOf ByteArray.empty x0 x6).size : Int) ≤ (x1.length : Int) then (if 0 ≤ ((rdOf ByteArray.empty x0 x6).size : Int) then (if (strOfNums (x1.take (((rdOf ByteArray.empty x0 x6).size : Int) : Int).toNat)).toList = (rdOf ByteArray.empty x0 x6).toList then (if x5 < 0 then (dragnetref06_longest.l0 k x0 x1 x6 (wrap64 (x6 + 1))) else (if 0 ≤ x5 then (if x5 < (x0.length : Int) then (if ((rdOf ByteArray.empty x0 x6).size : Int) > ((rdOf ByteArray.empty x0 x5).size : Int) then (dragnetref06_longest.l0 k x0 x1 x6 (wrap64 (x6 + 1))) else (dragnetref06_longest.l0 k x0 x1 x5 (wrap64 (x6 + 1)))) else (none)) else (none))) else (dragnetref06_longest.l0 k x0 x1 x5 (wrap64 (x6 + 1)))) else (none)) else (dragnetref06_longest.l0 k x0 x1 x5 (wrap64 (x6 + 1)))) else (none)) else (some x5)
def dragnetref06_longest.f (k : Nat) (l0 : List ByteArray) (l1 : List Int) : Option (Int) := dragnetref06_longest.l0 k l0 l1 (-1) 0
theorem dragnetref06_longest.mono_l : ∀ k, (∀ y0 y1 y2 y3, LeO (dragnetref06_longest.l0 k y0 y1 y2 y3) (dragnetref06_longest.l0 (k + 1) y0 y1 y2 y3))
  | 0 => fun _ _ _ _ r h => by simp [dragnetref06_longest.l0] at h
  | k + 1 => by
    have ih0 := dragnetref06_longest.mono_l k
    · intro y0 y1 y2 y3
      unfold dragnetref06_longest.l0
      repeat' first
      | (with_reducible exact ih0 _ _ _ _)
      | (with_reducible exact LeO.refl _)
      | (with_reducible exact LeO.none _)
      | (with_reducible refine LeO.ite ?_ ?_)
      | (with_reducible refine LeO.bind ?_ (fun _ => ?_))
      | exact ih0 _ _ _ _
      | exact LeO.none _
      | refine LeO.ite ?_ ?_
      | refine LeO.bind ?_ (fun _ => ?_)
theorem dragnetref06_longest.mono : ∀ a0 a1 k, LeO (dragnetref06_longest.f k a0 a1) (dragnetref06_longest.f (k + 1) a0 a1) := by
  intro a0 a1 k
  have ih0 := dragnetref06_longest.mono_l k
  unfold dragnetref06_longest.f
  repeat' first
      | (with_reducible exact ih0 _ _ _ _)
      | (with_reducible exact LeO.refl _)
      | (with_reducible exact LeO.none _)
      | (with_reducible refine LeO.ite ?_ ?_)
      | (with_reducible refine LeO.bind ?_ (fun _ => ?_))
      | exact ih0 _ _ _ _
      | exact LeO.none _
      | refine LeO.ite ?_ ?_
      | refine LeO.bind ?_ (fun _ => ?_)
set_option maxHeartbeats 8000000 in
set_option maxRecDepth 100000 in
theorem dragnetref06_longest.calls (k : Nat) (A0 : Option Addr) (c0 : Nat) (l0 : List ByteArray) (A1 : Option Addr) (c1 : Nat) (l1 : List Int) (r : Int) (w : World) (hr0 : Kd.C Kd.string w A0 l0.length l0) (hc0 : l0.length ≤ c0) (hr1 : Kd.C (Kd.int .u8) w A1 l1.length l1) (hc1 : l1.length ≤ c1) (h : dragnetref06_longest.f k l0 l1 = some r) :
    Calls Try.prog 38 #[.slice A0 l0.length c0, .slice A1 l1.length c1] w fun e w' => e = .returned (.int .i64 r) ∧ Drawn0 w w' := by
  have HR0 := Aside0.mk hr0
  have HC0 := Aside0.mk hc0
  clear hr0 hc0
  have HR1 := Aside0.mk hr1
  have HC1 := Aside0.mk hc1
  clear hr1 hc1
  have H : (dragnetref06_longest.l0 k l0 l1 (-1) 0) = some r := h
  clear h
  have H' := Aside0.mk H
  clear H
  go_enter Try.func38, Try.ntmps38
  go_wp2
  repeat (go_quiet (fail); try go_wp2)
  go_loopg [5, 6] k (fun kq v5 v6 w' => ∃ (x5_1 : Int) (x6_1 : Int), v5 = .int .i64 x5_1 ∧ v6 = .int .i64 x6_1 ∧ Aside0 (dragnetref06_longest.l0 kq l0 l1 x5_1 x6_1 = some r) ∧ Aside0 (kq ≤ k) ∧ Drawn0 w w')
  case atStart => exact ⟨((-1)), (0), (by first | rfl | (simp; done) | (simp [*]; done)), (by first | rfl | (simp; done) | (simp [*]; done)), H', ⟨Nat.le_refl _⟩, by repeat (first | exact Drawn0.refl _ | apply Drawn0.step)⟩
  case round =>
    clear H'
    try clear c1
    try clear p2
    obtain ⟨x5_1, x6_1, rfl, rfl, HA, HK1, ⟨m1, rfl⟩⟩ := hrel
    cases gk with
    | zero => exact absurd HA.out (by simp [dragnetref06_longest.l0])
    | succ k1 =>
      have H := HA.out
      clear HA
      simp only [dragnetref06_longest.l0] at H
      by_cases c3 : x6_1 < (l0.length : Int)
      · rw [if_pos c3] at H
        have c3b0 : decide (x6_1 < (l0.length : Int)) = true := decide_eq_true c3
        clear c3
        by_cases c4 : 0 ≤ x6_1
        · rw [if_pos c4] at H
          have c4b0 : decide (0 ≤ x6_1) = true := decide_eq_true c4
          clear c4
          by_cases c5 : ((rdOf ByteArray.empty l0 x6_1).size : Int) ≤ (l1.length : Int)
          · rw [if_pos c5] at H
            have c5b0 : decide (((rdOf ByteArray.empty l0 x6_1).size : Int) ≤ (l1.length : Int)) = true := decide_eq_true c5
            have c5b1 : decide ((rdOf ByteArray.empty l0 x6_1).size ≤ l1.length) = true := decide_eq_true (Int.ofNat_le.mp c5)
            clear c5
            by_cases c6 : 0 ≤ ((rdOf ByteArray.empty l0 x6_1).size : Int)
            · rw [if_pos c6] at H
              have c6b0 := eq_true c6
              have c6b1 : decide (0 ≤ ((rdOf ByteArray.empty l0 x6_1).size : Int)) = true := decide_eq_true c6
              clear c6
              have c7b0 := eq_true (of_decide_eq_true (by first | (with_reducible assumption) | assumption) : ((rdOf ByteArray.empty l0 x6_1).size : Int) ≤ (l1.length : Int))
              by_cases c8 : (strOfNums (l1.take (((rdOf ByteArray.empty l0 x6_1).size : Int) : Int).toNat)).toList = (rdOf ByteArray.empty l0 x6_1).toList
              · rw [if_pos c8] at H
                have c8b0 : ((strOfNums (l1.take (((rdOf ByteArray.empty l0 x6_1).size : Int) : Int).toNat)).toList == (rdOf ByteArray.empty l0 x6_1).toList) = true := beq_iff_eq.mpr c8
                (try simp only [Int.toNat_natCast] at c8b0)
                have c8b1 : ((strOfNums (l1.take (((rdOf ByteArray.empty l0 x6_1).size : Int) : Int).toNat)).toList != (rdOf ByteArray.empty l0 x6_1).toList) = false := bne_eq_false_iff_eq.mpr c8
                (try simp only [Int.toNat_natCast] at c8b1)
                clear c8
                by_cases c9 : x5_1 < 0
                · rw [if_pos c9] at H
                  have c9b0 : decide (x5_1 < 0) = true := decide_eq_true c9
                  clear c9
                  have H' := Aside0.mk H
                  clear H
                  have p117 : 0 ≤ (x6_1 : Int) := of_decide_eq_true (by first | (with_reducible assumption) | assumption)
                  have q117 : x6_1 < (l0.length : Int) := of_decide_eq_true (by first | (with_reducible assumption) | assumption)
                  obtain ⟨ad117, e117, hx117_0⟩ := Kd.at_string HR0.out x6_1 p117 q117
                  cases e117
                  replace p117 := eq_true p117
                  replace q117 := eq_true q117
                  have p118 : 0 ≤ (x6_1 : Int) := of_decide_eq_true (by first | (with_reducible assumption) | assumption)
                  have q118 : x6_1 < (l0.length : Int) := of_decide_eq_true (by first | (with_reducible assumption) | assumption)
                  obtain ⟨ad118, e118, hx118_0⟩ := Kd.at_string HR0.out x6_1 p118 q118
                  obtain rfl : ad117 = ad118 := (by injection e118)
                  replace p118 := eq_true p118
                  replace q118 := eq_true q118
                  obtain ⟨i010, hi010, _, hsz10, _⟩ := info_parts info5
                  obtain ⟨hcut10, hA10, hC10⟩ := print_take_of (P := Try.prog) (Value.int .u8) 0 23 5 .i64 Try.underlying23 hi010 hsz10 A1 c1 l1 ((rdOf ByteArray.empty l0 x6_1).size : Int) (of_decide_eq_true (by first | (with_reducible assumption) | assumption)) (of_decide_eq_true (by first | (with_reducible assumption) | assumption)) HC1.out
                  have HR119 := Aside0.mk (Kd.C_of_reads (h1 := fun _ => rfl) (hA10 _ (Kd.reads_of_C HR1.out)))
                  have HC119 := Aside0.mk hC10
                  clear hA10 hC10 hi010 hsz10
                  have hcv11 := Kd.C_string (P := Try.prog) (A := A1) (c := c1) Try.underlying23 Try.underlying5 Try.underlying9 HR119.out
                  have hcv12 := fun (i_ : Nat) => Kd.C_string (P := Try.prog) (A := A1) (c := c1) Try.underlying23 Try.underlying5 Try.underlying9 (Kd.C_drewN HR119.out i_)
                  have hcv13 := fun (i_ j_ : Nat) => Kd.C_string (P := Try.prog) (A := A1) (c := c1) Try.underlying23 Try.underlying5 Try.underlying9 (Kd.C_drewN (Kd.C_drewN HR119.out i_) j_)
                  have hcv14 := Kd.C_string (P := Try.prog) (A := A1) (c := c1) Try.underlying23 Try.underlying5 Try.underlying9 HR119.out
                  (try simp only [List.length_take, List.length_drop, Int.toNat_natCast] at hcv14)
                  have hcv15 := fun (i_ : Nat) => Kd.C_string (P := Try.prog) (A := A1) (c := c1) Try.underlying23 Try.underlying5 Try.underlying9 (Kd.C_drewN HR119.out i_)
                  (try simp only [List.length_take, List.length_drop, Int.toNat_natCast] at hcv15)
                  have hcv16 := fun (i_ j_ : Nat) => Kd.C_string (P := Try.prog) (A := A1) (c := c1) Try.underlying23 Try.underlying5 Try.underlying9 (Kd.C_drewN (Kd.C_drewN HR119.out i_) j_)
                  (try simp only [List.length_take, List.length_drop, Int.toNat_natCast] at hcv16)
                  have p120 : 0 ≤ (x6_1 : Int) := of_decide_eq_true (by first | (with_reducible assumption) | assumption)
                  have q120 : x6_1 < (l0.length : Int) := of_decide_eq_true (by first | (with_reducible assumption) | assumption)
                  obtain ⟨ad120, e120, hx120_0⟩ := Kd.at_string HR0.out x6_1 p120 q120
                  obtain rfl : ad117 = ad120 := (by injection e120)
                  replace p120 := eq_true p120
                  replace q120 := eq_true q120
                  go_wp2
                  repeat (go_quiet (fail); try go_wp2)
                  go_roundg k1
                  case measure => have := HK1.out; omega
                  case rel => exact ⟨(x6_1), (wrap64 (x6_1 + 1)), (by first | rfl | (simp; done) | (simp [*]; done)), (by first | rfl | (simp; done) | (simp [*]; done)), H', ⟨by have := HK1.out; omega⟩, by repeat (first | exact Drawn0.refl _ | apply Drawn0.step)⟩
                · rw [if_neg c9] at H
                  have c9b0 : decide (x5_1 < 0) = false := decide_eq_false c9
                  clear c9
                  by_cases c17 : 0 ≤ x5_1
                  · rw [if_pos c17] at H
                    have c17b0 : decide (0 ≤ x5_1) = true := decide_eq_true c17
                    clear c17
                    by_cases c18 : x5_1 < (l0.length : Int)
                    · rw [if_pos c18] at H
                      have c18b0 : decide (x5_1 < (l0.length : Int)) = true := decide_eq_true c18
                      clear c18
                      by_cases c19 : ((rdOf ByteArray.empty l0 x6_1).size : Int) > ((rdOf ByteArray.empty l0 x5_1).size : Int)
                      · rw [if_pos c19] at H
                        have c19b0 : decide (((rdOf ByteArray.empty l0 x5_1).size : Int) < ((rdOf ByteArray.empty l0 x6_1).size : Int)) = true := decide_eq_true c19
                        have c19b1 : decide ((rdOf ByteArray.empty l0 x5_1).size < (rdOf ByteArray.empty l0 x6_1).size) = true := decide_eq_true (Int.ofNat_lt.mp c19)
                        clear c19
                        have H' := Aside0.mk H
                        clear H
                        have p117 : 0 ≤ (x6_1 : Int) := of_decide_eq_true (by first | (with_reducible assumption) | assumption)
                        have q117 : x6_1 < (l0.length : Int) := of_decide_eq_true (by first | (with_reducible assumption) | assumption)
                        obtain ⟨ad117, e117, hx117_0⟩ := Kd.at_string HR0.out x6_1 p117 q117
                        cases e117
                        replace p117 := eq_true p117
                        replace q117 := eq_true q117
                        have p118 : 0 ≤ (x6_1 : Int) := of_decide_eq_true (by first | (with_reducible assumption) | assumption)
                        have q118 : x6_1 < (l0.length : Int) := of_decide_eq_true (by first | (with_reducible assumption) | assumption)
                        obtain ⟨ad118, e118, hx118_0⟩ := Kd.at_string HR0.out x6_1 p118 q118
                        obtain rfl : ad117 = ad118 := (by injection e118)
                        replace p118 := eq_true p118
                        replace q118 := eq_true q118
                        obtain ⟨i020, hi020, _, hsz20, _⟩ := info_parts info5
                        obtain ⟨hcut20, hA20, hC20⟩ := print_take_of (P := Try.prog) (Value.int .u8) 0 23 5 .i64 Try.underlying23 hi020 hsz20 A1 c1 l1 ((rdOf ByteArray.empty l0 x6_1).size : Int) (of_decide_eq_true (by first | (with_reducible assumption) | assumption)) (of_decide_eq_true (by first | (with_reducible assumption) | assumption)) HC1.out
                        have HR119 := Aside0.mk (Kd.C_of_reads (h1 := fun _ => rfl) (hA20 _ (Kd.reads_of_C HR1.out)))
                        have HC119 := Aside0.mk hC20
                        clear hA20 hC20 hi020 hsz20
                        have hcv21 := Kd.C_string (P := Try.prog) (A := A1) (c := c1) Try.underlying23 Try.underlying5 Try.underlying9 HR119.out
                        have hcv22 := fun (i_ : Nat) => Kd.C_string (P := Try.prog) (A := A1) (c := c1) Try.underlying23 Try.underlying5 Try.underlying9 (Kd.C_drewN HR119.out i_)
                        have hcv23 := fun (i_ j_ : Nat) => Kd.C_string (P := Try.prog) (A := A1) (c := c1) Try.underlying23 Try.underlying5 Try.underlying9 (Kd.C_drewN (Kd.C_drewN HR119.out i_) j_)
                        have hcv24 := Kd.C_string (P := Try.prog) (A := A1) (c := c1) Try.underlying23 Try.underlying5 Try.underlying9 HR119.out
                        (try simp only [List.length_take, List.length_drop, Int.toNat_natCast] at hcv24)
                        have hcv25 := fun (i_ : Nat) => Kd.C_string (P := Try.prog) (A := A1) (c := c1) Try.underlying23 Try.underlying5 Try.underlying9 (Kd.C_drewN HR119.out i_)
                        (try simp only [List.length_take, List.length_drop, Int.toNat_natCast] at hcv25)
                        have hcv26 := fun (i_ j_ : Nat) => Kd.C_string (P := Try.prog) (A := A1) (c := c1) Try.underlying23 Try.underlying5 Try.underlying9 (Kd.C_drewN (Kd.C_drewN HR119.out i_) j_)
                        (try simp only [List.length_take, List.length_drop, Int.toNat_natCast] at hcv26)
                        have p120 : 0 ≤ (x6_1 : Int) := of_decide_eq_true (by first | (with_reducible assumption) | assumption)
                        have q120 : x6_1 < (l0.length : Int) := of_decide_eq_true (by first | (with_reducible assumption) | assumption)
                        obtain ⟨ad120, e120, hx120_0⟩ := Kd.at_string HR0.out x6_1 p120 q120
                        obtain rfl : ad117 = ad120 := (by injection e120)
                        replace p120 := eq_true p120
                        replace q120 := eq_true q120
                        have p121 : 0 ≤ (x6_1 : Int) := of_decide_eq_true (by first | (with_reducible assumption) | assumption)
                        have q121 : x6_1 < (l0.length : Int) := of_decide_eq_true (by first | (with_reducible assumption) | assumption)
                        obtain ⟨ad121, e121, hx121_0⟩ := Kd.at_string HR0.out x6_1 p121 q121
                        obtain rfl : ad117 = ad121 := (by injection e121)
                        replace p121 := eq_true p121
                        replace q121 := eq_true q121
                        have p122 : 0 ≤ (x5_1 : Int) := of_decide_eq_true (by first | (with_reducible assumption) | assumption)
                        have q122 : x5_1 < (l0.length : Int) := of_decide_eq_true (by first | (with_reducible assumption) | assumption)
                        obtain ⟨ad122, e122, hx122_0⟩ := Kd.at_string HR0.out x5_1 p122 q122
                        obtain rfl : ad117 = ad122 := (by injection e122)
                        replace p122 := eq_true p122
                        replace q122 := eq_true q122
                        go_wp2
                        repeat (go_quiet (fail); try go_wp2)
                        go_roundg k1
                        case measure => have := HK1.out; omega
                        case rel => exact ⟨(x6_1), (wrap64 (x6_1 + 1)), (by first | rfl | (simp; done) | (simp [*]; done)), (by first | rfl | (simp; done) | (simp [*]; done)), H', ⟨by have := HK1.out; omega⟩, by repeat (first | exact Drawn0.refl _ | apply Drawn0.step)⟩
                      · rw [if_neg c19] at H
                        have c19b0 : decide (((rdOf ByteArray.empty l0 x5_1).size : Int) < ((rdOf ByteArray.empty l0 x6_1).size : Int)) = false := decide_eq_false c19
                        have c19b1 : decide ((rdOf ByteArray.empty l0 x5_1).size < (rdOf ByteArray.empty l0 x6_1).size) = false := decide_eq_false (fun h => c19 (Int.ofNat_lt.mpr h))
                        clear c19
                        have H' := Aside0.mk H
                        clear H
                        have p117 : 0 ≤ (x6_1 : Int) := of_decide_eq_true (by first | (with_reducible assumption) | assumption)
                        have q117 : x6_1 < (l0.length : Int) := of_decide_eq_true (by first | (with_reducible assumption) | assumption)
                        obtain ⟨ad117, e117, hx117_0⟩ := Kd.at_string HR0.out x6_1 p117 q117
                        cases e117
                        replace p117 := eq_true p117
                        replace q117 := eq_true q117
                        have p118 : 0 ≤ (x6_1 : Int) := of_decide_eq_true (by first | (with_reducible assumption) | assumption)
                        have q118 : x6_1 < (l0.length : Int) := of_decide_eq_true (by first | (with_reducible assumption) | assumption)
                        obtain ⟨ad118, e118, hx118_0⟩ := Kd.at_string HR0.out x6_1 p118 q118
                        obtain rfl : ad117 = ad118 := (by injection e118)
                        replace p118 := eq_true p118
                        replace q118 := eq_true q118
                        obtain ⟨i027, hi027, _, hsz27, _⟩ := info_parts info5
                        obtain ⟨hcut27, hA27, hC27⟩ := print_take_of (P := Try.prog) (Value.int .u8) 0 23 5 .i64 Try.underlying23 hi027 hsz27 A1 c1 l1 ((rdOf ByteArray.empty l0 x6_1).size : Int) (of_decide_eq_true (by first | (with_reducible assumption) | assumption)) (of_decide_eq_true (by first | (with_reducible assumption) | assumption)) HC1.out
                        have HR119 := Aside0.mk (Kd.C_of_reads (h1 := fun _ => rfl) (hA27 _ (Kd.reads_of_C HR1.out)))
                        have HC119 := Aside0.mk hC27
                        clear hA27 hC27 hi027 hsz27
                        have hcv28 := Kd.C_string (P := Try.prog) (A := A1) (c := c1) Try.underlying23 Try.underlying5 Try.underlying9 HR119.out
                        have hcv29 := fun (i_ : Nat) => Kd.C_string (P := Try.prog) (A := A1) (c := c1) Try.underlying23 Try.underlying5 Try.underlying9 (Kd.C_drewN HR119.out i_)
                        have hcv30 := fun (i_ j_ : Nat) => Kd.C_string (P := Try.prog) (A := A1) (c := c1) Try.underlying23 Try.underlying5 Try.underlying9 (Kd.C_drewN (Kd.C_drewN HR119.out i_) j_)
                        have hcv31 := Kd.C_string (P := Try.prog) (A := A1) (c := c1) Try.underlying23 Try.underlying5 Try.underlying9 HR119.out
                        (try simp only [List.length_take, List.length_drop, Int.toNat_natCast] at hcv31)
                        have hcv32 := fun (i_ : Nat) => Kd.C_string (P := Try.prog) (A := A1) (c := c1) Try.underlying23 Try.underlying5 Try.underlying9 (Kd.C_drewN HR119.out i_)
                        (try simp only [List.length_take, List.length_drop, Int.toNat_natCast] at hcv32)
                        have hcv33 := fun (i_ j_ : Nat) => Kd.C_string (P := Try.prog) (A := A1) (c := c1) Try.underlying23 Try.underlying5 Try.underlying9 (Kd.C_drewN (Kd.C_drewN HR119.out i_) j_)
                        (try simp only [List.length_take, List.length_drop, Int.toNat_natCast] at hcv33)
                        have p120 : 0 ≤ (x6_1 : Int) := of_decide_eq_true (by first | (with_reducible assumption) | assumption)
                        have q120 : x6_1 < (l0.length : Int) := of_decide_eq_true (by first | (with_reducible assumption) | assumption)
                        obtain ⟨ad120, e120, hx120_0⟩ := Kd.at_string HR0.out x6_1 p120 q120
                        obtain rfl : ad117 = ad120 := (by injection e120)
                        replace p120 := eq_true p120
                        replace q120 := eq_true q120
                        have p121 : 0 ≤ (x6_1 : Int) := of_decide_eq_true (by first | (with_reducible assumption) | assumption)
                        have q121 : x6_1 < (l0.length : Int) := of_decide_eq_true (by first | (with_reducible assumption) | assumption)
                        obtain ⟨ad121, e121, hx121_0⟩ := Kd.at_string HR0.out x6_1 p121 q121
                        obtain rfl : ad117 = ad121 := (by injection e121)
                        replace p121 := eq_true p121
                        replace q121 := eq_true q121
                        have p122 : 0 ≤ (x5_1 : Int) := of_decide_eq_true (by first | (with_reducible assumption) | assumption)
                        have q122 : x5_1 < (l0.length : Int) := of_decide_eq_true (by first | (with_reducible assumption) | assumption)
                        obtain ⟨ad122, e122, hx122_0⟩ := Kd.at_string HR0.out x5_1 p122 q122
                        obtain rfl : ad117 = ad122 := (by injection e122)
                        replace p122 := eq_true p122
                        replace q122 := eq_true q122
                        go_wp2
                        repeat (go_quiet (fail); try go_wp2)
                        go_roundg k1
                        case measure => have := HK1.out; omega
                        case rel => exact ⟨(x5_1), (wrap64 (x6_1 + 1)), (by first | rfl | (simp; done) | (simp [*]; done)), (by first | rfl | (simp; done) | (simp [*]; done)), H', ⟨by have := HK1.out; omega⟩, by repeat (first | exact Drawn0.refl _ | apply Drawn0.step)⟩
                    · rw [if_neg c18] at H
                      exact absurd H (by simp)
                  · rw [if_neg c17] at H
                    exact absurd H (by simp)
              · rw [if_neg c8] at H
                have c8b0 : ((strOfNums (l1.take (((rdOf ByteArray.empty l0 x6_1).size : Int) : Int).toNat)).toList == (rdOf ByteArray.empty l0 x6_1).toList) = false := beq_eq_false_iff_ne.mpr c8
                (try simp only [Int.toNat_natCast] at c8b0)
                have c8b1 : ((strOfNums (l1.take (((rdOf ByteArray.empty l0 x6_1).size : Int) : Int).toNat)).toList != (rdOf ByteArray.empty l0 x6_1).toList) = true := bne_iff_ne.mpr c8
                (try simp only [Int.toNat_natCast] at c8b1)
                have H' := Aside0.mk H
                clear H
                have p117 : 0 ≤ (x6_1 : Int) := of_decide_eq_true (by first | (with_reducible assumption) | assumption)
                have q117 : x6_1 < (l0.length : Int) := of_decide_eq_true (by first | (with_reducible assumption) | assumption)
                obtain ⟨ad117, e117, hx117_0⟩ := Kd.at_string HR0.out x6_1 p117 q117
                cases e117
                replace p117 := eq_true p117
                replace q117 := eq_true q117
                have p118 : 0 ≤ (x6_1 : Int) := of_decide_eq_true (by first | (with_reducible assumption) | assumption)
                have q118 : x6_1 < (l0.length : Int) := of_decide_eq_true (by first | (with_reducible assumption) | assumption)
                obtain ⟨ad118, e118, hx118_0⟩ := Kd.at_string HR0.out x6_1 p118 q118
                obtain rfl : ad117 = ad118 := (by injection e118)
                replace p118 := eq_true p118
                replace q118 := eq_true q118
                obtain ⟨i034, hi034, _, hsz34, _⟩ := info_parts info5
                obtain ⟨hcut34, hA34, hC34⟩ := print_take_of (P := Try.prog) (Value.int .u8) 0 23 5 .i64 Try.underlying23 hi034 hsz34 A1 c1 l1 ((rdOf ByteArray.empty l0 x6_1).size : Int) (of_decide_eq_true (by first | (with_reducible assumption) | assumption)) (of_decide_eq_true (by first | (with_reducible assumption) | assumption)) HC1.out
                have HR119 := Aside0.mk (Kd.C_of_reads (h1 := fun _ => rfl) (hA34 _ (Kd.reads_of_C HR1.out)))
                have HC119 := Aside0.mk hC34
                clear hA34 hC34 hi034 hsz34
                have hcv35 := Kd.C_string (P := Try.prog) (A := A1) (c := c1) Try.underlying23 Try.underlying5 Try.underlying9 HR119.out
                have hcv36 := fun (i_ : Nat) => Kd.C_string (P := Try.prog) (A := A1) (c := c1) Try.underlying23 Try.underlying5 Try.underlying9 (Kd.C_drewN HR119.out i_)
                have hcv37 := fun (i_ j_ : Nat) => Kd.C_string (P := Try.prog) (A := A1) (c := c1) Try.underlying23 Try.underlying5 Try.underlying9 (Kd.C_drewN (Kd.C_drewN HR119.out i_) j_)
                have hcv38 := Kd.C_string (P := Try.prog) (A := A1) (c := c1) Try.underlying23 Try.underlying5 Try.underlying9 HR119.out
                (try simp only [List.length_take, List.length_drop, Int.toNat_natCast] at hcv38)
                have hcv39 := fun (i_ : Nat) => Kd.C_string (P := Try.prog) (A := A1) (c := c1) Try.underlying23 Try.underlying5 Try.underlying9 (Kd.C_drewN HR119.out i_)
                (try simp only [List.length_take, List.length_drop, Int.toNat_natCast] at hcv39)
                have hcv40 := fun (i_ j_ : Nat) => Kd.C_string (P := Try.prog) (A := A1) (c := c1) Try.underlying23 Try.underlying5 Try.underlying9 (Kd.C_drewN (Kd.C_drewN HR119.out i_) j_)
                (try simp only [List.length_take, List.length_drop, Int.toNat_natCast] at hcv40)
                have p120 : 0 ≤ (x6_1 : Int) := of_decide_eq_true (by first | (with_reducible assumption) | assumption)
                have q120 : x6_1 < (l0.length : Int) := of_decide_eq_true (by first | (with_reducible assumption) | assumption)
                obtain ⟨ad120, e120, hx120_0⟩ := Kd.at_string HR0.out x6_1 p120 q120
                obtain rfl : ad117 = ad120 := (by injection e120)
                replace p120 := eq_true p120
                replace q120 := eq_true q120
                go_wp2
                repeat (go_quiet (fail); try go_wp2)
                go_roundg k1
                case measure => have := HK1.out; omega
                case rel => exact ⟨(x5_1), (wrap64 (x6_1 + 1)), (by first | rfl | (simp; done) | (simp [*]; done)), (by first | rfl | (simp; done) | (simp [*]; done)), H', ⟨by have := HK1.out; omega⟩, by repeat (first | exact Drawn0.refl _ | apply Drawn0.step)⟩
            · rw [if_neg c6] at H
              exact absurd H (by simp)
          · rw [if_neg c5] at H
            have c5b0 : decide (((rdOf ByteArray.empty l0 x6_1).size : Int) ≤ (l1.length : Int)) = false := decide_eq_false c5
            have c5b1 : decide ((rdOf ByteArray.empty l0 x6_1).size ≤ l1.length) = false := decide_eq_false (fun h => c5 (Int.ofNat_le.mpr h))
            clear c5
            have H' := Aside0.mk H
            clear H
            have p117 : 0 ≤ (x6_1 : Int) := of_decide_eq_true (by first | (with_reducible assumption) | assumption)
            have q117 : x6_1 < (l0.length : Int) := of_decide_eq_true (by first | (with_reducible assumption) | assumption)
            obtain ⟨ad117, e117, hx117_0⟩ := Kd.at_string HR0.out x6_1 p117 q117
            cases e117
            replace p117 := eq_true p117
            replace q117 := eq_true q117
            go_wp2
            repeat (go_quiet (fail); try go_wp2)
            go_roundg k1
            case measure => have := HK1.out; omega
            case rel => exact ⟨(x5_1), (wrap64 (x6_1 + 1)), (by first | rfl | (simp; done) | (simp [*]; done)), (by first | rfl | (simp; done) | (simp [*]; done)), H', ⟨by have := HK1.out; omega⟩, by repeat (first | exact Drawn0.refl _ | apply Drawn0.step)⟩
        · rw [if_neg c4] at H
          exact absurd H (by simp)
      · rw [if_neg c3] at H
        have c3b0 : decide (x6_1 < (l0.length : Int)) = false := decide_eq_false c3
        clear c3
        obtain rfl := Option.some.inj H
        go_wp2
        repeat (go_quiet (fail); try go_wp2)
        go_ret
        exact ⟨by first | rfl | (simp; done) | (simp [*]; done), by repeat (first | exact Drawn0.refl _ | apply Drawn0.step)⟩

-- LEVEL 0
/-! ### dragnetref06_Encode: function 17 -/
def dragnetref06_Encode.l0 : Nat → List ByteArray → List Int → List Int → Int → Option (List Int × Int)
  | 0, _, _, _, _ => none
  | k + 1, x0, x1, x6, x7 => if x7 < (x1.length : Int) then (if 0 ≤ x7 then (if x7 ≤ (x1.length : Int) then ((dragnetref06_longest.f k x0 (x1.drop (x7 : Int).toNat)).bind fun t125 => (if t125 < 0 then ((some (([255, rd x1 x7] : List Int) : List Int)).bind fun y127 => (if x6.length + y127.length < 140737488355328 then (dragnetref06_Encode.l0 k x0 x1 (x6 ++ y127) (wrap64 (x7 + 1))) else (none))) else (if x6.length < 140737488355328 then (if 0 ≤ t125 then (if t125 < (x0.length : Int) then (dragnetref06_Encode.l0 k x0 x1 (x6 ++ [(t125) % 256]) (wrap64 (x7 + ((rdOf ByteArray.empty x0 t125).size : Int)))) else (none)) else (none)) else (none)))) else (none)) else (none)) else (some (x6, 0))
def dragnetref06_Encode.f (k : Nat) (l0 : List ByteArray) (l1 : List Int) : Option (List Int × Int) := (dragnetref06_Formed.f k l0).bind fun t123 => (if t123 = true then (dragnetref06_Encode.l0 k l0 l1 ([] : List Int) 0) else (some (([] : List Int), 1)))
theorem dragnetref06_Encode.mono_l : ∀ k, (∀ y0 y1 y2 y3, LeO (dragnetref06_Encode.l0 k y0 y1 y2 y3) (dragnetref06_Encode.l0 (k + 1) y0 y1 y2 y3))
  | 0 => fun _ _ _ _ r h => by simp [dragnetref06_Encode.l0] at h
  | k + 1 => by
    have ih0 := dragnetref06_Encode.mono_l k
    · intro y0 y1 y2 y3
      unfold dragnetref06_Encode.l0
      repeat' first
      | (with_reducible exact ih0 _ _ _ _)
      | (with_reducible exact dragnetref06_Formed.mono _ _)
      | (with_reducible exact dragnetref06_longest.mono _ _ _)
      | (with_reducible exact LeO.refl _)
      | (with_reducible exact LeO.none _)
      | (with_reducible refine LeO.ite ?_ ?_)
      | (with_reducible refine LeO.bind ?_ (fun _ => ?_))
      | exact ih0 _ _ _ _
      | exact dragnetref06_Formed.mono _ _
      | exact dragnetref06_longest.mono _ _ _
      | exact LeO.none _
      | refine LeO.ite ?_ ?_
      | refine LeO.bind ?_ (fun _ => ?_)
theorem dragnetref06_Encode.mono : ∀ a0 a1 k, LeO (dragnetref06_Encode.f k a0 a1) (dragnetref06_Encode.f (k + 1) a0 a1) := by
  intro a0 a1 k
  have ih0 := dragnetref06_Encode.mono_l k
  unfold dragnetref06_Encode.f
  repeat' first
      | (with_reducible exact ih0 _ _ _ _)
      | (with_reducible exact dragnetref06_Formed.mono _ _)
      | (with_reducible exact dragnetref06_longest.mono _ _ _)
      | (with_reducible exact LeO.refl _)
      | (with_reducible exact LeO.none _)
      | (with_reducible refine LeO.ite ?_ ?_)
      | (with_reducible refine LeO.bind ?_ (fun _ => ?_))
      | exact ih0 _ _ _ _
      | exact dragnetref06_Formed.mono _ _
      | exact dragnetref06_longest.mono _ _ _
      | exact LeO.none _
      | refine LeO.ite ?_ ?_
      | refine LeO.bind ?_ (fun _ => ?_)
set_option maxHeartbeats 8000000 in
set_option maxRecDepth 100000 in
theorem dragnetref06_Encode.calls (k : Nat) (A0 : Option Addr) (c0 : Nat) (l0 : List ByteArray) (A1 : Option Addr) (c1 : Nat) (l1 : List Int) (r1 : List Int) (r2 : Int) (w : World) (hr0 : Kd.C Kd.string w A0 l0.length l0) (hc0 : l0.length ≤ c0) (hr1 : Kd.C (Kd.int .u8) w A1 l1.length l1) (hc1 : l1.length ≤ c1) (h : dragnetref06_Encode.f k l0 l1 = some (r1, r2)) :
    Calls Try.prog 17 #[.slice A0 l0.length c0, .slice A1 l1.length c1] w fun e w' => ∃ v0_ : Value, e = .returned (.tuple #[v0_, .int .i64 r2]) ∧ Kd.R (Kd.int .u8) 5 w' w.heap.size (fun _ => True) v0_ r1 ∧ Below w.heap.size w w' := by
  have HR0 := Aside0.mk hr0
  have HC0 := Aside0.mk hc0
  clear hr0 hc0
  have HR1 := Aside0.mk hr1
  have HC1 := Aside0.mk hc1
  clear hr1 hc1
  have HB := Aside0.mk (Below.refl w.heap.size w)
  have H : ((dragnetref06_Formed.f k l0).bind fun t123 => (if t123 = true then (dragnetref06_Encode.l0 k l0 l1 ([] : List Int) 0) else (some (([] : List Int), 1)))) = some (r1, r2) := h
  clear h
  replace H := Option.bind_eq_some_iff.mp H
  obtain ⟨t123, A30, H⟩ := H
  replace H : (if t123 = true then (dragnetref06_Encode.l0 k l0 l1 ([] : List Int) 0) else (some (([] : List Int), 1))) = some (r1, r2) := H
  have A3 := Aside0.mk A30
  clear A30
  by_cases c4 : t123 = true
  · subst c4
    have H1 : (dragnetref06_Encode.l0 k l0 l1 ([] : List Int) 0) = some (r1, r2) := by rw [if_pos rfl] at H; exact H
    clear H
    have H := H1
    clear H1
    have H' := Aside0.mk H
    clear H
    go_enter Try.func17, Try.ntmps17
    go_wp2_with (first | ((with_reducible refine gate_callee (f := 20) rfl ?_); refine goesL_ (some 10) rfl rfl Try.func20 (by kernel_rfl) rfl #[.slice A0 l0.length c0] rfl (by (try simp only [List.map_toArray, List.map_cons, List.map_nil]); first | done | rfl | (simp only [List.length_drop, List.length_take]; rfl)) ?_; (with_reducible refine (dragnetref06_Formed.calls k _ _ l0 true _ ?side1 ?side2 A3.out).mono ?_); (case side1 => repeat (first | exact HR0.out | (with_reducible refine Kd.C_alloc ?_ _) | (with_reducible refine Kd.C_drewN ?_ _) | (with_reducible refine Kd.C_drew ?_))); (case side2 => exact HC0.out); rintro e w' ⟨rfl, ⟨nd, rfl⟩⟩; refine ⟨_, rfl, ?_⟩))
    go_loopg [6, 7] k (fun kq v6 v7 w' => ∃ (x6_1 : List Int) (x7_1 : Int), v7 = .int .i64 x7_1 ∧ Aside0 (dragnetref06_Encode.l0 kq l0 l1 x6_1 x7_1 = some (r1, r2)) ∧ Aside0 (kq ≤ k) ∧ Aside0 (Kd.R (Kd.int .u8) 5 w' w.heap.size (fun _ => True) v6 x6_1) ∧ Aside0 (Below w.heap.size w w'))
    case atStart => exact ⟨(([] : List Int)), (0), (by first | rfl | (simp; done) | (simp [*]; done)), H', ⟨Nat.le_refl _⟩, ⟨by first | exact Kd.R_nil _ _ _ _ _ | exact Kd.N_nil _ _ _ _ _ | exact Kd.V_nil _ _ _ _ _ | exact Kd.Q_nil _ _ _ _ _ | exact Kd.S_nil _ _ _ _ _⟩, ⟨by repeat (first | (with_reducible first | exact HB.out | apply below_alloc | apply pw_below_drewN | apply below_drew1) | exact HB.out)⟩⟩
    case round =>
      clear H'
      try clear c1
      try clear c2
      try clear p2
      try clear c4
      obtain ⟨x6_1, x7_1, rfl, HA, HK1, HO_6, HB⟩ := hrel
      cases gk with
      | zero => exact absurd HA.out (by simp [dragnetref06_Encode.l0])
      | succ k1 =>
        have H := HA.out
        clear HA
        simp only [dragnetref06_Encode.l0] at H
        by_cases c5 : x7_1 < (l1.length : Int)
        · rw [if_pos c5] at H
          have c5b0 : decide (x7_1 < (l1.length : Int)) = true := decide_eq_true c5
          clear c5
          by_cases c6 : 0 ≤ x7_1
          · rw [if_pos c6] at H
            have c6b0 := eq_true c6
            have c6b1 : decide (0 ≤ x7_1) = true := decide_eq_true c6
            clear c6
            by_cases c7 : x7_1 ≤ (l1.length : Int)
            · rw [if_pos c7] at H
              have c7b0 := eq_true c7
              have c7b1 : decide (x7_1 ≤ (l1.length : Int)) = true := decide_eq_true c7
              clear c7
              replace H := Option.bind_eq_some_iff.mp H
              obtain ⟨t125, A80, H⟩ := H
              replace H : (if t125 < 0 then ((some (([255, rd l1 x7_1] : List Int) : List Int)).bind fun y127 => (if x6_1.length + y127.length < 140737488355328 then (dragnetref06_Encode.l0 k1 l0 l1 (x6_1 ++ y127) (wrap64 (x7_1 + 1))) else (none))) else (if x6_1.length < 140737488355328 then (if 0 ≤ t125 then (if t125 < (l0.length : Int) then (dragnetref06_Encode.l0 k1 l0 l1 (x6_1 ++ [(t125) % 256]) (wrap64 (x7_1 + ((rdOf ByteArray.empty l0 t125).size : Int)))) else (none)) else (none)) else (none))) = some (r1, r2) := H
              have A8 := Aside0.mk A80
              clear A80
              by_cases c9 : t125 < 0
              · rw [if_pos c9] at H
                have c9b0 : decide (t125 < 0) = true := decide_eq_true c9
                clear c9
                obtain ⟨y127, hy127⟩ : ∃ y_ : List Int, y_ = (([255, rd l1 x7_1] : List Int)) := ⟨_, rfl⟩
                replace H : (if x6_1.length + y127.length < 140737488355328 then (dragnetref06_Encode.l0 k1 l0 l1 (x6_1 ++ y127) (wrap64 (x7_1 + 1))) else (none)) = some (r1, r2) := by first | (rw [hy127]; with_reducible exact H) | (have H2_ := (Option.bind_some _ _).symm.trans H; rw [hy127]; with_reducible exact H2_) | (have H2_ := (Option.bind_some _ _).symm.trans H; with_reducible exact H2_) | with_reducible exact H | (rw [hy127]; exact H) | exact H
                have Ny127 := Aside0.mk hy127
                clear hy127
                by_cases c10 : x6_1.length + y127.length < 140737488355328
                · rw [if_pos c10] at H
                  have LMc10 := Aside0.mk c10
                  clear c10
                  obtain ⟨y130, hy130⟩ : ∃ y_ : List Int, y_ = (x6_1 ++ y127) := ⟨_, rfl⟩
                  replace H : (dragnetref06_Encode.l0 k1 l0 l1 y130 (wrap64 (x7_1 + 1))) = some (r1, r2) := by first | (rw [hy130]; with_reducible exact H) | (have H2_ := (Option.bind_some _ _).symm.trans H; rw [hy130]; with_reducible exact H2_) | (have H2_ := (Option.bind_some _ _).symm.trans H; with_reducible exact H2_) | with_reducible exact H | (rw [hy130]; exact H) | exact H
                  have Ny130 := Aside0.mk hy130
                  clear hy130
                  have H' := Aside0.mk H
                  clear H
                  obtain ⟨i011, hi011, _, hsz11, _⟩ := info_parts info5
                  obtain ⟨A11, hcut11, hA11, hC11⟩ := print_drop_of (P := Try.prog) (Value.int .u8) 0 23 5 .i64 Try.underlying23 hi011 hsz11 A1 c1 l1 x7_1 (of_decide_eq_true (by first | (with_reducible assumption) | assumption)) (of_decide_eq_true (by first | (with_reducible assumption) | assumption)) HC1.out
                  have HR124 := Aside0.mk (Kd.C_of_reads (h1 := fun _ => rfl) (hA11 _ (Kd.reads_of_C HR1.out)))
                  have HC124 := Aside0.mk hC11
                  clear hA11 hC11 hi011 hsz11
                  go_wp2_with (first | ((with_reducible refine gate_callee (f := 38) rfl ?_); refine goesL_ (some 20) rfl rfl Try.func38 (by kernel_rfl) rfl #[.slice A0 l0.length c0, .slice A11 (l1.drop (x7_1 : Int).toNat).length (c1 - x7_1.toNat)] rfl (by (try simp only [List.map_toArray, List.map_cons, List.map_nil]); first | done | (rw [show (l1.drop (x7_1 : Int).toNat).length = (l1.length - x7_1.toNat) from List.length_drop] <;> rfl) | rfl | (simp only [List.length_drop, List.length_take]; rfl)) ?_; (with_reducible refine (dragnetref06_longest.calls k1 _ _ l0 _ _ (l1.drop (x7_1 : Int).toNat) t125 _ ?side1 ?side2 ?side3 ?side4 A8.out).mono ?_); (case side1 => repeat (first | exact (Kd.C_below HR0.out HB.out) | (with_reducible refine Kd.C_alloc ?_ _) | (with_reducible refine Kd.C_drewN ?_ _) | (with_reducible refine Kd.C_drew ?_))); (case side2 => exact HC0.out); (case side3 => repeat (first | exact (Kd.C_below HR124.out HB.out) | (with_reducible refine Kd.C_alloc ?_ _) | (with_reducible refine Kd.C_drewN ?_ _) | (with_reducible refine Kd.C_drew ?_))); (case side4 => exact HC124.out); rintro e w' ⟨rfl, ⟨nd, rfl⟩⟩; refine ⟨_, rfl, ?_⟩; have p126 : 0 ≤ (x7_1 : Int) := of_decide_eq_true (by first | (with_reducible assumption) | assumption); have q126 : x7_1 < (l1.length : Int) := of_decide_eq_true (by first | (with_reducible assumption) | assumption); obtain ⟨ad126, e126, hx126_0⟩ := Kd.at_int HR1.out x7_1 p126 q126; cases e126; replace hx126_0 := (HB.out.cell (World.block_lt_of_cell? w _ hx126_0)).trans hx126_0; replace p126 := eq_true p126; replace q126 := eq_true q126) | ((with_reducible refine gate_dst (N := 28) rfl ?_); refine Kd.R_lit (Kd.int .u8) _ 5 ?hg (N := 28) ?hd (xs := ([255, rd l1 x7_1] : List Int)) (inner := [.int .u8 255, .int .u8 (rd l1 x7_1)]) (ok := fun _ => True) (okp := fun _ => True) ?hr ?hp (fun _ hk => hk) trivial (Below.refl _ _) (Nat.le_refl _) (by simp) ?_; (case hd => rfl); (case hg => rfl); (case hr => first | (go_simp; done) | (go_simp; rfl)); (case hp => exact (Reps.one (show Kd.M (Kd.int .u8) _ _ _ 255 [.int .u8 255] from rfl) (Reps.one (show Kd.M (Kd.int .u8) _ _ _ (rd l1 x7_1) [.int .u8 (rd l1 x7_1)] from rfl) (Reps.none _ _)))); intro v128 w12 ho13 hb hg_ hnew_; clear hg_ hnew_; (first | rw [← Ny127.out] at ho13 | (simp only [Int.reduceToNat] at ho13; rw [← Ny127.out] at ho13)); have n0_ := Aside0.mk (Kd.R_elder' (by (with_reducible repeat (first | apply Kd.R_alloc | apply Kd.R_drewN | apply Kd.R_drew)); exact HO_6.out) (Kd.R_base ho13) hb); have n1_ := Aside0.mk (Kd.R_lower (Kd.R_new' ho13 (Kd.R_lt (by (with_reducible repeat (first | apply Kd.R_alloc | apply Kd.R_drewN | apply Kd.R_drew)); exact HO_6.out))) (below_size (by repeat (first | (with_reducible first | exact HB.out | apply below_alloc | apply pw_below_drewN | apply below_drew1) | exact HB.out)))); have n2_ := Aside0.mk (below_step (by repeat (first | (with_reducible first | exact HB.out | apply below_alloc | apply pw_below_drewN | apply below_drew1) | exact HB.out)) hb); clear HO_6; clear HB; have HO_6 := n0_; have HO129 := n1_; have HB := n2_; clear n0_ n1_ n2_; clear hb ho13; obtain ⟨Ao15, co15, eo15⟩ := Kd.R_slice HO129.out; subst eo15) | ((with_reducible refine gate_builtin (b := .append) (xs := #[.tmp 23, .tmp 28]) rfl ?_); at_builtin; refine Kd.R_append_rows (Kd.int .u8) (w0 := w) w.heap.size rfl (.tmp 23) (.tmp 28) 23 5 (.int .u8 0) 1 rfl Try.underlying23 info5 rfl (by decide) (by omega) u6 x6_1 y127 _ _ _ (fun k_ => some k_ ≠ (.slice Ao15 y127.length co15 : Value).ownBlock) (fun _ => False) rfl rfl ?aO ?aR (fun _ _ h => h) (fun _ h => h.elim) ?aF ?aB ?aS ?aL ?_; (case aR => repeat (first | exact (Kd.R_reads' HO129.out).2.2 | (with_reducible refine Kd.C_alloc ?_ _) | (with_reducible refine Kd.C_drewN ?_ _) | (with_reducible refine Kd.C_drew ?_))); (case aB => exact (by repeat (first | (with_reducible first | exact HB.out | apply below_alloc | apply pw_below_drewN | apply below_drew1) | exact HB.out))); (case aF => exact (fun k_ hk => Kd.fresh' (Kd.R_lt (by (with_reducible repeat (first | apply Kd.R_alloc | apply Kd.R_drewN | apply Kd.R_drew)); exact HO129.out)) k_ hk)); (case aO => exact (by (with_reducible repeat (first | apply Kd.R_alloc | apply Kd.R_drewN | apply Kd.R_drew)); exact Kd.R_mono HO_6.out (fun _ hk => hk.2))); (case aS => exact (below_size (by repeat (first | (with_reducible first | exact HB.out | apply below_alloc | apply pw_below_drewN | apply below_drew1) | exact HB.out)))); (case aL => have := LMc10.out; omega); intro v131 w14 ho hb hg hat; rw [← Ny130.out] at ho; have n0_ := Aside0.mk (Kd.R_after (ok := (fun _ => True)) (by (with_reducible repeat (first | apply Kd.R_alloc | apply Kd.R_drewN | apply Kd.R_drew)); exact HO129.out) hg hat); have n1_ := Aside0.mk (hb); have n2_ := Aside0.mk (ho); clear HO129; clear HB; clear HO_6; have HO129 := n0_; have HB := n1_; have HO132 := n2_; clear n0_ n1_ n2_; clear ho hb hg hat))
                  go_roundg k1
                  case measure => have := HK1.out; omega
                  case rel => exact ⟨(y130), (wrap64 (x7_1 + 1)), (by first | rfl | (simp; done) | (simp [*]; done)), H', ⟨by have := HK1.out; omega⟩, ⟨by (with_reducible repeat (first | apply Kd.R_alloc | apply Kd.R_drewN | apply Kd.R_drew)); exact Kd.R_mono HO132.out (fun _ hk => trivial)⟩, ⟨by repeat (first | (with_reducible first | exact HB.out | apply below_alloc | apply pw_below_drewN | apply below_drew1) | exact HB.out)⟩⟩
                · rw [if_neg c10] at H
                  exact absurd H (by simp)
              · rw [if_neg c9] at H
                have c9b0 : decide (t125 < 0) = false := decide_eq_false c9
                clear c9
                by_cases c16 : x6_1.length < 140737488355328
                · rw [if_pos c16] at H
                  have LMc16 := Aside0.mk c16
                  clear c16
                  obtain ⟨y133, hy133⟩ : ∃ y_ : List Int, y_ = (x6_1 ++ [(t125) % 256]) := ⟨_, rfl⟩
                  replace H : (if 0 ≤ t125 then (if t125 < (l0.length : Int) then (dragnetref06_Encode.l0 k1 l0 l1 y133 (wrap64 (x7_1 + ((rdOf ByteArray.empty l0 t125).size : Int)))) else (none)) else (none)) = some (r1, r2) := by first | (rw [hy133]; with_reducible exact H) | (have H2_ := (Option.bind_some _ _).symm.trans H; rw [hy133]; with_reducible exact H2_) | (have H2_ := (Option.bind_some _ _).symm.trans H; with_reducible exact H2_) | with_reducible exact H | (rw [hy133]; exact H) | exact H
                  have Ny133 := Aside0.mk hy133
                  clear hy133
                  by_cases c17 : 0 ≤ t125
                  · rw [if_pos c17] at H
                    have c17b0 : decide (0 ≤ t125) = true := decide_eq_true c17
                    clear c17
                    by_cases c18 : t125 < (l0.length : Int)
                    · rw [if_pos c18] at H
                      have c18b0 : decide (t125 < (l0.length : Int)) = true := decide_eq_true c18
                      clear c18
                      have H' := Aside0.mk H
                      clear H
                      obtain ⟨i019, hi019, _, hsz19, _⟩ := info_parts info5
                      obtain ⟨A19, hcut19, hA19, hC19⟩ := print_drop_of (P := Try.prog) (Value.int .u8) 0 23 5 .i64 Try.underlying23 hi019 hsz19 A1 c1 l1 x7_1 (of_decide_eq_true (by first | (with_reducible assumption) | assumption)) (of_decide_eq_true (by first | (with_reducible assumption) | assumption)) HC1.out
                      have HR124 := Aside0.mk (Kd.C_of_reads (h1 := fun _ => rfl) (hA19 _ (Kd.reads_of_C HR1.out)))
                      have HC124 := Aside0.mk hC19
                      clear hA19 hC19 hi019 hsz19
                      go_wp2_with (first | ((with_reducible refine gate_callee (f := 38) rfl ?_); refine goesL_ (some 20) rfl rfl Try.func38 (by kernel_rfl) rfl #[.slice A0 l0.length c0, .slice A19 (l1.drop (x7_1 : Int).toNat).length (c1 - x7_1.toNat)] rfl (by (try simp only [List.map_toArray, List.map_cons, List.map_nil]); first | done | (rw [show (l1.drop (x7_1 : Int).toNat).length = (l1.length - x7_1.toNat) from List.length_drop] <;> rfl) | rfl | (simp only [List.length_drop, List.length_take]; rfl)) ?_; (with_reducible refine (dragnetref06_longest.calls k1 _ _ l0 _ _ (l1.drop (x7_1 : Int).toNat) t125 _ ?side1 ?side2 ?side3 ?side4 A8.out).mono ?_); (case side1 => repeat (first | exact (Kd.C_below HR0.out HB.out) | (with_reducible refine Kd.C_alloc ?_ _) | (with_reducible refine Kd.C_drewN ?_ _) | (with_reducible refine Kd.C_drew ?_))); (case side2 => exact HC0.out); (case side3 => repeat (first | exact (Kd.C_below HR124.out HB.out) | (with_reducible refine Kd.C_alloc ?_ _) | (with_reducible refine Kd.C_drewN ?_ _) | (with_reducible refine Kd.C_drew ?_))); (case side4 => exact HC124.out); rintro e w' ⟨rfl, ⟨nd, rfl⟩⟩; refine ⟨_, rfl, ?_⟩) | ((with_reducible refine gate_builtin (b := .append) (xs := #[.tmp 32, .tmp 35]) rfl ?_); at_builtin; refine Kd.R_append (Kd.int .u8) (w0 := w) w.heap.size rfl (.tmp 32) (.tmp 35) 23 5 (.int .u8 0) 1 rfl Try.underlying23 info5 rfl (by decide) (by omega) u6 x6_1 ((t125) % 256) [.int .u8 ((t125) % 256)] (fun _ => True) (fun _ => False) rfl rfl ?aP (fun _ hk => hk.elim) ?aF ?aO ?aB ?aS ?aL ?_; (case aP => exact rfl); (case aB => exact (by repeat (first | (with_reducible first | exact HB.out | apply below_alloc | apply pw_below_drewN | apply below_drew1) | exact HB.out))); (case aF => exact (fun _ _ => trivial)); (case aO => exact (by (with_reducible repeat (first | apply Kd.R_alloc | apply Kd.R_drewN | apply Kd.R_drew)); exact HO_6.out)); (case aS => exact (below_size (by repeat (first | (with_reducible first | exact HB.out | apply below_alloc | apply pw_below_drewN | apply below_drew1) | exact HB.out)))); (case aL => have := LMc16.out; omega); intro v134 w20 ho hb hg hat; rw [← Ny133.out] at ho; have n0_ := Aside0.mk (hb); have n1_ := Aside0.mk (ho); clear HB; clear HO_6; have HB := n0_; have HO135 := n1_; clear n0_ n1_; clear ho hb hg hat; have p136 : 0 ≤ (t125 : Int) := of_decide_eq_true (by first | (with_reducible assumption) | assumption); have q136 : t125 < (l0.length : Int) := of_decide_eq_true (by first | (with_reducible assumption) | assumption); obtain ⟨ad136, e136, hx136_0⟩ := Kd.at_string HR0.out t125 p136 q136; cases e136; replace hx136_0 := (HB.out.cell (World.block_lt_of_cell? w _ hx136_0)).trans hx136_0; replace p136 := eq_true p136; replace q136 := eq_true q136))
                      go_roundg k1
                      case measure => have := HK1.out; omega
                      case rel => exact ⟨(y133), (wrap64 (x7_1 + ((rdOf ByteArray.empty l0 t125).size : Int))), (by first | rfl | (simp; done) | (simp [*]; done)), H', ⟨by have := HK1.out; omega⟩, ⟨by (with_reducible repeat (first | apply Kd.R_alloc | apply Kd.R_drewN | apply Kd.R_drew)); exact HO135.out⟩, ⟨by repeat (first | (with_reducible first | exact HB.out | apply below_alloc | apply pw_below_drewN | apply below_drew1) | exact HB.out)⟩⟩
                    · rw [if_neg c18] at H
                      exact absurd H (by simp)
                  · rw [if_neg c17] at H
                    exact absurd H (by simp)
                · rw [if_neg c16] at H
                  exact absurd H (by simp)
            · rw [if_neg c7] at H
              exact absurd H (by simp)
          · rw [if_neg c6] at H
            exact absurd H (by simp)
        · rw [if_neg c5] at H
          have c5b0 : decide (x7_1 < (l1.length : Int)) = false := decide_eq_false c5
          clear c5
          simp only [Option.some.injEq, Prod.mk.injEq] at H
          obtain ⟨rfl, rfl⟩ := H
          go_wp2
          go_ret2
          exact ⟨_, by first | rfl | (simp [errW_none, errW_some] <;> rfl) | (simp [*, errW_none, errW_some] <;> rfl), by (with_reducible repeat (first | apply Kd.R_alloc | apply Kd.R_drewN | apply Kd.R_drew)); exact HO_6.out, by repeat (first | (with_reducible first | exact HB.out | apply below_alloc | apply pw_below_drewN | apply below_drew1) | exact HB.out)⟩
  · replace c4 := Bool.eq_false_iff.mpr c4
    subst c4
    have H1 : (some (([] : List Int), 1)) = some (r1, r2) := by rw [if_neg (show ¬ (false = true) by decide)] at H; exact H
    clear H
    have H := H1
    clear H1
    simp only [Option.some.injEq, Prod.mk.injEq] at H
    obtain ⟨rfl, rfl⟩ := H
    go_enter Try.func17, Try.ntmps17
    go_wp2_with (first | ((with_reducible refine gate_callee (f := 20) rfl ?_); refine goesL_ (some 10) rfl rfl Try.func20 (by kernel_rfl) rfl #[.slice A0 l0.length c0] rfl (by (try simp only [List.map_toArray, List.map_cons, List.map_nil]); first | done | rfl | (simp only [List.length_drop, List.length_take]; rfl)) ?_; (with_reducible refine (dragnetref06_Formed.calls k _ _ l0 false _ ?side1 ?side2 A3.out).mono ?_); (case side1 => repeat (first | exact HR0.out | (with_reducible refine Kd.C_alloc ?_ _) | (with_reducible refine Kd.C_drewN ?_ _) | (with_reducible refine Kd.C_drew ?_))); (case side2 => exact HC0.out); rintro e w' ⟨rfl, ⟨nd, rfl⟩⟩; refine ⟨_, rfl, ?_⟩))
    go_ret2
    exact ⟨_, by first | rfl | (simp [errW_none, errW_some] <;> rfl) | (simp [*, errW_none, errW_some] <;> rfl), by first | exact Kd.R_nil _ _ _ _ _ | exact Kd.N_nil _ _ _ _ _ | exact Kd.V_nil _ _ _ _ _ | exact Kd.Q_nil _ _ _ _ _ | exact Kd.S_nil _ _ _ _ _, by repeat (first | (with_reducible first | exact HB.out | apply below_alloc | apply pw_below_drewN | apply below_drew1) | exact HB.out)⟩

-- LEVEL 0
/-! ### dragnetref06_Same: function 21 -/
def dragnetref06_Same.l0 : Nat → List ByteArray → List ByteArray → Int → Option (Bool)
  | 0, _, _, _ => none
  | k + 1, x0, x1, x5 => if x5 < (x0.length : Int) then (if 0 ≤ x5 then (if x5 < (x1.length : Int) then (if (rdOf ByteArray.empty x0 x5).toList = (rdOf ByteArray.empty x1 x5).toList then (dragnetref06_Same.l0 k x0 x1 (wrap64 (x5 + 1))) else (some false)) else (none)) else (none)) else (some true)
def dragnetref06_Same.f (k : Nat) (l0 : List ByteArray) (l1 : List ByteArray) : Option (Bool) := if (l0.length : Int) = (l1.length : Int) then (dragnetref06_Same.l0 k l0 l1 0) else (some false)
theorem dragnetref06_Same.mono_l : ∀ k, (∀ y0 y1 y2, LeO (dragnetref06_Same.l0 k y0 y1 y2) (dragnetref06_Same.l0 (k + 1) y0 y1 y2))
  | 0 => fun _ _ _ r h => by simp [dragnetref06_Same.l0] at h
  | k + 1 => by
    have ih0 := dragnetref06_Same.mono_l k
    · intro y0 y1 y2
      unfold dragnetref06_Same.l0
      repeat' first
      | (with_reducible exact ih0 _ _ _)
      | (with_reducible exact LeO.refl _)
      | (with_reducible exact LeO.none _)
      | (with_reducible refine LeO.ite ?_ ?_)
      | (with_reducible refine LeO.bind ?_ (fun _ => ?_))
      | exact ih0 _ _ _
      | exact LeO.none _
      | refine LeO.ite ?_ ?_
      | refine LeO.bind ?_ (fun _ => ?_)
theorem dragnetref06_Same.mono : ∀ a0 a1 k, LeO (dragnetref06_Same.f k a0 a1) (dragnetref06_Same.f (k + 1) a0 a1) := by
  intro a0 a1 k
  have ih0 := dragnetref06_Same.mono_l k
  unfold dragnetref06_Same.f
  repeat' first
      | (with_reducible exact ih0 _ _ _)
      | (with_reducible exact LeO.refl _)
      | (with_reducible exact LeO.none _)
      | (with_reducible refine LeO.ite ?_ ?_)
      | (with_reducible refine LeO.bind ?_ (fun _ => ?_))
      | exact ih0 _ _ _
      | exact LeO.none _
      | refine LeO.ite ?_ ?_
      | refine LeO.bind ?_ (fun _ => ?_)
set_option maxHeartbeats 8000000 in
set_option maxRecDepth 100000 in
theorem dragnetref06_Same.calls (k : Nat) (A0 : Option Addr) (c0 : Nat) (l0 : List ByteArray) (A1 : Option Addr) (c1 : Nat) (l1 : List ByteArray) (r : Bool) (w : World) (hr0 : Kd.C Kd.string w A0 l0.length l0) (hc0 : l0.length ≤ c0) (hr1 : Kd.C Kd.string w A1 l1.length l1) (hc1 : l1.length ≤ c1) (h : dragnetref06_Same.f k l0 l1 = some r) :
    Calls Try.prog 21 #[.slice A0 l0.length c0, .slice A1 l1.length c1] w fun e w' => e = .returned (.bool r) ∧ Drawn0 w w' := by
  have HR0 := Aside0.mk hr0
  have HC0 := Aside0.mk hc0
  clear hr0 hc0
  have HR1 := Aside0.mk hr1
  have HC1 := Aside0.mk hc1
  clear hr1 hc1
  have H : (if (l0.length : Int) = (l1.length : Int) then (dragnetref06_Same.l0 k l0 l1 0) else (some false)) = some r := h
  clear h
  by_cases c3 : (l0.length : Int) = (l1.length : Int)
  · rw [if_pos c3] at H
    have c3b0 : ((l0.length : Int) == (l1.length : Int)) = true := beq_iff_eq.mpr c3
    have c3b1 : ((l0.length : Int) != (l1.length : Int)) = false := bne_eq_false_iff_eq.mpr c3
    have c3b2 : (l0.length == l1.length) = true := by first | simpa using c3 | (simp at c3 ⊢; omega)
    clear c3
    have H' := Aside0.mk H
    clear H
    go_enter Try.func21, Try.ntmps21
    go_wp2
    repeat (go_quiet (fail); try go_wp2)
    go_loopg [5] k (fun kq v5 w' => ∃ (x5_1 : Int), v5 = .int .i64 x5_1 ∧ Aside0 (dragnetref06_Same.l0 kq l0 l1 x5_1 = some r) ∧ Aside0 (kq ≤ k) ∧ Drawn0 w w')
    case atStart => exact ⟨(0), (by first | rfl | (simp; done) | (simp [*]; done)), H', ⟨Nat.le_refl _⟩, by repeat (first | exact Drawn0.refl _ | apply Drawn0.step)⟩
    case round =>
      clear H'
      try clear c1
      try clear c2
      try clear p2
      try clear c3
      try clear c3b0
      try clear c3b1
      try clear c3b2
      obtain ⟨x5_1, rfl, HA, HK1, ⟨m1, rfl⟩⟩ := hrel
      cases gk with
      | zero => exact absurd HA.out (by simp [dragnetref06_Same.l0])
      | succ k1 =>
        have H := HA.out
        clear HA
        simp only [dragnetref06_Same.l0] at H
        by_cases c4 : x5_1 < (l0.length : Int)
        · rw [if_pos c4] at H
          have c4b0 : decide (x5_1 < (l0.length : Int)) = true := decide_eq_true c4
          clear c4
          by_cases c5 : 0 ≤ x5_1
          · rw [if_pos c5] at H
            have c5b0 : decide (0 ≤ x5_1) = true := decide_eq_true c5
            clear c5
            by_cases c6 : x5_1 < (l1.length : Int)
            · rw [if_pos c6] at H
              have c6b0 : decide (x5_1 < (l1.length : Int)) = true := decide_eq_true c6
              clear c6
              by_cases c7 : (rdOf ByteArray.empty l0 x5_1).toList = (rdOf ByteArray.empty l1 x5_1).toList
              · rw [if_pos c7] at H
                have c7b0 : ((rdOf ByteArray.empty l0 x5_1).toList == (rdOf ByteArray.empty l1 x5_1).toList) = true := beq_iff_eq.mpr c7
                have c7b1 : ((rdOf ByteArray.empty l0 x5_1).toList != (rdOf ByteArray.empty l1 x5_1).toList) = false := bne_eq_false_iff_eq.mpr c7
                clear c7
                have H' := Aside0.mk H
                clear H
                have p137 : 0 ≤ (x5_1 : Int) := of_decide_eq_true (by first | (with_reducible assumption) | assumption)
                have q137 : x5_1 < (l0.length : Int) := of_decide_eq_true (by first | (with_reducible assumption) | assumption)
                obtain ⟨ad137, e137, hx137_0⟩ := Kd.at_string HR0.out x5_1 p137 q137
                cases e137
                replace p137 := eq_true p137
                replace q137 := eq_true q137
                have p138 : 0 ≤ (x5_1 : Int) := of_decide_eq_true (by first | (with_reducible assumption) | assumption)
                have q138 : x5_1 < (l1.length : Int) := of_decide_eq_true (by first | (with_reducible assumption) | assumption)
                obtain ⟨ad138, e138, hx138_0⟩ := Kd.at_string HR1.out x5_1 p138 q138
                cases e138
                replace p138 := eq_true p138
                replace q138 := eq_true q138
                go_wp2
                repeat (go_quiet (fail); try go_wp2)
                go_roundg k1
                case measure => have := HK1.out; omega
                case rel => exact ⟨(wrap64 (x5_1 + 1)), (by first | rfl | (simp; done) | (simp [*]; done)), H', ⟨by have := HK1.out; omega⟩, by repeat (first | exact Drawn0.refl _ | apply Drawn0.step)⟩
              · rw [if_neg c7] at H
                have c7b0 : ((rdOf ByteArray.empty l0 x5_1).toList == (rdOf ByteArray.empty l1 x5_1).toList) = false := beq_eq_false_iff_ne.mpr c7
                have c7b1 : ((rdOf ByteArray.empty l0 x5_1).toList != (rdOf ByteArray.empty l1 x5_1).toList) = true := bne_iff_ne.mpr c7
                obtain rfl := Option.some.inj H
                have p137 : 0 ≤ (x5_1 : Int) := of_decide_eq_true (by first | (with_reducible assumption) | assumption)
                have q137 : x5_1 < (l0.length : Int) := of_decide_eq_true (by first | (with_reducible assumption) | assumption)
                obtain ⟨ad137, e137, hx137_0⟩ := Kd.at_string HR0.out x5_1 p137 q137
                cases e137
                replace p137 := eq_true p137
                replace q137 := eq_true q137
                have p138 : 0 ≤ (x5_1 : Int) := of_decide_eq_true (by first | (with_reducible assumption) | assumption)
                have q138 : x5_1 < (l1.length : Int) := of_decide_eq_true (by first | (with_reducible assumption) | assumption)
                obtain ⟨ad138, e138, hx138_0⟩ := Kd.at_string HR1.out x5_1 p138 q138
                cases e138
                replace p138 := eq_true p138
                replace q138 := eq_true q138
                go_wp2
                repeat (go_quiet (fail); try go_wp2)
                go_ret
                exact ⟨by first | rfl | (simp; done) | (simp [*]; done), by repeat (first | exact Drawn0.refl _ | apply Drawn0.step)⟩
            · rw [if_neg c6] at H
              exact absurd H (by simp)
          · rw [if_neg c5] at H
            exact absurd H (by simp)
        · rw [if_neg c4] at H
          have c4b0 : decide (x5_1 < (l0.length : Int)) = false := decide_eq_false c4
          clear c4
          obtain rfl := Option.some.inj H
          go_wp2
          repeat (go_quiet (fail); try go_wp2)
          go_ret
          exact ⟨by first | rfl | (simp; done) | (simp [*]; done), by repeat (first | exact Drawn0.refl _ | apply Drawn0.step)⟩
  · rw [if_neg c3] at H
    have c3b0 : ((l0.length : Int) == (l1.length : Int)) = false := beq_eq_false_iff_ne.mpr c3
    have c3b1 : ((l0.length : Int) != (l1.length : Int)) = true := bne_iff_ne.mpr c3
    have c3b2 : (l0.length == l1.length) = false := by first | simpa using c3 | (simp at c3 ⊢; omega)
    obtain rfl := Option.some.inj H
    go_enter Try.func21, Try.ntmps21
    go_wp2
    repeat (go_quiet (fail); try go_wp2)
    go_ret
    exact ⟨by first | rfl | (simp; done) | (simp [*]; done), by repeat (first | exact Drawn0.refl _ | apply Drawn0.step)⟩

end Go.Proofs.Ytnmidkjmflnolaa.P
