/- The order of Train's pieces: cmp.Or of the worths compared and the texts compared. -/
import Derived.Test.YtnmidkjmflnolaaTrainSpec
import Derived.Test.YtnmidkjmflnolaaShelfT
import Derived.Test.YtnmidkjmflnolaaProg
import Derived.StillTailTactics
import Derived.Outline
import Derived.Test.YtnmidkjmflnolaaWWords
import Derived.Test.YtnmidkjmflnolaaWLast
namespace Go.Proofs.Ytnmidkjmflnolaa.P
open Go Go.Shelf Go.RowKit Go.Lib Go.Sort Go.Proofs.YtnmidkjmflnolaaW.PrintWords Go.Proofs.YtnmidkjmflnolaaW.PrintLast
set_option linter.unusedVariables false
set_option linter.unusedSimpArgs false

def orTwo (a b : Int) : Int := if a ≠ 0 then a else b
theorem orTwo_l {a b : Int} (h : a ≠ 0) : orTwo a b = a := if_pos h
theorem orTwo_r (b : Int) : orTwo 0 b = b := if_neg (by simp)
theorem ret_i {a b : Int} (h : a = b) : Ending.returned (.int .i64 a) = .returned (.int .i64 b) := by rw [h]
set_option maxHeartbeats 1000000 in
theorem or_two (a b : Int) (B : Nat) (W : World) (h0 : W.cell? ⟨B, 0, none⟩ = some (.int .i64 a)) (h1 : W.cell? ⟨B, 1, none⟩ = some (.int .i64 b)) :
    Calls Try.prog 49 #[.slice (some ⟨B, 0, none⟩) 2 2] W fun e w' => e = .returned (.int .i64 (orTwo a b)) ∧ w' = W := by
  go_enter Try.func49, Try.ntmps49
  go_wp2
  go_loopg [8] 2 (fun g v8 wx => ((v8 = .int .i64 0 ∧ g = 2) ∨ (v8 = .int .i64 1 ∧ g = 1 ∧ a = 0) ∨ (v8 = .int .i64 2 ∧ a = 0 ∧ b = 0)) ∧ wx = W)
  case atStart => exact ⟨.inl ⟨rfl, rfl⟩, rfl⟩
  case round =>
    obtain ⟨hst, rfl⟩ := hrel
    rcases hst with ⟨rfl, rfl⟩ | ⟨rfl, rfl, rfl⟩ | ⟨rfl, rfl, rfl⟩
    · by_cases ha : a = 0
      · subst ha
        go_wp2
        go_roundg 1
        case measure => omega
        case rel => refine ⟨?_, rfl⟩; first | exact .inr (.inl ⟨rfl, rfl, rfl⟩) | simp
      · have hb : (a != 0) = true := bne_iff_ne.2 ha
        have HA := Aside0.mk ha
        clear ha
        go_wp2
        go_ret
        exact ⟨ret_i (orTwo_l HA.out).symm, rfl⟩
    · by_cases hb0 : b = 0
      · subst hb0
        go_wp2
        go_roundg 0
        case measure => omega
        case rel => refine ⟨?_, rfl⟩; first | exact .inr (.inr ⟨rfl, rfl, rfl⟩) | simp
      · have hb : (b != 0) = true := bne_iff_ne.2 hb0
        clear hb0
        go_wp2
        go_ret
        exact ⟨ret_i (orTwo_r _).symm, rfl⟩
    · go_wp2
      go_ret
      exact ⟨ret_i (orTwo_r _).symm, rfl⟩
theorem or_here (a b : Int) (W : World) (B : Nat) (hB : B = W.heap.size) :
    Calls Try.prog 49 #[.slice (some ⟨B, 0, none⟩) 2 2] (W.alloc (.cells #[.int .i64 a, .int .i64 b] 3)) fun e w' => e = .returned (.int .i64 (orTwo a b)) ∧ w' = (W.alloc (.cells #[.int .i64 a, .int .i64 b] 3)) := by
  subst hB
  have hg : (W.alloc (.cells #[.int .i64 a, .int .i64 b] 3)).heap[W.heap.size]? = some (.cells #[.int .i64 a, .int .i64 b] 3 (0, 0)) := blk_new W (.cells #[.int .i64 a, .int .i64 b] 3 (0, 0))
  exact or_two a b _ _ ((blk_cell hg 0).trans rfl) ((blk_cell hg 1).trans rfl)
theorem grow_three (W : World) (a b c : Obj) (q : Nat) : ((((W.alloc a).alloc b).alloc c).drewN q) = grow (W.drewN q) #[a, b, c] := by
  rw [alloc_eq_grow, alloc_eq_grow, alloc_eq_grow, grow_grow, grow_grow]
  rfl
set_option maxHeartbeats 4000000 in
set_option maxRecDepth 100000 in
theorem train_cmp (x y : ByteArray × Int) (W : World) :
    Calls Try.prog 48 #[.agg #[.string x.1, .int .i64 x.2], .agg #[.string y.1, .int .i64 y.2]] W fun e w' => e = .returned (.int .i64 (cmpP x y)) ∧ ∃ q os', w' = grow (W.drewN q) os' := by
  obtain ⟨s, a⟩ := x
  obtain ⟨t, b⟩ := y
  have hc1 := fun W' => AnyG.cmp_Compare_int Try.cmpInt b a W'
  change ∀ W', Calls Try.prog 50 _ _ _ at hc1
  have hc2 := fun W' => Try.strings_Compare s t W'
  rw [show cmpP (s, a) (t, b) = orTwo (compareInt b a) (compareBytes s.data.toList t.data.toList) from rfl]
  dsimp only at *
  generalize Lib.compareInt b a = c1 at hc1 ⊢
  generalize Lib.compareBytes s.data.toList t.data.toList = c2 at hc2 ⊢
  go_enter Try.func48, Try.ntmps48
  go_wp2
  refine wp_region_still_tail 10 (by kernel_rfl) (by kernel_rfl) ?_
  simp only [List.take_succ_cons, List.take_zero, List.drop_succ_cons, List.drop_zero]
  obtain ⟨w2, hw2⟩ : ∃ w2, w2 = ((W.alloc (.cells #[.string s, .int .i64 a] 74)).alloc (.cells #[.string t, .int .i64 b] 74)).drew := ⟨_, rfl⟩
  have g1 : w2.heap[W.heap.size + 1]? = some (.cells #[.string t, .int .i64 b] 74 (0, 0)) := by
    have h := blk_new (W.alloc (.cells #[.string s, .int .i64 a] 74)) (.cells #[.string t, .int .i64 b] 74 (0, 0))
    rw [World.size_alloc] at h
    rw [hw2]
    exact h
  have g0 : w2.heap[W.heap.size]? = some (.cells #[.string s, .int .i64 a] 74 (0, 0)) := by
    rw [hw2]
    exact blk_alloc (blk_new W (.cells #[.string s, .int .i64 a] 74 (0, 0))) _
  have k0 : w2.cell? ⟨W.heap.size, 0, none⟩ = some (.string s) := (blk_cell g0 0).trans rfl
  have k1 : w2.cell? ⟨W.heap.size, 1, none⟩ = some (.int .i64 a) := (blk_cell g0 1).trans rfl
  have k2 : w2.cell? ⟨W.heap.size + 1, 0, none⟩ = some (.string t) := (blk_cell g1 0).trans rfl
  have k3 : w2.cell? ⟨W.heap.size + 1, 1, none⟩ = some (.int .i64 b) := (blk_cell g1 1).trans rfl
  change wpStill _ _ (World.drew ((W.alloc (.cells #[.string s, .int .i64 a] 74)).alloc (.cells #[.string t, .int .i64 b] 74))) _ _ _
  rw [← hw2]
  have HW := Aside0.mk hw2
  clear hw2 g0 g1
  repeat still_step
  still_call (hc1 _)
  repeat still_step
  still_call (hc2 _)
  repeat still_step
  refine wpStill_nil ?_
  change wpList _ _ _ _ _ (World.drew ((W.alloc (.cells #[.string s, .int .i64 a] 74)).alloc (.cells #[.string t, .int .i64 b] 74)))
  rw [← HW.out]
  have hsz : w2.heap.size = W.heap.size + 1 + 1 := by rw [HW.out]; simp
  go_wp2_with (go_at_call 49; refine (or_here c1 c2 w2 _ hsz.symm).mono ?_; rintro e w' ⟨rfl, rfl⟩)
  go_ret
  refine ⟨rfl, 1, #[.cells #[.string s, .int .i64 a] 74, .cells #[.string t, .int .i64 b] 74, .cells #[.int .i64 c1, .int .i64 c2] 3], ?_⟩
  rw [HW.out, ← grow_three]
  rfl
theorem encP_len (x : ByteArray × Int) : (encP x).length = 2 := rfl
theorem encP_one (x : ByteArray × Int) : ∀ v ∈ encP x, v.oneCell' = true := by
  intro v hv
  simp [encP] at hv
  rcases hv with rfl | rfl <;> rfl
theorem train_cmpLays (blk off size : Nat) (w : World) : CmpLays Try.prog 48 #[] encP 2 cmpP blk off size w := fun _ _ _ _ x y => train_cmp x y _
end Go.Proofs.Ytnmidkjmflnolaa.P
