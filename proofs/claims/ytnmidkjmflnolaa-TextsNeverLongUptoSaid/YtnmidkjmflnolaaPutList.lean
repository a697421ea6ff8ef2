/- pfor.PutList of 1 to 32 numbers: how many they are, and one block. -/
import Derived.Test.YtnmidkjmflnolaaChunk
import Derived.Test.YtnmidkjmflnolaaPut
import Derived.Laws.Bits64
import Derived.Test.YtnmidkjmflnolaaP10
namespace Go.Proofs.Ytnmidkjmflnolaa.P
open Go Go.RowKit Go.Shelf Go.Proofs.YtnmidkjmflnolaaW.PrintWords Go.Proofs.YtnmidkjmflnolaaW.PrintLast
attribute [local go_sem] Oper.semAt_some
set_option linter.unusedVariables false
set_option linter.unusedSimpArgs false

def pfor_PutList.f (k : Nat) (l0 : List Int) (l1 : List Int) : Option (List Int) :=
  if 1 ≤ l1.length ∧ l1.length ≤ 32 then (num_Put.f l0 (l1.length : Int)).bind fun t => (pfor_PutBlock.f k t l1).bind fun b => some b.1 else none
theorem pfor_PutList.mono : ∀ a0 a1 k, LeO (pfor_PutList.f k a0 a1) (pfor_PutList.f (k + 1) a0 a1) := by
  intro a0 a1 k
  unfold pfor_PutList.f
  refine LeO.ite (LeO.bind (LeO.refl _) fun t => LeO.bind ?_ fun b => LeO.refl _) (LeO.refl _)
  exact pfor_PutBlock.mono _ _ _
def outSt (t r : List Int) (pre : List Unit) : List Int := if pre.length = 0 then t else r
theorem own_up {w w1 : World} {base : Nat} {e : TypeId} {size n : Nat} {v : Value} {xs : List Value} (h : w.ownsRow base e size v n xs) (hb : Below w.heap.size w w1) : w1.ownsRow base e size v n xs := h.kept (row := none) (grown_below hb) (Classical.em _)
theorem box_up {W W1 : World} {B : Nat} {t : TypeId} {v : Value} (h : Boxed W B t v) (hb : Below W.heap.size W W1) : Boxed W1 B t v := (hb.block B h.lt).trans h
theorem keeps_up {W W' : World} (h : Below W.heap.size W W') : KeepsOthers W W' := KeepsOthers.of_grownBy (grown_below h) (fun j o e _ => by cases e)
theorem own_slice' {w : World} {base : Nat} {e : TypeId} {size n : Nat} {v : Value} {xs : List Value} (h : w.ownsRow base e size v n xs) : ∃ A c, v = .slice A n c := by
  rcases h.2 with ⟨rfl, rfl⟩ | ⟨g, cap, cur, rfl, _⟩
  · exact ⟨_, _, rfl⟩
  · exact ⟨_, _, rfl⟩
theorem own_low {w : World} {b b' : Nat} {e : TypeId} {size n : Nat} {v : Value} {xs : List Value} (h : w.ownsRow b e size v n xs) (hb : b' ≤ b) : w.ownsRow b' e size v n xs := by
  refine ⟨h.1, ?_⟩
  rcases h.2 with h2 | ⟨g, cap, cur, rfl, hge, rest⟩
  · exact .inl h2
  · exact .inr ⟨g, cap, cur, rfl, Nat.le_trans hb hge, rest⟩
abbrev cU (l : List Int) : List Value := l.map (Value.int .u8)
theorem own_of_u8 {w : World} {base : Nat} {ok : Nat → Prop} {v : Value} {xs : List Int} (h : Kd.R (Kd.int .u8) 5 w base ok v xs) : w.ownsRow base 5 1 v xs.length (cU xs) := Kd.own_of_R h
theorem u8_of_own {w : World} {base : Nat} {v : Value} {xs : List Int} (h : w.ownsRow base 5 1 v xs.length (cU xs)) : Kd.R (Kd.int .u8) 5 w base (fun _ => True) v xs := Kd.R_of_own (h1 := fun _ => rfl) h (fun _ _ => trivial)
set_option maxRecDepth 100000 in
set_option maxHeartbeats 8000000 in
theorem putlist_in (n : Nat) (hn : 3 ≤ n) (k : Nat) (A0 : Option Addr) (c0 : Nat) (l0 : List Int) (A1 : Option Addr) (c1 : Nat) (l1 : List Int) (t r : List Int) (e2 : Int) (w : World)
    (hr0 : Kd.C (Kd.int .u8) w A0 l0.length l0) (hc0 : l0.length ≤ c0) (hr1 : Kd.C (Kd.int .u64) w A1 l1.length l1) (hc1 : l1.length ≤ c1) (h1 : 1 ≤ l1.length) (h32 : l1.length ≤ 32)
    (ht : num_Put.f l0 (l1.length : Int) = some t) (hb : pfor_PutBlock.f k t l1 = some (r, e2)) :
    CallsIn Fence.wide n Try.prog 57 #[.slice A0 l0.length c0, .slice A1 l1.length c1] w fun e W' => ∃ v, e = .returned v ∧ W'.ownsRow w.heap.size 5 1 v r.length (cU r) ∧ Below w.heap.size w W' := by
  have h1n : 1 ≤ n := by omega
  refine callsIn_of_wp_marks Try.func57 rfl trivial ?_ rfl
  simp only [Try.ntmps57, List.size_toArray, List.length_cons, List.length_nil, Nat.reduceAdd, Nat.reduceSub, Array.replicate_succ, Array.replicate_zero, List.push_toArray, List.append_toArray, List.nil_append, List.cons_append]
  have HR0 := Aside0.mk hr0
  have HR1 := Aside0.mk hr1
  have HT := Aside0.mk ht
  have HBK := Aside0.mk hb
  have H1 := Aside0.mk h1
  have H32 := Aside0.mk h32
  have hwl : IntKind.u64.wrap (l1.length : Int) = (l1.length : Int) := by
    have := H32.out
    rw [IntKind.wrap_u64]
    omega
  clear hr0 hr1 ht hb h1 h32
  gi_wp2_with (first
    | (refine ⟨trivial, ?_⟩; gi_at_call 39; refine (callsIn_wide.2 (num_Put.calls A0 c0 l0 (l1.length : Int) t _ HR0.out hc0 HT.out)).mono ?_; rintro e w1 ⟨v1, rfl, ho1, hb1⟩; obtain ⟨Av, cv, rfl⟩ := own_slice' (own_of_u8 ho1); have HO1 := Aside0.mk (own_of_u8 ho1); have HB1 := Aside0.mk hb1; clear ho1 hb1)
    | (refine ⟨trivial, ?_⟩; gi_at_call 78; refine (chunk_in (n - 1) A1 l1.length c1 _).mono ?_; rintro e w2 ⟨rfl, rfl⟩))
  obtain ⟨W0, hW0⟩ : ∃ W0, (((w1.alloc (Obj.cells #[Value.slice Av t.length cv] 23)).alloc (Obj.cells #[Value.slice A1 l1.length c1] 85)).alloc (Obj.cells #[Value.int IntKind.i64 32] 3)) = W0 := ⟨_, rfl⟩
  have hw1 := HB1.out.size
  have hB0 : Below w.heap.size w W0 := by rw [← hW0]; exact ((HB1.out.alloc hw1 _).alloc (by simp; omega) _).alloc (by simp; omega) _
  have hsz : W0.heap.size = w1.heap.size + 3 := by rw [← hW0]; simp
  have bL : Boxed W0 w1.heap.size 23 (.slice Av t.length cv) := by rw [← hW0]; exact ((Boxed.new w1 _ _).alloc _).alloc _
  have row : W0.ownsRow w.heap.size 5 1 (.slice Av t.length cv) t.length (cU t) := by rw [← hW0]; exact ((HO1.out.alloc _).alloc _).alloc _
  have b1 : W0.heap[w1.heap.size + 1]? = some (.cells #[.slice A1 l1.length c1] 85 (0, 0)) := by
    have h : Boxed W0 (w1.alloc (Obj.cells #[Value.slice Av t.length cv] 23)).heap.size 85 (.slice A1 l1.length c1) := by rw [← hW0]; exact (Boxed.new _ _ _).alloc _
    rw [World.size_alloc] at h
    exact h
  have b2 : W0.heap[w1.heap.size + 1 + 1]? = some (.cells #[.int .i64 32] 3 (0, 0)) := by
    have h : Boxed W0 ((w1.alloc (Obj.cells #[Value.slice Av t.length cv] 23)).alloc (Obj.cells #[Value.slice A1 l1.length c1] 85)).heap.size 3 (.int .i64 32) := by rw [← hW0]; exact Boxed.new _ _ _
    rw [World.size_alloc, World.size_alloc] at h
    exact h
  rw [hW0]
  clear hW0
  obtain ⟨B, hBd⟩ : ∃ B, w1.heap.size = B := ⟨_, rfl⟩
  rw [hBd] at hsz bL b1 b2 hw1 ⊢
  clear hBd HO1 HB1
  have hS := Aside0.mk (chunk_stops (n - 1) (by omega) (B + 1) (B + 1 + 1) W0 A1 l1.length c1 hc1 H1.out H32.out (by omega) (by omega) b1 b2)
  have hKb : ∀ (W : World) (l : Nat) (o o' : Obj), W0.heap.size ≤ l → W.heap[l]? = some o → o.isCells = false → o.isWalk = false → KpB (B + 1) (B + 1 + 1) W (W.putObj l o') := by
    intro W l o o' hl ho _ _
    have hg := grownBy_putObj' W l o'
    have hlt : l < W.heap.size := (Array.getElem?_eq_some_iff.1 ho).1
    exact ⟨hg.block _ (by omega) (by intro he; cases he; omega), hg.block _ (by omega) (by intro he; cases he; omega)⟩
  refine wpIn_rangeFunc_ownG rfl h1n (gf := 99) (lb := #[.pointer (some ⟨B + 1, 0, none⟩), .pointer (some ⟨B + 1 + 1, 0, none⟩)]) rfl trivial (enters_of Try.func99 (by kernel_rfl) rfl)
    hS.out (fun h k => ⟨k.1.trans h.1, k.2.trans h.2⟩) hKb (Below.refl _ _) (fun _ => rfl)
    (fun pre W => (∃ v, Boxed W B 23 v ∧ W.ownsRow w.heap.size 5 1 v (outSt t r pre).length (cU (outSt t r pre)) ∧ True) ∧ Below w.heap.size w W ∧ W0.heap.size ≤ W.heap.size)
    (fun co pre W => False)
    (OwnFrom.and (Own.from (holdsRow_own w.heap.size B 23 5 1 (fun pre => (outSt t r pre).length) (fun pre => cU (outSt t r pre)) (fun _ _ => True)) _) (OwnFrom.and (ownFrom_below (Nat.le_refl _) (by omega)) (fun _ _ _ _ hs hg _ => Nat.le_trans hs hg.size)))
    (fun co s W W' row_ hs _ _ => hs)
    ⟨⟨_, bL, row, trivial⟩, hB0, Nat.le_refl _⟩
    (fun x => { tmps := #[.slice A0 l0.length c0, .slice A1 l1.length c1, undef, undef, .slice none 0 0, .pointer (some ⟨B, 0, none⟩), .slice A1 l1.length l1.length, .slice A0 l0.length c0, .slice A1 l1.length c1, .int .i64 (l1.length : Int), .int .u64 (l1.length : Int), .slice Av t.length cv, .slice A1 l1.length c1, .func (.func 99) #[] #[.pointer (some ⟨B + 1, 0, none⟩), .pointer (some ⟨B + 1 + 1, 0, none⟩)], .slice A1 l1.length l1.length, undef, undef, undef, undef, undef, undef, undef], defers := [] }) ?assign ?body ?done ?stop
  case assign =>
    intro l x W K hK
    gi_wp2
    exact hK
  case body =>
    rintro l pre x W ⟨⟨v, hv, hrow, _⟩, hB, hsz2⟩ hlt
    have hpre : pre = [] := List.length_eq_zero_iff.1 (by omega)
    subst hpre
    obtain ⟨A', c', rfl⟩ := own_slice' hrow
    have hq := Kd.R_reads' (u8_of_own hrow)
    have hC := Aside0.mk (pfor_PutBlock.calls k A' c' t A1 l1.length l1 r e2 W hq.2.2 hq.2.1 (Kd.C_below HR1.out hB) (Nat.le_refl _) HBK.out)
    have hcell := hv.cell
    have hfroz := hv.frozen
    have HV := Aside0.mk hv
    have HB := Aside0.mk hB
    clear hq hrow hv hB hlt
    have h11 : 1 ≤ n - 1 - 1 := by omega
    gi_wp2_with (refine ⟨trivial, ?_⟩; gi_at_call 79; refine (CallsIn.inRound l (callsIn_wide.2 hC.out)).mono ?_; rintro e' w3 ⟨v3, rfl, ho3, hb3⟩; obtain ⟨A3, c3, rfl⟩ := own_slice' (own_of_u8 ho3); have HO3 := Aside0.mk (own_of_u8 ho3); have hv3 := box_up HV.out hb3; have hc3 := hv3.cell; have hf3 := hv3.frozen; have HV3 := Aside0.mk hv3; have HB3 := Aside0.mk hb3; clear ho3 hb3 hv3)
    have hlow := own_low HO3.out HB.out.size
    have hne := HV3.out.not_row (e := 5) (by decide) hlow
    have hsz3 := HB3.out.size
    refine ⟨((keeps_up HB3.out).trans (KeepsOthers.setCell _ _ _)).from _, ⟨?_, ?_⟩, ⟨_, HV3.out.set _, own_setCell hlow hne _, trivial⟩, HB.out.trans ((HB3.out.mono HB.out.size).setCell (p := ⟨B, 0, none⟩) hw1 _), by simp [World.setCell]; omega⟩
    · exact (Below.heap_setCell _ _ _ _ (by simp)).trans (HB3.out.block _ (by omega))
    · exact (Below.heap_setCell _ _ _ _ (by simp; omega)).trans (HB3.out.block _ (by omega))
  case done =>
    rintro D ys W hD rfl ⟨⟨v, hv, hrow, _⟩, hB, hsz2⟩ hK
    have hc := hv.cell
    gi_wp2
    refine ⟨by simp, .inl ⟨_, _, rfl, run_takeDeferred hK, ?_⟩⟩
    exact ⟨_, results_tmp rfl _ _ _, v, rfl, ownsRow_putObj hrow _ hK rfl, hB.trans (belowK_b (w := w) (Nat.le_refl _) W D _ _ (by omega) hK rfl rfl)⟩
  case stop =>
    rintro D c pre W _ _ h _
    exact h.elim
theorem pfor_PutList.calls (k : Nat) (A0 : Option Addr) (c0 : Nat) (l0 : List Int) (A1 : Option Addr) (c1 : Nat) (l1 : List Int) (r : List Int) (w : World) (hr0 : Kd.C (Kd.int .u8) w A0 l0.length l0) (hc0 : l0.length ≤ c0) (hr1 : Kd.C (Kd.int .u64) w A1 l1.length l1) (hc1 : l1.length ≤ c1) (h : pfor_PutList.f k l0 l1 = some r) :
    Calls Try.prog 57 #[.slice A0 l0.length c0, .slice A1 l1.length c1] w fun e w' => ∃ v0_ : Value, e = .returned (v0_) ∧ Kd.R (Kd.int .u8) 5 w' w.heap.size (fun _ => True) v0_ r ∧ Below w.heap.size w w' := by
  unfold pfor_PutList.f at h
  by_cases hb : 1 ≤ l1.length ∧ l1.length ≤ 32
  case neg => rw [if_neg hb] at h; cases h
  rw [if_pos hb] at h
  obtain ⟨t, ht, h⟩ := Option.bind_eq_some_iff.1 h
  obtain ⟨⟨r', e2⟩, hk, h⟩ := Option.bind_eq_some_iff.1 h
  obtain rfl : r' = r := Option.some.inj h
  refine ((callsIn_wide (n := 3)).1 (putlist_in 3 (by omega) k A0 c0 l0 A1 c1 l1 t r' e2 w hr0 hc0 hr1 hc1 hb.1 hb.2 ht hk)).mono ?_
  rintro e w' ⟨v, rfl, ho, hB⟩
  exact ⟨v, rfl, u8_of_own ho, hB⟩
end Go.Proofs.Ytnmidkjmflnolaa.P
