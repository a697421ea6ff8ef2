/- rowset.Granules: the granules of a set's rows. -/
import Derived.Test.YtiaaicmkpjlplaaDoorAll
import Derived.Maps.AppendAt
namespace Go.Proofs.YtiaaicmkpjlplaaDoor.P
open Go Go.RowKit Go.Shelf Go.Proofs.YtiaaicmkpjlplaaDoorW.PrintWords Go.Proofs.YtiaaicmkpjlplaaDoorW.PrintLast Go.Proofs.YtiaaicmkpjlplaaDoor.Pure
attribute [local go_sem] Oper.semAt_some
set_option linter.unusedVariables false

/-- The granules that have come, and the last of them. -/
def gStep (st : List Int × Int) (x : Fin 4096) : List Int × Int := if ((x.val / 16 : Nat) : Int) = st.2 then st else (st.1 ++ [((x.val / 16 : Nat) : Int)], ((x.val / 16 : Nat) : Int))
def gSt (pre : List (Fin 4096)) : List Int × Int := pre.foldl gStep ([], -1)
theorem gSt_snoc (pre : List (Fin 4096)) (x : Fin 4096) : gSt (pre ++ [x]) = gStep (gSt pre) x := by unfold gSt; rw [List.foldl_append]; rfl
theorem gSt_len (pre : List (Fin 4096)) : (gSt pre).1.length ≤ pre.length := by
  suffices h : ∀ (l : List (Fin 4096)) (st : List Int × Int), (l.foldl gStep st).1.length ≤ st.1.length + l.length by
    have := h pre ([], -1)
    simpa [gSt] using this
  intro l
  induction l with
  | nil => intro st; exact Nat.le_refl _
  | cons x l ih =>
    intro st
    have h1 : (gStep st x).1.length ≤ st.1.length + 1 := by
      unfold gStep
      split
      · omega
      · simp
    have h2 := ih (gStep st x)
    simp only [List.foldl_cons, List.length_cons]
    omega
def okB (l : List Int) : Bool := l.all fun x => decide (0 ≤ x) && decide (x < 18446744073709551616)
theorem okB_iff {l : List Int} : okB l = true ↔ okws l := by
  unfold okB okws okw
  simp
def toldB (N : Int) (Ws : List Int) : List (Fin 4096) := if rowset_Formed.f N Ws = some true then lst Ws (64 * Ws.length) else []
theorem toldB_eq {N : Int} {Ws : List Int} (ok : okws Ws) (hbig : Ws.length ≤ 100000000) : toldB N Ws = told N Ws := by
  unfold toldB told
  rw [formed_f N Ws ok hbig]
  cases fm N Ws <;> rfl
def rowset_Granules.f (N : Int) (Ws : List Int) : Option (List Int) := if okB Ws = true ∧ Ws.length ≤ 100000000 then some (gSt (toldB N Ws)).1 else none
/-- The table lies where it was laid, and memory is not empty. -/
def TzIn (w : World) : Prop := TzLaid w ∧ 0 < w.heap.size
theorem TzIn.of {W : World} (h : Lib.TabIs Tryd.prog W "math/bits.deBruijn64tab" .u8 deB) : TzIn W := by
  have g : Tryd.prog.globalNamed "math/bits.deBruijn64tab" = some 0 := by kernel_rfl
  have ht : TzLaid W := fun i hi => h.cell g i (by simpa [deB] using hi)
  exact ⟨ht, Nat.lt_of_le_of_lt (Nat.zero_le _) (World.block_lt_of_cell? W _ (ht 0 (by decide)))⟩
theorem TzIn.below {w w' : World} (h : TzIn w) (hb : Below w.heap.size w w') : TzIn w' := ⟨h.1.below h.2 hb, Nat.lt_of_lt_of_le h.2 hb.size⟩
theorem gInfo3 : (Tryd.prog.info? 3).map (fun i => (i.zero, i.size, i.bytes)) = some (some (.int .i64 0), 1, 8) := by kernel_rfl
theorem told_len (N : Int) (Ws : List Int) (ok : okws Ws) : (told N Ws).length ≤ 4096 := by
  unfold told
  split
  · rename_i h
    have s := fm_iff.1 h
    have := lst_len Ws (64 * Ws.length)
    have := s.2.2.1
    have := s.2.1
    omega
  · exact Nat.zero_le _
/-- A list in a box grows: its rows lie from nb on, what lay below n₀ lies as it lay. -/
theorem appended2 {W w1 : World} {n₀ nb B : Nat} {t e : TypeId} {size : Nat} {v v' : Value} {k m : Nat} {xs ys : List Value} {tmp : Obj}
    (hv : Boxed W B t v) (hte : t ≠ e) (hrow : W.ownsRow nb e size v k xs) (hn : n₀ ≤ nb) (hnb : nb ≤ W.heap.size) (hB : n₀ ≤ B) (hown' : w1.ownsRow nb e size v' m ys) (hgrow : (W.alloc tmp).grownBy w1 v.ownBlock) :
    Boxed w1 B t v ∧ Boxed (w1.setCell ⟨B, 0, none⟩ v') B t v' ∧ (w1.setCell ⟨B, 0, none⟩ v').ownsRow nb e size v' m ys ∧ KeepsOthers W (w1.setCell ⟨B, 0, none⟩ v') ∧ Below n₀ W (w1.setCell ⟨B, 0, none⟩ v') := by
  have hv1 : Boxed w1 B t v := (hv.alloc tmp).kept hgrow (hv.not_row hte hrow)
  refine ⟨hv1, hv1.set v', own_setCell hown' (hv1.not_row hte hown') v', ?_, ?_⟩
  · refine ((KeepsOthers.alloc W tmp).trans (KeepsOthers.of_grownBy hgrow fun j o ej hj => ?_)).trans (KeepsOthers.setCell _ _ _)
    rcases (hrow.alloc tmp).2 with ⟨rfl, _⟩ | ⟨g, cap, cur, rfl, _, hgb, _⟩
    · simp [Value.ownBlock] at ej
    · obtain rfl : g = j := by simpa [Value.ownBlock] using ej
      rw [hgb] at hj; cases hj; rfl
  · exact (((Below.refl n₀ W).alloc (Nat.le_trans hn hnb) tmp).grown hgrow (by simp; omega) fun j ej => Nat.le_trans hn (own_base hrow j ej)).setCell (p := ⟨B, 0, none⟩) hB v'
/-- A box ahead of the rows. -/
theorem Boxed.ahead {W w1 : World} {nb B : Nat} {t e : TypeId} {size : Nat} {u v : Value} {k : Nat} {xs : List Value} {tmp : Obj} (h : Boxed W B t u) (hB : B < nb) (hrow : W.ownsRow nb e size v k xs) (hgrow : (W.alloc tmp).grownBy w1 v.ownBlock) : Boxed w1 B t u :=
  (h.alloc tmp).kept hgrow (fun e => by have := own_base hrow B e.symm; omega)
set_option maxRecDepth 100000 in
set_option maxHeartbeats 4000000 in
theorem gran_in (n : Nat) (hn : 3 ≤ n) (N : Int) (Ws : List Int) (A : Option Addr) (c : Nat) (hcc : Ws.length ≤ c) (hbig : Ws.length ≤ 100000000) (ok : okws Ws) (w : World) (h00 : 0 < w.heap.size) (hC : Kd.C (Kd.int .u64) w A Ws.length Ws) (hWs : WordsAt w.heap.size w A Ws) (hT : TzLaid w) :
    CallsIn Fence.wide n Tryd.prog 15 #[.agg #[.int .i64 N, .slice A Ws.length c]] w fun e W' => ∃ v, e = .returned v ∧ W'.ownsRow w.heap.size 3 1 v (gSt (told N Ws)).1.length ((gSt (told N Ws)).1.map (Value.int .i64)) ∧ Below w.heap.size w W' := by
  have h1 : 1 ≤ n := by omega
  obtain ⟨i0, hi, hz0, hz1, hz2⟩ := info_parts gInfo3
  refine callsIn_of_wp_marks Tryd.func15 rfl trivial ?_ rfl
  simp only [Tryd.ntmps15, List.size_toArray, List.length_cons, List.length_nil, Nat.reduceAdd, Nat.reduceSub, Array.replicate_succ, Array.replicate_zero, List.push_toArray, List.append_toArray, List.nil_append, List.cons_append]
  gi_wp2_with (refine ⟨trivial, ?_⟩; gi_at_call 8; refine (all_in (n - 1) N A Ws.length c _).mono ?_; rintro e w' ⟨rfl, rfl⟩)
  obtain ⟨W0, hW0⟩ : ∃ W0, ((((w.alloc (Obj.cells #[Value.int IntKind.i64 N, Value.slice A Ws.length c] 24)).alloc (Obj.cells #[Value.slice none 0 0] 26)).alloc (Obj.cells #[Value.int IntKind.i64 (-1)] 3)).alloc (Obj.cells #[Value.int IntKind.i64 N, Value.slice A Ws.length c] 24)) = W0 := ⟨_, rfl⟩
  have hB0 : Below w.heap.size w W0 := by rw [← hW0]; exact ((((Below.refl _ w).alloc (Nat.le_refl _) _).alloc (by simp) _).alloc (by simp; omega) _).alloc (by simp; omega) _
  have hsz : W0.heap.size = w.heap.size + 4 := by rw [← hW0]; simp
  have bL : Boxed W0 (w.heap.size + 1) 26 (.slice none 0 0) := by
    have h := Boxed.new (w.alloc (Obj.cells #[Value.int IntKind.i64 N, Value.slice A Ws.length c] 24)) 26 (.slice none 0 0)
    rw [World.size_alloc] at h
    rw [← hW0]
    exact (h.alloc _).alloc _
  have bI : Boxed W0 (w.heap.size + 1 + 1) 3 (.int .i64 (-1)) := by
    have h := Boxed.new ((w.alloc (Obj.cells #[Value.int IntKind.i64 N, Value.slice A Ws.length c] 24)).alloc (Obj.cells #[Value.slice none 0 0] 26)) 3 (.int .i64 (-1))
    rw [World.size_alloc, World.size_alloc] at h
    rw [← hW0]
    exact h.alloc _
  have bS : W0.heap[w.heap.size + 1 + 1 + 1]? = some (.cells #[.int .i64 N, .slice A Ws.length c] 24 (0, 0)) := by
    have h := World.alloc_heap_new (((w.alloc (Obj.cells #[Value.int IntKind.i64 N, Value.slice A Ws.length c] 24)).alloc (Obj.cells #[Value.slice none 0 0] 26)).alloc (Obj.cells #[Value.int IntKind.i64 (-1)] 3)) (Obj.cells #[Value.int IntKind.i64 N, Value.slice A Ws.length c] 24)
    rw [World.size_alloc, World.size_alloc, World.size_alloc] at h
    rw [← hW0]
    exact h
  rw [hW0]
  clear hW0
  have htl := told_len N Ws ok
  refine wpIn_rangeFunc_ownG rfl h1 (gf := 22) (lb := #[.pointer (some ⟨w.heap.size + 1 + 1 + 1, 0, none⟩)]) rfl trivial (enters_of Tryd.func22 (by kernel_rfl) rfl)
    (all_stops (n - 1) (by omega) (w.heap.size + 1 + 1 + 1) w.heap.size N Ws A c hcc hbig ok h00 W0 (by omega) (by omega) bS (Kd.C_below hC hB0) (hWs.below hB0) (hT.below h00 hB0)) belowK_t (belowK_b (by omega)) (Below.refl _ _) (fun _ => rfl)
    (fun pre W => ((∃ v, Boxed W (w.heap.size + 1) 26 v ∧ W.ownsRow W0.heap.size 3 1 v (gSt pre).1.length ((gSt pre).1.map (Value.int .i64)) ∧ True) ∧ Boxed W (w.heap.size + 1 + 1) 3 (.int .i64 (gSt pre).2)) ∧ Below w.heap.size w W ∧ W0.heap.size ≤ W.heap.size)
    (fun _ _ _ => False)
    (OwnFrom.and (OwnFrom.and (Own.from (holdsRow_own W0.heap.size (w.heap.size + 1) 26 3 1 (fun pre => (gSt pre).1.length) (fun pre => (gSt pre).1.map (Value.int .i64)) (fun _ _ => True)) _) (Own.from (boxed_own (w.heap.size + 1 + 1) 3 (fun pre => .int .i64 (gSt pre).2)) _)) (OwnFrom.and (ownFrom_below (Nat.le_refl _) (by omega)) (fun _ _ _ _ hs hg _ => Nat.le_trans hs hg.size)))
    (fun _ _ _ _ _ hs _ _ => hs)
    ⟨⟨⟨_, bL, World.ownsRow_nil _ _ _ _, trivial⟩, bI⟩, hB0, Nat.le_refl _⟩
    (fun x => { tmps := #[.agg #[.int .i64 N, .slice A Ws.length c], .pointer (some ⟨w.heap.size, 0, none⟩), .slice none 0 0, .pointer (some ⟨w.heap.size + 1, 0, none⟩), .pointer (some ⟨w.heap.size + 1 + 1, 0, none⟩), .int .i64 ((x.val : Nat) : Int), undef, .agg #[.int .i64 N, .slice A Ws.length c], .func (.func 22) #[] #[.pointer (some ⟨w.heap.size + 1 + 1 + 1, 0, none⟩)], .int .i64 ((x.val : Nat) : Int), undef, undef, undef, undef, undef, undef, undef, undef, undef, undef, undef], defers := [] }) ?assign ?body ?done ?stop
  case assign =>
    intro l x W K hK
    gi_wp2
    exact hK
  case body =>
    rintro l pre x W ⟨⟨⟨v, hv, hrow, _⟩, hl⟩, hB, hsz2⟩ hlt
    have hc := hv.cell
    have hlc := hl.cell
    have hlf := hl.frozen
    have hpl := gSt_len pre
    have hxl := x.isLt
    have hd : Int.tdiv ((x.val : Nat) : Int) 16 = ((x.val / 16 : Nat) : Int) := by rw [Int.tdiv_eq_ediv_of_nonneg (by omega)]; omega
    have hw : wrap64 ((x.val / 16 : Nat) : Int) = ((x.val / 16 : Nat) : Int) := by unfold wrap64; omega
    have hs := gSt_snoc pre x
    unfold gStep at hs
    by_cases hg : ((x.val / 16 : Nat) : Int) = (gSt pre).2
    · rw [if_pos hg] at hs
      rw [hg] at hd hw
      clear hg
      gi_wp2
      exact ⟨KeepsFrom.refl _ _, Below.refl _ _, ⟨⟨v, hv, by rw [hs]; exact hrow, trivial⟩, by rw [hs]; exact hl⟩, hB, hsz2⟩
    · rw [if_neg hg] at hs
      generalize ((x.val / 16 : Nat) : Int) = q at *
      have hb1 : (q != (gSt pre).2) = true := by simp [hg]
      gi_wp2_with (gi_at_builtin; refine wpListIn_append_own _ rfl _ _ 26 rfl W0.heap.size 3 i0 (.int .i64 0) 1 8 Tryd.underlying26 hi hz0 hz1 hz2 rfl (by decide) _ _ _ rfl (hrow.alloc _) ⟨W.heap.size, 0, none⟩ 1 1 [.int .i64 q] rfl rfl (cell_one_new _ _ _) (by simp [Value.oneCell']) (by unfold maxLen; omega) (by omega) (by simp; omega) ?_; intro v' w1 hown' hgrow _; obtain ⟨g', cap', rfl⟩ := ownsRow_succ hown'; obtain ⟨hv1, hv2, hr2, hk2, hb2⟩ := appended2 (n₀ := w.heap.size) hv (by decide) hrow (by omega) hsz2 (Nat.le_succ _) hown' hgrow; have hl1 := Boxed.ahead hl (by omega) hrow hgrow; have hlc1 := hl1.cell; have hlf1 := hl1.frozen; have hc1 := hv1.cell; have hf1 := hv1.frozen)
      have hb3 := hb2.setCell (p := ⟨w.heap.size + 1 + 1, 0, none⟩) (by show w.heap.size ≤ w.heap.size + 1 + 1; omega) (.int .i64 q)
      refine ⟨(hk2.trans (KeepsOthers.setCell _ _ _)).from _, hb3, ⟨⟨_, hv2.other (by omega) _, ?_, trivial⟩, ?_⟩, hB.trans hb3, Nat.le_trans hsz2 hb3.size⟩
      · rw [hs]
        have h := own_setCell hr2 (p := ⟨w.heap.size + 1 + 1, 0, none⟩) (fun e => by have := own_base hr2 _ e.symm; simp at this; omega) (.int .i64 q)
        simpa using h
      · rw [hs]
        exact (hl1.other (by omega) _).set _
  case done =>
    rintro D ys W hD rfl ⟨⟨⟨v, hv, hrow, _⟩, hl⟩, hB, hsz2⟩ hK
    have hc := hv.cell
    gi_wp2
    refine ⟨by simp, .inl ⟨_, _, rfl, run_takeDeferred hK, ?_⟩⟩
    exact ⟨_, results_tmp rfl _ _ _, v, rfl, own_weaken (ownsRow_putObj hrow _ hK rfl) (by omega), hB.trans (belowK_b (w := w) (Nat.le_refl _) W D _ _ (by omega) hK rfl rfl)⟩
  case stop =>
    rintro D c pre W _ _ h _
    exact h.elim
theorem wordsAt_of {w : World} {A : Option Addr} {Ws : List Int} (hC : Kd.C (Kd.int .u64) w A Ws.length Ws) : WordsAt w.heap.size w A Ws := fun j hj => by
  obtain ⟨ad, e, hc⟩ := Kd.at_int hC (j : Int) (by omega) (by omega)
  rw [Int.toNat_natCast, show rd Ws (j : Int) = Ws.getD j 0 by simp [rd]] at hc
  refine ⟨ad, e, ?_, hc⟩
  have hb := World.block_lt_of_cell? w _ hc
  unfold Addr.add at hb
  split at hb <;> exact hb
theorem rowset_Granules.calls (N : Int) (A : Option Addr) (c : Nat) (Ws : List Int) (r : List Int) (w : World) (hC : Kd.C (Kd.int .u64) w A Ws.length Ws) (hcc : Ws.length ≤ c) (h : rowset_Granules.f N Ws = some r)
    (hx : TzIn w := by refine TzIn.below (Aside0.out (by assumption)) ?_; repeat (first | (with_reducible first | exact Aside0.out (by assumption) | apply below_alloc | apply pw_below_drewN | apply below_drew1 | refine below_set ?_ (Aside0.out (by assumption))))) :
    Calls Tryd.prog 15 #[.agg #[.int .i64 N, .slice A Ws.length c]] w fun e w' => ∃ v0_ : Value, e = .returned (v0_) ∧ Kd.R (Kd.int .i64) 3 w' w.heap.size (fun _ => True) v0_ r ∧ Below w.heap.size w w' := by
  unfold rowset_Granules.f at h
  by_cases hok : okB Ws = true ∧ Ws.length ≤ 100000000
  case neg => rw [if_neg hok] at h; cases h
  rw [if_pos hok] at h
  obtain ⟨ok, hbig⟩ := hok
  replace ok := okB_iff.1 ok
  rw [toldB_eq ok hbig] at h
  obtain ⟨hT, h00⟩ := hx
  have hWs := wordsAt_of hC
  obtain rfl : (gSt (told N Ws)).1 = r := Option.some.inj h
  refine ((callsIn_wide (n := 3)).1 (gran_in 3 (by omega) N Ws A c hcc hbig ok w h00 hC hWs hT)).mono ?_
  rintro e w' ⟨v, rfl, ho, hb⟩
  exact ⟨v, rfl, Kd.R_of_own ho (fun _ _ => trivial), hb⟩
end Go.Proofs.YtiaaicmkpjlplaaDoor.P
