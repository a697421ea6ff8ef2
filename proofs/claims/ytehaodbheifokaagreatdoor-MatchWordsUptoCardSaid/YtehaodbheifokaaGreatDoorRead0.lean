/- field.Read: the fields of a line. -/
import Derived.Test.YtehaodbheifokaaGreatDoorReadPre
namespace Go.Proofs.YtehaodbheifokaaGreatDoor.P
open Go Go.RowKit Go.Shelf Go.Proofs.YtehaodbheifokaaGreatDoorW.PrintWords Go.Proofs.YtehaodbheifokaaGreatDoorW.PrintLast
attribute [local go_sem] Oper.semAt_some
set_option linter.unusedVariables false
set_option linter.unusedSimpArgs false

/-- A list in a box grows: its rows lie from nb on, what lay below n₀ lies as it lay. -/
theorem appended2 {W w1 : World} {n₀ nb B : Nat} {t e : TypeId} {size : Nat} {v v' : Value} {k m : Nat} {xs ys : List Value} {tmp : Obj}
    (hv : Boxed W B t v) (hte : t ≠ e) (hrow : W.ownsRow nb e size v k xs) (hn : n₀ ≤ nb) (hnb : nb ≤ W.heap.size) (hB : n₀ ≤ B) (hown' : w1.ownsRow nb e size v' m ys) (hgrow : (W.alloc tmp).grownBy w1 v.ownBlock) :
    Boxed w1 B t v ∧ Boxed (w1.setCell ⟨B, 0, none⟩ v') B t v' ∧ (w1.setCell ⟨B, 0, none⟩ v').ownsRow nb e size v' m ys ∧ KeepsOthers W (w1.setCell ⟨B, 0, none⟩ v') ∧ Below n₀ W (w1.setCell ⟨B, 0, none⟩ v') := by
  have hv1 : Boxed w1 B t v := (hv.alloc tmp).kept hgrow (hv.not_row hte hrow)
  refine ⟨hv1, hv1.set v', own_setCell hown' (hv1.not_row hte hown') v', ?_, ?_⟩
  · refine ((KeepsOthers.alloc W tmp).trans (KeepsOthers.of_grownBy hgrow fun j o ej hj => ?_)).trans (KeepsOthers.setCell _ _ _)
    rcases (hrow.alloc tmp).2 with ⟨rfl, _⟩ | ⟨g, cap, cur, rfl, _, hgb, _⟩
    · simp [Value.ownBlock] at ej
    · obtain rfl : g = j := by simpa [Value.ownBlock] using ej
      rw [hgb] at hj; cases hj; rfl
  · exact (((Below.refl n₀ W).alloc (Nat.le_trans hn hnb) tmp).grown hgrow (by simp; omega) fun j ej => Nat.le_trans hn (own_base hrow j ej)).setCell (p := ⟨B, 0, none⟩) hB v'
theorem gInfo110 : (Tryz.prog.info? 110).map (fun i => (i.zero, i.size, i.bytes)) = some (some (.agg (cells110 z110).toArray), 4, 48) := by kernel_rfl
theorem keeps_below {W W' : World} (h : Below W.heap.size W W') : KeepsOthers W W' := KeepsOthers.of_grownBy (grown_of_below h) (fun j o e _ => by cases e)
theorem own_slice {w : World} {base : Nat} {e : TypeId} {size n : Nat} {v : Value} {xs : List Value} (h : w.ownsRow base e size v n xs) : ∃ A c, v = .slice A n c := by
  rcases h.2 with ⟨rfl, rfl⟩ | ⟨g, cap, cur, rfl, _⟩
  · exact ⟨_, _, rfl⟩
  · exact ⟨_, _, rfl⟩
theorem cells_new (w : World) (cs : List Value) (t : TypeId) : ∀ (j : Nat) u, cs[j]? = some u → (w.alloc (.cells cs.toArray t)).cell? ((⟨w.heap.size, 0, none⟩ : Addr).add j) = some u := fun j u h => by
  rw [WideShapes.add_plain, Nat.zero_add, blk_cell (World.alloc_heap_new w _)]
  simpa using h
/-- A word of a line that is told without fault. -/
def okWord (x : ByteArray) : Bool := (field_one.f (x.size + 8) x).isSome
def rdA (pre : List {x : ByteArray // okWord x = true}) : List S110 := rdSt (pre.map Subtype.val)
theorem rdA_snoc (pre : List {x : ByteArray // okWord x = true}) (x : {x : ByteArray // okWord x = true}) : rdA (pre ++ [x]) = rdStep (rdA pre) x.val := by unfold rdA; rw [List.map_append]; exact rdSt_snoc _ _
theorem rdA_le (pre : List {x : ByteArray // okWord x = true}) : (rdA pre).length ≤ 16 := rdSt_le _
set_option maxRecDepth 100000 in
set_option maxHeartbeats 8000000 in
theorem read_in (n : Nat) (hn : 3 ≤ n) (A : Option Addr) (c : Nat) (bs : List UInt8) (hcc : bs.length ≤ c) (hbig : bs.length ≤ 9223372036854775807) (w : World) (hX : FieldIn w) (hL : Lib.BytesAt w A bs.length bs) (hok : ∀ x ∈ wordsL bs, okWord x = true) :
    CallsIn Fence.wide n Tryz.prog 95 #[.slice A bs.length c] w fun e W' => ∃ v, e = .returned v ∧ W'.ownsRow w.heap.size 110 4 v (rdSt (wordsL bs)).length (flat (rdSt (wordsL bs))) ∧ Below w.heap.size w W' := by
  have h1 : 1 ≤ n := by omega
  obtain ⟨i0, hi, hz0, hz1, hz2⟩ := info_parts gInfo110
  refine callsIn_of_wp_marks Tryz.func95 rfl trivial ?_ rfl
  simp only [Tryz.ntmps95, List.size_toArray, List.length_cons, List.length_nil, Nat.reduceAdd, Nat.reduceSub, Array.replicate_succ, Array.replicate_zero, List.push_toArray, List.append_toArray, List.nil_append, List.cons_append]
  have HX := Aside0.mk hX
  have HL := Aside0.mk hL
  have HOK := Aside0.mk hok
  clear hX hL hok
  gi_wp2
  refine wpIn_wide.2 (wp_scope_straight ((wpIn_wide (n := n)).1 ?_))
  gi_wp2
  refine wpIn_label ?_
  gi_wp2_with (refine ⟨trivial, ?_⟩; gi_at_call 113; refine (words_in (n - 1) A bs.length c _).mono ?_; rintro e w' ⟨rfl, rfl⟩)
  obtain ⟨W0, hW0⟩ : ∃ W0, ((w.alloc (Obj.cells #[Value.slice none 0 0] 130)).alloc (Obj.cells #[Value.slice A bs.length c] 25)) = W0 := ⟨_, rfl⟩
  have hB0 : Below w.heap.size w W0 := by rw [← hW0]; exact ((Below.refl _ w).alloc (Nat.le_refl _) _).alloc (by simp) _
  have hsz : W0.heap.size = w.heap.size + 2 := by rw [← hW0]; simp
  have bL : Boxed W0 w.heap.size 130 (.slice none 0 0) := by
    rw [← hW0]
    exact (Boxed.new w 130 (.slice none 0 0)).alloc _
  have bS : W0.heap[w.heap.size + 1]? = some (.cells #[.slice A bs.length c] 25 (0, 0)) := by
    have h := World.alloc_heap_new (w.alloc (Obj.cells #[Value.slice none 0 0] 130)) (Obj.cells #[Value.slice A bs.length c] 25)
    rw [World.size_alloc] at h
    rw [← hW0]
    exact h
  rw [hW0]
  clear hW0
  have hS := Aside0.mk (words_stops (fun x => okWord x = true) (n - 1) (by omega) (w.heap.size + 1) w W0 A c bs hcc hbig HX.out HL.out HOK.out hB0 (by omega) bS)
  refine wpIn_rangeFunc_ownG rfl h1 (gf := 135) (lb := #[.pointer (some ⟨w.heap.size + 1, 0, none⟩)]) rfl trivial (enters_of Tryz.func135 (by kernel_rfl) rfl)
    hS.out belowK_t (belowK_b (by omega)) (Below.refl _ _) (fun _ => rfl)
    (fun pre W => (∃ v, Boxed W w.heap.size 130 v ∧ W.ownsRow W0.heap.size 110 4 v (rdA pre).length (flat (rdA pre)) ∧ True) ∧ Below w.heap.size w W ∧ W0.heap.size ≤ W.heap.size)
    (fun co pre W => (∃ v, Boxed W w.heap.size 130 v ∧ W.ownsRow W0.heap.size 110 4 v (rdA pre).length (flat (rdA pre)) ∧ (co = .exit 0 ∧ (rdA pre).length = 16)) ∧ Below w.heap.size w W ∧ W0.heap.size ≤ W.heap.size)
    (OwnFrom.and (Own.from (holdsRow_own W0.heap.size w.heap.size 130 110 4 (fun pre => (rdA pre).length) (fun pre => flat (rdA pre)) (fun _ _ => True)) _) (OwnFrom.and (ownFrom_below (Nat.le_refl _) (by omega)) (fun _ _ _ _ hs hg _ => Nat.le_trans hs hg.size)))
    (fun co => OwnFrom.and (Own.from (holdsRow_own W0.heap.size w.heap.size 130 110 4 (fun pre => (rdA pre).length) (fun pre => flat (rdA pre)) (fun pre _ => co = .exit 0 ∧ (rdA pre).length = 16)) _) (OwnFrom.and (ownFrom_below (Nat.le_refl _) (by omega)) (fun _ _ _ _ hs hg _ => Nat.le_trans hs hg.size)))
    ⟨⟨_, bL, World.ownsRow_nil _ _ _ _, trivial⟩, hB0, Nat.le_refl _⟩
    (fun x => { tmps := #[.slice A bs.length c, undef, .slice none 0 0, .pointer (some ⟨w.heap.size, 0, none⟩), .string x.val, undef, undef, .slice A bs.length c, .func (.func 135) #[] #[.pointer (some ⟨w.heap.size + 1, 0, none⟩)], .string x.val, undef, undef, undef, undef, undef, undef, undef, undef, undef, undef, undef, undef, undef, undef, undef, undef, undef, undef, undef, undef, undef, undef], defers := [] }) ?assign ?body ?done ?stop
  case assign =>
    intro l x W K hK
    gi_wp2
    exact hK
  case body =>
    rintro l pre ⟨x, hx⟩ W ⟨⟨v, hv, hrow, _⟩, hB, hsz2⟩ hlt
    have hs := rdA_snoc pre ⟨x, hx⟩
    have hle := rdA_le pre
    generalize rdA pre = st at hrow hs hle
    obtain ⟨A', c', rfl⟩ := own_slice hrow
    have hone : ∃ a b d e ok, field_one.f (x.size + 8) x = some (a, b, d, e, ok) := by
      unfold okWord at hx
      cases h : field_one.f (x.size + 8) x with
      | none => rw [h] at hx; cases hx
      | some r => obtain ⟨a, b, d, e, ok⟩ := r; exact ⟨a, b, d, e, ok, rfl⟩
    obtain ⟨a, b, d, e, ok, hone⟩ := hone
    have hT : oneT x = (⟨a, b, d, e⟩, ok) := by unfold oneT; rw [hone]
    unfold rdStep at hs
    rw [hT] at hs
    dsimp only at hs
    have HS := Aside0.mk hs
    have hC := Aside0.mk (field_one.calls (x.size + 8) x a b d e ok W hone (HX.out.below hB))
    have HOW := Aside0.mk hrow
    have HV := Aside0.mk hv
    have HB := Aside0.mk hB
    clear hone hT hrow hB hlt hs hv
    have h11 : 1 ≤ n - 1 - 1 := by omega
    by_cases h16 : st.length = 16
    · have hz : ((st.length : Int) == 16) = true := by rw [h16]; rfl
      have HS2 := Aside0.mk (HS.out.trans (if_pos h16))
      have H16 := Aside0.mk h16
      clear h16 HS
      gi_wp2_with (refine ⟨trivial, ?_⟩; gi_at_call 114; refine (CallsIn.inRound l (callsIn_wide.2 hC.out)).mono ?_; rintro e' w1 ⟨rfl, hb1⟩; have hv1 := (boxed_below HV.out hb1).alloc (Obj.cells #[.string a, .int .i64 b, .int .i64 d, .string e] 110); have hc1 := hv1.cell; have hf1 := hv1.frozen; have HV1 := Aside0.mk hv1; have HOW1 := Aside0.mk ((own_below HOW.out hb1).alloc (Obj.cells #[.string a, .int .i64 b, .int .i64 d, .string e] 110)); have hg1 := Aside0.mk (World.alloc_heap_new w1 (Obj.cells #[.string a, .int .i64 b, .int .i64 d, .string e] 110)); have HB1 := Aside0.mk (hb1.alloc hb1.size (Obj.cells #[.string a, .int .i64 b, .int .i64 d, .string e] 110)); clear hb1 hv1)
      exact ⟨(keeps_below HB1.out).from _, ⟨_, HV1.out, by rw [HS2.out]; exact HOW1.out, rfl, by rw [HS2.out]; exact H16.out⟩, HB.out.trans (HB1.out.mono (by omega)), Nat.le_trans hsz2 HB1.out.size⟩
    · have hz : ((st.length : Int) == 16) = false := beq_eq_false_iff_ne.2 (by omega)
      have HS2 := Aside0.mk (HS.out.trans (if_neg h16))
      clear h16 HS
      cases ok with
      | false =>
        have HS3 := Aside0.mk (HS2.out.trans (if_pos (Or.inl rfl)))
        clear HS2
        gi_wp2_with (refine ⟨trivial, ?_⟩; gi_at_call 114; refine (CallsIn.inRound l (callsIn_wide.2 hC.out)).mono ?_; rintro e' w1 ⟨rfl, hb1⟩; have hv1 := (boxed_below HV.out hb1).alloc (Obj.cells #[.string a, .int .i64 b, .int .i64 d, .string e] 110); have hc1 := hv1.cell; have hf1 := hv1.frozen; have HV1 := Aside0.mk hv1; have HOW1 := Aside0.mk ((own_below HOW.out hb1).alloc (Obj.cells #[.string a, .int .i64 b, .int .i64 d, .string e] 110)); have hg1 := Aside0.mk (World.alloc_heap_new w1 (Obj.cells #[.string a, .int .i64 b, .int .i64 d, .string e] 110)); have HB1 := Aside0.mk (hb1.alloc hb1.size (Obj.cells #[.string a, .int .i64 b, .int .i64 d, .string e] 110)); clear hb1 hv1)
        refine ⟨trivial, ?_⟩
        gi_wp2
        exact ⟨(keeps_below HB1.out).from _, HB1.out.mono (by omega), ⟨_, HV1.out, by rw [HS3.out]; exact HOW1.out, trivial⟩, HB.out.trans (HB1.out.mono (by omega)), Nat.le_trans hsz2 HB1.out.size⟩
      | true =>
        cases hany : st.any (fun z => decide (z.f0 = a)) with
        | true =>
          have HS3 := Aside0.mk (HS2.out.trans (if_pos (Or.inr hany)))
          clear HS2
          gi_wp2_with (first
            | (refine ⟨trivial, ?_⟩; gi_at_call 114; refine (CallsIn.inRound l (callsIn_wide.2 hC.out)).mono ?_; rintro e' w1 ⟨rfl, hb1⟩; have hv1 := (boxed_below HV.out hb1).alloc (Obj.cells #[.string a, .int .i64 b, .int .i64 d, .string e] 110); have hc1 := hv1.cell; have hf1 := hv1.frozen; have HV1 := Aside0.mk hv1; have HOW1 := Aside0.mk ((own_below HOW.out hb1).alloc (Obj.cells #[.string a, .int .i64 b, .int .i64 d, .string e] 110)); have hg1 := Aside0.mk (World.alloc_heap_new w1 (Obj.cells #[.string a, .int .i64 b, .int .i64 d, .string e] 110)); have HB1 := Aside0.mk (hb1.alloc hb1.size (Obj.cells #[.string a, .int .i64 b, .int .i64 d, .string e] 110)); clear hb1 hv1)
            | (refine ⟨trivial, ?_⟩; gi_at_call 115; refine (CallsIn.inRound l (callsIn_wide.2 (contains_calls W0.heap.size _ st w1.heap.size ⟨a, b, d, e⟩ _ hle HOW1.out hg1.out))).mono ?_; rintro e' w3 ⟨rfl, hb3⟩; rw [hany]; have hv3 := boxed_below HV1.out hb3; have hc3 := hv3.cell; have hf3 := hv3.frozen; have HV3 := Aside0.mk hv3; have HOW3 := Aside0.mk (own_below HOW1.out hb3); have hg3 := Aside0.mk ((hb3.block w1.heap.size (by simp)).trans hg1.out); have HB3 := Aside0.mk (HB1.out.trans (hb3.mono HB1.out.size)); have hd0 := (blk_cell hg3.out 0).trans rfl; have hd1 := (blk_cell hg3.out 1).trans rfl; have hd2 := (blk_cell hg3.out 2).trans rfl; have hd3 := (blk_cell hg3.out 3).trans rfl; clear hb3 hv3))
          exact ⟨(keeps_below HB3.out).from _, HB3.out.mono (by omega), ⟨_, HV3.out, by rw [HS3.out]; exact HOW3.out, trivial⟩, HB.out.trans (HB3.out.mono (by omega)), Nat.le_trans hsz2 HB3.out.size⟩
        | false =>
          have HS3 := Aside0.mk (HS2.out.trans (if_neg (by rw [hany]; simp)))
          clear HS2
          gi_wp2_with (first
            | (refine ⟨trivial, ?_⟩; gi_at_call 114; refine (CallsIn.inRound l (callsIn_wide.2 hC.out)).mono ?_; rintro e' w1 ⟨rfl, hb1⟩; have hv1 := (boxed_below HV.out hb1).alloc (Obj.cells #[.string a, .int .i64 b, .int .i64 d, .string e] 110); have hc1 := hv1.cell; have hf1 := hv1.frozen; have HV1 := Aside0.mk hv1; have HOW1 := Aside0.mk ((own_below HOW.out hb1).alloc (Obj.cells #[.string a, .int .i64 b, .int .i64 d, .string e] 110)); have hg1 := Aside0.mk (World.alloc_heap_new w1 (Obj.cells #[.string a, .int .i64 b, .int .i64 d, .string e] 110)); have HB1 := Aside0.mk (hb1.alloc hb1.size (Obj.cells #[.string a, .int .i64 b, .int .i64 d, .string e] 110)); clear hb1 hv1)
            | (refine ⟨trivial, ?_⟩; gi_at_call 115; refine (CallsIn.inRound l (callsIn_wide.2 (contains_calls W0.heap.size _ st w1.heap.size ⟨a, b, d, e⟩ _ hle HOW1.out hg1.out))).mono ?_; rintro e' w3 ⟨rfl, hb3⟩; rw [hany]; have hv3 := boxed_below HV1.out hb3; have hc3 := hv3.cell; have hf3 := hv3.frozen; have HV3 := Aside0.mk hv3; have HOW3 := Aside0.mk (own_below HOW1.out hb3); have hg3 := Aside0.mk ((hb3.block w1.heap.size (by simp)).trans hg1.out); have HB3 := Aside0.mk (HB1.out.trans (hb3.mono HB1.out.size)); have hd0 := (blk_cell hg3.out 0).trans rfl; have hd1 := (blk_cell hg3.out 1).trans rfl; have hd2 := (blk_cell hg3.out 2).trans rfl; have hd3 := (blk_cell hg3.out 3).trans rfl; clear hb3 hv3; have hsz3 : W0.heap.size ≤ w3.heap.size := Nat.le_trans hsz2 HB3.out.size)
            | (gi_at_builtin; refine wpListIn_append_own _ rfl _ _ 130 rfl W0.heap.size 110 i0 (.agg (cells110 z110).toArray) 4 48 Tryz.underlying130 hi hz0 hz1 hz2 rfl (by decide) _ _ _ rfl (HOW3.out.alloc _) ⟨w3.heap.size, 0, none⟩ 1 1 (cells110 ⟨a, b, d, e⟩) rfl rfl (cells_new _ _ _) (by simp [Value.oneCell', cells110]) (by unfold maxLen; omega) (by omega) (by simp; omega) ?_; intro v' w4 hown' hgrow _; obtain ⟨g', cap', rfl⟩ := ownsRow_succ hown'; obtain ⟨hv4, hv5, hr5, hk5, hb5⟩ := appended2 (n₀ := w.heap.size) HV3.out (by decide) HOW3.out (by omega) hsz3 (Nat.le_refl _) hown' hgrow; have hc4 := hv4.cell; have hf4 := hv4.frozen; have HV5 := Aside0.mk hv5; have HR5 := Aside0.mk hr5; have HK5 := Aside0.mk hk5; have HB5 := Aside0.mk hb5; clear hv4 hv5 hr5 hk5 hb5 hown' hgrow))
          have hB5 : Below w.heap.size W _ := (HB3.out.mono (by omega)).trans HB5.out
          exact ⟨((keeps_below HB3.out).trans HK5.out).from _, hB5, ⟨_, HV5.out, by rw [HS3.out, flat_snoc, List.length_append]; exact HR5.out, trivial⟩, HB.out.trans hB5, Nat.le_trans hsz2 hB5.size⟩
  case done =>
    rintro D ys W hD hys ⟨⟨v, hv, hrow, _⟩, hB, hsz2⟩ hK
    have hc := hv.cell
    unfold rdA at hrow
    rw [hys] at hrow
    clear hys
    gi_wp2
    refine ⟨by simp, .inl ⟨_, _, rfl, run_takeDeferred hK, ?_⟩⟩
    exact ⟨_, results_tmp rfl _ _ _, v, rfl, own_weaken (ownsRow_putObj hrow _ hK rfl) (by omega), hB.trans (belowK_b (w := w) (Nat.le_refl _) W D _ _ (by omega) hK rfl rfl)⟩
  case stop =>
    rintro D co pre W hD hpre ⟨⟨v, hv, hrow, rfl, h16⟩, hB, hsz2⟩ hK
    have hc := hv.cell
    unfold rdA at hrow h16
    rw [← rdSt_full hpre h16] at hrow
    clear hpre h16
    gi_wp2
    refine ⟨by simp, .inl ⟨_, _, rfl, run_takeDeferred hK, ?_⟩⟩
    exact ⟨_, results_tmp rfl _ _ _, v, rfl, own_weaken (ownsRow_putObj hrow _ hK rfl) (by omega), hB.trans (belowK_b (w := w) (Nat.le_refl _) W D _ _ (by omega) hK rfl rfl)⟩
def byteB (x : Int) : Bool := decide (0 ≤ x) && decide (x < 256)
theorem bytesAt_of {w : World} {A : Option Addr} {l : List Int} (h : Kd.C (Kd.int .u8) w A l.length l) (hb : l.all byteB = true) : Lib.BytesAt w A l.length (Lib.bytesOf l) := fun hn => by
  obtain ⟨ad, rfl, hc0⟩ := Kd.at_int h 0 (by omega) (by omega)
  obtain ⟨_, _, _, _, hsp⟩ := World.shape?_of_cell? hc0
  have hs : ad.spot = none := by
    cases ad with
    | mk b o sp => simpa [Addr.add] using hsp
  obtain ⟨b, o, sp⟩ := ad
  cases hs
  refine ⟨b, o, rfl, fun i hi => ?_⟩
  obtain ⟨ad, e, hc⟩ := Kd.at_int h (i : Int) (by omega) (by omega)
  cases e
  rw [Int.toNat_natCast, WideShapes.add_plain] at hc
  rw [hc]
  have hl : i < l.length := hi
  have hx : l[i] ∈ l := List.getElem_mem hl
  have hr := List.all_eq_true.1 hb _ hx
  simp only [byteB, Bool.and_eq_true, decide_eq_true_eq] at hr
  have e1 : rd l (i : Int) = l[i] := by simp [rd, List.getD, List.getElem?_eq_getElem hl]
  have e2 : (Lib.bytesOf l).getD i 0 = UInt8.ofNat (l[i]).toNat := by simp [Lib.bytesOf, List.getD, List.getElem?_eq_getElem hl]
  rw [e1, e2]
  congr 2
  simp only [UInt8.toNat_ofNat']
  omega
def field_Read.f (l0 : List Int) : Option (List S110) :=
  if l0.all byteB = true ∧ (wordsL (Lib.bytesOf l0)).all okWord = true then some (rdSt (wordsL (Lib.bytesOf l0))) else none
theorem field_Read.calls (A0 : Option Addr) (c0 : Nat) (l0 : List Int) (r : List S110) (w : World) (hr0 : Kd.C (Kd.int .u8) w A0 l0.length l0) (hc0 : l0.length ≤ c0) (h : field_Read.f l0 = some r) (hx : FieldIn w := by exact FieldIn.go (by assumption) (by assumption)) :
    Calls Tryz.prog 95 #[.slice A0 l0.length c0] w fun e w' => ∃ v0_ : Value, e = .returned (v0_) ∧ Kd.R k110 110 w' w.heap.size (fun _ => True) v0_ r ∧ Below w.heap.size w w' := by
  unfold field_Read.f at h
  split at h
  case isFalse => cases h
  case isTrue hok =>
    obtain ⟨h1, h2⟩ := hok
    obtain rfl := Option.some.inj h
    have hlen : (Lib.bytesOf l0).length = l0.length := by simp [Lib.bytesOf]
    have hL := bytesAt_of hr0 h1
    have hm : l0.length ≤ 9223372036854775807 := hr0.2.1
    rw [← hlen] at hL hc0 hm ⊢
    refine ((callsIn_wide (n := 3)).1 (read_in 3 (by omega) A0 c0 (Lib.bytesOf l0) hc0 hm w hx hL (fun x hxm => List.all_eq_true.1 h2 x hxm))).mono ?_
    rintro e w' ⟨v, rfl, ho, hb⟩
    exact ⟨v, rfl, R_flat ho, hb⟩
end Go.Proofs.YtehaodbheifokaaGreatDoor.P
