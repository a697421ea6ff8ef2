/- The walk of RowsetWalks: its loop ranges over rowset.All. -/
import Derived.Test.YtiaaicmkpjlplaaDoorGran
import Derived.Test.YtiaaicmkpjlplaaDoorP2
import Derived.Test.YtiaaicmkpjlplaaDoorP4
namespace Go.Proofs.YtiaaicmkpjlplaaDoor.P
open Go Go.RowKit Go.Shelf Go.Proofs.YtiaaicmkpjlplaaDoorW.PrintWords Go.Proofs.YtiaaicmkpjlplaaDoorW.PrintLast Go.Proofs.YtiaaicmkpjlplaaDoor.Pure
attribute [local go_sem] Oper.semAt_some
set_option linter.unusedVariables false

set_option maxRecDepth 100000 in
set_option maxHeartbeats 4000000 in
theorem walks_in (n k : Nat) (hn : 3 ≤ n) (N : Int) (Ws : List Int) (A : Option Addr) (c : Nat) (most : Int) (L : List Int) (hcc : Ws.length ≤ c) (hbig : Ws.length ≤ 100000000) (ok : okws Ws) (halive : dragnetlaw09_alive.f k = some true) (hList : dragnetref09_List.f k N Ws = some L)
    (hLL : L = (told N Ws).map (fun x => ((x.val : Nat) : Int))) (hL4 : L.length ≤ 4096)
    (w : World) (h00 : 0 < w.heap.size) (hC : Kd.C (Kd.int .u64) w A Ws.length Ws) (hWs : WordsAt w.heap.size w A Ws) (hT : TzLaid w) :
    CallsIn Fence.wide n Tryd.prog 3 #[.agg #[.int .i64 N, .slice A Ws.length c], .int .i64 most] w fun e W' => e = .returned (.bool true) ∧ Below w.heap.size w W' := by
  have h1 : 1 ≤ n := by omega
  refine callsIn_of_wp_marks Tryd.func3 rfl trivial ?_ rfl
  simp only [Tryd.ntmps3, List.size_toArray, List.length_cons, List.length_nil, Nat.reduceAdd, Nat.reduceSub, Array.replicate_succ, Array.replicate_zero, List.push_toArray, List.append_toArray, List.nil_append, List.cons_append]
  have HLL := Aside0.mk hLL
  clear hLL
  have hA0 : (((w.alloc (.cells #[.int .i64 N, .slice A Ws.length c] 24)).alloc (.cells #[.int .i64 most] 3)).alloc (.cells #[.bool false] 4)).heap[w.heap.size]? = some (.cells #[.int .i64 N, .slice A Ws.length c] 24 (0, 0)) := blk_alloc (blk_alloc (World.alloc_heap_new w _) _) _
  have hA1 : Boxed (((w.alloc (.cells #[.int .i64 N, .slice A Ws.length c] 24)).alloc (.cells #[.int .i64 most] 3)).alloc (.cells #[.bool false] 4)) (w.heap.size + 1) 3 (.int .i64 most) := by
    have h := Boxed.new (w.alloc (.cells #[.int .i64 N, .slice A Ws.length c] 24)) 3 (.int .i64 most)
    rw [World.size_alloc] at h
    exact h.alloc _
  have hA2 : Boxed (((w.alloc (.cells #[.int .i64 N, .slice A Ws.length c] 24)).alloc (.cells #[.int .i64 most] 3)).alloc (.cells #[.bool false] 4)) (w.heap.size + 1 + 1) 4 (.bool false) := by
    have h := Boxed.new ((w.alloc (.cells #[.int .i64 N, .slice A Ws.length c] 24)).alloc (.cells #[.int .i64 most] 3)) 4 (.bool false)
    rw [World.size_alloc, World.size_alloc] at h
    exact h
  have hBa : Below w.heap.size w (((w.alloc (.cells #[.int .i64 N, .slice A Ws.length c] 24)).alloc (.cells #[.int .i64 most] 3)).alloc (.cells #[.bool false] 4)) := (((Below.refl _ w).alloc (Nat.le_refl _) _).alloc (by simp) _).alloc (by simp; omega) _
  have hsa : (((w.alloc (.cells #[.int .i64 N, .slice A Ws.length c] 24)).alloc (.cells #[.int .i64 most] 3)).alloc (.cells #[.bool false] 4)).heap.size = w.heap.size + 3 := by simp
  gi_wp2_with (first
    | (refine ⟨trivial, ?_⟩; gi_at_call 6; refine (callsIn_wide.2 (dragnetlaw09_alive.calls k true _ halive)).mono ?_; rintro e w1 ⟨rfl, hb1⟩; have hs1 := (hb1.block w.heap.size (by rw [hsa]; omega)).trans hA0; have hc10 := (blk_cell hs1 0).trans rfl; have hc11 := (blk_cell hs1 1).trans rfl; have hz1 := hb1.size; rw [hsa] at hz1; have hC1 := Kd.C_below hC (hBa.trans (hb1.mono (by rw [hsa]; omega))))
    | (refine ⟨trivial, ?_⟩; gi_at_call 7; refine (callsIn_wide.2 (dragnetref09_List.calls k N A c Ws L _ hC1 hcc hList)).mono ?_; rintro e w2 ⟨vL, rfl, hR, hb2⟩; have hz2 := hb2.size; have hs2 := (hb2.block w.heap.size (by omega)).trans hs1; have hlt2 : w.heap.size < w2.heap.size := (by omega); obtain ⟨aL, cL, eL⟩ := Kd.R_slice hR; subst eL; have hs3 := blk_alloc (blk_alloc hs2 (.cells #[.slice aL L.length cL] 26)) (.cells #[.int .i64 0] 3); have hc30 := (blk_cell hs3 0).trans rfl; have hc31 := (blk_cell hs3 1).trans rfl)
    | (refine ⟨trivial, ?_⟩; gi_at_call 8; refine (all_in (n - 1) N A Ws.length c _).mono ?_; rintro e w' ⟨rfl, rfl⟩))
  obtain ⟨W0, hW0⟩ : ∃ W0, (((w2.alloc (Obj.cells #[.slice aL L.length cL] 26)).alloc (Obj.cells #[.int .i64 0] 3)).alloc (Obj.cells #[Value.int IntKind.i64 N, Value.slice A Ws.length c] 24)) = W0 := ⟨_, rfl⟩
  have hB02 : Below w2.heap.size w2 W0 := by rw [← hW0]; exact (((Below.refl _ w2).alloc (Nat.le_refl _) _).alloc (by simp) _).alloc (by simp; omega) _
  have hsz : W0.heap.size = w2.heap.size + 3 := by rw [← hW0]; simp
  have hBw2 : Below w.heap.size w w2 := (hBa.trans (hb1.mono (by rw [hsa]; omega))).trans (hb2.mono (by omega))
  have hB0 : Below w.heap.size w W0 := hBw2.trans (hB02.mono (by omega))
  have bL : Boxed W0 w2.heap.size 26 (.slice aL L.length cL) := by rw [← hW0]; exact ((Boxed.new w2 26 (.slice aL L.length cL)).alloc _).alloc _
  have bK : Boxed W0 (w2.heap.size + 1) 3 (.int .i64 0) := by
    have h := Boxed.new (w2.alloc (Obj.cells #[.slice aL L.length cL] 26)) 3 (.int .i64 0)
    rw [World.size_alloc] at h
    rw [← hW0]
    exact h.alloc _
  have bS : W0.heap[w2.heap.size + 1 + 1]? = some (.cells #[.int .i64 N, .slice A Ws.length c] 24 (0, 0)) := by
    have h := World.alloc_heap_new ((w2.alloc (Obj.cells #[.slice aL L.length cL] 26)).alloc (Obj.cells #[.int .i64 0] 3)) (Obj.cells #[Value.int IntKind.i64 N, Value.slice A Ws.length c] 24)
    rw [World.size_alloc, World.size_alloc] at h
    rw [← hW0]
    exact h
  have bM2 : Boxed w2 (w.heap.size + 1) 3 (.int .i64 most) := (hb2.block _ (by omega)).trans ((hb1.block _ (by rw [hsa]; omega)).trans hA1)
  have bM : Boxed W0 (w.heap.size + 1) 3 (.int .i64 most) := (hB02.block _ (by omega)).trans bM2
  have bR : Boxed W0 (w.heap.size + 1 + 1) 4 (.bool false) := (hB02.block _ (by omega)).trans ((hb2.block _ (by omega)).trans ((hb1.block _ (by rw [hsa]; omega)).trans hA2))
  have hCL := (Kd.R_reads' (e := 3) hR).2.2
  have hLcell : ∀ j : Nat, j < L.length → ∃ ad, aL = some ad ∧ ad.block < w2.heap.size ∧ W0.cell? (ad.add j) = some (.int .i64 (L.getD j 0)) := fun j hj => by
    obtain ⟨ad, e, hc⟩ := Kd.at_int hCL (j : Int) (by omega) (by omega)
    rw [Int.toNat_natCast, show rd L (j : Int) = L.getD j 0 by simp [rd]] at hc
    have hb := World.block_lt_of_cell? w2 _ hc
    refine ⟨ad, e, ?_, (hB02.cell hb).trans hc⟩
    unfold Addr.add at hb
    split at hb <;> exact hb
  rw [hW0]
  clear hW0 hs3 hc30 hc31 hA0 hA1 hA2 hBa hsa hs1 hc10 hc11 hC1 hR hCL hs2 bM2
  have h1' : 1 ≤ n - 1 := by omega
  refine wpIn_rangeFunc_ownG rfl h1 (gf := 22) (lb := #[.pointer (some ⟨w2.heap.size + 1 + 1, 0, none⟩)]) rfl trivial (enters_of Tryd.func22 (by kernel_rfl) rfl)
    (all_stops (n - 1) h1' (w2.heap.size + 1 + 1) (w2.heap.size + 1) N Ws A c hcc hbig ok (by omega) W0 (by omega) (by omega) bS (Kd.C_below hC hB0) (fun j hj => by obtain ⟨ad, e, hb, hc⟩ := (hWs.below hB0) j hj; exact ⟨ad, e, by omega, hc⟩) (hT.below h00 hB0)) belowK_t (belowK_b (by omega)) (Below.refl _ _) (fun _ => rfl)
    (fun (pre : List (Fin 4096)) W => ((pre.map (fun x => ((x.val : Nat) : Int)) = L.take pre.length ∧ pre.length ≤ L.length) ∧ Boxed W (w2.heap.size + 1) 3 (.int .i64 (pre.length : Int))) ∧ Below (w2.heap.size + 1) W0 W)
    (fun co (pre : List (Fin 4096)) W => (co = .ret ∧ ∃ b : Bool, Boxed W (w.heap.size + 1 + 1) 4 (.bool b) ∧ (b = false → ¬ pre <+: told N Ws)) ∧ Below w.heap.size w W)
    (OwnFrom.and (OwnFrom.and (ownFrom_pure _ (fun (pre : List (Fin 4096)) => pre.map (fun x => ((x.val : Nat) : Int)) = L.take pre.length ∧ pre.length ≤ L.length)) (Own.from (boxed_own (w2.heap.size + 1) 3 (fun (pre : List (Fin 4096)) => .int .i64 (pre.length : Int))) _)) (ownFrom_below (by omega) (by omega)))
    (fun co => OwnFrom.and (Own.from (fun s X Y row hs hg hr => by obtain ⟨e, b, hb, hp⟩ := hs; exact ⟨e, b, boxed_own _ _ (fun _ => Value.bool b) s X Y row hb hg hr, hp⟩) _) (ownFrom_below (Nat.le_refl _) (by omega)))
    ⟨⟨⟨by simp, Nat.zero_le _⟩, bK⟩, Below.refl _ _⟩
    (fun x => { tmps := #[.agg #[.int .i64 N, .slice A Ws.length c], .int .i64 most, .pointer (some ⟨w.heap.size, 0, none⟩), .pointer (some ⟨w.heap.size + 1, 0, none⟩), .pointer (some ⟨w.heap.size + 1 + 1, 0, none⟩), .pointer (some ⟨w2.heap.size, 0, none⟩), .pointer (some ⟨w2.heap.size + 1, 0, none⟩), .int .i64 ((x.val : Nat) : Int), .bool true, .bool false, .agg #[.int .i64 N, .slice A Ws.length c], .slice aL L.length cL, .agg #[.int .i64 N, .slice A Ws.length c], .func (.func 22) #[] #[.pointer (some ⟨w2.heap.size + 1 + 1, 0, none⟩)], .int .i64 ((x.val : Nat) : Int), undef, undef, undef, undef, undef, undef, undef, undef, undef, undef, undef, undef, undef, undef, undef, undef, undef, undef, undef, undef, undef], defers := [] }) ?assign ?body ?done ?stop
  case assign =>
    intro l x W K hK
    gi_wp2
    exact hK
  case body =>
    rintro l pre x W ⟨⟨⟨hp, hpl⟩, bk⟩, hB⟩ hlt
    have bl : Boxed W w2.heap.size 26 (.slice aL L.length cL) := (hB.block _ (by omega)).trans bL
    have br : Boxed W (w.heap.size + 1 + 1) 4 (.bool false) := (hB.block _ (by omega)).trans bR
    have bm : Boxed W (w.heap.size + 1) 3 (.int .i64 most) := (hB.block _ (by omega)).trans bM
    have hBW : Below w.heap.size w W := hB0.trans (hB.mono (by omega))
    have ck := bk.cell
    have fk := bk.frozen
    have cl := bl.cell
    have cr := br.cell
    have fr := br.frozen
    have cm := bm.cell
    by_cases hj : pre.length < L.length
    · obtain ⟨ad, hA, hadb, hcell⟩ := hLcell pre.length hj
      cases hA
      have hcl2 := (hB.cell (p := ad.add pre.length) (by unfold Addr.add; split <;> (show ad.block < _; omega))).trans hcell
      by_cases hx : L.getD pre.length 0 = ((x.val : Nat) : Int)
      · rw [hx] at hcl2
        have hp2 : (pre ++ [x]).map (fun x => ((x.val : Nat) : Int)) = L.take (pre ++ [x]).length := by
          rw [List.map_append, hp, List.length_append, List.length_singleton, List.take_add_one]
          congr 1
          rw [List.getD_eq_getElem?_getD, List.getElem?_eq_getElem hj] at hx
          rw [List.getElem?_eq_getElem hj]
          simpa using hx.symm
        clear hx hp
        by_cases hm : ((pre.length : Int) + 1) = most
        · have hbm : (((pre.length : Int) + 1) == most) = true := by simp [hm]
          clear hm
          gi_wp2
          exact ⟨((KeepsOthers.setCell _ _ _).trans (KeepsOthers.setCell _ _ _)).from _, ⟨rfl, true, (br.other (by omega) _).set _, fun h => by cases h⟩, (hBW.setCell (p := ⟨w2.heap.size + 1, 0, none⟩) (by show w.heap.size ≤ w2.heap.size + 1; omega) _).setCell (p := ⟨w.heap.size + 1 + 1, 0, none⟩) (by show w.heap.size ≤ w.heap.size + 1 + 1; omega) _⟩
        · have hbm : (((pre.length : Int) + 1) == most) = false := by simp [hm]
          clear hm
          gi_wp2
          exact ⟨(KeepsOthers.setCell _ _ _).from _, (Below.refl _ W).setCell (p := ⟨w2.heap.size + 1, 0, none⟩) (Nat.le_refl _) _, ⟨⟨hp2, by rw [List.length_append, List.length_singleton]; omega⟩, by rw [List.length_append, List.length_singleton, Int.natCast_add]; exact bk.set _⟩, hB.setCell (p := ⟨w2.heap.size + 1, 0, none⟩) (Nat.le_refl _) _⟩
      · have hnp : ¬ (pre ++ [x]) <+: told N Ws := fun hh => by
          obtain ⟨t, ht⟩ := hh
          have e : L = ((pre ++ [x]) ++ t).map (fun x => ((x.val : Nat) : Int)) := by rw [ht]; exact HLL.out
          apply hx
          rw [e, List.getD_eq_getElem?_getD]
          simp
        generalize L.getD pre.length 0 = y at *
        have hby : (y != ((x.val : Nat) : Int)) = true := by simp [hx]
        clear hx
        gi_wp2
        exact ⟨(KeepsOthers.setCell _ _ _).from _, ⟨rfl, false, br.set _, fun _ => hnp⟩, hBW.setCell (p := ⟨w.heap.size + 1 + 1, 0, none⟩) (by show w.heap.size ≤ w.heap.size + 1 + 1; omega) _⟩
    · have hnp : ¬ (pre ++ [x]) <+: told N Ws := fun hh => by
        obtain ⟨t, ht⟩ := hh
        have e : L = ((pre ++ [x]) ++ t).map (fun x => ((x.val : Nat) : Int)) := by rw [ht]; exact HLL.out
        apply hj
        rw [e]
        simp
      gi_wp2
      exact ⟨(KeepsOthers.setCell _ _ _).from _, ⟨rfl, false, br.set _, fun _ => hnp⟩, hBW.setCell (p := ⟨w.heap.size + 1 + 1, 0, none⟩) (by show w.heap.size ≤ w.heap.size + 1 + 1; omega) _⟩
  case done =>
    rintro D ys W hD rfl ⟨⟨⟨hp, hpl⟩, bk⟩, hB⟩ hK
    have bl : Boxed W w2.heap.size 26 (.slice aL L.length cL) := (hB.block _ (by omega)).trans bL
    have br : Boxed W (w.heap.size + 1 + 1) 4 (.bool false) := (hB.block _ (by omega)).trans bR
    have hBW : Below w.heap.size w W := hB0.trans (hB.mono (by omega))
    have ck := bk.cell
    have cl := bl.cell
    have cr := br.cell
    have fr := br.frozen
    have hlen : (told N Ws).length = L.length := by rw [HLL.out, List.length_map]
    rw [hlen] at ck
    clear hlen hp hpl bk bl
    gi_wp2
    have hK' := (KeepsOthers.setCell W ⟨w.heap.size + 1 + 1, 0, none⟩ (.bool true)).same D _ hK rfl
    refine ⟨by simp, .inl ⟨_, _, rfl, run_takeDeferred hK', ?_⟩⟩
    have hc5 := cell_kept (World.cell?_setCell_same' W ⟨w.heap.size + 1 + 1, 0, none⟩ (.bool true) (by rw [cr]; rfl)) (grownBy_putObj' _ D (.deferred none)) (fun r e => by cases e; exact ⟨_, hK', rfl⟩)
    refine ⟨.bool true, ?_, rfl, (hBW.setCell (p := ⟨w.heap.size + 1 + 1, 0, none⟩) (by show w.heap.size ≤ w.heap.size + 1 + 1; omega) _).trans (belowK_b (w := w) (Nat.le_refl _) _ D _ _ (by omega) hK' rfl rfl)⟩
    simp [results, Tryd.f3, go_sem, hc5]
  case stop =>
    rintro D co pre W hD hpre ⟨⟨rfl, b, bb, hb⟩, hB⟩ hK
    cases b
    · exact absurd hpre (hb rfl)
    · gi_wp2
      refine ⟨by simp, .inl ⟨_, _, rfl, run_takeDeferred hK, ?_⟩⟩
      have hc5 := cell_kept bb.cell (grownBy_putObj' _ D (.deferred none)) (fun r e => by cases e; exact ⟨_, hK, rfl⟩)
      refine ⟨.bool true, ?_, rfl, hB.trans (belowK_b (w := w) (Nat.le_refl _) _ D _ _ (by omega) hK rfl rfl)⟩
      simp [results, Tryd.f3, go_sem, hc5]
def dragnetlaw09_RowsetWalks.f (k : Nat) (N : Int) (Ws : List Int) (most : Int) : Option Bool :=
  match dragnetlaw09_alive.f k, dragnetref09_List.f k N Ws with
  | some true, some L => if okB Ws = true ∧ Ws.length ≤ 100000000 ∧ L = (toldB N Ws).map (fun x => ((x.val : Nat) : Int)) ∧ L.length ≤ 4096 then some true else none
  | _, _ => none
theorem dragnetlaw09_RowsetWalks.calls (k : Nat) (N : Int) (A : Option Addr) (c : Nat) (Ws : List Int) (most : Int) (w : World) (hC : Kd.C (Kd.int .u64) w A Ws.length Ws) (hcc : Ws.length ≤ c) (h : dragnetlaw09_RowsetWalks.f k N Ws most = some true) (hx : TzIn w) :
    Calls Tryd.prog 3 #[.agg #[.int .i64 N, .slice A Ws.length c], .int .i64 most] w fun e w' => e = .returned (.bool true) ∧ Below w.heap.size w w' := by
  unfold dragnetlaw09_RowsetWalks.f at h
  cases ha : dragnetlaw09_alive.f k with
  | none => rw [ha] at h; cases h
  | some b =>
    cases b with
    | false => rw [ha] at h; cases h
    | true =>
      cases hL : dragnetref09_List.f k N Ws with
      | none => rw [ha, hL] at h; cases h
      | some L =>
        rw [ha, hL] at h
        simp only at h
        split at h
        · rename_i hc
          obtain ⟨h1, h2, h3, h4⟩ := hc
          have ok := okB_iff.1 h1
          rw [toldB_eq ok h2] at h3
          exact (callsIn_wide (n := 3)).1 (walks_in 3 k (by omega) N Ws A c most L hcc h2 ok ha hL h3 h4 w hx.2 hC (wordsAt_of hC) hx.1)
        · cases h
end Go.Proofs.YtiaaicmkpjlplaaDoor.P
