/- match: the terms of a row's runs, found once. -/
import Derived.Test.YtehaodbheifokaaGreatDoorTokCut
import Derived.Test.YtehaodbheifokaaGreatDoorFieldIn
import Derived.Deep.RegionLaw
namespace Go.Proofs.YtehaodbheifokaaGreatDoor.P
open Go Go.RowKit Go.Proofs.YtehaodbheifokaaGreatDoorW.PrintWords Go.Proofs.YtehaodbheifokaaGreatDoorW.PrintLast Go.Proofs.YtehaodbheifokaaGreatDoorW.PrintMore
set_option linter.unusedVariables false
set_option linter.unusedSimpArgs false

/-- A reader's cells: the row, whether it was cut, and its terms. -/
abbrev rdrC (s t : Int) (vl : Value) (b : Bool) (vt : Value) : Array Value := #[.int .i64 s, .int .i64 t, vl, .bool b, vt]
def strV (ts : List (List Int)) : List Value := ts.map (fun t => .string (bT t))
theorem gStr : (Tryz.prog.info? 9).map (fun i => (i.zero, i.size, i.bytes)) = some (some (.string ⟨#[]⟩), 1, 16) := by kernel_rfl
theorem flatT_len (ts : List (List Int)) : (flatT ts).length = 2 * ts.length := by
  unfold flatT
  rw [List.length_flatten]
  have : ∀ (l : List (List Int × Nat)), ((l.map (fun x => tokV x.2 x.1)).map List.length).sum = 2 * l.length := by
    intro l
    induction l with
    | nil => rfl
    | cons a l ih =>
      have h2 : (tokV a.2 a.1).length = 2 := rfl
      simp only [List.map_cons, List.sum_cons, List.length_cons]
      omega
  rw [this, List.length_zipIdx]
theorem flatT_get : ∀ (n : Nat) (ts : List (List Int)) (i : Nat) (hn : ts.length = n) (hi : i < ts.length), (flatT ts)[i * 2]? = some (.int .i64 (i : Int)) ∧ (flatT ts)[i * 2 + 1]? = some (.string (bT ts[i]))
  | 0, ts, i, hn, hi => by omega
  | n + 1, ts, i, hn, hi => by
    rcases List.eq_nil_or_concat ts with rfl | ⟨l, t, rfl⟩
    · simp at hn
    · simp only [List.concat_eq_append] at hn hi ⊢
      have hl := flatT_len l
      rw [List.length_append, List.length_singleton] at hi hn
      rw [flatT_snoc]
      by_cases h : i < l.length
      · obtain ⟨h1, h2⟩ := flatT_get n l i (by omega) h
        rw [List.getElem?_append_left (by omega), List.getElem?_append_left (by omega), h1, h2]
        exact ⟨rfl, by rw [List.getElem_append_left h]⟩
      · obtain rfl : i = l.length := by omega
        rw [List.getElem?_append_right (by omega), List.getElem?_append_right (by omega), hl]
        rw [show l.length * 2 - 2 * l.length = 0 by omega, show l.length * 2 + 1 - 2 * l.length = 1 by omega]
        exact ⟨rfl, by simp [tokV]⟩
theorem step_append_any {P : Program} {ops : Array Oper} {o : Oper} {a : Act} {w : World} {K : Act → World → Prop} {Q : Exit → Act → World → Prop} {E : Prop} (hgd : o.guard = none) (s x : Operand) (t : TypeId)
    (ho : o.op = .call { callee := .builtin .append, args := #[s, x], argTypes := #[t, t] })
    (base : Nat) (e : TypeId) (i : TypeInfo) (z : Value) (size bytes : Nat) (ht : P.underlying t = some (.slice e)) (hi : P.info? e = some i) (hz : i.zero = some z)
    (hsize : i.size = size) (hby : i.bytes = bytes) (hzs : z.cells.size = size) (hsz : 0 < size)
    (v : Value) (n : Nat) (xs : List Value) (hs : a.eval s = v) (hown : w.ownsRow base e size v n xs)
    (ad : Addr) (m c : Nat) (news : List Value) (hx : a.eval x = .slice (some ad) m c) (hl : news.length = m * size) (hnews : ∀ j u, news[j]? = some u → w.cell? (ad.add j) = some u) (h1 : ∀ u ∈ news, u.oneCell' = true)
    (h63 : n + m ≤ maxLen) (hbytes : (n + m) * bytes ≤ 140737488355328) (hbase : base ≤ w.heap.size)
    (h : ∀ v' w', w'.ownsRow base e size v' (n + m) (xs ++ news) → w.grownBy w' v.ownBlock → K (a.put o.dst v') w') :
    if Region.wanted o (yielded ops a.tmps) = true then Oper.wp P o a w K Q else E := by
  rw [if_pos (by simp [Region.wanted, hgd])]
  exact wp_append_own w s x t ho base e i z size bytes ht hi hz hsize hby hzs hsz v n xs hs hown ad m c news hx hl hnews h1 h63 hbytes hbase fun v' w' h2 h3 _ => h v' w' h2 h3
set_option maxHeartbeats 8000000 in
set_option maxRecDepth 100000 in
theorem tokens_calls (l : List Int) (A : Option Addr) (c R : Nat) (s t : Int) (w : World) (hC : (Kd.int .u8).C w A l.length l) (hc : l.length ≤ c) (hb : ∀ x ∈ l, 0 ≤ x ∧ x < 256) (hn : l.length ≤ 1099511627776)
    (hR : w.heap[R]? = some (.cells (rdrC s t (.slice A l.length c) false (.slice none 0 0)) 106 (0, 0))) :
    Calls Tryz.prog 87 #[.pointer (some ⟨R, 0, none⟩)] w fun e w' => ∃ v, e = .returned v ∧ w'.ownsRow w.heap.size 9 1 v (cutS none l).length (strV (cutS none l)) ∧
      w'.heap[R]? = some (.cells (rdrC s t (.slice A l.length c) true v) 106 (0, 0)) ∧ Below R w w' ∧ Kept w w' (fun k => k = R) := by
  obtain ⟨ts, hts⟩ : ∃ ts, ts = cutS none l := ⟨_, rfl⟩
  have hlen := (cutS_len l).1
  rw [← hts] at hlen ⊢
  have HTS := Aside0.mk hts
  clear hts
  have hRl : R < w.heap.size := blk_lt hR
  have r2 : w.cell? ⟨R, 2, none⟩ = some (.slice A l.length c) := (blk_cell hR 2).trans rfl
  have r3 : w.cell? ⟨R, 3, none⟩ = some (.bool false) := (blk_cell hR 3).trans rfl
  have HC := Aside0.mk hC
  have HR := Aside0.mk hR
  have HBY := Aside0.mk hb
  clear hC hR hb
  go_enter Tryz.func87, Tryz.ntmps87
  go_wp2_with fail
  refine (token_Cut.calls l A c _ HC.out hc HBY.out hn).mono ?_
  rintro e w1 ⟨v, rfl, hown, hb1⟩
  rw [← HTS.out] at hown
  obtain ⟨AT, cT, rfl, hcT⟩ := own_sl hown
  have HOT := Aside0.mk hown
  have HB1 := Aside0.mk hb1
  have HR1 := Aside0.mk (blk_below HR.out hb1)
  have HTL := Aside0.mk (show ts.length ≤ 1099511627776 by omega)
  clear hown hb1 r2 r3 hlen
  go_wp2_with fail
  go_loopg [17] ts.length (fun kq v17 wr => ∃ (i : Nat) (vt : Value), v17 = .int .i64 (i : Int) ∧ Aside0 (kq + i = ts.length) ∧ Aside0 (wr.heap[R]? = some (.cells (rdrC s t (.slice A l.length c) false vt) 106 (0, 0))) ∧ Aside0 (wr.ownsRow w.heap.size 9 1 vt i (strV (ts.take i))) ∧
    Aside0 (wr.ownsRow w.heap.size 118 2 (.slice AT ts.length cT) ts.length (flatT ts)) ∧ Aside0 (Below R w wr) ∧ Aside0 (Kept w wr (fun k => k = R)))
  case atStart => exact ⟨0, .slice none 0 0, rfl, ⟨by omega⟩, HR1, ⟨World.ownsRow_nil _ _ _ _⟩, HOT, ⟨HB1.out.mono (Nat.le_of_lt hRl)⟩, ⟨Kept.of_below HB1.out _⟩⟩
  case round =>
    obtain ⟨i, vt, rfl, HI, HRr, HOS, HOTr, HBr, HKr⟩ := hrel
    by_cases hi : i < ts.length
    · have d0 : decide ((i : Int) < (ts.length : Int)) = true := decide_eq_true (by omega)
      have d1 : decide (i < ts.length) = true := decide_eq_true hi
      obtain ⟨g, cap, hAT, hcell⟩ : ∃ g cap, Value.slice AT ts.length cT = .slice (some ⟨g, 0, none⟩) ts.length cap ∧ ∀ (j : Nat) u, (flatT ts)[j]? = some u → wr.cell? ⟨g, j, none⟩ = some u := by
        rcases HOTr.out.2 with ⟨h0, h1⟩ | ⟨g, cap, cur, h0, _, hg, _, _, _, htake⟩
        · omega
        · refine ⟨g, cap, h0, fun j u hu => ?_⟩
          rw [blk_cell hg]
          rw [← htake] at hu
          have hlt := (List.getElem?_eq_some_iff.1 hu).1
          rw [List.length_take] at hlt
          rw [List.getElem?_take_of_lt (by omega)] at hu
          simpa using hu
      cases hAT
      obtain ⟨f1, f2⟩ := flatT_get _ ts i rfl hi
      have c0 := hcell _ _ f1
      have c1 := hcell _ _ f2
      clear hcell f1 f2
      obtain ⟨As, cs, rfl, hcs⟩ := own_sl HOS.out
      have r4 : wr.cell? ⟨R, 4, none⟩ = some (.slice As i cs) := (blk_cell HRr.out 4).trans rfl
      have HT := Aside0.mk (show strV (ts.take i) ++ [.string (bT ts[i])] = strV (ts.take (i + 1)) by unfold strV; rw [List.take_succ_eq_append_getElem hi, List.map_append]; rfl)
      generalize bT ts[i] = tx at c1 HT
      have b4 : (wr.alloc (Obj.cells #[Value.int IntKind.i64 (i : Int), Value.string tx] 118)).heap[R]? = _ := blk_alloc HRr.out _
      have r5 : (wr.alloc (Obj.cells #[Value.int IntKind.i64 (i : Int), Value.string tx] 118)).cell? ⟨R, 4, none⟩ = some (.slice As i cs) := (blk_cell b4 4).trans rfl
      have r6 : ((wr.alloc (Obj.cells #[Value.int IntKind.i64 (i : Int), Value.string tx] 118)).alloc (Obj.cells #[Value.string tx] 9)).cell? ⟨R, 4, none⟩ = some (.slice As i cs) := (blk_cell (blk_alloc b4 _) 4).trans rfl
      have HB4 := Aside0.mk b4
      clear b4
      go_wp2_with fail
      obtain ⟨i0, hi0, hz0, hz1, hz2⟩ := info_parts gStr
      have HI2 := Aside0.mk hi
      go_region_law (refine step_append_any rfl (.tmp 25) (.tmp 28) 35 rfl w.heap.size 9 i0 (.string ⟨#[]⟩) 1 16 Tryz.underlying35 hi0 hz0 hz1 hz2 rfl (by decide) _ i (strV (ts.take i)) rfl (own_bel HOS.out (by repeat (first | exact Below.refl _ _ | apply pw_below_drewN | apply below_drew1 | apply below_drew | apply below_alloc))) ⟨wr.heap.size + 1, 0, none⟩ 1 1 [.string tx] rfl rfl (by intro j u h; have h2 := tok_cells (wr.alloc (Obj.cells #[Value.int IntKind.i64 (i : Int), Value.string tx] 118)) [.string tx] 9 j u h; rw [World.size_alloc] at h2; exact h2) (by simp [Value.oneCell']) (by have := HTL.out; unfold maxLen; omega) (by have := HTL.out; omega) (Nat.le_trans HBr.out.size (Below.size (show Below wr.heap.size wr _ from (by repeat (first | exact Below.refl _ _ | apply pw_below_drewN | apply below_drew1 | apply below_drew | apply below_alloc))))) ?_; intro v' w4 hown' hgrow; obtain ⟨A9, c9, rfl, hc9⟩ := own_sl hown'; have HO4 := Aside0.mk hown'; have hb5 := blk_grown (blk_below HRr.out (by repeat (first | exact Below.refl _ _ | apply pw_below_drewN | apply below_drew1 | apply below_drew | apply below_alloc))) hgrow (fun e => by have := own_base HOS.out R e.symm; omega); have r7 : w4.cell? ⟨R, 4, none⟩ = some (.slice As i cs) := (blk_cell hb5 4).trans rfl; have z7 := blk_frozen hb5 4; have HX := Aside0.mk hb5; have HT4 := Aside0.mk ((own_bel HOTr.out (by repeat (first | exact Below.refl _ _ | apply pw_below_drewN | apply below_drew1 | apply below_drew | apply below_alloc))).kept hgrow (own_apart (own_bel HOTr.out (by repeat (first | exact Below.refl _ _ | apply pw_below_drewN | apply below_drew1 | apply below_drew | apply below_alloc))) (own_bel HOS.out (by repeat (first | exact Below.refl _ _ | apply pw_below_drewN | apply below_drew1 | apply below_drew | apply below_alloc))) (by decide))); have HB4 := Aside0.mk (((HBr.out.trans ((show Below wr.heap.size wr _ from (by repeat (first | exact Below.refl _ _ | apply pw_below_drewN | apply below_drew1 | apply below_drew | apply below_alloc))).mono (by have := HBr.out.size; omega)))).grown hgrow (Nat.le_trans (show R ≤ wr.heap.size by have := HBr.out.size; omega) (Below.size (show Below wr.heap.size wr _ from (by repeat (first | exact Below.refl _ _ | apply pw_below_drewN | apply below_drew1 | apply below_drew | apply below_alloc))))) (fun k ek => by have := own_base HOS.out k ek; omega)); have HK4 := Aside0.mk (Kept.of_grown hgrow (HKr.out.below (by repeat (first | exact Below.refl _ _ | apply pw_below_drewN | apply below_drew1 | apply below_drew | apply below_alloc))) (fun k ek => .inr (own_base HOS.out k ek))); clear hown' hgrow hb5)
      all_goals (
        go_wp2_with fail
        rw [show wrap64 ((i : Int) + 1) = ((i + 1 : Nat) : Int) by have := HTL.out; have := HI2.out; unfold wrap64; omega]
        go_roundg (ts.length - i - 1)
        case measure => have := HI.out; have := HI2.out; omega
        case rel => exact ⟨i + 1, _, rfl, ⟨by have := HI.out; omega⟩, ⟨blk_put HX.out 4 _ rfl⟩, ⟨by rw [← HT.out]; exact ownsRow_setCell_other HO4.out (fun e => by have := own_base HO4.out R e; omega) _⟩, ⟨ownsRow_setCell_other HT4.out (fun e => by have := own_base HT4.out R e; omega) _⟩, ⟨HB4.out.setCell (p := ⟨R, 4, none⟩) (Nat.le_refl _) _⟩, ⟨HK4.out.setCell (p := ⟨R, 4, none⟩) (.inl rfl) _⟩⟩)
    · have hie : i = ts.length := by have := HI.out; omega
      have d0 : decide ((i : Int) < (ts.length : Int)) = false := decide_eq_false (by omega)
      have d1 : decide (i < ts.length) = false := decide_eq_false hi
      have r3 : wr.cell? ⟨R, 3, none⟩ = some (.bool false) := (blk_cell HRr.out 3).trans rfl
      have z3 := blk_frozen HRr.out 3
      have r4 : wr.cell? ⟨R, 4, none⟩ = some vt := (blk_cell HRr.out 4).trans rfl
      have HOS2 := Aside0.mk (show wr.ownsRow w.heap.size 9 1 vt ts.length (strV ts) by have h := HOS.out; rw [hie, List.take_length] at h; exact h)
      clear hie
      go_wp2_with fail
      go_ret
      exact ⟨vt, rfl, ownsRow_setCell_other HOS2.out (fun e => by have := own_base HOS2.out R e; omega) _, blk_put HRr.out 3 _ rfl, HBr.out.setCell (p := ⟨R, 3, none⟩) (Nat.le_refl _) _, HKr.out.setCell (p := ⟨R, 3, none⟩) (.inl rfl) _⟩
end Go.Proofs.YtehaodbheifokaaGreatDoor.P
