/- Joined by wip/tools/pack.py, pruned: Tokens, Phrase, HoldsG20, NodeB20. -/
import Derived.Test.YtehaodbheifokaaGreatDoorMs7
import Derived.Deep.RegionLaw
set_option maxHeartbeats 8000000
set_option maxRecDepth 100000
set_option linter.unusedVariables false
set_option linter.unusedSimpArgs false
section
namespace Go.Proofs.YtehaodbheifokaaGreatDoor.P
open Go Go.RowKit Go.Proofs.YtehaodbheifokaaGreatDoorW.PrintWords Go.Proofs.YtehaodbheifokaaGreatDoorW.PrintLast Go.Proofs.YtehaodbheifokaaGreatDoorW.PrintMore
abbrev rdrC (s t : Int) (vl : Value) (b : Bool) (vt : Value) : Array Value := #[.int .i64 s, .int .i64 t, vl, .bool b, vt]
def strV (ts : List (List Int)) : List Value := ts.map (fun t => .string (bT t))
theorem gStr : (Tryz.prog.info? 9).map (fun i => (i.zero, i.size, i.bytes)) = some (some (.string ⟨#[]⟩), 1, 16) := by kernel_rfl
theorem flatT_len (ts : List (List Int)) : (flatT ts).length = 2 * ts.length := by
 unfold flatT
 rw [List.length_flatten]
 have : ∀ (l : List (List Int × Nat)), ((l.map (fun x => tokV x.2 x.1)).map List.length).sum = 2 * l.length := by
  intro l
  induction l with
  | nil => rfl
  | cons a l ih =>
   have h2 : (tokV a.2 a.1).length = 2 := rfl
   simp only [List.map_cons, List.sum_cons, List.length_cons]
   omega
 rw [this, List.length_zipIdx]
theorem flatT_get : ∀ (n : Nat) (ts : List (List Int)) (i : Nat) (hn : ts.length = n) (hi : i < ts.length), (flatT ts)[i * 2]? = some (.int .i64 (i : Int)) ∧ (flatT ts)[i * 2 + 1]? = some (.string (bT ts[i]))
 | 0, ts, i, hn, hi => by omega
 | n + 1, ts, i, hn, hi => by
  rcases List.eq_nil_or_concat ts with rfl | ⟨l, t, rfl⟩
  ·simp at hn
  ·simp only [List.concat_eq_append] at hn hi ⊢
   have hl := flatT_len l
   rw [List.length_append, List.length_singleton] at hi hn
   rw [flatT_snoc]
   by_cases h : i < l.length
   ·obtain ⟨h1, h2⟩ := flatT_get n l i (by omega) h
    rw [List.getElem?_append_left (by omega), List.getElem?_append_left (by omega), h1, h2]
    exact ⟨rfl, by rw [List.getElem_append_left h]⟩
   ·obtain rfl : i = l.length := by omega
    rw [List.getElem?_append_right (by omega), List.getElem?_append_right (by omega), hl]
    rw [show l.length * 2 - 2 * l.length = 0 by omega, show l.length * 2 + 1 - 2 * l.length = 1 by omega]
    exact ⟨rfl, by simp [tokV]⟩
theorem step_append_any {P : Program} {ops : Array Oper} {o : Oper} {a : Act} {w : World} {K : Act → World → Prop} {Q : Exit → Act → World → Prop} {E : Prop} (hgd : o.guard = none) (s x : Operand) (t : TypeId)
  (ho : o.op = .call { callee := .builtin .append, args := #[s, x], argTypes := #[t, t] })
  (base : Nat) (e : TypeId) (i : TypeInfo) (z : Value) (size bytes : Nat) (ht : P.underlying t = some (.slice e)) (hi : P.info? e = some i) (hz : i.zero = some z)
  (hsize : i.size = size) (hby : i.bytes = bytes) (hzs : z.cells.size = size) (hsz : 0 < size)
  (v : Value) (n : Nat) (xs : List Value) (hs : a.eval s = v) (hown : w.ownsRow base e size v n xs)
  (ad : Addr) (m c : Nat) (news : List Value) (hx : a.eval x = .slice (some ad) m c) (hl : news.length = m * size) (hnews : ∀ j u, news[j]? = some u → w.cell? (ad.add j) = some u) (h1 : ∀ u ∈ news, u.oneCell' = true)
  (h63 : n + m ≤ maxLen) (hbytes : (n + m) * bytes ≤ 140737488355328) (hbase : base ≤ w.heap.size)
  (h : ∀ v' w', w'.ownsRow base e size v' (n + m) (xs ++ news) → w.grownBy w' v.ownBlock → K (a.put o.dst v') w') :
  if Region.wanted o (yielded ops a.tmps) = true then Oper.wp P o a w K Q else E := by
 rw [if_pos (by simp [Region.wanted, hgd])]
 exact wp_append_own w s x t ho base e i z size bytes ht hi hz hsize hby hzs hsz v n xs hs hown ad m c news hx hl hnews h1 h63 hbytes hbase fun v' w' h2 h3 _ => h v' w' h2 h3
theorem tokens_calls (l : List Int) (A : Option Addr) (c R : Nat) (s t : Int) (w : World) (hC : (Kd.int .u8).C w A l.length l) (hc : l.length ≤ c) (hb : ∀ x ∈ l, 0 ≤ x ∧ x < 256) (hn : l.length ≤ 1099511627776)
  (hR : w.heap[R]? = some (.cells (rdrC s t (.slice A l.length c) false (.slice none 0 0)) 106 (0, 0))) :
  Calls Tryz.prog 87 #[.pointer (some ⟨R, 0, none⟩)] w fun e w' => ∃ v, e = .returned v ∧ w'.ownsRow w.heap.size 9 1 v (cutS none l).length (strV (cutS none l)) ∧
   w'.heap[R]? = some (.cells (rdrC s t (.slice A l.length c) true v) 106 (0, 0)) ∧ Below R w w' ∧ Kept w w' (fun k => k = R) := by
 obtain ⟨ts, hts⟩ : ∃ ts, ts = cutS none l := ⟨_, rfl⟩
 have hlen := (cutS_len l).1
 rw [← hts] at hlen ⊢
 have HTS := Aside0.mk hts
 clear hts
 have hRl : R < w.heap.size := blk_lt hR
 have r2 : w.cell? ⟨R, 2, none⟩ = some (.slice A l.length c) := (blk_cell hR 2).trans rfl
 have r3 : w.cell? ⟨R, 3, none⟩ = some (.bool false) := (blk_cell hR 3).trans rfl
 have HC := Aside0.mk hC
 have HR := Aside0.mk hR
 have HBY := Aside0.mk hb
 clear hC hR hb
 go_enter Tryz.func87, Tryz.ntmps87
 go_wp2_with fail
 refine (token_Cut.calls l A c _ HC.out hc HBY.out hn).mono ?_
 rintro e w1 ⟨v, rfl, hown, hb1⟩
 rw [← HTS.out] at hown
 obtain ⟨AT, cT, rfl, hcT⟩ := own_sl hown
 have HOT := Aside0.mk hown
 have HB1 := Aside0.mk hb1
 have HR1 := Aside0.mk (blk_below HR.out hb1)
 have HTL := Aside0.mk (show ts.length ≤ 1099511627776 by omega)
 clear hown hb1 r2 r3 hlen
 go_wp2_with fail
 go_loopg [17] ts.length (fun kq v17 wr => ∃ (i : Nat) (vt : Value), v17 = .int .i64 (i : Int) ∧ Aside0 (kq + i = ts.length) ∧ Aside0 (wr.heap[R]? = some (.cells (rdrC s t (.slice A l.length c) false vt) 106 (0, 0))) ∧ Aside0 (wr.ownsRow w.heap.size 9 1 vt i (strV (ts.take i))) ∧
  Aside0 (wr.ownsRow w.heap.size 118 2 (.slice AT ts.length cT) ts.length (flatT ts)) ∧ Aside0 (Below R w wr) ∧ Aside0 (Kept w wr (fun k => k = R)))
 case atStart => exact ⟨0, .slice none 0 0, rfl, ⟨by omega⟩, HR1, ⟨World.ownsRow_nil _ _ _ _⟩, HOT, ⟨HB1.out.mono (Nat.le_of_lt hRl)⟩, ⟨Kept.of_below HB1.out _⟩⟩
 case round =>
  obtain ⟨i, vt, rfl, HI, HRr, HOS, HOTr, HBr, HKr⟩ := hrel
  by_cases hi : i < ts.length
  ·have d0 : decide ((i : Int) < (ts.length : Int)) = true := decide_eq_true (by omega)
   have d1 : decide (i < ts.length) = true := decide_eq_true hi
   obtain ⟨g, cap, hAT, hcell⟩ : ∃ g cap, Value.slice AT ts.length cT = .slice (some ⟨g, 0, none⟩) ts.length cap ∧ ∀ (j : Nat) u, (flatT ts)[j]? = some u → wr.cell? ⟨g, j, none⟩ = some u := by
    rcases HOTr.out.2 with ⟨h0, h1⟩ | ⟨g, cap, cur, h0, _, hg, _, _, _, htake⟩
    ·omega
    ·refine ⟨g, cap, h0, fun j u hu => ?_⟩
     rw [blk_cell hg]
     rw [← htake] at hu
     have hlt := (List.getElem?_eq_some_iff.1 hu).1
     rw [List.length_take] at hlt
     rw [List.getElem?_take_of_lt (by omega)] at hu
     simpa using hu
   cases hAT
   obtain ⟨f1, f2⟩ := flatT_get _ ts i rfl hi
   have c0 := hcell _ _ f1
   have c1 := hcell _ _ f2
   clear hcell f1 f2
   obtain ⟨As, cs, rfl, hcs⟩ := own_sl HOS.out
   have r4 : wr.cell? ⟨R, 4, none⟩ = some (.slice As i cs) := (blk_cell HRr.out 4).trans rfl
   have HT := Aside0.mk (show strV (ts.take i) ++ [.string (bT ts[i])] = strV (ts.take (i + 1)) by unfold strV; rw [List.take_succ_eq_append_getElem hi, List.map_append]; rfl)
   generalize bT ts[i] = tx at c1 HT
   have b4 : (wr.alloc (Obj.cells #[Value.int IntKind.i64 (i : Int), Value.string tx] 118)).heap[R]? = _ := blk_alloc HRr.out _
   have r5 : (wr.alloc (Obj.cells #[Value.int IntKind.i64 (i : Int), Value.string tx] 118)).cell? ⟨R, 4, none⟩ = some (.slice As i cs) := (blk_cell b4 4).trans rfl
   have r6 : ((wr.alloc (Obj.cells #[Value.int IntKind.i64 (i : Int), Value.string tx] 118)).alloc (Obj.cells #[Value.string tx] 9)).cell? ⟨R, 4, none⟩ = some (.slice As i cs) := (blk_cell (blk_alloc b4 _) 4).trans rfl
   have HB4 := Aside0.mk b4
   clear b4
   go_wp2_with fail
   obtain ⟨i0, hi0, hz0, hz1, hz2⟩ := info_parts gStr
   have HI2 := Aside0.mk hi
   go_region_law (refine step_append_any rfl (.tmp 25) (.tmp 28) 35 rfl w.heap.size 9 i0 (.string ⟨#[]⟩) 1 16 Tryz.underlying35 hi0 hz0 hz1 hz2 rfl (by decide) _ i (strV (ts.take i)) rfl (own_bel HOS.out bel5) ⟨wr.heap.size + 1, 0, none⟩ 1 1 [.string tx] rfl rfl (by intro j u h; have h2 := tok_cells (wr.alloc (Obj.cells #[Value.int IntKind.i64 (i : Int), Value.string tx] 118)) [.string tx] 9 j u h; rw [World.size_alloc] at h2; exact h2) (by simp [Value.oneCell']) (by have := HTL.out; unfold maxLen; omega) (by have := HTL.out; omega) (Nat.le_trans HBr.out.size (Below.size (show Below wr.heap.size wr _ from bel5))) ?_; intro v' w4 hown' hgrow; obtain ⟨A9, c9, rfl, hc9⟩ := own_sl hown'; have HO4 := Aside0.mk hown'; have hb5 := blk_grown (blk_below HRr.out bel5) hgrow (fun e => by have := own_base HOS.out R e.symm; omega); have r7 : w4.cell? ⟨R, 4, none⟩ = some (.slice As i cs) := (blk_cell hb5 4).trans rfl; have z7 := blk_frozen hb5 4; have HX := Aside0.mk hb5; have HT4 := Aside0.mk ((own_bel HOTr.out bel5).kept hgrow (own_apart (own_bel HOTr.out bel5) (own_bel HOS.out bel5) (by decide))); have HB4 := Aside0.mk (((HBr.out.trans ((show Below wr.heap.size wr _ from bel5).mono (by have := HBr.out.size; omega)))).grown hgrow (Nat.le_trans (show R ≤ wr.heap.size by have := HBr.out.size; omega) (Below.size (show Below wr.heap.size wr _ from bel5))) (fun k ek => by have := own_base HOS.out k ek; omega)); have HK4 := Aside0.mk (Kept.of_grown hgrow (HKr.out.below bel5) (fun k ek => .inr (own_base HOS.out k ek))); clear hown' hgrow hb5)
   all_goals (
    go_wp2_with fail
    rw [show wrap64 ((i : Int) + 1) = ((i + 1 : Nat) : Int) by have := HTL.out; have := HI2.out; unfold wrap64; omega]
    go_roundg (ts.length - i - 1)
    case measure => have := HI.out; have := HI2.out; omega
    case rel => exact ⟨i + 1, _, rfl, ⟨by have := HI.out; omega⟩, ⟨blk_put HX.out 4 _ rfl⟩, ⟨by rw [← HT.out]; exact ownsRow_setCell_other HO4.out (fun e => by have := own_base HO4.out R e; omega) _⟩, ⟨ownsRow_setCell_other HT4.out (fun e => by have := own_base HT4.out R e; omega) _⟩, ⟨HB4.out.setCell (p := ⟨R, 4, none⟩) (Nat.le_refl _) _⟩, ⟨HK4.out.setCell (p := ⟨R, 4, none⟩) (.inl rfl) _⟩⟩)
  ·have hie : i = ts.length := by have := HI.out; omega
   have d0 : decide ((i : Int) < (ts.length : Int)) = false := decide_eq_false (by omega)
   have d1 : decide (i < ts.length) = false := decide_eq_false hi
   have r3 : wr.cell? ⟨R, 3, none⟩ = some (.bool false) := (blk_cell HRr.out 3).trans rfl
   have z3 := blk_frozen HRr.out 3
   have r4 : wr.cell? ⟨R, 4, none⟩ = some vt := (blk_cell HRr.out 4).trans rfl
   have HOS2 := Aside0.mk (show wr.ownsRow w.heap.size 9 1 vt ts.length (strV ts) by have h := HOS.out; rw [hie, List.take_length] at h; exact h)
   clear hie
   go_wp2_with fail
   go_ret
   exact ⟨vt, rfl, ownsRow_setCell_other HOS2.out (fun e => by have := own_base HOS2.out R e; omega) _, blk_put HRr.out 3 _ rfl, HBr.out.setCell (p := ⟨R, 3, none⟩) (Nat.le_refl _) _, HKr.out.setCell (p := ⟨R, 3, none⟩) (.inl rfl) _⟩
theorem bytes_loop (s : ByteArray) : ∀ (d i : Nat) (r : List UInt8), s.size - i = d → ByteArray.toList.loop s i r = r.reverse ++ s.data.toList.drop i := by
 intro d
 induction d with
 | zero =>
  intro i r h
  rw [ByteArray.toList.loop.eq_1]
  have hs : s.data.toList.length = s.size := by rw [Array.length_toList]; rfl
  rw [if_neg (by omega), List.drop_of_length_le (by omega)]
  simp
 | succ d ih =>
  intro i r h
  rw [ByteArray.toList.loop.eq_1]
  have hs : s.data.toList.length = s.size := by rw [Array.length_toList]; rfl
  have hi : i < s.size := by omega
  have hi' : i < s.data.toList.length := by omega
  rw [if_pos hi, ih (i + 1) _ (by omega), List.drop_eq_getElem_cons hi']
  have e : s.get! i = s.data.toList[i] := by
   rw [Array.getElem_toList]
   show s.data[i]! = _
   exact getElem!_pos s.data i (by have : s.data.size = s.size := rfl; omega)
  rw [e]
  simp
theorem bytes_eq (s : ByteArray) : s.toList = s.data.toList := by
 show ByteArray.toList.loop s 0 [] = _
 rw [bytes_loop s s.size 0 [] rfl]
 simp
theorem bytes_inj {s t : ByteArray} : s.toList = t.toList ↔ s = t := by
 rw [bytes_eq, bytes_eq]
 constructor
 ·intro h
  cases s; cases t
  congr 1
  exact Array.toList_inj.1 h
 ·rintro rfl; rfl
theorem eqS_l0 : ∀ (k : Nat) (p q : List ByteArray) (i : Nat), p.length = q.length → i ≤ p.length → p.length ≤ 1099511627776 → p.length - i < k → slices_Equal_string_string.l0 k p q (p.length : Int) (i : Int) = some (decide (p.drop i = q.drop i))
 | 0, p, q, i, _, _, _, hk => by omega
 | k + 1, p, q, i, hl, hi, hb, hk => by
  unfold slices_Equal_string_string.l0
  by_cases h : i < p.length
  ·have hq : i < q.length := by omega
   rw [if_pos (by omega), if_pos (by omega), if_pos (by omega), if_pos (by omega)]
   have ep : rdOf ByteArray.empty p (i : Int) = p[i] := by simp [rdOf, List.getD, h]
   have eq : rdOf ByteArray.empty q (i : Int) = q[i] := by simp [rdOf, List.getD, hq]
   rw [ep, eq, show List.drop i p = p[i] :: List.drop (i + 1) p from List.drop_eq_getElem_cons h, show List.drop i q = q[i] :: List.drop (i + 1) q from List.drop_eq_getElem_cons hq]
   have ew : wrap64 ((i : Int) + 1) = ((i + 1 : Nat) : Int) := by unfold wrap64; omega
   rw [ew, eqS_l0 k p q (i + 1) hl (by omega) hb (by omega)]
   by_cases h2 : p[i] = q[i]
   ·rw [if_pos (by rw [h2])]
    congr 1
    rw [h2]
    simp only [List.cons.injEq, true_and]
   ·rw [if_neg (fun e => h2 (bytes_inj.1 e))]
    congr 1
    simp only [List.cons.injEq, h2, false_and, decide_false]
  ·rw [if_neg (by omega)]
   rw [List.drop_eq_nil_of_le (by omega), List.drop_eq_nil_of_le (by omega)]
   simp
theorem eqS_f (p q : List ByteArray) (hb : p.length ≤ 1099511627776) : slices_Equal_string_string.f (p.length + 1) p q = some (decide (p = q)) := by
 unfold slices_Equal_string_string.f
 by_cases h : p.length = q.length
 ·rw [if_pos (by omega)]
  have := eqS_l0 (p.length + 1) p q 0 h (Nat.zero_le _) hb (by omega)
  simpa using this
 ·rw [if_neg (by omega)]
  have : p ≠ q := fun e => h (by rw [e])
  simp [this]
def phraseB (all p : List ByteArray) : Bool := (List.range (all.length + 1 - p.length)).any fun i => decide ((all.drop i).take p.length = p)
theorem C_str {w : World} {ad : Addr} {n : Nat} {ts : List ByteArray} (hl : ts.length = n) (hn : n ≤ 9223372036854775807) (hc : ∀ (j : Nat) t, ts[j]? = some t → w.cell? (ad.add j) = some (.string t)) : Kd.C Kd.string w (some ad) n ts :=
 ⟨hl, hn, fun _ => ⟨ad, rfl, fun j p hj => ⟨[.string p], rfl, rfl, fun i u hi => by
  obtain ⟨rfl, rfl⟩ : i = 0 ∧ u = .string p := by
   cases i with
   | zero => simp at hi; exact ⟨rfl, hi.symm⟩
   | succ i => simp at hi
  rw [show j * Kd.string.sz + 0 = j by show j * 1 + 0 = j; omega]
  exact hc j p hj⟩⟩⟩
theorem C_none {w : World} (A : Option Addr) : Kd.C Kd.string w A 0 [] := ⟨rfl, Nat.zero_le _, fun h => absurd h (by omega)⟩
theorem win_C {w : World} {base : Nat} {AT : Option Addr} {n cT : Nat} {ts : List (List Int)} (h : w.ownsRow base 9 1 (.slice AT n cT) n (strV ts)) (hl : ts.length = n) (i m : Nat) (him : i + m ≤ n) (hn : n ≤ 1099511627776) :
  Kd.C Kd.string w (AT.map fun x => x.add i) m (((ts.map bT).drop i).take m) := by
 have hwl : (((ts.map bT).drop i).take m).length = m := by simp; omega
 rcases h.2 with ⟨h1, h2⟩ | ⟨g, cap, cur, hv, _, hk, hle, _, hsz, ht⟩
 ·obtain rfl : m = 0 := by omega
  exact ⟨hwl, Nat.zero_le _, fun h => absurd h (by omega)⟩
 ·cases hv
  refine C_str hwl (by omega) fun j t hj => ?_
  show w.cell? (Addr.add (Addr.add ⟨g, 0, none⟩ i) j) = _
  rw [WideShapes.add_plain, WideShapes.add_plain, blk_cell hk]
  have hjm : j < m := by have := (List.getElem?_eq_some_iff.1 hj).1; omega
  rw [List.getElem?_take_of_lt hjm, List.getElem?_drop, List.getElem?_map] at hj
  obtain ⟨tt, h3, rfl⟩ := Option.map_eq_some_iff.1 hj
  have e1 : (cur.toList.take (n * 1))[i + j]? = some (.string (bT tt)) := by rw [ht]; unfold strV; rw [List.getElem?_map, h3]; rfl
  rw [List.getElem?_take_of_lt (by omega)] at e1
  rw [Nat.zero_add, ← Array.getElem?_toList, e1]
theorem Kd.C_kept_came1 {w W : World} {AP : Option Addr} {p : List ByteArray} {R : Nat} (h : Kd.C Kd.string w AP p.length p) (hk : Kept w W (fun k => k = R)) (hA : ∀ a, AP = some a → a.block ≠ R) : Kd.C Kd.string W AP p.length p := by
 refine ⟨h.1, h.2.1, fun h0 => ?_⟩
 obtain ⟨ad, rfl, hc⟩ := h.2.2 h0
 refine ⟨ad, rfl, fun j q hj => ?_⟩
 obtain ⟨cs, h1, h2, h3⟩ := hc j q hj
 exact ⟨cs, h1, h2, fun i u hi => cell_kept (h3 i u hi) hk (by rw [show (ad.add (j * Kd.string.sz + i)).block = ad.block by unfold Addr.add; split <;> rfl]; exact hA ad rfl)⟩
theorem phrase_yes {all p : List ByteArray} {i : Nat} (hi : i < all.length + 1 - p.length) (h : (all.drop i).take p.length = p) : phraseB all p = true :=
 List.any_eq_true.2 ⟨i, List.mem_range.2 hi, decide_eq_true h⟩
theorem phrase_no {all p : List ByteArray} (h : ∀ j, j < all.length + 1 - p.length → (all.drop j).take p.length ≠ p) : phraseB all p = false := by
 cases e : phraseB all p with
 | false => rfl
 | true =>
  obtain ⟨i, hi, h2⟩ := List.any_eq_true.1 e
  exact absurd (of_decide_eq_true h2) (h i (List.mem_range.1 hi))
end Go.Proofs.YtehaodbheifokaaGreatDoor.P
end
section
namespace Go.Proofs.YtehaodbheifokaaGreatDoor.P
open Go Go.RowKit Go.Proofs.YtehaodbheifokaaGreatDoorW.PrintWords Go.Proofs.YtehaodbheifokaaGreatDoorW.PrintLast Go.Proofs.YtehaodbheifokaaGreatDoorW.PrintMore
attribute [local go_sem] max2_int min2_int max_two min_two
theorem own_lower {w : World} {b b' : Nat} {e : TypeId} {size n : Nat} {v : Value} {xs : List Value} (hb : b ≤ b') (h : w.ownsRow b' e size v n xs) : w.ownsRow b e size v n xs :=
 ⟨h.1, h.2.imp id (fun ⟨g, cap, cur, h1, h2, h3⟩ => ⟨g, cap, cur, h1, Nat.le_trans hb h2, h3⟩)⟩
def valN (lv : ND → Bool) (h : List Bool) (n : ND) : Bool :=
 if n.f0 = 10 then h.getD n.f1.toNat false && h.getD n.f2.toNat false
 else if n.f0 = 11 then h.getD n.f1.toNat false || h.getD n.f2.toNat false
 else if n.f0 = 12 then !h.getD n.f1.toNat false
 else lv n
def heldL (lv : ND → Bool) : List ND → List Bool → List Bool
 | [], h => h
 | n :: r, h => heldL lv r (h ++ [valN lv h n])
def holdsB (lv : ND → Bool) (ns : List ND) : Bool := (heldL lv ns []).getD (ns.length - 1) false
theorem bools_cell {w : World} {g t : Nat} {xs : List Bool} {j : Nat} {x : Bool} (h : w.heap[g]? = some (.cells (bools xs).toArray t (0, 0))) (hx : xs[j]? = some x) : w.cell? ⟨g, j, none⟩ = some (.bool x) := by
 rw [blk_cell h]
 simp [bools, hx]
theorem bools_put {w : World} {g t : Nat} {xs : List Bool} (h : w.heap[g]? = some (.cells (bools xs).toArray t (0, 0))) (j : Nat) (x : Bool) : (w.setCell ⟨g, j, none⟩ (.bool x)).heap[g]? = some (.cells (bools (xs.set j x)).toArray t (0, 0)) := by
 refine blk_put h j _ ?_
 simp [bools, List.map_set]
theorem made_bools (m : Nat) : madeCells #[Value.bool false] m = (bools (List.replicate m false)).toArray := by
 have hl : (madeCells #[Value.bool false] m).toList = bools (List.replicate m false) := by
  apply List.ext_getElem
  ·simp [bools, madeCells]
  ·intro i h1 h2
   simp [bools, madeCells, Nat.mod_one]
 rw [← hl, Array.toArray_toList]
theorem held_set (h : List Bool) (m : Nat) (x : Bool) (hm : 0 < m) : (h ++ List.replicate m false).set h.length x = (h ++ [x]) ++ List.replicate (m - 1) false := by
 obtain ⟨m, rfl⟩ : ∃ k, m = k + 1 := ⟨m - 1, by omega⟩
 rw [List.set_append_right _ _ (Nat.le_refl _), Nat.sub_self, List.replicate_succ, List.set_cons_zero]
 simp
theorem held_get {h : List Bool} {m p : Nat} (hp : p < h.length) : (h ++ List.replicate m false)[p]? = some (h.getD p false) := by
 rw [List.getElem?_append_left hp, List.getD_eq_getElem?_getD, List.getElem?_eq_getElem hp]
 rfl
def RdS (base : Nat) (l : List Int) (s t : Int) (vl : Value) (R : Nat) (W : World) : Prop :=
 ∃ b vt, W.heap[R]? = some (.cells (rdrC s t vl b vt) 106 (0, 0)) ∧ ((b = false ∧ vt = .slice none 0 0) ∨ (b = true ∧ W.ownsRow base 9 1 vt (cutS none l).length (strV (cutS none l))))
theorem RdS.below {base : Nat} {l : List Int} {s t : Int} {vl : Value} {R : Nat} {W W' : World} (h : RdS base l s t vl R W) (hb : Below W.heap.size W W') : RdS base l s t vl R W' := by
 obtain ⟨b, vt, h1, h2⟩ := h
 exact ⟨b, vt, blk_below h1 hb, h2.imp id (fun h3 => ⟨h3.1, pw_own_below h3.2 hb⟩)⟩
theorem RdS.far {base : Nat} {l : List Int} {s t : Int} {vl : Value} {R : Nat} {W : World} (h : RdS base l s t vl R W) {g : Nat} (hg : R ≠ g) (hb : g < base) (j : Nat) (u : Value) : RdS base l s t vl R (W.setCell ⟨g, j, none⟩ u) := by
 obtain ⟨b, vt, h1, h2⟩ := h
 exact ⟨b, vt, blk_far h1 (p := ⟨g, j, none⟩) hg u, h2.imp id (fun h3 => ⟨h3.1, ownsRow_setCell_other h3.2 (fun e => by have := own_base h3.2 g e; omega) _⟩)⟩
def LeafOK (w : World) (l : List Int) (s t : Int) (vl : Value) (n : ND) (b : Bool) : Prop :=
 ∀ (W : World) (A : Option Addr) (c : Nat), Below w.heap.size w W → w.heap.size + 3 ≤ W.heap.size → RdS (w.heap.size + 3) l s t vl (w.heap.size + 1) W → Kd.string.C w A n.f4.length n.f4 → n.f4.length ≤ c →
  Calls Tryz.prog 64 #[.pointer (some ⟨w.heap.size + 1, 0, none⟩), .agg #[.int .i64 n.f0, .int .i64 n.f1, .int .i64 n.f2, .string n.f3, .slice A n.f4.length c, .string n.f5, .int .i64 n.f6, .int .i64 n.f7]] W fun e w' =>
   e = .returned (.bool b) ∧ RdS (w.heap.size + 3) l s t vl (w.heap.size + 1) w' ∧ Below (w.heap.size + 1) W w' ∧ Kept W w' (fun k => k = w.heap.size + 1)
theorem bools_next {h : List Bool} {i n : Nat} (hl : h.length = i) (hi : i < n) {x : Bool} : bools ((h ++ [x]) ++ List.replicate (n - (i + 1)) false) = bools ((h ++ List.replicate (n - i) false).set i x) := by
 subst hl
 rw [held_set h _ x (by omega), show n - (h.length + 1) = n - h.length - 1 by omega]
theorem info_boolG : (Tryz.prog.info? 4).map (fun i => (i.zero, i.size, i.bytes)) = some (some (.bool false), 1, 1) := by kernel_rfl
theorem holds_calls (A : Option Addr) (c : Nat) (ns : List ND) (l : List Int) (s t : Int) (vl : Value) (lv : ND → Bool) (w : World) (hvl : ∃ a n m, vl = .slice a n m) (hC : Kd.C k37 w A ns.length ns) (hc : ns.length ≤ c) (h1 : 1 ≤ ns.length) (h2 : ns.length ≤ 64)
  (hP : ∀ (i : Nat) n, ns[i]? = some n → (partsN n).all (inN i) = true) (hL : ∀ n ∈ ns, n.f0 ≠ 10 → n.f0 ≠ 11 → n.f0 ≠ 12 → LeafOK w l s t vl n (lv n)) :
  Calls Tryz.prog 39 #[.slice A ns.length c, .agg #[.int .i64 s, .int .i64 t, vl]] w fun e w' => e = .returned (.bool (holdsB lv ns)) ∧ Below w.heap.size w w' := by
 obtain ⟨la, ln, lm, rfl⟩ := hvl
 have hmk := print_make_int (P := Tryz.prog) 107 4 (.bool false) 1 Tryz.underlying107 info_boolG rfl (by decide) ns.length (by omega) (by omega)
 rw [Int.toNat_natCast] at hmk
 have HC := Aside0.mk hC
 have HP := Aside0.mk hP
 have HL := Aside0.mk hL
 clear hC hP hL
 go_enter Tryz.func39, Tryz.ntmps39
 go_wp2_with fail
 obtain ⟨wS, hwS⟩ : ∃ wS, wS = (((w.alloc (Obj.cells #[.int .i64 s, .int .i64 t, .slice la ln lm] 27)).alloc (Obj.cells (rdrC s t (.slice la ln lm) false (.slice none 0 0)) 106)).alloc (Obj.cells (madeCells #[.bool false] ns.length) 4)) := ⟨_, rfl⟩
 have HR := Aside0.mk (show RdS (w.heap.size + 3) l s t (.slice la ln lm) (w.heap.size + 1) wS by
  refine ⟨false, .slice none 0 0, ?_, .inl ⟨rfl, rfl⟩⟩
  rw [hwS]
  have h := blk_new (w.alloc (Obj.cells #[.int .i64 s, .int .i64 t, .slice la ln lm] 27)) (Obj.cells (rdrC s t (.slice la ln lm) false (.slice none 0 0)) 106)
  rw [World.size_alloc] at h
  exact blk_alloc h _)
 have HH := Aside0.mk (show wS.heap[w.heap.size + 1 + 1]? = some (.cells (bools (List.replicate ns.length false)).toArray 4 (0, 0)) by
  have h := blk_new ((w.alloc (Obj.cells #[.int .i64 s, .int .i64 t, .slice la ln lm] 27)).alloc (Obj.cells (rdrC s t (.slice la ln lm) false (.slice none 0 0)) 106)) (Obj.cells (madeCells #[.bool false] ns.length) 4)
  rw [World.size_alloc, World.size_alloc] at h
  rw [hwS, h, made_bools])
 have HB := Aside0.mk (show Below w.heap.size w wS by rw [hwS]; repeat (first | exact Below.refl _ _ | apply below_alloc))
 have HSZ := Aside0.mk (show w.heap.size + 3 ≤ wS.heap.size by rw [hwS]; simp)
 rw [← hwS]
 clear hwS hmk
 go_loopg [17] ns.length (fun kq v17 wr => ∃ (i : Nat) (h : List Bool), v17 = .int .i64 (i : Int) ∧ Aside0 (kq + i = ns.length) ∧ Aside0 (h.length = i) ∧ Aside0 (heldL lv (ns.drop i) h = heldL lv ns []) ∧ Aside0 (Below w.heap.size w wr) ∧ Aside0 (w.heap.size + 3 ≤ wr.heap.size) ∧ Aside0 (RdS (w.heap.size + 3) l s t (.slice la ln lm) (w.heap.size + 1) wr) ∧ Aside0 (wr.heap[w.heap.size + 1 + 1]? = some (.cells (bools (h ++ List.replicate (ns.length - i) false)).toArray 4 (0, 0))))
 case atStart => exact ⟨0, [], rfl, ⟨rfl⟩, ⟨rfl⟩, ⟨rfl⟩, HB, HSZ, HR, HH⟩
 case round =>
  clear HB HSZ HR HH
  obtain ⟨i, h, rfl, HI, HHL, HS, HBr, HSr, HRr, HHr⟩ := hrel
  by_cases hi : i < ns.length
  ·have d3 : decide ((i : Int) < (ns.length : Int)) = true := decide_eq_true (by omega)
   have d4 : decide (i < ns.length) = true := decide_eq_true hi
   obtain ⟨ad, A4, c4, rfl, k0, k1, k2, k3, k4, k5, k6, k7, l4, g4⟩ := at_T37 HC.out (i : Int) (by omega) (by omega)
   replace k0 := pw_cell_below HBr.out k0
   replace k1 := pw_cell_below HBr.out k1
   replace k2 := pw_cell_below HBr.out k2
   replace k3 := pw_cell_below HBr.out k3
   replace k4 := pw_cell_below HBr.out k4
   replace k5 := pw_cell_below HBr.out k5
   replace k6 := pw_cell_below HBr.out k6
   replace k7 := pw_cell_below HBr.out k7
   rw [Int.toNat_natCast] at k0 k1 k2 k3 k4 k5 k6 k7
   obtain ⟨n, hn⟩ : ∃ n, rd_T37 ns (i : Int) = n := ⟨_, rfl⟩
   rw [hn] at k0 k1 k2 k3 k4 k5 k6 k7 l4 g4
   have HNE := Aside0.mk (show ns[i]? = some n by rw [← hn]; simp [rd_T37, hi])
   have G4 := Aside0.mk g4
   clear hn g4
   have HI2 := Aside0.mk hi
   have HDR := Aside0.mk (show ns.drop i = n :: ns.drop (i + 1) by rw [List.drop_eq_getElem_cons hi]; have h := HNE.out; rw [List.getElem?_eq_getElem hi] at h; rw [Option.some.inj h])
   by_cases e10 : n.f0 = 10
   ·have d20 : (n.f0 == 10) = true := beq_iff_eq.2 e10
    have HPN := HP.out i n HNE.out
    rw [show partsN n = [n.f1, n.f2] by unfold partsN; rw [if_pos (.inl e10)]] at HPN
    simp only [List.all_cons, List.all_nil, inN, Bool.and_true, Bool.and_eq_true, decide_eq_true_eq] at HPN
    obtain ⟨⟨ha0, ha1⟩, hb0, hb1⟩ := HPN
    obtain ⟨p, hp⟩ : ∃ p : Nat, n.f1 = (p : Int) := ⟨n.f1.toNat, by omega⟩
    obtain ⟨q, hq⟩ : ∃ q : Nat, n.f2 = (q : Int) := ⟨n.f2.toNat, by omega⟩
    have HV := Aside0.mk (show valN lv h n = (h.getD p false && h.getD q false) by unfold valN; rw [if_pos e10, hp, hq, Int.toNat_natCast, Int.toNat_natCast])
    rw [hp] at ha0 ha1 k1
    rw [hq] at hb0 hb1 k2
    have hlp : p < h.length := by have := HHL.out; omega
    have hlq : q < h.length := by have := HHL.out; omega
    have hh := blk_alloc HHr.out (.cells #[.int .i64 n.f0, .int .i64 (p : Int), .int .i64 (q : Int), .string n.f3, .slice A4 n.f4.length c4, .string n.f5, .int .i64 n.f6, .int .i64 n.f7] 37)
    have c0 : (wr.alloc (.cells #[.int .i64 n.f0, .int .i64 (p : Int), .int .i64 (q : Int), .string n.f3, .slice A4 n.f4.length c4, .string n.f5, .int .i64 n.f6, .int .i64 n.f7] 37)).cell? ⟨w.heap.size + 1 + 1, p, none⟩ = some (.bool (h.getD p false)) := bools_cell hh (held_get hlp)
    have c1 : (wr.alloc (.cells #[.int .i64 n.f0, .int .i64 (p : Int), .int .i64 (q : Int), .string n.f3, .slice A4 n.f4.length c4, .string n.f5, .int .i64 n.f6, .int .i64 n.f7] 37)).cell? ⟨w.heap.size + 1 + 1, q, none⟩ = some (.bool (h.getD q false)) := bools_cell hh (held_get hlq)
    have z2 := blk_frozen hh i
    have c2 : (wr.alloc (.cells #[.int .i64 n.f0, .int .i64 (p : Int), .int .i64 (q : Int), .string n.f3, .slice A4 n.f4.length c4, .string n.f5, .int .i64 n.f6, .int .i64 n.f7] 37)).cell? ⟨w.heap.size + 1 + 1, i, none⟩ = some (.bool false) := bools_cell hh (by rw [List.getElem?_append_right (by have := HHL.out; omega)]; rw [List.getElem?_replicate]; rw [if_pos (by have := HHL.out; omega)])
    have d6 : decide ((p : Int) < (ns.length : Int)) = true := decide_eq_true (by omega)
    have d7 : decide (p < ns.length) = true := decide_eq_true (by omega)
    have d7p : p < ns.length := by omega
    have d8 : decide ((q : Int) < (ns.length : Int)) = true := decide_eq_true (by omega)
    have d9 : decide (q < ns.length) = true := decide_eq_true (by omega)
    have d9p : q < ns.length := by omega
    have HB3 := Aside0.mk (below_alloc HBr.out (.cells #[.int .i64 n.f0, .int .i64 (p : Int), .int .i64 (q : Int), .string n.f3, .slice A4 n.f4.length c4, .string n.f5, .int .i64 n.f6, .int .i64 n.f7] 37))
    have HR3 := Aside0.mk (HRr.out.below (below_alloc (Below.refl _ _) (.cells #[.int .i64 n.f0, .int .i64 (p : Int), .int .i64 (q : Int), .string n.f3, .slice A4 n.f4.length c4, .string n.f5, .int .i64 n.f6, .int .i64 n.f7] 37)))
    have HS3 := Aside0.mk (show w.heap.size + 3 ≤ (wr.alloc (.cells #[.int .i64 n.f0, .int .i64 (p : Int), .int .i64 (q : Int), .string n.f3, .slice A4 n.f4.length c4, .string n.f5, .int .i64 n.f6, .int .i64 n.f7] 37)).heap.size by rw [World.size_alloc]; have := HSr.out; omega)
    have HH3 := Aside0.mk hh
    clear hh hp hq ha0 ha1 hb0 hb1 hlp hlq e10 HC HP HL
    obtain ⟨b1, hb1⟩ : ∃ b1, h.getD p false = b1 := ⟨_, rfl⟩
    rw [hb1] at c0 HV
    obtain ⟨b2, hb2⟩ : ∃ b2, h.getD q false = b2 := ⟨_, rfl⟩
    rw [hb2] at c1 HV
    clear hb2
    clear hb1
    cases b1
    all_goals (
     go_wp2_with fail
     try rw [show wrap64 ((i : Int) + 1) = ((i + 1 : Nat) : Int) by have := HI2.out; have := h2; unfold wrap64; omega]
     go_roundg (ns.length - i - 1)
     case measure => have := HI.out; have := HI2.out; omega
     case rel =>
      refine ⟨i + 1, h ++ [valN lv h n], rfl, ⟨by have := HI.out; have := HI2.out; omega⟩, ⟨by rw [List.length_append, HHL.out]; rfl⟩, ⟨by rw [← HS.out, HDR.out]; rfl⟩, ⟨HB3.out.setCell (p := ⟨w.heap.size + 1 + 1, i, none⟩) (by show w.heap.size ≤ w.heap.size + 1 + 1; omega) _⟩, ⟨by rw [World.size_setCell]; exact HS3.out⟩, ⟨HR3.out.far (by omega) (by omega) _ _⟩, ⟨?_⟩⟩
      rw [bools_next HHL.out HI2.out]
      have e := bools_put HH3.out i (valN lv h n)
      rw [HV.out] at e ⊢
      exact e)
   by_cases e11 : n.f0 = 11
   ·have d20 : (n.f0 == 10) = false := beq_eq_false_iff_ne.2 e10
    have d21 : (n.f0 == 11) = true := beq_iff_eq.2 e11
    have HPN := HP.out i n HNE.out
    rw [show partsN n = [n.f1, n.f2] by unfold partsN; rw [if_pos (.inr e11)]] at HPN
    simp only [List.all_cons, List.all_nil, inN, Bool.and_true, Bool.and_eq_true, decide_eq_true_eq] at HPN
    obtain ⟨⟨ha0, ha1⟩, hb0, hb1⟩ := HPN
    obtain ⟨p, hp⟩ : ∃ p : Nat, n.f1 = (p : Int) := ⟨n.f1.toNat, by omega⟩
    obtain ⟨q, hq⟩ : ∃ q : Nat, n.f2 = (q : Int) := ⟨n.f2.toNat, by omega⟩
    have HV := Aside0.mk (show valN lv h n = (h.getD p false || h.getD q false) by unfold valN; rw [if_neg (by omega), if_pos e11, hp, hq, Int.toNat_natCast, Int.toNat_natCast])
    rw [hp] at ha0 ha1 k1
    rw [hq] at hb0 hb1 k2
    have hlp : p < h.length := by have := HHL.out; omega
    have hlq : q < h.length := by have := HHL.out; omega
    have hh := blk_alloc HHr.out (.cells #[.int .i64 n.f0, .int .i64 (p : Int), .int .i64 (q : Int), .string n.f3, .slice A4 n.f4.length c4, .string n.f5, .int .i64 n.f6, .int .i64 n.f7] 37)
    have c0 : (wr.alloc (.cells #[.int .i64 n.f0, .int .i64 (p : Int), .int .i64 (q : Int), .string n.f3, .slice A4 n.f4.length c4, .string n.f5, .int .i64 n.f6, .int .i64 n.f7] 37)).cell? ⟨w.heap.size + 1 + 1, p, none⟩ = some (.bool (h.getD p false)) := bools_cell hh (held_get hlp)
    have c1 : (wr.alloc (.cells #[.int .i64 n.f0, .int .i64 (p : Int), .int .i64 (q : Int), .string n.f3, .slice A4 n.f4.length c4, .string n.f5, .int .i64 n.f6, .int .i64 n.f7] 37)).cell? ⟨w.heap.size + 1 + 1, q, none⟩ = some (.bool (h.getD q false)) := bools_cell hh (held_get hlq)
    have z2 := blk_frozen hh i
    have c2 : (wr.alloc (.cells #[.int .i64 n.f0, .int .i64 (p : Int), .int .i64 (q : Int), .string n.f3, .slice A4 n.f4.length c4, .string n.f5, .int .i64 n.f6, .int .i64 n.f7] 37)).cell? ⟨w.heap.size + 1 + 1, i, none⟩ = some (.bool false) := bools_cell hh (by rw [List.getElem?_append_right (by have := HHL.out; omega)]; rw [List.getElem?_replicate]; rw [if_pos (by have := HHL.out; omega)])
    have d6 : decide ((p : Int) < (ns.length : Int)) = true := decide_eq_true (by omega)
    have d7 : decide (p < ns.length) = true := decide_eq_true (by omega)
    have d7p : p < ns.length := by omega
    have d8 : decide ((q : Int) < (ns.length : Int)) = true := decide_eq_true (by omega)
    have d9 : decide (q < ns.length) = true := decide_eq_true (by omega)
    have d9p : q < ns.length := by omega
    have HB3 := Aside0.mk (below_alloc HBr.out (.cells #[.int .i64 n.f0, .int .i64 (p : Int), .int .i64 (q : Int), .string n.f3, .slice A4 n.f4.length c4, .string n.f5, .int .i64 n.f6, .int .i64 n.f7] 37))
    have HR3 := Aside0.mk (HRr.out.below (below_alloc (Below.refl _ _) (.cells #[.int .i64 n.f0, .int .i64 (p : Int), .int .i64 (q : Int), .string n.f3, .slice A4 n.f4.length c4, .string n.f5, .int .i64 n.f6, .int .i64 n.f7] 37)))
    have HS3 := Aside0.mk (show w.heap.size + 3 ≤ (wr.alloc (.cells #[.int .i64 n.f0, .int .i64 (p : Int), .int .i64 (q : Int), .string n.f3, .slice A4 n.f4.length c4, .string n.f5, .int .i64 n.f6, .int .i64 n.f7] 37)).heap.size by rw [World.size_alloc]; have := HSr.out; omega)
    have HH3 := Aside0.mk hh
    clear hh hp hq ha0 ha1 hb0 hb1 hlp hlq e10 e11 HC HP HL
    obtain ⟨b1, hb1⟩ : ∃ b1, h.getD p false = b1 := ⟨_, rfl⟩
    rw [hb1] at c0 HV
    obtain ⟨b2, hb2⟩ : ∃ b2, h.getD q false = b2 := ⟨_, rfl⟩
    rw [hb2] at c1 HV
    clear hb2
    clear hb1
    cases b1
    all_goals (
     go_wp2_with fail
     try rw [show wrap64 ((i : Int) + 1) = ((i + 1 : Nat) : Int) by have := HI2.out; have := h2; unfold wrap64; omega]
     go_roundg (ns.length - i - 1)
     case measure => have := HI.out; have := HI2.out; omega
     case rel =>
      refine ⟨i + 1, h ++ [valN lv h n], rfl, ⟨by have := HI.out; have := HI2.out; omega⟩, ⟨by rw [List.length_append, HHL.out]; rfl⟩, ⟨by rw [← HS.out, HDR.out]; rfl⟩, ⟨HB3.out.setCell (p := ⟨w.heap.size + 1 + 1, i, none⟩) (by show w.heap.size ≤ w.heap.size + 1 + 1; omega) _⟩, ⟨by rw [World.size_setCell]; exact HS3.out⟩, ⟨HR3.out.far (by omega) (by omega) _ _⟩, ⟨?_⟩⟩
      rw [bools_next HHL.out HI2.out]
      have e := bools_put HH3.out i (valN lv h n)
      rw [HV.out] at e ⊢
      exact e)
   by_cases e12 : n.f0 = 12
   ·have d20 : (n.f0 == 10) = false := beq_eq_false_iff_ne.2 e10
    have d21 : (n.f0 == 11) = false := beq_eq_false_iff_ne.2 e11
    have d22 : (n.f0 == 12) = true := beq_iff_eq.2 e12
    have HPN := HP.out i n HNE.out
    rw [show partsN n = [n.f1] by unfold partsN; rw [if_neg (by omega), if_pos e12]] at HPN
    simp only [List.all_cons, List.all_nil, inN, Bool.and_true, decide_eq_true_eq] at HPN
    obtain ⟨ha0, ha1⟩ := HPN
    obtain ⟨p, hp⟩ : ∃ p : Nat, n.f1 = (p : Int) := ⟨n.f1.toNat, by omega⟩
    have HV := Aside0.mk (show valN lv h n = (!h.getD p false) by unfold valN; rw [if_neg (by omega), if_neg (by omega), if_pos e12, hp, Int.toNat_natCast])
    rw [hp] at ha0 ha1 k1
    have hlp : p < h.length := by have := HHL.out; omega
    have hh := blk_alloc HHr.out (.cells #[.int .i64 n.f0, .int .i64 (p : Int), .int .i64 n.f2, .string n.f3, .slice A4 n.f4.length c4, .string n.f5, .int .i64 n.f6, .int .i64 n.f7] 37)
    have c0 : (wr.alloc (.cells #[.int .i64 n.f0, .int .i64 (p : Int), .int .i64 n.f2, .string n.f3, .slice A4 n.f4.length c4, .string n.f5, .int .i64 n.f6, .int .i64 n.f7] 37)).cell? ⟨w.heap.size + 1 + 1, p, none⟩ = some (.bool (h.getD p false)) := bools_cell hh (held_get hlp)
    have z2 := blk_frozen hh i
    have c2 : (wr.alloc (.cells #[.int .i64 n.f0, .int .i64 (p : Int), .int .i64 n.f2, .string n.f3, .slice A4 n.f4.length c4, .string n.f5, .int .i64 n.f6, .int .i64 n.f7] 37)).cell? ⟨w.heap.size + 1 + 1, i, none⟩ = some (.bool false) := bools_cell hh (by rw [List.getElem?_append_right (by have := HHL.out; omega)]; rw [List.getElem?_replicate]; rw [if_pos (by have := HHL.out; omega)])
    have d6 : decide ((p : Int) < (ns.length : Int)) = true := decide_eq_true (by omega)
    have d7 : decide (p < ns.length) = true := decide_eq_true (by omega)
    have d7p : p < ns.length := by omega
    have HB3 := Aside0.mk (below_alloc HBr.out (.cells #[.int .i64 n.f0, .int .i64 (p : Int), .int .i64 n.f2, .string n.f3, .slice A4 n.f4.length c4, .string n.f5, .int .i64 n.f6, .int .i64 n.f7] 37))
    have HR3 := Aside0.mk (HRr.out.below (below_alloc (Below.refl _ _) (.cells #[.int .i64 n.f0, .int .i64 (p : Int), .int .i64 n.f2, .string n.f3, .slice A4 n.f4.length c4, .string n.f5, .int .i64 n.f6, .int .i64 n.f7] 37)))
    have HS3 := Aside0.mk (show w.heap.size + 3 ≤ (wr.alloc (.cells #[.int .i64 n.f0, .int .i64 (p : Int), .int .i64 n.f2, .string n.f3, .slice A4 n.f4.length c4, .string n.f5, .int .i64 n.f6, .int .i64 n.f7] 37)).heap.size by rw [World.size_alloc]; have := HSr.out; omega)
    have HH3 := Aside0.mk hh
    clear hh hp ha0 ha1 hlp e10 e11 e12 HC HP HL
    obtain ⟨b1, hb1⟩ : ∃ b1, h.getD p false = b1 := ⟨_, rfl⟩
    rw [hb1] at c0 HV
    clear hb1
    cases b1
    all_goals (
     go_wp2_with fail
     try rw [show wrap64 ((i : Int) + 1) = ((i + 1 : Nat) : Int) by have := HI2.out; have := h2; unfold wrap64; omega]
     go_roundg (ns.length - i - 1)
     case measure => have := HI.out; have := HI2.out; omega
     case rel =>
      refine ⟨i + 1, h ++ [valN lv h n], rfl, ⟨by have := HI.out; have := HI2.out; omega⟩, ⟨by rw [List.length_append, HHL.out]; rfl⟩, ⟨by rw [← HS.out, HDR.out]; rfl⟩, ⟨HB3.out.setCell (p := ⟨w.heap.size + 1 + 1, i, none⟩) (by show w.heap.size ≤ w.heap.size + 1 + 1; omega) _⟩, ⟨by rw [World.size_setCell]; exact HS3.out⟩, ⟨HR3.out.far (by omega) (by omega) _ _⟩, ⟨?_⟩⟩
      rw [bools_next HHL.out HI2.out]
      have e := bools_put HH3.out i (valN lv h n)
      rw [HV.out] at e ⊢
      exact e)
   have d20 : (n.f0 == 10) = false := beq_eq_false_iff_ne.2 e10
   have d21 : (n.f0 == 11) = false := beq_eq_false_iff_ne.2 e11
   have d22 : (n.f0 == 12) = false := beq_eq_false_iff_ne.2 e12
   have HV := Aside0.mk (show valN lv h n = lv n by unfold valN; rw [if_neg e10, if_neg e11, if_neg e12])
   have HLN := Aside0.mk (HL.out n (List.mem_of_getElem? HNE.out) e10 e11 e12)
   clear e10 e11 e12
   go_wp2_with fail
   refine (HLN.out _ _ _ (below_alloc HBr.out _) (by rw [World.size_alloc]; have := HSr.out; omega) (HRr.out.below (below_alloc (Below.refl _ _) _)) G4.out l4).mono ?_
   rintro e w3 ⟨rfl, hr3, hb3, hk3⟩
   have hh := blk_kept (blk_alloc HHr.out (.cells #[.int .i64 n.f0, .int .i64 n.f1, .int .i64 n.f2, .string n.f3, .slice A4 n.f4.length c4, .string n.f5, .int .i64 n.f6, .int .i64 n.f7] 37)) hk3 (by omega)
   have z2 := blk_frozen hh i
   have c2 : w3.cell? ⟨w.heap.size + 1 + 1, i, none⟩ = some (.bool false) := bools_cell hh (by rw [List.getElem?_append_right (by have := HHL.out; omega)]; rw [List.getElem?_replicate]; rw [if_pos (by have := HHL.out; omega)])
   have HH3 := Aside0.mk hh
   have HR3 := Aside0.mk hr3
   have HB3 := Aside0.mk ((below_alloc HBr.out (.cells #[.int .i64 n.f0, .int .i64 n.f1, .int .i64 n.f2, .string n.f3, .slice A4 n.f4.length c4, .string n.f5, .int .i64 n.f6, .int .i64 n.f7] 37)).trans (hb3.mono (by omega)))
   have HS3 := Aside0.mk (show w.heap.size + 3 ≤ w3.heap.size by have := hk3.1; rw [World.size_alloc] at this; have := HSr.out; omega)
   clear hh hr3 hb3 hk3 k0 k1 k2 k3 k4 k5 k6 k7
   obtain ⟨b1, hb1⟩ : ∃ b1, lv n = b1 := ⟨_, rfl⟩
   rw [hb1] at HV ⊢
   clear hb1
   go_wp2_with fail
   try rw [show wrap64 ((i : Int) + 1) = ((i + 1 : Nat) : Int) by have := HI2.out; have := h2; unfold wrap64; omega]
   go_roundg (ns.length - i - 1)
   case measure => have := HI.out; have := HI2.out; omega
   case rel =>
    refine ⟨i + 1, h ++ [valN lv h n], rfl, ⟨by have := HI.out; have := HI2.out; omega⟩, ⟨by rw [List.length_append, HHL.out]; rfl⟩, ⟨by rw [← HS.out, HDR.out]; rfl⟩, ⟨HB3.out.setCell (p := ⟨w.heap.size + 1 + 1, i, none⟩) (by show w.heap.size ≤ w.heap.size + 1 + 1; omega) _⟩, ⟨by rw [World.size_setCell]; exact HS3.out⟩, ⟨HR3.out.far (by omega) (by omega) _ _⟩, ⟨?_⟩⟩
    rw [bools_next HHL.out HI2.out]
    have e := bools_put HH3.out i (valN lv h n)
    rw [HV.out] at e ⊢
    exact e
  ·have hie : i = ns.length := by have := HI.out; omega
   subst hie
   have d3 : decide ((ns.length : Int) < (ns.length : Int)) = false := decide_eq_false (by omega)
   have hend : wr.cell? ⟨w.heap.size + 1 + 1, ns.length - 1, none⟩ = some (.bool (holdsB lv ns)) := bools_cell HHr.out (by
    have e : heldL lv ns [] = h := by rw [← HS.out, List.drop_length]; rfl
    unfold holdsB
    rw [e]
    exact held_get (by have := HHL.out; omega))
   go_wp2_with fail
   go_ret
   exact ⟨rfl, HBr.out⟩
theorem formL_all : ∀ (ns : List ND) (j : Nat) (u v : List Int), formL j ns u = some v → ∀ (i : Nat) n, ns[i]? = some n → rightN n = true ∧ (partsN n).all (inN (j + i)) = true
 | [], j, u, v, h, i, n, hn => by simp at hn
 | m :: r, j, u, v, h, i, n, hn => by
  rw [formL] at h
  by_cases hc : rightN m = true ∧ (partsN m).all (inN j) = true
  ·rw [if_pos hc] at h
   cases i with
   | zero =>
    simp at hn
    subst hn
    exact hc
   | succ i =>
    simp at hn
    have := formL_all r (j + 1) _ v h i n hn
    rwa [show j + 1 + i = j + (i + 1) by omega] at this
  ·rw [if_neg hc] at h
   cases h
theorem formed_all {ns : List ND} {k : Int} {ky : ByteArray} {wd sk mo : Int} (h : formedB ns k ky wd sk mo = true) : (1 ≤ ns.length ∧ ns.length ≤ 64) ∧ ∀ (i : Nat) n, ns[i]? = some n → rightN n = true ∧ (partsN n).all (inN i) = true := by
 unfold formedB at h
 rw [Bool.and_eq_true, Bool.and_eq_true] at h
 obtain ⟨⟨h1, h2⟩, h3⟩ := h
 refine ⟨of_decide_eq_true h1, fun i n hn => ?_⟩
 cases hf : formL 0 ns (List.replicate ns.length 0) with
 | none => rw [hf] at h3; cases h3
 | some u =>
  have := formL_all ns 0 _ u hf i n hn
  rwa [Nat.zero_add] at this
theorem Holds_calls (A : Option Addr) (c : Nat) (ns : List ND) (k : Int) (ky : ByteArray) (wd sk mo : Int) (l : List Int) (s t : Int) (vl : Value) (lv : ND → Bool) (w : World) (hvl : ∃ a n m, vl = .slice a n m) (hC : Kd.C k37 w A ns.length ns) (hc : ns.length ≤ c)
  (hA : ∀ W, Calls Tryz.prog 60 #[.agg #[.slice A ns.length c, .int .i64 k, .string ky, .int .i64 wd, .int .i64 sk, .int .i64 mo]] W fun e w' => e = .returned (.bool (askedB k ky wd sk mo)) ∧ Below W.heap.size W w')
  (hR : ∀ n ∈ ns, ∀ W A' c', Kd.string.C W A' n.f4.length n.f4 → n.f4.length ≤ c' → Calls Tryz.prog 61 #[.agg #[.int .i64 n.f0, .int .i64 n.f1, .int .i64 n.f2, .string n.f3, .slice A' n.f4.length c', .string n.f5, .int .i64 n.f6, .int .i64 n.f7]] W fun e w' => e = .returned (.bool (rightN n)) ∧ Below W.heap.size W w')
  (hL : ∀ W, Below w.heap.size w W → ∀ n ∈ ns, rightN n = true → n.f0 ≠ 10 → n.f0 ≠ 11 → n.f0 ≠ 12 → LeafOK W l s t vl n (lv n)) :
  Calls Tryz.prog 14 #[.agg #[.slice A ns.length c, .int .i64 k, .string ky, .int .i64 wd, .int .i64 sk, .int .i64 mo], .agg #[.int .i64 s, .int .i64 t, vl]] w fun e w' =>
   e = .returned (.tuple #[.bool (formedB ns k ky wd sk mo && holdsB lv ns), .int .i64 (if formedB ns k ky wd sk mo = true then 0 else 1)]) ∧ Below w.heap.size w w' := by
 obtain ⟨la, ln, lm, rfl⟩ := hvl
 have HF := Aside0.mk (fun (W : World) (hW : Below w.heap.size w W) => formed_calls A c ns k ky wd sk mo W (Kd.C_below hC hW) hc hA hR)
 obtain ⟨fb, hfb⟩ : ∃ fb, formedB ns k ky wd sk mo = fb := ⟨_, rfl⟩
 rw [hfb] at HF ⊢
 have HFB := Aside0.mk hfb
 have HC := Aside0.mk hC
 have HL := Aside0.mk hL
 clear hA hR hfb hC hL
 go_enter Tryz.func14, Tryz.ntmps14
 go_wp2_with fail
 refine (HF.out _ (by repeat (first | exact Below.refl _ _ | apply below_alloc))).mono ?_
 rintro e w2 ⟨rfl, hb⟩
 have HB := Aside0.mk (below_step (below_alloc (below_alloc (Below.refl w.heap.size w) _) _) hb)
 have hA := blk_below (blk_alloc (blk_new w (.cells #[.slice A ns.length c, .int .i64 k, .string ky, .int .i64 wd, .int .i64 sk, .int .i64 mo] 24)) _) hb
 have c0 : w2.cell? ⟨w.heap.size, 0, none⟩ = some (.slice A ns.length c) := (blk_cell hA 0).trans rfl
 have hR := blk_below (blk_new (w.alloc (.cells #[.slice A ns.length c, .int .i64 k, .string ky, .int .i64 wd, .int .i64 sk, .int .i64 mo] 24)) (.cells #[.int .i64 s, .int .i64 t, .slice la ln lm] 27)) hb
 rw [World.size_alloc] at hR
 have r0 : w2.cell? ⟨w.heap.size + 1, 0, none⟩ = some (.int .i64 s) := (blk_cell hR 0).trans rfl
 have r1 : w2.cell? ⟨w.heap.size + 1, 1, none⟩ = some (.int .i64 t) := (blk_cell hR 1).trans rfl
 have r2 : w2.cell? ⟨w.heap.size + 1, 2, none⟩ = some (.slice la ln lm) := (blk_cell hR 2).trans rfl
 clear hA hR hb HF
 cases fb
 ·go_wp2_with fail
  go_ret2
  exact ⟨rfl, HB.out⟩
 ·have HFA := Aside0.mk (formed_all HFB.out)
  go_wp2_with fail
  refine (holds_calls A c ns l s t (.slice la ln lm) lv _ ⟨_, _, _, rfl⟩ (Kd.C_below HC.out HB.out) hc HFA.out.1.1 HFA.out.1.2 (fun i n hn => (HFA.out.2 i n hn).2) (fun n hn h10 h11 h12 => HL.out _ HB.out n hn (by obtain ⟨i, hi⟩ := List.getElem?_of_mem hn; exact (HFA.out.2 i n hi).1) h10 h11 h12)).mono ?_
  rintro e w3 ⟨rfl, hb⟩
  have HB3 := Aside0.mk (below_step HB.out hb)
  clear hb
  go_wp2_with fail
  go_ret2
  exact ⟨rfl, HB3.out⟩
end Go.Proofs.YtehaodbheifokaaGreatDoor.P
end
section
namespace Go.Proofs.YtehaodbheifokaaGreatDoor.P
open Go Go.RowKit Go.Proofs.YtehaodbheifokaaGreatDoorW.PrintWords Go.Proofs.YtehaodbheifokaaGreatDoorW.PrintLast Go.Proofs.YtehaodbheifokaaGreatDoorW.PrintMore
theorem heldL_app (lv : ND → Bool) : ∀ (xs ys : List ND) (h : List Bool), heldL lv (xs ++ ys) h = heldL lv ys (heldL lv xs h)
 | [], ys, h => rfl
 | x :: xs, ys, h => heldL_app lv xs ys _
theorem heldL_len (lv : ND → Bool) : ∀ (xs : List ND) (h : List Bool), (heldL lv xs h).length = h.length + xs.length
 | [], h => rfl
 | x :: xs, h => by rw [heldL, heldL_len lv xs]; simp; omega
theorem heldL_old (lv : ND → Bool) : ∀ (xs : List ND) (h : List Bool) (p : Nat), p < h.length → (heldL lv xs h).getD p false = h.getD p false
 | [], h, p, _ => rfl
 | x :: xs, h, p, hp => by
  rw [heldL, heldL_old lv xs _ p (by simp; omega)]
  simp [List.getD_eq_getElem?_getD, List.getElem?_append_left hp]
def treeB (lv : ND → Bool) (ns : List ND) (i : Nat) : Bool := (heldL lv ns []).getD i false
theorem treeB_eq (lv : ND → Bool) (ns : List ND) (i : Nat) (n : ND) (hi : ns[i]? = some n) (hp : (partsN n).all (inN i) = true) :
  treeB lv ns i = if n.f0 = 10 then treeB lv ns n.f1.toNat && treeB lv ns n.f2.toNat else if n.f0 = 11 then treeB lv ns n.f1.toNat || treeB lv ns n.f2.toNat else if n.f0 = 12 then !treeB lv ns n.f1.toNat else lv n := by
 obtain ⟨hl, he⟩ := List.getElem?_eq_some_iff.1 hi
 have hs : ns = ns.take i ++ n :: ns.drop (i + 1) := by
  rw [← he, ← List.drop_eq_getElem_cons hl, List.take_append_drop]
 obtain ⟨g, hg⟩ : ∃ g, heldL lv (ns.take i) [] = g := ⟨_, rfl⟩
 have hgl : g.length = i := by rw [← hg, heldL_len]; simp; omega
 have hh : heldL lv ns [] = heldL lv (ns.drop (i + 1)) (g ++ [valN lv g n]) := by
  conv => lhs; rw [hs]
  rw [heldL_app, hg]
  rfl
 have hlow : ∀ p, p < i → treeB lv ns p = g.getD p false := fun p hpi => by
  unfold treeB
  rw [hh, heldL_old lv _ _ p (by simp; omega)]
  simp [List.getD_eq_getElem?_getD, List.getElem?_append_left (show p < g.length by omega)]
 have hat : treeB lv ns i = valN lv g n := by
  unfold treeB
  rw [hh, heldL_old lv _ _ i (by simp; omega)]
  simp [List.getD_eq_getElem?_getD, ← hgl]
 rw [hat]
 unfold valN
 unfold partsN at hp
 by_cases h10 : n.f0 = 10
 ·rw [if_pos (.inl h10)] at hp
  simp only [List.all_cons, List.all_nil, inN, Bool.and_true, Bool.and_eq_true, decide_eq_true_eq] at hp
  rw [if_pos h10, if_pos h10, hlow _ (by omega), hlow _ (by omega)]
 ·rw [if_neg h10, if_neg h10]
  by_cases h11 : n.f0 = 11
  ·rw [if_pos (.inr h11)] at hp
   simp only [List.all_cons, List.all_nil, inN, Bool.and_true, Bool.and_eq_true, decide_eq_true_eq] at hp
   rw [if_pos h11, if_pos h11, hlow _ (by omega), hlow _ (by omega)]
  ·rw [if_neg h11, if_neg h11]
   by_cases h12 : n.f0 = 12
   ·rw [if_neg (by omega), if_pos h12] at hp
    simp only [List.all_cons, List.all_nil, inN, Bool.and_true, decide_eq_true_eq] at hp
    rw [if_pos h12, if_pos h12, hlow _ (by omega)]
   ·rw [if_neg h12, if_neg h12]
theorem treeB_last (lv : ND → Bool) (ns : List ND) : holdsB lv ns = treeB lv ns (ns.length - 1) := rfl
end Go.Proofs.YtehaodbheifokaaGreatDoor.P
end
