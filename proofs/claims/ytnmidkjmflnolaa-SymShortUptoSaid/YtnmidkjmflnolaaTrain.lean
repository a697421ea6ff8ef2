/- sym.Train: the samples' pieces counted in a map, told in any order, sorted, the first 32 taken. -/
import Derived.Test.YtnmidkjmflnolaaTrainSpec
import Derived.Test.YtnmidkjmflnolaaTrainSort
import Derived.Test.YtnmidkjmflnolaaMapsRange
import Derived.OwnWalk
import Derived.Outline
import Derived.Deep.DeepFit
import Derived.Test.YtnmidkjmflnolaaShort
import Derived.Maps.RangeWalk
import Derived.Maps.AppendAt
namespace Go.Proofs.Ytnmidkjmflnolaa.P
open Go Go.Shelf Go.RowKit Go.Lib Go.Proofs.YtnmidkjmflnolaaW.PrintWords Go.Proofs.YtnmidkjmflnolaaW.PrintLast Go.Proofs.YtnmidkjmflnolaaW.PrintMore Go.Proofs.Ytnmidkjmflnolaa.Maps
attribute [local go_sem] max2_int min2_int max_two min_two max_three min_three max_four min_four
set_option linter.unusedVariables false
set_option linter.unusedSimpArgs false

theorem at_row {α : Type} {d : Kd α} {e : Nat} {w : World} {A : Option Addr} {n : Nat} {xs : List (List α)} (h : (Kd.slice e d).C w A n xs) (i : Nat) (hi : i < xs.length) :
    ∃ ad Ai ci, A = some ad ∧ w.cell? (ad.add i) = some (.slice Ai xs[i].length ci) ∧ xs[i].length ≤ ci ∧ d.C w Ai xs[i].length xs[i] := by
  obtain ⟨hl, _, hc0⟩ := h
  obtain ⟨ad, hA, hc⟩ := hc0 (by omega)
  obtain ⟨cs, _, hk, hcell⟩ := hc i xs[i] (List.getElem?_eq_getElem hi)
  obtain ⟨Ai, ci, rfl, h1, h2⟩ := hk
  refine ⟨ad, Ai, ci, hA, ?_, h1, h2⟩
  have := hcell 0 _ rfl
  simpa [Kd.slice] using this
theorem zero_int (w : World) : (zeroValue 3).run Try.prog w = .ok (.int .i64 0) w := by kernel_rfl
def wantP (all seen : List ByteArray) : List (ByteArray × Int) := (seen.filter fun s => decide (1 < all.count s)).map (worthP all)
theorem info_str : (Try.prog.info? 9).map (fun i => (i.zero, i.size, i.bytes)) = some (some (.string ⟨#[]⟩), 1, 16) := by kernel_rfl
theorem gPiece : (Try.prog.info? 74).map (fun i => (i.zero, i.size, i.bytes)) = some (some (.agg #[.string ⟨#[]⟩, .int .i64 0]), 2, 24) := by kernel_rfl
theorem wantP_no {all seen : List ByteArray} {x : ByteArray} (h : ¬ 1 < all.count x) : wantP all (seen ++ [x]) = wantP all seen := by
  unfold wantP
  rw [List.filter_append, List.filter_cons, decide_eq_false h]
  simp
theorem wantP_yes {all seen : List ByteArray} {x : ByteArray} (h : 1 < all.count x) : wantP all (seen ++ [x]) = wantP all seen ++ [worthP all x] := by
  unfold wantP
  rw [List.filter_append, List.filter_cons, decide_eq_true h]
  simp
theorem wantP_len (all seen : List ByteArray) : (wantP all seen).length ≤ seen.length := by
  unfold wantP
  rw [List.length_map]
  exact List.length_filter_le _ _
theorem cellsP (w : World) (cs : List Value) (t : TypeId) : ∀ (j : Nat) u, cs[j]? = some u → (w.alloc (.cells cs.toArray t)).cell? ((⟨w.heap.size, 0, none⟩ : Addr).add j) = some u := fun j u h => by
  rw [WideShapes.add_plain, Nat.zero_add, blk_cell (blk_new w (.cells cs.toArray t (0, 0)))]
  simpa using h
theorem own_grown {w w1 : World} {base n : Nat} {e : TypeId} {size : Nat} {v : Value} {xs : List Value} {row : Option Nat} (h : w.ownsRow base e size v n xs) (hg : w.grownBy w1 row) (hne : ∀ k, v.ownBlock = some k → some k ≠ row) : w1.ownsRow base e size v n xs := by
  obtain ⟨h1, h2⟩ := h
  refine ⟨h1, ?_⟩
  rcases h2 with h2 | ⟨g, cap, cur, rfl, hge, hb, rest⟩
  · exact .inl h2
  · exact .inr ⟨g, cap, cur, rfl, hge, (hg.block g (Array.getElem?_eq_some_iff.1 hb).1 (hne g rfl)).trans hb, rest⟩
theorem own_cells' {w : World} {base n : Nat} {e : TypeId} {size : Nat} {v : Value} {xs : List Value} (h : w.ownsRow base e size v n xs) : ∀ k, v.ownBlock = some k → ∃ cur, w.heap[k]? = some (.cells cur e (0, 0)) := by
  rcases h.2 with ⟨rfl, _⟩ | ⟨g, cap, cur, rfl, hge, hb, rest⟩
  · intro k hk; simp [Value.ownBlock] at hk
  · intro k hk
    obtain rfl : g = k := by simpa [Value.ownBlock] using hk
    exact ⟨cur, hb⟩
theorem nodup_len : ∀ {seen all : List ByteArray}, seen.Nodup → (∀ x ∈ seen, x ∈ all) → seen.length ≤ all.length
  | [], _, _, _ => Nat.zero_le _
  | x :: seen, all, h, hs => by
    obtain ⟨hx, hn⟩ := List.nodup_cons.1 h
    have hm := hs x List.mem_cons_self
    have ih := nodup_len (seen := seen) (all := all.erase x) hn (fun y hy => (List.mem_erase_of_ne (fun e => hx (by rw [← e]; exact hy))).2 (hs y (List.mem_cons_of_mem _ hy)))
    rw [List.length_erase_of_mem hm] at ih
    have : 0 < all.length := List.length_pos_of_mem hm
    simp only [List.length_cons]
    omega
theorem wrapK (k : Nat) (h : k < 9223372036854775807) : wrap64 ((k : Int) + 1) = ((k + 1 : Nat) : Int) := by unfold wrap64; omega
theorem piecesAt_snoc (s : ByteArray) (a n d : Nat) : piecesAt s a n (d + 1) = s.extract a (a + n) :: piecesAt s a (n + 1) d := rfl
set_option maxHeartbeats 8000000 in
set_option maxRecDepth 100000 in
theorem sym_Train.calls (A0 : Option Addr) (c0 : Nat) (l0 : List (List Int)) (r : List ByteArray) (w : World) (hr0 : Kd.C (Kd.slice 5 (Kd.int .u8)) w A0 l0.length l0) (hc0 : l0.length ≤ c0) (h : sym_Train.f l0 = some r) :
    Calls Try.prog 28 #[.slice A0 l0.length c0] w fun e w' => ∃ v0_ : Value, e = .returned v0_ ∧ Kd.R Kd.string 9 w' w.heap.size (fun _ => True) v0_ r ∧ Below w.heap.size w w' := by
  have HR0 := Aside0.mk hr0
  have HC0 := Aside0.mk hc0
  have H := Aside0.mk h
  have HM0 := Aside0.mk (show l0.length ≤ 9223372036854775807 from hr0.2.1)
  clear hr0 hc0 h
  have hmm := @run_makeMap Try.prog
  go_enter Try.func28, Try.ntmps28
  go_wp2
  go_loopg [4, 19] l0.length (fun kq v4 v19 wr => ∃ (k left : Nat) (done : List ByteArray), v4 = .int .i64 (left : Int) ∧ v19 = .int .i64 (k : Int) ∧ k + kq = l0.length ∧ left ≤ 1024 ∧ Aside0 (allP 1024 l0 = done ++ allP left (l0.drop k)) ∧ Aside0 (MapIs Try.prog 9 3 (.int .i64) wr w.heap.size done.length (cntF done)) ∧ Aside0 (Below w.heap.size w wr))
  case atStart => exact ⟨0, 1024, [], rfl, rfl, by omega, Nat.le_refl _, ⟨rfl⟩, ⟨by rw [cntF_nil]; exact MapIs.made _ _ _ _ _⟩, ⟨(Below.refl _ _).alloc (Nat.le_refl _) _⟩⟩
  case round =>
    clear hmm
    obtain ⟨k, left, done, rfl, rfl, hk, hleft, HA, HM, HB⟩ := hrel
    cases gk with
    | zero =>
      have e0 : decide ((k : Int) < (l0.length : Int)) = false := decide_eq_false (by omega)
      have e0n : decide (k < l0.length) = false := decide_eq_false (by omega)
      have HALL := Aside0.mk (show allP 1024 l0 = done by have h := HA.out; rw [List.drop_of_length_le (by omega), allP, List.append_nil] at h; exact h)
      clear HA hk
      obtain ⟨wo, rfl⟩ : ∃ wo : World, wo = wr := ⟨_, rfl⟩
      have HB0 := HB
      go_wp2_with (at_range; refine wpList_range_is rfl _ 55 rfl Try.underlying9 Try.underlying55 rfl HM.out ?_; intro w0 cnt hr0 hg0 hs0; have HR1 := Aside0.mk hr0; have HB1 := Aside0.mk (HB.out.grown hg0 (below_size HB.out) (fun j hj => by cases hj)); clear hr0 hg0 hs0)
      go_frame
      go_loopg [10] cnt (fun kq v10 wq => ∃ (seen : List ByteArray), Aside0 (RangeIs Try.prog 9 3 .i64 wq w.heap.size wo.heap.size done.length (cntF done) seen kq) ∧ Aside0 (wq.ownsRow w.heap.size 74 2 v10 (wantP done seen).length (flatP (wantP done seen))) ∧ Aside0 (Below w.heap.size w wq))
      case atStart => exact ⟨[], HR1, ⟨World.ownsRow_nil _ _ _ _⟩, HB1⟩
      case round =>
        clear HR1 HB1 HM HB e0 e0n
        obtain ⟨seen, HR, HO, HB⟩ := hrel
        go_wp2_with (at_next; refine wpList_next_is rfl _ rfl Try.underlying9 Try.underlying3 rfl HR.out ?_ ?_)
        · intro hall
          have HPM := Aside0.mk (show (wantP done seen).mergeSort leP = (candP done).mergeSort leP from by
            obtain ⟨D, left, q1, q2, q3, q4, q5⟩ := HR.out
            refine sort_one (List.Perm.map _ (List.Perm.filter _ ((List.perm_ext_iff_of_nodup q4 (nodup_distP done)).2 fun y => ?_)))
            rw [mem_distP]
            refine ⟨fun hy => ?_, fun hy => hall y ?_⟩
            · have := q5 y hy
              unfold cntF at this
              split at this
              · cases this
              · exact List.count_pos_iff.1 (by omega)
            · have := List.count_pos_iff.2 hy
              unfold cntF
              rw [if_neg (by omega)]
              rfl)
          have HSL := Aside0.mk (show (wantP done seen).length ≤ 7168 by
            obtain ⟨D, left, q1, q2, q3, q4, q5⟩ := HR.out
            have h1 := wantP_len done seen
            have hdl := allP_len l0 1024
            rw [HALL.out] at hdl
            have h2 := nodup_len (all := done) q4 (fun y hy => by
              have := q5 y hy
              unfold cntF at this
              split at this
              · cases this
              · exact List.count_pos_iff.1 (by omega))
            omega)
          have HRES := Aside0.mk (show r = (((candP done).mergeSort leP).take 32).map (·.1) from by have h := Option.some.inj H.out; rw [← h, HALL.out]; rfl)
          clear hall HR
          generalize wantP done seen = ws at HPM HSL HO
          have HLEN := Aside0.mk (show ((candP done).mergeSort leP).length = ws.length by rw [← HPM.out, List.length_mergeSort])
          have HPM2 := HPM
          generalize (candP done).mergeSort leP = srt at HPM HRES HLEN
          obtain ⟨M, hMd⟩ : ∃ M : Nat, M = min 32 ws.length := ⟨_, rfl⟩
          have hmin : (if (ws.length : Int) < 32 then (ws.length : Int) else 32) = (M : Int) := by subst hMd; split <;> omega
          have hM0 : (0 : Int) ≤ (M : Int) := by omega
          have HMW := Aside0.mk (show M ≤ ws.length by omega)
          have HM32 := Aside0.mk (show M ≤ 32 by omega)
          have HRES2 := Aside0.mk (show r = (srt.take M).map (·.1) by
            rw [HRES.out]
            congr 1
            rcases Nat.le_total 32 ws.length with h | h
            · rw [show M = 32 by omega]
            · rw [show M = ws.length by omega, List.take_of_length_le (by rw [HLEN.out]; omega), List.take_of_length_le (by rw [HLEN.out]; omega)])
          clear HRES hMd
          go_wp2_with (go_at_call 47; refine (sort_calls w.heap.size ws u10 _ (below_size HB.out) (by have := HSL.out; omega) HO.out).mono ?_; rintro e w2 ⟨rfl, hb2, hrow⟩; rw [HPM.out] at hrow; have HB2 := Aside0.mk (HB.out.trans hb2); clear hb2; obtain ⟨hw0, hv0⟩ | ⟨g, cap, hv0, hcap, hcells⟩ := hrow; (case' inl => have HW0 := Aside0.mk hw0; clear hw0); (case' inr => have HCELLS := Aside0.mk hcells; have hMc : (M : Int) ≤ (cap : Int) := (by have := HMW.out; omega); clear hcells hcap); all_goals subst hv0)
          rotate_left
          · go_loopg [13, 86] 0 (fun kq v13 v86 wq => v13 = .slice none 0 0 ∧ v86 = .int .i64 0 ∧ wq = w2)
            case atStart => exact ⟨rfl, rfl, rfl⟩
            case round =>
              obtain ⟨rfl, rfl, rfl⟩ := hrel
              go_wp2
              go_ret
              refine ⟨_, rfl, ?_, HB2.out⟩
              have hr : r = [] := by
                have h1 := HRES2.out
                have h2 := HLEN.out
                rw [HW0.out] at h2
                rw [h1, List.length_eq_zero_iff.1 h2]
                simp
              rw [hr]
              exact Kd.R_nil _ _ _ _ _
          · clear hmin
            obtain ⟨i1, hi1, hy0, hy1, hy2⟩ := info_parts gPiece
            go_loopg [13, 86] M (fun kq v13 v86 wq => ∃ i : Nat, v86 = .int .i64 (i : Int) ∧ i + kq = M ∧ Aside0 (Kd.R Kd.string 9 wq w2.heap.size (fun _ => True) v13 ((srt.take i).map (·.1))) ∧ Aside0 (Below w2.heap.size w2 wq))
            case atStart => exact ⟨0, rfl, by omega, ⟨Kd.R_nil _ _ _ _ _⟩, ⟨Below.refl _ _⟩⟩
            case round =>
              obtain ⟨i, rfl, hi, HT, HBT⟩ := hrel
              cases gk with
              | zero =>
                have f1 : decide ((i : Int) < (M : Int)) = false := decide_eq_false (by omega)
                have f2 : decide (i < M) = false := decide_eq_false (by omega)
                obtain rfl : i = M := by omega
                go_wp2
                go_ret
                exact ⟨_, rfl, by rw [HRES2.out]; exact Kd.R_lower HT.out (below_size HB2.out), HB2.out.trans (HBT.out.mono (below_size HB2.out))⟩
              | succ k1 =>
                have f1 : decide ((i : Int) < (M : Int)) = true := decide_eq_true (by omega)
                have f2 : decide (i < M) = true := decide_eq_true (by omega)
                have f3 : (0 : Int) ≤ (i : Int) := by omega
                have f4 : (i : Int) < (M : Int) := by omega
                have f5 : (M : Int) ≤ 32 := by have := HM32.out; omega
                have hj : i < srt.length := by rw [HLEN.out]; have := HMW.out; omega
                obtain ⟨k0', k1'⟩ := HCELLS.out i hj
                replace k0' := (HBT.out.cell (World.block_lt_of_cell? w2 _ k0')).trans k0'
                replace k1' := (HBT.out.cell (World.block_lt_of_cell? w2 _ k1')).trans k1'
                have HTK := Aside0.mk (show (srt.take (i + 1)).map (·.1) = (srt.take i).map (·.1) ++ [srt[i].1] by rw [List.take_succ_eq_append_getElem hj, List.map_append]; rfl)
                have HLT := Aside0.mk (show ((srt.take i).map (·.1)).length ≤ 32 by rw [List.length_map, List.length_take]; have := HM32.out; omega)
                have HIK := Aside0.mk hi
                clear hi
                generalize srt[i] = pc at k0' k1' HTK
                clear hj
                obtain ⟨ps, pw⟩ := pc
                dsimp only at k0' k1' HTK
                have HT1 := Aside0.mk (Kd.R_alloc HT.out (.cells #[.string ps, .int .i64 pw] 74))
                have HBT1 := Aside0.mk (HBT.out.alloc (below_size HBT.out) (.cells #[.string ps, .int .i64 pw] 74))
                go_wp2_with ((with_reducible refine gate_dst (N := 94) rfl ?_); refine Kd.R_append Kd.string (w0 := w2) w2.heap.size rfl (.tmp 90) (.tmp 93) 22 9 (.string ⟨#[]⟩) 16 rfl Try.underlying22 info_str rfl (by decide) (by omega) u13 ((srt.take i).map (·.1)) ps [.string ps] (fun _ => True) (fun _ => False) ?b1 ?b2 ?b3 (fun _ hk => hk.elim) (fun _ _ => trivial) ?b6 ?b7 ?b8 ?b9 ?_; (case b1 => rfl); (case b2 => show Value.slice (some ⟨wr.heap.size + 1, 0, none⟩) 1 1 = _; rw [World.size_alloc]); (case b3 => rfl); (case b6 => exact HT1.out); (case b7 => exact HBT1.out); (case b8 => exact below_size HBT1.out); (case b9 => have := HLT.out; omega); intro v3 w3 ho hb hg hat; have HT3 := Aside0.mk ho; have HBT3 := Aside0.mk hb; clear ho hb hg hat)
                go_roundg k1
                case measure => omega
                case rel => exact ⟨i + 1, by go_num, by have := HIK.out; omega, ⟨by rw [HTK.out]; exact HT3.out⟩, HBT3⟩
        · intro x c w1 cnt1 hfx hns hxs hr1 hlt hg1 hs1 hen
          have hcm := HR.out
          have hcx : c = (done.count x : Int) ∧ done.count x ≠ 0 := by
            unfold cntF at hfx
            split at hfx
            · cases hfx
            · rename_i hz
              exact ⟨(Option.some.inj hfx).symm, hz⟩
          have hxd : x ∈ done := List.count_pos_iff.1 (by omega)
          have hsz := allP_size l0 1024 x (by rw [HALL.out]; exact hxd)
          have hdl := allP_len l0 1024
          rw [HALL.out] at hdl
          have hcl : (done.count x : Int) ≤ 7168 := by have := List.count_le_length (a := x) (l := done); omega
          have c1 : (1 : Int) ≤ c := by omega
          have c2 : c ≤ 7168 := by omega
          have x1 : (2 : Int) ≤ (x.size : Int) := by omega
          have x2 : (x.size : Int) ≤ 8 := by omega
          have HCX := Aside0.mk hcx.1
          have HR2 := Aside0.mk hr1
          have HLT := Aside0.mk hlt
          have HSL := Aside0.mk (show (wantP done seen).length ≤ 7168 by
            obtain ⟨D, left, q1, q2, q3, q4, q5⟩ := hcm
            have h1 := wantP_len done seen
            have h2 := nodup_len (all := done) q4 (fun y hy => by
              have := q5 y hy
              unfold cntF at this
              split at this
              · cases this
              · exact List.count_pos_iff.1 (by omega))
            omega)
          have HO1 := Aside0.mk (own_grown HO.out hg1 (fun q hq => by
            obtain ⟨cur, hcur⟩ := own_cells' HO.out q hq
            obtain ⟨_, m, s, l, c', hmi⟩ := HR.out.no_cells
            intro e
            cases e
            rw [hcur] at hmi
            cases hmi))
          have HB1 := Aside0.mk (HB.out.grown hg1 (below_size HB.out) (fun q hq => by cases hq; exact Nat.le_trans (below_size HB0.out) (Nat.le_refl _)))
          clear hfx hns hxs hr1 hlt hg1 hs1 hcx hxd hsz hdl hcl hcm HR HO HB
          by_cases hgt : (1 : Int) < c
          · have hb1 : decide ((1 : Int) < c) = true := decide_eq_true hgt
            have hp0 : 0 ≤ ((x.size : Int) - 1) * c := Int.mul_nonneg (by omega) (by omega)
            have hp1 : ((x.size : Int) - 1) * c ≤ 7 * 7168 := Int.mul_le_mul (by omega) c2 (by omega) (by omega)
            have hwr : wrap64 (((x.size : Int) - 1) * c) = ((x.size : Int) - 1) * c := by
              generalize ((x.size : Int) - 1) * c = y at hp0 hp1
              unfold wrap64
              omega
            clear hp0 hp1
            obtain ⟨i0, hi, hz0, hz1, hz2⟩ := info_parts gPiece
            go_wp2_with ((with_reducible refine gate_dst (N := 77) rfl ?_); refine wpList_append_own _ rfl _ _ 72 rfl w.heap.size 74 i0 (.agg #[.string ⟨#[]⟩, .int .i64 0]) 2 24 Try.underlying72 hi hz0 hz1 hz2 rfl (by decide) _ _ _ rfl (HO1.out.alloc _) ⟨w1.heap.size, 0, none⟩ 1 1 (encP (x, ((x.size : Int) - 1) * c)) rfl rfl (cellsP _ _ _) (encP_one _) (by have := HSL.out; unfold maxLen; omega) (by have := HSL.out; omega) (by have := below_size HB1.out; simp; omega) ?_; intro v' w4 hown' hgrow hnil; have HO4 := Aside0.mk hown'; have HG4 := Aside0.mk hgrow; clear hown' hgrow hnil)
            have HR4 := Aside0.mk ((HR2.out.alloc (.cells (encP (x, ((x.size : Int) - 1) * c)).toArray 74)).kept HG4.out (fun e => by
              obtain ⟨cur, hcur⟩ := own_cells' HO1.out w.heap.size e.symm
              obtain ⟨⟨es, q, hmi⟩, _⟩ := HR2.out.no_cells
              rw [hcur] at hmi
              cases hmi) (fun e => by
              obtain ⟨cur, hcur⟩ := own_cells' HO1.out wo.heap.size e.symm
              obtain ⟨_, m, s, l, c', hmi⟩ := HR2.out.no_cells
              rw [hcur] at hmi
              cases hmi))
            have HB4 := Aside0.mk ((HB1.out.alloc (below_size HB1.out) (.cells (encP (x, ((x.size : Int) - 1) * c)).toArray 74)).grown HG4.out (by have := below_size HB1.out; simp; omega) (fun j ej => own_base HO1.out j ej))
            go_roundg cnt1
            case measure => exact HLT.out
            case rel => exact ⟨seen ++ [x], HR4, ⟨by rw [wantP_yes (by have := HCX.out; omega), flatP_snoc, List.length_append, show worthP done x = (x, ((x.size : Int) - 1) * c) by unfold worthP; rw [HCX.out]]; exact HO4.out⟩, HB4⟩
          · have hb1 : decide ((1 : Int) < c) = false := decide_eq_false hgt
            go_wp2
            go_roundg cnt1
            case measure => exact HLT.out
            case rel => exact ⟨seen ++ [x], HR2, ⟨by rw [wantP_no (by have := HCX.out; omega)]; exact HO1.out⟩, HB1⟩
    | succ k1 =>
      have hklt : k < l0.length := by omega
      have e0 : decide ((k : Int) < (l0.length : Int)) = true := decide_eq_true (by omega)
      have hk0 : (0 : Int) ≤ (k : Int) := by omega
      have hk1' : (k : Int) < (l0.length : Int) := by omega
      have hl0 : (0 : Int) ≤ (left : Int) := by omega
      have hl1 : (left : Int) ≤ 1024 := by omega
      obtain ⟨ad, Ai, ci, hA0, hx, hci, hCi⟩ := at_row HR0.out k hklt
      subst hA0
      replace hx := (HB.out.cell (World.block_lt_of_cell? w _ hx)).trans hx
      have HDROP := Aside0.mk (List.drop_eq_getElem_cons hklt)
      generalize l0[k] = b at hx hci hCi HDROP
      have hml : min left b.length ≤ b.length := Nat.min_le_right _ _
      have hcv := Kd.C_string (P := Try.prog) (A := Ai) (c := ci) Try.underlying23 Try.underlying5 Try.underlying9 (Kd.C_below (Kd.C_take hCi hml) HB.out)
      have HSZ := Aside0.mk (takeS_size left b)
      have hs0 : strOfNums (b.take (min left b.length)) = takeS left b := rfl
      rw [hs0, List.length_take, Nat.min_eq_left hml] at hcv
      have HA2 := Aside0.mk (show allP 1024 l0 = done ++ piecesS (takeS left b) ++ allP (left - (takeS left b).size) (l0.drop (k + 1)) by rw [HA.out, HDROP.out, allP, List.append_assoc])
      clear HA hs0 hml HDROP
      generalize hsz : takeS left b = s at hcv HSZ HA2
      clear hsz
      have hs0 : (0 : Int) ≤ (s.size : Int) := by omega
      have hs1 : (s.size : Int) ≤ (left : Int) := by have := HSZ.out; omega
      have HS1 := Aside0.mk hs1
      have HREST := Aside0.mk (rfl : allP (left - s.size) (l0.drop (k + 1)) = allP (left - s.size) (l0.drop (k + 1)))
      have HK := Aside0.mk hk
      clear hk
      by_cases hmn : left ≤ b.length
      case' pos => rw [Nat.min_eq_left hmn] at hcv; have hmi : ¬ ((b.length : Int) < (left : Int)) := by omega
      case' neg => rw [Nat.min_eq_right (by omega)] at hcv; have hmi : ((b.length : Int) < (left : Int)) := by omega
      all_goals
        clear hmn
        go_wp2
        obtain ⟨wo, rfl⟩ : ∃ wo : World, wo = wr := ⟨_, rfl⟩
        clear hcv hx hci hCi
        go_loopg [36] s.size (fun kq v36 wq => ∃ (a : Nat) (cur : List ByteArray), v36 = .int .i64 (a : Int) ∧ a + kq = s.size ∧ Aside0 (allP 1024 l0 = cur ++ piecesFrom s a kq ++ allP (left - s.size) (l0.drop (k + 1))) ∧ Aside0 (MapIs Try.prog 9 3 (.int .i64) wq w.heap.size cur.length (cntF cur)) ∧ Aside0 (Below w.heap.size w wq))
        case atStart => exact ⟨0, done, rfl, by omega, ⟨HA2.out⟩, HM, HB⟩
        case round =>
          clear HM HB HA2
          obtain ⟨a, cur, rfl, ha, HA, HM, HB⟩ := hrel
          cases gk with
          | zero =>
            have e1 : decide ((a : Int) < (s.size : Int)) = false := decide_eq_false (by omega)
            have e1n : decide (a < s.size) = false := decide_eq_false (by omega)
            have HSD := Aside0.mk ha
            clear ha
            go_wp2
            go_roundg k1
            case measure => omega
            case rel => exact ⟨k + 1, left - s.size, cur, by congr 1; have := HS1.out; omega, by rw [wrapK k (by have := HM0.out; omega)], by have := HK.out; omega, by omega, ⟨by have h := HA.out; rw [piecesFrom, List.append_nil] at h; exact h⟩, HM, HB⟩
          | succ d2 =>
            have e1 : decide ((a : Int) < (s.size : Int)) = true := decide_eq_true (by omega)
            have e1n : decide (a < s.size) = true := decide_eq_true (by omega)
            have a0 : (0 : Int) ≤ (a : Int) := by omega
            have a1 : (a : Int) < (s.size : Int) := by omega
            have HAA := Aside0.mk ha
            clear ha
            go_wp2
            obtain ⟨wo, rfl⟩ : ∃ wo : World, wo = wr := ⟨_, rfl⟩
            have HA3 := Aside0.mk (show allP 1024 l0 = cur ++ piecesAt s a 2 (howMany s a) ++ (piecesFrom s (a + 1) d2 ++ allP (left - s.size) (l0.drop (k + 1))) by rw [HA.out, piecesFrom]; simp only [List.append_assoc])
            clear HA
            go_loopg [9] (howMany s a) (fun kq v9 wq => ∃ (n : Nat) (cur : List ByteArray), v9 = .int .i64 (n : Int) ∧ 2 ≤ n ∧ n ≤ 9 ∧ Aside0 (n + kq = 2 + howMany s a) ∧ Aside0 (allP 1024 l0 = cur ++ piecesAt s a n kq ++ (piecesFrom s (a + 1) d2 ++ allP (left - s.size) (l0.drop (k + 1)))) ∧ Aside0 (MapIs Try.prog 9 3 (.int .i64) wq w.heap.size cur.length (cntF cur)) ∧ Aside0 (Below w.heap.size w wq))
            case atStart => exact ⟨2, cur, rfl, by omega, by omega, ⟨rfl⟩, HA3, HM, HB⟩
            case round =>
              clear HM HB HA3
              obtain ⟨n, cur, rfl, hn2, hn9, HN, HA, HM, HB⟩ := hrel
              have hn2' : (2 : Int) ≤ (n : Int) := by omega
              have hn9' : (n : Int) ≤ 9 := by omega
              clear hn2 hn9
              cases gk with
              | zero =>
                by_cases hmin : (s.size : Int) - (a : Int) < 8
                case' pos => have e2 : decide ((n : Int) ≤ (s.size : Int) - (a : Int)) = false := decide_eq_false (by have := HN.out; unfold howMany at this; omega)
                case' neg => have e2 : decide ((n : Int) ≤ 8) = false := decide_eq_false (by have := HN.out; unfold howMany at this; omega)
                all_goals
                  go_wp2
                  go_roundg d2
                  case measure => omega
                  case rel => exact ⟨a + 1, cur, by go_num, by have := HAA.out; omega, ⟨by have h := HA.out; rw [piecesAt, List.append_nil, ← List.append_assoc] at h; exact h⟩, HM, HB⟩
              | succ d3 =>
                have f0 := HN.out
                have hh : howMany s a = min 8 (s.size - a) + 1 - 2 := rfl
                have f1 : (a : Int) + (n : Int) ≤ (s.size : Int) := by omega
                have f2 : (n : Int) ≤ 8 := by omega
                have f3 : (n : Int) ≤ (s.size : Int) - (a : Int) := by omega
                have HCL := Aside0.mk (show cur.length < 8000 by
                  have h1 := congrArg List.length HA.out
                  have h2 := allP_len l0 1024
                  simp only [List.length_append, piecesAt_len] at h1
                  omega)
                have HSX := Aside0.mk (show (s.extract a (a + n)).size ≤ maxLen by rw [ByteArray.size_extract]; unfold maxLen; omega)
                have HA4 := Aside0.mk (show allP 1024 l0 = cur ++ [s.extract a (a + n)] ++ piecesAt s a (n + 1) d3 ++ (piecesFrom s (a + 1) d2 ++ allP (left - s.size) (l0.drop (k + 1))) by rw [HA.out, piecesAt]; simp only [List.append_assoc, List.singleton_append, List.cons_append, List.nil_append])
                have HN2 := Aside0.mk (show (n + 1) + d3 = 2 + howMany s a by omega)
                clear f0 hh
                have hlk := HM.out.look Try.underlying9 (show El.fits _ _ (.int .i64) from Try.underlying3) Try.underlying55 (zero_int wr) HSX.out
                simp only [El.val, El.zero, cntF_getD] at hlk
                have hct : (cur.count (s.extract a (a + n)) : Int) ≤ 8000 := by have := List.count_le_length (a := s.extract a (a + n)) (l := cur); have := HCL.out; omega
                have hcs := cntF_snoc cur (s.extract a (a + n))
                have hsl := run_slice_string (P := Try.prog) wr 9 s .i64 .i64 (a : Int) ((a : Int) + (n : Int)) Try.underlying9 (by omega) (by omega) (by omega)
                rw [Int.toNat_natCast, show ((a : Int) + (n : Int)).toNat = a + n by omega] at hsl
                generalize hx : s.extract a (a + n) = x at hlk hct hcs HSX HA4 hsl
                clear hx
                generalize hcn : cur.count x = cn at hlk hct hcs
                have hc0 : (0 : Int) ≤ (cn : Int) := by omega
                clear hcn
                have HCS := Aside0.mk hcs
                clear hcs
                have e3 : decide ((n : Int) ≤ (s.size : Int) - (a : Int)) = true := decide_eq_true f3
                have e4 : decide ((n : Int) ≤ 8) = true := decide_eq_true f2
                clear hn9'
                have HM2 := HM
                by_cases hmin : (s.size : Int) - (a : Int) < 8
                all_goals
                  go_wp2_with (at_mapUpdate; refine wpList_store rfl _ _ _ 55 rfl Try.underlying9 (show El.fits _ _ (.int .i64) from Try.underlying3) Try.underlying55 rfl HM2.out (by have := HCL.out; unfold maxLen; omega) x rfl HSX.out ((cn : Int) + 1) rfl (WalkArith.wf_i64 (by omega)) ?_; intro w2 hm1 hg1; have HM3 := Aside0.mk hm1; have HB3 := Aside0.mk (HB.out.grown hg1 (below_size HB.out) (fun j hj => by cases hj; exact Nat.le_refl _)); clear hm1 hg1)
                  go_roundg d3
                  case measure => omega
                  case rel => exact ⟨n + 1, cur ++ [x], by go_num, by omega, by omega, HN2, HA4, ⟨by rw [← HCS.out, List.length_append]; exact HM3.out⟩, HB3⟩
end Go.Proofs.Ytnmidkjmflnolaa.P
