/- Joined by wip/tools/pack.py, pruned: Sums20, P8. -/
import Derived.Test.YtehaodbheifokaaGreatDoorMs8
set_option maxHeartbeats 8000000
set_option maxRecDepth 100000
set_option linter.unusedVariables false
set_option linter.unusedSimpArgs false
section
namespace Go.Proofs.YtehaodbheifokaaGreatDoor.P
open Go Go.RowKit Go.Proofs.YtehaodbheifokaaGreatDoorW.PrintWords Go.Proofs.YtehaodbheifokaaGreatDoorW.PrintLast Go.Proofs.YtehaodbheifokaaGreatDoorW.PrintMore
def treeOK (ns : List ND) : Bool := match formL 0 ns (List.replicate ns.length 0) with
 | none => false
 | some u => onesB u
theorem formed_tree {ns : List ND} {k : Int} {ky : ByteArray} {wd sk mo : Int} (h : formedB ns k ky wd sk mo = true) : (1 ≤ ns.length ∧ ns.length ≤ 64) ∧ treeOK ns = true := by
 unfold formedB at h
 rw [Bool.and_eq_true, Bool.and_eq_true] at h
 exact ⟨of_decide_eq_true h.1.1, h.2⟩
theorem formed_two {ns : List ND} (h1 : 1 ≤ ns.length ∧ ns.length ≤ 64) (h2 : treeOK ns = true) : formedB ns 2 ⟨#[]⟩ 0 0 0 = true := by
 unfold formedB
 rw [decide_eq_true h1, show askedB 2 ⟨#[]⟩ 0 0 0 = true by kernel_rfl]
 exact h2
theorem bump_app : ∀ (ps : List Int) (u z : List Int), (∀ p ∈ ps, 0 ≤ p ∧ p.toNat < u.length) → bump (u ++ z) ps = bump u ps ++ z
 | [], u, z, _ => rfl
 | p :: ps, u, z, h => by
  have hp := (h p List.mem_cons_self).2
  unfold bump
  rw [List.foldl_cons, List.foldl_cons]
  have e : (u ++ z).set p.toNat (wrap64 ((u ++ z).getD p.toNat 0 + 1)) = u.set p.toNat (wrap64 (u.getD p.toNat 0 + 1)) ++ z := by
   rw [List.set_append_left _ _ hp]
   congr 2
   simp [List.getD_eq_getElem?_getD, List.getElem?_append_left hp]
  rw [e]
  exact bump_app ps _ z (fun q hq => ⟨(h q (List.mem_cons_of_mem _ hq)).1, by rw [List.length_set]; exact (h q (List.mem_cons_of_mem _ hq)).2⟩)
def shiftL (n : Nat) (ps : List Int) : List Int := ps.map (fun p => p + (n : Int))
theorem bump_pre : ∀ (ps : List Int) (v u : List Int), (∀ p ∈ ps, 0 ≤ p) → bump (v ++ u) (shiftL v.length ps) = v ++ bump u ps
 | [], v, u, _ => rfl
 | p :: ps, v, u, h => by
  have hp := h p List.mem_cons_self
  obtain ⟨q, rfl⟩ := Int.eq_ofNat_of_zero_le hp
  have ih := bump_pre ps v
  unfold bump shiftL at *
  rw [List.map_cons, List.foldl_cons, List.foldl_cons]
  have et : ((q : Int) + (v.length : Int)).toNat = v.length + q := by omega
  have e : (v ++ u).set ((q : Int) + (v.length : Int)).toNat (wrap64 ((v ++ u).getD ((q : Int) + (v.length : Int)).toNat 0 + 1)) = v ++ u.set (q : Int).toNat (wrap64 (u.getD (q : Int).toNat 0 + 1)) := by
   rw [et, Int.toNat_natCast, List.set_append_right _ _ (by omega), show v.length + q - v.length = q by omega]
   congr 3
   simp [List.getD_eq_getElem?_getD, List.getElem?_append_right]
  rw [e]
  exact ih _ (fun r hr => h r (List.mem_cons_of_mem _ hr))
def shiftN (n : Nat) (x : ND) : ND := ⟨x.f0, if 10 ≤ x.f0 then x.f1 + (n : Int) else x.f1, if x.f0 = 10 ∨ x.f0 = 11 then x.f2 + (n : Int) else x.f2, x.f3, x.f4, x.f5, x.f6, x.f7⟩
theorem parts_shift (n : Nat) (x : ND) : partsN (shiftN n x) = shiftL n (partsN x) := by
 unfold partsN shiftN shiftL
 simp only
 by_cases h : x.f0 = 10 ∨ x.f0 = 11
 ·rw [if_pos h, if_pos h, if_pos (show 10 ≤ x.f0 by omega), if_pos h]; rfl
 ·rw [if_neg h, if_neg h]
  by_cases h12 : x.f0 = 12
  ·rw [if_pos h12, if_pos h12, if_pos (by omega)]; rfl
  ·rw [if_neg h12, if_neg h12]; rfl
theorem right_kind {x : ND} (h : rightN x = true) : x.f0 < 10 ∨ (x.f0 = 10 ∨ x.f0 = 11) ∨ x.f0 = 12 := by
 by_cases h10 : x.f0 = 10
 ·omega
 by_cases h11 : x.f0 = 11
 ·omega
 by_cases h12 : x.f0 = 12
 ·omega
 rcases Int.lt_or_le x.f0 10 with hl | hl
 ·exact .inl hl
 ·exfalso
  unfold rightN rightB at h
  rw [if_neg (by omega), if_neg (by omega), if_neg (by omega), if_neg (by omega), if_neg (by omega), if_neg (by omega), if_neg (by omega), if_neg (by omega), if_neg h12] at h
  cases h
theorem right_shift (n : Nat) {x : ND} (h : rightN x = true) : rightN (shiftN n x) = true := by
 rcases right_kind h with hl | hk | hk
 ·have e : shiftN n x = x := by
   unfold shiftN
   rw [if_neg (by omega), if_neg (by omega)]
  rw [e]; exact h
 ·have e : shiftN n x = ⟨x.f0, x.f1 + (n : Int), x.f2 + (n : Int), x.f3, x.f4, x.f5, x.f6, x.f7⟩ := by
   unfold shiftN
   rw [if_pos (by omega), if_pos hk]
  rw [e]
  unfold rightN rightB at h ⊢
  simp only
  rw [if_neg (by omega), if_neg (by omega), if_neg (by omega), if_neg (by omega), if_neg (by omega), if_neg (by omega), if_neg (by omega), if_pos hk] at h ⊢
  rw [Bool.and_eq_true] at h ⊢
  refine ⟨?_, h.2⟩
  have := of_decide_eq_true h.1
  exact decide_eq_true (by omega)
 ·have e : shiftN n x = ⟨x.f0, x.f1 + (n : Int), x.f2, x.f3, x.f4, x.f5, x.f6, x.f7⟩ := by
   unfold shiftN
   rw [if_pos (by omega), if_neg (by omega)]
  rw [e]
  unfold rightN rightB at h ⊢
  simp only
  rw [if_neg (by omega), if_neg (by omega), if_neg (by omega), if_neg (by omega), if_neg (by omega), if_neg (by omega), if_neg (by omega), if_neg (by omega), if_pos hk] at h ⊢
  exact h
theorem formL_len : ∀ (ns : List ND) (i : Nat) (u v : List Int), formL i ns u = some v → v.length = u.length
 | [], i, u, v, h => by rw [formL] at h; rw [← Option.some.inj h]
 | x :: ns, i, u, v, h => by
  rw [formL] at h
  split at h
  ·rw [formL_len ns _ _ v h, bump_len]
  ·cases h
theorem parts_in {x : ND} {i : Nat} (h : (partsN x).all (inN i) = true) : ∀ p ∈ partsN x, 0 ≤ p ∧ p.toNat < i := by
 intro p hp
 have := List.all_eq_true.1 h p hp
 unfold inN at this
 have := of_decide_eq_true this
 omega
theorem formL_app : ∀ (xs ys : List ND) (i : Nat) (u z : List Int), i + xs.length ≤ u.length → formL i (xs ++ ys) (u ++ z) = (formL i xs u).bind (fun v => formL (i + xs.length) ys (v ++ z))
 | [], ys, i, u, z, h => by simp [formL]
 | x :: xs, ys, i, u, z, h => by
  rw [List.cons_append, formL, formL]
  by_cases hc : rightN x = true ∧ (partsN x).all (inN i) = true
  ·rw [if_pos hc, if_pos hc, bump_app _ _ _ (fun p hp => ⟨(parts_in hc.2 p hp).1, by have := (parts_in hc.2 p hp).2; simp only [List.length_cons] at h; omega⟩), formL_app xs ys (i + 1) _ z (by rw [bump_len]; simp only [List.length_cons] at h; omega)]
   rw [show i + (x :: xs).length = i + 1 + xs.length by simp only [List.length_cons]; omega]
  ·rw [if_neg hc, if_neg hc]; rfl
theorem in_shift (n i : Nat) (ps : List Int) (h : ps.all (inN i) = true) : (shiftL n ps).all (inN (n + i)) = true := by
 rw [List.all_eq_true] at h ⊢
 intro p hp
 obtain ⟨q, hq, rfl⟩ := List.mem_map.1 hp
 have := h q hq
 unfold inN at this ⊢
 have := of_decide_eq_true this
 exact decide_eq_true (by omega)
theorem formL_shift : ∀ (ys : List ND) (i : Nat) (v u w : List Int), formL i ys u = some w → formL (v.length + i) (ys.map (shiftN v.length)) (v ++ u) = some (v ++ w)
 | [], i, v, u, w, h => by rw [formL] at h; rw [List.map_nil, formL, Option.some.inj h]
 | y :: ys, i, v, u, w, h => by
  rw [formL] at h
  split at h
  ·rename_i hc
   rw [List.map_cons, formL, if_pos ⟨right_shift _ hc.1, by rw [parts_shift]; exact in_shift _ _ _ hc.2⟩, parts_shift, bump_pre _ _ _ (fun p hp => (parts_in hc.2 p hp).1)]
   exact formL_shift ys (i + 1) v _ w h
  ·cases h
theorem bump_far : ∀ (ps : List Int) (u : List Int) (j : Nat), (∀ p ∈ ps, p.toNat < j) → (bump u ps).getD j 0 = u.getD j 0
 | [], u, j, _ => rfl
 | p :: ps, u, j, h => by
  have hp := h p List.mem_cons_self
  have ih := bump_far ps (u.set p.toNat (wrap64 (u.getD p.toNat 0 + 1))) j (fun q hq => h q (List.mem_cons_of_mem _ hq))
  unfold bump at ih ⊢
  rw [List.foldl_cons, ih]
  simp only [List.getD_eq_getElem?_getD]
  rw [List.getElem?_set_ne (by omega)]
theorem formL_far : ∀ (ns : List ND) (i : Nat) (u v : List Int) (j : Nat), formL i ns u = some v → i + ns.length ≤ j + 1 → v.getD j 0 = u.getD j 0
 | [], i, u, v, j, h, _ => by rw [formL] at h; rw [← Option.some.inj h]
 | x :: ns, i, u, v, j, h, hj => by
  rw [formL] at h
  split at h
  ·rename_i hc
   simp only [List.length_cons] at hj
   rw [formL_far ns (i + 1) _ v j h (by omega), bump_far _ _ _ (fun p hp => by have := (parts_in hc.2 p hp).2; omega)]
  ·cases h
theorem ones_at {u : List Int} (h : onesB u = true) : ∀ j, j + 1 < u.length → u.getD j 0 = 1 := by
 intro j hj
 unfold onesB at h
 rw [List.all_eq_true] at h
 have := h (u[j]'(by omega)) (List.mem_take_iff_getElem.2 ⟨j, by omega, rfl⟩)
 rw [List.getD_eq_getElem?_getD, List.getElem?_eq_getElem (by omega)]
 exact beq_iff_eq.1 this
theorem ones_of {u : List Int} (h : ∀ j, j + 1 < u.length → u.getD j 0 = 1) : onesB u = true := by
 unfold onesB
 rw [List.all_eq_true]
 intro x hx
 obtain ⟨q, hq, rfl⟩ := List.mem_take_iff_getElem.1 hx
 have h2 := h q (by omega)
 rw [List.getD_eq_getElem?_getD, List.getElem?_eq_getElem (by omega)] at h2
 exact beq_iff_eq.2 h2
theorem tree_some {ns : List ND} (h : treeOK ns = true) : ∃ u, formL 0 ns (List.replicate ns.length 0) = some u ∧ onesB u = true := by
 unfold treeOK at h
 cases hf : formL 0 ns (List.replicate ns.length 0) with
 | none => rw [hf] at h; cases h
 | some u => rw [hf] at h; exact ⟨u, rfl, h⟩
def topN (k a b : Int) : ND := ⟨k, a, b, ⟨#[]⟩, [], ⟨#[]⟩, 0, 0⟩
theorem right_top {k a b : Int} (hk : k = 10 ∨ k = 11) (hab : a ≠ b) : rightN (topN k a b) = true := by
 unfold rightN rightB topN
 simp only
 rw [if_neg (by omega), if_neg (by omega), if_neg (by omega), if_neg (by omega), if_neg (by omega), if_neg (by omega), if_neg (by omega), if_pos hk, decide_eq_true hab]
 rfl
theorem right_not (a : Int) : rightN (topN 12 a 0) = true := by
 unfold rightN rightB topN
 rfl
theorem set_getD (u : List Int) (i j : Nat) (x : Int) (hi : i < u.length) : (u.set i x).getD j 0 = if i = j then x else u.getD j 0 := by
 simp only [List.getD_eq_getElem?_getD]
 by_cases h : i = j
 ·subst h; rw [if_pos rfl, List.getElem?_set_self hi]; rfl
 ·rw [if_neg h, List.getElem?_set_ne h]
theorem tree_not {xa : List ND} (h1 : 1 ≤ xa.length) (h : treeOK xa = true) : treeOK (xa ++ [topN 12 ((xa.length : Int) - 1) 0]) = true := by
 obtain ⟨u, hu, ho⟩ := tree_some h
 have hul := formL_len _ _ _ _ hu
 rw [List.length_replicate] at hul
 have hfar := formL_far _ _ _ _ (xa.length - 1) hu (by omega)
 unfold treeOK
 rw [List.length_append, List.length_singleton, show List.replicate (xa.length + 1) (0 : Int) = List.replicate xa.length 0 ++ [0] by rw [List.replicate_succ']]
 rw [formL_app xa _ 0 _ _ (by simp), hu, Option.bind_some, Nat.zero_add]
 have hparts : partsN (topN 12 ((xa.length : Int) - 1) 0) = [(xa.length : Int) - 1] := rfl
 rw [formL, if_pos ⟨right_not _, by rw [hparts]; simp only [List.all_cons, List.all_nil, Bool.and_true]; unfold inN; exact decide_eq_true (by omega)⟩, hparts, formL]
 simp only
 refine ones_of fun j hj => ?_
 rw [bump_len, List.length_append, List.length_singleton, hul] at hj
 unfold bump
 rw [List.foldl_cons, List.foldl_nil, show ((xa.length : Int) - 1).toNat = xa.length - 1 by omega]
 rw [set_getD _ _ _ _ (by rw [List.length_append, List.length_singleton, hul]; omega)]
 by_cases hj2 : xa.length - 1 = j
 ·rw [if_pos hj2]
  have e0 : (u ++ [0]).getD (xa.length - 1) 0 = 0 := by
   simp only [List.getD_eq_getElem?_getD] at hfar ⊢
   rw [List.getElem?_append_left (by omega), hfar, List.getElem?_replicate]
   split <;> rfl
  rw [e0]
  unfold wrap64
  omega
 ·rw [if_neg hj2]
  have := ones_at ho j (by omega)
  simp only [List.getD_eq_getElem?_getD] at this ⊢
  rw [List.getElem?_append_left (by omega)]
  exact this
theorem tree_join {xa xb : List ND} (ha1 : 1 ≤ xa.length) (hb1 : 1 ≤ xb.length) (ha : treeOK xa = true) (hb : treeOK xb = true) {k : Int} (hk : k = 10 ∨ k = 11) :
  treeOK (xa ++ (xb.map (shiftN xa.length) ++ [topN k ((xa.length : Int) - 1) ((xa.length + xb.length : Nat) - 1 : Int)])) = true := by
 obtain ⟨u, hu, hou⟩ := tree_some ha
 obtain ⟨v, hv, hov⟩ := tree_some hb
 have hul := formL_len _ _ _ _ hu
 have hvl := formL_len _ _ _ _ hv
 rw [List.length_replicate] at hul hvl
 have hfu := formL_far _ _ _ _ (xa.length - 1) hu (by omega)
 have hfv := formL_far _ _ _ _ (xb.length - 1) hv (by omega)
 have hz : ∀ (n j : Nat), (List.replicate n (0 : Int)).getD j 0 = 0 := fun n j => by
  simp only [List.getD_eq_getElem?_getD, List.getElem?_replicate]
  split <;> rfl
 rw [hz] at hfu hfv
 unfold treeOK
 rw [List.length_append, List.length_append, List.length_singleton, List.length_map]
 rw [show List.replicate (xa.length + (xb.length + 1)) (0 : Int) = List.replicate xa.length 0 ++ (List.replicate xb.length 0 ++ [0]) by rw [← List.replicate_succ', List.replicate_append_replicate]]
 rw [formL_app xa _ 0 _ _ (by simp), hu, Option.bind_some, Nat.zero_add]
 have hs := formL_shift xb 0 u (List.replicate xb.length 0) v hv
 rw [hul, Nat.add_zero] at hs
 rw [← List.append_assoc, formL_app _ _ _ _ _ (by rw [List.length_append, List.length_map, List.length_replicate, hul]; exact Nat.le_refl _), hs, Option.bind_some, List.length_map]
 obtain ⟨tp, htp⟩ : ∃ tp, topN k ((xa.length : Int) - 1) ((xa.length + xb.length : Nat) - 1 : Int) = tp := ⟨_, rfl⟩
 have hparts : partsN tp = [(xa.length : Int) - 1, ((xa.length + xb.length : Nat) - 1 : Int)] := by rw [← htp]; unfold partsN topN; rw [if_pos hk]
 have hr : rightN tp = true := by rw [← htp]; exact right_top hk (by omega)
 rw [htp, formL, if_pos ⟨hr, by rw [hparts]; simp only [List.all_cons, List.all_nil, Bool.and_true, Bool.and_eq_true]; unfold inN; exact ⟨decide_eq_true (by omega), decide_eq_true (by omega)⟩⟩, hparts, formL]
 simp only
 refine ones_of fun j hj => ?_
 rw [bump_len, List.length_append, List.length_append, List.length_singleton, hul, hvl] at hj
 unfold bump
 rw [List.foldl_cons, List.foldl_cons, List.foldl_nil, show ((xa.length : Int) - 1).toNat = xa.length - 1 by omega, show (((xa.length + xb.length : Nat) : Int) - 1).toNat = xa.length + xb.length - 1 by omega]
 have hul2 : ((u ++ v) ++ [0]).length = xa.length + xb.length + 1 := by rw [List.length_append, List.length_append, List.length_singleton, hul, hvl]
 rw [set_getD _ _ _ _ (by rw [List.length_set, hul2]; omega), set_getD _ _ _ _ (by rw [hul2]; omega), set_getD _ _ _ _ (by rw [hul2]; omega)]
 have hget : ∀ q, ((u ++ v) ++ [0]).getD q 0 = if q < xa.length then u.getD q 0 else if q < xa.length + xb.length then v.getD (q - xa.length) 0 else 0 := fun q => by
  simp only [List.getD_eq_getElem?_getD]
  by_cases h1 : q < xa.length
  ·rw [if_pos h1, List.getElem?_append_left (by rw [List.length_append]; omega), List.getElem?_append_left (by omega)]
  ·rw [if_neg h1]
   by_cases h2 : q < xa.length + xb.length
   ·rw [if_pos h2, List.getElem?_append_left (by rw [List.length_append]; omega), List.getElem?_append_right (by omega), hul]
   ·rw [if_neg h2, List.getElem?_append_right (by rw [List.length_append]; omega)]
    generalize q - (u ++ v).length = z
    match z with
    | 0 => rfl
    | z + 1 => rfl
 have hw1 : wrap64 (0 + 1) = 1 := by unfold wrap64; omega
 by_cases hj2 : xa.length + xb.length - 1 = j
 ·rw [if_pos hj2, if_neg (show ¬ xa.length - 1 = xa.length + xb.length - 1 by omega), hget, if_neg (by omega), if_pos (by omega), show xa.length + xb.length - 1 - xa.length = xb.length - 1 by omega, hfv]
  exact hw1
 ·rw [if_neg hj2]
  by_cases hj3 : xa.length - 1 = j
  ·rw [if_pos hj3, hget, if_pos (by omega), hfu]
   exact hw1
  ·rw [if_neg hj3, hget]
   by_cases h1 : j < xa.length
   ·rw [if_pos h1]; exact ones_at hou j (by omega)
   ·rw [if_neg h1, if_pos (by omega)]; exact ones_at hov (j - xa.length) (by omega)
theorem tree_front (lv : ND → Bool) (xs ys : List ND) (i : Nat) (h : i < xs.length) : treeB lv (xs ++ ys) i = treeB lv xs i := by
 unfold treeB
 rw [heldL_app, heldL_old lv ys _ i (by rw [heldL_len]; simp; omega)]
theorem tree_all {ns : List ND} (h : treeOK ns = true) : ∀ (i : Nat) n, ns[i]? = some n → rightN n = true ∧ (partsN n).all (inN i) = true := by
 intro i n hn
 obtain ⟨u, hu, _⟩ := tree_some h
 have := formL_all ns 0 _ u hu i n hn
 rwa [Nat.zero_add] at this
theorem shift_leaf {n : Nat} {x : ND} (h : rightN x = true) (h10 : x.f0 ≠ 10) (h11 : x.f0 ≠ 11) (h12 : x.f0 ≠ 12) : shiftN n x = x := by
 have := right_kind h
 unfold shiftN
 rw [if_neg (by omega), if_neg (by omega)]
theorem tree_back (lv : ND → Bool) {xa xb : List ND} (zs : List ND) (hb : treeOK xb = true) : ∀ (d i : Nat), i < d → i < xb.length → treeB lv (xa ++ (xb.map (shiftN xa.length) ++ zs)) (xa.length + i) = treeB lv xb i
 | 0, i, hd, _ => by omega
 | d + 1, i, hd, hi => by
  obtain ⟨y, hy⟩ : ∃ y, xb[i]? = some y := ⟨_, List.getElem?_eq_getElem hi⟩
  obtain ⟨hr, hp⟩ := tree_all hb i y hy
  have hy2 : (xa ++ (xb.map (shiftN xa.length) ++ zs))[xa.length + i]? = some (shiftN xa.length y) := by
   rw [List.getElem?_append_right (by omega), show xa.length + i - xa.length = i by omega, List.getElem?_append_left (by rw [List.length_map]; exact hi), List.getElem?_map, hy]
   rfl
  rw [treeB_eq lv _ _ _ hy2 (by rw [parts_shift]; exact in_shift _ _ _ hp), treeB_eq lv xb i y hy hp]
  have ih := fun (p : Int) (h0 : 0 ≤ p ∧ p < i) => tree_back lv (xa := xa) zs hb d p.toNat (by omega) (by omega)
  have f0 : (shiftN xa.length y).f0 = y.f0 := rfl
  rw [f0]
  unfold partsN at hp
  by_cases h10 : y.f0 = 10
  ·rw [if_pos (.inl h10)] at hp
   simp only [List.all_cons, List.all_nil, inN, Bool.and_true, Bool.and_eq_true, decide_eq_true_eq] at hp
   have e1 : (shiftN xa.length y).f1 = y.f1 + (xa.length : Int) := by unfold shiftN; simp only; rw [if_pos (by omega)]
   have e2 : (shiftN xa.length y).f2 = y.f2 + (xa.length : Int) := by unfold shiftN; simp only; rw [if_pos (.inl h10)]
   rw [if_pos h10, if_pos h10, e1, e2, show (y.f1 + (xa.length : Int)).toNat = xa.length + y.f1.toNat by omega, show (y.f2 + (xa.length : Int)).toNat = xa.length + y.f2.toNat by omega, ih _ hp.1, ih _ hp.2]
  rw [if_neg h10, if_neg h10]
  by_cases h11 : y.f0 = 11
  ·rw [if_pos (.inr h11)] at hp
   simp only [List.all_cons, List.all_nil, inN, Bool.and_true, Bool.and_eq_true, decide_eq_true_eq] at hp
   have e1 : (shiftN xa.length y).f1 = y.f1 + (xa.length : Int) := by unfold shiftN; simp only; rw [if_pos (by omega)]
   have e2 : (shiftN xa.length y).f2 = y.f2 + (xa.length : Int) := by unfold shiftN; simp only; rw [if_pos (.inr h11)]
   rw [if_pos h11, if_pos h11, e1, e2, show (y.f1 + (xa.length : Int)).toNat = xa.length + y.f1.toNat by omega, show (y.f2 + (xa.length : Int)).toNat = xa.length + y.f2.toNat by omega, ih _ hp.1, ih _ hp.2]
  rw [if_neg h11, if_neg h11]
  by_cases h12 : y.f0 = 12
  ·rw [if_neg (by omega), if_pos h12] at hp
   simp only [List.all_cons, List.all_nil, inN, Bool.and_true, decide_eq_true_eq] at hp
   have e1 : (shiftN xa.length y).f1 = y.f1 + (xa.length : Int) := by unfold shiftN; simp only; rw [if_pos (by omega)]
   rw [if_pos h12, if_pos h12, e1, show (y.f1 + (xa.length : Int)).toNat = xa.length + y.f1.toNat by omega, ih _ hp]
  rw [if_neg h12, if_neg h12, shift_leaf hr h10 h11 h12]
theorem holds_not (lv : ND → Bool) {xa : List ND} (h1 : 1 ≤ xa.length) : holdsB lv (xa ++ [topN 12 ((xa.length : Int) - 1) 0]) = !holdsB lv xa := by
 rw [treeB_last, treeB_last, List.length_append, List.length_singleton, Nat.add_sub_cancel]
 rw [treeB_eq lv _ xa.length (topN 12 ((xa.length : Int) - 1) 0) (by simp) (by show (partsN (topN 12 ((xa.length : Int) - 1) 0)).all _ = true; rw [show partsN (topN 12 ((xa.length : Int) - 1) 0) = [(xa.length : Int) - 1] from rfl]; simp only [List.all_cons, List.all_nil, Bool.and_true]; unfold inN; exact decide_eq_true (by omega))]
 have f0 : (topN 12 ((xa.length : Int) - 1) 0).f0 = 12 := rfl
 have f1 : (topN 12 ((xa.length : Int) - 1) 0).f1 = (xa.length : Int) - 1 := rfl
 rw [f0, f1, if_neg (by decide), if_neg (by decide), if_pos rfl, show ((xa.length : Int) - 1).toNat = xa.length - 1 by omega, tree_front lv xa _ _ (by omega)]
theorem holds_join (lv : ND → Bool) {xa xb : List ND} (ha1 : 1 ≤ xa.length) (hb1 : 1 ≤ xb.length) (hb : treeOK xb = true) {k : Int} (hk : k = 10 ∨ k = 11) :
  holdsB lv (xa ++ (xb.map (shiftN xa.length) ++ [topN k ((xa.length : Int) - 1) ((xa.length + xb.length : Nat) - 1 : Int)])) = if k = 10 then holdsB lv xa && holdsB lv xb else holdsB lv xa || holdsB lv xb := by
 obtain ⟨tp, htp⟩ : ∃ tp, topN k ((xa.length : Int) - 1) ((xa.length + xb.length : Nat) - 1 : Int) = tp := ⟨_, rfl⟩
 rw [htp, treeB_last, treeB_last, treeB_last, List.length_append, List.length_append, List.length_singleton, List.length_map, show xa.length + (xb.length + 1) - 1 = xa.length + xb.length by omega]
 have hparts : partsN tp = [(xa.length : Int) - 1, ((xa.length + xb.length : Nat) - 1 : Int)] := by rw [← htp]; unfold partsN topN; rw [if_pos hk]
 rw [treeB_eq lv _ (xa.length + xb.length) tp (by rw [List.getElem?_append_right (by omega), show xa.length + xb.length - xa.length = xb.length by omega, List.getElem?_append_right (by rw [List.length_map]; exact Nat.le_refl _), List.length_map, Nat.sub_self]; rfl)
  (by rw [hparts]; simp only [List.all_cons, List.all_nil, Bool.and_true, Bool.and_eq_true]; unfold inN; exact ⟨decide_eq_true (by omega), decide_eq_true (by omega)⟩)]
 have f0 : tp.f0 = k := by rw [← htp]; rfl
 have f1 : tp.f1.toNat = xa.length - 1 := by rw [← htp]; show ((xa.length : Int) - 1).toNat = _; omega
 have f2 : tp.f2.toNat = xa.length + (xb.length - 1) := by rw [← htp]; show (((xa.length + xb.length : Nat) : Int) - 1).toNat = _; omega
 rw [f0, f1, f2, tree_front lv xa _ _ (by omega), tree_back lv [tp] hb xb.length (xb.length - 1) (by omega) (by omega)]
 rcases hk with rfl | rfl
 ·rw [if_pos rfl, if_pos rfl]
 ·rw [if_neg (by decide), if_pos rfl, if_neg (by decide)]
end Go.Proofs.YtehaodbheifokaaGreatDoor.P
end
section
namespace Go.Proofs.YtehaodbheifokaaGreatDoor.P
open Go.RowKit Go.Proofs.YtehaodbheifokaaGreatDoorW.PrintWords Go.Proofs.YtehaodbheifokaaGreatDoorW.PrintLast Go.Proofs.YtehaodbheifokaaGreatDoorW.PrintMore
attribute [local go_sem] max2_int min2_int max_two min_two max_three min_three max_four min_four  
def dragnetref06_Copy.f (l0 : List ByteArray) : Option (List ByteArray) := (some (([] : List ByteArray) : List ByteArray)).bind fun y292 => (if y292.length + l0.length < 8796093022208 then (some (y292 ++ l0)) else (none))
theorem dragnetref06_Copy.calls (A0 : Option Addr) (c0 : Nat) (l0 : List ByteArray) (r : List ByteArray) (w : World) (hr0 : Kd.C Kd.string w A0 l0.length l0) (hc0 : l0.length ≤ c0) (h : dragnetref06_Copy.f l0 = some r) :
  Calls Tryz.prog 43 #[.slice A0 l0.length c0] w fun e w' => ∃ v0_ : Value, e = .returned (v0_) ∧ Kd.R Kd.string 9 w' w.heap.size (fun _ => True) v0_ r ∧ Below w.heap.size w w' := by
 have HR0 := Aside0.mk hr0
 have HC0 := Aside0.mk hc0
 clear hr0 hc0
 have HB := Aside0.mk (Below.refl w.heap.size w)
 have H : ((some (([] : List ByteArray) : List ByteArray)).bind fun y292 => (if y292.length + l0.length < 8796093022208 then (some (y292 ++ l0)) else (none))) = some r := h
 clear h
 obtain ⟨y292, hy292⟩ : ∃ y_ : List ByteArray, y_ = (([] : List ByteArray)) := ⟨_, rfl⟩
 replace H : (if y292.length + l0.length < 8796093022208 then (some (y292 ++ l0)) else (none)) = some r := by first | (rw [hy292]; with_reducible exact H) | (have H2_ := (Option.bind_some _ _).symm.trans H; rw [hy292]; with_reducible exact H2_) | (have H2_ := (Option.bind_some _ _).symm.trans H; with_reducible exact H2_) | with_reducible exact H | (rw [hy292]; exact H) | exact H
 have Ny292 := Aside0.mk hy292
 clear hy292
 by_cases c2 : y292.length + l0.length < 8796093022208
 ·rw [if_pos c2] at H
  have LMc2 := Aside0.mk c2
  clear c2
  obtain ⟨y295, hy295⟩ : ∃ y_ : List ByteArray, y_ = (y292 ++ l0) := ⟨_, rfl⟩
  replace H : (some y295) = some r := by first | (rw [hy295]; with_reducible exact H) | (have H2_ := (Option.bind_some _ _).symm.trans H; rw [hy295]; with_reducible exact H2_) | (have H2_ := (Option.bind_some _ _).symm.trans H; with_reducible exact H2_) | with_reducible exact H | (rw [hy295]; exact H) | exact H
  have Ny295 := Aside0.mk hy295
  clear hy295
  obtain rfl := Option.some.inj H
  go_enter Tryz.func43, Tryz.ntmps43
  go_wp2_with (first | ((with_reducible refine gate_dst (N := 3) rfl ?_); refine Kd.R_lit Kd.string _ 9 ?hg (N := 3) ?hd (xs := ([] : List ByteArray)) (inner := []) (ok := fun _ => True) (okp := fun _ => True) ?hr ?hp (fun _ hk => hk) trivial (Below.refl _ _) (Nat.le_refl _) (by simp) ?_; (case hd => rfl); (case hg => rfl); (case hr => first | (go_simp; done) | (go_simp; rfl) | (go_simp; simp only [wAl, wAr, wSl, wSr, wW])); (case hp => exact (Reps.none _ _)); intro v293 w3 ho4 hb hg_ hnew_; clear hg_ hnew_; (first | rw [← Ny292.out] at ho4 | (simp only [Int.reduceToNat] at ho4; rw [← Ny292.out] at ho4)); have n0_ := Aside0.mk (Kd.R_lower ho4 (below_size (by repeat (first | (with_reducible first | exact HB.out | apply below_alloc | apply pw_below_drewN | apply below_drew1) | exact HB.out)))); have n1_ := bsA HB hb; clear HB; have HO294 := n0_; have HB := n1_; clear n0_ n1_; clear hb ho4) | ((with_reducible refine gate_builtin (b := .append) (xs := #[.tmp 3, .tmp 4]) rfl ?_); at_builtin; refine Kd.R_append_rows Kd.string (w0 := w) w.heap.size rfl (.tmp 3) (.tmp 4) 35 9 (.string ⟨#[]⟩) 16 rfl Tryz.underlying35 info9 rfl (by decide) (by omega) v293 y292 l0 _ _ _ (fun _ => True) (fun _ => False) rfl rfl ?aO ?aR (fun _ _ h => h) (fun _ h => h.elim) ?aF ?aB ?aS ?aL ?_; (case aR => repeat (first | exact (Kd.C_below HR0.out HB.out) | (with_reducible refine Kd.C_alloc ?_ _) | (with_reducible refine Kd.C_drewN ?_ _) | (with_reducible refine Kd.C_drew ?_))); (case aB => exact (by repeat (first | (with_reducible first | exact HB.out | apply below_alloc | apply pw_below_drewN | apply below_drew1) | exact HB.out))); (case aF => exact (fun _ _ => trivial)); (case aO => exact (by (with_reducible repeat (first | apply Kd.R_alloc | apply Kd.R_drewN | apply Kd.R_drew)); exact HO294.out)); (case aS => exact (below_size (by repeat (first | (with_reducible first | exact HB.out | apply below_alloc | apply pw_below_drewN | apply below_drew1) | exact HB.out)))); (case aL => have := LMc2.out; omega); intro v296 w5 ho hb hg hat; rw [← Ny295.out] at ho; have n0_ := Aside0.mk (hb); have n1_ := Aside0.mk (ho); clear HB; clear HO294; have HB := n0_; have HO297 := n1_; clear n0_ n1_; clear ho hb hg hat))
  go_ret
  exact ⟨_, by first | rfl | (simp [errW_none, errW_some] <;> rfl) | (simp [*, errW_none, errW_some] <;> rfl), by (with_reducible repeat (first | apply Kd.R_alloc | apply Kd.R_drewN | apply Kd.R_drew)); exact HO297.out, by repeat (first | (with_reducible first | exact HB.out | apply below_alloc | apply pw_below_drewN | apply below_drew1) | exact HB.out)⟩
 ·rw [if_neg c2] at H
  exact absurd H (by simp)
def dragnetref19_Copy.l0 : Nat → List (S37) → Int → List (S37) → Int → ByteArray → Int → Int → Int → Option ((List (S37)) × Int × ByteArray × Int × Int × Int)
 | 0, _, _, _, _, _, _, _, _ => none
 | k + 1, x3, x4, x299000, x299001, x299002, x299003, x299004, x299005 => if x4 < (x3.length : Int) then (if 0 ≤ x4 then ((dragnetref06_Copy.f ((rd_T37 x3 x4).f4)).bind fun t307 => (dragnetref19_Copy.l0 k (x3.set (x4 : Int).toNat (⟨(rd_T37 x3 x4).f0, (rd_T37 x3 x4).f1, (rd_T37 x3 x4).f2, (rd_T37 x3 x4).f3, t307, (rd_T37 x3 x4).f5, (rd_T37 x3 x4).f6, (rd_T37 x3 x4).f7⟩ : S37)) (wrap64 (x4 + 1)) x299000 x299001 x299002 x299003 x299004 x299005)) else (none)) else (some (x3, x299001, x299002, x299003, x299004, x299005))
def dragnetref19_Copy.f (k : Nat) (l0_0 : List (S37)) (a0_1 : Int) (a0_2 : ByteArray) (a0_3 : Int) (a0_4 : Int) (a0_5 : Int) : Option ((List (S37)) × Int × ByteArray × Int × Int × Int) := (some (([] : List (S37)) : List (S37))).bind fun y300 => (if y300.length + l0_0.length < 1466015503701 then (dragnetref19_Copy.l0 k (y300 ++ l0_0) 0 l0_0 a0_1 a0_2 a0_3 a0_4 a0_5) else (none))
theorem dragnetref19_Copy.calls (k : Nat) (P0_0_ : Nat → Prop) (A0_0 : Option Addr) (c0_0 : Nat) (l0_0 : List (S37)) (a0_1 : Int) (a0_2 : ByteArray) (a0_3 : Int) (a0_4 : Int) (a0_5 : Int) (r1 : List (S37)) (r2 : Int) (r3 : ByteArray) (r4 : Int) (r5 : Int) (r6 : Int) (w : World) (hs0_0 : Kd.V k37 37 w w.heap.size (fun k_ => P0_0_ k_) (.slice A0_0 l0_0.length c0_0) l0_0) (h : dragnetref19_Copy.f k l0_0 a0_1 a0_2 a0_3 a0_4 a0_5 = some (r1, r2, r3, r4, r5, r6)) :
  Calls Tryz.prog 17 #[.agg #[.slice A0_0 l0_0.length c0_0, .int .i64 a0_1, .string a0_2, .int .i64 a0_3, .int .i64 a0_4, .int .i64 a0_5]] w fun e w' => ∃ v0_ : Value, e = .returned (.agg #[v0_, .int .i64 r2, .string r3, .int .i64 r4, .int .i64 r5, .int .i64 r6]) ∧ Kd.N k37 37 w' w.heap.size (fun k_ => (P0_0_ k_ ∨ w.heap.size ≤ k_)) v0_ r1 ∧ Below w.heap.size w w' := by
 have hu24 := Tryz.underlying24
 have HO0_0 := Aside0.mk (show Kd.V k37 37 w w.heap.size (fun k_ => (P0_0_ k_ ∨ w.heap.size ≤ k_)) (.slice A0_0 l0_0.length c0_0) l0_0 from Kd.V_mono hs0_0 (fun k_ hk => .inl hk))
 have HB := Aside0.mk (Below.refl w.heap.size w)
 have H : ((some (([] : List (S37)) : List (S37))).bind fun y300 => (if y300.length + l0_0.length < 1466015503701 then (dragnetref19_Copy.l0 k (y300 ++ l0_0) 0 l0_0 a0_1 a0_2 a0_3 a0_4 a0_5) else (none))) = some (r1, r2, r3, r4, r5, r6) := h
 clear h
 obtain ⟨y300, hy300⟩ : ∃ y_ : List (S37), y_ = (([] : List (S37))) := ⟨_, rfl⟩
 replace H : (if y300.length + l0_0.length < 1466015503701 then (dragnetref19_Copy.l0 k (y300 ++ l0_0) 0 l0_0 a0_1 a0_2 a0_3 a0_4 a0_5) else (none)) = some (r1, r2, r3, r4, r5, r6) := by first | (rw [hy300]; with_reducible exact H) | (have H2_ := (Option.bind_some _ _).symm.trans H; rw [hy300]; with_reducible exact H2_) | (have H2_ := (Option.bind_some _ _).symm.trans H; with_reducible exact H2_) | with_reducible exact H | (rw [hy300]; exact H) | exact H
 have Ny300 := Aside0.mk hy300
 clear hy300
 by_cases c2 : y300.length + l0_0.length < 1466015503701
 ·rw [if_pos c2] at H
  have LMc2 := Aside0.mk c2
  clear c2
  obtain ⟨y303, hy303⟩ : ∃ y_ : List (S37), y_ = (y300 ++ l0_0) := ⟨_, rfl⟩
  replace H : (dragnetref19_Copy.l0 k y303 0 l0_0 a0_1 a0_2 a0_3 a0_4 a0_5) = some (r1, r2, r3, r4, r5, r6) := by first | (rw [hy303]; with_reducible exact H) | (have H2_ := (Option.bind_some _ _).symm.trans H; rw [hy303]; with_reducible exact H2_) | (have H2_ := (Option.bind_some _ _).symm.trans H; with_reducible exact H2_) | with_reducible exact H | (rw [hy303]; exact H) | exact H
  have Ny303 := Aside0.mk hy303
  clear hy303
  have H' := Aside0.mk H
  clear H
  go_enter Tryz.func17, Tryz.ntmps17
  go_wp2_with (first | ((with_reducible refine gate_dst (N := 1) rfl ?_); refine box_event ?hg (N := 1) ?hd (cs := #[.slice A0_0 l0_0.length c0_0, .int .i64 a0_1, .string a0_2, .int .i64 a0_3, .int .i64 a0_4, .int .i64 a0_5]) (t := 24) ?hr ?_; (case hd => rfl); (case hg => rfl); (case hr => first | (go_simp; done) | (go_simp; rfl) | (go_simp; simp only [wAl, wAr, wSl, wSr, wW])); intro gb298 hg w3 hbox hb; have n0_ := Aside0.mk (Kd.V_below (Kd.V_elderB (by (with_reducible repeat (first | apply Kd.V_alloc | apply Kd.V_drewN | apply Kd.V_drew)); exact HO0_0.out) gb298 (Nat.le_of_eq hg.symm)) hb); have n1_ := bsA HB hb; have n2_ := Aside0.mk (hbox); have n3_ := szA HB hg; have n4_ := szA HB hg; clear HO0_0; clear HB; have HO0_0 := n0_; have HB := n1_; have BK298 := n2_; have GW298 := n3_; have GE298 := n4_; clear n0_ n1_ n2_ n3_ n4_; clear hb hbox hg) | ((with_reducible refine gate_dst (N := 2) rfl ?_); refine box_event ?hg (N := 2) ?hd (cs := #[.slice none 0 0, .int .i64 0, .string (⟨#[]⟩ : ByteArray), .int .i64 0, .int .i64 0, .int .i64 0]) (t := 24) ?hr ?_; (case hd => rfl); (case hg => rfl); (case hr => first | (go_simp; done) | (go_simp; rfl) | (go_simp; simp only [wAl, wAr, wSl, wSr, wW])); intro gb299 hg w4 hbox hb; have n0_ := Aside0.mk (Kd.V_below (Kd.V_elderB (by (with_reducible repeat (first | apply Kd.V_alloc | apply Kd.V_drewN | apply Kd.V_drew)); exact HO0_0.out) gb299 (Nat.le_of_eq hg.symm)) hb); have n1_ := bkA BK298 hb; have n2_ := bsA HB hb; have n3_ := Aside0.mk (hbox); have n4_ := szA HB hg; have n5_ := szA HB hg; have n6_ := neA BK298 hg; have n7_ := neB BK298 hg; clear HO0_0; clear BK298; clear HB; have HO0_0 := n0_; have BK298 := n1_; have HB := n2_; have BK299 := n3_; have GW299 := n4_; have GE299 := n5_; have NB298_299 := n6_; have NB299_298 := n7_; clear n0_ n1_ n2_ n3_ n4_ n5_ n6_ n7_; clear hb hbox hg) | ((with_reducible refine gate_dst (N := 5) rfl ?_); refine Kd.N_lit k37 _ 37 ?hg (N' := 5) ?hd (xs := ([] : List (S37))) (inner := []) (ok := (fun k_ => (P0_0_ k_ ∨ w.heap.size ≤ k_) ∧ k_ ≠ gb298 ∧ k_ ≠ gb299)) (okp := (fun k_ => (P0_0_ k_ ∨ w.heap.size ≤ k_) ∧ k_ ≠ gb298 ∧ k_ ≠ gb299)) ?hr ?hp (fun _ hk => hk) ((show ∀ k_, w4.heap.size ≤ k_ → (fun k_ => (P0_0_ k_ ∨ w.heap.size ≤ k_) ∧ k_ ≠ gb298 ∧ k_ ≠ gb299) k_ from fun k_ hk => ⟨(.inr (Nat.le_trans (below_size (by repeat (first | (with_reducible first | exact HB.out | apply below_alloc | apply pw_below_drewN | apply below_drew1 | refine below_set ?_ GE298.out | refine below_set ?_ GE299.out) | exact HB.out))) hk)), Kd.freshB (g := gb298) (o := .cells #[.slice A0_0 l0_0.length c0_0, .int .i64 a0_1, .string a0_2, .int .i64 a0_3, .int .i64 a0_4, .int .i64 a0_5] 24 (0, 0)) (bU_ BK298.out) k_ hk, Kd.freshB (g := gb299) (o := .cells #[.slice none 0 0, .int .i64 0, .string (⟨#[]⟩ : ByteArray), .int .i64 0, .int .i64 0, .int .i64 0] 24 (0, 0)) (bU_ BK299.out) k_ hk⟩) _ (Nat.le_refl _)) (Below.refl _ _) (Nat.le_refl _) (by simp) ?_; (case hd => rfl); (case hg => rfl); (case hr => first | (go_simp; done) | (go_simp; rfl) | (go_simp; simp only [wAl, wAr, wSl, wSr, wW])); (case hp => exact (Reps.none _ _)); intro v301 w5 ho6 hb hg_ hnew_; clear hg_ hnew_; (first | rw [← Ny300.out] at ho6 | (simp only [Int.reduceToNat] at ho6; rw [← Ny300.out] at ho6)); have n0_ := Aside0.mk (Kd.V_elder' (by (with_reducible repeat (first | apply Kd.V_alloc | apply Kd.V_drewN | apply Kd.V_drew)); exact HO0_0.out) (Kd.N_base ho6) hb); have n1_ := Aside0.mk (Kd.N_lower ho6 (below_size (by repeat (first | (with_reducible first | exact HB.out | apply below_alloc | apply pw_below_drewN | apply below_drew1 | refine below_set ?_ GE298.out | refine below_set ?_ GE299.out) | exact HB.out)))); have n2_ := bkA BK298 hb; have n3_ := bkA BK299 hb; have n4_ := bsA HB hb; clear HO0_0; clear BK298; clear BK299; clear HB; have HO0_0 := n0_; have HO302 := n1_; have BK298 := n2_; have BK299 := n3_; have HB := n4_; clear n0_ n1_ n2_ n3_ n4_; clear hb ho6; have hnb7 := NB298_299.out; have hnc7 := NB299_298.out; have hcz8_0 : w5.cell? ⟨gb298, 0, none⟩ = some (.slice A0_0 l0_0.length c0_0) := (blk_cell BK298.out 0).trans rfl; have hcz8_1 : w5.cell? ⟨gb298, 1, none⟩ = some (.int .i64 a0_1) := (blk_cell BK298.out 1).trans rfl; have hcz8_2 : w5.cell? ⟨gb298, 2, none⟩ = some (.string a0_2) := (blk_cell BK298.out 2).trans rfl; have hcz8_3 : w5.cell? ⟨gb298, 3, none⟩ = some (.int .i64 a0_3) := (blk_cell BK298.out 3).trans rfl; have hcz8_4 : w5.cell? ⟨gb298, 4, none⟩ = some (.int .i64 a0_4) := (blk_cell BK298.out 4).trans rfl; have hcz8_5 : w5.cell? ⟨gb298, 5, none⟩ = some (.int .i64 a0_5) := (blk_cell BK298.out 5).trans rfl; have hfz8_0 := blk_frozen BK298.out 0; have hfz8_1 := blk_frozen BK298.out 1; have hfz8_2 := blk_frozen BK298.out 2; have hfz8_3 := blk_frozen BK298.out 3; have hfz8_4 := blk_frozen BK298.out 4; have hfz8_5 := blk_frozen BK298.out 5) | ((with_reducible refine gate_builtin (b := .append) (xs := #[.tmp 5, .tmp 7]) rfl ?_); at_builtin; refine Kd.N_append_rows k37 (w0 := w) w.heap.size rfl (.tmp 5) (.tmp 7) 22 37 (.agg #[(.int .i64 0), (.int .i64 0), (.int .i64 0), (.string ⟨#[]⟩), (.slice none 0 0), (.string ⟨#[]⟩), (.int .i64 0), (.int .i64 0)]) 96 rfl Tryz.underlying22 info37 rfl (by decide) (by omega) v301 y300 l0_0 _ _ _ (fun k_ => (P0_0_ k_ ∨ w.heap.size ≤ k_) ∧ k_ ≠ gb298 ∧ k_ ≠ gb299) (fun k_ => ((fun k_ => (P0_0_ k_ ∨ w.heap.size ≤ k_) ∧ k_ ≠ gb298 ∧ k_ ≠ gb299)) k_ ∧ some k_ ≠ (v301 : Value).ownBlock) rfl rfl ?aO ?aR (fun _ hk => hk) ?aF ?aB ?aS ?aL ?_; (case aR => exact (by skip; exact Kd.V_F (Kd.V_mono (ok' := (fun k_ => ((fun k_ => (P0_0_ k_ ∨ w.heap.size ≤ k_) ∧ k_ ≠ gb298 ∧ k_ ≠ gb299)) k_ ∧ some k_ ≠ (v301 : Value).ownBlock)) (HO0_0.out) (fun k_ hk => ⟨⟨hk.1.1.1, ⟨hk.1.1.2, hk.1.2⟩⟩, hk.2⟩)))); (case aB => exact (by repeat (first | (with_reducible first | exact HB.out | apply below_alloc | apply pw_below_drewN | apply below_drew1 | refine below_set ?_ GE298.out | refine below_set ?_ GE299.out) | exact HB.out))); (case aF => exact (fun k_ hk => ⟨(.inr (Nat.le_trans (below_size (by repeat (first | (with_reducible first | exact HB.out | apply below_alloc | apply pw_below_drewN | apply below_drew1 | refine below_set ?_ GE298.out | refine below_set ?_ GE299.out) | exact HB.out))) hk)), Kd.freshB (g := gb298) (o := .cells #[.slice A0_0 l0_0.length c0_0, .int .i64 a0_1, .string a0_2, .int .i64 a0_3, .int .i64 a0_4, .int .i64 a0_5] 24 (0, 0)) (bU_ BK298.out) k_ hk, Kd.freshB (g := gb299) (o := .cells #[.slice none 0 0, .int .i64 0, .string (⟨#[]⟩ : ByteArray), .int .i64 0, .int .i64 0, .int .i64 0] 24 (0, 0)) (bU_ BK299.out) k_ hk⟩)); (case aO => exact (by (with_reducible repeat (first | apply Kd.N_alloc | apply Kd.N_drewN | apply Kd.N_drew)); exact HO302.out)); (case aS => exact (below_size (by repeat (first | (with_reducible first | exact HB.out | apply below_alloc | apply pw_below_drewN | apply below_drew1 | refine below_set ?_ GE298.out | refine below_set ?_ GE299.out) | exact HB.out)))); (case aL => have := LMc2.out; omega); intro v304 w9 ho hb hg hat; rw [← Ny303.out] at ho; have n0_ := Aside0.mk (Kd.V_afterv (ok := (fun k_ => (P0_0_ k_ ∨ w.heap.size ≤ k_) ∧ k_ ≠ gb298 ∧ k_ ≠ gb299)) (by (with_reducible repeat (first | apply Kd.V_alloc | apply Kd.V_drewN | apply Kd.V_drew)); exact Kd.V_mono HO0_0.out (fun _ hk => ⟨⟨hk.1.1.1, ⟨hk.1.1.2, hk.1.2⟩⟩, hk.2⟩)) hg hat); have n1_ := Aside0.mk (blk_grown (g := gb298) (o := .cells #[.slice A0_0 l0_0.length c0_0, .int .i64 a0_1, .string a0_2, .int .i64 a0_3, .int .i64 a0_4, .int .i64 a0_5] 24 (0, 0)) (bU_ BK298.out) hg (Kd.N_ne HO302.out BK298.out (by decide))); have n2_ := Aside0.mk (blk_grown (g := gb299) (o := .cells #[.slice none 0 0, .int .i64 0, .string (⟨#[]⟩ : ByteArray), .int .i64 0, .int .i64 0, .int .i64 0] 24 (0, 0)) (bU_ BK299.out) hg (Kd.N_ne HO302.out BK299.out (by decide))); have n3_ := Aside0.mk (hb); have n4_ := Aside0.mk (ho); clear HO0_0; clear BK298; clear BK299; clear HB; clear HO302; have HO0_0 := n0_; have BK298 := n1_; have BK299 := n2_; have HB := n3_; have HO305 := n4_; clear n0_ n1_ n2_ n3_ n4_; clear ho hb hg hat))
  go_loopg [4] k (fun kq v4 w' => ∃ (x3_1 : List (S37)) (x4_1 : Int), v4 = .int .i64 x4_1 ∧ Aside0 (dragnetref19_Copy.l0 kq x3_1 x4_1 l0_0 a0_1 a0_2 a0_3 a0_4 a0_5 = some (r1, r2, r3, r4, r5, r6)) ∧ Aside0 (kq ≤ k) ∧ Aside0 (Kd.N k37 37 w' w.heap.size (fun k_ => (P0_0_ k_ ∨ w.heap.size ≤ k_) ∧ k_ ≠ gb298 ∧ k_ ≠ gb299) v304 x3_1) ∧ Aside0 (Kd.V k37 37 w' w.heap.size (fun k_ => (P0_0_ k_ ∨ w.heap.size ≤ k_) ∧ some k_ ≠ (v304 : Value).ownBlock ∧ k_ ≠ gb298 ∧ k_ ≠ gb299) (.slice A0_0 l0_0.length c0_0) l0_0) ∧ Aside0 (w'.heap[gb298]? = some (.cells #[(.slice A0_0 l0_0.length c0_0), .int .i64 a0_1, .string a0_2, .int .i64 a0_3, .int .i64 a0_4, .int .i64 a0_5] 24 (0, 0))) ∧ Aside0 (w'.heap[gb299]? = some (.cells #[(.slice none 0 0), .int .i64 0, .string (⟨#[]⟩ : ByteArray), .int .i64 0, .int .i64 0, .int .i64 0] 24 (0, 0))) ∧ Aside0 (Below w.heap.size w w'))
  case atStart => exact ⟨(y303), (0), rs_, H', ⟨Nat.le_refl _⟩, ⟨by (with_reducible repeat (first | apply Kd.N_alloc | apply Kd.N_drewN | apply Kd.N_drew)); exact HO305.out⟩, ⟨by (with_reducible repeat (first | apply Kd.V_alloc | apply Kd.V_drewN | apply Kd.V_drew)); exact Kd.V_mono HO0_0.out (fun _ hk => ⟨hk.1.1, ⟨hk.2, ⟨hk.1.2.1, hk.1.2.2⟩⟩⟩)⟩, ⟨bU_ BK298.out⟩, ⟨bU_ BK299.out⟩, ⟨by repeat (first | (with_reducible first | exact HB.out | apply below_alloc | apply pw_below_drewN | apply below_drew1 | refine below_set ?_ GE298.out | refine below_set ?_ GE299.out) | exact HB.out)⟩⟩
  case round =>
   clear H'
   try clear c1
   try clear c2
   try clear p2
   try clear c7
   try clear hcz8_0
   try clear hcz8_1
   try clear hcz8_2
   try clear hcz8_3
   try clear hcz8_4
   try clear hcz8_5
   try clear hfz8_0
   try clear hfz8_1
   try clear hfz8_2
   try clear hfz8_3
   try clear hfz8_4
   try clear hfz8_5
   obtain ⟨x3_1, x4_1, rfl, HA, HK1, HO_3, HO_299000, BK298, BK299, HB⟩ := hrel
   cases gk with
   | zero => exact absurd HA.out (by simp [dragnetref19_Copy.l0])
   | succ k1 =>
    have H := HA.out
    clear HA
    simp only [dragnetref19_Copy.l0] at H
    by_cases c10 : x4_1 < (x3_1.length : Int)
    ·rw [if_pos c10] at H
     have c10b0 : decide (x4_1 < (x3_1.length : Int)) = true := decide_eq_true c10
     clear c10
     by_cases c11 : 0 ≤ x4_1
     ·rw [if_pos c11] at H
      have c11b0 : decide (0 ≤ x4_1) = true := decide_eq_true c11
      clear c11
      replace H := Option.bind_eq_some_iff.mp H
      obtain ⟨t307, A120, H⟩ := H
      replace H : (dragnetref19_Copy.l0 k1 (x3_1.set (x4_1 : Int).toNat (⟨(rd_T37 x3_1 x4_1).f0, (rd_T37 x3_1 x4_1).f1, (rd_T37 x3_1 x4_1).f2, (rd_T37 x3_1 x4_1).f3, t307, (rd_T37 x3_1 x4_1).f5, (rd_T37 x3_1 x4_1).f6, (rd_T37 x3_1 x4_1).f7⟩ : S37)) (wrap64 (x4_1 + 1)) l0_0 a0_1 a0_2 a0_3 a0_4 a0_5) = some (r1, r2, r3, r4, r5, r6) := H
      have A12 := Aside0.mk A120
      clear A120
      obtain ⟨y310, hy310⟩ : ∃ y_ : List (S37), y_ = (x3_1.set (x4_1 : Int).toNat (⟨(rd_T37 x3_1 x4_1).f0, (rd_T37 x3_1 x4_1).f1, (rd_T37 x3_1 x4_1).f2, (rd_T37 x3_1 x4_1).f3, t307, (rd_T37 x3_1 x4_1).f5, (rd_T37 x3_1 x4_1).f6, (rd_T37 x3_1 x4_1).f7⟩ : S37)) := ⟨_, rfl⟩
      replace H : (dragnetref19_Copy.l0 k1 y310 (wrap64 (x4_1 + 1)) l0_0 a0_1 a0_2 a0_3 a0_4 a0_5) = some (r1, r2, r3, r4, r5, r6) := by first | (rw [hy310]; with_reducible exact H) | (have H2_ := (Option.bind_some _ _).symm.trans H; rw [hy310]; with_reducible exact H2_) | (have H2_ := (Option.bind_some _ _).symm.trans H; with_reducible exact H2_) | with_reducible exact H | (rw [hy310]; exact H) | exact H
      have Ny310 := Aside0.mk hy310
      clear hy310
      have H' := Aside0.mk H
      clear H
      obtain ⟨Ao14, co14, eo14⟩ := Kd.N_slice HO_3.out
      subst eo14
      have p306 : 0 ≤ (x4_1 : Int) := of_decide_eq_true as_
      have q306 : x4_1 < (x3_1.length : Int) := of_decide_eq_true as_
      obtain ⟨ad306, A306_4, c306_4, e306, hx306_0, hx306_1, hx306_2, hx306_3, hx306_4, hx306_5, hx306_6, hx306_7, hl306_4, hi306_4⟩ := at_T37 (Kd.N_reads' HO_3.out).2.2 x4_1 p306 q306
      cases e306
      obtain ⟨ce306, hce306, hMe306, hcc306⟩ := Kd.N_get HO_3.out z37 x4_1 p306 (by first | exact q306 | exact of_decide_eq_true as_ | (have e_ := (Kd.N_reads' HO_3.out).1; omega))
      obtain ⟨ua306_4, uc306_4, rfl, ul306_4, ge306_4⟩ := k37_openF hMe306
      have hv306_4 := hcc306 4 _ rfl
      rw [add_field _ _ 4 (by omega)] at hv306_4
      replace hv306_4 := Option.some.inj (hv306_4.symm.trans hx306_4)
      injection hv306_4 with hva_ hvn_ hvc_
      rw [hva_] at ge306_4
      rw [hvc_] at ul306_4
      have HL306_4 := Aside0.mk (show Kd.V Kd.string 9 _ w.heap.size _ _ ((rd_T37 x3_1 x4_1).f4) from Kd.V_mk ul306_4 ge306_4)
      clear hva_ hvn_ hvc_ ge306_4 ul306_4
      clear hcc306 hce306
      have HR306_4 := Aside0.mk hi306_4
      have HC306_4 := Aside0.mk hl306_4
      clear hi306_4 hl306_4
      replace p306 := eq_true p306
      replace q306 := eq_true q306
      go_wp2_with (first | ((with_reducible refine gate_callee (f := 43) rfl ?_); refine goesL_ (some 22) rfl rfl Tryz.func43 (by kernel_rfl) rfl #[.slice A306_4 ((rd_T37 x3_1 x4_1).f4).length c306_4] rfl mp_ ?_; (with_reducible refine (dragnetref06_Copy.calls _ _ ((rd_T37 x3_1 x4_1).f4) t307 _ ?side1 ?side2 A12.out).mono ?_); (case side1 => repeat (first | exact (by repeat (first | (with_reducible exact HR306_4.out) | (with_reducible refine Kd.C_alloc ?_ _) | (with_reducible refine Kd.C_drewN ?_ _) | (with_reducible refine Kd.C_drew ?_) | exact HR306_4.out)) | (with_reducible refine Kd.C_alloc ?_ _) | (with_reducible refine Kd.C_drewN ?_ _) | (with_reducible refine Kd.C_drew ?_))); (case side2 => exact HC306_4.out); rintro e w15 ⟨v308, rfl, ho0, hb⟩; refine ⟨_, rfl, ?_⟩; have n0_ := Aside0.mk (Kd.N_elder' (by (with_reducible repeat (first | apply Kd.N_alloc | apply Kd.N_drewN | apply Kd.N_drew)); exact HO_3.out) (Kd.R_base ho0) hb); have n1_ := Aside0.mk (Kd.V_elder' (by (with_reducible repeat (first | apply Kd.V_alloc | apply Kd.V_drewN | apply Kd.V_drew)); exact HO_299000.out) (Kd.R_base ho0) hb); have n2_ := Aside0.mk (Kd.V_elder' (by (with_reducible repeat (first | apply Kd.V_alloc | apply Kd.V_drewN | apply Kd.V_drew)); exact HL306_4.out) (Kd.R_base ho0) hb); have n3_ := Aside0.mk (Kd.R_lower (Kd.R_newM (M := fun k_ => (w.heap.size ≤ k_)) ho0 (below_size (by repeat (first | (with_reducible first | exact HB.out | apply below_alloc | apply pw_below_drewN | apply below_drew1 | refine below_set ?_ GE298.out | refine below_set ?_ GE299.out) | exact HB.out))) (fun k_ h_ => h_)) (below_size (by repeat (first | (with_reducible first | exact HB.out | apply below_alloc | apply pw_below_drewN | apply below_drew1 | refine below_set ?_ GE298.out | refine below_set ?_ GE299.out) | exact HB.out)))); have n4_ := bkA BK298 hb; have n5_ := bkA BK299 hb; have n6_ := Aside0.mk (Kd.C_below (by repeat (first | (with_reducible exact HR306_4.out) | (with_reducible refine Kd.C_alloc ?_ _) | (with_reducible refine Kd.C_drewN ?_ _) | (with_reducible refine Kd.C_drew ?_) | exact HR306_4.out)) hb); have n7_ := bsA HB hb; clear HO_3; clear HO_299000; clear HL306_4; clear BK298; clear BK299; clear HR306_4; clear HB; have HO_3 := n0_; have HO_299000 := n1_; have HL306_4 := n2_; have HO309 := n3_; have BK298 := n4_; have BK299 := n5_; have HR306_4 := n6_; have HB := n7_; clear n0_ n1_ n2_ n3_ n4_ n5_ n6_ n7_; (try clear hb); (try clear hb2); (try clear hk); (try clear hi); (try clear ho0); obtain ⟨Av308, cv308, eo_⟩ := Kd.R_slice HO309.out; subst eo_; have p13 : 0 ≤ (x4_1 : Int) := of_decide_eq_true as_; have q13 : (x4_1 : Int) < ((x3_1.length : Int) : Int) := of_decide_eq_true as_; obtain ⟨go13, co13, eo13, gb13, gl13, cl13, HG13⟩ := Kd.N_form HO_3.out (by omega); (first | cases eo13 | (injection eo13 with ea_ en_ ec_; (first | subst ea_ | (injection ea_ with ea_; subst ea_)); subst ec_; clear en_)); have GB13 := Aside0.mk gb13; have GG13 := Aside0.mk HG13; clear gb13 gl13 HG13; (first | simp only [add_plain] at hx306_0 | skip); (first | simp only [add_plain] at hx306_1 | skip); (first | simp only [add_plain] at hx306_2 | skip); (first | simp only [add_plain] at hx306_3 | skip); (first | simp only [add_plain] at hx306_4 | skip); (first | simp only [add_plain] at hx306_5 | skip); (first | simp only [add_plain] at hx306_6 | skip); (first | simp only [add_plain] at hx306_7 | skip); obtain ⟨ce13, hcl13, hM13, hcc13, hfr13⟩ := Kd.N_elem HO_3.out z37 (x4_1 : Int) p13 q13; obtain ⟨ua13_4, uc13_4, rfl, ul13_4, ge13_4⟩ := k37_openF hM13; have hx13_0 : w15.cell? ⟨go13, (x4_1 : Int).toNat * 8, none⟩ = some (.int .i64 ((rd_T37 x3_1 x4_1).f0)) := hcc13 0 _ rfl; have hx13_1 : w15.cell? ⟨go13, (x4_1 : Int).toNat * 8 + 1, none⟩ = some (.int .i64 ((rd_T37 x3_1 x4_1).f1)) := hcc13 1 _ rfl; have hx13_2 : w15.cell? ⟨go13, (x4_1 : Int).toNat * 8 + 2, none⟩ = some (.int .i64 ((rd_T37 x3_1 x4_1).f2)) := hcc13 2 _ rfl; have hx13_3 : w15.cell? ⟨go13, (x4_1 : Int).toNat * 8 + 3, none⟩ = some (.string ((rd_T37 x3_1 x4_1).f3)) := hcc13 3 _ rfl; have hx13_4 : w15.cell? ⟨go13, (x4_1 : Int).toNat * 8 + 4, none⟩ = some (.slice ua13_4 ((rd_T37 x3_1 x4_1).f4).length uc13_4) := hcc13 4 _ rfl; have hx13_5 : w15.cell? ⟨go13, (x4_1 : Int).toNat * 8 + 5, none⟩ = some (.string ((rd_T37 x3_1 x4_1).f5)) := hcc13 5 _ rfl; have hx13_6 : w15.cell? ⟨go13, (x4_1 : Int).toNat * 8 + 6, none⟩ = some (.int .i64 ((rd_T37 x3_1 x4_1).f6)) := hcc13 6 _ rfl; have hx13_7 : w15.cell? ⟨go13, (x4_1 : Int).toNat * 8 + 7, none⟩ = some (.int .i64 ((rd_T37 x3_1 x4_1).f7)) := hcc13 7 _ rfl; have hf13_0 : w15.frozen? ⟨go13, (x4_1 : Int).toNat * 8, none⟩ = false := hfr13 0; have hf13_1 : w15.frozen? ⟨go13, (x4_1 : Int).toNat * 8 + 1, none⟩ = false := hfr13 1; have hf13_2 : w15.frozen? ⟨go13, (x4_1 : Int).toNat * 8 + 2, none⟩ = false := hfr13 2; have hf13_3 : w15.frozen? ⟨go13, (x4_1 : Int).toNat * 8 + 3, none⟩ = false := hfr13 3; have hf13_4 : w15.frozen? ⟨go13, (x4_1 : Int).toNat * 8 + 4, none⟩ = false := hfr13 4; have hf13_5 : w15.frozen? ⟨go13, (x4_1 : Int).toNat * 8 + 5, none⟩ = false := hfr13 5; have hf13_6 : w15.frozen? ⟨go13, (x4_1 : Int).toNat * 8 + 6, none⟩ = false := hfr13 6; have hf13_7 : w15.frozen? ⟨go13, (x4_1 : Int).toNat * 8 + 7, none⟩ = false := hfr13 7; clear hcl13 hcc13 hfr13 hM13; replace p13 := eq_true p13; replace q13 := eq_true q13; have n_ := Aside0.mk (Kd.N_mono (ok' := (fun k_ => (P0_0_ k_ ∨ w.heap.size ≤ k_) ∧ some k_ ≠ (.slice Av308 t307.length cv308 : Value).ownBlock ∧ k_ ≠ gb298 ∧ k_ ≠ gb299)) HO_3.out (fun k_ hk => ⟨hk.1.1, ⟨hk.2, ⟨hk.1.2.1, hk.1.2.2⟩⟩⟩)); clear HO_3; have HO_3 := n_; clear n_; have HX16 := Aside0.mk (show Kd.N k37 37 w15 w.heap.size (fun k_ => (P0_0_ k_ ∨ w.heap.size ≤ k_) ∧ k_ ≠ gb298 ∧ k_ ≠ gb299) (.slice (some ⟨go13, 0, none⟩) x3_1.length co14) x3_1 from (by (with_reducible repeat (first | apply Kd.N_alloc | apply Kd.N_drewN | apply Kd.N_drew)); exact Kd.N_mono HO_3.out (fun _ hk => ⟨hk.1, ⟨hk.2.2.1, hk.2.2.2⟩⟩))); obtain ⟨ce16, hcl16, hM16, hcc16, hfr16⟩ := Kd.N_elem HX16.out z37 (x4_1 : Int) (of_decide_eq_true as_) (by have h_ : (x4_1 : Int) < ((x3_1.length : Int) : Int) := of_decide_eq_true as_; first | exact h_ | (have e_ := (Kd.N_reads' HO_3.out).1; omega) | simpa using h_); obtain ⟨ua16_4, uc16_4, rfl, ul16_4, ge16_4⟩ := k37_openF hM16; have HP16 := Kd.N_seg HX16.out (x4_1 : Int) (of_decide_eq_true as_) (by have h_ : (x4_1 : Int) < ((x3_1.length : Int) : Int) := of_decide_eq_true as_; first | exact h_ | (have e_ := (Kd.N_reads' HO_3.out).1; omega) | simpa using h_) (seg := [(.slice Av308 t307.length cv308)]) (j := 4) hcl16 hcc16 (show 5 ≤ 8 from by decide) (x' := (⟨(rd_T37 x3_1 x4_1).f0, (rd_T37 x3_1 x4_1).f1, (rd_T37 x3_1 x4_1).f2, (rd_T37 x3_1 x4_1).f3, t307, (rd_T37 x3_1 x4_1).f5, (rd_T37 x3_1 x4_1).f6, (rd_T37 x3_1 x4_1).f7⟩ : S37)) (k37_mkF _ _ (⟨(rd_T37 x3_1 x4_1).f0, (rd_T37 x3_1 x4_1).f1, (rd_T37 x3_1 x4_1).f2, (rd_T37 x3_1 x4_1).f3, t307, (rd_T37 x3_1 x4_1).f5, (rd_T37 x3_1 x4_1).f6, (rd_T37 x3_1 x4_1).f7⟩ : S37) (Kd.R_reads' (Kd.R_mono (ok' := (fun k_ => ((fun k_ => (P0_0_ k_ ∨ w.heap.size ≤ k_) ∧ k_ ≠ gb298 ∧ k_ ≠ gb299)) k_ ∧ k_ ≠ go13)) (Kd.R_types (Kd.R_types (Kd.R_apart' (HO309.out) (Kd.N_typed HO_3.out) (by decide)) BK298.out (by decide)) BK299.out (by decide)) (fun k_ hk => ⟨⟨(.inr (hk.1.1.1.1)), ⟨hk.1.2, hk.2⟩⟩, fun e_ => (hk.1.1.2) (by rw [e_]; rfl)⟩))).2.1 (Kd.R_F (Kd.R_mono (ok' := (fun k_ => ((fun k_ => (P0_0_ k_ ∨ w.heap.size ≤ k_) ∧ k_ ≠ gb298 ∧ k_ ≠ gb299)) k_ ∧ k_ ≠ go13)) (Kd.R_types (Kd.R_types (Kd.R_apart' (HO309.out) (Kd.N_typed HO_3.out) (by decide)) BK298.out (by decide)) BK299.out (by decide)) (fun k_ hk => ⟨⟨(.inr (hk.1.1.1.1)), ⟨hk.1.2, hk.2⟩⟩, fun e_ => (hk.1.1.2) (by rw [e_]; rfl)⟩)))) (fun _ hk => hk); have hx16_4 := hcc16 4 _ rfl; (try simp only [show (k37).sz = 8 from rfl, Nat.mul_one, Nat.add_zero] at hx16_4); have hf16_4 := hfr16 4; (try simp only [show (k37).sz = 8 from rfl, Nat.mul_one, Nat.add_zero] at hf16_4); clear hcl16 hcc16 hfr16 hM16) | ((with_reducible refine gate_store (t := 35) (p := 24) rfl ?_); refine store_event (t := 35) (p := 24) (v := ?vo_w17) (w1 := (w15.setCell ⟨go13, (x4_1 : Int).toNat * 8 + 4, none⟩ (.slice Av308 t307.length cv308))) ?hg ?ho ?hn ?hr ?_; (case ho => rfl); (case hg => rfl); (case hn => rfl); (case hr => first | (go_simp; done) | (go_simp; rfl) | (go_simp; simp only [wAl, wAr, wSl, wSr, wW])); intro w17 hw; have hg : w15.grownBy w17 (some go13) := (by rw [hw]; exact HP16.2); have hp_ : Kd.N k37 37 w17 w.heap.size (fun k_ => (P0_0_ k_ ∨ w.heap.size ≤ k_) ∧ k_ ≠ gb298 ∧ k_ ≠ gb299) (.slice (some ⟨go13, 0, none⟩) x3_1.length co14) y310 := (by rw [hw, Ny310.out]; exact HP16.1); clear HP16; have n0_ := Aside0.mk (hp_); have n1_ := Aside0.mk (Kd.V_afterv (v := (.slice (some ⟨go13, 0, none⟩) x3_1.length co14)) (v1 := (.slice (some ⟨go13, 0, none⟩) x3_1.length co14)) (ok := (fun k_ => (P0_0_ k_ ∨ w.heap.size ≤ k_) ∧ some k_ ≠ (.slice Av308 t307.length cv308 : Value).ownBlock ∧ k_ ≠ gb298 ∧ k_ ≠ gb299)) (by (with_reducible repeat (first | apply Kd.V_alloc | apply Kd.V_drewN | apply Kd.V_drew)); exact Kd.V_mono HO_299000.out (fun _ hk => ⟨⟨hk.1.1, ⟨hk.2, ⟨hk.1.2.2.1, hk.1.2.2.2⟩⟩⟩, hk.1.2.1⟩)) hg (.inl rfl)); have n2_ := Aside0.mk (blk_grown (g := gb298) (o := .cells #[.slice A0_0 l0_0.length c0_0, .int .i64 a0_1, .string a0_2, .int .i64 a0_3, .int .i64 a0_4, .int .i64 a0_5] 24 (0, 0)) (bU_ BK298.out) hg (Kd.N_ne HO_3.out BK298.out (by decide))); have n3_ := Aside0.mk (blk_grown (g := gb299) (o := .cells #[.slice none 0 0, .int .i64 0, .string (⟨#[]⟩ : ByteArray), .int .i64 0, .int .i64 0, .int .i64 0] 24 (0, 0)) (bU_ BK299.out) hg (Kd.N_ne HO_3.out BK299.out (by decide))); have n4_ := Aside0.mk (Kd.V_afterv (v := (.slice (some ⟨go13, 0, none⟩) x3_1.length co14)) (v1 := (.slice (some ⟨go13, 0, none⟩) x3_1.length co14)) (ok := (fun k_ => (P0_0_ k_ ∨ w.heap.size ≤ k_) ∧ some k_ ≠ (.slice Av308 t307.length cv308 : Value).ownBlock ∧ k_ ≠ gb298 ∧ k_ ≠ gb299)) (by (with_reducible repeat (first | apply Kd.V_alloc | apply Kd.V_drewN | apply Kd.V_drew)); exact Kd.V_mono HL306_4.out (fun _ hk => ⟨⟨hk.1.1.1, ⟨hk.2, ⟨hk.1.1.2.1, hk.1.1.2.2⟩⟩⟩, hk.1.2⟩)) hg (.inl rfl)); have n5_ := Aside0.mk ((by rw [hw]; exact below_set (HB.out) GB13.out : Below w.heap.size w w17)); clear HO_3; clear HO_299000; clear BK298; clear BK299; clear HL306_4; clear HB; clear HO309; have HO_3 := n0_; have HO_299000 := n1_; have BK298 := n2_; have BK299 := n3_; have HL306_4 := n4_; have HB := n5_; clear n0_ n1_ n2_ n3_ n4_ n5_; clear hg hw hp_))
      go_roundg k1
      case measure => have := HK1.out; omega
      case rel => exact ⟨(y310), (wrap64 (x4_1 + 1)), rs_, H', ⟨by have := HK1.out; omega⟩, ⟨by (with_reducible repeat (first | apply Kd.N_alloc | apply Kd.N_drewN | apply Kd.N_drew)); exact HO_3.out⟩, ⟨by (with_reducible repeat (first | apply Kd.V_alloc | apply Kd.V_drewN | apply Kd.V_drew)); exact Kd.V_mono HO_299000.out (fun _ hk => ⟨hk.1.1, ⟨hk.2, ⟨hk.1.2.2.1, hk.1.2.2.2⟩⟩⟩)⟩, ⟨bU_ BK298.out⟩, ⟨bU_ BK299.out⟩, ⟨by repeat (first | (with_reducible first | exact HB.out | apply below_alloc | apply pw_below_drewN | apply below_drew1 | refine below_set ?_ GE298.out | refine below_set ?_ GE299.out) | exact HB.out)⟩⟩
     ·rw [if_neg c11] at H
      exact absurd H (by simp)
    ·rw [if_neg c10] at H
     have c10b0 : decide (x4_1 < (x3_1.length : Int)) = false := decide_eq_false c10
     clear c10
     simp only [Option.some.injEq, Prod.mk.injEq] at H
     obtain ⟨rfl, rfl, rfl, rfl, rfl, rfl⟩ := H
     obtain ⟨Ao18, co18, eo18⟩ := Kd.N_slice HO_3.out
     subst eo18
     have hnb19 := NB298_299.out
     have hnc19 := NB299_298.out
     have hcz20_0 : wr.cell? ⟨gb298, 0, none⟩ = some (.slice A0_0 l0_0.length c0_0) := (blk_cell BK298.out 0).trans rfl
     have hcz20_1 : wr.cell? ⟨gb298, 1, none⟩ = some (.int .i64 a0_1) := (blk_cell BK298.out 1).trans rfl
     have hcz20_2 : wr.cell? ⟨gb298, 2, none⟩ = some (.string a0_2) := (blk_cell BK298.out 2).trans rfl
     have hcz20_3 : wr.cell? ⟨gb298, 3, none⟩ = some (.int .i64 a0_3) := (blk_cell BK298.out 3).trans rfl
     have hcz20_4 : wr.cell? ⟨gb298, 4, none⟩ = some (.int .i64 a0_4) := (blk_cell BK298.out 4).trans rfl
     have hcz20_5 : wr.cell? ⟨gb298, 5, none⟩ = some (.int .i64 a0_5) := (blk_cell BK298.out 5).trans rfl
     have hfz20_0 := blk_frozen BK298.out 0
     have hfz20_1 := blk_frozen BK298.out 1
     have hfz20_2 := blk_frozen BK298.out 2
     have hfz20_3 := blk_frozen BK298.out 3
     have hfz20_4 := blk_frozen BK298.out 4
     have hfz20_5 := blk_frozen BK298.out 5
     have hcz21_0 : wr.cell? ⟨gb299, 0, none⟩ = some (.slice none 0 0) := (blk_cell BK299.out 0).trans rfl
     have hcz21_1 : wr.cell? ⟨gb299, 1, none⟩ = some (.int .i64 0) := (blk_cell BK299.out 1).trans rfl
     have hcz21_2 : wr.cell? ⟨gb299, 2, none⟩ = some (.string (⟨#[]⟩ : ByteArray)) := (blk_cell BK299.out 2).trans rfl
     have hcz21_3 : wr.cell? ⟨gb299, 3, none⟩ = some (.int .i64 0) := (blk_cell BK299.out 3).trans rfl
     have hcz21_4 : wr.cell? ⟨gb299, 4, none⟩ = some (.int .i64 0) := (blk_cell BK299.out 4).trans rfl
     have hcz21_5 : wr.cell? ⟨gb299, 5, none⟩ = some (.int .i64 0) := (blk_cell BK299.out 5).trans rfl
     have hfz21_0 := blk_frozen BK299.out 0
     have hfz21_1 := blk_frozen BK299.out 1
     have hfz21_2 := blk_frozen BK299.out 2
     have hfz21_3 := blk_frozen BK299.out 3
     have hfz21_4 := blk_frozen BK299.out 4
     have hfz21_5 := blk_frozen BK299.out 5
     go_wp2
     refine bodyPost_ret (results_cell_row rfl _ _ gb299 24 #[.slice Ao18 x3_1.length co18, .int .i64 a0_1, .string a0_2, .int .i64 a0_3, .int .i64 a0_4, .int .i64 a0_5] (0, 0) _ rfl (by (with_reducible repeat (first | refine blk_drewN ?_ _ | refine blk_drew ?_ | refine blk_alloc ?_ _)); refine blk_put (cs := #[.slice Ao18 x3_1.length co18, .int .i64 a0_1, .string a0_2, .int .i64 a0_3, .int .i64 a0_4, .int .i64 0]) ?_ 5 _ rfl; (with_reducible repeat (first | refine blk_drewN ?_ _ | refine blk_drew ?_ | refine blk_alloc ?_ _)); refine blk_put (cs := #[.slice Ao18 x3_1.length co18, .int .i64 a0_1, .string a0_2, .int .i64 a0_3, .int .i64 0, .int .i64 0]) ?_ 4 _ rfl; (with_reducible repeat (first | refine blk_drewN ?_ _ | refine blk_drew ?_ | refine blk_alloc ?_ _)); refine blk_put (cs := #[.slice Ao18 x3_1.length co18, .int .i64 a0_1, .string a0_2, .int .i64 0, .int .i64 0, .int .i64 0]) ?_ 3 _ rfl; (with_reducible repeat (first | refine blk_drewN ?_ _ | refine blk_drew ?_ | refine blk_alloc ?_ _)); refine blk_put (cs := #[.slice Ao18 x3_1.length co18, .int .i64 a0_1, .string (⟨#[]⟩ : ByteArray), .int .i64 0, .int .i64 0, .int .i64 0]) ?_ 2 _ rfl; (with_reducible repeat (first | refine blk_drewN ?_ _ | refine blk_drew ?_ | refine blk_alloc ?_ _)); refine blk_put (cs := #[.slice Ao18 x3_1.length co18, .int .i64 0, .string (⟨#[]⟩ : ByteArray), .int .i64 0, .int .i64 0, .int .i64 0]) ?_ 1 _ rfl; (with_reducible repeat (first | refine blk_drewN ?_ _ | refine blk_drew ?_ | refine blk_alloc ?_ _)); refine blk_put (cs := #[.slice none 0 0, .int .i64 0, .string (⟨#[]⟩ : ByteArray), .int .i64 0, .int .i64 0, .int .i64 0]) ?_ 0 _ rfl; (with_reducible repeat (first | refine blk_drewN ?_ _ | refine blk_drew ?_ | refine blk_alloc ?_ _)); refine blk_far ?_ NB299_298.out _; (with_reducible repeat (first | refine blk_drewN ?_ _ | refine blk_drew ?_ | refine blk_alloc ?_ _)); exact BK299.out) Tryz.underlying24 rfl (by kernel_rfl)) rfl ?_
     exact ⟨_, by first | rfl | (simp [errW_none, errW_some] <;> rfl) | (simp [*, errW_none, errW_some] <;> rfl), by (with_reducible repeat (first | apply Kd.N_alloc | apply Kd.N_drewN | apply Kd.N_drew)); exact Kd.N_mono (Kd.N_far (p := ⟨gb299, 5, none⟩) (Kd.N_far (p := ⟨gb299, 4, none⟩) (Kd.N_far (p := ⟨gb299, 3, none⟩) (Kd.N_far (p := ⟨gb299, 2, none⟩) (Kd.N_far (p := ⟨gb299, 1, none⟩) (Kd.N_far (p := ⟨gb299, 0, none⟩) (Kd.N_far (p := ⟨gb298, 0, none⟩) (Kd.N_mono (Kd.N_mono HO_3.out (fun k_ hk => (⟨hk, hk.2.1⟩ : _ ∧ k_ ≠ gb298))) (fun k_ hk => (⟨hk, hk.1.2.2⟩ : _ ∧ k_ ≠ gb299))) (fun _ hk => hk.1.2) (.slice Ao18 x3_1.length co18)) (fun _ hk => hk.2) (.slice Ao18 x3_1.length co18)) (fun _ hk => hk.2) (.int .i64 a0_1)) (fun _ hk => hk.2) (.string a0_2)) (fun _ hk => hk.2) (.int .i64 a0_3)) (fun _ hk => hk.2) (.int .i64 a0_4)) (fun _ hk => hk.2) (.int .i64 a0_5)) (fun _ hk => hk.1.1.1), by repeat (first | (with_reducible first | exact HB.out | apply below_alloc | apply pw_below_drewN | apply below_drew1 | refine below_set ?_ GE298.out | refine below_set ?_ GE299.out) | exact HB.out)⟩
 ·rw [if_neg c2] at H
  exact absurd H (by simp)
end Go.Proofs.YtehaodbheifokaaGreatDoor.P
end
