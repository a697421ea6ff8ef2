/- Joined by wip/tools/pack.py, pruned: PureDec, PureNumber, PureOne, PureFive, PureGet, Lv20. -/
import Derived.Test.YtehaodbheifokaaGreatDoorMs16
import Derived.Test.YtehaodbheifokaaGreatDoorMs22
import Derived.Test.YtehaodbheifokaaGreatDoorMs24
import Derived.Lib.AtoiAllCases
import Derived.Lib.ItoaMem
import Derived.Lib.IndexMore
set_option maxHeartbeats 8000000
set_option maxRecDepth 100000
set_option linter.unusedVariables false
set_option linter.unusedSimpArgs false
section
namespace Go.Proofs.YtehaodbheifokaaGreatDoor.Pure
open Go Go.Lib
def digB (b : UInt8) : Bool := decide (48 ≤ b.toNat) && decide (b.toNat ≤ 57)
theorem digB_iff {b : UInt8} : digB b = true ↔ 48 ≤ b.toNat ∧ b.toNat ≤ 57 := by unfold digB; simp
def valD (acc : Nat) (l : List UInt8) : Nat := l.foldl (fun a b => a * 10 + (b.toNat - 48)) acc
theorem valD_nil (acc : Nat) : valD acc [] = acc := rfl
theorem valD_cons (acc : Nat) (b : UInt8) (l : List UInt8) : valD acc (b :: l) = valD (acc * 10 + (b.toNat - 48)) l := by unfold valD; rw [List.foldl_cons]
theorem valD_snoc (acc : Nat) (l : List UInt8) (b : UInt8) : valD acc (l ++ [b]) = valD acc l * 10 + (b.toNat - 48) := by unfold valD; rw [List.foldl_append]; rfl
theorem valD_ge (l : List UInt8) : ∀ acc : Nat, acc ≤ valD acc l := by
 induction l with
 | nil => intro acc; exact Nat.le_refl _
 | cons b l ih =>
  intro acc
  have h := ih (acc * 10 + (b.toNat - 48))
  rw [valD_cons]
  omega
theorem all_two {c : UInt8} {r : List UInt8} (h : (c :: r).all digB = true) : digB c = true ∧ r.all digB = true := by
 rw [List.all_cons] at h
 exact Bool.and_eq_true_iff.1 h
theorem ofNat_dig {d : Nat} (h : d < 10) : (UInt8.ofNat (48 + d)).toNat = 48 + d := by rw [UInt8.toNat_ofNat']; omega
theorem dd_small {u : Nat} (h : u < 10) : decDigits u = [UInt8.ofNat (48 + u)] := by rw [decDigits, dif_pos h]
theorem dd_big {u : Nat} (h : ¬ u < 10) : decDigits u = decDigits (u / 10) ++ [UInt8.ofNat (48 + u % 10)] := by rw [decDigits, dif_neg h]
theorem dd_ind {P : Nat → Prop} (h1 : ∀ u, u < 10 → P u) (h2 : ∀ u, ¬ u < 10 → P (u / 10) → P u) (u : Nat) : P u := by
 induction u using Nat.strongRecOn with
 | _ u ih =>
  by_cases h : u < 10
  ·exact h1 u h
  ·exact h2 u h (ih (u / 10) (by omega))
theorem dd_all (u : Nat) : (decDigits u).all digB = true := by
 refine dd_ind (P := fun u => (decDigits u).all digB = true) (fun u h => ?_) (fun u h ih => ?_) u
 ·rw [dd_small h]
  simp only [List.all_cons, List.all_nil, Bool.and_true]
  rw [digB_iff, ofNat_dig h]
  omega
 ·rw [dd_big h, List.all_append, ih]
  simp only [List.all_cons, List.all_nil, Bool.and_true, Bool.true_and]
  rw [digB_iff, ofNat_dig (by omega)]
  omega
theorem dd_val (u : Nat) : valD 0 (decDigits u) = u := by
 refine dd_ind (P := fun u => valD 0 (decDigits u) = u) (fun u h => ?_) (fun u h ih => ?_) u
 ·rw [dd_small h, valD_cons, valD_nil, ofNat_dig h]
  omega
 ·rw [dd_big h, valD_snoc, ih, ofNat_dig (by omega)]
  omega
theorem dd_ne (u : Nat) : decDigits u ≠ [] := by
 by_cases h : u < 10
 ·rw [dd_small h]; simp
 ·rw [dd_big h]; simp
theorem dd_head (u : Nat) (h0 : 1 ≤ u) : ∃ c r, decDigits u = c :: r ∧ 49 ≤ c.toNat := by
 refine dd_ind (P := fun u => 1 ≤ u → ∃ c r, decDigits u = c :: r ∧ 49 ≤ c.toNat) (fun u h h0 => ?_) (fun u h ih h0 => ?_) u h0
 ·exact ⟨_, [], dd_small h, by rw [ofNat_dig h]; omega⟩
 ·obtain ⟨c, r, e, hc⟩ := ih (by omega)
  exact ⟨c, r ++ [UInt8.ofNat (48 + u % 10)], by rw [dd_big h, e]; rfl, hc⟩
theorem dd_len (k : Nat) : ∀ u, u < 10 ^ (k + 1) → (decDigits u).length ≤ k + 1 := by
 induction k with
 | zero => intro u h; rw [dd_small (by simpa using h)]; simp
 | succ k ih =>
  intro u h
  by_cases hu : u < 10
  ·rw [dd_small hu]; simp
  ·rw [dd_big hu, List.length_append]
   have := ih (u / 10) (by rw [Nat.pow_succ] at h; omega)
   simp only [List.length_singleton]
   omega
theorem dd_of : ∀ (n : Nat) (l : List UInt8), l.length = n → l ≠ [] → l.all digB = true → (∀ c r, l = c :: r → c.toNat = 48 → r = []) → decDigits (valD 0 l) = l
 | 0, l, hn, hne, _, _ => absurd (List.length_eq_zero_iff.1 hn) hne
 | n + 1, l, hn, hne, hall, hz => by
  obtain ⟨xs, d, rfl⟩ : ∃ xs d, l = xs ++ [d] := ⟨l.dropLast, l.getLast hne, (List.dropLast_concat_getLast hne).symm⟩
  rw [List.all_append] at hall
  obtain ⟨hx, hd⟩ := Bool.and_eq_true_iff.1 hall
  simp only [List.all_cons, List.all_nil, Bool.and_true] at hd
  have hd2 := digB_iff.1 hd
  have hdd : UInt8.ofNat (48 + (d.toNat - 48)) = d := by
   rw [show 48 + (d.toNat - 48) = d.toNat by omega]
   exact UInt8.ofNat_toNat
  rw [valD_snoc]
  cases xs with
  | nil =>
   rw [valD_nil, dd_small (by omega), show 0 * 10 + (d.toNat - 48) = d.toNat - 48 by omega, hdd]
   rfl
  | cons c r =>
   have hc : c.toNat ≠ 48 := fun e => by
    have := hz c (r ++ [d]) rfl e
    simp at this
   have hcd := digB_iff.1 (all_two hx).1
   have hv : 1 ≤ valD 0 (c :: r) := by
    rw [valD_cons]
    have := valD_ge r (0 * 10 + (c.toNat - 48))
    omega
   have ih := dd_of n (c :: r) (by simp at hn ⊢; omega) (by simp) hx (fun c' r' e h48 => by cases e; exact absurd h48 hc)
   rw [dd_big (by omega), show (valD 0 (c :: r) * 10 + (d.toNat - 48)) / 10 = valD 0 (c :: r) by omega, show (valD 0 (c :: r) * 10 + (d.toNat - 48)) % 10 = d.toNat - 48 by omega, hdd, ih]
theorem parse_val : ∀ (l : List UInt8) (acc : Nat), l.all digB = true → valD acc l < 18446744073709551616 → parseUint10 acc l = .ok (valD acc l)
 | [], acc, _, _ => rfl
 | c :: r, acc, h, hv => by
  obtain ⟨hc, hr⟩ := all_two h
  have hcd := digB_iff.1 hc
  rw [valD_cons] at hv ⊢
  have := valD_ge r (acc * 10 + (c.toNat - 48))
  rw [parseUint10, if_pos hcd, if_neg (by omega), if_neg (by omega)]
  exact parse_val r _ hr hv
theorem parseMag_dd (u : Nat) (h : u < 18446744073709551616) : parseMag (decDigits u) = .ok u := by
 unfold parseMag
 rw [if_neg (dd_ne u), parse_val _ _ (dd_all u) (by rw [dd_val]; exact h), dd_val]
theorem atoi_itoa (v : Int) (h0 : -9223372036854775808 ≤ v) (h1 : v ≤ 9223372036854775807) : atoiAll (itoa v) = .ok v := by
 unfold itoa
 by_cases hv : v < 0
 ·rw [if_pos hv, atoiAll_minus, parseMag_dd _ (by omega)]
  simp only [signed]
  rw [if_neg (by omega)]
  congr 1
  omega
 ·rw [if_neg hv]
  have hn : ∃ c r, decDigits v.toNat = c :: r ∧ digB c = true := by
   cases e : decDigits v.toNat with
   | nil => exact absurd e (dd_ne _)
   | cons c r =>
    have := dd_all v.toNat
    rw [e] at this
    exact ⟨c, r, rfl, (all_two this).1⟩
  obtain ⟨c, r, e, hc⟩ := hn
  have hcd := digB_iff.1 hc
  have hm := parseMag_dd v.toNat (by omega)
  rw [e] at hm ⊢
  rw [atoiAll_plain c r (by omega) (by omega), hm]
  simp only [signless]
  rw [if_neg (by omega)]
  congr 1
  omega
def refMag (least : Bool) (ds : List UInt8) : Int × Bool :=
 if ds.length < 1 ∨ 19 < ds.length ∨ (ds.head?.map (·.toNat) = some 48 ∧ (1 < ds.length ∨ least = true)) then (0, false)
 else if ds.all digB = true then
  (if least = true then (if 9223372036854775808 < valD 0 ds then (0, false) else (-(valD 0 ds : Int), true)) else (if 9223372036854775807 < valD 0 ds then (0, false) else ((valD 0 ds : Int), true)))
 else (0, false)
def refNum (t : List UInt8) : Int × Bool :=
 match t with
 | [] => refMag false []
 | c :: r => if c.toNat = 45 then refMag true r else refMag false (c :: r)
theorem refMag_no {least : Bool} {ds : List UInt8} {x : Int} (h : refMag least ds = (x, false)) : x = 0 := by
 unfold refMag at h
 repeat' split at h
 all_goals first | (cases h; rfl) | (injection h with h1 h2; cases h2)
theorem refMag_yes {least : Bool} {ds : List UInt8} {x : Int} (h : refMag least ds = (x, true)) : decDigits (valD 0 ds) = ds ∧ x = (if least = true then -(valD 0 ds : Int) else (valD 0 ds : Int)) ∧ valD 0 ds ≤ 9223372036854775808 ∧ (least = false → valD 0 ds ≤ 9223372036854775807) ∧ (least = true → 1 ≤ valD 0 ds) := by
 unfold refMag at h
 split at h
 ·injection h with _ h2; cases h2
 ·rename_i hg
  simp only [not_or, not_and] at hg
  obtain ⟨g1, g2, g3⟩ := hg
  split at h
  case isFalse => injection h with _ h2; cases h2
  case isTrue hall =>
   have hne : ds ≠ [] := fun e => by subst e; simp at g1
   have hdd := dd_of ds.length ds rfl hne hall (fun c r e h48 => by
    subst e
    have := g3 (by simp [h48])
    cases r with
    | nil => rfl
    | cons _ _ => simp at this)
   have hz : least = true → 1 ≤ valD 0 ds := fun hl => by
    cases ds with
    | nil => exact absurd rfl hne
    | cons c r =>
     have hc : c.toNat ≠ 48 := fun e => by
      have := g3 (by simp [e])
      exact this.2 hl
     have hcd := digB_iff.1 (all_two hall).1
     rw [valD_cons]
     have := valD_ge r (0 * 10 + (c.toNat - 48))
     omega
   cases least with
   | true =>
    simp only [if_true] at h
    split at h
    ·injection h with _ h2; cases h2
    ·injection h with h1 _
     exact ⟨hdd, h1.symm, by omega, (fun e => by cases e), hz⟩
   | false =>
    simp only [Bool.false_eq_true, if_false] at h
    split at h
    ·injection h with _ h2; cases h2
    ·injection h with h1 _
     exact ⟨hdd, h1.symm, by omega, (fun _ => by omega), hz⟩
theorem refNum_yes {t : List UInt8} {x : Int} (h : refNum t = (x, true)) : t = itoa x ∧ -9223372036854775808 ≤ x ∧ x ≤ 9223372036854775807 := by
 unfold refNum at h
 split at h
 ·obtain ⟨_, _, _, _, _⟩ := refMag_yes h
  simp [refMag] at h
 ·rename_i c r
  split at h
  ·rename_i hc
   obtain ⟨h1, h2, h3, _, h5⟩ := refMag_yes h
   simp only [if_true] at h2
   have h6 := h5 rfl
   refine ⟨?_, by omega, by omega⟩
   rw [h2, itoa_neg _ h6, h1]
   congr 1
   exact UInt8.toNat_inj.1 hc
  ·obtain ⟨h1, h2, _, h4, _⟩ := refMag_yes h
   simp only [Bool.false_eq_true, if_false] at h2
   have h6 := h4 rfl
   refine ⟨?_, by omega, by omega⟩
   rw [h2, itoa_nonneg, h1]
theorem refMag_dd (least : Bool) (u : Nat) (h : u ≤ 9223372036854775808) (h1 : least = false → u ≤ 9223372036854775807) (h2 : least = true → 1 ≤ u) : refMag least (decDigits u) = (if least = true then -(u : Int) else (u : Int), true) := by
 unfold refMag
 have hl := dd_len 18 u (by omega)
 have hne : 1 ≤ (decDigits u).length := by
  have := dd_ne u
  cases e : decDigits u with
  | nil => exact absurd e this
  | cons _ _ => simp
 have hh : ¬ ((decDigits u).head?.map (·.toNat) = some 48 ∧ (1 < (decDigits u).length ∨ least = true)) := by
  rintro ⟨e1, e2⟩
  by_cases hu : 1 ≤ u
  ·obtain ⟨c, r, e, hc⟩ := dd_head u hu
   rw [e] at e1
   simp at e1
   omega
  ·obtain rfl : u = 0 := by omega
   rcases e2 with e2 | e2
   ·rw [dd_small (by omega)] at e2
    simp at e2
   ·have := h2 e2
    omega
 rw [if_neg (by
  rintro (e | e | e)
  ·omega
  ·omega
  ·exact hh e), if_pos (dd_all u), dd_val]
 cases least with
 | true => simp only [if_true]; rw [if_neg (by omega)]
 | false => have := h1 rfl; simp only [Bool.false_eq_true, if_false]; rw [if_neg (by omega)]
theorem refNum_itoa (v : Int) (h0 : -9223372036854775808 ≤ v) (h1 : v ≤ 9223372036854775807) : refNum (itoa v) = (v, true) := by
 unfold itoa
 by_cases hv : v < 0
 ·rw [if_pos hv]
  show (if (45 : UInt8).toNat = 45 then refMag true (decDigits v.natAbs) else refMag false (45 :: decDigits v.natAbs)) = _
  rw [if_pos (by decide), refMag_dd true v.natAbs (by omega) (fun e => by cases e) (fun _ => by omega)]
  simp only [if_true]
  congr 1
  omega
 ·rw [if_neg hv]
  cases e : decDigits v.toNat with
  | nil => exact absurd e (dd_ne _)
  | cons c r =>
   have ha := dd_all v.toNat
   rw [e] at ha
   have hcd := digB_iff.1 (all_two ha).1
   show (if c.toNat = 45 then refMag true r else refMag false (c :: r)) = _
   rw [if_neg (by omega), ← e, refMag_dd false v.toNat (by omega) (fun _ => by omega) (fun e => by cases e)]
   simp only [Bool.false_eq_true, if_false]
   congr 1
   omega
end Go.Proofs.YtehaodbheifokaaGreatDoor.Pure
end
section
namespace Go.Proofs.YtehaodbheifokaaGreatDoor.Pure
open Go Go.RowKit Go.Proofs.YtehaodbheifokaaGreatDoorW.PrintWords Go.Proofs.YtehaodbheifokaaGreatDoorW.PrintLast Go.Proofs.YtehaodbheifokaaGreatDoor.P
theorem text_eq {s t : ByteArray} (h : s.data.toList = t.data.toList) : s = t := ByteArray.ext (Array.toList_inj.1 h)
theorem number_f (t : ByteArray) (ht : t.size ≤ 281474976710656) : field_Number.f t = some (refNum t.data.toList) := by
 unfold field_Number.f
 rw [if_pos ht]
 obtain ⟨x, b, hr⟩ : ∃ x b, refNum t.data.toList = (x, b) := ⟨_, _, rfl⟩
 cases b with
 | true =>
  obtain ⟨e, h0, h1⟩ := refNum_yes hr
  rw [hr, e, atoi_itoa x h0 h1]
  dsimp only
  unfold strconv_Itoa.f
  rw [if_pos ⟨h0, h1⟩, Option.bind_some, if_pos]
  exact text_eq e.symm
 | false =>
  have hx : x = 0 := by
   unfold refNum at hr
   repeat' split at hr
   all_goals exact refMag_no hr
  subst hx
  rw [hr]
  cases ha : Lib.atoiAll t.data.toList with
  | ok v =>
   obtain ⟨h0, h1⟩ := Lib.atoiAll_bounds ha
   dsimp only
   unfold strconv_Itoa.f
   rw [if_pos ⟨h0, h1⟩, Option.bind_some, if_neg]
   intro e
   rw [← e] at hr
   have := refNum_itoa v h0 h1
   rw [show ((⟨(Lib.itoa v).toArray⟩ : ByteArray)).data.toList = Lib.itoa v from rfl, this] at hr
   injection hr with _ h2
   cases h2
  | range => rfl
  | _ => rfl
end Go.Proofs.YtehaodbheifokaaGreatDoor.Pure
end
section
namespace Go.Proofs.YtehaodbheifokaaGreatDoor.Pure
open Go Go.RowKit Go.Proofs.YtehaodbheifokaaGreatDoorW.PrintWords Go.Proofs.YtehaodbheifokaaGreatDoorW.PrintLast Go.Proofs.YtehaodbheifokaaGreatDoorW.PrintMore Go.Proofs.YtehaodbheifokaaGreatDoor.P
def noEq (c : UInt8) : Bool := c != 61
def eqPos (l : List UInt8) : Nat := (l.takeWhile noEq).length
theorem index_eq : ∀ l : List UInt8, Lib.index l [61] = if eqPos l < l.length then (eqPos l : Int) else -1
 | [] => rfl
 | b :: l => by
  have ih := index_eq l
  unfold Lib.index
  by_cases hb : b = 61
  ·subst hb
   rw [if_pos (by simp [List.isPrefixOf])]
   simp [eqPos, List.takeWhile, noEq]
  ·have hn : noEq b = true := by simp [noEq, hb]
   have he : eqPos (b :: l) = eqPos l + 1 := by simp [eqPos, List.takeWhile, hn]
   rw [if_neg (by simp [List.isPrefixOf]; exact fun e => hb e.symm), ih, he, List.length_cons]
   by_cases h : eqPos l < l.length
   ·rw [if_pos h, if_neg (by simp), if_pos (by omega)]
    omega
   ·rw [if_neg h, if_pos (by decide), if_neg (by omega)]
theorem cut_eq (l : List UInt8) : Lib.cut l [61] = if eqPos l < l.length then (l.take (eqPos l), l.drop (eqPos l + 1), true) else (l, [], false) := by
 unfold Lib.cut
 rw [index_eq]
 by_cases h : eqPos l < l.length
 ·rw [if_pos h, if_pos (by omega), if_pos h]
  simp
 ·rw [if_neg h, if_neg (by omega), if_neg h]
def bA (l : List UInt8) : ByteArray := ⟨l.toArray⟩
theorem bA_list (l : List UInt8) : (bA l).data.toList = l := rfl
theorem bA_size (l : List UInt8) : (bA l).size = l.length := by rw [Lib.size_eq]; rfl
def oneS (l : List UInt8) : S110 × Bool :=
 if eqPos l < l.length then
  if (refNum (l.drop (eqPos l + 1))).2 = true then (⟨bA (l.take (eqPos l)), 1, (refNum (l.drop (eqPos l + 1))).1, ⟨#[]⟩⟩, keyB (bA (l.take (eqPos l))))
  else (⟨bA (l.take (eqPos l)), 2, 0, bA (l.drop (eqPos l + 1))⟩, keyB (bA (l.take (eqPos l))) && decide ((l.drop (eqPos l + 1)).length ≤ 64))
 else (z110, false)
def oneF (l : List UInt8) : S110 × Bool := if eqPos l < l.length ∧ keyB (bA (l.take (eqPos l))) = true then oneS l else (z110, false)
theorem oneF_snd (l : List UInt8) : (oneF l).2 = (oneS l).2 := by
 unfold oneF
 by_cases h : eqPos l < l.length ∧ keyB (bA (l.take (eqPos l))) = true
 ·rw [if_pos h]
 ·rw [if_neg h]
  unfold oneS
  by_cases h1 : eqPos l < l.length
  ·have h2 : keyB (bA (l.take (eqPos l))) = false := Bool.eq_false_iff.2 fun e => h ⟨h1, e⟩
   rw [if_pos h1, h2]
   split <;> rfl
  ·rw [if_neg h1]
theorem oneF_fst {l : List UInt8} (h : (oneS l).2 = true) : oneF l = oneS l := by
 unfold oneF
 rw [if_pos]
 unfold oneS at h
 by_cases h1 : eqPos l < l.length
 ·rw [if_pos h1] at h
  refine ⟨h1, ?_⟩
  split at h
  ·exact h
  ·exact (Bool.and_eq_true_iff.1 h).1
 ·rw [if_neg h1] at h
  cases h
theorem one_f (x : ByteArray) (hx : x.size < 4294967281) : field_one.f (x.size + 8) x = some ((oneF x.data.toList).1.f0, (oneF x.data.toList).1.f1, (oneF x.data.toList).1.f2, (oneF x.data.toList).1.f3, (oneF x.data.toList).2) := by
 have hl : x.data.toList.length = x.size := (Lib.size_eq x).symm
 unfold field_one.f strings_Cut.f
 rw [if_pos hx, Option.bind_some, show ((⟨#[61]⟩ : ByteArray)).data.toList = [61] from rfl, cut_eq]
 generalize x.data.toList = l at hl ⊢
 by_cases h : eqPos l < l.length
 ·rw [if_pos h]
  dsimp only
  rw [if_pos rfl]
  show (field_IsKey.f (x.size + 8) (bA (l.take (eqPos l)))).bind _ = _
  have hks : (bA (l.take (eqPos l))).size ≤ x.size := by rw [bA_size, List.length_take]; omega
  rw [isKey_f _ (by omega) _ (by omega), Option.bind_some]
  show field_one.j0 ((x.size + 7) + 1) _ (bA (l.drop (eqPos l + 1))) _ = _
  unfold oneF oneS
  rw [if_pos h]
  simp only [field_one.j0]
  cases hk : keyB (bA (l.take (eqPos l))) with
  | false =>
   rw [if_pos (show (!false) = true from rfl), if_neg (fun e => by cases e.2)]
   rfl
  | true =>
   rw [if_neg (show ¬ (!true) = true by decide), if_pos ⟨h, rfl⟩, number_f _ (by rw [bA_size, List.length_drop]; omega), Option.bind_some, bA_list]
   simp only [Bool.not_true, Bool.false_eq_true, if_false, Bool.true_and]
   by_cases hn : (refNum (l.drop (eqPos l + 1))).2 = true
   ·rw [if_pos hn, if_pos hn]
    rfl
   ·rw [if_neg hn, if_neg hn]
    dsimp only
    rw [bA_size]
    congr 5
    exact decide_eq_decide.2 (by omega)
 ·rw [if_neg h]
  dsimp only
  rw [if_neg (by simp)]
  unfold oneF
  rw [if_neg (fun e => h e.1)]
  rfl
theorem oneT_eq (x : ByteArray) (hx : x.size < 4294967281) : oneT x = oneF x.data.toList := by
 unfold oneT
 rw [one_f x hx]
theorem okWord_of (x : ByteArray) (hx : x.size < 4294967281) : okWord x = true := by
 unfold okWord
 rw [one_f x hx]
 rfl
def rdS (st : List S110) (x : ByteArray) : List S110 :=
 if st.length < 16 ∧ (oneS x.data.toList).2 = true ∧ st.any (fun y => decide (y.f0 = (oneS x.data.toList).1.f0)) = false then st ++ [(oneS x.data.toList).1] else st
theorem rdStep_eq (st : List S110) (x : ByteArray) (hs : st.length ≤ 16) (hx : x.size < 4294967281) : rdStep st x = rdS st x := by
 unfold rdStep rdS
 rw [oneT_eq x hx, oneF_snd]
 by_cases h16 : st.length = 16
 ·rw [if_pos h16, if_neg (fun e => by omega)]
 ·rw [if_neg h16]
  cases h1 : (oneS x.data.toList).2 with
  | false => rw [if_pos (Or.inl rfl), if_neg (fun e => by cases e.2.1)]
  | true =>
   rw [oneF_fst h1]
   cases h2 : st.any (fun y => decide (y.f0 = (oneS x.data.toList).1.f0)) with
   | true => rw [if_pos (Or.inr rfl), if_neg (fun e => by cases e.2.2)]
   | false => rw [if_neg (by simp), if_pos ⟨by omega, rfl, rfl⟩]
theorem rdS_le (st : List S110) (x : ByteArray) (hs : st.length ≤ 16) : (rdS st x).length ≤ 16 := by
 unfold rdS
 split
 ·rename_i h
  simp only [List.length_append, List.length_singleton]
  omega
 ·exact hs
theorem rdFold_eq : ∀ (ws : List ByteArray) (st : List S110), st.length ≤ 16 → (∀ x ∈ ws, x.size < 4294967281) → ws.foldl rdStep st = ws.foldl rdS st
 | [], _, _, _ => rfl
 | x :: ws, st, hs, hw => by
  rw [List.foldl_cons, List.foldl_cons, rdStep_eq st x hs (hw x List.mem_cons_self)]
  exact rdFold_eq ws _ (rdS_le st x hs) (fun y hy => hw y (List.mem_cons_of_mem _ hy))
theorem words_size : ∀ (f : Nat) (l : List UInt8), ∀ x ∈ wordsF f l, x.size ≤ l.length
 | 0, _, x, hx => by simp [wordsF] at hx
 | f + 1, l, x, hx => by
  rw [wordsF] at hx
  split at hx
  ·simp at hx
  ·have h1 := take_drop nB (l.dropWhile isB)
   have h2 := dropWhile_le isB l
   rcases List.mem_cons.1 hx with rfl | hx
   ·rw [show (⟨((l.dropWhile isB).takeWhile nB).toArray⟩ : ByteArray) = bA ((l.dropWhile isB).takeWhile nB) from rfl, bA_size]
    omega
   ·have := words_size f _ x hx
    omega
def fieldsL (l : List UInt8) : List S110 := (wordsL l).foldl rdS []
def numsOf (l : List UInt8) : List Int := l.map fun b => (b.toNat : Int)
theorem numsOf_byte (l : List UInt8) : (numsOf l).all byteB = true := by
 rw [List.all_eq_true]
 intro x hx
 obtain ⟨b, _, rfl⟩ := List.mem_map.1 hx
 have := UInt8.toNat_lt b
 simp only [byteB, Bool.and_eq_true, decide_eq_true_eq]
 omega
theorem bytesOf_numsOf (l : List UInt8) : Lib.bytesOf (numsOf l) = l := by
 induction l with
 | nil => rfl
 | cons b l ih =>
  simp only [Lib.bytesOf, numsOf, List.map_cons, List.map_map] at *
  rw [ih]
  simp
theorem numsOf_bytesOf : ∀ {l : List Int}, (∀ x ∈ l, 0 ≤ x ∧ x < 256) → numsOf (Lib.bytesOf l) = l
 | [], _ => rfl
 | x :: l, h => by
  have hx := h x List.mem_cons_self
  have ih := numsOf_bytesOf (l := l) fun y hy => h y (List.mem_cons_of_mem _ hy)
  simp only [Lib.bytesOf, numsOf, List.map_cons, List.map_map] at *
  rw [ih]
  congr 1
  rw [UInt8.toNat_ofNat']
  omega
theorem read_f (l : List UInt8) (hl : l.length < 4294967281) : field_Read.f (numsOf l) = some (fieldsL l) := by
 unfold field_Read.f
 have hw : ∀ x ∈ wordsL l, x.size < 4294967281 := fun x hx => Nat.lt_of_le_of_lt (words_size _ _ x hx) hl
 rw [bytesOf_numsOf, if_pos ⟨numsOf_byte l, List.all_eq_true.2 fun x hx => okWord_of x (hw x hx)⟩]
 congr 1
 exact rdFold_eq _ _ (by simp) hw
theorem fields_le (l : List UInt8) : (fieldsL l).length ≤ 16 := by
 unfold fieldsL
 have h : ∀ (ws : List ByteArray) (st : List S110), st.length ≤ 16 → (ws.foldl rdS st).length ≤ 16 := by
  intro ws
  induction ws with
  | nil => intro st h; exact h
  | cons x ws ih => intro st h; exact ih _ (rdS_le st x h)
 exact h _ _ (by simp)
def keyIs (key : ByteArray) (y : S110) : Bool := decide (y.f0 = key)
def fiveOf : Option S110 → ByteArray × Int × Int × ByteArray × Bool
 | some y => (y.f0, y.f1, y.f2, y.f3, true)
 | none => (⟨#[]⟩, 0, 0, ⟨#[]⟩, false)
theorem toList_iff (s t : ByteArray) : s.toList = t.toList ↔ s = t := by
 rw [Lib.toList_data, Lib.toList_data]
 exact ⟨fun h => ByteArray.ext (Array.toList_inj.1 h), fun h => by rw [h]⟩
theorem rdT_get (l : List S110) (i : Nat) (h : i < l.length) : rd_T110 l (i : Int) = l[i] := by
 unfold rd_T110
 rw [Int.toNat_natCast, List.getD_eq_getElem?_getD, List.getElem?_eq_getElem h, Option.getD_some]
theorem get_loop (l : List S110) (key : ByteArray) (hl : l.length ≤ 1000000) : ∀ (d i : Nat), i + d = l.length → Ev (fun k => field_Get.l0 k key l (l.length : Int) (i : Int)) (fiveOf ((l.drop i).find? (keyIs key)))
 | 0, i, hi => by
  rw [List.drop_of_length_le (by omega)]
  refine Ev.step (f := fun _ => some (fiveOf none)) (fun k => ?_) (Ev.now _)
  simp only [field_Get.l0]
  rw [if_neg (by omega)]
  rfl
 | d + 1, i, hi => by
  have hlt : i < l.length := by omega
  rw [List.drop_eq_getElem_cons hlt, List.find?_cons]
  have ih := get_loop l key hl d (i + 1) (by omega)
  cases hk : keyIs key l[i] with
  | true =>
   refine Ev.step (f := fun _ => some (fiveOf (some l[i]))) (fun k => ?_) (Ev.now _)
   simp only [field_Get.l0]
   rw [if_pos (by omega), if_pos (by omega), if_pos (by omega), rdT_get l i hlt, if_pos ((toList_iff _ _).2 (of_decide_eq_true hk))]
   rfl
  | false =>
   refine Ev.step (fun k => ?_) ih
   simp only [field_Get.l0]
   rw [if_pos (by omega), if_pos (by omega), if_pos (by omega), rdT_get l i hlt, if_neg (fun e => (of_decide_eq_false hk) ((toList_iff _ _).1 e)), wrap_in (by omega) (by omega), show ((i : Int) + 1) = ((i + 1 : Nat) : Int) by omega]
theorem get_ev (l : List UInt8) (key : ByteArray) (hl : l.length < 4294967281) : Ev (fun k => field_Get.f k (numsOf l) key) (fiveOf ((fieldsL l).find? (keyIs key))) := by
 have h16 := fields_le l
 refine Ev.congr (fun k => ?_) (get_loop (fieldsL l) key (by omega) (fieldsL l).length 0 (by omega))
 unfold field_Get.f
 rw [read_f l hl, Option.bind_some]
 rfl
end Go.Proofs.YtehaodbheifokaaGreatDoor.Pure
end
section
namespace Go.Proofs.YtehaodbheifokaaGreatDoor.P
open Go Go.RowKit Go.Proofs.YtehaodbheifokaaGreatDoorW.PrintWords Go.Proofs.YtehaodbheifokaaGreatDoorW.PrintLast Go.Proofs.YtehaodbheifokaaGreatDoorW.PrintMore
abbrev FD := S110
def i64In (x : Int) : Prop := -9223372036854775808 ≤ x ∧ x ≤ 9223372036854775807
theorem refMag_in (b : Bool) (ds : List UInt8) : i64In (Pure.refMag b ds).1 := by
 unfold Pure.refMag
 unfold i64In
 repeat' split
 all_goals (simp only; omega)
theorem refNum_in (t : List UInt8) : i64In (Pure.refNum t).1 := by
 unfold Pure.refNum
 split
 ·exact refMag_in _ _
 ·split <;> exact refMag_in _ _
theorem oneS_in (l : List UInt8) : i64In (Pure.oneS l).1.f2 := by
 unfold Pure.oneS
 split
 ·split
  ·exact refNum_in _
  ·show i64In 0; unfold i64In; omega
 ·show i64In 0; unfold i64In; omega
theorem rdFold_in : ∀ (ws : List ByteArray) (st : List FD), (∀ y ∈ st, i64In y.f2) → ∀ y ∈ ws.foldl Pure.rdS st, i64In y.f2
 | [], st, h => h
 | x :: ws, st, h => by
  rw [List.foldl_cons]
  refine rdFold_in ws _ fun y hy => ?_
  unfold Pure.rdS at hy
  split at hy
  ·rcases List.mem_append.1 hy with hy | hy
   ·exact h y hy
   ·obtain rfl := List.mem_singleton.1 hy
    exact oneS_in _
  ·exact h y hy
theorem fields_in (l : List UInt8) : ∀ y ∈ Pure.fieldsL l, i64In y.f2 := rdFold_in _ [] (fun y h => by cases h)
def fieldOf (l : List Int) (key : ByteArray) : Option FD := (Pure.fieldsL (Lib.bytesOf l)).find? (Pure.keyIs key)
theorem fieldOf_in {l : List Int} {key : ByteArray} {y : FD} (h : fieldOf l key = some y) : i64In y.f2 := fields_in _ y (List.mem_of_find?_eq_some h)
def showB (y : FD) : ByteArray := if y.f1 = 1 then ⟨(Lib.itoa y.f2).toArray⟩ else y.f3
theorem show_f (y : FD) (h : i64In y.f2) : field_Show.f y.f0 y.f1 y.f2 y.f3 = some (showB y) := by
 unfold field_Show.f showB
 by_cases h1 : y.f1 = 1
 ·rw [if_pos h1, if_pos h1]
  unfold strconv_Itoa.f
  unfold i64In at h
  rw [if_pos h]
  rfl
 ·rw [if_neg h1, if_neg h1]
theorem get_k (l : List Int) (key : ByteArray) (hb : ∀ x ∈ l, 0 ≤ x ∧ x < 256) (hn : l.length < 4294967281) : ∃ k, field_Get.f k l key = some (Pure.fiveOf (fieldOf l key)) := by
 have h := Pure.get_ev (Lib.bytesOf l) key (by simpa [Lib.bytesOf] using hn)
 rw [Pure.numsOf_bytesOf hb] at h
 obtain ⟨k, hk⟩ := h
 exact ⟨k, hk k (Nat.le_refl _)⟩
def lvN (l : List Int) (t : Int) (n : ND) : Bool :=
 if n.f0 = 1 then true
 else if n.f0 = 2 then memB ((cutS none l).map bT) n.f3
 else if n.f0 = 3 then ((cutS none l).map bT).any (prefB n.f3)
 else if n.f0 = 4 then phraseB ((cutS none l).map bT) n.f4
 else if n.f0 = 5 then subB l (bytesOf n.f3)
 else if n.f0 = 9 then decide (n.f6 ≤ t) && decide (t < n.f7)
 else match fieldOf l n.f5 with
  | none => false
  | some y => if n.f0 = 6 then decide (showB y = n.f3) else decide (y.f1 = 1) && (if n.f0 = 7 then decide (y.f2 < n.f6) else decide (n.f6 < y.f2))
theorem leafOK_field (w : World) (l : List Int) (s t : Int) (vl : Value) (n : ND) (hl : LineIs w l vl) (hX : FieldIn w) (hn : l.length < 4294967281) (h : n.f0 = 6 ∨ n.f0 = 7 ∨ n.f0 = 8) : LeafOK w l s t vl n (lvN l t n) := by
 obtain ⟨k, hk⟩ := get_k l n.f5 hl.out.choose_spec.choose_spec.2.2.2.1 hn
 have hlv : lvN l t n = (match fieldOf l n.f5 with
  | none => false
  | some y => if n.f0 = 6 then decide (showB y = n.f3) else decide (y.f1 = 1) && (if n.f0 = 7 then decide (y.f2 < n.f6) else decide (n.f6 < y.f2))) := by
  unfold lvN
  rw [if_neg (by omega), if_neg (by omega), if_neg (by omega), if_neg (by omega), if_neg (by omega), if_neg (by omega)]
 rw [hlv]
 obtain ⟨A, c, rfl, hc, hC, hb, hln⟩ := hl.out
 intro W AN cN hW hsz hR h4 hcN
 have hR' := hR
 obtain ⟨b, vt, h1, h2⟩ := hR'
 rcases h with h6 | h7 | h8
 ·rw [h6]
  cases hfo : fieldOf l n.f5 with
  | none =>
   rw [hfo] at hk
   refine (leafG_equal l A c (w.heap.size + 1) s t b vt _ _ n.f3 AN _ cN n.f5 ⟨#[]⟩ ⟨#[]⟩ n.f6 n.f7 0 0 false ⟨#[]⟩ k W (hX.below hW) (Kd.C_below hC hW) hc h1 (by unfold field_Show.f; rfl) hk).mono ?_
   rintro e w' ⟨rfl, hb⟩
   exact ⟨rfl, hR.below hb, hb.mono (by omega), Kept.of_below hb _⟩
  | some y =>
   rw [hfo] at hk
   refine (leafG_equal l A c (w.heap.size + 1) s t b vt _ _ n.f3 AN _ cN n.f5 y.f0 y.f3 n.f6 n.f7 y.f1 y.f2 true (showB y) k W (hX.below hW) (Kd.C_below hC hW) hc h1 (show_f y (fieldOf_in hfo)) hk).mono ?_
   rintro e w' ⟨rfl, hb⟩
   exact ⟨by simp, hR.below hb, hb.mono (by omega), Kept.of_below hb _⟩
 ·rw [h7]
  cases hfo : fieldOf l n.f5 with
  | none =>
   rw [hfo] at hk
   refine (leafG_less2 l A c (w.heap.size + 1) s t b vt _ _ n.f3 AN _ cN n.f5 ⟨#[]⟩ ⟨#[]⟩ n.f6 n.f7 0 0 false k W (hX.below hW) (Kd.C_below hC hW) hc h1 hk).mono ?_
   rintro e w' ⟨rfl, hb⟩
   exact ⟨rfl, hR.below hb, hb.mono (by omega), Kept.of_below hb _⟩
  | some y =>
   rw [hfo] at hk
   refine (leafG_less2 l A c (w.heap.size + 1) s t b vt _ _ n.f3 AN _ cN n.f5 y.f0 y.f3 n.f6 n.f7 y.f1 y.f2 true k W (hX.below hW) (Kd.C_below hC hW) hc h1 hk).mono ?_
   rintro e w' ⟨rfl, hb⟩
   exact ⟨by simp, hR.below hb, hb.mono (by omega), Kept.of_below hb _⟩
 ·rw [h8]
  cases hfo : fieldOf l n.f5 with
  | none =>
   rw [hfo] at hk
   refine (leafG_more2 l A c (w.heap.size + 1) s t b vt _ _ n.f3 AN _ cN n.f5 ⟨#[]⟩ ⟨#[]⟩ n.f6 n.f7 0 0 false k W (hX.below hW) (Kd.C_below hC hW) hc h1 hk).mono ?_
   rintro e w' ⟨rfl, hb⟩
   exact ⟨rfl, hR.below hb, hb.mono (by omega), Kept.of_below hb _⟩
  | some y =>
   rw [hfo] at hk
   refine (leafG_more2 l A c (w.heap.size + 1) s t b vt _ _ n.f3 AN _ cN n.f5 y.f0 y.f3 n.f6 n.f7 y.f1 y.f2 true k W (hX.below hW) (Kd.C_below hC hW) hc h1 hk).mono ?_
   rintro e w' ⟨rfl, hb⟩
   exact ⟨by simp, hR.below hb, hb.mono (by omega), Kept.of_below hb _⟩
theorem right_leaf {n : ND} (h : rightN n = true) (h10 : n.f0 ≠ 10) (h11 : n.f0 ≠ 11) (h12 : n.f0 ≠ 12) :
  n.f0 = 1 ∨ ((n.f0 = 2 ∨ n.f0 = 3) ∧ tokB n.f3 = true) ∨ (n.f0 = 4 ∧ 0 < n.f4.length) ∨ (n.f0 = 5 ∧ n.f3.size ≤ 64) ∨ (n.f0 = 6 ∨ n.f0 = 7 ∨ n.f0 = 8) ∨ n.f0 = 9 := by
 unfold rightN rightB at h
 by_cases k1 : n.f0 = 1
 ·exact .inl k1
 rw [if_neg k1] at h
 by_cases k2 : n.f0 = 2 ∨ n.f0 = 3
 ·rw [if_pos k2, Bool.and_eq_true] at h
  exact .inr (.inl ⟨k2, h.1⟩)
 rw [if_neg k2] at h
 by_cases k4 : n.f0 = 4
 ·rw [if_pos k4, Bool.and_eq_true, Bool.and_eq_true] at h
  exact .inr (.inr (.inl ⟨k4, of_decide_eq_true h.1.1⟩))
 rw [if_neg k4] at h
 by_cases k5 : n.f0 = 5
 ·rw [if_pos k5, Bool.and_eq_true] at h
  exact .inr (.inr (.inr (.inl ⟨k5, (of_decide_eq_true h.1).2⟩)))
 rw [if_neg k5] at h
 by_cases k6 : n.f0 = 6
 ·exact .inr (.inr (.inr (.inr (.inl (.inl k6)))))
 rw [if_neg k6] at h
 by_cases k7 : n.f0 = 7 ∨ n.f0 = 8
 ·exact .inr (.inr (.inr (.inr (.inl (.inr k7)))))
 rw [if_neg k7] at h
 by_cases k9 : n.f0 = 9
 ·exact .inr (.inr (.inr (.inr (.inr k9))))
 rw [if_neg k9, if_neg (by omega), if_neg h12] at h
 cases h
theorem lvN_k {l : List Int} {t : Int} {n : ND} {k : Int} (h : n.f0 = k) : lvN l t n = (if k = 1 then true
 else if k = 2 then memB ((cutS none l).map bT) n.f3
 else if k = 3 then ((cutS none l).map bT).any (prefB n.f3)
 else if k = 4 then phraseB ((cutS none l).map bT) n.f4
 else if k = 5 then subB l (bytesOf n.f3)
 else if k = 9 then decide (n.f6 ≤ t) && decide (t < n.f7)
 else match fieldOf l n.f5 with
  | none => false
  | some y => if k = 6 then decide (showB y = n.f3) else decide (y.f1 = 1) && (if k = 7 then decide (y.f2 < n.f6) else decide (n.f6 < y.f2))) := by
 subst h
 rfl
theorem leafOK_lv (w : World) (l : List Int) (s t : Int) (vl : Value) (n : ND) (hl : LineN w l vl) (hX : FieldIn w) (hn : l.length < 4294967281) (h4 : n.f4.length ≤ 1099511627776) (h : rightN n = true) (h10 : n.f0 ≠ 10) (h11 : n.f0 ≠ 11) (h12 : n.f0 ≠ 12) : LeafOK w l s t vl n (lvN l t n) := by
 rcases right_leaf h h10 h11 h12 with k | ⟨k | k, _⟩ | ⟨k, hp⟩ | ⟨k, hz⟩ | k | k
 ·rw [lvN_k k]; exact leafOK_all w l s t vl n hl.is k
 ·rw [lvN_k k]; exact leafOK_term w l s t vl n hl.is k
 ·rw [lvN_k k]; exact leafOK_prefix w l s t vl n hl.is k
 ·rw [lvN_k k]; exact leafOK_phrase w l s t vl n hl.is k hp h4
 ·rw [lvN_k k]; exact leafOK_sub w l s t vl n hl hX hn (by omega) k
 ·exact leafOK_field w l s t vl n hl.is hX hn k
 ·rw [lvN_k k]; exact leafOK_time w l s t vl n k
end Go.Proofs.YtehaodbheifokaaGreatDoor.P
end
