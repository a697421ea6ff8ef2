/- Several texts in one: PureDec, PureEv, PureNumber, PureKey, PureOne, PureFive, PureKeyRef, PureNumRef, PureAt, PureSame8, PureReadRef, LawFieldParts. -/
import Derived.Lib.AtoiAllCases
import Derived.Lib.ItoaMem
import Derived.Test.YtdkgmiagjhcllaaDoorWWords
import Derived.Test.YtdkgmiagjhcllaaDoorNumber
import Derived.Test.YtdkgmiagjhcllaaDoorDec
import Derived.Test.YtdkgmiagjhcllaaDoorP2
import Derived.Test.YtdkgmiagjhcllaaDoorRead0
import Derived.Lib.IndexMore
import Derived.Test.YtdkgmiagjhcllaaDoorP3
import Derived.Test.YtdkgmiagjhcllaaDoorP5
import Derived.Test.YtdkgmiagjhcllaaDoorP4
import Derived.Test.YtdkgmiagjhcllaaDoorRead
import Derived.Test.YtdkgmiagjhcllaaDoorP11
section
namespace Go.Proofs.YtdkgmiagjhcllaaDoor.Pure
open Go Go.Lib
set_option linter.unusedVariables false
set_option linter.unusedSimpArgs false

def digB (b : UInt8) : Bool := decide (48 ≤ b.toNat) && decide (b.toNat ≤ 57)
theorem digB_iff {b : UInt8} : digB b = true ↔ 48 ≤ b.toNat ∧ b.toNat ≤ 57 := by unfold digB; simp
def valD (acc : Nat) (l : List UInt8) : Nat := l.foldl (fun a b => a * 10 + (b.toNat - 48)) acc
theorem valD_nil (acc : Nat) : valD acc [] = acc := rfl
theorem valD_cons (acc : Nat) (b : UInt8) (l : List UInt8) : valD acc (b :: l) = valD (acc * 10 + (b.toNat - 48)) l := by unfold valD; rw [List.foldl_cons]
theorem valD_snoc (acc : Nat) (l : List UInt8) (b : UInt8) : valD acc (l ++ [b]) = valD acc l * 10 + (b.toNat - 48) := by unfold valD; rw [List.foldl_append]; rfl
theorem valD_ge (l : List UInt8) : ∀ acc : Nat, acc ≤ valD acc l := by
  induction l with
  | nil => intro acc; exact Nat.le_refl _
  | cons b l ih =>
    intro acc
    have h := ih (acc * 10 + (b.toNat - 48))
    rw [valD_cons]
    omega
theorem all_two {c : UInt8} {r : List UInt8} (h : (c :: r).all digB = true) : digB c = true ∧ r.all digB = true := by
  rw [List.all_cons] at h
  exact Bool.and_eq_true_iff.1 h
theorem ofNat_dig {d : Nat} (h : d < 10) : (UInt8.ofNat (48 + d)).toNat = 48 + d := by rw [UInt8.toNat_ofNat']; omega
theorem dd_small {u : Nat} (h : u < 10) : decDigits u = [UInt8.ofNat (48 + u)] := by rw [decDigits, dif_pos h]
theorem dd_big {u : Nat} (h : ¬ u < 10) : decDigits u = decDigits (u / 10) ++ [UInt8.ofNat (48 + u % 10)] := by rw [decDigits, dif_neg h]
theorem dd_ind {P : Nat → Prop} (h1 : ∀ u, u < 10 → P u) (h2 : ∀ u, ¬ u < 10 → P (u / 10) → P u) (u : Nat) : P u := by
  induction u using Nat.strongRecOn with
  | _ u ih =>
    by_cases h : u < 10
    · exact h1 u h
    · exact h2 u h (ih (u / 10) (by omega))
theorem dd_all (u : Nat) : (decDigits u).all digB = true := by
  refine dd_ind (P := fun u => (decDigits u).all digB = true) (fun u h => ?_) (fun u h ih => ?_) u
  · rw [dd_small h]
    simp only [List.all_cons, List.all_nil, Bool.and_true]
    rw [digB_iff, ofNat_dig h]
    omega
  · rw [dd_big h, List.all_append, ih]
    simp only [List.all_cons, List.all_nil, Bool.and_true, Bool.true_and]
    rw [digB_iff, ofNat_dig (by omega)]
    omega
theorem dd_val (u : Nat) : valD 0 (decDigits u) = u := by
  refine dd_ind (P := fun u => valD 0 (decDigits u) = u) (fun u h => ?_) (fun u h ih => ?_) u
  · rw [dd_small h, valD_cons, valD_nil, ofNat_dig h]
    omega
  · rw [dd_big h, valD_snoc, ih, ofNat_dig (by omega)]
    omega
theorem dd_ne (u : Nat) : decDigits u ≠ [] := by
  by_cases h : u < 10
  · rw [dd_small h]; simp
  · rw [dd_big h]; simp
theorem dd_head (u : Nat) (h0 : 1 ≤ u) : ∃ c r, decDigits u = c :: r ∧ 49 ≤ c.toNat := by
  refine dd_ind (P := fun u => 1 ≤ u → ∃ c r, decDigits u = c :: r ∧ 49 ≤ c.toNat) (fun u h h0 => ?_) (fun u h ih h0 => ?_) u h0
  · exact ⟨_, [], dd_small h, by rw [ofNat_dig h]; omega⟩
  · obtain ⟨c, r, e, hc⟩ := ih (by omega)
    exact ⟨c, r ++ [UInt8.ofNat (48 + u % 10)], by rw [dd_big h, e]; rfl, hc⟩
theorem dd_len (k : Nat) : ∀ u, u < 10 ^ (k + 1) → (decDigits u).length ≤ k + 1 := by
  induction k with
  | zero => intro u h; rw [dd_small (by simpa using h)]; simp
  | succ k ih =>
    intro u h
    by_cases hu : u < 10
    · rw [dd_small hu]; simp
    · rw [dd_big hu, List.length_append]
      have := ih (u / 10) (by rw [Nat.pow_succ] at h; omega)
      simp only [List.length_singleton]
      omega
/-- Digits without a leading 0 are the numeral of their value. -/
theorem dd_of : ∀ (n : Nat) (l : List UInt8), l.length = n → l ≠ [] → l.all digB = true → (∀ c r, l = c :: r → c.toNat = 48 → r = []) → decDigits (valD 0 l) = l
  | 0, l, hn, hne, _, _ => absurd (List.length_eq_zero_iff.1 hn) hne
  | n + 1, l, hn, hne, hall, hz => by
    obtain ⟨xs, d, rfl⟩ : ∃ xs d, l = xs ++ [d] := ⟨l.dropLast, l.getLast hne, (List.dropLast_concat_getLast hne).symm⟩
    rw [List.all_append] at hall
    obtain ⟨hx, hd⟩ := Bool.and_eq_true_iff.1 hall
    simp only [List.all_cons, List.all_nil, Bool.and_true] at hd
    have hd2 := digB_iff.1 hd
    have hdd : UInt8.ofNat (48 + (d.toNat - 48)) = d := by
      rw [show 48 + (d.toNat - 48) = d.toNat by omega]
      exact UInt8.ofNat_toNat
    rw [valD_snoc]
    cases xs with
    | nil =>
      rw [valD_nil, dd_small (by omega), show 0 * 10 + (d.toNat - 48) = d.toNat - 48 by omega, hdd]
      rfl
    | cons c r =>
      have hc : c.toNat ≠ 48 := fun e => by
        have := hz c (r ++ [d]) rfl e
        simp at this
      have hcd := digB_iff.1 (all_two hx).1
      have hv : 1 ≤ valD 0 (c :: r) := by
        rw [valD_cons]
        have := valD_ge r (0 * 10 + (c.toNat - 48))
        omega
      have ih := dd_of n (c :: r) (by simp at hn ⊢; omega) (by simp) hx (fun c' r' e h48 => by cases e; exact absurd h48 hc)
      rw [dd_big (by omega), show (valD 0 (c :: r) * 10 + (d.toNat - 48)) / 10 = valD 0 (c :: r) by omega, show (valD 0 (c :: r) * 10 + (d.toNat - 48)) % 10 = d.toNat - 48 by omega, hdd, ih]
theorem parse_val : ∀ (l : List UInt8) (acc : Nat), l.all digB = true → valD acc l < 18446744073709551616 → parseUint10 acc l = .ok (valD acc l)
  | [], acc, _, _ => rfl
  | c :: r, acc, h, hv => by
    obtain ⟨hc, hr⟩ := all_two h
    have hcd := digB_iff.1 hc
    rw [valD_cons] at hv ⊢
    have := valD_ge r (acc * 10 + (c.toNat - 48))
    rw [parseUint10, if_pos hcd, if_neg (by omega), if_neg (by omega)]
    exact parse_val r _ hr hv
theorem parseMag_dd (u : Nat) (h : u < 18446744073709551616) : parseMag (decDigits u) = .ok u := by
  unfold parseMag
  rw [if_neg (dd_ne u), parse_val _ _ (dd_all u) (by rw [dd_val]; exact h), dd_val]
/-- What is written is read again. -/
theorem atoi_itoa (v : Int) (h0 : -9223372036854775808 ≤ v) (h1 : v ≤ 9223372036854775807) : atoiAll (itoa v) = .ok v := by
  unfold itoa
  by_cases hv : v < 0
  · rw [if_pos hv, atoiAll_minus, parseMag_dd _ (by omega)]
    simp only [signed]
    rw [if_neg (by omega)]
    congr 1
    omega
  · rw [if_neg hv]
    have hn : ∃ c r, decDigits v.toNat = c :: r ∧ digB c = true := by
      cases e : decDigits v.toNat with
      | nil => exact absurd e (dd_ne _)
      | cons c r =>
        have := dd_all v.toNat
        rw [e] at this
        exact ⟨c, r, rfl, (all_two this).1⟩
    obtain ⟨c, r, e, hc⟩ := hn
    have hcd := digB_iff.1 hc
    have hm := parseMag_dd v.toNat (by omega)
    rw [e] at hm ⊢
    rw [atoiAll_plain c r (by omega) (by omega), hm]
    simp only [signless]
    rw [if_neg (by omega)]
    congr 1
    omega
/-- What the document reads of a text. -/
def refMag (least : Bool) (ds : List UInt8) : Int × Bool :=
  if ds.length < 1 ∨ 19 < ds.length ∨ (ds.head?.map (·.toNat) = some 48 ∧ (1 < ds.length ∨ least = true)) then (0, false)
  else if ds.all digB = true then
    (if least = true then (if 9223372036854775808 < valD 0 ds then (0, false) else (-(valD 0 ds : Int), true)) else (if 9223372036854775807 < valD 0 ds then (0, false) else ((valD 0 ds : Int), true)))
  else (0, false)
def refNum (t : List UInt8) : Int × Bool :=
  match t with
  | [] => refMag false []
  | c :: r => if c.toNat = 45 then refMag true r else refMag false (c :: r)
theorem refMag_no {least : Bool} {ds : List UInt8} {x : Int} (h : refMag least ds = (x, false)) : x = 0 := by
  unfold refMag at h
  repeat' split at h
  all_goals first | (cases h; rfl) | (injection h with h1 h2; cases h2)
theorem refMag_yes {least : Bool} {ds : List UInt8} {x : Int} (h : refMag least ds = (x, true)) : decDigits (valD 0 ds) = ds ∧ x = (if least = true then -(valD 0 ds : Int) else (valD 0 ds : Int)) ∧ valD 0 ds ≤ 9223372036854775808 ∧ (least = false → valD 0 ds ≤ 9223372036854775807) ∧ (least = true → 1 ≤ valD 0 ds) := by
  unfold refMag at h
  split at h
  · injection h with _ h2; cases h2
  · rename_i hg
    simp only [not_or, not_and] at hg
    obtain ⟨g1, g2, g3⟩ := hg
    split at h
    case isFalse => injection h with _ h2; cases h2
    case isTrue hall =>
      have hne : ds ≠ [] := fun e => by subst e; simp at g1
      have hdd := dd_of ds.length ds rfl hne hall (fun c r e h48 => by
        subst e
        have := g3 (by simp [h48])
        cases r with
        | nil => rfl
        | cons _ _ => simp at this)
      have hz : least = true → 1 ≤ valD 0 ds := fun hl => by
        cases ds with
        | nil => exact absurd rfl hne
        | cons c r =>
          have hc : c.toNat ≠ 48 := fun e => by
            have := g3 (by simp [e])
            exact this.2 hl
          have hcd := digB_iff.1 (all_two hall).1
          rw [valD_cons]
          have := valD_ge r (0 * 10 + (c.toNat - 48))
          omega
      cases least with
      | true =>
        simp only [if_true] at h
        split at h
        · injection h with _ h2; cases h2
        · injection h with h1 _
          exact ⟨hdd, h1.symm, by omega, (fun e => by cases e), hz⟩
      | false =>
        simp only [Bool.false_eq_true, if_false] at h
        split at h
        · injection h with _ h2; cases h2
        · injection h with h1 _
          exact ⟨hdd, h1.symm, by omega, (fun _ => by omega), hz⟩
/-- What the document reads as a number is that number's text. -/
theorem refNum_yes {t : List UInt8} {x : Int} (h : refNum t = (x, true)) : t = itoa x ∧ -9223372036854775808 ≤ x ∧ x ≤ 9223372036854775807 := by
  unfold refNum at h
  split at h
  · obtain ⟨_, _, _, _, _⟩ := refMag_yes h
    simp [refMag] at h
  · rename_i c r
    split at h
    · rename_i hc
      obtain ⟨h1, h2, h3, _, h5⟩ := refMag_yes h
      simp only [if_true] at h2
      have h6 := h5 rfl
      refine ⟨?_, by omega, by omega⟩
      rw [h2, itoa_neg _ h6, h1]
      congr 1
      exact UInt8.toNat_inj.1 hc
    · obtain ⟨h1, h2, _, h4, _⟩ := refMag_yes h
      simp only [Bool.false_eq_true, if_false] at h2
      have h6 := h4 rfl
      refine ⟨?_, by omega, by omega⟩
      rw [h2, itoa_nonneg, h1]
theorem refMag_dd (least : Bool) (u : Nat) (h : u ≤ 9223372036854775808) (h1 : least = false → u ≤ 9223372036854775807) (h2 : least = true → 1 ≤ u) : refMag least (decDigits u) = (if least = true then -(u : Int) else (u : Int), true) := by
  unfold refMag
  have hl := dd_len 18 u (by omega)
  have hne : 1 ≤ (decDigits u).length := by
    have := dd_ne u
    cases e : decDigits u with
    | nil => exact absurd e this
    | cons _ _ => simp
  have hh : ¬ ((decDigits u).head?.map (·.toNat) = some 48 ∧ (1 < (decDigits u).length ∨ least = true)) := by
    rintro ⟨e1, e2⟩
    by_cases hu : 1 ≤ u
    · obtain ⟨c, r, e, hc⟩ := dd_head u hu
      rw [e] at e1
      simp at e1
      omega
    · obtain rfl : u = 0 := by omega
      rcases e2 with e2 | e2
      · rw [dd_small (by omega)] at e2
        simp at e2
      · have := h2 e2
        omega
  rw [if_neg (by
    rintro (e | e | e)
    · omega
    · omega
    · exact hh e), if_pos (dd_all u), dd_val]
  cases least with
  | true => simp only [if_true]; rw [if_neg (by omega)]
  | false => have := h1 rfl; simp only [Bool.false_eq_true, if_false]; rw [if_neg (by omega)]
theorem refNum_itoa (v : Int) (h0 : -9223372036854775808 ≤ v) (h1 : v ≤ 9223372036854775807) : refNum (itoa v) = (v, true) := by
  unfold itoa
  by_cases hv : v < 0
  · rw [if_pos hv]
    show (if (45 : UInt8).toNat = 45 then refMag true (decDigits v.natAbs) else refMag false (45 :: decDigits v.natAbs)) = _
    rw [if_pos (by decide), refMag_dd true v.natAbs (by omega) (fun e => by cases e) (fun _ => by omega)]
    simp only [if_true]
    congr 1
    omega
  · rw [if_neg hv]
    cases e : decDigits v.toNat with
    | nil => exact absurd e (dd_ne _)
    | cons c r =>
      have ha := dd_all v.toNat
      rw [e] at ha
      have hcd := digB_iff.1 (all_two ha).1
      show (if c.toNat = 45 then refMag true r else refMag false (c :: r)) = _
      rw [if_neg (by omega), ← e, refMag_dd false v.toNat (by omega) (fun _ => by omega) (fun e => by cases e)]
      simp only [Bool.false_eq_true, if_false]
      congr 1
      omega
end Go.Proofs.YtdkgmiagjhcllaaDoor.Pure
end
section
namespace Go.Proofs.YtdkgmiagjhcllaaDoor.Pure
open Go Go.RowKit Go.Proofs.YtdkgmiagjhcllaaDoorW.PrintWords
theorem Ev.call {α β : Type} {g f : Nat → Option β} {c : Nat → Option α} {a : α} {r : β} (hc : Ev c a) (hk : Ev f r) (h : ∀ k, c k = some a → g (k + 1) = f k) : Ev g r := by
  obtain ⟨K, hc⟩ := hc
  obtain ⟨K', hk⟩ := hk
  refine ⟨max K K' + 1, fun n hn => ?_⟩
  obtain ⟨m, rfl⟩ : ∃ m, n = m + 1 := ⟨n - 1, by omega⟩
  rw [h m (hc m (by omega))]
  exact hk m (by omega)
theorem Ev.call0 {α β : Type} {g f : Nat → Option β} {c : Nat → Option α} {a : α} {r : β} (hc : Ev c a) (hk : Ev f r) (h : ∀ k, c k = some a → g k = f k) : Ev g r := by
  obtain ⟨K, hc⟩ := hc
  obtain ⟨K', hk⟩ := hk
  refine ⟨max K K', fun n hn => ?_⟩
  rw [h n (hc n (by omega))]
  exact hk n (by omega)
theorem Ev.sb {α β : Type} {g : Nat → Option β} {c : Nat → Option α} {F : Nat → α → Option β} {a : α} {r : β} (hc : Ev c a) (h : ∀ k, g (k + 1) = (c k).bind (F k)) (hk : Ev (fun n => F n a) r) : Ev g r := Ev.step h (Ev.bind hc hk)
theorem Ev.cb {α β : Type} {g : Nat → Option β} {c : Nat → Option α} {F : Nat → α → Option β} {a : α} {r : β} (hc : Ev c a) (h : ∀ k, g k = (c k).bind (F k)) (hk : Ev (fun n => F n a) r) : Ev g r := Ev.congr h (Ev.bind hc hk)
theorem wrap_in {x : Int} (h0 : -9223372036854775808 ≤ x) (h1 : x ≤ 9223372036854775807) : wrap64 x = x := by unfold wrap64; omega
end Go.Proofs.YtdkgmiagjhcllaaDoor.Pure
end
section
namespace Go.Proofs.YtdkgmiagjhcllaaDoor.Pure
open Go Go.RowKit Go.Proofs.YtdkgmiagjhcllaaDoorW.PrintWords Go.Proofs.YtdkgmiagjhcllaaDoorW.PrintLast Go.Proofs.YtdkgmiagjhcllaaDoor.P
set_option linter.unusedVariables false
set_option linter.unusedSimpArgs false

theorem u64_in {x : Int} (h0 : 0 ≤ x) (h1 : x ≤ 18446744073709551615) : IntKind.u64.wrap x = x := by
  simp [IntKind.wrap, IntKind.bits, IntKind.signed]
  omega
theorem text_eq {s t : ByteArray} (h : s.data.toList = t.data.toList) : s = t := ByteArray.ext (Array.toList_inj.1 h)
theorem bt_list (s : ByteArray) (i : Nat) (h : i < s.size) : bt s (i : Int) = ((s.data.toList[i]'(by rw [Lib.size_eq] at h; exact h)).toNat : Int) := by
  unfold bt
  rw [dif_pos (by simpa using h)]
  have := Lib.data_getElem? s i h
  simp only [Int.toNat_natCast]
  rw [List.getElem?_eq_getElem (by rw [← Lib.size_eq]; exact h)] at this
  exact congrArg (fun b : UInt8 => ((b.toNat : Nat) : Int)) (Option.some.inj this).symm
/-- The program's reading is the document's. -/
theorem number_f (t : ByteArray) (ht : t.size ≤ 281474976710656) : field_Number.f t = some (refNum t.data.toList) := by
  unfold field_Number.f
  rw [if_pos ht]
  obtain ⟨x, b, hr⟩ : ∃ x b, refNum t.data.toList = (x, b) := ⟨_, _, rfl⟩
  cases b with
  | true =>
    obtain ⟨e, h0, h1⟩ := refNum_yes hr
    rw [hr, e, atoi_itoa x h0 h1]
    dsimp only
    unfold strconv_Itoa.f
    rw [if_pos ⟨h0, h1⟩, Option.bind_some, if_pos]
    exact text_eq e.symm
  | false =>
    have hx : x = 0 := by
      unfold refNum at hr
      repeat' split at hr
      all_goals exact refMag_no hr
    subst hx
    rw [hr]
    cases ha : Lib.atoiAll t.data.toList with
    | ok v =>
      obtain ⟨h0, h1⟩ := Lib.atoiAll_bounds ha
      dsimp only
      unfold strconv_Itoa.f
      rw [if_pos ⟨h0, h1⟩, Option.bind_some, if_neg]
      intro e
      rw [← e] at hr
      have := refNum_itoa v h0 h1
      rw [show ((⟨(Lib.itoa v).toArray⟩ : ByteArray)).data.toList = Lib.itoa v from rfl, this] at hr
      injection hr with _ h2
      cases h2
    | range => rfl
    | _ => rfl
end Go.Proofs.YtdkgmiagjhcllaaDoor.Pure
end
section
namespace Go.Proofs.YtdkgmiagjhcllaaDoor.Pure
open Go Go.RowKit Go.Proofs.YtdkgmiagjhcllaaDoorW.PrintWords Go.Proofs.YtdkgmiagjhcllaaDoorW.PrintLast Go.Proofs.YtdkgmiagjhcllaaDoorW.PrintMore Go.Proofs.YtdkgmiagjhcllaaDoor.P
set_option linter.unusedVariables false
set_option linter.unusedSimpArgs false

def inK (c : Int) : Bool := decide (97 ≤ c ∧ c ≤ 122) || decide (65 ≤ c ∧ c ≤ 90) || decide (48 ≤ c ∧ c ≤ 57) || decide (c = 95) || decide (c = 46) || decide (c = 45)
theorem inK_true {c : Int} : inK c = true ↔ (97 ≤ c ∧ c ≤ 122) ∨ (65 ≤ c ∧ c ≤ 90) ∨ (48 ≤ c ∧ c ≤ 57) ∨ c = 95 ∨ c = 46 ∨ c = 45 := by
  unfold inK
  simp only [Bool.or_eq_true, decide_eq_true_eq]
  omega
theorem inKey_f (k : Nat) (c : Int) : field_inKey.f (k + 2) c = some (inK c) := by
  have h : field_inKey.f (k + 2) c = some true ∧ inK c = true ∨ field_inKey.f (k + 2) c = some false ∧ ¬ inK c = true := by
    rw [inK_true]
    simp only [field_inKey.f, field_inKey.j0, field_inKey.j1, decide_eq_true_eq]
    repeat' split
    all_goals first | (left; exact ⟨rfl, by omega⟩) | (right; exact ⟨rfl, by omega⟩) | skip
    all_goals (by_cases e : c = 45 <;> simp_all <;> omega)
  rcases h with ⟨h1, h2⟩ | ⟨h1, h2⟩
  · rw [h1, h2]
  · rw [h1, Bool.eq_false_iff.mpr h2]
/-- All bytes from place i on may stand in a key. -/
def keyFrom (s : ByteArray) (i : Nat) : Bool := (List.range' i (s.size - i)).all fun (j : Nat) => inK (bt s (j : Int))
def keyB (s : ByteArray) : Bool := keyFrom s 0 && decide (1 ≤ s.size ∧ s.size ≤ 32)
theorem keyFrom_end (s : ByteArray) : keyFrom s s.size = true := by unfold keyFrom; rw [Nat.sub_self]; rfl
theorem keyFrom_step (s : ByteArray) (i : Nat) (h : i < s.size) : keyFrom s i = (inK (bt s (i : Int)) && keyFrom s (i + 1)) := by
  unfold keyFrom
  obtain ⟨d, hd⟩ : ∃ d, s.size - i = d + 1 := ⟨s.size - i - 1, by omega⟩
  rw [hd, show s.size - (i + 1) = d by omega, List.range'_succ, List.all_cons]
theorem isKey_loop (s : ByteArray) (hs : s.size ≤ 9223372036854775807) : ∀ (d i k : Nat), i + d = s.size → d + 3 ≤ k → field_IsKey.l0 k s (s.size : Int) (i : Int) = some (keyFrom s i && decide (1 ≤ s.size ∧ s.size ≤ 32))
  | 0, i, k, hi, hk => by
    obtain rfl : i = s.size := by omega
    obtain ⟨k, rfl⟩ : ∃ m, k = m + 1 := ⟨k - 1, by omega⟩
    rw [keyFrom_end, Bool.true_and]
    simp only [field_IsKey.l0]
    rw [if_neg (by omega)]
    by_cases h0 : (s.size : Int) > 0
    · rw [if_pos h0]
      congr 1
      exact decide_eq_decide.2 (by omega)
    · rw [if_neg h0]
      congr 1
      exact (decide_eq_false (by omega)).symm
  | d + 1, i, k, hi, hk => by
    obtain ⟨m, rfl⟩ : ∃ m, k = (m + 2) + 1 := ⟨k - 3, by omega⟩
    have ih := isKey_loop s hs d (i + 1) (m + 2) (by omega) (by omega)
    rw [keyFrom_step s i (by omega)]
    cases hc : inK (bt s (i : Int)) with
    | false =>
      simp only [field_IsKey.l0]
      rw [if_pos (by omega), if_pos (by omega), if_pos (by omega), inKey_f, hc]
      rfl
    | true =>
      rw [Bool.true_and]
      simp only [field_IsKey.l0]
      rw [if_pos (by omega), if_pos (by omega), if_pos (by omega), inKey_f, hc, Option.bind_some, if_pos rfl, wrap_in (by omega) (by omega), show ((i : Int) + 1) = ((i + 1 : Nat) : Int) by omega]
      exact ih
theorem isKey_f (s : ByteArray) (hs : s.size ≤ 9223372036854775807) (k : Nat) (hk : s.size + 3 ≤ k) : field_IsKey.f k s = some (keyB s) := isKey_loop s hs s.size 0 k (by omega) hk
theorem isKey_ev (s : ByteArray) (hs : s.size ≤ 9223372036854775807) : Ev (fun k => field_IsKey.f k s) (keyB s) := ⟨s.size + 3, fun k hk => isKey_f s hs k hk⟩
end Go.Proofs.YtdkgmiagjhcllaaDoor.Pure
end
section
namespace Go.Proofs.YtdkgmiagjhcllaaDoor.Pure
open Go Go.RowKit Go.Proofs.YtdkgmiagjhcllaaDoorW.PrintWords Go.Proofs.YtdkgmiagjhcllaaDoorW.PrintLast Go.Proofs.YtdkgmiagjhcllaaDoorW.PrintMore Go.Proofs.YtdkgmiagjhcllaaDoor.P
set_option linter.unusedVariables false
set_option linter.unusedSimpArgs false

def noEq (c : UInt8) : Bool := c != 61
def eqPos (l : List UInt8) : Nat := (l.takeWhile noEq).length
theorem index_eq : ∀ l : List UInt8, Lib.index l [61] = if eqPos l < l.length then (eqPos l : Int) else -1
  | [] => rfl
  | b :: l => by
    have ih := index_eq l
    unfold Lib.index
    by_cases hb : b = 61
    · subst hb
      rw [if_pos (by simp [List.isPrefixOf])]
      simp [eqPos, List.takeWhile, noEq]
    · have hn : noEq b = true := by simp [noEq, hb]
      have he : eqPos (b :: l) = eqPos l + 1 := by simp [eqPos, List.takeWhile, hn]
      rw [if_neg (by simp [List.isPrefixOf]; exact fun e => hb e.symm), ih, he, List.length_cons]
      by_cases h : eqPos l < l.length
      · rw [if_pos h, if_neg (by simp), if_pos (by omega)]
        omega
      · rw [if_neg h, if_pos (by decide), if_neg (by omega)]
theorem cut_eq (l : List UInt8) : Lib.cut l [61] = if eqPos l < l.length then (l.take (eqPos l), l.drop (eqPos l + 1), true) else (l, [], false) := by
  unfold Lib.cut
  rw [index_eq]
  by_cases h : eqPos l < l.length
  · rw [if_pos h, if_pos (by omega), if_pos h]
    simp
  · rw [if_neg h, if_neg (by omega), if_neg h]
def bA (l : List UInt8) : ByteArray := ⟨l.toArray⟩
theorem bA_list (l : List UInt8) : (bA l).data.toList = l := rfl
theorem bA_size (l : List UInt8) : (bA l).size = l.length := by rw [Lib.size_eq]; rfl
theorem bA_of (x : ByteArray) : bA x.data.toList = x := rfl
/-- The field of a word, and whether it is one. -/
def oneS (l : List UInt8) : S28 × Bool :=
  if eqPos l < l.length then
    if (refNum (l.drop (eqPos l + 1))).2 = true then (⟨bA (l.take (eqPos l)), 1, (refNum (l.drop (eqPos l + 1))).1, ⟨#[]⟩⟩, keyB (bA (l.take (eqPos l))))
    else (⟨bA (l.take (eqPos l)), 2, 0, bA (l.drop (eqPos l + 1))⟩, keyB (bA (l.take (eqPos l))) && decide ((l.drop (eqPos l + 1)).length ≤ 64))
  else (z28, false)
def oneF (l : List UInt8) : S28 × Bool := if eqPos l < l.length ∧ keyB (bA (l.take (eqPos l))) = true then oneS l else (z28, false)
theorem oneF_snd (l : List UInt8) : (oneF l).2 = (oneS l).2 := by
  unfold oneF
  by_cases h : eqPos l < l.length ∧ keyB (bA (l.take (eqPos l))) = true
  · rw [if_pos h]
  · rw [if_neg h]
    unfold oneS
    by_cases h1 : eqPos l < l.length
    · have h2 : keyB (bA (l.take (eqPos l))) = false := Bool.eq_false_iff.2 fun e => h ⟨h1, e⟩
      rw [if_pos h1, h2]
      split <;> rfl
    · rw [if_neg h1]
theorem oneF_fst {l : List UInt8} (h : (oneS l).2 = true) : oneF l = oneS l := by
  unfold oneF
  rw [if_pos]
  unfold oneS at h
  by_cases h1 : eqPos l < l.length
  · rw [if_pos h1] at h
    refine ⟨h1, ?_⟩
    split at h
    · exact h
    · exact (Bool.and_eq_true_iff.1 h).1
  · rw [if_neg h1] at h
    cases h
theorem one_f (x : ByteArray) (hx : x.size < 4294967281) : field_one.f (x.size + 8) x = some ((oneF x.data.toList).1.f0, (oneF x.data.toList).1.f1, (oneF x.data.toList).1.f2, (oneF x.data.toList).1.f3, (oneF x.data.toList).2) := by
  have hl : x.data.toList.length = x.size := (Lib.size_eq x).symm
  unfold field_one.f strings_Cut.f
  rw [if_pos hx, Option.bind_some, show ((⟨#[61]⟩ : ByteArray)).data.toList = [61] from rfl, cut_eq]
  generalize x.data.toList = l at hl ⊢
  by_cases h : eqPos l < l.length
  · rw [if_pos h]
    dsimp only
    rw [if_pos rfl]
    show (field_IsKey.f (x.size + 8) (bA (l.take (eqPos l)))).bind _ = _
    have hks : (bA (l.take (eqPos l))).size ≤ x.size := by rw [bA_size, List.length_take]; omega
    rw [isKey_f _ (by omega) _ (by omega), Option.bind_some]
    show field_one.j0 ((x.size + 7) + 1) _ (bA (l.drop (eqPos l + 1))) _ = _
    unfold oneF oneS
    rw [if_pos h]
    simp only [field_one.j0]
    cases hk : keyB (bA (l.take (eqPos l))) with
    | false =>
      rw [if_pos (show (!false) = true from rfl), if_neg (fun e => by cases e.2)]
      rfl
    | true =>
      rw [if_neg (show ¬ (!true) = true by decide), if_pos ⟨h, rfl⟩, number_f _ (by rw [bA_size, List.length_drop]; omega), Option.bind_some, bA_list]
      simp only [Bool.not_true, Bool.false_eq_true, if_false, Bool.true_and]
      by_cases hn : (refNum (l.drop (eqPos l + 1))).2 = true
      · rw [if_pos hn, if_pos hn]
        rfl
      · rw [if_neg hn, if_neg hn]
        dsimp only
        rw [bA_size]
        congr 5
        exact decide_eq_decide.2 (by omega)
  · rw [if_neg h]
    dsimp only
    rw [if_neg (by simp)]
    unfold oneF
    rw [if_neg (fun e => h e.1)]
    rfl
theorem oneT_eq (x : ByteArray) (hx : x.size < 4294967281) : oneT x = oneF x.data.toList := by
  unfold oneT
  rw [one_f x hx]
theorem okWord_of (x : ByteArray) (hx : x.size < 4294967281) : okWord x = true := by
  unfold okWord
  rw [one_f x hx]
  rfl
/-- A field more, or not, by the document. -/
def rdS (st : List S28) (x : ByteArray) : List S28 :=
  if st.length < 16 ∧ (oneS x.data.toList).2 = true ∧ st.any (fun y => decide (y.f0 = (oneS x.data.toList).1.f0)) = false then st ++ [(oneS x.data.toList).1] else st
theorem rdStep_eq (st : List S28) (x : ByteArray) (hs : st.length ≤ 16) (hx : x.size < 4294967281) : rdStep st x = rdS st x := by
  unfold rdStep rdS
  rw [oneT_eq x hx, oneF_snd]
  by_cases h16 : st.length = 16
  · rw [if_pos h16, if_neg (fun e => by omega)]
  · rw [if_neg h16]
    cases h1 : (oneS x.data.toList).2 with
    | false => rw [if_pos (Or.inl rfl), if_neg (fun e => by cases e.2.1)]
    | true =>
      rw [oneF_fst h1]
      cases h2 : st.any (fun y => decide (y.f0 = (oneS x.data.toList).1.f0)) with
      | true => rw [if_pos (Or.inr rfl), if_neg (fun e => by cases e.2.2)]
      | false => rw [if_neg (by simp), if_pos ⟨by omega, rfl, rfl⟩]
theorem rdS_le (st : List S28) (x : ByteArray) (hs : st.length ≤ 16) : (rdS st x).length ≤ 16 := by
  unfold rdS
  split
  · rename_i h
    simp only [List.length_append, List.length_singleton]
    omega
  · exact hs
theorem rdFold_eq : ∀ (ws : List ByteArray) (st : List S28), st.length ≤ 16 → (∀ x ∈ ws, x.size < 4294967281) → ws.foldl rdStep st = ws.foldl rdS st
  | [], _, _, _ => rfl
  | x :: ws, st, hs, hw => by
    rw [List.foldl_cons, List.foldl_cons, rdStep_eq st x hs (hw x List.mem_cons_self)]
    exact rdFold_eq ws _ (rdS_le st x hs) (fun y hy => hw y (List.mem_cons_of_mem _ hy))
/-- The words of a line are no longer than the line. -/
theorem words_size : ∀ (f : Nat) (l : List UInt8), ∀ x ∈ wordsF f l, x.size ≤ l.length
  | 0, _, x, hx => by simp [wordsF] at hx
  | f + 1, l, x, hx => by
    rw [wordsF] at hx
    split at hx
    · simp at hx
    · have h1 := take_drop nB (l.dropWhile isB)
      have h2 := dropWhile_le isB l
      rcases List.mem_cons.1 hx with rfl | hx
      · rw [show (⟨((l.dropWhile isB).takeWhile nB).toArray⟩ : ByteArray) = bA ((l.dropWhile isB).takeWhile nB) from rfl, bA_size]
        omega
      · have := words_size f _ x hx
        omega
/-- The fields of a line. -/
def fieldsL (l : List UInt8) : List S28 := (wordsL l).foldl rdS []
def numsOf (l : List UInt8) : List Int := l.map fun b => (b.toNat : Int)
theorem numsOf_byte (l : List UInt8) : (numsOf l).all byteB = true := by
  rw [List.all_eq_true]
  intro x hx
  obtain ⟨b, _, rfl⟩ := List.mem_map.1 hx
  have := UInt8.toNat_lt b
  simp only [byteB, Bool.and_eq_true, decide_eq_true_eq]
  omega
theorem bytesOf_numsOf (l : List UInt8) : Lib.bytesOf (numsOf l) = l := by
  induction l with
  | nil => rfl
  | cons b l ih =>
    simp only [Lib.bytesOf, numsOf, List.map_cons, List.map_map] at *
    rw [ih]
    simp
theorem numsOf_bytesOf : ∀ {l : List Int}, (∀ x ∈ l, 0 ≤ x ∧ x < 256) → numsOf (Lib.bytesOf l) = l
  | [], _ => rfl
  | x :: l, h => by
    have hx := h x List.mem_cons_self
    have ih := numsOf_bytesOf (l := l) fun y hy => h y (List.mem_cons_of_mem _ hy)
    simp only [Lib.bytesOf, numsOf, List.map_cons, List.map_map] at *
    rw [ih]
    congr 1
    rw [UInt8.toNat_ofNat']
    omega
theorem read_f (l : List UInt8) (hl : l.length < 4294967281) : field_Read.f (numsOf l) = some (fieldsL l) := by
  unfold field_Read.f
  have hw : ∀ x ∈ wordsL l, x.size < 4294967281 := fun x hx => Nat.lt_of_le_of_lt (words_size _ _ x hx) hl
  rw [bytesOf_numsOf, if_pos ⟨numsOf_byte l, List.all_eq_true.2 fun x hx => okWord_of x (hw x hx)⟩]
  congr 1
  exact rdFold_eq _ _ (by simp) hw
theorem fields_le (l : List UInt8) : (fieldsL l).length ≤ 16 := by
  unfold fieldsL
  have h : ∀ (ws : List ByteArray) (st : List S28), st.length ≤ 16 → (ws.foldl rdS st).length ≤ 16 := by
    intro ws
    induction ws with
    | nil => intro st h; exact h
    | cons x ws ih => intro st h; exact ih _ (rdS_le st x h)
  exact h _ _ (by simp)
theorem nums_of_wf {l : List Int} (h : ∀ x ∈ l, (fun n => (Lit.int .u8 n).wf = true) x) : ∃ b : List UInt8, l = numsOf b ∧ b.length = l.length := by
  refine ⟨Lib.bytesOf l, (numsOf_bytesOf fun x hx => ?_).symm, by simp [Lib.bytesOf]⟩
  have e1 : IntKind.u8.min = 0 := rfl
  have e2 : IntKind.u8.max = 255 := rfl
  have := h x hx
  simp only [Lit.wf, Bool.and_eq_true, decide_eq_true_eq, e1, e2] at this
  omega
end Go.Proofs.YtdkgmiagjhcllaaDoor.Pure
end
section
namespace Go.Proofs.YtdkgmiagjhcllaaDoor.Pure
open Go Go.RowKit Go.Proofs.YtdkgmiagjhcllaaDoorW.PrintWords Go.Proofs.YtdkgmiagjhcllaaDoorW.PrintLast Go.Proofs.YtdkgmiagjhcllaaDoorW.PrintMore Go.Proofs.YtdkgmiagjhcllaaDoor.P
set_option linter.unusedVariables false
set_option linter.unusedSimpArgs false

def keyIs (key : ByteArray) (y : S28) : Bool := decide (y.f0 = key)
def fiveOf : Option S28 → ByteArray × Int × Int × ByteArray × Bool
  | some y => (y.f0, y.f1, y.f2, y.f3, true)
  | none => (⟨#[]⟩, 0, 0, ⟨#[]⟩, false)
theorem fiveOf_found (o : Option S28) : (fiveOf o).2.2.2.2 = o.isSome := by cases o <;> rfl
theorem found_any (l : List S28) (key : ByteArray) : (l.find? (keyIs key)).isSome = l.any (fun y => decide (y.f0 = key)) := by
  rw [Bool.eq_iff_iff, List.find?_isSome]
  simp [keyIs]
theorem toList_iff (s t : ByteArray) : s.toList = t.toList ↔ s = t := by
  rw [Lib.toList_data, Lib.toList_data]
  exact ⟨fun h => ByteArray.ext (Array.toList_inj.1 h), fun h => by rw [h]⟩
theorem rdT_get (l : List S28) (i : Nat) (h : i < l.length) : rd_T28 l (i : Int) = l[i] := by
  unfold rd_T28
  rw [Int.toNat_natCast, List.getD_eq_getElem?_getD, List.getElem?_eq_getElem h, Option.getD_some]
end Go.Proofs.YtdkgmiagjhcllaaDoor.Pure
end
section
namespace Go.Proofs.YtdkgmiagjhcllaaDoor.Pure
open Go Go.RowKit Go.Proofs.YtdkgmiagjhcllaaDoorW.PrintWords Go.Proofs.YtdkgmiagjhcllaaDoorW.PrintLast Go.Proofs.YtdkgmiagjhcllaaDoorW.PrintMore Go.Proofs.YtdkgmiagjhcllaaDoor.P
set_option linter.unusedVariables false
set_option linter.unusedSimpArgs false

/-- One step of the document's loop. -/
theorem refKey_step (k : Nat) (s : ByteArray) (i : Nat) (h : i < s.size) (hs : s.size ≤ 9223372036854775807) : dragnetref08_IsKey.l0 (k + 1) s (i : Int) = if inK (bt s (i : Int)) = true then dragnetref08_IsKey.l0 k s ((i + 1 : Nat) : Int) else some false := by
  simp only [dragnetref08_IsKey.l0]
  rw [if_pos (by omega), if_pos (by omega), wrap_in (by omega) (by omega), show ((i : Int) + 1) = ((i + 1 : Nat) : Int) by omega]
  have hk := @inK_true (bt s (i : Int))
  generalize dragnetref08_IsKey.l0 k s ((i + 1 : Nat) : Int) = R
  generalize bt s (i : Int) = c at *
  by_cases hc : inK c = true
  · rw [if_pos hc]
    rw [hc] at hk
    have h2 := hk.1 rfl
    clear hk hc
    repeat' split
    all_goals first | rfl | (exfalso; omega)
  · rw [if_neg hc]
    have h2 : ¬ ((97 ≤ c ∧ c ≤ 122) ∨ (65 ≤ c ∧ c ≤ 90) ∨ (48 ≤ c ∧ c ≤ 57) ∨ c = 95 ∨ c = 46 ∨ c = 45) := fun e => hc (hk.2 e)
    clear hk hc
    repeat' split
    all_goals first | rfl | (exfalso; omega)
theorem refKey_loop (s : ByteArray) (hs : s.size ≤ 9223372036854775807) : ∀ (d i : Nat), i + d = s.size → Ev (fun k => dragnetref08_IsKey.l0 k s (i : Int)) (keyFrom s i && decide (1 ≤ s.size ∧ s.size ≤ 32))
  | 0, i, hi => by
    obtain rfl : i = s.size := by omega
    rw [keyFrom_end, Bool.true_and]
    refine Ev.step (f := fun _ => some (decide (1 ≤ s.size ∧ s.size ≤ 32))) (fun k => ?_) (Ev.now _)
    simp only [dragnetref08_IsKey.l0]
    rw [if_neg (by omega)]
    by_cases h0 : (s.size : Int) ≥ 1
    · rw [if_pos h0]
      congr 1
      exact decide_eq_decide.2 (by omega)
    · rw [if_neg h0]
      congr 1
      exact (decide_eq_false (by omega)).symm
  | d + 1, i, hi => by
    have ih := refKey_loop s hs d (i + 1) (by omega)
    rw [keyFrom_step s i (by omega)]
    cases hc : inK (bt s (i : Int)) with
    | false =>
      refine Ev.step (f := fun _ => some false) (fun k => ?_) (Ev.now _)
      rw [refKey_step k s i (by omega) hs, hc]
      rfl
    | true =>
      rw [Bool.true_and]
      refine Ev.step (fun k => ?_) ih
      rw [refKey_step k s i (by omega) hs, hc, if_pos rfl]
theorem refKey_ev (s : ByteArray) (hs : s.size ≤ 9223372036854775807) : Ev (fun k => dragnetref08_IsKey.f k s) (keyB s) := refKey_loop s hs s.size 0 (by omega)
end Go.Proofs.YtdkgmiagjhcllaaDoor.Pure
end
section
namespace Go.Proofs.YtdkgmiagjhcllaaDoor.Pure
open Go Go.RowKit Go.Proofs.YtdkgmiagjhcllaaDoorW.PrintWords Go.Proofs.YtdkgmiagjhcllaaDoorW.PrintLast Go.Proofs.YtdkgmiagjhcllaaDoorW.PrintMore Go.Proofs.YtdkgmiagjhcllaaDoor.P
set_option linter.unusedVariables false
set_option linter.unusedSimpArgs false

def finD (least : Bool) (v : Nat) : Int × Bool := if least = true then (if 9223372036854775808 < v then (0, false) else (-(v : Int), true)) else (if 9223372036854775807 < v then (0, false) else ((v : Int), true))
theorem num_loop (s : ByteArray) (least : Bool) (hs : s.size ≤ 19) : ∀ (d i acc : Nat), i + d = s.size → acc < 10 ^ i →
    Ev (fun k => dragnetref08_Number.l0 k s least (acc : Int) (i : Int)) (if (s.data.toList.drop i).all digB = true then finD least (valD acc (s.data.toList.drop i)) else (0, false))
  | 0, i, acc, hi, ha => by
    have hl : s.data.toList.length = s.size := (Lib.size_eq s).symm
    rw [List.drop_of_length_le (by omega)]
    have h10 : acc < 10 ^ 19 := Nat.lt_of_lt_of_le ha (Nat.pow_le_pow_right (by omega) (by omega))
    refine Ev.step (f := fun _ => some (finD least acc)) (fun k => ?_) (Ev.now _)
    simp only [dragnetref08_Number.l0, List.all_nil, if_true, valD_nil]
    rw [if_neg (by omega)]
    unfold finD
    cases least with
    | true =>
      simp only [if_true]
      by_cases h : 9223372036854775808 < acc
      · rw [if_pos (by omega), if_pos h]
      · rw [if_neg (by omega), if_neg h]
        congr 2
        simp only [IntKind.wrap, IntKind.signed, IntKind.bits, Bool.false_eq_true, if_false, wrap64]
        omega
    | false =>
      simp only [Bool.false_eq_true, if_false]
      by_cases h : 9223372036854775807 < acc
      · rw [if_pos (by omega), if_pos h]
      · rw [if_neg (by omega), if_neg h]
        congr 2
        exact wrap_in (by omega) (by omega)
  | d + 1, i, acc, hi, ha => by
    have hl : s.data.toList.length = s.size := (Lib.size_eq s).symm
    have hil : i < s.data.toList.length := by omega
    have hb := bt_list s i (by omega)
    rw [List.drop_eq_getElem_cons hil]
    generalize s.data.toList[i] = c at hb ⊢
    have hc := UInt8.toNat_lt c
    have h10 : acc < 10 ^ 18 := Nat.lt_of_lt_of_le ha (Nat.pow_le_pow_right (by omega) (by omega))
    by_cases hd : digB c = true
    · have hcd := digB_iff.1 hd
      have ih := num_loop s least hs d (i + 1) (acc * 10 + (c.toNat - 48)) (by omega) (by rw [Nat.pow_succ]; omega)
      rw [List.all_cons, hd, Bool.true_and, valD_cons]
      refine Ev.step (fun k => ?_) ih
      simp only [dragnetref08_Number.l0, hb]
      rw [if_pos (by omega), if_pos (by omega), if_neg (by omega), if_neg (by omega), u64_in (x := (acc : Int) * 10) (by omega) (by omega), u64_in (by omega) (by omega), wrap_in (by omega) (by omega)]
      congr 1
      · omega
    · have hdn : ¬ (48 ≤ c.toNat ∧ c.toNat ≤ 57) := fun e => hd (digB_iff.2 e)
      rw [List.all_cons, Bool.eq_false_iff.2 hd, Bool.false_and, if_neg (by simp)]
      refine Ev.step (f := fun _ => some (0, false)) (fun k => ?_) (Ev.now _)
      simp only [dragnetref08_Number.l0, hb]
      rw [if_pos (by omega), if_pos (by omega)]
      by_cases h1 : (c.toNat : Int) < 48
      · rw [if_pos h1]
      · rw [if_neg h1, if_pos (by omega)]
theorem num_mag (s : ByteArray) (least : Bool) : Ev (fun k => dragnetref08_Number.j1 k s least) (refMag least s.data.toList) := by
  have hl : s.data.toList.length = s.size := (Lib.size_eq s).symm
  have hno : Ev (fun k => dragnetref08_Number.j2 k s least true) (0, false) := Ev.step (f := fun _ => some (0, false)) (fun k => by simp only [dragnetref08_Number.j2, if_true]) (Ev.now _)
  by_cases h0 : s.data.toList.length < 1
  · rw [show refMag least s.data.toList = (0, false) from if_pos (Or.inl h0)]
    refine Ev.step (fun k => ?_) hno
    simp only [dragnetref08_Number.j1]
    rw [if_pos (by omega)]
  by_cases h19 : 19 < s.data.toList.length
  · rw [show refMag least s.data.toList = (0, false) from if_pos (Or.inr (Or.inl h19))]
    refine Ev.step (fun k => ?_) hno
    simp only [dragnetref08_Number.j1]
    rw [if_neg (by omega), if_pos (by omega)]
  have hb := bt_list s 0 (by omega)
  have hh : s.data.toList.head? = some (s.data.toList[0]'(by omega)) := by
    rw [List.head?_eq_getElem?, List.getElem?_eq_getElem (by omega)]
  obtain ⟨c, hcd⟩ : ∃ c, c = s.data.toList[0]'(by omega) := ⟨_, rfl⟩
  rw [← hcd] at hb hh
  clear hcd
  have hyes : ¬ (s.data.toList.head?.map (·.toNat) = some 48 ∧ (1 < s.data.toList.length ∨ least = true)) → Ev (fun k => dragnetref08_Number.j2 k s least false) (refMag least s.data.toList) := fun hn => by
    have hl0 := num_loop s least (by omega) s.size 0 0 (by omega) (by simp)
    rw [List.drop_zero] at hl0
    have e : refMag least s.data.toList = (if s.data.toList.all digB = true then finD least (valD 0 s.data.toList) else (0, false)) := by
      unfold refMag finD
      rw [if_neg (by
        rintro (e | e | e)
        · exact h0 e
        · exact h19 e
        · exact hn e)]
    rw [e]
    refine Ev.step (fun k => ?_) hl0
    simp only [dragnetref08_Number.j2]
    rw [if_neg (by simp)]
    rfl
  have hzero : s.data.toList.head?.map (·.toNat) = some 48 ∧ (1 < s.data.toList.length ∨ least = true) → refMag least s.data.toList = (0, false) := fun hz => if_pos (Or.inr (Or.inr hz))
  rw [hh] at hyes hzero
  simp only [Option.map_some, Option.some.injEq] at hyes hzero
  by_cases hc : c.toNat = 48
  · by_cases h1 : 1 < s.data.toList.length
    · rw [hzero ⟨hc, Or.inl h1⟩]
      refine Ev.step (fun k => ?_) hno
      simp only [dragnetref08_Number.j1]
      rw [if_neg (by omega), if_neg (by omega), if_pos (by omega), show ((0 : Int)) = ((0 : Nat) : Int) from rfl, hb, if_pos (by omega), if_pos (by omega)]
    · cases least with
      | true =>
        rw [hzero ⟨hc, Or.inr rfl⟩]
        refine Ev.step (fun k => ?_) hno
        simp only [dragnetref08_Number.j1]
        rw [if_neg (by omega), if_neg (by omega), if_pos (by omega), show ((0 : Int)) = ((0 : Nat) : Int) from rfl, hb, if_pos (by omega), if_neg (by omega)]
      | false =>
        refine Ev.step (fun k => ?_) (hyes (fun e => by
          rcases e.2 with e2 | e2
          · exact h1 e2
          · cases e2))
        simp only [dragnetref08_Number.j1]
        rw [if_neg (by omega), if_neg (by omega), if_pos (by omega), show ((0 : Int)) = ((0 : Nat) : Int) from rfl, hb, if_pos (by omega), if_neg (by omega)]
  · refine Ev.step (fun k => ?_) (hyes (fun e => hc e.1))
    simp only [dragnetref08_Number.j1]
    rw [if_neg (by omega), if_neg (by omega), if_pos (by omega), show ((0 : Int)) = ((0 : Nat) : Int) from rfl, hb, if_neg (by omega)]
theorem extract_tail (s : ByteArray) : (s.extract 1 s.size).data.toList = s.data.toList.tail := by
  rw [Lib.extract_data]
  rw [List.drop_one, List.take_of_length_le]
  rw [List.length_tail, ← Lib.size_eq]
  omega
/-- What the document's Number computes. -/
theorem refNumber_ev (t : ByteArray) : Ev (fun k => dragnetref08_Number.f k t) (refNum t.data.toList) := by
  have hl : t.data.toList.length = t.size := (Lib.size_eq t).symm
  cases e : t.data.toList with
  | nil =>
    have hm := num_mag t false
    rw [e] at hm hl
    have h0 : t.size = 0 := hl.symm
    refine Ev.congr (f := fun k => dragnetref08_Number.j0 k t false false) (fun k => ?_) (Ev.step (fun k => ?_) hm)
    · unfold dragnetref08_Number.f
      rw [if_neg (by omega)]
    · simp only [dragnetref08_Number.j0]
      rw [if_neg (by simp)]
  | cons c r =>
    have hsz : 0 < t.size := by rw [← hl, e]; simp
    have hb := bt_list t 0 hsz
    have hc : t.data.toList[0]'(by omega) = c := by simp [e]
    rw [hc] at hb
    by_cases h45 : c.toNat = 45
    · have hm := num_mag (t.extract 1 t.size) true
      rw [extract_tail, e, List.tail_cons] at hm
      rw [show refNum (c :: r) = refMag true r from if_pos h45]
      refine Ev.congr (f := fun k => dragnetref08_Number.j0 k t false true) (fun k => ?_) (Ev.step (fun k => ?_) hm)
      · unfold dragnetref08_Number.f
        rw [if_pos (by omega), if_pos (by omega), show ((0 : Int)) = ((0 : Nat) : Int) from rfl, hb]
        congr 1
        rw [h45]
        rfl
      · simp only [dragnetref08_Number.j0, if_true]
        rw [if_pos (by omega)]
    · have hm := num_mag t false
      rw [e] at hm
      rw [show refNum (c :: r) = refMag false (c :: r) from if_neg h45]
      refine Ev.congr (f := fun k => dragnetref08_Number.j0 k t false false) (fun k => ?_) (Ev.step (fun k => ?_) hm)
      · unfold dragnetref08_Number.f
        rw [if_pos (by omega), if_pos (by omega), show ((0 : Int)) = ((0 : Nat) : Int) from rfl, hb]
        congr 1
        exact beq_eq_false_iff_ne.2 (by omega)
      · simp only [dragnetref08_Number.j0]
        rw [if_neg (by simp)]
end Go.Proofs.YtdkgmiagjhcllaaDoor.Pure
end
section
namespace Go.Proofs.YtdkgmiagjhcllaaDoor.Pure
open Go Go.RowKit Go.Proofs.YtdkgmiagjhcllaaDoorW.PrintWords Go.Proofs.YtdkgmiagjhcllaaDoorW.PrintLast Go.Proofs.YtdkgmiagjhcllaaDoorW.PrintMore Go.Proofs.YtdkgmiagjhcllaaDoor.P
set_option linter.unusedVariables false
set_option linter.unusedSimpArgs false

theorem at_loop (l : List S28) (key : ByteArray) (hl : l.length ≤ 1000000) : ∀ (d i : Nat), i + d = l.length → Ev (fun k => dragnetref08_At.l0 k l key (i : Int)) (fiveOf ((l.drop i).find? (keyIs key)))
  | 0, i, hi => by
    rw [List.drop_of_length_le (by omega)]
    refine Ev.step (f := fun _ => some (fiveOf none)) (fun k => ?_) (Ev.now _)
    simp only [dragnetref08_At.l0]
    rw [if_neg (by omega)]
    rfl
  | d + 1, i, hi => by
    have hlt : i < l.length := by omega
    rw [List.drop_eq_getElem_cons hlt, List.find?_cons]
    have ih := at_loop l key hl d (i + 1) (by omega)
    cases hk : keyIs key l[i] with
    | true =>
      refine Ev.step (f := fun _ => some (fiveOf (some l[i]))) (fun k => ?_) (Ev.now _)
      simp only [dragnetref08_At.l0]
      rw [if_pos (by omega), if_pos (by omega), rdT_get l i hlt, if_pos ((toList_iff _ _).2 (of_decide_eq_true hk))]
      rfl
    | false =>
      refine Ev.step (fun k => ?_) ih
      simp only [dragnetref08_At.l0]
      rw [if_pos (by omega), if_pos (by omega), rdT_get l i hlt, if_neg (fun e => (of_decide_eq_false hk) ((toList_iff _ _).1 e)), wrap_in (by omega) (by omega), show ((i : Int) + 1) = ((i + 1 : Nat) : Int) by omega]
theorem at_ev (l : List S28) (key : ByteArray) (hl : l.length ≤ 1000000) : Ev (fun k => dragnetref08_At.f k l key) (fiveOf (l.find? (keyIs key))) := at_loop l key hl l.length 0 (by omega)
end Go.Proofs.YtdkgmiagjhcllaaDoor.Pure
end
section
namespace Go.Proofs.YtdkgmiagjhcllaaDoor.Pure
open Go Go.RowKit Go.Proofs.YtdkgmiagjhcllaaDoorW.PrintWords Go.Proofs.YtdkgmiagjhcllaaDoorW.PrintLast Go.Proofs.YtdkgmiagjhcllaaDoorW.PrintMore Go.Proofs.YtdkgmiagjhcllaaDoor.P
set_option linter.unusedVariables false
set_option linter.unusedSimpArgs false

theorem same_loop (l : List S28) (hl : l.length ≤ 1000000) : ∀ (d i : Nat), i + d = l.length → Ev (fun k => dragnetref08_Same.l0 k l l (i : Int)) true
  | 0, i, hi => by
    refine Ev.step (f := fun _ => some true) (fun k => ?_) (Ev.now _)
    simp only [dragnetref08_Same.l0]
    rw [if_neg (by omega)]
  | d + 1, i, hi => by
    refine Ev.step (fun k => ?_) (same_loop l hl d (i + 1) (by omega))
    simp only [dragnetref08_Same.l0]
    rw [if_pos (by omega), if_pos (by omega), if_pos (by omega), if_neg (by simp), wrap_in (by omega) (by omega), show ((i : Int) + 1) = ((i + 1 : Nat) : Int) by omega]
theorem same_ev (l : List S28) (hl : l.length ≤ 1000000) : Ev (fun k => dragnetref08_Same.f k l l) true := by
  refine Ev.congr (fun k => ?_) (same_loop l hl l.length 0 (by omega))
  unfold dragnetref08_Same.f
  rw [if_pos rfl]
  rfl
end Go.Proofs.YtdkgmiagjhcllaaDoor.Pure
end
section
namespace Go.Proofs.YtdkgmiagjhcllaaDoor.Pure
open Go Go.RowKit Go.Proofs.YtdkgmiagjhcllaaDoorW.PrintWords Go.Proofs.YtdkgmiagjhcllaaDoorW.PrintLast Go.Proofs.YtdkgmiagjhcllaaDoorW.PrintMore Go.Proofs.YtdkgmiagjhcllaaDoor.P
set_option linter.unusedVariables false
set_option linter.unusedSimpArgs false

def fiveS (p : S28 × Bool) : ByteArray × Int × Int × ByteArray × Bool := (p.1.f0, p.1.f1, p.1.f2, p.1.f3, p.2)
theorem extract_front (x : ByteArray) (i : Nat) (h : i ≤ x.size) : x.extract 0 i = bA (x.data.toList.take i) := by
  apply text_eq
  rw [Lib.extract_data, List.drop_zero]
  rfl
theorem extract_back (x : ByteArray) (i : Nat) : x.extract i x.size = bA (x.data.toList.drop i) := by
  apply text_eq
  rw [Lib.extract_data, bA_list, List.take_of_length_le]
  rw [List.length_drop, ← Lib.size_eq]
  omega
theorem one_loop (x : ByteArray) (hx : x.size ≤ 281474976710656) : ∀ (d i : Nat), i + d = x.size → i ≤ eqPos x.data.toList → Ev (fun k => dragnetref08_One.l0 k x (i : Int)) (fiveS (oneS x.data.toList))
  | 0, i, hi, hp => by
    have hl : x.data.toList.length = x.size := (Lib.size_eq x).symm
    refine Ev.step (f := fun _ => some (fiveS (oneS x.data.toList))) (fun k => ?_) (Ev.now _)
    simp only [dragnetref08_One.l0]
    rw [if_neg (by omega), show oneS x.data.toList = (z28, false) from if_neg (by omega)]
    rfl
  | d + 1, i, hi, hp => by
    have hl : x.data.toList.length = x.size := (Lib.size_eq x).symm
    have hb := bt_list x i (by omega)
    by_cases hq : i = eqPos x.data.toList
    · have h61 : x.data.toList[i]'(by omega) = 61 := by
        obtain ⟨y, h1, h2⟩ := takeWhile_stop (p := noEq) (l := x.data.toList) (by unfold eqPos at hq; omega)
        have : i = (x.data.toList.takeWhile noEq).length := hq
        rw [← this, List.getElem?_eq_getElem (by omega)] at h1
        cases h1
        simpa [noEq] using h2
      rw [h61] at hb
      have hnum := refNumber_ev (bA (x.data.toList.drop (i + 1)))
      have hkey := refKey_ev (bA (x.data.toList.take i)) (by rw [bA_size, List.length_take]; omega)
      rw [bA_list] at hnum
      have hone : oneS x.data.toList = (if (refNum (x.data.toList.drop (i + 1))).2 = true then (⟨bA (x.data.toList.take i), 1, (refNum (x.data.toList.drop (i + 1))).1, ⟨#[]⟩⟩, keyB (bA (x.data.toList.take i)))
    else (⟨bA (x.data.toList.take i), 2, 0, bA (x.data.toList.drop (i + 1))⟩, keyB (bA (x.data.toList.take i)) && decide ((x.data.toList.drop (i + 1)).length ≤ 64))) := by
        unfold oneS
        rw [← hq, if_pos (by omega)]
      rw [hone]
      refine Ev.sb hnum (F := ?F) (fun k => ?step) ?rest
      case step =>
        simp only [dragnetref08_One.l0, hb]
        rw [if_pos (by omega), if_pos (by omega), if_pos (by decide), if_pos (by omega), wrap_in (by omega) (by omega), if_pos (by omega), if_pos (by omega), show ((i : Int) + 1).toNat = i + 1 by omega, Int.toNat_natCast, extract_back, extract_front x i (by omega)]
      case rest =>
        by_cases hn : (refNum (x.data.toList.drop (i + 1))).2 = true
        · simp only [if_pos hn]
          refine Ev.bind hkey ?_
          refine Ev.congr (fun k => ?_) (Ev.now _)
          cases keyB (bA (x.data.toList.take i)) <;> rfl
        · simp only [if_neg hn]
          refine Ev.bind hkey ?_
          refine Ev.congr (fun k => ?_) (Ev.now _)
          cases keyB (bA (x.data.toList.take i)) with
          | false => rfl
          | true =>
            rw [if_pos rfl, bA_size]
            unfold fiveS
            simp only [Bool.true_and]
            congr 5
            exact decide_eq_decide.2 (by omega)
    · have hn : x.data.toList[i]'(by omega) ≠ 61 := by
        obtain ⟨y, h1, h2⟩ := takeWhile_getElem (p := noEq) (l := x.data.toList) (j := i) (by unfold eqPos at hq hp; omega)
        rw [List.getElem?_eq_getElem (by omega)] at h1
        cases h1
        simpa [noEq] using h2
      refine Ev.step (fun k => ?_) (one_loop x hx d (i + 1) (by omega) (by omega))
      simp only [dragnetref08_One.l0, hb]
      rw [if_pos (by omega), if_pos (by omega), if_neg (fun e => hn (UInt8.toNat_inj.1 (by show _ = 61; omega))), wrap_in (by omega) (by omega), show ((i : Int) + 1) = ((i + 1 : Nat) : Int) by omega]
theorem one_ev (x : ByteArray) (hx : x.size ≤ 281474976710656) : Ev (fun k => dragnetref08_One.f k x) (fiveS (oneS x.data.toList)) := one_loop x hx x.size 0 (by omega) (Nat.zero_le _)
theorem isB_iff (b : UInt8) : isB b = true ↔ b.toNat = 9 ∨ b.toNat = 10 ∨ b.toNat = 13 ∨ b.toNat = 32 := by
  unfold isB blankL
  simp only [List.contains_cons, List.contains_nil, Bool.or_false, Bool.or_eq_true, beq_iff_eq, ← UInt8.toNat_inj]
  rfl
theorem blank_f (b : UInt8) : dragnetref08_blank.f (b.toNat : Int) = some (isB b) := by
  have h := isB_iff b
  unfold dragnetref08_blank.f
  cases hb : isB b with
  | true =>
    have h2 := h.1 hb
    repeat' split
    all_goals first | rfl | (congr 1; exact beq_iff_eq.2 (by omega))
  | false =>
    have h2 : ¬ (b.toNat = 9 ∨ b.toNat = 10 ∨ b.toNat = 13 ∨ b.toNat = 32) := fun e => by rw [h.2 e] at hb; cases hb
    rw [if_neg (by omega), if_neg (by omega), if_neg (by omega)]
    congr 1
    exact beq_eq_false_iff_ne.2 (by omega)
theorem rd_nums (l : List UInt8) (i : Nat) (h : i < l.length) : rd (numsOf l) (i : Int) = ((l[i]).toNat : Int) := by
  simp [rd, numsOf, List.getD, List.getElem?_eq_getElem h]
theorem nums_len (l : List UInt8) : (numsOf l).length = l.length := by simp [numsOf]
theorem str_nums (l : List UInt8) : strOfNums (numsOf l) = bA l := by
  apply text_eq
  rw [strOfNums_data, bA_list]
  simp [numsOf, List.map_map, Function.comp_def]
theorem words_blank (c : UInt8) (r : List UInt8) (h : isB c = true) : wordsL (c :: r) = wordsL r := by
  have e : (c :: r).dropWhile isB = r.dropWhile isB := by rw [List.dropWhile_cons, h]; rfl
  by_cases h0 : r.dropWhile isB = []
  · rw [wordsL_none h0, wordsL_none (e.trans h0)]
  · rw [wordsL_some h0, wordsL_some (by rw [e]; exact h0), e]
theorem words_front (c : UInt8) (r : List UInt8) (h : isB c = false) : wordsL (c :: r) = bA ((c :: r).takeWhile nB) :: wordsL ((c :: r).dropWhile nB) := by
  have e : (c :: r).dropWhile isB = c :: r := by rw [List.dropWhile_cons, h]; rfl
  rw [wordsL_some (by rw [e]; simp), e]
  rfl
/-- Behind a word stands a blank, or nothing. -/
theorem words_behind (l : List UInt8) : wordsL (l.dropWhile nB) = wordsL ((l.dropWhile nB).drop 1) := by
  cases e : l.dropWhile nB with
  | nil => rfl
  | cons c r =>
    have hc : nB c = false := by
      have := List.head_dropWhile_not nB (l := l) (by rw [e]; simp)
      simpa only [e, List.head_cons] using this
    rw [words_blank c r (by simpa [nB] using hc)]
    rfl
theorem five_any (st : List S28) (key : ByteArray) : (fiveOf (st.find? (keyIs key))).2.2.2.2 = st.any (fun y => decide (y.f0 = key)) := by rw [fiveOf_found, found_any]
/-- From the word's end on. -/
theorem j2_ev (l : List UInt8) (hl : l.length ≤ 16777216) (st : List S28) (hs : st.length ≤ 16) (i n : Nat) (hn : i + n ≤ l.length) (r : List S28)
    (h : Ev (fun k => dragnetref08_Read.l0 k (numsOf l) (rdS st (bA ((l.drop i).take n))) ((i + n + 1 : Nat) : Int)) r) :
    Ev (fun k => dragnetref08_Read.j2 k (numsOf l) st ((i + n : Nat) : Int) (i : Int)) r := by
  have h1 := one_ev (bA ((l.drop i).take n)) (by rw [bA_size, List.length_take, List.length_drop]; omega)
  have h2 := at_ev st (oneS ((l.drop i).take n)).1.f0 (by omega)
  rw [bA_list] at h1
  have hstr : strOfNums (((numsOf l).take (i + n)).drop i) = bA ((l.drop i).take n) := by
    rw [← str_nums]
    congr 1
    unfold numsOf
    rw [← List.map_take, ← List.map_drop, List.take_drop, Nat.add_comm]
  refine Ev.sb h1 (F := ?F) (fun k => ?step) ?rest
  case step =>
    simp only [dragnetref08_Read.j2]
    rw [if_pos (by omega), if_pos (by omega), if_pos (by rw [nums_len]; omega), Int.toNat_natCast, Int.toNat_natCast, hstr]
  case rest =>
    refine Ev.cb h2 (F := ?F2) (fun k => ?step) ?rest
    case step =>
      dsimp only [fiveS]
      rfl
    case rest =>
    refine Ev.congr (fun k => ?_) h
    rw [five_any, wrap_in (by omega) (by omega), show (((i + n : Nat) : Int) + 1) = ((i + n + 1 : Nat) : Int) by omega]
    have hrd : rdS st (bA ((l.drop i).take n)) = if st.length < 16 ∧ (oneS ((l.drop i).take n)).2 = true ∧ st.any (fun y => decide (y.f0 = (oneS ((l.drop i).take n)).1.f0)) = false then st ++ [(oneS ((l.drop i).take n)).1] else st := rfl
    by_cases h1 : (oneS ((l.drop i).take n)).2 = true
    · by_cases h2 : st.any (fun y => decide (y.f0 = (oneS ((l.drop i).take n)).1.f0)) = true
      · rw [if_neg (fun e => by rw [h2] at e; cases e.2.2)] at hrd
        rw [hrd]
        simp only [h1, h2, ↓reduceIte]
      · have h3 := Bool.eq_false_iff.2 h2
        by_cases h16 : st.length < 16
        · have hi : (st.length : Int) < 16 := by omega
          have hj : st.length < 2932031007402 := by omega
          rw [if_pos ⟨h16, h1, h3⟩] at hrd
          rw [hrd]
          simp only [h1, h3, hi, hj, Bool.false_eq_true, ↓reduceIte]
        · have hi : ¬ (st.length : Int) < 16 := by omega
          rw [if_neg (fun e => h16 e.1)] at hrd
          rw [hrd]
          simp only [h1, h3, hi, Bool.false_eq_true, ↓reduceIte]
    · have h3 := Bool.eq_false_iff.2 h1
      rw [if_neg (fun e => h1 e.2.1)] at hrd
      rw [hrd]
      simp only [h3, Bool.false_eq_true, ↓reduceIte]
/-- Within a word. -/
theorem l1_ev (l : List UInt8) (hl : l.length ≤ 16777216) (st : List S28) (hs : st.length ≤ 16) (i n : Nat) (hn : i + n ≤ l.length) (hw : ∀ j, j < n → ∃ x, l[i + j]? = some x ∧ nB x = true) (hend : ∀ x, l[i + n]? = some x → isB x = true) (r : List S28)
    (h : Ev (fun k => dragnetref08_Read.j2 k (numsOf l) st ((i + n : Nat) : Int) (i : Int)) r) : ∀ d m : Nat, m + d = n → Ev (fun k => dragnetref08_Read.l1 k (numsOf l) st ((i + m : Nat) : Int) (i : Int)) r
  | 0, m, hm => by
    obtain rfl : m = n := by omega
    refine Ev.step (fun k => ?_) h
    simp only [dragnetref08_Read.l1]
    by_cases hlt : i + m < l.length
    · have hb := hend _ (List.getElem?_eq_getElem hlt)
      rw [if_pos (by rw [nums_len]; omega), if_pos (by omega), rd_nums l _ hlt, blank_f, hb, Option.bind_some, if_pos rfl]
    · rw [if_neg (by rw [nums_len]; omega)]
  | d + 1, m, hm => by
    have ih := l1_ev l hl st hs i n hn hw hend r h d (m + 1) (by omega)
    obtain ⟨x, hx, hb⟩ := hw m (by omega)
    have hlt : i + m < l.length := by omega
    rw [List.getElem?_eq_getElem hlt] at hx
    cases hx
    refine Ev.step (fun k => ?_) ih
    simp only [dragnetref08_Read.l1]
    have hb2 : isB l[i + m] = false := by simpa [nB] using hb
    rw [if_pos (by rw [nums_len]; omega), if_pos (by omega), rd_nums l _ hlt, blank_f, hb2, Option.bind_some, if_neg (by simp), wrap_in (by omega) (by omega), show (((i + m : Nat) : Int) + 1) = ((i + (m + 1) : Nat) : Int) by omega]
theorem read_loop (l : List UInt8) (hl : l.length ≤ 16777216) : ∀ (d i : Nat) (st : List S28), l.length ≤ i + d → st.length ≤ 16 → i ≤ l.length + 1 → Ev (fun k => dragnetref08_Read.l0 k (numsOf l) st (i : Int)) ((wordsL (l.drop i)).foldl rdS st)
  | d, i, st, hd, hs, hi => by
    by_cases hlt : i < l.length
    case neg =>
      rw [List.drop_of_length_le (by omega), wordsL_none rfl]
      refine Ev.step (f := fun _ => some st) (fun k => ?_) (Ev.now _)
      simp only [dragnetref08_Read.l0]
      rw [if_neg (by rw [nums_len]; omega)]
    obtain ⟨d, rfl⟩ : ∃ e, d = e + 1 := ⟨d - 1, by omega⟩
    cases hb : isB l[i] with
    | true =>
      have ih := read_loop l hl d (i + 1) st (by omega) hs (by omega)
      rw [List.drop_eq_getElem_cons hlt, words_blank _ _ hb]
      refine Ev.step (fun k => ?_) ih
      simp only [dragnetref08_Read.l0]
      rw [if_pos (by rw [nums_len]; omega), if_pos (by omega), rd_nums l _ hlt, blank_f, hb, Option.bind_some, if_pos rfl, wrap_in (by omega) (by omega), show ((i : Int) + 1) = ((i + 1 : Nat) : Int) by omega]
    | false =>
      obtain ⟨n, hn⟩ : ∃ n, n = ((l.drop i).takeWhile nB).length := ⟨_, rfl⟩
      have hle : i + n ≤ l.length := by
        have := (List.takeWhile_prefix nB (l := l.drop i)).length_le
        rw [List.length_drop] at this
        omega
      have htake : (l.drop i).takeWhile nB = (l.drop i).take n := by rw [hn]; exact takeWhile_take nB _
      have hdrop : (l.drop i).dropWhile nB = l.drop (i + n) := by rw [dropWhile_drop', ← hn, List.drop_drop]
      have hn1 : 1 ≤ n := by
        rw [hn, List.drop_eq_getElem_cons hlt]
        simp [List.takeWhile, nB, hb]
      have hwords : wordsL (l.drop i) = bA ((l.drop i).take n) :: wordsL (l.drop (i + n + 1)) := by
        have e := words_front l[i] (l.drop (i + 1)) hb
        rw [← List.drop_eq_getElem_cons hlt, htake, words_behind, hdrop, List.drop_drop] at e
        exact e
      rw [hwords, List.foldl_cons]
      have ih := read_loop l hl d (i + n + 1) (rdS st (bA ((l.drop i).take n))) (by omega) (rdS_le _ _ hs) (by omega)
      have h2 := l1_ev l hl st hs i n hle (fun j hj => by
        obtain ⟨x, h1, h2⟩ := takeWhile_getElem (p := nB) (l := l.drop i) (j := j) (by omega)
        rw [List.getElem?_drop] at h1
        exact ⟨x, h1, h2⟩) (fun x hx => by
        obtain ⟨y, h1, h2⟩ := takeWhile_stop (p := nB) (l := l.drop i) (by
          rw [List.length_drop, ← hn]
          have := (List.getElem?_eq_some_iff.1 hx).1
          omega)
        rw [← hn, List.getElem?_drop, hx] at h1
        cases h1
        simpa [nB] using h2) _ (j2_ev l hl st hs i n hle _ ih) n 0 (by omega)
      refine Ev.step (fun k => ?_) h2
      simp only [dragnetref08_Read.l0]
      rw [if_pos (by rw [nums_len]; omega), if_pos (by omega), rd_nums l _ hlt, blank_f, hb, Option.bind_some, if_neg (by simp)]
      rfl
theorem refRead_ev (l : List UInt8) (hl : l.length ≤ 16777216) : Ev (fun k => dragnetref08_Read.f k (numsOf l)) (fieldsL l) := read_loop l hl l.length 0 [] (by omega) (by simp) (by omega)
end Go.Proofs.YtdkgmiagjhcllaaDoor.Pure
end
section
namespace Go.Proofs.YtdkgmiagjhcllaaDoor.Pure
open Go Go.RowKit Go.Proofs.YtdkgmiagjhcllaaDoorW.PrintWords Go.Proofs.YtdkgmiagjhcllaaDoorW.PrintLast Go.Proofs.YtdkgmiagjhcllaaDoorW.PrintMore Go.Proofs.YtdkgmiagjhcllaaDoor.P
set_option linter.unusedVariables false

theorem words_join : ∀ (n : Nat) (a b : List UInt8), a.length ≤ n → wordsL (a ++ 32 :: b) = wordsL a ++ wordsL b
  | n, [], b, _ => by
    rw [List.nil_append, words_blank 32 b (by decide), show wordsL ([] : List UInt8) = [] from wordsL_none rfl, List.nil_append]
  | 0, c :: r, b, h => by simp at h
  | n + 1, c :: r, b, h => by
    have h32 : nB 32 = false := by decide
    cases hc : isB c with
    | true =>
      rw [List.cons_append, words_blank c _ hc, words_blank c _ hc]
      exact words_join n r b (by simpa using h)
    | false =>
      have e1 : (c :: r ++ 32 :: b).takeWhile nB = (c :: r).takeWhile nB := by
        rw [List.takeWhile_append]
        split
        · rw [List.takeWhile_cons, h32]
          simp only [Bool.false_eq_true, if_false, List.append_nil]
          rename_i hh
          exact (List.takeWhile_prefix nB).eq_of_length hh |>.symm
        · rfl
      have e2 : (c :: r ++ 32 :: b).dropWhile nB = (c :: r).dropWhile nB ++ 32 :: b := by
        rw [List.dropWhile_append]
        split
        · rename_i hh
          rw [List.isEmpty_iff.1 hh, List.dropWhile_cons, h32]
          rfl
        · rfl
      have hlt : ((c :: r).dropWhile nB).length ≤ n := by
        have h1 : nB c = true := by simp [nB, hc]
        rw [List.dropWhile_cons, h1]
        simp only [if_true]
        have := dropWhile_le nB r
        simp only [List.length_cons] at h
        omega
      rw [words_front c r hc, List.cons_append, words_front c _ hc, ← List.cons_append, e1, e2, words_join n _ b hlt]
      rfl
/-- One more field, where its key is new. -/
def addS (st : List S28) (y : S28) : List S28 := if st.any (fun z => decide (z.f0 = y.f0)) = false ∧ st.length < 16 then st ++ [y] else st
theorem addS_le (st : List S28) (y : S28) (h : st.length ≤ 16) : (addS st y).length ≤ 16 := by
  unfold addS
  split
  · rename_i hh
    simp only [List.length_append, List.length_singleton]
    omega
  · exact h
theorem addS_sub (st : List S28) (y : S28) : st <+: addS st y := by
  unfold addS
  split
  · exact List.prefix_append _ _
  · exact List.prefix_refl _
theorem adds_le : ∀ (M st : List S28), st.length ≤ 16 → (M.foldl addS st).length ≤ 16
  | [], _, h => h
  | y :: M, st, h => adds_le M _ (addS_le st y h)
theorem adds_sub : ∀ (M st : List S28), st <+: M.foldl addS st
  | [], _ => List.prefix_refl _
  | y :: M, st => (addS_sub st y).trans (adds_sub M _)
/-- A field that was added is there, or all places are taken. -/
theorem adds_has : ∀ (M st : List S28) (y : S28), y ∈ M → st.length ≤ 16 → (M.foldl addS st).any (fun z => decide (z.f0 = y.f0)) = true ∨ 16 ≤ (M.foldl addS st).length
  | x :: M, st, y, hy, h => by
    rw [List.foldl_cons]
    rcases List.mem_cons.1 hy with rfl | hy
    · have hs := adds_sub M (addS st y)
      by_cases hc : st.any (fun z => decide (z.f0 = y.f0)) = true
      · left
        obtain ⟨z, hz, e⟩ := List.any_eq_true.1 hc
        exact List.any_eq_true.2 ⟨z, hs.subset ((addS_sub st y).subset hz), e⟩
      · by_cases h16 : st.length < 16
        · left
          have e : addS st y = st ++ [y] := if_pos ⟨Bool.eq_false_iff.2 hc, h16⟩
          exact List.any_eq_true.2 ⟨y, hs.subset (by rw [e]; simp), by simp⟩
        · right
          have := hs.length_le
          have := (addS_sub st y).length_le
          omega
    · exact adds_has M _ y hy (addS_le st x h)
/-- How the fields of the second line, and those of both, go along. -/
def Along (st M G : List S28) : Prop := M.length ≤ 16 ∧ G.length ≤ 16 ∧ (M.length < 16 → G = M.foldl addS st) ∧ (M.length = 16 → M.foldl addS st <+: G)
theorem rdS_sub (st : List S28) (x : ByteArray) : st <+: rdS st x := by
  unfold rdS
  split
  · exact List.prefix_append _ _
  · exact List.prefix_refl _
theorem along_step (st : List S28) (hst : st.length ≤ 16) (M G : List S28) (x : ByteArray) (h : Along st M G) : Along st (rdS M x) (rdS G x) := by
  obtain ⟨h1, h2, h3, h4⟩ := h
  refine ⟨rdS_le _ _ h1, rdS_le _ _ h2, ?_⟩
  by_cases h16 : M.length = 16
  · have e : rdS M x = M := if_neg (fun e => by omega)
    rw [e]
    exact ⟨fun h => by omega, fun _ => (h4 h16).trans (rdS_sub _ _)⟩
  · have hG := h3 (by omega)
    suffices e : rdS G x = (rdS M x).foldl addS st from ⟨fun _ => e, fun _ => by rw [e]; exact List.prefix_refl _⟩
    unfold rdS
    cases hok : (oneS x.data.toList).2 with
    | false => rw [if_neg (fun e => by cases e.2.1), if_neg (fun e => by cases e.2.1)]; exact hG
    | true =>
      generalize (oneS x.data.toList).1 = y
      cases hM : M.any (fun z => decide (z.f0 = y.f0)) with
      | true =>
        obtain ⟨z, hz, e⟩ := List.any_eq_true.1 hM
        have e2 : z.f0 = y.f0 := of_decide_eq_true e
        have hh := adds_has M st z hz hst
        rw [← hG, e2] at hh
        rw [if_neg (c := M.length < 16 ∧ _) (fun e => by cases e.2.2), if_neg]
        · exact hG
        · rintro ⟨g1, _, g2⟩
          rcases hh with hh | hh
          · rw [g2] at hh; cases hh
          · omega
      | false =>
        rw [if_pos (c := M.length < 16 ∧ _) ⟨by omega, rfl, rfl⟩, List.foldl_append, ← hG, List.foldl_cons, List.foldl_nil]
        unfold addS
        by_cases hc : G.any (fun z => decide (z.f0 = y.f0)) = false ∧ G.length < 16
        · rw [if_pos hc, if_pos ⟨hc.2, rfl, hc.1⟩]
        · rw [if_neg hc, if_neg (fun e => hc ⟨e.2.2, e.1⟩)]
theorem along_all (st : List S28) (hst : st.length ≤ 16) : ∀ (ws : List ByteArray) (M G : List S28), Along st M G → Along st (ws.foldl rdS M) (ws.foldl rdS G)
  | [], _, _, h => h
  | x :: ws, M, G, h => along_all st hst ws _ _ (along_step st hst M G x h)
theorem parts_along (a b : List UInt8) : Along (fieldsL a) (fieldsL b) (fieldsL (a ++ 32 :: b)) := by
  have e : fieldsL (a ++ 32 :: b) = (wordsL b).foldl rdS (fieldsL a) := by
    unfold fieldsL
    rw [words_join _ a b (Nat.le_refl _), List.foldl_append]
  rw [e]
  exact along_all (fieldsL a) (fields_le a) (wordsL b) [] _ ⟨by simp, fields_le a, fun _ => rfl, fun h => by simp at h⟩
theorem parts_loop (a b : List UInt8) (ha : a.length + b.length ≤ 16777000) : ∀ (d i : Nat) (st : List S28), i + d = (fieldsL b).length → st.length ≤ 16 → ((fieldsL b).drop i).foldl addS st = (fieldsL b).foldl addS (fieldsL a) →
    Ev (fun k => dragnetlaw08_FieldParts.l0 k (numsOf a) (numsOf b) st (fieldsL b) (i : Int)) true
  | 0, i, st, hi, hs, he => by
    rw [List.drop_of_length_le (by omega), List.foldl_nil] at he
    have hb := fields_le b
    obtain ⟨_, hG, h3, h4⟩ := parts_along a b
    rw [← he] at h3 h4
    have hcopy : dragnetref01_Copy.f (numsOf a) = some (numsOf a) := by
      unfold dragnetref01_Copy.f
      rw [Option.bind_some, if_pos (by rw [nums_len]; simp only [List.length_nil]; omega), List.nil_append]
    have hjoin : numsOf a ++ [32] ++ numsOf b = numsOf (a ++ 32 :: b) := by simp [numsOf]
    have hread := read_f (a ++ 32 :: b) (by simp only [List.length_append, List.length_cons]; omega)
    by_cases h16 : (fieldsL b).length = 16
    · have hp := h4 h16
      have hle := hp.length_le
      have htake : (fieldsL (a ++ 32 :: b)).take st.length = st := (List.prefix_iff_eq_take.1 hp).symm
      refine Ev.step (fun k => ?_) (same_ev st (by omega))
      simp only [dragnetlaw08_FieldParts.l0]
      rw [if_neg (by omega), hcopy, Option.bind_some, if_pos (by rw [nums_len]; omega), Option.bind_some, if_pos (by simp only [List.length_append, nums_len, List.length_singleton]; omega), hjoin, hread, Option.bind_some, if_pos (by omega), if_pos (by omega), if_pos (by omega), if_pos (by omega), Int.toNat_natCast, htake, Option.bind_fun_some]
    · have hp := h3 (by omega)
      refine Ev.step (fun k => ?_) (same_ev st (by omega))
      simp only [dragnetlaw08_FieldParts.l0]
      rw [if_neg (by omega), hcopy, Option.bind_some, if_pos (by rw [nums_len]; omega), Option.bind_some, if_pos (by simp only [List.length_append, nums_len, List.length_singleton]; omega), hjoin, hread, Option.bind_some, if_neg (by omega), hp, Option.bind_fun_some]
  | d + 1, i, st, hi, hs, he => by
    have hlt : i < (fieldsL b).length := by omega
    have hb := fields_le b
    rw [List.drop_eq_getElem_cons hlt, List.foldl_cons] at he
    have ih := parts_loop a b ha d (i + 1) (addS st (fieldsL b)[i]) (by omega) (addS_le _ _ hs) he
    refine Ev.sb (at_ev st (fieldsL b)[i].f0 (by omega)) (F := ?F) (fun k => ?step) ?rest
    case step =>
      simp only [dragnetlaw08_FieldParts.l0]
      rw [if_pos (by omega), if_pos (by omega), rdT_get _ i hlt]
    case rest =>
      refine Ev.congr (fun k => ?_) ih
      rw [five_any, wrap_in (by omega) (by omega), show ((i : Int) + 1) = ((i + 1 : Nat) : Int) by omega]
      unfold addS
      cases h2 : st.any (fun z => decide (z.f0 = (fieldsL b)[i].f0)) with
      | true => rw [if_pos rfl, if_neg (fun e => by cases e.1)]
      | false =>
        rw [if_neg (by simp)]
        by_cases h16 : st.length < 16
        · rw [if_pos (by omega), if_pos (by omega), if_pos ⟨rfl, h16⟩]
        · rw [if_neg (by omega), if_neg (fun e => h16 e.2)]
theorem FieldParts : ∀ (x0 x1 : List Int), (∀ x ∈ x0, (fun n => (Lit.int .u8 n).wf = true) x) → (∀ x ∈ x1, (fun n => (Lit.int .u8 n).wf = true) x) → (Read.sumBulk (fun _ => 1) x0 + 1) + (Read.sumBulk (fun _ => 1) x1 + 1) ≤ 1048576 → ∃ k, dragnetlaw08_FieldParts.f k x0 x1 = some true := by
  intro l0 l1 wf0 wf1 hsum
  rw [Read.sum_one, Read.sum_one] at hsum
  obtain ⟨a, rfl, ha⟩ := nums_of_wf wf0
  obtain ⟨b, rfl, hb⟩ := nums_of_wf wf1
  obtain ⟨k1, h1⟩ := parts_loop a b (by omega) (fieldsL b).length 0 (fieldsL a) (by omega) (fields_le a) (by rw [List.drop_zero])
  obtain ⟨k2, h2⟩ := refRead_ev a (by omega)
  dsimp only at h1 h2
  refine ⟨k1 + k2, ?_⟩
  unfold dragnetlaw08_FieldParts.f
  rw [show dragnetlaw08_alive.f = some true from rfl, Option.bind_some, if_pos rfl, h2 _ (by omega), Option.bind_some, read_f b (by omega), Option.bind_some]
  exact h1 _ (by omega)
end Go.Proofs.YtdkgmiagjhcllaaDoor.Pure
end
