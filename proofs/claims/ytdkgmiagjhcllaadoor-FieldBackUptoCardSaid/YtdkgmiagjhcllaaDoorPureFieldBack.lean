/- Several texts in one: PureDec, PureEv, PureNumber, PureKey, PureOne, PureFive, PureSame8, LawFieldBack. -/
import Derived.Lib.AtoiAllCases
import Derived.Lib.ItoaMem
import Derived.Test.YtdkgmiagjhcllaaDoorWWords
import Derived.Test.YtdkgmiagjhcllaaDoorNumber
import Derived.Test.YtdkgmiagjhcllaaDoorDec
import Derived.Test.YtdkgmiagjhcllaaDoorP2
import Derived.Test.YtdkgmiagjhcllaaDoorRead0
import Derived.Lib.IndexMore
import Derived.Test.YtdkgmiagjhcllaaDoorBytes
import Derived.Test.YtdkgmiagjhcllaaDoorRead
import Derived.Lib.ItoaLen
import Derived.Test.YtdkgmiagjhcllaaDoorP9
section
namespace Go.Proofs.YtdkgmiagjhcllaaDoor.Pure
open Go Go.Lib
set_option linter.unusedVariables false
set_option linter.unusedSimpArgs false

def digB (b : UInt8) : Bool := decide (48 ≤ b.toNat) && decide (b.toNat ≤ 57)
theorem digB_iff {b : UInt8} : digB b = true ↔ 48 ≤ b.toNat ∧ b.toNat ≤ 57 := by unfold digB; simp
def valD (acc : Nat) (l : List UInt8) : Nat := l.foldl (fun a b => a * 10 + (b.toNat - 48)) acc
theorem valD_nil (acc : Nat) : valD acc [] = acc := rfl
theorem valD_cons (acc : Nat) (b : UInt8) (l : List UInt8) : valD acc (b :: l) = valD (acc * 10 + (b.toNat - 48)) l := by unfold valD; rw [List.foldl_cons]
theorem valD_snoc (acc : Nat) (l : List UInt8) (b : UInt8) : valD acc (l ++ [b]) = valD acc l * 10 + (b.toNat - 48) := by unfold valD; rw [List.foldl_append]; rfl
theorem valD_ge (l : List UInt8) : ∀ acc : Nat, acc ≤ valD acc l := by
  induction l with
  | nil => intro acc; exact Nat.le_refl _
  | cons b l ih =>
    intro acc
    have h := ih (acc * 10 + (b.toNat - 48))
    rw [valD_cons]
    omega
theorem all_two {c : UInt8} {r : List UInt8} (h : (c :: r).all digB = true) : digB c = true ∧ r.all digB = true := by
  rw [List.all_cons] at h
  exact Bool.and_eq_true_iff.1 h
theorem ofNat_dig {d : Nat} (h : d < 10) : (UInt8.ofNat (48 + d)).toNat = 48 + d := by rw [UInt8.toNat_ofNat']; omega
theorem dd_small {u : Nat} (h : u < 10) : decDigits u = [UInt8.ofNat (48 + u)] := by rw [decDigits, dif_pos h]
theorem dd_big {u : Nat} (h : ¬ u < 10) : decDigits u = decDigits (u / 10) ++ [UInt8.ofNat (48 + u % 10)] := by rw [decDigits, dif_neg h]
theorem dd_ind {P : Nat → Prop} (h1 : ∀ u, u < 10 → P u) (h2 : ∀ u, ¬ u < 10 → P (u / 10) → P u) (u : Nat) : P u := by
  induction u using Nat.strongRecOn with
  | _ u ih =>
    by_cases h : u < 10
    · exact h1 u h
    · exact h2 u h (ih (u / 10) (by omega))
theorem dd_all (u : Nat) : (decDigits u).all digB = true := by
  refine dd_ind (P := fun u => (decDigits u).all digB = true) (fun u h => ?_) (fun u h ih => ?_) u
  · rw [dd_small h]
    simp only [List.all_cons, List.all_nil, Bool.and_true]
    rw [digB_iff, ofNat_dig h]
    omega
  · rw [dd_big h, List.all_append, ih]
    simp only [List.all_cons, List.all_nil, Bool.and_true, Bool.true_and]
    rw [digB_iff, ofNat_dig (by omega)]
    omega
theorem dd_val (u : Nat) : valD 0 (decDigits u) = u := by
  refine dd_ind (P := fun u => valD 0 (decDigits u) = u) (fun u h => ?_) (fun u h ih => ?_) u
  · rw [dd_small h, valD_cons, valD_nil, ofNat_dig h]
    omega
  · rw [dd_big h, valD_snoc, ih, ofNat_dig (by omega)]
    omega
theorem dd_ne (u : Nat) : decDigits u ≠ [] := by
  by_cases h : u < 10
  · rw [dd_small h]; simp
  · rw [dd_big h]; simp
theorem dd_head (u : Nat) (h0 : 1 ≤ u) : ∃ c r, decDigits u = c :: r ∧ 49 ≤ c.toNat := by
  refine dd_ind (P := fun u => 1 ≤ u → ∃ c r, decDigits u = c :: r ∧ 49 ≤ c.toNat) (fun u h h0 => ?_) (fun u h ih h0 => ?_) u h0
  · exact ⟨_, [], dd_small h, by rw [ofNat_dig h]; omega⟩
  · obtain ⟨c, r, e, hc⟩ := ih (by omega)
    exact ⟨c, r ++ [UInt8.ofNat (48 + u % 10)], by rw [dd_big h, e]; rfl, hc⟩
theorem dd_len (k : Nat) : ∀ u, u < 10 ^ (k + 1) → (decDigits u).length ≤ k + 1 := by
  induction k with
  | zero => intro u h; rw [dd_small (by simpa using h)]; simp
  | succ k ih =>
    intro u h
    by_cases hu : u < 10
    · rw [dd_small hu]; simp
    · rw [dd_big hu, List.length_append]
      have := ih (u / 10) (by rw [Nat.pow_succ] at h; omega)
      simp only [List.length_singleton]
      omega
/-- Digits without a leading 0 are the numeral of their value. -/
theorem dd_of : ∀ (n : Nat) (l : List UInt8), l.length = n → l ≠ [] → l.all digB = true → (∀ c r, l = c :: r → c.toNat = 48 → r = []) → decDigits (valD 0 l) = l
  | 0, l, hn, hne, _, _ => absurd (List.length_eq_zero_iff.1 hn) hne
  | n + 1, l, hn, hne, hall, hz => by
    obtain ⟨xs, d, rfl⟩ : ∃ xs d, l = xs ++ [d] := ⟨l.dropLast, l.getLast hne, (List.dropLast_concat_getLast hne).symm⟩
    rw [List.all_append] at hall
    obtain ⟨hx, hd⟩ := Bool.and_eq_true_iff.1 hall
    simp only [List.all_cons, List.all_nil, Bool.and_true] at hd
    have hd2 := digB_iff.1 hd
    have hdd : UInt8.ofNat (48 + (d.toNat - 48)) = d := by
      rw [show 48 + (d.toNat - 48) = d.toNat by omega]
      exact UInt8.ofNat_toNat
    rw [valD_snoc]
    cases xs with
    | nil =>
      rw [valD_nil, dd_small (by omega), show 0 * 10 + (d.toNat - 48) = d.toNat - 48 by omega, hdd]
      rfl
    | cons c r =>
      have hc : c.toNat ≠ 48 := fun e => by
        have := hz c (r ++ [d]) rfl e
        simp at this
      have hcd := digB_iff.1 (all_two hx).1
      have hv : 1 ≤ valD 0 (c :: r) := by
        rw [valD_cons]
        have := valD_ge r (0 * 10 + (c.toNat - 48))
        omega
      have ih := dd_of n (c :: r) (by simp at hn ⊢; omega) (by simp) hx (fun c' r' e h48 => by cases e; exact absurd h48 hc)
      rw [dd_big (by omega), show (valD 0 (c :: r) * 10 + (d.toNat - 48)) / 10 = valD 0 (c :: r) by omega, show (valD 0 (c :: r) * 10 + (d.toNat - 48)) % 10 = d.toNat - 48 by omega, hdd, ih]
theorem parse_val : ∀ (l : List UInt8) (acc : Nat), l.all digB = true → valD acc l < 18446744073709551616 → parseUint10 acc l = .ok (valD acc l)
  | [], acc, _, _ => rfl
  | c :: r, acc, h, hv => by
    obtain ⟨hc, hr⟩ := all_two h
    have hcd := digB_iff.1 hc
    rw [valD_cons] at hv ⊢
    have := valD_ge r (acc * 10 + (c.toNat - 48))
    rw [parseUint10, if_pos hcd, if_neg (by omega), if_neg (by omega)]
    exact parse_val r _ hr hv
theorem parseMag_dd (u : Nat) (h : u < 18446744073709551616) : parseMag (decDigits u) = .ok u := by
  unfold parseMag
  rw [if_neg (dd_ne u), parse_val _ _ (dd_all u) (by rw [dd_val]; exact h), dd_val]
/-- What is written is read again. -/
theorem atoi_itoa (v : Int) (h0 : -9223372036854775808 ≤ v) (h1 : v ≤ 9223372036854775807) : atoiAll (itoa v) = .ok v := by
  unfold itoa
  by_cases hv : v < 0
  · rw [if_pos hv, atoiAll_minus, parseMag_dd _ (by omega)]
    simp only [signed]
    rw [if_neg (by omega)]
    congr 1
    omega
  · rw [if_neg hv]
    have hn : ∃ c r, decDigits v.toNat = c :: r ∧ digB c = true := by
      cases e : decDigits v.toNat with
      | nil => exact absurd e (dd_ne _)
      | cons c r =>
        have := dd_all v.toNat
        rw [e] at this
        exact ⟨c, r, rfl, (all_two this).1⟩
    obtain ⟨c, r, e, hc⟩ := hn
    have hcd := digB_iff.1 hc
    have hm := parseMag_dd v.toNat (by omega)
    rw [e] at hm ⊢
    rw [atoiAll_plain c r (by omega) (by omega), hm]
    simp only [signless]
    rw [if_neg (by omega)]
    congr 1
    omega
/-- What the document reads of a text. -/
def refMag (least : Bool) (ds : List UInt8) : Int × Bool :=
  if ds.length < 1 ∨ 19 < ds.length ∨ (ds.head?.map (·.toNat) = some 48 ∧ (1 < ds.length ∨ least = true)) then (0, false)
  else if ds.all digB = true then
    (if least = true then (if 9223372036854775808 < valD 0 ds then (0, false) else (-(valD 0 ds : Int), true)) else (if 9223372036854775807 < valD 0 ds then (0, false) else ((valD 0 ds : Int), true)))
  else (0, false)
def refNum (t : List UInt8) : Int × Bool :=
  match t with
  | [] => refMag false []
  | c :: r => if c.toNat = 45 then refMag true r else refMag false (c :: r)
theorem refMag_no {least : Bool} {ds : List UInt8} {x : Int} (h : refMag least ds = (x, false)) : x = 0 := by
  unfold refMag at h
  repeat' split at h
  all_goals first | (cases h; rfl) | (injection h with h1 h2; cases h2)
theorem refMag_yes {least : Bool} {ds : List UInt8} {x : Int} (h : refMag least ds = (x, true)) : decDigits (valD 0 ds) = ds ∧ x = (if least = true then -(valD 0 ds : Int) else (valD 0 ds : Int)) ∧ valD 0 ds ≤ 9223372036854775808 ∧ (least = false → valD 0 ds ≤ 9223372036854775807) ∧ (least = true → 1 ≤ valD 0 ds) := by
  unfold refMag at h
  split at h
  · injection h with _ h2; cases h2
  · rename_i hg
    simp only [not_or, not_and] at hg
    obtain ⟨g1, g2, g3⟩ := hg
    split at h
    case isFalse => injection h with _ h2; cases h2
    case isTrue hall =>
      have hne : ds ≠ [] := fun e => by subst e; simp at g1
      have hdd := dd_of ds.length ds rfl hne hall (fun c r e h48 => by
        subst e
        have := g3 (by simp [h48])
        cases r with
        | nil => rfl
        | cons _ _ => simp at this)
      have hz : least = true → 1 ≤ valD 0 ds := fun hl => by
        cases ds with
        | nil => exact absurd rfl hne
        | cons c r =>
          have hc : c.toNat ≠ 48 := fun e => by
            have := g3 (by simp [e])
            exact this.2 hl
          have hcd := digB_iff.1 (all_two hall).1
          rw [valD_cons]
          have := valD_ge r (0 * 10 + (c.toNat - 48))
          omega
      cases least with
      | true =>
        simp only [if_true] at h
        split at h
        · injection h with _ h2; cases h2
        · injection h with h1 _
          exact ⟨hdd, h1.symm, by omega, (fun e => by cases e), hz⟩
      | false =>
        simp only [Bool.false_eq_true, if_false] at h
        split at h
        · injection h with _ h2; cases h2
        · injection h with h1 _
          exact ⟨hdd, h1.symm, by omega, (fun _ => by omega), hz⟩
/-- What the document reads as a number is that number's text. -/
theorem refNum_yes {t : List UInt8} {x : Int} (h : refNum t = (x, true)) : t = itoa x ∧ -9223372036854775808 ≤ x ∧ x ≤ 9223372036854775807 := by
  unfold refNum at h
  split at h
  · obtain ⟨_, _, _, _, _⟩ := refMag_yes h
    simp [refMag] at h
  · rename_i c r
    split at h
    · rename_i hc
      obtain ⟨h1, h2, h3, _, h5⟩ := refMag_yes h
      simp only [if_true] at h2
      have h6 := h5 rfl
      refine ⟨?_, by omega, by omega⟩
      rw [h2, itoa_neg _ h6, h1]
      congr 1
      exact UInt8.toNat_inj.1 hc
    · obtain ⟨h1, h2, _, h4, _⟩ := refMag_yes h
      simp only [Bool.false_eq_true, if_false] at h2
      have h6 := h4 rfl
      refine ⟨?_, by omega, by omega⟩
      rw [h2, itoa_nonneg, h1]
theorem refMag_dd (least : Bool) (u : Nat) (h : u ≤ 9223372036854775808) (h1 : least = false → u ≤ 9223372036854775807) (h2 : least = true → 1 ≤ u) : refMag least (decDigits u) = (if least = true then -(u : Int) else (u : Int), true) := by
  unfold refMag
  have hl := dd_len 18 u (by omega)
  have hne : 1 ≤ (decDigits u).length := by
    have := dd_ne u
    cases e : decDigits u with
    | nil => exact absurd e this
    | cons _ _ => simp
  have hh : ¬ ((decDigits u).head?.map (·.toNat) = some 48 ∧ (1 < (decDigits u).length ∨ least = true)) := by
    rintro ⟨e1, e2⟩
    by_cases hu : 1 ≤ u
    · obtain ⟨c, r, e, hc⟩ := dd_head u hu
      rw [e] at e1
      simp at e1
      omega
    · obtain rfl : u = 0 := by omega
      rcases e2 with e2 | e2
      · rw [dd_small (by omega)] at e2
        simp at e2
      · have := h2 e2
        omega
  rw [if_neg (by
    rintro (e | e | e)
    · omega
    · omega
    · exact hh e), if_pos (dd_all u), dd_val]
  cases least with
  | true => simp only [if_true]; rw [if_neg (by omega)]
  | false => have := h1 rfl; simp only [Bool.false_eq_true, if_false]; rw [if_neg (by omega)]
theorem refNum_itoa (v : Int) (h0 : -9223372036854775808 ≤ v) (h1 : v ≤ 9223372036854775807) : refNum (itoa v) = (v, true) := by
  unfold itoa
  by_cases hv : v < 0
  · rw [if_pos hv]
    show (if (45 : UInt8).toNat = 45 then refMag true (decDigits v.natAbs) else refMag false (45 :: decDigits v.natAbs)) = _
    rw [if_pos (by decide), refMag_dd true v.natAbs (by omega) (fun e => by cases e) (fun _ => by omega)]
    simp only [if_true]
    congr 1
    omega
  · rw [if_neg hv]
    cases e : decDigits v.toNat with
    | nil => exact absurd e (dd_ne _)
    | cons c r =>
      have ha := dd_all v.toNat
      rw [e] at ha
      have hcd := digB_iff.1 (all_two ha).1
      show (if c.toNat = 45 then refMag true r else refMag false (c :: r)) = _
      rw [if_neg (by omega), ← e, refMag_dd false v.toNat (by omega) (fun _ => by omega) (fun e => by cases e)]
      simp only [Bool.false_eq_true, if_false]
      congr 1
      omega
end Go.Proofs.YtdkgmiagjhcllaaDoor.Pure
end
section
namespace Go.Proofs.YtdkgmiagjhcllaaDoor.Pure
open Go Go.RowKit Go.Proofs.YtdkgmiagjhcllaaDoorW.PrintWords
theorem Ev.call {α β : Type} {g f : Nat → Option β} {c : Nat → Option α} {a : α} {r : β} (hc : Ev c a) (hk : Ev f r) (h : ∀ k, c k = some a → g (k + 1) = f k) : Ev g r := by
  obtain ⟨K, hc⟩ := hc
  obtain ⟨K', hk⟩ := hk
  refine ⟨max K K' + 1, fun n hn => ?_⟩
  obtain ⟨m, rfl⟩ : ∃ m, n = m + 1 := ⟨n - 1, by omega⟩
  rw [h m (hc m (by omega))]
  exact hk m (by omega)
theorem Ev.call0 {α β : Type} {g f : Nat → Option β} {c : Nat → Option α} {a : α} {r : β} (hc : Ev c a) (hk : Ev f r) (h : ∀ k, c k = some a → g k = f k) : Ev g r := by
  obtain ⟨K, hc⟩ := hc
  obtain ⟨K', hk⟩ := hk
  refine ⟨max K K', fun n hn => ?_⟩
  rw [h n (hc n (by omega))]
  exact hk n (by omega)
theorem Ev.sb {α β : Type} {g : Nat → Option β} {c : Nat → Option α} {F : Nat → α → Option β} {a : α} {r : β} (hc : Ev c a) (h : ∀ k, g (k + 1) = (c k).bind (F k)) (hk : Ev (fun n => F n a) r) : Ev g r := Ev.step h (Ev.bind hc hk)
theorem Ev.cb {α β : Type} {g : Nat → Option β} {c : Nat → Option α} {F : Nat → α → Option β} {a : α} {r : β} (hc : Ev c a) (h : ∀ k, g k = (c k).bind (F k)) (hk : Ev (fun n => F n a) r) : Ev g r := Ev.congr h (Ev.bind hc hk)
theorem wrap_in {x : Int} (h0 : -9223372036854775808 ≤ x) (h1 : x ≤ 9223372036854775807) : wrap64 x = x := by unfold wrap64; omega
end Go.Proofs.YtdkgmiagjhcllaaDoor.Pure
end
section
namespace Go.Proofs.YtdkgmiagjhcllaaDoor.Pure
open Go Go.RowKit Go.Proofs.YtdkgmiagjhcllaaDoorW.PrintWords Go.Proofs.YtdkgmiagjhcllaaDoorW.PrintLast Go.Proofs.YtdkgmiagjhcllaaDoor.P
set_option linter.unusedVariables false
set_option linter.unusedSimpArgs false

theorem u64_in {x : Int} (h0 : 0 ≤ x) (h1 : x ≤ 18446744073709551615) : IntKind.u64.wrap x = x := by
  simp [IntKind.wrap, IntKind.bits, IntKind.signed]
  omega
theorem text_eq {s t : ByteArray} (h : s.data.toList = t.data.toList) : s = t := ByteArray.ext (Array.toList_inj.1 h)
theorem bt_list (s : ByteArray) (i : Nat) (h : i < s.size) : bt s (i : Int) = ((s.data.toList[i]'(by rw [Lib.size_eq] at h; exact h)).toNat : Int) := by
  unfold bt
  rw [dif_pos (by simpa using h)]
  have := Lib.data_getElem? s i h
  simp only [Int.toNat_natCast]
  rw [List.getElem?_eq_getElem (by rw [← Lib.size_eq]; exact h)] at this
  exact congrArg (fun b : UInt8 => ((b.toNat : Nat) : Int)) (Option.some.inj this).symm
/-- The program's reading is the document's. -/
theorem number_f (t : ByteArray) (ht : t.size ≤ 281474976710656) : field_Number.f t = some (refNum t.data.toList) := by
  unfold field_Number.f
  rw [if_pos ht]
  obtain ⟨x, b, hr⟩ : ∃ x b, refNum t.data.toList = (x, b) := ⟨_, _, rfl⟩
  cases b with
  | true =>
    obtain ⟨e, h0, h1⟩ := refNum_yes hr
    rw [hr, e, atoi_itoa x h0 h1]
    dsimp only
    unfold strconv_Itoa.f
    rw [if_pos ⟨h0, h1⟩, Option.bind_some, if_pos]
    exact text_eq e.symm
  | false =>
    have hx : x = 0 := by
      unfold refNum at hr
      repeat' split at hr
      all_goals exact refMag_no hr
    subst hx
    rw [hr]
    cases ha : Lib.atoiAll t.data.toList with
    | ok v =>
      obtain ⟨h0, h1⟩ := Lib.atoiAll_bounds ha
      dsimp only
      unfold strconv_Itoa.f
      rw [if_pos ⟨h0, h1⟩, Option.bind_some, if_neg]
      intro e
      rw [← e] at hr
      have := refNum_itoa v h0 h1
      rw [show ((⟨(Lib.itoa v).toArray⟩ : ByteArray)).data.toList = Lib.itoa v from rfl, this] at hr
      injection hr with _ h2
      cases h2
    | range => rfl
    | _ => rfl
end Go.Proofs.YtdkgmiagjhcllaaDoor.Pure
end
section
namespace Go.Proofs.YtdkgmiagjhcllaaDoor.Pure
open Go Go.RowKit Go.Proofs.YtdkgmiagjhcllaaDoorW.PrintWords Go.Proofs.YtdkgmiagjhcllaaDoorW.PrintLast Go.Proofs.YtdkgmiagjhcllaaDoorW.PrintMore Go.Proofs.YtdkgmiagjhcllaaDoor.P
set_option linter.unusedVariables false
set_option linter.unusedSimpArgs false

def inK (c : Int) : Bool := decide (97 ≤ c ∧ c ≤ 122) || decide (65 ≤ c ∧ c ≤ 90) || decide (48 ≤ c ∧ c ≤ 57) || decide (c = 95) || decide (c = 46) || decide (c = 45)
theorem inK_true {c : Int} : inK c = true ↔ (97 ≤ c ∧ c ≤ 122) ∨ (65 ≤ c ∧ c ≤ 90) ∨ (48 ≤ c ∧ c ≤ 57) ∨ c = 95 ∨ c = 46 ∨ c = 45 := by
  unfold inK
  simp only [Bool.or_eq_true, decide_eq_true_eq]
  omega
theorem inKey_f (k : Nat) (c : Int) : field_inKey.f (k + 2) c = some (inK c) := by
  have h : field_inKey.f (k + 2) c = some true ∧ inK c = true ∨ field_inKey.f (k + 2) c = some false ∧ ¬ inK c = true := by
    rw [inK_true]
    simp only [field_inKey.f, field_inKey.j0, field_inKey.j1, decide_eq_true_eq]
    repeat' split
    all_goals first | (left; exact ⟨rfl, by omega⟩) | (right; exact ⟨rfl, by omega⟩) | skip
    all_goals (by_cases e : c = 45 <;> simp_all <;> omega)
  rcases h with ⟨h1, h2⟩ | ⟨h1, h2⟩
  · rw [h1, h2]
  · rw [h1, Bool.eq_false_iff.mpr h2]
/-- All bytes from place i on may stand in a key. -/
def keyFrom (s : ByteArray) (i : Nat) : Bool := (List.range' i (s.size - i)).all fun (j : Nat) => inK (bt s (j : Int))
def keyB (s : ByteArray) : Bool := keyFrom s 0 && decide (1 ≤ s.size ∧ s.size ≤ 32)
theorem keyFrom_end (s : ByteArray) : keyFrom s s.size = true := by unfold keyFrom; rw [Nat.sub_self]; rfl
theorem keyFrom_step (s : ByteArray) (i : Nat) (h : i < s.size) : keyFrom s i = (inK (bt s (i : Int)) && keyFrom s (i + 1)) := by
  unfold keyFrom
  obtain ⟨d, hd⟩ : ∃ d, s.size - i = d + 1 := ⟨s.size - i - 1, by omega⟩
  rw [hd, show s.size - (i + 1) = d by omega, List.range'_succ, List.all_cons]
theorem isKey_loop (s : ByteArray) (hs : s.size ≤ 9223372036854775807) : ∀ (d i k : Nat), i + d = s.size → d + 3 ≤ k → field_IsKey.l0 k s (s.size : Int) (i : Int) = some (keyFrom s i && decide (1 ≤ s.size ∧ s.size ≤ 32))
  | 0, i, k, hi, hk => by
    obtain rfl : i = s.size := by omega
    obtain ⟨k, rfl⟩ : ∃ m, k = m + 1 := ⟨k - 1, by omega⟩
    rw [keyFrom_end, Bool.true_and]
    simp only [field_IsKey.l0]
    rw [if_neg (by omega)]
    by_cases h0 : (s.size : Int) > 0
    · rw [if_pos h0]
      congr 1
      exact decide_eq_decide.2 (by omega)
    · rw [if_neg h0]
      congr 1
      exact (decide_eq_false (by omega)).symm
  | d + 1, i, k, hi, hk => by
    obtain ⟨m, rfl⟩ : ∃ m, k = (m + 2) + 1 := ⟨k - 3, by omega⟩
    have ih := isKey_loop s hs d (i + 1) (m + 2) (by omega) (by omega)
    rw [keyFrom_step s i (by omega)]
    cases hc : inK (bt s (i : Int)) with
    | false =>
      simp only [field_IsKey.l0]
      rw [if_pos (by omega), if_pos (by omega), if_pos (by omega), inKey_f, hc]
      rfl
    | true =>
      rw [Bool.true_and]
      simp only [field_IsKey.l0]
      rw [if_pos (by omega), if_pos (by omega), if_pos (by omega), inKey_f, hc, Option.bind_some, if_pos rfl, wrap_in (by omega) (by omega), show ((i : Int) + 1) = ((i + 1 : Nat) : Int) by omega]
      exact ih
theorem isKey_f (s : ByteArray) (hs : s.size ≤ 9223372036854775807) (k : Nat) (hk : s.size + 3 ≤ k) : field_IsKey.f k s = some (keyB s) := isKey_loop s hs s.size 0 k (by omega) hk
theorem isKey_ev (s : ByteArray) (hs : s.size ≤ 9223372036854775807) : Ev (fun k => field_IsKey.f k s) (keyB s) := ⟨s.size + 3, fun k hk => isKey_f s hs k hk⟩
end Go.Proofs.YtdkgmiagjhcllaaDoor.Pure
end
section
namespace Go.Proofs.YtdkgmiagjhcllaaDoor.Pure
open Go Go.RowKit Go.Proofs.YtdkgmiagjhcllaaDoorW.PrintWords Go.Proofs.YtdkgmiagjhcllaaDoorW.PrintLast Go.Proofs.YtdkgmiagjhcllaaDoorW.PrintMore Go.Proofs.YtdkgmiagjhcllaaDoor.P
set_option linter.unusedVariables false
set_option linter.unusedSimpArgs false

def noEq (c : UInt8) : Bool := c != 61
def eqPos (l : List UInt8) : Nat := (l.takeWhile noEq).length
theorem index_eq : ∀ l : List UInt8, Lib.index l [61] = if eqPos l < l.length then (eqPos l : Int) else -1
  | [] => rfl
  | b :: l => by
    have ih := index_eq l
    unfold Lib.index
    by_cases hb : b = 61
    · subst hb
      rw [if_pos (by simp [List.isPrefixOf])]
      simp [eqPos, List.takeWhile, noEq]
    · have hn : noEq b = true := by simp [noEq, hb]
      have he : eqPos (b :: l) = eqPos l + 1 := by simp [eqPos, List.takeWhile, hn]
      rw [if_neg (by simp [List.isPrefixOf]; exact fun e => hb e.symm), ih, he, List.length_cons]
      by_cases h : eqPos l < l.length
      · rw [if_pos h, if_neg (by simp), if_pos (by omega)]
        omega
      · rw [if_neg h, if_pos (by decide), if_neg (by omega)]
theorem cut_eq (l : List UInt8) : Lib.cut l [61] = if eqPos l < l.length then (l.take (eqPos l), l.drop (eqPos l + 1), true) else (l, [], false) := by
  unfold Lib.cut
  rw [index_eq]
  by_cases h : eqPos l < l.length
  · rw [if_pos h, if_pos (by omega), if_pos h]
    simp
  · rw [if_neg h, if_neg (by omega), if_neg h]
def bA (l : List UInt8) : ByteArray := ⟨l.toArray⟩
theorem bA_list (l : List UInt8) : (bA l).data.toList = l := rfl
theorem bA_size (l : List UInt8) : (bA l).size = l.length := by rw [Lib.size_eq]; rfl
theorem bA_of (x : ByteArray) : bA x.data.toList = x := rfl
/-- The field of a word, and whether it is one. -/
def oneS (l : List UInt8) : S28 × Bool :=
  if eqPos l < l.length then
    if (refNum (l.drop (eqPos l + 1))).2 = true then (⟨bA (l.take (eqPos l)), 1, (refNum (l.drop (eqPos l + 1))).1, ⟨#[]⟩⟩, keyB (bA (l.take (eqPos l))))
    else (⟨bA (l.take (eqPos l)), 2, 0, bA (l.drop (eqPos l + 1))⟩, keyB (bA (l.take (eqPos l))) && decide ((l.drop (eqPos l + 1)).length ≤ 64))
  else (z28, false)
def oneF (l : List UInt8) : S28 × Bool := if eqPos l < l.length ∧ keyB (bA (l.take (eqPos l))) = true then oneS l else (z28, false)
theorem oneF_snd (l : List UInt8) : (oneF l).2 = (oneS l).2 := by
  unfold oneF
  by_cases h : eqPos l < l.length ∧ keyB (bA (l.take (eqPos l))) = true
  · rw [if_pos h]
  · rw [if_neg h]
    unfold oneS
    by_cases h1 : eqPos l < l.length
    · have h2 : keyB (bA (l.take (eqPos l))) = false := Bool.eq_false_iff.2 fun e => h ⟨h1, e⟩
      rw [if_pos h1, h2]
      split <;> rfl
    · rw [if_neg h1]
theorem oneF_fst {l : List UInt8} (h : (oneS l).2 = true) : oneF l = oneS l := by
  unfold oneF
  rw [if_pos]
  unfold oneS at h
  by_cases h1 : eqPos l < l.length
  · rw [if_pos h1] at h
    refine ⟨h1, ?_⟩
    split at h
    · exact h
    · exact (Bool.and_eq_true_iff.1 h).1
  · rw [if_neg h1] at h
    cases h
theorem one_f (x : ByteArray) (hx : x.size < 4294967281) : field_one.f (x.size + 8) x = some ((oneF x.data.toList).1.f0, (oneF x.data.toList).1.f1, (oneF x.data.toList).1.f2, (oneF x.data.toList).1.f3, (oneF x.data.toList).2) := by
  have hl : x.data.toList.length = x.size := (Lib.size_eq x).symm
  unfold field_one.f strings_Cut.f
  rw [if_pos hx, Option.bind_some, show ((⟨#[61]⟩ : ByteArray)).data.toList = [61] from rfl, cut_eq]
  generalize x.data.toList = l at hl ⊢
  by_cases h : eqPos l < l.length
  · rw [if_pos h]
    dsimp only
    rw [if_pos rfl]
    show (field_IsKey.f (x.size + 8) (bA (l.take (eqPos l)))).bind _ = _
    have hks : (bA (l.take (eqPos l))).size ≤ x.size := by rw [bA_size, List.length_take]; omega
    rw [isKey_f _ (by omega) _ (by omega), Option.bind_some]
    show field_one.j0 ((x.size + 7) + 1) _ (bA (l.drop (eqPos l + 1))) _ = _
    unfold oneF oneS
    rw [if_pos h]
    simp only [field_one.j0]
    cases hk : keyB (bA (l.take (eqPos l))) with
    | false =>
      rw [if_pos (show (!false) = true from rfl), if_neg (fun e => by cases e.2)]
      rfl
    | true =>
      rw [if_neg (show ¬ (!true) = true by decide), if_pos ⟨h, rfl⟩, number_f _ (by rw [bA_size, List.length_drop]; omega), Option.bind_some, bA_list]
      simp only [Bool.not_true, Bool.false_eq_true, if_false, Bool.true_and]
      by_cases hn : (refNum (l.drop (eqPos l + 1))).2 = true
      · rw [if_pos hn, if_pos hn]
        rfl
      · rw [if_neg hn, if_neg hn]
        dsimp only
        rw [bA_size]
        congr 5
        exact decide_eq_decide.2 (by omega)
  · rw [if_neg h]
    dsimp only
    rw [if_neg (by simp)]
    unfold oneF
    rw [if_neg (fun e => h e.1)]
    rfl
theorem oneT_eq (x : ByteArray) (hx : x.size < 4294967281) : oneT x = oneF x.data.toList := by
  unfold oneT
  rw [one_f x hx]
theorem okWord_of (x : ByteArray) (hx : x.size < 4294967281) : okWord x = true := by
  unfold okWord
  rw [one_f x hx]
  rfl
/-- A field more, or not, by the document. -/
def rdS (st : List S28) (x : ByteArray) : List S28 :=
  if st.length < 16 ∧ (oneS x.data.toList).2 = true ∧ st.any (fun y => decide (y.f0 = (oneS x.data.toList).1.f0)) = false then st ++ [(oneS x.data.toList).1] else st
theorem rdStep_eq (st : List S28) (x : ByteArray) (hs : st.length ≤ 16) (hx : x.size < 4294967281) : rdStep st x = rdS st x := by
  unfold rdStep rdS
  rw [oneT_eq x hx, oneF_snd]
  by_cases h16 : st.length = 16
  · rw [if_pos h16, if_neg (fun e => by omega)]
  · rw [if_neg h16]
    cases h1 : (oneS x.data.toList).2 with
    | false => rw [if_pos (Or.inl rfl), if_neg (fun e => by cases e.2.1)]
    | true =>
      rw [oneF_fst h1]
      cases h2 : st.any (fun y => decide (y.f0 = (oneS x.data.toList).1.f0)) with
      | true => rw [if_pos (Or.inr rfl), if_neg (fun e => by cases e.2.2)]
      | false => rw [if_neg (by simp), if_pos ⟨by omega, rfl, rfl⟩]
theorem rdS_le (st : List S28) (x : ByteArray) (hs : st.length ≤ 16) : (rdS st x).length ≤ 16 := by
  unfold rdS
  split
  · rename_i h
    simp only [List.length_append, List.length_singleton]
    omega
  · exact hs
theorem rdFold_eq : ∀ (ws : List ByteArray) (st : List S28), st.length ≤ 16 → (∀ x ∈ ws, x.size < 4294967281) → ws.foldl rdStep st = ws.foldl rdS st
  | [], _, _, _ => rfl
  | x :: ws, st, hs, hw => by
    rw [List.foldl_cons, List.foldl_cons, rdStep_eq st x hs (hw x List.mem_cons_self)]
    exact rdFold_eq ws _ (rdS_le st x hs) (fun y hy => hw y (List.mem_cons_of_mem _ hy))
/-- The words of a line are no longer than the line. -/
theorem words_size : ∀ (f : Nat) (l : List UInt8), ∀ x ∈ wordsF f l, x.size ≤ l.length
  | 0, _, x, hx => by simp [wordsF] at hx
  | f + 1, l, x, hx => by
    rw [wordsF] at hx
    split at hx
    · simp at hx
    · have h1 := take_drop nB (l.dropWhile isB)
      have h2 := dropWhile_le isB l
      rcases List.mem_cons.1 hx with rfl | hx
      · rw [show (⟨((l.dropWhile isB).takeWhile nB).toArray⟩ : ByteArray) = bA ((l.dropWhile isB).takeWhile nB) from rfl, bA_size]
        omega
      · have := words_size f _ x hx
        omega
/-- The fields of a line. -/
def fieldsL (l : List UInt8) : List S28 := (wordsL l).foldl rdS []
def numsOf (l : List UInt8) : List Int := l.map fun b => (b.toNat : Int)
theorem numsOf_byte (l : List UInt8) : (numsOf l).all byteB = true := by
  rw [List.all_eq_true]
  intro x hx
  obtain ⟨b, _, rfl⟩ := List.mem_map.1 hx
  have := UInt8.toNat_lt b
  simp only [byteB, Bool.and_eq_true, decide_eq_true_eq]
  omega
theorem bytesOf_numsOf (l : List UInt8) : Lib.bytesOf (numsOf l) = l := by
  induction l with
  | nil => rfl
  | cons b l ih =>
    simp only [Lib.bytesOf, numsOf, List.map_cons, List.map_map] at *
    rw [ih]
    simp
theorem numsOf_bytesOf : ∀ {l : List Int}, (∀ x ∈ l, 0 ≤ x ∧ x < 256) → numsOf (Lib.bytesOf l) = l
  | [], _ => rfl
  | x :: l, h => by
    have hx := h x List.mem_cons_self
    have ih := numsOf_bytesOf (l := l) fun y hy => h y (List.mem_cons_of_mem _ hy)
    simp only [Lib.bytesOf, numsOf, List.map_cons, List.map_map] at *
    rw [ih]
    congr 1
    rw [UInt8.toNat_ofNat']
    omega
theorem read_f (l : List UInt8) (hl : l.length < 4294967281) : field_Read.f (numsOf l) = some (fieldsL l) := by
  unfold field_Read.f
  have hw : ∀ x ∈ wordsL l, x.size < 4294967281 := fun x hx => Nat.lt_of_le_of_lt (words_size _ _ x hx) hl
  rw [bytesOf_numsOf, if_pos ⟨numsOf_byte l, List.all_eq_true.2 fun x hx => okWord_of x (hw x hx)⟩]
  congr 1
  exact rdFold_eq _ _ (by simp) hw
theorem fields_le (l : List UInt8) : (fieldsL l).length ≤ 16 := by
  unfold fieldsL
  have h : ∀ (ws : List ByteArray) (st : List S28), st.length ≤ 16 → (ws.foldl rdS st).length ≤ 16 := by
    intro ws
    induction ws with
    | nil => intro st h; exact h
    | cons x ws ih => intro st h; exact ih _ (rdS_le st x h)
  exact h _ _ (by simp)
theorem nums_of_wf {l : List Int} (h : ∀ x ∈ l, (fun n => (Lit.int .u8 n).wf = true) x) : ∃ b : List UInt8, l = numsOf b ∧ b.length = l.length := by
  refine ⟨Lib.bytesOf l, (numsOf_bytesOf fun x hx => ?_).symm, by simp [Lib.bytesOf]⟩
  have e1 : IntKind.u8.min = 0 := rfl
  have e2 : IntKind.u8.max = 255 := rfl
  have := h x hx
  simp only [Lit.wf, Bool.and_eq_true, decide_eq_true_eq, e1, e2] at this
  omega
end Go.Proofs.YtdkgmiagjhcllaaDoor.Pure
end
section
namespace Go.Proofs.YtdkgmiagjhcllaaDoor.Pure
open Go Go.RowKit Go.Proofs.YtdkgmiagjhcllaaDoorW.PrintWords Go.Proofs.YtdkgmiagjhcllaaDoorW.PrintLast Go.Proofs.YtdkgmiagjhcllaaDoorW.PrintMore Go.Proofs.YtdkgmiagjhcllaaDoor.P
set_option linter.unusedVariables false
set_option linter.unusedSimpArgs false

def keyIs (key : ByteArray) (y : S28) : Bool := decide (y.f0 = key)
def fiveOf : Option S28 → ByteArray × Int × Int × ByteArray × Bool
  | some y => (y.f0, y.f1, y.f2, y.f3, true)
  | none => (⟨#[]⟩, 0, 0, ⟨#[]⟩, false)
theorem fiveOf_found (o : Option S28) : (fiveOf o).2.2.2.2 = o.isSome := by cases o <;> rfl
theorem found_any (l : List S28) (key : ByteArray) : (l.find? (keyIs key)).isSome = l.any (fun y => decide (y.f0 = key)) := by
  rw [Bool.eq_iff_iff, List.find?_isSome]
  simp [keyIs]
theorem toList_iff (s t : ByteArray) : s.toList = t.toList ↔ s = t := by
  rw [Lib.toList_data, Lib.toList_data]
  exact ⟨fun h => ByteArray.ext (Array.toList_inj.1 h), fun h => by rw [h]⟩
theorem rdT_get (l : List S28) (i : Nat) (h : i < l.length) : rd_T28 l (i : Int) = l[i] := by
  unfold rd_T28
  rw [Int.toNat_natCast, List.getD_eq_getElem?_getD, List.getElem?_eq_getElem h, Option.getD_some]
end Go.Proofs.YtdkgmiagjhcllaaDoor.Pure
end
section
namespace Go.Proofs.YtdkgmiagjhcllaaDoor.Pure
open Go Go.RowKit Go.Proofs.YtdkgmiagjhcllaaDoorW.PrintWords Go.Proofs.YtdkgmiagjhcllaaDoorW.PrintLast Go.Proofs.YtdkgmiagjhcllaaDoorW.PrintMore Go.Proofs.YtdkgmiagjhcllaaDoor.P
set_option linter.unusedVariables false
set_option linter.unusedSimpArgs false

theorem same_loop (l : List S28) (hl : l.length ≤ 1000000) : ∀ (d i : Nat), i + d = l.length → Ev (fun k => dragnetref08_Same.l0 k l l (i : Int)) true
  | 0, i, hi => by
    refine Ev.step (f := fun _ => some true) (fun k => ?_) (Ev.now _)
    simp only [dragnetref08_Same.l0]
    rw [if_neg (by omega)]
  | d + 1, i, hi => by
    refine Ev.step (fun k => ?_) (same_loop l hl d (i + 1) (by omega))
    simp only [dragnetref08_Same.l0]
    rw [if_pos (by omega), if_pos (by omega), if_pos (by omega), if_neg (by simp), wrap_in (by omega) (by omega), show ((i : Int) + 1) = ((i + 1 : Nat) : Int) by omega]
theorem same_ev (l : List S28) (hl : l.length ≤ 1000000) : Ev (fun k => dragnetref08_Same.f k l l) true := by
  refine Ev.congr (fun k => ?_) (same_loop l hl l.length 0 (by omega))
  unfold dragnetref08_Same.f
  rw [if_pos rfl]
  rfl
end Go.Proofs.YtdkgmiagjhcllaaDoor.Pure
end
section
namespace Go.Proofs.YtdkgmiagjhcllaaDoor.Pure
open Go Go.RowKit Go.Proofs.YtdkgmiagjhcllaaDoorW.PrintWords Go.Proofs.YtdkgmiagjhcllaaDoorW.PrintLast Go.Proofs.YtdkgmiagjhcllaaDoorW.PrintMore Go.Proofs.YtdkgmiagjhcllaaDoor.P
set_option linter.unusedVariables false
set_option linter.unusedSimpArgs false

theorem bytesOf_nums (s : ByteArray) : bytesOf s = numsOf s.data.toList := rfl
theorem eqPos_key (k r : List UInt8) (h : ∀ c ∈ k, c ≠ 61) : eqPos (k ++ 61 :: r) = k.length := by
  unfold eqPos
  induction k with
  | nil => simp [List.takeWhile, noEq]
  | cons c k ih =>
    have hc : noEq c = true := by simp [noEq, h c List.mem_cons_self]
    rw [List.cons_append, List.takeWhile_cons, hc]
    simp only [if_true, List.length_cons]
    rw [ih fun d hd => h d (List.mem_cons_of_mem _ hd)]
theorem key_bytes {s : ByteArray} (h : keyB s = true) : ∀ c ∈ s.data.toList, inK (c.toNat : Int) = true := by
  intro c hc
  obtain ⟨i, hi, rfl⟩ := List.mem_iff_getElem.1 hc
  have hs : i < s.size := by rw [Lib.size_eq]; exact hi
  unfold keyB keyFrom at h
  have h1 := List.all_eq_true.1 (Bool.and_eq_true_iff.1 h).1 i (by rw [List.mem_range']; exact ⟨i, by omega, by omega⟩)
  rw [bt_list s i hs] at h1
  exact h1
theorem whole_while (p : UInt8 → Bool) : ∀ l : List UInt8, (∀ c ∈ l, p c = true) → l.takeWhile p = l ∧ l.dropWhile p = []
  | [], _ => ⟨rfl, rfl⟩
  | c :: r, h => by
    have ih := whole_while p r fun d hd => h d (List.mem_cons_of_mem _ hd)
    rw [List.takeWhile_cons, List.dropWhile_cons, h c List.mem_cons_self]
    exact ⟨by rw [if_pos rfl, ih.1], by rw [if_pos rfl, ih.2]⟩
theorem words_whole (l : List UInt8) (hne : l ≠ []) (h : ∀ c ∈ l, isB c = false) : wordsL l = [bA l] := by
  have hd : l.dropWhile isB = l := by
    cases l with
    | nil => exact absurd rfl hne
    | cons c r => rw [List.dropWhile_cons, h c List.mem_cons_self]; rfl
  obtain ⟨ht, ht2⟩ := whole_while nB l fun c hc => by simp [nB, h c hc]
  rw [wordsL_some (by rw [hd]; exact hne), hd, ht, ht2, wordsL_none rfl]
  rfl
/-- The line of a key and a value without blanks. -/
theorem back_fields (key s : ByteArray) (hk : keyB key = true) (hl : s.data.toList.length ≤ 64) (hb : ∀ c ∈ s.data.toList, isB c = false) :
    fieldsL (key.data.toList ++ 61 :: s.data.toList) = [if (refNum s.data.toList).2 = true then ⟨key, 1, (refNum s.data.toList).1, ⟨#[]⟩⟩ else ⟨key, 2, 0, s⟩] := by
  have hkb := key_bytes hk
  have hw : ∀ c ∈ key.data.toList ++ 61 :: s.data.toList, isB c = false := by
    intro c hc
    rcases List.mem_append.1 hc with hc | hc
    · have h1 := inK_true.1 (hkb c hc)
      refine Bool.eq_false_iff.2 fun e => ?_
      have h2 : c.toNat = 9 ∨ c.toNat = 10 ∨ c.toNat = 13 ∨ c.toNat = 32 := by
        unfold isB blankL at e
        simp only [List.contains_cons, List.contains_nil, Bool.or_false, Bool.or_eq_true, beq_iff_eq, ← UInt8.toNat_inj] at e
        exact e
      omega
    · rcases List.mem_cons.1 hc with rfl | hc
      · decide
      · exact hb c hc
  have hp : eqPos (key.data.toList ++ 61 :: s.data.toList) = key.data.toList.length := by
    refine eqPos_key _ _ fun c hc e => ?_
    have h1 := inK_true.1 (hkb c hc)
    subst e
    revert h1
    decide
  have hone : oneS (key.data.toList ++ 61 :: s.data.toList) = (if (refNum s.data.toList).2 = true then ⟨key, 1, (refNum s.data.toList).1, ⟨#[]⟩⟩ else ⟨key, 2, 0, s⟩, true) := by
    unfold oneS
    rw [hp, if_pos (by simp only [List.length_append, List.length_cons]; omega), List.take_left, bA_of, hk]
    have hd : (key.data.toList ++ 61 :: s.data.toList).drop (key.data.toList.length + 1) = s.data.toList := by
      rw [List.drop_append, List.drop_of_length_le (by omega), List.nil_append, Nat.add_sub_cancel_left]
      rfl
    rw [hd, bA_of]
    by_cases hn : (refNum s.data.toList).2 = true
    · rw [if_pos hn, if_pos hn]
    · rw [if_neg hn, if_neg hn, decide_eq_true hl]
      rfl
  unfold fieldsL
  rw [words_whole _ (by simp) hw, List.foldl_cons, List.foldl_nil]
  unfold rdS
  rw [bA_list, hone, if_pos ⟨by simp, rfl, rfl⟩, List.nil_append]
theorem back_loop (key : ByteArray) (k0 : Int) (i0 : Int) (t0 : ByteArray) (s : ByteArray) (hk : keyB key = true) (hks : key.size ≤ 32) (hl : s.size ≤ 64) :
    ∀ (d i : Nat), i + d = s.size → (∀ c ∈ s.data.toList.take i, isB c = false) → Ev (fun k => dragnetlaw08_FieldBack.l0 k s (refNum s.data.toList).1 (refNum s.data.toList).2 (i : Int) key k0 i0 t0) true
  | 0, i, hi, hb => by
    have hls : s.data.toList.length = s.size := (Lib.size_eq s).symm
    rw [List.take_of_length_le (by omega)] at hb
    have hf := back_fields key s hk (by omega) hb
    have hlist : (key ++ ⟨#[61]⟩ ++ s).data.toList = key.data.toList ++ 61 :: s.data.toList := by
      rw [ByteArray.data_append, ByteArray.data_append]
      simp
    have hsz : (key ++ ⟨#[61]⟩ ++ s).size = key.size + 1 + s.size := by rw [ByteArray.size_append, ByteArray.size_append]; rfl
    have hsz1 : (key ++ ⟨#[61]⟩).size = key.size + 1 := by rw [ByteArray.size_append]; rfl
    have hconv : string_bytes.f (key ++ ⟨#[61]⟩ ++ s) = some (numsOf (key.data.toList ++ 61 :: s.data.toList)) := by
      unfold string_bytes.f
      rw [if_pos (by omega), bytesOf_nums, hlist]
    have hread := read_f (key.data.toList ++ 61 :: s.data.toList) (by rw [← hlist, ← Lib.size_eq]; omega)
    rw [hf] at hread
    by_cases hn : (refNum s.data.toList).2 = true
    · rw [if_pos hn] at hread
      refine Ev.step (fun k => ?_) (same_ev [⟨key, 1, (refNum s.data.toList).1, ⟨#[]⟩⟩] (by simp))
      simp only [dragnetlaw08_FieldBack.l0]
      rw [if_neg (by omega), if_pos hn, if_pos (by omega), if_pos (by omega), hconv, Option.bind_some, hread, Option.bind_some, Option.bind_fun_some]
    · rw [if_neg hn] at hread
      refine Ev.step (fun k => ?_) (same_ev [⟨key, 2, 0, s⟩] (by simp))
      simp only [dragnetlaw08_FieldBack.l0]
      rw [if_neg (by omega), if_neg hn, if_pos (by omega), if_pos (by omega), hconv, Option.bind_some, hread, Option.bind_some, Option.bind_fun_some]
  | d + 1, i, hi, hb => by
    have hls : s.data.toList.length = s.size := (Lib.size_eq s).symm
    have hbt := bt_list s i (by omega)
    have htake : s.data.toList.take (i + 1) = s.data.toList.take i ++ [s.data.toList[i]'(by omega)] := by rw [List.take_succ_eq_append_getElem (by omega)]
    have hiff : ∀ b : UInt8, isB b = true ↔ b.toNat = 9 ∨ b.toNat = 10 ∨ b.toNat = 13 ∨ b.toNat = 32 := by
      intro b
      unfold isB blankL
      simp only [List.contains_cons, List.contains_nil, Bool.or_false, Bool.or_eq_true, beq_iff_eq, ← UInt8.toNat_inj]
      rfl
    generalize s.data.toList[i]'(by omega) = c at hbt htake
    cases hc : isB c with
    | true =>
      have h2 := (hiff c).1 hc
      refine Ev.step (f := fun _ => some true) (fun k => ?_) (Ev.now _)
      simp only [dragnetlaw08_FieldBack.l0, hbt]
      rw [if_pos (by omega), if_pos (by omega)]
      repeat' split
      all_goals first | rfl | (exfalso; omega)
    | false =>
      have h2 : ¬ (c.toNat = 9 ∨ c.toNat = 10 ∨ c.toNat = 13 ∨ c.toNat = 32) := fun e => by rw [(hiff c).2 e] at hc; cases hc
      have ih := back_loop key k0 i0 t0 s hk hks hl d (i + 1) (by omega) (by
        intro b hbm
        rw [htake] at hbm
        rcases List.mem_append.1 hbm with hbm | hbm
        · exact hb b hbm
        · rw [List.mem_singleton.1 hbm]; exact hc)
      refine Ev.step (fun k => ?_) ih
      simp only [dragnetlaw08_FieldBack.l0, hbt]
      rw [if_pos (by omega), if_pos (by omega), if_neg (by omega), if_neg (by omega), if_neg (by omega), if_neg (by omega), wrap_in (by omega) (by omega), show ((i : Int) + 1) = ((i + 1 : Nat) : Int) by omega]
theorem FieldBack : ∀ (x0_0 : ByteArray) (x0_1 : Int) (x0_2 : Int) (x0_3 : ByteArray), (x0_0.size ≤ maxLen) → ((Lit.int .i64 x0_1).wf = true) → ((Lit.int .i64 x0_2).wf = true) → (x0_3.size ≤ maxLen) → (x0_0.size + 1) + (1) + (1) + (x0_3.size + 1) + 1 ≤ 1048576 → ∃ k, dragnetlaw08_FieldBack.f k x0_0 x0_1 x0_2 x0_3 = some true := by
  intro key kind n text _ _ wf _ hsum
  obtain ⟨h0, h1⟩ : -9223372036854775808 ≤ n ∧ n ≤ 9223372036854775807 := by
    have e1 : IntKind.i64.min = -9223372036854775808 := rfl
    have e2 : IntKind.i64.max = 9223372036854775807 := rfl
    simpa [Lit.wf, e1, e2] using wf
  obtain ⟨s, hshow, hs⟩ : ∃ s, field_Show.f key kind n text = some s ∧ s.size ≤ 1048576 := by
    unfold field_Show.f strconv_Itoa.f
    by_cases hk : kind = 1
    · rw [if_pos hk, if_pos ⟨h0, h1⟩]
      refine ⟨_, rfl, ?_⟩
      rw [Lib.size_eq]
      have := Lib.itoa_length_le n h0 h1
      show (Lib.itoa n).length ≤ _
      omega
    · rw [if_neg hk]
      exact ⟨text, rfl, by omega⟩
  have hkey := isKey_ev key (by omega)
  have hev : Ev (fun k => dragnetlaw08_FieldBack.j0 k s (refNum s.data.toList).1 (refNum s.data.toList).2 (if keyB key = true then decide ((s.size : Int) > 64) else true) key kind n text) true := by
    by_cases hy : keyB key = true ∧ s.size ≤ 64
    · have hks : key.size ≤ 32 := by
        have h := hy.1
        unfold keyB at h
        have := of_decide_eq_true (Bool.and_eq_true_iff.1 h).2
        omega
      refine Ev.step (fun k => ?_) (back_loop key kind n text s hy.1 hks hy.2 s.size 0 (by omega) (by simp))
      simp only [dragnetlaw08_FieldBack.j0]
      rw [if_pos hy.1, decide_eq_false (by omega), if_neg (by simp)]
      rfl
    · refine Ev.step (f := fun _ => some true) (fun k => ?_) (Ev.now _)
      simp only [dragnetlaw08_FieldBack.j0]
      have e : (if keyB key = true then decide ((s.size : Int) > 64) else true) = true := by
        by_cases hk : keyB key = true
        · rw [if_pos hk]
          exact decide_eq_true (by have : ¬ s.size ≤ 64 := fun h => hy ⟨hk, h⟩; omega)
        · rw [if_neg hk]
      rw [e, if_pos rfl]
  obtain ⟨k1, hk1⟩ := hkey
  obtain ⟨k2, hk2⟩ := hev
  dsimp only at hk1 hk2
  refine ⟨k1 + k2, ?_⟩
  unfold dragnetlaw08_FieldBack.f
  rw [show dragnetlaw08_alive.f = some true from rfl, Option.bind_some, if_pos rfl, hshow, Option.bind_some, number_f s (by omega), Option.bind_some, hk1 _ (by omega), Option.bind_some]
  have h := hk2 (k1 + k2) (by omega)
  by_cases hk : keyB key = true
  · rw [if_pos hk] at h ⊢
    exact h
  · rw [if_neg hk] at h ⊢
    exact h
end Go.Proofs.YtdkgmiagjhcllaaDoor.Pure
end
