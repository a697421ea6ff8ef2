/- Numbers: what the program and the document read, and write. -/
import Derived.Test.YtdkgmiagjhcllaaDoorPureDec
import Derived.Test.YtdkgmiagjhcllaaDoorPureEv
import Derived.Test.YtdkgmiagjhcllaaDoorNumber
import Derived.Test.YtdkgmiagjhcllaaDoorP1
namespace Go.Proofs.YtdkgmiagjhcllaaDoor.Pure
open Go Go.RowKit Go.Proofs.YtdkgmiagjhcllaaDoorW.PrintWords Go.Proofs.YtdkgmiagjhcllaaDoorW.PrintLast Go.Proofs.YtdkgmiagjhcllaaDoorW.PrintMore Go.Proofs.YtdkgmiagjhcllaaDoor.P
set_option linter.unusedVariables false
set_option linter.unusedSimpArgs false

theorem u64_in {x : Int} (h0 : 0 ≤ x) (h1 : x ≤ 18446744073709551615) : IntKind.u64.wrap x = x := by
  simp [IntKind.wrap, IntKind.bits, IntKind.signed]
  omega
theorem text_eq {s t : ByteArray} (h : s.data.toList = t.data.toList) : s = t := ByteArray.ext (Array.toList_inj.1 h)
theorem bt_list (s : ByteArray) (i : Nat) (h : i < s.size) : bt s (i : Int) = ((s.data.toList[i]'(by rw [Lib.size_eq] at h; exact h)).toNat : Int) := by
  unfold bt
  rw [dif_pos (by simpa using h)]
  have := Lib.data_getElem? s i h
  simp only [Int.toNat_natCast]
  rw [List.getElem?_eq_getElem (by rw [← Lib.size_eq]; exact h)] at this
  exact congrArg (fun b : UInt8 => ((b.toNat : Nat) : Int)) (Option.some.inj this).symm
/-- The program's reading is the document's. -/
theorem number_f (t : ByteArray) (ht : t.size ≤ 281474976710656) : field_Number.f t = some (refNum t.data.toList) := by
  unfold field_Number.f
  rw [if_pos ht]
  obtain ⟨x, b, hr⟩ : ∃ x b, refNum t.data.toList = (x, b) := ⟨_, _, rfl⟩
  cases b with
  | true =>
    obtain ⟨e, h0, h1⟩ := refNum_yes hr
    rw [hr, e, atoi_itoa x h0 h1]
    dsimp only
    unfold strconv_Itoa.f
    rw [if_pos ⟨h0, h1⟩, Option.bind_some, if_pos]
    exact text_eq e.symm
  | false =>
    have hx : x = 0 := by
      unfold refNum at hr
      repeat' split at hr
      all_goals exact refMag_no hr
    subst hx
    rw [hr]
    cases ha : Lib.atoiAll t.data.toList with
    | ok v =>
      obtain ⟨h0, h1⟩ := Lib.atoiAll_bounds ha
      dsimp only
      unfold strconv_Itoa.f
      rw [if_pos ⟨h0, h1⟩, Option.bind_some, if_neg]
      intro e
      rw [← e] at hr
      have := refNum_itoa v h0 h1
      rw [show ((⟨(Lib.itoa v).toArray⟩ : ByteArray)).data.toList = Lib.itoa v from rfl, this] at hr
      injection hr with _ h2
      cases h2
    | range => rfl
    | _ => rfl
def finD (least : Bool) (v : Nat) : Int × Bool := if least = true then (if 9223372036854775808 < v then (0, false) else (-(v : Int), true)) else (if 9223372036854775807 < v then (0, false) else ((v : Int), true))
theorem num_loop (s : ByteArray) (least : Bool) (hs : s.size ≤ 19) : ∀ (d i acc : Nat), i + d = s.size → acc < 10 ^ i →
    Ev (fun k => dragnetref08_Number.l0 k s least (acc : Int) (i : Int)) (if (s.data.toList.drop i).all digB = true then finD least (valD acc (s.data.toList.drop i)) else (0, false))
  | 0, i, acc, hi, ha => by
    have hl : s.data.toList.length = s.size := (Lib.size_eq s).symm
    rw [List.drop_of_length_le (by omega)]
    have h10 : acc < 10 ^ 19 := Nat.lt_of_lt_of_le ha (Nat.pow_le_pow_right (by omega) (by omega))
    refine Ev.step (f := fun _ => some (finD least acc)) (fun k => ?_) (Ev.now _)
    simp only [dragnetref08_Number.l0, List.all_nil, if_true, valD_nil]
    rw [if_neg (by omega)]
    unfold finD
    cases least with
    | true =>
      simp only [if_true]
      by_cases h : 9223372036854775808 < acc
      · rw [if_pos (by omega), if_pos h]
      · rw [if_neg (by omega), if_neg h]
        congr 2
        simp only [IntKind.wrap, IntKind.signed, IntKind.bits, Bool.false_eq_true, if_false, wrap64]
        omega
    | false =>
      simp only [Bool.false_eq_true, if_false]
      by_cases h : 9223372036854775807 < acc
      · rw [if_pos (by omega), if_pos h]
      · rw [if_neg (by omega), if_neg h]
        congr 2
        exact wrap_in (by omega) (by omega)
  | d + 1, i, acc, hi, ha => by
    have hl : s.data.toList.length = s.size := (Lib.size_eq s).symm
    have hil : i < s.data.toList.length := by omega
    have hb := bt_list s i (by omega)
    rw [List.drop_eq_getElem_cons hil]
    generalize s.data.toList[i] = c at hb ⊢
    have hc := UInt8.toNat_lt c
    have h10 : acc < 10 ^ 18 := Nat.lt_of_lt_of_le ha (Nat.pow_le_pow_right (by omega) (by omega))
    by_cases hd : digB c = true
    · have hcd := digB_iff.1 hd
      have ih := num_loop s least hs d (i + 1) (acc * 10 + (c.toNat - 48)) (by omega) (by rw [Nat.pow_succ]; omega)
      rw [List.all_cons, hd, Bool.true_and, valD_cons]
      refine Ev.step (fun k => ?_) ih
      simp only [dragnetref08_Number.l0, hb]
      rw [if_pos (by omega), if_pos (by omega), if_neg (by omega), if_neg (by omega), u64_in (x := (acc : Int) * 10) (by omega) (by omega), u64_in (by omega) (by omega), wrap_in (by omega) (by omega)]
      congr 1
      · omega
    · have hdn : ¬ (48 ≤ c.toNat ∧ c.toNat ≤ 57) := fun e => hd (digB_iff.2 e)
      rw [List.all_cons, Bool.eq_false_iff.2 hd, Bool.false_and, if_neg (by simp)]
      refine Ev.step (f := fun _ => some (0, false)) (fun k => ?_) (Ev.now _)
      simp only [dragnetref08_Number.l0, hb]
      rw [if_pos (by omega), if_pos (by omega)]
      by_cases h1 : (c.toNat : Int) < 48
      · rw [if_pos h1]
      · rw [if_neg h1, if_pos (by omega)]
theorem num_mag (s : ByteArray) (least : Bool) : Ev (fun k => dragnetref08_Number.j1 k s least) (refMag least s.data.toList) := by
  have hl : s.data.toList.length = s.size := (Lib.size_eq s).symm
  have hno : Ev (fun k => dragnetref08_Number.j2 k s least true) (0, false) := Ev.step (f := fun _ => some (0, false)) (fun k => by simp only [dragnetref08_Number.j2, if_true]) (Ev.now _)
  by_cases h0 : s.data.toList.length < 1
  · rw [show refMag least s.data.toList = (0, false) from if_pos (Or.inl h0)]
    refine Ev.step (fun k => ?_) hno
    simp only [dragnetref08_Number.j1]
    rw [if_pos (by omega)]
  by_cases h19 : 19 < s.data.toList.length
  · rw [show refMag least s.data.toList = (0, false) from if_pos (Or.inr (Or.inl h19))]
    refine Ev.step (fun k => ?_) hno
    simp only [dragnetref08_Number.j1]
    rw [if_neg (by omega), if_pos (by omega)]
  have hb := bt_list s 0 (by omega)
  have hh : s.data.toList.head? = some (s.data.toList[0]'(by omega)) := by
    rw [List.head?_eq_getElem?, List.getElem?_eq_getElem (by omega)]
  obtain ⟨c, hcd⟩ : ∃ c, c = s.data.toList[0]'(by omega) := ⟨_, rfl⟩
  rw [← hcd] at hb hh
  clear hcd
  have hyes : ¬ (s.data.toList.head?.map (·.toNat) = some 48 ∧ (1 < s.data.toList.length ∨ least = true)) → Ev (fun k => dragnetref08_Number.j2 k s least false) (refMag least s.data.toList) := fun hn => by
    have hl0 := num_loop s least (by omega) s.size 0 0 (by omega) (by simp)
    rw [List.drop_zero] at hl0
    have e : refMag least s.data.toList = (if s.data.toList.all digB = true then finD least (valD 0 s.data.toList) else (0, false)) := by
      unfold refMag finD
      rw [if_neg (by
        rintro (e | e | e)
        · exact h0 e
        · exact h19 e
        · exact hn e)]
    rw [e]
    refine Ev.step (fun k => ?_) hl0
    simp only [dragnetref08_Number.j2]
    rw [if_neg (by simp)]
    rfl
  have hzero : s.data.toList.head?.map (·.toNat) = some 48 ∧ (1 < s.data.toList.length ∨ least = true) → refMag least s.data.toList = (0, false) := fun hz => if_pos (Or.inr (Or.inr hz))
  rw [hh] at hyes hzero
  simp only [Option.map_some, Option.some.injEq] at hyes hzero
  by_cases hc : c.toNat = 48
  · by_cases h1 : 1 < s.data.toList.length
    · rw [hzero ⟨hc, Or.inl h1⟩]
      refine Ev.step (fun k => ?_) hno
      simp only [dragnetref08_Number.j1]
      rw [if_neg (by omega), if_neg (by omega), if_pos (by omega), show ((0 : Int)) = ((0 : Nat) : Int) from rfl, hb, if_pos (by omega), if_pos (by omega)]
    · cases least with
      | true =>
        rw [hzero ⟨hc, Or.inr rfl⟩]
        refine Ev.step (fun k => ?_) hno
        simp only [dragnetref08_Number.j1]
        rw [if_neg (by omega), if_neg (by omega), if_pos (by omega), show ((0 : Int)) = ((0 : Nat) : Int) from rfl, hb, if_pos (by omega), if_neg (by omega)]
      | false =>
        refine Ev.step (fun k => ?_) (hyes (fun e => by
          rcases e.2 with e2 | e2
          · exact h1 e2
          · cases e2))
        simp only [dragnetref08_Number.j1]
        rw [if_neg (by omega), if_neg (by omega), if_pos (by omega), show ((0 : Int)) = ((0 : Nat) : Int) from rfl, hb, if_pos (by omega), if_neg (by omega)]
  · refine Ev.step (fun k => ?_) (hyes (fun e => hc e.1))
    simp only [dragnetref08_Number.j1]
    rw [if_neg (by omega), if_neg (by omega), if_pos (by omega), show ((0 : Int)) = ((0 : Nat) : Int) from rfl, hb, if_neg (by omega)]
theorem extract_tail (s : ByteArray) : (s.extract 1 s.size).data.toList = s.data.toList.tail := by
  rw [Lib.extract_data]
  rw [List.drop_one, List.take_of_length_le]
  rw [List.length_tail, ← Lib.size_eq]
  omega
/-- What the document's Number computes. -/
theorem refNumber_ev (t : ByteArray) : Ev (fun k => dragnetref08_Number.f k t) (refNum t.data.toList) := by
  have hl : t.data.toList.length = t.size := (Lib.size_eq t).symm
  cases e : t.data.toList with
  | nil =>
    have hm := num_mag t false
    rw [e] at hm hl
    have h0 : t.size = 0 := hl.symm
    refine Ev.congr (f := fun k => dragnetref08_Number.j0 k t false false) (fun k => ?_) (Ev.step (fun k => ?_) hm)
    · unfold dragnetref08_Number.f
      rw [if_neg (by omega)]
    · simp only [dragnetref08_Number.j0]
      rw [if_neg (by simp)]
  | cons c r =>
    have hsz : 0 < t.size := by rw [← hl, e]; simp
    have hb := bt_list t 0 hsz
    have hc : t.data.toList[0]'(by omega) = c := by simp [e]
    rw [hc] at hb
    by_cases h45 : c.toNat = 45
    · have hm := num_mag (t.extract 1 t.size) true
      rw [extract_tail, e, List.tail_cons] at hm
      rw [show refNum (c :: r) = refMag true r from if_pos h45]
      refine Ev.congr (f := fun k => dragnetref08_Number.j0 k t false true) (fun k => ?_) (Ev.step (fun k => ?_) hm)
      · unfold dragnetref08_Number.f
        rw [if_pos (by omega), if_pos (by omega), show ((0 : Int)) = ((0 : Nat) : Int) from rfl, hb]
        congr 1
        rw [h45]
        rfl
      · simp only [dragnetref08_Number.j0, if_true]
        rw [if_pos (by omega)]
    · have hm := num_mag t false
      rw [e] at hm
      rw [show refNum (c :: r) = refMag false (c :: r) from if_neg h45]
      refine Ev.congr (f := fun k => dragnetref08_Number.j0 k t false false) (fun k => ?_) (Ev.step (fun k => ?_) hm)
      · unfold dragnetref08_Number.f
        rw [if_pos (by omega), if_pos (by omega), show ((0 : Int)) = ((0 : Nat) : Int) from rfl, hb]
        congr 1
        exact beq_eq_false_iff_ne.2 (by omega)
      · simp only [dragnetref08_Number.j0]
        rw [if_neg (by simp)]
theorem digStr (d : Nat) (h : d < 10) : (strOfNums [(IntKind.u64.wrap (48 + (d : Int))) % 256]).data.toList = [UInt8.ofNat (48 + d)] := by
  rw [strOfNums_data, u64_in (by omega) (by omega)]
  simp only [List.map_cons, List.map_nil]
  congr 2
  omega
theorem digits_loop : ∀ (m x : Nat) (s : ByteArray), x < 10 ^ m → x < 18446744073709551616 → s.size + m ≤ 1000 →
    Ev (fun k => dragnetref08_Digits.l0 k (x : Int) s) ⟨((if 10 ≤ x then Lib.decDigits (x / 10) else []) ++ s.data.toList).toArray⟩
  | 0, x, s, hx, hx2, hs => by
    obtain rfl : x = 0 := by simpa using hx
    rw [if_neg (by omega), List.nil_append]
    refine Ev.step (f := fun _ => some s) (fun k => ?_) (Ev.now _)
    simp only [dragnetref08_Digits.l0]
    rw [if_neg (by omega)]
  | m + 1, x, s, hx, hx2, hs => by
    by_cases h10 : 10 ≤ x
    · have hds := digStr (x / 10 % 10) (by omega)
      obtain ⟨y, hy⟩ : ∃ y, y = strOfNums [(IntKind.u64.wrap (48 + ((x / 10 % 10 : Nat) : Int))) % 256] := ⟨_, rfl⟩
      rw [← hy] at hds
      have hys : y.size = 1 := by rw [Lib.size_eq, hds]; rfl
      have hyl : (y ++ s).data.toList = UInt8.ofNat (48 + x / 10 % 10) :: s.data.toList := by
        rw [ByteArray.data_append, Array.toList_append, hds]
        rfl
      have ih := digits_loop m (x / 10) (y ++ s) (by rw [Nat.pow_succ] at hx; omega) (by omega) (by rw [ByteArray.size_append]; omega)
      rw [if_pos h10]
      have e : (if 10 ≤ x / 10 then Lib.decDigits (x / 10 / 10) else []) ++ (y ++ s).data.toList = Lib.decDigits (x / 10) ++ s.data.toList := by
        rw [hyl]
        by_cases h2 : 10 ≤ x / 10
        · rw [if_pos h2, dd_big (u := x / 10) (by omega)]
          simp
        · rw [if_neg h2, dd_small (u := x / 10) (by omega), show x / 10 % 10 = x / 10 by omega]
          rfl
      rw [e] at ih
      refine Ev.step (fun k => ?_) ih
      simp only [dragnetref08_Digits.l0]
      have e1 : IntKind.u64.wrap (Int.tdiv (x : Int) 10) = ((x / 10 : Nat) : Int) := by
        rw [Int.tdiv_eq_ediv_of_nonneg (by omega), u64_in (by omega) (by omega)]
        omega
      have e2 : Int.tmod ((x / 10 : Nat) : Int) 10 = ((x / 10 % 10 : Nat) : Int) := by
        rw [Int.tmod_eq_emod_of_nonneg (by omega)]
        omega
      rw [if_pos (by omega), Option.bind_some, e1, e2, ← hy, if_pos (by omega)]
    · rw [if_neg h10, List.nil_append]
      refine Ev.step (f := fun _ => some s) (fun k => ?_) (Ev.now _)
      simp only [dragnetref08_Digits.l0]
      rw [if_neg (by omega)]
theorem digits_ev (x : Nat) (hx : x < 18446744073709551616) : Ev (fun k => dragnetref08_Digits.f k (x : Int)) ⟨(Lib.decDigits x).toArray⟩ := by
  have hds := digStr (x % 10) (by omega)
  have e2 : Int.tmod (x : Int) 10 = ((x % 10 : Nat) : Int) := by
    rw [Int.tmod_eq_emod_of_nonneg (by omega)]
    omega
  have h := digits_loop 20 x (strOfNums [(IntKind.u64.wrap (48 + ((x % 10 : Nat) : Int))) % 256]) (by omega) hx (by rw [Lib.size_eq, hds]; simp)
  rw [hds] at h
  have e : (if 10 ≤ x then Lib.decDigits (x / 10) else []) ++ [UInt8.ofNat (48 + x % 10)] = Lib.decDigits x := by
    by_cases h2 : 10 ≤ x
    · rw [if_pos h2, dd_big (u := x) (by omega)]
    · rw [if_neg h2, dd_small (u := x) (by omega), show x % 10 = x by omega]
      rfl
  rw [e] at h
  refine Ev.congr (fun k => ?_) h
  unfold dragnetref08_Digits.f
  rw [e2]
/-- What the document writes is what the program writes. -/
theorem refText_ev (n : Int) (h0 : -9223372036854775808 ≤ n) (h1 : n ≤ 9223372036854775807) : Ev (fun k => dragnetref08_Text.f k n) ⟨(Lib.itoa n).toArray⟩ := by
  by_cases hn : n ≥ 0
  · obtain ⟨m, rfl⟩ := Int.eq_ofNat_of_zero_le hn
    rw [Lib.itoa_nonneg]
    refine Ev.call0 (digits_ev m (by omega)) (Ev.now _) (fun k h => ?_)
    unfold dragnetref08_Text.f
    rw [if_pos hn, u64_in (by omega) (by omega), h, Option.bind_some]
  · obtain ⟨m, rfl⟩ : ∃ m : Nat, n = -(m : Int) := ⟨n.natAbs, by omega⟩
    rw [Lib.itoa_neg m (by omega)]
    refine Ev.call0 (digits_ev m (by omega)) (Ev.now _) (fun k h => ?_)
    unfold dragnetref08_Text.f
    have e : IntKind.u64.wrap (IntKind.u64.wrap (wrap64 (-(wrap64 (-(m : Int) + 1)))) + 1) = (m : Int) := by
      rw [wrap_in (x := -(m : Int) + 1) (by omega) (by omega), wrap_in (by omega) (by omega), u64_in (x := -(-(m : Int) + 1)) (by omega) (by omega), u64_in (by omega) (by omega)]
      omega
    have hsz : (⟨(Lib.decDigits m).toArray⟩ : ByteArray).size ≤ 20 := by
      rw [Lib.size_eq]
      exact dd_len 19 m (by omega)
    rw [if_neg hn, e, h, Option.bind_some, if_pos (by omega)]
    congr 1
end Go.Proofs.YtdkgmiagjhcllaaDoor.Pure
