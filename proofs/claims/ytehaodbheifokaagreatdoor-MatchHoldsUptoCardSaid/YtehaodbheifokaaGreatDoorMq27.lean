/- Joined by wip/tools/pack.py, pruned: PureReadRef, PureText. -/
import Derived.Test.YtehaodbheifokaaGreatDoorMq24
import Derived.Test.YtehaodbheifokaaGreatDoorMq26
set_option maxHeartbeats 8000000
set_option maxRecDepth 100000
set_option linter.unusedVariables false
set_option linter.unusedSimpArgs false
section
namespace Go.Proofs.YtehaodbheifokaaGreatDoor.Pure
open Go Go.RowKit Go.Proofs.YtehaodbheifokaaGreatDoorW.PrintWords Go.Proofs.YtehaodbheifokaaGreatDoorW.PrintLast Go.Proofs.YtehaodbheifokaaGreatDoorW.PrintMore Go.Proofs.YtehaodbheifokaaGreatDoor.P
def fiveS (p : S110 × Bool) : ByteArray × Int × Int × ByteArray × Bool := (p.1.f0, p.1.f1, p.1.f2, p.1.f3, p.2)
theorem extract_front (x : ByteArray) (i : Nat) (h : i ≤ x.size) : x.extract 0 i = bA (x.data.toList.take i) := by
 apply text_eq
 rw [Lib.extract_data, List.drop_zero]
 rfl
theorem extract_back (x : ByteArray) (i : Nat) : x.extract i x.size = bA (x.data.toList.drop i) := by
 apply text_eq
 rw [Lib.extract_data, bA_list, List.take_of_length_le]
 rw [List.length_drop, ← Lib.size_eq]
 omega
theorem one_loop (x : ByteArray) (hx : x.size ≤ 281474976710656) : ∀ (d i : Nat), i + d = x.size → i ≤ eqPos x.data.toList → Ev (fun k => dragnetref08_One.l0 k x (i : Int)) (fiveS (oneS x.data.toList))
 | 0, i, hi, hp => by
  have hl : x.data.toList.length = x.size := (Lib.size_eq x).symm
  refine Ev.step (f := fun _ => some (fiveS (oneS x.data.toList))) (fun k => ?_) (Ev.now _)
  simp only [dragnetref08_One.l0]
  rw [if_neg (by omega), show oneS x.data.toList = (z110, false) from if_neg (by omega)]
  rfl
 | d + 1, i, hi, hp => by
  have hl : x.data.toList.length = x.size := (Lib.size_eq x).symm
  have hb := bt_list x i (by omega)
  by_cases hq : i = eqPos x.data.toList
  ·have h61 : x.data.toList[i]'(by omega) = 61 := by
    obtain ⟨y, h1, h2⟩ := takeWhile_stop (p := noEq) (l := x.data.toList) (by unfold eqPos at hq; omega)
    have : i = (x.data.toList.takeWhile noEq).length := hq
    rw [← this, List.getElem?_eq_getElem (by omega)] at h1
    cases h1
    simpa [noEq] using h2
   rw [h61] at hb
   have hnum := refNumber_ev (bA (x.data.toList.drop (i + 1)))
   have hkey := refKey_ev (bA (x.data.toList.take i)) (by rw [bA_size, List.length_take]; omega)
   rw [bA_list] at hnum
   have hone : oneS x.data.toList = (if (refNum (x.data.toList.drop (i + 1))).2 = true then (⟨bA (x.data.toList.take i), 1, (refNum (x.data.toList.drop (i + 1))).1, ⟨#[]⟩⟩, keyB (bA (x.data.toList.take i)))
  else (⟨bA (x.data.toList.take i), 2, 0, bA (x.data.toList.drop (i + 1))⟩, keyB (bA (x.data.toList.take i)) && decide ((x.data.toList.drop (i + 1)).length ≤ 64))) := by
    unfold oneS
    rw [← hq, if_pos (by omega)]
   rw [hone]
   refine Ev.sb hnum (F := ?F) (fun k => ?step) ?rest
   case step =>
    simp only [dragnetref08_One.l0, hb]
    rw [if_pos (by omega), if_pos (by omega), if_pos (by decide), if_pos (by omega), wrap_in (by omega) (by omega), if_pos (by omega), if_pos (by omega), show ((i : Int) + 1).toNat = i + 1 by omega, Int.toNat_natCast, extract_back, extract_front x i (by omega)]
   case rest =>
    by_cases hn : (refNum (x.data.toList.drop (i + 1))).2 = true
    ·simp only [if_pos hn]
     refine Ev.bind hkey ?_
     refine Ev.congr (fun k => ?_) (Ev.now _)
     cases keyB (bA (x.data.toList.take i)) <;> rfl
    ·simp only [if_neg hn]
     refine Ev.bind hkey ?_
     refine Ev.congr (fun k => ?_) (Ev.now _)
     cases keyB (bA (x.data.toList.take i)) with
     | false => rfl
     | true =>
      rw [if_pos rfl, bA_size]
      unfold fiveS
      simp only [Bool.true_and]
      congr 5
      exact decide_eq_decide.2 (by omega)
  ·have hn : x.data.toList[i]'(by omega) ≠ 61 := by
    obtain ⟨y, h1, h2⟩ := takeWhile_getElem (p := noEq) (l := x.data.toList) (j := i) (by unfold eqPos at hq hp; omega)
    rw [List.getElem?_eq_getElem (by omega)] at h1
    cases h1
    simpa [noEq] using h2
   refine Ev.step (fun k => ?_) (one_loop x hx d (i + 1) (by omega) (by omega))
   simp only [dragnetref08_One.l0, hb]
   rw [if_pos (by omega), if_pos (by omega), if_neg (fun e => hn (UInt8.toNat_inj.1 (by show _ = 61; omega))), wrap_in (by omega) (by omega), show ((i : Int) + 1) = ((i + 1 : Nat) : Int) by omega]
theorem one_ev (x : ByteArray) (hx : x.size ≤ 281474976710656) : Ev (fun k => dragnetref08_One.f k x) (fiveS (oneS x.data.toList)) := one_loop x hx x.size 0 (by omega) (Nat.zero_le _)
theorem isB_iff (b : UInt8) : isB b = true ↔ b.toNat = 9 ∨ b.toNat = 10 ∨ b.toNat = 13 ∨ b.toNat = 32 := by
 unfold isB blankL
 simp only [List.contains_cons, List.contains_nil, Bool.or_false, Bool.or_eq_true, beq_iff_eq, ← UInt8.toNat_inj]
 rfl
theorem blank_f (b : UInt8) : dragnetref08_blank.f (b.toNat : Int) = some (isB b) := by
 have h := isB_iff b
 unfold dragnetref08_blank.f
 cases hb : isB b with
 | true =>
  have h2 := h.1 hb
  repeat' split
  all_goals first | rfl | (congr 1; exact beq_iff_eq.2 (by omega))
 | false =>
  have h2 : ¬ (b.toNat = 9 ∨ b.toNat = 10 ∨ b.toNat = 13 ∨ b.toNat = 32) := fun e => by rw [h.2 e] at hb; cases hb
  rw [if_neg (by omega), if_neg (by omega), if_neg (by omega)]
  congr 1
  exact beq_eq_false_iff_ne.2 (by omega)
theorem rd_nums (l : List UInt8) (i : Nat) (h : i < l.length) : rd (numsOf l) (i : Int) = ((l[i]).toNat : Int) := by
 simp [rd, numsOf, List.getD, List.getElem?_eq_getElem h]
theorem nums_len (l : List UInt8) : (numsOf l).length = l.length := by simp [numsOf]
theorem str_nums (l : List UInt8) : strOfNums (numsOf l) = bA l := by
 apply text_eq
 rw [strOfNums_data, bA_list]
 simp [numsOf, List.map_map, Function.comp_def]
theorem words_blank (c : UInt8) (r : List UInt8) (h : isB c = true) : wordsL (c :: r) = wordsL r := by
 have e : (c :: r).dropWhile isB = r.dropWhile isB := by rw [List.dropWhile_cons, h]; rfl
 by_cases h0 : r.dropWhile isB = []
 ·rw [wordsL_none h0, wordsL_none (e.trans h0)]
 ·rw [wordsL_some h0, wordsL_some (by rw [e]; exact h0), e]
theorem words_front (c : UInt8) (r : List UInt8) (h : isB c = false) : wordsL (c :: r) = bA ((c :: r).takeWhile nB) :: wordsL ((c :: r).dropWhile nB) := by
 have e : (c :: r).dropWhile isB = c :: r := by rw [List.dropWhile_cons, h]; rfl
 rw [wordsL_some (by rw [e]; simp), e]
 rfl
theorem words_behind (l : List UInt8) : wordsL (l.dropWhile nB) = wordsL ((l.dropWhile nB).drop 1) := by
 cases e : l.dropWhile nB with
 | nil => rfl
 | cons c r =>
  have hc : nB c = false := by
   have := List.head_dropWhile_not nB (l := l) (by rw [e]; simp)
   simpa only [e, List.head_cons] using this
  rw [words_blank c r (by simpa [nB] using hc)]
  rfl
theorem five_any (st : List S110) (key : ByteArray) : (fiveOf (st.find? (keyIs key))).2.2.2.2 = st.any (fun y => decide (y.f0 = key)) := by rw [fiveOf_found, found_any]
theorem j2_ev (l : List UInt8) (hl : l.length ≤ 16777216) (st : List S110) (hs : st.length ≤ 16) (i n : Nat) (hn : i + n ≤ l.length) (r : List S110)
  (h : Ev (fun k => dragnetref08_Read.l0 k (numsOf l) (rdS st (bA ((l.drop i).take n))) ((i + n + 1 : Nat) : Int)) r) :
  Ev (fun k => dragnetref08_Read.j2 k (numsOf l) st ((i + n : Nat) : Int) (i : Int)) r := by
 have h1 := one_ev (bA ((l.drop i).take n)) (by rw [bA_size, List.length_take, List.length_drop]; omega)
 have h2 := at_ev st (oneS ((l.drop i).take n)).1.f0 (by omega)
 rw [bA_list] at h1
 have hstr : strOfNums (((numsOf l).take (i + n)).drop i) = bA ((l.drop i).take n) := by
  rw [← str_nums]
  congr 1
  unfold numsOf
  rw [← List.map_take, ← List.map_drop, List.take_drop, Nat.add_comm]
 refine Ev.sb h1 (F := ?F) (fun k => ?step) ?rest
 case step =>
  simp only [dragnetref08_Read.j2]
  rw [if_pos (by omega), if_pos (by omega), if_pos (by rw [nums_len]; omega), Int.toNat_natCast, Int.toNat_natCast, hstr]
 case rest =>
  refine Ev.cb h2 (F := ?F2) (fun k => ?step) ?rest
  case step =>
   dsimp only [fiveS]
   rfl
  case rest =>
  refine Ev.congr (fun k => ?_) h
  rw [five_any, wrap_in (by omega) (by omega), show (((i + n : Nat) : Int) + 1) = ((i + n + 1 : Nat) : Int) by omega]
  have hrd : rdS st (bA ((l.drop i).take n)) = if st.length < 16 ∧ (oneS ((l.drop i).take n)).2 = true ∧ st.any (fun y => decide (y.f0 = (oneS ((l.drop i).take n)).1.f0)) = false then st ++ [(oneS ((l.drop i).take n)).1] else st := rfl
  by_cases h1 : (oneS ((l.drop i).take n)).2 = true
  ·by_cases h2 : st.any (fun y => decide (y.f0 = (oneS ((l.drop i).take n)).1.f0)) = true
   ·rw [if_neg (fun e => by rw [h2] at e; cases e.2.2)] at hrd
    rw [hrd]
    simp only [h1, h2, ↓reduceIte]
   ·have h3 := Bool.eq_false_iff.2 h2
    by_cases h16 : st.length < 16
    ·have hi : (st.length : Int) < 16 := by omega
     have hj : st.length < 2932031007402 := by omega
     rw [if_pos ⟨h16, h1, h3⟩] at hrd
     rw [hrd]
     simp only [h1, h3, hi, hj, Bool.false_eq_true, ↓reduceIte]
    ·have hi : ¬ (st.length : Int) < 16 := by omega
     rw [if_neg (fun e => h16 e.1)] at hrd
     rw [hrd]
     simp only [h1, h3, hi, Bool.false_eq_true, ↓reduceIte]
  ·have h3 := Bool.eq_false_iff.2 h1
   rw [if_neg (fun e => h1 e.2.1)] at hrd
   rw [hrd]
   simp only [h3, Bool.false_eq_true, ↓reduceIte]
theorem l1_ev (l : List UInt8) (hl : l.length ≤ 16777216) (st : List S110) (hs : st.length ≤ 16) (i n : Nat) (hn : i + n ≤ l.length) (hw : ∀ j, j < n → ∃ x, l[i + j]? = some x ∧ nB x = true) (hend : ∀ x, l[i + n]? = some x → isB x = true) (r : List S110)
  (h : Ev (fun k => dragnetref08_Read.j2 k (numsOf l) st ((i + n : Nat) : Int) (i : Int)) r) : ∀ d m : Nat, m + d = n → Ev (fun k => dragnetref08_Read.l1 k (numsOf l) st ((i + m : Nat) : Int) (i : Int)) r
 | 0, m, hm => by
  obtain rfl : m = n := by omega
  refine Ev.step (fun k => ?_) h
  simp only [dragnetref08_Read.l1]
  by_cases hlt : i + m < l.length
  ·have hb := hend _ (List.getElem?_eq_getElem hlt)
   rw [if_pos (by rw [nums_len]; omega), if_pos (by omega), rd_nums l _ hlt, blank_f, hb, Option.bind_some, if_pos rfl]
  ·rw [if_neg (by rw [nums_len]; omega)]
 | d + 1, m, hm => by
  have ih := l1_ev l hl st hs i n hn hw hend r h d (m + 1) (by omega)
  obtain ⟨x, hx, hb⟩ := hw m (by omega)
  have hlt : i + m < l.length := by omega
  rw [List.getElem?_eq_getElem hlt] at hx
  cases hx
  refine Ev.step (fun k => ?_) ih
  simp only [dragnetref08_Read.l1]
  have hb2 : isB l[i + m] = false := by simpa [nB] using hb
  rw [if_pos (by rw [nums_len]; omega), if_pos (by omega), rd_nums l _ hlt, blank_f, hb2, Option.bind_some, if_neg (by simp), wrap_in (by omega) (by omega), show (((i + m : Nat) : Int) + 1) = ((i + (m + 1) : Nat) : Int) by omega]
theorem read_loop (l : List UInt8) (hl : l.length ≤ 16777216) : ∀ (d i : Nat) (st : List S110), l.length ≤ i + d → st.length ≤ 16 → i ≤ l.length + 1 → Ev (fun k => dragnetref08_Read.l0 k (numsOf l) st (i : Int)) ((wordsL (l.drop i)).foldl rdS st)
 | d, i, st, hd, hs, hi => by
  by_cases hlt : i < l.length
  case neg =>
   rw [List.drop_of_length_le (by omega), wordsL_none rfl]
   refine Ev.step (f := fun _ => some st) (fun k => ?_) (Ev.now _)
   simp only [dragnetref08_Read.l0]
   rw [if_neg (by rw [nums_len]; omega)]
  obtain ⟨d, rfl⟩ : ∃ e, d = e + 1 := ⟨d - 1, by omega⟩
  cases hb : isB l[i] with
  | true =>
   have ih := read_loop l hl d (i + 1) st (by omega) hs (by omega)
   rw [List.drop_eq_getElem_cons hlt, words_blank _ _ hb]
   refine Ev.step (fun k => ?_) ih
   simp only [dragnetref08_Read.l0]
   rw [if_pos (by rw [nums_len]; omega), if_pos (by omega), rd_nums l _ hlt, blank_f, hb, Option.bind_some, if_pos rfl, wrap_in (by omega) (by omega), show ((i : Int) + 1) = ((i + 1 : Nat) : Int) by omega]
  | false =>
   obtain ⟨n, hn⟩ : ∃ n, n = ((l.drop i).takeWhile nB).length := ⟨_, rfl⟩
   have hle : i + n ≤ l.length := by
    have := (List.takeWhile_prefix nB (l := l.drop i)).length_le
    rw [List.length_drop] at this
    omega
   have htake : (l.drop i).takeWhile nB = (l.drop i).take n := by rw [hn]; exact takeWhile_take nB _
   have hdrop : (l.drop i).dropWhile nB = l.drop (i + n) := by rw [dropWhile_drop', ← hn, List.drop_drop]
   have hn1 : 1 ≤ n := by
    rw [hn, List.drop_eq_getElem_cons hlt]
    simp [List.takeWhile, nB, hb]
   have hwords : wordsL (l.drop i) = bA ((l.drop i).take n) :: wordsL (l.drop (i + n + 1)) := by
    have e := words_front l[i] (l.drop (i + 1)) hb
    rw [← List.drop_eq_getElem_cons hlt, htake, words_behind, hdrop, List.drop_drop] at e
    exact e
   rw [hwords, List.foldl_cons]
   have ih := read_loop l hl d (i + n + 1) (rdS st (bA ((l.drop i).take n))) (by omega) (rdS_le _ _ hs) (by omega)
   have h2 := l1_ev l hl st hs i n hle (fun j hj => by
    obtain ⟨x, h1, h2⟩ := takeWhile_getElem (p := nB) (l := l.drop i) (j := j) (by omega)
    rw [List.getElem?_drop] at h1
    exact ⟨x, h1, h2⟩) (fun x hx => by
    obtain ⟨y, h1, h2⟩ := takeWhile_stop (p := nB) (l := l.drop i) (by
     rw [List.length_drop, ← hn]
     have := (List.getElem?_eq_some_iff.1 hx).1
     omega)
    rw [← hn, List.getElem?_drop, hx] at h1
    cases h1
    simpa [nB] using h2) _ (j2_ev l hl st hs i n hle _ ih) n 0 (by omega)
   refine Ev.step (fun k => ?_) h2
   simp only [dragnetref08_Read.l0]
   rw [if_pos (by rw [nums_len]; omega), if_pos (by omega), rd_nums l _ hlt, blank_f, hb, Option.bind_some, if_neg (by simp)]
   rfl
theorem refRead_ev (l : List UInt8) (hl : l.length ≤ 16777216) : Ev (fun k => dragnetref08_Read.f k (numsOf l)) (fieldsL l) := read_loop l hl l.length 0 [] (by omega) (by simp) (by omega)
theorem digStr (d : Nat) (h : d < 10) : (strOfNums [(IntKind.u64.wrap (48 + (d : Int))) % 256]).data.toList = [UInt8.ofNat (48 + d)] := by
 rw [strOfNums_data, u64_in (by omega) (by omega)]
 simp only [List.map_cons, List.map_nil]
 congr 2
 omega
theorem digits_loop : ∀ (m x : Nat) (s : ByteArray), x < 10 ^ m → x < 18446744073709551616 → s.size + m ≤ 1000 →
  Ev (fun k => dragnetref08_Digits.l0 k (x : Int) s) ⟨((if 10 ≤ x then Lib.decDigits (x / 10) else []) ++ s.data.toList).toArray⟩
 | 0, x, s, hx, hx2, hs => by
  obtain rfl : x = 0 := by simpa using hx
  rw [if_neg (by omega), List.nil_append]
  refine Ev.step (f := fun _ => some s) (fun k => ?_) (Ev.now _)
  simp only [dragnetref08_Digits.l0]
  rw [if_neg (by omega)]
 | m + 1, x, s, hx, hx2, hs => by
  by_cases h10 : 10 ≤ x
  ·have hds := digStr (x / 10 % 10) (by omega)
   obtain ⟨y, hy⟩ : ∃ y, y = strOfNums [(IntKind.u64.wrap (48 + ((x / 10 % 10 : Nat) : Int))) % 256] := ⟨_, rfl⟩
   rw [← hy] at hds
   have hys : y.size = 1 := by rw [Lib.size_eq, hds]; rfl
   have hyl : (y ++ s).data.toList = UInt8.ofNat (48 + x / 10 % 10) :: s.data.toList := by
    rw [ByteArray.data_append, Array.toList_append, hds]
    rfl
   have ih := digits_loop m (x / 10) (y ++ s) (by rw [Nat.pow_succ] at hx; omega) (by omega) (by rw [ByteArray.size_append]; omega)
   rw [if_pos h10]
   have e : (if 10 ≤ x / 10 then Lib.decDigits (x / 10 / 10) else []) ++ (y ++ s).data.toList = Lib.decDigits (x / 10) ++ s.data.toList := by
    rw [hyl]
    by_cases h2 : 10 ≤ x / 10
    ·rw [if_pos h2, dd_big (u := x / 10) (by omega)]
     simp
    ·rw [if_neg h2, dd_small (u := x / 10) (by omega), show x / 10 % 10 = x / 10 by omega]
     rfl
   rw [e] at ih
   refine Ev.step (fun k => ?_) ih
   simp only [dragnetref08_Digits.l0]
   have e1 : IntKind.u64.wrap (Int.tdiv (x : Int) 10) = ((x / 10 : Nat) : Int) := by
    rw [Int.tdiv_eq_ediv_of_nonneg (by omega), u64_in (by omega) (by omega)]
    omega
   have e2 : Int.tmod ((x / 10 : Nat) : Int) 10 = ((x / 10 % 10 : Nat) : Int) := by
    rw [Int.tmod_eq_emod_of_nonneg (by omega)]
    omega
   rw [if_pos (by omega), Option.bind_some, e1, e2, ← hy, if_pos (by omega)]
  ·rw [if_neg h10, List.nil_append]
   refine Ev.step (f := fun _ => some s) (fun k => ?_) (Ev.now _)
   simp only [dragnetref08_Digits.l0]
   rw [if_neg (by omega)]
theorem digits_ev (x : Nat) (hx : x < 18446744073709551616) : Ev (fun k => dragnetref08_Digits.f k (x : Int)) ⟨(Lib.decDigits x).toArray⟩ := by
 have hds := digStr (x % 10) (by omega)
 have e2 : Int.tmod (x : Int) 10 = ((x % 10 : Nat) : Int) := by
  rw [Int.tmod_eq_emod_of_nonneg (by omega)]
  omega
 have h := digits_loop 20 x (strOfNums [(IntKind.u64.wrap (48 + ((x % 10 : Nat) : Int))) % 256]) (by omega) hx (by rw [Lib.size_eq, hds]; simp)
 rw [hds] at h
 have e : (if 10 ≤ x then Lib.decDigits (x / 10) else []) ++ [UInt8.ofNat (48 + x % 10)] = Lib.decDigits x := by
  by_cases h2 : 10 ≤ x
  ·rw [if_pos h2, dd_big (u := x) (by omega)]
  ·rw [if_neg h2, dd_small (u := x) (by omega), show x % 10 = x by omega]
   rfl
 rw [e] at h
 refine Ev.congr (fun k => ?_) h
 unfold dragnetref08_Digits.f
 rw [e2]
theorem refText_ev (n : Int) (h0 : -9223372036854775808 ≤ n) (h1 : n ≤ 9223372036854775807) : Ev (fun k => dragnetref08_Text.f k n) ⟨(Lib.itoa n).toArray⟩ := by
 by_cases hn : n ≥ 0
 ·obtain ⟨m, rfl⟩ := Int.eq_ofNat_of_zero_le hn
  rw [Lib.itoa_nonneg]
  refine Ev.call0 (digits_ev m (by omega)) (Ev.now _) (fun k h => ?_)
  unfold dragnetref08_Text.f
  rw [if_pos hn, u64_in (by omega) (by omega), h, Option.bind_some]
 ·obtain ⟨m, rfl⟩ : ∃ m : Nat, n = -(m : Int) := ⟨n.natAbs, by omega⟩
  rw [Lib.itoa_neg m (by omega)]
  refine Ev.call0 (digits_ev m (by omega)) (Ev.now _) (fun k h => ?_)
  unfold dragnetref08_Text.f
  have e : IntKind.u64.wrap (IntKind.u64.wrap (wrap64 (-(wrap64 (-(m : Int) + 1)))) + 1) = (m : Int) := by
   rw [wrap_in (x := -(m : Int) + 1) (by omega) (by omega), wrap_in (by omega) (by omega), u64_in (x := -(-(m : Int) + 1)) (by omega) (by omega), u64_in (by omega) (by omega)]
   omega
  have hsz : (⟨(Lib.decDigits m).toArray⟩ : ByteArray).size ≤ 20 := by
   rw [Lib.size_eq]
   exact dd_len 19 m (by omega)
  rw [if_neg hn, e, h, Option.bind_some, if_pos (by omega)]
  congr 1
end Go.Proofs.YtehaodbheifokaaGreatDoor.Pure
end
