/- agg.Bucket and agg.Turn. -/
import Derived.Test.YtehaodbheifokaaGreatDoorP0
import Derived.WalkKit
import Derived.Outline
import Derived.Laws.Bits64b
import Derived.Laws.BitsLemmas
import Derived.KernelRfl
namespace Go.Proofs.YtehaodbheifokaaGreatDoor.P
open Go Go.RowKit Go.Proofs.YtehaodbheifokaaGreatDoorW.PrintWords Go.Proofs.YtehaodbheifokaaGreatDoorW.PrintLast Go.Proofs.YtehaodbheifokaaGreatDoorW.PrintMore
attribute [local go_sem] max2_int min2_int max_two min_two
set_option linter.unusedVariables false
set_option linter.unusedSimpArgs false

def bucketF (t w : Int) : Int := t / w
def inI (x : Int) : Prop := -9223372036854775808 ≤ x ∧ x ≤ 9223372036854775807
theorem wrap_inI {x : Int} (h : inI x) : wrap64 x = x := by unfold inI at h; unfold wrap64; omega
theorem floor_in {t v : Int} (ht : inI t) (hv : 1 ≤ v) : inI (t / v) := by
  unfold inI at *
  rcases Int.lt_or_le t 0 with h | h
  · have h1 : t ≤ t / v := (Int.le_ediv_iff_mul_le (by omega)).2 (by have := Int.mul_le_mul_of_nonpos_left (show t ≤ 0 by omega) hv; omega)
    have h2 : t / v < 1 := (Int.ediv_lt_iff_lt_mul (by omega)).2 (by omega)
    omega
  · have h1 : 0 ≤ t / v := Int.ediv_nonneg h (by omega)
    have h2 : t / v ≤ t := Int.ediv_le_self _ h
    omega
theorem tdiv_in {t v : Int} (ht : inI t) (hv : 1 ≤ v) (hv2 : v ≤ 9223372036854775807) : inI (Int.tdiv t v) ∧ (¬ Int.tmod t v < 0 → Int.tdiv t v = t / v) ∧ (Int.tmod t v < 0 → Int.tdiv t v - 1 = t / v) ∧ inI (Int.tmod t v) := by
  have hf := floor_in ht hv
  rcases Int.lt_or_le t 0 with h | h
  · obtain ⟨s, rfl⟩ : ∃ s : Int, t = -s := ⟨-t, by omega⟩
    have h0 : 0 ≤ s := by omega
    have e1 : Int.tdiv (-s) v = -(s / v) := by rw [Int.neg_tdiv, Int.tdiv_eq_ediv_of_nonneg h0]
    have e2 : Int.tmod (-s) v = -(s % v) := by rw [Int.neg_tmod, Int.tmod_eq_emod_of_nonneg h0]
    have hm0 := Int.emod_nonneg s (show v ≠ 0 by omega)
    have hm1 := Int.emod_lt_of_pos s (show 0 < v by omega)
    have hd := Int.mul_ediv_add_emod s v
    have hq0 : 0 ≤ s / v := Int.ediv_nonneg h0 (by omega)
    have hq1 : s / v ≤ s := Int.ediv_le_self _ h0
    rw [e1, e2]
    refine ⟨by unfold inI at *; omega, fun hneg => ?_, fun hneg => ?_, by unfold inI; omega⟩
    · have hz : s % v = 0 := by omega
      exact (((Int.ediv_emod_unique (a := -s) (b := v) (q := -(s / v)) (r := 0) (by omega)).2 ⟨by rw [Int.mul_neg]; omega, by omega, by omega⟩).1).symm
    · exact (((Int.ediv_emod_unique (a := -s) (b := v) (q := -(s / v) - 1) (r := v - s % v) (by omega)).2 ⟨by rw [Int.mul_sub, Int.mul_neg, Int.mul_one]; omega, by omega, by omega⟩).1).symm
  · have e1 := Int.tdiv_eq_ediv_of_nonneg (b := v) h
    have e2 := Int.tmod_eq_emod_of_nonneg (b := v) h
    have h3 := Int.emod_nonneg t (show v ≠ 0 by omega)
    have h4 := Int.emod_lt_of_pos t (show 0 < v by omega)
    rw [e1, e2]
    unfold inI at *
    exact ⟨hf, fun _ => rfl, fun h2 => absurd h2 (by omega), by omega⟩
theorem bucket_calls (t v : Int) (w : World) (ht : inI t) (hv : v ≤ 9223372036854775807) :
    Calls Tryz.prog 28 #[.int .i64 t, .int .i64 v] w fun e w' => e = .returned (.tuple #[.int .i64 (if v < 1 then 0 else bucketF t v), .int .i64 (if v < 1 then 10 else 0)]) ∧ w' = w := by
  by_cases hv1 : v < 1
  · have d0 : decide (v < 1) = true := decide_eq_true hv1
    rw [if_pos hv1, if_pos hv1]
    go_enter Tryz.func28, Tryz.ntmps28
    go_wp2
    go_ret2
    exact ⟨rfl, rfl⟩
  · have d0 : decide (v < 1) = false := decide_eq_false hv1
    rw [if_neg hv1, if_neg hv1]
    have hz : (v == 0) = false := beq_eq_false_iff_ne.2 (by omega)
    obtain ⟨g1, g2, g3, g4⟩ := tdiv_in ht (show 1 ≤ v by omega) hv
    have hq : wrap64 (Int.tdiv t v) = Int.tdiv t v := wrap_inI g1
    have hr : wrap64 (Int.tmod t v) = Int.tmod t v := wrap_inI g4
    have HF := Aside0.mk (floor_in ht (show 1 ≤ v by omega))
    unfold bucketF
    by_cases hm : Int.tmod t v < 0
    · have d1 : decide (Int.tmod t v < 0) = true := decide_eq_true hm
      have HFIN := Aside0.mk (show wrap64 (Int.tdiv t v - 1) = t / v by rw [g3 hm]; exact wrap_inI HF.out)
      clear hm g1 g2 g3 g4
      go_enter Tryz.func28, Tryz.ntmps28
      go_wp2
      go_ret2
      exact ⟨by rw [← HFIN.out]; rfl, rfl⟩
    · have d1 : decide (Int.tmod t v < 0) = false := decide_eq_false hm
      have HFIN := Aside0.mk (g2 hm)
      clear hm g1 g2 g3 g4
      go_enter Tryz.func28, Tryz.ntmps28
      go_wp2
      go_ret2
      exact ⟨by rw [← HFIN.out]; rfl, rfl⟩
theorem turn_bad (t v : Int) (w : World) (ht : inI t) (hv : v < 1) :
    Calls Tryz.prog 29 #[.int .i64 t, .int .i64 v] w fun e w' => e = .returned (.tuple #[.complex .f64 0 0, .int .i64 10]) ∧ w' = w := by
  have hb := bucket_calls t v w ht (by omega)
  rw [if_pos hv, if_pos hv] at hb
  have HB := Aside0.mk hb
  clear hb
  go_enter Tryz.func29, Tryz.ntmps29
  go_wp2_with (go_at_call 28; refine HB.out.mono ?_; rintro e w1 ⟨rfl, rfl⟩)
  go_ret2
  exact ⟨rfl, rfl⟩
theorem and3 (n : Int) : Go.bits .and .i64 n 3 = n % 4 := by
  have h3 : (BitVec.ofInt 64 3).toNat = 2 ^ 2 - 1 := by decide
  have key : (BitVec.ofInt 64 n &&& BitVec.ofInt 64 3).toNat = (n % ((2 ^ 64 : Nat) : Int)).toNat % 2 ^ 2 := by
    rw [BitVec.toNat_and, BitVec.toNat_ofInt, h3, Nat.and_two_pow_sub_one_eq_mod]
  show IntKind.i64.wrap ((BitVec.ofInt 64 n &&& BitVec.ofInt 64 3).toNat : Nat) = n % 4
  rw [key, IntKind.wrap_i64]
  omega
/-- The directions, as the multiplications by 1i leave them. -/
def dirQ : Nat → Value
  | 0 => .complex .f64 4607182418800017408 0
  | 1 => .complex .f64 0 4607182418800017408
  | 2 => .complex .f64 13830554455654793216 0
  | _ => .complex .f64 9223372036854775808 13830554455654793216
theorem dir_mul (j : Nat) (h : j < 3) (w : World) : (binOp .mul 56 (dirQ j) (.complex .f64 0 4607182418800017408)).run Tryz.prog w = .ok (dirQ (j + 1)) w := by
  match j, h with
  | 0, _ => exact (show (binOp .mul 56 (Value.complex .f64 4607182418800017408 0) (.complex .f64 0 4607182418800017408)).run Tryz.prog w = .ok (Value.complex .f64 0 4607182418800017408) w by kernel_rfl)
  | 1, _ => exact (show (binOp .mul 56 (Value.complex .f64 0 4607182418800017408) (.complex .f64 0 4607182418800017408)).run Tryz.prog w = .ok (Value.complex .f64 13830554455654793216 0) w by kernel_rfl)
  | 2, _ => exact (show (binOp .mul 56 (Value.complex .f64 13830554455654793216 0) (.complex .f64 0 4607182418800017408)).run Tryz.prog w = .ok (Value.complex .f64 9223372036854775808 13830554455654793216) w by kernel_rfl)
theorem turn_ok (t v : Int) (w : World) (ht : inI t) (hv : 1 ≤ v) (hv2 : v ≤ 9223372036854775807) (q : Nat) (hq : ((bucketF t v) % 4).toNat = q) :
    Calls Tryz.prog 29 #[.int .i64 t, .int .i64 v] w fun e w' => e = .returned (.tuple #[dirQ q, .int .i64 0]) ∧ w' = w := by
  have hb := bucket_calls t v w ht (by omega)
  rw [if_neg (by omega), if_neg (by omega)] at hb
  have HB := Aside0.mk hb
  clear hb
  generalize bucketF t v = b at HB hq
  have hbits : Go.bits .and .i64 b 3 = (q : Int) := by rw [and3]; omega
  have HQ := Aside0.mk (show q ≤ 3 by omega)
  clear hq
  go_enter Tryz.func29, Tryz.ntmps29
  go_wp2_with (go_at_call 28; refine HB.out.mono ?_; rintro e w1 ⟨rfl, rfl⟩)
  go_loopg [8, 20] q (fun kq v8 v20 wr => ∃ j : Nat, v20 = .int .i64 (j : Int) ∧ v8 = dirQ j ∧ wr = w1 ∧ Aside0 (kq + j = q))
  case atStart => exact ⟨0, rfl, rfl, rfl, ⟨by omega⟩⟩
  case round =>
    obtain ⟨j, rfl, rfl, rfl, HJ⟩ := hrel
    by_cases hj : j < q
    · have d0 : decide ((j : Int) < (q : Int)) = true := decide_eq_true (by omega)
      have d1 : decide (j < q) = true := decide_eq_true hj
      have hm := dir_mul j (by have := HQ.out; omega) wr
      have HJ2 := Aside0.mk hj
      have HW := Aside0.mk (show wrap64 ((j : Int) + 1) = ((j + 1 : Nat) : Int) by have := HQ.out; unfold wrap64; omega)
      clear hj
      go_wp2
      go_roundg (q - (j + 1))
      case measure => have := HJ.out; have := HJ2.out; omega
      case rel => exact ⟨j + 1, by first | rfl | rw [HW.out] | go_num, rfl, rfl, ⟨by have := HJ2.out; omega⟩⟩
    · have d0 : decide ((j : Int) < (q : Int)) = false := decide_eq_false (by omega)
      have d1 : decide (j < q) = false := decide_eq_false hj
      obtain rfl : j = q := by have := HJ.out; omega
      go_wp2
      go_ret2
      exact ⟨rfl, rfl⟩
/-! ### the reference's -/
theorem refBucket_calls (t v : Int) (w : World) (ht : inI t) (hv : 1 ≤ v) (hv2 : v ≤ 9223372036854775807) :
    Calls Tryz.prog 30 #[.int .i64 t, .int .i64 v] w fun e w' => e = .returned (.int .i64 (bucketF t v)) ∧ Below w.heap.size w w' := by
  have hz : (v == 0) = false := beq_eq_false_iff_ne.2 (by omega)
  have hf := floor_in ht hv
  by_cases h0 : 0 ≤ t
  · have d0 : decide (0 ≤ t) = true := decide_eq_true h0
    have e1 : Int.tdiv t v = t / v := Int.tdiv_eq_ediv_of_nonneg h0
    have HFIN := Aside0.mk (show wrap64 (Int.tdiv t v) = t / v by rw [e1]; exact wrap_inI hf)
    clear hf e1
    go_enter Tryz.func30, Tryz.ntmps30
    go_wp2
    go_ret
    exact ⟨by unfold bucketF; rw [← HFIN.out]; rfl, Below.refl _ _⟩
  · have d0 : decide (0 ≤ t) = false := decide_eq_false h0
    have h1 : 0 ≤ -1 - t := by omega
    have e0 : wrap64 (-1 - t) = -1 - t := by unfold inI at ht; unfold wrap64; omega
    have hn : inI ((-1 - t) / v) := floor_in (by unfold inI at *; omega) hv
    have e1 : Int.tdiv (-1 - t) v = (-1 - t) / v := Int.tdiv_eq_ediv_of_nonneg h1
    have e2 : wrap64 (Int.tdiv (-1 - t) v) = Int.tdiv (-1 - t) v := by rw [e1]; exact wrap_inI hn
    have e3 : -1 - (-1 - t) / v = t / v := by
      have hd := Int.mul_ediv_add_emod (-1 - t) v
      have hm0 := Int.emod_nonneg (-1 - t) (show v ≠ 0 by omega)
      have hm1 := Int.emod_lt_of_pos (-1 - t) (show 0 < v by omega)
      exact (((Int.ediv_emod_unique (a := t) (b := v) (q := -1 - (-1 - t) / v) (r := v - 1 - (-1 - t) % v) (by omega)).2 ⟨by rw [Int.mul_sub, Int.mul_neg, Int.mul_one]; omega, by omega, by omega⟩).1).symm
    have HFIN := Aside0.mk (show wrap64 (-1 - wrap64 ((-1 - t) / v)) = t / v by rw [wrap_inI hn, e3]; exact wrap_inI hf)
    clear hf hn e3
    go_enter Tryz.func30, Tryz.ntmps30
    go_wp2
    go_ret
    exact ⟨by unfold bucketF; rw [← HFIN.out]; rfl, Below.refl _ _⟩
theorem refQuarter_calls (b : Int) (w : World) (hb : inI b) :
    Calls Tryz.prog 31 #[.int .i64 b] w fun e w' => e = .returned (.int .i64 (b % 4)) ∧ Below w.heap.size w w' := by
  have HFIN := Aside0.mk (show (wrap64 (b.tmod 4 + 4)).tmod 4 = b % 4 by
    have h1 : b.tmod 4 = if 0 ≤ b then b % 4 else -((-b) % 4) := by
      split
      · exact Int.tmod_eq_emod_of_nonneg (by assumption)
      · have e : b.tmod 4 = -((-b).tmod 4) := by rw [Int.neg_tmod]; omega
        rw [e, Int.tmod_eq_emod_of_nonneg (by omega)]
    have h2 : wrap64 (b.tmod 4 + 4) = b.tmod 4 + 4 := by rw [h1]; unfold wrap64; split <;> omega
    rw [h2, Int.tmod_eq_emod_of_nonneg (by rw [h1]; split <;> omega), h1]
    split <;> omega)
  go_enter Tryz.func31, Tryz.ntmps31
  go_wp2
  go_ret
  exact ⟨by rw [← HFIN.out]; rfl, Below.refl _ _⟩
end Go.Proofs.YtehaodbheifokaaGreatDoor.P
