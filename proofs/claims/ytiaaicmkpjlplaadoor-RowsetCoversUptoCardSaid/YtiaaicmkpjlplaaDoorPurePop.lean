/- bits.OnesCount64 counts bits: byte by byte; what two words have together and what one of them has are as many as both. -/
import Derived.Test.YtiaaicmkpjlplaaDoorPureBits
import Derived.Test.YtiaaicmkpjlplaaDoorP1
namespace Go.Proofs.YtiaaicmkpjlplaaDoor.Pure
open Go Go.RowKit Go.Proofs.YtiaaicmkpjlplaaDoorW.PrintWords Go.Proofs.YtiaaicmkpjlplaaDoorW.PrintLast Go.Proofs.YtiaaicmkpjlplaaDoorW.PrintMore Go.Proofs.YtiaaicmkpjlplaaDoor.P
set_option linter.unusedVariables false

theorem and_cat {b m : Nat} (r M : Nat) (hb : b < 256) (hm : m < 256) : (b + 256 * r) &&& (m + 256 * M) = (b &&& m) + 256 * (r &&& M) := by
  have h1 : b &&& m < 2 ^ 8 := Nat.and_lt_two_pow b (by omega)
  apply Nat.eq_of_testBit_eq
  intro i
  rw [Nat.testBit_and, show b + 256 * r = 2 ^ 8 * r + b by omega, show m + 256 * M = 2 ^ 8 * M + m by omega, show (b &&& m) + 256 * (r &&& M) = 2 ^ 8 * (r &&& M) + (b &&& m) by omega,
    Nat.testBit_two_pow_mul_add _ (by omega), Nat.testBit_two_pow_mul_add _ (by omega), Nat.testBit_two_pow_mul_add _ h1]
  split
  · rw [Nat.testBit_and]
  · rw [Nat.testBit_and]
def h1 (b : Nat) : Nat := (b / 2 &&& 85) + (b &&& 85)
def h2 (b : Nat) : Nat := (b / 4 &&& 51) + (b &&& 51)
def h3 (b : Nat) : Nat := (b / 16 + b) % 16
def pb (b : Nat) : Nat := h3 (h2 (h1 b))
theorem low1 : ∀ (b : Fin 256) (p : Fin 2), (b.val / 2 + 128 * p.val) &&& 85 = b.val / 2 &&& 85 := by decide +kernel
theorem low2 : ∀ (b : Fin 256) (p : Fin 4), (b.val / 4 + 64 * p.val) &&& 51 = b.val / 4 &&& 51 := by decide +kernel
theorem h1_lt : ∀ b : Fin 256, h1 b.val < 256 := by decide +kernel
theorem h2_lt : ∀ b : Fin 256, h2 (h1 b.val) ≤ 68 ∧ h2 (h1 b.val) % 16 ≤ 4 := by decide +kernel
theorem pb_le : ∀ b : Fin 256, pb b.val ≤ 8 := by decide +kernel
theorem pb_nib : ∀ b : Fin 256, pb b.val = pb (b.val % 16) + pb (b.val / 16) := by decide +kernel
theorem pn_add : ∀ b c : Fin 16, pb (b.val &&& c.val) + pb (b.val ||| c.val) = pb b.val + pb c.val := by decide +kernel
theorem pb_add (b c : Nat) (hb : b < 256) (hc : c < 256) : pb (b &&& c) + pb (b ||| c) = pb b + pb c := by
  have e1 : b &&& c < 2 ^ 8 := Nat.and_lt_two_pow b (by omega)
  have e2 : b ||| c < 2 ^ 8 := Nat.or_lt_two_pow (by omega) (by omega)
  have n1 := pb_nib ⟨b &&& c, e1⟩
  have n2 := pb_nib ⟨b ||| c, e2⟩
  have n3 := pb_nib ⟨b, hb⟩
  have n4 := pb_nib ⟨c, hc⟩
  have a1 := pn_add ⟨b % 16, by omega⟩ ⟨c % 16, by omega⟩
  have a2 := pn_add ⟨b / 16, by omega⟩ ⟨c / 16, by omega⟩
  simp only at n1 n2 n3 n4 a1 a2
  rw [show (16 : Nat) = 2 ^ 4 from rfl] at n1 n2 n3 n4 a1 a2
  rw [Nat.and_mod_two_pow, Nat.and_div_two_pow] at n1
  rw [Nat.or_mod_two_pow, Nat.or_div_two_pow] at n2
  omega
def F1 (x M : Nat) : Nat := (x / 2 &&& M) + (x &&& M)
def F2 (x M : Nat) : Nat := (x / 4 &&& M) + (x &&& M)
def F3 (x M : Nat) : Nat := (x / 16 + x) &&& M
theorem F1_cat {b : Nat} (r M : Nat) (hb : b < 256) : F1 (b + 256 * r) (85 + 256 * M) = h1 b + 256 * F1 r M := by
  unfold F1 h1
  rw [show (b + 256 * r) / 2 = (b / 2 + 128 * (r % 2)) + 256 * (r / 2) by omega, and_cat _ _ (by omega) (by omega), and_cat _ _ hb (by omega)]
  have := low1 ⟨b, hb⟩ ⟨r % 2, by omega⟩
  simp only at this
  rw [this]
  omega
theorem F2_cat {b : Nat} (r M : Nat) (hb : b < 256) : F2 (b + 256 * r) (51 + 256 * M) = h2 b + 256 * F2 r M := by
  unfold F2 h2
  rw [show (b + 256 * r) / 4 = (b / 4 + 64 * (r % 4)) + 256 * (r / 4) by omega, and_cat _ _ (by omega) (by omega), and_cat _ _ hb (by omega)]
  have := low2 ⟨b, hb⟩ ⟨r % 4, by omega⟩
  simp only at this
  rw [this]
  omega
theorem F3_cat {b : Nat} (r M : Nat) (hb : b ≤ 68) (hr : r % 16 ≤ 4) : F3 (b + 256 * r) (15 + 256 * M) = h3 b + 256 * F3 r M := by
  unfold F3 h3
  rw [show (b + 256 * r) / 16 + (b + 256 * r) = (b / 16 + b + 16 * (r % 16)) + 256 * (r / 16 + r) by omega, and_cat _ _ (by omega) (by omega)]
  have h : ∀ n : Nat, n &&& 15 = n % 16 := fun n => Nat.and_two_pow_sub_one_eq_mod n 4
  rw [h]
  omega
def cat8 (a b c d e f g h : Nat) : Nat := a + 256 * (b + 256 * (c + 256 * (d + 256 * (e + 256 * (f + 256 * (g + 256 * (h + 256 * 0)))))))
def by8 (x j : Nat) : Nat := x / 256 ^ j % 256
theorem by8_lt (x j : Nat) : by8 x j < 256 := Nat.mod_lt _ (by omega)
theorem cat_by {x : Nat} (h : x < 2 ^ 64) : x = cat8 (by8 x 0) (by8 x 1) (by8 x 2) (by8 x 3) (by8 x 4) (by8 x 5) (by8 x 6) (by8 x 7) := by
  unfold cat8 by8
  simp only [Nat.reducePow]
  omega
def popc (x : Nat) : Nat := pb (by8 x 0) + pb (by8 x 1) + pb (by8 x 2) + pb (by8 x 3) + pb (by8 x 4) + pb (by8 x 5) + pb (by8 x 6) + pb (by8 x 7)
theorem pb_lt {b : Nat} (h : b < 256) : pb b ≤ 8 := pb_le ⟨b, h⟩
theorem popc_le (x : Nat) : popc x ≤ 64 := by
  unfold popc
  have := pb_lt (by8_lt x 0)
  have := pb_lt (by8_lt x 1)
  have := pb_lt (by8_lt x 2)
  have := pb_lt (by8_lt x 3)
  have := pb_lt (by8_lt x 4)
  have := pb_lt (by8_lt x 5)
  have := pb_lt (by8_lt x 6)
  have := pb_lt (by8_lt x 7)
  omega
theorem by8_and (x y j : Nat) : by8 (x &&& y) j = by8 x j &&& by8 y j := by
  unfold by8
  rw [show (256 : Nat) ^ j = 2 ^ (8 * j) by rw [Nat.pow_mul], show (256 : Nat) = 2 ^ 8 from rfl]
  apply Nat.eq_of_testBit_eq
  intro i
  simp only [Nat.testBit_and, Nat.testBit_mod_two_pow, Nat.testBit_div_two_pow]
  cases decide (i < 8) <;> simp
theorem by8_or (x y j : Nat) : by8 (x ||| y) j = by8 x j ||| by8 y j := by
  unfold by8
  rw [show (256 : Nat) ^ j = 2 ^ (8 * j) by rw [Nat.pow_mul], show (256 : Nat) = 2 ^ 8 from rfl]
  apply Nat.eq_of_testBit_eq
  intro i
  simp only [Nat.testBit_or, Nat.testBit_mod_two_pow, Nat.testBit_div_two_pow]
  cases decide (i < 8) <;> simp
theorem popc_add (x y : Nat) : popc (x &&& y) + popc (x ||| y) = popc x + popc y := by
  have h : ∀ j, pb (by8 (x &&& y) j) + pb (by8 (x ||| y) j) = pb (by8 x j) + pb (by8 y j) := fun j => by
    rw [by8_and, by8_or]
    exact pb_add _ _ (by8_lt x j) (by8_lt y j)
  unfold popc
  have := h 0
  have := h 1
  have := h 2
  have := h 3
  have := h 4
  have := h 5
  have := h 6
  have := h 7
  omega
theorem st_and {x m : Nat} (hx : x < 2 ^ 64) (hm : m < 2 ^ 64) : Go.bits .and .u64 (x : Int) (m : Int) = ((x &&& m : Nat) : Int) := (bits_nat .u64 64 (by decide) (fun n h0 h1 => wrapU ⟨h0, by omega⟩) x m hx hm).1
theorem wrapN {n : Nat} (h : n < 2 ^ 64) : IntKind.u64.wrap (n : Int) = (n : Int) := wrapU ⟨by omega, by omega⟩
theorem st1 {x : Nat} (hx : x < 2 ^ 64) (hs : F1 x 6148914691236517205 < 2 ^ 64) : IntKind.u64.wrap (Go.bits .and .u64 ((x : Int) / 2) 6148914691236517205 + Go.bits .and .u64 (x : Int) 6148914691236517205) = ((F1 x 6148914691236517205 : Nat) : Int) := by
  have a := st_and (x := x / 2) (m := 6148914691236517205) (by omega) (by omega)
  have b := st_and (x := x) (m := 6148914691236517205) hx (by omega)
  have e : ((x / 2 : Nat) : Int) = (x : Int) / 2 := by omega
  rw [e] at a
  have a' : Go.bits .and .u64 ((x : Int) / 2) 6148914691236517205 = ((x / 2 &&& 6148914691236517205 : Nat) : Int) := a
  have b' : Go.bits .and .u64 (x : Int) 6148914691236517205 = ((x &&& 6148914691236517205 : Nat) : Int) := b
  rw [a', b', ← Int.natCast_add]
  exact wrapN hs
theorem st2 {x : Nat} (hx : x < 2 ^ 64) (hs : F2 x 3689348814741910323 < 2 ^ 64) : IntKind.u64.wrap (Go.bits .and .u64 ((x : Int) / 4) 3689348814741910323 + Go.bits .and .u64 (x : Int) 3689348814741910323) = ((F2 x 3689348814741910323 : Nat) : Int) := by
  have a := st_and (x := x / 4) (m := 3689348814741910323) (by omega) (by omega)
  have b := st_and (x := x) (m := 3689348814741910323) hx (by omega)
  have e : ((x / 4 : Nat) : Int) = (x : Int) / 4 := by omega
  rw [e] at a
  have a' : Go.bits .and .u64 ((x : Int) / 4) 3689348814741910323 = ((x / 4 &&& 3689348814741910323 : Nat) : Int) := a
  have b' : Go.bits .and .u64 (x : Int) 3689348814741910323 = ((x &&& 3689348814741910323 : Nat) : Int) := b
  rw [a', b', ← Int.natCast_add]
  exact wrapN hs
theorem st3 {x : Nat} (hs : x / 16 + x < 2 ^ 64) : Go.bits .and .u64 (IntKind.u64.wrap ((x : Int) / 16 + (x : Int))) 1085102592571150095 = ((F3 x 1085102592571150095 : Nat) : Int) := by
  have e : (x : Int) / 16 + (x : Int) = ((x / 16 + x : Nat) : Int) := by omega
  rw [e, wrapN hs]
  exact st_and (x := x / 16 + x) (m := 1085102592571150095) hs (by omega)
theorem st4 {x d : Nat} (hs : x + x / d < 2 ^ 64) : IntKind.u64.wrap ((x : Int) + (x : Int) / (d : Int)) = ((x + x / d : Nat) : Int) := by
  have e : (x : Int) + (x : Int) / (d : Int) = ((x + x / d : Nat) : Int) := by rw [Int.natCast_add, Int.natCast_ediv]
  rw [e, wrapN hs]
theorem stp {a R B : Nat} (ha : a < 256) (hR : R < B) : a + 256 * R < 256 * B := by omega
theorem cat8_lt {a b c d e f g h : Nat} (a0 : a < 256) (a1 : b < 256) (a2 : c < 256) (a3 : d < 256) (a4 : e < 256) (a5 : f < 256) (a6 : g < 256) (a7 : h < 256) : cat8 a b c d e f g h < 2 ^ 64 :=
  Nat.lt_of_lt_of_le (stp a0 (stp a1 (stp a2 (stp a3 (stp a4 (stp a5 (stp a6 (stp a7 (Nat.zero_lt_one))))))))) (by decide)
theorem cat8_le {a b c d e f g h : Nat} (a0 : a ≤ 68) (a1 : b ≤ 68) (a2 : c ≤ 68) (a3 : d ≤ 68) (a4 : e ≤ 68) (a5 : f ≤ 68) (a6 : g ≤ 68) (a7 : h ≤ 68) : cat8 a b c d e f g h < 4980000000000000000 :=
  Nat.lt_of_lt_of_le (stp (by omega) (stp (by omega) (stp (by omega) (stp (by omega) (stp (by omega) (stp (by omega) (stp (by omega) (show h + 256 * 0 < 69 by omega)))))))) (by decide)
theorem div1 (a R : Nat) (h : a < 256) : (a + 256 * R) / 256 = R := by omega
theorem div2 (a b R : Nat) (h : a < 256) (k : b < 256) : (a + 256 * (b + 256 * R)) / 65536 = R := by omega
theorem div4 (a b c d R : Nat) (h : a < 256) (k : b < 256) (h2 : c < 256) (k2 : d < 256) : (a + 256 * (b + 256 * (c + 256 * (d + 256 * R)))) / 4294967296 = R := by
  rw [show (4294967296 : Nat) = 65536 * 65536 from rfl, ← Nat.div_div_eq_div_mul, div2 a b _ h k, div2 c d _ h2 k2]
theorem room {z d : Nat} (h : z < 4980000000000000000) : z + z / d < 2 ^ 64 := by
  have := Nat.div_le_self z d
  omega
theorem mod8 (s T : Nat) (h : s ≤ 64) : (s + 256 * T) % 128 = s := by omega
theorem and127 {v : Nat} (h : v < 9000000000000000000) : Go.bits .and .i64 (wrap64 (v : Int)) 127 = ((v % 128 : Nat) : Int) := by
  have hw : wrap64 (v : Int) = (v : Int) := by unfold wrap64; omega
  rw [hw]
  have hr : Go.bits .and .i64 (v : Int) 127 = ((v &&& 127 : Nat) : Int) := (bits_nat .i64 63 (by decide) (fun n h0 h1 => by simp [IntKind.wrap, IntKind.bits, IntKind.signed]; omega) v 127 (by omega) (by omega)).1
  rw [hr, show (127 : Nat) = 2 ^ 7 - 1 from rfl, Nat.and_two_pow_sub_one_eq_mod v 7]
theorem last8 (a0 a1 a2 a3 a4 a5 a6 a7 : Nat) (q0 : a0 ≤ 8) (q1 : a1 ≤ 8) (q2 : a2 ≤ 8) (q3 : a3 ≤ 8) (q4 : a4 ≤ 8) (q5 : a5 ≤ 8) (q6 : a6 ≤ 8) (q7 : a7 ≤ 8) :
    some (Go.bits .and .i64 (wrap64 (IntKind.u64.wrap ((IntKind.u64.wrap ((IntKind.u64.wrap (((cat8 a0 a1 a2 a3 a4 a5 a6 a7 : Nat) : Int) + (((cat8 a0 a1 a2 a3 a4 a5 a6 a7 : Nat) : Int) / 256))) + ((IntKind.u64.wrap (((cat8 a0 a1 a2 a3 a4 a5 a6 a7 : Nat) : Int) + (((cat8 a0 a1 a2 a3 a4 a5 a6 a7 : Nat) : Int) / 256))) / 65536))) + ((IntKind.u64.wrap ((IntKind.u64.wrap (((cat8 a0 a1 a2 a3 a4 a5 a6 a7 : Nat) : Int) + (((cat8 a0 a1 a2 a3 a4 a5 a6 a7 : Nat) : Int) / 256))) + ((IntKind.u64.wrap (((cat8 a0 a1 a2 a3 a4 a5 a6 a7 : Nat) : Int) + (((cat8 a0 a1 a2 a3 a4 a5 a6 a7 : Nat) : Int) / 256))) / 65536))) / 4294967296)))) 127) = some ((a0 + a1 + a2 + a3 + a4 + a5 + a6 + a7 : Nat) : Int) := by
  have x1 : cat8 a0 a1 a2 a3 a4 a5 a6 a7 + cat8 a0 a1 a2 a3 a4 a5 a6 a7 / 256 = cat8 (a0 + a1) (a1 + a2) (a2 + a3) (a3 + a4) (a4 + a5) (a5 + a6) (a6 + a7) a7 := by
    unfold cat8
    rw [div1 _ _ (by omega)]
    clear q0 q1 q2 q3 q4 q5 q6 q7
    omega
  have x2 : cat8 (a0 + a1) (a1 + a2) (a2 + a3) (a3 + a4) (a4 + a5) (a5 + a6) (a6 + a7) a7 + cat8 (a0 + a1) (a1 + a2) (a2 + a3) (a3 + a4) (a4 + a5) (a5 + a6) (a6 + a7) a7 / 65536 = cat8 (a0 + a1 + (a2 + a3)) (a1 + a2 + (a3 + a4)) (a2 + a3 + (a4 + a5)) (a3 + a4 + (a5 + a6)) (a4 + a5 + (a6 + a7)) (a5 + a6 + a7) (a6 + a7) a7 := by
    unfold cat8
    rw [div2 _ _ _ (by omega) (by omega)]
    clear q0 q1 q2 q3 q4 q5 q6 q7 x1
    omega
  have x3 : ∃ T, cat8 (a0 + a1 + (a2 + a3)) (a1 + a2 + (a3 + a4)) (a2 + a3 + (a4 + a5)) (a3 + a4 + (a5 + a6)) (a4 + a5 + (a6 + a7)) (a5 + a6 + a7) (a6 + a7) a7 + cat8 (a0 + a1 + (a2 + a3)) (a1 + a2 + (a3 + a4)) (a2 + a3 + (a4 + a5)) (a3 + a4 + (a5 + a6)) (a4 + a5 + (a6 + a7)) (a5 + a6 + a7) (a6 + a7) a7 / 4294967296 = (a0 + a1 + a2 + a3 + a4 + a5 + a6 + a7) + 256 * T := by
    refine ⟨((a1 + a2 + (a3 + a4)) + 256 * ((a2 + a3 + (a4 + a5)) + 256 * ((a3 + a4 + (a5 + a6)) + 256 * ((a4 + a5 + (a6 + a7)) + 256 * ((a5 + a6 + a7) + 256 * ((a6 + a7) + 256 * (a7 + 256 * 0))))))) + ((a5 + a6 + a7) + 256 * ((a6 + a7) + 256 * (a7 + 256 * 0))), ?_⟩
    unfold cat8
    rw [div4 _ _ _ _ _ (by omega) (by omega) (by omega) (by omega)]
    clear q0 q1 q2 q3 q4 q5 q6 q7 x1 x2
    omega
  obtain ⟨T, x3⟩ := x3
  have b1 := cat8_le (show a0 ≤ 68 by omega) (show a1 ≤ 68 by omega) (show a2 ≤ 68 by omega) (show a3 ≤ 68 by omega) (show a4 ≤ 68 by omega) (show a5 ≤ 68 by omega) (show a6 ≤ 68 by omega) (show a7 ≤ 68 by omega)
  have b2 := cat8_le (show a0 + a1 ≤ 68 by omega) (show a1 + a2 ≤ 68 by omega) (show a2 + a3 ≤ 68 by omega) (show a3 + a4 ≤ 68 by omega) (show a4 + a5 ≤ 68 by omega) (show a5 + a6 ≤ 68 by omega) (show a6 + a7 ≤ 68 by omega) (show a7 ≤ 68 by omega)
  have b3 := cat8_le (show a0 + a1 + (a2 + a3) ≤ 68 by omega) (show a1 + a2 + (a3 + a4) ≤ 68 by omega) (show a2 + a3 + (a4 + a5) ≤ 68 by omega) (show a3 + a4 + (a5 + a6) ≤ 68 by omega) (show a4 + a5 + (a6 + a7) ≤ 68 by omega) (show a5 + a6 + a7 ≤ 68 by omega) (show a6 + a7 ≤ 68 by omega) (show a7 ≤ 68 by omega)
  have hs : a0 + a1 + a2 + a3 + a4 + a5 + a6 + a7 ≤ 64 := by omega
  clear q0 q1 q2 q3 q4 q5 q6 q7
  generalize cat8 a0 a1 a2 a3 a4 a5 a6 a7 = X at *
  generalize cat8 (a0 + a1) (a1 + a2) (a2 + a3) (a3 + a4) (a4 + a5) (a5 + a6) (a6 + a7) a7 = Y at *
  generalize cat8 (a0 + a1 + (a2 + a3)) (a1 + a2 + (a3 + a4)) (a2 + a3 + (a4 + a5)) (a3 + a4 + (a5 + a6)) (a4 + a5 + (a6 + a7)) (a5 + a6 + a7) (a6 + a7) a7 = Z at *
  generalize a0 + a1 + a2 + a3 + a4 + a5 + a6 + a7 = s at *
  have e4 : IntKind.u64.wrap ((X : Int) + (X : Int) / 256) = ((X + X / 256 : Nat) : Int) := st4 (d := 256) (room b1)
  rw [x1] at e4
  have e5 : IntKind.u64.wrap ((Y : Int) + (Y : Int) / 65536) = ((Y + Y / 65536 : Nat) : Int) := st4 (d := 65536) (room b2)
  rw [x2] at e5
  have e6 : IntKind.u64.wrap ((Z : Int) + (Z : Int) / 4294967296) = ((Z + Z / 4294967296 : Nat) : Int) := st4 (d := 4294967296) (room b3)
  rw [e4, e5, e6]
  have hv : Z + Z / 4294967296 < 9000000000000000000 := by
    clear x1 x2 x3 e4 e5 e6
    omega
  rw [and127 hv, x3, mod8 s T hs]
theorem ones_f {x : Nat} (hx : x < 2 ^ 64) : bits_OnesCount64.f (x : Int) = some ((popc x : Nat) : Int) := by
  have hb := cat_by hx
  have l : ∀ j, by8 x j < 256 := by8_lt x
  -- the three steps, byte by byte
  have k1 : ∀ j, h1 (by8 x j) < 256 := fun j => h1_lt ⟨_, l j⟩
  have k2 : ∀ j, h2 (h1 (by8 x j)) ≤ 68 ∧ h2 (h1 (by8 x j)) % 16 ≤ 4 := fun j => h2_lt ⟨_, l j⟩
  have k3 : ∀ j, h3 (h2 (h1 (by8 x j))) ≤ 8 := fun j => pb_lt (l j)
  have f1 : F1 x 6148914691236517205 = cat8 (h1 (by8 x 0)) (h1 (by8 x 1)) (h1 (by8 x 2)) (h1 (by8 x 3)) (h1 (by8 x 4)) (h1 (by8 x 5)) (h1 (by8 x 6)) (h1 (by8 x 7)) := by
    conv => lhs; rw [hb, show (6148914691236517205 : Nat) = 85 + 256 * (85 + 256 * (85 + 256 * (85 + 256 * (85 + 256 * (85 + 256 * (85 + 256 * (85 + 256 * 0))))))) from rfl]
    unfold cat8
    rw [F1_cat _ _ (l 0), F1_cat _ _ (l 1), F1_cat _ _ (l 2), F1_cat _ _ (l 3), F1_cat _ _ (l 4), F1_cat _ _ (l 5), F1_cat _ _ (l 6), F1_cat _ _ (l 7)]
    rfl
  have f2 : F2 (F1 x 6148914691236517205) 3689348814741910323 = cat8 (h2 (h1 (by8 x 0))) (h2 (h1 (by8 x 1))) (h2 (h1 (by8 x 2))) (h2 (h1 (by8 x 3))) (h2 (h1 (by8 x 4))) (h2 (h1 (by8 x 5))) (h2 (h1 (by8 x 6))) (h2 (h1 (by8 x 7))) := by
    rw [f1, show (3689348814741910323 : Nat) = 51 + 256 * (51 + 256 * (51 + 256 * (51 + 256 * (51 + 256 * (51 + 256 * (51 + 256 * (51 + 256 * 0))))))) from rfl]
    unfold cat8
    rw [F2_cat _ _ (k1 0), F2_cat _ _ (k1 1), F2_cat _ _ (k1 2), F2_cat _ _ (k1 3), F2_cat _ _ (k1 4), F2_cat _ _ (k1 5), F2_cat _ _ (k1 6), F2_cat _ _ (k1 7)]
    rfl
  have f3 : F3 (F2 (F1 x 6148914691236517205) 3689348814741910323) 1085102592571150095 = cat8 (pb (by8 x 0)) (pb (by8 x 1)) (pb (by8 x 2)) (pb (by8 x 3)) (pb (by8 x 4)) (pb (by8 x 5)) (pb (by8 x 6)) (pb (by8 x 7)) := by
    rw [f2, show (1085102592571150095 : Nat) = 15 + 256 * (15 + 256 * (15 + 256 * (15 + 256 * (15 + 256 * (15 + 256 * (15 + 256 * (15 + 256 * 0))))))) from rfl]
    unfold cat8 pb
    have m : ∀ (j r : Nat), (h2 (h1 (by8 x j)) + 256 * r) % 16 ≤ 4 := fun j r => by have := (k2 j).2; omega
    rw [F3_cat _ _ (k2 0).1 (m _ _), F3_cat _ _ (k2 1).1 (m _ _), F3_cat _ _ (k2 2).1 (m _ _), F3_cat _ _ (k2 3).1 (m _ _), F3_cat _ _ (k2 4).1 (m _ _), F3_cat _ _ (k2 5).1 (m _ _), F3_cat _ _ (k2 6).1 (m _ _), F3_cat _ _ (k2 7).1 (by omega)]
    rfl
  have p : ∀ j, pb (by8 x j) ≤ 8 := fun j => pb_lt (l j)
  have hp : popc x = pb (by8 x 0) + pb (by8 x 1) + pb (by8 x 2) + pb (by8 x 3) + pb (by8 x 4) + pb (by8 x 5) + pb (by8 x 6) + pb (by8 x 7) := rfl
  have s1 : F1 x 6148914691236517205 < 2 ^ 64 := by rw [f1]; exact cat8_lt (k1 0) (k1 1) (k1 2) (k1 3) (k1 4) (k1 5) (k1 6) (k1 7)
  have s2 : F2 (F1 x 6148914691236517205) 3689348814741910323 < 4980000000000000000 := by rw [f2]; exact cat8_le (k2 0).1 (k2 1).1 (k2 2).1 (k2 3).1 (k2 4).1 (k2 5).1 (k2 6).1 (k2 7).1
  have s3 : F2 (F1 x 6148914691236517205) 3689348814741910323 < 2 ^ 64 := Nat.lt_of_lt_of_le s2 (by decide)
  have s4 : F2 (F1 x 6148914691236517205) 3689348814741910323 / 16 + F2 (F1 x 6148914691236517205) 3689348814741910323 < 2 ^ 64 := by
    clear f3 f2 f1 hb
    generalize F2 (F1 x 6148914691236517205) 3689348814741910323 = z at s2
    omega
  unfold bits_OnesCount64.f
  rw [st1 hx s1, st2 s1 s3, st3 s4, f3, hp]
  exact last8 _ _ _ _ _ _ _ _ (p 0) (p 1) (p 2) (p 3) (p 4) (p 5) (p 6) (p 7)
end Go.Proofs.YtiaaicmkpjlplaaDoor.Pure
