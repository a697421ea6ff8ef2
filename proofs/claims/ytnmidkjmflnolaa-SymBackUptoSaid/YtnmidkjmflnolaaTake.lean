/- num.Take: the number that bytes begin with, in the printer's own form. -/
import Derived.Test.YtnmidkjmflnolaaPut
import Derived.Test.YtnmidkjmflnolaaPureBase
namespace Go.Proofs.Ytnmidkjmflnolaa.P
open Go.RowKit Go.Proofs.YtnmidkjmflnolaaW.PrintWords Go.Proofs.YtnmidkjmflnolaaW.PrintLast Go.Proofs.YtnmidkjmflnolaaW.PrintMore Go.Proofs.Ytnmidkjmflnolaa.Maps Go.Proofs.Ytnmidkjmflnolaa.Pure
attribute [local go_sem] max2_int min2_int max_two min_two max_three min_three max_four min_four
set_option linter.unusedVariables false
set_option linter.unusedSimpArgs false

def leVal : List Int → Int
  | [] => 0
  | x :: l => x + 256 * leVal l
theorem leVal_snoc : ∀ (l : List Int) (c : Int), leVal (l ++ [c]) = leVal l + c * 256 ^ l.length
  | [], c => by simp [leVal]
  | x :: l, c => by
    rw [List.cons_append, leVal, leVal_snoc l c, leVal, List.length_cons, Int.pow_succ, ← Int.mul_assoc]
    omega
theorem leVal_lt : ∀ (l : List Int), okbs l → 0 ≤ leVal l ∧ leVal l < 256 ^ l.length
  | [], _ => by simp [leVal]
  | x :: l, h => by
    have hx := h x (by simp)
    have ih := leVal_lt l (fun y hy => h y (by simp [hy]))
    unfold okb at hx
    rw [leVal, List.length_cons, Int.pow_succ]
    omega
theorem pow256 (n : Nat) : (2 : Int) ^ (8 * n) = 256 ^ n := by rw [Int.pow_mul]; rfl
theorem join64 (V c : Int) (n : Nat) (hn : n < 8) (h0 : 0 ≤ V) (h1 : V < 256 ^ n) (hc : okb c) : Go.bits .or .u64 V (IntKind.u64.wrap (c * 2 ^ (8 * n))) = V + c * 256 ^ n := by
  obtain ⟨c0, c1⟩ := hc
  have hb : 0 ≤ c * 256 ^ n ∧ c * 256 ^ n < 18446744073709551616 ∧ V < 18446744073709551616 := by
    rcases (by omega : n = 0 ∨ n = 1 ∨ n = 2 ∨ n = 3 ∨ n = 4 ∨ n = 5 ∨ n = 6 ∨ n = 7) with rfl | rfl | rfl | rfl | rfl | rfl | rfl | rfl <;> simp only [Int.reducePow] at h1 ⊢ <;> omega
  have hcomm : ∀ x y : Int, Go.bits .or .u64 x y = Go.bits .or .u64 y x := fun x y => by
    unfold Go.bits
    simp only [BitVec.or_comm]
  have hw : IntKind.u64.wrap (c * 256 ^ n) = c * 256 ^ n := by
    simp only [IntKind.wrap, IntKind.bits, IntKind.signed]
    simp
    omega
  rw [pow256, hw, hcomm, bits_join .u64 64 (by decide) (fun m h0 h1 => by simp [IntKind.wrap, IntKind.bits, IntKind.signed]; omega) (8 * n) _ _ hb.1 ?_ hb.2.1 h0 (by rw [pow256]; exact h1) hb.2.2]
  · omega
  · rw [pow256]; exact Int.mul_emod_left _ _
theorem leVal_step {l : List Int} (h : okbs l) (n : Nat) (hn : n < l.length) (h8 : n < 8) : Go.bits .or .u64 (leVal (l.take n)) (IntKind.u64.wrap (rd l (n : Int) * 2 ^ (8 * n))) = leVal (l.take (n + 1)) := by
  have hl : (l.take n).length = n := by rw [List.length_take]; omega
  have hv := leVal_lt (l.take n) (okbs_take h n)
  rw [hl] at hv
  rw [join64 _ _ n h8 hv.1 hv.2 (rd_ok h _), List.take_succ_eq_append_getElem hn, leVal_snoc, hl, rd_nat l n hn]

instance (n : Int) : Decidable (okb n) := by unfold okb; infer_instance
def okbsB (l : List Int) : Bool := l.all fun x => decide (okb x)
theorem okbs_of {l : List Int} (h : okbsB l = true) : okbs l := fun x hx => by
  unfold okbsB at h
  rw [List.all_eq_true] at h
  exact of_decide_eq_true (h x hx)
theorem okbsB_of {l : List Int} (h : okbs l) : okbsB l = true := by
  unfold okbsB
  rw [List.all_eq_true]
  exact fun x hx => decide_eq_true (h x hx)

def takeNum (l : List Int) : Int × Int × Int :=
  if l.length = 0 then (0, 0, 3)
  else if rd l 0 ≤ 247 then (rd l 0, 1, 0)
  else if (l.length : Int) - 1 < rd l 0 - 247 then (0, 0, 3)
  else if leVal ((l.take (1 + (rd l 0 - 247).toNat)).drop 1) ≤ 247 ∨ (lenOf (leVal ((l.take (1 + (rd l 0 - 247).toNat)).drop 1)) : Int) < rd l 0 - 247 then (0, 0, 2)
  else (leVal ((l.take (1 + (rd l 0 - 247).toNat)).drop 1), 1 + (rd l 0 - 247), 0)
def num_Take.f (l0 : List Int) : Option (Int × Int × Int) := if okbsB l0 = true ∧ l0.length < 140737488355328 then some (takeNum l0) else none

set_option maxHeartbeats 1000000 in
set_option maxRecDepth 100000 in
theorem num_Take.calls (A0 : Option Addr) (c0 : Nat) (l0 : List Int) (r1 r2 r3 : Int) (w : World) (hr0 : Kd.C (Kd.int .u8) w A0 l0.length l0) (hc0 : l0.length ≤ c0) (h : num_Take.f l0 = some (r1, r2, r3)) :
    Calls Try.prog 43 #[.slice A0 l0.length c0] w fun e w' => e = .returned (.tuple #[.int .u64 r1, .int .i64 r2, .int .i64 r3]) ∧ Drawn0 w w' := by
  have hb : okbsB l0 = true ∧ l0.length < 140737488355328 := by unfold num_Take.f at h; split at h; assumption; cases h
  have HE := Aside0.mk (show takeNum l0 = (r1, r2, r3) by unfold num_Take.f at h; rw [if_pos hb] at h; exact Option.some.inj h)
  have HOK := Aside0.mk (okbs_of hb.1)
  have HL := Aside0.mk hb.2
  have HR := Aside0.mk hr0
  have HC := Aside0.mk hc0
  clear h hb hr0 hc0
  by_cases hz : l0.length = 0
  · obtain ⟨rfl, rfl, rfl⟩ : r1 = 0 ∧ r2 = 0 ∧ r3 = 3 := by have h := HE.out; unfold takeNum at h; rw [if_pos hz] at h; simpa [eq_comm] using h
    have e0 : ((l0.length : Int) == 0) = true := by rw [hz]; rfl
    clear HE HOK
    go_enter Try.func43, Try.ntmps43
    go_wp2
    go_ret3
    exact ⟨rfl, Drawn0.refl _⟩
  have e0 : ((l0.length : Int) == 0) = false := by simpa using hz
  have hpos : (0 : Int) < (l0.length : Int) := by omega
  have hposn : 0 < l0.length := by omega
  have e1 : decide (0 < l0.length) = true := decide_eq_true hposn
  obtain ⟨ad, ha, hx⟩ := Kd.at_int HR.out 0 (Int.le_refl _) hpos
  subst ha
  rw [show ad.add (0 : Int).toNat = ad from by simp [Addr.add]] at hx
  have hx0 := (rd_ok HOK.out 0).1
  have hx1 := (rd_ok HOK.out 0).2
  have HE2 := Aside0.mk (by have h := HE.out; unfold takeNum at h; rw [if_neg hz] at h; exact h)
  clear HE
  generalize hxe : rd l0 0 = x at hx hx0 hx1 HE2
  clear hxe
  by_cases hs : x ≤ 247
  · obtain ⟨rfl, rfl, rfl⟩ : r1 = x ∧ r2 = 1 ∧ r3 = 0 := by have h := HE2.out; rw [if_pos hs] at h; simpa [eq_comm] using h
    have d0 : decide (r1 ≤ 247) = true := decide_eq_true hs
    clear HE2 HOK
    go_enter Try.func43, Try.ntmps43
    go_wp2
    go_ret3
    exact ⟨rfl, by repeat (first | exact Drawn0.refl _ | apply Drawn0.step)⟩
  have d0 : decide (x ≤ 247) = false := decide_eq_false hs
  by_cases hk : (l0.length : Int) - 1 < x - 247
  · obtain ⟨rfl, rfl, rfl⟩ : r1 = 0 ∧ r2 = 0 ∧ r3 = 3 := by have h := HE2.out; rw [if_neg hs, if_pos hk] at h; simpa [eq_comm] using h
    have hl2 : (l0.length : Int) ≤ 140737488355328 := by have := HL.out; omega
    have f0 : decide ((l0.length : Int) - 1 < x - 247) = true := decide_eq_true hk
    clear HE2 HOK
    go_enter Try.func43, Try.ntmps43
    go_wp2
    go_ret3
    exact ⟨rfl, by repeat (first | exact Drawn0.refl _ | apply Drawn0.step)⟩
  have f0 : decide ((l0.length : Int) - 1 < x - 247) = false := decide_eq_false hk
  have hl2 : (l0.length : Int) ≤ 140737488355328 := by have := HL.out; omega
  have HE3 := Aside0.mk (by have h := HE2.out; rw [if_neg hs, if_neg hk] at h; exact h)
  clear HE2
  obtain ⟨K, hK⟩ := Int.eq_ofNat_of_zero_le (show 0 ≤ x - 247 by omega)
  obtain ⟨A', hcut, hA', hlen, hC'⟩ := cut_mid (some ad) c0 l0 1 (1 + K) (by omega) (by omega) HC.out
  rw [show 1 + K - 1 = K by omega] at hcut hlen hC'
  replace hcut : ∀ W : World, (Instr.slice 23 (.slice (some ad) l0.length c0) (some (.int .i64 1)) (some (.int .i64 (1 + (K : Int)))) none).run Try.prog W = .ok (.slice A' K (c0 - 1)) W := fun W => by have := hcut W; rw [Int.natCast_add] at this; exact this
  have HE4 := Aside0.mk (by have h := HE3.out; rw [show (x - 247).toNat = K by omega] at h; exact h)
  clear HE3
  have HRb := Aside0.mk (hA' _ HR.out)
  have HOb := Aside0.mk (okbs_drop (okbs_take HOK.out (1 + K)) 1)
  clear hA' HOK
  generalize hbs : (l0.take (1 + K)).drop 1 = bs at HRb HOb HE4 hlen
  have HLB := Aside0.mk hlen
  have hK8 : (K : Int) ≤ 8 := by omega
  have hK0 : (0 : Int) ≤ (K : Int) := by omega
  clear hbs hlen
  go_enter Try.func43, Try.ntmps43
  go_wp2
  go_loopg [2, 6, 7, 36] K (fun kq v2 v6 v7 v36 wq => ∃ n : Nat, v2 = .int .u64 (leVal (bs.take n)) ∧ v36 = .int .i64 (n : Int) ∧ n + kq = K ∧ Aside0 (Drawn0 w wq))
  case atStart => exact ⟨0, rfl, rfl, by omega, ⟨by repeat (first | exact Drawn0.refl _ | apply Drawn0.step)⟩⟩
  case round =>
    obtain ⟨n, rfl, rfl, hn, HD⟩ := hrel
    obtain ⟨nd, rfl⟩ := HD.out
    cases gk with
    | zero =>
      obtain rfl : n = K := by omega
      have g0 : decide ((n : Int) < (n : Int)) = false := decide_eq_false (by omega)
      have hVl : bs.take n = bs := List.take_of_length_le (by rw [HLB.out]; exact Nat.le_refl _)
      rw [hVl]
      have hV := leVal_lt bs HOb.out
      rw [HLB.out] at hV
      have hV0 := hV.1
      have hV1 : leVal bs ≤ 18446744073709551615 := by
        have := hV.2
        rcases (by omega : n = 0 ∨ n = 1 ∨ n = 2 ∨ n = 3 ∨ n = 4 ∨ n = 5 ∨ n = 6 ∨ n = 7 ∨ n = 8) with rfl | rfl | rfl | rfl | rfl | rfl | rfl | rfl | rfl <;> simp only [Int.reducePow] at this <;> omega
      clear hV hVl
      generalize leVal bs = V at HE4 hV0 hV1
      by_cases hv : V ≤ 247
      · have i0 : decide (V ≤ 247) = true := decide_eq_true hv
        obtain ⟨rfl, rfl, rfl⟩ : r1 = 0 ∧ r2 = 0 ∧ r3 = 2 := by have h := HE4.out; rw [if_pos (Or.inl hv)] at h; simpa [eq_comm] using h
        clear HE4
        go_wp2
        go_ret3
        exact ⟨rfl, by repeat (first | exact Drawn0.refl _ | apply Drawn0.step)⟩
      · have i0 : decide (V ≤ 247) = false := decide_eq_false hv
        obtain ⟨hsz, hk8⟩ := size_f hV0 hV1
        have HSZ := Aside0.mk hsz
        clear hsz hk8
        by_cases hlt : (lenOf V : Int) < x - 247
        · have j0 : decide ((lenOf V : Int) < x - 247) = true := decide_eq_true hlt
          obtain ⟨rfl, rfl, rfl⟩ : r1 = 0 ∧ r2 = 0 ∧ r3 = 2 := by have h := HE4.out; rw [if_pos (Or.inr hlt)] at h; simpa [eq_comm] using h
          clear HE4
          go_wp2_with (go_at_call 68; refine (num_size.calls V _ _ HSZ.out).mono ?_; rintro e w3 ⟨rfl, ⟨nd, rfl⟩⟩)
          go_ret3
          exact ⟨rfl, by repeat (first | exact Drawn0.refl _ | apply Drawn0.step)⟩
        · have j0 : decide ((lenOf V : Int) < x - 247) = false := decide_eq_false hlt
          obtain ⟨rfl, rfl, rfl⟩ : r1 = V ∧ r2 = 1 + (x - 247) ∧ r3 = 0 := by have h := HE4.out; rw [if_neg (by intro h; rcases h with h | h <;> contradiction)] at h; simpa [eq_comm] using h
          clear HE4
          go_wp2_with (go_at_call 68; refine (num_size.calls r1 _ _ HSZ.out).mono ?_; rintro e w3 ⟨rfl, ⟨nd, rfl⟩⟩)
          go_ret3
          exact ⟨by rw [hK]; rfl, by repeat (first | exact Drawn0.refl _ | apply Drawn0.step)⟩
    | succ k1 =>
      have g0 : decide ((n : Int) < (K : Int)) = true := decide_eq_true (by omega)
      have hn0 : (0 : Int) ≤ (n : Int) := by omega
      have hn8 : (n : Int) < 8 := by omega
      have hnK : (n : Int) < (K : Int) := by omega
      have hin : (n : Int) < (bs.length : Int) := by have := HLB.out; omega
      obtain ⟨ad2, ha2, hy⟩ := Kd.at_int HRb.out (n : Int) hn0 hin
      subst ha2
      have hstep := Aside0.mk (leVal_step HOb.out n (by have := HLB.out; omega) (by omega))
      have hy0 := (rd_ok HOb.out (n : Int)).1
      have hy1 := (rd_ok HOb.out (n : Int)).2
      generalize rd bs (n : Int) = y at hy hstep hy0 hy1
      have s0 : (0 : Int) ≤ 8 * (n : Int) := by omega
      have s1 : (8 * (n : Int)) ≤ 64 := by omega
      simp only [Int.toNat_natCast] at hy
      go_wp2
      go_roundg k1
      case measure => omega
      case rel => exact ⟨n + 1, by rw [← hstep.out], rfl, by omega, ⟨by repeat (first | exact Drawn0.refl _ | apply Drawn0.step)⟩⟩
end Go.Proofs.Ytnmidkjmflnolaa.P
