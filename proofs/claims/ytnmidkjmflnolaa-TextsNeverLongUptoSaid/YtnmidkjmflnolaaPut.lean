/- num.Put: a number behind bytes, in the printer's own form. -/
import Derived.Test.YtnmidkjmflnolaaClone
import Derived.Test.YtnmidkjmflnolaaP8
namespace Go.Proofs.Ytnmidkjmflnolaa.P
open Go.RowKit Go.Proofs.YtnmidkjmflnolaaW.PrintWords Go.Proofs.YtnmidkjmflnolaaW.PrintLast Go.Proofs.YtnmidkjmflnolaaW.PrintMore Go.Proofs.Ytnmidkjmflnolaa.Maps
attribute [local go_sem] max2_int min2_int max_two min_two max_three min_three max_four min_four
set_option linter.unusedVariables false
set_option linter.unusedSimpArgs false

def leBytes : Nat → Int → List Int
  | 0, _ => []
  | n + 1, v => v % 256 :: leBytes n (v / 256)
def lenOf (v : Int) : Nat := (Lib.bitLen v.toNat + 7) / 8
def numBytes (v : Int) : List Int := if v ≤ 247 then [v] else (247 + (lenOf v : Int)) :: leBytes (lenOf v) v
def num_Put.f (l0 : List Int) (a1 : Int) : Option (List Int) := if l0.length + 10 < 140737488355328 ∧ 0 ≤ a1 ∧ a1 ≤ 18446744073709551615 then some (l0 ++ numBytes a1) else none
theorem aux_le : ∀ f n, Lib.bitLenAux f n ≤ f
  | 0, _ => Nat.le_refl _
  | f + 1, n => by
    unfold Lib.bitLenAux
    split
    · omega
    · have := aux_le f (n / 2); omega
theorem bitLen_64 {n : Nat} : Lib.bitLen n ≤ 64 := by
  exact aux_le 64 n
theorem size_f {v : Int} (h0 : 0 ≤ v) (h1 : v ≤ 18446744073709551615) : num_size.f v = some (lenOf v : Int) ∧ lenOf v ≤ 8 := by
  have hb := bitLen_64 (n := v.toNat)
  unfold num_size.f bits_Len64.f lenOf
  rw [if_pos ⟨h0, h1⟩]
  refine ⟨?_, by omega⟩
  simp only [Option.bind_some]
  congr 1
  rw [show wrap64 ((Lib.bitLen v.toNat : Int) + 7) = (Lib.bitLen v.toNat : Int) + 7 from by unfold wrap64; omega, Int.tdiv_eq_ediv_of_nonneg (by omega)]
  unfold wrap64
  omega
theorem leBytes_ok : ∀ (n : Nat) (v : Int), (leBytes n v).length = n
  | 0, _ => rfl
  | n + 1, v => by rw [leBytes, List.length_cons, leBytes_ok n]

set_option maxHeartbeats 1000000 in
set_option maxRecDepth 100000 in
theorem num_Put.calls (A0 : Option Addr) (c0 : Nat) (l0 : List Int) (a1 : Int) (r : List Int) (w : World) (hr0 : Kd.C (Kd.int .u8) w A0 l0.length l0) (hc0 : l0.length ≤ c0) (h : num_Put.f l0 a1 = some r) :
    Calls Try.prog 39 #[.slice A0 l0.length c0, .int .u64 a1] w fun e w' => ∃ v0_ : Value, e = .returned (v0_) ∧ Kd.R (Kd.int .u8) 5 w' w.heap.size (fun _ => True) v0_ r ∧ Below w.heap.size w w' := by
  have hb : l0.length + 10 < 140737488355328 ∧ 0 ≤ a1 ∧ a1 ≤ 18446744073709551615 := by unfold num_Put.f at h; split at h; assumption; cases h
  obtain rfl : l0 ++ numBytes a1 = r := by unfold num_Put.f at h; rw [if_pos hb] at h; exact Option.some.inj h
  have HL := Aside0.mk hb.1
  have h0 := hb.2.1
  have h1 := hb.2.2
  have HR := Aside0.mk hr0
  have HC := Aside0.mk hc0
  clear h hb hr0 hc0
  by_cases hs : a1 ≤ 247
  · have d0 : decide (a1 ≤ 247) = true := decide_eq_true hs
    have HE := Aside0.mk (show numBytes a1 = [a1] by unfold numBytes; rw [if_pos hs])
    go_enter Try.func39, Try.ntmps39
    go_wp2_with (first | (go_at_call 67; (with_reducible refine (slices_Clone_byte.calls _ _ l0 l0 w HR.out HC.out (by unfold slices_Clone_byte.f; rw [if_pos (by have := HL.out; omega)])).mono ?_); rintro e w1 ⟨v1, rfl, ho, hbl⟩; have HO1 := Aside0.mk ho; have HB1 := Aside0.mk hbl; clear ho hbl) | (go_at_call 66; refine (Grow9_calls w.heap.size v1 l0 w1 HO1.out (below_size HB1.out) (by have := HL.out; omega)).mono ?_; rintro e w2 ⟨v2, rfl, ho, hg⟩; have HO2 := Aside0.mk ho; have HB2 := Aside0.mk (HB1.out.grown hg (below_size HB1.out) (Kd.R_base HO1.out)); clear ho hg) | (at_builtin; refine Kd.R_append (Kd.int .u8) (w0 := w) w.heap.size rfl (.tmp 12) (.tmp 15) 23 5 (.int .u8 0) 1 rfl Try.underlying23 info_u8 rfl (by decide) (by omega) v2 l0 a1 [.int .u8 a1] (fun _ => True) (fun _ => False) rfl rfl rfl (fun _ hk => hk.elim) (fun _ _ => trivial) HO2.out HB2.out (below_size HB2.out) (by have := HL.out; omega) ?_; intro v3 w3 ho hb hg hat; have HO3 := Aside0.mk ho; have HB3 := Aside0.mk hb; clear ho hb hg hat))
    go_ret
    exact ⟨_, rfl, by rw [HE.out]; exact HO3.out, HB3.out⟩
  · have d0 : decide (a1 ≤ 247) = false := decide_eq_false hs
    obtain ⟨hsz, hk8⟩ := size_f h0 h1
    have HE := Aside0.mk (show l0 ++ numBytes a1 = (l0 ++ [247 + (lenOf a1 : Int)]) ++ leBytes (lenOf a1) a1 by unfold numBytes; rw [if_neg hs]; simp)
    have HSZ := Aside0.mk hsz
    have hk0 : (0 : Int) ≤ (lenOf a1 : Int) := by omega
    have hk8' : (lenOf a1 : Int) ≤ 8 := by omega
    generalize lenOf a1 = K at HE HSZ hk0 hk8'
    clear hsz hk8
    go_enter Try.func39, Try.ntmps39
    go_wp2_with (first | (go_at_call 67; (with_reducible refine (slices_Clone_byte.calls _ _ l0 l0 w HR.out HC.out (by unfold slices_Clone_byte.f; rw [if_pos (by have := HL.out; omega)])).mono ?_); rintro e w1 ⟨v1, rfl, ho, hbl⟩; have HO1 := Aside0.mk ho; have HB1 := Aside0.mk hbl; clear ho hbl) | (go_at_call 66; refine (Grow9_calls w.heap.size v1 l0 w1 HO1.out (below_size HB1.out) (by have := HL.out; omega)).mono ?_; rintro e w2 ⟨v2, rfl, ho, hg⟩; have HO2 := Aside0.mk ho; have HB2 := Aside0.mk (HB1.out.grown hg (below_size HB1.out) (Kd.R_base HO1.out)); clear ho hg) | (go_at_call 68; refine (num_size.calls a1 (K : Int) w2 HSZ.out).mono ?_; rintro e w3 ⟨rfl, ⟨nd, rfl⟩⟩) | (at_builtin; refine Kd.R_append (Kd.int .u8) (w0 := w) w.heap.size rfl (.tmp 19) (.tmp 23) 23 5 (.int .u8 0) 1 rfl Try.underlying23 info_u8 rfl (by decide) (by omega) v2 l0 (247 + (K : Int)) [.int .u8 (247 + (K : Int))] (fun _ => True) (fun _ => False) rfl rfl rfl (fun _ hk => hk.elim) (fun _ _ => trivial) (Kd.R_drewN HO2.out _) (pw_below_drewN HB2.out _) (below_size (pw_below_drewN HB2.out _)) (by have := HL.out; omega) ?_; intro v3 w4 ho hb hg hat; have HO3 := Aside0.mk ho; have HB3 := Aside0.mk hb; clear ho hb hg hat))
    go_loopg [1, 5, 26] K (fun kq x1 x5 x26 wq => ∃ (v : Int) (out : List Int) (i : Int), x1 = .int .u64 v ∧ x26 = .int .i64 i ∧ 0 ≤ i ∧ i + kq = K ∧ 0 ≤ v ∧ v ≤ 18446744073709551615 ∧ Aside0 (out.length + kq = l0.length + 1 + K) ∧ Aside0 (Kd.R (Kd.int .u8) 5 wq w.heap.size (fun _ => True) x5 out) ∧ Aside0 (out ++ leBytes kq v = l0 ++ numBytes a1) ∧ Aside0 (Below w.heap.size w wq))
    case atStart => exact ⟨a1, _, 0, rfl, rfl, Int.le_refl _, by omega, h0, h1, ⟨by simp⟩, HO3, ⟨HE.out.symm⟩, HB3⟩
    case round =>
      clear HE HSZ HO1 HO2 HO3 HB1 HB2 HB3
      obtain ⟨v, out, i, rfl, rfl, hi0, hik, hv0, hv1, HLo, HO, HA, HB⟩ := hrel
      cases gk with
      | zero =>
        have e0 : decide (i < (K : Int)) = false := decide_eq_false (by omega)
        go_wp2
        go_ret
        exact ⟨_, rfl, by have h := HA.out; rw [leBytes, List.append_nil] at h; rw [← h]; exact HO.out, HB.out⟩
      | succ k1 =>
        have e0 : decide (i < (K : Int)) = true := decide_eq_true (by omega)
        go_wp2_with (at_builtin; refine Kd.R_append (Kd.int .u8) (w0 := w) w.heap.size rfl (.tmp 28) (.tmp 31) 23 5 (.int .u8 0) 1 rfl Try.underlying23 info_u8 rfl (by decide) (by omega) _ out (v % 256) [.int .u8 (v % 256)] (fun _ => True) (fun _ => False) rfl rfl rfl (fun _ hk => hk.elim) (fun _ _ => trivial) HO.out HB.out (below_size HB.out) (by have := HL.out; have := HLo.out; omega) ?_; intro v3 w4 ho hb hg hat; have HO3 := Aside0.mk ho; have HB3 := Aside0.mk hb; clear ho hb hg hat)
        go_roundg k1
        case measure => omega
        case rel => exact ⟨v / 256, out ++ [v % 256], i + 1, rfl, rfl, by omega, by omega, by omega, by omega, ⟨by have := HLo.out; simp; omega⟩, HO3, ⟨by have := HA.out; rw [← this, leBytes]; simp⟩, HB3⟩
end Go.Proofs.Ytnmidkjmflnolaa.P
