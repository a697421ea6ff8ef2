/- sym.Decode: code by code, each a symbol, or a byte that means itself; refused where a code is none, or the output too long. -/
import Derived.Test.YtnmidkjmflnolaaSymEncode
import Derived.Deep.QuietTactic
import Derived.BigQuiet
namespace Go.Proofs.Ytnmidkjmflnolaa.P
open Go.RowKit Go.Proofs.YtnmidkjmflnolaaW.PrintWords Go.Proofs.YtnmidkjmflnolaaW.PrintLast Go.Proofs.YtnmidkjmflnolaaW.PrintMore Go.Proofs.Ytnmidkjmflnolaa.Maps
attribute [local go_sem] max2_int min2_int max_two min_two max_three min_three max_four min_four
set_option linter.unusedVariables false
set_option linter.unusedSimpArgs false

def sym_Decode.l0 : Nat → List ByteArray → List Int → Int → List Int → Option (List Int × Int)
  | 0, _, _, _, _ => none
  | k + 1, t, rest, most, out =>
    if 0 < rest.length then
      (if 0 ≤ wrap64 (rd rest 0) then
        (if wrap64 (rd rest 0) < (t.length : Int) then
          (if (out.length : Int) + ((rdOf ByteArray.empty t (wrap64 (rd rest 0))).size : Int) > most then some ([], 5)
           else if out.length + (rdOf ByteArray.empty t (wrap64 (rd rest 0))).size < 140737488355328 then sym_Decode.l0 k t (rest.drop 1) most (out ++ bytesOf (rdOf ByteArray.empty t (wrap64 (rd rest 0)))) else none)
         else if wrap64 (rd rest 0) = 255 ∧ 1 < rest.length then
          (if (out.length : Int) + 1 > most then some ([], 5)
           else if out.length + 1 < 140737488355328 then sym_Decode.l0 k t (rest.drop 2) most (out ++ bytesOf (strOfNums ((rest.take 2).drop 1))) else none)
         else some ([], 2))
       else none)
    else some (out, 0)
def sym_Decode.f (k : Nat) (l0 : List ByteArray) (l1 : List Int) (a2 : Int) : Option (List Int × Int) := if formedB l0 = true ∧ 0 ≤ a2 then sym_Decode.l0 k l0 l1 a2 [] else some ([], 1)
theorem sym_Decode.mono_l : ∀ k, (∀ y0 y1 y2 y3, LeO (sym_Decode.l0 k y0 y1 y2 y3) (sym_Decode.l0 (k + 1) y0 y1 y2 y3))
  | 0 => fun _ _ _ _ r h => by simp [sym_Decode.l0] at h
  | k + 1 => by
    intro y0 y1 y2 y3
    unfold sym_Decode.l0
    repeat' first
      | exact sym_Decode.mono_l k _ _ _ _
      | exact LeO.refl _
      | refine LeO.ite ?_ ?_
theorem sym_Decode.mono : ∀ a0 a1 a2 k, LeO (sym_Decode.f k a0 a1 a2) (sym_Decode.f (k + 1) a0 a1 a2) := by
  intro a0 a1 a2 k
  unfold sym_Decode.f
  exact LeO.ite (sym_Decode.mono_l k _ _ _ _) (LeO.refl _)

theorem appended_str {W : World} {v : Value} {xs : List Int} {t : TypeId} {base : Nat} (h : (Kd.int .u8).R t W base (fun _ => True) v xs) : W.ownsRow base t 1 v xs.length (nums .u8 xs) := Kd.own_of_R h
theorem own_str {W : World} {v : Value} {xs : List Int} {t : TypeId} {base : Nat} (h : W.ownsRow base t 1 v xs.length (nums .u8 xs)) : (Kd.int .u8).R t W base (fun _ => True) v xs := Kd.R_of_own h (fun _ _ => trivial)

set_option maxHeartbeats 8000000 in
set_option maxRecDepth 100000 in
theorem sym_Decode.calls (k : Nat) (A0 : Option Addr) (c0 : Nat) (l0 : List ByteArray) (A1 : Option Addr) (c1 : Nat) (l1 : List Int) (a2 : Int) (r1 : List Int) (r2 : Int) (w : World) (hr0 : Kd.C Kd.string w A0 l0.length l0) (hc0 : l0.length ≤ c0) (hr1 : Kd.C (Kd.int .u8) w A1 l1.length l1) (hc1 : l1.length ≤ c1) (h : sym_Decode.f k l0 l1 a2 = some (r1, r2)) :
    Calls Try.prog 22 #[.slice A0 l0.length c0, .slice A1 l1.length c1, .int .i64 a2] w fun e w' => ∃ v0_ : Value, e = .returned (.tuple #[v0_, .int .i64 r2]) ∧ Kd.R (Kd.int .u8) 5 w' w.heap.size (fun _ => True) v0_ r1 ∧ Below w.heap.size w w' := by
  have HR0 := Aside0.mk hr0
  have HC0 := Aside0.mk hc0
  have HR1 := Aside0.mk hr1
  have HC1 := Aside0.mk hc1
  clear hr0 hc0 hr1 hc1
  by_cases hf : formedB l0 = true
  · have HF := Aside0.mk hf
    clear hf
    by_cases ha : a2 < 0
    · obtain ⟨rfl, rfl⟩ : r1 = [] ∧ r2 = 1 := by unfold sym_Decode.f at h; rw [if_neg (by omega)] at h; simpa [eq_comm] using h
      have d0 : decide (a2 < 0) = true := decide_eq_true ha
      clear h ha
      go_enter Try.func22, Try.ntmps22
      go_wp2_with (go_at_call 19; (with_reducible refine (sym_Formed.calls _ _ l0 true _ HR0.out HC0.out (by unfold sym_Formed.f; rw [HF.out])).mono ?_); rintro e w1 ⟨rfl, hb1⟩; have HB1 := Aside0.mk hb1; clear hb1)
      go_ret2
      exact ⟨_, rfl, Kd.R_nil _ _ _ _ _, HB1.out⟩
    · have HE := Aside0.mk (show sym_Decode.l0 k l0 l1 a2 [] = some (r1, r2) by unfold sym_Decode.f at h; rw [if_pos ⟨HF.out, by omega⟩] at h; exact h)
      have HL := Aside0.mk (show l0.length ≤ 32 by have hf := HF.out; unfold formedB at hf; simp at hf; exact hf.1)
      have d0 : decide (a2 < 0) = false := decide_eq_false ha
      clear h ha
      go_enter Try.func22, Try.ntmps22
      go_wp2_with (go_at_call 19; (with_reducible refine (sym_Formed.calls _ _ l0 true _ HR0.out HC0.out (by unfold sym_Formed.f; rw [HF.out])).mono ?_); rintro e w1 ⟨rfl, hb1⟩; have HB1 := Aside0.mk hb1; clear hb1)
      go_loopg [8, 9] k (fun kq v8 v9 wq => ∃ (out rest : List Int) (A : Option Addr) (c : Nat), v9 = .slice A rest.length c ∧ Aside0 (sym_Decode.l0 kq l0 rest a2 out = some (r1, r2)) ∧ Aside0 (kq ≤ k) ∧ Aside0 (Kd.R (Kd.int .u8) 5 wq w.heap.size (fun _ => True) v8 out) ∧ Aside0 (Kd.C (Kd.int .u8) w A rest.length rest) ∧ Aside0 (rest.length ≤ c) ∧ Aside0 (out.length ≤ 140737488355328) ∧ Aside0 (Below w.heap.size w wq))
      case atStart => exact ⟨[], l1, A1, c1, rfl, HE, ⟨Nat.le_refl _⟩, ⟨Kd.R_nil _ _ _ _ _⟩, HR1, HC1, ⟨by simp⟩, HB1⟩
      case round =>
        clear HE HR1 HC1
        obtain ⟨out, rest, A, c, rfl, HA, HKq, HO, HR, HC, HLo, HB⟩ := hrel
        obtain ⟨Ao, co, ho⟩ := Kd.R_slice HO.out
        subst ho
        cases gk with
        | zero => exact absurd HA.out (by simp [sym_Decode.l0])
        | succ k1 =>
          have H := HA.out
          clear HA
          simp only [sym_Decode.l0] at H
          by_cases hs : 0 < rest.length
          · rw [if_pos hs] at H
            have e0 : decide ((0 : Int) < (rest.length : Int)) = true := decide_eq_true (by omega)
            have e1 : decide (0 < rest.length) = true := decide_eq_true hs
            have p1 : (0 : Int) < (rest.length : Int) := by omega
            obtain ⟨ad, ha, hx⟩ := Kd.at_int HR.out 0 (Int.le_refl _) p1
            cases ha
            rw [show ad.add (0 : Int).toNat = ad from by simp [Addr.add]] at hx
            replace hx := (HB.out.cell (World.block_lt_of_cell? w _ hx)).trans hx
            have HS := Aside0.mk hs
            clear hs
            generalize hcw : wrap64 (rd rest 0) = x at H
            have HCW := Aside0.mk hcw
            by_cases hx0 : 0 ≤ x
            · rw [if_pos hx0] at H
              by_cases hx1 : x < (l0.length : Int)
              · rw [if_pos hx1] at H
                have HLs := Aside0.mk (show (rdOf ByteArray.empty l0 x).size ≤ 8 from by obtain ⟨n, rfl⟩ := Int.eq_ofNat_of_zero_le hx0; exact (sized_of_formed HF.out n (by omega)).2)
                have f0 : decide (x < (l0.length : Int)) = true := decide_eq_true hx1
                obtain ⟨ad2, ha2, hy⟩ := Kd.at_string HR0.out x hx0 hx1
                cases ha2
                replace hy := (HB.out.cell (World.block_lt_of_cell? w _ hy)).trans hy
                obtain ⟨A', hcut, hA', hC'⟩ := cut_drop (some ad) c rest 1 (by have := HS.out; omega) HC.out
                replace hcut : ∀ W : World, (Instr.slice 23 (.slice (some ad) rest.length c) (some (.int .i64 1)) none none).run Try.prog W = .ok (.slice A' (rest.length - 1) (c - 1)) W := hcut
                have HR' := Aside0.mk (hA' _ HR.out)
                have HC' := Aside0.mk hC'
                clear hA' hC'
                generalize rdOf ByteArray.empty l0 x = s at H HLs hy
                have HH := Aside0.mk H
                clear H
                go_wp2
                go_quiet (fail)
                have hlo : (out.length : Int) ≤ 140737488355328 := by have := HLo.out; omega
                have hls : (s.size : Int) ≤ 8 := by have := HLs.out; omega
                by_cases hm : (out.length : Int) + (s.size : Int) > a2
                · have g0 : decide (a2 < (out.length : Int) + (s.size : Int)) = true := decide_eq_true hm
                  have H := HH.out
                  rw [if_pos hm] at H
                  simp only [Option.some.injEq, Prod.mk.injEq] at H
                  obtain ⟨rfl, rfl⟩ := H
                  go_wp2
                  go_ret2
                  exact ⟨_, rfl, Kd.R_nil _ _ _ _ _, pw_below_drewN HB.out _⟩
                · have g0 : decide (a2 < (out.length : Int) + (s.size : Int)) = false := decide_eq_false hm
                  have H := HH.out
                  rw [if_neg hm] at H
                  have HLM := Aside0.mk (show out.length + s.size < 140737488355328 by split at H; assumption; cases H)
                  rw [if_pos HLM.out] at H
                  have HN := Aside0.mk H
                  clear H HH hm
                  go_wp2_with (at_builtin; refine print_append_str (w0 := w) w.heap.size rfl (.tmp 58) (.tmp 59) 23 9 5 rfl Try.underlying23 Try.underlying9 info_u8 (.slice Ao out.length co) out s rfl rfl ?aO ?aB ?aS ?aL ?_; (case aO => exact appended_str (Kd.R_drewN HO.out _)); (case aB => exact pw_below_drewN HB.out _); (case aS => exact below_size (pw_below_drewN HB.out _)); (case aL => have := HLM.out; omega); intro v1 w2 ho hb hg; have HO2 := Aside0.mk (own_str ho); have HB2 := Aside0.mk hb; clear ho hb hg)
                  go_roundg k1
                  case measure => omega
                  case rel => exact ⟨out ++ bytesOf s, rest.drop 1, A', c - 1, by rw [List.length_drop], HN, ⟨by have := HKq.out; omega⟩, HO2, HR', HC', ⟨by rw [List.length_append, bytesOf_length]; have := HLM.out; omega⟩, HB2⟩
              · rw [if_neg hx1] at H
                have f0 : decide (x < (l0.length : Int)) = false := decide_eq_false hx1
                by_cases h255 : x = 255
                · have f1 : (x == 255) = true := beq_iff_eq.2 h255
                  by_cases hl1 : 1 < rest.length
                  · have f2 : decide ((1 : Int) < (rest.length : Int)) = true := decide_eq_true (by omega)
                    have f3 : decide (1 < rest.length) = true := decide_eq_true hl1
                    rw [if_pos ⟨h255, hl1⟩] at H
                    clear h255
                    obtain ⟨A', hcut, hA', hC'⟩ := cut_drop (some ad) c rest 2 (by omega) HC.out
                    replace hcut : ∀ W : World, (Instr.slice 23 (.slice (some ad) rest.length c) (some (.int .i64 2)) none none).run Try.prog W = .ok (.slice A' (rest.length - 2) (c - 2)) W := hcut
                    have HR' := Aside0.mk (hA' _ HR.out)
                    have HC' := Aside0.mk hC'
                    clear hA' hC'
                    obtain ⟨A'', hmid, hA'', hl'', _⟩ := cut_mid (some ad) c rest 1 2 (by omega) (by omega) HC.out
                    replace hmid : ∀ W : World, (Instr.slice 23 (.slice (some ad) rest.length c) (some (.int .i64 1)) (some (.int .i64 2)) none).run Try.prog W = .ok (.slice A'' 1 (c - 1)) W := hmid
                    have hRm := hA'' _ HR.out
                    rw [hl''] at hRm
                    have hcv := fun n : Nat => Kd.C_string (P := Try.prog) (A := A'') (n := 1) (c := c - 1) Try.underlying23 Try.underlying5 Try.underlying9 (Kd.C_drewN (Kd.C_below hRm HB.out) n)
                    have HSZ := Aside0.mk (show (strOfNums ((rest.take 2).drop 1)).size = 1 by rw [strOfNums_size, hl''])
                    generalize hsd : strOfNums ((rest.take 2).drop 1) = s at H hcv HSZ
                    clear hA'' hRm hl'' hsd
                    have HH := Aside0.mk H
                    clear H
                    go_wp2
                    go_quiet (fail)
                    have hlo : (out.length : Int) ≤ 140737488355328 := by have := HLo.out; omega
                    have hls : (s.size : Int) = 1 := by have := HSZ.out; omega
                    have HLS := Aside0.mk hls
                    have hls2 : (s.size : Int) ≤ 1 := by omega
                    clear hls
                    by_cases hm : (out.length : Int) + 1 > a2
                    · have g0 : decide (a2 < (out.length : Int) + (s.size : Int)) = true := decide_eq_true (by have := HLS.out; omega)
                      have H := HH.out
                      rw [if_pos hm] at H
                      simp only [Option.some.injEq, Prod.mk.injEq] at H
                      obtain ⟨rfl, rfl⟩ := H
                      clear hm
                      go_wp2
                      go_ret2
                      exact ⟨_, rfl, Kd.R_nil _ _ _ _ _, pw_below_drewN HB.out _⟩
                    · have g0 : decide (a2 < (out.length : Int) + (s.size : Int)) = false := decide_eq_false (by have := HLS.out; omega)
                      have H := HH.out
                      rw [if_neg hm] at H
                      have HLM := Aside0.mk (show out.length + s.size < 140737488355328 by split at H; (have := HLS.out; omega); cases H)
                      rw [if_pos (show out.length + 1 < 140737488355328 by have := HLS.out; have := HLM.out; omega)] at H
                      have HN := Aside0.mk H
                      clear H HH hm
                      go_wp2_with (at_builtin; refine print_append_str (w0 := w) w.heap.size rfl (.tmp 58) (.tmp 59) 23 9 5 rfl Try.underlying23 Try.underlying9 info_u8 (.slice Ao out.length co) out s rfl rfl ?baO ?baB ?baS ?baL ?_; (case baO => exact appended_str (Kd.R_drewN HO.out _)); (case baB => exact pw_below_drewN HB.out _); (case baS => exact below_size (pw_below_drewN HB.out _)); (case baL => have := HLM.out; omega); intro v1 w2 ho hb hg; have HO2 := Aside0.mk (own_str ho); have HB2 := Aside0.mk hb; clear ho hb hg)
                      go_roundg k1
                      case measure => omega
                      case rel => exact ⟨out ++ bytesOf s, rest.drop 2, A', c - 2, by rw [List.length_drop], HN, ⟨by have := HKq.out; omega⟩, HO2, HR', HC', ⟨by rw [List.length_append, bytesOf_length]; have := HLM.out; omega⟩, HB2⟩
                  · have f2 : decide ((1 : Int) < (rest.length : Int)) = false := decide_eq_false (by omega)
                    have f3 : decide (1 < rest.length) = false := decide_eq_false hl1
                    rw [if_neg (fun h => hl1 h.2)] at H
                    simp only [Option.some.injEq, Prod.mk.injEq] at H
                    obtain ⟨rfl, rfl⟩ := H
                    clear h255
                    go_wp2
                    go_ret2
                    exact ⟨_, rfl, Kd.R_nil _ _ _ _ _, HB.out⟩
                · have f1 : (x == 255) = false := beq_eq_false_iff_ne.2 h255
                  rw [if_neg (fun h => h255 h.1)] at H
                  simp only [Option.some.injEq, Prod.mk.injEq] at H
                  obtain ⟨rfl, rfl⟩ := H
                  clear h255
                  go_wp2
                  go_ret2
                  exact ⟨_, rfl, Kd.R_nil _ _ _ _ _, HB.out⟩
            · rw [if_neg hx0] at H
              cases H
          · rw [if_neg hs] at H
            have e0 : decide ((0 : Int) < (rest.length : Int)) = false := decide_eq_false (by omega)
            have e1 : decide (0 < rest.length) = false := decide_eq_false hs
            simp only [Option.some.injEq, Prod.mk.injEq] at H
            obtain ⟨rfl, rfl⟩ := H
            go_wp2
            go_ret2
            exact ⟨_, rfl, HO.out, HB.out⟩
  · obtain ⟨rfl, rfl⟩ : r1 = [] ∧ r2 = 1 := by unfold sym_Decode.f at h; rw [if_neg (fun h => hf h.1)] at h; simpa [eq_comm] using h
    have HF := Aside0.mk (Bool.eq_false_iff.2 hf)
    clear h hf
    go_enter Try.func22, Try.ntmps22
    go_wp2_with (go_at_call 19; (with_reducible refine (sym_Formed.calls _ _ l0 false _ HR0.out HC0.out (by unfold sym_Formed.f; rw [HF.out])).mono ?_); rintro e w1 ⟨rfl, hb1⟩; have HB1 := Aside0.mk hb1; clear hb1)
    go_ret2
    exact ⟨_, rfl, Kd.R_nil _ _ _ _ _, HB1.out⟩
end Go.Proofs.Ytnmidkjmflnolaa.P
