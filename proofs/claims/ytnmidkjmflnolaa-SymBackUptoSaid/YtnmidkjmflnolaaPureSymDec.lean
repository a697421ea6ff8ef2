/- Both decode alike. -/
import Derived.Test.YtnmidkjmflnolaaP2
import Derived.Test.YtnmidkjmflnolaaSymDecode
import Derived.Test.YtnmidkjmflnolaaPureSym
namespace Go.Proofs.Ytnmidkjmflnolaa.Pure
open Go Go.RowKit Go.Proofs.YtnmidkjmflnolaaW.PrintWords Go.Proofs.Ytnmidkjmflnolaa.P Go.Proofs.Ytnmidkjmflnolaa.Maps
set_option linter.unusedVariables false

theorem cut_one (b : List Int) (i : Nat) (h : i < b.length) : (b.take (i + 1)).drop i = [rd b (i : Int)] := by
  rw [List.drop_take, rd_nat b i h, show i + 1 - i = 1 by omega, List.drop_eq_getElem_cons h]
  rfl
theorem one_of_two (b : List Int) (i : Nat) (h : i + 1 < b.length) : ((b.drop i).take 2).drop 1 = [rd b ((i + 1 : Nat) : Int)] := by
  rw [List.drop_take, List.drop_drop, rd_nat b (i + 1) h, List.drop_eq_getElem_cons h]
  rfl
theorem rd_drop0 (b : List Int) (i : Nat) : rd (b.drop i) 0 = rd b (i : Int) := by simp [rd, List.getD]
theorem wrap_okb {c : Int} (h : okb c) : wrap64 c = c := wrap_in (by have := h.1; omega) (by have := h.2; omega)

theorem dec_both {l : List ByteArray} (hf : formedB l = true) (b : List Int) (hb : okbs b) (hn : b.length ≤ 1048576) (m : Int) (hm0 : 0 ≤ m) (hm1 : m ≤ 9223372036854775807) : ∀ (n at_ : Nat) (out : List Int), b.length - at_ < n → at_ ≤ b.length → out.length ≤ 8 * at_ → okbs out →
    ∃ r e, Ev (fun k => sym_Decode.l0 k l (b.drop at_) m out) (r, e) ∧ Ev (fun k => dragnetref06_Decode.l0 k l b m out (at_ : Int)) (r, e) ∧ okbs r := by
  intro n
  induction n with
  | zero => intro at_ out h; omega
  | succ n ih =>
    intro at_ out hlt hle hsum hok
    have hlen := formed_len hf
    have hw : wrap64 (m - (out.length : Int)) = m - (out.length : Int) := wrap_in (by omega) (by omega)
    by_cases he : at_ < b.length
    · have hc := rd_ok hb (at_ : Int)
      have hc0 := hc.1
      have hc1 := hc.2
      have hdl : (b.drop at_).length = b.length - at_ := List.length_drop
      by_cases hin : rd b (at_ : Int) < (l.length : Int)
      · obtain ⟨i, hi⟩ := Int.eq_ofNat_of_zero_le hc0
        have hil : i < l.length := by omega
        have hsz := formed_size hf i hil
        have hrE := rdE l i hil
        by_cases hbig : (out.length : Int) + (l[i].size : Int) > m
        · refine ⟨[], 5, Ev.step (f := fun _ => some ([], 5)) (fun k => ?_) (Ev.now _), Ev.step (f := fun _ => some ([], 5)) (fun k => ?_) (Ev.now _), fun x hx => by simp at hx⟩
          · simp only [sym_Decode.l0, rd_drop0, wrap_okb hc]
            rw [if_pos (by omega), if_pos hc0, if_pos hin, hi, hrE, if_pos hbig]
          · simp only [dragnetref06_Decode.l0, wrap_okb hc, hw]
            rw [if_pos (by omega), if_pos (by omega), if_pos hin, if_pos hc0, if_pos hin, hi, hrE, if_pos (by omega)]
        · obtain ⟨r, e, h1, h2, h3⟩ := ih (at_ + 1) (out ++ bytesOf l[i]) (by omega) (by omega) (by simp [bytesOf, size_eq]; omega) (okbs_append hok (bytesOf_ok _))
          refine ⟨r, e, Ev.step (fun k => ?_) h1, Ev.step (fun k => ?_) h2, h3⟩
          · simp only [sym_Decode.l0, rd_drop0, wrap_okb hc]
            rw [if_pos (by omega), if_pos hc0, if_pos hin, hi, hrE, if_neg hbig, if_pos (by omega), List.drop_drop]
          · simp only [dragnetref06_Decode.l0, wrap_okb hc, hw]
            rw [if_pos (by omega), if_pos (by omega), if_pos hin, if_pos hc0, if_pos hin, hi, hrE, if_neg (by omega), if_pos (by omega), wrap_in (by omega) (by omega)]
            rfl
      · by_cases hesc : rd b (at_ : Int) = 255 ∧ at_ + 1 < b.length
        · have hsz : (strOfNums [rd b ((at_ + 1 : Nat) : Int)]).size = 1 := by rw [str_size]; rfl
          have hcut : (b.take (wrap64 (wrap64 ((at_ : Int) + 1) + 1)).toNat).drop (wrap64 ((at_ : Int) + 1)).toNat = [rd b ((at_ + 1 : Nat) : Int)] := by
            rw [show wrap64 ((at_ : Int) + 1) = ((at_ + 1 : Nat) : Int) from wrap_in (by omega) (by omega), show wrap64 (((at_ + 1 : Nat) : Int) + 1) = ((at_ + 1 + 1 : Nat) : Int) from wrap_in (by omega) (by omega), Int.toNat_natCast, Int.toNat_natCast, cut_one b (at_ + 1) hesc.2]
          have hj : ∀ k, dragnetref06_Decode.l0 (k + 1) l b m out (at_ : Int) = dragnetref06_Decode.j2 k l b m out (at_ : Int) true := fun k => by
            simp only [dragnetref06_Decode.l0, wrap_okb hc, hw]
            rw [if_pos (by omega), if_pos (by omega), if_neg hin, if_pos hesc.1, wrap_in (by omega) (by omega), decide_eq_true (by omega)]
          by_cases hbig : (out.length : Int) + 1 > m
          · refine ⟨[], 5, Ev.step (f := fun _ => some ([], 5)) (fun k => ?_) (Ev.now _), Ev.step hj (Ev.step (f := fun _ => some ([], 5)) (fun k => ?_) (Ev.now _)), fun x hx => by simp at hx⟩
            · simp only [sym_Decode.l0, rd_drop0, wrap_okb hc]
              rw [if_pos (by omega), if_pos hc0, if_neg hin, if_pos ⟨hesc.1, by omega⟩, if_pos hbig]
            · simp only [dragnetref06_Decode.j2, hcut, hsz, hw]
              rw [wrap_in (x := (at_ : Int) + 1) (by omega) (by omega), wrap_in (x := (at_ : Int) + 1 + 1) (by omega) (by omega), if_pos trivial, if_pos (by omega), if_pos (by omega), if_pos (by omega), if_pos (by omega)]
          · obtain ⟨r, e, h1, h2, h3⟩ := ih (at_ + 2) (out ++ bytesOf (strOfNums [rd b ((at_ + 1 : Nat) : Int)])) (by omega) (by omega) (by rw [bytesOf_str (fun x hx => by simp at hx; subst hx; exact rd_ok hb _)]; simp; omega) (okbs_append hok (bytesOf_ok _))
            refine ⟨r, e, Ev.step (fun k => ?_) h1, Ev.step hj (Ev.step (fun k => ?_) h2), h3⟩
            · simp only [sym_Decode.l0, rd_drop0, wrap_okb hc]
              rw [if_pos (by omega), if_pos hc0, if_neg hin, if_pos ⟨hesc.1, by omega⟩, if_neg hbig, if_pos (by omega), List.drop_drop, one_of_two b at_ hesc.2]
            · simp only [dragnetref06_Decode.j2, hcut, hsz, hw]
              rw [wrap_in (x := (at_ : Int) + 1) (by omega) (by omega), wrap_in (x := (at_ : Int) + 1 + 1) (by omega) (by omega), if_pos trivial, if_pos (by omega), if_pos (by omega), if_pos (by omega), if_neg (by omega), if_pos (by omega)]
              rfl
        · refine ⟨[], 2, Ev.step (f := fun _ => some ([], 2)) (fun k => ?_) (Ev.now _), ?_, fun x hx => by simp at hx⟩
          · simp only [sym_Decode.l0, rd_drop0, wrap_okb hc]
            rw [if_pos (by omega), if_pos hc0, if_neg hin, if_neg (by rw [hdl]; intro h; exact hesc ⟨h.1, by omega⟩)]
          · have hj : ∀ k, dragnetref06_Decode.l0 (k + 1) l b m out (at_ : Int) = dragnetref06_Decode.j2 k l b m out (at_ : Int) false := fun k => by
              simp only [dragnetref06_Decode.l0, wrap_okb hc, hw]
              rw [if_pos (by omega), if_pos (by omega), if_neg hin]
              by_cases h5 : rd b (at_ : Int) = 255
              · rw [if_pos h5, wrap_in (by omega) (by omega), decide_eq_false (fun h => hesc ⟨h5, by omega⟩)]
              · rw [if_neg h5]
            refine Ev.step hj (Ev.step (f := fun _ => some ([], 2)) (fun k => ?_) (Ev.now _))
            simp only [dragnetref06_Decode.j2]
            rw [if_neg (by simp)]
    · obtain rfl : at_ = b.length := by omega
      refine ⟨out, 0, Ev.step (f := fun _ => some (out, 0)) (fun k => ?_) (Ev.now _), Ev.step (f := fun _ => some (out, 0)) (fun k => ?_) (Ev.now _), hok⟩
      · simp only [sym_Decode.l0]
        rw [if_neg (by simp)]
      · simp only [dragnetref06_Decode.l0]
        rw [if_neg (by omega)]
theorem decode06 (l : List ByteArray) (b : List Int) (hb : okbs b) (hn : b.length ≤ 1048576) (m : Int) (hm1 : m ≤ 9223372036854775807) : ∃ r e, Ev (fun k => sym_Decode.f k l b m) (r, e) ∧ Ev (fun k => dragnetref06_Decode.f k l b m) (r, e) ∧ okbs r := by
  cases hf : formedB l with
  | true =>
    by_cases hm0 : 0 ≤ m
    · obtain ⟨r, e, h1, h2, h3⟩ := dec_both hf b hb hn m hm0 hm1 (b.length + 1) 0 [] (by omega) (by omega) (by simp) (fun x hx => by simp at hx)
      refine ⟨r, e, ?_, ?_, h3⟩
      · refine Ev.congr (fun k => ?_) h1
        unfold sym_Decode.f
        rw [if_pos ⟨hf, hm0⟩, List.drop_zero]
      · refine Ev.call0 (formed06 l) (Ev.step (g := fun k => dragnetref06_Decode.j0 k l b m false) (fun k => ?_) h2) (fun k hk => ?_)
        · simp only [dragnetref06_Decode.j0]
          rw [if_neg (by simp)]
          rfl
        · unfold dragnetref06_Decode.f
          rw [hk, hf, decide_eq_false (by omega : ¬ m < 0)]
          rfl
    · refine ⟨[], 1, ?_, ?_, fun x hx => by simp at hx⟩
      · refine Ev.congr (f := fun _ => some ([], 1)) (fun k => ?_) (Ev.now _)
        unfold sym_Decode.f
        rw [if_neg (by rw [hf]; omega)]
      · refine Ev.call0 (formed06 l) (Ev.step (g := fun k => dragnetref06_Decode.j0 k l b m true) (f := fun _ => some ([], 1)) (fun k => ?_) (Ev.now _)) (fun k hk => ?_)
        · simp only [dragnetref06_Decode.j0]
          rw [if_pos trivial]
        · unfold dragnetref06_Decode.f
          rw [hk, hf, decide_eq_true (by omega : m < 0)]
          rfl
  | false =>
    refine ⟨[], 1, ?_, ?_, fun x hx => by simp at hx⟩
    · refine Ev.congr (f := fun _ => some ([], 1)) (fun k => ?_) (Ev.now _)
      unfold sym_Decode.f
      rw [if_neg (by rw [hf]; simp)]
    · refine Ev.call0 (formed06 l) (Ev.step (g := fun k => dragnetref06_Decode.j0 k l b m true) (f := fun _ => some ([], 1)) (fun k => ?_) (Ev.now _)) (fun k hk => ?_)
      · simp only [dragnetref06_Decode.j0]
        rw [if_pos trivial]
      · unfold dragnetref06_Decode.f
        rw [hk, hf]
        rfl
end Go.Proofs.Ytnmidkjmflnolaa.Pure
