/- The plain law of SymBack: what is encoded is decoded as it was; a table is taken as it was. -/
import Derived.Test.YtnmidkjmflnolaaP7
import Derived.Test.YtnmidkjmflnolaaPureTable
import Derived.Test.YtnmidkjmflnolaaPureSymDec
import Derived.Test.YtnmidkjmflnolaaRead
namespace Go.Proofs.Ytnmidkjmflnolaa.Pure
open Go Go.RowKit Go.Proofs.YtnmidkjmflnolaaW.PrintWords Go.Proofs.Ytnmidkjmflnolaa.P Go.Proofs.Ytnmidkjmflnolaa.Maps
set_option linter.unusedVariables false

theorem enc_dec {l : List ByteArray} (hf : formedB l = true) (b : List Int) (hb : okbs b) (hn : b.length ≤ 1048576) : ∀ (n at_ : Nat) (out : List Int), b.length - at_ < n → at_ ≤ b.length → out.length + 2 * (b.length - at_) ≤ 4194304 →
    ∃ codes, Ev (fun k => sym_Encode.l0 k l out (strOfNums (b.drop at_))) (out ++ codes, 0) ∧ okbs codes ∧ codes.length ≤ 2 * (b.length - at_) ∧ Ev (fun k => sym_Decode.l0 k l codes (b.length : Int) (b.take at_)) (b, 0) := by
  intro n
  induction n with
  | zero => intro at_ out h; omega
  | succ n ih =>
    intro at_ out hlt hle hsum
    have hlen := formed_len hf
    by_cases he : at_ < b.length
    · have hne : b.drop at_ ≠ [] := by simp; omega
      have hsz : (strOfNums (b.drop at_)).size = b.length - at_ := by rw [str_size, List.length_drop]
      have hd0 : okbs (b.drop at_) := okbs_drop hb _
      have htl : (b.take at_).length = at_ := by rw [List.length_take]; omega
      obtain ⟨r, hr, hB⟩ := longest06 l (b.drop at_) (by omega) (by simp; omega)
      rcases try_longest hf (b.drop at_) hne hB with ⟨rfl, ht⟩ | ⟨m, hm, rfl, h1, h2, ht⟩
      · have hbt : bt (strOfNums (b.drop at_)) 0 = rd b (at_ : Int) := by
          rw [str_bt hd0 (by omega) (by simp; omega)]
          simp [rd, List.getD]
        have hc := rd_ok hb (at_ : Int)
        obtain ⟨codes, hq1, hq2, hq3, hq4⟩ := ih (at_ + 1) (out ++ [255, rd b (at_ : Int)]) (by omega) (by omega) (by simp; omega)
        rw [List.append_assoc] at hq1
        refine ⟨[255, rd b (at_ : Int)] ++ codes, Ev.step (fun k => ?_) hq1, okbs_append (fun x hx => by
          simp only [List.mem_cons, List.not_mem_nil, or_false] at hx
          rcases hx with rfl | rfl
          · exact ⟨by omega, by omega⟩
          · exact hc) hq2, by simp; omega, Ev.step (fun k => ?_) hq4⟩
        · rw [sym_Encode.step, if_pos (by omega), ht]
          simp only [afterTry]
          rw [if_pos (by omega), hbt, str_drop, List.drop_drop]
        · have h0 : rd ([255, rd b (at_ : Int)] ++ codes) 0 = 255 := rfl
          have hw : wrap64 255 = 255 := wrap_in (by omega) (by omega)
          have hcut : (([255, rd b (at_ : Int)] ++ codes).take 2).drop 1 = [rd b (at_ : Int)] := rfl
          have hdr : ([255, rd b (at_ : Int)] ++ codes).drop 2 = codes := rfl
          have hbo : bytesOf (strOfNums [rd b (at_ : Int)]) = [rd b (at_ : Int)] := bytesOf_str (fun x hx => by simp at hx; subst hx; exact hc)
          simp only [sym_Decode.l0, h0, hw, hcut, hdr, hbo, htl]
          rw [if_pos (by simp), if_pos (by omega), if_neg (by omega), if_pos ⟨trivial, by simp⟩, if_neg (by omega), if_pos (by omega)]
          congr 1
          rw [List.take_succ_eq_append_getElem he, rd_nat b at_ he]
      · have hsz := formed_size hf m hm
        rw [List.length_drop] at h1
        obtain ⟨codes, hq1, hq2, hq3, hq4⟩ := ih (at_ + l[m].size) (out ++ [(m : Int) % 256]) (by omega) (by omega) (by simp; omega)
        rw [List.append_assoc] at hq1
        refine ⟨[(m : Int) % 256] ++ codes, Ev.step (fun k => ?_) hq1, okbs_append (fun x hx => by
          simp only [List.mem_cons, List.not_mem_nil, or_false] at hx
          subst hx
          exact ⟨by omega, by omega⟩) hq2, by simp; omega, Ev.step (fun k => ?_) hq4⟩
        · rw [sym_Encode.step, if_pos (by omega), ht]
          simp only [afterTry]
          rw [if_pos (by omega), str_drop, List.drop_drop]
        · have h0 : rd ([(m : Int) % 256] ++ codes) 0 = (m : Int) := by
            show (m : Int) % 256 = (m : Int)
            omega
          have hw : wrap64 (m : Int) = (m : Int) := wrap_in (by omega) (by omega)
          have hdr : ([(m : Int) % 256] ++ codes).drop 1 = codes := rfl
          have hbo : bytesOf l[m] = (b.drop at_).take l[m].size := by
            have := congrArg bytesOf h2
            rw [bytesOf_str (okbs_take hd0 _)] at this
            exact this.symm
          simp only [sym_Decode.l0, h0, hw, hdr, htl, rdE l m hm]
          have c1 : 0 < ([(m : Int) % 256] ++ codes).length := by simp
          have c2 : (0 : Int) ≤ (m : Int) := Int.natCast_nonneg m
          have c3 : (m : Int) < (l.length : Int) := Int.ofNat_lt.2 hm
          have c4 : ¬ ((at_ : Int) + (l[m].size : Int) > (b.length : Int)) := by omega
          have c5 : at_ + l[m].size < 140737488355328 := by omega
          rw [if_pos c1, if_pos c2, if_pos c3, if_neg c4, if_pos c5, hbo]
          congr 1
          rw [List.take_add]
    · obtain rfl : at_ = b.length := by omega
      refine ⟨[], ?_, fun x hx => by simp at hx, by simp, Ev.step (f := fun _ => some (b, 0)) (fun k => ?_) (Ev.now _)⟩
      · rw [List.append_nil]
        refine Ev.step (f := fun _ => some (out, 0)) (fun k => ?_) (Ev.now _)
        rw [sym_Encode.step, if_neg (by rw [str_size]; simp)]
      · simp only [sym_Decode.l0]
        rw [if_neg (by simp), List.take_length]
theorem back06 {l : List ByteArray} (hf : formedB l = true) (b : List Int) (hb : okbs b) (hn : b.length ≤ 1048576) : ∃ codes, Ev (fun k => sym_Encode.f k l b) (codes, 0) ∧ okbs codes ∧ codes.length ≤ 2 * b.length ∧ Ev (fun k => sym_Decode.f k l codes (b.length : Int)) (b, 0) := by
  obtain ⟨codes, h1, h2, h3, h4⟩ := enc_dec hf b hb hn (b.length + 1) 0 [] (by omega) (by omega) (by simp; omega)
  refine ⟨codes, ?_, h2, by simpa using h3, ?_⟩
  · refine Ev.congr (fun k => ?_) h1
    unfold sym_Encode.f
    rw [if_pos hf, List.drop_zero]
  · refine Ev.congr (fun k => ?_) h4
    unfold sym_Decode.f
    rw [if_pos ⟨hf, by omega⟩, List.take_zero]

/-! ### a table that was laid is taken -/
theorem takeNum_small (v : Int) (hv : v ≤ 247) (rest : List Int) : takeNum (numBytes v ++ rest) = (v, 1, 0) := by
  unfold numBytes takeNum
  rw [if_pos hv, if_neg (by simp), show rd ([v] ++ rest) 0 = v from rfl, if_pos hv]
theorem takeRow_laid (s : ByteArray) (hs : s.size ≤ 8) (rest : List Int) : takeRowC (rowB s ++ rest) 8 = (bytesOf s, 1 + (s.size : Int), 0) := by
  have hb := bytesOf_len s
  have ht : takeNum (rowB s ++ rest) = ((s.size : Int), 1, 0) := by rw [rowB, List.append_assoc]; exact takeNum_small _ (by omega) _
  have hn : numBytes (s.size : Int) = [(s.size : Int)] := by unfold numBytes; rw [if_pos (by omega)]
  unfold takeRowC
  rw [ht, if_pos rfl, if_neg (by omega), if_neg (by simp [rowB, hn, hb]; omega)]
  simp only [rowB, hn, List.cons_append, List.nil_append]
  rw [show (1 + (s.size : Int)).toNat = s.size + 1 by omega, List.take_succ_cons, ← hb, List.take_left]
  rfl
theorem tableC_laid (l : List Int) (more : List Int) : ∀ (t : List ByteArray) (at_ : Int) (t0 : List ByteArray), (∀ s ∈ t, s.size ≤ 8) → 0 ≤ at_ → l.drop at_.toNat = t.flatMap rowB ++ more →
    tableC l t.length at_ t0 = if formedB (t0 ++ t) = true then (t0 ++ t, at_ + ((t.flatMap rowB).length : Int), 0) else ([], 0, 2)
  | [], at_, t0, _, _, _ => by simp [tableC]
  | s :: t, at_, t0, hs, h0, hd => by
    have h8 := hs s (by simp)
    have hb := bytesOf_len s
    have hn : numBytes (s.size : Int) = [(s.size : Int)] := by unfold numBytes; rw [if_pos (by omega)]
    rw [List.flatMap_cons, List.append_assoc] at hd
    rw [List.length_cons, tableC, hd, takeRow_laid s h8, if_pos rfl, str_bytesOf, tableC_laid l more t (at_ + (1 + (s.size : Int))) (t0 ++ [s]) (fun q hq => hs q (by simp [hq])) (by omega) ?_]
    · rw [List.append_assoc, List.flatMap_cons, List.length_append, rowB, List.length_append, hn, hb]
      simp only [List.cons_append, List.nil_append, List.length_cons, List.length_nil]
      congr 3
      omega
    · rw [show (at_ + (1 + (s.size : Int))).toNat = at_.toNat + (1 + s.size) by omega, ← List.drop_drop, hd]
      have hlr : (rowB s).length = 1 + s.size := by rw [rowB, List.length_append, hn, hb]; rfl
      rw [← hlr, List.drop_left]
theorem tableOf_laid {t : List ByteArray} (h : formedB t = true) (more : List Int) : tableOf (tableB t ++ more) = (t, ((tableB t).length : Int), 0) := by
  have hlen := formed_len h
  have hn : numBytes (t.length : Int) = [(t.length : Int)] := by unfold numBytes; rw [if_pos (by omega)]
  have ht : takeNum (tableB t ++ more) = ((t.length : Int), 1, 0) := by rw [tableB, List.append_assoc]; exact takeNum_small _ (by omega) _
  unfold tableOf
  rw [ht, if_pos ⟨rfl, by omega⟩, Int.toNat_natCast, tableC_laid _ more t 1 [] (formed_sizes h) (by omega) (by rw [tableB, hn]; rfl), List.nil_append, if_pos h, tableB, List.length_append, hn]
  simp

theorem SymBack : ∀ (x0 : List ByteArray) (x1 : List Int) (x2 : List Int), (∀ x ∈ x0, (fun s => s.size ≤ maxLen) x) → (∀ x ∈ x1, (fun n => (Lit.int .u8 n).wf = true) x) → (∀ x ∈ x2, (fun n => (Lit.int .u8 n).wf = true) x) → (Read.sumBulk (fun s => s.size + 1) x0 + 1) + (Read.sumBulk (fun _ => 1) x1 + 1) + (Read.sumBulk (fun _ => 1) x2 + 1) ≤ 1048576 → ∃ k, dragnetlaw06_SymBack.f k x0 x1 x2 = some true := by
  intro t b more _ hb hmore hsum
  simp only [Read.sum_one] at hsum
  have hb' : okbs b := okbs_wf hb
  have hm' : okbs more := okbs_wf hmore
  obtain ⟨K4, h4⟩ := formed06 t
  cases hf : formedB t with
  | false =>
    refine ⟨K4 + 1, ?_⟩
    replace h4 := h4 K4 (Nat.le_refl _)
    dsimp only at h4
    have hp : sym_PutTable.f [] t = some ([], 1) := by unfold sym_PutTable.f; rw [hf]; rfl
    have he : sym_Encode.f (K4 + 1) t b = some ([], 1) := by unfold sym_Encode.f; rw [hf]; rfl
    unfold dragnetlaw06_SymBack.f dragnetlaw06_alive.f
    rw [Option.bind_some, if_pos rfl, he, Option.bind_some, hp, Option.bind_some, if_neg (by decide)]
    simp only [dragnetlaw06_SymBack.j0]
    rw [if_pos trivial, if_pos trivial, h4, hf]
    rfl
  | true =>
    have hl := tableB_len hf
    have htl := formed_len hf
    obtain ⟨codes, ⟨K1, h1⟩, hok, hlen, ⟨K2, h2⟩⟩ := back06 hf b hb' (by omega)
    obtain ⟨K3, h3⟩ := take_sym (l := tableB t ++ more) (okbs_append (tableB_okbs hf) hm') (by simp; omega)
    obtain ⟨K5, h5⟩ := same06 t t (by omega)
    refine ⟨K1 + K2 + K3 + K4 + K5 + 1, ?_⟩
    replace h1 := h1 (K1 + K2 + K3 + K4 + K5 + 1) (by omega)
    replace h2 := h2 (K1 + K2 + K3 + K4 + K5) (by omega)
    replace h3 := h3 (K1 + K2 + K3 + K4 + K5) (by omega)
    replace h5 := h5 (K1 + K2 + K3 + K4 + K5) (by omega)
    generalize K1 + K2 + K3 + K4 + K5 = k at h1 h2 h3 h5 ⊢
    dsimp only at h1 h2 h3 h5
    have hp := table_sym_ok hf (l := []) (by simp)
    rw [List.nil_append] at hp
    unfold dragnetlaw06_SymBack.f dragnetlaw06_alive.f
    rw [Option.bind_some, if_pos rfl, h1, Option.bind_some, hp, Option.bind_some, if_pos rfl]
    simp only [dragnetlaw06_SymBack.j0]
    rw [if_neg (by simp), h2, Option.bind_some, copy01 (by omega), Option.bind_some, if_pos (by omega), h3, Option.bind_some, if_pos rfl, same01 hb' hb', Option.bind_some, decide_eq_true rfl, if_pos rfl, wrap_in (by omega) (by omega), if_pos (by omega), tableOf_laid hf]
    rw [if_pos rfl, if_pos rfl, h5, Option.bind_some, decide_eq_true rfl]
end Go.Proofs.Ytnmidkjmflnolaa.Pure
