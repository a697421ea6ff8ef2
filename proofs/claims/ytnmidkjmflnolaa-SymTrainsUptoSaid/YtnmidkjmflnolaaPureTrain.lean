/- Plain law of the reference's Train: its rounds choose the pieces in sym.Train's order. -/
import Derived.Test.YtnmidkjmflnolaaP2
import Derived.Test.YtnmidkjmflnolaaP1
import Derived.Test.YtnmidkjmflnolaaPurePieces
import Derived.Test.YtnmidkjmflnolaaSymFormed
namespace Go.Proofs.Ytnmidkjmflnolaa.Pure
open Go Go.RowKit Go.Lib Go.Proofs.YtnmidkjmflnolaaW.PrintWords Go.Proofs.Ytnmidkjmflnolaa.P Go.Proofs.Ytnmidkjmflnolaa.Maps
set_option linter.unusedVariables false

theorem rdE (l : List ByteArray) (i : Nat) (h : i < l.length) : rdOf ByteArray.empty l (i : Int) = l[i] := rdOf_nat _ l i h
theorem same06_loop (l r : List ByteArray) (hn : l.length ≤ 1048576) (hr : l.length = r.length) : ∀ (d i : Nat), i + d = l.length → (∀ j, j < i → l[j]? = r[j]?) → Ev (fun k => dragnetref06_Same.l0 k l r (i : Int)) (decide (l = r)) := by
  intro d
  induction d with
  | zero =>
    intro i hi hp
    have e : l = r := List.ext_getElem? (fun j => by
      by_cases h : j < i
      · exact hp j h
      · rw [List.getElem?_eq_none (by omega), List.getElem?_eq_none (by omega)])
    refine Ev.step (f := fun _ => some true) (fun k => ?_) (by rw [decide_eq_true e]; exact Ev.now true)
    simp only [dragnetref06_Same.l0]
    rw [if_neg (by omega)]
  | succ d ih =>
    intro i hi hp
    by_cases hx : l[i]'(by omega) = r[i]'(by omega)
    · refine Ev.step (f := fun k => dragnetref06_Same.l0 k l r ((i + 1 : Nat) : Int)) (fun k => ?_) (ih (i + 1) (by omega) (fun j hj => ?_))
      · simp only [dragnetref06_Same.l0]
        rw [if_pos (by omega), if_pos (by omega), if_pos (by omega), rdE l i (by omega), rdE r i (by omega), if_pos (by rw [hx]), wrap_in (by omega) (by omega)]
        rfl
      · by_cases h : j < i
        · exact hp j h
        · obtain rfl : j = i := by omega
          rw [List.getElem?_eq_getElem (by omega), List.getElem?_eq_getElem (by omega), hx]
    · refine Ev.step (f := fun _ => some false) (fun k => ?_) (by rw [decide_eq_false (fun e => hx (by subst e; rfl))]; exact Ev.now false)
      simp only [dragnetref06_Same.l0]
      rw [if_pos (by omega), if_pos (by omega), if_pos (by omega), rdE l i (by omega), rdE r i (by omega), if_neg (fun e => hx (toList_inj.1 e))]
theorem same06 (l r : List ByteArray) (hn : l.length ≤ 1048576) : Ev (fun k => dragnetref06_Same.f k l r) (decide (l = r)) := by
  unfold dragnetref06_Same.f
  by_cases h : l.length = r.length
  · refine Ev.congr (f := fun k => dragnetref06_Same.l0 k l r 0) (fun k => by rw [if_pos (by omega)]) ?_
    exact same06_loop l r hn h l.length 0 (by omega) (fun j hj => absurd hj (Nat.not_lt_zero _))
  · refine Ev.congr (f := fun _ => some false) (fun k => by rw [if_neg (by omega)]) ?_
    rw [decide_eq_false (fun e => h (by rw [e]))]
    exact Ev.now false

/-! ### the order of texts -/
theorem less_cmp : ∀ l r : List UInt8, (Op.bytesLess l r = true) ↔ compareBytes l r < 0
  | [], [] => by simp [Op.bytesLess, compareBytes]
  | [], _ :: _ => by simp [Op.bytesLess, compareBytes]
  | _ :: _, [] => by simp [Op.bytesLess, compareBytes]
  | a :: l, b :: r => by
    rw [cb_cons, Op.bytesLess, Bool.or_eq_true, decide_eq_true_eq, Bool.and_eq_true, beq_iff_eq, less_cmp l r, UInt8.lt_iff_toNat_lt]
    by_cases h1 : a.toNat < b.toNat
    · rw [if_pos h1]; exact ⟨fun _ => by omega, fun _ => .inl h1⟩
    · rw [if_neg h1]
      by_cases h2 : b.toNat < a.toNat
      · rw [if_pos h2]; exact ⟨fun e => e.elim (fun e => absurd e h1) (fun e => by rw [e.1] at h2; omega), fun e => by omega⟩
      · rw [if_neg h2]
        exact ⟨fun e => e.elim (fun e => absurd e h1) (·.2), fun e => .inr ⟨UInt8.toNat_inj.1 (by omega), e⟩⟩

/-! ### a round's choice -/
def encT (p : S83) : ByteArray × Int := (p.f0, ((p.f0.size : Int) - 1) * p.f1)
def liveT (p : S83) : Prop := 2 ≤ p.f1
instance (p : S83) : Decidable (liveT p) := inferInstanceAs (Decidable (2 ≤ p.f1))
def okT (l : List S83) : Prop := l.length ≤ 100000 ∧ ∀ p ∈ l, 0 ≤ p.f1 ∧ p.f1 ≤ 100000 ∧ 2 ≤ p.f0.size ∧ p.f0.size ≤ 8
theorem worth_of {l : List S83} (h : okT l) (i : Nat) (hi : i < l.length) : dragnetref06_worth.f l[i].f0 l[i].f1 = some (encT l[i]).2 := by
  obtain ⟨h0, h1, h2, h3⟩ := h.2 _ (List.getElem_mem hi)
  have e : ((l[i].f0.size : Int) - 1) * l[i].f1 ≤ 7 * 100000 := Int.mul_le_mul (by omega) h1 h0 (by omega)
  have e0 : 0 ≤ ((l[i].f0.size : Int) - 1) * l[i].f1 := Int.mul_nonneg (by omega) h0
  unfold dragnetref06_worth.f encT
  rw [wrap_in (x := (l[i].f0.size : Int) - 1) (by omega) (by omega), wrap_in (by omega) (by omega)]
structure Best (l : List S83) (i : Nat) (b : Int) : Prop where
  one : b = -1 ∧ (∀ j (h : j < l.length), j < i → ¬ liveT l[j]) ∨ ∃ n, ∃ hn : n < l.length, b = (n : Int) ∧ n < i ∧ liveT l[n] ∧ ∀ j (h : j < l.length), j < i → liveT l[j] → cmpP (encT l[n]) (encT l[j]) ≤ 0
theorem Best.start (l : List S83) : Best l 0 (-1) := ⟨.inl ⟨rfl, fun j _ h => by omega⟩⟩
theorem Best.skip {l : List S83} {i : Nat} {b : Int} (h : Best l i b) (hi : i < l.length) (hl : ¬ liveT l[i]) : Best l (i + 1) b := by
  rcases h.one with ⟨e, h⟩ | ⟨n, hn, e, hn2, hl2, h⟩
  · exact ⟨.inl ⟨e, fun j hj hj2 => if hji : j < i then h j hj hji else by
      obtain rfl : j = i := by omega
      exact hl⟩⟩
  · exact ⟨.inr ⟨n, hn, e, by omega, hl2, fun j hj hj2 hlj => if hji : j < i then h j hj hji hlj else by
      obtain rfl : j = i := by omega
      exact absurd hlj hl⟩⟩
theorem Best.take {l : List S83} {i : Nat} {b : Int} (h : Best l i b) (hi : i < l.length) (hl : liveT l[i]) (hc : ∀ n (hn : n < l.length), b = (n : Int) → cmpP (encT l[i]) (encT l[n]) ≤ 0) : Best l (i + 1) (i : Int) := by
  refine ⟨.inr ⟨i, hi, rfl, by omega, hl, fun j hj hj2 hlj => ?_⟩⟩
  by_cases hji : j < i
  · rcases h.one with ⟨e, h⟩ | ⟨n, hn, e, hn2, hl2, h⟩
    · exact absurd hlj (h j hj hji)
    · exact (cp_trans _ _ _ (hc n hn e) (h j hj hji hlj)).1
  · obtain rfl : j = i := by omega
    rw [cp_refl]
    omega
theorem Best.keep {l : List S83} {i n : Nat} (h : Best l i (n : Int)) (hi : i < l.length) (hn : n < l.length) (hc : cmpP (encT l[n]) (encT l[i]) ≤ 0) : Best l (i + 1) (n : Int) := by
  rcases h.one with ⟨e, h⟩ | ⟨n', hn', e, hn2, hl2, h⟩
  · omega
  · obtain rfl : n = n' := by omega
    exact ⟨.inr ⟨n, hn, rfl, by omega, hl2, fun j hj hj2 hlj => if hji : j < i then h j hj hji hlj else by
      obtain rfl : j = i := by omega
      exact hc⟩⟩
theorem cmp_sign (x y : ByteArray × Int) : cmpP x y < 0 ↔ y.2 < x.2 ∨ x.2 = y.2 ∧ Op.bytesLess x.1.toList y.1.toList = true := by
  rw [cp_eq_cmp, toList_eq, toList_eq, less_cmp]
  by_cases h1 : y.2 < x.2
  · rw [if_pos h1]; exact ⟨fun _ => .inl h1, fun _ => by omega⟩
  · rw [if_neg h1]
    by_cases h2 : x.2 < y.2
    · rw [if_pos h2]; exact ⟨fun e => by omega, fun e => by omega⟩
    · rw [if_neg h2]; exact ⟨fun e => .inr ⟨by omega, e⟩, fun e => e.elim (fun e => absurd e h1) (·.2)⟩
theorem train_l1 (l : List S83) (t : List ByteArray) (h : okT l) : ∀ (d i : Nat) (b : Int), i + d = l.length → Best l i b → ∃ b', Best l l.length b' ∧ ∀ r, Ev (fun k => dragnetref06_Train.l1 k l t b' (l.length : Int)) r → Ev (fun k => dragnetref06_Train.l1 k l t b (i : Int)) r := by
  have hlen := h.1
  intro d
  induction d with
  | zero =>
    intro i b hi hb
    obtain rfl : i = l.length := by omega
    exact ⟨b, hb, fun r hr => hr⟩
  | succ d ih =>
    intro i b hi hb
    have hlt : i < l.length := by omega
    have w1 : wrap64 ((i : Int) + 1) = ((i + 1 : Nat) : Int) := by rw [wrap_in (by omega) (by omega)]; omega
    have wi := worth_of h i hlt
    by_cases hl : liveT l[i]
    · have hl' : l[i].f1 ≥ 2 := hl
      rcases hb.one with ⟨e, hno⟩ | ⟨n, hn, e, hn2, hl2, hbest⟩
      · subst e
        obtain ⟨b', hb', hk⟩ := ih (i + 1) (i : Int) (by omega) (hb.take hlt hl (fun n hn e => by omega))
        refine ⟨b', hb', fun r hr => Ev.step (fun k => ?_) (hk r hr)⟩
        simp only [dragnetref06_Train.l1]
        rw [if_pos (by omega), if_pos (by omega), rdT l i hlt, if_pos hl', if_pos (by omega), w1]
      · subst e
        have wn := worth_of h n hn
        by_cases hc : cmpP (encT l[i]) (encT l[n]) < 0
        · obtain ⟨b', hb', hk⟩ := ih (i + 1) (i : Int) (by omega) (hb.take hlt hl (fun m hm e => by
            obtain rfl : n = m := by omega
            omega))
          refine ⟨b', hb', fun r hr => Ev.step (fun k => ?_) (hk r hr)⟩
          simp only [dragnetref06_Train.l1]
          rw [if_pos (by omega), if_pos (by omega), rdT l i hlt, if_pos hl', if_neg (by omega), wi]
          simp only [Option.bind_some]
          rw [if_pos (by omega), if_pos (by omega), rdT l n hn, wn]
          simp only [Option.bind_some]
          rw [w1]
          by_cases h1 : (encT l[i]).2 > (encT l[n]).2
          · rw [if_pos h1]
          · rw [if_neg h1]
            rcases (cmp_sign _ _).1 hc with h2 | ⟨h2, h3⟩
            · exact absurd h2 h1
            · rw [if_pos h2, if_pos (show Op.bytesLess l[i].f0.toList l[n].f0.toList = true from h3)]
        · obtain ⟨b', hb', hk⟩ := ih (i + 1) (n : Int) (by omega) (hb.keep hlt hn (by rw [cp_anti]; omega))
          refine ⟨b', hb', fun r hr => Ev.step (fun k => ?_) (hk r hr)⟩
          simp only [dragnetref06_Train.l1]
          rw [if_pos (by omega), if_pos (by omega), rdT l i hlt, if_pos hl', if_neg (by omega), wi]
          simp only [Option.bind_some]
          rw [if_pos (by omega), if_pos (by omega), rdT l n hn, wn]
          simp only [Option.bind_some]
          rw [w1, if_neg (fun e => hc ((cmp_sign _ _).2 (.inl e)))]
          by_cases h2 : (encT l[i]).2 = (encT l[n]).2
          · rw [if_pos h2, if_neg (fun (e : Op.bytesLess l[i].f0.toList l[n].f0.toList = true) => hc ((cmp_sign _ _).2 (.inr ⟨h2, e⟩)))]
          · rw [if_neg h2]
    · obtain ⟨b', hb', hk⟩ := ih (i + 1) b (by omega) (hb.skip hlt hl)
      refine ⟨b', hb', fun r hr => Ev.step (fun k => ?_) (hk r hr)⟩
      simp only [dragnetref06_Train.l1]
      rw [if_pos (by omega), if_pos (by omega), rdT l i hlt, if_neg (show ¬ l[i].f1 ≥ 2 from hl), w1]

/-! ### all rounds -/
def liveL (l : List S83) : List (ByteArray × Int) := (l.filter fun p => decide (liveT p)).map encT
theorem liveL_none {l : List S83} (h : ∀ j (hj : j < l.length), ¬ liveT l[j]) : liveL l = [] := by
  unfold liveL
  rw [List.filter_eq_nil_iff.2 (fun p hp => by
    obtain ⟨j, hj, rfl⟩ := List.mem_iff_getElem.1 hp
    simpa using h j hj)]
  rfl
theorem liveL_app (l r : List S83) : liveL (l ++ r) = liveL l ++ liveL r := by
  unfold liveL
  rw [List.filter_append, List.map_append]
theorem liveL_set {l : List S83} {n : Nat} (hn : n < l.length) (hl : liveT l[n]) : (liveL l).Perm (encT l[n] :: liveL (l.set n ⟨l[n].f0, 0⟩)) := by
  have e1 : l = l.take n ++ l[n] :: l.drop (n + 1) := by rw [← List.drop_eq_getElem_cons hn, List.take_append_drop]
  have e2 : l.set n ⟨l[n].f0, 0⟩ = l.take n ++ ⟨l[n].f0, 0⟩ :: l.drop (n + 1) := by rw [List.set_eq_take_append_cons_drop, if_pos hn]
  have e3 : liveL (l[n] :: l.drop (n + 1)) = encT l[n] :: liveL (l.drop (n + 1)) := by
    unfold liveL
    rw [List.filter_cons_of_pos (by simpa using hl)]
    rfl
  have e4 : liveL ((⟨l[n].f0, 0⟩ : S83) :: l.drop (n + 1)) = liveL (l.drop (n + 1)) := by
    unfold liveL
    rw [List.filter_cons_of_neg (by simp [liveT])]
  rw [e2, liveL_app, e4]
  have : liveL l = liveL (l.take n) ++ encT l[n] :: liveL (l.drop (n + 1)) := by
    rw [← e3, ← liveL_app, ← e1]
  rw [this]
  exact List.perm_middle
theorem mem_liveL {l : List S83} {x : ByteArray × Int} : x ∈ liveL l ↔ ∃ j, ∃ hj : j < l.length, liveT l[j] ∧ encT l[j] = x := by
  unfold liveL
  rw [List.mem_map]
  constructor
  · rintro ⟨p, hp, rfl⟩
    rw [List.mem_filter] at hp
    obtain ⟨j, hj, rfl⟩ := List.mem_iff_getElem.1 hp.1
    exact ⟨j, hj, by simpa using hp.2, rfl⟩
  · rintro ⟨j, hj, hl, rfl⟩
    exact ⟨l[j], List.mem_filter.2 ⟨List.getElem_mem hj, by simpa using hl⟩, rfl⟩
theorem sort_step {l : List (ByteArray × Int)} {x : ByteArray × Int} {l' : List (ByteArray × Int)} (hp : l.Perm (x :: l')) (hm : ∀ y ∈ l, cmpP x y ≤ 0) : l.mergeSort leP = x :: l'.mergeSort leP := by
  refine List.Perm.eq_of_pairwise (fun a b _ _ h1 h2 => leP_antisymm a b h1 h2) (List.pairwise_mergeSort leP_trans leP_total l) ?_ ((List.mergeSort_perm l leP).trans (hp.trans ((List.mergeSort_perm l' leP).symm.cons x)))
  refine List.pairwise_cons.2 ⟨fun y hy => ?_, List.pairwise_mergeSort leP_trans leP_total l'⟩
  rw [leP_iff]
  exact hm y (hp.mem_iff.2 (List.mem_cons_of_mem _ ((List.mergeSort_perm l' leP).mem_iff.1 hy)))
theorem okT_set {l : List S83} {n : Nat} (h : okT l) (hn : n < l.length) : okT (l.set n ⟨l[n].f0, 0⟩) := by
  refine ⟨by rw [List.length_set]; exact h.1, fun p hp => ?_⟩
  rcases List.mem_or_eq_of_mem_set hp with hp | rfl
  · exact h.2 p hp
  · have := h.2 _ (List.getElem_mem hn)
    exact ⟨by show (0 : Int) ≤ 0; omega, by show (0 : Int) ≤ 100000; omega, this.2.2.1, this.2.2.2⟩
theorem train_l0 : ∀ (d : Nat) (l : List S83) (t : List ByteArray), t.length + d = 32 → okT l → Ev (fun k => dragnetref06_Train.l0 k l t) (t ++ (((liveL l).mergeSort leP).take d).map (·.1)) := by
  intro d
  induction d with
  | zero =>
    intro l t ht h
    rw [List.take_zero, List.map_nil, List.append_nil]
    refine Ev.step (f := fun _ => some t) (fun k => ?_) (Ev.now _)
    simp only [dragnetref06_Train.l0]
    rw [if_neg (by omega)]
  | succ d ih =>
    intro l t ht h
    have hlen := h.1
    obtain ⟨b, hb, hk⟩ := train_l1 l t h l.length 0 (-1) (by omega) (Best.start l)
    refine Ev.step (f := fun k => dragnetref06_Train.l1 k l t (-1) ((0 : Nat) : Int)) (fun k => ?_) (hk _ ?_)
    · simp only [dragnetref06_Train.l0]
      rw [if_pos (by omega)]
      rfl
    · rcases hb.one with ⟨e, hno⟩ | ⟨n, hn, e, hn2, hl2, hbest⟩
      · rw [liveL_none (fun j hj => hno j hj hj), List.mergeSort_nil, List.take_nil, List.map_nil, List.append_nil]
        refine Ev.step (f := fun _ => some t) (fun k => ?_) (Ev.now _)
        simp only [dragnetref06_Train.l1]
        rw [if_neg (by omega), if_pos (by omega)]
      · subst e
        have hs := sort_step (liveL_set hn hl2) (fun y hy => by
          obtain ⟨j, hj, hlj, rfl⟩ := mem_liveL.1 hy
          exact hbest j hj hj hlj)
        rw [hs, List.take_succ_cons, List.map_cons]
        have hr := ih (l.set n ⟨l[n].f0, 0⟩) (t ++ [l[n].f0]) (by rw [List.length_append, List.length_singleton]; omega) (okT_set h hn)
        rw [List.append_assoc] at hr
        refine Ev.step (fun k => ?_) hr
        simp only [dragnetref06_Train.l1]
        rw [if_neg (by omega), if_neg (by omega), if_pos (by omega), if_pos (by omega), if_pos (by omega), rdT l n hn, Int.toNat_natCast]
theorem fold_live {all : List ByteArray} {l : List S83} (h : FoldIs all l) : (liveL l).Perm (candP all) := by
  have hd := nodup_distP all
  have e1 : liveL l = ((l.map (·.f0)).filter fun s => decide (1 < all.count s)).map (worthP all) := by
    unfold liveL
    rw [List.filter_map, List.map_map]
    rw [show (l.filter fun p => decide (liveT p)) = l.filter ((fun s => decide (1 < all.count s)) ∘ (·.f0)) from List.filter_congr (fun p hp => by
      have := h.count p hp
      show decide (2 ≤ p.f1) = decide (1 < all.count p.f0)
      exact decide_eq_decide.2 (by omega))]
    refine List.map_congr_left (fun p hp => ?_)
    have := h.count p ((List.mem_filter.1 hp).1)
    simp only [Function.comp, encT, worthP, this]
  rw [e1]
  refine List.Perm.map _ (List.Perm.filter _ ?_)
  exact (List.perm_ext_iff_of_nodup h.nodup hd).2 (fun s => (h.mem s).trans mem_distP.symm)
theorem train06 (x0 : List (List Int)) (hx : x0.length ≤ 100000000) : Ev (fun k => dragnetref06_Train.f k x0) (trainAll (allP 1024 x0)) := by
  unfold dragnetref06_Train.f
  have hall := allP_len x0 1024
  have hf := FoldIs.fold (allP 1024 x0) [] [] FoldIs.nil
  rw [List.nil_append] at hf
  have ho := okP_fold (allP 1024 x0) 0 [] ⟨Nat.le_refl _, fun p hp => absurd hp (List.not_mem_nil)⟩
  have hok : okT ((allP 1024 x0).foldl addP []) := by
    refine ⟨by have := ho.1; omega, fun p hp => ?_⟩
    have h1 := ho.2 p hp
    have h2 := allP_size x0 1024 p.f0 ((hf.mem p.f0).1 (List.mem_map_of_mem hp))
    exact ⟨h1.1, by omega, h2.1, h2.2⟩
  refine Ev.bind (pieces06 x0 hx) ?_
  have := train_l0 32 _ [] rfl hok
  rw [List.nil_append, sort_one (fold_live hf)] at this
  exact this
/-! ### a table of pieces is formed -/
theorem fresh_of : ∀ (l seen : List ByteArray), (∀ x ∈ l, 2 ≤ x.size ∧ x.size ≤ 8) → (seen ++ l).Nodup → freshIn seen l = true
  | [], _, _, _ => rfl
  | s :: r, seen, h, hn => by
    have h1 := h s (List.mem_cons_self ..)
    rw [freshIn, okSym, decide_eq_true h1.1, decide_eq_true h1.2, fresh_of r (seen ++ [s]) (fun x hx => h x (List.mem_cons_of_mem _ hx)) (by rw [List.append_assoc]; exact hn)]
    have h2 : memB s seen = false := by
      rw [← Bool.not_eq_true, memB_iff]
      intro e
      exact (List.nodup_append.1 hn).2.2 s e s (List.mem_cons_self ..) rfl
    rw [h2]
    rfl
theorem train_mem {all : List ByteArray} {x : ByteArray} (h : x ∈ trainAll all) : x ∈ all := by
  unfold trainAll at h
  obtain ⟨y, hy, rfl⟩ := List.mem_map.1 h
  have h1 := (List.mergeSort_perm (candP all) leP).mem_iff.1 (List.mem_of_mem_take hy)
  unfold candP at h1
  obtain ⟨s, hs, rfl⟩ := List.mem_map.1 h1
  exact mem_distP.1 ((List.mem_filter.1 hs).1)
theorem train_nodup (all : List ByteArray) : (trainAll all).Nodup := by
  unfold trainAll
  rw [List.map_take]
  refine List.Nodup.sublist (List.take_sublist _ _) ?_
  refine ((List.mergeSort_perm (candP all) leP).map (·.1)).nodup_iff.2 ?_
  unfold candP
  rw [List.map_map, show ((fun x : ByteArray × Int => x.1) ∘ worthP all) = id from rfl, List.map_id]
  exact (nodup_distP all).filter _
theorem train_len (all : List ByteArray) : (trainAll all).length ≤ 32 := by
  unfold trainAll
  rw [List.length_map, List.length_take]
  omega
theorem train_formed (x0 : List (List Int)) : formedB (trainAll (allP 1024 x0)) = true := by
  unfold formedB
  rw [decide_eq_true (train_len _), fresh_of _ [] (fun x hx => allP_size _ _ x (train_mem hx)) (by rw [List.nil_append]; exact train_nodup _)]
  rfl
end Go.Proofs.Ytnmidkjmflnolaa.Pure
