/- Plain law of the reference's Pieces: each piece once, in order of first coming, with its count. -/
import Derived.Test.YtnmidkjmflnolaaP1
import Derived.Test.YtnmidkjmflnolaaTrainOrd
import Derived.Test.YtnmidkjmflnolaaPureBase
namespace Go.Proofs.Ytnmidkjmflnolaa.Pure
open Go Go.RowKit Go.Lib Go.Proofs.YtnmidkjmflnolaaW.PrintWords Go.Proofs.Ytnmidkjmflnolaa.P Go.Proofs.Ytnmidkjmflnolaa.Maps
set_option linter.unusedVariables false

def addP : List S83 → ByteArray → List S83
  | [], s => [⟨s, 1⟩]
  | p :: l, s => if p.f0 = s then ⟨p.f0, p.f1 + 1⟩ :: l else p :: addP l s
def okP (m : Nat) (l : List S83) : Prop := l.length ≤ m ∧ ∀ p ∈ l, 0 ≤ p.f1 ∧ p.f1 ≤ (m : Int)
theorem okP_cons {m : Nat} {p : S83} {l : List S83} (h : okP (m + 1) (p :: l)) : l.length ≤ m ∧ (0 ≤ p.f1 ∧ p.f1 ≤ ((m + 1 : Nat) : Int)) ∧ ∀ q ∈ l, 0 ≤ q.f1 ∧ q.f1 ≤ ((m + 1 : Nat) : Int) :=
  ⟨by have := h.1; rw [List.length_cons] at this; omega, h.2 p (List.mem_cons_self ..), fun q hq => h.2 q (List.mem_cons_of_mem _ hq)⟩
theorem addP_len : ∀ (l : List S83) (s : ByteArray), (addP l s).length ≤ l.length + 1
  | [], s => Nat.le_refl _
  | p :: l, s => by
    rw [addP]
    split
    · rw [List.length_cons, List.length_cons]; omega
    · rw [List.length_cons, List.length_cons]; have := addP_len l s; omega
theorem addP_ok {m : Nat} (hm : 1 ≤ m + 1) : ∀ {l : List S83} {s : ByteArray}, (∀ p ∈ l, 0 ≤ p.f1 ∧ p.f1 ≤ (m : Int)) → ∀ p ∈ addP l s, 0 ≤ p.f1 ∧ p.f1 ≤ ((m + 1 : Nat) : Int)
  | [], s, _, p, hp => by
    rw [addP, List.mem_singleton] at hp
    subst hp
    exact ⟨by show (0 : Int) ≤ 1; omega, by show (1 : Int) ≤ _; omega⟩
  | q :: l, s, h, p, hp => by
    rw [addP] at hp
    have hq := h q (List.mem_cons_self ..)
    split at hp
    · rcases List.mem_cons.1 hp with rfl | hp
      · exact ⟨by show 0 ≤ q.f1 + 1; omega, by show q.f1 + 1 ≤ _; omega⟩
      · have := h p (List.mem_cons_of_mem _ hp); omega
    · rcases List.mem_cons.1 hp with rfl | hp
      · omega
      · exact addP_ok hm (fun p hp => h p (List.mem_cons_of_mem _ hp)) p hp
theorem okP_add {m : Nat} {l : List S83} {s : ByteArray} (h : okP m l) : okP (m + 1) (addP l s) :=
  ⟨by have := addP_len l s; have := h.1; omega, addP_ok (by omega) h.2⟩
theorem okP_le {m n : Nat} {l : List S83} (h : okP m l) (hn : m ≤ n) : okP n l := ⟨by have := h.1; omega, fun p hp => by have := h.2 p hp; omega⟩
/-! what the fold holds -/
theorem addP_names : ∀ (l : List S83) (s : ByteArray), (addP l s).map (·.f0) = if s ∈ l.map (·.f0) then l.map (·.f0) else l.map (·.f0) ++ [s]
  | [], s => by rw [addP]; simp
  | p :: l, s => by
    rw [addP]
    by_cases h : p.f0 = s
    · rw [if_pos h, if_pos (by rw [List.map_cons]; exact List.mem_cons.2 (.inl h.symm))]
      rfl
    · rw [if_neg h, List.map_cons, addP_names l s, List.map_cons]
      by_cases h2 : s ∈ l.map (·.f0)
      · rw [if_pos h2, if_pos (List.mem_cons_of_mem _ h2)]
      · rw [if_neg h2, if_neg (fun e => (List.mem_cons.1 e).elim (fun e => h e.symm) h2)]
        rfl
theorem addP_counts (all : List ByteArray) : ∀ (l : List S83) (s : ByteArray), (l.map (·.f0)).Nodup → (∀ p ∈ l, p.f1 = (all.count p.f0 : Int)) → (s ∉ l.map (·.f0) → all.count s = 0) → ∀ p ∈ addP l s, p.f1 = ((all ++ [s]).count p.f0 : Int)
  | [], s, _, _, h0, p, hp => by
    rw [addP, List.mem_singleton] at hp
    subst hp
    show (1 : Int) = _
    rw [List.count_append, List.count_singleton_self, h0 (by simp)]
    rfl
  | q :: l, s, hn, hc, h0, p, hp => by
    rw [List.map_cons, List.nodup_cons] at hn
    have other : ∀ p : S83, p.f0 ≠ s → p.f1 = (all.count p.f0 : Int) → p.f1 = ((all ++ [s]).count p.f0 : Int) := by
      intro p h e
      rw [List.count_append, List.count_singleton, if_neg (by simpa using fun e => h e.symm), Nat.add_zero]
      exact e
    rw [addP] at hp
    by_cases h : q.f0 = s
    · rw [if_pos h] at hp
      rcases List.mem_cons.1 hp with rfl | hp
      · show q.f1 + 1 = (((all ++ [s]).count q.f0 : Nat) : Int)
        have := hc q (List.mem_cons_self ..)
        rw [List.count_append, h, List.count_singleton_self, ← h]
        omega
      · refine other p (fun e => hn.1 ?_) (hc p (List.mem_cons_of_mem _ hp))
        rw [h, ← e]
        exact List.mem_map_of_mem hp
    · rw [if_neg h] at hp
      rcases List.mem_cons.1 hp with rfl | hp
      · exact other p h (hc p (List.mem_cons_self ..))
      · exact addP_counts all l s hn.2 (fun p hp => hc p (List.mem_cons_of_mem _ hp)) (fun e => h0 (fun h' => by
          rw [List.map_cons] at h'
          exact (List.mem_cons.1 h').elim (fun e => h e.symm) e)) p hp
structure FoldIs (all : List ByteArray) (l : List S83) : Prop where
  nodup : (l.map (·.f0)).Nodup
  mem : ∀ s, s ∈ l.map (·.f0) ↔ s ∈ all
  count : ∀ p ∈ l, p.f1 = (all.count p.f0 : Int)
theorem FoldIs.nil : FoldIs [] [] := ⟨List.nodup_nil, fun s => Iff.rfl, fun p hp => absurd hp (List.not_mem_nil)⟩
theorem FoldIs.add {all : List ByteArray} {l : List S83} (h : FoldIs all l) (s : ByteArray) : FoldIs (all ++ [s]) (addP l s) where
  nodup := by
    rw [addP_names]
    split
    · exact h.nodup
    · rename_i hs
      exact List.nodup_append.2 ⟨h.nodup, by simp, fun a ha b hb e => hs (by rw [List.mem_singleton] at hb; rw [← hb, ← e]; exact ha)⟩
  mem := by
    intro t
    rw [addP_names, List.mem_append, List.mem_singleton]
    split
    · rename_i hs
      rw [h.mem]
      exact ⟨.inl, fun e => e.elim id (fun e => by rw [e]; exact (h.mem s).1 hs)⟩
    · rw [List.mem_append, List.mem_singleton, h.mem]
  count := addP_counts all l s h.nodup h.count (fun e => List.count_eq_zero.2 (fun h' => e ((h.mem s).2 h')))
theorem FoldIs.fold : ∀ (r all : List ByteArray) (l : List S83), FoldIs all l → FoldIs (all ++ r) (r.foldl addP l)
  | [], all, l, h => by rw [List.append_nil]; exact h
  | s :: r, all, l, h => by
    have := FoldIs.fold r (all ++ [s]) (addP l s) (h.add s)
    rw [List.append_assoc] at this
    exact this
theorem okP_fold : ∀ (r : List ByteArray) (m : Nat) (l : List S83), okP m l → okP (m + r.length) (r.foldl addP l)
  | [], m, l, h => h
  | s :: r, m, l, h => by
    have := okP_fold r (m + 1) (addP l s) (okP_add h)
    rw [List.length_cons, show m + (r.length + 1) = m + 1 + r.length by omega]
    exact this
theorem rdT (l : List S83) (i : Nat) (h : i < l.length) : rd_T83 l (i : Int) = l[i] := by
  unfold rd_T83
  rw [Int.toNat_natCast, List.getD_eq_getElem?_getD, List.getElem?_eq_getElem h]
  rfl
/-! the rounds -/
theorem pieces_l3 (x0 : List (List Int)) (left5 : Int) (i5 : Int) (s : ByteArray) (a n : Nat) (l : List S83) (r : List S83) (m : Nat)
    (hs : s.size ≤ 100000) (ha : a + n ≤ s.size) (hn : n ≤ 8) (hok : okP m l) (hm : m ≤ 100000)
    (hr : Ev (fun k => dragnetref06_Pieces.l2 k x0 (addP l (s.extract a (a + n))) left5 i5 s (a : Int) ((n + 1 : Nat) : Int)) r) :
    ∀ (d i : Nat), i + d = l.length → addP l (s.extract a (a + n)) = l.take i ++ addP (l.drop i) (s.extract a (a + n)) →
      Ev (fun k => dragnetref06_Pieces.l3 k x0 l left5 i5 s (a : Int) (n : Int) false (i : Int)) r := by
  have hl := hok.1
  have w1 : wrap64 ((a : Int) + (n : Int)) = ((a + n : Nat) : Int) := by rw [wrap_in (by omega) (by omega)]; omega
  intro d
  induction d with
  | zero =>
    intro i hi he
    obtain rfl : i = l.length := by omega
    rw [List.drop_of_length_le (Nat.le_refl _), List.take_of_length_le (Nat.le_refl _), addP] at he
    rw [he] at hr
    refine Ev.step (fun k => ?_) hr
    simp only [dragnetref06_Pieces.l3]
    rw [if_neg (by omega), if_neg (by decide), if_pos (by omega), w1, if_pos (by omega), if_pos (by omega), if_pos (by omega), Int.toNat_natCast, Int.toNat_natCast, wrap_in (by omega) (by omega)]
    rfl
  | succ d ih =>
    intro i hi he
    have hlt : i < l.length := by omega
    have hmem : l[i] ∈ l := List.getElem_mem hlt
    have hb := hok.2 _ hmem
    by_cases hx : l[i].f0 = s.extract a (a + n)
    · rw [List.drop_eq_getElem_cons hlt, addP, if_pos hx] at he
      have he' : addP l (s.extract a (a + n)) = l.set i ⟨l[i].f0, l[i].f1 + 1⟩ := by
        rw [he, List.set_eq_take_append_cons_drop, if_pos hlt]
      rw [he'] at hr
      refine Ev.step (fun k => ?_) hr
      simp only [dragnetref06_Pieces.l3]
      rw [if_pos (by omega), if_pos (by omega), if_pos (by omega), w1, if_pos (by omega), if_pos (by omega), Int.toNat_natCast, Int.toNat_natCast, Int.toNat_natCast, rdT l i hlt, if_pos (by rw [hx]), wrap_in (by omega) (by omega), wrap_in (by omega) (by omega)]
      rfl
    · rw [List.drop_eq_getElem_cons hlt, addP, if_neg hx] at he
      refine Ev.step (fun k => ?_) (ih (i + 1) (by omega) (by rw [he, List.take_succ_eq_append_getElem hlt, List.append_assoc]; rfl))
      simp only [dragnetref06_Pieces.l3]
      rw [if_pos (by omega), if_pos (by omega), if_pos (by omega), w1, if_pos (by omega), if_pos (by omega), Int.toNat_natCast, Int.toNat_natCast, rdT l i hlt, if_neg (fun e => hx (toList_inj.1 e)), wrap_in (by omega) (by omega)]
      rfl
theorem pieces_l2 (x0 : List (List Int)) (left5 : Int) (i5 : Int) (s : ByteArray) (a : Nat) (r : List S83) (hs : s.size ≤ 100000) (ha : a < s.size) :
    ∀ (d n : Nat) (l : List S83) (m : Nat), 2 ≤ n → d = min 8 (s.size - a) + 1 - n → okP m l → m + d ≤ 100000 →
      Ev (fun k => dragnetref06_Pieces.l1 k x0 ((piecesAt s a n d).foldl addP l) left5 i5 s ((a + 1 : Nat) : Int)) r →
      Ev (fun k => dragnetref06_Pieces.l2 k x0 l left5 i5 s (a : Int) (n : Int)) r := by
  have w1 : wrap64 ((s.size : Int) - (a : Int)) = ((s.size - a : Nat) : Int) := by rw [wrap_in (by omega) (by omega)]; omega
  intro d
  induction d with
  | zero =>
    intro n l m h2 hd hok hm hr
    rw [piecesAt, List.foldl_nil] at hr
    refine Ev.step (f := fun k => dragnetref06_Pieces.j4 k x0 l left5 i5 s (a : Int) (n : Int) false) (fun k => ?_) (Ev.step (fun k => ?_) hr)
    · simp only [dragnetref06_Pieces.l2]
      by_cases h8 : n ≤ 8
      · rw [if_pos (by omega), w1, decide_eq_false (by omega)]
      · rw [if_neg (by omega)]
    · simp only [dragnetref06_Pieces.j4]
      rw [if_neg (by decide), wrap_in (by omega) (by omega)]
      rfl
  | succ d ih =>
    intro n l m h2 hd hok hm hr
    rw [piecesAt, List.foldl_cons] at hr
    have h := ih (n + 1) (addP l (s.extract a (a + n))) (m + 1) (by omega) (by omega) (okP_add hok) (by omega) hr
    refine Ev.step (f := fun k => dragnetref06_Pieces.j4 k x0 l left5 i5 s (a : Int) (n : Int) true) (fun k => ?_) (Ev.step (fun k => ?_) (pieces_l3 x0 left5 i5 s a n l r m hs (by omega) (by omega) hok (by omega) h l.length 0 (by omega) (by rfl)))
    · simp only [dragnetref06_Pieces.l2]
      rw [if_pos (by omega), w1, decide_eq_true (by omega)]
    · simp only [dragnetref06_Pieces.j4]
      rw [if_pos trivial]
      rfl
theorem pieces_l1 (x0 : List (List Int)) (left5 : Int) (i5 : Nat) (s : ByteArray) (r : List S83) (hs : s.size ≤ 2000) (hi : i5 ≤ 100000000) :
    ∀ (d a : Nat) (l : List S83) (m : Nat), a + d = s.size → okP m l → m + 7 * d ≤ 100000 →
      Ev (fun k => dragnetref06_Pieces.l0 k x0 ((piecesFrom s a d).foldl addP l) left5 ((i5 + 1 : Nat) : Int)) r →
      Ev (fun k => dragnetref06_Pieces.l1 k x0 l left5 (i5 : Int) s (a : Int)) r := by
  intro d
  induction d with
  | zero =>
    intro a l m h2 hok hm hr
    rw [piecesFrom, List.foldl_nil] at hr
    refine Ev.step (fun k => ?_) hr
    simp only [dragnetref06_Pieces.l1]
    rw [if_neg (by omega), wrap_in (by omega) (by omega)]
    rfl
  | succ d ih =>
    intro a l m h2 hok hm hr
    rw [piecesFrom, List.foldl_append] at hr
    have e1 : (piecesAt s a 2 (howMany s a)).length = howMany s a := piecesAt_len _ _ _ _
    have e2 : howMany s a = min 8 (s.size - a) + 1 - 2 := rfl
    have ho := okP_fold (piecesAt s a 2 (howMany s a)) m l hok
    have h := ih (a + 1) _ _ (by omega) ho (by omega) hr
    refine Ev.step (fun k => ?_) (pieces_l2 x0 left5 (i5 : Int) s a r (by omega) (by omega) (howMany s a) 2 l m (by omega) e2 hok (by omega) h)
    simp only [dragnetref06_Pieces.l1]
    rw [if_pos (by omega)]
    rfl
theorem allP_zero : ∀ l : List (List Int), allP 0 l = []
  | [] => rfl
  | b :: l => by
    have h : (takeS 0 b).size = 0 := by rw [takeS_size]; omega
    rw [allP, h, allP_zero l, piecesS, h, piecesFrom]
    rfl
theorem mn_nat (a b : Nat) : mn (a : Int) (b : Int) = ((min a b : Nat) : Int) := by
  unfold mn
  split <;> omega
theorem rd4 (l : List (List Int)) (i : Nat) (h : i < l.length) : rd_L4 l (i : Int) = l[i] := by
  unfold rd_L4
  rw [Int.toNat_natCast, List.getD_eq_getElem?_getD, List.getElem?_eq_getElem h]
  rfl
theorem pieces_l0 (x0 : List (List Int)) (hx : x0.length ≤ 100000000) :
    ∀ (d i left : Nat) (l : List S83) (m : Nat), i + d = x0.length → left ≤ 1024 → okP m l → m + 7 * left ≤ 100000 →
      Ev (fun k => dragnetref06_Pieces.l0 k x0 l (left : Int) (i : Int)) ((allP left (x0.drop i)).foldl addP l) := by
  intro d
  induction d with
  | zero =>
    intro i left l m hi hl hok hm
    rw [List.drop_of_length_le (by omega), allP, List.foldl_nil]
    refine Ev.step (f := fun k => dragnetref06_Pieces.j1 k x0 l (left : Int) (i : Int) false) (fun k => ?_) (Ev.step (f := fun _ => some l) (fun k => ?_) (Ev.now _))
    · simp only [dragnetref06_Pieces.l0]
      rw [if_neg (by omega)]
    · simp only [dragnetref06_Pieces.j1]
      rw [if_neg (by decide)]
  | succ d ih =>
    intro i left l m hi hl hok hm
    have hlt : i < x0.length := by omega
    by_cases h0 : left = 0
    · subst h0
      rw [allP_zero, List.foldl_nil]
      refine Ev.step (f := fun k => dragnetref06_Pieces.j1 k x0 l ((0 : Nat) : Int) (i : Int) false) (fun k => ?_) (Ev.step (f := fun _ => some l) (fun k => ?_) (Ev.now _))
      · simp only [dragnetref06_Pieces.l0]
        rw [if_pos (by omega), decide_eq_false (by omega)]
      · simp only [dragnetref06_Pieces.j1]
        rw [if_neg (by decide)]
    · rw [List.drop_eq_getElem_cons hlt, allP, List.foldl_append]
      have hsz := takeS_size left x0[i]
      have hpl := piecesFrom_len (takeS left x0[i]) (takeS left x0[i]).size 0
      have ho := okP_fold (piecesS (takeS left x0[i])) m l hok
      have hpl' : (piecesS (takeS left x0[i])).length ≤ 7 * (takeS left x0[i]).size := hpl
      have hsl : (takeS left x0[i]).size ≤ left := by omega
      generalize hS : takeS left x0[i] = S at hsz hpl hpl' ho hsl ⊢
      have h := ih (i + 1) (left - S.size) _ _ (by omega) (by omega) ho (by omega)
      refine Ev.step (f := fun k => dragnetref06_Pieces.j1 k x0 l (left : Int) (i : Int) true) (fun k => ?_) (Ev.step (f := fun k => dragnetref06_Pieces.l1 k x0 l ((left - S.size : Nat) : Int) (i : Int) S ((0 : Nat) : Int)) (fun k => ?_) (pieces_l1 x0 _ i S _ (by omega) (by omega) S.size 0 l m (by omega) hok (by omega) h))
      · simp only [dragnetref06_Pieces.l0]
        rw [if_pos (by omega), decide_eq_true (by omega)]
      · have hS' : strOfNums (x0[i].take (min left x0[i].length)) = S := hS
        simp only [dragnetref06_Pieces.j1]
        rw [if_pos trivial, if_pos (by omega), if_pos (by omega), rd4 x0 i hlt, mn_nat, if_pos (by omega), if_pos (by omega), Int.toNat_natCast, hS', wrap_in (by omega) (by omega), Int.ofNat_sub hsl]
        rfl
theorem pieces06 (x0 : List (List Int)) (hx : x0.length ≤ 100000000) : Ev (fun k => dragnetref06_Pieces.f k x0) ((allP 1024 x0).foldl addP []) :=
  pieces_l0 x0 hx x0.length 0 1024 [] 0 (by omega) (by omega) ⟨Nat.le_refl _, fun p hp => absurd hp (List.not_mem_nil)⟩ (by omega)
end Go.Proofs.Ytnmidkjmflnolaa.Pure
