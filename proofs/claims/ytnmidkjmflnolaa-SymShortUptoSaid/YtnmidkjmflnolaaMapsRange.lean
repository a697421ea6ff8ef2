/- A range over a map with string keys that the call made: each key once, in whatever order. -/
import Derived.Test.YtnmidkjmflnolaaMaps
import Derived.Maps.RangeWalk
namespace Go.Proofs.Ytnmidkjmflnolaa.Maps
open Go Go.Maps Go.ChangeMaps Go.MapKept Go.WideMaps
set_option linter.unusedVariables false
set_option linter.unusedSimpArgs false

theorem lk_same (s t : ByteArray) : (lk s).sameKey (lk t) = decide (s = t) := by
  by_cases h : s = t
  · subst h
    simp [lk, Lit.sameKey]
  · rw [decide_eq_false h]
    have : s.data.toList ≠ t.data.toList := fun e => h (lk_inj (by unfold lk; rw [e]))
    simpa [lk, Lit.sameKey] using this
theorem key_inv {P : Program} {k : TypeId} (hk : P.underlying k = some .string) {v : Value} {kl : Lit} (h : keyOf P k v = some kl) : ∃ s, v = .string s ∧ kl = lk s ∧ s.size ≤ maxLen := by
  cases v <;> simp [keyOf, hk, mapKey] at h
  rename_i s
  obtain ⟨h1, h2⟩ := h
  exact ⟨s, rfl, h2.symm, h1⟩
/-- A walk over the map in block b by the block r: the keys 'seen' have come. -/
def RangeIs (P : Program) (k e : TypeId) (q : IntKind) (w : World) (b r n : Nat) (f : ByteArray → Option Int) (seen : List ByteArray) (cnt : Nat) : Prop :=
  ∃ (D : DataW Unit) (left : Lit → Bool), w.ranges P k (plainElem P e) b r n D left cnt ∧ (∀ s : ByteArray, ∀ z, D.atKey (lk s) z = ((f s).map fun x => DataW.lit (.int q x)).getD z) ∧
    (∀ s : ByteArray, left (lk s) = ((f s).isSome && !memB s seen)) ∧ seen.Nodup ∧ ∀ s ∈ seen, (f s).isSome = true
section
variable {P : Program} {k e t : TypeId} {q : IntKind} {w : World} {b r n cnt : Nat} {f : ByteArray → Option Int} {seen : List ByteArray}
theorem RangeIs.kept {w' : World} {row : Option Nat} (h : RangeIs P k e q w b r n f seen cnt) (hg : w.grownBy w' row) (hb : some b ≠ row) (hr : some r ≠ row) : RangeIs P k e q w' b r n f seen cnt := by
  obtain ⟨D, left, h1, h2⟩ := h
  exact ⟨D, left, h1.kept hg hb hr, h2⟩
theorem RangeIs.alloc (h : RangeIs P k e q w b r n f seen cnt) (o : Obj) : RangeIs P k e q (w.alloc o) b r n f seen cnt := h.kept (World.grownBy_alloc w o none) (by simp) (by simp)
theorem RangeIs.lt (h : RangeIs P k e q w b r n f seen cnt) : b < w.heap.size ∧ r < w.heap.size := by
  obtain ⟨D, left, h1, h2⟩ := h
  exact ⟨h1.owns.lt, h1.lt⟩
/-- What the blocks hold is no row of cells. -/
theorem RangeIs.no_cells (h : RangeIs P k e q w b r n f seen cnt) : (∃ es c, w.heap[b]? = some (.map es c)) ∧ ∃ m s l c, w.heap[r]? = some (.mapIter m s l c) := by
  obtain ⟨D, left, ⟨es, clock, since, sn, c0, hb, _, _, _, hr, _⟩, _⟩ := h
  exact ⟨⟨_, _, hb⟩, ⟨_, _, _, _, hr⟩⟩
variable {ops : Array Oper} {rest : List Oper} {o : Oper} {a : Act} {Q : Exit → Act → World → Prop}
theorem wpList_range_is (hgd : o.guard = none) (m : Operand) (t : TypeId) (hop : o.op = Op.range t m) (hk : P.underlying k = some .string) (ht : P.underlying t = some (.map k e))
    (hm : a.eval m = .map (some b)) (h : MapIs P k e (.int q) w b n f)
    (hK : ∀ w' cnt, RangeIs P k e q w' b w.heap.size n f [] cnt → w.grownBy w' none → w'.heap.size = w.heap.size + 1 → wpList P ops Q rest (a.put o.dst (.pointer (some ⟨w.heap.size, 0, none⟩))) w') :
    wpList P ops Q (o :: rest) a w := by
  obtain ⟨D, ho, hmap, hf⟩ := h
  refine wpList_range_own w hgd m t hop k e (string_keyed hk) ht _ b n D hm ho fun w' h1 h2 h3 => ?_
  refine hK w' _ ⟨D, _, h1, fun s z => (hf s).2 z, fun s => ?_, List.nodup_nil, fun s hs => by simp at hs⟩ h2 h3
  rw [(hf s).1]
  simp [memB]
theorem wpList_next_is (hgd : o.guard = none) (it : Operand) (hop : o.op = Op.next it false) (hk : P.underlying k = some .string) (he : P.underlying e = some (.int q))
    (hit : a.eval it = .pointer (some ⟨r, 0, none⟩)) (h : RangeIs P k e q w b r n f seen cnt)
    (hDone : (∀ s, (f s).isSome = true → s ∈ seen) → wpList P ops Q rest (a.put o.dst (.tuple #[.bool false])) w)
    (hMore : ∀ (x : ByteArray) (c : Int) (w' : World) (cnt' : Nat), f x = some c → x ∉ seen → x.size ≤ maxLen → RangeIs P k e q w' b r n f (seen ++ [x]) cnt' → cnt' < cnt → w.grownBy w' (some r) → w'.heap.size = w.heap.size →
      (Instr.entry (.pointer (some ⟨r, 0, none⟩))).run P w' = .ok (.tuple #[.string x, .int q c]) w' → wpList P ops Q rest (a.put o.dst (.tuple #[.bool true, .string x, .int q c])) w') :
    wpList P ops Q (o :: rest) a w := by
  obtain ⟨D, left, h1, h2, h3, h4, h5⟩ := h
  refine wpList_next_ranges w hgd it hop k (string_keyed hk) (plainElem P e) Value.string (Value.int q) (fun key kl hkey => by obtain ⟨x, rfl, _⟩ := key_inv hk hkey; exact ⟨x, rfl⟩) (fun v y hv => by obtain ⟨c, rfl, _⟩ := plainElem_int_inv he hv; exact ⟨c, rfl⟩)
    b r n D left cnt hit h1 (fun h0 hl => hDone fun s hs => ?_) (fun x c kl y w' cnt' hkey hlk hv hat hrg hlt hgr hsz hen => ?_)
  · have := hl (lk s)
    rw [h3, hs, Bool.true_and] at this
    exact memB_iff.1 (by simpa using this)
  · obtain ⟨x', ex, rfl, hx⟩ := key_inv hk hkey
    cases ex
    obtain ⟨c', ec, hy, _⟩ := plainElem_int_inv he hv
    cases ec
    rw [h3] at hlk
    obtain ⟨g1, g2⟩ := Bool.and_eq_true_iff.1 hlk
    obtain ⟨c2, hc2⟩ := Option.isSome_iff_exists.1 g1
    have hns : x ∉ seen := fun hm => by
      rw [memB_iff.2 hm] at g2
      cases g2
    have hcc : c2 = c := by
      have e1 := h2 x (.lit (.int q 0))
      have e2 := hat (.lit (.int q 0))
      rw [e1, hc2, hy] at e2
      simpa using e2
    subst hcc
    refine hMore x c2 w' cnt' hc2 hns hx ⟨D, _, hrg, h2, fun s => ?_, ?_, fun s hs => ?_⟩ hlt hgr hsz hen
    · rw [h3, lk_same, memB_snoc, Bool.not_or, Bool.and_assoc]
      congr 2
      congr 1
      exact decide_eq_decide.2 ⟨fun e => e.symm, fun e => e.symm⟩
    · rw [List.nodup_append]
      exact ⟨h4, by simp, fun a ha b hb => by rw [List.mem_singleton.1 hb]; exact fun e => hns (e ▸ ha)⟩
    · rcases List.mem_append.1 hs with hs | hs
      · exact h5 s hs
      · rw [List.mem_singleton.1 hs]; exact g1
end
end Go.Proofs.Ytnmidkjmflnolaa.Maps
