/- Words on a map with string keys that a call itself makes: the block reads as a plain Lean function from strings to values. For any program; elements are integers or bools. -/
import Derived.Maps.OwnSet
import Derived.StringKeys
import Derived.WalkKit
namespace Go.Proofs.Ytnmidkjmflnolaa.Maps
open Go Go.Maps Go.ChangeMaps Go.MapKept Go.WideMaps
set_option linter.unusedVariables false

/-- A plain element: an integer of a kind, or a bool. -/
inductive El where
  | int (q : IntKind)
  | bool
abbrev El.T : El → Type
  | .int _ => Int
  | .bool => Bool
def El.val : (E : El) → E.T → Value
  | .int q, x => .int q x
  | .bool, x => .bool x
def El.lit : (E : El) → E.T → Lit
  | .int q, x => .int q x
  | .bool, x => .bool x
def El.zero : (E : El) → E.T
  | .int _ => (0 : Int)
  | .bool => false
def El.fits (P : Program) (e : TypeId) : El → Prop
  | .int q => P.underlying e = some (.int q)
  | .bool => P.underlying e = some .bool

def lk (s : ByteArray) : Lit := .string s.data.toList
theorem lk_inj {s t : ByteArray} (h : lk s = lk t) : s = t := by
  unfold lk at h
  injection h with h
  cases s; cases t
  congr 1
  exact Array.toList_inj.1 h
theorem lk_key (s : ByteArray) : WideAt.IsKeyLit (lk s) := trivial

/-- Block b is a map of at most n entries; at every key s it holds f s. -/
def MapIs (P : Program) (k e : TypeId) (E : El) (w : World) (b n : Nat) (f : ByteArray → Option E.T) : Prop :=
  ∃ D : DataW Unit, w.ownsMap P k (plainElem P e) b n D ∧ IsMap D ∧ ∀ s : ByteArray, has D (lk s) = (f s).isSome ∧ ∀ z, D.atKey (lk s) z = ((f s).map fun x => DataW.lit (E.lit x)).getD z

section
variable {P : Program} {k e t : TypeId} {E : El} {w : World} {b n : Nat} {f : ByteArray → Option E.T}

theorem MapIs.made (P : Program) (k e : TypeId) (E : El) (w : World) : MapIs P k e E (w.alloc (.map #[] 0)) w.heap.size 0 (fun _ => none) :=
  ⟨.map [], World.ownsMap_made w P k _, isMap_empty, fun s => ⟨rfl, fun z => rfl⟩⟩
theorem MapIs.lt (h : MapIs P k e E w b n f) : b < w.heap.size := by obtain ⟨D, h, _⟩ := h; exact h.lt
theorem MapIs.kept {w' : World} {row : Option Nat} (h : MapIs P k e E w b n f) (hg : w.grownBy w' row) (hne : some b ≠ row) : MapIs P k e E w' b n f := by
  obtain ⟨D, h, r⟩ := h; exact ⟨D, h.kept hg hne, r⟩
theorem MapIs.alloc (h : MapIs P k e E w b n f) (o : Obj) : MapIs P k e E (w.alloc o) b n f := by
  obtain ⟨D, h, r⟩ := h; exact ⟨D, h.alloc o, r⟩
theorem MapIs.drew (h : MapIs P k e E w b n f) : MapIs P k e E w.drew b n f := by
  obtain ⟨D, h, r⟩ := h; exact ⟨D, h.drew, r⟩
theorem MapIs.below {w' : World} (h : MapIs P k e E w b n f) (hb : RowKit.Below w.heap.size w w') : MapIs P k e E w' b n f := by
  obtain ⟨D, ho, r⟩ := h
  have hlt := ho.lt
  obtain ⟨es, c, hh, r2⟩ := ho
  exact ⟨D, ⟨es, c, (hb.block b hlt).trans hh, r2⟩, r⟩
theorem MapIs.mono (h : MapIs P k e E w b n f) {n' : Nat} (hn : n ≤ n') : MapIs P k e E w b n' f := by
  obtain ⟨D, h, r⟩ := h; exact ⟨D, h.mono hn, r⟩

theorem key_of (hk : P.underlying k = some .string) {s : ByteArray} (hs : s.size ≤ maxLen) : keyOf P k (.string s) = some (lk s) := keyOf_string_mk hk hs

theorem elem_of (he : El.fits P e E) (x : E.T) (hw : (E.lit x).wf = true) : plainElem (H := Unit) P e (E.val x) = some (.lit (E.lit x), []) := by
  cases E with
  | int q => exact plainElem_int he hw
  | bool => exact plainElem_bool he x
theorem lit_of_elem (he : El.fits P e E) {v : Value} {z : DataW Unit × List MemPlace} (h : plainElem P e v = some z) : ∃ x : E.T, v = E.val x ∧ z.1 = .lit (E.lit x) := by
  cases E with
  | int q =>
    obtain ⟨a, rfl, rfl, _⟩ := plainElem_int_inv he h
    exact ⟨a, rfl, rfl⟩
  | bool =>
    have he' : P.underlying e = some .bool := he
    unfold plainElem at h
    rw [he'] at h
    cases v <;> simp at h
    subst h
    exact ⟨_, rfl, rfl⟩
theorem lit_inj {x y : E.T} (h : E.lit x = E.lit y) : x = y := by
  cases E with
  | int q => injection h
  | bool => injection h
theorem zero_wf : (E.lit E.zero).wf = true := by
  cases E with
  | int q => cases q <;> decide
  | bool => rfl

/-- 'v, ok := m[s]' -/
theorem MapIs.look_ok (h : MapIs P k e E w b n f) (hk : P.underlying k = some .string) (he : El.fits P e E) (ht : P.underlying t = some (.map k e)) (hz : (zeroValue e).run P w = .ok (E.val E.zero) w) {s : ByteArray} (hs : s.size ≤ maxLen) :
    (Instr.lookup t (.map (some b)) (.string s) true).run P w = .ok (.tuple #[E.val ((f s).getD E.zero), .bool (f s).isSome]) w := by
  obtain ⟨D, ho, hm, hf⟩ := h
  obtain ⟨v, ps, hrun, hv⟩ := ho.look_ok (string_keyed hk) ht hz (elem_of he E.zero zero_wf) (key_of hk hs)
  obtain ⟨hh, hat⟩ := hf s
  obtain ⟨x, rfl, hx⟩ := lit_of_elem he hv
  rw [hrun, hh]
  have hx' : D.atKey (lk s) (.lit (E.lit E.zero)) = .lit (E.lit x) := hx
  rw [hat] at hx'
  have : (f s).getD E.zero = x := by
    cases hfs : f s with
    | none => rw [hfs] at hx'; simp at hx'; exact lit_inj hx'
    | some y => rw [hfs] at hx'; simp at hx'; exact lit_inj hx'
  rw [this]
/-- 'm[s]' -/
theorem MapIs.look (h : MapIs P k e E w b n f) (hk : P.underlying k = some .string) (he : El.fits P e E) (ht : P.underlying t = some (.map k e)) (hz : (zeroValue e).run P w = .ok (E.val E.zero) w) {s : ByteArray} (hs : s.size ≤ maxLen) :
    (Instr.lookup t (.map (some b)) (.string s) false).run P w = .ok (E.val ((f s).getD E.zero)) w := by
  obtain ⟨D, ho, hm, hf⟩ := h
  obtain ⟨v, ps, hrun, hv⟩ := ho.lookup (string_keyed hk) ht hz (elem_of he E.zero zero_wf) (key_of hk hs)
  obtain ⟨hh, hat⟩ := hf s
  obtain ⟨x, rfl, hx⟩ := lit_of_elem he hv
  rw [hrun]
  have hx' : D.atKey (lk s) (.lit (E.lit E.zero)) = .lit (E.lit x) := hx
  rw [hat] at hx'
  have : (f s).getD E.zero = x := by
    cases hfs : f s with
    | none => rw [hfs] at hx'; simp at hx'; exact lit_inj hx'
    | some y => rw [hfs] at hx'; simp at hx'; exact lit_inj hx'
  rw [this]

/-- Is the text among these? -/
def memB (s : ByteArray) (l : List ByteArray) : Bool := l.any fun t => decide (t = s)
theorem memB_iff {s : ByteArray} {l : List ByteArray} : memB s l = true ↔ s ∈ l := by
  simp only [memB, List.any_eq_true, decide_eq_true_eq]
  constructor
  · rintro ⟨t, h, rfl⟩; exact h
  · intro h; exact ⟨s, h, rfl⟩
theorem memB_snoc (s : ByteArray) (l : List ByteArray) (t : ByteArray) : memB s (l ++ [t]) = (memB s l || decide (t = s)) := by simp [memB]

def upd {α : Type} (f : ByteArray → Option α) (s : ByteArray) (x : α) : ByteArray → Option α := fun t => if t = s then some x else f t

/-- 'm[s] = x' -/
theorem MapIs.store (h : MapIs P k e E w b n f) (hk : P.underlying k = some .string) (he : El.fits P e E) (ht : P.underlying t = some (.map k e)) (hn : n < maxLen) {s : ByteArray} (hs : s.size ≤ maxLen) (x : E.T) (hw : (E.lit x).wf = true) :
    ∃ w', (Instr.mapUpdate t (.map (some b)) (.string s) (E.val x)).run P w = .ok () w' ∧ MapIs P k e E w' b (n + 1) (upd f s x) ∧ w.grownBy w' (some b) := by
  obtain ⟨D, ho, hm, hf⟩ := h
  obtain ⟨w', hrun, ho', hg⟩ := ho.update (string_keyed hk) ht hn (key_of hk hs) (elem_of he x hw)
  refine ⟨w', hrun, ⟨_, ho', hm.put _ _, fun u => ?_⟩, hg⟩
  unfold upd
  by_cases hu : u = s
  · subst hu
    rw [if_pos rfl]
    exact ⟨by rw [has_put_same hm (lk_key u)]; rfl, fun z => by rw [atKey_put_same hm (lk_key u)]; rfl⟩
  · rw [if_neg hu]
    have hne : lk u ≠ lk s := fun h => hu (lk_inj h)
    exact ⟨by rw [has_put_other hne]; exact (hf u).1, fun z => by rw [atKey_put_other hne]; exact (hf u).2 z⟩

/-- 'm[s] = x' at the operation. -/
theorem wpList_store {ops : Array Oper} {rest : List Oper} {o : Oper} {a : Act} {Q : Exit → Act → World → Prop}
    (hgd : o.guard = none) (m y v : Operand) (t : TypeId) (hop : o.op = Op.mapUpdate t m y v) (hk : P.underlying k = some .string) (he : El.fits P e E) (ht : P.underlying t = some (.map k e))
    (hm : a.eval m = .map (some b)) (h : MapIs P k e E w b n f) (hn : n < maxLen) (s : ByteArray) (hy : a.eval y = .string s) (hs : s.size ≤ maxLen) (x : E.T) (hv : a.eval v = E.val x) (hw : (E.lit x).wf = true)
    (hK : ∀ w', MapIs P k e E w' b (n + 1) (upd f s x) → w.grownBy w' (some b) → wpList P ops Q rest (a.put o.dst undef) w') :
    wpList P ops Q (o :: rest) a w := by
  refine wpList_plain hgd fun K' hK' => ?_
  obtain ⟨w', hrun, r1, r2⟩ := h.store hk he ht hn hs x hw
  unfold Oper.wp
  simp [execOp, hop, hm, hy, hv, hrun, Result.andThen]
  exact hK' _ _ (hK w' r1 r2)
end
end Go.Proofs.Ytnmidkjmflnolaa.Maps
