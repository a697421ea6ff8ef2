/- '[]byte(s)' as a step of a walk: what it makes is read (its block bears a mark behind its bytes, so it is no row of one's own). -/
import Derived.Test.YtnmidkjmflnolaaShort
import Derived.Lib.ConvBytes
import Derived.Test.YtnmidkjmflnolaaProg
namespace Go.Proofs.Ytnmidkjmflnolaa.P
open Go Go.RowKit Go.Proofs.YtnmidkjmflnolaaW.PrintWords Go.Proofs.YtnmidkjmflnolaaW.PrintLast Go.Proofs.YtnmidkjmflnolaaW.PrintMore
set_option linter.unusedVariables false

/-- The conversion's own end. -/
def ConvTo (P : Program) (S T : TypeId) (s : ByteArray) (w : World) (post : Ending → World → Prop) : Prop := ∃ v w', (convert S T (.string s)).run P w = .ok v w' ∧ post (.returned v) w'
theorem ConvTo.mono {P : Program} {S T : TypeId} {s : ByteArray} {w : World} {p q : Ending → World → Prop} (h : ConvTo P S T s w p) (hpq : ∀ e w', p e w' → q e w') : ConvTo P S T s w q := by
  obtain ⟨v, w', h1, h2⟩ := h
  exact ⟨v, w', h1, hpq _ _ h2⟩
section
variable {P : Program} {ops : Array Oper} {oi : Oper} {a : Act} {w : World} {Q : Exit → Act → World → Prop} {K : Act → World → Prop} {S T : TypeId} {x : Operand} {N : Option Tmp}
theorem conv_run {s : ByteArray} {v : Value} {w' : World} (hop : oi.op = .convert S T x) (hx : a.eval x = .string s) (h : (convert S T (.string s)).run P w = .ok v w') : (execOp a.eval oi).run P w = .ok (.value v) w' := by
  unfold execOp
  simp [hop, hx, h, Result.andThen]
theorem conv_ (s : ByteArray) (hw : Region.wanted oi (yielded ops a.tmps) = true) (hN : oi.dst = N) (hop : oi.op = .convert S T x) (hx : a.eval x = .string s)
    (h : ConvTo P S T s w fun e w' => ∃ v, e = .returned v ∧ K (a.put N v) w') : if Region.wanted oi (yielded ops a.tmps) = true then Oper.wp P oi a w K Q else K (a.put N undef) w := by
  obtain ⟨v, w', h1, v', h2, h3⟩ := h
  cases h2
  subst hN
  exact event_step hw (conv_run hop hx h1) h3
theorem convL_ {rest : List Oper} (N : Option Tmp) (hd : oi.dst = N) (hg : oi.guard = none) (s : ByteArray) (hop : oi.op = .convert S T x) (hx : a.eval x = .string s)
    (h : ConvTo P S T s w fun e w' => ∃ v, e = .returned v ∧ wpList P ops Q rest (a.put N v) w') : wpList P ops Q (oi :: rest) a w := by
  obtain ⟨v, w', h1, v', h2, h3⟩ := h
  cases h2
  subst hd
  exact Kd.event_run hg (conv_run hop hx h1) h3
end
/-- A slice of bytes that was made from base on, and that is only read. -/
def Kr (d : Kd Int) (e : Nat) (w : World) (base : Nat) (ok : Nat → Prop) (v : Value) (xs : List Int) : Prop := (∀ k, v.ownBlock = some k → base ≤ k) ∧ ∃ A c, v = .slice A xs.length c ∧ xs.length ≤ c ∧ Kd.C d w A xs.length xs
section
variable {d : Kd Int} {e base : Nat} {w w1 : World} {ok : Nat → Prop} {v : Value} {xs : List Int}
theorem Kr.lower {base' : Nat} (h : Kr d e w base ok v xs) (hb : base' ≤ base) : Kr d e w base' ok v xs := ⟨fun k hk => Nat.le_trans hb (h.1 k hk), h.2⟩
theorem Kr.below (h : Kr d e w base ok v xs) (hb : Below w.heap.size w w1) : Kr d e w1 base ok v xs := by
  obtain ⟨h1, A, c, h2, h3, h4⟩ := h
  exact ⟨h1, A, c, h2, h3, Kd.C_below h4 hb⟩
theorem Kr.alloc (h : Kr d e w base ok v xs) (o : Obj) : Kr d e (w.alloc o) base ok v xs := h.below (below_alloc (Below.refl _ _) o)
theorem Kr.drew (h : Kr d e w base ok v xs) : Kr d e w.drew base ok v xs := h.below (below_drew (Below.refl _ _))
theorem Kr.drewN (h : Kr d e w base ok v xs) (m : Nat) : Kr d e (w.drewN m) base ok v xs := h.below (pw_below_drewN (Below.refl _ _) m)
theorem Kr.slice (h : Kr d e w base ok v xs) : ∃ A c, v = .slice A xs.length c := by
  obtain ⟨_, A, c, h2, _⟩ := h
  exact ⟨A, c, h2⟩
theorem Kr.reads' {A : Option Addr} {n c : Nat} (h : Kr d e w base ok (.slice A n c) xs) : n = xs.length ∧ n ≤ c ∧ Kd.C d w A xs.length xs := by
  obtain ⟨_, A', c', h2, h3, h4⟩ := h
  injection h2 with e1 e2 e3
  subst e1; subst e2; subst e3
  exact ⟨rfl, h3, h4⟩
end
theorem rbK {d : Kd Int} {e : Nat} {v0 w w' : World} {base : Nat} {ok : Nat → Prop} {v : Value} {xs : List Int} (B : Aside0 (Kr d e v0 base ok v xs)) (hb : Below w.heap.size w w')
    (s : Kr d e v0 base ok v xs → Kr d e w base ok v xs := by intro h_; (with_reducible repeat (first | apply Kr.alloc | apply Kr.drewN | apply Kr.drew)); exact h_) : Aside0 (Kr d e w' base ok v xs) := Aside0.mk ((s B.out).below hb)
def string_bytes.f (s : ByteArray) : Option (List Int) := if s.size ≤ 9223372036854775807 then some (bytesOf s) else none
theorem string_bytes.calls (s : ByteArray) (r : List Int) (w : World) (h : string_bytes.f s = some r) :
    ConvTo Try.prog 9 23 s w fun e w' => ∃ v0_ : Value, e = .returned v0_ ∧ Kr (Kd.int .u8) 5 w' w.heap.size (fun _ => True) v0_ r ∧ Below w.heap.size w w' := by
  unfold string_bytes.f at h
  by_cases hs : s.size ≤ 9223372036854775807
  case neg => rw [if_neg hs] at h; cases h
  rw [if_pos hs] at h
  cases h
  refine ⟨_, _, print_bytes (P := Try.prog) 9 23 5 Try.underlying9 Try.underlying23 Try.underlying5 s w, _, rfl, ?_, bytes_below (Below.refl _ _) (Nat.le_refl _) 5 s⟩
  refine ⟨fun k hk => ?_, some ⟨w.heap.size, 0, none⟩, grownCap w s.size 0 5, by rw [bytesOf_length], by rw [bytesOf_length]; exact grownCap_ge _ _ _ _, ?_⟩
  · simp only [Value.ownBlock, Option.some.injEq] at hk
    omega
  · have h := bytes_reads w 5 s hs
    rw [← bytesOf_length s] at h
    exact Kd.C_of_reads (h1 := fun _ => rfl) h
end Go.Proofs.Ytnmidkjmflnolaa.P
