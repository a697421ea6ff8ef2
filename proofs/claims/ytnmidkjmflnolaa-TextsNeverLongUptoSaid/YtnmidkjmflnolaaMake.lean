/- 'make([]byte, 0, n)' as a step of a walk: an empty row of one's own. -/
import Derived.Test.YtnmidkjmflnolaaShort
import Derived.Test.YtnmidkjmflnolaaWords
import Derived.Laws.MakeOwn
import Derived.Test.YtnmidkjmflnolaaProg
namespace Go.Proofs.Ytnmidkjmflnolaa.P
open Go Go.RowKit Go.Proofs.YtnmidkjmflnolaaW.PrintWords Go.Proofs.YtnmidkjmflnolaaW.PrintLast Go.Proofs.YtnmidkjmflnolaaW.PrintMore
set_option linter.unusedVariables false

def MakeTo (P : Program) (T : TypeId) (n : Int) (w : World) (post : Ending → World → Prop) : Prop := ∃ v w', (Instr.makeSlice T (.int .i64 0) (.int .i64 n)).run P w = .ok v w' ∧ post (.returned v) w'
theorem MakeTo.mono {P : Program} {T : TypeId} {n : Int} {w : World} {p q : Ending → World → Prop} (h : MakeTo P T n w p) (hpq : ∀ e w', p e w' → q e w') : MakeTo P T n w q := by
  obtain ⟨v, w', h1, h2⟩ := h
  exact ⟨v, w', h1, hpq _ _ h2⟩
section
variable {P : Program} {ops : Array Oper} {oi : Oper} {a : Act} {w : World} {Q : Exit → Act → World → Prop} {K : Act → World → Prop} {T : TypeId} {x : Operand} {N : Option Tmp}
theorem make_run {n : Int} {v : Value} {w' : World} (hop : oi.op = .makeSlice T (.const (.int .i64 0)) x) (hx : a.eval x = .int .i64 n) (h : (Instr.makeSlice T (.int .i64 0) (.int .i64 n)).run P w = .ok v w') : (execOp a.eval oi).run P w = .ok (.value v) w' := by
  unfold execOp
  have h0 : a.eval (.const (.int .i64 0)) = .int .i64 0 := rfl
  simp [hop, hx, h0, h, Result.andThen]
theorem makeL_ {rest : List Oper} (N : Option Tmp) (hd : oi.dst = N) (hg : oi.guard = none) (n : Int) (hop : oi.op = .makeSlice T (.const (.int .i64 0)) x) (hx : a.eval x = .int .i64 n)
    (h : MakeTo P T n w fun e w' => ∃ v, e = .returned v ∧ wpList P ops Q rest (a.put N v) w') : wpList P ops Q (oi :: rest) a w := by
  obtain ⟨v, w', h1, v', h2, h3⟩ := h
  cases h2
  subst hd
  exact Kd.event_run hg (make_run hop hx h1) h3
end
def make_bytes.f (n : Int) : Option (List Int) := if 0 ≤ n ∧ n ≤ 140737488355328 then some [] else none
theorem make_bytes.calls (n : Int) (r : List Int) (w : World) (h : make_bytes.f n = some r) :
    MakeTo Try.prog 23 n w fun e w' => ∃ v0_ : Value, e = .returned v0_ ∧ Kd.R (Kd.int .u8) 5 w' w.heap.size (fun _ => True) v0_ r ∧ Below w.heap.size w w' := by
  unfold make_bytes.f at h
  by_cases hn : 0 ≤ n ∧ n ≤ 140737488355328
  case neg => rw [if_neg hn] at h; cases h
  rw [if_pos hn] at h
  cases h
  obtain ⟨c, rfl⟩ := Int.eq_ofNat_of_zero_le hn.1
  have hc : c ≤ 140737488355328 := by omega
  obtain ⟨i, hi, hz, hs, hb⟩ := info_parts info_u8
  obtain ⟨w', hrun, hown, hg⟩ := Go.run_make_own (P := Try.prog) w w.heap.size 23 5 i (.int .u8 0) 1 Try.underlying23 hi hz hs .i64 .i64 c (by rw [hb]; omega) (by unfold maxLen; omega) (Nat.le_refl _)
  exact ⟨_, w', hrun, _, rfl, ⟨fun _ _ => trivial, [], hown, Reps.none _ _⟩, (Below.refl _ _).grown hg (Nat.le_refl _) (by intro k hk; cases hk)⟩
end Go.Proofs.Ytnmidkjmflnolaa.P
