/- The row of SymBack ('UptoSaid'): for every input of bulk at most 1048576 the law returns true and its arguments read as before; out of the walk (the printed contracts) and the plain law. -/
import Derived.Test.YtnmidkjmflnolaaRows
import Derived.Test.YtnmidkjmflnolaaRead
import Derived.Test.YtnmidkjmflnolaaP7
import Derived.Test.YtnmidkjmflnolaaPureSymBack
import Derived.WalkKit
import Derived.ProofKit
import Derived.OpenShut
import Derived.ShutString
import Derived.ChangeOld
import Derived.Below
import Derived.JoinedCond
namespace Go.Proofs.Ytnmidkjmflnolaa.rowSymBack
open Go.ChangeShapes Go.WideShapes Go.ChangeAt Go.RowKit Go.Proofs.YtnmidkjmflnolaaW.PrintWords
open Go.ChangeMaps (open_string shut_string)
set_option linter.unusedVariables false
set_option linter.unusedSimpArgs false
theorem own : ownKnob Try.prog.godebug = none := by kernel_rfl
theorem laidOut : laidOutB Try.prog = true := by kernel_rfl
theorem reads9 : Read.Reads Try.prog 9 (Kd.string) (fun s => s.size ≤ maxLen : ByteArray → Prop) (fun s => s.size + 1) := Read.reads_string Try.underlying9 (by kernel_rfl)
theorem reads22 : Read.Reads Try.prog 22 (Kd.slice 9 (Kd.string)) (fun xs => ∀ x ∈ xs, (fun s => s.size ≤ maxLen) x : List ByteArray → Prop) (fun xs => Read.sumBulk (fun s => s.size + 1) xs + 1) := Read.reads_slice Try.underlying22 (by kernel_rfl) reads9
theorem reads5 : Read.Reads Try.prog 5 (Kd.int .u8) (fun n => (Lit.int .u8 n).wf = true : Int → Prop) (fun _ => 1) := Read.reads_int Try.underlying5 (by kernel_rfl)
theorem reads23 : Read.Reads Try.prog 23 (Kd.slice 5 (Kd.int .u8)) (fun xs => ∀ x ∈ xs, (fun n => (Lit.int .u8 n).wf = true) x : List Int → Prop) (fun xs => Read.sumBulk (fun _ => 1) xs + 1) := Read.reads_slice Try.underlying23 (by kernel_rfl) reads5
set_option maxRecDepth 100000 in
theorem contract (H : Type) (enc : TypeId × Value → H) (W : World) (base : Nat) (args : Array Value) (ds gs : List (DataW H)) (before : List MemPlace)
    (hval : ∀ (j : Nat) t v, Try.f6.params[j]? = some t → args[j]? = some v → Value.okWide Try.prog W .any base t v)
    (hW : DataW.Whole enc Try.prog Try.f6.params.toList Rows.symBackSpec.vars false W args.toList ds gs before) (hk : Rows.uptoSmall H (ds ++ gs) = true) :
    Calls Try.prog 6 args W fun e W' => ∃ v, e = .returned v ∧ Rows.symBackSpec.post enc Try.prog Try.f6 false true false false W args v W' := by
  have hW' := hW
  obtain ⟨p, q, hA0, hV, rfl, hfz, hnd⟩ := hW
  have hA : DataW.TrodAll enc Try.prog W 0 (fun _ => true) true Try.f6.params.toList args.toList ds p := hA0
  rw [Try.params6] at hA hval
  obtain ⟨v0, vs0, d0, ds0, p0, q0, hargs, rfl, rfl, h0, r0⟩ := trodAll_cons hA
  obtain ⟨v1, vs1, d1, ds1, p1, q1, rfl, rfl, rfl, h1, r1⟩ := trodAll_cons r0
  obtain ⟨v2, vs2, d2, ds2, p2, q2, rfl, rfl, rfl, h2, r2⟩ := trodAll_cons r1
  obtain ⟨rfl, rfl, rfl⟩ := trodAll_nil r2
  obtain rfl : args = #[v0, v1, v2] := by cases args; simp_all
  obtain ⟨rfl, rfl⟩ := trodVars_none hV
  clear hA0
  have hk2 : Rows.uptoBulkAll ([d0, d1, d2] : List (DataW H)) ≤ 1048576 := by rw [List.append_nil] at hk; exact of_decide_eq_true hk
  clear hk
  have k0 := h0
  have lt0 : ∀ x ∈ p0, x.block < W.heap.size := by obtain ⟨m, hm⟩ := k0; exact DataW.trod_lt m _ _ _ hm
  obtain ⟨fuel0, hf0⟩ := h0
  obtain ⟨x0, hK0, ok0, bk0⟩ := reads22.opens hf0
  obtain ⟨A0, c0, rfl, hc0, hr0⟩ := Read.slice_arg hK0 (okWide_slice Try.underlying22 (hval 0 22 v0 rfl rfl))
  have k1 := h1
  have lt1 : ∀ x ∈ p1, x.block < W.heap.size := by obtain ⟨m, hm⟩ := k1; exact DataW.trod_lt m _ _ _ hm
  obtain ⟨fuel1, hf1⟩ := h1
  obtain ⟨x1, hK1, ok1, bk1⟩ := reads23.opens hf1
  obtain ⟨A1, c1, rfl, hc1, hr1⟩ := Read.slice_arg hK1 (okWide_slice Try.underlying23 (hval 1 23 v1 rfl rfl))
  have k2 := h2
  have lt2 : ∀ x ∈ p2, x.block < W.heap.size := by obtain ⟨m, hm⟩ := k2; exact DataW.trod_lt m _ _ _ hm
  obtain ⟨fuel2, hf2⟩ := h2
  obtain ⟨x2, hK2, ok2, bk2⟩ := reads23.opens hf2
  obtain ⟨A2, c2, rfl, hc2, hr2⟩ := Read.slice_arg hK2 (okWide_slice Try.underlying23 (hval 2 23 v2 rfl rfl))
  simp only [Rows.uptoBulkAll, Rows.uptoBulk] at hk2
  have e0 : Read.sumBulk (fun s => s.size + 1) x0 + 1 ≤ Rows.uptoBulk d0 := bk0
  have e1 : Read.sumBulk (fun _ => 1) x1 + 1 ≤ Rows.uptoBulk d1 := bk1
  have e2 : Read.sumBulk (fun _ => 1) x2 + 1 ≤ Rows.uptoBulk d2 := bk2
  have hsum : (Read.sumBulk (fun s => s.size + 1) x0 + 1) + (Read.sumBulk (fun _ => 1) x1 + 1) + (Read.sumBulk (fun _ => 1) x2 + 1) ≤ 1048576 := by omega
  obtain ⟨k, hp⟩ := Pure.SymBack x0 x1 x2 ok0 ok1 ok2 hsum
  refine (P.dragnetlaw06_SymBack.calls k _ _ x0 _ _ x1 _ _ x2 true W hr0 hc0 hr1 hc1 hr2 hc2 hp).mono ?_
  rintro e W' ⟨rfl, hd⟩
  have bel : Below W.heap.size W W' := hd
  exact ⟨_, rfl, _, _, _, [], _, [], hW', trodAll_mk1 (shut_bool Try.underlying4 _), (trodAll_cons_mk (Below.trod laidOut (by kernel_rfl) (of_decide_eq_true (by kernel_rfl)) k0 bel lt0) (trodAll_cons_mk (Below.trod laidOut (by kernel_rfl) (of_decide_eq_true (by kernel_rfl)) k1 bel lt1) (trodAll_cons_mk (Below.trod laidOut (by kernel_rfl) (of_decide_eq_true (by kernel_rfl)) k2 bel lt2) trodAll_mk0))), rfl, bel.frame _, fun h => by cases h⟩
set_option maxRecDepth 100000 in
theorem lifted (os : Os) (started : os.Started) (H : Type) (enc : TypeId × Value → H) (F : Stop.Interp) :
    ReturnsInHanded {} Try.checked os 6 .any ((Rows.OpenSpec.upto Rows.symBackSpec).pre6 enc Try.prog Try.f6 Rows.symBackUptoRow.domain false) (((Rows.OpenSpec.upto Rows.symBackSpec).at F).post enc Try.prog Try.f6 false true false false) := by
  refine returnsInHanded_of_cond (C := Try.checked) (s := Rows.OpenSpec.upto Rows.symBackSpec) (k := Rows.uptoSmall) rfl own started (by kernel_rfl) Try.func6
    (OpenSpec.witness (enc := enc) (C := Try.checked) (s := Rows.OpenSpec.upto Rows.symBackSpec) (k := Rows.uptoSmall) rfl false ⟨#[], #[.slice none 0 0, .slice none 0 0, .slice none 0 0], []⟩ 8 (by kernel_rfl) (by kernel_rfl) (by kernel_rfl)
      (x := ([.nil, .nil, .nil], [], [])) (by kernel_rfl) rfl (by kernel_rfl)) ?_
  intro W base args ds gs before hval hW _ hk _
  exact contract H enc W base args ds gs before hval hW hk
theorem proved : Rows.SymBackUptoSaid :=
  OpenClaim.holds_of_cond 6 Try.f6 rfl rfl rfl rfl rfl rfl rfl ⟨rfl, rfl, rfl, rfl, rfl⟩ rfl rfl rfl rfl rfl (by kernel_rfl) Try.func6 (by kernel_rfl)
    (of_decide_eq_true (by kernel_rfl)) (by unfold Func.isWrapper; first | (rw [if_pos (by decide +kernel)]; kernel_rfl) | (rw [if_neg (by decide +kernel)]; exact ⟨rfl, rfl⟩))
    (fun os started H enc _ F => lifted os started H enc F)
#print axioms proved
end Go.Proofs.Ytnmidkjmflnolaa.rowSymBack
namespace Go.Proofs.Ytnmidkjmflnolaa
theorem rowSymBack_holds : Rows.SymBackUptoSaid := rowSymBack.proved
end Go.Proofs.Ytnmidkjmflnolaa
