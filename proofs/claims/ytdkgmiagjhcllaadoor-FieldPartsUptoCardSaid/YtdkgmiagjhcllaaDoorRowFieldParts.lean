/- The row of FieldParts ('UptoSaid'): for every input of bulk at most 1048576 the law returns true and its arguments read as before; out of the walk (the printed contracts) and the plain law. -/
import Derived.Test.YtdkgmiagjhcllaaDoorRows
import Derived.Test.YtdkgmiagjhcllaaDoorRead
import Derived.Test.YtdkgmiagjhcllaaDoorP11
import Derived.Test.YtdkgmiagjhcllaaDoorPureFieldParts
import Derived.Test.YtdkgmiagjhcllaaDoorCards
import Derived.Test.YtdkgmiagjhcllaaDoorTie
import Derived.Deep.DeepHandedRow
import Derived.Lib.LaidTab
import Derived.Deep.DeepWitnessRowRef
import Derived.Lay
import Derived.Test.YtdkgmiagjhcllaaDoorLaid8
import Derived.WalkKit
import Derived.ProofKit
import Derived.OpenShut
import Derived.ShutString
import Derived.ChangeOld
import Derived.Below
import Derived.JoinedCond
namespace Go.Proofs.YtdkgmiagjhcllaaDoor.rowFieldParts
open Go.ChangeShapes Go.WideShapes Go.ChangeAt Go.RowKit Go.Proofs.YtdkgmiagjhcllaaDoorW.PrintWords
open Go.ChangeMaps (open_string shut_string)
set_option linter.unusedVariables false
set_option linter.unusedSimpArgs false
theorem own : ownKnob Tryd.prog.godebug = none := by kernel_rfl
theorem laidOut : laidOutB Tryd.prog = true := by kernel_rfl
theorem reads5 : Read.Reads Tryd.prog 5 (Kd.int .u8) (fun n => (Lit.int .u8 n).wf = true : Int → Prop) (fun _ => 1) := Read.reads_int Tryd.underlying5 (by kernel_rfl)
theorem reads24 : Read.Reads Tryd.prog 24 (Kd.slice 5 (Kd.int .u8)) (fun xs => ∀ x ∈ xs, (fun n => (Lit.int .u8 n).wf = true) x : List Int → Prop) (fun xs => Read.sumBulk (fun _ => 1) xs + 1) := Read.reads_slice Tryd.underlying24 (by kernel_rfl) reads5
theorem premise {W : World} (h : laidMetH Tryd.prog Rows.fieldPartsUptoRow.laid W) (hS : W.ShapedOpen Tryd.prog) : P.FieldIn W := P.FieldIn.of h hS
set_option maxRecDepth 100000 in
theorem contract (H : Type) (enc : TypeId × Value → H) (W : World) (base : Nat) (args : Array Value) (ds gs : List (DataW H)) (before : List MemPlace)
    (hval : ∀ (j : Nat) t v, Tryd.f4.params[j]? = some t → args[j]? = some v → Value.okWide Tryd.prog W .any base t v)
    (hW : DataW.Whole enc Tryd.prog Tryd.f4.params.toList Rows.fieldPartsSpec.vars false W args.toList ds gs before) (hk : Rows.uptoSmall H (ds ++ gs) = true) (hL : laidMetH Tryd.prog Rows.fieldPartsUptoRow.laid W) (hS : W.ShapedOpen Tryd.prog) :
    Calls Tryd.prog 4 args W fun e W' => ∃ v, e = .returned v ∧ Rows.fieldPartsSpec.post enc Tryd.prog Tryd.f4 false true false false W args v W' := by
  have hW' := hW
  obtain ⟨p, q, hA0, hV, rfl, hfz, hnd⟩ := hW
  have hA : DataW.TrodAll enc Tryd.prog W 0 (fun _ => true) true Tryd.f4.params.toList args.toList ds p := hA0
  rw [Tryd.params4] at hA hval
  obtain ⟨v0, vs0, d0, ds0, p0, q0, hargs, rfl, rfl, h0, r0⟩ := trodAll_cons hA
  obtain ⟨v1, vs1, d1, ds1, p1, q1, rfl, rfl, rfl, h1, r1⟩ := trodAll_cons r0
  obtain ⟨rfl, rfl, rfl⟩ := trodAll_nil r1
  obtain rfl : args = #[v0, v1] := by cases args; simp_all
  obtain ⟨rfl, rfl⟩ := trodVars_none hV
  clear hA0
  have hk2 : Rows.uptoBulkAll ([d0, d1] : List (DataW H)) ≤ 1048576 := by rw [List.append_nil] at hk; exact of_decide_eq_true hk
  clear hk
  have k0 := h0
  have lt0 : ∀ x ∈ p0, x.block < W.heap.size := by obtain ⟨m, hm⟩ := k0; exact DataW.trod_lt m _ _ _ hm
  obtain ⟨fuel0, hf0⟩ := h0
  obtain ⟨x0, hK0, ok0, bk0⟩ := reads24.opens hf0
  obtain ⟨A0, c0, rfl, hc0, hr0⟩ := Read.slice_arg hK0 (okWide_slice Tryd.underlying24 (hval 0 24 v0 rfl rfl))
  have k1 := h1
  have lt1 : ∀ x ∈ p1, x.block < W.heap.size := by obtain ⟨m, hm⟩ := k1; exact DataW.trod_lt m _ _ _ hm
  obtain ⟨fuel1, hf1⟩ := h1
  obtain ⟨x1, hK1, ok1, bk1⟩ := reads24.opens hf1
  obtain ⟨A1, c1, rfl, hc1, hr1⟩ := Read.slice_arg hK1 (okWide_slice Tryd.underlying24 (hval 1 24 v1 rfl rfl))
  simp only [Rows.uptoBulkAll, Rows.uptoBulk] at hk2
  have e0 : Read.sumBulk (fun _ => 1) x0 + 1 ≤ Rows.uptoBulk d0 := bk0
  have e1 : Read.sumBulk (fun _ => 1) x1 + 1 ≤ Rows.uptoBulk d1 := bk1
  have hsum : (Read.sumBulk (fun _ => 1) x0 + 1) + (Read.sumBulk (fun _ => 1) x1 + 1) ≤ 1048576 := by omega
  obtain ⟨k, hp⟩ := Pure.FieldParts x0 x1 ok0 ok1 hsum
  refine (P.dragnetlaw08_FieldParts.calls k _ _ x0 _ _ x1 W hr0 hc0 hr1 hc1 hp (premise hL hS)).mono ?_
  rintro e W' ⟨rfl, hd⟩
  have bel : Below W.heap.size W W' := hd
  exact ⟨_, rfl, _, _, _, [], _, [], hW', trodAll_mk1 (shut_bool Tryd.underlying4 _), (trodAll_cons_mk (Below.trod laidOut (by kernel_rfl) (of_decide_eq_true (by kernel_rfl)) k0 bel lt0) (trodAll_cons_mk (Below.trod laidOut (by kernel_rfl) (of_decide_eq_true (by kernel_rfl)) k1 bel lt1) trodAll_mk0)), rfl, bel.frame _, fun h => by cases h⟩
/-- A world for the witness: the settled one, the variables laid. -/
noncomputable def laidWorld (os : Os) : World := World.laidAll Tryd.prog os Rows.fieldPartsUptoRow.laid
theorem laid_met (os : Os) : laidMet Tryd.prog Rows.fieldPartsUptoRow.laid ((laidWorld os).forCall (fun _ _ => 0) ⟨#[], #[.slice none 0 0, .slice none 0 0], []⟩).memory := laidMet_laidAll _ (by kernel_rfl) (by kernel_rfl)
theorem reads (os : Os) {H : Type} (enc : TypeId × Value → H) : ∃ places, DataW.whole enc Tryd.prog ((laidWorld os).forCall (fun _ _ => 0) ⟨#[], #[.slice none 0 0, .slice none 0 0], []⟩).memory Tryd.f4.params.toList Rows.fieldPartsSpec.vars false (#[.slice none 0 0, .slice none 0 0] : Array Value).toList 8 = some ([.nil, .nil], [], places) :=
  ⟨[], by kernel_rfl⟩
set_option maxRecDepth 100000 in
theorem liftedUpto (os : Os) (started : os.Started) (H : Type) (enc : TypeId × Value → H) (F : Stop.Interp) :
    ReturnsInHanded {} Tryd.checked os 4 .any ((Rows.OpenSpec.upto Rows.fieldPartsSpec).preRow enc Tryd.prog Tryd.f4 Rows.fieldPartsUptoRow.domain false Rows.fieldPartsUptoRow.laid) (((Rows.OpenSpec.upto Rows.fieldPartsSpec).at F).post enc Tryd.prog Tryd.f4 false true false false) := by
  obtain ⟨places, hx⟩ := reads os enc
  refine returnsInHanded_of_row (C := Tryd.checked) (s := Rows.OpenSpec.upto Rows.fieldPartsSpec) own started (by kernel_rfl) Tryd.func4
    (witness_row_atRef (enc := enc) (C := Tryd.checked) false (laidWorld os) #[.slice none 0 0, .slice none 0 0] (World.laidAll_os _ _ _) (by kernel_rfl) (by kernel_rfl) (by kernel_rfl)
      (OpenSpec.preRow_of_cond 8 hx (by kernel_rfl) (fun k hk => by cases hk; kernel_rfl) (by kernel_rfl) (laid_met os))) ?_
  intro W base args ds gs before hval hW _ hcond _ hL hS _
  exact contract H enc W base args ds gs before hval hW (hcond _ rfl) hL hS
theorem saidUpto : Rows.FieldPartsUptoSaid :=
  OpenClaim.holds_of_cond 4 Tryd.f4 rfl rfl rfl rfl rfl rfl rfl ⟨rfl, rfl, rfl, rfl, rfl⟩ rfl rfl rfl rfl rfl (by kernel_rfl) Tryd.func4 (by kernel_rfl)
    (of_decide_eq_true (by kernel_rfl)) (by unfold Func.isWrapper; first | (rw [if_pos (by decide +kernel)]; kernel_rfl) | (rw [if_neg (by decide +kernel)]; exact ⟨rfl, rfl⟩))
    (fun os started H enc _ F => by rw [OpenClaim.pre_eq_preRow]; exact liftedUpto os started H enc F)
/-- No parameter wants a stand-in; the program's own looks are off. -/
theorem plain (f : FuncId) (fn : Func) (hf : Tryd.pinned.checked.prog.funcNamed "dragnet/dragnetlaw08.FieldParts" = some f) (hfn : Tryd.pinned.checked.prog.funcs[f]? = some fn) :
    true = Tryd.pinned.checked.prog.looks [] ∧ ∀ (j : Nat) t, fn.params[j]? = some t → Tryd.pinned.checked.prog.wantsStandIn t = false := by
  obtain rfl : f = 4 := Option.some.inj ((show Tryd.prog.funcNamed "dragnet/dragnetlaw08.FieldParts" = some 4 by kernel_rfl).symm.trans hf) |>.symm
  obtain rfl : fn = Tryd.f4 := (Option.some.inj (Tryd.func4.symm.trans hfn)).symm
  refine ⟨by kernel_rfl, fun j t ht => ?_⟩
  rw [Tryd.params4] at ht
  have hm := Array.mem_of_getElem? ht
  simp only [List.mem_toArray, List.mem_cons, List.not_mem_nil, or_false] at hm
  rcases hm with rfl | rfl
  · exact (show Tryd.prog.wantsStandIn 24 = false by kernel_rfl)
  · exact (show Tryd.prog.wantsStandIn 24 = false by kernel_rfl)
theorem proved : Rows.FieldPartsUptoCardSaid :=
  Claim7.holds_tied_plain_at .later [] _ _ _ _ saidUpto (fun _ h => by cases h) (by kernel_rfl) (fun _ h => by cases h) fieldPartsUpto_row_tie rfl ⟨rfl, rfl⟩ (by kernel_rfl) rfl plain (by kernel_rfl)
#print axioms proved
end Go.Proofs.YtdkgmiagjhcllaaDoor.rowFieldParts
namespace Go.Proofs.YtdkgmiagjhcllaaDoor
theorem rowFieldParts_holds : Rows.FieldPartsUptoCardSaid := rowFieldParts.proved
end Go.Proofs.YtdkgmiagjhcllaaDoor
