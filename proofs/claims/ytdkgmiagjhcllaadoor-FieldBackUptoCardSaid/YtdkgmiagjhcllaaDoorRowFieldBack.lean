/- The row of FieldBack ('UptoSaid'): for every input of bulk at most 1048576 the law returns true and its arguments read as before; out of the walk (the printed contracts) and the plain law. -/
import Derived.Test.YtdkgmiagjhcllaaDoorRows
import Derived.Test.YtdkgmiagjhcllaaDoorRead
import Derived.Test.YtdkgmiagjhcllaaDoorP9
import Derived.Test.YtdkgmiagjhcllaaDoorPureFieldBack
import Derived.Test.YtdkgmiagjhcllaaDoorCards
import Derived.Test.YtdkgmiagjhcllaaDoorTie
import Derived.Deep.DeepHandedRow
import Derived.Lib.LaidTab
import Derived.Deep.DeepWitnessRowRef
import Derived.Lay
import Derived.Test.YtdkgmiagjhcllaaDoorLaid8
import Derived.WalkKit
import Derived.ProofKit
import Derived.OpenShut
import Derived.ShutString
import Derived.ChangeOld
import Derived.Below
import Derived.JoinedCond
namespace Go.Proofs.YtdkgmiagjhcllaaDoor.rowFieldBack
open Go.ChangeShapes Go.WideShapes Go.ChangeAt Go.RowKit Go.Proofs.YtdkgmiagjhcllaaDoorW.PrintWords
open Go.ChangeMaps (open_string shut_string)
set_option linter.unusedVariables false
set_option linter.unusedSimpArgs false
theorem own : ownKnob Tryd.prog.godebug = none := by kernel_rfl
theorem laidOut : laidOutB Tryd.prog = true := by kernel_rfl
theorem reads9 : Read.Reads Tryd.prog 9 (Kd.string) (fun s => s.size ≤ maxLen : ByteArray → Prop) (fun s => s.size + 1) := Read.reads_string Tryd.underlying9 (by kernel_rfl)
theorem reads3 : Read.Reads Tryd.prog 3 (Kd.int .i64) (fun n => (Lit.int .i64 n).wf = true : Int → Prop) (fun _ => 1) := Read.reads_int Tryd.underlying3 (by kernel_rfl)
theorem premise {W : World} (h : laidMetH Tryd.prog Rows.fieldBackUptoRow.laid W) (hS : W.ShapedOpen Tryd.prog) : P.FieldIn W := P.FieldIn.of h hS
set_option maxRecDepth 100000 in
theorem contract (H : Type) (enc : TypeId × Value → H) (W : World) (base : Nat) (args : Array Value) (ds gs : List (DataW H)) (before : List MemPlace)
    (hval : ∀ (j : Nat) t v, Tryd.f6.params[j]? = some t → args[j]? = some v → Value.okWide Tryd.prog W .any base t v)
    (hW : DataW.Whole enc Tryd.prog Tryd.f6.params.toList Rows.fieldBackSpec.vars false W args.toList ds gs before) (hk : Rows.uptoSmall H (ds ++ gs) = true) (hL : laidMetH Tryd.prog Rows.fieldBackUptoRow.laid W) (hS : W.ShapedOpen Tryd.prog) :
    Calls Tryd.prog 6 args W fun e W' => ∃ v, e = .returned v ∧ Rows.fieldBackSpec.post enc Tryd.prog Tryd.f6 false true false false W args v W' := by
  have hW' := hW
  obtain ⟨p, q, hA0, hV, rfl, hfz, hnd⟩ := hW
  have hA : DataW.TrodAll enc Tryd.prog W 0 (fun _ => true) true Tryd.f6.params.toList args.toList ds p := hA0
  rw [Tryd.params6] at hA hval
  obtain ⟨v0, vs0, d0, ds0, p0, q0, hargs, rfl, rfl, h0, r0⟩ := trodAll_cons hA
  obtain ⟨rfl, rfl, rfl⟩ := trodAll_nil r0
  obtain rfl : args = #[v0] := by cases args; simp_all
  obtain ⟨rfl, rfl⟩ := trodVars_none hV
  clear hA0
  have hk2 : Rows.uptoBulkAll ([d0] : List (DataW H)) ≤ 1048576 := by rw [List.append_nil] at hk; exact of_decide_eq_true hk
  clear hk
  have k0 := h0
  have lt0 : ∀ x ∈ p0, x.block < W.heap.size := by obtain ⟨m, hm⟩ := k0; exact DataW.trod_lt m _ _ _ hm
  obtain ⟨u0_0, u0_1, u0_2, u0_3, x0_0, x0_1, x0_2, x0_3, rfl, hK0_0, hK0_1, hK0_2, hK0_3, ok0_0, ok0_1, ok0_2, ok0_3, bk0⟩ := Read.agg4_arg Tryd.underlying28 (by kernel_rfl) (by kernel_rfl) (hval 0 28 v0 rfl rfl) h0 reads9 reads3 reads3 reads9
  obtain rfl := Read.string_cell hK0_0
  obtain rfl := Read.int_cell hK0_1
  obtain rfl := Read.int_cell hK0_2
  obtain rfl := Read.string_cell hK0_3
  simp only [Rows.uptoBulkAll, Rows.uptoBulk] at hk2
  have e0 : (x0_0.size + 1) + (1) + (1) + (x0_3.size + 1) + 1 ≤ Rows.uptoBulk d0 := bk0
  have hsum : ((x0_0.size + 1) + (1) + (1) + (x0_3.size + 1) + 1) ≤ 1048576 := by omega
  obtain ⟨k, hp⟩ := Pure.FieldBack x0_0 x0_1 x0_2 x0_3 ok0_0 ok0_1 ok0_2 ok0_3 hsum
  refine (P.dragnetlaw08_FieldBack.calls k x0_0 x0_1 x0_2 x0_3 W  hp (premise hL hS)).mono ?_
  rintro e W' ⟨rfl, hd⟩
  have bel : Below W.heap.size W W' := hd
  exact ⟨_, rfl, _, _, _, [], _, [], hW', trodAll_mk1 (shut_bool Tryd.underlying4 _), (trodAll_cons_mk (Below.trod laidOut (by kernel_rfl) (of_decide_eq_true (by kernel_rfl)) k0 bel lt0) trodAll_mk0), rfl, bel.frame _, fun h => by cases h⟩
/-- A world for the witness: the settled one, the variables laid. -/
noncomputable def laidWorld (os : Os) : World := World.laidAll Tryd.prog os Rows.fieldBackUptoRow.laid
theorem laid_met (os : Os) : laidMet Tryd.prog Rows.fieldBackUptoRow.laid ((laidWorld os).forCall (fun _ _ => 0) ⟨#[], #[.agg #[.string ByteArray.empty, .int .i64 0, .int .i64 0, .string ByteArray.empty]], []⟩).memory := laidMet_laidAll _ (by kernel_rfl) (by kernel_rfl)
theorem reads (os : Os) {H : Type} (enc : TypeId × Value → H) : ∃ places, DataW.whole enc Tryd.prog ((laidWorld os).forCall (fun _ _ => 0) ⟨#[], #[.agg #[.string ByteArray.empty, .int .i64 0, .int .i64 0, .string ByteArray.empty]], []⟩).memory Tryd.f6.params.toList Rows.fieldBackSpec.vars false (#[.agg #[.string ByteArray.empty, .int .i64 0, .int .i64 0, .string ByteArray.empty]] : Array Value).toList 8 = some ([.agg [.lit (.string []), .lit (.int .i64 0), .lit (.int .i64 0), .lit (.string [])]], [], places) :=
  ⟨[], by kernel_rfl⟩
set_option maxRecDepth 100000 in
theorem liftedUpto (os : Os) (started : os.Started) (H : Type) (enc : TypeId × Value → H) (F : Stop.Interp) :
    ReturnsInHanded {} Tryd.checked os 6 .any ((Rows.OpenSpec.upto Rows.fieldBackSpec).preRow enc Tryd.prog Tryd.f6 Rows.fieldBackUptoRow.domain false Rows.fieldBackUptoRow.laid) (((Rows.OpenSpec.upto Rows.fieldBackSpec).at F).post enc Tryd.prog Tryd.f6 false true false false) := by
  obtain ⟨places, hx⟩ := reads os enc
  refine returnsInHanded_of_row (C := Tryd.checked) (s := Rows.OpenSpec.upto Rows.fieldBackSpec) own started (by kernel_rfl) Tryd.func6
    (witness_row_atRef (enc := enc) (C := Tryd.checked) false (laidWorld os) #[.agg #[.string ByteArray.empty, .int .i64 0, .int .i64 0, .string ByteArray.empty]] (World.laidAll_os _ _ _) (by kernel_rfl) (by kernel_rfl) (by kernel_rfl)
      (OpenSpec.preRow_of_cond 8 hx (by kernel_rfl) (fun k hk => by cases hk; kernel_rfl) (by kernel_rfl) (laid_met os))) ?_
  intro W base args ds gs before hval hW _ hcond _ hL hS _
  exact contract H enc W base args ds gs before hval hW (hcond _ rfl) hL hS
theorem saidUpto : Rows.FieldBackUptoSaid :=
  OpenClaim.holds_of_cond 6 Tryd.f6 rfl rfl rfl rfl rfl rfl rfl ⟨rfl, rfl, rfl, rfl, rfl⟩ rfl rfl rfl rfl rfl (by kernel_rfl) Tryd.func6 (by kernel_rfl)
    (of_decide_eq_true (by kernel_rfl)) (by unfold Func.isWrapper; first | (rw [if_pos (by decide +kernel)]; kernel_rfl) | (rw [if_neg (by decide +kernel)]; exact ⟨rfl, rfl⟩))
    (fun os started H enc _ F => by rw [OpenClaim.pre_eq_preRow]; exact liftedUpto os started H enc F)
/-- No parameter wants a stand-in; the program's own looks are off. -/
theorem plain (f : FuncId) (fn : Func) (hf : Tryd.pinned.checked.prog.funcNamed "dragnet/dragnetlaw08.FieldBack" = some f) (hfn : Tryd.pinned.checked.prog.funcs[f]? = some fn) :
    true = Tryd.pinned.checked.prog.looks [] ∧ ∀ (j : Nat) t, fn.params[j]? = some t → Tryd.pinned.checked.prog.wantsStandIn t = false := by
  obtain rfl : f = 6 := Option.some.inj ((show Tryd.prog.funcNamed "dragnet/dragnetlaw08.FieldBack" = some 6 by kernel_rfl).symm.trans hf) |>.symm
  obtain rfl : fn = Tryd.f6 := (Option.some.inj (Tryd.func6.symm.trans hfn)).symm
  refine ⟨by kernel_rfl, fun j t ht => ?_⟩
  rw [Tryd.params6] at ht
  have hm := Array.mem_of_getElem? ht
  simp only [List.mem_toArray, List.mem_cons, List.not_mem_nil, or_false] at hm
  subst hm
  exact (show Tryd.prog.wantsStandIn 28 = false by kernel_rfl)
theorem proved : Rows.FieldBackUptoCardSaid :=
  Claim7.holds_tied_plain_at .later [] _ _ _ _ saidUpto (fun _ h => by cases h) (by kernel_rfl) (fun _ h => by cases h) fieldBackUpto_row_tie rfl ⟨rfl, rfl⟩ (by kernel_rfl) rfl plain (by kernel_rfl)
#print axioms proved
end Go.Proofs.YtdkgmiagjhcllaaDoor.rowFieldBack
namespace Go.Proofs.YtdkgmiagjhcllaaDoor
theorem rowFieldBack_holds : Rows.FieldBackUptoCardSaid := rowFieldBack.proved
end Go.Proofs.YtdkgmiagjhcllaaDoor
