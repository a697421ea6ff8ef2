/- The row of RowsetCovers ('UptoSaid'): for every input of bulk at most 1048576 the law returns true and its arguments read as before; out of the walk (the printed contracts) and the plain law. -/
import Derived.Test.YtiaaicmkpjlplaaDoorRows
import Derived.Test.YtiaaicmkpjlplaaDoorRead
import Derived.Test.YtiaaicmkpjlplaaDoorP8
import Derived.Test.YtiaaicmkpjlplaaDoorPureRowsetCovers
import Derived.Test.YtiaaicmkpjlplaaDoorCards
import Derived.Test.YtiaaicmkpjlplaaDoorTie
import Derived.Deep.DeepHandedRow
import Derived.Lib.LaidTab
import Derived.WalkKit
import Derived.ProofKit
import Derived.OpenShut
import Derived.ShutString
import Derived.ChangeOld
import Derived.Below
import Derived.JoinedCond
namespace Go.Proofs.YtiaaicmkpjlplaaDoor.rowRowsetCovers
open Go.ChangeShapes Go.WideShapes Go.ChangeAt Go.RowKit Go.Proofs.YtiaaicmkpjlplaaDoorW.PrintWords
open Go.ChangeMaps (open_string shut_string)
set_option linter.unusedVariables false
set_option linter.unusedSimpArgs false
theorem own : ownKnob Tryd.prog.godebug = none := by kernel_rfl
theorem laidOut : laidOutB Tryd.prog = true := by kernel_rfl
theorem reads3 : Read.Reads Tryd.prog 3 (Kd.int .i64) (fun n => (Lit.int .i64 n).wf = true : Int → Prop) (fun _ => 1) := Read.reads_int Tryd.underlying3 (by kernel_rfl)
theorem reads41 : Read.Reads Tryd.prog 41 (Kd.int .u64) (fun n => (Lit.int .u64 n).wf = true : Int → Prop) (fun _ => 1) := Read.reads_int Tryd.underlying41 (by kernel_rfl)
theorem reads22 : Read.Reads Tryd.prog 22 (Kd.slice 41 (Kd.int .u64)) (fun xs => ∀ x ∈ xs, (fun n => (Lit.int .u64 n).wf = true) x : List Int → Prop) (fun xs => Read.sumBulk (fun _ => 1) xs + 1) := Read.reads_slice Tryd.underlying22 (by kernel_rfl) reads41
theorem gTab : Tryd.prog.globalNamed "math/bits.deBruijn64tab" = some 0 := by kernel_rfl
theorem gTabType : (Tryd.prog.globals[0]?).map (·.type) = some 51 := by kernel_rfl
theorem cellsT : Tryd.prog.cellsOf 51 = 64 := by kernel_rfl
theorem cellsE : Tryd.prog.cellsOf 5 = 1 := by kernel_rfl
theorem premise {W : World} (h : laidMetH Tryd.prog Rows.rowsetCoversUptoRow.laid W) : P.TzIn W := P.TzIn.of (Lib.tabIs_of_head (rest := []) gTab gTabType Tryd.underlying51 Tryd.underlying5 cellsE cellsT h)
set_option maxRecDepth 100000 in
theorem contract (H : Type) (enc : TypeId × Value → H) (W : World) (base : Nat) (args : Array Value) (ds gs : List (DataW H)) (before : List MemPlace)
    (hval : ∀ (j : Nat) t v, Tryd.f5.params[j]? = some t → args[j]? = some v → Value.okWide Tryd.prog W .any base t v)
    (hW : DataW.Whole enc Tryd.prog Tryd.f5.params.toList Rows.rowsetCoversSpec.vars false W args.toList ds gs before) (hk : Rows.uptoSmall H (ds ++ gs) = true) (hL : laidMetH Tryd.prog Rows.rowsetCoversUptoRow.laid W) :
    Calls Tryd.prog 5 args W fun e W' => ∃ v, e = .returned v ∧ Rows.rowsetCoversSpec.post enc Tryd.prog Tryd.f5 false true false false W args v W' := by
  have hW' := hW
  obtain ⟨p, q, hA0, hV, rfl, hfz, hnd⟩ := hW
  have hA : DataW.TrodAll enc Tryd.prog W 0 (fun _ => true) true Tryd.f5.params.toList args.toList ds p := hA0
  rw [Tryd.params5] at hA hval
  obtain ⟨v0, vs0, d0, ds0, p0, q0, hargs, rfl, rfl, h0, r0⟩ := trodAll_cons hA
  obtain ⟨rfl, rfl, rfl⟩ := trodAll_nil r0
  obtain rfl : args = #[v0] := by cases args; simp_all
  obtain ⟨rfl, rfl⟩ := trodVars_none hV
  clear hA0
  have hk2 : Rows.uptoBulkAll ([d0] : List (DataW H)) ≤ 1048576 := by rw [List.append_nil] at hk; exact of_decide_eq_true hk
  clear hk
  have k0 := h0
  have lt0 : ∀ x ∈ p0, x.block < W.heap.size := by obtain ⟨m, hm⟩ := k0; exact DataW.trod_lt m _ _ _ hm
  obtain ⟨u0_0, u0_1, x0_0, x0_1, rfl, hK0_0, hK0_1, ok0_0, ok0_1, bk0⟩ := Read.agg2_arg Tryd.underlying24 (by kernel_rfl) (by kernel_rfl) (hval 0 24 v0 rfl rfl) h0 reads3 reads22
  obtain rfl := Read.int_cell hK0_0
  obtain ⟨A0_1, c0_1, rfl, hc0_1, hr0_1⟩ := Read.slice_cell hK0_1
  simp only [Rows.uptoBulkAll, Rows.uptoBulk] at hk2
  have e0 : (1) + (Read.sumBulk (fun _ => 1) x0_1 + 1) + 1 ≤ Rows.uptoBulk d0 := bk0
  have hsum : ((1) + (Read.sumBulk (fun _ => 1) x0_1 + 1) + 1) ≤ 1048576 := by omega
  obtain ⟨k, hp⟩ := Pure.RowsetCovers x0_0 x0_1 ok0_0 ok0_1 hsum
  refine (P.dragnetlaw09_RowsetCovers.calls k x0_0 _ _ x0_1 W hr0_1 hc0_1 hp (premise hL)).mono ?_
  rintro e W' ⟨rfl, hd⟩
  have bel : Below W.heap.size W W' := hd
  exact ⟨_, rfl, _, _, _, [], _, [], hW', trodAll_mk1 (shut_bool Tryd.underlying4 _), (trodAll_cons_mk (Below.trod laidOut (by kernel_rfl) (of_decide_eq_true (by kernel_rfl)) k0 bel lt0) trodAll_mk0), rfl, bel.frame _, fun h => by cases h⟩
/-- A world for the witness: the settled one, the table holding what its initialiser lays. -/
noncomputable def laidWorld (os : Os) : World :=
  { World.holding Tryd.prog os ⟨#[], #[], []⟩ with heap := (World.holding Tryd.prog os ⟨#[], #[], []⟩).heap.modify 0 fun
      | .cells _ t frozen => .cells #[.int .u8 0, .int .u8 1, .int .u8 56, .int .u8 2, .int .u8 57, .int .u8 49, .int .u8 28, .int .u8 3, .int .u8 61, .int .u8 58, .int .u8 42, .int .u8 50, .int .u8 38, .int .u8 29, .int .u8 17, .int .u8 4, .int .u8 62, .int .u8 47, .int .u8 59, .int .u8 36, .int .u8 45, .int .u8 43, .int .u8 51, .int .u8 22, .int .u8 53, .int .u8 39, .int .u8 33, .int .u8 30, .int .u8 24, .int .u8 18, .int .u8 12, .int .u8 5, .int .u8 63, .int .u8 55, .int .u8 48, .int .u8 27, .int .u8 60, .int .u8 41, .int .u8 37, .int .u8 16, .int .u8 46, .int .u8 35, .int .u8 44, .int .u8 21, .int .u8 52, .int .u8 32, .int .u8 23, .int .u8 11, .int .u8 54, .int .u8 26, .int .u8 40, .int .u8 15, .int .u8 34, .int .u8 20, .int .u8 31, .int .u8 10, .int .u8 25, .int .u8 14, .int .u8 19, .int .u8 9, .int .u8 13, .int .u8 8, .int .u8 7, .int .u8 6] t frozen
      | o => o }
theorem laid_met (os : Os) : laidMet Tryd.prog Rows.rowsetCoversUptoRow.laid ((laidWorld os).forCall (fun _ _ => 0) ⟨#[], #[.agg #[.int .i64 0, .slice none 0 0]], []⟩).memory :=
  laidMet_of_run' 80 (by kernel_rfl) (by kernel_rfl)
theorem reads (os : Os) {H : Type} (enc : TypeId × Value → H) : ∃ places, DataW.whole enc Tryd.prog ((laidWorld os).forCall (fun _ _ => 0) ⟨#[], #[.agg #[.int .i64 0, .slice none 0 0]], []⟩).memory Tryd.f5.params.toList Rows.rowsetCoversSpec.vars false (#[.agg #[.int .i64 0, .slice none 0 0]] : Array Value).toList 8 = some ([.agg [.lit (.int .i64 0), .nil]], [], places) :=
  ⟨[], by kernel_rfl⟩
set_option maxRecDepth 100000 in
theorem liftedUpto (os : Os) (started : os.Started) (H : Type) (enc : TypeId × Value → H) (F : Stop.Interp) :
    ReturnsInHanded {} Tryd.checked os 5 .any ((Rows.OpenSpec.upto Rows.rowsetCoversSpec).preRow enc Tryd.prog Tryd.f5 Rows.rowsetCoversUptoRow.domain false Rows.rowsetCoversUptoRow.laid) (((Rows.OpenSpec.upto Rows.rowsetCoversSpec).at F).post enc Tryd.prog Tryd.f5 false true false false) := by
  obtain ⟨places, hx⟩ := reads os enc
  refine returnsInHanded_of_row (C := Tryd.checked) (s := Rows.OpenSpec.upto Rows.rowsetCoversSpec) own started (by kernel_rfl) Tryd.func5
    (witness_row_at (enc := enc) (C := Tryd.checked) false (laidWorld os) #[.agg #[.int .i64 0, .slice none 0 0]] rfl (by kernel_rfl) (by kernel_rfl) (by kernel_rfl)
      (OpenSpec.preRow_of_cond 8 hx (by kernel_rfl) (fun k hk => by cases hk; kernel_rfl) (by kernel_rfl) (laid_met os))) ?_
  intro W base args ds gs before hval hW _ hcond _ hL _ _
  exact contract H enc W base args ds gs before hval hW (hcond _ rfl) hL
theorem saidUpto : Rows.RowsetCoversUptoSaid :=
  OpenClaim.holds_of_cond 5 Tryd.f5 rfl rfl rfl rfl rfl rfl rfl ⟨rfl, rfl, rfl, rfl, rfl⟩ rfl rfl rfl rfl rfl (by kernel_rfl) Tryd.func5 (by kernel_rfl)
    (of_decide_eq_true (by kernel_rfl)) (by unfold Func.isWrapper; first | (rw [if_pos (by decide +kernel)]; kernel_rfl) | (rw [if_neg (by decide +kernel)]; exact ⟨rfl, rfl⟩))
    (fun os started H enc _ F => by rw [OpenClaim.pre_eq_preRow]; exact liftedUpto os started H enc F)
/-- No parameter wants a stand-in; the program's own looks are off. -/
theorem plain (f : FuncId) (fn : Func) (hf : Tryd.pinned.checked.prog.funcNamed "dragnet/dragnetlaw09.RowsetCovers" = some f) (hfn : Tryd.pinned.checked.prog.funcs[f]? = some fn) :
    false = Tryd.pinned.checked.prog.looks [] ∧ ∀ (j : Nat) t, fn.params[j]? = some t → Tryd.pinned.checked.prog.wantsStandIn t = false := by
  obtain rfl : f = 5 := Option.some.inj ((show Tryd.prog.funcNamed "dragnet/dragnetlaw09.RowsetCovers" = some 5 by kernel_rfl).symm.trans hf) |>.symm
  obtain rfl : fn = Tryd.f5 := (Option.some.inj (Tryd.func5.symm.trans hfn)).symm
  refine ⟨by kernel_rfl, fun j t ht => ?_⟩
  rw [Tryd.params5] at ht
  have hm := Array.mem_of_getElem? ht
  simp only [List.mem_toArray, List.mem_cons, List.not_mem_nil, or_false] at hm
  subst hm
  exact (show Tryd.prog.wantsStandIn 24 = false by kernel_rfl)
theorem proved : Rows.RowsetCoversUptoCardSaid :=
  Claim7.holds_tied_plain_at .later [] _ _ _ _ saidUpto (fun _ h => by cases h) (by kernel_rfl) (fun _ h => by cases h) rowsetCoversUpto_row_tie rfl ⟨rfl, rfl⟩ (by kernel_rfl) rfl plain (by kernel_rfl)
#print axioms proved
end Go.Proofs.YtiaaicmkpjlplaaDoor.rowRowsetCovers
namespace Go.Proofs.YtiaaicmkpjlplaaDoor
theorem rowRowsetCovers_holds : Rows.RowsetCoversUptoCardSaid := rowRowsetCovers.proved
end Go.Proofs.YtiaaicmkpjlplaaDoor
