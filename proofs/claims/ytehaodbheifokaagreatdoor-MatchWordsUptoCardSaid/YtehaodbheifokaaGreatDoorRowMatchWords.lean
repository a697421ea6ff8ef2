/- The row of MatchWords ('UptoSaid'): for every input of bulk at most 1048576 the law returns true and its arguments read as before; out of the walk (the printed contracts) and the plain law. -/
import Derived.Test.YtehaodbheifokaaGreatDoorRows
import Derived.Test.YtehaodbheifokaaGreatDoorRead
import Derived.Test.YtehaodbheifokaaGreatDoorMatchWords20
import Derived.Test.YtehaodbheifokaaGreatDoorPureMatchWords
import Derived.Test.YtehaodbheifokaaGreatDoorCards
import Derived.Test.YtehaodbheifokaaGreatDoorTie
import Derived.Deep.DeepHandedRow
import Derived.Lib.LaidTab
import Derived.Deep.DeepWitnessRowRef
import Derived.Lay
import Derived.Test.YtehaodbheifokaaGreatDoorLaid8
import Derived.WalkKit
import Derived.ProofKit
import Derived.OpenShut
import Derived.ShutString
import Derived.ChangeOld
import Derived.Below
import Derived.JoinedCond
namespace Go.Proofs.YtehaodbheifokaaGreatDoor.rowMatchWords
open Go.ChangeShapes Go.WideShapes Go.ChangeAt Go.RowKit Go.Proofs.YtehaodbheifokaaGreatDoorW.PrintWords
open Go.ChangeMaps (open_string shut_string)
set_option linter.unusedVariables false
set_option linter.unusedSimpArgs false
theorem own : ownKnob Tryz.prog.godebug = none := by kernel_rfl
theorem laidOut : laidOutB Tryz.prog = true := by kernel_rfl
theorem reads9 : Read.Reads Tryz.prog 9 (Kd.string) (fun s => s.size ≤ maxLen : ByteArray → Prop) (fun s => s.size + 1) := Read.reads_string Tryz.underlying9 (by kernel_rfl)
theorem reads3 : Read.Reads Tryz.prog 3 (Kd.int .i64) (fun n => (Lit.int .i64 n).wf = true : Int → Prop) (fun _ => 1) := Read.reads_int Tryz.underlying3 (by kernel_rfl)
theorem reads5 : Read.Reads Tryz.prog 5 (Kd.int .u8) (fun n => (Lit.int .u8 n).wf = true : Int → Prop) (fun _ => 1) := Read.reads_int Tryz.underlying5 (by kernel_rfl)
theorem reads25 : Read.Reads Tryz.prog 25 (Kd.slice 5 (Kd.int .u8)) (fun xs => ∀ x ∈ xs, (fun n => (Lit.int .u8 n).wf = true) x : List Int → Prop) (fun xs => Read.sumBulk (fun _ => 1) xs + 1) := Read.reads_slice Tryz.underlying25 (by kernel_rfl) reads5
theorem premise {W : World} (h : laidMetH Tryz.prog Rows.matchWordsUptoRow.laid W) (hS : W.ShapedOpen Tryz.prog) : P.FieldIn W := P.FieldIn.of h hS
set_option maxRecDepth 100000 in
theorem contract (H : Type) (enc : TypeId × Value → H) (W : World) (base : Nat) (args : Array Value) (ds gs : List (DataW H)) (before : List MemPlace)
    (hval : ∀ (j : Nat) t v, Tryz.f5.params[j]? = some t → args[j]? = some v → Value.okWide Tryz.prog W .any base t v)
    (hW : DataW.Whole enc Tryz.prog Tryz.f5.params.toList Rows.matchWordsSpec.vars false W args.toList ds gs before) (hk : Rows.uptoSmall H (ds ++ gs) = true) (hL : laidMetH Tryz.prog Rows.matchWordsUptoRow.laid W) (hS : W.ShapedOpen Tryz.prog) :
    Calls Tryz.prog 5 args W fun e W' => ∃ v, e = .returned v ∧ Rows.matchWordsSpec.post enc Tryz.prog Tryz.f5 false true false false W args v W' := by
  have hW' := hW
  obtain ⟨p, q, hA0, hV, rfl, hfz, hnd⟩ := hW
  have hA : DataW.TrodAll enc Tryz.prog W 0 (fun _ => true) true Tryz.f5.params.toList args.toList ds p := hA0
  rw [Tryz.params5] at hA hval
  obtain ⟨v0, vs0, d0, ds0, p0, q0, hargs, rfl, rfl, h0, r0⟩ := trodAll_cons hA
  obtain ⟨v1, vs1, d1, ds1, p1, q1, rfl, rfl, rfl, h1, r1⟩ := trodAll_cons r0
  obtain ⟨rfl, rfl, rfl⟩ := trodAll_nil r1
  obtain rfl : args = #[v0, v1] := by cases args; simp_all
  obtain ⟨rfl, rfl⟩ := trodVars_none hV
  clear hA0
  have hk2 : Rows.uptoBulkAll ([d0, d1] : List (DataW H)) ≤ 1048576 := by rw [List.append_nil] at hk; exact of_decide_eq_true hk
  clear hk
  obtain ⟨x0, rfl, rfl, rfl, ok0⟩ := open_string Tryz.underlying9 (hval 0 9 v0 rfl rfl) h0
  have k1 := h1
  have lt1 : ∀ x ∈ p1, x.block < W.heap.size := by obtain ⟨m, hm⟩ := k1; exact DataW.trod_lt m _ _ _ hm
  obtain ⟨u1_0, u1_1, u1_2, x1_0, x1_1, x1_2, rfl, hK1_0, hK1_1, hK1_2, ok1_0, ok1_1, ok1_2, bk1⟩ := Read.agg3_arg Tryz.underlying27 (by kernel_rfl) (by kernel_rfl) (hval 1 27 v1 rfl rfl) h1 reads3 reads3 reads25
  obtain rfl := Read.int_cell hK1_0
  obtain rfl := Read.int_cell hK1_1
  obtain ⟨A1_2, c1_2, rfl, hc1_2, hr1_2⟩ := Read.slice_cell hK1_2
  simp only [Rows.uptoBulkAll, Rows.uptoBulk, Array.length_toList] at hk2
  have e1 : (1) + (1) + (Read.sumBulk (fun _ => 1) x1_2 + 1) + 1 ≤ Rows.uptoBulk d1 := bk1
  have es0 : x0.data.size = x0.size := rfl
  have hsum : (x0.size + 1) + ((1) + (1) + (Read.sumBulk (fun _ => 1) x1_2 + 1) + 1) ≤ 1048576 := by omega
  have hp := Pure.MatchWords x0 x1_0 x1_1 x1_2 ok0 ok1_0 ok1_1 ok1_2 hsum
  refine (P.dragnetlaw20_MatchWords.calls x0 x1_0 x1_1 _ _ x1_2 W hr1_2 hc1_2 hp (premise hL hS)).mono ?_
  rintro e W' ⟨rfl, hd⟩
  have bel : Below W.heap.size W W' := hd
  exact ⟨_, rfl, _, _, _, [], _, [], hW', trodAll_mk1 (shut_bool Tryz.underlying4 _), (trodAll_cons_mk (shut_string Tryz.underlying9 ok0) (trodAll_cons_mk (Below.trod laidOut (by kernel_rfl) (of_decide_eq_true (by kernel_rfl)) k1 bel lt1) trodAll_mk0)), rfl, bel.frame _, fun h => by cases h⟩
/-- A world for the witness: the settled one, the variables laid. -/
noncomputable def laidWorld (os : Os) : World := World.laidAll Tryz.prog os Rows.matchWordsUptoRow.laid
theorem laid_met (os : Os) : laidMet Tryz.prog Rows.matchWordsUptoRow.laid ((laidWorld os).forCall (fun _ _ => 0) ⟨#[], #[.string ByteArray.empty, .agg #[.int .i64 0, .int .i64 0, .slice none 0 0]], []⟩).memory := laidMet_laidAll _ (by kernel_rfl) (by kernel_rfl)
theorem reads (os : Os) {H : Type} (enc : TypeId × Value → H) : ∃ places, DataW.whole enc Tryz.prog ((laidWorld os).forCall (fun _ _ => 0) ⟨#[], #[.string ByteArray.empty, .agg #[.int .i64 0, .int .i64 0, .slice none 0 0]], []⟩).memory Tryz.f5.params.toList Rows.matchWordsSpec.vars false (#[.string ByteArray.empty, .agg #[.int .i64 0, .int .i64 0, .slice none 0 0]] : Array Value).toList 8 = some ([.lit (.string []), .agg [.lit (.int .i64 0), .lit (.int .i64 0), .nil]], [], places) :=
  ⟨[], by kernel_rfl⟩
set_option maxRecDepth 100000 in
theorem liftedUpto (os : Os) (started : os.Started) (H : Type) (enc : TypeId × Value → H) (F : Stop.Interp) :
    ReturnsInHanded {} Tryz.checked os 5 .any ((Rows.OpenSpec.upto Rows.matchWordsSpec).preRow enc Tryz.prog Tryz.f5 Rows.matchWordsUptoRow.domain false Rows.matchWordsUptoRow.laid) (((Rows.OpenSpec.upto Rows.matchWordsSpec).at F).post enc Tryz.prog Tryz.f5 false true false false) := by
  obtain ⟨places, hx⟩ := reads os enc
  refine returnsInHanded_of_row (C := Tryz.checked) (s := Rows.OpenSpec.upto Rows.matchWordsSpec) own started (by kernel_rfl) Tryz.func5
    (witness_row_atRef (enc := enc) (C := Tryz.checked) false (laidWorld os) #[.string ByteArray.empty, .agg #[.int .i64 0, .int .i64 0, .slice none 0 0]] (World.laidAll_os _ _ _) (by kernel_rfl) (by kernel_rfl) (by kernel_rfl)
      (OpenSpec.preRow_of_cond 8 hx (by kernel_rfl) (fun k hk => by cases hk; kernel_rfl) (by kernel_rfl) (laid_met os))) ?_
  intro W base args ds gs before hval hW _ hcond _ hL hS _
  exact contract H enc W base args ds gs before hval hW (hcond _ rfl) hL hS
theorem saidUpto : Rows.MatchWordsUptoSaid :=
  OpenClaim.holds_of_cond 5 Tryz.f5 rfl rfl rfl rfl rfl rfl rfl ⟨rfl, rfl, rfl, rfl, rfl⟩ rfl rfl rfl rfl rfl (by kernel_rfl) Tryz.func5 (by kernel_rfl)
    (of_decide_eq_true (by kernel_rfl)) (by unfold Func.isWrapper; first | (rw [if_pos (by decide +kernel)]; kernel_rfl) | (rw [if_neg (by decide +kernel)]; exact ⟨rfl, rfl⟩))
    (fun os started H enc _ F => by rw [OpenClaim.pre_eq_preRow]; exact liftedUpto os started H enc F)
/-- No parameter wants a stand-in; the program's own looks are off. -/
theorem plain (f : FuncId) (fn : Func) (hf : Tryz.pinned.checked.prog.funcNamed "dragnet/dragnetlaw20.MatchWords" = some f) (hfn : Tryz.pinned.checked.prog.funcs[f]? = some fn) :
    true = Tryz.pinned.checked.prog.looks [] ∧ ∀ (j : Nat) t, fn.params[j]? = some t → Tryz.pinned.checked.prog.wantsStandIn t = false := by
  obtain rfl : f = 5 := Option.some.inj ((show Tryz.prog.funcNamed "dragnet/dragnetlaw20.MatchWords" = some 5 by kernel_rfl).symm.trans hf) |>.symm
  obtain rfl : fn = Tryz.f5 := (Option.some.inj (Tryz.func5.symm.trans hfn)).symm
  refine ⟨by kernel_rfl, fun j t ht => ?_⟩
  rw [Tryz.params5] at ht
  have hm := Array.mem_of_getElem? ht
  simp only [List.mem_toArray, List.mem_cons, List.not_mem_nil, or_false] at hm
  rcases hm with rfl | rfl
  · exact (show Tryz.prog.wantsStandIn 9 = false by kernel_rfl)
  · exact (show Tryz.prog.wantsStandIn 27 = false by kernel_rfl)
theorem proved : Rows.MatchWordsUptoCardSaid :=
  Claim7.holds_tied_plain_at .later [] _ _ _ _ saidUpto (fun _ h => by cases h) (by kernel_rfl) (fun _ h => by cases h) matchWordsUpto_row_tie rfl ⟨rfl, rfl⟩ (by kernel_rfl) rfl plain (by kernel_rfl)
#print axioms proved
end Go.Proofs.YtehaodbheifokaaGreatDoor.rowMatchWords
namespace Go.Proofs.YtehaodbheifokaaGreatDoor
theorem rowMatchWords_holds : Rows.MatchWordsUptoCardSaid := rowMatchWords.proved
end Go.Proofs.YtehaodbheifokaaGreatDoor
