/- The row of RowsetSets ('UptoSaid'): for every input of bulk at most 1048576 the law returns true and its arguments read as before; out of the walk (the printed contracts) and the plain law. -/
import Derived.Test.YtiaaicmkpjlplaaRows
import Derived.Test.YtiaaicmkpjlplaaRead
import Derived.Test.YtiaaicmkpjlplaaP6
import Derived.Test.YtiaaicmkpjlplaaPureRowsetSets
import Derived.WalkKit
import Derived.ProofKit
import Derived.OpenShut
import Derived.ShutString
import Derived.ChangeOld
import Derived.Below
import Derived.JoinedCond
namespace Go.Proofs.Ytiaaicmkpjlplaa.rowRowsetSets
open Go.ChangeShapes Go.WideShapes Go.ChangeAt Go.RowKit Go.Proofs.YtiaaicmkpjlplaaW.PrintWords
open Go.ChangeMaps (open_string shut_string)
set_option linter.unusedVariables false
set_option linter.unusedSimpArgs false
theorem own : ownKnob Try.prog.godebug = none := by kernel_rfl
theorem laidOut : laidOutB Try.prog = true := by kernel_rfl
theorem reads3 : Read.Reads Try.prog 3 (Kd.int .i64) (fun n => (Lit.int .i64 n).wf = true : Int → Prop) (fun _ => 1) := Read.reads_int Try.underlying3 (by kernel_rfl)
theorem reads66 : Read.Reads Try.prog 66 (Kd.int .u64) (fun n => (Lit.int .u64 n).wf = true : Int → Prop) (fun _ => 1) := Read.reads_int Try.underlying66 (by kernel_rfl)
theorem reads36 : Read.Reads Try.prog 36 (Kd.slice 66 (Kd.int .u64)) (fun xs => ∀ x ∈ xs, (fun n => (Lit.int .u64 n).wf = true) x : List Int → Prop) (fun xs => Read.sumBulk (fun _ => 1) xs + 1) := Read.reads_slice Try.underlying36 (by kernel_rfl) reads66
set_option maxRecDepth 100000 in
theorem contract (H : Type) (enc : TypeId × Value → H) (W : World) (base : Nat) (args : Array Value) (ds gs : List (DataW H)) (before : List MemPlace)
    (hval : ∀ (j : Nat) t v, Try.f6.params[j]? = some t → args[j]? = some v → Value.okWide Try.prog W .any base t v)
    (hW : DataW.Whole enc Try.prog Try.f6.params.toList Rows.rowsetSetsSpec.vars false W args.toList ds gs before) (hk : Rows.uptoSmall H (ds ++ gs) = true) :
    Calls Try.prog 6 args W fun e W' => ∃ v, e = .returned v ∧ Rows.rowsetSetsSpec.post enc Try.prog Try.f6 false true false false W args v W' := by
  have hW' := hW
  obtain ⟨p, q, hA0, hV, rfl, hfz, hnd⟩ := hW
  have hA : DataW.TrodAll enc Try.prog W 0 (fun _ => true) true Try.f6.params.toList args.toList ds p := hA0
  rw [Try.params6] at hA hval
  obtain ⟨v0, vs0, d0, ds0, p0, q0, hargs, rfl, rfl, h0, r0⟩ := trodAll_cons hA
  obtain ⟨v1, vs1, d1, ds1, p1, q1, rfl, rfl, rfl, h1, r1⟩ := trodAll_cons r0
  obtain ⟨v2, vs2, d2, ds2, p2, q2, rfl, rfl, rfl, h2, r2⟩ := trodAll_cons r1
  obtain ⟨rfl, rfl, rfl⟩ := trodAll_nil r2
  obtain rfl : args = #[v0, v1, v2] := by cases args; simp_all
  obtain ⟨rfl, rfl⟩ := trodVars_none hV
  clear hA0
  have hk2 : Rows.uptoBulkAll ([d0, d1, d2] : List (DataW H)) ≤ 1048576 := by rw [List.append_nil] at hk; exact of_decide_eq_true hk
  clear hk
  have k0 := h0
  have lt0 : ∀ x ∈ p0, x.block < W.heap.size := by obtain ⟨m, hm⟩ := k0; exact DataW.trod_lt m _ _ _ hm
  obtain ⟨u0_0, u0_1, x0_0, x0_1, rfl, hK0_0, hK0_1, ok0_0, ok0_1, bk0⟩ := Read.agg2_arg Try.underlying38 (by kernel_rfl) (by kernel_rfl) (hval 0 38 v0 rfl rfl) h0 reads3 reads36
  obtain rfl := Read.int_cell hK0_0
  obtain ⟨A0_1, c0_1, rfl, hc0_1, hr0_1⟩ := Read.slice_cell hK0_1
  have k1 := h1
  have lt1 : ∀ x ∈ p1, x.block < W.heap.size := by obtain ⟨m, hm⟩ := k1; exact DataW.trod_lt m _ _ _ hm
  obtain ⟨u1_0, u1_1, x1_0, x1_1, rfl, hK1_0, hK1_1, ok1_0, ok1_1, bk1⟩ := Read.agg2_arg Try.underlying38 (by kernel_rfl) (by kernel_rfl) (hval 1 38 v1 rfl rfl) h1 reads3 reads36
  obtain rfl := Read.int_cell hK1_0
  obtain ⟨A1_1, c1_1, rfl, hc1_1, hr1_1⟩ := Read.slice_cell hK1_1
  have k2 := h2
  have lt2 : ∀ x ∈ p2, x.block < W.heap.size := by obtain ⟨m, hm⟩ := k2; exact DataW.trod_lt m _ _ _ hm
  obtain ⟨u2_0, u2_1, x2_0, x2_1, rfl, hK2_0, hK2_1, ok2_0, ok2_1, bk2⟩ := Read.agg2_arg Try.underlying38 (by kernel_rfl) (by kernel_rfl) (hval 2 38 v2 rfl rfl) h2 reads3 reads36
  obtain rfl := Read.int_cell hK2_0
  obtain ⟨A2_1, c2_1, rfl, hc2_1, hr2_1⟩ := Read.slice_cell hK2_1
  simp only [Rows.uptoBulkAll, Rows.uptoBulk] at hk2
  have e0 : (1) + (Read.sumBulk (fun _ => 1) x0_1 + 1) + 1 ≤ Rows.uptoBulk d0 := bk0
  have e1 : (1) + (Read.sumBulk (fun _ => 1) x1_1 + 1) + 1 ≤ Rows.uptoBulk d1 := bk1
  have e2 : (1) + (Read.sumBulk (fun _ => 1) x2_1 + 1) + 1 ≤ Rows.uptoBulk d2 := bk2
  have hsum : ((1) + (Read.sumBulk (fun _ => 1) x0_1 + 1) + 1) + ((1) + (Read.sumBulk (fun _ => 1) x1_1 + 1) + 1) + ((1) + (Read.sumBulk (fun _ => 1) x2_1 + 1) + 1) ≤ 1048576 := by omega
  obtain ⟨k, hp⟩ := Pure.RowsetSets x0_0 x0_1 x1_0 x1_1 x2_0 x2_1 ok0_0 ok0_1 ok1_0 ok1_1 ok2_0 ok2_1 hsum
  refine (P.dragnetlaw09_RowsetSets.calls k x0_0 _ _ x0_1 x1_0 _ _ x1_1 x2_0 _ _ x2_1 W hr0_1 hc0_1 hr1_1 hc1_1 hr2_1 hc2_1 hp).mono ?_
  rintro e W' ⟨rfl, hd⟩
  have bel : Below W.heap.size W W' := hd
  exact ⟨_, rfl, _, _, _, [], _, [], hW', trodAll_mk1 (shut_bool Try.underlying4 _), (trodAll_cons_mk (Below.trod laidOut (by kernel_rfl) (of_decide_eq_true (by kernel_rfl)) k0 bel lt0) (trodAll_cons_mk (Below.trod laidOut (by kernel_rfl) (of_decide_eq_true (by kernel_rfl)) k1 bel lt1) (trodAll_cons_mk (Below.trod laidOut (by kernel_rfl) (of_decide_eq_true (by kernel_rfl)) k2 bel lt2) trodAll_mk0))), rfl, bel.frame _, fun h => by cases h⟩
set_option maxRecDepth 100000 in
theorem lifted (os : Os) (started : os.Started) (H : Type) (enc : TypeId × Value → H) (F : Stop.Interp) :
    ReturnsInHanded {} Try.checked os 6 .any ((Rows.OpenSpec.upto Rows.rowsetSetsSpec).pre6 enc Try.prog Try.f6 Rows.rowsetSetsUptoRow.domain false) (((Rows.OpenSpec.upto Rows.rowsetSetsSpec).at F).post enc Try.prog Try.f6 false true false false) := by
  refine returnsInHanded_of_cond (C := Try.checked) (s := Rows.OpenSpec.upto Rows.rowsetSetsSpec) (k := Rows.uptoSmall) rfl own started (by kernel_rfl) Try.func6
    (OpenSpec.witness (enc := enc) (C := Try.checked) (s := Rows.OpenSpec.upto Rows.rowsetSetsSpec) (k := Rows.uptoSmall) rfl false ⟨#[], #[.agg #[.int .i64 0, .slice none 0 0], .agg #[.int .i64 0, .slice none 0 0], .agg #[.int .i64 0, .slice none 0 0]], []⟩ 8 (by kernel_rfl) (by kernel_rfl) (by kernel_rfl)
      (x := ([.agg [.lit (.int .i64 0), .nil], .agg [.lit (.int .i64 0), .nil], .agg [.lit (.int .i64 0), .nil]], [], [])) (by kernel_rfl) rfl (by kernel_rfl)) ?_
  intro W base args ds gs before hval hW _ hk _
  exact contract H enc W base args ds gs before hval hW hk
theorem proved : Rows.RowsetSetsUptoSaid :=
  OpenClaim.holds_of_cond 6 Try.f6 rfl rfl rfl rfl rfl rfl rfl ⟨rfl, rfl, rfl, rfl, rfl⟩ rfl rfl rfl rfl rfl (by kernel_rfl) Try.func6 (by kernel_rfl)
    (of_decide_eq_true (by kernel_rfl)) (by unfold Func.isWrapper; first | (rw [if_pos (by decide +kernel)]; kernel_rfl) | (rw [if_neg (by decide +kernel)]; exact ⟨rfl, rfl⟩))
    (fun os started H enc _ F => lifted os started H enc F)
#print axioms proved
end Go.Proofs.Ytiaaicmkpjlplaa.rowRowsetSets
namespace Go.Proofs.Ytiaaicmkpjlplaa
theorem rowRowsetSets_holds : Rows.RowsetSetsUptoSaid := rowRowsetSets.proved
end Go.Proofs.Ytiaaicmkpjlplaa
