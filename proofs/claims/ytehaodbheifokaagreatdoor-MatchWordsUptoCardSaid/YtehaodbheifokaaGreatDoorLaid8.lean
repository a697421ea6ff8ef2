/- What a row of chapter 20 tells of the world is what the walks ask of it. -/
import Derived.Test.YtehaodbheifokaaGreatDoorFieldIn
import Derived.Test.YtehaodbheifokaaGreatDoorRows
import Derived.Lib.LaidU8T
import Derived.Stop.LaidErr
import Derived.Lib.LaidTab
namespace Go.Proofs.YtehaodbheifokaaGreatDoor.P
open Go Go.Lib Go.RowKit Go.Shelf Go.Proofs.YtehaodbheifokaaGreatDoorW.PrintWords Go.Proofs.YtehaodbheifokaaGreatDoorW.PrintLast
set_option linter.unusedVariables false
set_option linter.unusedSimpArgs false

def renU8 : Ren := ⟨fun n => n, fun | 5 => 5 | 119 => 203 | 138 => 205 | 139 => 206 | n => n, fun | 3 => 2 | 4 => 3 | n => n⟩
theorem star : "*" ++ "errors.errorString" = "*errors.errorString" := by decide
theorem rowErr (u : TypeId) (h : Tryz.prog.typeName? 3 u = some "*errors.errorString") : u = 222 :=
  typeName_ptr_named (nm := "errors.errorString") (by rw [star]; kernel_rfl) (by kernel_rfl) (by decide) u (by rw [star]; exact h)
set_option maxRecDepth 100000 in
theorem max_of_shape {w : World} (h : w.ShapedOpen Tryz.prog) : ∃ m, w.cell? ⟨0, 0, none⟩ = some (.int .i64 m) := by
  have h0 : ((begin Tryz.prog (fun _ _ => 0) default).world.heap[0]?).bind Obj.row? = some (#[.int .i64 0], 3) := by kernel_rfl
  obtain ⟨cs, hh, hs, hr⟩ := h.1 0 #[.int .i64 0] 3 (of_decide_eq_true (by kernel_rfl)) h0
  obtain ⟨ts, hts, _, hall⟩ := hr (by kernel_rfl)
  have hc : Tryz.prog.cellTypes Tryz.prog.depth 3 = some [3] := by kernel_rfl
  rw [hc] at hts
  cases hts
  have h1 : 0 < cs.size := by rw [hs]; decide
  obtain ⟨v0, hv0⟩ : ∃ v0, cs[0]? = some v0 := ⟨cs[0]'h1, Array.getElem?_eq_getElem h1⟩
  obtain ⟨u, hu', hok⟩ := hall 0 v0 hv0
  obtain rfl : u = 3 := by simpa using hu'.symm
  have hcell : w.cell? ⟨0, 0, none⟩ = some v0 := by simp [World.cell?, hh, hv0]
  rw [hcell]
  unfold Cell.ok at hok
  rw [Tryz.underlying3] at hok
  clear hall hr hcell
  cases v0 <;> simp at hok
  obtain ⟨rfl, _⟩ := hok
  exact ⟨_, rfl⟩
theorem dF : (firstData : DataW Unit) = Rows.laid_unicode_utf8_first := by kernel_rfl
theorem dA : (acceptData : DataW Unit) = Rows.laid_unicode_utf8_acceptRanges := by kernel_rfl
set_option maxRecDepth 100000 in
theorem FieldIn.of {w : World} (hL : laidMetH Tryz.prog Rows.matchTimesUptoRow.laid w) (hS : w.ShapedOpen Tryz.prog) : FieldIn w := by
  have h : laidMet Tryz.prog Rows.matchTimesUptoRow.laid w := hL
  obtain ⟨a1, t1, hv1, _⟩ := laid_sentinel (g := 5) h.tail.tail.tail.tail (by kernel_rfl) (by kernel_rfl) Tryz.underlying187 rowErr Tryz.underlying222 Tryz.underlying224 rfl rfl Tryz.underlying9 (by kernel_rfl) (by kernel_rfl)
  obtain ⟨a2, t2, hv2, _⟩ := laid_sentinel (g := 4) h.tail.tail.tail.tail.tail (by kernel_rfl) (by kernel_rfl) Tryz.underlying187 rowErr Tryz.underlying222 Tryz.underlying224 rfl rfl Tryz.underlying9 (by kernel_rfl) (by kernel_rfl)
  refine ⟨?_, ?_, ?_, max_of_shape hS, ?_⟩
  · exact Lib.tabIs_of_head (t := 201) (e := 142) (n := 20) (g := 1) (by kernel_rfl) (by kernel_rfl) Tryz.underlying201 (by kernel_rfl) (by kernel_rfl) (by kernel_rfl) h.tail.tail
  · exact ⟨_, _, by have h0 := World.var?_cell (show Tryz.prog.globalNamed "strconv.ErrSyntax" = some 4 by kernel_rfl) hv2 0; simpa using h0⟩
  · exact ⟨_, _, by have h0 := World.var?_cell (show Tryz.prog.globalNamed "strconv.ErrRange" = some 5 by kernel_rfl) hv1 0; simpa using h0⟩
  · exact utf8Tabs_of_readsT (ρ := renU8) ⟨Tryz.underlying5, Tryz.underlying203, Tryz.underlying205, Tryz.underlying206⟩ ⟨by kernel_rfl, by kernel_rfl, by kernel_rfl, by kernel_rfl, by kernel_rfl, by kernel_rfl, by kernel_rfl⟩
      (by rw [dF]; exact Lib.laidMet.reads h (by simp [Rows.matchTimesUptoRow])) (by rw [dA]; exact Lib.laidMet.reads h (by simp [Rows.matchTimesUptoRow]))
end Go.Proofs.YtehaodbheifokaaGreatDoor.P
