/- The field of a key. -/
import Derived.Test.YtdkgmiagjhcllaaDoorPureOne
namespace Go.Proofs.YtdkgmiagjhcllaaDoor.Pure
open Go Go.RowKit Go.Proofs.YtdkgmiagjhcllaaDoorW.PrintWords Go.Proofs.YtdkgmiagjhcllaaDoorW.PrintLast Go.Proofs.YtdkgmiagjhcllaaDoorW.PrintMore Go.Proofs.YtdkgmiagjhcllaaDoor.P
set_option linter.unusedVariables false
set_option linter.unusedSimpArgs false

def keyIs (key : ByteArray) (y : S28) : Bool := decide (y.f0 = key)
def fiveOf : Option S28 → ByteArray × Int × Int × ByteArray × Bool
  | some y => (y.f0, y.f1, y.f2, y.f3, true)
  | none => (⟨#[]⟩, 0, 0, ⟨#[]⟩, false)
theorem fiveOf_found (o : Option S28) : (fiveOf o).2.2.2.2 = o.isSome := by cases o <;> rfl
theorem found_any (l : List S28) (key : ByteArray) : (l.find? (keyIs key)).isSome = l.any (fun y => decide (y.f0 = key)) := by
  rw [Bool.eq_iff_iff, List.find?_isSome]
  simp [keyIs]
theorem toList_iff (s t : ByteArray) : s.toList = t.toList ↔ s = t := by
  rw [Lib.toList_data, Lib.toList_data]
  exact ⟨fun h => ByteArray.ext (Array.toList_inj.1 h), fun h => by rw [h]⟩
theorem rdT_get (l : List S28) (i : Nat) (h : i < l.length) : rd_T28 l (i : Int) = l[i] := by
  unfold rd_T28
  rw [Int.toNat_natCast, List.getD_eq_getElem?_getD, List.getElem?_eq_getElem h, Option.getD_some]
end Go.Proofs.YtdkgmiagjhcllaaDoor.Pure
