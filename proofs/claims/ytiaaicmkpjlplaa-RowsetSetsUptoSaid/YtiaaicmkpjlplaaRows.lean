/-
  No cell of these rows narrows 'for every input' (looked for: loops, veiled, ifaces, maps, wideKeys, modest, calm, conditions, laid).
  DERIVED. THE GIVEN ROWS OF THIS SEAT. 9 by the template 'for every input the law returns true; each argument reads behind the call as it read before'; 0 by the template 'total and deterministic' (their statements: YtiaaicmkpjlplaaTotals.lean).
  GIVEN WITH THE SEED: the statements are not yours to turn. If you find one false, say at which input.
  Laid BY PROGRAM, IN A SANDBOX (cutbox-rows.mjs): the forced cells as the released guide's own fill.sh prints them over the translation 20f2ca15ab11cfe2… (all of the seat's roots in one cut). By AI agents, Wed Nov 11 2026. No macro, syntax, notation, axiom, sorry.
-/
import Derived.Test.YtiaaicmkpjlplaaChecked
import GoSem.Claim
import GoSem.ClaimJoined
import GoSem.ClaimMapViews
import Derived.JoinedTies
import Derived.KernelRfl
namespace Go.Proofs.Ytiaaicmkpjlplaa
/- THE CELL 'sum', in the pinned program and in every row, IS THE sha256 OF THE DUMP (.gsa) THAT YtiaaicmkpjlplaaProg.lean LOADS. Nothing in Lean hashes anything: it is a label: what it is worth is what the hold of that sum in a sandbox is worth. -/
noncomputable def Try.pinned : Pinned := { name := "ytiaaicmkpjlplaa", sum := "20f2ca15ab11cfe2d415d22c22f79126491a1bc483aebd49e62d657a66308b2d", checked := Try.checked }
namespace Rows
def none {H : Type} : Left H := { results := [], args := [] }

/-- 'dragnetlaw06.SymEncodes': WHATEVER THE INPUT: true; the input reads as it did. -/
def symEncodesSpec : ChangeSpec := { name := "symEncodes", fn := fun _ => fun
  | [d1, d2] => { results := [.lit (.bool true)], args := [d1, d2] }
  | _ => none }
def symEncodesRow : OpenClaim := { program := "ytiaaicmkpjlplaa", sum := "20f2ca15ab11cfe2d415d22c22f79126491a1bc483aebd49e62d657a66308b2d", func := "dragnet/dragnetlaw06.SymEncodes", spec := "symEncodes", apart := false }
def SymEncodesSaid : Prop := symEncodesRow.holds Try.pinned (OpenSpec.ofChange symEncodesSpec)

/-- ITS FALSE NEIGHBOUR: 'it returns false'. Refute it at one input. -/
def symEncodesWrong : ChangeSpec := { name := "symEncodes", fn := fun _ => fun
  | [d1, d2] => { results := [.lit (.bool false)], args := [d1, d2] }
  | _ => none }
def SymEncodesWrongFalsely : Prop := symEncodesRow.holds Try.pinned (OpenSpec.ofChange symEncodesWrong)

/-- 'dragnetlaw06.SymDecodes': WHATEVER THE INPUT: true; the input reads as it did. -/
def symDecodesSpec : ChangeSpec := { name := "symDecodes", fn := fun _ => fun
  | [d1, d2, d3] => { results := [.lit (.bool true)], args := [d1, d2, d3] }
  | _ => none }
def symDecodesRow : OpenClaim := { program := "ytiaaicmkpjlplaa", sum := "20f2ca15ab11cfe2d415d22c22f79126491a1bc483aebd49e62d657a66308b2d", func := "dragnet/dragnetlaw06.SymDecodes", spec := "symDecodes", apart := false }
def SymDecodesSaid : Prop := symDecodesRow.holds Try.pinned (OpenSpec.ofChange symDecodesSpec)

/-- ITS FALSE NEIGHBOUR: 'it returns false'. Refute it at one input. -/
def symDecodesWrong : ChangeSpec := { name := "symDecodes", fn := fun _ => fun
  | [d1, d2, d3] => { results := [.lit (.bool false)], args := [d1, d2, d3] }
  | _ => none }
def SymDecodesWrongFalsely : Prop := symDecodesRow.holds Try.pinned (OpenSpec.ofChange symDecodesWrong)

/-- 'dragnetlaw09.RowsetJoins': WHATEVER THE INPUT: true; the input reads as it did. -/
def rowsetJoinsSpec : ChangeSpec := { name := "rowsetJoins", fn := fun _ => fun
  | [d1, d2] => { results := [.lit (.bool true)], args := [d1, d2] }
  | _ => none }
def rowsetJoinsRow : OpenClaim := { program := "ytiaaicmkpjlplaa", sum := "20f2ca15ab11cfe2d415d22c22f79126491a1bc483aebd49e62d657a66308b2d", func := "dragnet/dragnetlaw09.RowsetJoins", spec := "rowsetJoins", unfollowed := true, recurses := true, apart := false }
def RowsetJoinsSaid : Prop := rowsetJoinsRow.holds Try.pinned (OpenSpec.ofChange rowsetJoinsSpec)

/-- ITS FALSE NEIGHBOUR: 'it returns false'. Refute it at one input. -/
def rowsetJoinsWrong : ChangeSpec := { name := "rowsetJoins", fn := fun _ => fun
  | [d1, d2] => { results := [.lit (.bool false)], args := [d1, d2] }
  | _ => none }
def RowsetJoinsWrongFalsely : Prop := rowsetJoinsRow.holds Try.pinned (OpenSpec.ofChange rowsetJoinsWrong)

/-- 'dragnetlaw09.RowsetSets': WHATEVER THE INPUT: true; the input reads as it did. -/
def rowsetSetsSpec : ChangeSpec := { name := "rowsetSets", fn := fun _ => fun
  | [d1, d2, d3] => { results := [.lit (.bool true)], args := [d1, d2, d3] }
  | _ => none }
def rowsetSetsRow : OpenClaim := { program := "ytiaaicmkpjlplaa", sum := "20f2ca15ab11cfe2d415d22c22f79126491a1bc483aebd49e62d657a66308b2d", func := "dragnet/dragnetlaw09.RowsetSets", spec := "rowsetSets", unfollowed := true, recurses := true, apart := false }
def RowsetSetsSaid : Prop := rowsetSetsRow.holds Try.pinned (OpenSpec.ofChange rowsetSetsSpec)

/-- ITS FALSE NEIGHBOUR: 'it returns false'. Refute it at one input. -/
def rowsetSetsWrong : ChangeSpec := { name := "rowsetSets", fn := fun _ => fun
  | [d1, d2, d3] => { results := [.lit (.bool false)], args := [d1, d2, d3] }
  | _ => none }
def RowsetSetsWrongFalsely : Prop := rowsetSetsRow.holds Try.pinned (OpenSpec.ofChange rowsetSetsWrong)

/-- 'dragnetlaw09.RowsetMakes': WHATEVER THE INPUT: true; the input reads as it did. -/
def rowsetMakesSpec : ChangeSpec := { name := "rowsetMakes", fn := fun _ => fun
  | [d1, d2] => { results := [.lit (.bool true)], args := [d1, d2] }
  | _ => none }
def rowsetMakesRow : OpenClaim := { program := "ytiaaicmkpjlplaa", sum := "20f2ca15ab11cfe2d415d22c22f79126491a1bc483aebd49e62d657a66308b2d", func := "dragnet/dragnetlaw09.RowsetMakes", spec := "rowsetMakes", apart := false }
def RowsetMakesSaid : Prop := rowsetMakesRow.holds Try.pinned (OpenSpec.ofChange rowsetMakesSpec)

/-- ITS FALSE NEIGHBOUR: 'it returns false'. Refute it at one input. -/
def rowsetMakesWrong : ChangeSpec := { name := "rowsetMakes", fn := fun _ => fun
  | [d1, d2] => { results := [.lit (.bool false)], args := [d1, d2] }
  | _ => none }
def RowsetMakesWrongFalsely : Prop := rowsetMakesRow.holds Try.pinned (OpenSpec.ofChange rowsetMakesWrong)

/-- 'dragnetlaw06.SymTables': WHATEVER THE INPUT: true; the input reads as it did. -/
def symTablesSpec : ChangeSpec := { name := "symTables", fn := fun _ => fun
  | [d1, d2] => { results := [.lit (.bool true)], args := [d1, d2] }
  | _ => none }
def symTablesRow : OpenClaim := { program := "ytiaaicmkpjlplaa", sum := "20f2ca15ab11cfe2d415d22c22f79126491a1bc483aebd49e62d657a66308b2d", func := "dragnet/dragnetlaw06.SymTables", spec := "symTables", apart := false }
def SymTablesSaid : Prop := symTablesRow.holds Try.pinned (OpenSpec.ofChange symTablesSpec)

/-- ITS FALSE NEIGHBOUR: 'it returns false'. Refute it at one input. -/
def symTablesWrong : ChangeSpec := { name := "symTables", fn := fun _ => fun
  | [d1, d2] => { results := [.lit (.bool false)], args := [d1, d2] }
  | _ => none }
def SymTablesWrongFalsely : Prop := symTablesRow.holds Try.pinned (OpenSpec.ofChange symTablesWrong)

/-- 'dragnetlaw06.SymBack': WHATEVER THE INPUT: true; the input reads as it did. -/
def symBackSpec : ChangeSpec := { name := "symBack", fn := fun _ => fun
  | [d1, d2, d3] => { results := [.lit (.bool true)], args := [d1, d2, d3] }
  | _ => none }
def symBackRow : OpenClaim := { program := "ytiaaicmkpjlplaa", sum := "20f2ca15ab11cfe2d415d22c22f79126491a1bc483aebd49e62d657a66308b2d", func := "dragnet/dragnetlaw06.SymBack", spec := "symBack", apart := false }
def SymBackSaid : Prop := symBackRow.holds Try.pinned (OpenSpec.ofChange symBackSpec)

/-- ITS FALSE NEIGHBOUR: 'it returns false'. Refute it at one input. -/
def symBackWrong : ChangeSpec := { name := "symBack", fn := fun _ => fun
  | [d1, d2, d3] => { results := [.lit (.bool false)], args := [d1, d2, d3] }
  | _ => none }
def SymBackWrongFalsely : Prop := symBackRow.holds Try.pinned (OpenSpec.ofChange symBackWrong)

/-- 'dragnetlaw06.SymTrains': WHATEVER THE INPUT: true; the input reads as it did. -/
def symTrainsSpec : ChangeSpec := { name := "symTrains", fn := fun _ => fun
  | [d] => { results := [.lit (.bool true)], args := [d] }
  | _ => none }
def symTrainsRow : OpenClaim := { program := "ytiaaicmkpjlplaa", sum := "20f2ca15ab11cfe2d415d22c22f79126491a1bc483aebd49e62d657a66308b2d", func := "dragnet/dragnetlaw06.SymTrains", spec := "symTrains", inPlace := ["internal/bytealg.abigen_runtime_cmpstring"], unfollowed := true, recurses := true, apart := false }
def SymTrainsSaid : Prop := symTrainsRow.holds Try.pinned (OpenSpec.ofChange symTrainsSpec)

/-- ITS FALSE NEIGHBOUR: 'it returns false'. Refute it at one input. -/
def symTrainsWrong : ChangeSpec := { name := "symTrains", fn := fun _ => fun
  | [d] => { results := [.lit (.bool false)], args := [d] }
  | _ => none }
def SymTrainsWrongFalsely : Prop := symTrainsRow.holds Try.pinned (OpenSpec.ofChange symTrainsWrong)

/-- 'dragnetlaw06.SymShort': WHATEVER THE INPUT: true; the input reads as it did. -/
def symShortSpec : ChangeSpec := { name := "symShort", fn := fun _ => fun
  | [d1, d2] => { results := [.lit (.bool true)], args := [d1, d2] }
  | _ => none }
def symShortRow : OpenClaim := { program := "ytiaaicmkpjlplaa", sum := "20f2ca15ab11cfe2d415d22c22f79126491a1bc483aebd49e62d657a66308b2d", func := "dragnet/dragnetlaw06.SymShort", spec := "symShort", inPlace := ["internal/bytealg.abigen_runtime_cmpstring"], unfollowed := true, recurses := true, apart := false }
def SymShortSaid : Prop := symShortRow.holds Try.pinned (OpenSpec.ofChange symShortSpec)

/-- ITS FALSE NEIGHBOUR: 'it returns false'. Refute it at one input. -/
def symShortWrong : ChangeSpec := { name := "symShort", fn := fun _ => fun
  | [d1, d2] => { results := [.lit (.bool false)], args := [d1, d2] }
  | _ => none }
def SymShortWrongFalsely : Prop := symShortRow.holds Try.pinned (OpenSpec.ofChange symShortWrong)

/- THE SECOND FORM. 'bulk': how many values and letters a reading holds, each counted each time it is reached (what is shared counts as often as it is met; a slice's spare places count too). A statement '..UptoSaid' is the law's where the arguments, and the package variables that the reading takes, are together of bulk at most 1048576: NARROWER than '..Said'. Prove '..Said' where nothing that the law and all that it calls make is longer than what came in: it says more and counts as full. Else prove '..UptoSaid'. A law counts once. -/
mutual
def uptoBulk {H : Type} : DataW H → Nat
  | .lit (.string bytes) => bytes.length + 1
  | .lit _ => 1
  | .nil => 1
  | .ptr d => uptoBulk d + 1
  | .slice elems spare => uptoBulkAll elems + uptoBulkAll spare + 1
  | .agg parts => uptoBulkAll parts + 1
  | .iface _ d => uptoBulk d + 1
  | .map entries => uptoBulkEntries entries + 1
  | .held _ => 1
def uptoBulkAll {H : Type} : List (DataW H) → Nat
  | [] => 0
  | d :: r => uptoBulk d + uptoBulkAll r
def uptoBulkEntries {H : Type} : List (Lit × DataW H) → Nat
  | [] => 0
  | x :: r => uptoBulkEntry x + uptoBulkEntries r
def uptoBulkEntry {H : Type} : Lit × DataW H → Nat
  | (.string bytes, d) => bytes.length + uptoBulk d + 1
  | (_, d) => uptoBulk d + 1
 end
def uptoSmall : (H : Type) → List (DataW H) → Bool := fun _ ds => decide (uptoBulkAll ds ≤ 1048576)
def OpenSpec.upto (s : _root_.Go.ChangeSpec) : _root_.Go.OpenSpec := { _root_.Go.OpenSpec.ofChange s with cond := some uptoSmall }

/-- 'dragnetlaw06.SymEncodes', WHERE WHAT IT READS IS OF BULK AT MOST 1048576: true; the input reads as it did. -/
def symEncodesUptoRow : OpenClaim := { program := "ytiaaicmkpjlplaa", sum := "20f2ca15ab11cfe2d415d22c22f79126491a1bc483aebd49e62d657a66308b2d", func := "dragnet/dragnetlaw06.SymEncodes", spec := "symEncodes", apart := false, narrowed := true }
def SymEncodesUptoSaid : Prop := symEncodesUptoRow.holds Try.pinned (OpenSpec.upto symEncodesSpec)

/-- 'dragnetlaw06.SymDecodes', WHERE WHAT IT READS IS OF BULK AT MOST 1048576: true; the input reads as it did. -/
def symDecodesUptoRow : OpenClaim := { program := "ytiaaicmkpjlplaa", sum := "20f2ca15ab11cfe2d415d22c22f79126491a1bc483aebd49e62d657a66308b2d", func := "dragnet/dragnetlaw06.SymDecodes", spec := "symDecodes", apart := false, narrowed := true }
def SymDecodesUptoSaid : Prop := symDecodesUptoRow.holds Try.pinned (OpenSpec.upto symDecodesSpec)

/-- 'dragnetlaw09.RowsetJoins', WHERE WHAT IT READS IS OF BULK AT MOST 1048576: true; the input reads as it did. -/
def rowsetJoinsUptoRow : OpenClaim := { program := "ytiaaicmkpjlplaa", sum := "20f2ca15ab11cfe2d415d22c22f79126491a1bc483aebd49e62d657a66308b2d", func := "dragnet/dragnetlaw09.RowsetJoins", spec := "rowsetJoins", unfollowed := true, recurses := true, apart := false, narrowed := true }
def RowsetJoinsUptoSaid : Prop := rowsetJoinsUptoRow.holds Try.pinned (OpenSpec.upto rowsetJoinsSpec)

/-- 'dragnetlaw09.RowsetSets', WHERE WHAT IT READS IS OF BULK AT MOST 1048576: true; the input reads as it did. -/
def rowsetSetsUptoRow : OpenClaim := { program := "ytiaaicmkpjlplaa", sum := "20f2ca15ab11cfe2d415d22c22f79126491a1bc483aebd49e62d657a66308b2d", func := "dragnet/dragnetlaw09.RowsetSets", spec := "rowsetSets", unfollowed := true, recurses := true, apart := false, narrowed := true }
def RowsetSetsUptoSaid : Prop := rowsetSetsUptoRow.holds Try.pinned (OpenSpec.upto rowsetSetsSpec)

/-- 'dragnetlaw09.RowsetMakes', WHERE WHAT IT READS IS OF BULK AT MOST 1048576: true; the input reads as it did. -/
def rowsetMakesUptoRow : OpenClaim := { program := "ytiaaicmkpjlplaa", sum := "20f2ca15ab11cfe2d415d22c22f79126491a1bc483aebd49e62d657a66308b2d", func := "dragnet/dragnetlaw09.RowsetMakes", spec := "rowsetMakes", apart := false, narrowed := true }
def RowsetMakesUptoSaid : Prop := rowsetMakesUptoRow.holds Try.pinned (OpenSpec.upto rowsetMakesSpec)

/-- 'dragnetlaw06.SymTables', WHERE WHAT IT READS IS OF BULK AT MOST 1048576: true; the input reads as it did. -/
def symTablesUptoRow : OpenClaim := { program := "ytiaaicmkpjlplaa", sum := "20f2ca15ab11cfe2d415d22c22f79126491a1bc483aebd49e62d657a66308b2d", func := "dragnet/dragnetlaw06.SymTables", spec := "symTables", apart := false, narrowed := true }
def SymTablesUptoSaid : Prop := symTablesUptoRow.holds Try.pinned (OpenSpec.upto symTablesSpec)

/-- 'dragnetlaw06.SymBack', WHERE WHAT IT READS IS OF BULK AT MOST 1048576: true; the input reads as it did. -/
def symBackUptoRow : OpenClaim := { program := "ytiaaicmkpjlplaa", sum := "20f2ca15ab11cfe2d415d22c22f79126491a1bc483aebd49e62d657a66308b2d", func := "dragnet/dragnetlaw06.SymBack", spec := "symBack", apart := false, narrowed := true }
def SymBackUptoSaid : Prop := symBackUptoRow.holds Try.pinned (OpenSpec.upto symBackSpec)

/-- 'dragnetlaw06.SymTrains', WHERE WHAT IT READS IS OF BULK AT MOST 1048576: true; the input reads as it did. -/
def symTrainsUptoRow : OpenClaim := { program := "ytiaaicmkpjlplaa", sum := "20f2ca15ab11cfe2d415d22c22f79126491a1bc483aebd49e62d657a66308b2d", func := "dragnet/dragnetlaw06.SymTrains", spec := "symTrains", inPlace := ["internal/bytealg.abigen_runtime_cmpstring"], unfollowed := true, recurses := true, apart := false, narrowed := true }
def SymTrainsUptoSaid : Prop := symTrainsUptoRow.holds Try.pinned (OpenSpec.upto symTrainsSpec)

/-- 'dragnetlaw06.SymShort', WHERE WHAT IT READS IS OF BULK AT MOST 1048576: true; the input reads as it did. -/
def symShortUptoRow : OpenClaim := { program := "ytiaaicmkpjlplaa", sum := "20f2ca15ab11cfe2d415d22c22f79126491a1bc483aebd49e62d657a66308b2d", func := "dragnet/dragnetlaw06.SymShort", spec := "symShort", inPlace := ["internal/bytealg.abigen_runtime_cmpstring"], unfollowed := true, recurses := true, apart := false, narrowed := true }
def SymShortUptoSaid : Prop := symShortUptoRow.holds Try.pinned (OpenSpec.upto symShortSpec)

end Rows
end Go.Proofs.Ytiaaicmkpjlplaa
