/-
  No cell of these rows narrows 'for every input' (looked for: loops, veiled, ifaces, maps, wideKeys, modest, calm, conditions, laid).
  DERIVED. THE GIVEN ROWS OF THIS SEAT. 10 by the template 'for every input the law returns true; each argument reads behind the call as it read before'; 0 by the template 'total and deterministic' (their statements: YtnmidkjmflnolaaTotals.lean).
  GIVEN WITH THE SEED: the statements are not yours to turn. If you find one false, say at which input.
  Laid BY PROGRAM, IN A SANDBOX (cutbox-rows.mjs): the forced cells as the released guide's own fill.sh prints them over the translation 97a25529a8b1e48c… (all of the seat's roots in one cut). By AI agents, Wed Nov 11 2026. No macro, syntax, notation, axiom, sorry.
-/
import Derived.Test.YtnmidkjmflnolaaChecked
import GoSem.Claim
import GoSem.ClaimJoined
import GoSem.ClaimMapViews
import Derived.JoinedTies
import Derived.KernelRfl
namespace Go.Proofs.Ytnmidkjmflnolaa
/- THE CELL 'sum', in the pinned program and in every row, IS THE sha256 OF THE DUMP (.gsa) THAT YtnmidkjmflnolaaProg.lean LOADS. Nothing in Lean hashes anything: it is a label: what it is worth is what the hold of that sum in a sandbox is worth. -/
noncomputable def Try.pinned : Pinned := { name := "ytnmidkjmflnolaa", sum := "97a25529a8b1e48c57d652dc2e29f06194b8f4a4eedcd9311387627078f45123", checked := Try.checked }
namespace Rows
def none {H : Type} : Left H := { results := [], args := [] }

/-- 'dragnetlaw06.SymEncodes': WHATEVER THE INPUT: true; the input reads as it did. -/
def symEncodesSpec : ChangeSpec := { name := "symEncodes", fn := fun _ => fun
  | [d1, d2] => { results := [.lit (.bool true)], args := [d1, d2] }
  | _ => none }
def symEncodesRow : OpenClaim := { program := "ytnmidkjmflnolaa", sum := "97a25529a8b1e48c57d652dc2e29f06194b8f4a4eedcd9311387627078f45123", func := "dragnet/dragnetlaw06.SymEncodes", spec := "symEncodes", apart := false }
def SymEncodesSaid : Prop := symEncodesRow.holds Try.pinned (OpenSpec.ofChange symEncodesSpec)

/-- ITS FALSE NEIGHBOUR: 'it returns false'. Refute it at one input. -/
def symEncodesWrong : ChangeSpec := { name := "symEncodes", fn := fun _ => fun
  | [d1, d2] => { results := [.lit (.bool false)], args := [d1, d2] }
  | _ => none }
def SymEncodesWrongFalsely : Prop := symEncodesRow.holds Try.pinned (OpenSpec.ofChange symEncodesWrong)

/-- 'dragnetlaw06.SymDecodes': WHATEVER THE INPUT: true; the input reads as it did. -/
def symDecodesSpec : ChangeSpec := { name := "symDecodes", fn := fun _ => fun
  | [d1, d2, d3] => { results := [.lit (.bool true)], args := [d1, d2, d3] }
  | _ => none }
def symDecodesRow : OpenClaim := { program := "ytnmidkjmflnolaa", sum := "97a25529a8b1e48c57d652dc2e29f06194b8f4a4eedcd9311387627078f45123", func := "dragnet/dragnetlaw06.SymDecodes", spec := "symDecodes", apart := false }
def SymDecodesSaid : Prop := symDecodesRow.holds Try.pinned (OpenSpec.ofChange symDecodesSpec)

/-- ITS FALSE NEIGHBOUR: 'it returns false'. Refute it at one input. -/
def symDecodesWrong : ChangeSpec := { name := "symDecodes", fn := fun _ => fun
  | [d1, d2, d3] => { results := [.lit (.bool false)], args := [d1, d2, d3] }
  | _ => none }
def SymDecodesWrongFalsely : Prop := symDecodesRow.holds Try.pinned (OpenSpec.ofChange symDecodesWrong)

/-- 'dragnetlaw06.SymTables': WHATEVER THE INPUT: true; the input reads as it did. -/
def symTablesSpec : ChangeSpec := { name := "symTables", fn := fun _ => fun
  | [d1, d2] => { results := [.lit (.bool true)], args := [d1, d2] }
  | _ => none }
def symTablesRow : OpenClaim := { program := "ytnmidkjmflnolaa", sum := "97a25529a8b1e48c57d652dc2e29f06194b8f4a4eedcd9311387627078f45123", func := "dragnet/dragnetlaw06.SymTables", spec := "symTables", apart := false }
def SymTablesSaid : Prop := symTablesRow.holds Try.pinned (OpenSpec.ofChange symTablesSpec)

/-- ITS FALSE NEIGHBOUR: 'it returns false'. Refute it at one input. -/
def symTablesWrong : ChangeSpec := { name := "symTables", fn := fun _ => fun
  | [d1, d2] => { results := [.lit (.bool false)], args := [d1, d2] }
  | _ => none }
def SymTablesWrongFalsely : Prop := symTablesRow.holds Try.pinned (OpenSpec.ofChange symTablesWrong)

/-- 'dragnetlaw06.SymBack': WHATEVER THE INPUT: true; the input reads as it did. -/
def symBackSpec : ChangeSpec := { name := "symBack", fn := fun _ => fun
  | [d1, d2, d3] => { results := [.lit (.bool true)], args := [d1, d2, d3] }
  | _ => none }
def symBackRow : OpenClaim := { program := "ytnmidkjmflnolaa", sum := "97a25529a8b1e48c57d652dc2e29f06194b8f4a4eedcd9311387627078f45123", func := "dragnet/dragnetlaw06.SymBack", spec := "symBack", apart := false }
def SymBackSaid : Prop := symBackRow.holds Try.pinned (OpenSpec.ofChange symBackSpec)

/-- ITS FALSE NEIGHBOUR: 'it returns false'. Refute it at one input. -/
def symBackWrong : ChangeSpec := { name := "symBack", fn := fun _ => fun
  | [d1, d2, d3] => { results := [.lit (.bool false)], args := [d1, d2, d3] }
  | _ => none }
def SymBackWrongFalsely : Prop := symBackRow.holds Try.pinned (OpenSpec.ofChange symBackWrong)

/-- 'dragnetlaw06.SymTrains': WHATEVER THE INPUT: true; the input reads as it did. -/
def symTrainsSpec : ChangeSpec := { name := "symTrains", fn := fun _ => fun
  | [d] => { results := [.lit (.bool true)], args := [d] }
  | _ => none }
def symTrainsRow : OpenClaim := { program := "ytnmidkjmflnolaa", sum := "97a25529a8b1e48c57d652dc2e29f06194b8f4a4eedcd9311387627078f45123", func := "dragnet/dragnetlaw06.SymTrains", spec := "symTrains", inPlace := ["internal/bytealg.abigen_runtime_cmpstring"], unfollowed := true, recurses := true, apart := false }
def SymTrainsSaid : Prop := symTrainsRow.holds Try.pinned (OpenSpec.ofChange symTrainsSpec)

/-- ITS FALSE NEIGHBOUR: 'it returns false'. Refute it at one input. -/
def symTrainsWrong : ChangeSpec := { name := "symTrains", fn := fun _ => fun
  | [d] => { results := [.lit (.bool false)], args := [d] }
  | _ => none }
def SymTrainsWrongFalsely : Prop := symTrainsRow.holds Try.pinned (OpenSpec.ofChange symTrainsWrong)

/-- 'dragnetlaw06.SymShort': WHATEVER THE INPUT: true; the input reads as it did. -/
def symShortSpec : ChangeSpec := { name := "symShort", fn := fun _ => fun
  | [d1, d2] => { results := [.lit (.bool true)], args := [d1, d2] }
  | _ => none }
def symShortRow : OpenClaim := { program := "ytnmidkjmflnolaa", sum := "97a25529a8b1e48c57d652dc2e29f06194b8f4a4eedcd9311387627078f45123", func := "dragnet/dragnetlaw06.SymShort", spec := "symShort", inPlace := ["internal/bytealg.abigen_runtime_cmpstring"], unfollowed := true, recurses := true, apart := false }
def SymShortSaid : Prop := symShortRow.holds Try.pinned (OpenSpec.ofChange symShortSpec)

/-- ITS FALSE NEIGHBOUR: 'it returns false'. Refute it at one input. -/
def symShortWrong : ChangeSpec := { name := "symShort", fn := fun _ => fun
  | [d1, d2] => { results := [.lit (.bool false)], args := [d1, d2] }
  | _ => none }
def SymShortWrongFalsely : Prop := symShortRow.holds Try.pinned (OpenSpec.ofChange symShortWrong)

/-- 'dragnetlaw11.TextsPuts': WHATEVER THE INPUT: true; the input reads as it did. -/
def textsPutsSpec : ChangeSpec := { name := "textsPuts", fn := fun _ => fun
  | [d1, d2] => { results := [.lit (.bool true)], args := [d1, d2] }
  | _ => none }
def textsPutsRow : OpenClaim := { program := "ytnmidkjmflnolaa", sum := "97a25529a8b1e48c57d652dc2e29f06194b8f4a4eedcd9311387627078f45123", func := "dragnet/dragnetlaw11.TextsPuts", spec := "textsPuts", inPlace := ["internal/bytealg.MakeNoZero", "internal/bytealg.abigen_runtime_cmpstring"], unfollowed := true, recurses := true, apart := false }
def TextsPutsSaid : Prop := textsPutsRow.holds Try.pinned (OpenSpec.ofChange textsPutsSpec)

/-- ITS FALSE NEIGHBOUR: 'it returns false'. Refute it at one input. -/
def textsPutsWrong : ChangeSpec := { name := "textsPuts", fn := fun _ => fun
  | [d1, d2] => { results := [.lit (.bool false)], args := [d1, d2] }
  | _ => none }
def TextsPutsWrongFalsely : Prop := textsPutsRow.holds Try.pinned (OpenSpec.ofChange textsPutsWrong)

/-- 'dragnetlaw11.TextsNeverLong': WHATEVER THE INPUT: true; the input reads as it did. -/
def textsNeverLongSpec : ChangeSpec := { name := "textsNeverLong", fn := fun _ => fun
  | [d1, d2] => { results := [.lit (.bool true)], args := [d1, d2] }
  | _ => none }
def textsNeverLongRow : OpenClaim := { program := "ytnmidkjmflnolaa", sum := "97a25529a8b1e48c57d652dc2e29f06194b8f4a4eedcd9311387627078f45123", func := "dragnet/dragnetlaw11.TextsNeverLong", spec := "textsNeverLong", inPlace := ["internal/bytealg.MakeNoZero", "internal/bytealg.abigen_runtime_cmpstring"], unfollowed := true, recurses := true, apart := false }
def TextsNeverLongSaid : Prop := textsNeverLongRow.holds Try.pinned (OpenSpec.ofChange textsNeverLongSpec)

/-- ITS FALSE NEIGHBOUR: 'it returns false'. Refute it at one input. -/
def textsNeverLongWrong : ChangeSpec := { name := "textsNeverLong", fn := fun _ => fun
  | [d1, d2] => { results := [.lit (.bool false)], args := [d1, d2] }
  | _ => none }
def TextsNeverLongWrongFalsely : Prop := textsNeverLongRow.holds Try.pinned (OpenSpec.ofChange textsNeverLongWrong)

/-- 'dragnetlaw11.TextsTakes': WHATEVER THE INPUT: true; the input reads as it did. -/
def textsTakesSpec : ChangeSpec := { name := "textsTakes", fn := fun _ => fun
  | [d] => { results := [.lit (.bool true)], args := [d] }
  | _ => none }
def textsTakesRow : OpenClaim := { program := "ytnmidkjmflnolaa", sum := "97a25529a8b1e48c57d652dc2e29f06194b8f4a4eedcd9311387627078f45123", func := "dragnet/dragnetlaw11.TextsTakes", spec := "textsTakes", inPlace := ["internal/bytealg.MakeNoZero", "internal/bytealg.abigen_runtime_cmpstring"], unfollowed := true, recurses := true, apart := false }
def TextsTakesSaid : Prop := textsTakesRow.holds Try.pinned (OpenSpec.ofChange textsTakesSpec)

/-- ITS FALSE NEIGHBOUR: 'it returns false'. Refute it at one input. -/
def textsTakesWrong : ChangeSpec := { name := "textsTakes", fn := fun _ => fun
  | [d] => { results := [.lit (.bool false)], args := [d] }
  | _ => none }
def TextsTakesWrongFalsely : Prop := textsTakesRow.holds Try.pinned (OpenSpec.ofChange textsTakesWrong)

/-- 'dragnetlaw11.TextsBack': WHATEVER THE INPUT: true; the input reads as it did. -/
def textsBackSpec : ChangeSpec := { name := "textsBack", fn := fun _ => fun
  | [d1, d2] => { results := [.lit (.bool true)], args := [d1, d2] }
  | _ => none }
def textsBackRow : OpenClaim := { program := "ytnmidkjmflnolaa", sum := "97a25529a8b1e48c57d652dc2e29f06194b8f4a4eedcd9311387627078f45123", func := "dragnet/dragnetlaw11.TextsBack", spec := "textsBack", inPlace := ["internal/bytealg.MakeNoZero", "internal/bytealg.abigen_runtime_cmpstring"], unfollowed := true, recurses := true, apart := false }
def TextsBackSaid : Prop := textsBackRow.holds Try.pinned (OpenSpec.ofChange textsBackSpec)

/-- ITS FALSE NEIGHBOUR: 'it returns false'. Refute it at one input. -/
def textsBackWrong : ChangeSpec := { name := "textsBack", fn := fun _ => fun
  | [d1, d2] => { results := [.lit (.bool false)], args := [d1, d2] }
  | _ => none }
def TextsBackWrongFalsely : Prop := textsBackRow.holds Try.pinned (OpenSpec.ofChange textsBackWrong)

/- THE SECOND FORM. 'bulk': how many values and letters a reading holds, each counted each time it is reached (what is shared counts as often as it is met; a slice's spare places count too). A statement '..UptoSaid' is the law's where the arguments, and the package variables that the reading takes, are together of bulk at most 1048576: NARROWER than '..Said'. Prove '..Said' where nothing that the law and all that it calls make is longer than what came in: it says more and counts as full. Else prove '..UptoSaid'. A law counts once. -/
mutual
def uptoBulk {H : Type} : DataW H → Nat
  | .lit (.string bytes) => bytes.length + 1
  | .lit _ => 1
  | .nil => 1
  | .ptr d => uptoBulk d + 1
  | .slice elems spare => uptoBulkAll elems + uptoBulkAll spare + 1
  | .agg parts => uptoBulkAll parts + 1
  | .iface _ d => uptoBulk d + 1
  | .map entries => uptoBulkEntries entries + 1
  | .held _ => 1
def uptoBulkAll {H : Type} : List (DataW H) → Nat
  | [] => 0
  | d :: r => uptoBulk d + uptoBulkAll r
def uptoBulkEntries {H : Type} : List (Lit × DataW H) → Nat
  | [] => 0
  | x :: r => uptoBulkEntry x + uptoBulkEntries r
def uptoBulkEntry {H : Type} : Lit × DataW H → Nat
  | (.string bytes, d) => bytes.length + uptoBulk d + 1
  | (_, d) => uptoBulk d + 1
 end
def uptoSmall : (H : Type) → List (DataW H) → Bool := fun _ ds => decide (uptoBulkAll ds ≤ 1048576)
def OpenSpec.upto (s : _root_.Go.ChangeSpec) : _root_.Go.OpenSpec := { _root_.Go.OpenSpec.ofChange s with cond := some uptoSmall }

/-- 'dragnetlaw06.SymEncodes', WHERE WHAT IT READS IS OF BULK AT MOST 1048576: true; the input reads as it did. -/
def symEncodesUptoRow : OpenClaim := { program := "ytnmidkjmflnolaa", sum := "97a25529a8b1e48c57d652dc2e29f06194b8f4a4eedcd9311387627078f45123", func := "dragnet/dragnetlaw06.SymEncodes", spec := "symEncodes", apart := false, narrowed := true }
def SymEncodesUptoSaid : Prop := symEncodesUptoRow.holds Try.pinned (OpenSpec.upto symEncodesSpec)

/-- 'dragnetlaw06.SymDecodes', WHERE WHAT IT READS IS OF BULK AT MOST 1048576: true; the input reads as it did. -/
def symDecodesUptoRow : OpenClaim := { program := "ytnmidkjmflnolaa", sum := "97a25529a8b1e48c57d652dc2e29f06194b8f4a4eedcd9311387627078f45123", func := "dragnet/dragnetlaw06.SymDecodes", spec := "symDecodes", apart := false, narrowed := true }
def SymDecodesUptoSaid : Prop := symDecodesUptoRow.holds Try.pinned (OpenSpec.upto symDecodesSpec)

/-- 'dragnetlaw06.SymTables', WHERE WHAT IT READS IS OF BULK AT MOST 1048576: true; the input reads as it did. -/
def symTablesUptoRow : OpenClaim := { program := "ytnmidkjmflnolaa", sum := "97a25529a8b1e48c57d652dc2e29f06194b8f4a4eedcd9311387627078f45123", func := "dragnet/dragnetlaw06.SymTables", spec := "symTables", apart := false, narrowed := true }
def SymTablesUptoSaid : Prop := symTablesUptoRow.holds Try.pinned (OpenSpec.upto symTablesSpec)

/-- 'dragnetlaw06.SymBack', WHERE WHAT IT READS IS OF BULK AT MOST 1048576: true; the input reads as it did. -/
def symBackUptoRow : OpenClaim := { program := "ytnmidkjmflnolaa", sum := "97a25529a8b1e48c57d652dc2e29f06194b8f4a4eedcd9311387627078f45123", func := "dragnet/dragnetlaw06.SymBack", spec := "symBack", apart := false, narrowed := true }
def SymBackUptoSaid : Prop := symBackUptoRow.holds Try.pinned (OpenSpec.upto symBackSpec)

/-- 'dragnetlaw06.SymTrains', WHERE WHAT IT READS IS OF BULK AT MOST 1048576: true; the input reads as it did. -/
def symTrainsUptoRow : OpenClaim := { program := "ytnmidkjmflnolaa", sum := "97a25529a8b1e48c57d652dc2e29f06194b8f4a4eedcd9311387627078f45123", func := "dragnet/dragnetlaw06.SymTrains", spec := "symTrains", inPlace := ["internal/bytealg.abigen_runtime_cmpstring"], unfollowed := true, recurses := true, apart := false, narrowed := true }
def SymTrainsUptoSaid : Prop := symTrainsUptoRow.holds Try.pinned (OpenSpec.upto symTrainsSpec)

/-- 'dragnetlaw06.SymShort', WHERE WHAT IT READS IS OF BULK AT MOST 1048576: true; the input reads as it did. -/
def symShortUptoRow : OpenClaim := { program := "ytnmidkjmflnolaa", sum := "97a25529a8b1e48c57d652dc2e29f06194b8f4a4eedcd9311387627078f45123", func := "dragnet/dragnetlaw06.SymShort", spec := "symShort", inPlace := ["internal/bytealg.abigen_runtime_cmpstring"], unfollowed := true, recurses := true, apart := false, narrowed := true }
def SymShortUptoSaid : Prop := symShortUptoRow.holds Try.pinned (OpenSpec.upto symShortSpec)

/-- 'dragnetlaw11.TextsPuts', WHERE WHAT IT READS IS OF BULK AT MOST 1048576: true; the input reads as it did. -/
def textsPutsUptoRow : OpenClaim := { program := "ytnmidkjmflnolaa", sum := "97a25529a8b1e48c57d652dc2e29f06194b8f4a4eedcd9311387627078f45123", func := "dragnet/dragnetlaw11.TextsPuts", spec := "textsPuts", inPlace := ["internal/bytealg.MakeNoZero", "internal/bytealg.abigen_runtime_cmpstring"], unfollowed := true, recurses := true, apart := false, narrowed := true }
def TextsPutsUptoSaid : Prop := textsPutsUptoRow.holds Try.pinned (OpenSpec.upto textsPutsSpec)

/-- 'dragnetlaw11.TextsNeverLong', WHERE WHAT IT READS IS OF BULK AT MOST 1048576: true; the input reads as it did. -/
def textsNeverLongUptoRow : OpenClaim := { program := "ytnmidkjmflnolaa", sum := "97a25529a8b1e48c57d652dc2e29f06194b8f4a4eedcd9311387627078f45123", func := "dragnet/dragnetlaw11.TextsNeverLong", spec := "textsNeverLong", inPlace := ["internal/bytealg.MakeNoZero", "internal/bytealg.abigen_runtime_cmpstring"], unfollowed := true, recurses := true, apart := false, narrowed := true }
def TextsNeverLongUptoSaid : Prop := textsNeverLongUptoRow.holds Try.pinned (OpenSpec.upto textsNeverLongSpec)

/-- 'dragnetlaw11.TextsTakes', WHERE WHAT IT READS IS OF BULK AT MOST 1048576: true; the input reads as it did. -/
def textsTakesUptoRow : OpenClaim := { program := "ytnmidkjmflnolaa", sum := "97a25529a8b1e48c57d652dc2e29f06194b8f4a4eedcd9311387627078f45123", func := "dragnet/dragnetlaw11.TextsTakes", spec := "textsTakes", inPlace := ["internal/bytealg.MakeNoZero", "internal/bytealg.abigen_runtime_cmpstring"], unfollowed := true, recurses := true, apart := false, narrowed := true }
def TextsTakesUptoSaid : Prop := textsTakesUptoRow.holds Try.pinned (OpenSpec.upto textsTakesSpec)

/-- 'dragnetlaw11.TextsBack', WHERE WHAT IT READS IS OF BULK AT MOST 1048576: true; the input reads as it did. -/
def textsBackUptoRow : OpenClaim := { program := "ytnmidkjmflnolaa", sum := "97a25529a8b1e48c57d652dc2e29f06194b8f4a4eedcd9311387627078f45123", func := "dragnet/dragnetlaw11.TextsBack", spec := "textsBack", inPlace := ["internal/bytealg.MakeNoZero", "internal/bytealg.abigen_runtime_cmpstring"], unfollowed := true, recurses := true, apart := false, narrowed := true }
def TextsBackUptoSaid : Prop := textsBackUptoRow.holds Try.pinned (OpenSpec.upto textsBackSpec)

end Rows
end Go.Proofs.Ytnmidkjmflnolaa
