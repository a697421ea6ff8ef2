/-
  DERIVED. GIVEN WITH THE SEED: THE CARDS: each row of YtdkgmiagjhcllaaDoorRows.lean that lists a variable, with what it lists TIED to the program's text (the seventh form; the later family's looks); each row that meets fmt, with fmt's text TOLD by the authors' own Lean function (tested against real Go, not proved from fmt's source: count such statements apart). THE CARD IS WHAT COUNTS. Prove the row's statement (the work); the ties are given (YtdkgmiagjhcllaaDoorTie.lean); close each card by the builder's one call (the guide's Derived/Test/ToyasCard.lean, 'card_holds'). Laid BY PROGRAM, IN A SANDBOX (cutbox-door.mjs). By AI agents, Wed Nov 11 2026. No macro, syntax, notation, axiom, sorry.
-/
import Derived.Test.YtdkgmiagjhcllaaDoorRows
import GoSem.ClaimSeven
namespace Go.Proofs.YtdkgmiagjhcllaaDoor
namespace Rows

/-- THE TIED CARD OF 'dragnetlaw08.FieldKeys'. -/
def fieldKeysCard : Claim7 := { stood := { row := fieldKeysRow, standIns := [], harness := (true, "d4a8c73fb5072b6f328eb33cfa095dc24e76c2c8f955c2265b0962c6d4169318"), looks := true }, kinds := [], alts := [], laidByText := true, laidKinds := [.data, .data, .data, .data, .sentinel, .sentinel, .pinned], laidTests := true, laidLooks := .later }
def FieldKeysCardSaid : Prop := Claim7.holds Tryd.pinned (.plain (OpenSpec.ofChange fieldKeysSpec)) fieldKeysCard

/-- THE TIED CARD OF 'dragnetlaw08.FieldParts'. -/
def fieldPartsCard : Claim7 := { stood := { row := fieldPartsRow, standIns := [], harness := (true, "d4a8c73fb5072b6f328eb33cfa095dc24e76c2c8f955c2265b0962c6d4169318"), looks := true }, kinds := [], alts := [], laidByText := true, laidKinds := [.data, .data, .data, .data, .sentinel, .sentinel, .pinned], laidTests := true, laidLooks := .later }
def FieldPartsCardSaid : Prop := Claim7.holds Tryd.pinned (.plain (OpenSpec.ofChange fieldPartsSpec)) fieldPartsCard

/-- THE TIED CARD OF 'dragnetlaw08.FieldNumbers'. -/
def fieldNumbersCard : Claim7 := { stood := { row := fieldNumbersRow, standIns := [], harness := (true, "d4a8c73fb5072b6f328eb33cfa095dc24e76c2c8f955c2265b0962c6d4169318"), looks := true }, kinds := [], alts := [], laidByText := true, laidKinds := [.data, .data, .data, .data, .sentinel, .sentinel, .pinned], laidTests := true, laidLooks := .later }
def FieldNumbersCardSaid : Prop := Claim7.holds Tryd.pinned (.plain (OpenSpec.ofChange fieldNumbersSpec)) fieldNumbersCard

/-- THE TIED CARD OF 'dragnetlaw08.FieldBack'. -/
def fieldBackCard : Claim7 := { stood := { row := fieldBackRow, standIns := [], harness := (true, "d4a8c73fb5072b6f328eb33cfa095dc24e76c2c8f955c2265b0962c6d4169318"), looks := true }, kinds := [], alts := [], laidByText := true, laidKinds := [.data, .data, .data, .data, .sentinel, .sentinel, .pinned], laidTests := true, laidLooks := .later }
def FieldBackCardSaid : Prop := Claim7.holds Tryd.pinned (.plain (OpenSpec.ofChange fieldBackSpec)) fieldBackCard

/-- THE TIED CARD OF 'dragnetlaw08.FieldReads'. -/
def fieldReadsCard : Claim7 := { stood := { row := fieldReadsRow, standIns := [], harness := (true, "d4a8c73fb5072b6f328eb33cfa095dc24e76c2c8f955c2265b0962c6d4169318"), looks := true }, kinds := [], alts := [], laidByText := true, laidKinds := [.data, .data, .data, .data, .sentinel, .sentinel, .pinned], laidTests := true, laidLooks := .later }
def FieldReadsCardSaid : Prop := Claim7.holds Tryd.pinned (.plain (OpenSpec.ofChange fieldReadsSpec)) fieldReadsCard

/-- THE TIED CARD OF 'dragnetlaw08.FieldOnce'. -/
def fieldOnceCard : Claim7 := { stood := { row := fieldOnceRow, standIns := [], harness := (true, "d4a8c73fb5072b6f328eb33cfa095dc24e76c2c8f955c2265b0962c6d4169318"), looks := true }, kinds := [], alts := [], laidByText := true, laidKinds := [.data, .data, .data, .data, .sentinel, .sentinel, .pinned], laidTests := true, laidLooks := .later }
def FieldOnceCardSaid : Prop := Claim7.holds Tryd.pinned (.plain (OpenSpec.ofChange fieldOnceSpec)) fieldOnceCard

/-- THE SECOND FORM's CARD OF 'dragnetlaw08.FieldKeys'. -/
def fieldKeysUptoCard : Claim7 := { stood := { row := fieldKeysUptoRow, standIns := [], harness := (true, "d4a8c73fb5072b6f328eb33cfa095dc24e76c2c8f955c2265b0962c6d4169318"), looks := true }, kinds := [], alts := [], laidByText := true, laidKinds := [.data, .data, .data, .data, .sentinel, .sentinel, .pinned], laidTests := true, laidLooks := .later }
def FieldKeysUptoCardSaid : Prop := Claim7.holds Tryd.pinned (.plain (OpenSpec.upto fieldKeysSpec)) fieldKeysUptoCard

/-- THE SECOND FORM's CARD OF 'dragnetlaw08.FieldParts'. -/
def fieldPartsUptoCard : Claim7 := { stood := { row := fieldPartsUptoRow, standIns := [], harness := (true, "d4a8c73fb5072b6f328eb33cfa095dc24e76c2c8f955c2265b0962c6d4169318"), looks := true }, kinds := [], alts := [], laidByText := true, laidKinds := [.data, .data, .data, .data, .sentinel, .sentinel, .pinned], laidTests := true, laidLooks := .later }
def FieldPartsUptoCardSaid : Prop := Claim7.holds Tryd.pinned (.plain (OpenSpec.upto fieldPartsSpec)) fieldPartsUptoCard

/-- THE SECOND FORM's CARD OF 'dragnetlaw08.FieldNumbers'. -/
def fieldNumbersUptoCard : Claim7 := { stood := { row := fieldNumbersUptoRow, standIns := [], harness := (true, "d4a8c73fb5072b6f328eb33cfa095dc24e76c2c8f955c2265b0962c6d4169318"), looks := true }, kinds := [], alts := [], laidByText := true, laidKinds := [.data, .data, .data, .data, .sentinel, .sentinel, .pinned], laidTests := true, laidLooks := .later }
def FieldNumbersUptoCardSaid : Prop := Claim7.holds Tryd.pinned (.plain (OpenSpec.upto fieldNumbersSpec)) fieldNumbersUptoCard

/-- THE SECOND FORM's CARD OF 'dragnetlaw08.FieldBack'. -/
def fieldBackUptoCard : Claim7 := { stood := { row := fieldBackUptoRow, standIns := [], harness := (true, "d4a8c73fb5072b6f328eb33cfa095dc24e76c2c8f955c2265b0962c6d4169318"), looks := true }, kinds := [], alts := [], laidByText := true, laidKinds := [.data, .data, .data, .data, .sentinel, .sentinel, .pinned], laidTests := true, laidLooks := .later }
def FieldBackUptoCardSaid : Prop := Claim7.holds Tryd.pinned (.plain (OpenSpec.upto fieldBackSpec)) fieldBackUptoCard

/-- THE SECOND FORM's CARD OF 'dragnetlaw08.FieldReads'. -/
def fieldReadsUptoCard : Claim7 := { stood := { row := fieldReadsUptoRow, standIns := [], harness := (true, "d4a8c73fb5072b6f328eb33cfa095dc24e76c2c8f955c2265b0962c6d4169318"), looks := true }, kinds := [], alts := [], laidByText := true, laidKinds := [.data, .data, .data, .data, .sentinel, .sentinel, .pinned], laidTests := true, laidLooks := .later }
def FieldReadsUptoCardSaid : Prop := Claim7.holds Tryd.pinned (.plain (OpenSpec.upto fieldReadsSpec)) fieldReadsUptoCard

/-- THE SECOND FORM's CARD OF 'dragnetlaw08.FieldOnce'. -/
def fieldOnceUptoCard : Claim7 := { stood := { row := fieldOnceUptoRow, standIns := [], harness := (true, "d4a8c73fb5072b6f328eb33cfa095dc24e76c2c8f955c2265b0962c6d4169318"), looks := true }, kinds := [], alts := [], laidByText := true, laidKinds := [.data, .data, .data, .data, .sentinel, .sentinel, .pinned], laidTests := true, laidLooks := .later }
def FieldOnceUptoCardSaid : Prop := Claim7.holds Tryd.pinned (.plain (OpenSpec.upto fieldOnceSpec)) fieldOnceUptoCard
end Rows
end Go.Proofs.YtdkgmiagjhcllaaDoor
