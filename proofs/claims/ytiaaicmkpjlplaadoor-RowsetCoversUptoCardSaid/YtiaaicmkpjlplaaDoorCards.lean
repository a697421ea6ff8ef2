/-
  DERIVED. GIVEN WITH THE SEED: THE CARDS: each row of YtiaaicmkpjlplaaDoorRows.lean that lists a variable, with what it lists TIED to the program's text (the seventh form; the later family's looks); each row that meets fmt, with fmt's text TOLD by the authors' own Lean function (tested against real Go, not proved from fmt's source: count such statements apart). THE CARD IS WHAT COUNTS. Prove the row's statement (the work); the ties are given (YtiaaicmkpjlplaaDoorTie.lean); close each card by the builder's one call (the guide's Derived/Test/ToyasCard.lean, 'card_holds'). Laid BY PROGRAM, IN A SANDBOX (cutbox-door.mjs). By AI agents, Wed Nov 11 2026. No macro, syntax, notation, axiom, sorry.
-/
import Derived.Test.YtiaaicmkpjlplaaDoorRows
import GoSem.ClaimSeven
namespace Go.Proofs.YtiaaicmkpjlplaaDoor
namespace Rows

/-- THE TIED CARD OF 'dragnetlaw09.RowsetWalks'. -/
def rowsetWalksCard : Claim7 := { stood := { row := rowsetWalksRow, standIns := [], harness := (true, "f531483804169b0f783a5288083b23c488eceafbfe4c9176e2a47f4ddeeb5e69"), looks := false }, kinds := [], alts := [], laidByText := true, laidKinds := [.data], laidTests := true, laidLooks := .later }
def RowsetWalksCardSaid : Prop := Claim7.holds Tryd.pinned (.plain (OpenSpec.ofChange rowsetWalksSpec)) rowsetWalksCard

/-- THE TIED CARD OF 'dragnetlaw09.RowsetAsks'. -/
def rowsetAsksCard : Claim7 := { stood := { row := rowsetAsksRow, standIns := [], harness := (true, "f531483804169b0f783a5288083b23c488eceafbfe4c9176e2a47f4ddeeb5e69"), looks := false }, kinds := [], alts := [], laidByText := true, laidKinds := [.data], laidTests := true, laidLooks := .later }
def RowsetAsksCardSaid : Prop := Claim7.holds Tryd.pinned (.plain (OpenSpec.ofChange rowsetAsksSpec)) rowsetAsksCard

/-- THE TIED CARD OF 'dragnetlaw09.RowsetCovers'. -/
def rowsetCoversCard : Claim7 := { stood := { row := rowsetCoversRow, standIns := [], harness := (true, "f531483804169b0f783a5288083b23c488eceafbfe4c9176e2a47f4ddeeb5e69"), looks := false }, kinds := [], alts := [], laidByText := true, laidKinds := [.data], laidTests := true, laidLooks := .later }
def RowsetCoversCardSaid : Prop := Claim7.holds Tryd.pinned (.plain (OpenSpec.ofChange rowsetCoversSpec)) rowsetCoversCard

/-- THE SECOND FORM's CARD OF 'dragnetlaw09.RowsetWalks'. -/
def rowsetWalksUptoCard : Claim7 := { stood := { row := rowsetWalksUptoRow, standIns := [], harness := (true, "f531483804169b0f783a5288083b23c488eceafbfe4c9176e2a47f4ddeeb5e69"), looks := false }, kinds := [], alts := [], laidByText := true, laidKinds := [.data], laidTests := true, laidLooks := .later }
def RowsetWalksUptoCardSaid : Prop := Claim7.holds Tryd.pinned (.plain (OpenSpec.upto rowsetWalksSpec)) rowsetWalksUptoCard

/-- THE SECOND FORM's CARD OF 'dragnetlaw09.RowsetAsks'. -/
def rowsetAsksUptoCard : Claim7 := { stood := { row := rowsetAsksUptoRow, standIns := [], harness := (true, "f531483804169b0f783a5288083b23c488eceafbfe4c9176e2a47f4ddeeb5e69"), looks := false }, kinds := [], alts := [], laidByText := true, laidKinds := [.data], laidTests := true, laidLooks := .later }
def RowsetAsksUptoCardSaid : Prop := Claim7.holds Tryd.pinned (.plain (OpenSpec.upto rowsetAsksSpec)) rowsetAsksUptoCard

/-- THE SECOND FORM's CARD OF 'dragnetlaw09.RowsetCovers'. -/
def rowsetCoversUptoCard : Claim7 := { stood := { row := rowsetCoversUptoRow, standIns := [], harness := (true, "f531483804169b0f783a5288083b23c488eceafbfe4c9176e2a47f4ddeeb5e69"), looks := false }, kinds := [], alts := [], laidByText := true, laidKinds := [.data], laidTests := true, laidLooks := .later }
def RowsetCoversUptoCardSaid : Prop := Claim7.holds Tryd.pinned (.plain (OpenSpec.upto rowsetCoversSpec)) rowsetCoversUptoCard
end Rows
end Go.Proofs.YtiaaicmkpjlplaaDoor
