/-
  DERIVED. GIVEN WITH THE SEED: THE CARDS: each row of YtehaodbheifokaaGreatDoorRows.lean that lists a variable, with what it lists TIED to the program's text (the seventh form; the later family's looks); each row that meets fmt, with fmt's text TOLD by the authors' own Lean function (tested against real Go, not proved from fmt's source: count such statements apart). THE CARD IS WHAT COUNTS. Prove the row's statement (the work); the ties are given (YtehaodbheifokaaGreatDoorTie.lean); close each card by the builder's one call (the guide's Derived/Test/ToyasCard.lean, 'card_holds'). Laid BY PROGRAM, IN A SANDBOX (cutbox-door.mjs). By AI agents, Wed Nov 11 2026. No macro, syntax, notation, axiom, sorry.
-/
import Derived.Test.YtehaodbheifokaaGreatDoorRows
import GoSem.ClaimSeven
namespace Go.Proofs.YtehaodbheifokaaGreatDoor
namespace Rows

/-- THE TIED CARD OF 'dragnetlaw20.MatchHolds'. -/
def matchHoldsCard : Claim7 := { stood := { row := matchHoldsRow, standIns := [], harness := (true, "b20d776b0c95f47395b401180d7ceb4fd0a9d9a35ae93272067832f71a51f8a3"), looks := true }, kinds := [], alts := [], laidByText := true, laidKinds := [.data, .data, .data, .data, .sentinel, .sentinel, .pinned], laidTests := true, laidLooks := .later }
def MatchHoldsCardSaid : Prop := Claim7.holds Tryz.pinned (.plain (OpenSpec.ofChange matchHoldsSpec)) matchHoldsCard

/-- THE TIED CARD OF 'dragnetlaw20.MatchSums'. -/
def matchSumsCard : Claim7 := { stood := { row := matchSumsRow, standIns := [], harness := (true, "b20d776b0c95f47395b401180d7ceb4fd0a9d9a35ae93272067832f71a51f8a3"), looks := true }, kinds := [], alts := [], laidByText := true, laidKinds := [.data, .data, .data, .data, .sentinel, .sentinel, .pinned], laidTests := true, laidLooks := .later }
def MatchSumsCardSaid : Prop := Claim7.holds Tryz.pinned (.plain (OpenSpec.ofChange matchSumsSpec)) matchSumsCard

/-- THE TIED CARD OF 'dragnetlaw20.MatchWords'. -/
def matchWordsCard : Claim7 := { stood := { row := matchWordsRow, standIns := [], harness := (true, "b20d776b0c95f47395b401180d7ceb4fd0a9d9a35ae93272067832f71a51f8a3"), looks := true }, kinds := [], alts := [], laidByText := true, laidKinds := [.data, .data, .data, .data, .sentinel, .sentinel, .pinned], laidTests := true, laidLooks := .later }
def MatchWordsCardSaid : Prop := Claim7.holds Tryz.pinned (.plain (OpenSpec.ofChange matchWordsSpec)) matchWordsCard

/-- THE TIED CARD OF 'dragnetlaw20.MatchTimes'. -/
def matchTimesCard : Claim7 := { stood := { row := matchTimesRow, standIns := [], harness := (true, "b20d776b0c95f47395b401180d7ceb4fd0a9d9a35ae93272067832f71a51f8a3"), looks := true }, kinds := [], alts := [], laidByText := true, laidKinds := [.data, .data, .data, .data, .sentinel, .sentinel, .pinned], laidTests := true, laidLooks := .later }
def MatchTimesCardSaid : Prop := Claim7.holds Tryz.pinned (.plain (OpenSpec.ofChange matchTimesSpec)) matchTimesCard

/-- THE TIED CARD OF 'dragnetlaw20.MatchFilters'. -/
def matchFiltersCard : Claim7 := { stood := { row := matchFiltersRow, standIns := [], harness := (true, "b20d776b0c95f47395b401180d7ceb4fd0a9d9a35ae93272067832f71a51f8a3"), looks := true }, kinds := [], alts := [], laidByText := true, laidKinds := [.data, .data, .data, .data, .sentinel, .sentinel, .pinned], laidTests := true, laidLooks := .later }
def MatchFiltersCardSaid : Prop := Claim7.holds Tryz.pinned (.plain (OpenSpec.ofChange matchFiltersSpec)) matchFiltersCard

/-- THE TIED CARD OF 'dragnetlaw23.AggBuckets'. -/
def aggBucketsCard : Claim7 := { stood := { row := aggBucketsRow, standIns := [], harness := (true, "b20d776b0c95f47395b401180d7ceb4fd0a9d9a35ae93272067832f71a51f8a3"), looks := true }, kinds := [], alts := [], laidByText := true, laidKinds := [.data, .data, .data, .data, .sentinel, .sentinel, .pinned], laidTests := true, laidLooks := .later }
def AggBucketsCardSaid : Prop := Claim7.holds Tryz.pinned (.plain (OpenSpec.ofChange aggBucketsSpec)) aggBucketsCard

/-- THE TIED CARD OF 'dragnetlaw23.AggMakes'. -/
def aggMakesCard : Claim7 := { stood := { row := aggMakesRow, standIns := [], harness := (true, "b20d776b0c95f47395b401180d7ceb4fd0a9d9a35ae93272067832f71a51f8a3"), looks := true }, kinds := [], alts := [], laidByText := true, laidKinds := [.data, .data, .data, .data, .sentinel, .sentinel, .pinned], laidTests := true, laidLooks := .later }
def AggMakesCardSaid : Prop := Claim7.holds Tryz.pinned (.plain (OpenSpec.ofChange aggMakesSpec)) aggMakesCard

/-- THE TIED CARD OF 'dragnetlaw23.AggSums'. -/
def aggSumsCard : Claim7 := { stood := { row := aggSumsRow, standIns := [], harness := (true, "b20d776b0c95f47395b401180d7ceb4fd0a9d9a35ae93272067832f71a51f8a3"), looks := true }, kinds := [], alts := [], laidByText := true, laidKinds := [.data, .data, .data, .data, .sentinel, .sentinel, .pinned], laidTests := true, laidLooks := .later }
def AggSumsCardSaid : Prop := Claim7.holds Tryz.pinned (.plain (OpenSpec.ofChange aggSumsSpec)) aggSumsCard

/-- THE TIED CARD OF 'dragnetlaw23.AggParts'. -/
def aggPartsCard : Claim7 := { stood := { row := aggPartsRow, standIns := [], harness := (true, "b20d776b0c95f47395b401180d7ceb4fd0a9d9a35ae93272067832f71a51f8a3"), looks := true }, kinds := [], alts := [], laidByText := true, laidKinds := [.data, .data, .data, .data, .sentinel, .sentinel, .pinned], laidTests := true, laidLooks := .later }
def AggPartsCardSaid : Prop := Claim7.holds Tryz.pinned (.plain (OpenSpec.ofChange aggPartsSpec)) aggPartsCard

/-- THE TIED CARD OF 'dragnetlaw23.AggTops'. -/
def aggTopsCard : Claim7 := { stood := { row := aggTopsRow, standIns := [], harness := (true, "b20d776b0c95f47395b401180d7ceb4fd0a9d9a35ae93272067832f71a51f8a3"), looks := true }, kinds := [], alts := [], laidByText := true, laidKinds := [.data, .data, .data, .data, .sentinel, .sentinel, .pinned], laidTests := true, laidLooks := .later }
def AggTopsCardSaid : Prop := Claim7.holds Tryz.pinned (.plain (OpenSpec.ofChange aggTopsSpec)) aggTopsCard

/-- THE SECOND FORM's CARD OF 'dragnetlaw20.MatchHolds'. -/
def matchHoldsUptoCard : Claim7 := { stood := { row := matchHoldsUptoRow, standIns := [], harness := (true, "b20d776b0c95f47395b401180d7ceb4fd0a9d9a35ae93272067832f71a51f8a3"), looks := true }, kinds := [], alts := [], laidByText := true, laidKinds := [.data, .data, .data, .data, .sentinel, .sentinel, .pinned], laidTests := true, laidLooks := .later }
def MatchHoldsUptoCardSaid : Prop := Claim7.holds Tryz.pinned (.plain (OpenSpec.upto matchHoldsSpec)) matchHoldsUptoCard

/-- THE SECOND FORM's CARD OF 'dragnetlaw20.MatchSums'. -/
def matchSumsUptoCard : Claim7 := { stood := { row := matchSumsUptoRow, standIns := [], harness := (true, "b20d776b0c95f47395b401180d7ceb4fd0a9d9a35ae93272067832f71a51f8a3"), looks := true }, kinds := [], alts := [], laidByText := true, laidKinds := [.data, .data, .data, .data, .sentinel, .sentinel, .pinned], laidTests := true, laidLooks := .later }
def MatchSumsUptoCardSaid : Prop := Claim7.holds Tryz.pinned (.plain (OpenSpec.upto matchSumsSpec)) matchSumsUptoCard

/-- THE SECOND FORM's CARD OF 'dragnetlaw20.MatchWords'. -/
def matchWordsUptoCard : Claim7 := { stood := { row := matchWordsUptoRow, standIns := [], harness := (true, "b20d776b0c95f47395b401180d7ceb4fd0a9d9a35ae93272067832f71a51f8a3"), looks := true }, kinds := [], alts := [], laidByText := true, laidKinds := [.data, .data, .data, .data, .sentinel, .sentinel, .pinned], laidTests := true, laidLooks := .later }
def MatchWordsUptoCardSaid : Prop := Claim7.holds Tryz.pinned (.plain (OpenSpec.upto matchWordsSpec)) matchWordsUptoCard

/-- THE SECOND FORM's CARD OF 'dragnetlaw20.MatchTimes'. -/
def matchTimesUptoCard : Claim7 := { stood := { row := matchTimesUptoRow, standIns := [], harness := (true, "b20d776b0c95f47395b401180d7ceb4fd0a9d9a35ae93272067832f71a51f8a3"), looks := true }, kinds := [], alts := [], laidByText := true, laidKinds := [.data, .data, .data, .data, .sentinel, .sentinel, .pinned], laidTests := true, laidLooks := .later }
def MatchTimesUptoCardSaid : Prop := Claim7.holds Tryz.pinned (.plain (OpenSpec.upto matchTimesSpec)) matchTimesUptoCard

/-- THE SECOND FORM's CARD OF 'dragnetlaw20.MatchFilters'. -/
def matchFiltersUptoCard : Claim7 := { stood := { row := matchFiltersUptoRow, standIns := [], harness := (true, "b20d776b0c95f47395b401180d7ceb4fd0a9d9a35ae93272067832f71a51f8a3"), looks := true }, kinds := [], alts := [], laidByText := true, laidKinds := [.data, .data, .data, .data, .sentinel, .sentinel, .pinned], laidTests := true, laidLooks := .later }
def MatchFiltersUptoCardSaid : Prop := Claim7.holds Tryz.pinned (.plain (OpenSpec.upto matchFiltersSpec)) matchFiltersUptoCard

/-- THE SECOND FORM's CARD OF 'dragnetlaw23.AggBuckets'. -/
def aggBucketsUptoCard : Claim7 := { stood := { row := aggBucketsUptoRow, standIns := [], harness := (true, "b20d776b0c95f47395b401180d7ceb4fd0a9d9a35ae93272067832f71a51f8a3"), looks := true }, kinds := [], alts := [], laidByText := true, laidKinds := [.data, .data, .data, .data, .sentinel, .sentinel, .pinned], laidTests := true, laidLooks := .later }
def AggBucketsUptoCardSaid : Prop := Claim7.holds Tryz.pinned (.plain (OpenSpec.upto aggBucketsSpec)) aggBucketsUptoCard

/-- THE SECOND FORM's CARD OF 'dragnetlaw23.AggMakes'. -/
def aggMakesUptoCard : Claim7 := { stood := { row := aggMakesUptoRow, standIns := [], harness := (true, "b20d776b0c95f47395b401180d7ceb4fd0a9d9a35ae93272067832f71a51f8a3"), looks := true }, kinds := [], alts := [], laidByText := true, laidKinds := [.data, .data, .data, .data, .sentinel, .sentinel, .pinned], laidTests := true, laidLooks := .later }
def AggMakesUptoCardSaid : Prop := Claim7.holds Tryz.pinned (.plain (OpenSpec.upto aggMakesSpec)) aggMakesUptoCard

/-- THE SECOND FORM's CARD OF 'dragnetlaw23.AggSums'. -/
def aggSumsUptoCard : Claim7 := { stood := { row := aggSumsUptoRow, standIns := [], harness := (true, "b20d776b0c95f47395b401180d7ceb4fd0a9d9a35ae93272067832f71a51f8a3"), looks := true }, kinds := [], alts := [], laidByText := true, laidKinds := [.data, .data, .data, .data, .sentinel, .sentinel, .pinned], laidTests := true, laidLooks := .later }
def AggSumsUptoCardSaid : Prop := Claim7.holds Tryz.pinned (.plain (OpenSpec.upto aggSumsSpec)) aggSumsUptoCard

/-- THE SECOND FORM's CARD OF 'dragnetlaw23.AggParts'. -/
def aggPartsUptoCard : Claim7 := { stood := { row := aggPartsUptoRow, standIns := [], harness := (true, "b20d776b0c95f47395b401180d7ceb4fd0a9d9a35ae93272067832f71a51f8a3"), looks := true }, kinds := [], alts := [], laidByText := true, laidKinds := [.data, .data, .data, .data, .sentinel, .sentinel, .pinned], laidTests := true, laidLooks := .later }
def AggPartsUptoCardSaid : Prop := Claim7.holds Tryz.pinned (.plain (OpenSpec.upto aggPartsSpec)) aggPartsUptoCard

/-- THE SECOND FORM's CARD OF 'dragnetlaw23.AggTops'. -/
def aggTopsUptoCard : Claim7 := { stood := { row := aggTopsUptoRow, standIns := [], harness := (true, "b20d776b0c95f47395b401180d7ceb4fd0a9d9a35ae93272067832f71a51f8a3"), looks := true }, kinds := [], alts := [], laidByText := true, laidKinds := [.data, .data, .data, .data, .sentinel, .sentinel, .pinned], laidTests := true, laidLooks := .later }
def AggTopsUptoCardSaid : Prop := Claim7.holds Tryz.pinned (.plain (OpenSpec.upto aggTopsSpec)) aggTopsUptoCard
end Rows
end Go.Proofs.YtehaodbheifokaaGreatDoor
