/-
  DERIVED. GIVEN WITH THE SEED: THE CARDS: each row of YtenpmbebghlnkaaDoorRows.lean that lists a variable, with what it lists TIED to the program's text (the seventh form; the later family's looks); each row that meets fmt, with fmt's text TOLD by the authors' own Lean function (tested against real Go, not proved from fmt's source: count such statements apart). THE CARD IS WHAT COUNTS. Prove the row's statement (the work); the ties are given (YtenpmbebghlnkaaDoorTie.lean); close each card by the builder's one call (the guide's Derived/Test/ToyasCard.lean, 'card_holds'). Laid BY PROGRAM, IN A SANDBOX (cutbox-door.mjs). By AI agents, Wed Nov 11 2026. No macro, syntax, notation, axiom, sorry.
-/
import Derived.Test.YtenpmbebghlnkaaDoorRows
import GoSem.ClaimSeven
namespace Go.Proofs.YtenpmbebghlnkaaDoor
namespace Rows

/-- THE TIED CARD OF 'modillionlaw05.GraphChecks'. -/
def graphChecksCard : Claim7 := { stood := { row := graphChecksRow, standIns := [], harness := (true, "529e92d3eed717b0bf097a4ed395976af83909e5ffd5fa7e24616de1ea9647ff"), looks := true }, kinds := [], alts := [], laidByText := true, laidKinds := [.data, .data, .data, .data, .sentinel, .sentinel, .pinned], laidTests := true, laidLooks := .later }
def GraphChecksCardSaid : Prop := Claim7.holds Tryd.pinned (.plain (OpenSpec.ofChange graphChecksSpec)) graphChecksCard

/-- THE TIED CARD OF 'modillionlaw05.GraphShows'. -/
def graphShowsCard : Claim7 := { stood := { row := graphShowsRow, standIns := [], harness := (true, "529e92d3eed717b0bf097a4ed395976af83909e5ffd5fa7e24616de1ea9647ff"), looks := true }, kinds := [], alts := [], laidByText := true, laidKinds := [.data, .data, .data, .data, .sentinel, .sentinel, .pinned], laidTests := true, laidLooks := .later }
def GraphShowsCardSaid : Prop := Claim7.holds Tryd.pinned (.plain (OpenSpec.ofChange graphShowsSpec)) graphShowsCard

/-- THE TIED CARD OF 'modillionlaw05.GraphReads'. -/
def graphReadsCard : Claim7 := { stood := { row := graphReadsRow, standIns := [], harness := (true, "529e92d3eed717b0bf097a4ed395976af83909e5ffd5fa7e24616de1ea9647ff"), looks := true }, kinds := [], alts := [], laidByText := true, laidKinds := [.data, .data, .data, .data, .sentinel, .sentinel, .pinned], laidTests := true, laidLooks := .later }
def GraphReadsCardSaid : Prop := Claim7.holds Tryd.pinned (.plain (OpenSpec.ofChange graphReadsSpec)) graphReadsCard

/-- THE TIED CARD OF 'modillionlaw05.GraphTurned'. -/
def graphTurnedCard : Claim7 := { stood := { row := graphTurnedRow, standIns := [], harness := (true, "529e92d3eed717b0bf097a4ed395976af83909e5ffd5fa7e24616de1ea9647ff"), looks := true }, kinds := [], alts := [], laidByText := true, laidKinds := [.data, .data, .data, .data, .sentinel, .sentinel, .pinned], laidTests := true, laidLooks := .later }
def GraphTurnedCardSaid : Prop := Claim7.holds Tryd.pinned (.plain (OpenSpec.ofChange graphTurnedSpec)) graphTurnedCard

/-- THE TIED CARD OF 'modillionlaw05.GraphSides'. -/
def graphSidesCard : Claim7 := { stood := { row := graphSidesRow, standIns := [], harness := (true, "529e92d3eed717b0bf097a4ed395976af83909e5ffd5fa7e24616de1ea9647ff"), looks := true }, kinds := [], alts := [], laidByText := true, laidKinds := [.data, .data, .data, .data, .sentinel, .sentinel, .pinned], laidTests := true, laidLooks := .later }
def GraphSidesCardSaid : Prop := Claim7.holds Tryd.pinned (.plain (OpenSpec.ofChange graphSidesSpec)) graphSidesCard

/-- THE TIED CARD OF 'modillionlaw05.GraphMore'. -/
def graphMoreCard : Claim7 := { stood := { row := graphMoreRow, standIns := [], harness := (true, "529e92d3eed717b0bf097a4ed395976af83909e5ffd5fa7e24616de1ea9647ff"), looks := true }, kinds := [], alts := [], laidByText := true, laidKinds := [.data, .data, .data, .data, .sentinel, .sentinel, .pinned], laidTests := true, laidLooks := .later }
def GraphMoreCardSaid : Prop := Claim7.holds Tryd.pinned (.plain (OpenSpec.ofChange graphMoreSpec)) graphMoreCard

/-- THE TIED CARD OF 'modillionlaw05.GraphAgain'. -/
def graphAgainCard : Claim7 := { stood := { row := graphAgainRow, standIns := [], harness := (true, "529e92d3eed717b0bf097a4ed395976af83909e5ffd5fa7e24616de1ea9647ff"), looks := true }, kinds := [], alts := [], laidByText := true, laidKinds := [.data, .data, .data, .data, .sentinel, .sentinel, .pinned], laidTests := true, laidLooks := .later }
def GraphAgainCardSaid : Prop := Claim7.holds Tryd.pinned (.plain (OpenSpec.ofChange graphAgainSpec)) graphAgainCard

/-- THE SECOND FORM's CARD OF 'modillionlaw05.GraphChecks'. -/
def graphChecksUptoCard : Claim7 := { stood := { row := graphChecksUptoRow, standIns := [], harness := (true, "529e92d3eed717b0bf097a4ed395976af83909e5ffd5fa7e24616de1ea9647ff"), looks := true }, kinds := [], alts := [], laidByText := true, laidKinds := [.data, .data, .data, .data, .sentinel, .sentinel, .pinned], laidTests := true, laidLooks := .later }
def GraphChecksUptoCardSaid : Prop := Claim7.holds Tryd.pinned (.plain (OpenSpec.upto graphChecksSpec)) graphChecksUptoCard

/-- THE SECOND FORM's CARD OF 'modillionlaw05.GraphShows'. -/
def graphShowsUptoCard : Claim7 := { stood := { row := graphShowsUptoRow, standIns := [], harness := (true, "529e92d3eed717b0bf097a4ed395976af83909e5ffd5fa7e24616de1ea9647ff"), looks := true }, kinds := [], alts := [], laidByText := true, laidKinds := [.data, .data, .data, .data, .sentinel, .sentinel, .pinned], laidTests := true, laidLooks := .later }
def GraphShowsUptoCardSaid : Prop := Claim7.holds Tryd.pinned (.plain (OpenSpec.upto graphShowsSpec)) graphShowsUptoCard

/-- THE SECOND FORM's CARD OF 'modillionlaw05.GraphReads'. -/
def graphReadsUptoCard : Claim7 := { stood := { row := graphReadsUptoRow, standIns := [], harness := (true, "529e92d3eed717b0bf097a4ed395976af83909e5ffd5fa7e24616de1ea9647ff"), looks := true }, kinds := [], alts := [], laidByText := true, laidKinds := [.data, .data, .data, .data, .sentinel, .sentinel, .pinned], laidTests := true, laidLooks := .later }
def GraphReadsUptoCardSaid : Prop := Claim7.holds Tryd.pinned (.plain (OpenSpec.upto graphReadsSpec)) graphReadsUptoCard

/-- THE SECOND FORM's CARD OF 'modillionlaw05.GraphTurned'. -/
def graphTurnedUptoCard : Claim7 := { stood := { row := graphTurnedUptoRow, standIns := [], harness := (true, "529e92d3eed717b0bf097a4ed395976af83909e5ffd5fa7e24616de1ea9647ff"), looks := true }, kinds := [], alts := [], laidByText := true, laidKinds := [.data, .data, .data, .data, .sentinel, .sentinel, .pinned], laidTests := true, laidLooks := .later }
def GraphTurnedUptoCardSaid : Prop := Claim7.holds Tryd.pinned (.plain (OpenSpec.upto graphTurnedSpec)) graphTurnedUptoCard

/-- THE SECOND FORM's CARD OF 'modillionlaw05.GraphSides'. -/
def graphSidesUptoCard : Claim7 := { stood := { row := graphSidesUptoRow, standIns := [], harness := (true, "529e92d3eed717b0bf097a4ed395976af83909e5ffd5fa7e24616de1ea9647ff"), looks := true }, kinds := [], alts := [], laidByText := true, laidKinds := [.data, .data, .data, .data, .sentinel, .sentinel, .pinned], laidTests := true, laidLooks := .later }
def GraphSidesUptoCardSaid : Prop := Claim7.holds Tryd.pinned (.plain (OpenSpec.upto graphSidesSpec)) graphSidesUptoCard

/-- THE SECOND FORM's CARD OF 'modillionlaw05.GraphMore'. -/
def graphMoreUptoCard : Claim7 := { stood := { row := graphMoreUptoRow, standIns := [], harness := (true, "529e92d3eed717b0bf097a4ed395976af83909e5ffd5fa7e24616de1ea9647ff"), looks := true }, kinds := [], alts := [], laidByText := true, laidKinds := [.data, .data, .data, .data, .sentinel, .sentinel, .pinned], laidTests := true, laidLooks := .later }
def GraphMoreUptoCardSaid : Prop := Claim7.holds Tryd.pinned (.plain (OpenSpec.upto graphMoreSpec)) graphMoreUptoCard

/-- THE SECOND FORM's CARD OF 'modillionlaw05.GraphAgain'. -/
def graphAgainUptoCard : Claim7 := { stood := { row := graphAgainUptoRow, standIns := [], harness := (true, "529e92d3eed717b0bf097a4ed395976af83909e5ffd5fa7e24616de1ea9647ff"), looks := true }, kinds := [], alts := [], laidByText := true, laidKinds := [.data, .data, .data, .data, .sentinel, .sentinel, .pinned], laidTests := true, laidLooks := .later }
def GraphAgainUptoCardSaid : Prop := Claim7.holds Tryd.pinned (.plain (OpenSpec.upto graphAgainSpec)) graphAgainUptoCard
end Rows
end Go.Proofs.YtenpmbebghlnkaaDoor
