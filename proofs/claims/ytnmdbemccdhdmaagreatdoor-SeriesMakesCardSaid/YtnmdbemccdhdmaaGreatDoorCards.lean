/-
  DERIVED. GIVEN WITH THE SEED: THE CARDS: each row of YtnmdbemccdhdmaaGreatDoorRows.lean that lists a variable, with what it lists TIED to the program's text (the seventh form; the later family's looks); each row that meets fmt, with fmt's text TOLD by the authors' own Lean function (tested against real Go, not proved from fmt's source: count such statements apart). THE CARD IS WHAT COUNTS. Prove the row's statement (the work); the ties are given (YtnmdbemccdhdmaaGreatDoorTie.lean); close each card by the builder's one call (the guide's Derived/Test/ToyasCard.lean, 'card_holds'). Laid BY PROGRAM, IN A SANDBOX (cutbox-door.mjs). By AI agents, Wed Nov 11 2026. No macro, syntax, notation, axiom, sorry.
-/
import Derived.Test.YtnmdbemccdhdmaaGreatDoorRows
import GoSem.ClaimSeven
namespace Go.Proofs.YtnmdbemccdhdmaaGreatDoor
namespace Rows

/-- THE TIED CARD OF 'tidepolelaw22.SeriesOrder'. -/
def seriesOrderCard : Claim7 := { stood := { row := seriesOrderRow, standIns := [], harness := (true, "6b41186cb60e981ce5393b55c8d14b3ac83c177b83ef377080da6fd4bd329a70"), looks := true }, kinds := [], alts := [], laidByText := true, laidKinds := [.data, .handle, .sentinel, .data], laidTests := true, laidLooks := .later }
def SeriesOrderCardSaid : Prop := Claim7.holds Tryz.pinned (.plain (OpenSpec.ofChange seriesOrderSpec)) seriesOrderCard

/-- THE TIED CARD OF 'tidepolelaw22.SeriesMakes'. -/
def seriesMakesCard : Claim7 := { stood := { row := seriesMakesRow, standIns := [], harness := (true, "6b41186cb60e981ce5393b55c8d14b3ac83c177b83ef377080da6fd4bd329a70"), looks := true }, kinds := [], alts := [], laidByText := true, laidKinds := [.data, .handle, .sentinel, .data], laidTests := true, laidLooks := .later }
def SeriesMakesCardSaid : Prop := Claim7.holds Tryz.pinned (.plain (OpenSpec.ofChange seriesMakesSpec)) seriesMakesCard

/-- THE TIED CARD OF 'tidepolelaw22.SeriesReads'. -/
def seriesReadsCard : Claim7 := { stood := { row := seriesReadsRow, standIns := [], harness := (true, "6b41186cb60e981ce5393b55c8d14b3ac83c177b83ef377080da6fd4bd329a70"), looks := true }, kinds := [], alts := [], laidByText := true, laidKinds := [.data, .handle, .sentinel, .data], laidTests := true, laidLooks := .later }
def SeriesReadsCardSaid : Prop := Claim7.holds Tryz.pinned (.plain (OpenSpec.ofChange seriesReadsSpec)) seriesReadsCard

/-- THE TIED CARD OF 'tidepolelaw22.SeriesAppends'. -/
def seriesAppendsCard : Claim7 := { stood := { row := seriesAppendsRow, standIns := [], harness := (true, "6b41186cb60e981ce5393b55c8d14b3ac83c177b83ef377080da6fd4bd329a70"), looks := true }, kinds := [], alts := [], laidByText := true, laidKinds := [.data, .handle, .sentinel, .data], laidTests := true, laidLooks := .later }
def SeriesAppendsCardSaid : Prop := Claim7.holds Tryz.pinned (.plain (OpenSpec.ofChange seriesAppendsSpec)) seriesAppendsCard

/-- THE TIED CARD OF 'tidepolelaw22.SeriesLoads'. -/
def seriesLoadsCard : Claim7 := { stood := { row := seriesLoadsRow, standIns := [], harness := (true, "6b41186cb60e981ce5393b55c8d14b3ac83c177b83ef377080da6fd4bd329a70"), looks := true }, kinds := [], alts := [], laidByText := true, laidKinds := [.data, .handle, .sentinel, .data], laidTests := true, laidLooks := .later }
def SeriesLoadsCardSaid : Prop := Claim7.holds Tryz.pinned (.plain (OpenSpec.ofChange seriesLoadsSpec)) seriesLoadsCard

/-- THE SECOND FORM's CARD OF 'tidepolelaw22.SeriesOrder'. -/
def seriesOrderUptoCard : Claim7 := { stood := { row := seriesOrderUptoRow, standIns := [], harness := (true, "6b41186cb60e981ce5393b55c8d14b3ac83c177b83ef377080da6fd4bd329a70"), looks := true }, kinds := [], alts := [], laidByText := true, laidKinds := [.data, .handle, .sentinel, .data], laidTests := true, laidLooks := .later }
def SeriesOrderUptoCardSaid : Prop := Claim7.holds Tryz.pinned (.plain (OpenSpec.upto seriesOrderSpec)) seriesOrderUptoCard

/-- THE SECOND FORM's CARD OF 'tidepolelaw22.SeriesMakes'. -/
def seriesMakesUptoCard : Claim7 := { stood := { row := seriesMakesUptoRow, standIns := [], harness := (true, "6b41186cb60e981ce5393b55c8d14b3ac83c177b83ef377080da6fd4bd329a70"), looks := true }, kinds := [], alts := [], laidByText := true, laidKinds := [.data, .handle, .sentinel, .data], laidTests := true, laidLooks := .later }
def SeriesMakesUptoCardSaid : Prop := Claim7.holds Tryz.pinned (.plain (OpenSpec.upto seriesMakesSpec)) seriesMakesUptoCard

/-- THE SECOND FORM's CARD OF 'tidepolelaw22.SeriesReads'. -/
def seriesReadsUptoCard : Claim7 := { stood := { row := seriesReadsUptoRow, standIns := [], harness := (true, "6b41186cb60e981ce5393b55c8d14b3ac83c177b83ef377080da6fd4bd329a70"), looks := true }, kinds := [], alts := [], laidByText := true, laidKinds := [.data, .handle, .sentinel, .data], laidTests := true, laidLooks := .later }
def SeriesReadsUptoCardSaid : Prop := Claim7.holds Tryz.pinned (.plain (OpenSpec.upto seriesReadsSpec)) seriesReadsUptoCard

/-- THE SECOND FORM's CARD OF 'tidepolelaw22.SeriesAppends'. -/
def seriesAppendsUptoCard : Claim7 := { stood := { row := seriesAppendsUptoRow, standIns := [], harness := (true, "6b41186cb60e981ce5393b55c8d14b3ac83c177b83ef377080da6fd4bd329a70"), looks := true }, kinds := [], alts := [], laidByText := true, laidKinds := [.data, .handle, .sentinel, .data], laidTests := true, laidLooks := .later }
def SeriesAppendsUptoCardSaid : Prop := Claim7.holds Tryz.pinned (.plain (OpenSpec.upto seriesAppendsSpec)) seriesAppendsUptoCard

/-- THE SECOND FORM's CARD OF 'tidepolelaw22.SeriesLoads'. -/
def seriesLoadsUptoCard : Claim7 := { stood := { row := seriesLoadsUptoRow, standIns := [], harness := (true, "6b41186cb60e981ce5393b55c8d14b3ac83c177b83ef377080da6fd4bd329a70"), looks := true }, kinds := [], alts := [], laidByText := true, laidKinds := [.data, .handle, .sentinel, .data], laidTests := true, laidLooks := .later }
def SeriesLoadsUptoCardSaid : Prop := Claim7.holds Tryz.pinned (.plain (OpenSpec.upto seriesLoadsSpec)) seriesLoadsUptoCard
end Rows
end Go.Proofs.YtnmdbemccdhdmaaGreatDoor
