/-
  DERIVED. GIVEN WITH THE SEED: THE CARDS: each row of YtemmcnbfajlljaaGreatDoorRows.lean that lists a variable, with what it lists TIED to the program's text (the seventh form; the later family's looks); each row that meets fmt, with fmt's text TOLD by the authors' own Lean function (tested against real Go, not proved from fmt's source: count such statements apart). THE CARD IS WHAT COUNTS. Prove the row's statement (the work); the ties are given (YtemmcnbfajlljaaGreatDoorTie.lean); close each card by the builder's one call (the guide's Derived/Test/ToyasCard.lean, 'card_holds'). Laid BY PROGRAM, IN A SANDBOX (cutbox-door.mjs). By AI agents, Wed Nov 11 2026. No macro, syntax, notation, axiom, sorry.
-/
import Derived.Test.YtemmcnbfajlljaaGreatDoorRows
import GoSem.ClaimSeven
namespace Go.Proofs.YtemmcnbfajlljaaGreatDoor
namespace Rows

/-- THE TIED CARD OF 'tidepolelaw24.FrameLengths'. -/
def frameLengthsCard : Claim7 := { stood := { row := frameLengthsRow, standIns := [], harness := (true, "7fefa313078983177bef06bc48eb6285a65052d44a91846d33534628620797e9"), looks := true }, kinds := [], alts := [], laidByText := true, laidKinds := [.data, .handle, .sentinel, .data], laidTests := true, laidLooks := .later }
def FrameLengthsCardSaid : Prop := Claim7.holds Tryz.pinned (.plain (OpenSpec.ofChange frameLengthsSpec)) frameLengthsCard

/-- THE TIED CARD OF 'tidepolelaw24.FrameParses'. -/
def frameParsesCard : Claim7 := { stood := { row := frameParsesRow, standIns := [], harness := (true, "7fefa313078983177bef06bc48eb6285a65052d44a91846d33534628620797e9"), looks := true }, kinds := [], alts := [], laidByText := true, laidKinds := [.data, .handle, .sentinel, .data], laidTests := true, laidLooks := .later }
def FrameParsesCardSaid : Prop := Claim7.holds Tryz.pinned (.plain (OpenSpec.ofChange frameParsesSpec)) frameParsesCard

/-- THE TIED CARD OF 'tidepolelaw24.FrameReads'. -/
def frameReadsCard : Claim7 := { stood := { row := frameReadsRow, standIns := [], harness := (true, "7fefa313078983177bef06bc48eb6285a65052d44a91846d33534628620797e9"), looks := true }, kinds := [], alts := [], laidByText := true, laidKinds := [.data, .handle, .sentinel, .data], laidTests := true, laidLooks := .later }
def FrameReadsCardSaid : Prop := Claim7.holds Tryz.pinned (.plain (OpenSpec.ofChange frameReadsSpec)) frameReadsCard

/-- THE SECOND FORM's CARD OF 'tidepolelaw24.FrameLengths'. -/
def frameLengthsUptoCard : Claim7 := { stood := { row := frameLengthsUptoRow, standIns := [], harness := (true, "7fefa313078983177bef06bc48eb6285a65052d44a91846d33534628620797e9"), looks := true }, kinds := [], alts := [], laidByText := true, laidKinds := [.data, .handle, .sentinel, .data], laidTests := true, laidLooks := .later }
def FrameLengthsUptoCardSaid : Prop := Claim7.holds Tryz.pinned (.plain (OpenSpec.upto frameLengthsSpec)) frameLengthsUptoCard

/-- THE SECOND FORM's CARD OF 'tidepolelaw24.FrameParses'. -/
def frameParsesUptoCard : Claim7 := { stood := { row := frameParsesUptoRow, standIns := [], harness := (true, "7fefa313078983177bef06bc48eb6285a65052d44a91846d33534628620797e9"), looks := true }, kinds := [], alts := [], laidByText := true, laidKinds := [.data, .handle, .sentinel, .data], laidTests := true, laidLooks := .later }
def FrameParsesUptoCardSaid : Prop := Claim7.holds Tryz.pinned (.plain (OpenSpec.upto frameParsesSpec)) frameParsesUptoCard

/-- THE SECOND FORM's CARD OF 'tidepolelaw24.FrameReads'. -/
def frameReadsUptoCard : Claim7 := { stood := { row := frameReadsUptoRow, standIns := [], harness := (true, "7fefa313078983177bef06bc48eb6285a65052d44a91846d33534628620797e9"), looks := true }, kinds := [], alts := [], laidByText := true, laidKinds := [.data, .handle, .sentinel, .data], laidTests := true, laidLooks := .later }
def FrameReadsUptoCardSaid : Prop := Claim7.holds Tryz.pinned (.plain (OpenSpec.upto frameReadsSpec)) frameReadsUptoCard
end Rows
end Go.Proofs.YtemmcnbfajlljaaGreatDoor
