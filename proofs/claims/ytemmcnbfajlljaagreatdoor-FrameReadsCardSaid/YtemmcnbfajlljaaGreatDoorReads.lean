/- FrameReads of tidepolelaw24: for all bytes the law returns true, and all that lay in memory lies there as it did. Conditions: those of the row alone (its listed package-level variables hold what the program lays). -/
import Derived.Test.YtemmcnbfajlljaaGreatDoorRdh
import Derived.Test.YtemmcnbfajlljaaGreatDoorFrameReadsC1
import Derived.Test.YtemmcnbfajlljaaGreatDoorTie
import Derived.Test.YtemmcnbfajlljaaGreatDoorCards
import Derived.SevenTiedAt
namespace Go.Proofs.YtemmcnbfajlljaaGreatDoor
open Go Go.TP Go.TP.Ry Go.ChangeShapes Go.WideShapes Go.RowKit
theorem main_is : Tryz.pinned.checked.prog.mainIs = some (true, "7fefa313078983177bef06bc48eb6285a65052d44a91846d33534628620797e9".toList) := by kernel_rfl
theorem looks_is : true = Tryz.pinned.checked.prog.looks [] := by kernel_rfl
theorem want22 : Tryz.prog.wantsStandIn 22 = false := by kernel_rfl
theorem named_frameReads : Tryz.prog.funcNamed "tidepole/tidepolelaw24.FrameReads" = some 5 := by kernel_rfl
theorem wf_frameReads : Rows.frameReadsRow.wfByText (OpenSpec.ofChange Rows.frameReadsSpec) = true := by kernel_rfl
/-- THE TIED CARD. -/
theorem reads_card : Rows.FrameReadsCardSaid :=
  Claim7.holds_tied_plain_at .later [] [.data, .handle, .sentinel, .data] true (true, "7fefa313078983177bef06bc48eb6285a65052d44a91846d33534628620797e9") true
    reads_holds (fun _ h => by cases h) wf_frameReads (fun _ h => by cases h) frameReads_row_tie rfl ⟨rfl, rfl⟩ main_is rfl
    (fun f fn hf hfn => by
      obtain rfl : f = 5 := Option.some.inj (named_frameReads.symm.trans hf) |>.symm
      obtain rfl : fn = Tryz.f5 := (Option.some.inj (Tryz.func5.symm.trans hfn)).symm
      exact ⟨looks_is, fun j t ht => by
        rw [Tryz.params5] at ht
        have h3 : t = 22 := by
          rcases j with _ | j
          · simpa using ht.symm
          · simp at ht
        rw [h3]
        exact want22⟩)
    goes_frameReads
end Go.Proofs.YtemmcnbfajlljaaGreatDoor
