/- FrameLengths of tidepolelaw24: for every number and all bytes behind it the law returns true, and all that lay in memory lies there as it did. Conditions: those of the row alone (its listed package-level variables hold what the program lays). -/
import Derived.Test.YtemmcnbfajlljaaGreatDoorLnh
import Derived.Test.YtemmcnbfajlljaaGreatDoorFrameLengthsC1
import Derived.Test.YtemmcnbfajlljaaGreatDoorTie
import Derived.Test.YtemmcnbfajlljaaGreatDoorCards
import Derived.SevenTiedAt
namespace Go.Proofs.YtemmcnbfajlljaaGreatDoor
open Go Go.TP Go.TP.Ry Go.ChangeShapes Go.WideShapes Go.RowKit
theorem main_is : Tryz.pinned.checked.prog.mainIs = some (true, "7fefa313078983177bef06bc48eb6285a65052d44a91846d33534628620797e9".toList) := by kernel_rfl
theorem looks_is : true = Tryz.pinned.checked.prog.looks [] := by kernel_rfl
theorem want3 : Tryz.prog.wantsStandIn 3 = false := by kernel_rfl
theorem want22 : Tryz.prog.wantsStandIn 22 = false := by kernel_rfl
theorem named_frameLengths : Tryz.prog.funcNamed "tidepole/tidepolelaw24.FrameLengths" = some 3 := by kernel_rfl
theorem wf_frameLengths : Rows.frameLengthsRow.wfByText (OpenSpec.ofChange Rows.frameLengthsSpec) = true := by kernel_rfl
/-- THE TIED CARD. -/
theorem lens_card : Rows.FrameLengthsCardSaid :=
  Claim7.holds_tied_plain_at .later [] [.data, .handle, .sentinel, .data] true (true, "7fefa313078983177bef06bc48eb6285a65052d44a91846d33534628620797e9") true
    lens_holds (fun _ h => by cases h) wf_frameLengths (fun _ h => by cases h) frameLengths_row_tie rfl ⟨rfl, rfl⟩ main_is rfl
    (fun f fn hf hfn => by
      obtain rfl : f = 3 := Option.some.inj (named_frameLengths.symm.trans hf) |>.symm
      obtain rfl : fn = Tryz.f3 := (Option.some.inj (Tryz.func3.symm.trans hfn)).symm
      exact ⟨looks_is, fun j t ht => by
        rw [Tryz.params3] at ht
        have h3 : t = 3 ∨ t = 22 := by
          rcases j with _ | _ | j
          · left; simpa using ht.symm
          · right; simpa using ht.symm
          · simp at ht
        rcases h3 with rfl | rfl
        · exact want3
        · exact want22⟩)
    goes_frameLengths
end Go.Proofs.YtemmcnbfajlljaaGreatDoor
