/- SeriesMakes of tidepolelaw22: for every variant and every limits the law returns true, and all that lay in memory lies there as it did. Conditions: those of the row alone (its listed package-level variables hold what the program lays). -/
import Derived.Test.YtnmdbemccdhdmaaGreatDoorMkh
import Derived.Test.YtnmdbemccdhdmaaGreatDoorSeriesMakesC1
import Derived.Test.YtnmdbemccdhdmaaGreatDoorTie
import Derived.Test.YtnmdbemccdhdmaaGreatDoorCards
import Derived.SevenTiedAt
namespace Go.Proofs.YtnmdbemccdhdmaaGreatDoor
open Go Go.TP Go.TP.Ry Go.ChangeShapes Go.WideShapes Go.RowKit
theorem main_is : Tryz.pinned.checked.prog.mainIs = some (true, "6b41186cb60e981ce5393b55c8d14b3ac83c177b83ef377080da6fd4bd329a70".toList) := by kernel_rfl
theorem looks_is : true = Tryz.pinned.checked.prog.looks [] := by kernel_rfl
theorem want3 : Tryz.prog.wantsStandIn 3 = false := by kernel_rfl
theorem want23 : Tryz.prog.wantsStandIn 23 = false := by kernel_rfl
theorem named_seriesMakes : Tryz.prog.funcNamed "tidepole/tidepolelaw22.SeriesMakes" = some 4 := by kernel_rfl
theorem wf_seriesMakes : Rows.seriesMakesRow.wfByText (OpenSpec.ofChange Rows.seriesMakesSpec) = true := by kernel_rfl
/-- THE TIED CARD. -/
theorem makes_card : Rows.SeriesMakesCardSaid :=
  Claim7.holds_tied_plain_at .later [] [.data, .handle, .sentinel, .data] true (true, "6b41186cb60e981ce5393b55c8d14b3ac83c177b83ef377080da6fd4bd329a70") true
    makes_holds (fun _ h => by cases h) wf_seriesMakes (fun _ h => by cases h) seriesMakes_row_tie rfl ⟨rfl, rfl⟩ main_is rfl
    (fun f fn hf hfn => by
      obtain rfl : f = 4 := Option.some.inj (named_seriesMakes.symm.trans hf) |>.symm
      obtain rfl : fn = Tryz.f4 := (Option.some.inj (Tryz.func4.symm.trans hfn)).symm
      exact ⟨looks_is, fun j t ht => by
        rw [Tryz.params4] at ht
        have h3 : t = 3 ∨ t = 23 := by
          rcases j with _ | _ | j
          · left; simpa using ht.symm
          · right; simpa using ht.symm
          · simp at ht
        rcases h3 with rfl | rfl
        · exact want3
        · exact want23⟩)
    goes_seriesMakes
end Go.Proofs.YtnmdbemccdhdmaaGreatDoor
