/- FrameParses: the row. -/
import Derived.Test.YtemmcnbfajlljaaGreatDoorPsl
import Derived.Test.YtemmcnbfajlljaaGreatDoorFrameParsesJf
namespace Go.Proofs.YtemmcnbfajlljaaGreatDoor
open Go Go.TP Go.TP.Ry Go.ChangeShapes Go.WideShapes Go.RowKit
theorem parses_holds : Rows.FrameParsesSaid :=
  OpenClaim.holds_of_wide 4 Tryz.f4 rfl rfl rfl rfl rfl rfl rfl ⟨rfl, rfl, rfl, rfl, rfl⟩ rfl rfl rfl rfl rfl (by kernel_rfl) Tryz.func4 closed_frameParses
    (of_decide_eq_true (by kernel_rfl)) (by unfold Func.isWrapper; rw [if_neg (of_decide_eq_false (by kernel_rfl))]; exact ⟨rfl, rfl⟩)
    (fun os started H enc _ => parses_lifted os started H enc)
end Go.Proofs.YtemmcnbfajlljaaGreatDoor
