/- FrameLengths: the row. -/
import Derived.Test.YtemmcnbfajlljaaGreatDoorLnl
import Derived.Test.YtemmcnbfajlljaaGreatDoorFrameLengthsJf
namespace Go.Proofs.YtemmcnbfajlljaaGreatDoor
open Go Go.TP Go.TP.Ry Go.ChangeShapes Go.WideShapes Go.RowKit
theorem lens_holds : Rows.FrameLengthsSaid :=
  OpenClaim.holds_of_wide 3 Tryz.f3 rfl rfl rfl rfl rfl rfl rfl ⟨rfl, rfl, rfl, rfl, rfl⟩ rfl rfl rfl rfl rfl (by kernel_rfl) Tryz.func3 closed_frameLengths
    (of_decide_eq_true (by kernel_rfl)) (by unfold Func.isWrapper; rw [if_neg (of_decide_eq_false (by kernel_rfl))]; exact ⟨rfl, rfl⟩)
    (fun os started H enc _ => lens_lifted os started H enc)
end Go.Proofs.YtemmcnbfajlljaaGreatDoor
