/- FrameReads: the row. -/
import Derived.Test.YtemmcnbfajlljaaGreatDoorRdl
import Derived.Test.YtemmcnbfajlljaaGreatDoorFrameReadsJf
namespace Go.Proofs.YtemmcnbfajlljaaGreatDoor
open Go Go.TP Go.TP.Ry Go.ChangeShapes Go.WideShapes Go.RowKit
theorem reads_holds : Rows.FrameReadsSaid :=
  OpenClaim.holds_of_wide 5 Tryz.f5 rfl rfl rfl rfl rfl rfl rfl ⟨rfl, rfl, rfl, rfl, rfl⟩ rfl rfl rfl rfl rfl (by kernel_rfl) Tryz.func5 closed_frameReads
    (of_decide_eq_true (by kernel_rfl)) (by unfold Func.isWrapper; rw [if_neg (of_decide_eq_false (by kernel_rfl))]; exact ⟨rfl, rfl⟩)
    (fun os started H enc _ => reads_lifted os started H enc)
end Go.Proofs.YtemmcnbfajlljaaGreatDoor
