/- FrameParses: the closed facts of the row. -/
import Derived.Test.YtemmcnbfajlljaaGreatDoorRows
import Derived.JoinedOf
namespace Go.Proofs.YtemmcnbfajlljaaGreatDoor
open Go
theorem jf10_frameParses : ((Rows.frameParsesRow.unfollowed == Tryz.prog.unfollowed 4)) = true := by kernel_rfl
theorem jf11_frameParses : ((Rows.frameParsesRow.recurses == Tryz.prog.recurses 4)) = true := by kernel_rfl
end Go.Proofs.YtemmcnbfajlljaaGreatDoor
