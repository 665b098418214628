/- FrameReads: the closed facts of the row. -/
import Derived.Test.YtemmcnbfajlljaaGreatDoorRows
import Derived.JoinedOf
namespace Go.Proofs.YtemmcnbfajlljaaGreatDoor
open Go
theorem jf10_frameReads : ((Rows.frameReadsRow.unfollowed == Tryz.prog.unfollowed 5)) = true := by kernel_rfl
theorem jf11_frameReads : ((Rows.frameReadsRow.recurses == Tryz.prog.recurses 5)) = true := by kernel_rfl
end Go.Proofs.YtemmcnbfajlljaaGreatDoor
