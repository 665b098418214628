/- FrameLengths: the closed facts of the row. -/
import Derived.Test.YtemmcnbfajlljaaGreatDoorRows
import Derived.JoinedOf
namespace Go.Proofs.YtemmcnbfajlljaaGreatDoor
open Go
theorem jf10_frameLengths : ((Rows.frameLengthsRow.unfollowed == Tryz.prog.unfollowed 3)) = true := by kernel_rfl
theorem jf11_frameLengths : ((Rows.frameLengthsRow.recurses == Tryz.prog.recurses 3)) = true := by kernel_rfl
end Go.Proofs.YtemmcnbfajlljaaGreatDoor
