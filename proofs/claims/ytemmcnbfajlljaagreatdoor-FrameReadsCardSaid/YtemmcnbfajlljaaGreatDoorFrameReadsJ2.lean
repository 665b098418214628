/- FrameReads: the closed facts of the row. -/
import Derived.Test.YtemmcnbfajlljaaGreatDoorRows
import Derived.JoinedOf
namespace Go.Proofs.YtemmcnbfajlljaaGreatDoor
open Go
theorem jf9_frameReads : ((Rows.frameReadsRow.inPlace == Tryz.prog.inPlace 5)) = true := by kernel_rfl
theorem jf26_frameReads : ((Rows.frameReadsRow.lifted == Tryz.prog.liftsFinal)) = true := by kernel_rfl
theorem jf27_frameReads : ((Tryz.prog.make == some Rows.frameReadsRow.make)) = true := by kernel_rfl
end Go.Proofs.YtemmcnbfajlljaaGreatDoor
