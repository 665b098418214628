/- FrameParses: the closed facts of the row. -/
import Derived.Test.YtemmcnbfajlljaaGreatDoorRows
import Derived.JoinedOf
namespace Go.Proofs.YtemmcnbfajlljaaGreatDoor
open Go
theorem jf9_frameParses : ((Rows.frameParsesRow.inPlace == Tryz.prog.inPlace 4)) = true := by kernel_rfl
theorem jf26_frameParses : ((Rows.frameParsesRow.lifted == Tryz.prog.liftsFinal)) = true := by kernel_rfl
theorem jf27_frameParses : ((Tryz.prog.make == some Rows.frameParsesRow.make)) = true := by kernel_rfl
end Go.Proofs.YtemmcnbfajlljaaGreatDoor
