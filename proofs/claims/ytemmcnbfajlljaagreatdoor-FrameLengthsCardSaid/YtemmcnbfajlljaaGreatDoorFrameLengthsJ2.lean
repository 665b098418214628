/- FrameLengths: the closed facts of the row. -/
import Derived.Test.YtemmcnbfajlljaaGreatDoorRows
import Derived.JoinedOf
namespace Go.Proofs.YtemmcnbfajlljaaGreatDoor
open Go
theorem jf9_frameLengths : ((Rows.frameLengthsRow.inPlace == Tryz.prog.inPlace 3)) = true := by kernel_rfl
theorem jf26_frameLengths : ((Rows.frameLengthsRow.lifted == Tryz.prog.liftsFinal)) = true := by kernel_rfl
theorem jf27_frameLengths : ((Tryz.prog.make == some Rows.frameLengthsRow.make)) = true := by kernel_rfl
end Go.Proofs.YtemmcnbfajlljaaGreatDoor
