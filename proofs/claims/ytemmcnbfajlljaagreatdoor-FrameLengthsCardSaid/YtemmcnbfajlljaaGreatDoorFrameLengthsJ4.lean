/- FrameLengths: the closed facts of the row. -/
import Derived.Test.YtemmcnbfajlljaaGreatDoorRows
import Derived.JoinedOf
namespace Go.Proofs.YtemmcnbfajlljaaGreatDoor
open Go
theorem jf12_frameLengths : ((Rows.frameLengthsRow.named == Tryz.prog.varsNamed 3)) = true := by kernel_rfl
theorem jf22_frameLengths : ((Rows.frameLengthsRow.plainKeys == Tryz.prog.plainKeys)) = true := by kernel_rfl
end Go.Proofs.YtemmcnbfajlljaaGreatDoor
