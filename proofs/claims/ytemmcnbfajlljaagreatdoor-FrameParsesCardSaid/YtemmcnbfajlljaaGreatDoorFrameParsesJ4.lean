/- FrameParses: the closed facts of the row. -/
import Derived.Test.YtemmcnbfajlljaaGreatDoorRows
import Derived.JoinedOf
namespace Go.Proofs.YtemmcnbfajlljaaGreatDoor
open Go
theorem jf12_frameParses : ((Rows.frameParsesRow.named == Tryz.prog.varsNamed 4)) = true := by kernel_rfl
theorem jf22_frameParses : ((Rows.frameParsesRow.plainKeys == Tryz.prog.plainKeys)) = true := by kernel_rfl
end Go.Proofs.YtemmcnbfajlljaaGreatDoor
