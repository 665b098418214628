/- FrameReads: the closed facts of the row. -/
import Derived.Test.YtemmcnbfajlljaaGreatDoorRows
import Derived.JoinedOf
namespace Go.Proofs.YtemmcnbfajlljaaGreatDoor
open Go
theorem jf12_frameReads : ((Rows.frameReadsRow.named == Tryz.prog.varsNamed 5)) = true := by kernel_rfl
theorem jf22_frameReads : ((Rows.frameReadsRow.plainKeys == Tryz.prog.plainKeys)) = true := by kernel_rfl
end Go.Proofs.YtemmcnbfajlljaaGreatDoor
