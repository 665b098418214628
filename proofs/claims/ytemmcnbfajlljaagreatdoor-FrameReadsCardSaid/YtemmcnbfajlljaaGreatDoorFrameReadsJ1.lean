/- FrameReads: the closed facts of the row. -/
import Derived.Test.YtemmcnbfajlljaaGreatDoorRows
import Derived.JoinedOf
namespace Go.Proofs.YtemmcnbfajlljaaGreatDoor
open Go
theorem jf1_frameReads : (laidOutB Tryz.prog) = true := by kernel_rfl
theorem jf24_frameReads : (Tryz.prog.stopsHeard) = true := by kernel_rfl
end Go.Proofs.YtemmcnbfajlljaaGreatDoor
