/- FrameReads: the closed facts of the row. -/
import Derived.Test.YtemmcnbfajlljaaGreatDoorRows
import Derived.JoinedOf
namespace Go.Proofs.YtemmcnbfajlljaaGreatDoor
open Go
theorem jf2_frameReads : (mapsRowed Tryz.prog) = true := by kernel_rfl
theorem jf25_frameReads : (Tryz.prog.mayEnter) = true := by kernel_rfl
end Go.Proofs.YtemmcnbfajlljaaGreatDoor
