/- FrameLengths: the closed facts of the row. -/
import Derived.Test.YtemmcnbfajlljaaGreatDoorRows
import Derived.JoinedOf
namespace Go.Proofs.YtemmcnbfajlljaaGreatDoor
open Go
theorem jf2_frameLengths : (mapsRowed Tryz.prog) = true := by kernel_rfl
theorem jf25_frameLengths : (Tryz.prog.mayEnter) = true := by kernel_rfl
end Go.Proofs.YtemmcnbfajlljaaGreatDoor
