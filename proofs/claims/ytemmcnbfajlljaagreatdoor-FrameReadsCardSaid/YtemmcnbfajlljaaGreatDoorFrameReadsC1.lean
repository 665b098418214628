/- FrameReads: a closed fact of the card. -/
import Derived.Test.YtemmcnbfajlljaaGreatDoorRows
import Derived.SevenTiedAt
namespace Go.Proofs.YtemmcnbfajlljaaGreatDoor
open Go
theorem goes_frameReads : false = Rows.frameReadsRow.goesBy Tryz.pinned.checked.prog := by kernel_rfl
end Go.Proofs.YtemmcnbfajlljaaGreatDoor
