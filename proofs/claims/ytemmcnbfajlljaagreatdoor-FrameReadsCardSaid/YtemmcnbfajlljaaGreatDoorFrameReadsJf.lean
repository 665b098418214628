/- FrameReads: the closed facts of the row. -/
import Derived.Test.YtemmcnbfajlljaaGreatDoorFrameReadsJ1
import Derived.Test.YtemmcnbfajlljaaGreatDoorFrameReadsJ2
import Derived.Test.YtemmcnbfajlljaaGreatDoorFrameReadsJ3
import Derived.Test.YtemmcnbfajlljaaGreatDoorFrameReadsJ4
import Derived.Test.YtemmcnbfajlljaaGreatDoorFrameReadsJ5
import Derived.Test.YtemmcnbfajlljaaGreatDoorFrameReadsJ6
namespace Go.Proofs.YtemmcnbfajlljaaGreatDoor
open Go
theorem and_t {a b : Bool} (x : a = true) (y : b = true) : (a && b) = true := by rw [x, y]; rfl
set_option maxRecDepth 100000 in
theorem closed_frameReads : joinedFacts Tryz.prog 5 Tryz.f5 Rows.frameReadsSpec Rows.frameReadsRow = true := by
  unfold joinedFacts
  exact and_t (and_t (and_t (and_t (and_t (and_t (and_t (and_t (and_t (and_t (and_t (and_t (and_t (and_t (and_t (and_t (and_t (and_t (and_t (and_t (and_t (and_t (and_t (and_t (and_t (and_t (and_t (and_t (and_t (and_t (and_t (jf0_frameReads) jf1_frameReads) jf2_frameReads) jf3_frameReads) jf4_frameReads) jf5_frameReads) jf6_frameReads) jf7_frameReads) jf8_frameReads) jf9_frameReads) jf10_frameReads) jf11_frameReads) jf12_frameReads) jf13_frameReads) jf14_frameReads) jf15_frameReads) jf16_frameReads) jf17_frameReads) jf18_frameReads) jf19_frameReads) jf20_frameReads) jf21_frameReads) jf22_frameReads) jf23_frameReads) jf24_frameReads) jf25_frameReads) jf26_frameReads) jf27_frameReads) jf28_frameReads) jf29_frameReads) jf30_frameReads) jf31_frameReads
end Go.Proofs.YtemmcnbfajlljaaGreatDoor
