/- FrameParses: the closed facts of the row. -/
import Derived.Test.YtemmcnbfajlljaaGreatDoorFrameParsesJ1
import Derived.Test.YtemmcnbfajlljaaGreatDoorFrameParsesJ2
import Derived.Test.YtemmcnbfajlljaaGreatDoorFrameParsesJ3
import Derived.Test.YtemmcnbfajlljaaGreatDoorFrameParsesJ4
import Derived.Test.YtemmcnbfajlljaaGreatDoorFrameParsesJ5
import Derived.Test.YtemmcnbfajlljaaGreatDoorFrameParsesJ6
namespace Go.Proofs.YtemmcnbfajlljaaGreatDoor
open Go
theorem and_t {a b : Bool} (x : a = true) (y : b = true) : (a && b) = true := by rw [x, y]; rfl
set_option maxRecDepth 100000 in
theorem closed_frameParses : joinedFacts Tryz.prog 4 Tryz.f4 Rows.frameParsesSpec Rows.frameParsesRow = true := by
  unfold joinedFacts
  exact and_t (and_t (and_t (and_t (and_t (and_t (and_t (and_t (and_t (and_t (and_t (and_t (and_t (and_t (and_t (and_t (and_t (and_t (and_t (and_t (and_t (and_t (and_t (and_t (and_t (and_t (and_t (and_t (and_t (and_t (and_t (jf0_frameParses) jf1_frameParses) jf2_frameParses) jf3_frameParses) jf4_frameParses) jf5_frameParses) jf6_frameParses) jf7_frameParses) jf8_frameParses) jf9_frameParses) jf10_frameParses) jf11_frameParses) jf12_frameParses) jf13_frameParses) jf14_frameParses) jf15_frameParses) jf16_frameParses) jf17_frameParses) jf18_frameParses) jf19_frameParses) jf20_frameParses) jf21_frameParses) jf22_frameParses) jf23_frameParses) jf24_frameParses) jf25_frameParses) jf26_frameParses) jf27_frameParses) jf28_frameParses) jf29_frameParses) jf30_frameParses) jf31_frameParses
end Go.Proofs.YtemmcnbfajlljaaGreatDoor
