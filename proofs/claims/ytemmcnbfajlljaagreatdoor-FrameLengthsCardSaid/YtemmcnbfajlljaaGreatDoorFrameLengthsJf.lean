/- FrameLengths: the closed facts of the row. -/
import Derived.Test.YtemmcnbfajlljaaGreatDoorFrameLengthsJ1
import Derived.Test.YtemmcnbfajlljaaGreatDoorFrameLengthsJ2
import Derived.Test.YtemmcnbfajlljaaGreatDoorFrameLengthsJ3
import Derived.Test.YtemmcnbfajlljaaGreatDoorFrameLengthsJ4
import Derived.Test.YtemmcnbfajlljaaGreatDoorFrameLengthsJ5
import Derived.Test.YtemmcnbfajlljaaGreatDoorFrameLengthsJ6
namespace Go.Proofs.YtemmcnbfajlljaaGreatDoor
open Go
theorem and_t {a b : Bool} (x : a = true) (y : b = true) : (a && b) = true := by rw [x, y]; rfl
set_option maxRecDepth 100000 in
theorem closed_frameLengths : joinedFacts Tryz.prog 3 Tryz.f3 Rows.frameLengthsSpec Rows.frameLengthsRow = true := by
  unfold joinedFacts
  exact and_t (and_t (and_t (and_t (and_t (and_t (and_t (and_t (and_t (and_t (and_t (and_t (and_t (and_t (and_t (and_t (and_t (and_t (and_t (and_t (and_t (and_t (and_t (and_t (and_t (and_t (and_t (and_t (and_t (and_t (and_t (jf0_frameLengths) jf1_frameLengths) jf2_frameLengths) jf3_frameLengths) jf4_frameLengths) jf5_frameLengths) jf6_frameLengths) jf7_frameLengths) jf8_frameLengths) jf9_frameLengths) jf10_frameLengths) jf11_frameLengths) jf12_frameLengths) jf13_frameLengths) jf14_frameLengths) jf15_frameLengths) jf16_frameLengths) jf17_frameLengths) jf18_frameLengths) jf19_frameLengths) jf20_frameLengths) jf21_frameLengths) jf22_frameLengths) jf23_frameLengths) jf24_frameLengths) jf25_frameLengths) jf26_frameLengths) jf27_frameLengths) jf28_frameLengths) jf29_frameLengths) jf30_frameLengths) jf31_frameLengths
end Go.Proofs.YtemmcnbfajlljaaGreatDoor
