/- SeriesMakes: the closed facts of the row. -/
import Derived.Test.YtnmdbemccdhdmaaGreatDoorSeriesMakesJ1
import Derived.Test.YtnmdbemccdhdmaaGreatDoorSeriesMakesJ2
import Derived.Test.YtnmdbemccdhdmaaGreatDoorSeriesMakesJ3
import Derived.Test.YtnmdbemccdhdmaaGreatDoorSeriesMakesJ4
import Derived.Test.YtnmdbemccdhdmaaGreatDoorSeriesMakesJ5
import Derived.Test.YtnmdbemccdhdmaaGreatDoorSeriesMakesJ6
namespace Go.Proofs.YtnmdbemccdhdmaaGreatDoor
open Go
theorem and_t {a b : Bool} (x : a = true) (y : b = true) : (a && b) = true := by rw [x, y]; rfl
set_option maxRecDepth 100000 in
theorem closed_seriesMakes : joinedFacts Tryz.prog 4 Tryz.f4 Rows.seriesMakesSpec Rows.seriesMakesRow = true := by
  unfold joinedFacts
  exact and_t (and_t (and_t (and_t (and_t (and_t (and_t (and_t (and_t (and_t (and_t (and_t (and_t (and_t (and_t (and_t (and_t (and_t (and_t (and_t (and_t (and_t (and_t (and_t (and_t (and_t (and_t (and_t (and_t (and_t (and_t (jf0_seriesMakes) jf1_seriesMakes) jf2_seriesMakes) jf3_seriesMakes) jf4_seriesMakes) jf5_seriesMakes) jf6_seriesMakes) jf7_seriesMakes) jf8_seriesMakes) jf9_seriesMakes) jf10_seriesMakes) jf11_seriesMakes) jf12_seriesMakes) jf13_seriesMakes) jf14_seriesMakes) jf15_seriesMakes) jf16_seriesMakes) jf17_seriesMakes) jf18_seriesMakes) jf19_seriesMakes) jf20_seriesMakes) jf21_seriesMakes) jf22_seriesMakes) jf23_seriesMakes) jf24_seriesMakes) jf25_seriesMakes) jf26_seriesMakes) jf27_seriesMakes) jf28_seriesMakes) jf29_seriesMakes) jf30_seriesMakes) jf31_seriesMakes
end Go.Proofs.YtnmdbemccdhdmaaGreatDoor
