/- SeriesMakes: the closed facts of the row. -/
import Derived.Test.YtnmdbemccdhdmaaGreatDoorRows
import Derived.JoinedOf
namespace Go.Proofs.YtnmdbemccdhdmaaGreatDoor
open Go
theorem jf1_seriesMakes : (laidOutB Tryz.prog) = true := by kernel_rfl
theorem jf24_seriesMakes : (Tryz.prog.stopsHeard) = true := by kernel_rfl
end Go.Proofs.YtnmdbemccdhdmaaGreatDoor
