/- SeriesMakes: the closed facts of the row. -/
import Derived.Test.YtnmdbemccdhdmaaGreatDoorRows
import Derived.JoinedOf
namespace Go.Proofs.YtnmdbemccdhdmaaGreatDoor
open Go
theorem jf2_seriesMakes : (mapsRowed Tryz.prog) = true := by kernel_rfl
theorem jf25_seriesMakes : (Tryz.prog.mayEnter) = true := by kernel_rfl
end Go.Proofs.YtnmdbemccdhdmaaGreatDoor
