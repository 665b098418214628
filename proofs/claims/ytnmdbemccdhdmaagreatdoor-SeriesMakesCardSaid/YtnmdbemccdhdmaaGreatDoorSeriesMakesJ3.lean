/- SeriesMakes: the closed facts of the row. -/
import Derived.Test.YtnmdbemccdhdmaaGreatDoorRows
import Derived.JoinedOf
namespace Go.Proofs.YtnmdbemccdhdmaaGreatDoor
open Go
theorem jf10_seriesMakes : ((Rows.seriesMakesRow.unfollowed == Tryz.prog.unfollowed 4)) = true := by kernel_rfl
theorem jf11_seriesMakes : ((Rows.seriesMakesRow.recurses == Tryz.prog.recurses 4)) = true := by kernel_rfl
end Go.Proofs.YtnmdbemccdhdmaaGreatDoor
