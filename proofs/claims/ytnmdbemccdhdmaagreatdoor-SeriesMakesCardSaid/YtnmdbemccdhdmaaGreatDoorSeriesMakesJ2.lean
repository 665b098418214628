/- SeriesMakes: the closed facts of the row. -/
import Derived.Test.YtnmdbemccdhdmaaGreatDoorRows
import Derived.JoinedOf
namespace Go.Proofs.YtnmdbemccdhdmaaGreatDoor
open Go
theorem jf9_seriesMakes : ((Rows.seriesMakesRow.inPlace == Tryz.prog.inPlace 4)) = true := by kernel_rfl
theorem jf26_seriesMakes : ((Rows.seriesMakesRow.lifted == Tryz.prog.liftsFinal)) = true := by kernel_rfl
theorem jf27_seriesMakes : ((Tryz.prog.make == some Rows.seriesMakesRow.make)) = true := by kernel_rfl
end Go.Proofs.YtnmdbemccdhdmaaGreatDoor
