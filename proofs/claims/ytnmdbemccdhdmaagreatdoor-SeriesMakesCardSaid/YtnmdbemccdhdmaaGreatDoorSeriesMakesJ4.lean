/- SeriesMakes: the closed facts of the row. -/
import Derived.Test.YtnmdbemccdhdmaaGreatDoorRows
import Derived.JoinedOf
namespace Go.Proofs.YtnmdbemccdhdmaaGreatDoor
open Go
theorem jf12_seriesMakes : ((Rows.seriesMakesRow.named == Tryz.prog.varsNamed 4)) = true := by kernel_rfl
theorem jf22_seriesMakes : ((Rows.seriesMakesRow.plainKeys == Tryz.prog.plainKeys)) = true := by kernel_rfl
end Go.Proofs.YtnmdbemccdhdmaaGreatDoor
