/- SeriesMakes: a closed fact of the card. -/
import Derived.Test.YtnmdbemccdhdmaaGreatDoorRows
import Derived.SevenTiedAt
namespace Go.Proofs.YtnmdbemccdhdmaaGreatDoor
open Go
theorem goes_seriesMakes : false = Rows.seriesMakesRow.goesBy Tryz.pinned.checked.prog := by kernel_rfl
end Go.Proofs.YtnmdbemccdhdmaaGreatDoor
