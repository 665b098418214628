/- SeriesMakes: the closed facts of the row. -/
import Derived.Test.YtnmdbemccdhdmaaGreatDoorRows
import Derived.JoinedOf
namespace Go.Proofs.YtnmdbemccdhdmaaGreatDoor
open Go
theorem jf0_seriesMakes : (Rows.seriesMakesRow.wf (OpenSpec.ofChange Rows.seriesMakesSpec)) = true := by kernel_rfl
theorem jf3_seriesMakes : (Tryz.f4.params.all (Tryz.prog.readableRec ·)) = true := by kernel_rfl
theorem jf4_seriesMakes : (namedTie Tryz.prog Rows.seriesMakesRow.named Rows.seriesMakesSpec.vars) = true := by kernel_rfl
theorem jf5_seriesMakes : ((Rows.seriesMakesRow.stops == [])) = true := by kernel_rfl
theorem jf6_seriesMakes : ((Tryz.prog.stops == [])) = true := by kernel_rfl
theorem jf7_seriesMakes : ((Rows.seriesMakesRow.knobs == [])) = true := by kernel_rfl
theorem jf8_seriesMakes : ((Tryz.prog.stopKnobs == [])) = true := by kernel_rfl
theorem jf13_seriesMakes : ((Rows.seriesMakesRow.maps == (Tryz.f4.params.toList ++ Rows.seriesMakesSpec.plain.varTypes Tryz.prog).any (Tryz.prog.mapsRec ·))) = true := by kernel_rfl
theorem jf14_seriesMakes : ((Rows.seriesMakesRow.ifaces == (Tryz.f4.params.toList ++ Rows.seriesMakesSpec.plain.varTypes Tryz.prog).any (Tryz.prog.ifacesRec ·))) = true := by kernel_rfl
theorem jf15_seriesMakes : ((Rows.seriesMakesRow.mapsOut == Tryz.prog.mapsAmong Tryz.f4.resultTypes.toList)) = true := by kernel_rfl
theorem jf16_seriesMakes : ((Rows.seriesMakesRow.loops == (Tryz.f4.params.toList ++ Rows.seriesMakesSpec.plain.varTypes Tryz.prog).any (Tryz.prog.loopsFrom ·))) = true := by kernel_rfl
theorem jf17_seriesMakes : ((Rows.seriesMakesRow.wideKeys == (Tryz.f4.params.toList ++ Rows.seriesMakesSpec.plain.varTypes Tryz.prog ++ Tryz.f4.resultTypes.toList).any (Tryz.prog.wideKeysFrom ·))) = true := by kernel_rfl
theorem jf18_seriesMakes : (Rows.seriesMakesSpec.vars.all (Tryz.prog.varReadable ·)) = true := by kernel_rfl
theorem jf19_seriesMakes : (Tryz.f4.resultTypes.all (fun t => Tryz.prog.readableRec t && decide (t < Tryz.prog.types.size))) = true := by kernel_rfl
theorem jf20_seriesMakes : ((Rows.seriesMakesRow.ifacesOut == Tryz.f4.resultTypes.toList.any (Tryz.prog.ifacesRec ·))) = true := by kernel_rfl
theorem jf21_seriesMakes : ((Rows.seriesMakesRow.loopsOut == Tryz.f4.resultTypes.toList.any (Tryz.prog.loopsFrom ·))) = true := by kernel_rfl
theorem jf23_seriesMakes : (Rows.seriesMakesRow.shortTexts.isNone) = true := by kernel_rfl
theorem jf28_seriesMakes : ((Rows.seriesMakesRow.kinds == (if Rows.seriesMakesRow.domain.isEmpty then [] else Tryz.f4.params.toList.map fun t => match Tryz.prog.underlying t with | some (.int k) => some k | _ => none))) = true := by kernel_rfl
theorem jf29_seriesMakes : ((Rows.seriesMakesRow.pinned == Rows.seriesMakesRow.pinnedBy)) = true := by kernel_rfl
theorem jf30_seriesMakes : ((Rows.seriesMakesRow.veiled == (Tryz.f4.params.toList ++ Rows.seriesMakesSpec.plain.varTypes Tryz.prog ++ Tryz.f4.resultTypes.toList).any (Tryz.prog.veiledRec ·))) = true := by kernel_rfl
theorem jf31_seriesMakes : (Rows.seriesMakesRow.veiledFits Tryz.prog Tryz.f4.params.toList (Tryz.f4.params.toList ++ Rows.seriesMakesSpec.plain.varTypes Tryz.prog ++ Tryz.f4.resultTypes.toList)) = true := by kernel_rfl
end Go.Proofs.YtnmdbemccdhdmaaGreatDoor
