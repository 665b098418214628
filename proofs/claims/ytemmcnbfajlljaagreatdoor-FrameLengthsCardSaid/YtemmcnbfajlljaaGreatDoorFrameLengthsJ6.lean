/- FrameLengths: the closed facts of the row. -/
import Derived.Test.YtemmcnbfajlljaaGreatDoorRows
import Derived.JoinedOf
namespace Go.Proofs.YtemmcnbfajlljaaGreatDoor
open Go
theorem jf0_frameLengths : (Rows.frameLengthsRow.wf (OpenSpec.ofChange Rows.frameLengthsSpec)) = true := by kernel_rfl
theorem jf3_frameLengths : (Tryz.f3.params.all (Tryz.prog.readableRec ·)) = true := by kernel_rfl
theorem jf4_frameLengths : (namedTie Tryz.prog Rows.frameLengthsRow.named Rows.frameLengthsSpec.vars) = true := by kernel_rfl
theorem jf5_frameLengths : ((Rows.frameLengthsRow.stops == [])) = true := by kernel_rfl
theorem jf6_frameLengths : ((Tryz.prog.stops == [])) = true := by kernel_rfl
theorem jf7_frameLengths : ((Rows.frameLengthsRow.knobs == [])) = true := by kernel_rfl
theorem jf8_frameLengths : ((Tryz.prog.stopKnobs == [])) = true := by kernel_rfl
theorem jf13_frameLengths : ((Rows.frameLengthsRow.maps == (Tryz.f3.params.toList ++ Rows.frameLengthsSpec.plain.varTypes Tryz.prog).any (Tryz.prog.mapsRec ·))) = true := by kernel_rfl
theorem jf14_frameLengths : ((Rows.frameLengthsRow.ifaces == (Tryz.f3.params.toList ++ Rows.frameLengthsSpec.plain.varTypes Tryz.prog).any (Tryz.prog.ifacesRec ·))) = true := by kernel_rfl
theorem jf15_frameLengths : ((Rows.frameLengthsRow.mapsOut == Tryz.prog.mapsAmong Tryz.f3.resultTypes.toList)) = true := by kernel_rfl
theorem jf16_frameLengths : ((Rows.frameLengthsRow.loops == (Tryz.f3.params.toList ++ Rows.frameLengthsSpec.plain.varTypes Tryz.prog).any (Tryz.prog.loopsFrom ·))) = true := by kernel_rfl
theorem jf17_frameLengths : ((Rows.frameLengthsRow.wideKeys == (Tryz.f3.params.toList ++ Rows.frameLengthsSpec.plain.varTypes Tryz.prog ++ Tryz.f3.resultTypes.toList).any (Tryz.prog.wideKeysFrom ·))) = true := by kernel_rfl
theorem jf18_frameLengths : (Rows.frameLengthsSpec.vars.all (Tryz.prog.varReadable ·)) = true := by kernel_rfl
theorem jf19_frameLengths : (Tryz.f3.resultTypes.all (fun t => Tryz.prog.readableRec t && decide (t < Tryz.prog.types.size))) = true := by kernel_rfl
theorem jf20_frameLengths : ((Rows.frameLengthsRow.ifacesOut == Tryz.f3.resultTypes.toList.any (Tryz.prog.ifacesRec ·))) = true := by kernel_rfl
theorem jf21_frameLengths : ((Rows.frameLengthsRow.loopsOut == Tryz.f3.resultTypes.toList.any (Tryz.prog.loopsFrom ·))) = true := by kernel_rfl
theorem jf23_frameLengths : (Rows.frameLengthsRow.shortTexts.isNone) = true := by kernel_rfl
theorem jf28_frameLengths : ((Rows.frameLengthsRow.kinds == (if Rows.frameLengthsRow.domain.isEmpty then [] else Tryz.f3.params.toList.map fun t => match Tryz.prog.underlying t with | some (.int k) => some k | _ => none))) = true := by kernel_rfl
theorem jf29_frameLengths : ((Rows.frameLengthsRow.pinned == Rows.frameLengthsRow.pinnedBy)) = true := by kernel_rfl
theorem jf30_frameLengths : ((Rows.frameLengthsRow.veiled == (Tryz.f3.params.toList ++ Rows.frameLengthsSpec.plain.varTypes Tryz.prog ++ Tryz.f3.resultTypes.toList).any (Tryz.prog.veiledRec ·))) = true := by kernel_rfl
theorem jf31_frameLengths : (Rows.frameLengthsRow.veiledFits Tryz.prog Tryz.f3.params.toList (Tryz.f3.params.toList ++ Rows.frameLengthsSpec.plain.varTypes Tryz.prog ++ Tryz.f3.resultTypes.toList)) = true := by kernel_rfl
end Go.Proofs.YtemmcnbfajlljaaGreatDoor
