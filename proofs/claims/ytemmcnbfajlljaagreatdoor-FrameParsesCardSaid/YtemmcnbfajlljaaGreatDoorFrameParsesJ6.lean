/- FrameParses: the closed facts of the row. -/
import Derived.Test.YtemmcnbfajlljaaGreatDoorRows
import Derived.JoinedOf
namespace Go.Proofs.YtemmcnbfajlljaaGreatDoor
open Go
theorem jf0_frameParses : (Rows.frameParsesRow.wf (OpenSpec.ofChange Rows.frameParsesSpec)) = true := by kernel_rfl
theorem jf3_frameParses : (Tryz.f4.params.all (Tryz.prog.readableRec ·)) = true := by kernel_rfl
theorem jf4_frameParses : (namedTie Tryz.prog Rows.frameParsesRow.named Rows.frameParsesSpec.vars) = true := by kernel_rfl
theorem jf5_frameParses : ((Rows.frameParsesRow.stops == [])) = true := by kernel_rfl
theorem jf6_frameParses : ((Tryz.prog.stops == [])) = true := by kernel_rfl
theorem jf7_frameParses : ((Rows.frameParsesRow.knobs == [])) = true := by kernel_rfl
theorem jf8_frameParses : ((Tryz.prog.stopKnobs == [])) = true := by kernel_rfl
theorem jf13_frameParses : ((Rows.frameParsesRow.maps == (Tryz.f4.params.toList ++ Rows.frameParsesSpec.plain.varTypes Tryz.prog).any (Tryz.prog.mapsRec ·))) = true := by kernel_rfl
theorem jf14_frameParses : ((Rows.frameParsesRow.ifaces == (Tryz.f4.params.toList ++ Rows.frameParsesSpec.plain.varTypes Tryz.prog).any (Tryz.prog.ifacesRec ·))) = true := by kernel_rfl
theorem jf15_frameParses : ((Rows.frameParsesRow.mapsOut == Tryz.prog.mapsAmong Tryz.f4.resultTypes.toList)) = true := by kernel_rfl
theorem jf16_frameParses : ((Rows.frameParsesRow.loops == (Tryz.f4.params.toList ++ Rows.frameParsesSpec.plain.varTypes Tryz.prog).any (Tryz.prog.loopsFrom ·))) = true := by kernel_rfl
theorem jf17_frameParses : ((Rows.frameParsesRow.wideKeys == (Tryz.f4.params.toList ++ Rows.frameParsesSpec.plain.varTypes Tryz.prog ++ Tryz.f4.resultTypes.toList).any (Tryz.prog.wideKeysFrom ·))) = true := by kernel_rfl
theorem jf18_frameParses : (Rows.frameParsesSpec.vars.all (Tryz.prog.varReadable ·)) = true := by kernel_rfl
theorem jf19_frameParses : (Tryz.f4.resultTypes.all (fun t => Tryz.prog.readableRec t && decide (t < Tryz.prog.types.size))) = true := by kernel_rfl
theorem jf20_frameParses : ((Rows.frameParsesRow.ifacesOut == Tryz.f4.resultTypes.toList.any (Tryz.prog.ifacesRec ·))) = true := by kernel_rfl
theorem jf21_frameParses : ((Rows.frameParsesRow.loopsOut == Tryz.f4.resultTypes.toList.any (Tryz.prog.loopsFrom ·))) = true := by kernel_rfl
theorem jf23_frameParses : (Rows.frameParsesRow.shortTexts.isNone) = true := by kernel_rfl
theorem jf28_frameParses : ((Rows.frameParsesRow.kinds == (if Rows.frameParsesRow.domain.isEmpty then [] else Tryz.f4.params.toList.map fun t => match Tryz.prog.underlying t with | some (.int k) => some k | _ => none))) = true := by kernel_rfl
theorem jf29_frameParses : ((Rows.frameParsesRow.pinned == Rows.frameParsesRow.pinnedBy)) = true := by kernel_rfl
theorem jf30_frameParses : ((Rows.frameParsesRow.veiled == (Tryz.f4.params.toList ++ Rows.frameParsesSpec.plain.varTypes Tryz.prog ++ Tryz.f4.resultTypes.toList).any (Tryz.prog.veiledRec ·))) = true := by kernel_rfl
theorem jf31_frameParses : (Rows.frameParsesRow.veiledFits Tryz.prog Tryz.f4.params.toList (Tryz.f4.params.toList ++ Rows.frameParsesSpec.plain.varTypes Tryz.prog ++ Tryz.f4.resultTypes.toList)) = true := by kernel_rfl
end Go.Proofs.YtemmcnbfajlljaaGreatDoor
