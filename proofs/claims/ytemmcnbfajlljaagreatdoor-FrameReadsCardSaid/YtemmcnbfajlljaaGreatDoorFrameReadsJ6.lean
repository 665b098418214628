/- FrameReads: the closed facts of the row. -/
import Derived.Test.YtemmcnbfajlljaaGreatDoorRows
import Derived.JoinedOf
namespace Go.Proofs.YtemmcnbfajlljaaGreatDoor
open Go
theorem jf0_frameReads : (Rows.frameReadsRow.wf (OpenSpec.ofChange Rows.frameReadsSpec)) = true := by kernel_rfl
theorem jf3_frameReads : (Tryz.f5.params.all (Tryz.prog.readableRec ·)) = true := by kernel_rfl
theorem jf4_frameReads : (namedTie Tryz.prog Rows.frameReadsRow.named Rows.frameReadsSpec.vars) = true := by kernel_rfl
theorem jf5_frameReads : ((Rows.frameReadsRow.stops == [])) = true := by kernel_rfl
theorem jf6_frameReads : ((Tryz.prog.stops == [])) = true := by kernel_rfl
theorem jf7_frameReads : ((Rows.frameReadsRow.knobs == [])) = true := by kernel_rfl
theorem jf8_frameReads : ((Tryz.prog.stopKnobs == [])) = true := by kernel_rfl
theorem jf13_frameReads : ((Rows.frameReadsRow.maps == (Tryz.f5.params.toList ++ Rows.frameReadsSpec.plain.varTypes Tryz.prog).any (Tryz.prog.mapsRec ·))) = true := by kernel_rfl
theorem jf14_frameReads : ((Rows.frameReadsRow.ifaces == (Tryz.f5.params.toList ++ Rows.frameReadsSpec.plain.varTypes Tryz.prog).any (Tryz.prog.ifacesRec ·))) = true := by kernel_rfl
theorem jf15_frameReads : ((Rows.frameReadsRow.mapsOut == Tryz.prog.mapsAmong Tryz.f5.resultTypes.toList)) = true := by kernel_rfl
theorem jf16_frameReads : ((Rows.frameReadsRow.loops == (Tryz.f5.params.toList ++ Rows.frameReadsSpec.plain.varTypes Tryz.prog).any (Tryz.prog.loopsFrom ·))) = true := by kernel_rfl
theorem jf17_frameReads : ((Rows.frameReadsRow.wideKeys == (Tryz.f5.params.toList ++ Rows.frameReadsSpec.plain.varTypes Tryz.prog ++ Tryz.f5.resultTypes.toList).any (Tryz.prog.wideKeysFrom ·))) = true := by kernel_rfl
theorem jf18_frameReads : (Rows.frameReadsSpec.vars.all (Tryz.prog.varReadable ·)) = true := by kernel_rfl
theorem jf19_frameReads : (Tryz.f5.resultTypes.all (fun t => Tryz.prog.readableRec t && decide (t < Tryz.prog.types.size))) = true := by kernel_rfl
theorem jf20_frameReads : ((Rows.frameReadsRow.ifacesOut == Tryz.f5.resultTypes.toList.any (Tryz.prog.ifacesRec ·))) = true := by kernel_rfl
theorem jf21_frameReads : ((Rows.frameReadsRow.loopsOut == Tryz.f5.resultTypes.toList.any (Tryz.prog.loopsFrom ·))) = true := by kernel_rfl
theorem jf23_frameReads : (Rows.frameReadsRow.shortTexts.isNone) = true := by kernel_rfl
theorem jf28_frameReads : ((Rows.frameReadsRow.kinds == (if Rows.frameReadsRow.domain.isEmpty then [] else Tryz.f5.params.toList.map fun t => match Tryz.prog.underlying t with | some (.int k) => some k | _ => none))) = true := by kernel_rfl
theorem jf29_frameReads : ((Rows.frameReadsRow.pinned == Rows.frameReadsRow.pinnedBy)) = true := by kernel_rfl
theorem jf30_frameReads : ((Rows.frameReadsRow.veiled == (Tryz.f5.params.toList ++ Rows.frameReadsSpec.plain.varTypes Tryz.prog ++ Tryz.f5.resultTypes.toList).any (Tryz.prog.veiledRec ·))) = true := by kernel_rfl
theorem jf31_frameReads : (Rows.frameReadsRow.veiledFits Tryz.prog Tryz.f5.params.toList (Tryz.f5.params.toList ++ Rows.frameReadsSpec.plain.varTypes Tryz.prog ++ Tryz.f5.resultTypes.toList)) = true := by kernel_rfl
end Go.Proofs.YtemmcnbfajlljaaGreatDoor
