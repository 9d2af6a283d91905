/- VMRepeats: the closed facts of the row. -/
import Derived.Test.YtaeadcgbahaofaaGreatDoorTie
import Derived.ProofKit
import Derived.JoinedOf
section
/- The closed facts of the row of VMRepeats, one by one. -/
namespace Go.Proofs.YtaeadcgbahaofaaGreatDoor
open Go
theorem vjf0 : (Rows.vMRepeatsRow.wf (OpenSpec.ofChange Rows.vMRepeatsSpec)) = true := by kernel_rfl
theorem vjf1 : (laidOutB Tryz.prog) = true := by kernel_rfl
theorem vjf2 : (mapsRowed Tryz.prog) = true := by kernel_rfl
theorem vjf3 : (Tryz.f11.params.all (Tryz.prog.readableRec ·)) = true := by kernel_rfl
theorem vjf4 : (namedTie Tryz.prog Rows.vMRepeatsRow.named Rows.vMRepeatsSpec.vars) = true := by kernel_rfl
theorem vjf5 : ((Rows.vMRepeatsRow.stops == [])) = true := by kernel_rfl
theorem vjf6 : ((Tryz.prog.stops == [])) = true := by kernel_rfl
theorem vjf7 : ((Rows.vMRepeatsRow.knobs == [])) = true := by kernel_rfl
theorem vjf8 : ((Tryz.prog.stopKnobs == [])) = true := by kernel_rfl
theorem vjf9 : ((Rows.vMRepeatsRow.inPlace == Tryz.prog.inPlace 11)) = true := by kernel_rfl
theorem vjf10 : ((Rows.vMRepeatsRow.unfollowed == Tryz.prog.unfollowed 11)) = true := by kernel_rfl
theorem vjf11 : ((Rows.vMRepeatsRow.recurses == Tryz.prog.recurses 11)) = true := by kernel_rfl
theorem vjf12 : ((Rows.vMRepeatsRow.named == Tryz.prog.varsNamed 11)) = true := by kernel_rfl
theorem vjf13 : ((Rows.vMRepeatsRow.maps == (Tryz.f11.params.toList ++ Rows.vMRepeatsSpec.plain.varTypes Tryz.prog).any (Tryz.prog.mapsRec ·))) = true := by kernel_rfl
theorem vjf14 : ((Rows.vMRepeatsRow.ifaces == (Tryz.f11.params.toList ++ Rows.vMRepeatsSpec.plain.varTypes Tryz.prog).any (Tryz.prog.ifacesRec ·))) = true := by kernel_rfl
theorem vjf15 : ((Rows.vMRepeatsRow.mapsOut == Tryz.prog.mapsAmong Tryz.f11.resultTypes.toList)) = true := by kernel_rfl
theorem vjf16 : ((Rows.vMRepeatsRow.loops == (Tryz.f11.params.toList ++ Rows.vMRepeatsSpec.plain.varTypes Tryz.prog).any (Tryz.prog.loopsFrom ·))) = true := by kernel_rfl
theorem vjf17 : ((Rows.vMRepeatsRow.wideKeys == (Tryz.f11.params.toList ++ Rows.vMRepeatsSpec.plain.varTypes Tryz.prog ++ Tryz.f11.resultTypes.toList).any (Tryz.prog.wideKeysFrom ·))) = true := by kernel_rfl
theorem vjf18 : (Rows.vMRepeatsSpec.vars.all (Tryz.prog.varReadable ·)) = true := by kernel_rfl
theorem vjf19 : (Tryz.f11.resultTypes.all (fun t => Tryz.prog.readableRec t && decide (t < Tryz.prog.types.size))) = true := by kernel_rfl
theorem vjf20 : ((Rows.vMRepeatsRow.ifacesOut == Tryz.f11.resultTypes.toList.any (Tryz.prog.ifacesRec ·))) = true := by kernel_rfl
theorem vjf21 : ((Rows.vMRepeatsRow.loopsOut == Tryz.f11.resultTypes.toList.any (Tryz.prog.loopsFrom ·))) = true := by kernel_rfl
theorem vjf22 : ((Rows.vMRepeatsRow.plainKeys == Tryz.prog.plainKeys)) = true := by kernel_rfl
theorem vjf23 : (Rows.vMRepeatsRow.shortTexts.isNone) = true := by kernel_rfl
theorem vjf24 : (Tryz.prog.stopsHeard) = true := by kernel_rfl
theorem vjf25 : (Tryz.prog.mayEnter) = true := by kernel_rfl
theorem vjf26 : ((Rows.vMRepeatsRow.lifted == Tryz.prog.liftsFinal)) = true := by kernel_rfl
theorem vjf27 : ((Tryz.prog.make == some Rows.vMRepeatsRow.make)) = true := by kernel_rfl
theorem vjf29 : ((Rows.vMRepeatsRow.pinned == Rows.vMRepeatsRow.pinnedBy)) = true := by kernel_rfl
theorem vjf30 : ((Rows.vMRepeatsRow.veiled == (Tryz.f11.params.toList ++ Rows.vMRepeatsSpec.plain.varTypes Tryz.prog ++ Tryz.f11.resultTypes.toList).any (Tryz.prog.veiledRec ·))) = true := by kernel_rfl
theorem vjf31 : (Rows.vMRepeatsRow.veiledFits Tryz.prog Tryz.f11.params.toList (Tryz.f11.params.toList ++ Rows.vMRepeatsSpec.plain.varTypes Tryz.prog ++ Tryz.f11.resultTypes.toList)) = true := by kernel_rfl
end Go.Proofs.YtaeadcgbahaofaaGreatDoor
end
