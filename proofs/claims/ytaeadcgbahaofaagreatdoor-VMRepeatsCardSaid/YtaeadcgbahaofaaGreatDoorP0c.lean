/- VMRepeats: runs of the program that are parts of its walk. -/
import Derived.Test.YtaeadcgbahaofaaGreatDoorP0
section
namespace Go.Proofs.YtaeadcgbahaofaaGreatDoor
open Go
theorem vjf : joinedFacts Tryz.prog 11 Tryz.f11 Rows.vMRepeatsSpec Rows.vMRepeatsRow = true := by
  unfold joinedFacts
  rw [vjf0, vjf1, vjf2, vjf3, vjf4, vjf5, vjf6, vjf7, vjf8, vjf9, vjf10, vjf11, vjf12, vjf13, vjf14, vjf15, vjf16, vjf17, vjf18, vjf19, vjf20, vjf21, vjf22, vjf23, vjf24, vjf25, vjf26, vjf27]
  rw [if_pos (show Rows.vMRepeatsRow.domain.isEmpty = true from rfl), show (Rows.vMRepeatsRow.kinds == ([] : List (Option IntKind))) = true from rfl]
  rw [vjf29, vjf30, vjf31]
  rfl
end Go.Proofs.YtaeadcgbahaofaaGreatDoor
end
