/- VMRepeats: the closed facts of the card. -/
import Derived.Test.YtaeadcgbahaofaaGreatDoorTie
import Derived.Test.YtaeadcgbahaofaaGreatDoorCards
import Derived.ProofKit
import Derived.JoinedOf
import Derived.SevenTiedAt
section
/- The closed facts of the card of VMRepeats, one by one. -/
namespace Go.Proofs.YtaeadcgbahaofaaGreatDoor
open Go
theorem vcf1 : Rows.vMRepeatsRow.wfByText (OpenSpec.ofChange Rows.vMRepeatsSpec) = true := by kernel_rfl
theorem vcf2 : Tryz.prog.mainIs = some (true, "9f226c9155fac0f4ff568c9fab954c85198cdc56399f30d37cf4c97baecafb42".toList) := by kernel_rfl
theorem vcf3 : true = Tryz.prog.looks [] := by kernel_rfl
theorem vcf4 : ([5, 4].all fun u => !Tryz.prog.wantsStandIn u) = true := by kernel_rfl
theorem vcf5 : false = Rows.vMRepeatsRow.goesBy Tryz.prog := by kernel_rfl
theorem vcf6 : Tryz.prog.funcNamed "pinball/pinballlaw35.VMRepeats" = some 11 := by kernel_rfl
theorem vcf7 : Tryz.f11.isInstance Tryz.prog Rows.vMRepeatsRow.origin Rows.vMRepeatsRow.targs := of_decide_eq_true (by kernel_rfl)
theorem vcf8 : Tryz.f11.isWrapper Tryz.prog Rows.vMRepeatsRow.wrapper Rows.vMRepeatsRow.mainSum := by unfold Func.isWrapper; first | (rw [if_pos (by decide +kernel)]; kernel_rfl) | (rw [if_neg (by decide +kernel)]; exact ⟨rfl, rfl⟩)
end Go.Proofs.YtaeadcgbahaofaaGreatDoor
end
