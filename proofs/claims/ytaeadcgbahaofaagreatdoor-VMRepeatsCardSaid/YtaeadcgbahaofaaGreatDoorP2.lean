/- VMRepeats answers true at every input, and leaves its arguments as they were: the row and its tied card. Condition: the listed variables start as the text lays them. -/
import Derived.Test.YtaeadcgbahaofaaGreatDoorP0c
import Derived.Test.YtaeadcgbahaofaaGreatDoorP0b
import Derived.Test.YtaeadcgbahaofaaGreatDoorP1
import Derived.Test.YtaeadcgbahaofaaGreatDoorW6
import Derived.ProofKit
import Derived.OpenShut
import Derived.LaidMore
import Derived.Lay
import Derived.SevenTiedAt
import Derived.Stop.Joined
import Derived.Test.YtaeadcgbahaofaaGreatDoorCards
section
namespace Go.Proofs.YtaeadcgbahaofaaGreatDoor
open Go.ChangeShapes Go.WideShapes Go.ChangeAt Go.RowKit
theorem Tryz.own : ownKnob Tryz.prog.godebug = none := by kernel_rfl
abbrev vLaid : List (String × DataW Unit) := Rows.vMRepeatsRow.laid
theorem vLaid_plain : (vLaid.all fun x => x.2.handleName?.isNone) = true := by kernel_rfl
theorem vLaid_mem : ("strings.asciiSpace", Rows.laid_strings_asciiSpace) ∈ vLaid := by
  unfold vLaid Rows.vMRepeatsRow
  simp
set_option maxRecDepth 100000 in
theorem vMRepeats_lifted (os : Os) (started : os.Started) (H : Type) (enc : TypeId × Value → H) :
    ReturnsInHanded {} Tryz.checked os 11 .any (fun w args => (Rows.vMRepeatsSpec.pre enc Tryz.prog Tryz.f11 [] false w args ∧ laidMetH Tryz.prog vLaid w) ∧ sizedMet enc Tryz.prog Tryz.f11 (OpenSpec.ofChange Rows.vMRepeatsSpec) false w args)
      (Rows.vMRepeatsSpec.post enc Tryz.prog Tryz.f11 false true false false) := by
  refine returnsInHanded_of_change_and (C := Tryz.checked) (X := fun w _ => laidMetH Tryz.prog vLaid w) (fun _ _ _ hh h => h.of_heap hh) Tryz.own started (by kernel_rfl) Tryz.func11
    (ChangeSpec.witness_shaped (enc := enc) (C := Tryz.checked) (os := os) (X := fun w _ => laidMetH Tryz.prog vLaid w) false (World.laidAll Tryz.prog os vLaid) #[.int .u8 0, .bool false] 8 (World.laidAll_os _ _ _)
      (World.shaped_of_ZipB (by kernel_rfl) (by kernel_rfl)) (by kernel_rfl) (by kernel_rfl) (by kernel_rfl)
      (by rw [MakeChecks.laidMetH_plain _ _ _ vLaid_plain]; exact laidMet_laidAll _ (by kernel_rfl) (by kernel_rfl))) ?_
  intro W base args ds gs before hval0 hW _ _ hL _
  have hval : ∀ (j : Nat) t v, Tryz.f11.params[j]? = some t → args[j]? = some v → Value.okWide Tryz.prog W .any base t v := hval0
  have hW' := hW
  obtain ⟨p, q, hA0, hV, rfl, _, _⟩ := hW
  have hA : DataW.TrodAll enc Tryz.prog W 0 (fun _ => true) true Tryz.f11.params.toList args.toList ds p := hA0
  rw [Tryz.params11] at hA hval
  obtain ⟨v0, v1, d0, d1, p0, p1, rfl, rfl, rfl, h0, h1⟩ := trodAll_two hA
  obtain ⟨rfl, rfl⟩ := trodVars_none hV
  obtain ⟨n, rfl, rfl, rfl, wn⟩ := open_int Tryz.underlying5 (hval 0 5 v0 rfl rfl) h0
  obtain ⟨b, rfl, rfl, rfl⟩ := open_bool Tryz.underlying4 (hval 1 4 v1 rfl rfl) h1
  have hn : 0 ≤ n := by
    have : (Lit.int .u8 n).wf = true := wn
    have hm : IntKind.u8.min = 0 := rfl
    simp [Lit.wf, hm] at this
    omega
  have hl : laidMet Tryz.prog vLaid W := by
    have := hL
    rwa [MakeChecks.laidMetH_plain _ _ _ vLaid_plain] at this
  simp only [List.append_nil] at hW'
  refine (fn_calls hl vLaid_mem (vmRepeats_fn n b hn) (vs := [.int .u8 n, .bool b]) (by simp [Tw.VRs, Tw.VR])).mono fun e W' ⟨he, ho, hp, _, hk⟩ => ?_
  subst he
  have e1 : Rows.vMRepeatsSpec.fn H ([.lit (.int .u8 n), .lit (.bool b)] ++ []) = { results := [.lit (.bool true)], args := [.lit (.int .u8 n), .lit (.bool b)] } := rfl
  refine ⟨_, rfl, _, _, _, [], [], [], hW', ?_, ?_, ?_, kept_of ho hp hk _, fun h => by cases h⟩
  · rw [e1]; exact trodAll_mk1 (shut_bool Tryz.underlying4 true)
  · rw [e1]; exact trodAll_mk2 (shut_int Tryz.underlying5 wn) (shut_bool Tryz.underlying4 b)
  · rw [e1]; rfl
theorem vMRepeats_row : Rows.VMRepeatsSaid :=
  OpenClaim.holds_of_wide 11 Tryz.f11 rfl rfl rfl rfl rfl rfl rfl ⟨rfl, rfl, rfl, rfl, rfl⟩ rfl rfl rfl rfl rfl vcf6 Tryz.func11 vjf
    vcf7 vcf8
    (fun os started H enc _ => vMRepeats_lifted os started H enc)
/-- VMRepeats, the card: its row, proved, and the row's variables tied to the program's text. -/
theorem vMRepeats_holds : Rows.VMRepeatsCardSaid :=
  Claim7.holds_tied_plain_at .later [] [.data, .data, .data, .sentinel, .sentinel, .listed, .data] true (true, "9f226c9155fac0f4ff568c9fab954c85198cdc56399f30d37cf4c97baecafb42") true vMRepeats_row (fun _ h => by cases h) vcf1 (fun _ h => by cases h) vMRepeats_row_tie rfl ⟨rfl, rfl⟩ vcf2 rfl
    (fun f fn hf hfn => by
      obtain rfl : f = 11 := Option.some.inj (vcf6.symm.trans hf) |>.symm
      obtain rfl : fn = Tryz.f11 := (Option.some.inj (Tryz.func11.symm.trans hfn)).symm
      exact ⟨vcf3, fun j t ht => by
        rw [Tryz.params11] at ht
        have hm : t ∈ [5, 4] := by simpa using Array.mem_of_getElem? ht
        exact (show Tryz.prog.wantsStandIn t = false by simpa using List.all_eq_true.1 vcf4 t hm)⟩)
    vcf5
end Go.Proofs.YtaeadcgbahaofaaGreatDoor
end
