/- The start of a call: the table of spaces stands. -/
import Derived.Test.YtaeadcgbahaofaaGreatDoorTw41
import Derived.Test.YtaeadcgbahaofaaGreatDoorTie
import Derived.ProofKit
import Derived.LaidMore
import Derived.Lay
import Derived.Lib.LaidU8
section
open Go Go.Proofs Go.Tw
namespace Go.Proofs.YtaeadcgbahaofaaGreatDoor
noncomputable def spZ : List Int := Rows.laid_strings_asciiSpace (H := Unit) |> fun d => match d with
  | .agg xs => xs.map fun x => match x with | .lit (.int _ z) => z | _ => 0
  | _ => []
theorem spZ_data : Rows.laid_strings_asciiSpace (H := Unit) = Lib.tabData .u8 spZ := by kernel_rfl
theorem spZ_gd : GD 1 = some (.agg (spZ.map fun z => D.int .u8 z)) := by kernel_rfl
theorem VRs_ints {X : Nat → Prop} {ρ : Nat → Tw.Place} {w : World} {k : IntKind} : ∀ zs : List Int, VRs X ρ w (zs.map fun z => D.int k z) (zs.map fun z => Value.int k z)
  | [] => by simp [VRs]
  | z :: zs => by
    simp only [List.map_cons, VRs]
    exact ⟨_, _, rfl, by simp [VR], VRs_ints zs⟩
theorem spZ_cells : (D.agg (spZ.map fun z => D.int .u8 z)).cells? = some (spZ.map fun z => D.int .u8 z) := by kernel_rfl
theorem spZ_ids : D.ids (.agg (spZ.map fun z => D.int .u8 z)) = [] := by kernel_rfl
theorem sp_cells {W : World} {laid : List (String × DataW Unit)} (h : laidMet Tryz.prog laid W) (hm : ("strings.asciiSpace", Rows.laid_strings_asciiSpace) ∈ laid) :
    W.var? Tryz.prog "strings.asciiSpace" = some (spZ.map fun z => Value.int .u8 z).toArray := by
  obtain ⟨g, t, cs, fuel, p, hg, ht, hv, hd⟩ := Lib.laidMet.reads h hm
  obtain rfl := Option.some.inj ((show Tryz.prog.globalNamed "strings.asciiSpace" = some 1 by kernel_rfl).symm.trans hg)
  obtain rfl := Option.some.inj ((show (Tryz.prog.globals[1]?).map (·.type) = some 330 by kernel_rfl).symm.trans ht)
  rw [spZ_data] at hd
  have := Lib.cells_of_tab (n := 256) (e := 5) (k := .u8) (by kernel_rfl) (by kernel_rfl) (by kernel_rfl) (by kernel_rfl) hd
  rw [hv, ← this]
/-- The start of every call of this seat: no block is named, the table of spaces stands. -/
theorem startH {W : World} {laid : List (String × DataW Unit)} (h : laidMet Tryz.prog laid W) (hm : ("strings.asciiSpace", Rows.laid_strings_asciiSpace) ∈ laid) :
    HRel (fun _ => False) (fun _ => .none) W (fun i => ([] : List Slot)[i]?) := by
  have hc := fun i => World.var?_cell (show Tryz.prog.globalNamed "strings.asciiSpace" = some 1 by kernel_rfl) (sp_cells h hm) i
  refine { row := (fun b g hb => by cases hb), nil := (fun b hb => by cases hb), live := (fun b sl hb => by simp at hb), inj := (fun b b2 g hb => by cases hb), clear := (fun _ _ _ => id), avoid := (fun _ hx => hx.elim), globs := ?_ }
  intro g d hg
  match g, hg with
  | 1, hg =>
    obtain rfl := Option.some.inj (spZ_gd.symm.trans hg)
    obtain ⟨u, hu, hcu⟩ := VR_of_cells (X := fun _ => False) (ρ := fun _ => .none) (w := W) spZ_cells (VRs_ints spZ)
    simp only [VR]
    have hsz : u.cells.size = 256 := by
      rw [hcu]
      show (spZ.map fun z => Value.int .u8 z).length = 256
      rw [List.length_map]; kernel_rfl
    have hlt : 1 < W.heap.size := by
      have h0 := hc 0
      by_cases hlt : 1 < W.heap.size
      · exact hlt
      · have : W.heap[1]? = none := by simp; omega
        have e : W.cell? ⟨1, 0, none⟩ = none := by simp [World.cell?, this]
        rw [e] at h0
        have h1 : (spZ.map fun z => Value.int .u8 z).toArray[0]? = some (.int .u8 0) := by kernel_rfl
        rw [h1] at h0; cases h0
    refine ⟨spZ_ids, 1, 0, u, rfl, ⟨id, hlt, fun b hb => by cases hb⟩, hu, by omega, fun j x hx => ?_⟩
    rw [hcu] at hx
    rw [Nat.zero_add, hc j]; exact hx
  | 0, hg => cases hg
  | g + 2, hg => cases hg
/-- What a contract says of a call that names no block: the whole world stands. -/
theorem fn_calls {W : World} {laid : List (String × DataW Unit)} (h : laidMet Tryz.prog laid W) (hm : ("strings.asciiSpace", Rows.laid_strings_asciiSpace) ∈ laid) {f : FuncId} {args : List D} {vs : List Value} {b : Bool} {outs : List (Option Slot)}
    (hf : Tw.Fn Tryz.prog f args [] (.bool b) outs) (hv : VRs (fun _ => False) (fun _ => .none) W args vs) :
    Calls Tryz.prog f vs.toArray W fun e W' => e = .returned (.bool b) ∧ W'.os = W.os ∧ W'.output = W.output ∧ W.heap.size ≤ W'.heap.size ∧ ∀ g, g < W.heap.size → W'.heap[g]? = W.heap[g]? := by
  refine (hf.2 _ _ W vs hv (startH h hm)).mono fun e W' ⟨u, ρ', he, hu, _, hfr, _⟩ => ?_
  simp only [VR] at hu
  subst hu
  exact ⟨he, hfr.os, hfr.output, hfr.size, fun g hg => hfr.keep g ⟨hg, fun b hb => by cases hb⟩⟩
theorem kept_of {W W' : World} (ho : W'.os = W.os) (hp : W'.output = W.output) (hk : ∀ g, g < W.heap.size → W'.heap[g]? = W.heap[g]?) (may : MemPlace → Prop) : W.keptBut W' may := by
  refine ⟨ho, hp, fun i hi => ?_⟩
  rw [hk i hi]
  cases hw : W.heap[i]? with
  | none => trivial
  | some o => cases o <;> simp
end Go.Proofs.YtaeadcgbahaofaaGreatDoor
end
