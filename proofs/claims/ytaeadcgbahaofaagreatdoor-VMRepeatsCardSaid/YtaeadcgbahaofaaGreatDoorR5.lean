/- VMRepeats: contracts of the reference reader. -/
import Derived.Test.YtaeadcgbahaofaaGreatDoorR4
import Derived.IntWalk
section
open Go Go.Tw Go.Proofs
set_option maxRecDepth 100000
/-! among: a loop over the words of a list -/
def hintA : Hint := { cuts := [(2, [0, 1, 5])], norms := [(1002, [(1, none, .own 1)])], views := [(16, .sc .str)] }
noncomputable def fn124 : Func := (Tryz.prog.funcs[124]?).getD default
noncomputable def c124 : Code := fn124.body.getD .skip
theorem at124 : Tryz.prog.funcs[124]? = some fn124 := by kernel_rfl
theorem body124 : fn124.body = some c124 := by kernel_rfl
theorem one124 : loopOne c124 2 = true := by kernel_rfl
def w64r (n : Int) : Int := IntKind.wrap .i64 n
def Rd.fa (r : Rd) (ws : List D) : List (Option FS) := [some (false, .cells r.cells), some (true, .cells r.toks), some (true, .cells ws)]
def raOf (h : List (Option FS)) : Option (Rd × List D) := match h with
  | [some x, some y, some (true, .cells ws)] => match rdOf [x, y] with
    | some r => some (r, ws)
    | none => none
  | _ => none
theorem raOf_fs {h : List (Option FS)} {r : Rd} {ws : List D} (e : raOf h = some (r, ws)) : h = r.fa ws := by
  unfold raOf at e
  split at e
  · split at e
    · rename_i hr
      cases e
      have := rdOf_fs hr
      simp only [Rd.fs, List.cons.injEq, and_true] at this
      rw [this.1, this.2]; rfl
    · cases e
  · cases e
def amL : Nat → Rd → Nat → List D → Int → Option (Bool × Int × Rd × List D)
  | 0, _, _, _, _ => none
  | f + 1, r, k, ws, i => bif decide (i < (k : Int)) then
      bif decide (0 ≤ i) then bif Nat.blt i.toNat k then bif nonB ws then bif Nat.blt (0 + i.toNat * 1) ws.length then bif okK .str (ws.getD (0 + i.toNat * 1) .undef) then
        (isM r (ws.getD (0 + i.toNat * 1) .undef).strV).bind fun b => bif b then some (true, i, r, ws) else amL f r k ws (w64r (i + 1))
      else none else none else none else none else none
    else some (false, 0, r, ws)
def MA (f : Nat) (a : List D) (h : List (Option FS)) : Option (Bool × Int × Rd × List D) := match a with
  | [.ptr 0 0, .sl 2 1 0 k, .int .i64 i] => match raOf h with
    | some (r, ws) => amL f r k ws i
    | none => none
  | _ => none
def projA (e : Ex) (a : List D) (h : List (Option FS)) : Option (Bool × Int × Rd × List D) := match e with
  | .exit 0 => match a with
    | [.undef] => match raOf h with
      | some (r, ws) => some (false, 0, r, ws)
      | none => none
    | _ => none
  | .ret => match a with
    | [.int .i64 i] => match raOf h with
      | some (r, ws) => some (true, i, r, ws)
      | none => none
    | _ => none
  | _ => none
end
