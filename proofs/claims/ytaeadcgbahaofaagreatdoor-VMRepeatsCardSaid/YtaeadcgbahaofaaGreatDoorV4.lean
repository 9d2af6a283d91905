/- VMRepeats: what package vm computes. -/
import Derived.Test.YtaeadcgbahaofaaGreatDoorV2
import Derived.IntWalk
section
open Go Go.Tw Go.Proofs
set_option maxRecDepth 100000

/-! take, put, effect -/
def takeM (m : Vm) : Option (Int × Nat) :=
  bif Nat.blt 0 m.ns && (Nat.ble m.ns m.stk.length && (Nat.ble m.ns i64max && okK (.int .i64) (m.stk.getD (m.ns - 1) .undef))) then some ((m.stk.getD (m.ns - 1) .undef).intV, m.ns - 1) else none
def takeE (_m : Vm) (y : Int × Nat) : D × List OutS := (.int .i64 y.1, [.part 15 [.sl 2 1 0 y.2], .keep, .keep, .keep])
def putM (m : Vm) (x : Int) : Option (List D) := bif Nat.ble m.ns m.stk.length && Nat.ble (m.ns + 1) 17592186044416 then some (m.stk.take m.ns ++ [.int .i64 x]) else none
def putE (m : Vm) (y : List D) : D × List OutS := (.tup [], [.part 15 [.sl 4 1 0 (m.ns + 1)], .keep, .gone, .keep, .set true (.cells y)])
def effM (m : Vm) (op a b c : Int) : Option (List D) := bif Nat.ble (m.ne * 5) m.eff.length && Nat.ble (m.ne + 1) 2932031007402 then some (m.eff.take (m.ne * 5) ++ [.int .i64 op, .int .i64 a, .int .i64 b, .int .i64 c, .str []]) else none
def effE (m : Vm) (y : List D) : D × List OutS := (.tup [], [.part 16 [.sl 4 5 0 (m.ne + 1)], .keep, .keep, .gone, .set true (.cells y)])
def eTake : Ent := fun a h => match a with
  | [.ptr 0 0] => match vmOf h with
    | some m => some fun _ κ => (takeM m).bind fun y => κ (takeE m y).1 (takeE m y).2
    | none => none
  | _ => none
def ePut : Ent := fun a h => match a with
  | [.ptr 0 0, .int .i64 x] => match vmOf h with
    | some m => some fun _ κ => (putM m x).bind fun y => κ (putE m y).1 (putE m y).2
    | none => none
  | _ => none
def eEff : Ent := fun a h => match a with
  | [.ptr 0 0, .agg [.int .i64 op, .int .i64 x], .int .i64 b, .int .i64 c] => match vmOf h with
    | some m => some fun _ κ => (effM m op x b c).bind fun y => κ (effE m y).1 (effE m y).2
    | none => none
  | _ => none
theorem wrap_pred {n : Nat} (h : 0 < n) (h2 : n ≤ i64max) : IntKind.wrap .i64 ((n : Int) - 1) = ((n - 1 : Nat) : Int) := by
  unfold i64max at h2
  rw [Go.IntWalk.i64_in _ (by omega)]; omega
theorem wTake (m : Vm) (y : Int × Nat) (hy : takeM m = some y) : ∃ outs, runC' (mc lib1) 117 [.ptr 0 0] m.fs (fun d o => some (d, o)) = some ((takeE m y).1, outs) ∧ outSlots m.fs outs 0 = outSlots m.fs (takeE m y).2 0 := by
  unfold takeM at hy
  obtain ⟨h, h2⟩ := bif_some hy
  cases h2
  simp only [Bool.and_eq_true] at h
  have h1 := blt_ok h.1
  have h2 := ble_ok h.2.1
  have hw := wrap_pred h1 (ble_ok h.2.2.1)
  have : runC' (mc lib1) 117 [.ptr 0 0] m.fs (fun d o => some (d, o)) =
    bif decide (0 ≤ IntKind.wrap .i64 (↑m.ns - 1)) then
     bif Nat.blt (Int.toNat (IntKind.wrap .i64 (↑m.ns - 1))) m.ns then
      bif nonB m.stk then
       bif Nat.blt (0 + Int.toNat (IntKind.wrap .i64 (↑m.ns - 1)) * 1) m.stk.length then
        bif okK (.int .i64) (m.stk.getD (0 + Int.toNat (IntKind.wrap .i64 (↑m.ns - 1)) * 1) .undef) then
         bif decide (0 ≤ IntKind.wrap .i64 (↑m.ns - 1)) then
          bif Nat.ble (Int.toNat (IntKind.wrap .i64 (↑m.ns - 1))) m.ns then
           some (.int .i64 (m.stk.getD (0 + Int.toNat (IntKind.wrap .i64 (↑m.ns - 1)) * 1) .undef).intV, [.set false (.cells (putL m.cells 15 [.sl 2 1 0 (Int.toNat (IntKind.wrap .i64 (↑m.ns - 1)))])), .set true (.cells m.vars), .set true (.cells m.stk), .set true (.cells m.eff)])
          else none else none else none else none else none else none else none := by kernel_rfl
  have hn : nonB m.stk = true := by
    unfold nonB
    cases hs : m.stk with
    | nil => rw [hs] at h2; simp at h2; omega
    | cons _ _ => rfl
  have e1 : (0 + (m.ns - 1) * 1) = m.ns - 1 := by omega
  have b1 : Nat.blt (m.ns - 1) m.ns = true := by simp [Nat.blt_eq]; omega
  have b2 : Nat.blt (m.ns - 1) m.stk.length = true := by simp [Nat.blt_eq]; omega
  have b3 : Nat.ble (m.ns - 1) m.ns = true := by simp
  have b4 : decide ((0 : Int) ≤ ((m.ns - 1 : Nat) : Int)) = true := by simp
  rw [hw] at this
  simp only [Int.toNat_natCast, e1, b1, b2, b3, b4, hn, h.2.2.2, cond_true] at this
  exact ⟨_, this, rfl⟩
end
