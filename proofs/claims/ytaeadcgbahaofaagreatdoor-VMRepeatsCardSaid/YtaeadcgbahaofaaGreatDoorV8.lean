/- VMRepeats: what package vm computes. -/
import Derived.Test.YtaeadcgbahaofaaGreatDoorV7
section
open Go Go.Tw Go.Proofs
set_option maxRecDepth 100000
theorem at17 : Tryz.prog.funcs[17]? = some fn17 := by kernel_rfl
theorem body17 : fn17.body = some c17 := by kernel_rfl
theorem one17 : loopOne c17 5 = true := by kernel_rfl
theorem noLP_good {P : Program} {f : FuncId} {hint : Hint} {N k0 : Nat} {c : Code} : LGood P (noLP f) hint N k0 c := by
  intro id lv _ _ a h φ hφ; cases hφ
theorem loopE_ok : ∀ n a h y, ME n a h = some y → InL 0 a h → Exec Tryz.prog (tiOf Tryz.prog) fn17.ntmps 0 (.loop (loopAt c17 5)) h.length (startL [12, 3, 14] a h).st (embE y).1 (embE y).2.1 (embE y).2.2.st ∧ (embE y).2.2.H.OK := by
  refine loop_model (P := Tryz.prog) (nat := nats) (F := F2) (LP := noLP 17) (hint := hintE) (N := fn17.ntmps) (k0 := 0) (fuel := 1000) (nz := nzExec) (κx := outE) nats_ok (mc_ok lib2_ok) (fun c' _ => noLP_good) (outC_ok projE_ok) (fun a h => ?_) (fun n a h y hy => ?_)
  · unfold ME
    split
    · split <;> rfl
    · rfl
  · unfold ME at hy
    split at hy
    · rename_i b k
      split at hy
      · rename_i m hm
        have := vmOfL_fs hm; subst this
        rw [← hy]
        exact walkE n m b k
      · cases hy
    · cases hy
def lE : LEnt := fun k0 a h => bif Nat.beq k0 0 then (match a with
  | [.ptr 0 0, .int .i64 b, .int .i64 n] => match vmOfL h with
    | some m => some fun _ κ => (loopE 2000 m b n).bind fun y => κ (embE y).1 (embE y).2.1 (embE y).2.2
    | none => none
  | _ => none) else none
theorem lE_ok {hint : FuncId → Hint} (hh : assoc (hint 17).cuts 5 = some [12, 3, 14]) : LEntOK Tryz.prog hint 17 5 lE := by
  refine ⟨fn17, c17, at17, body17, one17, fun lv hlv k0 a h φ he hi => ?_⟩
  rw [hh] at hlv; cases hlv
  unfold lE at he
  obtain ⟨h0, he⟩ := bif_some he
  have := beq_ok h0
  subst this
  split at he
  · rename_i b n _
    split at he
    · rename_i m hm
      cases he
      intro R κ r hr
      cases hy : loopE 2000 m b n with
      | none => rw [hy] at hr; cases hr
      | some y =>
        rw [hy] at hr
        obtain ⟨h1, h2⟩ := loopE_ok 2000 _ h y (by simp only [ME, hm, hy]) hi
        exact ⟨_, _, _, h1, h2, hr⟩
    · cases he
  · cases he
end
