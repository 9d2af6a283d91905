/- The machines that run the program, closed and with open leaves: what they answer is so. -/
import Derived.Test.YtaeadcgbahaofaaGreatDoorTw29
import Derived.Test.YtaeadcgbahaofaaGreatDoorProg
import Derived.KernelRfl
section
open Go Go.Tw Go.Proofs
set_option maxRecDepth 100000
noncomputable def fn349 : Func := (Tryz.prog.funcs[349]?).getD default
theorem mixed : Tryz.prog.follows .mixedOrders = true := by kernel_rfl
theorem at349 : Tryz.prog.funcs[349]? = some fn349 := by kernel_rfl
theorem b349 : fn349.body.isNone = true := by kernel_rfl
theorem n349 : (fn349.name == "runtime.NumGoroutine") = false := by kernel_rfl
theorem x349 : (Extern.findNext fn349).isNone = true := by kernel_rfl
theorem e349 : Extern.find fn349 = some Extern.BytealgIndexByte.indexByte := by kernel_rfl
noncomputable def nats : Nats := fun f ds => bif Nat.beq f 349 then
    match ds with
    | [.str s, .int .u8 c] => some (.int .i64 (Lib.indexByte s c.toNat.toUInt8))
    | _ => none
  else none
theorem nats_ok : NatsOK Tryz.prog nats := by
  intro f ds v h
  unfold nats at h
  rw [Nat.beq_tt] at h
  by_cases hf : f = 349
  · subst hf
    simp only [decide_true, cond_true] at h
    split at h
    · cases h
      exact natP_indexByte at349 b349 n349 x349 e349 _ _
    · cases h
  · simp [hf] at h
def lib0 : Orc := fun _ _ _ => none
theorem lib0_ok : OrcOK Tryz.prog lib0 := by
  intro f args hin res outs h
  cases h
theorem machine (fuel k : Nat) : OrcOK Tryz.prog (callE Tryz.prog nats lib0 fuel k) := callE_ok mixed nats_ok lib0_ok k
end
