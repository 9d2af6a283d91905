/- VMRepeats: what package vm computes. -/
import Derived.Test.YtaeadcgbahaofaaGreatDoorV4
section
open Go Go.Tw Go.Proofs
set_option maxRecDepth 100000
theorem eTake_ok : EntOK Tryz.prog 117 eTake := by
  intro a h φ he hi
  unfold eTake at he
  split at he
  · split at he
    · rename_i m hm
      cases he
      have := vmOf_fs hm; subst this
      refine contOK_model fun y hy => ?_
      obtain ⟨outs, h1, h2⟩ := wTake m y hy
      exact (fnV_runC (mc_ok lib1_ok) hi h1).reouts h2 (outsPlain_clo rfl)
    · cases he
  · cases he
theorem ePut_ok : EntOK Tryz.prog 116 ePut := by
  intro a h φ he hi
  unfold ePut at he
  split at he
  · rename_i x
    split at he
    · rename_i m hm
      cases he
      have := vmOf_fs hm; subst this
      refine contOK_model fun y hy => ?_
      unfold putM at hy
      obtain ⟨h0, h1⟩ := bif_some hy
      cases h1
      simp only [Bool.and_eq_true] at h0
      have h2 := ble_ok h0.1
      have h3 := ble_ok h0.2
      have hw : runC' (mc lib1) 116 [.ptr 0 0, .int .i64 x] m.fs (fun d o => some (d, o)) =
        bif Nat.ble (m.ns * 1) m.stk.length then
         bif Nat.ble ((m.ns + 1) * 8) 140737488355328 then
          some (.tup [], [.set false (.cells (putL m.cells 15 [.sl 4 1 0 (m.ns + 1)])), .set true (.cells m.vars), .gone, .set true (.cells m.eff), .set true (.cells (m.stk.take (m.ns * 1) ++ [.int .i64 x]))])
         else none else none := by kernel_rfl
      have b1 : Nat.ble (m.ns * 1) m.stk.length = true := by simpa using h2
      have b2 : Nat.ble ((m.ns + 1) * 8) 140737488355328 = true := by simp; omega
      rw [b1, b2, Nat.mul_one] at hw
      simp only [cond_true] at hw
      refine (fnV_runC (mc_ok lib1_ok) hi hw).reouts rfl ?_
      have hc := hi.clo (true, .cells m.stk) (by simp [Vm.fs]) rfl
      intro sl hs
      simp only [putE, List.mem_cons, reduceCtorEq, OutS.set.injEq, true_and, List.not_mem_nil, or_false, false_or] at hs
      subst hs
      exact clo_append (clo_sub (fun d hd => List.mem_of_mem_take hd) hc) (cloB_ok rfl)
    · cases he
  · cases he
theorem eEff_ok : EntOK Tryz.prog 120 eEff := by
  intro a h φ he hi
  unfold eEff at he
  split at he
  · rename_i op x b c
    split at he
    · rename_i m hm
      cases he
      have := vmOf_fs hm; subst this
      refine contOK_model fun y hy => ?_
      unfold effM at hy
      obtain ⟨h0, h1⟩ := bif_some hy
      cases h1
      simp only [Bool.and_eq_true] at h0
      have h3 := ble_ok h0.2
      have hw : runC' (mc lib1) 120 [.ptr 0 0, .agg [.int .i64 op, .int .i64 x], .int .i64 b, .int .i64 c] m.fs (fun d o => some (d, o)) =
        bif Nat.ble (m.ne * 5) m.eff.length then
         bif Nat.ble ((m.ne + 1) * 48) 140737488355328 then
          some (.tup [], [.set false (.cells (putL m.cells 16 [.sl 4 5 0 (m.ne + 1)])), .set true (.cells m.vars), .set true (.cells m.stk), .gone, .set true (.cells (m.eff.take (m.ne * 5) ++ [.int .i64 op, .int .i64 x, .int .i64 b, .int .i64 c, .str []]))])
         else none else none := by kernel_rfl
      have b2 : Nat.ble ((m.ne + 1) * 48) 140737488355328 = true := by simp; omega
      rw [h0.1, b2] at hw
      simp only [cond_true] at hw
      refine (fnV_runC (mc_ok lib1_ok) hi hw).reouts rfl ?_
      have hc := hi.clo (true, .cells m.eff) (by simp [Vm.fs]) rfl
      intro sl hs
      simp only [effE, List.mem_cons, reduceCtorEq, OutS.set.injEq, true_and, List.not_mem_nil, or_false, false_or] at hs
      subst hs
      exact clo_append (clo_sub (fun d hd => List.mem_of_mem_take hd) hc) (cloB_ok rfl)
    · cases he
  · cases he
def lib2 : List (FuncId × Ent) := [(116, ePut), (117, eTake), (120, eEff), (118, eUn), (119, eBin), (56, eClamp)]
theorem lib2_ok : LibOK Tryz.prog lib2 := .cons ePut_ok (.cons eTake_ok (.cons eEff_ok (.cons eUn_ok (.cons eBin_ok (.cons eClamp_ok .nil)))))
end
