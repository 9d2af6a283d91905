/- VMRepeats: runs of the program that are parts of its walk. -/
import Derived.Test.YtaeadcgbahaofaaGreatDoorV9
import Derived.Test.YtaeadcgbahaofaaGreatDoorV10
import Derived.Test.YtaeadcgbahaofaaGreatDoorE2
import Derived.Test.YtaeadcgbahaofaaGreatDoorE3
section
open Go Go.Tw Go.Proofs
set_option maxRecDepth 100000
def frz5 (t : Nat) : List (Nat × Option Nat × Nz) := [(t, some 0, .val 2), (t, some 1, .val 1), (t, some 2, .val 4), (t, some 3, .val 1), (t, some 4, .val 1)]
def hintsF : FuncId → Hint
  | 17 => hintE1
  | 21 => { norms := [(2, frz5 1)] }
  | 11 => { norms := [(2, frz5 5), (1011, [(10, none, .own 5)])], cuts := [(11, [13, 10, 8])], views := [(69, .sc (.int .i64)), (79, .sc (.int .i64)), (98, .ag [.int .i64, .int .i64, .int .i64, .int .i64, .str])] }
  | _ => {}
noncomputable def mcf (l : List (FuncId × Ent)) : SOrc := callS Tryz.prog nats (libOf l) (lpOf [(17, 5, lE), (17, 5, lE1)]) hintsF 1000 100
theorem mcf_ok {l : List (FuncId × Ent)} (h : LibOK Tryz.prog l) : SOrcOK Tryz.prog (mcf l) := callS_ok mixed nats_ok (libOf_ok h) (lpOf_ok (.cons (lE_ok rfl) (.cons (lE1_ok rfl) .nil))) 100
def factSane : Fact := ⟨21, [], [], .bool true, []⟩
theorem factSane_ok : factSane.ok Tryz.prog := Fact.of_runS (mcf_ok (l := [(fi15_0.f, factE fi15_0), (fi89_1.f, factE fi89_1), (fs32_0.f, factE fs32_0)] ++ lib2) (.cons (factE_ok fi15_0_ok) (.cons (factE_ok fi89_1_ok) (.cons (factE_ok fs32_0_ok) lib2_ok)))) factSane (by kernel_rfl) (by kernel_rfl)
end
