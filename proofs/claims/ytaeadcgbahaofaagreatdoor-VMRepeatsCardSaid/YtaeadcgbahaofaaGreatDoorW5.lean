/- VMRepeats: runs of the program that are parts of its walk. -/
import Derived.Test.YtaeadcgbahaofaaGreatDoorW2
section
open Go Go.Tw Go.Proofs
set_option maxRecDepth 100000
def n1 (m : Vm) (x : Option Bool) : Option Bool := bif Nat.blt 0 m.nv then bif nonB m.vars then bif Nat.blt 0 m.vars.length then bif okK (.int .i64) (m.vars.getD 0 .undef) then x else none else none else none else none
def v0 (m : Vm) : Int := (m.vars.getD 0 .undef).intV
def lastR (m : Vm) (k : Int) : Option Bool := (loopR 300 m.ne m.eff 0 k).bind fun b => bif b then some true else some false
def uR (m : Vm) (k : Int) : Option Bool := bif decide (k ≤ 0) then n1 m (bif v0 m != k then some false else lastR m k) else lastR m k
def hR (m : Vm) (k : Int) : Option Bool :=
  bif !m.done then some false else bif decide ((m.ne : Int) > 256) then some false else
  bif (m.ne : Int) != (if k > 0 then k else 0) then some false else bif (m.nv : Int) != 1 then some false else
  bif decide (k > 0) then n1 m (bif v0 m != 0 then some false else uR m k) else uR m k
def gR (k : Int) : Option Bool :=
  bif decide (k < -2147483647) then some false else bif decide (k > 2147483647) then some false else (loopE 2000 (stt k 0 0 [] 0 []) 1000 0).bind fun y => hR y.1 k
def projB (d : D) (o : List OutS) : Option Bool := match d, o with
  | .bool b, [] => some b
  | _, _ => none
theorem walkV (n : Int) (less : Bool) : runC' (mcw libW) 11 [.int .u8 n, .bool less] [] projB = bif less then gR (w64 (0 - w64 (n.tmod 100))) else gR (w64 (n.tmod 100)) := by kernel_rfl
end
