/- VMRepeats: what package vm computes. -/
import Derived.Test.YtaeadcgbahaofaaGreatDoorTw41
section
open Go Go.Tw
structure Vm where
  instrs : List D
  strs : List D
  ents : List D
  prios : List D
  cvars : List D
  tims : Int
  evs : Int
  nv : Nat
  vars : List D
  left : List D
  clo : Int
  act : Int
  pl : Int
  ba : Int
  pc : Int
  done : Bool
  ns : Nat
  stk : List D
  ne : Nat
  eff : List D
def Vm.cells (m : Vm) : List D := [.isl 2 m.instrs, .isl 1 m.strs, .isl 4 m.ents, .isl 1 m.prios, .isl 1 m.cvars, .int .i64 m.tims, .int .i64 m.evs, .sl 1 1 0 m.nv, .isl 1 m.left, .int .u64 m.clo, .int .u32 m.act, .int .i64 m.pl, .int .i64 m.ba, .int .i64 m.pc, .bool m.done, .sl 2 1 0 m.ns, .sl 3 5 0 m.ne]
def Vm.fs (m : Vm) : List FS := [(false, .cells m.cells), (true, .cells m.vars), (true, .cells m.stk), (true, .cells m.eff)]
def vmOf : List FS → Option Vm
  | [(false, .cells [.isl 2 instrs, .isl 1 strs, .isl 4 ents, .isl 1 prios, .isl 1 cvars, .int .i64 tims, .int .i64 evs, .sl 1 1 0 nv, .isl 1 left, .int .u64 clo, .int .u32 act, .int .i64 pl, .int .i64 ba, .int .i64 pc, .bool done, .sl 2 1 0 ns, .sl 3 5 0 ne]), (true, .cells vars), (true, .cells stk), (true, .cells eff)] => some ⟨instrs, strs, ents, prios, cvars, tims, evs, nv, vars, left, clo, act, pl, ba, pc, done, ns, stk, ne, eff⟩
  | _ => none
theorem vmOf_fs {h : List FS} {m : Vm} (e : vmOf h = some m) : h = m.fs := by
  unfold vmOf at e
  split at e
  · cases e; rfl
  · cases e
end
