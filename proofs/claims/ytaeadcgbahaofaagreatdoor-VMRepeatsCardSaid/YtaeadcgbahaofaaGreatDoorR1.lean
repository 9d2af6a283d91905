/- VMRepeats: contracts of the reference reader. -/
import Derived.Test.YtaeadcgbahaofaaGreatDoorV2
section
open Go Go.Tw Go.Proofs
set_option maxRecDepth 100000
/-! The reference's reader: is -/
structure Rd where
  nt : Nat
  toks : List D
  fin : Int
  i : Int
  e : Int
  pos : Int
  ops : Int
  pars : Int
def Rd.cells (r : Rd) : List D := [.sl 1 4 0 r.nt, .int .i64 r.fin, .int .i64 r.i, .int .i64 r.e, .int .i64 r.pos, .int .i64 r.ops, .int .i64 r.pars]
def Rd.fs (r : Rd) : List FS := [(false, .cells r.cells), (true, .cells r.toks)]
def rdOf : List FS → Option Rd
  | [(false, .cells [.sl 1 4 0 nt, .int .i64 fin, .int .i64 i, .int .i64 e, .int .i64 pos, .int .i64 ops, .int .i64 pars]), (true, .cells toks)] => some ⟨nt, toks, fin, i, e, pos, ops, pars⟩
  | _ => none
theorem rdOf_fs {h : List FS} {r : Rd} (e : rdOf h = some r) : h = r.fs := by
  unfold rdOf at e
  split at e
  · cases e; rfl
  · cases e
def hints1 : FuncId → Hint
  | 162 => { views := [(22, .ag [.int .i64, .str, .int .i64, .int .i64])] }
  | _ => {}
noncomputable def mcr (l : List (FuncId × Ent)) : SOrc := callS Tryz.prog nats (libOf l) noLP hints1 100000 200
theorem mcr_ok {l : List (FuncId × Ent)} (h : LibOK Tryz.prog l) : SOrcOK Tryz.prog (mcr l) := callS_ok mixed nats_ok (libOf_ok h) noLP_ok 200
end
