/- VMRepeats: what package vm computes. -/
import Derived.Test.YtaeadcgbahaofaaGreatDoorV5
section
open Go Go.Tw Go.Proofs
set_option maxRecDepth 100000
/-! The loop of Exec -/
def w64 (n : Int) : Int := IntKind.wrap .i64 n
section
variable {β : Type}
def Vm.putK (m : Vm) (x : Int) (k : Vm → Option β) : Option β := (putM m x).bind fun y => k { m with ns := m.ns + 1, stk := y }
def Vm.takeK (m : Vm) (k : Int → Vm → Option β) : Option β := (takeM m).bind fun y => k y.1 { m with ns := y.2 }
def Vm.effK (m : Vm) (op a b c : Int) (k : Vm → Option β) : Option β := (effM m op a b c).bind fun y => k { m with ne := m.ne + 1, eff := y }
def Vm.ins (m : Vm) : D := m.instrs.getD m.pc.toNat .undef
def Vm.op (m : Vm) : Int := (m.ins.at 0).intV
def Vm.arg (m : Vm) : Int := (m.ins.at 1).intV
def Vm.next (m : Vm) : Vm := { m with pc := w64 (m.pc + 1) }
def vmInt (l : List D) (i : Nat) (k : Int → Option β) : Option β := bif okK (.int .i64) (l.getD i .undef) then k (l.getD i .undef).intV else none
def stepK (m : Vm) (k : Vm → Option β) : Option β :=
  bif decide (0 ≤ m.pc) then bif Nat.blt m.pc.toNat m.instrs.length then bif okA [.int .i64, .int .i64] m.ins then
    bif m.op == 1 then m.next.putK m.arg k else
    bif m.op == 2 then
      bif decide (0 ≤ m.arg) then bif Nat.blt m.arg.toNat m.nv then bif nonB m.vars then bif Nat.blt (0 + m.arg.toNat * 1) m.vars.length then
        vmInt m.vars (0 + m.arg.toNat * 1) fun x => m.next.putK x k else none else none else none else none else
    bif m.op == 3 then m.next.takeK fun x m1 =>
      bif decide (0 ≤ m.arg) then bif Nat.blt m.arg.toNat m.nv then bif nonB m.vars then bif Nat.ble (0 + m.arg.toNat * 1 + 1) m.vars.length then
        k { m1 with vars := putL m.vars (0 + m.arg.toNat * 1) [.int .i64 x] } else none else none else none else none else
    bif m.op == 4 then bif decide (0 ≤ m.arg) then m.next.putK (w64 (IntKind.wrap .u64 (BitVec.ofInt 64 (m.clo.fdiv (2 ^ min m.arg.toNat 64)) &&& BitVec.ofInt 64 1).toNat)) k else none else
    bif m.op == 5 then bif decide (0 ≤ m.arg) then m.next.putK (w64 (IntKind.wrap .u32 (BitVec.ofInt 32 (m.act.fdiv (2 ^ min m.arg.toNat 32)) &&& BitVec.ofInt 32 1).toNat)) k else none else
    bif m.op == 6 then
      bif decide (0 ≤ m.arg) then bif Nat.blt m.arg.toNat m.left.length then vmInt m.left m.arg.toNat fun x => m.next.putK x k else none else none else
    bif m.op == 7 then m.next.putK m.pl k else
    bif m.op == 8 then m.next.putK m.ba k else
    bif m.op == 9 then (m.next.takeK fun x m1 => m1.putK (unI' 10 x) k) else
    bif m.op == 10 then (m.next.takeK fun x m1 => m1.putK (unI' 11 x) k) else
    bif m.op == 11 then (m.next.takeK fun y m1 => m1.takeK fun x m2 => m2.putK (binI m.arg x y) k) else
    bif m.op == 12 then k { m with pc := m.arg } else
    bif m.op == 13 then (m.next.takeK fun x m1 => bif x == 0 then k { m1 with pc := m.arg } else k m1) else
    bif m.op == 14 then (m.next.takeK fun x m1 => bif decide (x ≤ 0) then k { m1 with pc := m.arg } else m1.putK (w64 (x - 1)) k) else
    bif m.op == 15 then (m.next.takeK fun x m1 => m1.effK m.op m.arg x 0 k) else
    bif m.op == 19 then (m.next.takeK fun x m1 => m1.effK m.op m.arg x 0 k) else
    bif m.op == 21 then (m.next.takeK fun x m1 => m1.effK m.op m.arg x 0 k) else
    bif m.op == 20 then (m.next.takeK fun y m1 => m1.takeK fun x m2 => m2.effK m.op m.arg x y k) else
    bif m.op == 29 then (m.next.takeK fun x m1 =>
      bif decide (0 ≤ m.arg) then bif Nat.blt m.arg.toNat m.strs.length then bif okK .str (m.strs.getD m.arg.toNat .undef) then
      bif Nat.ble (m.ne * 5) m.eff.length then bif Nat.ble ((m.ne + 1) * 48) 140737488355328 then
        k { m1 with ne := m.ne + 1, eff := m.eff.take (m.ne * 5) ++ [.int .i64 m.op, .int .i64 0, .int .i64 x, .int .i64 0, .str (m.strs.getD m.arg.toNat .undef).strV] } else none else none else none else none else none) else
    bif m.op == 31 then k { m.next with done := true } else
    m.next.effK m.op m.arg 0 0 k
  else none else none else none
end

def loopE : Nat → Vm → Int → Int → Option (Vm × Int)
  | 0, _, _, _ => none
  | f + 1, m, b, n => bif !m.done then bif decide (n < b) then bif decide ((m.ne : Int) ≤ 256) then stepK m (fun m' => loopE f m' b (w64 (n + 1))) else some (m, n) else some (m, n) else some (m, n)

def vmOfL (h : List (Option FS)) : Option Vm := match mapO (fun x => x) h with
  | some l => vmOf l
  | none => none
theorem vmOfL_fs {h : List (Option FS)} {m : Vm} (e : vmOfL h = some m) : h = m.fs.map some := by
  unfold vmOfL at e
  split at e
  · rename_i l hl
    rw [← vmOf_fs e]
    obtain ⟨h1, h2⟩ := mapO_spec hl
    apply List.ext_getElem?
    intro i
    rw [List.getElem?_map]
    cases hi : h[i]? with
    | none =>
      have : l.length ≤ i := by rw [h1]; exact List.getElem?_eq_none_iff.1 hi
      rw [List.getElem?_eq_none this]; rfl
    | some x =>
      obtain ⟨y, h3, h4⟩ := h2 i x hi
      rw [h3, h4]; rfl
  · cases e
def nzExec : List (Nat × Option Nat × Nz) := [(12, some 7, .own 1), (12, some 15, .own 1), (12, some 16, .own 5), (12, some 0, .val 2), (12, some 1, .val 1), (12, some 2, .val 4), (12, some 3, .val 1), (12, some 4, .val 1), (12, some 8, .val 1)]
def hintE : Hint := { cuts := [(5, [12, 3, 14])], norms := [(1005, nzExec)] }
noncomputable def fn17 : Func := (Tryz.prog.funcs[17]?).getD default
noncomputable def c17 : Code := fn17.body.getD .skip

/-- Rounds of the loop, from what is told of a state. -/
def ME (f : Nat) (a : List D) (h : List (Option FS)) : Option (Vm × Int) := match a with
  | [.ptr 0 0, .int .i64 b, .int .i64 n] => match vmOfL h with
    | some m => loopE f m b n
    | none => none
  | _ => none
def projE (e : Ex) (a : List D) (h : List (Option FS)) : Option (Vm × Int) := match e with
  | .exit 0 => match a with
    | [.ptr 0 0, .int .i64 n] => match vmOfL h with
      | some m => some (m, n)
      | none => none
    | _ => none
  | _ => none
def embE (y : Vm × Int) : Ex × Nat × SS := (.exit 0, 4, startL [12, 14] [.ptr 0 0, .int .i64 y.2] (y.1.fs.map some))
theorem projE_ok : ∀ e vs outs y, projE e vs outs = some y → embE y = (e, outs.length, startL [12, 14] vs outs) := by
  intro e vs outs y h
  unfold projE at h
  split at h
  · split at h
    · split at h
      · rename_i m hm
        cases h
        have := vmOfL_fs hm; subst this
        rfl
      · cases h
    · cases h
  · cases h
def outE (e : Ex) (nb : Nat) (s : SS) : Option (Vm × Int) := normC [] s nb fun s _ => match canonS 0 [12, 14] s with | some (vs, outs) => projE e vs outs | none => none
noncomputable def F2 : SOrc := mc lib2
theorem walkE (f : Nat) (m : Vm) (b n : Int) : execC Tryz.prog nats F2 (noLP 17) hintE fn17.ntmps 0 1000 (loopAt c17 5) (m.fs.map some).length (startL [12, 3, 14] [.ptr 0 0, .int .i64 b, .int .i64 n] (m.fs.map some))
    (fun e nb s => match e with
      | .normal => normC nzExec s nb fun s _ => match canonS 0 [12, 3, 14] s with
        | some (a, h) => ME f a h
        | none => none
      | .exit i => outE (.exit i) nb s
      | .ret => outE .ret nb s) = loopE (f + 1) m b n := by kernel_rfl
end
