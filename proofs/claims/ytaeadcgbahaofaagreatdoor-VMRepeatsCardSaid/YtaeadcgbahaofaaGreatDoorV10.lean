/- VMRepeats: what package vm computes. -/
import Derived.Test.YtaeadcgbahaofaaGreatDoorV8
section
open Go Go.Tw Go.Proofs
set_option maxRecDepth 100000
/-! The same loop, where one block of the caller stands before the machine's -/
def Vm.cells1 (m : Vm) : List D := [.isl 2 m.instrs, .isl 1 m.strs, .isl 4 m.ents, .isl 1 m.prios, .isl 1 m.cvars, .int .i64 m.tims, .int .i64 m.evs, .sl 2 1 0 m.nv, .isl 1 m.left, .int .u64 m.clo, .int .u32 m.act, .int .i64 m.pl, .int .i64 m.ba, .int .i64 m.pc, .bool m.done, .sl 3 1 0 m.ns, .sl 4 5 0 m.ne]
def Vm.fs1 (m : Vm) (w : List D) : List (Option FS) := [some (true, .cells w), some (false, .cells m.cells1), some (true, .cells m.vars), some (true, .cells m.stk), some (true, .cells m.eff)]
def vmOf1 : List (Option FS) → Option (Vm × List D)
  | [some (true, .cells w), some (false, .cells [.isl 2 instrs, .isl 1 strs, .isl 4 ents, .isl 1 prios, .isl 1 cvars, .int .i64 tims, .int .i64 evs, .sl 2 1 0 nv, .isl 1 left, .int .u64 clo, .int .u32 act, .int .i64 pl, .int .i64 ba, .int .i64 pc, .bool done, .sl 3 1 0 ns, .sl 4 5 0 ne]), some (true, .cells vars), some (true, .cells stk), some (true, .cells eff)] => some (⟨instrs, strs, ents, prios, cvars, tims, evs, nv, vars, left, clo, act, pl, ba, pc, done, ns, stk, ne, eff⟩, w)
  | _ => none
theorem vmOf1_fs {h : List (Option FS)} {m : Vm} {w : List D} (e : vmOf1 h = some (m, w)) : h = m.fs1 w := by
  unfold vmOf1 at e
  split at e
  · cases e; rfl
  · cases e
def nzExec1 : List (Nat × Option Nat × Nz) := (6, some 0, .own 1) :: nzExec
def hintE1 : Hint := { cuts := [(5, [12, 3, 14])], norms := [(1005, nzExec1)] }
/-- The rounds in the machine's own order. -/
def loopE1 : Nat → Vm → List D → Int → Int → Option ((Vm × Int) × List D)
  | 0, _, _, _, _ => none
  | f + 1, m, w, b, n => bif !m.done then bif decide (n < b) then bif decide ((m.ne : Int) ≤ 256) then stepK m (fun m' => loopE1 f m' w b (w64 (n + 1))) else some ((m, n), w) else some ((m, n), w) else some ((m, n), w)
def ME2 (f : Nat) (a : List D) (h : List (Option FS)) : Option ((Vm × Int) × List D) := match a with
  | [.ptr 1 0, .int .i64 b, .int .i64 n] => match vmOf1 h with
    | some (m, w) => loopE1 f m w b n
    | none => none
  | _ => none
def projE1 (e : Ex) (a : List D) (h : List (Option FS)) : Option ((Vm × Int) × List D) := match e with
  | .exit 0 => match a with
    | [.ptr 1 0, .int .i64 n] => match vmOf1 h with
      | some (m, w) => some ((m, n), w)
      | none => none
    | _ => none
  | _ => none
def embE1 (y : (Vm × Int) × List D) : Ex × Nat × SS := (.exit 0, 5, startL [12, 14] [.ptr 1 0, .int .i64 y.1.2] (y.1.1.fs1 y.2))
theorem projE1_ok : ∀ e vs outs y, projE1 e vs outs = some y → embE1 y = (e, outs.length, startL [12, 14] vs outs) := by
  intro e vs outs y h
  unfold projE1 at h
  split at h
  · split at h
    · split at h
      · rename_i m w hm
        cases h
        have := vmOf1_fs hm; subst this
        rfl
      · cases h
    · cases h
  · cases h
def outE1 (e : Ex) (nb : Nat) (s : SS) : Option ((Vm × Int) × List D) := normC [] s nb fun s _ => match canonS 1 [12, 14] s with | some (vs, outs) => projE1 e vs outs | none => none
/-- Behind the first round nothing but the machine is written. -/
def nzRe : List (Nat × Option Nat × Nz) := nzExec
theorem walkE1 (f : Nat) (m : Vm) (w : List D) (b n : Int) : execC Tryz.prog nats F2 (noLP 17) hintE1 fn17.ntmps 1 1000 (loopAt c17 5) (m.fs1 w).length (startL [12, 3, 14] [.ptr 1 0, .int .i64 b, .int .i64 n] (m.fs1 w))
    (fun e nb s => match e with
      | .normal => normC nzRe s nb fun s _ => match canonS 1 [12, 3, 14] s with
        | some (a, h) => ME2 f a h
        | none => none
      | .exit i => outE1 (.exit i) nb s
      | .ret => outE1 .ret nb s) = loopE1 (f + 1) m w b n := by kernel_rfl
theorem loopE1_ok : ∀ n a h y, ME2 n a h = some y → InL 1 a h → Exec Tryz.prog (tiOf Tryz.prog) fn17.ntmps 1 (.loop (loopAt c17 5)) h.length (startL [12, 3, 14] a h).st (embE1 y).1 (embE1 y).2.1 (embE1 y).2.2.st ∧ (embE1 y).2.2.H.OK := by
  refine loop_model (P := Tryz.prog) (nat := nats) (F := F2) (LP := noLP 17) (hint := hintE1) (N := fn17.ntmps) (k0 := 1) (fuel := 1000) (nz := nzRe) (κx := outE1) nats_ok (mc_ok lib2_ok) (fun c' _ => noLP_good) (outC_ok projE1_ok) (fun a h => ?_) (fun n a h y hy => ?_)
  · unfold ME2
    split
    · split <;> rfl
    · rfl
  · unfold ME2 at hy
    split at hy
    · rename_i b k
      split at hy
      · rename_i m w hm
        have := vmOf1_fs hm; subst this
        rw [← hy]
        exact walkE1 n m w b k
      · cases hy
    · cases hy
theorem putK_bind {β γ : Type} (m : Vm) (x : Int) (k : Vm → Option β) (g : β → Option γ) : (m.putK x k).bind g = m.putK x fun m' => (k m').bind g := by
  unfold Vm.putK; rw [Option.bind_assoc]
theorem takeK_bind {β γ : Type} (m : Vm) (k : Int → Vm → Option β) (g : β → Option γ) : (m.takeK k).bind g = m.takeK fun x m' => (k x m').bind g := by
  unfold Vm.takeK; rw [Option.bind_assoc]
theorem effK_bind {β γ : Type} (m : Vm) (op a b c : Int) (k : Vm → Option β) (g : β → Option γ) : (m.effK op a b c k).bind g = m.effK op a b c fun m' => (k m').bind g := by
  unfold Vm.effK; rw [Option.bind_assoc]
theorem bif_bind {β γ : Type} (c : Bool) (x y : Option β) (g : β → Option γ) : (bif c then x else y).bind g = bif c then x.bind g else y.bind g := by cases c <;> rfl
theorem vmInt_bind {β γ : Type} (l : List D) (i : Nat) (k : Int → Option β) (g : β → Option γ) : (vmInt l i k).bind g = vmInt l i fun x => (k x).bind g := by
  unfold vmInt; rw [bif_bind]; rfl
theorem stepK_bind_ok {β γ : Type} (m : Vm) (k : Vm → Option β) (g : β → Option γ) : (stepK m k).bind g = stepK m fun m' => (k m').bind g := by
  unfold _root_.stepK
  simp only [bif_bind, putK_bind, takeK_bind, effK_bind, vmInt_bind, Option.bind_none]
theorem loopE1_eq : ∀ (f : Nat) (m : Vm) (w : List D) (b n : Int), loopE1 f m w b n = (loopE f m b n).bind fun y => some (y, w)
  | 0, _, _, _, _ => rfl
  | f + 1, m, w, b, n => by
    simp only [loopE1, loopE, bif_bind, stepK_bind_ok, loopE1_eq f]
    rfl
def lE1 : LEnt := fun k0 a h => bif Nat.beq k0 1 then (match a with
  | [.ptr 1 0, .int .i64 b, .int .i64 n] => match vmOf1 h with
    | some (m, w) => some fun _ κ => (loopE 2000 m b n).bind fun y => κ (embE1 (y, w)).1 (embE1 (y, w)).2.1 (embE1 (y, w)).2.2
    | none => none
  | _ => none) else none
theorem lE1_ok {hint : FuncId → Hint} (hh : assoc (hint 17).cuts 5 = some [12, 3, 14]) : LEntOK Tryz.prog hint 17 5 lE1 := by
  refine ⟨fn17, c17, at17, body17, one17, fun lv hlv k0 a h φ he hi => ?_⟩
  rw [hh] at hlv; cases hlv
  unfold lE1 at he
  obtain ⟨h0, he⟩ := bif_some he
  have := beq_ok h0
  subst this
  split at he
  · rename_i b n _
    split at he
    · rename_i m w hm
      cases he
      intro R κ r hr
      cases hy : loopE 2000 m b n with
      | none => rw [hy] at hr; cases hr
      | some y =>
        rw [hy] at hr
        obtain ⟨h1, h2⟩ := loopE1_ok 2000 _ h (y, w) (by simp only [ME2, hm]; rw [loopE1_eq, hy]; rfl) hi
        exact ⟨_, _, _, h1, h2, hr⟩
    · cases he
  · cases he
end
