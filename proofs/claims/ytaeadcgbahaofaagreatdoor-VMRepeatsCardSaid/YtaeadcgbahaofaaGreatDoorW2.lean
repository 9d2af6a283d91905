/- VMRepeats: runs of the program that are parts of its walk. -/
import Derived.Test.YtaeadcgbahaofaaGreatDoorE4
import Derived.Test.YtaeadcgbahaofaaGreatDoorZFB
section
open Go Go.Tw Go.Proofs
set_option maxRecDepth 100000
noncomputable def fn11 : Func := (Tryz.prog.funcs[11]?).getD default
noncomputable def c11 : Code := fn11.body.getD .skip
theorem at11 : Tryz.prog.funcs[11]? = some fn11 := by kernel_rfl
theorem body11 : fn11.body = some c11 := by kernel_rfl
theorem one11 : loopOne c11 11 = true := by kernel_rfl
def elR (l : List D) (i : Int) : D := .agg ((l.drop (0 + i.toNat * 5)).take 5)
def eqR (l : List D) (i b : Int) : Bool := ((elR l i).at 0).intV == 15 && (((elR l i).at 1).intV == 0 && (((elR l i).at 2).intV == b && (((elR l i).at 3).intV == 0 && (((elR l i).at 4).strV == [] && true))))
def chkR (ne : Nat) (l : List D) (i b : Int) (x y : Option Bool) : Option Bool :=
  bif decide (0 ≤ i) then bif Nat.blt i.toNat ne then bif nonB l then bif Nat.ble (0 + i.toNat * 5 + 5) l.length then bif okA [.int .i64, .int .i64, .int .i64, .int .i64, .str] (elR l i) then
    bif !eqR l i b then x else y else none else none else none else none else none
def loopR : Nat → Nat → List D → Int → Int → Option Bool
  | 0, _, _, _, _ => none
  | f + 1, ne, l, i, k => bif decide (i < (ne : Int)) then bif i == 0 then chkR ne l i k (some false) (loopR f ne l (w64 (i + 1)) k) else chkR ne l i 0 (some false) (loopR f ne l (w64 (i + 1)) k) else some true
def MR (f : Nat) (a : List D) (h : List (Option FS)) : Option Bool := match a with
  | [.int .i64 i, .sl 0 5 0 ne, .int .i64 k] => match h with
    | [some (true, .cells l)] => loopR f ne l i k
    | _ => none
  | _ => none
def projR (e : Ex) (a : List D) (h : List (Option FS)) : Option Bool := match e with
  | .exit 0 => match a, h with
    | [.undef], [] => some true
    | _, _ => none
  | .ret => match a, h with
    | [.bool false], [] => some false
    | _, _ => none
  | _ => none
def embR : Bool → Ex × Nat × SS
  | true => (.exit 0, 0, startL [4] [.undef] [])
  | false => (.ret, 0, startL [4] [.bool false] [])
theorem projR_ok : ∀ e vs outs y, projR e vs outs = some y → embR y = (e, outs.length, startL [4] vs outs) := by
  intro e vs outs y h
  unfold projR at h
  split at h
  · split at h
    · cases h; rfl
    · cases h
  · split at h
    · cases h; rfl
    · cases h
  · cases h
def outR (e : Ex) (nb : Nat) (s : SS) : Option Bool := normC [] s nb fun s _ => match canonS 0 [4] s with | some (vs, outs) => projR e vs outs | none => none
theorem walkR (f ne : Nat) (l : List D) (i k : Int) : execC Tryz.prog nats (mcf lib2) (noLP 11) (hintsF 11) fn11.ntmps 0 1000 (loopAt c11 11) [some (true, Slot.cells l)].length (startL [13, 10, 8] [.int .i64 i, .sl 0 5 0 ne, .int .i64 k] [some (true, .cells l)])
    (fun e nb s => match e with
      | .normal => normC [(10, none, .own 5)] s nb fun s _ => match canonS 0 [13, 10, 8] s with
        | some (a, h) => MR f a h
        | none => none
      | .exit i => outR (.exit i) nb s
      | .ret => outR .ret nb s) = loopR (f + 1) ne l i k := by kernel_rfl
theorem loopR_ok : ∀ n a h y, MR n a h = some y → InL 0 a h → Exec Tryz.prog (tiOf Tryz.prog) fn11.ntmps 0 (.loop (loopAt c11 11)) h.length (startL [13, 10, 8] a h).st (embR y).1 (embR y).2.1 (embR y).2.2.st ∧ (embR y).2.2.H.OK := by
  refine loop_model (P := Tryz.prog) (nat := nats) (F := mcf lib2) (LP := noLP 11) (hint := hintsF 11) (N := fn11.ntmps) (k0 := 0) (fuel := 1000) (nz := [(10, none, .own 5)]) (κx := outR) nats_ok (mcf_ok lib2_ok) (fun c' _ => noLP_good) (outC_ok projR_ok) (fun a h => ?_) (fun n a h y hy => ?_)
  · unfold MR
    split
    · split <;> rfl
    · rfl
  · unfold MR at hy
    split at hy
    · rename_i i ne k
      split at hy
      · rename_i l
        rw [← hy]
        exact walkR n ne l i k
      · cases hy
    · cases hy
def lR : LEnt := fun k0 a h => bif Nat.beq k0 0 then (match a with
  | [.int .i64 i, .sl 0 5 0 ne, .int .i64 k] => match h with
    | [some (true, .cells l)] => some fun _ κ => (loopR 300 ne l i k).bind fun y => bif y then κ (.exit 0) 0 (startL [4] [.undef] []) else κ .ret 0 (startL [4] [.bool false] [])
    | _ => none
  | _ => none) else none
theorem lR_ok {hint : FuncId → Hint} (hh : assoc (hint 11).cuts 11 = some [13, 10, 8]) : LEntOK Tryz.prog hint 11 11 lR := by
  refine ⟨fn11, c11, at11, body11, one11, fun lv hlv k0 a h φ he hi => ?_⟩
  rw [hh] at hlv; cases hlv
  unfold lR at he
  obtain ⟨h0, he⟩ := bif_some he
  have := beq_ok h0
  subst this
  split at he
  · rename_i i ne k _
    split at he
    · rename_i l _
      cases he
      intro R κ x hr
      cases hy : loopR 300 ne l i k with
      | none => rw [hy] at hr; cases hr
      | some y =>
        rw [hy] at hr
        obtain ⟨h1, h2⟩ := loopR_ok 300 _ _ y (by simp only [MR, hy]) hi
        cases y with
        | true => exact ⟨_, _, _, h1, h2, hr⟩
        | false => exact ⟨_, _, _, h1, h2, hr⟩
    · cases he
  · cases he
noncomputable def mcw (l : List (FuncId × Ent)) : SOrc := callS Tryz.prog nats (libOf l) (lpOf [(17, 5, lE), (17, 5, lE1), (11, 11, lR)]) hintsF 1000 100
theorem mcw_ok {l : List (FuncId × Ent)} (h : LibOK Tryz.prog l) : SOrcOK Tryz.prog (mcw l) := callS_ok mixed nats_ok (libOf_ok h) (lpOf_ok (.cons (lE_ok rfl) (.cons (lE1_ok rfl) (.cons (lR_ok rfl) .nil)))) 100
def fv31_0 : Fact := ⟨31, [.str [118, 97, 114, 32, 118, 32, 48, 59, 32, 109, 111, 100, 101, 32, 109, 32, 49, 32, 123, 32, 111, 110, 32, 115, 116, 97, 114, 116, 32, 123, 32, 114, 101, 112, 101, 97, 116, 32, 118, 32, 123, 32, 115, 99, 111, 114, 101, 32, 118, 59, 32, 118, 32, 61, 32, 48, 59, 32, 125, 32, 125, 32, 125]], [], .tup [.agg [.sl 0 2 0 8, .nsl, .sl 1 4 0 1, .sl 2 1 0 1, .sl 3 1 0 1, .int .i64 0, .int .i64 0], .int .i64 0, .int .i64 0], [some (.cells [.int .i64 2, .int .i64 0, .int .i64 14, .int .i64 7, .int .i64 2, .int .i64 0, .int .i64 15, .int .i64 0, .int .i64 1, .int .i64 0, .int .i64 3, .int .i64 0, .int .i64 12, .int .i64 1, .int .i64 31, .int .i64 0]), some (.cells [.int .i64 0, .int .i64 1, .int .i64 0, .int .i64 0]), some (.cells [.int .i64 1]), some (.cells [.int .i64 0])]⟩
theorem fv31_0_ok : fv31_0.ok Tryz.prog := Fact.of_runS (mcf_ok (l := [(fb13_0.f, factE fb13_0), (fb78_0.f, factE fb78_0)] ++ lib2) (.cons (factE_ok fb13_0_ok) (.cons (factE_ok fb78_0_ok) lib2_ok))) fv31_0 (by kernel_rfl) (by kernel_rfl)
def libW : List (FuncId × Ent) := [(fv31_0.f, factE fv31_0), (fi89_0.f, factE fi89_0), (factSane.f, factE factSane)] ++ lib2
theorem libW_ok : LibOK Tryz.prog libW := .cons (factE_ok fv31_0_ok) (.cons (factE_ok fi89_0_ok) (.cons (factE_ok factSane_ok) lib2_ok))
end
