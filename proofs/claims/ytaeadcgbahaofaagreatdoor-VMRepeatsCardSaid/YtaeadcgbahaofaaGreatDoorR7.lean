/- VMRepeats: contracts of the reference reader. -/
import Derived.Test.YtaeadcgbahaofaaGreatDoorR5
section
open Go Go.Tw Go.Proofs
set_option maxRecDepth 100000
noncomputable def F3r : SOrc := mcs libR
def outA (e : Ex) (nb : Nat) (s : SS) : Option (Bool × Int × Rd × List D) := normC [] s nb fun s _ => match canonS 3 [4] s with | some (vs, outs) => projA e vs outs | none => none
def embA (y : Bool × Int × Rd × List D) : Ex × Nat × SS := match y with
  | (true, i, r, ws) => (.ret, 3, startL [4] [.int .i64 i] (r.fa ws))
  | (false, _, r, ws) => (.exit 0, 3, startL [4] [.undef] (r.fa ws))
theorem projA_ok : ∀ e vs outs y, projA e vs outs = some y → embA y = (e, outs.length, startL [4] vs outs) := by
  intro e vs outs y h
  unfold projA at h
  split at h
  · split at h
    · split at h
      · rename_i r ws hm
        cases h
        have := raOf_fs hm; subst this
        rfl
      · cases h
    · cases h
  · split at h
    · split at h
      · rename_i r ws hm
        cases h
        have := raOf_fs hm; subst this
        rfl
      · cases h
    · cases h
  · cases h
theorem walkA (f : Nat) (r : Rd) (k : Nat) (ws : List D) (i : Int) : execC Tryz.prog nats F3r (noLP 124) hintA fn124.ntmps 3 1000 (loopAt c124 2) (r.fa ws).length (startL [0, 1, 5] [.ptr 0 0, .sl 2 1 0 k, .int .i64 i] (r.fa ws))
    (fun e nb s => match e with
      | .normal => normC [(1, none, .own 1)] s nb fun s _ => match canonS 3 [0, 1, 5] s with
        | some (a, h) => MA f a h
        | none => none
      | .exit i => outA (.exit i) nb s
      | .ret => outA .ret nb s) = amL (f + 1) r k ws i := by kernel_rfl

theorem loopA_ok : ∀ n a h y, MA n a h = some y → InL 3 a h → Exec Tryz.prog (tiOf Tryz.prog) fn124.ntmps 3 (.loop (loopAt c124 2)) h.length (startL [0, 1, 5] a h).st (embA y).1 (embA y).2.1 (embA y).2.2.st ∧ (embA y).2.2.H.OK := by
  refine loop_model (P := Tryz.prog) (nat := nats) (F := F3r) (LP := noLP 124) (hint := hintA) (N := fn124.ntmps) (k0 := 3) (fuel := 1000) (nz := [(1, none, .own 1)]) (κx := outA) nats_ok (mcs_ok libR_ok) (fun c' _ => by intro id lv _ _ a h φ hφ; cases hφ) (outC_ok projA_ok) (fun a h => ?_) (fun n a h y hy => ?_)
  · unfold MA
    split
    · split <;> rfl
    · rfl
  · unfold MA at hy
    split at hy
    · rename_i k i
      split at hy
      · rename_i r ws hm
        have := raOf_fs hm; subst this
        rw [← hy]
        exact walkA n r k ws i
      · cases hy
    · cases hy
def lA : LEnt := fun k0 a h => bif Nat.beq k0 3 then (match a with
  | [.ptr 0 0, .sl 2 1 0 k, .int .i64 i] => match raOf h with
    | some (r, ws) => some fun _ κ => (amL 64 r k ws i).bind fun y => bif y.1 then κ .ret 3 (startL [4] [.int .i64 y.2.1] (y.2.2.1.fa y.2.2.2)) else κ (.exit 0) 3 (startL [4] [.undef] (y.2.2.1.fa y.2.2.2))
    | none => none
  | _ => none) else none
theorem lA_ok {hint : FuncId → Hint} (hh : assoc (hint 124).cuts 2 = some [0, 1, 5]) : LEntOK Tryz.prog hint 124 2 lA := by
  refine ⟨fn124, c124, at124, body124, one124, fun lv hlv k0 a h φ he hi => ?_⟩
  rw [hh] at hlv; cases hlv
  unfold lA at he
  obtain ⟨h0, he⟩ := bif_some he
  have := beq_ok h0
  subst this
  split at he
  · rename_i k i _
    split at he
    · rename_i r ws hm
      cases he
      intro R κ x hr
      cases hy : amL 64 r k ws i with
      | none => rw [hy] at hr; cases hr
      | some y =>
        rw [hy] at hr
        obtain ⟨h1, h2⟩ := loopA_ok 64 _ h y (by simp only [MA, hm, hy]) hi
        obtain ⟨b, j, r', ws'⟩ := y
        cases b with
        | true => exact ⟨_, _, _, h1, h2, hr⟩
        | false => exact ⟨_, _, _, h1, h2, hr⟩
    · cases he
  · cases he
def hintsA : FuncId → Hint
  | 124 => hintA
  | _ => {}
noncomputable def mca (l : List (FuncId × Ent)) : SOrc := callS Tryz.prog nats (libOf l) (lpOf [(124, 2, lA)]) hintsA 1000 100
theorem mca_ok {l : List (FuncId × Ent)} (h : LibOK Tryz.prog l) : SOrcOK Tryz.prog (mca l) := callS_ok mixed nats_ok (libOf_ok h) (lpOf_ok (.cons (lA_ok rfl) .nil)) 100
def amM (r : Rd) (k : Nat) (ws : List D) : Option Int := bif cloB ws then (amL 64 r k ws 0).bind fun y => bif y.1 then some y.2.1 else some (-1) else none
def projAm (d : D) (o : List OutS) : Option (Int × List D × List D × List D) := match d, o with
  | .int .i64 n, [.set false (.cells c), .set true (.cells t), .set true (.cells w)] => some (n, c, t, w)
  | _, _ => none
theorem wAm (r : Rd) (k : Nat) (ws : List D) : runC' (mca libR) 124 [.ptr 0 0, .sl 2 1 0 k] [(false, .cells r.cells), (true, .cells r.toks), (false, .cells ws)] projAm =
    bif cloB ws then (amL 64 r k ws 0).bind fun y => bif y.1 then some (y.2.1, y.2.2.1.cells, y.2.2.1.toks, y.2.2.2) else some (-1, y.2.2.1.cells, y.2.2.1.toks, y.2.2.2) else none := by kernel_rfl
theorem amL_same : ∀ (f : Nat) (r : Rd) (k : Nat) (ws : List D) (i : Int) (y : Bool × Int × Rd × List D), amL f r k ws i = some y → y.2.2 = (r, ws)
  | 0, _, _, _, _, _, h => by simp [amL] at h
  | f + 1, r, k, ws, i, y, h => by
    simp only [amL] at h
    cases hc : decide (i < (k : Int)) with
    | false => rw [hc] at h; cases h; rfl
    | true =>
      rw [hc] at h
      simp only [cond_true] at h
      obtain ⟨_, h⟩ := bif_some h
      obtain ⟨_, h⟩ := bif_some h
      obtain ⟨_, h⟩ := bif_some h
      obtain ⟨_, h⟩ := bif_some h
      obtain ⟨_, h⟩ := bif_some h
      cases hb : isM r (ws.getD (0 + i.toNat * 1) .undef).strV with
      | none => rw [hb] at h; cases h
      | some b =>
        rw [hb] at h
        cases b with
        | true => cases h; rfl
        | false => exact amL_same f r k ws _ y h
def eAm : Ent := fun a h => match a with
  | [.ptr 0 0, .sl 2 1 0 k] => match h with
    | [x, y, (false, .cells ws)] => match rdOf [x, y] with
      | some r => some fun _ κ => (amM r k ws).bind fun n => κ (.int .i64 n) [.keep, .keep, .keep]
      | none => none
    | _ => none
  | _ => none
theorem eAm_ok : EntOK Tryz.prog 124 eAm := by
  intro a h φ he hi
  unfold eAm at he
  split at he
  · rename_i k
    split at he
    · rename_i x y ws
      split at he
      · rename_i r hr
        cases he
        have := rdOf_fs hr
        simp only [Rd.fs, List.cons.injEq, and_true] at this
        obtain ⟨rfl, rfl⟩ := this
        refine contOK_model (emb := fun n => (.int .i64 n, [.keep, .keep, .keep])) fun n hn => ?_
        have h1 : runC' (mca libR) 124 [.ptr 0 0, .sl 2 1 0 k] [(false, .cells r.cells), (true, .cells r.toks), (false, .cells ws)] projAm = some (n, r.cells, r.toks, ws) := by
          rw [wAm]
          unfold amM at hn
          obtain ⟨h2, h3⟩ := bif_some hn
          rw [h2]
          cases hy : amL 64 r k ws 0 with
          | none => rw [hy] at h3; cases h3
          | some y =>
            have h4 := amL_same _ _ _ _ _ _ hy
            obtain ⟨b, j, r', ws'⟩ := y
            cases h4
            rw [hy] at h3
            cases b <;> cases h3 <;> rfl
        refine FnV.reouts (outs' := [.keep, .keep, .keep]) (model_runC (emb := fun y => (.int .i64 y.1, [.set false (.cells y.2.1), .set true (.cells y.2.2.1), .set true (.cells y.2.2.2)])) (mca_ok libR_ok) hi (fun res outs y hy => ?_) h1) rfl (outsPlain_clo rfl)
        unfold projAm at hy
        split at hy
        · cases hy; rfl
        · cases hy
      · cases he
    · cases he
  · cases he
def libA : List (FuncId × Ent) := [(124, eAm), (128, eIs), (204, eIsWord)]
theorem libA_ok : LibOK Tryz.prog libA := .cons eAm_ok (.cons eIs_ok (.cons eIsWord_ok .nil))
end
