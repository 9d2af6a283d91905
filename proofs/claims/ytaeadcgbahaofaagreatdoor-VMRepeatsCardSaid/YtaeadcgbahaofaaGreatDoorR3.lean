/- VMRepeats: contracts of the reference reader. -/
import Derived.Test.YtaeadcgbahaofaaGreatDoorR1
section
open Go Go.Tw Go.Proofs
set_option maxRecDepth 100000
def Rd.tok (r : Rd) : D := .agg ((r.toks.drop (0 + r.i.toNat * 4)).take 4)
def isRK {β : Type} (r : Rd) (s : List UInt8) (k : Bool → Option β) : Option β :=
  bif decide (r.i < (r.nt : Int)) then
    bif decide (0 ≤ r.i) then bif Nat.blt r.i.toNat r.nt then bif nonB r.toks then bif Nat.ble (0 + r.i.toNat * 4 + 4) r.toks.length then bif okA [.int .i64, .str, .int .i64, .int .i64] r.tok then
      bif r.e == 0 then bif (r.tok.at 0).intV == 5 then k ((r.tok.at 1).strV == s) else bif (r.tok.at 0).intV == 2 then k ((r.tok.at 1).strV == s) else k false else k false
    else none else none else none else none else none
  else bif r.e == 0 then k false else k false
def isM (r : Rd) (s : List UInt8) : Option Bool := isRK r s some
theorem isRK_eq {β : Type} (r : Rd) (s : List UInt8) (k : Bool → Option β) : isRK r s k = (isM r s).bind k := by
  unfold isM isRK
  generalize decide (r.i < (r.nt : Int)) = c1
  generalize decide (0 ≤ r.i) = c2
  generalize Nat.blt r.i.toNat r.nt = c3
  generalize nonB r.toks = c4
  generalize Nat.ble (0 + r.i.toNat * 4 + 4) r.toks.length = c5
  generalize okA [.int .i64, .str, .int .i64, .int .i64] r.tok = c6
  generalize (r.e == 0) = c7
  generalize ((r.tok.at 0).intV == 5) = c8
  generalize ((r.tok.at 0).intV == 2) = c9
  cases c1 <;> cases c7 <;> (try rfl) <;> cases c2 <;> cases c3 <;> cases c4 <;> cases c5 <;> cases c6 <;> cases c8 <;> cases c9 <;> rfl
def projIs (d : D) (o : List OutS) : Option (Bool × List D × List D) := match d, o with
  | .bool b, [.set false (.cells c), .set true (.cells t)] => some (b, c, t)
  | _, _ => none
theorem wIs (r : Rd) (s : List UInt8) : runC' (mcr []) 128 [.ptr 0 0, .str s] r.fs projIs = isRK r s fun b => some (b, r.cells, r.toks) := by kernel_rfl
def eIs : Ent := fun a h => match a with
  | [.ptr 0 0, .str s] => match rdOf h with
    | some r => some fun _ κ => (isM r s).bind fun b => κ (.bool b) [.keep, .keep]
    | none => none
  | _ => none
theorem eIs_ok : EntOK Tryz.prog 128 eIs := by
  intro a h φ he hi
  unfold eIs at he
  split at he
  · rename_i s
    split at he
    · rename_i r hr
      cases he
      have := rdOf_fs hr; subst this
      refine contOK_model (emb := fun b => (.bool b, [.keep, .keep])) fun b hb => ?_
      have h1 : runC' (mcr []) 128 [.ptr 0 0, .str s] r.fs projIs = some (b, r.cells, r.toks) := by
        rw [wIs, isRK_eq, hb]; rfl
      refine FnV.reouts (outs' := [.keep, .keep]) (model_runC (emb := fun y => (.bool y.1, [.set false (.cells y.2.1), .set true (.cells y.2.2)])) (mcr_ok .nil) hi (fun res outs y hy => ?_) h1) rfl (outsPlain_clo rfl)
      unfold projIs at hy
      split at hy
      · cases hy; rfl
      · cases hy
    · cases he
  · cases he
def hints2 : FuncId → Hint
  | 22 => { norms := [(5, [(8, some 0, .own 4)])] }
  | 26 => { norms := [(2, [(8, some 0, .own 4)])] }
  | 58 => { norms := [(0, [(0, some 0, .own 4)])] }
  | 165 => { norms := [(2, [(8, some 0, .own 4)])] }
  | _ => {}
def libR : List (FuncId × Ent) := [(128, eIs)]
theorem libR_ok : LibOK Tryz.prog libR := .cons eIs_ok .nil
noncomputable def mcs (l : List (FuncId × Ent)) : SOrc := callS Tryz.prog nats (libOf l) noLP hints2 100000 200
theorem mcs_ok {l : List (FuncId × Ent)} (h : LibOK Tryz.prog l) : SOrcOK Tryz.prog (mcs l) := callS_ok mixed nats_ok (libOf_ok h) noLP_ok 200
def optBeq : List (Option Slot) → List (Option Slot) → Bool
  | [], [] => true
  | none :: a, none :: b => optBeq a b
  | some x :: a, some y :: b => x.beqS y && optBeq a b
  | _, _ => false
theorem optBeq_eq : ∀ {a b : List (Option Slot)}, optBeq a b = true → a = b
  | [], [], _ => rfl
  | [], _ :: _, h => by simp [optBeq] at h
  | none :: _, [], h => by simp [optBeq] at h
  | some _ :: _, [], h => by simp [optBeq] at h
  | none :: a, none :: b, h => by rw [optBeq_eq (a := a) (b := b) (by simpa [optBeq] using h)]
  | none :: _, some _ :: _, h => by simp [optBeq] at h
  | some _ :: _, none :: _, h => by simp [optBeq] at h
  | some x :: a, some y :: b, h => by
    simp only [optBeq, Bool.and_eq_true] at h
    rw [beqS_eq h.1, optBeq_eq h.2]
def inF (x : Fact) : List FS := x.hin.map fun sl => (false, sl)
def projF (x : Fact) (d : D) (o : List OutS) : Option Unit := bif D.beq d x.res && optBeq (outSlots (inF x) o 0) x.outs then some () else none
/-- A fact out of a run of the symbolic machine. -/
theorem Fact.of_runS {P : Program} {F : SOrc} (hF : SOrcOK P F) (x : Fact) (hc : closedB x.args x.hin = true) (h : runC' F x.f x.args (inF x) (projF x) = some ()) : x.ok P := by
  simp only [closedB, Bool.and_eq_true, List.all_eq_true] at hc
  have hm : (inF x).map (·.2) = x.hin := by simp [inF, Function.comp_def]
  have hl : (inF x).length = x.hin.length := by simp [inF]
  have hi : InOK x.args (inF x) := by
    refine ⟨fun b hb => by rw [hl]; exact blt_ok (hc.1 b hb), fun y hy b hb => ?_, fun y hy h1 => ?_⟩
    · obtain ⟨sl, h2, rfl⟩ := List.mem_map.1 hy
      rw [hl]; exact blt_ok (hc.2 sl h2 b hb)
    · obtain ⟨sl, h2, rfl⟩ := List.mem_map.1 hy
      cases h1
  unfold runC' at h
  split at h
  · rename_i φ hφ
    obtain ⟨res, outs, h1, h2, h3, h4⟩ := hF _ _ _ φ hφ hi _ _ _ h
    unfold projF at h4
    obtain ⟨h5, _⟩ := bif_some h4
    simp only [Bool.and_eq_true] at h5
    have e1 := beq_eq h5.1
    have e2 := optBeq_eq h5.2
    rw [e1, e2, hm] at h1 h2
    exact ⟨h1, h2⟩
  · cases h
end
