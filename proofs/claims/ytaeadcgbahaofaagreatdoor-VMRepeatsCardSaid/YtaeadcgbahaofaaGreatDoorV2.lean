/- VMRepeats: what package vm computes. -/
import Derived.Test.YtaeadcgbahaofaaGreatDoorV1
import Derived.Test.YtaeadcgbahaofaaGreatDoorTw30
section
open Go Go.Tw Go.Proofs
set_option maxRecDepth 100000

def clampI (n : Int) : Int := min (max n (-2147483647)) 2147483647
def b2i (b : Bool) : Int := bif b then 1 else 0
def unI' (k a : Int) : Int := bif k == 10 then IntKind.wrap .i64 (0 - clampI a) else bif k == 11 then b2i (clampI a == 0) else 0
def binI (k a b : Int) : Int :=
  bif k == 12 then clampI (IntKind.wrap .i64 (clampI a * clampI b)) else
  bif k == 13 then (bif clampI b != 0 then IntKind.wrap .i64 ((clampI a).tdiv (clampI b)) else 0) else
  bif k == 14 then (bif clampI b != 0 then (clampI a).tmod (clampI b) else 0) else
  bif k == 15 then clampI (IntKind.wrap .i64 (clampI a + clampI b)) else
  bif k == 16 then clampI (IntKind.wrap .i64 (clampI a - clampI b)) else
  bif k == 17 then b2i (decide (clampI a < clampI b)) else
  bif k == 18 then b2i (decide (clampI a ≤ clampI b)) else
  bif k == 19 then b2i (decide (clampI a > clampI b)) else
  bif k == 20 then b2i (decide (clampI a ≥ clampI b)) else
  bif k == 21 then b2i (clampI a == clampI b) else
  bif k == 22 then b2i (clampI a != clampI b) else
  bif k == 23 then b2i (clampI a != 0 && clampI b != 0) else
  bif k == 24 then b2i (clampI a != 0 || clampI b != 0) else 0

def noLP : FuncId → LOrc := fun _ _ _ _ _ => none
def hints0 : FuncId → Hint
  | 54 => { views := [(15, .pag [.int .i64, .int .i64]), (46, .sc (.int .i64)), (98, .psc (.int .i64)), (214, .psc .str)] }
  | 117 => { views := [(15, .sc (.int .i64))] }
  | _ => {}
theorem noLP_ok {hint : FuncId → Hint} : LPOK Tryz.prog noLP hint := by
  intro f fn c _ _ k0 c' _ id lv _ _ a h φ hφ
  cases hφ

/-- The machine with a library, without contracts of loops. -/
noncomputable def mc (l : List (FuncId × Ent)) : SOrc := callS Tryz.prog nats (libOf l) noLP hints0 1000 100
theorem mc_ok {l : List (FuncId × Ent)} (h : LibOK Tryz.prog l) : SOrcOK Tryz.prog (mc l) := callS_ok mixed nats_ok (libOf_ok h) noLP_ok 100
noncomputable def runC' {R : Type} (F : SOrc) (f : FuncId) (a : List D) (h : List FS) (κ : D → List OutS → Option R) : Option R := match F f a h with
  | some φ => φ R κ
  | none => none
theorem fnV_runC {F : SOrc} (hF : SOrcOK Tryz.prog F) {f : FuncId} {a : List D} {h : List FS} (hi : InOK a h) {res : D} {outs : List OutS} (hr : runC' F f a h (fun d o => some (d, o)) = some (res, outs)) : FnV Tryz.prog f a h res outs := by
  unfold runC' at hr
  split at hr
  · rename_i φ hφ; exact fnV_run hF hφ hi hr
  · cases hr
theorem model_runC {F : SOrc} (hF : SOrcOK Tryz.prog F) {f : FuncId} {a : List D} {h : List FS} (hi : InOK a h) {β : Type} {proj : D → List OutS → Option β} {emb : β → D × List OutS} (hproj : ∀ res outs y, proj res outs = some y → emb y = (res, outs)) {y : β} (hr : runC' F f a h proj = some y) : FnV Tryz.prog f a h (emb y).1 (emb y).2 := by
  unfold runC' at hr
  split at hr
  · rename_i φ hφ; exact fnV_model hF hφ hi hproj hr
  · cases hr

/-! Clamp, Unary, Binary -/
def eClamp : Ent := fun a h => match a, h with
  | [.int .i64 n], [] => some fun _ κ => κ (.int .i64 (clampI n)) []
  | _, _ => none
theorem wClamp (n : Int) : runC' (mc []) 56 [.int .i64 n] [] (fun d o => some (d, o)) = some (.int .i64 (clampI n), []) := by
  have : runC' (mc []) 56 [.int .i64 n] [] (fun d o => some (d, o)) = some (.int .i64 (if 2147483647 < (if -2147483647 > n then -2147483647 else n) then 2147483647 else (if -2147483647 > n then -2147483647 else n)), []) := by kernel_rfl
  rw [this]
  congr 3
  unfold clampI
  omega
theorem eClamp_ok : EntOK Tryz.prog 56 eClamp := by
  intro a h φ he hi
  unfold eClamp at he
  split at he
  · cases he; exact (fnV_runC (mc_ok .nil) hi (wClamp _)).cont
  · cases he
def lib1 : List (FuncId × Ent) := [(56, eClamp)]
theorem lib1_ok : LibOK Tryz.prog lib1 := .cons eClamp_ok .nil
def eUn : Ent := fun a h => match a, h with
  | [.int .i64 k, .int .i64 n], [] => some fun _ κ => κ (.int .i64 (unI' k n)) []
  | _, _ => none
def eBin : Ent := fun a h => match a, h with
  | [.int .i64 k, .int .i64 x, .int .i64 y], [] => some fun _ κ => κ (.int .i64 (binI k x y)) []
  | _, _ => none
def some1 (n : Int) : Option (D × List OutS) := some (.int .i64 n, [])
theorem wUn (k n : Int) : runC' (mc lib1) 118 [.int .i64 k, .int .i64 n] [] (fun d o => some (d, o)) = some1 (unI' k n) := by
  have : runC' (mc lib1) 118 [.int .i64 k, .int .i64 n] [] (fun d o => some (d, o)) = (bif k == 10 then some1 (IntKind.wrap .i64 (0 - clampI n)) else bif k == 11 then (bif clampI n == 0 then some1 1 else some1 0) else some1 0) := by kernel_rfl
  rw [this]
  unfold unI' b2i
  cases k == 10 <;> cases k == 11 <;> cases clampI n == 0 <;> rfl
theorem wBin (k a b : Int) : runC' (mc lib1) 119 [.int .i64 k, .int .i64 a, .int .i64 b] [] (fun d o => some (d, o)) = some1 (binI k a b) := by
  have : runC' (mc lib1) 119 [.int .i64 k, .int .i64 a, .int .i64 b] [] (fun d o => some (d, o)) = (
    bif k == 12 then some1 (clampI (IntKind.wrap .i64 (clampI a * clampI b))) else
    bif k == 13 then (bif clampI b != 0 then (bif !decide (clampI b = 0) then some1 (IntKind.wrap .i64 ((clampI a).tdiv (clampI b))) else none) else some1 0) else
    bif k == 14 then (bif clampI b != 0 then (bif !decide (clampI b = 0) then some1 ((clampI a).tmod (clampI b)) else none) else some1 0) else
    bif k == 15 then some1 (clampI (IntKind.wrap .i64 (clampI a + clampI b))) else
    bif k == 16 then some1 (clampI (IntKind.wrap .i64 (clampI a - clampI b))) else
    bif k == 17 then (bif decide (clampI a < clampI b) then some1 1 else some1 0) else
    bif k == 18 then (bif decide (clampI a ≤ clampI b) then some1 1 else some1 0) else
    bif k == 19 then (bif decide (clampI a > clampI b) then some1 1 else some1 0) else
    bif k == 20 then (bif decide (clampI a ≥ clampI b) then some1 1 else some1 0) else
    bif k == 21 then (bif clampI a == clampI b then some1 1 else some1 0) else
    bif k == 22 then (bif clampI a != clampI b then some1 1 else some1 0) else
    bif k == 23 then (bif clampI a != 0 then (bif clampI b != 0 then some1 1 else some1 0) else some1 0) else
    bif k == 24 then (bif clampI a != 0 then some1 1 else (bif clampI b != 0 then some1 1 else some1 0)) else some1 0) := by kernel_rfl
  rw [this]
  have hd : (!decide (clampI b = 0)) = (clampI b != 0) := by by_cases h : clampI b = 0 <;> simp [h, bne]
  rw [hd]
  unfold binI b2i
  generalize decide (clampI a < clampI b) = c1
  generalize decide (clampI a ≤ clampI b) = c2
  generalize decide (clampI a > clampI b) = c3
  generalize decide (clampI a ≥ clampI b) = c4
  generalize (clampI a == clampI b) = c5
  generalize (clampI a != clampI b) = c6
  generalize (clampI a != 0) = c7
  generalize (clampI b != 0) = c8
  have push : ∀ (c : Bool) (x y : Int), some1 (bif c then x else y) = (bif c then some1 x else some1 y) := fun c x y => by cases c <;> rfl
  simp only [push]
  cases c8 <;> cases c7 <;> cases c1 <;> cases c2 <;> cases c3 <;> cases c4 <;> cases c5 <;> cases c6 <;> rfl
theorem eUn_ok : EntOK Tryz.prog 118 eUn := by
  intro a h φ he hi
  unfold eUn at he
  split at he
  · cases he; exact (fnV_runC (mc_ok lib1_ok) hi (wUn _ _)).cont
  · cases he
theorem eBin_ok : EntOK Tryz.prog 119 eBin := by
  intro a h φ he hi
  unfold eBin at he
  split at he
  · cases he; exact (fnV_runC (mc_ok lib1_ok) hi (wBin _ _ _)).cont
  · cases he
end
