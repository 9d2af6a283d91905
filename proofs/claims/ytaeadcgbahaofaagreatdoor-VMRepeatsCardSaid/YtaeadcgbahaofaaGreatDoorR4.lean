/- VMRepeats: contracts of the reference reader. -/
import Derived.Test.YtaeadcgbahaofaaGreatDoorR3
section
open Go Go.Tw Go.Proofs
set_option maxRecDepth 100000
def wordsR : List (List UInt8) := [[115, 119, 105, 116, 99, 104], [99, 111, 105, 108], [108, 97, 109, 112], [115, 111, 117, 110, 100], [115, 104, 111, 119], [118, 97, 114], [116, 105, 109, 101, 114], [101, 118, 101, 110, 116], [109, 111, 100, 101], [111, 110], [115, 116, 97, 114, 116], [115, 116, 111, 112], [99, 108, 111, 115, 101], [111, 112, 101, 110], [105, 102], [101, 108, 115, 101], [114, 101, 112, 101, 97, 116], [115, 99, 111, 114, 101], [102, 105, 114, 101], [104, 111, 108, 100], [114, 101, 108, 101, 97, 115, 101], [108, 105, 103, 104, 116], [98, 108, 105, 110, 107], [98, 101, 103, 105, 110], [101, 110, 100], [112, 111, 115, 116], [112, 108, 97, 121], [114, 117, 110], [104, 97, 108, 116], [116, 101, 120, 116], [99, 111, 110, 115, 117, 109, 101], [99, 108, 111, 115, 101, 100], [97, 99, 116, 105, 118, 101], [108, 101, 102, 116], [112, 108, 97, 121, 101, 114], [98, 97, 108, 108], [116, 114, 117, 101], [102, 97, 108, 115, 101]]
def anyK {β : Type} : List (List UInt8) → List UInt8 → (Bool → β) → β
  | [], _, k => k false
  | w :: ws, s, k => bif w == s then k true else anyK ws s k
def anyEq (ws : List (List UInt8)) (s : List UInt8) : Bool := anyK ws s id
theorem anyK_eq {β : Type} : ∀ (ws : List (List UInt8)) (s : List UInt8) (k : Bool → β), anyK ws s k = k (anyEq ws s)
  | [], _, _ => rfl
  | w :: ws, s, k => by
    simp only [anyK, anyEq]
    cases w == s with
    | true => rfl
    | false => exact anyK_eq ws s k
def someD (d : D) : Option (D × List OutS) := some (d, [])
theorem wIsWord (s : List UInt8) : runC' (mcs []) 204 [.str s] [] (fun d o => some (d, o)) = anyK wordsR s fun b => someD (.bool b) := by kernel_rfl
def eIsWord : Ent := fun a h => match a, h with
  | [.str s], [] => some fun _ κ => κ (.bool (anyEq wordsR s)) []
  | _, _ => none
theorem eIsWord_ok : EntOK Tryz.prog 204 eIsWord := by
  intro a h φ he hi
  unfold eIsWord at he
  split at he
  · rename_i s
    cases he
    exact (fnV_runC (mcs_ok .nil) hi ((wIsWord s).trans (anyK_eq _ _ _))).cont
  · cases he
end
