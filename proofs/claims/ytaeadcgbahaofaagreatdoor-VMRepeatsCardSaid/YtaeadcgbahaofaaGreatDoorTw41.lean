/- The machines that run the program, closed and with open leaves: what they answer is so. -/
import Derived.Test.YtaeadcgbahaofaaGreatDoorTw40
import Derived.Test.YtaeadcgbahaofaaGreatDoorTw31
section
namespace Go.Tw

/-! ## A library of contracts -/

def FnV (P : Program) (f : FuncId) (a : List D) (h : List FS) (res : D) (outs : List OutS) : Prop :=
  Fn P f a (h.map (·.2)) res (outSlots h outs 0) ∧ ClosedC a (h.map (·.2)) res (outSlots h outs 0) ∧ OutsClo outs

abbrev Ent := List D → List FS → Option Cont
def EntOK (P : Program) (f : FuncId) (e : Ent) : Prop := ∀ a h φ, e a h = some φ → InOK a h → ContOK P f a h φ

def libOf : List (FuncId × Ent) → SOrc
  | [], _, _, _ => none
  | (g, e) :: l, f, a, h => bif Nat.beq g f then (match e a h with
    | some φ => some φ
    | none => libOf l f a h) else libOf l f a h

inductive LibOK (P : Program) : List (FuncId × Ent) → Prop
  | nil : LibOK P []
  | cons {f : FuncId} {e : Ent} {l : List (FuncId × Ent)} (h : EntOK P f e) (t : LibOK P l) : LibOK P ((f, e) :: l)

theorem libOf_ok {P : Program} {l : List (FuncId × Ent)} (h : LibOK P l) : SOrcOK P (libOf l) := by
  induction h with
  | nil => intro f a h φ hh; cases hh
  | @cons g e l he _ ih =>
    intro f a h φ hh hi
    simp only [libOf] at hh
    cases hb : Nat.beq g f with
    | true =>
      rw [hb] at hh
      simp only [cond_true] at hh
      have := Nat.eq_of_beq_eq_true hb
      subst this
      split at hh
      · rename_i φ' hφ
        cases hh
        exact he a h φ hφ hi
      · exact ih _ a h φ hh hi
    | false =>
      rw [hb] at hh
      exact ih f a h φ hh hi

section
variable {P : Program} {F : SOrc} {f : FuncId} {a : List D} {h : List FS} {φ : Cont} {res : D} {outs : List OutS}

theorem fnV_run (hF : SOrcOK P F) (hf : F f a h = some φ) (hi : InOK a h) (hφ : φ (D × List OutS) (fun d o => some (d, o)) = some (res, outs)) : FnV P f a h res outs := by
  obtain ⟨r, o, h1, h2, h3, h4⟩ := hF f a h φ hf hi _ _ _ hφ
  cases h4
  exact ⟨h1, h2, h3⟩

theorem fnV_model {β : Type} {proj : D → List OutS → Option β} {emb : β → D × List OutS} (hF : SOrcOK P F) (hf : F f a h = some φ) (hi : InOK a h) (hproj : ∀ res outs y, proj res outs = some y → emb y = (res, outs)) {y : β} (hφ : φ β proj = some y) : FnV P f a h (emb y).1 (emb y).2 := by
  obtain ⟨r, o, h1, h2, h3, h4⟩ := hF f a h φ hf hi _ _ _ hφ
  rw [hproj r o y h4]
  exact ⟨h1, h2, h3⟩

theorem FnV.reouts (hv : FnV P f a h res outs) {outs' : List OutS} (he : outSlots h outs 0 = outSlots h outs' 0) (hc : OutsClo outs') : FnV P f a h res outs' := by
  unfold FnV at hv ⊢
  rw [← he]
  exact ⟨hv.1, hv.2.1, hc⟩

theorem FnV.cont (hv : FnV P f a h res outs) : ContOK P f a h (fun _ κ => κ res outs) :=
  fun _ _ _ hr => ⟨res, outs, hv.1, hv.2.1, hv.2.2, hr⟩

theorem contOK_model {β : Type} {m : Option β} {emb : β → D × List OutS} (hm : ∀ y, m = some y → FnV P f a h (emb y).1 (emb y).2) : ContOK P f a h (fun _ κ => m.bind fun y => κ (emb y).1 (emb y).2) := by
  intro R κ r hr
  cases hy : m with
  | none => rw [hy] at hr; cases hr
  | some y =>
    rw [hy] at hr
    have hv := hm y hy
    exact ⟨_, _, hv.1, hv.2.1, hv.2.2, hr⟩

/-- No block is marked closed. -/
def outsPlain : List OutS → Bool
  | [] => true
  | .set true _ :: _ => false
  | _ :: os => outsPlain os

theorem outsPlain_clo : ∀ {outs : List OutS}, outsPlain outs = true → OutsClo outs
  | [], _ => fun sl hs => by simp at hs
  | .set true _ :: _, h => by simp [outsPlain] at h
  | .set false _ :: os, h => fun sl hs => outsPlain_clo (outs := os) (by simpa [outsPlain] using h) sl (by simpa using hs)
  | .keep :: os, h => fun sl hs => outsPlain_clo (outs := os) (by simpa [outsPlain] using h) sl (by simpa using hs)
  | .gone :: os, h => fun sl hs => outsPlain_clo (outs := os) (by simpa [outsPlain] using h) sl (by simpa using hs)
  | .part _ _ :: os, h => fun sl hs => outsPlain_clo (outs := os) (by simpa [outsPlain] using h) sl (by simpa using hs)

/-- A fact of the machine as a contract: which blocks it hands back as they were is told by keep. -/
def factE (x : Fact) : Ent := fun a h => bif D.beqL x.args a && slotsBeq x.hin (h.map (·.2)) then some fun _ κ => κ x.res (x.outs.map fun o => match o with | some sl => .set false sl | none => .gone) else none

theorem factE_ok {x : Fact} (hx : x.ok P) : EntOK P x.f (factE x) := by
  intro a h φ he hi
  unfold factE at he
  obtain ⟨h1, h2⟩ := bif_some he
  cases h2
  simp only [Bool.and_eq_true] at h1
  have ha := beqL_eq h1.1
  have hh := slotsBeq_eq h1.2
  have ho : ∀ (os : List (Option Slot)) (i : Nat), outSlots h (os.map fun o => match o with | some sl => OutS.set false sl | none => .gone) i = os := by
    intro os
    induction os with
    | nil => intro i; rfl
    | cons o os ih => intro i; cases o <;> simp [outSlots, ih]
  refine FnV.cont ⟨?_, ?_, fun sl hs => ?_⟩
  · rw [ho, ← hh, ← ha]; exact hx.1
  · rw [ho, ← hh, ← ha]; exact hx.2
  · obtain ⟨o, _, h3⟩ := List.mem_map.1 hs
    cases o <;> simp at h3

end

/-! ### Loops, by the number of a function and of the loop -/

abbrev LEnt := Nat → List D → List (Option FS) → Option ContL

def lpOf : List (FuncId × Nat × LEnt) → FuncId → LOrc
  | [], _, _, _, _, _ => none
  | (g, i, e) :: l, f, k0, id, a, h => bif Nat.beq g f && Nat.beq i id then (match e k0 a h with
    | some φ => some φ
    | none => lpOf l f k0 id a h) else lpOf l f k0 id a h

/-- The loop that begins with a region. -/
def loopAt (c : Code) (id : Nat) : Code := (((loopsIn c).filter fun c => decide (firstId c = some id))[0]?).getD .skip
def loopOne (c : Code) (id : Nat) : Bool := Nat.beq ((loopsIn c).filter fun c => decide (firstId c = some id)).length 1

theorem loopAt_eq {c c' : Code} {id : Nat} (h1 : loopOne c id = true) (hm : c' ∈ loopsIn c) (hid : firstId c' = some id) : c' = loopAt c id := by
  have h2 := beq_ok h1
  have hf : c' ∈ (loopsIn c).filter fun c => decide (firstId c = some id) := List.mem_filter.2 ⟨hm, by simpa using hid⟩
  obtain ⟨x, hx⟩ := List.length_eq_one_iff.1 h2
  rw [hx] at hf
  simp only [List.mem_singleton] at hf
  simp [loopAt, hx, hf]

structure LEntOK (P : Program) (hint : FuncId → Hint) (f : FuncId) (id : Nat) (e : LEnt) : Prop where
  ok : ∃ fn c, P.funcs[f]? = some fn ∧ fn.body = some c ∧ loopOne c id = true ∧ ∀ lv, assoc (hint f).cuts id = some lv → ∀ k0 a h φ, e k0 a h = some φ → InL k0 a h → LContOK P fn.ntmps k0 (loopAt c id) lv a h φ

inductive LLibOK (P : Program) (hint : FuncId → Hint) : List (FuncId × Nat × LEnt) → Prop
  | nil : LLibOK P hint []
  | cons {f : FuncId} {id : Nat} {e : LEnt} {l : List (FuncId × Nat × LEnt)} (h : LEntOK P hint f id e) (t : LLibOK P hint l) : LLibOK P hint ((f, id, e) :: l)

theorem lpOf_ok {P : Program} {hint : FuncId → Hint} {l : List (FuncId × Nat × LEnt)} (h : LLibOK P hint l) : LPOK P (lpOf l) hint := by
  intro f fn c hf hb k0 c' hc' id lv hid hlv a hin φ hφ hi
  induction h with
  | nil => cases hφ
  | @cons g i e l he _ ih =>
    simp only [lpOf] at hφ
    cases hgi : Nat.beq g f && Nat.beq i id with
    | false => rw [hgi] at hφ; exact ih hφ
    | true =>
      rw [hgi] at hφ
      simp only [cond_true] at hφ
      simp only [Bool.and_eq_true] at hgi
      have h1 := beq_ok hgi.1
      have h2 := beq_ok hgi.2
      subst h1 h2
      split at hφ
      · rename_i φ' hφ'
        cases hφ
        obtain ⟨fn', c0, h3, h4, h5, h6⟩ := he.ok
        rw [hf] at h3; cases h3
        rw [hb] at h4; cases h4
        rw [loopAt_eq h5 hc' hid]
        exact h6 lv hlv k0 a hin φ hφ' hi
      · exact ih hφ

end Go.Tw
end
