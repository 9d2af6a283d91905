/- The machines that run the program, closed and with open leaves: what they answer is so. -/
import Derived.Test.YtaeadcgbahaofaaGreatDoorTw28
section
namespace Go.Tw

/-! ## An oracle of facts that are proved already -/

def pairsBeq : List (D × D) → List (D × D) → Bool
  | [], [] => true
  | a :: as, b :: bs => D.beq a.1 b.1 && (D.beq a.2 b.2 && pairsBeq as bs)
  | _, _ => false

def Slot.beqS : Slot → Slot → Bool
  | .cells a, .cells b => D.beqL a b
  | .map a, .map b => pairsBeq a b
  | _, _ => false

def slotsBeq : List Slot → List Slot → Bool
  | [], [] => true
  | a :: as, b :: bs => a.beqS b && slotsBeq as bs
  | _, _ => false

theorem pairsBeq_eq : ∀ {a b : List (D × D)}, pairsBeq a b = true → a = b
  | [], [], _ => rfl
  | [], _ :: _, h => by simp [pairsBeq] at h
  | _ :: _, [], h => by simp [pairsBeq] at h
  | a :: as, b :: bs, h => by
    simp only [pairsBeq, Bool.and_eq_true] at h
    rw [pairsBeq_eq h.2.2, Prod.ext (beq_eq h.1) (beq_eq h.2.1)]

theorem beqS_eq : ∀ {a b : Slot}, a.beqS b = true → a = b
  | .cells a, .cells b, h => by rw [beqL_eq h]
  | .map a, .map b, h => by rw [pairsBeq_eq h]
  | .cells _, .map _, h => by simp [Slot.beqS] at h
  | .map _, .cells _, h => by simp [Slot.beqS] at h

theorem slotsBeq_eq : ∀ {a b : List Slot}, slotsBeq a b = true → a = b
  | [], [], _ => rfl
  | [], _ :: _, h => by simp [slotsBeq] at h
  | _ :: _, [], h => by simp [slotsBeq] at h
  | a :: as, b :: bs, h => by
    simp only [slotsBeq, Bool.and_eq_true] at h
    rw [beqS_eq h.1, slotsBeq_eq h.2]

structure Fact where
  f : FuncId
  args : List D
  hin : List Slot
  res : D
  outs : List (Option Slot)

def Fact.ok (P : Program) (x : Fact) : Prop := Fn P x.f x.args x.hin x.res x.outs ∧ ClosedC x.args x.hin x.res x.outs

def factsO : List Fact → Orc
  | [], _, _, _ => none
  | x :: xs, f, args, hin => bif Nat.beq x.f f && (D.beqL x.args args && slotsBeq x.hin hin) then some (x.res, x.outs) else factsO xs f args hin

inductive FactsOK (P : Program) : List Fact → Prop
  | nil : FactsOK P []
  | cons {x : Fact} {xs : List Fact} (h : x.ok P) (t : FactsOK P xs) : FactsOK P (x :: xs)

theorem factsO_ok {P : Program} {l : List Fact} (h : FactsOK P l) : OrcOK P (factsO l) := by
  induction h with
  | nil => intro f args hin res outs h; cases h
  | @cons x xs h _ ih =>
    intro f args hin res outs hh hca hch
    simp only [factsO] at hh
    cases hb : (Nat.beq x.f f && (D.beqL x.args args && slotsBeq x.hin hin)) with
    | false => rw [hb] at hh; exact ih f args hin res outs hh hca hch
    | true =>
      rw [hb] at hh
      simp only [Bool.and_eq_true] at hb
      cases hh
      have h1 := beq_ok hb.1
      have h2 := beqL_eq hb.2.1
      have h3 := slotsBeq_eq hb.2.2
      subst h1 h2 h3
      exact h

def closedB (args : List D) (hin : List Slot) : Bool := (D.idsL args).all (fun b => Nat.blt b hin.length) && hin.all fun sl => sl.ids.all fun b => Nat.blt b hin.length

/-- A run of the machine is a fact. -/
theorem Fact.of_run {P : Program} {F : Orc} (hF : OrcOK P F) (x : Fact) (hc : closedB x.args x.hin = true) (h : F x.f x.args x.hin = some (x.res, x.outs)) : x.ok P := by
  simp only [closedB, Bool.and_eq_true, List.all_eq_true] at hc
  exact hF _ _ _ _ _ h (fun b hb => blt_ok (hc.1 b hb)) (fun sl hs b hb => blt_ok (hc.2 sl hs b hb))

end Go.Tw
end
