/- VMRepeats: contracts of the reference reader. -/
import Derived.Test.YtaeadcgbahaofaaGreatDoorR7
section
open Go Go.Tw Go.Proofs
set_option maxRecDepth 100000
/-! Long loops over known states, cut into rounds -/
def fsBeq : List (Option FS) → List (Option FS) → Bool
  | [], [] => true
  | none :: a, none :: b => fsBeq a b
  | some (c, x) :: a, some (d, y) :: b => (c == d && x.beqS y) && fsBeq a b
  | _, _ => false
theorem fsBeq_eq : ∀ {a b : List (Option FS)}, fsBeq a b = true → a = b
  | [], [], _ => rfl
  | [], _ :: _, h => by simp [fsBeq] at h
  | none :: _, [], h => by simp [fsBeq] at h
  | some _ :: _, [], h => by simp [fsBeq] at h
  | none :: a, none :: b, h => by rw [fsBeq_eq (a := a) (b := b) (by simpa [fsBeq] using h)]
  | none :: _, some _ :: _, h => by simp [fsBeq] at h
  | some _ :: _, none :: _, h => by simp [fsBeq] at h
  | some (c, x) :: a, some (d, y) :: b, h => by
    simp only [fsBeq, Bool.and_eq_true, beq_iff_eq] at h
    rw [h.1.1, beqS_eq h.1.2, fsBeq_eq h.2]
structure LFact where
  a : List D
  h : List (Option FS)
structure LOut where
  e : Ex
  a : List D
  h : List (Option FS)
section
variable {P : Program} {nat : Nats} {F : SOrc} {LP : LOrc} {hint : Hint} {N k0 : Nat} {c : Code} {lv : List Nat} {fuel : Nat}
def LFact.ok (P : Program) (N k0 : Nat) (c : Code) (lv : List Nat) (x : LFact) (y : LOut) : Prop :=
  InL k0 x.a x.h → Exec P (tiOf P) N k0 (.loop c) x.h.length (startL lv x.a x.h).st y.e y.h.length (startL lv y.a y.h).st ∧ (startL lv y.a y.h).H.OK
def goesTo (k0 : Nat) (lv : List Nat) (y : LFact) (e : Ex) (_ : Nat) (s : SS) : Option Unit := match e with
  | .normal => match canonS k0 lv s with
    | some (a, h) => bif D.beqL a y.a && fsBeq h y.h then some () else none
    | none => none
  | _ => none
def endsIn (k0 : Nat) (lv : List Nat) (y : LOut) (e : Ex) (_ : Nat) (s : SS) : Option Unit := bif decide (e = y.e) && !decide (e = .normal) then
    match canonS k0 lv s with
    | some (a, h) => bif D.beqL a y.a && fsBeq h y.h then some () else none
    | none => none
  else none
theorem LFact.step (hN : NatsOK P nat) (hF : SOrcOK P F) (hL : ∀ c' ∈ loopsIn c, LGood P LP hint N k0 c') {x y : LFact} {o : LOut} (hy : y.ok P N k0 c lv o)
    (h : execC P nat F LP hint N k0 fuel c x.h.length (startL lv x.a x.h) (goesTo k0 lv y) = some ()) : x.ok P N k0 c lv o := by
  intro hi
  obtain ⟨e, nb, s, h1, h2, h3⟩ := execC_ok hN hF fuel c x.h.length _ _ () hL (startH_OK hi.clo) h
  unfold goesTo at h3
  split at h3
  · split at h3
    · rename_i a' h' hcan
      obtain ⟨h4, _⟩ := bif_some h3
      simp only [Bool.and_eq_true] at h4
      obtain ⟨h7, h8⟩ := canonS_ok (N := N) (nb := nb) h2 hcan
      have e1 := beqL_eq h4.1
      have e2 := fsBeq_eq h4.2
      subst e1 e2
      obtain ⟨h9, h10⟩ := hy h8
      exact ⟨.loop h1 (.sem h7 h9), h10⟩
    · cases h3
  · cases h3
theorem LFact.last (hN : NatsOK P nat) (hF : SOrcOK P F) (hL : ∀ c' ∈ loopsIn c, LGood P LP hint N k0 c') {x : LFact} {o : LOut}
    (h : execC P nat F LP hint N k0 fuel c x.h.length (startL lv x.a x.h) (endsIn k0 lv o) = some ()) : x.ok P N k0 c lv o := by
  intro hi
  obtain ⟨e, nb, s, h1, h2, h3⟩ := execC_ok hN hF fuel c x.h.length _ _ () hL (startH_OK hi.clo) h
  unfold endsIn at h3
  obtain ⟨h0, h3⟩ := bif_some h3
  simp only [Bool.and_eq_true, decide_eq_true_eq, Bool.not_eq_true', decide_eq_false_iff_not] at h0
  split at h3
  · rename_i a' h' hcan
    obtain ⟨h4, _⟩ := bif_some h3
    simp only [Bool.and_eq_true] at h4
    obtain ⟨h7, h8⟩ := canonS_ok (N := N) (nb := nb) h2 hcan
    have e1 := beqL_eq h4.1
    have e2 := fsBeq_eq h4.2
    subst e1 e2
    rw [← h0.1]
    exact ⟨.semR (.loopX h1 h0.2) h7, startH_OK h8.clo⟩
  · cases h3
def lFact (K : Nat) (lv : List Nat) (x : LFact) (o : LOut) : LEnt := fun k0 a h => bif Nat.beq k0 K && (D.beqL a x.a && fsBeq h x.h) then some fun _ κ => κ o.e o.h.length (startL lv o.a o.h) else none
theorem lFact_ok {hint : FuncId → Hint} {f : FuncId} {fn : Func} {c : Code} {id K : Nat} (hf : P.funcs[f]? = some fn) (hb : fn.body = some c) (h1 : loopOne c id = true) (hh : assoc (hint f).cuts id = some lv) {x : LFact} {o : LOut} (hx : x.ok P fn.ntmps K (loopAt c id) lv o) : LEntOK P hint f id (lFact K lv x o) := by
  refine ⟨fn, c, hf, hb, h1, fun lv' hlv k0 a h φ he hi => ?_⟩
  rw [hh] at hlv; cases hlv
  unfold lFact at he
  obtain ⟨h0, he⟩ := bif_some he
  cases he
  simp only [Bool.and_eq_true] at h0
  have e0 := beq_ok h0.1
  have e1 := beqL_eq h0.2.1
  have e2 := fsBeq_eq h0.2.2
  subst e0 e1 e2
  intro R κ r hr
  obtain ⟨h2, h3⟩ := hx hi
  exact ⟨_, _, _, h2, h3, hr⟩
end
end
