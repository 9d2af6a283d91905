/- The machines that run the program, closed and with open leaves: what they answer is so. -/
import Derived.Test.YtaeadcgbahaofaaGreatDoorTw33
section
namespace Go.Tw

/-! ## The symbolic operations are the twin's -/

theorem AllT.cons {b : Bool} {l : List Bool} : AllT (b :: l) ↔ b = true ∧ AllT l := by simp [AllT]
theorem AllT.append {a b : List Bool} : AllT (a ++ b) ↔ AllT a ∧ AllT b := by
  simp only [AllT, List.mem_append]
  exact ⟨fun h => ⟨fun x hx => h x (.inl hx), fun x hx => h x (.inr hx)⟩, fun h x hx => hx.elim (h.1 x) (h.2 x)⟩
theorem AllT.nil : AllT [] := by simp [AllT]

theorem bif_some.{u} {α : Type u} {b : Bool} {x : Option α} {y : α} (h : (bif b then x else none) = some y) : b = true ∧ x = some y := by
  cases b
  · simp at h
  · exact ⟨rfl, h⟩

theorem cloB_ok {cs : List D} (h : cloB cs = true) : (Slot.cells cs).Clo := by
  simp only [cloB, Bool.and_eq_true, List.isEmpty_iff, List.all_eq_true] at h
  exact h

theorem nonB_ok {cs : List D} (h : nonB cs = true) : 0 < cs.length := by
  cases cs with
  | nil => simp [nonB] at h
  | cons c cs => simp

theorem pickS_eq (b : Bool) (x y : D) : pickS b x y = if b then x else y := by
  unfold pickS
  split
  · cases b <;> rfl
  · rename_i k p k' q
    by_cases hk : k = k'
    · subst hk; cases b <;> simp
    · cases b <;> simp [hk]
  · cases b <;> rfl
  · cases b <;> rfl

theorem natS_ok {y : D} {nd : List Bool} {n : Nat} (h : natS y = some (nd, n)) (hn : AllT nd) : ∃ k z, y = .int k z ∧ 0 ≤ z ∧ z.toNat = n := by
  unfold natS at h
  split at h
  · rename_i k z
    cases h
    simp only [AllT.cons, decide_eq_true_eq] at hn
    exact ⟨k, z, rfl, hn.1, rfl⟩
  · cases h

theorem pS_ok {nd : List Bool} {v : D} {e : SE} (h : pS nd v = some e) : e = ⟨nd, v, [], [], []⟩ := by cases h; rfl
theorem rS_ok {nd : List Bool} {v : D} {rh : List Rng} {e : SE} (h : rS nd v rh = some e) : e = ⟨nd, v, [], rh, []⟩ := by cases h; rfl
theorem pureV_ok {v : Option D} {e : SE} (h : pureV v = some e) : v = some e.v ∧ e = ⟨[], e.v, [], [], []⟩ := by
  unfold pureV at h
  split at h
  · cases h; exact ⟨rfl, rfl⟩
  · cases h
theorem readV_ok {v : Option (D × List Rng)} {e : SE} (h : readV v = some e) : v = some (e.v, e.rh) ∧ e = ⟨[], e.v, [], e.rh, []⟩ := by
  unfold readV at h
  split at h
  · cases h; exact ⟨rfl, rfl⟩
  · cases h

theorem partS_ok {i : TInfo} {cs : List D} {o : Nat} (h : AllT (partS i cs o).1) : partD i cs o = some (partS i cs o).2 := by
  unfold partS at h ⊢
  unfold partD
  cases hi : i.isAgg with
  | true =>
    simp only [hi, cond_true, if_true] at h ⊢
    rw [if_pos (ble_ok (AllT.cons.1 h).1)]
  | false =>
    simp only [hi, cond_false] at h ⊢
    have := blt_ok (AllT.cons.1 h).1
    simp [List.getD_eq_getElem?_getD, this]

def ClOK (H : Nat → Option Slot) (cl : Nat → Bool) : Prop := ∀ b sl, H b = some sl → cl b = true → sl.Clo

def WOK1 (cl : Nat → Bool) : HW × Bool → Prop
  | (.set _ (some sl), true) => sl.Clo
  | (.put b _ cs, _) => cl b = true → (Slot.cells cs).Clo
  | _ => True
def WOK (cl : Nat → Bool) (l : List (HW × Bool)) : Prop := ∀ x ∈ l, WOK1 cl x

theorem WOK.nil {cl : Nat → Bool} : WOK cl [] := by simp [WOK]

section
variable {TI : TT} {nid : Nat} {ev : Operand → D} {H : Nat → Option Slot} {cl : Nat → Bool}

theorem binS_ok {op : BinOp} {ty : TypeId} {yo : Operand} {x y : D} {e : SE} (h : binS TI op ty yo x y = some e) (hn : AllT e.need) : binV TI op ty yo x y e.v ∧ e = ⟨e.need, e.v, [], [], []⟩ := by
  unfold binS at h
  split at h
  · rename_i k a
    split at h
    · rename_i k' b
      split at h
      · have := pS_ok h; subst this
        simp only [AllT.cons, decide_eq_true_eq] at hn
        exact ⟨⟨hn.1, rfl⟩, rfl⟩
      · have := pS_ok h; subst this
        simp only [AllT.cons, decide_eq_true_eq] at hn
        exact ⟨⟨hn.1, rfl⟩, rfl⟩
      · obtain ⟨h1, h2⟩ := bif_some h
        have := pS_ok h2; subst this
        simp only [AllT.cons, Bool.not_eq_true', decide_eq_false_iff_not] at hn
        exact ⟨⟨of_decide_eq_true h1, hn.1, rfl⟩, rfl⟩
      · obtain ⟨h1, h2⟩ := bif_some h
        have := pS_ok h2; subst this
        simp only [AllT.cons, Bool.not_eq_true', decide_eq_false_iff_not] at hn
        exact ⟨⟨of_decide_eq_true h1, hn.1, rfl⟩, rfl⟩
      · obtain ⟨h1, h2⟩ := pureV_ok h
        rw [h2]
        exact ⟨binF_ok h1, rfl⟩
    · cases h
  · split at h
    · split at h
      · have := pS_ok h; subst this
        exact ⟨⟨ble_ok (AllT.cons.1 hn).1, rfl⟩, rfl⟩
      · have := pS_ok h; subst this; exact ⟨rfl, rfl⟩
      · have := pS_ok h; subst this; exact ⟨rfl, rfl⟩
      · cases h
    · cases h
  · obtain ⟨h1, h2⟩ := pureV_ok h
    rw [h2]
    exact ⟨binF_ok h1, rfl⟩

theorem nilCmpS_ok {op : BinOp} {ty : TypeId} {yo : Operand} {x : D} {e : SE} (h : nilCmpS TI H op ty yo x = some e) (hn : AllT e.need) : nilCmpI TI H op ty yo x .nsl e.v e.rh ∧ e = ⟨e.need, e.v, [], e.rh, []⟩ := by
  unfold nilCmpS at h
  split at h
  · rename_i el _ hi
    split at h
    · split at h
      · split at h
        · have := rS_ok h; subst this
          exact ⟨⟨_, _, _, true, hi, rfl, rfl, rfl, ⟨rfl, rfl⟩, rfl⟩, rfl⟩
        · split at h
          · rename_i hb
            have := rS_ok h; subst this
            exact ⟨⟨_, _, _, false, hi, rfl, rfl, rfl, ⟨rfl, ⟨_, cellsAt_some hb, nonB_ok (AllT.cons.1 hn).1⟩, rfl⟩, rfl⟩, rfl⟩
          · cases h
        · cases h
      · split at h
        · have := rS_ok h; subst this
          exact ⟨⟨_, _, _, true, hi, rfl, rfl, rfl, ⟨rfl, rfl⟩, rfl⟩, rfl⟩
        · split at h
          · rename_i hb
            have := rS_ok h; subst this
            exact ⟨⟨_, _, _, false, hi, rfl, rfl, rfl, ⟨rfl, ⟨_, cellsAt_some hb, nonB_ok (AllT.cons.1 hn).1⟩, rfl⟩, rfl⟩, rfl⟩
          · cases h
        · cases h
      · cases h
    · cases h
  · cases h

theorem loadS_ok {t : TypeId} {x : D} {e : SE} (h : loadS TI H t x = some e) (hn : AllT e.need) : loadI TI H t x e.v e.rh ∧ e = ⟨e.need, e.v, [], e.rh, []⟩ := by
  unfold loadS at h
  split at h
  · rename_i i hi
    split at h
    · have := rS_ok h; subst this
      exact ⟨⟨i, hi, rfl, rfl, shapeB_ok (AllT.cons.1 hn).1⟩, rfl⟩
    · split at h
      · rename_i cs hb
        obtain ⟨h1, h2⟩ := bif_some h
        have := rS_ok h2; subst this
        exact ⟨⟨i, hi, cs, cellsAt_some hb, blt_ok h1, partS_ok hn, rfl⟩, rfl⟩
      · cases h
    · cases h
  · cases h

theorem liveS_ok {x : D} {e : SE} (h : liveS H x = some e) (hn : AllT e.need) : liveI H x e.v e.rh ∧ e = ⟨e.need, e.v, [], e.rh, []⟩ := by
  unfold liveS at h
  split at h
  · have := rS_ok h; subst this; exact ⟨⟨rfl, rfl⟩, rfl⟩
  · have := rS_ok h; subst this; exact ⟨⟨rfl, rfl⟩, rfl⟩
  · split at h
    · rename_i cs hb
      have := rS_ok h; subst this
      exact ⟨⟨cs, cellsAt_some hb, nonB_ok (AllT.cons.1 hn).1, rfl, rfl⟩, rfl⟩
    · cases h
  · cases h

theorem fieldAddrS_ok {t : TypeId} {f : Nat} {x : D} {e : SE} (h : fieldAddrS TI H t f x = some e) (hn : AllT e.need) : fieldAddrI TI H t f x e.v e.rh ∧ e = ⟨e.need, e.v, [], e.rh, []⟩ := by
  unfold fieldAddrS at h
  split at h
  · split at h
    · rename_i hi
      split at h
      · rename_i fl hfl
        split at h
        · rename_i fi hfi
          cases hz : Nat.beq fi.size 0 with
          | true => rw [hz] at h; simp at h
          | false =>
            rw [hz] at h
            simp only [cond_false] at h
            split at h
            · rename_i cs hb
              have := rS_ok h; subst this
              exact ⟨⟨_, _, fl, fi, hi, rfl, hfl, hfi, fun e => by rw [e] at hz; simp at hz, cs, cellsAt_some hb, nonB_ok (AllT.cons.1 hn).1, rfl, rfl⟩, rfl⟩
            · cases h
        · cases h
      · cases h
    · cases h
  · obtain ⟨h1, h2⟩ := readV_ok h
    rw [h2]
    exact ⟨fieldAddrF_ok h1, rfl⟩

theorem indexAddrS_ok {t : TypeId} {x y : D} {e : SE} (h : indexAddrS TI H t x y = some e) (hn : AllT e.need) : indexAddrI TI H t x y e.v e.rh ∧ e = ⟨e.need, e.v, [], e.rh, []⟩ := by
  unfold indexAddrS at h
  split at h
  · rename_i i hi
    split at h
    · rename_i nd n hnat
      split at h
      · split at h
        · rename_i e' he
          split at h
          · rename_i ie hie
            obtain ⟨h1, h2⟩ := bif_some h
            have := rS_ok h2; subst this
            simp only [AllT.append, AllT.cons] at hn
            obtain ⟨k, z, rfl, hz, rfl⟩ := natS_ok hnat hn.1
            simp only [Bool.and_eq_true] at h1
            refine ⟨⟨i, k, z, hi, rfl, hz, ?_⟩, rfl⟩
            rw [he]
            have := blt_ok hn.2.1
            exact ⟨ie, _, hie, beq_ok h1.1, blt_ok h1.2, by simp [List.getD_eq_getElem?_getD, this], rfl, rfl⟩
          · cases h
        · cases h
      · split at h
        · rename_i e' he
          split at h
          · rename_i ie hie
            split at h
            · rename_i cs hb
              obtain ⟨h1, h2⟩ := bif_some h
              have := rS_ok h2; subst this
              simp only [AllT.append, AllT.cons] at hn
              obtain ⟨k, z, rfl, hz, rfl⟩ := natS_ok hnat hn.1
              refine ⟨⟨i, k, z, hi, rfl, hz, ?_⟩, rfl⟩
              rw [he]
              exact ⟨ie, cs, hie, beq_ok h1, cellsAt_some hb, nonB_ok hn.2.2.1, by have := blt_ok hn.2.1; omega, rfl, rfl⟩
            · cases h
          · cases h
        · cases h
      · split at h
        · rename_i e' he
          split at h
          · rename_i ie hie
            split at h
            · rename_i cs hb
              have := rS_ok h; subst this
              simp only [AllT.append, AllT.cons] at hn
              obtain ⟨k, z, rfl, hz, rfl⟩ := natS_ok hnat hn.1
              refine ⟨⟨i, k, z, hi, rfl, hz, ?_⟩, rfl⟩
              rw [he]
              exact ⟨ie, cs, hie, cellsAt_some hb, nonB_ok hn.2.2.1, by have := blt_ok hn.2.1; omega, rfl, rfl⟩
            · cases h
          · cases h
        · cases h
      · obtain ⟨h1, h2⟩ := readV_ok h
        rw [h2]
        exact ⟨indexAddrF_ok h1, rfl⟩
    · cases h
  · cases h

theorem indexS_ok {t : TypeId} {x y : D} {e : SE} (h : indexS TI t x y = some e) (hn : AllT e.need) : indexI TI t x y e.v ∧ e = ⟨e.need, e.v, [], [], []⟩ := by
  unfold indexS at h
  split at h
  · rename_i i hi
    split at h
    · rename_i nd n hnat
      split at h
      · split at h
        · rename_i he
          have := pS_ok h; subst this
          simp only [AllT.append, AllT.cons] at hn
          obtain ⟨k, z, rfl, hz, rfl⟩ := natS_ok hnat hn.1
          refine ⟨⟨i, k, z, hi, rfl, hz, ?_⟩, rfl⟩
          rw [he]
          have := blt_ok hn.2.1
          exact ⟨_, List.getElem?_eq_getElem this, by simp [List.getD_eq_getElem?_getD, this]⟩
        · cases h
      · split at h
        · rename_i he
          split at h
          · rename_i ie hie
            have := pS_ok h; subst this
            simp only [AllT.append, AllT.cons] at hn
            obtain ⟨k, z, rfl, hz, rfl⟩ := natS_ok hnat hn.1.1
            refine ⟨⟨i, k, z, hi, rfl, hz, ?_⟩, rfl⟩
            rw [he]
            exact ⟨ie, hie, by have := blt_ok hn.1.2.1; omega, partS_ok hn.2⟩
          · cases h
        · cases h
      · cases h
    · cases h
  · cases h

theorem offS_ok {y : Option D} {nd : List Bool} {r : Option Nat} (h : offS y = some (nd, r)) (hn : AllT nd) (d : Nat) : offI y d (r.getD d) := by
  unfold offS at h
  split at h
  · cases h; rfl
  · split at h
    · rename_i hnat
      cases h
      obtain ⟨k, z, rfl, hz, rfl⟩ := natS_ok hnat hn
      exact ⟨k, z, rfl, hz, rfl⟩
    · cases h

theorem cutS_ok {α : Type} {l : List α} {lo hi : Option Nat} (hn : AllT (cutS l.length lo hi).1) :
    lo.getD 0 ≤ hi.getD l.length ∧ hi.getD l.length ≤ l.length ∧ cutL l lo (cutS l.length lo hi).2.2 = (l.drop (lo.getD 0)).take (hi.getD l.length - lo.getD 0) := by
  cases lo with
  | none =>
    cases hi with
    | none => simp [cutS, cutL]
    | some h =>
      simp only [cutS, AllT.cons] at hn
      exact ⟨by simp, ble_ok hn.1, by simp [cutS, cutL]⟩
  | some lo =>
    cases hi with
    | none =>
      simp only [cutS, AllT.cons] at hn
      exact ⟨ble_ok hn.1, by simp, by simp [cutS, cutL, List.take_of_length_le]⟩
    | some h =>
      simp only [cutS, AllT.cons] at hn
      exact ⟨ble_ok hn.1, ble_ok hn.2.1, by simp [cutS, cutL]⟩

theorem sliceS_ok {t : TypeId} {x : D} {lo hi mx : Option D} {e : SE} (h : sliceS TI H t x lo hi mx = some e) (hn : AllT e.need) : sliceI TI H t x lo hi mx e.v e.rh ∧ e = ⟨e.need, e.v, [], e.rh, []⟩ := by
  unfold sliceS at h
  split at h
  · cases h
  split at h
  · rename_i i hi'
    split at h
    · rename_i nl l hl
      split at h
      · rename_i nh r hh
        split at h
        · split at h
          · rename_i he
            have := rS_ok h; subst this
            simp only [AllT.append] at hn
            obtain ⟨h1, h2, h3⟩ := cutS_ok hn.2
            refine ⟨⟨i, l.getD 0, _, hi', offS_ok hl hn.1.1 0, h1, ?_⟩, rfl⟩
            rw [he]
            exact ⟨rfl, offS_ok hh hn.1.2 _, h2, by rw [h3], rfl⟩
          · cases h
        · split at h
          · rename_i e' he
            split at h
            · rename_i ie hie
              obtain ⟨h0, h4⟩ := bif_some h
              have := rS_ok h4; subst this
              simp only [AllT.append] at hn
              obtain ⟨h1, h2, h3⟩ := cutS_ok hn.2
              refine ⟨⟨i, l.getD 0, _, hi', offS_ok hl hn.1.1 0, h1, ?_⟩, rfl⟩
              rw [he]
              exact ⟨rfl, offS_ok hh hn.1.2 _, h2, ⟨ie, hie, beq_ok h0⟩, by rw [h3], rfl⟩
            · cases h
          · cases h
        · rename_i b sz o n
          split at h
          · rename_i e' he
            split at h
            · rename_i ie hie
              split at h
              · rename_i cs hb
                obtain ⟨h0, h4⟩ := bif_some h
                have hb' := cellsAt_some hb
                split at h4
                · split at h4
                  · have := rS_ok h4; subst this
                    simp only [AllT.append] at hn
                    refine ⟨⟨i, 0, n, hi', offS_ok hl hn.1 0, by omega, ?_⟩, rfl⟩
                    rw [he]
                    exact ⟨rfl, offS_ok hh hn.2 n, Nat.le_refl _, ⟨ie, hie, beq_ok h0⟩, ⟨cs, hb'⟩, .inl rfl, by simp, rfl⟩
                  · rename_i hv
                    have := rS_ok h4; subst this
                    simp only [AllT.append, AllT.cons] at hn
                    refine ⟨⟨i, 0, hv, hi', offS_ok hl hn.1.1 0, by omega, ?_⟩, rfl⟩
                    rw [he]
                    exact ⟨rfl, offS_ok hh hn.1.2 n, ble_ok hn.2.1, ⟨ie, hie, beq_ok h0⟩, ⟨cs, hb'⟩, .inl rfl, by simp, rfl⟩
                · rename_i lv
                  split at h4
                  · have := rS_ok h4; subst this
                    simp only [AllT.append, AllT.cons, Bool.or_eq_true] at hn
                    refine ⟨⟨i, lv, n, hi', offS_ok hl hn.1.1 0, ble_ok hn.2.1, ?_⟩, rfl⟩
                    rw [he]
                    exact ⟨rfl, offS_ok hh hn.1.2 n, Nat.le_refl _, ⟨ie, hie, beq_ok h0⟩, ⟨cs, hb'⟩, hn.2.2.1.imp beq_ok blt_ok, rfl, rfl⟩
                  · rename_i hv
                    have := rS_ok h4; subst this
                    simp only [AllT.append, AllT.cons, Bool.or_eq_true] at hn
                    refine ⟨⟨i, lv, hv, hi', offS_ok hl hn.1.1 0, ble_ok hn.2.1, ?_⟩, rfl⟩
                    rw [he]
                    exact ⟨rfl, offS_ok hh hn.1.2 n, ble_ok hn.2.2.1, ⟨ie, hie, beq_ok h0⟩, ⟨cs, hb'⟩, hn.2.2.2.1.imp beq_ok blt_ok, rfl, rfl⟩
              · cases h
            · cases h
          · cases h
        · split at h
          · rename_i e' he
            split at h
            · rename_i ie hie
              have := rS_ok h; subst this
              simp only [AllT.append, AllT.cons] at hn
              have h5 := beq_ok hn.2.1
              have h6 := beq_ok hn.2.2.1
              refine ⟨⟨i, l.getD 0, r.getD 0, hi', offS_ok hl hn.1.1 0, by omega, ?_⟩, rfl⟩
              rw [he]
              exact ⟨rfl, offS_ok hh hn.1.2 0, h6, ⟨ie, hie⟩, rfl, rfl⟩
            · cases h
          · cases h
        · cases h
      · cases h
    · cases h
  · cases h

theorem lookupS_ok {t : TypeId} {x k : D} {ok : Bool} {e : SE} (h : lookupS TI H t x k ok = some e) (hn : AllT e.need) : lookupI TI H t x k ok e.v e.rh ∧ e = ⟨e.need, e.v, [], e.rh, []⟩ := by
  unfold lookupS at h
  split at h
  · rename_i hi
    split at h
    · rename_i ike hike
      split at h
      · rename_i iel hiel
        obtain ⟨h0, h1⟩ := bif_some h
        split at h1
        · split at h1
          · rename_i es hb
            have := rS_ok h1; subst this
            have h2 := (AllT.cons.1 hn).1
            unfold mapOK at h2
            obtain ⟨r, hr⟩ := Option.isSome_iff_exists.1 h2
            refine ⟨⟨_, _, _, ike, iel, hi, rfl, hike, h0, hiel, es, r, mapAt_some hb, hr, rfl, ?_⟩, rfl⟩
            simp only [mapVal, mapHas, hr]
            cases r with
            | none => cases ok <;> rfl
            | some p => cases ok <;> rfl
          · cases h1
        · have := rS_ok h1; subst this
          refine ⟨⟨_, _, _, ike, iel, hi, rfl, hike, h0, hiel, rfl, ?_⟩, rfl⟩
          cases ok <;> rfl
        · cases h1
      · cases h
    · cases h
  · cases h

theorem storeS_ok {t : TypeId} {x y : D} {e : SE} (h : storeS TI H cl t x y = some e) (hn : AllT e.need) : (storeI TI H t x y (e.hw.map (·.1)) e.rh e.wh ∧ e.v = .undef ∧ WOK cl e.hw) ∧ ∃ z, e.hw = [z] := by
  unfold storeS at h
  split at h
  · rename_i i hi
    split at h
    · rename_i b o
      split at h
      · rename_i cs hcs
        split at h
        · rename_i old hb
          obtain ⟨h1, h2⟩ := bif_some h
          cases h2
          simp only [Bool.and_eq_true, List.all_eq_true] at h1
          simp only [AllT.cons, Bool.or_eq_true, Bool.not_eq_true'] at hn
          refine ⟨⟨⟨i, b, o, cs, old, hi, rfl, hcs, beq_ok h1.1.1, blt_ok h1.1.2, h1.2, cellsAt_some hb, ble_ok hn.1, rfl, rfl, rfl⟩, rfl, fun x hx => ?_⟩, _, rfl⟩
          simp only [List.mem_singleton] at hx
          subst hx
          intro hc
          rcases hn.2.1 with h3 | h3
          · rw [hc] at h3; cases h3
          · exact cloB_ok h3
        · cases h
      · cases h
    · cases h
  · cases h

theorem mem_set_idsL {es : List D} {i : Nat} {d : D} {b : Nat} (h : b ∈ D.idsL (es.set i d)) : b ∈ D.idsL es ∨ b ∈ d.ids := by
  obtain ⟨x, hx, hb⟩ := mem_idsL h
  rcases List.mem_or_eq_of_mem_set hx with h1 | h1
  · exact .inl (idsL_mem h1 hb)
  · subst h1; exact .inr hb

theorem clo_mapSet {kd : TypeDesc} {k v : D} {es : List (D × D)} (hk : k.ids = []) (hv : v.ids = []) (h : (Slot.map es).Clo) : (Slot.map (mapSet kd k v es)).Clo := by
  unfold mapSet
  split
  · rename_i r _
    cases r with
    | none =>
      simp only [putK, Slot.Clo, List.map_append, List.map_cons, List.map_nil, idsL_append, D.idsL, hk, hv, List.append_nil]
      exact h
    | some p =>
      simp only [putK, Slot.Clo, List.map_set]
      refine ⟨List.eq_nil_iff_forall_not_mem.2 fun b hb => ?_, List.eq_nil_iff_forall_not_mem.2 fun b hb => ?_⟩
      · rcases mem_set_idsL hb with h1 | h1
        · rw [h.1] at h1; simp at h1
        · simp only [hk] at h1; simp at h1
      · rcases mem_set_idsL hb with h1 | h1
        · rw [h.2] at h1; simp at h1
        · simp only [hv] at h1; simp at h1
  · exact h

theorem mapUpdateS_ok (hc : ClOK H cl) {t : TypeId} {x k y : D} {e : SE} (h : mapUpdateS TI H cl t x k y = some e) (hn : AllT e.need) : (mapUpdateI TI H t x k y (e.hw.map (·.1)) e.rh e.wh ∧ e.v = .undef ∧ WOK cl e.hw) ∧ ∃ z, e.hw = [z] := by
  unfold mapUpdateS at h
  split at h
  · rename_i hi
    split at h
    · rename_i ike hike
      split at h
      · rename_i b
        split at h
        · rename_i es hb
          obtain ⟨h0, h1⟩ := bif_some h
          cases h1
          simp only [AllT.cons, Bool.or_eq_true, Bool.not_eq_true', Bool.and_eq_true, List.isEmpty_iff] at hn
          have h2 := hn.1
          unfold mapOK at h2
          obtain ⟨r, hr⟩ := Option.isSome_iff_exists.1 h2
          refine ⟨⟨⟨_, _, _, ike, b, es, r, hi, rfl, hike, h0, rfl, mapAt_some hb, hr, ?_, rfl, rfl⟩, rfl, fun x hx => ?_⟩, _, rfl⟩
          · simp [mapSet, hr]
          · simp only [List.mem_singleton] at hx
            subst hx
            cases hcb : cl b with
            | false => trivial
            | true =>
              rcases hn.2.1 with h3 | h3
              · rw [hcb] at h3; cases h3
              · exact clo_mapSet h3.1 h3.2 (hc b _ (mapAt_some hb) hcb)
        · cases h
      · cases h
    · cases h
  · cases h

theorem srcS_ok (hc : ClOK H cl) {sz : Nat} {x : D} {nd : List Bool} {m : Nat} {cs : List D} {rh : List Rng} (h : srcS H cl sz x = some (nd, m, cs, rh)) (hn : AllT nd) : srcI H sz x m cs rh := by
  unfold srcS at h
  split at h
  · cases h; exact ⟨rfl, rfl, rfl⟩
  · rename_i sz' es
    cases h
    refine ⟨rfl, ?_, rfl, rfl⟩
    cases hb : Nat.beq sz' sz with
    | true => exact .inr (beq_ok hb)
    | false =>
      simp only [hb, cond_false, AllT.cons, List.isEmpty_iff] at hn
      exact .inl hn.1
  · rename_i b sz' o n
    split at h
    · rename_i all hb
      obtain ⟨h0, h1⟩ := bif_some h
      cases h1
      simp only [AllT.cons, Bool.or_eq_true, List.all_eq_true] at hn
      refine ⟨all, cellsAt_some hb, beq_ok h0, rfl, ble_ok hn.1, rfl, fun d hd => ?_, rfl⟩
      rcases hn.2.1 with h3 | h3
      · exact (hc b _ (cellsAt_some hb) h3).2 d (List.mem_of_mem_drop (List.mem_of_mem_take hd))
      · exact h3 d hd
    · cases h
  · obtain ⟨h0, h1⟩ := bif_some h
    cases h1
    exact ⟨beq_ok h0, rfl, rfl, rfl⟩
  · cases h

theorem clo_append {a b : List D} (ha : (Slot.cells a).Clo) (hb : (Slot.cells b).Clo) : (Slot.cells (a ++ b)).Clo := by
  refine ⟨by rw [idsL_append, ha.1, hb.1]; rfl, fun d hd => ?_⟩
  rcases List.mem_append.1 hd with h | h
  · exact ha.2 d h
  · exact hb.2 d h

theorem clo_sub {a b : List D} (h : ∀ d ∈ a, d ∈ b) (hb : (Slot.cells b).Clo) : (Slot.cells a).Clo :=
  ⟨idsL_nil_of fun d hd => ids_of_idsL_nil hb.1 (h d hd), fun d hd => hb.2 d (h d hd)⟩

theorem appendS_ok (hc : ClOK H cl) {mark : Bool} {t t2 : TypeId} {s x : D} {e : SE} (h : appendS TI nid H cl mark t t2 s x = some e) (hn : AllT e.need) : appendI TI nid H t t2 s x e.v (e.hw.map (·.1)) e.rh e.wh ∧ WOK cl e.hw := by
  unfold appendS at h
  split at h
  · rename_i hi
    split at h
    · rename_i i2 hi2
      split at h
      · rename_i ie hie
        split at h
        · rename_i nd m cs rh hsrc
          obtain ⟨h0, h1⟩ := bif_some h
          simp only [Bool.and_eq_true] at h0
          split at h1
          · cases h1
            simp only [AllT.append, AllT.cons, Bool.or_eq_true, Bool.not_eq_true'] at hn
            refine ⟨⟨_, _, i2, ie, m, cs, rh, hi, rfl, hi2, h0.1, hie, blt_ok h0.2, srcS_ok hc hsrc hn.1, ble_ok hn.2.1, rfl, rfl, rfl, rfl⟩, fun x hx => ?_⟩
            simp only [List.mem_singleton] at hx
            subst hx
            cases mark with
            | false => trivial
            | true =>
              rcases hn.2.2.1 with h3 | h3
              · cases h3
              · exact cloB_ok h3
          · rename_i b sz o n
            split at h1
            · rename_i old hb
              obtain ⟨h2, h3⟩ := bif_some h1
              simp only [Bool.and_eq_true] at h2
              cases h3
              simp only [AllT.append, AllT.cons, Bool.or_eq_true, Bool.not_eq_true'] at hn
              refine ⟨⟨_, _, i2, ie, m, cs, rh, hi, rfl, hi2, h0.1, hie, blt_ok h0.2, srcS_ok hc hsrc hn.1, old, beq_ok h2.1, beq_ok h2.2, cellsAt_some hb, ble_ok hn.2.1, ble_ok hn.2.2.1, rfl, rfl, rfl, rfl⟩, fun x hx => ?_⟩
              simp only [List.mem_cons, List.not_mem_nil, or_false] at hx
              rcases hx with rfl | rfl
              · trivial
              · cases hcb : cl b with
                | false => trivial
                | true =>
                  rcases hn.2.2.2.1 with h3 | h3
                  · rw [hcb] at h3; cases h3
                  · exact clo_append (clo_sub (fun d hd => List.mem_of_mem_take hd) (hc b _ (cellsAt_some hb) hcb)) (cloB_ok h3)
            · cases h1
          · cases h1
        · cases h
      · cases h
    · cases h
  · cases h

theorem makeSliceS_ok {mark : Bool} {t : TypeId} {x y : D} {e : SE} (h : makeSliceS TI nid mark t x y = some e) (hn : AllT e.need) : makeSliceI TI nid t x y e.v (e.hw.map (·.1)) e.wh ∧ e.rh = [] ∧ WOK cl e.hw := by
  unfold makeSliceS at h
  split at h
  · rename_i hi
    split at h
    · rename_i ie hie
      split at h
      · rename_i zc hzc
        split at h
        · rename_i nd n hx
          split at h
          · rename_i nd' n' hy
            obtain ⟨h0, h1⟩ := bif_some h
            cases h1
            simp only [AllT.append, AllT.cons, Bool.or_eq_true, Bool.not_eq_true'] at hn
            obtain ⟨k, z, rfl, hz, rfl⟩ := natS_ok hx hn.1.1
            obtain ⟨k', z', rfl, hz', rfl⟩ := natS_ok hy hn.1.2
            have h5 := beq_ok hn.2.1
            refine ⟨⟨_, _, ie, zc, k, k', z.toNat, hi, rfl, hie, hzc, by rw [Int.toNat_of_nonneg hz], by rw [h5, Int.toNat_of_nonneg hz'], ble_ok hn.2.2.1, blt_ok h0, rfl, rfl, rfl⟩, rfl, fun x hx => ?_⟩
            simp only [List.mem_singleton] at hx
            subst hx
            cases mark with
            | false => trivial
            | true =>
              rcases hn.2.2.2.1 with h3 | h3
              · cases h3
              · exact cloB_ok h3
          · cases h
        · cases h
      · cases h
    · cases h
  · cases h

theorem byteV_ok : ∀ {ds : List D}, ds.all byteOK = true → ds = byteD (ds.map byteV)
  | [], _ => rfl
  | d :: ds, h => by
    simp only [List.all_cons, Bool.and_eq_true] at h
    have ih := byteV_ok h.2
    simp only [byteD, List.map_cons, List.map_map] at ih ⊢
    rw [← ih]
    congr 1
    have h1 := h.1
    unfold byteOK at h1
    split at h1
    · rename_i n
      simp only [Bool.and_eq_true, decide_eq_true_eq] at h1
      simp only [byteV]
      congr 1
      have h2 : n.toNat < 256 := by omega
      have h3 : (n.toNat.toUInt8).toNat = n.toNat := by
        simp only [Nat.toUInt8, UInt8.toNat_ofNat']
        omega
      rw [h3]; omega
    · cases h1

theorem convertS_ok {s d : TypeId} {x : D} {e : SE} (h : convertS TI H s d x = some e) (hn : AllT e.need) : convertI TI H s d x e.v e.rh ∧ e = ⟨e.need, e.v, [], e.rh, []⟩ := by
  unfold convertS at h
  split at h
  · rename_i b sz o n
    split at h
    · rename_i i hi
      split at h
      · rename_i j hj
        split at h
        · rename_i hjd
          split at h
          · rename_i e' he
            split at h
            · rename_i hie
              split at h
              · rename_i cs hb
                obtain ⟨h0, h1⟩ := bif_some h
                have := rS_ok h1; subst this
                simp only [AllT.cons] at hn
                refine ⟨⟨i, j, hi, hj, ?_⟩, rfl⟩
                rw [hjd]
                have h3 := ble_ok hn.1
                exact ⟨e', _, cs, _, he, hie, rfl, beq_ok h0, cellsAt_some hb, by simp; omega, byteV_ok hn.2.1, rfl, rfl⟩
              · cases h
            · cases h
          · cases h
        · cases h
      · cases h
    · cases h
  · obtain ⟨h1, h2⟩ := readV_ok h
    rw [h2]
    exact ⟨convertF_ok h1, rfl⟩

theorem WOK_false {l : List HW} (hp : ∀ b o cs, HW.put b o cs ∉ l) : WOK cl (l.map fun x => (x, false)) := by
  intro x hx
  obtain ⟨y, hy, rfl⟩ := List.mem_map.1 hx
  cases y with
  | put b o cs => exact (hp b o cs hy).elim
  | set b sl => cases sl <;> trivial

theorem effS_ok {o : Option Eff} {e : SE} (h : effS o = some e) : ∃ f, o = some f ∧ e = ⟨[], f.v, f.hw.map fun x => (x, false), f.rh, f.wh⟩ := by
  unfold effS at h
  split at h
  · cases h; exact ⟨_, rfl, rfl⟩
  · cases h

end

def plainOp : Op → Bool
  | .store .. | .mapUpdate .. | .insert .. => false
  | _ => true

section
variable {TI : TT} {nid : Nat} {ev : Operand → D} {H : Nat → Option Slot} {cl : Nat → Bool}

theorem noPut {op : Op} {v : D} {hw : List HW} {rh wh : List Rng} (hp : plainOp op = true) (h : opI TI nid ev H op v hw rh wh) : ∀ b o cs, HW.put b o cs ∉ hw := by
  intro b o cs hm
  cases op <;> simp only [opI] at h
  case call c =>
    split at h
    · rw [h.2.2.1] at hm; simp at hm
    · obtain ⟨it, e, i2, ie, m, cs', rh', _, _, _, _, _, _, _, h⟩ := h
      split at h
      · obtain ⟨_, _, h, _⟩ := h; rw [h] at hm; simp at hm
      · obtain ⟨_, _, _, _, _, _, _, h, _⟩ := h; rw [h] at hm; simp at hm
      · exact h
    · rw [h.2.1] at hm; simp at hm
    · rw [h.2.1] at hm; simp at hm
    · exact h
  case store => simp [plainOp] at hp
  case mapUpdate => simp [plainOp] at hp
  case insert => simp [plainOp] at hp
  case mapEntry =>
    obtain ⟨_, _, _, _, _, _, _, _, _, _, _, _, _, _, _, _, h, _⟩ := h
    rw [h] at hm; simp at hm
  case entryStore =>
    obtain ⟨⟨_, _, _, _, _, _, _, _, h, _⟩, _⟩ := h
    rw [h] at hm; simp at hm
  case makeSlice =>
    obtain ⟨⟨_, _, _, _, _, _, _, _, _, _, _, _, _, _, _, _, h, _⟩, _⟩ := h
    rw [h] at hm; simp at hm
  case alloc => obtain ⟨⟨_, _, _, _, _, h⟩, _⟩ := h; rw [h] at hm; simp at hm
  case box => obtain ⟨⟨_, _, _, h⟩, _⟩ := h; rw [h] at hm; simp at hm
  case buildSlice => obtain ⟨⟨_, _, h⟩, _⟩ := h; rw [h] at hm; simp at hm
  case makeMap => obtain ⟨_, _, h, _⟩ := h; rw [h] at hm; simp at hm
  case pick => obtain ⟨_, _, _, h, _⟩ := h; rw [h] at hm; simp at hm
  case move => rw [h.2.1] at hm; simp at hm
  case assign => rw [h.2.1] at hm; simp at hm
  case binOp => rw [h.2.1] at hm; simp at hm
  case unOp => rw [h.2.1] at hm; simp at hm
  case convert => rw [h.2.1] at hm; simp at hm
  case build => rw [h.2.1] at hm; simp at hm
  case field => rw [h.2.1] at hm; simp at hm
  case index => rw [h.2.1] at hm; simp at hm
  case extract => rw [h.2.1] at hm; simp at hm
  case makeInterface => rw [h.2.2.1] at hm; simp at hm
  case slice => rw [h.2.1] at hm; simp at hm
  case load => rw [h.2.1] at hm; simp at hm
  case nilCheck => rw [h.2.1] at hm; simp at hm
  case fieldAddr => rw [h.2.1] at hm; simp at hm
  case indexAddr => rw [h.2.1] at hm; simp at hm
  case lookup => rw [h.2.1] at hm; simp at hm
  case makeFunc f first cap =>
    cases f <;> simp only at h
    rw [h.2.2.1] at hm; simp at hm

theorem opS_ok (hc : ClOK H cl) {mark : Bool} {op : Op} {e : SE} (h : opS TI nid ev H cl mark op = some e) (hn : AllT e.need) : opI TI nid ev H op e.v (e.hw.map (·.1)) e.rh e.wh ∧ WOK cl e.hw := by
  have plain : ∀ {op : Op} {e : SE}, effS (opF TI nid ev H op) = some e → plainOp op = true → opI TI nid ev H op e.v (e.hw.map (·.1)) e.rh e.wh ∧ WOK cl e.hw := fun {op e} h hp => by
    obtain ⟨f, hf, rfl⟩ := effS_ok h
    have h1 := opF_ok hf
    simp only [List.map_map, Function.comp_def, List.map_id']
    exact ⟨h1, WOK_false (noPut hp h1)⟩
  cases op <;> simp only [opS] at h <;> try exact plain h rfl
  case pick c x y =>
    split at h
    · rename_i b hb
      have := pS_ok h; subst this
      exact ⟨⟨b, hb, pickS_eq _ _ _, rfl, rfl, rfl⟩, WOK.nil⟩
    · cases h
  case binOp op ty x y ty' =>
    split at h
    · rename_i hy
      obtain ⟨h1, h2⟩ := nilCmpS_ok h hn
      rw [h2]
      exact ⟨⟨.inr (by rw [hy]; exact h1), rfl, rfl⟩, WOK.nil⟩
    · obtain ⟨h1, h2⟩ := binS_ok h hn
      rw [h2]
      exact ⟨⟨.inl ⟨h1, rfl⟩, rfl, rfl⟩, WOK.nil⟩
  case convert s d x => obtain ⟨h1, h2⟩ := convertS_ok h hn; rw [h2]; exact ⟨⟨h1, rfl, rfl⟩, WOK.nil⟩
  case index t x y => obtain ⟨h1, h2⟩ := indexS_ok h hn; rw [h2]; exact ⟨⟨h1, rfl, rfl, rfl⟩, WOK.nil⟩
  case slice t x lo hi mx => obtain ⟨h1, h2⟩ := sliceS_ok h hn; rw [h2]; exact ⟨⟨h1, rfl, rfl⟩, WOK.nil⟩
  case load t x => obtain ⟨h1, h2⟩ := loadS_ok h hn; rw [h2]; exact ⟨⟨h1, rfl, rfl⟩, WOK.nil⟩
  case nilCheck x => obtain ⟨h1, h2⟩ := liveS_ok h hn; rw [h2]; exact ⟨⟨h1, rfl, rfl⟩, WOK.nil⟩
  case fieldAddr t x f => obtain ⟨h1, h2⟩ := fieldAddrS_ok h hn; rw [h2]; exact ⟨⟨h1, rfl, rfl⟩, WOK.nil⟩
  case indexAddr t x y => obtain ⟨h1, h2⟩ := indexAddrS_ok h hn; rw [h2]; exact ⟨⟨h1, rfl, rfl⟩, WOK.nil⟩
  case store t x y => obtain ⟨⟨h1, h2, h3⟩, _⟩ := storeS_ok h hn; exact ⟨⟨h1, h2⟩, h3⟩
  case makeSlice t x y => obtain ⟨h1, h2, h3⟩ := makeSliceS_ok (cl := cl) h hn; exact ⟨⟨h1, h2⟩, h3⟩
  case lookup t x k ok => obtain ⟨h1, h2⟩ := lookupS_ok h hn; rw [h2]; exact ⟨⟨h1, rfl, rfl⟩, WOK.nil⟩
  case mapUpdate t x k y => obtain ⟨⟨h1, h2, h3⟩, _⟩ := mapUpdateS_ok hc h hn; exact ⟨⟨h1, h2⟩, h3⟩
  case insert t x k y => obtain ⟨⟨h1, h2, h3⟩, _⟩ := mapUpdateS_ok hc h hn; exact ⟨⟨h1, h2⟩, h3⟩
  case makeMap t r =>
    split at h
    · cases h
      refine ⟨⟨rfl, rfl, rfl, rfl, rfl⟩, fun x hx => ?_⟩
      simp only [List.mem_singleton] at hx
      subst hx
      cases mark with
      | false => trivial
      | true => exact ⟨rfl, rfl⟩
    · cases h
  case call c =>
    split at h
    · rename_i hcal
      split at h
      · rename_i s x t t2 ha ht
        obtain ⟨h1, h2⟩ := appendS_ok hc h hn
        refine ⟨?_, h2⟩
        simp only [opI, hcal, ha, ht]
        exact h1
      · cases h
    · rename_i b hne hcal
      have h' : effS (opF TI nid ev H (.call c)) = some e := by
        simp only [opF, hcal]; exact h
      exact plain h' rfl
    · cases h

def HW.blk : HW → Nat
  | .put b _ _ => b
  | .set b _ => b

/-- Either nothing is written in place, or each block is written once. -/
def PutOK (l : List (HW × Bool)) : Prop := (∀ b o cs, HW.put b o cs ∉ l.map (·.1)) ∨ (l.map (·.1.blk)).Nodup

theorem PutOK.one {l : List (HW × Bool)} (h : ∃ z, l = [z]) : PutOK l := by
  obtain ⟨z, rfl⟩ := h
  exact .inr (by simp)

theorem opS_put (hc : ClOK H cl) {mark : Bool} {op : Op} {e : SE} (h : opS TI nid ev H cl mark op = some e) (hn : AllT e.need) : PutOK e.hw := by
  have h1 := (opS_ok hc h hn).1
  cases hp : plainOp op with
  | true => exact .inl (noPut hp h1)
  | false =>
    cases op <;> simp only [plainOp, Bool.true_eq_false] at hp <;> simp only [opS] at h
    · exact .one (mapUpdateS_ok hc h hn).2
    · exact .one (storeS_ok h hn).2
    · exact .one (mapUpdateS_ok hc h hn).2

end

end Go.Tw
end
