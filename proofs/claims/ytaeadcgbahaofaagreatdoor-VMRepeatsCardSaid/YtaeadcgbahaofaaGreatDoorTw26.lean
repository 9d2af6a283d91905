/- The machines that run the program, closed and with open leaves: what they answer is so. -/
import Derived.Test.YtaeadcgbahaofaaGreatDoorTw25
section
namespace Go.Tw

/-! ## The machine's states -/

theorem Nat.beq_tt {a b : Nat} : Nat.beq a b = decide (a = b) := by
  by_cases h : a = b
  · subst h; simp
  · have : Nat.beq a b = false := by
      cases hb : Nat.beq a b with
      | false => rfl
      | true => exact absurd (Nat.eq_of_beq_eq_true hb) h
    simp [this, h]

theorem Tr.get_put {α : Type} (d v : α) : ∀ (k : Nat) (t : Tr α) (n j : Nat), n + 1 < 2 ^ k → (Tr.put d v k t n).get d j = if j = n then v else t.get d j := by
  intro k
  induction k with
  | zero => intro t n j h; simp at h
  | succ k ih =>
    intro t n j h
    have hm : n ≠ 0 → (n - 1) / 2 + 1 < 2 ^ k := fun hn => by rw [Nat.pow_succ] at h; omega
    cases t with
    | lf =>
      simp only [Tr.put, Nat.beq_tt]
      by_cases hn : n = 0
      · subst hn
        by_cases hj : j = 0
        · subst hj; simp [Tr.get]
        · simp only [Tr.get, Nat.beq_tt, hj, decide_true, decide_false, cond_true, cond_false, if_false]
          by_cases h2 : j % 2 = 1 <;> simp [h2]
      · simp only [hn, decide_false, cond_false]
        by_cases h1 : n % 2 = 1
        · simp only [h1, decide_true, cond_true]
          by_cases hj : j = 0
          · subst hj; simp [Tr.get, Ne.symm hn]
          · simp only [Tr.get, Nat.beq_tt, hj, decide_false, cond_false]
            by_cases h2 : j % 2 = 1
            · simp only [h2, decide_true, cond_true]
              rw [ih _ _ _ (hm hn)]
              by_cases e : j = n
              · subst e; simp
              · rw [if_neg e, if_neg (by omega)]; simp [Tr.get]
            · simp only [h2, decide_false, cond_false]
              rw [if_neg (by omega)]
        · simp only [h1, decide_false, cond_false]
          by_cases hj : j = 0
          · subst hj; simp [Tr.get, Ne.symm hn]
          · simp only [Tr.get, Nat.beq_tt, hj, decide_false, cond_false]
            by_cases h2 : j % 2 = 1
            · simp only [h2, decide_true, cond_true]
              rw [if_neg (by omega)]
            · simp only [h2, decide_false, cond_false]
              rw [ih _ _ _ (hm hn)]
              by_cases e : j = n
              · subst e; simp
              · rw [if_neg e, if_neg (by omega)]; simp [Tr.get]
    | nd l x r =>
      simp only [Tr.put, Nat.beq_tt]
      by_cases hn : n = 0
      · subst hn
        by_cases hj : j = 0
        · subst hj; simp [Tr.get]
        · simp [Tr.get, Nat.beq_tt, hj]
      · simp only [hn, decide_false, cond_false]
        by_cases h1 : n % 2 = 1
        · simp only [h1, decide_true, cond_true]
          by_cases hj : j = 0
          · subst hj; simp [Tr.get, Ne.symm hn]
          · simp only [Tr.get, Nat.beq_tt, hj, decide_false, cond_false]
            by_cases h2 : j % 2 = 1
            · simp only [h2, decide_true, cond_true]
              rw [ih _ _ _ (hm hn)]
              by_cases e : j = n
              · subst e; simp
              · rw [if_neg e, if_neg (by omega)]
            · simp only [h2, decide_false, cond_false]
              rw [if_neg (by omega)]
        · simp only [h1, decide_false, cond_false]
          by_cases hj : j = 0
          · subst hj; simp [Tr.get, Ne.symm hn]
          · simp only [Tr.get, Nat.beq_tt, hj, decide_false, cond_false]
            by_cases h2 : j % 2 = 1
            · simp only [h2, decide_true, cond_true]
              rw [if_neg (by omega)]
            · simp only [h2, decide_false, cond_false]
              rw [ih _ _ _ (hm hn)]
              by_cases e : j = n
              · subst e; simp
              · rw [if_neg e, if_neg (by omega)]

theorem HL.get_del : ∀ (h : HL) (n m : Nat), (h.del n).get m = if m = n then none else h.get m
  | [], n, m => by simp [HL.del, HL.get]
  | (b, sl) :: h, n, m => by
    simp only [HL.del, Nat.beq_tt]
    by_cases hb : b = n
    · subst hb
      simp only [decide_true, cond_true]
      rw [HL.get_del h b m]
      by_cases hm : m = b
      · simp [hm]
      · simp [hm, HL.get, Nat.beq_tt, Ne.symm hm]
    · simp only [hb, decide_false, cond_false, HL.get, Nat.beq_tt]
      by_cases hm : b = m
      · subst hm; simp [hb]
      · simp only [hm, decide_false, cond_false]
        exact HL.get_del h n m

theorem HL.get_set (h : HL) (n m : Nat) (sl : Option Slot) : (h.set n sl).get m = if m = n then sl else h.get m := by
  cases sl with
  | none => exact HL.get_del h n m
  | some sl =>
    simp only [HL.set, HL.get, Nat.beq_tt]
    by_cases hm : n = m
    · subst hm; simp
    · simp only [hm, decide_false, cond_false]
      rw [HL.get_del, if_neg (Ne.symm hm), if_neg (Ne.symm hm)]

theorem HL.app_get (h : HL) (x : HW) : (fun b => (h.app x).get b) = x.app (fun b => h.get b) := by
  funext c
  cases x with
  | set b sl => simp only [HL.app, HW.app, HL.get_set, upd]
  | put b o cs =>
    simp only [HL.app, HW.app, upd]
    split
    · rename_i old hb
      rw [HL.get_set]
      simp only [hb]
    · rename_i hne
      by_cases hc : c = b
      · subst hc
        rw [if_pos rfl]
        cases hg : h.get c with
        | none => rfl
        | some sl =>
          cases sl with
          | cells old => exact absurd hg (hne old)
          | map es => rfl
      · rw [if_neg hc]

theorem HL.apps_get : ∀ (l : List HW) (h : HL), (fun b => (l.foldl HL.app h).get b) = apps (fun b => h.get b) l
  | [], h => rfl
  | x :: l, h => by
    simp only [List.foldl_cons, apps]
    rw [HL.apps_get l (h.app x), HL.app_get]
    rfl

theorem aftE_st {N : Nat} {o : Oper} {e : Eff} {s : ES} (h : dstOK N o = true) : (aftE o e s).st = aft o e s.st := by
  unfold aftE aft ES.st
  congr 1
  · cases hd : o.dst with
    | none => rfl
    | some t =>
      unfold dstOK at h
      rw [hd] at h
      simp only [Bool.and_eq_true] at h
      have ht := blt_ok h.2
      funext j
      simp only [putT, upd]
      exact Tr.get_put _ _ 10 _ _ _ (by omega)
  · exact HL.apps_get e.hw s.H

theorem startE_get : ∀ (args : List D) (t : Nat) (tr : Tr D) (j : Nat), t + args.length ≤ 1000 → (startE args t tr).get .undef j = if t ≤ j ∧ j < t + args.length then (args[j - t]?).getD .undef else tr.get .undef j
  | [], t, tr, j, _ => by
    simp only [startE, List.length_nil]
    rw [if_neg (by omega)]
  | a :: as, t, tr, j, h => by
    simp only [startE, List.length_cons] at h ⊢
    rw [startE_get as (t + 1) _ j (by omega), Tr.get_put _ _ 10 _ _ _ (by omega)]
    by_cases hj : j = t
    · subst hj
      rw [if_neg (by omega), if_pos rfl, if_pos (by omega)]; simp
    · by_cases h2 : t ≤ j ∧ j < t + (as.length + 1)
      · rw [if_pos h2, if_pos (by omega)]
        obtain ⟨i, rfl⟩ : ∃ i, j = t + 1 + i := ⟨j - (t + 1), by omega⟩
        rw [show t + 1 + i - (t + 1) = i by omega, show t + 1 + i - t = i + 1 by omega]
        simp
      · rw [if_neg h2, if_neg (by omega), if_neg hj]

theorem range_zip_get : ∀ (hin : List Slot) (k b : Nat), HL.get ((List.range' k hin.length).zip hin) b = if k ≤ b then hin[b - k]? else none
  | [], k, b => by simp [HL.get]
  | sl :: hin, k, b => by
    simp only [List.length_cons, List.range'_succ, List.zip_cons_cons, HL.get, Nat.beq_tt]
    by_cases hb : k = b
    · subst hb; simp
    · simp only [hb, decide_false, cond_false]
      rw [range_zip_get hin (k + 1) b]
      by_cases h2 : k + 1 ≤ b
      · rw [if_pos h2, if_pos (by omega)]
        obtain ⟨i, rfl⟩ : ∃ i, b = k + 1 + i := ⟨b - (k + 1), by omega⟩
        rw [show k + 1 + i - (k + 1) = i by omega, show k + 1 + i - k = i + 1 by omega]
        simp
      · rw [if_neg h2, if_neg (by omega)]

theorem start_st {args : List D} {hin : List Slot} (h : args.length ≤ 1000) : (ES.mk (startE args 0 .lf) ((List.range hin.length).zip hin)).st = startS args hin := by
  unfold ES.st startS
  congr 1
  · funext t
    simp only []
    rw [startE_get args 0 .lf t (by omega)]
    unfold startT
    by_cases ht : t < args.length
    · rw [if_pos (by omega)]; simp
    · rw [if_neg (by omega), List.getElem?_eq_none (by omega)]; rfl
  · funext b
    simp only [List.range_eq_range']
    rw [range_zip_get hin 0 b]; simp

end Go.Tw
end
