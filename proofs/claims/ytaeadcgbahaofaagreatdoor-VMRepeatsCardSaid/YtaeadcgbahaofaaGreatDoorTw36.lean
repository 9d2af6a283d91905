/- The machines that run the program, closed and with open leaves: what they answer is so. -/
import Derived.Test.YtaeadcgbahaofaaGreatDoorTw35
section
namespace Go.Tw

/-! ## The symbolic machine is sound: views, states -/

theorem okK_ok {k : Kd} {d : D} (h : okK k d = true) : vK k d = d := by
  cases k <;> cases d <;> simp only [okK, Bool.false_eq_true, decide_eq_true_eq] at h <;> simp only [vK, D.intV, D.strV, D.boolV, D.elV]
  · rw [h]
  · rw [Nat.eq_of_beq_eq_true h]

theorem okL_ok : ∀ {ks : List Kd} {cs : List D} {all : List D} {j : Nat}, okL ks cs = true → all.drop j = cs → vL (.agg all) ks j = cs
  | [], [], _, _, _, _ => rfl
  | [], _ :: _, _, _, h, _ => by simp [okL] at h
  | _ :: _, [], _, _, h, _ => by simp [okL] at h
  | k :: ks, c :: cs, all, j, h, hd => by
    simp only [okL, Bool.and_eq_true] at h
    have h1 : all[j]? = some c := by
      have := congrArg List.head? hd
      rw [List.head?_drop] at this; simpa using this
    have h2 : all.drop (j + 1) = cs := by rw [← List.tail_drop, hd]; rfl
    simp only [vL]
    rw [okL_ok h.2 h2]
    congr 1
    have : (D.agg all).at j = c := by simp [D.at, D.cellsV, List.getD_eq_getElem?_getD, h1]
    rw [this, okK_ok h.1]

theorem okA_ok {ks : List Kd} {d : D} (h : okA ks d = true) : .agg (vL d ks 0) = d := by
  unfold okA at h
  split at h
  · rename_i cs
    rw [okL_ok h (by simp)]
  · cases h

theorem viewS_ok {w : Vw} {d : D} (h : (viewS w d).1 = true) : (viewS w d).2 = d := by
  unfold viewS at h ⊢
  cases w with
  | sc k => exact okK_ok h
  | ag ks => exact okA_ok h
  | psc k =>
    simp only at h ⊢
    split at h
    · simp only; rw [okK_ok h]
    · rfl
  | pag ks =>
    simp only at h ⊢
    split at h
    · simp only; rw [okA_ok h]
    · rfl
  | tsc k =>
    simp only at h ⊢
    split at h
    · simp only; rw [okK_ok h]
    · rfl
  | tag ks =>
    simp only at h ⊢
    split at h
    · simp only; rw [okA_ok h]
    · rfl

theorem needs_some {R : Type} : ∀ {l : List Bool} {x : Option R} {r : R}, needs l x = some r → AllT l ∧ x = some r
  | [], _, _, h => ⟨AllT.nil, h⟩
  | b :: bs, x, r, h => by
    simp only [needs] at h
    obtain ⟨h1, h2⟩ := bif_some h
    obtain ⟨h3, h4⟩ := needs_some h2
    exact ⟨AllT.cons.2 ⟨h1, h3⟩, h4⟩

theorem SHL.get_del : ∀ (h : SHL) (n m : Nat), (h.del n).get m = if m = n then none else h.get m
  | [], n, m => by simp [SHL.del, SHL.get]
  | (b, x) :: h, n, m => by
    simp only [SHL.del, SHL.get, Nat.beq_tt]
    by_cases hb : b = n
    · subst hb
      simp only [decide_true, cond_true]
      rw [SHL.get_del h b m]
      by_cases hm : m = b
      · simp [hm]
      · have : ¬ b = m := fun e => hm e.symm
        simp [hm, this]
    · simp only [hb, decide_false, cond_false, SHL.get, Nat.beq_tt]
      rw [SHL.get_del h n m]
      by_cases hm : b = m
      · subst hm; simp [hb]
      · simp [hm]

theorem SHL.get_set (h : SHL) (n m : Nat) (x : FS) : (h.set n x).get m = if m = n then some x else h.get m := by
  simp only [SHL.set, SHL.get, Nat.beq_tt, SHL.get_del]
  by_cases hm : m = n
  · subst hm; simp
  · have : ¬ n = m := fun e => hm e.symm
    simp [hm, this]

theorem SHL.slot_eq (h : SHL) (b : Nat) : h.slot b = (h.get b).map (·.2) := by
  unfold SHL.slot
  cases h.get b <;> rfl
theorem SHL.cl_eq (h : SHL) (b : Nat) : h.cl b = match h.get b with | some x => x.1 | none => false := by
  unfold SHL.cl
  cases h.get b <;> rfl

/-- What is marked closed is closed. -/
def SHL.OK (h : SHL) : Prop := ∀ b sl, h.get b = some (true, sl) → sl.Clo

theorem SHL.OK.cl {h : SHL} (hc : h.OK) : ClOK (fun b => h.slot b) (fun b => h.cl b) := by
  intro b sl h1 h2
  simp only [SHL.slot_eq, SHL.cl_eq] at h1 h2
  cases hg : h.get b with
  | none => rw [hg] at h1; cases h1
  | some x =>
    rw [hg] at h1 h2
    simp only [Option.map_some, Option.some.injEq] at h1 h2
    obtain ⟨c, sl'⟩ := x
    simp only at h1 h2
    subst h1 h2
    exact hc b _ hg

theorem SHL.slot_app (h : SHL) (x : HW × Bool) : (fun b => (h.app x).slot b) = x.1.app (fun b => h.slot b) := by
  funext n
  obtain ⟨x, c⟩ := x
  cases x with
  | put b o cs =>
    simp only [SHL.app, HW.app, upd]
    cases hg : h.get b with
    | none =>
      simp only
      by_cases hn : n = b
      · subst hn; simp [SHL.slot_eq, hg]
      · simp [hn]
    | some y =>
      obtain ⟨c', sl⟩ := y
      cases sl with
      | cells old =>
        simp only [SHL.slot_eq, SHL.get_set]
        by_cases hn : n = b
        · subst hn; simp [hg]
        · simp [hn]
      | map es =>
        simp only
        by_cases hn : n = b
        · subst hn; simp [SHL.slot_eq, hg]
        · simp [hn]
  | set b sl =>
    cases sl with
    | none =>
      simp only [SHL.app, HW.app, upd, SHL.slot_eq, SHL.get_del]
      by_cases hn : n = b <;> simp [hn]
    | some sl =>
      simp only [SHL.app, HW.app, upd, SHL.slot_eq, SHL.get_set]
      by_cases hn : n = b <;> simp [hn]

theorem SHL.slot_apps : ∀ (l : List (HW × Bool)) (h : SHL), (fun b => (l.foldl SHL.app h).slot b) = apps (fun b => h.slot b) (l.map (·.1))
  | [], _ => rfl
  | x :: l, h => by
    simp only [List.foldl_cons, apps, List.map_cons]
    rw [SHL.slot_apps l (h.app x), SHL.slot_app]; rfl

theorem clo_putL {cs : List D} (hc : (Slot.cells cs).Clo) : ∀ {old : List D} {o : Nat}, (Slot.cells old).Clo → (Slot.cells (putL old o cs)).Clo := by
  intro old o h
  refine ⟨idsL_nil_of fun d hd => ?_, fun d hd => ?_⟩
  · obtain ⟨i, hi⟩ := List.getElem?_of_mem hd
    rw [putL_get] at hi
    split at hi
    · exact ids_of_idsL_nil hc.1 (List.mem_of_getElem? hi)
    · exact ids_of_idsL_nil h.1 (List.mem_of_getElem? hi)
  · obtain ⟨i, hi⟩ := List.getElem?_of_mem hd
    rw [putL_get] at hi
    split at hi
    · exact hc.2 d (List.mem_of_getElem? hi)
    · exact h.2 d (List.mem_of_getElem? hi)

theorem SHL.OK.app {h : SHL} (hc : h.OK) {x : HW × Bool} (hx : WOK1 (fun b => h.cl b) x) : (h.app x).OK := by
  obtain ⟨x, c⟩ := x
  intro n sl hn
  cases x with
  | put b o cs =>
    simp only [SHL.app] at hn
    split at hn
    · rename_i c' old hg
      rw [SHL.get_set] at hn
      split at hn
      · rename_i e; subst e
        cases hn
        have hcl : h.cl n = true := by simp [SHL.cl_eq, hg]
        exact clo_putL (hx hcl) (hc _ _ hg)
      · exact hc n sl hn
    · exact hc n sl hn
  | set b sl' =>
    cases sl' with
    | none =>
      simp only [SHL.app, SHL.get_del] at hn
      split at hn
      · cases hn
      · exact hc n sl hn
    | some sl' =>
      simp only [SHL.app, SHL.get_set] at hn
      split at hn
      · cases hn; exact hx
      · exact hc n sl hn

theorem WOK1.noput {cl cl' : Nat → Bool} {x : HW × Bool} (hx : WOK1 cl x) (hp : ∀ b o cs, x.1 ≠ .put b o cs) : WOK1 cl' x := by
  obtain ⟨x, c⟩ := x
  cases x with
  | put b o cs => exact (hp b o cs rfl).elim
  | set b sl =>
    cases sl with
    | none => trivial
    | some sl => cases c <;> first | trivial | exact hx

theorem SHL.OK.apps_sets : ∀ {l : List (HW × Bool)} {h : SHL}, h.OK → (∀ b o cs, HW.put b o cs ∉ l.map (·.1)) → (∀ x ∈ l, WOK1 (fun b => h.cl b) x) → (l.foldl SHL.app h).OK
  | [], _, hc, _, _ => hc
  | x :: l, h, hc, hp, hx => by
    simp only [List.foldl_cons]
    refine SHL.OK.apps_sets (hc.app (hx x (by simp))) (fun b o cs hm => hp b o cs (by simp only [List.map_cons, List.mem_cons]; exact .inr hm)) fun y hy => (hx y (by simp [hy])).noput fun b o cs e => hp b o cs ?_
    simp only [List.map_cons, List.mem_cons]
    exact .inr (List.mem_map.2 ⟨y, hy, e⟩)

theorem SHL.cl_app {h : SHL} {x : HW × Bool} {b : Nat} (hb : b ≠ x.1.blk) : (h.app x).cl b = h.cl b := by
  obtain ⟨x, c⟩ := x
  simp only [SHL.cl_eq]
  cases x with
  | put b0 o cs =>
    simp only [HW.blk] at hb
    have : (h.app (.put b0 o cs, c)).get b = h.get b := by
      simp only [SHL.app]
      split
      · rw [SHL.get_set, if_neg hb]
      · rfl
    rw [this]
  | set b0 sl =>
    simp only [HW.blk] at hb
    cases sl with
    | none => simp only [SHL.app, SHL.get_del, if_neg hb]
    | some sl => simp only [SHL.app, SHL.get_set, if_neg hb]

theorem WOK1.congr {cl cl' : Nat → Bool} {x : HW × Bool} (hx : WOK1 cl x) (h : cl' x.1.blk = cl x.1.blk) : WOK1 cl' x := by
  obtain ⟨x, c⟩ := x
  cases x with
  | put b o cs =>
    intro hc
    refine hx ?_
    simp only [HW.blk] at h
    rw [← h]; exact hc
  | set b sl =>
    cases sl with
    | none => trivial
    | some sl => cases c <;> first | trivial | exact hx

theorem SHL.OK.apps_nodup : ∀ {l : List (HW × Bool)} {h : SHL}, h.OK → (l.map (·.1.blk)).Nodup → (∀ x ∈ l, WOK1 (fun b => h.cl b) x) → (l.foldl SHL.app h).OK
  | [], _, hc, _, _ => hc
  | x :: l, h, hc, hp, hx => by
    simp only [List.foldl_cons]
    simp only [List.map_cons, List.nodup_cons] at hp
    refine SHL.OK.apps_nodup (hc.app (hx x (by simp))) hp.2 fun y hy => (hx y (by simp [hy])).congr (SHL.cl_app fun e => hp.1 ?_)
    rw [← e]
    exact List.mem_map.2 ⟨y, hy, rfl⟩

theorem SHL.OK.apps {l : List (HW × Bool)} {h : SHL} (hc : h.OK) (hp : PutOK l) (hx : WOK (fun b => h.cl b) l) : (l.foldl SHL.app h).OK := by
  rcases hp with hp | hp
  · exact hc.apps_sets hp hx
  · exact hc.apps_nodup hp hx

theorem aftS_st {N : Nat} {o : Oper} {e : SE} {s : SS} (h : dstOK N o = true) : (aftS o e s).st = aft o e.eff s.st := by
  unfold aftS putO aft SS.st SE.eff
  simp only [SHL.slot_apps]
  congr 1
  funext t
  cases hd : o.dst with
  | none => rfl
  | some t0 =>
    unfold dstOK at h
    rw [hd] at h
    simp only [Bool.and_eq_true] at h
    have h2 := blt_ok h.2
    simp only [putT, upd]
    exact Tr.get_put .undef e.v 10 s.T t0 t (by omega)

theorem SS.put_st {s : SS} {t : Nat} {v : D} (h : Nat.blt t 1023 = true) (hv : s.T.get .undef t = v) : (s.put t v).st = s.st := by
  have h2 := blt_ok h
  unfold SS.put SS.st
  congr 1
  funext j
  rw [Tr.get_put .undef v 10 s.T t j (by omega)]
  split
  · rename_i e; subst e; exact hv.symm
  · rfl

end Go.Tw
end
