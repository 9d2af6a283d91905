/- The machines that run the program, closed and with open leaves: what they answer is so. -/
import Derived.Test.YtaeadcgbahaofaaGreatDoorTw39
section
namespace Go.Tw

/-! ## The symbolic machine is sound: functions, loops by a model -/

theorem resS_ok {TI : TT} {s : SS} {r : ResultVar} {nd : List Bool} {d : D} (h : resS TI s r = some (nd, d)) (hn : AllT nd) : resV TI s.st r d := by
  cases r with
  | tmp t => simp only [resS, Option.some.injEq, Prod.mk.injEq] at h; exact h.2.symm
  | cell a t =>
    simp only [resS] at h
    split at h
    · rename_i e he
      cases h
      exact ⟨e.rh, (loadS_ok he hn).1⟩
    · cases h

theorem resL_ok {TI : TT} {s : SS} : ∀ {rs : List ResultVar} {nd : List Bool} {ds : List D}, resL TI s rs = some (nd, ds) → AllT nd → resVs TI s.st rs ds
  | [], nd, ds, h, _ => by cases h; rfl
  | r :: rs, nd, ds, h, hn => by
    simp only [resL] at h
    split at h
    · rename_i nd1 d hd
      split at h
      · rename_i nd2 ds2 hds
        cases h
        have := AllT.append.1 hn
        exact ⟨d, ds2, rfl, resS_ok hd this.1, resL_ok hds this.2⟩
      · cases h
    · cases h

theorem outSlots_of (hin : List FS) : ∀ (outs : List (Option FS)) (i : Nat), outSlots hin (outs.map outOf) i = outs.map fun x => x.map (·.2)
  | [], _ => rfl
  | none :: os, i => by simp [outOf, outSlots, outSlots_of hin os (i + 1)]
  | some (c, sl) :: os, i => by simp [outOf, outSlots, outSlots_of hin os (i + 1)]

theorem lst_slotsF (outs : List (Option FS)) : lst (outs.map fun x => x.map (·.2)) = slotsF outs := by
  funext i
  simp only [lst, slotsF, List.getElem?_map]
  cases outs[i]? with
  | none => rfl
  | some x => cases x <;> rfl

section
variable {P : Program} {nat : Nats} {F : SOrc} {LP : LOrc} {hint : Hint} {R : Type}

theorem startS_st {args : List D} {hin : List FS} (h : args.length ≤ 1000) : (SS.mk (startE args 0 .lf) (startH (hin.map some) 0)).st = startS args (hin.map (·.2)) := by
  unfold SS.st startS
  congr 1
  · funext t
    rw [startE_get args 0 .lf t (by omega)]
    simp only [Nat.zero_le, true_and, Nat.zero_add, Nat.sub_zero, startT]
    split
    · rfl
    · rename_i ht
      rw [List.getElem?_eq_none (by omega)]; rfl
  · funext b
    rw [startH_slot]
    simp only [slotsF, List.getElem?_map]
    cases hin[b]? <;> rfl

theorem bodyC_ok (hm : P.follows .mixedOrders = true) (hN : NatsOK P nat) (hF : SOrcOK P F) {f : FuncId} {fn : Func} {c : Code} (hf : P.funcs[f]? = some fn) (hb : fn.body = some c) {args : List D} {hin : List FS} (hi : InOK args hin)
    (hL : ∀ c' ∈ loopsIn c, LGood P LP hint fn.ntmps hin.length c') {fuel : Nat} {κ : D → List OutS → Option R} {r : R} (h : bodyC P nat F LP hint fuel fn c args hin κ = some r) :
    ∃ res outs, Fn P f args (hin.map (·.2)) res (outSlots hin outs 0) ∧ ClosedC args (hin.map (·.2)) res (outSlots hin outs 0) ∧ OutsClo outs ∧ κ res outs = some r := by
  unfold bodyC at h
  obtain ⟨h1, h2⟩ := bif_some h
  simp only [Bool.and_eq_true, Bool.not_eq_true'] at h1
  have hT := tiOf_ok P
  have hs0 : (startH (hin.map some) 0).OK := startH_OK fun x hx hx1 => hi.clo x (by simpa using hx) hx1
  obtain ⟨e, nb, s, h3, h4, h5⟩ := execC_ok hN hF fuel c hin.length _ _ r hL hs0 h2
  rw [startS_st (ble_ok h1.1.2)] at h3
  unfold finC at h5
  obtain ⟨hdone, h6⟩ := bif_some h5
  obtain ⟨s1, nb1, h7, h8, h9⟩ := normC_ok (N := fn.ntmps) (nb0 := hin.length) h4 h6
  have hx := Exec.semR h3 h7
  split at h9
  · rename_i nd ds hds
    obtain ⟨h10, h11⟩ := needs_some h9
    have hres := resL_ok hds h10
    split at h11
    · rename_i res outs hend
      obtain ⟨g, rfl, h12, h13, h14, h15, m, K, hw⟩ := endG_ok h8 hend
      have hlen : (hin.map (·.2)).length = hin.length := by simp
      refine ⟨(packD ds).map g, outs.map outOf, ?_, ?_, fun sl hsl => ?_, h11⟩
      · rw [outSlots_of]
        refine fn_intro2 hT hm hf hb h1.2 (ble_ok h1.1.1) (fun b hb => ?_) (fun sl hsl b hb => ?_) (by rw [hlen]; exact hx) (by cases e <;> simp_all [Ex.done]) hres fun {X ρ a w N T u} hr hu hid => ?_
        · rw [hlen]; exact hi.ia b hb
        · rw [hlen]
          obtain ⟨x, hx, rfl⟩ := List.mem_map.1 hsl
          exact hi.ih x hx b hb
        · have hr0 : Rel X 1 (· < nb1) ρ ⟨#[u], []⟩ w ⟨fun t => if t = 0 then packD ds else .undef, fun b => s1.H.slot b⟩ := by
            refine ⟨rfl, fun t => ?_, fun t b hb => ?_, hr.hids, hr.dom, hr.heap, rfl⟩
            · simp only
              split
              · rename_i ht; subst ht; exact hu
              · simp [VR]
            · simp only at hb
              split at hb
              · exact hid b hb
              · simp [D.ids] at hb
          obtain ⟨ρ', hbeh⟩ := weak_sound (hw (fun t => if t = 0 then packD ds else .undef) (fun t => if t = 0 then (packD ds).map g else .undef) fun t => by
            by_cases ht : t = 0
            · simp [ht]
            · simp [ht]) hr0
          rw [lst_slotsF]
          refine ⟨ρ', hbeh.rel.tmp 0, hbeh.rel.heap, hbeh.fr, ?_⟩
          rw [hlen]; exact hbeh.mono
      · rw [outSlots_of]
        refine ⟨fun b hb => by rw [hlen]; exact hi.ia b hb, fun sl hsl b hb => ?_, fun b hb => ?_, fun sl hsl b hb => ?_, by simp; exact h14⟩
        · rw [hlen]
          obtain ⟨x, hx, rfl⟩ := List.mem_map.1 hsl
          exact hi.ih x hx b hb
        · obtain ⟨c', hc'⟩ := map_ids _ _ hb
          simpa using h15 c' b hc'
        · obtain ⟨x, hx, he⟩ := List.mem_map.1 hsl
          cases x with
          | none => cases he
          | some x =>
            simp only [Option.map_some, Option.some.injEq] at he
            subst he
            simpa using h12 x hx b hb
      · obtain ⟨x, hx, he⟩ := List.mem_map.1 hsl
        cases x with
        | none => cases he
        | some x =>
          obtain ⟨c', sl'⟩ := x
          simp only [outOf, OutS.set.injEq] at he
          obtain ⟨rfl, rfl⟩ := he
          exact h13 _ hx rfl
    · cases h11
  · cases h9

end

/-- Every loop's contracts hold. -/
def LPOK (P : Program) (LP : FuncId → LOrc) (hint : FuncId → Hint) : Prop :=
  ∀ f fn c, P.funcs[f]? = some fn → fn.body = some c → ∀ k0, ∀ c' ∈ loopsIn c, LGood P (LP f) (hint f) fn.ntmps k0 c'

theorem callS_ok {P : Program} (hm : P.follows .mixedOrders = true) {nat : Nats} (hN : NatsOK P nat) {lib : SOrc} (hl : SOrcOK P lib) {LP : FuncId → LOrc} {hint : FuncId → Hint} (hLP : LPOK P LP hint) {fuel : Nat} : ∀ k, SOrcOK P (callS P nat lib LP hint fuel k) := by
  intro k
  induction k with
  | zero => intro f args hin φ h; simp [callS] at h
  | succ k ih =>
    intro f args hin φ h hi
    simp only [callS] at h
    split at h
    · rename_i φ' hφ
      cases h
      exact hl f args hin φ hφ hi
    · split at h
      · rename_i fn hfn
        split at h
        · rename_i c hc
          cases h
          intro R κ r hr
          exact bodyC_ok hm hN ih hfn hc hi (hLP f fn c hfn hc hin.length) hr
        · cases h
      · cases h

/-! ### Contracts by a model -/

section
variable {P : Program} {nat : Nats} {F : SOrc} {LP : LOrc} {hint : Hint} {N k0 : Nat} {β : Type}

/-- A function's contract: where the model answers, so does the function. -/
def MOK (P : Program) (f : FuncId) (M : List D → List FS → Option β) (emb : β → D × List OutS) : Prop :=
  ∀ a h y, M a h = some y → InOK a h → Fn P f a (h.map (·.2)) (emb y).1 (outSlots h (emb y).2 0) ∧ ClosedC a (h.map (·.2)) (emb y).1 (outSlots h (emb y).2 0) ∧ OutsClo (emb y).2

theorem MOK_step (hm : P.follows .mixedOrders = true) (hN : NatsOK P nat) (hF : SOrcOK P F) {f : FuncId} {fn : Func} {c : Code} (hf : P.funcs[f]? = some fn) (hb : fn.body = some c)
    (hL : ∀ k0, ∀ c' ∈ loopsIn c, LGood P LP hint fn.ntmps k0 c') {fuel : Nat} {M : List D → List FS → Option β} {emb : β → D × List OutS} {proj : D → List OutS → Option β}
    (hproj : ∀ res outs y, proj res outs = some y → emb y = (res, outs))
    (hstep : ∀ a h y, M a h = some y → bodyC P nat F LP hint fuel fn c a h proj = some y) : MOK P f M emb := by
  intro a h y hy hi
  obtain ⟨res, outs, h1, h2, h3, h4⟩ := bodyC_ok hm hN hF hf hb hi (hL h.length) (hstep a h y hy)
  have := hproj res outs y h4
  rw [this]
  exact ⟨h1, h2, h3⟩

theorem MOK_cont {f : FuncId} {M : List D → List FS → Option β} {emb : β → D × List OutS} (hM : MOK P f M emb) {a : List D} {h : List FS} (hi : InOK a h) : ContOK P f a h (fun _ κ => (M a h).bind fun y => κ (emb y).1 (emb y).2) := by
  intro R κ r hr
  cases hy : M a h with
  | none => rw [hy] at hr; cases hr
  | some y =>
    rw [hy] at hr
    obtain ⟨h1, h2, h3⟩ := hM a h y hy hi
    exact ⟨_, _, h1, h2, h3, hr⟩

/-- A loop by a model of its rounds. -/
theorem loop_model (hN : NatsOK P nat) (hF : SOrcOK P F) {c : Code} (hL : ∀ c' ∈ loopsIn c, LGood P LP hint N k0 c') {lv : List Nat} {nz : List (Nat × Option Nat × Nz)} {fuel : Nat}
    {M : Nat → List D → List (Option FS) → Option β} {emb : β → Ex × Nat × SS} {κx : Ex → Nat → SS → Option β}
    (hx : ∀ e nb s y, s.H.OK → κx e nb s = some y → SemW N k0 nb (emb y).2.1 s.st (emb y).2.2.st ∧ (emb y).2.2.H.OK ∧ e = (emb y).1)
    (h0 : ∀ a h, M 0 a h = none)
    (hstep : ∀ n a h y, M (n + 1) a h = some y → execC P nat F LP hint N k0 fuel c h.length (startL lv a h) (fun e nb s => match e with
      | .normal => normC nz s nb fun s _ => match canonS k0 lv s with
        | some (a', h') => M n a' h'
        | none => none
      | .exit i => κx (.exit i) nb s
      | .ret => κx .ret nb s) = some y) :
    ∀ n a h y, M n a h = some y → InL k0 a h → Exec P (tiOf P) N k0 (.loop c) h.length (startL lv a h).st (emb y).1 (emb y).2.1 (emb y).2.2.st ∧ (emb y).2.2.H.OK := by
  intro n
  induction n with
  | zero => intro a h y hy; rw [h0] at hy; cases hy
  | succ n ih =>
    intro a h y hy hi
    obtain ⟨e, nb, s, h1, h2, h3⟩ := execC_ok hN hF fuel c h.length _ _ y hL (startH_OK hi.clo) (hstep n a h y hy)
    split at h3
    · obtain ⟨s1, nb1, h4, h5, h6⟩ := normC_ok (N := N) (nb0 := k0) h2 h3
      split at h6
      · rename_i a' h' hcan
        obtain ⟨h7, h8⟩ := canonS_ok (N := N) (nb := nb1) h5 hcan
        obtain ⟨h9, h10⟩ := ih a' h' y h6 h8
        exact ⟨.loop h1 (.sem (h4.trans h7) h9), h10⟩
      · cases h6
    · obtain ⟨h4, h5, h6⟩ := hx _ nb s y h2 h3
      rw [← h6]
      exact ⟨.semR (.loopX h1 (by simp)) h4, h5⟩
    · obtain ⟨h4, h5, h6⟩ := hx _ nb s y h2 h3
      rw [← h6]
      exact ⟨.semR (.loopX h1 (by simp)) h4, h5⟩

/-- The states in which a loop is left. -/
theorem outC_ok {nz : List (Nat × Option Nat × Nz)} {ov : List Nat} {proj : Ex → List D → List (Option FS) → Option β} {emb : β → Ex × Nat × SS}
    (hproj : ∀ e vs outs y, proj e vs outs = some y → emb y = (e, outs.length, startL ov vs outs)) :
    ∀ e nb s y, s.H.OK → (normC nz s nb fun s _ => match canonS k0 ov s with | some (vs, outs) => proj e vs outs | none => none) = some y → SemW N k0 nb (emb y).2.1 s.st (emb y).2.2.st ∧ (emb y).2.2.H.OK ∧ e = (emb y).1 := by
  intro e nb s y hs h
  obtain ⟨s1, nb1, h4, h5, h6⟩ := normC_ok (N := N) (nb0 := k0) hs h
  split at h6
  · rename_i vs outs hcan
    obtain ⟨h7, h8⟩ := canonS_ok (N := N) (nb := nb1) h5 hcan
    have := hproj e vs outs y h6
    rw [this]
    exact ⟨h4.trans h7, startH_OK h8.clo, rfl⟩
  · cases h6

end

end Go.Tw
end
