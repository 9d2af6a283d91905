/- The machines that run the program, closed and with open leaves: what they answer is so. -/
import Derived.Test.YtaeadcgbahaofaaGreatDoorTw27
section
namespace Go.Tw

/-! ## The machine is sound -/

theorem tiOf_ok (P : Program) : TIok P (tiOf P) := by
  refine ⟨fun t i h => ?_⟩
  unfold tiOf at h
  split at h
  · rename_i desc info h1 h2
    split at h
    · rename_i z hz
      simp only [Nat.beq_tt] at h
      by_cases hs : z.cells.size = info.size
      · simp only [hs, decide_true, cond_true, Option.some.injEq] at h
        subst h
        refine ⟨h1, info, z, h2, rfl, rfl, hz, rfl, hs, fun he => ?_⟩
        simpa using he
      · simp [hs] at h
    · cases h
  · cases h

section
def NatsOK (P : Program) (nat : Nats) : Prop := ∀ f ds v, nat f ds = some v → NatP P f ds v

variable {P : Program} {nat : Nats} {F : Orc} {N nb : Nat} {draws : Bool}

theorem stepRF_ok (hN : NatsOK P nat) (hF : OrcOK P F) {ids : Nat → Nat} {s : ES} {o : Oper} {e : Eff} (h : stepRF P nat F draws ids s o = some e) : StepR P (tiOf P) ids s.st o e := by
  unfold stepRF at h
  split at h
  · rename_i ho
    split at h
    · rename_i v hv
      cases h
      split at hv
      · rename_i f cap hf
        exact StepR.nat (s := s.st) ho rfl hf (hN _ _ _ hv)
      · cases hv
    · exact callF_ok (s := s.st) hF ho h
  · obtain ⟨v, hw, rh, wh⟩ := e
    exact @StepR.op P (tiOf P) ids s.st o v hw rh wh (opF_ok h)

theorem stepF_ok (hN : NatsOK P nat) (hF : OrcOK P F) {ops : Array Oper} {ids : Nat → Nat} {s : ES} {o : Oper} {e : Eff} (h : stepF P nat F draws ops.toList ids s o = some e) : Step P (tiOf P) ops ids s.st o e := by
  unfold stepF at h
  unfold Step
  split at h
  · rename_i hg
    try rw [hg]
    exact stepRF_ok hN hF h
  · rename_i j want hg
    try rw [hg]
    try simp only
    split at h
    · rename_i d hd
      refine ⟨d, by simpa using hd, ?_⟩
      split at h
      · rename_i b hb
        have hb' : s.st.T d = .bool b := hb
        by_cases hw : b = want
        · subst hw
          simp only [beq_self_eq_true, cond_true] at h
          exact .inl ⟨hb', stepRF_ok hN hF h⟩
        · have : (b == want) = false := by simp [hw]
          rw [this] at h
          simp only [cond_false, Option.some.injEq] at h
          refine .inr ⟨.inl ?_, h.symm⟩
          rw [hb']
          cases b <;> cases want <;> simp_all
      · rename_i hb
        cases h
        exact .inr ⟨.inr hb, rfl⟩
      · cases h
    · cases h

theorem runF_ok (hN : NatsOK P nat) (hF : OrcOK P F) {ops : Array Oper} : ∀ (os : List Oper) (k : Nat) (s : ES) (es : List Eff) (s' : ES), runF P nat F N draws ops.toList nb ops.size os k s = some (es, s') → ops.toList.drop k = os → Run P (tiOf P) N nb ops k s.st es s'.st
  | [], k, s, es, s', h, hd => by
    simp only [runF, Option.some.injEq, Prod.mk.injEq] at h
    obtain ⟨rfl, rfl⟩ := h
    exact .nil (by simpa using hd)
  | o :: os, k, s, es, s', h, hd => by
    simp only [runF] at h
    split at h
    · rename_i e he
      obtain ⟨h1, h2⟩ := guardO_some he
      split at h
      · rename_i es' s'' hr
        cases h
        have hk : ops[k]? = some o := by
          have := congrArg List.head? hd
          rw [List.head?_drop] at this; simpa using this
        have hd' : ops.toList.drop (k + 1) = os := by rw [← List.tail_drop, hd]; rfl
        refine .cons hk (fun t ht => ?_) (stepF_ok hN hF h2) ?_
        · unfold dstOK at h1
          rw [ht] at h1
          simp only [Bool.and_eq_true] at h1
          exact blt_ok h1.1
        · rw [← aftE_st h1]
          exact runF_ok hN hF os (k + 1) _ _ _ hr hd'
      · cases h
    · cases h

theorem execF_ok (hN : NatsOK P nat) (hF : OrcOK P F) {nb0 : Nat} : ∀ (k : Nat) (c : Code) (nb : Nat) (s : ES) (e : Ex) (nb' : Nat) (s' : ES), execF P nat F N k c nb s = some (e, nb', s') → Exec P (tiOf P) N nb0 c nb s.st e nb' s'.st := by
  intro k
  induction k with
  | zero => intro c nb s e nb' s' h; simp [execF] at h
  | succ k ih =>
    intro c nb s e nb' s' h
    cases c <;> simp only [execF] at h <;> (try (cases h; done))
    case skip => cases h; exact .skip
    case region id ops dr =>
      split at h
      · rename_i es s1 hr
        obtain ⟨h1, h2⟩ := guardO_some h
        cases h2
        refine .region (runF_ok hN hF _ 0 s es _ hr rfl) ?_
        simp only [Bool.or_eq_true, Bool.not_eq_true'] at h1
        refine h1.imp (fun x => x) fun h => ?_
        unfold freeB at h
        simpa using h
      · cases h
    case seq x y =>
      split at h
      · rename_i nb1 s1 hx
        exact .seq (ih x nb s _ _ _ hx) (ih y nb1 s1 _ _ _ h)
      · rename_i hne
        refine .seqX (ih x nb s _ _ _ h) fun he => ?_
        subst he
        exact hne _ _ h
    case cond c x y =>
      split at h
      · rename_i b hb
        refine .cond (b := b) hb ?_
        cases b with
        | true => exact ih x nb s _ _ _ h
        | false => exact ih y nb s _ _ _ h
      · cases h
    case block id c =>
      split at h
      · rename_i e1 nb1 s1 hc
        cases h
        exact .block (ih c nb s _ _ _ hc)
      · cases h
    case loop c =>
      split at h
      · rename_i nb1 s1 hx
        exact .loop (ih c nb s _ _ _ hx) (ih (.loop c) nb1 s1 _ _ _ h)
      · rename_i hne
        refine .loopX (ih c nb s _ _ _ h) fun he => ?_
        subst he
        exact hne _ _ h
    case exit id => cases h; exact .exit
    case ret => cases h; exact .ret

end

/-! ### The end of a function -/

theorem reach_prefix {H : Nat → Option Slot} : ∀ (k : Nat) (todo L : List Nat), ∃ M, reach H k todo L = L ++ M
  | 0, _, L => ⟨[], by simp [reach]⟩
  | k + 1, [], L => ⟨[], by simp [reach]⟩
  | k + 1, b :: todo, L => by
    simp only [reach]
    cases memN b L with
    | true => exact reach_prefix k todo L
    | false =>
      simp only [cond_false]
      cases H b with
      | none => exact reach_prefix k todo L
      | some sl =>
        simp only
        obtain ⟨M, hM⟩ := reach_prefix (H := H) k (sl.ids ++ todo) (L ++ [b])
        exact ⟨b :: M, by rw [hM]; simp⟩

theorem liveIdx_some {H : Nat → Option Slot} {L : List Nat} {b i : Nat} (h : liveIdx H L b = some i) : L[i]? = some b ∧ ∃ sl, H b = some sl := by
  unfold liveIdx at h
  split at h
  · rename_i sl hb
    have := (idxOf_some h).2
    exact ⟨by simpa using this, sl, hb⟩
  · cases h

/-- What a function gives back, renumbered. -/
theorem end_ok {k nb : Nat} {H : Nat → Option Slot} {r res : D} {outs : List (Option Slot)} (h : endF k H r = some (res, outs)) :
    (∀ b ∈ res.ids, b < outs.length) ∧ (∀ sl, some sl ∈ outs → ∀ b ∈ sl.ids, b < outs.length) ∧ k ≤ outs.length ∧
    ∀ {X : Nat → Prop} {ρ : Nat → Place} {a : Act} {w : World} {N : Nat} {T : Nat → D} {u : Value}, Rel X N (· < nb) ρ a w ⟨T, H⟩ → VR X ρ w r u → (∀ b ∈ r.ids, b < nb) →
      ∃ ρ', VR X ρ' w res u ∧ HRel X ρ' w (lst outs) ∧ Fr ρ ρ' w w ∧ Mono (· < k) ρ ρ' w w := by
  unfold endF at h
  simp only at h
  generalize hL : reach H 4096 (r.ids ++ (List.range k).flatMap (idsAt H)) (List.range k) = L at h
  obtain ⟨h1, h2⟩ := guardO_some h
  cases h2
  simp only [List.all_eq_true] at h1
  have hnd : L.Nodup := by rw [← hL]; exact reach_nodup _ _ _ List.nodup_range
  obtain ⟨M, hM⟩ := reach_prefix (H := H) 4096 (r.ids ++ (List.range k).flatMap (idsAt H)) (List.range k)
  rw [hL] at hM
  have hbase : ∀ b, b < k → L[b]? = some b := fun b hb => by
    rw [hM, List.getElem?_append_left (by simpa using hb)]
    simp [hb]
  have hkl : k ≤ L.length := by rw [hM]; simp
  let m : Nat → Nat := fun i => (L[i]?).getD 0
  let K : Nat → Bool := fun i => match L[i]? with
    | some b => (H b).isSome
    | none => false
  have hm : ∀ b i, liveIdx H L b = some i → m i = b := fun b i hi => by simp [m, (liveIdx_some hi).1]
  have hK : ∀ b i, liveIdx H L b = some i → i < L.length ∧ K i = true := fun b i hi => by
    obtain ⟨h3, sl, h4⟩ := liveIdx_some hi
    exact ⟨(List.getElem?_eq_some_iff.1 h3).1, by simp [K, h3, h4]⟩
  have hslots : ∀ i sl, lst (L.map fun b => (H b).map (Slot.mapS (liveIdx H L))) i = some sl → ∃ b sl0, L[i]? = some b ∧ H b = some sl0 ∧ sl = Slot.mapS (liveIdx H L) sl0 ∧ sl0.mapOK = true := fun i sl hi => by
    simp only [lst, List.getElem?_map] at hi
    cases hb : L[i]? with
    | none => rw [hb] at hi; simp at hi
    | some b =>
      rw [hb] at hi
      simp only [Option.map_some, Option.join_some] at hi
      cases hs : H b with
      | none => rw [hs] at hi; simp at hi
      | some sl0 =>
        rw [hs] at hi
        simp only [Option.map_some, Option.some.injEq] at hi
        have := h1 b (List.mem_of_getElem? hb)
        unfold liveOK at this
        rw [hs] at this
        exact ⟨b, sl0, rfl, hs, hi.symm, this⟩
  have hweak : ∀ (T : Nat → D), Weak k L.length m K ⟨fun t => if t = 0 then r else .undef, H⟩ ⟨fun t => if t = 0 then r.map (liveIdx H L) else .undef, lst (L.map fun b => (H b).map (Slot.mapS (liveIdx H L)))⟩ := fun T => by
    refine ⟨fun t => ?_, fun t b hb => ?_, fun b sl hb => ?_, fun b sl' hb => ?_, fun b hb hKb hn => ?_, fun b c hb hc _ _ he => ?_, fun b hb hb' _ => ?_⟩
    · simp only
      split
      · exact map_wk hm r
      · simp only [D.ren]; exact Wk.refl _
    · simp only at hb
      split at hb
      · obtain ⟨c, hc⟩ := map_ids _ _ hb
        exact hK c b hc
      · simp [D.ids] at hb
    · obtain ⟨c, sl0, h3, h4, rfl, h5⟩ := hslots b sl hb
      refine ⟨(List.getElem?_eq_some_iff.1 h3).1, by simp [K, h3, h4], fun z hz => ?_⟩
      obtain ⟨y, hy⟩ := mapS_ids h5 hz
      exact hK y z hy
    · obtain ⟨c, sl0, h3, h4, rfl, h5⟩ := hslots b sl' hb
      exact ⟨sl0, by simp [m, h3, h4], mapS_wk hm h5⟩
    · exfalso
      simp only [K] at hKb
      simp only [lst, List.getElem?_map] at hn
      cases hbL : L[b]? with
      | none => rw [hbL] at hKb; simp at hKb
      | some c =>
        rw [hbL] at hKb hn
        simp only [Option.map_some, Option.join_some] at hn hKb
        cases hc : H c with
        | none => rw [hc] at hKb; simp at hKb
        | some sl => rw [hc] at hn; simp at hn
    · simp only [m] at he
      rw [List.getElem?_eq_getElem hb, List.getElem?_eq_getElem hc] at he
      simp only [Option.getD_some] at he
      exact (List.getElem_inj hnd).1 he
    · simp [m, hbase b hb]
  refine ⟨fun b hb => ?_, fun sl hsl b hb => ?_, by simpa using hkl, fun {X ρ a w N T u} hr hu hid => ?_⟩
  · obtain ⟨c, hc⟩ := map_ids _ _ hb
    simpa using (hK c b hc).1
  · obtain ⟨i, hi⟩ := List.getElem?_of_mem hsl
    obtain ⟨c, sl0, h3, h4, rfl, h5⟩ := hslots i sl (by simp only [lst]; rw [hi]; rfl)
    obtain ⟨y, hy⟩ := mapS_ids h5 hb
    simpa using (hK y b hy).1
  · have hr0 : Rel X 1 (· < nb) ρ ⟨#[u], []⟩ w ⟨fun t => if t = 0 then r else .undef, H⟩ := by
      refine ⟨rfl, fun t => ?_, fun t b hb => ?_, hr.hids, hr.dom, hr.heap, rfl⟩
      · simp only
        split
        · rename_i ht; subst ht; exact hu
        · simp [VR]
      · simp only at hb
        split at hb
        · exact hid b hb
        · simp [D.ids] at hb
    obtain ⟨ρ', hb⟩ := weak_sound (hweak T) hr0
    refine ⟨ρ', ?_, hb.rel.heap, hb.fr, hb.mono⟩
    exact hb.rel.tmp 0

theorem resF_ok {P : Program} {s : ES} {r : ResultVar} {d : D} (h : resF (tiOf P) s r = some d) : resV (tiOf P) s.st r d := by
  cases r with
  | tmp t => simp only [resF, Option.some.injEq] at h; exact h.symm
  | cell a t =>
    simp only [resF] at h
    split at h
    · rename_i d' rh hd
      cases h
      exact ⟨rh, loadF_ok hd⟩
    · cases h

theorem resFs_ok {P : Program} {s : ES} : ∀ {rs : List ResultVar} {ds : List D}, mapO (resF (tiOf P) s) rs = some ds → resVs (tiOf P) s.st rs ds
  | [], ds, h => by simp [mapO] at h; subst h; rfl
  | r :: rs, ds, h => by
    simp only [mapO] at h
    split at h
    · rename_i d hd
      split at h
      · rename_i ds' hds
        cases h
        exact ⟨d, ds', rfl, resF_ok hd, resFs_ok hds⟩
      · cases h
    · cases h

theorem idsL_packD : ∀ {ds : List D} {b : Nat}, b ∈ (packD ds).ids → b ∈ D.idsL ds
  | [], b, h => by simpa [packD, D.ids] using h
  | [d], b, h => by simp only [packD] at h; simp [D.idsL, h]
  | d :: d' :: ds, b, h => by simpa [packD, D.ids] using h

theorem resV_ids {X : Nat → Prop} {TI : TT} {N : Nat} {U : Nat → Prop} {ρ : Nat → Place} {a : Act} {w : World} {s : St} (hr : Rel X N U ρ a w s) : ∀ {r : ResultVar} {d : D}, resV TI s r d → ∀ b ∈ d.ids, U b
  | .tmp t, d, h, b, hb => by simp only [resV] at h; subst h; exact hr.tids t b hb
  | .cell x t, d, h, b, hb => by
    obtain ⟨rh, i, hi, h⟩ := h
    have hx := hr.tmp x
    split at h
    · rename_i d' hd'
      obtain ⟨rfl, _⟩ := h
      rw [hd'] at hx
      simp only [VR] at hx
      rw [hx.1] at hb; simp at hb
    · rename_i c o hd'
      obtain ⟨cs, h1, _, h3, _⟩ := h
      exact hr.hids c _ h1 b (ids_part h3 b hb)
    · exact h.elim

theorem resVs_ids {X : Nat → Prop} {TI : TT} {N : Nat} {U : Nat → Prop} {ρ : Nat → Place} {a : Act} {w : World} {s : St} (hr : Rel X N U ρ a w s) : ∀ {rs : List ResultVar} {ds : List D}, resVs TI s rs ds → ∀ b ∈ D.idsL ds, U b
  | [], ds, h, b, hb => by simp only [resVs] at h; subst h; simp [D.idsL] at hb
  | r :: rs, ds, h, b, hb => by
    simp only [resVs] at h
    obtain ⟨d, ds', rfl, h1, h2⟩ := h
    simp only [D.idsL, List.mem_append] at hb
    exact hb.elim (resV_ids hr h1 b) (resVs_ids hr h2 b)

theorem fn_intro2 {P : Program} {TI : TT} (hT : TIok P TI) (hm : P.follows .mixedOrders = true) {f : FuncId} {fn : Func} {c : Code} {args : List D} {hin : List Slot} {ds : List D} {res : D} {outs : List (Option Slot)} {nb' : Nat} {s' : St} {e : Ex}
    (hf : P.funcs[f]? = some fn) (hb : fn.body = some c) (hname : (fn.name == "runtime.NumGoroutine") = false) (hargs : args.length ≤ fn.ntmps) (hca : ∀ b ∈ D.idsL args, b < hin.length) (hch : ∀ sl ∈ hin, ∀ b ∈ sl.ids, b < hin.length)
    (hx : Exec P TI fn.ntmps hin.length c hin.length (startS args hin) e nb' s') (he : e = .normal ∨ e = .ret) (hres : resVs TI s' fn.results.toList ds)
    (hend : ∀ {X : Nat → Prop} {ρ : Nat → Place} {a : Act} {w : World} {N : Nat} {T : Nat → D} {u : Value}, Rel X N (· < nb') ρ a w ⟨T, s'.H⟩ → VR X ρ w (packD ds) u → (∀ b ∈ (packD ds).ids, b < nb') →
      ∃ ρ', VR X ρ' w res u ∧ HRel X ρ' w (lst outs) ∧ Fr ρ ρ' w w ∧ Mono (· < hin.length) ρ ρ' w w) : Fn P f args hin res outs := by
  refine ⟨⟨fn, hf, by simp [hb], hname⟩, fun X ρ w vs hv hh => ?_⟩
  obtain ⟨_, hgo, _⟩ := exec_sound hT hm hx (Nat.le_refl _)
  have hl := VRs_length hv
  refine calls_of_wp hf hb (hgo X ρ _ w _ ?_ fun a' w' ρ' hbeh => ?_)
  · refine ⟨by simp; omega, fun t => ?_, fun t b hb => ?_, fun b sl hb c hc => hch sl (List.mem_of_getElem? hb) c hc, fun b hb => ?_, hh, rfl⟩
    · show VR X ρ w (startT args t) _
      unfold startT
      cases ht : args[t]? with
      | none => simp [VR]
      | some d =>
        obtain ⟨v, h1, h2⟩ := VRs_get hv t d ht
        have hlt : t < vs.length := (List.getElem?_eq_some_iff.1 h1).1
        have : (vs.toArray ++ Array.replicate (fn.ntmps - vs.toArray.size) undef).getD t undef = v := by
          simp only [Array.getD_eq_getD_getElem?]
          rw [Array.getElem?_append_left (by simpa using hlt)]
          simp [h1]
        rw [this]; exact h2
    · have hb : b ∈ (startT args t).ids := hb
      unfold startT at hb
      cases ht : args[t]? with
      | none => rw [ht] at hb; simp [D.ids] at hb
      | some d => rw [ht] at hb; exact hca b (idsL_mem (List.mem_of_getElem? ht) hb)
    · cases hp : ρ b with
      | none => exact absurd hp hb
      | nil => exact (List.getElem?_eq_some_iff.1 (hh.nil b hp)).1
      | row g => obtain ⟨sl, h1, _⟩ := hh.row b g hp; exact (List.getElem?_eq_some_iff.1 h1).1
  · obtain ⟨v, h1, h2⟩ := run_results hT hbeh.rel hres
    have hids : ∀ b ∈ (packD ds).ids, b < nb' := fun b hb => resVs_ids hbeh.rel hres b (idsL_packD hb)
    obtain ⟨ρ'', h3, h4, h5, h6⟩ := hend (T := s'.T) (a := a') hbeh.rel h2 hids
    have hR : ∃ u ρ', Ending.returned v = .returned u ∧ VR X ρ' w' res u ∧ HRel X ρ' w' (lst outs) ∧ Fr ρ ρ' w w' ∧ Mono (fun i => i < hin.length) ρ ρ' w w' :=
      ⟨v, ρ'', rfl, h3, h4, hbeh.fr.trans h5, hbeh.mono.trans h6 fun _ h => h⟩
    rcases he with rfl | rfl
    · exact ⟨hbeh.rel.defers, v, h1, hR⟩
    · exact ⟨hbeh.rel.defers, v, h1, hR⟩

/-! ### The whole machine -/

theorem callE_ok {P : Program} (hm : P.follows .mixedOrders = true) {nat : Nats} (hN : NatsOK P nat) {lib : Orc} (hl : OrcOK P lib) {fuel : Nat} : ∀ k, OrcOK P (callE P nat lib fuel k) := by
  intro k
  induction k with
  | zero => intro f args hin res outs h; simp [callE] at h
  | succ k ih =>
    intro f args hin res outs h hca hch
    simp only [callE] at h
    split at h
    · rename_i r hr
      cases h
      exact hl f args hin res outs hr hca hch
    · split at h
      · rename_i fn hfn
        split at h
        · rename_i c hc
          split at h
          · rename_i e nb' s hex
            obtain ⟨h1, h2⟩ := guardO_some hex
            simp only [Bool.and_eq_true, Bool.not_eq_true'] at h1
            split at h
            · rename_i ds hds
              obtain ⟨hcr, hco, hle, hend⟩ := end_ok (nb := nb') h
              have hT := tiOf_ok P
              have hx := execF_ok (nb0 := hin.length) hN ih _ _ _ _ _ _ _ h2
              rw [start_st (ble_ok h1.1.2)] at hx
              obtain ⟨hdone, hds⟩ := guardO_some hds
              have hres := resFs_ok hds
              exact ⟨fn_intro2 hT hm hfn hc h1.2 (ble_ok h1.1.1) hca hch hx (by cases e <;> simp_all [Ex.done]) hres hend, ⟨hca, hch, hcr, hco, hle⟩⟩
            · cases h
          · cases h
        · cases h
      · cases h

end Go.Tw
end
