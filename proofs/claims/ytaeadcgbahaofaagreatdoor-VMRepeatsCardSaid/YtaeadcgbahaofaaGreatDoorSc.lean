/- The twin: its runs, with loops, are sound. -/
import Derived.Test.YtaeadcgbahaofaaGreatDoorSb
import Derived.Orders
import Derived.LoopN
section
namespace Go.Tw
variable {X : Nat → Prop}

/-- What an operation, or a call, may leave. -/
structure SokW (X : Nat → Prop) (U Wd : Nat → Prop) (ρ : Nat → Place) (w : World) (H' : Nat → Option Slot) (v : D) (u : Value) (ρ' : Nat → Place) (w' : World) : Prop where
  val : VR X ρ' w' v u
  mono : Mono U ρ ρ' w w'
  heap : HRel X ρ' w' H'
  fr : Fr ρ ρ' w w'
  dom : ∀ b, ρ' b ≠ .none → U b ∨ Wd b
  vids : ∀ b ∈ v.ids, U b ∨ Wd b
  hids : ∀ b sl, H' b = some sl → ∀ c ∈ sl.ids, U c ∨ Wd c

/-- How an operation is run: whatever it leaves, the rest goes on. -/
def OpW (X : Nat → Prop) (P : Program) (o : Oper) (a : Act) (U Wd : Nat → Prop) (ρ : Nat → Place) (w : World) (H' : Nat → Option Slot) (v : D) : Prop :=
  ∀ (K : Act → World → Prop) (Q : Exit → Act → World → Prop), (∀ u w' ρ', SokW X U Wd ρ w H' v u ρ' w' → K (a.put o.dst u) w') → o.wp P a w K Q

section
variable {P : Program} {TI : TT} {o : Oper} {a : Act} {U : Nat → Prop} {ρ : Nat → Place} {w : World} {H : Nat → Option Slot} {ev : Operand → D} {ids : Nat → Nat}

theorem opW_of_good {nid : Nat} {v : D} {hw : List HW} {Wd : Nat → Prop} (hW : Wd nid) (h : OpGood X P o a U ρ w H nid v hw) : OpW X P o a U Wd ρ w (apps H hw) v := by
  intro K Q hK
  obtain ⟨n, u, w', ρ', hr, hn, hs, h1, h2⟩ := h
  have hk := hK u w' ρ' ⟨hs.val, hs.mono, hs.heap, hs.fr, fun b hb => (hs.dom b hb).imp id (fun e => by rw [e]; exact hW), fun b hb => (h1 b hb).imp id (fun e => by rw [e]; exact hW), fun b sl hb c hc => (h2 b sl hb c hc).imp id (fun e => by rw [e]; exact hW)⟩
  unfold Oper.wp
  rw [hr]
  rcases hn with rfl | ⟨rfl, rfl⟩ <;> exact hk

theorem muOf_lt {L : List Nat} {i : Nat} (h : i < L.length) : muOf L ids i = L[i] := by simp [muOf, h]
theorem muOf_ge {L : List Nat} {i : Nat} (h : ¬ i < L.length) : muOf L ids i = ids (i - L.length) := by simp [muOf, List.getElem?_eq_none (Nat.le_of_not_lt h)]

theorem call_sound (c : Ctx X P TI a U ρ w H ev) (hids : ∀ j, ¬ U (ids j)) (hinj : ∀ i j, ids i = ids j → i = j) {cl : Call} {x : Operand} {f : FuncId} {cap : List D} {L : List Nat} {args : List D} {hin : List Slot} {res : D} {outs : List (Option Slot)} {wm : Nat → WM}
    (ho : o.op = .call cl) (hc : CallI P ids ev H cl x f cap L args hin res outs wm) :
    OpW X P o a U (fun b => ∃ j, L.length + j < outs.length ∧ b = ids j) ρ w (apps H ((List.range outs.length).flatMap (hwOf (muOf L ids) L wm outs))) (res.ren (muOf L ids)) := by
  intro K Q hK
  generalize hμ : muOf L ids = μ at hK
  have hμlt : ∀ i (h : i < L.length), μ i = L[i] := fun i h => by rw [← hμ]; exact muOf_lt h
  have hμge : ∀ i, ¬ i < L.length → μ i = ids (i - L.length) := fun i h => by rw [← hμ]; exact muOf_ge h
  have hlive : ∀ i (h : i < L.length), ∃ sl sl', H L[i] = some sl ∧ hin[i]? = some sl' ∧ SlotWk (sl'.ren μ) sl := fun i h => by
    have hi : i < hin.length := by rw [hc.len]; exact h
    obtain ⟨sl, h1, h2⟩ := hc.blocks i hin[i] (by simp [hi])
    rw [hμ] at h1 h2
    rw [hμlt i h] at h1
    exact ⟨sl, hin[i], h1, by simp [hi], h2⟩
  have hLU : ∀ i (h : i < L.length), U L[i] := fun i h => by
    obtain ⟨sl, _, h1, _⟩ := hlive i h
    exact c.wh.dom _ (c.h.live _ sl h1)
  have hμinj : ∀ i j, μ i = μ j → i = j := by
    intro i j hij
    by_cases h1 : i < L.length <;> by_cases h2 : j < L.length
    · rw [hμlt i h1, hμlt j h2] at hij
      exact (List.getElem_inj hc.nodup).1 hij
    · rw [hμlt i h1, hμge j h2] at hij
      exact absurd (hij ▸ hLU i h1) (hids _)
    · rw [hμge i h1, hμlt j h2] at hij
      exact absurd (hij ▸ hLU j h2) (hids _)
    · rw [hμge i h1, hμge j h2] at hij
      have := hinj _ _ hij; omega
  -- the callee's numbering
  let ρc : Nat → Place := fun i => if i < L.length then ρ (μ i) else .none
  let X' : Nat → Prop := fun g => X g ∨ ∃ b, (∀ i, i < L.length → μ i ≠ b) ∧ ρ b = .row g
  have hρc : ∀ i, i < L.length → ρc i = ρ (μ i) := fun i h => by simp [ρc, h]
  have hρc' : ∀ i, ¬ i < L.length → ρc i = .none := fun i h => by simp [ρc, h]
  have tr : Trans X X' ρ ρc w μ (fun i => i < L.length) := by
    refine ⟨hρc, fun g hx hi => ⟨?_, hi.1, fun i => ?_⟩⟩
    · rintro (h | ⟨b, _, h⟩)
      · exact hx h
      · exact hi.2 b h
    · by_cases h : i < L.length
      · rw [hρc i h]; exact hi.2 _
      · rw [hρc' i h]; simp
  obtain ⟨⟨fn, hf1, hf2, hf3⟩, hspec⟩ := hc.fnc
  -- the arguments
  obtain ⟨vf, hvf, hcapv⟩ : ∃ vs : List Value, a.eval x = .func (.func f) #[] vs.toArray ∧ VRs X ρ w cap vs := by
    have := c.E x
    rw [hc.fn] at this
    simpa only [VR] using this
  have hargs : VRs X' ρc w args (cl.args.toList.map a.eval ++ vf) := by
    refine VRs_in tr args _ (fun b hb => by rw [← hc.len]; exact hc.closed.cargs b hb) ?_
    rw [← hμ]
    exact hc.wargs.VRs (VRs_append (VRs_map c cl.args.toList) hcapv)
  have hheap : HRel X' ρc w (fun i => hin[i]?) := by
    refine ⟨fun i g hg => ?_, fun i hi => ?_, fun i sl hi => ?_, fun i j g h1 h2 => ?_, fun i g hg => ?_, fun g hg => ?_, fun g d hg => VR_in tr _ _ (fun b hb => by simp [D.ids] at hb) (by rw [ren_closed _ _ (by simp [D.ids])]; exact c.h.globs g d hg)⟩
    · by_cases h : i < L.length
      · rw [hρc i h, hμlt i h] at hg
        obtain ⟨sl, sl', h1, h2, h3⟩ := hlive i h
        obtain ⟨sl0, h4, h5⟩ := c.h.row _ _ hg
        rw [h1] at h4; cases h4
        refine ⟨sl', h2, slot_in tr sl' (fun b hb => ?_) (slot_wk h3 h5)⟩
        rw [← hc.len]; exact hc.closed.chin sl' (List.mem_of_getElem? h2) b hb
      · rw [hρc' i h] at hg; cases hg
    · by_cases h : i < L.length
      · rw [hρc i h, hμlt i h] at hi
        obtain ⟨sl, sl', h1, h2, h3⟩ := hlive i h
        have h4 := c.h.nil _ hi
        rw [h1] at h4; cases h4
        cases sl' with
        | cells cs =>
          simp only [Slot.ren, SlotWk, List.take_nil] at h3
          have h5 := WkL.length h3
          rw [renL_eq] at h5; simp at h5
          show hin[i]? = _
          rw [h2, h5]
        | map es => simp [Slot.ren, SlotWk] at h3
      · rw [hρc' i h] at hi; cases hi
    · have hi' : i < L.length := by rw [← hc.len]; exact (List.getElem?_eq_some_iff.1 hi).1
      rw [hρc i hi', hμlt i hi']
      obtain ⟨sl', _, h1, _⟩ := hlive i hi'
      exact c.h.live _ _ h1
    · by_cases hi : i < L.length <;> by_cases hj : j < L.length
      · rw [hρc i hi] at h1; rw [hρc j hj] at h2
        exact hμinj i j (c.h.inj _ _ g h1 h2)
      · rw [hρc' j hj] at h2; cases h2
      · rw [hρc' i hi] at h1; cases h1
      · rw [hρc' i hi] at h1; cases h1
    · by_cases hi : i < L.length
      · rw [hρc i hi] at hg
        rintro (h | ⟨b, hb, h⟩)
        · exact c.h.clear _ g hg h
        · exact hb i hi (c.h.inj _ _ g hg h)
      · rw [hρc' i hi] at hg; cases hg
    · rcases hg with h | ⟨b, _, h⟩
      · exact c.h.avoid g h
      · exact row_lt c.h h
  have hcall := hspec X' ρc w _ hargs hheap
  have hrun : (execOp a.eval o).run P w = .ok (.enter f (cl.args.toList.map a.eval ++ vf).toArray) w := by
    unfold execOp
    have e2 : cl.args.map a.eval ++ vf.toArray = (cl.args.toList.map a.eval ++ vf).toArray := by apply Array.ext'; simp
    have hbn : fn.body.isNone = false := by cases hb : fn.body <;> simp_all
    simp only [ho, resolve, hc.callee, hvf, Deferred.ofValue, Sem.run_bind, Sem.run_pure, Result.andThen_ok, invoke, Array.empty_append, e2, callFunc, run_program, hf1, hf3, hbn, Bool.false_eq_true, if_false]
  unfold Oper.wp
  rw [hrun]
  refine hcall.mono fun e w' ⟨u, ρ'c, he, hu, hheap', hfr, hmono⟩ => ?_
  subst he
  show K (a.put o.dst u) w'
  -- the caller's numbering
  have hex : ∀ b, Decidable (∃ i, μ i = b) := fun b => Classical.propDecidable _
  let ρ' : Nat → Place := fun b => if ∃ i, μ i = b then ρ'c (Classical.epsilon fun i => μ i = b) else ρ b
  have hρ' : ∀ i, ρ' (μ i) = ρ'c i := fun i => by
    have hexi : ∃ j, μ j = μ i := ⟨i, rfl⟩
    have : (Classical.epsilon fun j => μ j = μ i) = i := hμinj _ _ (Classical.epsilon_spec hexi)
    simp only [ρ', if_pos hexi, this]
  have hρo : ∀ b, (∀ i, μ i ≠ b) → ρ' b = ρ b := fun b hb => by
    have : ¬ ∃ i, μ i = b := fun ⟨i, h⟩ => hb i h
    simp only [ρ', if_neg this]
  have hρn : ∀ i, ¬ i < outs.length → ρ'c i = .none := fun i hi => by
    cases hp : ρ'c i with
    | none => rfl
    | nil => have := hheap'.nil i hp; simp [lst, List.getElem?_eq_none (Nat.le_of_not_lt hi)] at this
    | row g => obtain ⟨sl, h1, _⟩ := hheap'.row i g hp; simp [lst, List.getElem?_eq_none (Nat.le_of_not_lt hi)] at h1
  have hcase : ∀ b, (∃ i, μ i = b) ∨ (∀ i, μ i ≠ b) := fun b => by
    by_cases h : ∃ i, μ i = b
    · exact .inl h
    · exact .inr fun i hi => h ⟨i, hi⟩
  have hUb : ∀ i, U (μ i) → i < L.length := fun i hi => by
    rcases Nat.lt_or_ge i L.length with h | h
    · exact h
    · exact absurd (hμge i (by omega) ▸ hi) (hids _)
  have hfree : ∀ b g, (∀ i, μ i ≠ b) → ρ b = .row g → Im ρc w g := fun b g hb hg => by
    refine ⟨row_lt c.h hg, fun i => ?_⟩
    by_cases h : i < L.length
    · rw [hρc i h]; intro h2; exact hb i (c.h.inj _ _ g h2 hg)
    · rw [hρc' i h]; simp
  have him : ∀ g, Im ρ w g → Im ρ' w' g ∧ w'.heap[g]? = w.heap[g]? := fun g hg => by
    have hgc := (tr.im g · hg)
    have hIc : Im ρc w g := ⟨hg.1, fun i => by
      by_cases h : i < L.length
      · rw [hρc i h]; exact hg.2 _
      · rw [hρc' i h]; simp⟩
    refine ⟨⟨Nat.lt_of_lt_of_le hg.1 hfr.size, fun b => ?_⟩, hfr.keep g hIc⟩
    rcases hcase b with ⟨i, rfl⟩ | hb
    · rw [hρ' i]; exact hfr.im g hIc i
    · rw [hρo b hb]; exact hg.2 b
  have m : Mono U ρ ρ' w w' := by
    refine ⟨fun b hb hne => ?_, him, fun b g cur e hb h1 h2 => ?_⟩
    · rcases hcase b with ⟨i, rfl⟩ | hb'
      · have hi := hUb i hb
        rw [hρ' i] at hne ⊢
        rw [← hρc i hi]
        exact hmono.back i (by show i < hin.length; rw [hc.len]; exact hi) hne
      · exact (hρo b hb').symm
    · rcases hcase b with ⟨i, rfl⟩ | hb'
      · have hi := hUb i hb
        rw [hρ' i] at h1
        exact hmono.row i g cur e (by show i < hin.length; rw [hc.len]; exact hi) h1 h2
      · rw [hρo b hb'] at h1
        exact ⟨cur, (hfr.keep g (hfree b g hb' h1)).trans h2, rfl⟩
  have bk : Back X X' ρ' ρ'c w' μ (fun i => i < outs.length) := by
    refine ⟨fun i _ => (hρ' i).symm, fun g hx hi => ⟨fun h => hx (.inl h), hi.1, fun b => ?_⟩⟩
    rcases hcase b with ⟨i, rfl⟩ | hb
    · rw [hρ' i]; exact hi.2 i
    · rw [hρo b hb]; intro h; exact hx (.inr ⟨b, fun i _ => hb i, h⟩)
  have happs : ∀ b, apps H ((List.range outs.length).flatMap (hwOf μ L wm outs)) b = if ∃ i, i < outs.length ∧ μ i = b then (lst outs (Classical.epsilon fun i => i < outs.length ∧ μ i = b)).map (Slot.ren μ) else H b :=
    apps_call (fun i j _ _ => hμinj i j) (fun i hi => by have := hc.modes i hi; rw [hμ] at this; exact this) outs.length (Nat.le_refl _)
  have hap1 : ∀ i, i < outs.length → apps H ((List.range outs.length).flatMap (hwOf μ L wm outs)) (μ i) = (lst outs i).map (Slot.ren μ) := fun i hi => by
    have hexi : ∃ j, j < outs.length ∧ μ j = μ i := ⟨i, hi, rfl⟩
    rw [happs, if_pos hexi]
    have : (Classical.epsilon fun j => j < outs.length ∧ μ j = μ i) = i := hμinj _ _ (Classical.epsilon_spec hexi).2
    rw [this]
  have hap2 : ∀ b, (∀ i, μ i ≠ b) → apps H ((List.range outs.length).flatMap (hwOf μ L wm outs)) b = H b := fun b hb => by
    rw [happs, if_neg]; rintro ⟨i, _, h⟩; exact hb i h
  have hap3 : ∀ i, ¬ i < outs.length → H (μ i) = none ∧ apps H ((List.range outs.length).flatMap (hwOf μ L wm outs)) (μ i) = H (μ i) := fun i hi => by
    have hiL : ¬ i < L.length := by have := hc.closed.le; rw [hc.len] at this; omega
    refine ⟨?_, ?_⟩
    · have := not_live c.h c.wh (nid := μ i) (by rw [hμge i hiL]; exact hids _)
      exact this.2
    · rw [happs, if_neg]; rintro ⟨j, hj, h⟩; have := hμinj _ _ h; omega
  have hslids : ∀ i sl, lst outs i = some sl → ∀ b ∈ sl.ids, b < outs.length := fun i sl h b hb => by
    have hm : some sl ∈ outs := by
      simp only [lst] at h
      cases hh : outs[i]? with
      | none => rw [hh] at h; simp at h
      | some y => rw [hh] at h; simp at h; subst h; exact List.mem_of_getElem? hh
    exact hc.closed.couts sl hm b hb
  have hUW : ∀ i, i < outs.length → U (μ i) ∨ ∃ j, L.length + j < outs.length ∧ μ i = ids j := fun i hi => by
    by_cases h : i < L.length
    · exact .inl (hμlt i h ▸ hLU i h)
    · exact .inr ⟨_, by omega, hμge i h⟩
  refine hK u w' ρ' ⟨VR_out bk res u (fun b hb => hc.closed.cres b hb) hu, m, ⟨fun b g hb => ?_, fun b hb => ?_, fun b sl hb => ?_, fun b b' g h1 h2 => ?_, fun b g hb => ?_, fun g hg => Nat.lt_of_lt_of_le (c.h.avoid g hg) hfr.size, fun g d hg => VR_mono m _ _ (fun b hb => by simp [D.ids] at hb) (c.h.globs g d hg)⟩, ⟨hfr.os, hfr.tape, hfr.output, hfr.size, fun g hg => (him g hg).2, fun g hg => (him g hg).1.2⟩, fun b hb => ?_, fun b hb => ?_, fun b sl hb z hz => ?_⟩
  · rcases hcase b with ⟨i, rfl⟩ | hb'
    · rw [hρ' i] at hb
      obtain ⟨sl, h1, h2⟩ := hheap'.row i g hb
      have hi : i < outs.length := by
        rcases Nat.lt_or_ge i outs.length with h | h
        · exact h
        · simp [lst, List.getElem?_eq_none h] at h1
      exact ⟨sl.ren μ, by rw [hap1 i hi, h1]; rfl, slot_out bk sl (hslids i sl h1) h2⟩
    · rw [hρo b hb'] at hb
      obtain ⟨sl, h1, h2⟩ := c.h.row b g hb
      exact ⟨sl, (hap2 b hb').trans h1, slotR_mono m (hfr.keep g (hfree b g hb' hb)) sl (c.wh.ids b sl h1) h2⟩
  · rcases hcase b with ⟨i, rfl⟩ | hb'
    · rw [hρ' i] at hb
      have h1 := hheap'.nil i hb
      have hi : i < outs.length := by
        rcases Nat.lt_or_ge i outs.length with h | h
        · exact h
        · simp [lst, List.getElem?_eq_none h] at h1
      rw [hap1 i hi, h1]; rfl
    · rw [hρo b hb'] at hb
      exact (hap2 b hb').trans (c.h.nil b hb)
  · rcases hcase b with ⟨i, rfl⟩ | hb'
    · by_cases hi : i < outs.length
      · rw [hap1 i hi] at hb
        rw [hρ' i]
        cases h1 : lst outs i with
        | none => rw [h1] at hb; simp at hb
        | some sl0 => exact hheap'.live i sl0 h1
      · obtain ⟨h1, h2⟩ := hap3 i hi
        rw [h2, h1] at hb; cases hb
    · rw [hap2 b hb'] at hb
      rw [hρo b hb']
      exact c.h.live b sl hb
  · rcases hcase b with ⟨i, rfl⟩ | hb1 <;> rcases hcase b' with ⟨j, rfl⟩ | hb2
    · rw [hρ' i] at h1; rw [hρ' j] at h2
      rw [hheap'.inj i j g h1 h2]
    · rw [hρ' i] at h1; rw [hρo b' hb2] at h2
      exact absurd h1 (hfr.im g (hfree b' g hb2 h2) i)
    · rw [hρo b hb1] at h1; rw [hρ' j] at h2
      exact absurd h2 (hfr.im g (hfree b g hb1 h1) j)
    · rw [hρo b hb1] at h1; rw [hρo b' hb2] at h2
      exact c.h.inj b b' g h1 h2
  · rcases hcase b with ⟨i, rfl⟩ | hb'
    · rw [hρ' i] at hb
      exact fun h => hheap'.clear i g hb (.inl h)
    · rw [hρo b hb'] at hb
      exact c.h.clear b g hb
  · rcases hcase b with ⟨i, rfl⟩ | hb'
    · rw [hρ' i] at hb
      refine hUW i ?_
      rcases Nat.lt_or_ge i outs.length with h | h
      · exact h
      · exact absurd (hρn i (by omega)) hb
    · rw [hρo b hb'] at hb
      exact .inl (c.wh.dom b hb)
  · obtain ⟨i, hi, rfl⟩ := ids_ren μ res b hb
    exact hUW i (hc.closed.cres i hi)
  · rcases hcase b with ⟨i, rfl⟩ | hb'
    · by_cases hi : i < outs.length
      · rw [hap1 i hi] at hb
        cases h1 : lst outs i with
        | none => rw [h1] at hb; simp at hb
        | some sl0 =>
          rw [h1] at hb; simp only [Option.map_some, Option.some.injEq] at hb
          subst hb
          obtain ⟨j, hj, rfl⟩ := slot_ids_ren μ sl0 z hz
          exact hUW j (hslids i sl0 h1 j hj)
      · obtain ⟨h1, h2⟩ := hap3 i hi
        rw [h2, h1] at hb; cases hb
    · rw [hap2 b hb'] at hb
      exact .inl (c.wh.ids b sl hb z hz)

end

end Go.Tw
end

section
namespace Go.Tw

/-! ## An operation hangs on what it reads alone -/

def sameR (H H' : Nat → Option Slot) : Rng → Prop
  | .part b lo hi => ∀ cs, H b = some (.cells cs) → ∃ cs', H' b = some (.cells cs') ∧ cs'.length = cs.length ∧ ∀ i, lo ≤ i → i < hi → cs'[i]? = cs[i]?
  | .live b => ∀ cs, H b = some (.cells cs) → ∃ cs', H' b = some (.cells cs') ∧ cs'.length = cs.length
  | .all b => H' b = H b

section
variable {TI : TT} {nid : Nat} {ev ev' : Operand → D} {H H' : Nat → Option Slot}

theorem partD_same {i : TInfo} {cs cs' : List D} {o : Nat} {v : D} (hp : 0 < i.size) (hl : cs'.length = cs.length) (h : ∀ j, o ≤ j → j < o + i.size → cs'[j]? = cs[j]?) (hv : partD i cs o = some v) : partD i cs' o = some v := by
  unfold partD at hv ⊢
  split at hv
  · rename_i ha
    rw [if_pos ha]
    split at hv
    · rename_i hle
      rw [if_pos (by rw [hl]; exact hle), ← hv]
      congr 2
      apply List.ext_getElem?
      intro j
      rw [List.getElem?_take, List.getElem?_take]
      split
      · rw [List.getElem?_drop, List.getElem?_drop]
        exact h (o + j) (by omega) (by omega)
      · rfl
    · cases hv
  · rename_i ha
    rw [if_neg ha, h o (Nat.le_refl _) (by omega)]; exact hv

theorem opI_local {op : Op} {v : D} {hw : List HW} {rh wh : List Rng} (h : opI TI nid ev H op v hw rh wh) (he : ∀ x ∈ op.operands, ev' x = ev x) (hs : ∀ R ∈ rh, sameR H H' R) : opI TI nid ev' H' op v hw rh wh := by
  cases op <;> (try simp only [opI] at h ⊢)
  case move x | assign x => rw [he x (by simp [Op.operands])]; exact h
  case pick z x y => rw [he z (by simp [Op.operands]), he x (by simp [Op.operands]), he y (by simp [Op.operands])]; exact h
  case alloc t => exact h
  case box t x => rw [he x (by simp [Op.operands])]; exact h
  case build t parts =>
    have : (parts.toList.map fun p => (p.1, ev' p.2)) = parts.toList.map fun p => (p.1, ev p.2) := List.map_congr_left fun p hp => by
      rw [he p.2 (by simp only [Op.operands, List.mem_toArray, List.mem_map]; exact ⟨p, hp, rfl⟩)]
    unfold buildI at h ⊢
    rw [this]; exact h
  case buildSlice t n parts =>
    have : (parts.toList.map fun p => (p.1, ev' p.2)) = parts.toList.map fun p => (p.1, ev p.2) := List.map_congr_left fun p hp => by
      rw [he p.2 (by simp only [Op.operands, List.mem_toArray, List.mem_map]; exact ⟨p, hp, rfl⟩)]
    unfold buildSliceI at h ⊢
    rw [this]; exact h
  case insert t x k y | mapUpdate t x k y =>
    rw [he x (by simp [Op.operands]), he k (by simp [Op.operands]), he y (by simp [Op.operands])]
    obtain ⟨⟨i, ke, el, ike, b, es, r, h1, h2, h3, h4, h5, h6, h7⟩, hv⟩ := h
    have hb : H' b = H b := by have := hs (.all b) (by rw [h7.2.2.1]; simp); exact this
    exact ⟨⟨i, ke, el, ike, b, es, r, h1, h2, h3, h4, h5, hb.trans h6, h7⟩, hv⟩
  case load t x =>
    rw [he x (by simp [Op.operands])]
    obtain ⟨⟨i, h1, h2⟩, h3⟩ := h
    refine ⟨⟨i, h1, ?_⟩, h3⟩
    split at h2
    · exact h2
    · rename_i b o hx
      obtain ⟨cs, h4, h5, h6, h7⟩ := h2
      obtain ⟨cs', h8, h9, h10⟩ := hs (.part b o (o + i.size)) (by rw [h7]; simp) cs h4
      exact ⟨cs', h8, h5, partD_same h5 h9 h10 h6, h7⟩
    · exact h2
  case store t x y =>
    rw [he x (by simp [Op.operands]), he y (by simp [Op.operands])]
    obtain ⟨⟨i, b, o, cs, old, h1, h2, h3, h4, h5, h6, h7, h8, h9, h10, h11⟩, h12⟩ := h
    obtain ⟨old', h13, h14⟩ := hs (.live b) (by rw [h10]; simp) old h7
    exact ⟨⟨i, b, o, cs, old', h1, h2, h3, h4, h5, h6, h13, by rw [h14]; exact h8, h9, h10, h11⟩, h12⟩
  case nilCheck x =>
    rw [he x (by simp [Op.operands])]
    refine ⟨?_, h.2⟩
    have h := h.1
    unfold liveI at h ⊢
    split at h
    · exact h
    · exact h
    · rename_i b o hx
      obtain ⟨cs, h4, h5, h6, h7⟩ := h
      obtain ⟨cs', h8, h9⟩ := hs (.live b) (by rw [h7]; simp) cs h4
      exact ⟨cs', h8, by omega, h6, h7⟩
    · exact h
  case binOp op ty x y ty' =>
    rw [he x (by simp [Op.operands]), he y (by simp [Op.operands])]
    obtain ⟨h1 | ⟨i, e, q, isnil, h1, h2, h3, h4, h5, h6⟩, h7⟩ := h
    · exact ⟨.inl h1, h7⟩
    · refine ⟨.inr ⟨i, e, q, isnil, h1, h2, h3, h4, ?_, h6⟩, h7⟩
      split at h5
      · exact h5
      · rename_i b _ _ _ _
        obtain ⟨h8, ⟨cs, h9, h10⟩, h11⟩ := h5
        have hb : H' b = H b := by have := hs (.all b) (by rw [h11]; simp); exact this
        exact ⟨h8, ⟨cs, hb.trans h9, h10⟩, h11⟩
      · exact h5
  case unOp op ty x => rw [he x (by simp [Op.operands])]; exact h
  case convert s d x =>
    rw [he x (by simp [Op.operands])]
    obtain ⟨⟨i, j, h1, h2, h3⟩, h4⟩ := h
    refine ⟨⟨i, j, h1, h2, ?_⟩, h4⟩
    split at h3
    · exact h3
    · exact h3
    · exact h3
    · exact h3
    · rename_i b sz o n hx hd
      obtain ⟨e, ie, cs, l, h5, h6, h7, h8, h9, h10, h11, h12, h13⟩ := h3
      have hb : H' b = H b := by have := hs (.all b) (by rw [h13]; simp); exact this
      exact ⟨e, ie, cs, l, h5, h6, h7, h8, hb.trans h9, h10, h11, h12, h13⟩
    · exact h3
  case makeInterface t x => exact h
  case makeFunc f first cap =>
    cases f <;> simp only at h ⊢
    case func f =>
      obtain ⟨h1, h2, h3⟩ := h
      refine ⟨h1, ?_, h3⟩
      rw [h2]
      congr 1
      refine List.map_congr_left fun x hx => (he x ?_).symm
      simp only [Op.operands, Array.mem_append]
      exact .inr (Array.mem_def.2 hx)
  case makeMap t r => exact h
  case makeSlice t x y => rw [he x (by simp [Op.operands]), he y (by simp [Op.operands])]; exact h
  case slice t x lo hi mx =>
    have hx := he x (by simp [Op.operands])
    have hlo : lo.map ev' = lo.map ev := by cases lo with | none => rfl | some y => simp only [Option.map_some]; rw [he y (by simp [Op.operands])]
    have hhi : hi.map ev' = hi.map ev := by cases hi with | none => rfl | some y => simp only [Option.map_some]; rw [he y (by simp [Op.operands])]
    have hmx : mx.map ev' = mx.map ev := by cases mx with | none => rfl | some y => simp only [Option.map_some]; rw [he y (by simp [Op.operands])]
    rw [hx, hlo, hhi, hmx]
    obtain ⟨⟨i, l, hh, h1, h2, h3, h4⟩, h5⟩ := h
    refine ⟨⟨i, l, hh, h1, h2, h3, ?_⟩, h5⟩
    split at h4
    · exact h4
    · exact h4
    · rename_i b sz o n e _ _
      obtain ⟨h6, h7, h8, h9, ⟨cs, h10⟩, h11, h12, h13⟩ := h4
      obtain ⟨cs', h14, _⟩ := hs (.live b) (by rw [h13]; simp) cs h10
      exact ⟨h6, h7, h8, h9, ⟨cs', h14⟩, h11, h12, h13⟩
    · exact h4
    · exact h4
  case fieldAddr t x f =>
    rw [he x (by simp [Op.operands])]
    obtain ⟨⟨i, fs, fl, fi, h1, h2, h3, h4, h5, h6⟩, h7⟩ := h
    refine ⟨⟨i, fs, fl, fi, h1, h2, h3, h4, h5, ?_⟩, h7⟩
    split at h6
    · exact h6
    · rename_i b o hx
      obtain ⟨cs, h8, h9, h10, h11⟩ := h6
      obtain ⟨cs', h12, h13⟩ := hs (.live b) (by rw [h11]; simp) cs h8
      exact ⟨cs', h12, by omega, h10, h11⟩
    · exact h6
  case field t x f => rw [he x (by simp [Op.operands])]; exact h
  case indexAddr t x y =>
    rw [he x (by simp [Op.operands]), he y (by simp [Op.operands])]
    obtain ⟨⟨i, k, n, h1, h2, h3, h4⟩, h5⟩ := h
    refine ⟨⟨i, k, n, h1, h2, h3, ?_⟩, h5⟩
    split at h4
    · exact h4
    · rename_i b sz o len e _ _
      obtain ⟨ie, cs, h6, h7, h8, h9, h10, h11, h12⟩ := h4
      obtain ⟨cs', h13, h14⟩ := hs (.live b) (by rw [h12]; simp) cs h8
      exact ⟨ie, cs', h6, h7, h13, by omega, h10, h11, h12⟩
    · rename_i b o len e _ _
      obtain ⟨ie, cs, h6, h7, h8, h9, h10, h11⟩ := h4
      obtain ⟨cs', h13, h14⟩ := hs (.live b) (by rw [h11]; simp) cs h7
      exact ⟨ie, cs', h6, h13, by omega, h9, h10, h11⟩
    · exact h4
    · exact h4
  case index t x y => rw [he x (by simp [Op.operands]), he y (by simp [Op.operands])]; exact h
  case lookup t x k ok =>
    rw [he x (by simp [Op.operands]), he k (by simp [Op.operands])]
    obtain ⟨⟨i, ke, el, ike, iel, h1, h2, h3, h4, h5, h6⟩, h7⟩ := h
    refine ⟨⟨i, ke, el, ike, iel, h1, h2, h3, h4, h5, ?_⟩, h7⟩
    split at h6
    · rename_i b hx
      obtain ⟨es, r, h8, h9, h10, h11⟩ := h6
      have hb : H' b = H b := by have := hs (.all b) (by rw [h10]; simp); exact this
      exact ⟨es, r, hb.trans h8, h9, h10, h11⟩
    · exact h6
    · exact h6
  case mapEntry t x k =>
    rw [he x (by simp [Op.operands]), he k (by simp [Op.operands])]
    obtain ⟨i, ke, el, ike, iel, b, es, r, h1, h2, h3, h4, h5, h6, h7, h8⟩ := h
    have hb : H' b = H b := by have := hs (.all b) (by rw [h8.2.2.1]; simp); exact this
    exact ⟨i, ke, el, ike, iel, b, es, r, h1, h2, h3, h4, h5, h6, hb.trans h7, h8⟩
  case entryStore t x s y =>
    rw [he x (by simp [Op.operands]), he s (by simp [Op.operands]), he y (by simp [Op.operands])]
    obtain ⟨⟨b, es, n, e, h1, h2, h3, h4⟩, h5⟩ := h
    have hb : H' b = H b := by have := hs (.all b) (by rw [h4.2.2.1]; simp); exact this
    exact ⟨⟨b, es, n, e, h1, h2, hb.trans h3, h4⟩, h5⟩
  case extract x j => rw [he x (by simp [Op.operands])]; exact h
  case call c =>
    have hm : ∀ x ∈ c.args.toList, ev' x = ev x := fun x hx => he x (by
      simp only [Op.operands, Call.operands, Array.mem_append]; exact .inr (Array.mem_def.2 hx))
    split at h
    · rename_i x t hc ha ht
      rw [hm x (by rw [ha]; simp)]
      refine ⟨?_, h.2⟩
      have h := h.1
      unfold lenI at h ⊢
      split at h
      · exact h
      · exact h
      · exact h
      · rename_i b sz o n hx
        obtain ⟨cs, h8, h9, h10⟩ := h
        obtain ⟨cs', h12, _⟩ := hs (.live b) (by rw [h10]; simp) cs h8
        exact ⟨cs', h12, h9, h10⟩
      · exact h
    · rename_i s x t t2 hc ha ht
      rw [hm s (by rw [ha]; simp), hm x (by rw [ha]; simp)]
      obtain ⟨it, e, i2, ie, m, cs, rh', h1, h2, h3, h4, h5, h6, h7, h8⟩ := h
      have hsub : ∀ R ∈ rh', R ∈ rh := by
        split at h8
        · intro R hR; rw [h8.2.2.2.1]; exact hR
        · obtain ⟨old, _, _, _, _, _, _, _, h9, _⟩ := h8
          intro R hR; rw [h9]; exact List.mem_cons_of_mem _ hR
        · exact h8.elim
      have h7' : srcI H' ie.size (ev x) m cs rh' := by
        unfold srcI at h7 ⊢
        split at h7
        · exact h7
        · exact h7
        · rename_i b sz o n hx
          obtain ⟨all, h9, h10⟩ := h7
          have hb : H' b = H b := by have := hs (.all b) (hsub _ (by rw [h10.2.2.2.2.2]; simp)); exact this
          exact ⟨all, hb.trans h9, h10⟩
        · exact h7
        · exact h7
      refine ⟨it, e, i2, ie, m, cs, rh', h1, h2, h3, h4, h5, h6, h7', ?_⟩
      split at h8
      · exact h8
      · rename_i b sz o n hx
        obtain ⟨old, h9, h10, h11, h12, h13, h14, h15, h16, h17⟩ := h8
        have hb : H' b = H b := by have := hs (.all b) (by rw [h16]; simp); exact this
        exact ⟨old, h9, h10, hb.trans h11, h12, h13, h14, h15, h16, h17⟩
      · exact h8
    · rename_i x y hc ha
      rw [hm x (by rw [ha]; simp), hm y (by rw [ha]; simp)]; exact h
    · rename_i x y hc ha
      rw [hm x (by rw [ha]; simp), hm y (by rw [ha]; simp)]; exact h
    · exact h.elim

end

end Go.Tw
end

section
namespace Go.Tw
variable {X : Nat → Prop}

/-! ## One step of a region -/

/-- What an operation has done. -/
structure Eff where
  v : D
  hw : List HW
  rh : List Rng
  wh : List Rng

/-- A function without a body gives a value and does nothing else. -/
def NatP (P : Program) (f : FuncId) (ds : List D) (v : D) : Prop :=
  v.ids = [] ∧ ∀ (X : Nat → Prop) (ρ : Nat → Place) (w : World) (vs : List Value), VRs X ρ w ds vs → ∃ u, (callFunc f vs.toArray).run P w = .ok (.value u) w ∧ VR X ρ w v u

/-- An operation is run, or a function is called. -/
inductive StepR (P : Program) (TI : TT) (ids : Nat → Nat) (s : St) (o : Oper) : Eff → Prop
  | op {v : D} {hw : List HW} {rh wh : List Rng} (h : opI TI (ids 0) (evalD s.T) s.H o.op v hw rh wh) : StepR P TI ids s o ⟨v, hw, rh, wh⟩
  | call {cl : Call} {x : Operand} {f : FuncId} {cap : List D} {L : List Nat} {args : List D} {hin : List Slot} {res : D} {outs : List (Option Slot)} {wm : Nat → WM}
      (ho : o.op = .call cl) (hn : outs.length ≤ L.length + 16) (h : CallI P ids (evalD s.T) s.H cl x f cap L args hin res outs wm) :
      StepR P TI ids s o ⟨res.ren (muOf L ids), (List.range outs.length).flatMap (hwOf (muOf L ids) L wm outs), L.map .all, (List.range outs.length).flatMap (whOf (muOf L ids) L wm)⟩
  | nat {cl : Call} {x : Operand} {f : FuncId} {cap : List D} {v : D} (ho : o.op = .call cl) (hc : cl.callee = .value x) (hf : evalD s.T x = .fn f cap) (h : NatP P f (cl.args.toList.map (evalD s.T) ++ cap) v) :
      StepR P TI ids s o ⟨v, [], [], []⟩

/-- A guard is asked first. -/
def Step (P : Program) (TI : TT) (ops : Array Oper) (ids : Nat → Nat) (s : St) (o : Oper) (e : Eff) : Prop :=
  match o.guard with
  | none => StepR P TI ids s o e
  | some (j, want) => ∃ d, (ops[j]?).bind (·.dst) = some d ∧ ((s.T d = .bool want ∧ StepR P TI ids s o e) ∨ ((s.T d = .bool (!want) ∨ s.T d = .tup []) ∧ e = ⟨.tup [], [], [], []⟩))

def aft (o : Oper) (e : Eff) (s : St) : St := ⟨putT s.T o.dst e.v, apps s.H e.hw⟩

def Win (ids : Nat → Nat) (b : Nat) : Prop := ∃ j, j < 16 ∧ b = ids j

section
variable {P : Program} {TI : TT} {U : Nat → Prop} {ρ : Nat → Place} {a : Act} {w : World} {s : St} {N : Nat} {ids : Nat → Nat} {o : Oper} {e : Eff} {ops : Array Oper}

theorem Rel.ctx (hT : TIok P TI) (h : Rel X N U ρ a w s) : Ctx X P TI a U ρ w s.H (evalD s.T) := ⟨hT, h.heap, ⟨h.hids, h.dom⟩, h.eval, h.eids⟩

/-- What is known behind a step. -/
structure Beh (X : Nat → Prop) (N : Nat) (U U' : Nat → Prop) (ρ : Nat → Place) (w : World) (s' : St) (ρ' : Nat → Place) (a' : Act) (w' : World) : Prop where
  rel : Rel X N U' ρ' a' w' s'
  fr : Fr ρ ρ' w w'
  mono : Mono U ρ ρ' w w'

theorem stepR_sound (hT : TIok P TI) (hr : Rel X N U ρ a w s) (hf : ∀ j, ¬ U (ids j)) (hinj : ∀ i j, ids i = ids j → i = j) (h : StepR P TI ids s o e) : OpW X P o a U (Win ids) ρ w (apps s.H e.hw) e.v := by
  cases h with
  | op h => exact opW_of_good ⟨0, by omega, rfl⟩ (opI_good (hr.ctx hT) (hf 0) h)
  | call ho hn h =>
    intro K Q hK
    refine call_sound (hr.ctx hT) hf hinj ho h K Q fun u w' ρ' hs => hK u w' ρ' ?_
    have hw : ∀ {m n : Nat} (b : Nat), n ≤ m + 16 → (∃ j, m + j < n ∧ b = ids j) → Win ids b := fun b hmn ⟨j, h1, h2⟩ => ⟨j, by omega, h2⟩
    exact ⟨hs.val, hs.mono, hs.heap, hs.fr, fun b hb => (hs.dom b hb).imp id (hw b hn), fun b hb => (hs.vids b hb).imp id (hw b hn), fun b sl hb c hc => (hs.hids b sl hb c hc).imp id (hw c hn)⟩
  | nat ho hcal hf h =>
    rename_i cl x f cap v
    have c := hr.ctx hT
    obtain ⟨vf, hvf, hcapv⟩ : ∃ vs : List Value, a.eval x = .func (.func f) #[] vs.toArray ∧ VRs X ρ w cap vs := by
      have := c.E x
      rw [hf] at this
      simpa only [VR] using this
    obtain ⟨u, h1, h2⟩ := h.2 X ρ w _ (VRs_append (VRs_map c cl.args.toList) hcapv)
    refine opW_of_good (nid := ids 0) ⟨0, by omega, rfl⟩ (pureGood c.h c.wh (u := u) ?_ h2 (by rw [h.1]; simp))
    unfold execOp
    have e2 : cl.args.map a.eval ++ vf.toArray = (cl.args.toList.map a.eval ++ vf).toArray := by apply Array.ext'; simp
    simp only [ho, resolve, hcal, hvf, Deferred.ofValue, Sem.run_bind, Sem.run_pure, Result.andThen_ok, invoke, Array.empty_append, e2, h1]

theorem yielded_of {d : Nat} {b : Bool} {j : Nat} (hr : Rel X N U ρ a w s) (h1 : (ops[j]?).bind (·.dst) = some d) (h2 : s.T d = .bool b) : yielded ops a.tmps j = some b := by
  have := hr.tmp d
  rw [h2] at this
  simp only [VR] at this
  have hlt : d < a.tmps.size := by
    rcases Nat.lt_or_ge d a.tmps.size with h | h
    · exact h
    · simp [Array.getElem?_eq_none h, undef] at this
  simp only [yielded, h1, Option.bind_some]
  have h3 : a.tmps[d]? = some (.bool b) := by
    simp only [Array.getD_eq_getD_getElem?, Array.getElem?_eq_getElem hlt, Option.getD_some] at this
    rw [Array.getElem?_eq_getElem hlt, this]
  rw [h3]

theorem yielded_none {d : Nat} {j : Nat} (hr : Rel X N U ρ a w s) (h1 : (ops[j]?).bind (·.dst) = some d) (h2 : s.T d = .tup []) : yielded ops a.tmps j = none := by
  have := hr.tmp d
  rw [h2] at this
  simp only [VR, VRs] at this
  obtain ⟨vs, h3, rfl⟩ := this
  simp only [yielded, h1, Option.bind_some]
  simp only [Array.getD_eq_getD_getElem?] at h3
  cases h4 : a.tmps[d]? with
  | none => rfl
  | some v => rw [h4] at h3; simp only [Option.getD_some] at h3; subst h3; rfl

theorem step_sound (hT : TIok P TI) (hr : Rel X N U ρ a w s) (hf : ∀ j, ¬ U (ids j)) (hinj : ∀ i j, ids i = ids j → i = j) {i : Nat} (hi : ops[i]? = some o) (hd : ∀ t, o.dst = some t → t < N) (h : Step P TI ops ids s o e)
    {K : Act → World → Prop} {Q : Exit → Act → World → Prop} (hK : ∀ a' w' ρ', Beh X N U (fun b => U b ∨ Win ids b) ρ w (aft o e s) ρ' a' w' → K a' w') : wpOp P ops Q i K a w := by
  have run : StepR P TI ids s o e → o.wp P a w K Q := fun h => stepR_sound hT hr hf hinj h K Q fun u w' ρ' hs => hK _ _ ρ' ⟨Rel.put hr hs.mono (fun b hb => .inl hb) hs.heap hs.hids hs.dom o.dst hd e.v u hs.val hs.vids, hs.fr, hs.mono⟩
  have skip : e = ⟨.tup [], [], [], []⟩ → K (a.put o.dst undef) w := fun he => by
    subst he
    refine hK _ _ ρ ⟨Rel.put hr (Mono.refl U ρ w) (fun b hb => .inl hb) hr.heap (fun b sl hb c hc => .inl (hr.hids b sl hb c hc)) (fun b hb => .inl (hr.dom b hb)) o.dst hd (.tup []) undef (by simp [VR, VRs, undef]) (by simp [D.ids, D.idsL]), Fr.refl ρ w, Mono.refl U ρ w⟩
  unfold wpOp
  simp only [hi]
  unfold Step at h
  cases hg : o.guard with
  | none =>
    rw [hg] at h
    have : Region.wanted o (yielded ops a.tmps) = true := by simp [Region.wanted, hg]
    rw [if_pos this]
    exact .inl (run h)
  | some p =>
    obtain ⟨j, want⟩ := p
    rw [hg] at h
    obtain ⟨d, h1, ⟨h2, h3⟩ | ⟨h2, h3⟩⟩ := h
    · have hy := yielded_of (ops := ops) hr h1 h2
      have : Region.wanted o (yielded ops a.tmps) = true := by simp [Region.wanted, hg, hy]
      rw [if_pos this]
      exact .inl (run h3)
    · have : Region.wanted o (yielded ops a.tmps) = false := by
        rcases h2 with h2 | h2
        · have hy := yielded_of (ops := ops) hr h1 h2
          simp [Region.wanted, hg, hy]
        · have hy := yielded_none (ops := ops) hr h1 h2
          simp [Region.wanted, hg, hy]
      rw [this]
      simp only [Bool.false_eq_true, if_false]
      exact skip h3

end

/-! ## A region in the text's order -/

/-- The numbers of what operation i of a region of n operations makes. -/
def idsOf (nb n i : Nat) : Nat → Nat := fun j => nb + n * j + i

theorem idsOf_inj {nb n i j i' j' : Nat} (hi : i < n) (hi' : i' < n) (h : idsOf nb n i j = idsOf nb n i' j') : i = i' ∧ j = j' := by
  have h2 : n * j + i = n * j' + i' := by simp only [idsOf] at h; omega
  have h3 : (n * j + i) % n = i := by rw [Nat.mul_add_mod, Nat.mod_eq_of_lt hi]
  have h4 : (n * j' + i') % n = i' := by rw [Nat.mul_add_mod, Nat.mod_eq_of_lt hi']
  have h5 : i = i' := by rw [← h3, ← h4, h2]
  subst h5
  refine ⟨rfl, ?_⟩
  have hn : 0 < n := by omega
  exact Nat.eq_of_mul_eq_mul_left hn (by omega)

theorem idsOf_lt {nb n i j : Nat} (hi : i < n) (hj : j < 16) : idsOf nb n i j < nb + n * 16 := by
  have : n * j ≤ n * 15 := Nat.mul_le_mul_left n (by omega)
  simp only [idsOf]; omega

/-- The states of a region's run in the text's order. -/
inductive Run (P : Program) (TI : TT) (N nb : Nat) (ops : Array Oper) : Nat → St → List Eff → St → Prop
  | nil {k : Nat} {s : St} (hk : ops.size ≤ k) : Run P TI N nb ops k s [] s
  | cons {k : Nat} {s s' : St} {o : Oper} {e : Eff} {es : List Eff} (hk : ops[k]? = some o) (hd : ∀ t, o.dst = some t → t < N) (h : Step P TI ops (idsOf nb ops.size k) s o e) (t : Run P TI N nb ops (k + 1) (aft o e s) es s') : Run P TI N nb ops k s (e :: es) s'

theorem Mono.trans {I J : Nat → Prop} {ρ ρ' ρ'' : Nat → Place} {w w' w'' : World} (h : Mono I ρ ρ' w w') (k : Mono J ρ' ρ'' w' w'') (hIJ : ∀ b, I b → J b) : Mono I ρ ρ'' w w'' := by
  refine ⟨fun b hb hne => ?_, fun g hg => ?_, fun b g cur e hb h1 h2 => ?_⟩
  · have h1 := k.back b (hIJ b hb) hne
    exact (h.back b hb (by rw [h1]; exact hne)).trans h1
  · obtain ⟨h1, h2⟩ := h.im g hg
    obtain ⟨h3, h4⟩ := k.im g h1
    exact ⟨h3, h4.trans h2⟩
  · have h3 := k.back b (hIJ b hb) (by rw [h1]; simp)
    obtain ⟨cur', h4, h5⟩ := h.row b g cur e hb (h3.trans h1) h2
    obtain ⟨cur'', h6, h7⟩ := k.row b g cur' e (hIJ b hb) h1 h4
    exact ⟨cur'', h6, h7.trans h5⟩

theorem Mono.sub {I J : Nat → Prop} {ρ ρ' : Nat → Place} {w w' : World} (h : Mono J ρ ρ' w w') (hIJ : ∀ b, I b → J b) : Mono I ρ ρ' w w' :=
  ⟨fun b hb => h.back b (hIJ b hb), h.im, fun b g cur e hb => h.row b g cur e (hIJ b hb)⟩

theorem Rel.widen {N : Nat} {U U' : Nat → Prop} {ρ : Nat → Place} {a : Act} {w : World} {s : St} (h : Rel X N U ρ a w s) (hU : ∀ b, U b → U' b) : Rel X N U' ρ a w s :=
  ⟨h.size, h.tmp, fun t b hb => hU b (h.tids t b hb), fun b sl hb c hc => hU c (h.hids b sl hb c hc), fun b hb => hU b (h.dom b hb), h.heap, h.defers⟩

/-- The numbers that are taken when the operations S of a region have been run. -/
def Us (nb n : Nat) (S : Nat → Prop) (b : Nat) : Prop := b < nb ∨ ∃ i, S i ∧ i < n ∧ Win (idsOf nb n i) b

theorem Us_fresh {nb n i : Nat} {S : Nat → Prop} (hi : i < n) (hS : ¬ S i) (j : Nat) : ¬ Us nb n S (idsOf nb n i j) := by
  rintro (h | ⟨i', h1, h2, j', _, h3⟩)
  · simp only [idsOf] at h; omega
  · obtain ⟨rfl, _⟩ := idsOf_inj hi h2 h3
    exact hS h1

theorem Us_lt {nb n : Nat} {S : Nat → Prop} {b : Nat} (h : Us nb n S b) : b < nb + n * 16 := by
  rcases h with h | ⟨i, _, h2, j, h3, rfl⟩
  · omega
  · exact idsOf_lt h2 h3

section
variable {P : Program} {TI : TT} {N nb : Nat} {ops : Array Oper} {Q : Exit → Act → World → Prop}

theorem run_inorder (hT : TIok P TI) {k : Nat} {s s' : St} {es : List Eff} (h : Run P TI N nb ops k s es s') : ∀ {ρ : Nat → Place} {a : Act} {w : World}, Rel X N (Us nb ops.size (· < k)) ρ a w s →
    (∀ a' w' ρ', Beh X N (Us nb ops.size (· < k)) (· < nb + ops.size * 16) ρ w s' ρ' a' w' → Q .normal a' w') → wpOps P ops Q ((List.range ops.size).drop k) a w := by
  induction h with
  | @nil k s hk =>
    intro ρ a w hr hQ
    have hd : (List.range ops.size).drop k = [] := by simp [hk]
    rw [hd]
    simp only [wpOps]
    exact hQ a w ρ ⟨hr.widen fun b => Us_lt, Fr.refl ρ w, Mono.refl _ ρ w⟩
  | @cons k s s' o e es hk hd h t ih =>
    intro ρ a w hr hQ
    have hlt : k < ops.size := by
      rcases Nat.lt_or_ge k ops.size with h | h
      · exact h
      · simp [Array.getElem?_eq_none h] at hk
    have hdrop : (List.range ops.size).drop k = k :: (List.range ops.size).drop (k + 1) := by
      rw [List.drop_eq_getElem_cons (by simpa using hlt)]; simp
    rw [hdrop, wpOps_cons]
    refine step_sound hT hr (fun j => Us_fresh hlt (by simp) j) (fun i j h => (idsOf_inj hlt hlt h).2) hk hd h fun a' w' ρ' hb => ?_
    have hsub : ∀ b, Us nb ops.size (· < k) b ∨ Win (idsOf nb ops.size k) b → Us nb ops.size (· < k + 1) b := by
      rintro b ((h | ⟨i, h1, h2, h3⟩) | h)
      · exact .inl h
      · exact .inr ⟨i, Nat.lt_succ_of_lt h1, h2, h3⟩
      · exact .inr ⟨k, Nat.lt_succ_self k, hlt, h⟩
    refine ih (hb.rel.widen hsub) fun a'' w'' ρ'' hb' => hQ a'' w'' ρ'' ⟨hb'.rel, hb.fr.trans hb'.fr, hb.mono.trans hb'.mono fun b hb0 => hsub b (.inl hb0)⟩

end

end Go.Tw
end

section
namespace Go.Tw
variable {X : Nat → Prop}

/-! ## A region in any order -/

/-- Two ranges do not meet (of two reads nothing is asked). -/
def disjR : Rng → Rng → Bool
  | .part b lo hi, .part b' lo' hi' => b != b' || decide (hi ≤ lo') || decide (hi' ≤ lo)
  | .all b, .part b' _ _ => b != b'
  | .part b _ _, .all b' => b != b'
  | .all b, .live b' => b != b'
  | .live b, .all b' => b != b'
  | .all b, .all b' => b != b'
  | _, _ => true

def disjL (l m : List Rng) : Bool := l.all fun x => m.all fun y => disjR x y

/-- What is written lies in the ranges that are said. -/
def CovW : HW → List Rng → Prop
  | .put b o cs, l => .part b o (o + cs.length) ∈ l
  | .set b _, l => .all b ∈ l

def eqR (H H' : Nat → Option Slot) : Rng → Prop
  | .part b lo hi => H' b = H b ∨ ∃ cs cs', H b = some (.cells cs) ∧ H' b = some (.cells cs') ∧ cs'.length = cs.length ∧ ∀ i, lo ≤ i → i < hi → cs'[i]? = cs[i]?
  | .live b => H' b = H b ∨ ∃ cs cs', H b = some (.cells cs) ∧ H' b = some (.cells cs') ∧ cs'.length = cs.length
  | .all b => H' b = H b

theorem eqR.same {H H' : Nat → Option Slot} : ∀ {R : Rng}, eqR H H' R → sameR H H' R
  | .part b lo hi, h => by
    intro cs hcs
    rcases h with h | ⟨cs0, cs', h1, h2, h3, h4⟩
    · exact ⟨cs, h.trans hcs, rfl, fun _ _ _ => rfl⟩
    · rw [hcs] at h1; cases h1; exact ⟨cs', h2, h3, h4⟩
  | .live b, h => by
    intro cs hcs
    rcases h with h | ⟨cs0, cs', h1, h2, h3⟩
    · exact ⟨cs, h.trans hcs, rfl⟩
    · rw [hcs] at h1; cases h1; exact ⟨cs', h2, h3⟩
  | .all b, h => h

theorem eqR.refl (H : Nat → Option Slot) : ∀ R : Rng, eqR H H R
  | .part _ _ _ => .inl rfl
  | .live _ => .inl rfl
  | .all _ => rfl

theorem eqR.symm {H H' : Nat → Option Slot} : ∀ {R : Rng}, eqR H H' R → eqR H' H R
  | .part b lo hi, h => by
    rcases h with h | ⟨cs0, cs', h1, h2, h3, h4⟩
    · exact .inl h.symm
    · exact .inr ⟨cs', cs0, h2, h1, h3.symm, fun i a b => (h4 i a b).symm⟩
  | .live b, h => by
    rcases h with h | ⟨cs0, cs', h1, h2, h3⟩
    · exact .inl h.symm
    · exact .inr ⟨cs', cs0, h2, h1, h3.symm⟩
  | .all b, h => Eq.symm h

theorem eqR.trans {H H' H'' : Nat → Option Slot} : ∀ {R : Rng}, eqR H H' R → eqR H' H'' R → eqR H H'' R
  | .part b lo hi, h, k => by
    rcases h with h | ⟨cs0, cs', h1, h2, h3, h4⟩
    · rcases k with k | ⟨ds, ds', k1, k2, k3, k4⟩
      · exact .inl (k.trans h)
      · exact .inr ⟨ds, ds', by rw [← h]; exact k1, k2, k3, k4⟩
    · rcases k with k | ⟨ds, ds', k1, k2, k3, k4⟩
      · exact .inr ⟨cs0, cs', h1, k.trans h2, h3, h4⟩
      · rw [h2] at k1; cases k1
        exact .inr ⟨cs0, ds', h1, k2, k3.trans h3, fun i a b => (k4 i a b).trans (h4 i a b)⟩
  | .live b, h, k => by
    rcases h with h | ⟨cs0, cs', h1, h2, h3⟩
    · rcases k with k | ⟨ds, ds', k1, k2, k3⟩
      · exact .inl (k.trans h)
      · exact .inr ⟨ds, ds', by rw [← h]; exact k1, k2, k3⟩
    · rcases k with k | ⟨ds, ds', k1, k2, k3⟩
      · exact .inr ⟨cs0, cs', h1, k.trans h2, h3⟩
      · rw [h2] at k1; cases k1
        exact .inr ⟨cs0, ds', h1, k2, k3.trans h3⟩
  | .all b, h, k => Eq.trans k h

theorem putL_get_same {xs ys cs : List D} {o i : Nat} (hl : ys.length = xs.length) (h : ys[i]? = xs[i]?) : (putL ys o cs)[i]? = (putL xs o cs)[i]? := by
  rw [putL_get, putL_get, hl, h]

/-- Both write the same. -/
theorem eqR.app {H H' : Nat → Option Slot} (x : HW) : ∀ {R : Rng}, eqR H H' R → eqR (x.app H) (x.app H') R := by
  intro R h
  cases x with
  | set b' sl =>
    cases R with
    | part b lo hi =>
      simp only [eqR, HW.app] at h ⊢
      by_cases e : b = b'
      · subst e; exact .inl (by rw [upd_same, upd_same])
      · rw [upd_ne _ _ e, upd_ne _ _ e]; exact h
    | live b =>
      simp only [eqR, HW.app] at h ⊢
      by_cases e : b = b'
      · subst e; exact .inl (by rw [upd_same, upd_same])
      · rw [upd_ne _ _ e, upd_ne _ _ e]; exact h
    | all b =>
      simp only [eqR, HW.app] at h ⊢
      by_cases e : b = b'
      · subst e; rw [upd_same, upd_same]
      · rw [upd_ne _ _ e, upd_ne _ _ e]; exact h
  | put b' o cs =>
    cases R with
    | part b lo hi =>
      simp only [eqR, HW.app] at h ⊢
      by_cases e : b = b'
      · subst e
        rw [upd_same, upd_same]
        rcases h with h | ⟨ds, ds', h1, h2, h3, h4⟩
        · exact .inl (by rw [h])
        · rw [h1, h2]
          exact .inr ⟨_, _, rfl, rfl, by rw [putL_length, putL_length, h3], fun i a b => putL_get_same h3 (h4 i a b)⟩
      · rw [upd_ne _ _ e, upd_ne _ _ e]; exact h
    | live b =>
      simp only [eqR, HW.app] at h ⊢
      by_cases e : b = b'
      · subst e
        rw [upd_same, upd_same]
        rcases h with h | ⟨ds, ds', h1, h2, h3⟩
        · exact .inl (by rw [h])
        · rw [h1, h2]
          exact .inr ⟨_, _, rfl, rfl, by rw [putL_length, putL_length, h3]⟩
      · rw [upd_ne _ _ e, upd_ne _ _ e]; exact h
    | all b =>
      simp only [eqR, HW.app] at h ⊢
      by_cases e : b = b'
      · subst e; rw [upd_same, upd_same, h]
      · rw [upd_ne _ _ e, upd_ne _ _ e]; exact h

theorem eqR.apps {H H' : Nat → Option Slot} (l : List HW) {R : Rng} (h : eqR H H' R) : eqR (apps H l) (apps H' l) R := by
  induction l generalizing H H' with
  | nil => exact h
  | cons x l ih => simp only [Tw.apps, List.foldl_cons]; exact ih (h.app x)

/-- A write elsewhere. -/
theorem eqR_app_disj {H : Nat → Option Slot} {x : HW} {l : List Rng} (hc : CovW x l) {R : Rng} (hd : ∀ y ∈ l, disjR y R = true) : eqR H (x.app H) R := by
  cases x with
  | set b' sl =>
    have := hd _ hc
    cases R with
    | part b lo hi =>
      simp only [disjR, bne_iff_ne, ne_eq] at this
      exact .inl (by simp only [HW.app]; rw [upd_ne _ _ (Ne.symm this)])
    | live b =>
      simp only [disjR, bne_iff_ne, ne_eq] at this
      exact .inl (by simp only [HW.app]; rw [upd_ne _ _ (Ne.symm this)])
    | all b =>
      simp only [disjR, bne_iff_ne, ne_eq] at this
      show HW.app H (.set b' sl) b = H b
      simp only [HW.app]; rw [upd_ne _ _ (Ne.symm this)]
  | put b' o cs =>
    have := hd _ hc
    cases R with
    | part b lo hi =>
      simp only [disjR, Bool.or_eq_true, bne_iff_ne, ne_eq, decide_eq_true_eq] at this
      by_cases e : b' = b
      · subst e
        have h2 : o + cs.length ≤ lo ∨ hi ≤ o := by
          rcases this with (h | h) | h
          · exact absurd rfl h
          · exact .inl h
          · exact .inr h
        simp only [eqR, HW.app, upd_same]
        cases hh : H b' with
        | none => exact .inl rfl
        | some sl =>
          cases sl with
          | map es => exact .inl rfl
          | cells old =>
            refine .inr ⟨old, _, rfl, rfl, putL_length _ _ _, fun i a b => ?_⟩
            rw [putL_get, if_neg (by omega)]
      · exact .inl (by simp only [HW.app]; rw [upd_ne _ _ (Ne.symm e)])
    | live b =>
      simp only [eqR, HW.app]
      by_cases e : b = b'
      · subst e
        rw [upd_same]
        cases hh : H b with
        | none => exact .inl rfl
        | some sl =>
          cases sl with
          | map es => exact .inl rfl
          | cells old => exact .inr ⟨old, _, rfl, rfl, putL_length _ _ _⟩
      · exact .inl (upd_ne _ _ e)
    | all b =>
      simp only [disjR, bne_iff_ne, ne_eq] at this
      show HW.app H (.put b' o cs) b = H b
      simp only [HW.app]; rw [upd_ne _ _ (Ne.symm this)]

theorem eqR_apps_disj {l : List Rng} {R : Rng} (hd : ∀ y ∈ l, disjR y R = true) : ∀ {hw : List HW} {H : Nat → Option Slot}, (∀ x ∈ hw, CovW x l) → eqR H (apps H hw) R
  | [], H, _ => eqR.refl H R
  | x :: hw, H, hc => by
    simp only [apps, List.foldl_cons]
    exact (eqR_app_disj (hc x (by simp)) hd).trans (eqR_apps_disj hd (H := x.app H) fun y hy => hc y (by simp [hy]))

theorem bne_symm (b b' : Nat) : (b != b') = (b' != b) := by
  rw [Bool.eq_iff_iff, bne_iff_ne, bne_iff_ne]; exact ne_comm

theorem disjR_symm (x y : Rng) : disjR x y = disjR y x := by
  cases x with
  | part b lo hi =>
    cases y with
    | part b' lo' hi' => simp only [disjR]; rw [bne_symm b b', Bool.or_right_comm]
    | live b' => rfl
    | all b' => exact bne_symm b b'
  | live b =>
    cases y with
    | part b' lo' hi' => rfl
    | live b' => rfl
    | all b' => exact bne_symm b b'
  | all b =>
    cases y with
    | part b' lo' hi' => exact bne_symm b b'
    | live b' => exact bne_symm b b'
    | all b' => exact bne_symm b b'

theorem putL_comm {xs cs ds : List D} {o o' : Nat} (h : o + cs.length ≤ o' ∨ o' + ds.length ≤ o) : putL (putL xs o cs) o' ds = putL (putL xs o' ds) o cs := by
  apply List.ext_getElem?
  intro i
  simp only [putL_get, putL_length]
  by_cases h1 : o ≤ i ∧ i < o + cs.length ∧ i < xs.length
  · by_cases h2 : o' ≤ i ∧ i < o' + ds.length ∧ i < xs.length
    · omega
    · rw [if_neg h2, if_pos h1, if_pos h1]
  · by_cases h2 : o' ≤ i ∧ i < o' + ds.length ∧ i < xs.length
    · rw [if_pos h2, if_neg h1, if_pos h2]
    · rw [if_neg h2, if_neg h1, if_neg h1, if_neg h2]

theorem app_comm {x y : HW} {l m : List Rng} (hx : CovW x l) (hy : CovW y m) (hd : ∀ a ∈ l, ∀ b ∈ m, disjR a b = true) (H : Nat → Option Slot) : y.app (x.app H) = x.app (y.app H) := by
  cases x with
  | set b sl =>
    cases y with
    | set b' sl' =>
      have h := hd _ hx _ hy
      simp only [disjR, bne_iff_ne, ne_eq] at h
      funext c
      simp only [HW.app]
      by_cases e1 : c = b
      · subst e1; rw [upd_ne _ _ h, upd_same, upd_same]
      · by_cases e2 : c = b'
        · subst e2; rw [upd_same, upd_ne _ _ e1, upd_same]
        · rw [upd_ne _ _ e2, upd_ne _ _ e1, upd_ne _ _ e1, upd_ne _ _ e2]
    | put b' o cs =>
      have h := hd _ hx _ hy
      simp only [disjR, bne_iff_ne, ne_eq] at h
      funext c
      simp only [HW.app]
      by_cases e1 : c = b
      · subst e1; rw [upd_ne _ _ h, upd_same, upd_same]
      · by_cases e2 : c = b'
        · subst e2; rw [upd_same, upd_ne _ _ e1, upd_ne _ _ e1, upd_same]
        · rw [upd_ne _ _ e2, upd_ne _ _ e1, upd_ne _ _ e1, upd_ne _ _ e2]
  | put b o cs =>
    cases y with
    | set b' sl' =>
      have h := hd _ hx _ hy
      simp only [disjR, bne_iff_ne, ne_eq] at h
      funext c
      simp only [HW.app]
      by_cases e1 : c = b
      · subst e1; rw [upd_ne _ _ h, upd_same, upd_same, upd_ne _ _ h]
      · by_cases e2 : c = b'
        · subst e2; rw [upd_same, upd_ne _ _ e1, upd_same]
        · rw [upd_ne _ _ e2, upd_ne _ _ e1, upd_ne _ _ e1, upd_ne _ _ e2]
    | put b' o' ds =>
      have h := hd _ hx _ hy
      simp only [disjR, Bool.or_eq_true, bne_iff_ne, ne_eq, decide_eq_true_eq] at h
      by_cases e : b = b'
      · subst e
        have h2 : o + cs.length ≤ o' ∨ o' + ds.length ≤ o := by
          rcases h with (h | h) | h
          · exact absurd rfl h
          · exact .inl h
          · exact .inr h
        funext c
        simp only [HW.app]
        by_cases e1 : c = b
        · subst e1
          rw [upd_same, upd_same, upd_same, upd_same]
          cases hh : H c with
          | none => rfl
          | some sl =>
            cases sl with
            | map es => rfl
            | cells old => simp only; rw [putL_comm h2]
        · rw [upd_ne _ _ e1, upd_ne _ _ e1, upd_ne _ _ e1, upd_ne _ _ e1]
      · funext c
        simp only [HW.app]
        by_cases e1 : c = b
        · subst e1; rw [upd_ne _ _ e, upd_same, upd_same, upd_ne _ _ e]
        · by_cases e2 : c = b'
          · subst e2; rw [upd_same, upd_ne _ _ e1, upd_ne _ _ e1, upd_same]
          · rw [upd_ne _ _ e2, upd_ne _ _ e1, upd_ne _ _ e1, upd_ne _ _ e2]

theorem apps_comm1 {x : HW} {l m : List Rng} (hx : CovW x l) (hd : ∀ a ∈ l, ∀ b ∈ m, disjR a b = true) : ∀ {ys : List HW} {H : Nat → Option Slot}, (∀ y ∈ ys, CovW y m) → apps (x.app H) ys = x.app (apps H ys)
  | [], H, _ => rfl
  | y :: ys, H, hy => by
    simp only [apps, List.foldl_cons]
    rw [app_comm hx (hy y (by simp)) hd H]
    exact apps_comm1 hx hd (H := y.app H) fun z hz => hy z (by simp [hz])

theorem apps_comm {l m : List Rng} (hd : ∀ a ∈ l, ∀ b ∈ m, disjR a b = true) : ∀ {xs ys : List HW} {H : Nat → Option Slot}, (∀ x ∈ xs, CovW x l) → (∀ y ∈ ys, CovW y m) → apps (apps H xs) ys = apps (apps H ys) xs
  | [], ys, H, _, _ => rfl
  | x :: xs, ys, H, hx, hy => by
    have h1 : apps H (x :: xs) = apps (x.app H) xs := rfl
    have h2 : apps (apps H ys) (x :: xs) = apps (x.app (apps H ys)) xs := rfl
    rw [h1, h2, ← apps_comm1 (hx x (by simp)) hd hy]
    exact apps_comm hd (H := x.app H) (fun z hz => hx z (by simp [hz])) hy

/-! ### Writes are covered -/

theorem opI_cov {TI : TT} {nid : Nat} {ev : Operand → D} {H : Nat → Option Slot} {op : Op} {v : D} {hw : List HW} {rh wh : List Rng} (h : opI TI nid ev H op v hw rh wh) : ∀ x ∈ hw, CovW x wh := by
  cases op <;> (try simp only [opI] at h)
  case alloc t => obtain ⟨⟨i, cs, _, _, _, rfl⟩, _, rfl⟩ := h; simp [CovW]
  case box t x => obtain ⟨⟨cs, _, _, rfl⟩, _, rfl⟩ := h; simp [CovW]
  case buildSlice t n parts => obtain ⟨⟨cs, _, rfl⟩, _, rfl⟩ := h; simp [CovW]
  case insert t x k y | mapUpdate t x k y => obtain ⟨⟨i, ke, el, ike, b, es, r, _, _, _, _, _, _, _, rfl, _, rfl⟩, _⟩ := h; simp [CovW]
  case store t x y => obtain ⟨⟨i, b, o, cs, old, _, _, _, _, _, _, _, _, rfl, _, rfl⟩, _⟩ := h; simp [CovW]
  case makeMap t r => obtain ⟨_, _, rfl, _, rfl⟩ := h; simp [CovW]
  case makeSlice t x y => obtain ⟨⟨i, e, ie, zc, k, k', n, _, _, _, _, _, _, _, _, _, rfl, rfl⟩, _⟩ := h; simp [CovW]
  case mapEntry t x k => obtain ⟨i, ke, el, ike, iel, b, es, r, _, _, _, _, _, _, _, _, rfl, _, rfl, _⟩ := h; simp [CovW]
  case entryStore t x s y => obtain ⟨⟨b, es, n, e, _, _, _, _, rfl, _, rfl⟩, _⟩ := h; simp [CovW]
  case makeFunc f first cap =>
    cases f <;> simp only at h
    obtain ⟨_, _, rfl, _⟩ := h; simp
  case call c =>
    split at h
    · obtain ⟨_, _, rfl, _⟩ := h; simp
    · obtain ⟨it, e, i2, ie, m, cs, rh', _, _, _, _, _, _, _, h8⟩ := h
      split at h8
      · obtain ⟨_, _, rfl, _, rfl⟩ := h8; simp [CovW]
      · obtain ⟨old, _, _, _, _, _, _, rfl, _, rfl⟩ := h8; simp [CovW]
      · exact h8.elim
    · obtain ⟨_, rfl, _⟩ := h; simp
    · obtain ⟨_, rfl, _⟩ := h; simp
    · exact h.elim
  case pick z x y => obtain ⟨b, _, _, rfl, _⟩ := h; simp
  case move x | assign x => obtain ⟨_, rfl, _⟩ := h; simp
  case makeInterface t x => obtain ⟨_, _, rfl, _⟩ := h; simp
  all_goals (obtain ⟨_, rfl, _⟩ := h; simp)

theorem stepR_cov {P : Program} {TI : TT} {ids : Nat → Nat} {s : St} {o : Oper} {e : Eff} (h : StepR P TI ids s o e) : ∀ x ∈ e.hw, CovW x e.wh := by
  cases h with
  | op h => exact opI_cov h
  | call ho hn h =>
    rename_i cl x f cap L args hin res outs wm
    intro y hy
    simp only [List.mem_flatMap] at hy
    obtain ⟨i, hi, hy⟩ := hy
    have hin : ∀ r ∈ whOf (muOf L ids) L wm i, r ∈ (List.range outs.length).flatMap (whOf (muOf L ids) L wm) := fun r hr => List.mem_flatMap.2 ⟨i, hi, hr⟩
    simp only [hwOf, whOf] at hy hin
    cases hm : modeOf L wm i with
    | keep => rw [hm] at hy; simp at hy
    | part o new =>
      rw [hm] at hy hin
      simp only [List.mem_singleton] at hy
      subst hy
      simp only [CovW, renL_eq, List.length_map]
      exact hin _ (by simp)
    | whole =>
      rw [hm] at hy hin
      simp only [List.mem_singleton] at hy
      subst hy
      exact hin _ (by simp)
  | nat => simp

theorem step_cov {P : Program} {TI : TT} {ops : Array Oper} {ids : Nat → Nat} {s : St} {o : Oper} {e : Eff} (h : Step P TI ops ids s o e) : ∀ x ∈ e.hw, CovW x e.wh := by
  unfold Step at h
  split at h
  · exact stepR_cov h
  · obtain ⟨d, _, ⟨_, h3⟩ | ⟨_, h3⟩⟩ := h
    · exact stepR_cov h3
    · subst h3; simp

end Go.Tw
end

section
namespace Go.Tw
variable {X : Nat → Prop}

/-! ## A region that draws its order -/

section
variable {P : Program} {TI : TT} {ids : Nat → Nat} {H H' : Nat → Option Slot} {ev ev' : Operand → D}

theorem callI_local {cl : Call} {x : Operand} {f : FuncId} {cap : List D} {L : List Nat} {args : List D} {hin : List Slot} {res : D} {outs : List (Option Slot)} {wm : Nat → WM}
    (h : CallI P ids ev H cl x f cap L args hin res outs wm) (he : ∀ x ∈ cl.operands, ev' x = ev x) (hs : ∀ R ∈ L.map Rng.all, sameR H H' R) : CallI P ids ev' H' cl x f cap L args hin res outs wm := by
  have hm : ∀ x ∈ cl.args.toList, ev' x = ev x := fun x hx => he x (by simp only [Call.operands, Array.mem_append]; exact .inr (Array.mem_def.2 hx))
  have hb : ∀ i, i < L.length → H' (muOf L ids i) = H (muOf L ids i) := fun i hi => by
    rw [muOf_lt hi]
    exact hs (.all L[i]) (List.mem_map.2 ⟨L[i], List.getElem_mem hi, rfl⟩)
  refine ⟨h.callee, ?_, ?_, h.nodup, h.len, fun i sl' hi => ?_, h.fnc, h.closed, fun i hi => ?_⟩
  · rw [he x (by simp [Call.operands, h.callee])]; exact h.fn
  · rw [List.map_congr_left hm]; exact h.wargs
  · have hi' : i < L.length := by rw [← h.len]; exact (List.getElem?_eq_some_iff.1 hi).1
    rw [hb i hi']; exact h.blocks i sl' hi
  · have := h.modes i hi
    have hbi := hb i hi
    revert this
    cases wm i with
    | keep => rintro ⟨sl, h1, h2, h3⟩; exact ⟨sl, h1, h2, hbi.trans h3⟩
    | part o new => rintro ⟨old, h1, h2, h3⟩; exact ⟨old, h1, hbi.trans h2, h3⟩
    | whole => exact id

theorem stepR_local {s s' : St} {o : Oper} {e : Eff} (h : StepR P TI ids s o e) (he : ∀ x ∈ o.op.operands, evalD s'.T x = evalD s.T x) (hs : ∀ R ∈ e.rh, sameR s.H s'.H R) : StepR P TI ids s' o e := by
  cases h with
  | op h => exact .op (opI_local h he hs)
  | call ho hn h =>
    refine .call ho hn (callI_local h (fun x hx => he x ?_) hs)
    rw [ho]; exact hx
  | nat ho hc hf h =>
    rename_i cl x f cap v
    have hm : ∀ y ∈ cl.args.toList, evalD s'.T y = evalD s.T y := fun y hy => he y (by rw [ho]; simp only [Op.operands, Call.operands, Array.mem_append]; exact .inr (Array.mem_def.2 hy))
    refine .nat ho hc ((he x (by rw [ho]; simp [Op.operands, Call.operands, hc])).trans hf) ?_
    rw [List.map_congr_left hm]; exact h

theorem step_local {ops : Array Oper} {s s' : St} {o : Oper} {e : Eff} (h : Step P TI ops ids s o e) (hT : ∀ t ∈ o.looksAt ops, s'.T t = s.T t) (hs : ∀ R ∈ e.rh, sameR s.H s'.H R) : Step P TI ops ids s' o e := by
  have he : ∀ x ∈ o.op.operands, evalD s'.T x = evalD s.T x := fun x hx => by
    cases x with
    | tmp t => exact hT t (List.mem_append_left _ (List.mem_filterMap.2 ⟨.tmp t, by simpa using hx, rfl⟩))
    | _ => rfl
  unfold Step at h ⊢
  split at h
  · exact stepR_local h he hs
  · rename_i j want hg
    obtain ⟨d, h1, h3⟩ := h
    have hd : s'.T d = s.T d := hT d (List.mem_append_right _ (by simp [hg, h1]))
    refine ⟨d, h1, ?_⟩
    rw [hd]
    exact h3.imp (fun ⟨h4, h5⟩ => ⟨h4, stepR_local h5 he hs⟩) id

end

/-- The state behind the operations of S below k, in the text's order. -/
def foldS (ops : Array Oper) (es : List Eff) (S : Nat → Bool) : Nat → St → St
  | 0, s => s
  | k + 1, s => bif S k then (match ops[k]?, es[k]? with | some o, some e => aft o e (foldS ops es S k s) | _, _ => foldS ops es S k s) else foldS ops es S k s

theorem foldS_congr {ops : Array Oper} {es : List Eff} {S S' : Nat → Bool} {s : St} : ∀ {n : Nat}, (∀ i, i < n → S i = S' i) → foldS ops es S n s = foldS ops es S' n s
  | 0, _ => rfl
  | n + 1, h => by simp only [foldS, h n (Nat.lt_succ_self n), foldS_congr (n := n) fun i hi => h i (Nat.lt_succ_of_lt hi)]

theorem foldS_below {ops : Array Oper} {es : List Eff} {s : St} {i : Nat} : ∀ {n : Nat}, i ≤ n → foldS ops es (fun j => decide (j < i)) n s = foldS ops es (fun _ => true) i s
  | 0, h => by have : i = 0 := by omega
               subst this; rfl
  | n + 1, h => by
    by_cases e : i = n + 1
    · subst e; exact foldS_congr fun j hj => by simp [hj]
    · have : decide (n < i) = false := by simp; omega
      simp only [foldS, this, cond_false]
      exact foldS_below (by omega)

/-- What a run in the text's order says of each operation. -/
theorem run_spec {P : Program} {TI : TT} {N nb : Nat} {ops : Array Oper} {k : Nat} {s s' : St} {es : List Eff} (h : Run P TI N nb ops k s es s') :
    ∀ (es0 : List Eff) (s0 : St), k ≤ ops.size → es0.drop k = es → foldS ops es0 (fun _ => true) k s0 = s →
      (∀ i, k ≤ i → i < ops.size → ∃ o e, ops[i]? = some o ∧ es0[i]? = some e ∧ (∀ t, o.dst = some t → t < N) ∧ Step P TI ops (idsOf nb ops.size i) (foldS ops es0 (fun _ => true) i s0) o e) ∧
      foldS ops es0 (fun _ => true) ops.size s0 = s' := by
  induction h with
  | @nil k s hk =>
    intro es0 s0 hle _ hs
    have : k = ops.size := by omega
    subst this
    exact ⟨fun i h1 h2 => by omega, hs⟩
  | @cons k s s' o e es hk hd h t ih =>
    intro es0 s0 hle hdr hs
    have hlt : k < ops.size := (Array.getElem?_eq_some_iff.1 hk).1
    have hek : es0[k]? = some e := by
      have := congrArg List.head? hdr
      rw [List.head?_drop] at this; simpa using this
    have hdr' : es0.drop (k + 1) = es := by
      rw [← List.tail_drop, hdr]; rfl
    obtain ⟨h1, h2⟩ := ih es0 s0 hlt hdr' (by simp only [foldS, cond_true, hk, hek, hs])
    refine ⟨fun i h3 h4 => ?_, h2⟩
    by_cases e' : i = k
    · subst e'; exact ⟨o, e, hk, hek, hd, by rw [hs]; exact h⟩
    · exact h1 i (by omega) h4

theorem run_len {P : Program} {TI : TT} {N nb : Nat} {ops : Array Oper} {k : Nat} {s s' : St} {es : List Eff} (h : Run P TI N nb ops k s es s') (hk : k ≤ ops.size) : es.length = ops.size - k := by
  induction h with
  | nil h => simp; omega
  | cons h _ _ _ ih =>
    have := (Array.getElem?_eq_some_iff.1 h).1
    simp only [List.length_cons]; rw [ih (by omega)]; omega

/-! ### Which operations no edge orders -/

def ancMask (acc : List Nat) (o : Oper) : Nat :=
  o.after.toList.foldl (fun m e => bif Region.binds .any e then m ||| (acc[e.on]?.getD 0 ||| 2 ^ e.on) else m) 0

def ancs : List Oper → List Nat → List Nat
  | [], acc => acc
  | o :: os, acc => ancs os (acc ++ [ancMask acc o])

def Closed (ops : Array Oper) (S : Nat → Bool) : Prop := ∀ j o, ops[j]? = some o → S j = true → ∀ e ∈ o.after, Region.binds .any e = true → S e.on = true

theorem ancMask_spec {S : Nat → Bool} {acc : List Nat} (ha : ∀ j, S j = true → ∀ i, (acc[j]?.getD 0).testBit i = true → S i = true) {o : Oper} (ho : ∀ e ∈ o.after, Region.binds .any e = true → S e.on = true) {i : Nat} (h : (ancMask acc o).testBit i = true) : S i = true := by
  unfold ancMask at h
  have key : ∀ (l : List Edge) (m : Nat), (∀ e ∈ l, Region.binds .any e = true → S e.on = true) → (∀ i, m.testBit i = true → S i = true) →
      ∀ i, (l.foldl (fun m e => bif Region.binds .any e then m ||| (acc[e.on]?.getD 0 ||| 2 ^ e.on) else m) m).testBit i = true → S i = true := by
    intro l
    induction l with
    | nil => intro m _ hm i hi; exact hm i hi
    | cons e l ih =>
      intro m hl hm i hi
      simp only [List.foldl_cons] at hi
      refine ih _ (fun e' he' => hl e' (by simp [he'])) (fun i hi => ?_) i hi
      cases hb : Region.binds .any e with
      | false => rw [hb] at hi; exact hm i hi
      | true =>
        rw [hb] at hi
        simp only [cond_true, Nat.testBit_or, Bool.or_eq_true, Nat.testBit_two_pow, decide_eq_true_eq] at hi
        have hS := hl e (by simp) hb
        rcases hi with hi | hi | hi
        · exact hm i hi
        · exact ha e.on hS i hi
        · rw [← hi]; exact hS
  exact key _ _ (fun e he => ho e (by simpa using he)) (fun i hi => by simp at hi) i h

theorem ancs_spec {S : Nat → Bool} : ∀ (os : List Oper) (acc : List Nat), (∀ j, S j = true → ∀ i, (acc[j]?.getD 0).testBit i = true → S i = true) →
    (∀ j o, os[j]? = some o → S (acc.length + j) = true → ∀ e ∈ o.after, Region.binds .any e = true → S e.on = true) →
    ∀ j, S j = true → ∀ i, ((ancs os acc)[j]?.getD 0).testBit i = true → S i = true
  | [], acc, ha, _ => ha
  | o :: os, acc, ha, ho => by
    simp only [ancs]
    refine ancs_spec os (acc ++ [ancMask acc o]) (fun j hj i hi => ?_) (fun j o' hj => ?_)
    · rcases Nat.lt_trichotomy j acc.length with h | h | h
      · rw [List.getElem?_append_left h] at hi; exact ha j hj i hi
      · subst h
        simp only [List.getElem?_append_right (Nat.le_refl _), Nat.sub_self, List.getElem?_cons_zero, Option.getD_some] at hi
        exact ancMask_spec ha (ho 0 o rfl hj) hi
      · rw [List.getElem?_eq_none (by simp; omega)] at hi; simp at hi
    · have := ho (j + 1) o' (by simpa using hj)
      intro h; refine this ?_
      simp only [List.length_append, List.length_cons, List.length_nil] at h
      rw [show acc.length + (j + 1) = acc.length + (0 + 1) + j by omega]; exact h

/-- An operation comes behind those that it waits for. -/
def edgesOK : List Oper → Nat → Bool
  | [], _ => true
  | o :: os, k => (o.after.toList.all fun e => !Region.binds .any e || decide (e.on < k)) && edgesOK os (k + 1)

theorem edgesOK_spec : ∀ (os : List Oper) (k : Nat), edgesOK os k = true → ∀ j o, os[j]? = some o → ∀ e ∈ o.after, Region.binds .any e = true → e.on < k + j
  | [], _, _ => fun j o h => by simp at h
  | o :: os, k, h => fun j o' hj e he hb => by
    simp only [edgesOK, Bool.and_eq_true, List.all_eq_true] at h
    cases j with
    | zero =>
      simp only [List.getElem?_cons_zero, Option.some.injEq] at hj; subst hj
      have := h.1 e (by simpa using he)
      simpa [hb] using this
    | succ j =>
      have := edgesOK_spec os (k + 1) h.2 j o' (by simpa using hj) e he hb
      omega

def compat (ops : Array Oper) (x : Oper) (e : Eff) (y : Oper) (e' : Eff) : Bool :=
  x.apart ops y && (disjL e.wh e'.wh && (disjL e.wh e'.rh && disjL e'.wh e.rh))

/-- Operation x (number i) and those behind it. -/
def freeRow (ops : Array Oper) (i : Nat) (x : Oper) (e : Eff) : List Oper → List Nat → List Eff → Bool
  | y :: ys, m :: ms, e' :: es => (m.testBit i || compat ops x e y e') && freeRow ops i x e ys ms es
  | _, _, _ => true

def freeAll (ops : Array Oper) : Nat → List Oper → List Nat → List Eff → Bool
  | i, x :: xs, _ :: ms, e :: es => freeRow ops i x e xs ms es && freeAll ops (i + 1) xs ms es
  | _, _, _, _ => true

def freeOK (ops : Array Oper) (es : List Eff) : Bool := freeAll ops 0 ops.toList (ancs ops.toList []) es

theorem freeRow_spec {ops : Array Oper} {i : Nat} {x : Oper} {e : Eff} : ∀ {ys : List Oper} {ms : List Nat} {es : List Eff}, freeRow ops i x e ys ms es = true →
    ∀ {j : Nat} {y : Oper} {m : Nat} {e' : Eff}, ys[j]? = some y → ms[j]? = some m → es[j]? = some e' → m.testBit i = false → compat ops x e y e' = true
  | [], _, _, _, j, _, _, _, h1, _, _, _ => by simp at h1
  | _ :: _, [], _, _, j, _, _, _, _, h2, _, _ => by simp at h2
  | _ :: _, _ :: _, [], _, j, _, _, _, _, _, h3, _ => by simp at h3
  | y :: ys, m :: ms, e' :: es, h, j, y', m', e'', h1, h2, h3, h4 => by
    simp only [freeRow, Bool.and_eq_true, Bool.or_eq_true] at h
    cases j with
    | zero =>
      simp only [List.getElem?_cons_zero, Option.some.injEq] at h1 h2 h3
      subst h1 h2 h3
      exact h.1.resolve_left (by simp [h4])
    | succ j => exact freeRow_spec h.2 (by simpa using h1) (by simpa using h2) (by simpa using h3) h4

theorem freeAll_spec {ops : Array Oper} : ∀ {xs : List Oper} {ms : List Nat} {es : List Eff} {k : Nat}, freeAll ops k xs ms es = true →
    ∀ {i j : Nat} {x y : Oper} {m : Nat} {e e' : Eff}, i < j → xs[i]? = some x → xs[j]? = some y → ms[j]? = some m → es[i]? = some e → es[j]? = some e' → m.testBit (k + i) = false → compat ops x e y e' = true
  | [], _, _, _, _, i, j, _, _, _, _, _, _, h1, _, _, _, _, _ => by simp at h1
  | _ :: _, [], _, _, _, i, j, _, _, _, _, _, _, _, _, h2, _, _, _ => by simp at h2
  | _ :: _, _ :: _, [], _, _, i, j, _, _, _, _, _, _, _, _, _, h3, _, _ => by simp at h3
  | x :: xs, m :: ms, e :: es, k, h, i, j, x', y', m', e', e'', hij, h1, h2, h3, h4, h5, h6 => by
    simp only [freeAll, Bool.and_eq_true] at h
    cases j with
    | zero => omega
    | succ j =>
      simp only [List.getElem?_cons_succ] at h2 h3 h5
      cases i with
      | zero =>
        simp only [List.getElem?_cons_zero, Option.some.injEq] at h1 h4
        subst h1 h4
        exact freeRow_spec h.1 h2 h3 h5 h6
      | succ i =>
        simp only [List.getElem?_cons_succ] at h1 h4
        exact freeAll_spec h.2 (by omega) h1 h2 h3 h4 h5 (by rw [show k + 1 + i = k + (i + 1) by omega]; exact h6)

theorem ancs_length : ∀ (os : List Oper) (acc : List Nat), (ancs os acc).length = acc.length + os.length
  | [], acc => by simp [ancs]
  | o :: os, acc => by simp only [ancs]; rw [ancs_length os]; simp; omega

/-! ### States of different orders -/

section
variable {P : Program} {ops : Array Oper} {es : List Eff} {s : St}

theorem putT_other {T : Nat → D} {d : Option Nat} {v : D} {t : Nat} (h : d ≠ some t) : putT T d v t = T t := by
  cases d with
  | none => rfl
  | some t' => exact upd_ne _ _ (fun e => h (by rw [e]))

theorem putT_cong {T T' : Nat → D} {d : Option Nat} {v : D} {t : Nat} (h : T t = T' t) : putT T d v t = putT T' d v t := by
  cases d with
  | none => exact h
  | some t' => simp only [putT, upd]; split <;> simp [h]

theorem putT_comm {T : Nat → D} {d d' : Option Nat} {v v' : D} (h : ∀ t, d = some t → d' ≠ some t) : putT (putT T d v) d' v' = putT (putT T d' v') d v := by
  cases d with
  | none => rfl
  | some t =>
    cases d' with
    | none => rfl
    | some t' =>
      have hne : t ≠ t' := fun e => h t rfl (by rw [e])
      funext x
      simp only [putT, upd]
      split <;> split <;> first | rfl | (exact absurd ((by assumption : x = t).symm.trans (by assumption)) hne) | skip
      all_goals (rename_i h1 h2; exact absurd (h2.symm.trans h1) hne)

theorem foldS_T {S S' : Nat → Bool} {t : Nat} : ∀ {n : Nat}, (∀ (j : Nat) (o : Oper), j < n → ops[j]? = some o → o.dst = some t → S j = S' j) → (foldS ops es S n s).T t = (foldS ops es S' n s).T t
  | 0, _ => rfl
  | n + 1, h => by
    have ih := foldS_T (n := n) fun j o hj => h j o (Nat.lt_succ_of_lt hj)
    simp only [foldS]
    cases ho : ops[n]? with
    | none => simp only; cases S n <;> cases S' n <;> exact ih
    | some o =>
      cases he : es[n]? with
      | none => simp only; cases S n <;> cases S' n <;> exact ih
      | some e =>
        simp only
        by_cases hd : o.dst = some t
        · rw [h n o (Nat.lt_succ_self n) ho hd]
          cases S' n with
          | false => exact ih
          | true => exact putT_cong ih
        · have h1 : ∀ b, (bif b then aft o e (foldS ops es S n s) else foldS ops es S n s).T t = (foldS ops es S n s).T t := fun b => by
            cases b with
            | false => rfl
            | true => exact putT_other hd
          have h2 : ∀ b, (bif b then aft o e (foldS ops es S' n s) else foldS ops es S' n s).T t = (foldS ops es S' n s).T t := fun b => by
            cases b with
            | false => rfl
            | true => exact putT_other hd
          rw [h1, h2]; exact ih

theorem foldS_H {S S' : Nat → Bool} {R : Rng} (hcov : ∀ (j : Nat) (e : Eff), es[j]? = some e → ∀ x ∈ e.hw, CovW x e.wh) : ∀ {n : Nat}, (∀ (j : Nat) (e : Eff), j < n → es[j]? = some e → S j ≠ S' j → ∀ y ∈ e.wh, disjR y R = true) → eqR (foldS ops es S n s).H (foldS ops es S' n s).H R
  | 0, _ => eqR.refl _ _
  | n + 1, h => by
    have ih := foldS_H (S := S) (S' := S') (R := R) hcov (n := n) fun j e hj => h j e (Nat.lt_succ_of_lt hj)
    simp only [foldS]
    cases ho : ops[n]? with
    | none => simp only; cases S n <;> cases S' n <;> exact ih
    | some o =>
      cases he : es[n]? with
      | none => simp only; cases S n <;> cases S' n <;> exact ih
      | some e =>
        simp only
        have hc := hcov n e he
        have hn := h n e (Nat.lt_succ_self n) he
        cases hS : S n <;> cases hS' : S' n
        · exact ih
        · exact ih.trans (eqR_apps_disj (hn (by simp [hS, hS'])) hc)
        · exact (eqR_apps_disj (hn (by simp [hS, hS'])) hc).symm.trans ih
        · exact eqR.apps e.hw ih

theorem disjL_spec {l m : List Rng} (h : disjL l m = true) : ∀ a ∈ l, ∀ b ∈ m, disjR a b = true := by
  simp only [disjL, List.all_eq_true] at h; exact h

theorem aft_comm {o o' : Oper} {e e' : Eff} (hc : ∀ x ∈ e.hw, CovW x e.wh) (hc' : ∀ x ∈ e'.hw, CovW x e'.wh) (h : compat ops o e o' e' = true) (s : St) : aft o' e' (aft o e s) = aft o e (aft o' e' s) := by
  simp only [compat, Bool.and_eq_true] at h
  obtain ⟨h1, h2, _⟩ := h
  obtain ⟨_, h4, _⟩ := Oper.apart_spec h1
  simp only [aft]
  rw [putT_comm h4, apps_comm (disjL_spec h2) hc hc']

theorem foldS_add {S : Nat → Bool} {i : Nat} {o : Oper} {e : Eff} (ho : ops[i]? = some o) (he : es[i]? = some e) (hS : S i = false) (hcov : ∀ (j : Nat) (e : Eff), es[j]? = some e → ∀ x ∈ e.hw, CovW x e.wh)
    (hfree : ∀ (j : Nat) (o' : Oper) (e' : Eff), i < j → ops[j]? = some o' → es[j]? = some e' → S j = true → compat ops o e o' e' = true) : ∀ {n : Nat}, i < n → foldS ops es (fun j => S j || j == i) n s = aft o e (foldS ops es S n s)
  | 0, h => by omega
  | n + 1, h => by
    by_cases hn : i = n
    · subst hn
      have hbelow : foldS ops es (fun j => S j || j == i) i s = foldS ops es S i s := foldS_congr fun j hj => by
        have : (j == i) = false := by simp; omega
        simp [this]
      simp only [foldS, hS, beq_self_eq_true, Bool.or_true, cond_true, cond_false, ho, he, hbelow]
    · have ih := foldS_add (S := S) ho he hS hcov hfree (n := n) (by omega)
      have hne : (n == i) = false := by simp; omega
      simp only [foldS, hne, Bool.or_false]
      rw [ih]
      cases hSn : S n with
      | false => rfl
      | true =>
        simp only [cond_true]
        cases hon : ops[n]? with
        | none => rfl
        | some o' =>
          cases hen : es[n]? with
          | none => rfl
          | some e' =>
            simp only
            exact aft_comm (hcov i e he) (hcov n e' hen) (hfree n o' e' (by omega) hon hen hSn) _

end

theorem countP_lt {p p' : Nat → Bool} : ∀ {l : List Nat}, (∀ x ∈ l, p' x = true → p x = true) → (∃ x ∈ l, p x = true ∧ p' x = false) → l.countP p' < l.countP p
  | [], _, ⟨x, h, _⟩ => by simp at h
  | y :: l, h, ⟨x, hx, h1, h2⟩ => by
    have hm : l.countP p' ≤ l.countP p := List.countP_mono_left fun z hz => h z (by simp [hz])
    rw [List.countP_cons, List.countP_cons]
    rcases List.mem_cons.1 hx with rfl | hx
    · simp only [h1, h2, if_true]; simp; omega
    · have ih := countP_lt (fun z hz => h z (by simp [hz])) ⟨x, hx, h1, h2⟩
      have := h y (by simp)
      cases hp' : p' y with
      | false => simp; omega
      | true => rw [this hp']; simp; omega

section
variable {P : Program} {TI : TT} {N nb : Nat} {ops : Array Oper} {Q : Exit → Act → World → Prop}

theorem region_any_aux (hT : TIok P TI) {es : List Eff} {s s' : St} (h : Run P TI N nb ops 0 s es s') (hedge : edgesOK ops.toList 0 = true) (hfree : freeOK ops es = true)
    {ρ0 : Nat → Place} {w0 : World} (hQ : ∀ a' w' ρ', Beh X N (· < nb) (· < nb + ops.size * 16) ρ0 w0 s' ρ' a' w' → Q .normal a' w') :
    ∀ (fuel : Nat) (listed : Array Bool) (a : Act) (w : World) (ρ : Nat → Place), listed.size = ops.size → Closed ops (fun i => listed.getD i false) → (List.range ops.size).countP (fun i => !listed.getD i false) ≤ fuel →
      Beh X N (· < nb) (Us nb ops.size fun i => listed.getD i false = true) ρ0 w0 (foldS ops es (fun i => listed.getD i false) ops.size s) ρ a w → wpAny P .any ops Q fuel listed a w := by
  obtain ⟨hspec, hend⟩ := run_spec h es s (Nat.zero_le _) rfl rfl
  have hcov : ∀ (j : Nat) (e : Eff), es[j]? = some e → ∀ x ∈ e.hw, CovW x e.wh := by
    intro j e he
    have hl := run_len h (Nat.zero_le _)
    obtain ⟨o, e', _, he', _, hst⟩ := hspec j (Nat.zero_le _) (by have := (List.getElem?_eq_some_iff.1 he).1; omega)
    rw [he] at he'; cases he'
    exact step_cov hst
  have done : ∀ (listed : Array Bool) (a : Act) (w : World) (ρ : Nat → Place), listed.size = ops.size → Region.ready .any ops listed = [] →
      Beh X N (· < nb) (Us nb ops.size fun i => listed.getD i false = true) ρ0 w0 (foldS ops es (fun i => listed.getD i false) ops.size s) ρ a w → Q .normal a w := by
    intro listed a w ρ hsz hr hb
    have hall : ∀ i, i < ops.size → listed.getD i false = true := by
      intro i
      induction i using Nat.strongRecOn with
      | _ i ih =>
        intro hi
        cases hl : listed.getD i false with
        | true => rfl
        | false =>
          exfalso
          obtain ⟨o, e, ho, _⟩ := hspec i (Nat.zero_le _) hi
          have hmem : i ∈ Region.ready .any ops listed := mem_ready.2 ⟨by
            have : i < listed.size := by omega
            simpa [Array.getD, this] using hl, o, ho, fun e he hb => by
            have := edgesOK_spec ops.toList 0 hedge i o (by simpa using ho) e he hb
            exact ih e.on (by omega) (by omega)⟩
          rw [hr] at hmem; simp at hmem
    have he : foldS ops es (fun i => listed.getD i false) ops.size s = s' := by
      rw [← hend]; exact foldS_congr fun i hi => hall i hi
    rw [he] at hb
    exact hQ a w ρ ⟨hb.rel.widen fun b => Us_lt, hb.fr, hb.mono⟩
  intro fuel
  induction fuel with
  | zero =>
    intro listed a w ρ hsz hcl hct hb
    have hr : Region.ready .any ops listed = [] := by
      apply List.eq_nil_iff_forall_not_mem.2
      intro i hi
      obtain ⟨h1, o, ho, _⟩ := mem_ready.1 hi
      have hlt : i < ops.size := (Array.getElem?_eq_some_iff.1 ho).1
      have h2 := List.countP_eq_zero.1 (Nat.le_zero.1 hct) i (by simpa using hlt)
      have : i < listed.size := by omega
      simp [Array.getD, this] at h1 h2
      rw [h1] at h2; cases h2
    exact ⟨hr, done listed a w ρ hsz hr hb⟩
  | succ fuel ih =>
    intro listed a w ρ hsz hcl hct hb
    refine ⟨fun hr => done listed a w ρ hsz hr hb, fun i hi => ?_⟩
    obtain ⟨h1, oi, hoi, hpre⟩ := mem_ready.1 hi
    have hlt : i < ops.size := (Array.getElem?_eq_some_iff.1 hoi).1
    have hltl : i < listed.size := by omega
    have hli : listed.getD i false = false := by simpa [Array.getD, hltl] using h1
    obtain ⟨o', e, ho', he, hd, hstep⟩ := hspec i (Nat.zero_le _) hlt
    rw [hoi] at ho'; cases ho'
    -- the masks
    have hanc : ∀ j, listed.getD j false = true → ∀ i, ((ancs ops.toList [])[j]?.getD 0).testBit i = true → listed.getD i false = true :=
      ancs_spec (S := fun i => listed.getD i false) ops.toList [] (fun j _ i hi => by simp at hi) (fun j o ho hS => hcl j o (by simpa using ho) (by simpa using hS))
    have hmask : ∀ j, j < ops.size → ∃ m, (ancs ops.toList [])[j]? = some m := fun j hj => ⟨(ancs ops.toList [])[j]'(by rw [ancs_length]; simpa using hj), by simp⟩
    have hlater : ∀ (j : Nat) (oj : Oper) (ej : Eff), i < j → ops[j]? = some oj → es[j]? = some ej → listed.getD j false = true → compat ops oi e oj ej = true := by
      intro j oj ej hij hoj hej hlj
      obtain ⟨m, hm⟩ := hmask j (Array.getElem?_eq_some_iff.1 hoj).1
      refine freeAll_spec hfree hij (by simpa using hoi) (by simpa using hoj) hm he hej ?_
      cases hb : m.testBit (0 + i) with
      | false => rfl
      | true =>
        have := hanc j hlj i (by rw [hm]; simpa using hb)
        rw [hli] at this; cases this
    have hearlier : ∀ (j : Nat) (oj : Oper) (ej : Eff), j < i → ops[j]? = some oj → es[j]? = some ej → listed.getD j false = false → compat ops oj ej oi e = true := by
      intro j oj ej hij hoj hej hlj
      obtain ⟨m, hm⟩ := hmask i hlt
      refine freeAll_spec hfree hij (by simpa using hoj) (by simpa using hoi) hm hej he ?_
      cases hb : m.testBit (0 + j) with
      | false => rfl
      | true =>
        -- i with its own predecessors
        have := ancs_spec (S := fun k => listed.getD k false || k == i) ops.toList [] (fun j _ i hi => by simp at hi) (fun k o ho hS e' he' hb' => by
          simp only [List.length_nil, Nat.zero_add, Bool.or_eq_true, beq_iff_eq] at hS ⊢
          rcases hS with hS | rfl
          · exact .inl (hcl k o (by simpa using ho) hS e' he' hb')
          · have : ops[k]? = some o := by simpa using ho
            rw [hoi] at this; cases this
            exact .inl (hpre e' he' hb')) i (by simp) j (by rw [hm]; simpa using hb)
        simp only [Bool.or_eq_true, beq_iff_eq, hlj] at this
        rcases this with h | h
        · cases h
        · omega
    -- the operation looks at the same
    have hloc : Step P TI ops (idsOf nb ops.size i) (foldS ops es (fun i => listed.getD i false) ops.size s) oi e := by
      refine step_local hstep (fun t ht => ?_) (fun R hR => eqR.same ?_)
      · rw [← foldS_below (n := ops.size) (Nat.le_of_lt hlt)]
        refine foldS_T fun j oj hj hoj hdj => ?_
        obtain ⟨oj', ej, hoj', hej, _⟩ := hspec j (Nat.zero_le _) hj
        rw [hoj] at hoj'; cases hoj'
        rcases Nat.lt_trichotomy j i with hji | hji | hji
        · have : decide (j < i) = true := by simp [hji]
          rw [this]
          cases hlj : listed.getD j false with
          | true => rfl
          | false =>
            have hc := hearlier j oj ej hji hoj hej hlj
            simp only [compat, Bool.and_eq_true] at hc
            exact absurd ht ((Oper.apart_spec hc.1).1 t hdj)
        · subst hji; simp [hli]
        · have : decide (j < i) = false := by simp; omega
          rw [this]
          cases hlj : listed.getD j false with
          | false => rfl
          | true =>
            have hc := hlater j oj ej hji hoj hej hlj
            simp only [compat, Bool.and_eq_true] at hc
            exact absurd ht ((Oper.apart_spec hc.1).2.2 t hdj)
      · rw [← foldS_below (n := ops.size) (Nat.le_of_lt hlt)]
        refine foldS_H hcov fun j ej hj hej hne y hy => ?_
        obtain ⟨oj, ej', hoj, hej', _⟩ := hspec j (Nat.zero_le _) hj
        rw [hej] at hej'; cases hej'
        rcases Nat.lt_trichotomy j i with hji | hji | hji
        · have hlj : listed.getD j false = false := by
            cases hl : listed.getD j false with
            | false => rfl
            | true => exact absurd (by simp [hl, hji]) hne
          have hc := hearlier j oj ej hji hoj hej hlj
          simp only [compat, Bool.and_eq_true] at hc
          exact disjL_spec hc.2.2.1 y hy R hR
        · subst hji; exact absurd (by simp [hli]) hne
        · have hlj : listed.getD j false = true := by
            cases hl : listed.getD j false with
            | true => rfl
            | false => exact absurd (by rw [hl]; simp; omega) hne
          have hc := hlater j oj ej hji hoj hej hlj
          simp only [compat, Bool.and_eq_true] at hc
          exact disjL_spec hc.2.2.2 y hy R hR
    have hget : ∀ j, (listed.setIfInBounds i true).getD j false = (listed.getD j false || j == i) := fun j => by
      by_cases hji : i = j
      · subst hji
        have e1 : (listed.setIfInBounds i true).getD i false = true := by simp [Array.getD, hltl]
        rw [e1]; simp
      · rw [getD_set_ne _ hji]
        have : (j == i) = false := by simp; exact fun e => hji e.symm
        simp [this]
    refine step_sound hT hb.rel (fun j => Us_fresh hlt (by simp [hli]) j) (fun i' j' h => (idsOf_inj hlt hlt h).2) hoi hd hloc fun a' w' ρ' hb' => ?_
    refine ih (listed.setIfInBounds i true) a' w' ρ' (by simpa using hsz) ?_ ?_ ?_
    · intro j o hj hS e' he' hbe
      simp only [hget, Bool.or_eq_true, beq_iff_eq] at hS ⊢
      rcases hS with hS | rfl
      · exact .inl (hcl j o hj hS e' he' hbe)
      · rw [hoi] at hj; cases hj
        exact .inl (hpre e' he' hbe)
    · have hlt' : (List.range ops.size).countP (fun k => !(listed.setIfInBounds i true).getD k false) < (List.range ops.size).countP (fun k => !listed.getD k false) := by
        refine countP_lt (fun x _ hx => ?_) ⟨i, by simpa using hlt, by simp [hli], by simp [hget]⟩
        rw [hget] at hx
        cases hlx : listed.getD x false with
        | false => rfl
        | true => rw [hlx] at hx; simp at hx
      omega
    · have hstate : foldS ops es (fun j => (listed.setIfInBounds i true).getD j false) ops.size s = aft oi e (foldS ops es (fun i => listed.getD i false) ops.size s) := by
        rw [← foldS_add (S := fun i => listed.getD i false) hoi he hli hcov hlater hlt]
        exact foldS_congr fun j _ => hget j
      have hsub : ∀ b, Us nb ops.size (fun i => listed.getD i false = true) b ∨ Win (idsOf nb ops.size i) b → Us nb ops.size (fun j => (listed.setIfInBounds i true).getD j false = true) b := by
        rintro b ((h | ⟨k, h1, h2, h3⟩) | h)
        · exact .inl h
        · exact .inr ⟨k, (hget k).trans (by rw [h1]; rfl), h2, h3⟩
        · exact .inr ⟨i, (hget i).trans (by simp), hlt, h⟩
      rw [hstate]
      exact ⟨hb'.rel.widen hsub, hb.fr.trans hb'.fr, hb.mono.trans hb'.mono fun b hb => .inl hb⟩

theorem Mono.drew {U : Nat → Prop} {ρ ρ' : Nat → Place} {w w' : World} (h : Mono U ρ ρ' { w with drawn := w.drawn + 1 } w') : Mono U ρ ρ' w w' := ⟨h.back, h.im, h.row⟩

theorem Fr.drew1 {ρ ρ' : Nat → Place} {w w' : World} (h : Fr ρ ρ' { w with drawn := w.drawn + 1 } w') : Fr ρ ρ' w w' := ⟨h.os, h.tape, h.output, h.size, h.keep, h.im⟩

theorem Rel.drew {U : Nat → Prop} {ρ : Nat → Place} {a : Act} {w : World} {s : St} (h : Rel X N U ρ a w s) : Rel X N U ρ a { w with drawn := w.drawn + 1 } s := by
  have m : Mono U ρ ρ w { w with drawn := w.drawn + 1 } := Mono.of_heap rfl
  refine ⟨h.size, fun t => VR_mono m _ _ (h.tids t) (h.tmp t), h.tids, h.hids, h.dom, ⟨fun b g hb => ?_, h.heap.nil, h.heap.live, h.heap.inj, h.heap.clear, h.heap.avoid, fun g d hg => VR_mono m _ _ (fun b hb => by simp [D.ids] at hb) (h.heap.globs g d hg)⟩, h.defers⟩
  obtain ⟨sl, h1, h2⟩ := h.heap.row b g hb
  exact ⟨sl, h1, slotR_mono m rfl sl (h.hids b sl h1) h2⟩

/-- A region, drawn or not. -/
theorem region_sound (hT : TIok P TI) (hm : P.follows .mixedOrders = true) {id : Nat} {dr : Bool} {es : List Eff} {s s' : St} (h : Run P TI N nb ops 0 s es s') (hok : dr = false ∨ (edgesOK ops.toList 0 = true ∧ freeOK ops es = true))
    {ρ : Nat → Place} {a : Act} {w : World} (hr : Rel X N (· < nb) ρ a w s) (hQ : ∀ a' w' ρ', Beh X N (· < nb) (· < nb + ops.size * 16) ρ w s' ρ' a' w' → Q .normal a' w') : (Code.region id ops dr).wp P Q a w := by
  cases dr with
  | false =>
    have h1 := run_inorder (Q := Q) hT h (hr.widen fun b hb => .inl hb) fun a' w' ρ' hb => hQ a' w' ρ' ⟨hb.rel, hb.fr, hb.mono.sub fun b hb => .inl hb⟩
    exact wp_region (by simpa using h1)
  | true =>
    rcases hok with hok | ⟨h1, h2⟩
    · cases hok
    refine wp_region_any hm ?_
    refine region_any_aux hT h h1 h2 (ρ0 := ρ) (w0 := w) hQ ops.size _ a _ ρ (by simp) (fun j o _ hS => ?_) ?_ ⟨?_, ⟨rfl, rfl, rfl, Nat.le_refl _, fun _ _ => rfl, fun _ h => h.2⟩, Mono.of_heap rfl⟩
    · simp [Array.getD] at hS
    · exact Nat.le_trans (List.countP_le_length) (by simp)
    · have : foldS ops es (fun i => (Array.replicate ops.size false).getD i false) ops.size s = s := by
        have h3 : ∀ n, foldS ops es (fun _ => false) n s = s := fun n => by
          induction n with
          | zero => rfl
          | succ n ih => simp only [foldS, cond_false]; exact ih
        rw [← h3 ops.size]
        rw [foldS_congr (S' := fun _ => false) fun i hi => by simp [Array.getD]]
        rw [h3, h3]
      rw [this]
      exact (hr.widen fun b hb => .inl hb).drew

end

end Go.Tw
end

section
namespace Go.Tw
variable {X : Nat → Prop}

/-! ## Blocks are renumbered, forgotten, frozen -/

/-- The state s, renumbered by m; of the new numbers those of K are in use. -/
structure Weak (nb0 nb' : Nat) (m : Nat → Nat) (K : Nat → Bool) (s s' : St) : Prop where
  tmp : ∀ t, Wk ((s'.T t).ren m) (s.T t)
  tids : ∀ t, ∀ b ∈ (s'.T t).ids, b < nb' ∧ K b = true
  hids : ∀ b sl, s'.H b = some sl → b < nb' ∧ K b = true ∧ ∀ c ∈ sl.ids, c < nb' ∧ K c = true
  some_ : ∀ b sl', s'.H b = some sl' → ∃ sl, s.H (m b) = some sl ∧ SlotWk (sl'.ren m) sl
  none_ : ∀ b, b < nb' → K b = true → s'.H b = none → s.H (m b) = none
  inj : ∀ b c, b < nb' → c < nb' → K b = true → K c = true → m b = m c → b = c
  base : ∀ b, b < nb0 → b < nb' → K b = true → m b = b

theorem weak_sound {nb0 nb nb' N : Nat} {m : Nat → Nat} {K : Nat → Bool} {s s' : St} {ρ : Nat → Place} {a : Act} {w : World} (h : Weak nb0 nb' m K s s') (hr : Rel X N (· < nb) ρ a w s) :
    ∃ ρ', Beh X N (· < nb0) (· < nb') ρ w s' ρ' a w := by
  let ρ' : Nat → Place := fun b => if b < nb' ∧ K b = true then ρ (m b) else .none
  have h1 : ∀ b, b < nb' → K b = true → ρ' b = ρ (m b) := fun b h1 h2 => by simp [ρ', h1, h2]
  have h2 : ∀ b, ρ' b ≠ .none → b < nb' ∧ K b = true := fun b hb => by
    by_cases hc : b < nb' ∧ K b = true
    · exact hc
    · exact absurd (by simp only [ρ', if_neg hc]) hb
  have tr : Trans X X ρ ρ' w m (fun b => b < nb' ∧ K b = true) := by
    refine ⟨fun b hb => h1 b hb.1 hb.2, fun g hx hi => ⟨hx, hi.1, fun b hb => ?_⟩⟩
    obtain ⟨h3, h4⟩ := h2 b (by rw [hb]; simp)
    rw [h1 b h3 h4] at hb
    exact hi.2 _ hb
  have hfr : Fr ρ ρ' w w := ⟨rfl, rfl, rfl, Nat.le_refl _, fun _ _ => rfl, fun g hg b hb => by
    obtain ⟨h3, h4⟩ := h2 b (by rw [hb]; simp)
    rw [h1 b h3 h4] at hb
    exact hg.2 _ hb⟩
  refine ⟨ρ', ⟨hr.size, fun t => VR_in tr _ _ (h.tids t) ((h.tmp t).1 _ _ _ _ (hr.tmp t)), fun t b hb => (h.tids t b hb).1, fun b sl hb c hc => ((h.hids b sl hb).2.2 c hc).1, fun b hb => (h2 b hb).1, ?_, hr.defers⟩, hfr, ?_⟩
  · refine ⟨fun b g hb => ?_, fun b hb => ?_, fun b sl hb => ?_, fun b c g hb hc => ?_, fun b g hb => ?_, hr.heap.avoid, fun g d hg => VR_in tr _ _ (fun b hb => by simp [D.ids] at hb) (by rw [ren_closed _ _ (by simp [D.ids])]; exact hr.heap.globs g d hg)⟩
    · obtain ⟨h3, h4⟩ := h2 b (by rw [hb]; simp)
      rw [h1 b h3 h4] at hb
      obtain ⟨sl, h5, h6⟩ := hr.heap.row _ g hb
      cases hH : s'.H b with
      | none => have := h.none_ b h3 h4 hH; rw [this] at h5; cases h5
      | some sl' =>
        obtain ⟨sl0, h7, h8⟩ := h.some_ b sl' hH
        rw [h5] at h7; cases h7
        exact ⟨sl', rfl, slot_in tr sl' (h.hids b sl' hH).2.2 (slot_wk h8 h6)⟩
    · obtain ⟨h3, h4⟩ := h2 b (by rw [hb]; simp)
      rw [h1 b h3 h4] at hb
      have h5 := hr.heap.nil _ hb
      cases hH : s'.H b with
      | none => have := h.none_ b h3 h4 hH; rw [this] at h5; cases h5
      | some sl' =>
        obtain ⟨sl0, h7, h8⟩ := h.some_ b sl' hH
        rw [h5] at h7; cases h7
        cases sl' with
        | cells cs =>
          simp only [Slot.ren, SlotWk, List.take_nil] at h8
          have h9 := WkL.length h8
          rw [renL_eq] at h9; simp at h9
          rw [h9]
        | map es => simp [Slot.ren, SlotWk] at h8
    · obtain ⟨h3, h4, _⟩ := h.hids b sl hb
      obtain ⟨sl0, h5, _⟩ := h.some_ b sl hb
      rw [h1 b h3 h4]
      exact hr.heap.live _ _ h5
    · obtain ⟨h3, h4⟩ := h2 b (by rw [hb]; simp)
      obtain ⟨h5, h6⟩ := h2 c (by rw [hc]; simp)
      rw [h1 b h3 h4] at hb
      rw [h1 c h5 h6] at hc
      exact h.inj b c h3 h5 h4 h6 (hr.heap.inj _ _ g hb hc)
    · obtain ⟨h3, h4⟩ := h2 b (by rw [hb]; simp)
      rw [h1 b h3 h4] at hb
      exact hr.heap.clear _ g hb
  · refine ⟨fun b hb hne => ?_, fun g hg => ⟨⟨hg.1, hfr.im g hg⟩, rfl⟩, fun b g cur e _ _ hc => ⟨cur, hc, rfl⟩⟩
    obtain ⟨h3, h4⟩ := h2 b hne
    rw [h1 b h3 h4, h.base b hb h3 h4]

/-! ### Freezing -/

def frzL (sz : Nat) (cs : List D) : Nat → List D → Prop
  | _, [] => True
  | o, d :: es => (∃ ds, d.cells? = some ds ∧ d.solid = true ∧ ds.length = sz ∧ (cs.drop o).take sz = ds) ∧ frzL sz cs (o + sz) es

mutual
/-- Where block b0 (of cells cs) was named, what it holds is named now. -/
inductive FV (b0 : Nat) (cs : List D) : D → D → Prop
  | refl (d : D) : FV b0 cs d d
  | sl {sz o n : Nat} {es : List D} (h : frzL sz cs o es) (hl : es.length = n) : FV b0 cs (.sl b0 sz o n) (.isl sz es)
  | ptr {o : Nat} {d : D} {ds : List D} (h : d.cells? = some ds) (hp : 0 < ds.length) (he : (cs.drop o).take ds.length = ds) : FV b0 cs (.ptr b0 o) (.iptr d)
  | agg {ds ds' : List D} (h : FVL b0 cs ds ds') : FV b0 cs (.agg ds) (.agg ds')
  | tup {ds ds' : List D} (h : FVL b0 cs ds ds') : FV b0 cs (.tup ds) (.tup ds')
  | fn {f : FuncId} {ds ds' : List D} (h : FVL b0 cs ds ds') : FV b0 cs (.fn f ds) (.fn f ds')
inductive FVL (b0 : Nat) (cs : List D) : List D → List D → Prop
  | nil : FVL b0 cs [] []
  | cons {d d' : D} {ds ds' : List D} (h : FV b0 cs d d') (t : FVL b0 cs ds ds') : FVL b0 cs (d :: ds) (d' :: ds')
end

theorem FVL.length {b0 : Nat} {cs : List D} : ∀ {ds ds' : List D}, FVL b0 cs ds ds' → ds'.length = ds.length
  | _, _, .nil => rfl
  | _, _, .cons _ t => by simp [t.length]

theorem frzL_len {sz : Nat} {cs : List D} : ∀ {es : List D} {o : Nat}, frzL sz cs o es → ∀ i d, es[i]? = some d → ∃ ds, d.cells? = some ds ∧ d.solid = true ∧ ds.length = sz ∧ (cs.drop (o + i * sz)).take sz = ds
  | [], _, _, i, d, h => by simp at h
  | e :: es, o, h, i, d, hd => by
    simp only [frzL] at h
    cases i with
    | zero => simp only [List.getElem?_cons_zero, Option.some.injEq] at hd; subst hd; simpa using h.1
    | succ i =>
      have := frzL_len h.2 i d (by simpa using hd)
      rwa [show o + sz + i * sz = o + (i + 1) * sz by rw [Nat.succ_mul]; omega] at this

theorem frzL_ids {sz : Nat} {cs es : List D} {o : Nat} (h : frzL sz cs o es) (hc : D.idsL cs = []) : D.idsL es = [] := by
  refine idsL_nil_of fun d hd => ?_
  obtain ⟨i, hi⟩ := List.getElem?_of_mem hd
  obtain ⟨ds, h1, _, _, h4⟩ := frzL_len h i d hi
  rw [← ids_cells h1]
  apply List.eq_nil_iff_forall_not_mem.2
  intro b hb
  rw [← h4] at hb
  have := idsL_drop (idsL_take hb)
  rw [hc] at this; simp at this

section
variable {b0 : Nat} {cs : List D}

mutual
theorem FV_ids (hc : D.idsL cs = []) : ∀ {d d' : D}, FV b0 cs d d' → ∀ b ∈ d'.ids, b ∈ d.ids
  | _, _, .refl d, b, hb => hb
  | _, _, .sl _ _, b, hb => by simp [D.ids] at hb
  | _, _, .ptr _ _ _, b, hb => by simp [D.ids] at hb
  | _, _, .agg h, b, hb => by simp only [D.ids] at hb ⊢; exact FVL_ids hc h b hb
  | _, _, .tup h, b, hb => by simp only [D.ids] at hb ⊢; exact FVL_ids hc h b hb
  | _, _, .fn h, b, hb => by simp only [D.ids] at hb ⊢; exact FVL_ids hc h b hb
theorem FVL_ids (hc : D.idsL cs = []) : ∀ {ds ds' : List D}, FVL b0 cs ds ds' → ∀ b ∈ D.idsL ds', b ∈ D.idsL ds
  | _, _, .nil, b, hb => hb
  | _, _, .cons h t, b, hb => by
    simp only [D.idsL, List.mem_append] at hb ⊢
    exact hb.imp (FV_ids hc h b) (FVL_ids hc t b)
end

/-- A value with given cells. -/
theorem VR_of_cells {ρ : Nat → Place} {w : World} {d : D} {ds : List D} {vs : List Value} (hc : d.cells? = some ds) (hv : VRs X ρ w ds vs) : ∃ u, VR X ρ w d u ∧ u.cells = vs.toArray := by
  have one : d.scal = true → ds = [d] → ∃ u, VR X ρ w d u ∧ u.cells = vs.toArray := fun hs hd => by
    subst hd
    simp only [VRs] at hv
    obtain ⟨v, vs', rfl, h2, h3⟩ := hv
    exact ⟨v, h2, by rw [one_cells (scal_one h2 hs), h3]⟩
  cases d <;> simp only [D.cells?, Option.some.injEq, reduceCtorEq] at hc
  case agg cs' => subst hc; exact ⟨.agg vs.toArray, by simp only [VR]; exact ⟨vs, rfl, hv⟩, by simp [Value.cells]⟩
  all_goals exact one rfl hc.symm

variable {ρ : Nat → Place} {w : World} {H : Nat → Option Slot}

theorem frz_mono (b0 : Nat) (I : Nat → Prop) : Mono I ρ (upd ρ b0 .none) w w := by
  refine ⟨fun b _ hb => ?_, fun g hg => ⟨⟨hg.1, fun b hb => ?_⟩, rfl⟩, fun b g cur e _ _ hc => ⟨cur, hc, rfl⟩⟩
  · by_cases e : b = b0
    · subst e; rw [upd_same] at hb; exact absurd rfl hb
    · rw [upd_ne _ _ e]
  · by_cases e : b = b0
    · subst e; rw [upd_same] at hb; cases hb
    · rw [upd_ne _ _ e] at hb; exact hg.2 b hb

mutual
theorem FV_sound (h : HRel X ρ w H) (hb : H b0 = some (.cells cs)) (hc : D.idsL cs = []) : ∀ {d d' : D}, FV b0 cs d d' → ∀ v, VR X ρ w d v → VR X (upd ρ b0 .none) w d' v
  | _, _, .refl d, v, hv => VR_mono (frz_mono b0 fun _ => True) d v (fun _ _ => trivial) hv
  | _, _, .sl (sz := sz) (o := o) (n := n) (es := es) hf hl, v, hv => by
    simp only [VR] at hv ⊢
    refine ⟨frzL_ids hf hc, ?_⟩
    cases hp : ρ b0 with
    | none => exact absurd hp (h.live b0 _ hb)
    | nil =>
      obtain ⟨_, h2, h3⟩ := hv.2.2 hp
      subst h2
      have : es = [] := List.length_eq_zero_iff.1 hl
      subst this
      exact ⟨none, 0, by simpa using h3, by simp, fun h => absurd rfl h⟩
    | row g =>
      obtain ⟨cap, cur, e, h1, h2, h3, h4, h5⟩ := hv.2.1 g hp
      refine ⟨some ⟨g, o, none⟩, cap, by rw [hl]; exact h1, by omega, fun hne => ⟨g, o, rfl, ⟨h.clear b0 g hp, (Array.getElem?_eq_some_iff.1 h2).1, fun b hbr => ?_⟩, ?_⟩⟩
      · by_cases e : b = b0
        · subst e; rw [upd_same] at hbr; cases hbr
        · rw [upd_ne _ _ e] at hbr; exact e (h.inj _ _ g hbr hp)
      · obtain ⟨sl, h6, h7⟩ := h.row b0 g hp
        rw [hb] at h6; cases h6
        refine VRe_of_get fun i d hd => ?_
        obtain ⟨ds, h8, h9, h10, h11⟩ := frzL_len hf i d hd
        refine ⟨h9, ?_⟩
        have hlen : o + i * sz + sz ≤ cs.length ∨ sz = 0 := by
          have := congrArg List.length h11
          simp only [List.length_take, List.length_drop] at this
          omega
        rcases hlen with hlen | hz
        · obtain ⟨vs, h12, h13, h14⟩ := slot_cells h7 (o + i * sz) sz hlen
          rw [h11] at h13
          obtain ⟨u, h15, h16⟩ := VR_of_cells h8 h13
          refine ⟨u, VR_mono (frz_mono b0 fun _ => True) d u (fun _ _ => trivial) h15, by rw [h16]; simpa using h12, fun j x hx => ?_⟩
          rw [h16] at hx
          exact h14 j x (by simpa using hx)
        · subst hz
          have hds : ds = [] := List.length_eq_zero_iff.1 h10
          subst hds
          obtain ⟨u, h15, h16⟩ := VR_of_cells (X := X) (ρ := ρ) (w := w) (vs := []) h8 (by simp [VRs])
          refine ⟨u, VR_mono (frz_mono b0 fun _ => True) d u (fun _ _ => trivial) h15, by rw [h16]; rfl, fun j x hx => ?_⟩
          rw [h16] at hx; simp at hx
  | _, _, .ptr (o := o) (d := d) (ds := ds) h1 h2 h3, v, hv => by
    simp only [VR] at hv ⊢
    have hid : D.ids d = [] := by
      rw [← ids_cells h1]
      apply List.eq_nil_iff_forall_not_mem.2
      intro b hb
      rw [← h3] at hb
      have := idsL_drop (idsL_take hb)
      rw [hc] at this; simp at this
    refine ⟨hid, ?_⟩
    have hlen : o + ds.length ≤ cs.length := by
      have := congrArg List.length h3
      simp only [List.length_take, List.length_drop] at this
      omega
    cases hp : ρ b0 with
    | none => exact absurd hp (h.live b0 _ hb)
    | nil =>
      have := h.nil b0 hp
      rw [hb] at this
      simp only [Option.some.injEq, Slot.cells.injEq] at this
      subst this
      simp only [List.length_nil] at hlen; omega
    | row g =>
      obtain ⟨sl, h6, h7⟩ := h.row b0 g hp
      rw [hb] at h6; cases h6
      obtain ⟨vs, h12, h13, h14⟩ := slot_cells h7 o ds.length hlen
      rw [h3] at h13
      obtain ⟨u, h15, h16⟩ := VR_of_cells h1 h13
      refine ⟨g, o, u, hv.2 g hp, ⟨h.clear b0 g hp, row_lt h hp, fun b hbr => ?_⟩, VR_mono (frz_mono b0 fun _ => True) d u (fun _ _ => trivial) h15, by rw [h16]; simp; omega, fun j x hx => ?_⟩
      · by_cases e : b = b0
        · subst e; rw [upd_same] at hbr; cases hbr
        · rw [upd_ne _ _ e] at hbr; exact e (h.inj _ _ g hbr hp)
      · rw [h16] at hx
        exact h14 j x (by simpa using hx)
  | _, _, .agg t, v, hv => by
    simp only [VR] at hv ⊢
    obtain ⟨vs, h1, h2⟩ := hv
    exact ⟨vs, h1, FVL_sound h hb hc t vs h2⟩
  | _, _, .tup t, v, hv => by
    simp only [VR] at hv ⊢
    obtain ⟨vs, h1, h2⟩ := hv
    exact ⟨vs, h1, FVL_sound h hb hc t vs h2⟩
  | _, _, .fn t, v, hv => by
    simp only [VR] at hv ⊢
    obtain ⟨vs, h1, h2⟩ := hv
    exact ⟨vs, h1, FVL_sound h hb hc t vs h2⟩
theorem FVL_sound (h : HRel X ρ w H) (hb : H b0 = some (.cells cs)) (hc : D.idsL cs = []) : ∀ {ds ds' : List D}, FVL b0 cs ds ds' → ∀ vs, VRs X ρ w ds vs → VRs X (upd ρ b0 .none) w ds' vs
  | _, _, .nil, vs, hv => by simpa only [VRs] using hv
  | _, _, .cons hd t, vs, hv => by
    simp only [VRs] at hv ⊢
    obtain ⟨v, vs', h1, h2, h3⟩ := hv
    exact ⟨v, vs', h1, FV_sound h hb hc hd v h2, FVL_sound h hb hc t vs' h3⟩
end

end

def SlotF (b0 : Nat) (cs : List D) : Slot → Slot → Prop
  | .cells ds, .cells ds' => FVL b0 cs ds ds'
  | .map es, .map es' => es = es'
  | _, _ => False

structure Frz (b0 : Nat) (cs : List D) (s s' : St) : Prop where
  at_ : s.H b0 = some (.cells cs)
  closed : D.idsL cs = []
  dead : s'.H b0 = none
  tmp : ∀ t, FV b0 cs (s.T t) (s'.T t)
  some_ : ∀ b sl, b ≠ b0 → s.H b = some sl → ∃ sl', s'.H b = some sl' ∧ SlotF b0 cs sl sl'
  none_ : ∀ b, b ≠ b0 → s.H b = none → s'.H b = none

theorem SlotF_ids {b0 : Nat} {cs : List D} (hc : D.idsL cs = []) : ∀ {sl sl' : Slot}, SlotF b0 cs sl sl' → ∀ b ∈ sl'.ids, b ∈ sl.ids
  | .cells _, .cells _, h, b, hb => FVL_ids hc h b hb
  | .map _, .map _, h, b, hb => by cases h; exact hb

theorem frz_sound {nb0 nb N b0 : Nat} {cs : List D} {s s' : St} {ρ : Nat → Place} {a : Act} {w : World} (h : Frz b0 cs s s') (hr : Rel X N (· < nb) ρ a w s) : Beh X N (· < nb0) (· < nb) ρ w s' (upd ρ b0 .none) a w := by
  have m := frz_mono (ρ := ρ) (w := w) b0 (· < nb0)
  have hback : ∀ b p, p ≠ .none → upd ρ b0 .none b = p → b ≠ b0 ∧ ρ b = p := fun b p hp hb => by
    by_cases e : b = b0
    · subst e; rw [upd_same] at hb; exact absurd hb.symm hp
    · rw [upd_ne _ _ e] at hb; exact ⟨e, hb⟩
  have hback2 : ∀ b sl', s'.H b = some sl' → b ≠ b0 ∧ ∃ sl, s.H b = some sl ∧ SlotF b0 cs sl sl' := fun b sl' hb => by
    by_cases e : b = b0
    · subst e; rw [h.dead] at hb; cases hb
    · refine ⟨e, ?_⟩
      cases hs : s.H b with
      | none => rw [h.none_ b e hs] at hb; cases hb
      | some sl =>
        obtain ⟨sl0, h1, h2⟩ := h.some_ b sl e hs
        rw [hb] at h1; cases h1
        exact ⟨sl, rfl, h2⟩
  refine ⟨⟨hr.size, fun t => FV_sound hr.heap h.at_ h.closed (h.tmp t) _ (hr.tmp t), fun t b hb => hr.tids t b (FV_ids h.closed (h.tmp t) b hb), fun b sl hb c hc => ?_, fun b hb => ?_, ⟨fun b g hb => ?_, fun b hb => ?_, fun b sl hb => ?_, fun b c g hb hc => ?_, fun b g hb => ?_, hr.heap.avoid, fun g d hg => VR_mono (frz_mono b0 fun _ => True) _ _ (fun _ _ => trivial) (hr.heap.globs g d hg)⟩, hr.defers⟩,
    ⟨rfl, rfl, rfl, Nat.le_refl _, fun _ _ => rfl, fun g hg b hb => hg.2 b (hback b _ (by simp) hb).2⟩, m⟩
  · obtain ⟨_, sl0, h1, h2⟩ := hback2 b sl hb
    exact hr.hids b sl0 h1 c (SlotF_ids h.closed h2 c hc)
  · obtain ⟨_, h1⟩ := hback b _ hb rfl
    exact hr.dom b (by rw [h1]; exact hb)
  · obtain ⟨e, h1⟩ := hback b _ (by simp) hb
    obtain ⟨sl, h2, h3⟩ := hr.heap.row b g h1
    obtain ⟨sl', h4, h5⟩ := h.some_ b sl e h2
    refine ⟨sl', h4, ?_⟩
    cases sl with
    | cells ds =>
      cases sl' with
      | cells ds' =>
        obtain ⟨cur, e, h6, h7⟩ := h3
        refine ⟨cur, e, h6, ?_⟩
        rw [FVL.length h5]
        exact FVL_sound hr.heap h.at_ h.closed h5 _ h7
      | map _ => exact h5.elim
    | map es =>
      cases sl' with
      | cells _ => exact h5.elim
      | map es' =>
        cases h5
        exact slotR_mono (frz_mono b0 fun _ => True) rfl _ (fun _ _ => trivial) h3
  · obtain ⟨e, h1⟩ := hback b _ (by simp) hb
    obtain ⟨sl', h2, h3⟩ := h.some_ b _ e (hr.heap.nil b h1)
    cases sl' with
    | cells ds =>
      have := FVL.length h3
      rw [h2, List.length_eq_zero_iff.1 this]
    | map _ => exact h3.elim
  · obtain ⟨e, sl0, h1, _⟩ := hback2 b sl hb
    rw [upd_ne _ _ e]
    exact hr.heap.live b sl0 h1
  · exact hr.heap.inj b c g (hback b _ (by simp) hb).2 (hback c _ (by simp) hc).2
  · exact hr.heap.clear b g (hback b _ (by simp) hb).2

end Go.Tw
end

section
namespace Go.Tw
variable {X : Nat → Prop}

/-! ## The run of a function's body -/

inductive Ex where
  | normal
  | exit (id : Nat)
  | ret
  deriving DecidableEq

def Ex.toE : Ex → Exit
  | .normal => .normal
  | .exit i => .exit i
  | .ret => .ret

def Ex.out (id : Nat) : Ex → Ex
  | .exit i => if i = id then .normal else .exit i
  | e => e

/-- One state says no more than another, of the same world. -/
def SemW (N nb0 nb nb' : Nat) (s s' : St) : Prop :=
  (nb0 ≤ nb → nb0 ≤ nb') ∧ (nb0 ≤ nb → ∀ (X : Nat → Prop) (ρ : Nat → Place) (a : Act) (w : World), Rel X N (· < nb) ρ a w s → ∃ ρ', Beh X N (· < nb0) (· < nb') ρ w s' ρ' a w)

inductive Exec (P : Program) (TI : TT) (N nb0 : Nat) : Code → Nat → St → Ex → Nat → St → Prop
  | skip {nb : Nat} {s : St} : Exec P TI N nb0 .skip nb s .normal nb s
  | region {id : Nat} {ops : Array Oper} {dr : Bool} {nb : Nat} {s s' : St} {es : List Eff} (h : Run P TI N nb ops 0 s es s') (hok : dr = false ∨ (edgesOK ops.toList 0 = true ∧ freeOK ops es = true)) :
      Exec P TI N nb0 (.region id ops dr) nb s .normal (nb + ops.size * 16) s'
  | seq {x y : Code} {nb nb1 nb2 : Nat} {s s1 s2 : St} {e : Ex} (h : Exec P TI N nb0 x nb s .normal nb1 s1) (k : Exec P TI N nb0 y nb1 s1 e nb2 s2) : Exec P TI N nb0 (.seq x y) nb s e nb2 s2
  | seqX {x y : Code} {nb nb1 : Nat} {s s1 : St} {e : Ex} (h : Exec P TI N nb0 x nb s e nb1 s1) (he : e ≠ .normal) : Exec P TI N nb0 (.seq x y) nb s e nb1 s1
  | cond {c : Operand} {x y : Code} {b : Bool} {nb nb' : Nat} {s s' : St} {e : Ex} (hc : evalD s.T c = .bool b) (h : Exec P TI N nb0 (if b then x else y) nb s e nb' s') : Exec P TI N nb0 (.cond c x y) nb s e nb' s'
  | block {id : Nat} {c : Code} {nb nb' : Nat} {s s' : St} {e : Ex} (h : Exec P TI N nb0 c nb s e nb' s') : Exec P TI N nb0 (.block id c) nb s (e.out id) nb' s'
  | loop {c : Code} {nb nb1 nb2 : Nat} {s s1 s2 : St} {e : Ex} (h : Exec P TI N nb0 c nb s .normal nb1 s1) (k : Exec P TI N nb0 (.loop c) nb1 s1 e nb2 s2) : Exec P TI N nb0 (.loop c) nb s e nb2 s2
  | loopX {c : Code} {nb nb1 : Nat} {s s1 : St} {e : Ex} (h : Exec P TI N nb0 c nb s e nb1 s1) (he : e ≠ .normal) : Exec P TI N nb0 (.loop c) nb s e nb1 s1
  | exit {id nb : Nat} {s : St} : Exec P TI N nb0 (.exit id) nb s (.exit id) nb s
  | ret {nb : Nat} {s : St} : Exec P TI N nb0 .ret nb s .ret nb s
  | weak {c : Code} {nb nb' nb2 : Nat} {m : Nat → Nat} {K : Nat → Bool} {s s' s2 : St} {e : Ex} (hw : Weak nb0 nb' m K s s') (hn : nb0 ≤ nb') (h : Exec P TI N nb0 c nb' s' e nb2 s2) : Exec P TI N nb0 c nb s e nb2 s2
  | frz {c : Code} {nb nb2 b0 : Nat} {cs : List D} {s s' s2 : St} {e : Ex} (hf : Frz b0 cs s s') (h : Exec P TI N nb0 c nb s' e nb2 s2) : Exec P TI N nb0 c nb s e nb2 s2
  | sem {c : Code} {nb nb' nb2 : Nat} {s s' s2 : St} {e : Ex} (hs : SemW N nb0 nb nb' s s') (h : Exec P TI N nb0 c nb' s' e nb2 s2) : Exec P TI N nb0 c nb s e nb2 s2
  | semR {c : Code} {nb nb1 nb2 : Nat} {s s1 s2 : St} {e : Ex} (h : Exec P TI N nb0 c nb s e nb1 s1) (hs : SemW N nb0 nb1 nb2 s1 s2) : Exec P TI N nb0 c nb s e nb2 s2

theorem Beh.trans {N nb0 : Nat} {U U' : Nat → Prop} {ρ ρ' ρ'' : Nat → Place} {a a' : Act} {w w' w'' : World} {s s' : St} (h : Beh X N (· < nb0) U ρ w s ρ' a w') (k : Beh X N (· < nb0) U' ρ' w' s' ρ'' a' w'') : Beh X N (· < nb0) U' ρ w s' ρ'' a' w'' :=
  ⟨k.rel, h.fr.trans k.fr, h.mono.trans k.mono fun _ h => h⟩

def Goes (N nb0 : Nat) (nb : Nat) (s : St) (e : Ex) (nb' : Nat) (s' : St) (W : (Exit → Act → World → Prop) → Act → World → Prop) : Prop :=
  ∀ (X : Nat → Prop) (ρ : Nat → Place) (a : Act) (w : World) (Q : Exit → Act → World → Prop), Rel X N (· < nb) ρ a w s → (∀ a' w' ρ', Beh X N (· < nb0) (· < nb') ρ w s' ρ' a' w' → Q e.toE a' w') → W Q a w

theorem exec_sound {P : Program} {TI : TT} {N nb0 : Nat} (hT : TIok P TI) (hm : P.follows .mixedOrders = true) {c : Code} {nb nb' : Nat} {s s' : St} {e : Ex} (h : Exec P TI N nb0 c nb s e nb' s') : nb0 ≤ nb →
    nb0 ≤ nb' ∧ Goes N nb0 nb s e nb' s' (fun Q a w => c.wp P Q a w) ∧ ∀ c0, c = .loop c0 → ∃ n, Goes N nb0 nb s e nb' s' (fun Q a w => Code.rounds P c0 Q n a w) := by
  induction h with
  | skip => exact fun hn => ⟨hn, fun X ρ a w Q hr hQ => wp_skip (hQ a w ρ ⟨hr, Fr.refl ρ w, Mono.refl _ ρ w⟩), fun c0 h => by cases h⟩
  | region h hok => exact fun hn => ⟨by omega, fun X ρ a w Q hr hQ => region_sound hT hm h hok hr fun a' w' ρ' hb => hQ a' w' ρ' ⟨hb.rel, hb.fr, hb.mono.sub fun b hb => Nat.lt_of_lt_of_le hb hn⟩, fun c0 h => by cases h⟩
  | seq h k ih1 ih2 =>
    intro hn
    obtain ⟨h1, h2, _⟩ := ih1 hn
    obtain ⟨h3, h4, _⟩ := ih2 h1
    exact ⟨h3, fun X ρ a w Q hr hQ => wp_seq (h2 X ρ a w _ hr fun a' w' ρ' hb => h4 X ρ' a' w' Q hb.rel fun a'' w'' ρ'' hb' => hQ a'' w'' ρ'' (hb.trans hb')), fun c0 h => by cases h⟩
  | @seqX x y nb nb1 s s1 e h he ih =>
    intro hn
    obtain ⟨h1, h2, _⟩ := ih hn
    refine ⟨h1, fun X ρ a w Q hr hQ => wp_seq (h2 X ρ a w _ hr fun a' w' ρ' hb => ?_), fun c0 h => by cases h⟩
    have := hQ a' w' ρ' hb
    cases e with
    | normal => exact absurd rfl he
    | exit i => exact this
    | ret => exact this
  | @cond c x y b nb nb' s s' e hc h ih =>
    intro hn
    obtain ⟨h1, h2, _⟩ := ih hn
    refine ⟨h1, fun X ρ a w Q hr hQ => ?_, fun c0 h => by cases h⟩
    have hv := hr.eval c
    rw [hc] at hv
    simp only [VR] at hv
    exact wp_cond hv (h2 X ρ a w Q hr hQ)
  | @block id c nb nb' s s' e h ih =>
    intro hn
    obtain ⟨h1, h2, _⟩ := ih hn
    refine ⟨h1, fun X ρ a w Q hr hQ => wp_block (h2 X ρ a w _ hr fun a' w' ρ' hb => ?_), fun c0 h => by cases h⟩
    have := hQ a' w' ρ' hb
    cases e with
    | normal => exact this
    | exit i =>
      by_cases hi : i = id
      · simp only [Ex.out, hi, if_true] at this
        simp only [Ex.toE, Exit.inBlock, hi, if_true]
        exact this
      · simp only [Ex.out, hi, if_false] at this
        simp only [Ex.toE, Exit.inBlock, hi, if_false]
        exact this
    | ret => exact this
  | @loop c nb nb1 nb2 s s1 s2 e h k ih1 ih2 =>
    intro hn
    obtain ⟨h1, h2, _⟩ := ih1 hn
    obtain ⟨h3, _, h4⟩ := ih2 h1
    obtain ⟨n, h5⟩ := h4 c rfl
    have hr : Goes N nb0 nb s e nb2 s2 (fun Q a w => Code.rounds P c Q (n + 1) a w) := fun X ρ a w Q hr hQ => by
      show Code.rounds P c Q (n + 1) a w
      rw [rounds_succ]
      exact h2 X ρ a w _ hr fun a' w' ρ' hb => h5 X ρ' a' w' Q hb.rel fun a'' w'' ρ'' hb' => hQ a'' w'' ρ'' (hb.trans hb')
    exact ⟨h3, fun X ρ a w Q h6 h7 => wp_loop_rounds (n + 1) (hr X ρ a w Q h6 h7), fun c0 h => by cases h; exact ⟨n + 1, hr⟩⟩
  | @loopX c nb nb1 s s1 e h he ih =>
    intro hn
    obtain ⟨h1, h2, _⟩ := ih hn
    have hr : Goes N nb0 nb s e nb1 s1 (fun Q a w => Code.rounds P c Q 1 a w) := fun X ρ a w Q hr hQ => by
      show Code.rounds P c Q (0 + 1) a w
      rw [rounds_succ]
      refine h2 X ρ a w _ hr fun a' w' ρ' hb => ?_
      have := hQ a' w' ρ' hb
      cases e with
      | normal => exact absurd rfl he
      | exit i => exact this
      | ret => exact this
    exact ⟨h1, fun X ρ a w Q h6 h7 => wp_loop_rounds 1 (hr X ρ a w Q h6 h7), fun c0 h => by cases h; exact ⟨1, hr⟩⟩
  | exit => exact fun hn => ⟨hn, fun X ρ a w Q hr hQ => wp_exit (hQ a w ρ ⟨hr, Fr.refl ρ w, Mono.refl _ ρ w⟩), fun c0 h => by cases h⟩
  | ret => exact fun hn => ⟨hn, fun X ρ a w Q hr hQ => wp_ret (hQ a w ρ ⟨hr, Fr.refl ρ w, Mono.refl _ ρ w⟩), fun c0 h => by cases h⟩
  | weak hw hn' h ih =>
    intro hn
    obtain ⟨h1, h2, h3⟩ := ih hn'
    refine ⟨h1, fun X ρ a w Q hr hQ => ?_, fun c0 h => ?_⟩
    · obtain ⟨ρ', hb⟩ := weak_sound hw hr
      exact h2 X ρ' a w Q hb.rel fun a'' w'' ρ'' hb' => hQ a'' w'' ρ'' (hb.trans hb')
    · obtain ⟨n, h4⟩ := h3 c0 h
      refine ⟨n, fun X ρ a w Q hr hQ => ?_⟩
      obtain ⟨ρ', hb⟩ := weak_sound hw hr
      exact h4 X ρ' a w Q hb.rel fun a'' w'' ρ'' hb' => hQ a'' w'' ρ'' (hb.trans hb')
  | frz hf h ih =>
    intro hn
    obtain ⟨h1, h2, h3⟩ := ih hn
    refine ⟨h1, fun X ρ a w Q hr hQ => ?_, fun c0 h => ?_⟩
    · have hb := frz_sound (nb0 := nb0) hf hr
      exact h2 X _ a w Q hb.rel fun a'' w'' ρ'' hb' => hQ a'' w'' ρ'' (hb.trans hb')
    · obtain ⟨n, h4⟩ := h3 c0 h
      refine ⟨n, fun X ρ a w Q hr hQ => ?_⟩
      have hb := frz_sound (nb0 := nb0) hf hr
      exact h4 X _ a w Q hb.rel fun a'' w'' ρ'' hb' => hQ a'' w'' ρ'' (hb.trans hb')
  | sem hs h ih =>
    intro hn
    obtain ⟨h1, h2, h3⟩ := ih (hs.1 hn)
    refine ⟨h1, fun X ρ a w Q hr hQ => ?_, fun c0 h => ?_⟩
    · obtain ⟨ρ', hb⟩ := hs.2 hn X ρ a w hr
      exact h2 X ρ' a w Q hb.rel fun a'' w'' ρ'' hb' => hQ a'' w'' ρ'' (hb.trans hb')
    · obtain ⟨n, h4⟩ := h3 c0 h
      refine ⟨n, fun X ρ a w Q hr hQ => ?_⟩
      obtain ⟨ρ', hb⟩ := hs.2 hn X ρ a w hr
      exact h4 X ρ' a w Q hb.rel fun a'' w'' ρ'' hb' => hQ a'' w'' ρ'' (hb.trans hb')
  | semR h hs ih =>
    intro hn
    obtain ⟨h1, h2, h3⟩ := ih hn
    refine ⟨hs.1 h1, fun X ρ a w Q hr hQ => ?_, fun c0 h => ?_⟩
    · refine h2 X ρ a w Q hr fun a' w' ρ' hb => ?_
      obtain ⟨ρ'', hb'⟩ := hs.2 h1 X ρ' a' w' hb.rel
      exact hQ a' w' ρ'' (hb.trans hb')
    · obtain ⟨n, h4⟩ := h3 c0 h
      refine ⟨n, fun X ρ a w Q hr hQ => h4 X ρ a w Q hr fun a' w' ρ' hb => ?_⟩
      obtain ⟨ρ'', hb'⟩ := hs.2 h1 X ρ' a' w' hb.rel
      exact hQ a' w' ρ'' (hb.trans hb')

/-! ### What a function gives back -/

def resV (TI : TT) (s : St) : ResultVar → D → Prop
  | .tmp t, d => d = s.T t
  | .cell a t, d => ∃ rh, loadI TI s.H t (s.T a) d rh

def resVs (TI : TT) (s : St) : List ResultVar → List D → Prop
  | [], ds => ds = []
  | r :: rs, ds => ∃ d ds', ds = d :: ds' ∧ resV TI s r d ∧ resVs TI s rs ds'

def packD : List D → D
  | [d] => d
  | ds => .tup ds

section
variable {P : Program} {TI : TT} {N : Nat} {U : Nat → Prop} {ρ : Nat → Place} {a : Act} {w : World} {s : St}

def resRun (tmps : Array Value) : ResultVar → Sem Value
  | .tmp t => pure (tmps.getD t undef)
  | .cell x t => do loadVar t (← asAddr (tmps.getD x undef))

theorem run_resV (hT : TIok P TI) (hr : Rel X N U ρ a w s) : ∀ {r : ResultVar} {d : D}, resV TI s r d →
    ∃ v, (resRun a.tmps r).run P w = .ok v w ∧ VR X ρ w d v
  | .tmp t, d, h => by
    simp only [resV] at h; subst h
    exact ⟨_, rfl, hr.tmp t⟩
  | .cell x t, d, h => by
    obtain ⟨rh, i, hi, h⟩ := h
    have hx := hr.tmp x
    simp only [resRun]
    split at h
    · rename_i d' hd'
      obtain ⟨rfl, _, hs⟩ := h
      rw [hd'] at hx
      simp only [VR] at hx
      obtain ⟨_, g, o, u, h1, _, h3, _, h5⟩ := hx
      refine ⟨u, ?_, h3⟩
      rw [h1]
      simp only [Sem.run_bind, asAddr, Sem.run_pure, Result.andThen_ok]
      exact run_load_imm hT hi hs h3 h5
    · rename_i b o hd'
      obtain ⟨cs, h1, h2, h3, _⟩ := h
      rw [hd'] at hx
      have hne : ∀ cs', Slot.cells cs = .cells cs' → 0 < cs'.length := fun cs' e => by
        cases e
        rcases Nat.eq_zero_or_pos cs.length with h0 | h0
        · have : cs = [] := List.length_eq_zero_iff.1 h0
          subst this
          unfold partD at h3
          split at h3
          · split at h3
            · rename_i h4; simp at h4; omega
            · cases h3
          · simp at h3
        · exact h0
      obtain ⟨g, h4, h5, h6⟩ := slot_of_ptr hr.heap hx h1 hne
      obtain ⟨u, h7, h8⟩ := run_load_slot hT hi h6 h3
      refine ⟨u, ?_, h8⟩
      rw [h5]
      simp only [Sem.run_bind, asAddr, Sem.run_pure, Result.andThen_ok]
      exact h7
    · exact h.elim

theorem run_resVs (hT : TIok P TI) (hr : Rel X N U ρ a w s) : ∀ {rs : List ResultVar} {ds : List D}, resVs TI s rs ds →
    ∃ vs, (rs.mapM (resRun a.tmps)).run P w = .ok vs w ∧ VRs X ρ w ds vs
  | [], ds, h => by simp only [resVs] at h; subst h; exact ⟨[], by simp, by simp [VRs]⟩
  | r :: rs, ds, h => by
    simp only [resVs] at h
    obtain ⟨d, ds', rfl, h1, h2⟩ := h
    obtain ⟨v, h3, h4⟩ := run_resV hT hr h1
    obtain ⟨vs, h5, h6⟩ := run_resVs hT hr h2
    refine ⟨v :: vs, ?_, by simp only [VRs]; exact ⟨v, vs, rfl, h4, h6⟩⟩
    rw [List.mapM_cons]
    simp only [Sem.run_bind, h3, Result.andThen_ok, h5, Sem.run_pure]

theorem run_results (hT : TIok P TI) (hr : Rel X N U ρ a w s) {fn : Func} {ds : List D} (h : resVs TI s fn.results.toList ds) : ∃ v, (results fn a.tmps).run P w = .ok v w ∧ VR X ρ w (packD ds) v := by
  obtain ⟨vs, h1, h2⟩ := run_resVs hT hr h
  have e : results fn a.tmps = (fn.results.mapM (resRun a.tmps) >>= fun vs => pure (if h : vs.size = 1 then vs[0] else .tuple vs)) := by
    unfold results
    congr 1
  rw [e, Array.mapM_eq_mapM_toList]
  simp only [Sem.run_bind, Sem.run_map, h1, Result.andThen_ok, Sem.run_pure]
  refine ⟨_, rfl, ?_⟩
  have hl := VRs_length h2
  cases ds with
  | nil =>
    cases vs with
    | nil => simp [packD, VR, VRs]
    | cons v vs => simp at hl
  | cons d ds =>
    cases vs with
    | nil => simp at hl
    | cons v vs =>
      cases ds with
      | nil =>
        have : vs = [] := List.length_eq_zero_iff.1 (by simpa using hl.symm)
        subst this
        simp only [VRs] at h2
        obtain ⟨v', vs', he, h3, _⟩ := h2
        cases he
        simpa [packD] using h3
      | cons d' ds =>
        have : ¬ (v :: vs).toArray.size = 1 := by
          simp only [List.length_cons] at hl
          simp only [List.size_toArray, List.length_cons]; omega
        rw [dif_neg this]
        show VR X ρ w (.tup (d :: d' :: ds)) _
        simp only [VR]
        exact ⟨v :: vs, rfl, h2⟩

end

def startT (args : List D) (t : Nat) : D := (args[t]?).getD .undef
def startS (args : List D) (hin : List Slot) : St := ⟨startT args, fun i => hin[i]?⟩

theorem fn_intro {P : Program} {TI : TT} (hT : TIok P TI) (hm : P.follows .mixedOrders = true) {f : FuncId} {fn : Func} {c : Code} {args : List D} {hin : List Slot} {ds : List D} {outs : List (Option Slot)} {nb' : Nat} {s' : St} {e : Ex}
    (hf : P.funcs[f]? = some fn) (hb : fn.body = some c) (hname : (fn.name == "runtime.NumGoroutine") = false) (hargs : args.length ≤ fn.ntmps) (hca : ∀ b ∈ D.idsL args, b < hin.length) (hch : ∀ sl ∈ hin, ∀ b ∈ sl.ids, b < hin.length)
    (hx : Exec P TI fn.ntmps hin.length c hin.length (startS args hin) e nb' s') (he : e = .normal ∨ e = .ret) (hres : resVs TI s' fn.results.toList ds) (houts : ∀ i, lst outs i = s'.H i) : Fn P f args hin (packD ds) outs := by
  refine ⟨⟨fn, hf, by simp [hb], hname⟩, fun X ρ w vs hv hh => ?_⟩
  obtain ⟨_, hgo, _⟩ := exec_sound hT hm hx (Nat.le_refl _)
  have hl := VRs_length hv
  refine calls_of_wp hf hb (hgo X ρ _ w _ ?_ fun a' w' ρ' hbeh => ?_)
  · refine ⟨by simp; omega, fun t => ?_, fun t b hb => ?_, fun b sl hb c hc => hch sl (List.mem_of_getElem? hb) c hc, fun b hb => ?_, hh, rfl⟩
    · show VR X ρ w (startT args t) _
      unfold startT
      cases ht : args[t]? with
      | none => simp [VR]
      | some d =>
        obtain ⟨v, h1, h2⟩ := VRs_get hv t d ht
        have hlt : t < vs.length := (List.getElem?_eq_some_iff.1 h1).1
        have : (vs.toArray ++ Array.replicate (fn.ntmps - vs.toArray.size) undef).getD t undef = v := by
          simp only [Array.getD_eq_getD_getElem?]
          rw [Array.getElem?_append_left (by simpa using hlt)]
          simp [h1]
        rw [this]; exact h2
    · have hb : b ∈ (startT args t).ids := hb
      unfold startT at hb
      cases ht : args[t]? with
      | none => rw [ht] at hb; simp [D.ids] at hb
      | some d => rw [ht] at hb; exact hca b (idsL_mem (List.mem_of_getElem? ht) hb)
    · cases hp : ρ b with
      | none => exact absurd hp hb
      | nil => exact (List.getElem?_eq_some_iff.1 (hh.nil b hp)).1
      | row g => obtain ⟨sl, h1, _⟩ := hh.row b g hp; exact (List.getElem?_eq_some_iff.1 h1).1
  · obtain ⟨v, h1, h2⟩ := run_results hT hbeh.rel hres
    have hH : lst outs = s'.H := funext houts
    rcases he with rfl | rfl
    · exact ⟨hbeh.rel.defers, v, h1, v, ρ', rfl, h2, by rw [hH]; exact hbeh.rel.heap, hbeh.fr, hbeh.mono⟩
    · exact ⟨hbeh.rel.defers, v, h1, v, ρ', rfl, h2, by rw [hH]; exact hbeh.rel.heap, hbeh.fr, hbeh.mono⟩

end Go.Tw
end

section
namespace Go.Tw

/-! ## A machine for the twin -/

inductive Tr (α : Type) where
  | lf
  | nd (l : Tr α) (v : α) (r : Tr α)

def Tr.get {α : Type} (d : α) : Tr α → Nat → α
  | .lf, _ => d
  | .nd l v r, n => bif Nat.beq n 0 then v else bif Nat.beq (n % 2) 1 then l.get d ((n - 1) / 2) else r.get d ((n - 1) / 2)

def Tr.put {α : Type} (d v : α) : Nat → Tr α → Nat → Tr α
  | 0, t, _ => t
  | k + 1, .lf, n => bif Nat.beq n 0 then .nd .lf v .lf else bif Nat.beq (n % 2) 1 then .nd (Tr.put d v k .lf ((n - 1) / 2)) d .lf else .nd .lf d (Tr.put d v k .lf ((n - 1) / 2))
  | k + 1, .nd l x r, n => bif Nat.beq n 0 then .nd l v r else bif Nat.beq (n % 2) 1 then .nd (Tr.put d v k l ((n - 1) / 2)) x r else .nd l x (Tr.put d v k r ((n - 1) / 2))

abbrev HL := List (Nat × Slot)

def HL.get : HL → Nat → Option Slot
  | [], _ => none
  | (b, sl) :: h, n => bif Nat.beq b n then some sl else HL.get h n

def HL.del : HL → Nat → HL
  | [], _ => []
  | (b, sl) :: h, n => bif Nat.beq b n then HL.del h n else (b, sl) :: HL.del h n

def HL.set (h : HL) (n : Nat) : Option Slot → HL
  | none => h.del n
  | some sl => (n, sl) :: h.del n

structure ES where
  T : Tr D
  H : HL

def ES.st (s : ES) : St := ⟨fun t => s.T.get .undef t, fun b => s.H.get b⟩

/-- What is known of types, from the program. -/
def tiOf (P : Program) (t : TypeId) : Option TInfo :=
  match P.underlying t, P.info? t with
  | some desc, some info =>
    match info.zero with
    | some z => bif Nat.beq z.cells.size info.size then some ⟨info.size, info.bytes, ofV z, desc, !P.stoodInHeld t && !P.eqGuardType P.depth t⟩ else none
    | none => none
  | _, _ => none

def guardO {α : Type} (b : Bool) (x : Option α) : Option α := bif b then x else none

section
variable (TI : TT)

def kindI (k k' : IntKind) (v : D) : Option D := bif decide (k = k') then some v else none

def binF (op : BinOp) (ty : TypeId) (yo : Operand) (x y : D) : Option D :=
  match x with
  | .int k a =>
    match y with
    | .int k' b =>
      match op with
      | .shl => guardO (decide (0 ≤ b)) (some (.int k (k.wrap (a * 2 ^ (min b.toNat k.bits)))))
      | .shr => guardO (decide (0 ≤ b)) (some (.int k (a.fdiv (2 ^ (min b.toNat k.bits)))))
      | .add => kindI k k' (.int k (k.wrap (a + b)))
      | .sub => kindI k k' (.int k (k.wrap (a - b)))
      | .mul => kindI k k' (.int k (k.wrap (a * b)))
      | .quo => guardO (!decide (b = 0)) (kindI k k' (.int k (k.wrap (a.tdiv b))))
      | .rem => guardO (!decide (b = 0)) (kindI k k' (.int k (a.tmod b)))
      | .and => kindI k k' (.int k (k.wrap (BitVec.ofInt k.bits a &&& BitVec.ofInt k.bits b).toNat))
      | .or => kindI k k' (.int k (k.wrap (BitVec.ofInt k.bits a ||| BitVec.ofInt k.bits b).toNat))
      | .xor => kindI k k' (.int k (k.wrap (BitVec.ofInt k.bits a ^^^ BitVec.ofInt k.bits b).toNat))
      | .andNot => kindI k k' (.int k (k.wrap (BitVec.ofInt k.bits a &&& ~~~(BitVec.ofInt k.bits b)).toNat))
      | .eql => kindI k k' (.bool (a == b))
      | .neq => kindI k k' (.bool (a != b))
      | .lss => kindI k k' (.bool (decide (a < b)))
      | .leq => kindI k k' (.bool (decide (a ≤ b)))
      | .gtr => kindI k k' (.bool (decide (a > b)))
      | .geq => kindI k k' (.bool (decide (a ≥ b)))
    | _ => none
  | .str a =>
    match y with
    | .str b =>
      match op with
      | .add => guardO (Nat.ble (a.length + b.length) i64max) (some (.str (a ++ b)))
      | .eql => some (.bool (a == b))
      | .neq => some (.bool (!(a == b)))
      | _ => none
    | _ => none
  | .bool a =>
    match y with
    | .bool b =>
      match TI ty with
      | some ⟨_, _, _, .bool, _⟩ =>
        match op with
        | .eql => some (.bool (a == b))
        | .neq => some (.bool (!(a == b)))
        | _ => none
      | _ => none
    | _ => none
  | .ifc a =>
    match y with
    | .ifc false =>
      match TI ty with
      | some ⟨_, _, _, .interface _, _⟩ =>
        match yo with
        | .const _ =>
          match op with
          | .eql => some (.bool (!a))
          | .neq => some (.bool a)
          | _ => none
        | _ => none
      | _ => none
    | _ => none
  | .agg a =>
    match y with
    | .agg b =>
      match TI ty with
      | some ⟨_, _, _, .struct fs, true⟩ =>
        match eqF TI a b fs.toList with
        | some r =>
          match op with
          | .eql => some (.bool r)
          | .neq => some (.bool (!r))
          | _ => none
        | none => none
      | _ => none
    | _ => none
  | _ => none

def unF (op : UnOp) (x : D) : Option D :=
  match op with
  | .not => match x with
    | .bool b => some (.bool (!b))
    | _ => none
  | .neg => match x with
    | .int k n => some (.int k (k.wrap (0 - n)))
    | _ => none
  | .xor => match x with
    | .int k n => some (.int k (k.wrap (BitVec.ofInt k.bits (if k.signed then -1 else k.max) ^^^ BitVec.ofInt k.bits n).toNat))
    | _ => none
  | _ => none

def natOf : D → Option Nat
  | .int _ (.ofNat n) => some n
  | _ => none

variable (nid : Nat) (ev : Operand → D) (H : Nat → Option Slot)

def pureE (v : Option D) : Option Eff := match v with
  | some v => some ⟨v, [], [], []⟩
  | none => none

def readE (v : Option (D × List Rng)) : Option Eff := match v with
  | some (v, rh) => some ⟨v, [], rh, []⟩
  | none => none

def newE (v : D) (sl : Slot) : Option Eff := some ⟨v, [.set nid (some sl)], [], [.all nid]⟩

def shapeB (i : TInfo) (d : D) : Bool := bif i.isAgg then (match d with
  | .agg cs => Nat.beq cs.length i.size
  | _ => false) else d.scal

def cellsAt (b : Nat) : Option (List D) := match H b with
  | some (.cells cs) => some cs
  | _ => none

def mapAt (b : Nat) : Option (List (D × D)) := match H b with
  | some (.map es) => some es
  | _ => none

def loadF (t : TypeId) (x : D) : Option (D × List Rng) :=
  match TI t with
  | some i =>
    match x with
    | .iptr d => guardO (shapeB i d) (some (d, []))
    | .ptr b o =>
      match cellsAt H b with
      | some cs => guardO (Nat.blt 0 i.size) (match partD i cs o with
        | some v => some (v, [.part b o (o + i.size)])
        | none => none)
      | none => none
    | _ => none
  | none => none

def liveF (x : D) : Option (D × List Rng) :=
  match x with
  | .iptr _ => some (x, [])
  | .fn _ _ => some (x, [])
  | .ptr b _ =>
    match cellsAt H b with
    | some (_ :: _) => some (x, [.live b])
    | _ => none
  | _ => none

def fieldAddrF (t : TypeId) (f : Nat) (x : D) : Option (D × List Rng) :=
  match TI t with
  | some ⟨_, _, _, .struct fs, _⟩ =>
    match fs[f]? with
    | some fl =>
      match TI fl.type with
      | some fi => guardO (!Nat.beq fi.size 0) (match x with
        | .iptr (.agg cs) =>
          match partD fi cs fl.offset with
          | some d => guardO (fi.isAgg || d.scal) (some (.iptr d, []))
          | none => none
        | .ptr b o =>
          match cellsAt H b with
          | some (_ :: _) => some (.ptr b (o + fl.offset), [.live b])
          | _ => none
        | _ => none)
      | none => none
    | none => none
  | _ => none

def indexAddrF (t : TypeId) (x y : D) : Option (D × List Rng) :=
  match TI t with
  | some i =>
    match natOf y with
    | some n =>
      match x with
      | .isl sz es =>
        match i.desc with
        | .slice e =>
          match TI e with
          | some ie => guardO (Nat.beq ie.size sz && Nat.blt 0 sz) (match es[n]? with
            | some d => some (.iptr d, [])
            | none => none)
          | none => none
        | _ => none
      | .sl b sz o len =>
        match i.desc with
        | .slice e =>
          match TI e with
          | some ie =>
            match cellsAt H b with
            | some (_ :: _) => guardO (Nat.beq ie.size sz && Nat.blt n len) (some (.ptr b (o + n * sz), [.live b]))
            | _ => none
          | none => none
        | _ => none
      | .ptr b o =>
        match i.desc with
        | .array len e =>
          match TI e with
          | some ie =>
            match cellsAt H b with
            | some (_ :: _) => guardO (Nat.blt n len) (some (.ptr b (o + n * ie.size), [.live b]))
            | _ => none
          | none => none
        | _ => none
      | .iptr (.agg cs) =>
        match i.desc with
        | .array len e =>
          match TI e with
          | some ie => guardO (!Nat.beq ie.size 0 && Nat.blt n len) (match partD ie cs (n * ie.size) with
            | some d => guardO (ie.isAgg || d.scal) (some (.iptr d, []))
            | none => none)
          | none => none
        | _ => none
      | _ => none
    | none => none
  | none => none

def indexF (t : TypeId) (x y : D) : Option D :=
  match TI t with
  | some i =>
    match natOf y with
    | some n =>
      match x with
      | .str s =>
        match i.desc with
        | .string => match s[n]? with
          | some c => some (.int .u8 c.toNat)
          | none => none
        | _ => none
      | .agg cs =>
        match i.desc with
        | .array len e =>
          match TI e with
          | some ie => guardO (Nat.blt n len) (partD ie cs (n * ie.size))
          | none => none
        | _ => none
      | _ => none
    | none => none
  | none => none

def offF (y : Option D) (d : Nat) : Option Nat := match y with
  | none => some d
  | some y => natOf y

def sliceF (t : TypeId) (x : D) (lo hi mx : Option D) : Option (D × List Rng) :=
  match mx with
  | some _ => none
  | none =>
  match TI t with
  | some i =>
    match offF lo 0 with
    | some l =>
      match x with
      | .str s =>
        match i.desc with
        | .string => match offF hi s.length with
          | some h => guardO (Nat.ble l h && Nat.ble h s.length) (some (.str ((s.drop l).take (h - l)), []))
          | none => none
        | _ => none
      | .isl sz es =>
        match i.desc with
        | .slice e => match TI e with
          | some ie => match offF hi es.length with
            | some h => guardO (Nat.beq ie.size sz && Nat.ble l h && Nat.ble h es.length) (some (.isl sz ((es.drop l).take (h - l)), []))
            | none => none
          | none => none
        | _ => none
      | .sl b sz o n =>
        match i.desc with
        | .slice e => match TI e with
          | some ie => match offF hi n with
            | some h => match cellsAt H b with
              | some _ => guardO (Nat.beq ie.size sz && Nat.ble l h && Nat.ble h n && (Nat.beq l 0 || Nat.blt l h)) (some (.sl b sz (o + l * sz) (h - l), [.live b]))
              | none => none
            | none => none
          | none => none
        | _ => none
      | .nsl =>
        match i.desc with
        | .slice e => match TI e with
          | some _ => match offF hi 0 with
            | some h => guardO (Nat.beq l 0 && Nat.beq h 0) (some (.nsl, []))
            | none => none
          | none => none
        | _ => none
      | _ => none
    | none => none
  | none => none

def lenF (x : D) (d : TypeDesc) : Option (D × List Rng) :=
  match x with
  | .str s => match d with
    | .string => some (.int .i64 s.length, [])
    | _ => none
  | .isl _ es => match d with
    | .slice _ => some (.int .i64 es.length, [])
    | _ => none
  | .nsl => match d with
    | .slice _ => some (.int .i64 0, [])
    | _ => none
  | .sl b _ _ n => match d with
    | .slice _ => match cellsAt H b with
      | some _ => some (.int .i64 n, [.live b])
      | none => none
    | _ => none
  | _ => none

def lookupF (t : TypeId) (x k : D) (ok : Bool) : Option (D × List Rng) :=
  match TI t with
  | some ⟨_, _, _, .map ke el, _⟩ =>
    match TI ke with
    | some ike =>
      match TI el with
      | some iel => guardO (isK ike.desc k) (match x with
        | .mp b =>
          match mapAt H b with
          | some es =>
            match findK ike.desc k es 0 with
            | some r => some (bif ok then .tup [match r with | some (_, y) => y | none => iel.zero, .bool r.isSome] else match r with | some (_, y) => y | none => iel.zero, [.all b])
            | none => none
          | none => none
        | .nmp => some (bif ok then .tup [iel.zero, .bool false] else iel.zero, [])
        | _ => none)
      | none => none
    | none => none
  | _ => none

def storeF (t : TypeId) (x y : D) : Option Eff :=
  match TI t with
  | some i =>
    match x with
    | .ptr b o =>
      match y.cells? with
      | some cs =>
        match cellsAt H b with
        | some old => guardO (Nat.beq cs.length i.size && Nat.blt 0 i.size && cs.all D.scal && Nat.ble (o + cs.length) old.length) (some ⟨.undef, [.put b o cs], [.live b], [.part b o (o + cs.length)]⟩)
        | none => none
      | none => none
    | _ => none
  | none => none

def mapUpdateF (t : TypeId) (x k y : D) : Option Eff :=
  match TI t with
  | some ⟨_, _, _, .map ke _, _⟩ =>
    match TI ke with
    | some ike =>
      match x with
      | .mp b =>
        match mapAt H b with
        | some es => guardO (isK ike.desc k) (match findK ike.desc k es 0 with
          | some r => some ⟨.undef, [.set b (some (.map (putK es k y r)))], [.all b], [.all b]⟩
          | none => none)
        | none => none
      | _ => none
    | none => none
  | _ => none

def srcF (sz : Nat) (x : D) : Option (Nat × List D × List Rng) :=
  match x with
  | .nsl => some (0, [], [])
  | .isl sz' es => guardO (es.isEmpty || Nat.beq sz' sz) (some (es.length, flatD es, []))
  | .sl b sz' o n =>
    match cellsAt H b with
    | some all => guardO (Nat.beq sz' sz && Nat.ble (o + n * sz) all.length && ((all.drop o).take (n * sz)).all D.scal) (some (n, (all.drop o).take (n * sz), [.all b]))
    | none => none
  | .str s => guardO (Nat.beq sz 1) (some (s.length, byteD s, []))
  | _ => none

def appendF (t t2 : TypeId) (s x : D) : Option Eff :=
  match TI t with
  | some ⟨_, _, _, .slice e, _⟩ =>
    match TI t2 with
    | some i2 =>
      match TI e with
      | some ie =>
        match srcF H ie.size x with
        | some (m, cs, rh) => guardO (notInt i2.desc && Nat.blt 0 ie.bytes) (match s with
          | .nsl => guardO (Nat.ble (m * ie.bytes) 140737488355328) (some ⟨.sl nid ie.size 0 m, [.set nid (some (.cells cs))], rh, [.all nid]⟩)
          | .sl b sz o n =>
            match cellsAt H b with
            | some old => guardO (Nat.beq sz ie.size && Nat.beq o 0 && Nat.ble (n * ie.size) old.length && Nat.ble ((n + m) * ie.bytes) 140737488355328)
                (some ⟨.sl nid ie.size 0 (n + m), [.set b none, .set nid (some (.cells (old.take (n * ie.size) ++ cs)))], .all b :: rh, [.all b, .all nid]⟩)
            | none => none
          | _ => none)
        | none => none
      | none => none
    | none => none
  | _ => none

def makeSliceF (t : TypeId) (x y : D) : Option Eff :=
  match TI t with
  | some ⟨_, _, _, .slice e, _⟩ =>
    match TI e with
    | some ie =>
      match ie.zero.cells? with
      | some _ =>
        match natOf x with
        | some n =>
          match natOf y with
          | some n' => guardO (Nat.beq n n' && Nat.ble (n * ie.bytes) 140737488355328 && Nat.blt 0 ie.bytes)
              (some ⟨.sl nid ie.size 0 n, [.set nid (some (.cells (zeroD ie (n * ie.size))))], [], [.all nid]⟩)
          | none => none
        | none => none
      | none => none
    | none => none
  | _ => none

def bytesOf : List D → Option (List UInt8)
  | [] => some []
  | .int .u8 (.ofNat n) :: ds => match bytesOf ds with
    | some l => guardO (Nat.blt n 256) (some (n.toUInt8 :: l))
    | none => none
  | _ => none

def convertF (s d : TypeId) (x : D) : Option (D × List Rng) :=
  match TI s with
  | some i =>
    match TI d with
    | some j =>
      match x with
      | .int _ n => match j.desc with
        | .int k => some (.int k (k.wrap n), [])
        | _ => none
      | .str l => match j.desc with
        | .string => some (.str l, [])
        | .slice e => match TI e with
          | some ⟨_, _, _, .int .u8, _⟩ => some (.isl 1 (byteD l), [])
          | _ => none
        | _ => none
      | .nsl => match j.desc with
        | .string => match i.desc with
          | .slice e => match TI e with
            | some ⟨_, _, _, .int .u8, _⟩ => some (.str [], [])
            | _ => none
          | _ => none
        | _ => none
      | .sl b sz o n => match j.desc with
        | .string => match i.desc with
          | .slice e => match TI e with
            | some ⟨_, _, _, .int .u8, _⟩ => match cellsAt H b with
              | some cs => match bytesOf ((cs.drop o).take n) with
                | some l => guardO (Nat.beq sz 1 && Nat.beq l.length n) (some (.str l, [.all b]))
                | none => none
              | none => none
            | _ => none
          | _ => none
        | _ => none
      | _ => none
    | none => none
  | none => none

def buildF (t : TypeId) (parts : Array (Nat × Operand)) : Option D :=
  match TI t with
  | some i =>
    match i.zero.cells? with
    | some zc =>
      match i.desc with
      | .struct fs =>
        match fieldsD TI fs.toList with
        | some pl => match fillD (fun j => pl[j]?) zc (parts.toList.map fun p => (p.1, ev p.2)) with
          | some cs => some (.agg cs)
          | none => none
        | none => none
      | .array _ e =>
        match TI e with
        | some ie => match fillD (fun j => some (j * ie.size, ie.size)) zc (parts.toList.map fun p => (p.1, ev p.2)) with
          | some cs => some (.agg cs)
          | none => none
        | none => none
      | _ => none
    | none => none
  | none => none

def buildSliceF (t : TypeId) (n : Nat) (parts : Array (Nat × Operand)) : Option Eff :=
  match TI t with
  | some ⟨_, _, _, .slice e, _⟩ =>
    match TI e with
    | some ie =>
      match ie.zero.cells? with
      | some _ => guardO (Nat.ble (n * ie.size) 16777216 && Nat.ble n 16777216) (match fillD (fun j => some (j * ie.size, ie.size)) (zeroD ie (n * ie.size)) (parts.toList.map fun p => (p.1, ev p.2)) with
        | some cs => newE nid (.sl nid ie.size 0 n) (.cells cs)
        | none => none)
      | none => none
    | none => none
  | _ => none

def nilCmpF (op : BinOp) (ty : TypeId) (yo : Operand) (x : D) : Option (D × List Rng) :=
  match TI ty with
  | some ⟨_, _, _, .slice _, _⟩ =>
    match yo with
    | .const _ =>
      match (match x with
        | .nsl => some (true, [])
        | .sl b _ _ _ => match cellsAt H b with
          | some (_ :: _) => some (false, [.all b])
          | _ => none
        | _ => none : Option (Bool × List Rng)) with
      | some (r, rh) =>
        match op with
        | .eql => some (.bool r, rh)
        | .neq => some (.bool (!r), rh)
        | _ => none
      | none => none
    | _ => none
  | _ => none

def fieldF (t : TypeId) (f : Nat) (x : D) : Option D :=
  match TI t with
  | some ⟨_, _, _, .struct fs, _⟩ =>
    match fs[f]? with
    | some fl =>
      match TI fl.type with
      | some fi => match x with
        | .agg cs => partD fi cs fl.offset
        | _ => none
      | none => none
    | none => none
  | _ => none

def builtinF (b : Builtin) (args : List Operand) (ts : List TypeId) : Option Eff :=
  match b with
  | .len =>
    match args, ts with
    | [x], [t] => match TI t with
      | some i => readE (lenF H (ev x) i.desc)
      | none => none
    | _, _ => none
  | .append =>
    match args, ts with
    | [s, x], [t, t2] => appendF TI nid H t t2 (ev s) (ev x)
    | _, _ => none
  | .min =>
    match args with
    | [x, y] => match ev x, ev y with
      | .int k a, .int _ b => pureE (some (.int k (if b < a then b else a)))
      | _, _ => none
    | _ => none
  | .max =>
    match args with
    | [x, y] => match ev x, ev y with
      | .int k a, .int _ b => pureE (some (.int k (if b > a then b else a)))
      | _, _ => none
    | _ => none
  | _ => none

def opF (op : Op) : Option Eff :=
  match op with
  | .move x => pureE (some (ev x))
  | .assign x => pureE (some (ev x))
  | .pick c x y => match ev c with
    | .bool b => pureE (some (bif b then ev x else ev y))
    | _ => none
  | .binOp op ty x y _ => match ev y with
    | .nsl => readE (nilCmpF TI H op ty y (ev x))
    | _ => pureE (binF TI op ty y (ev x) (ev y))
  | .unOp op _ x => pureE (unF op (ev x))
  | .convert s d x => readE (convertF TI H s d (ev x))
  | .build t parts => pureE (buildF TI ev t parts)
  | .field t x f => pureE (fieldF TI t f (ev x))
  | .index t x y => pureE (indexF TI t (ev x) (ev y))
  | .extract x j => match ev x with
    | .tup cs => pureE cs[j]?
    | _ => none
  | .makeFunc (.func f) first cap => guardO first.toList.isEmpty (pureE (some (.fn f (cap.toList.map ev))))
  | .makeInterface t _ => match TI t with
    | some ⟨_, _, _, .interface _, _⟩ => none
    | some _ => pureE (some (.ifc true))
    | none => none
  | .slice t x lo hi mx => readE (sliceF TI H t (ev x) (lo.map ev) (hi.map ev) (mx.map ev))
  | .load t x => readE (loadF TI H t (ev x))
  | .nilCheck x => readE (liveF H (ev x))
  | .fieldAddr t x f => readE (fieldAddrF TI H t f (ev x))
  | .indexAddr t x y => readE (indexAddrF TI H t (ev x) (ev y))
  | .alloc t => match TI t with
    | some i => match i.zero.cells? with
      | some cs => newE nid (.ptr nid 0) (.cells cs)
      | none => none
    | none => none
  | .box _ x => match (ev x).cells? with
    | some cs => newE nid (.ptr nid 0) (.cells cs)
    | none => none
  | .buildSlice t n parts => buildSliceF TI nid ev t n parts
  | .store t x y => storeF TI H t (ev x) (ev y)
  | .makeMap _ r => match r with
    | none => newE nid (.mp nid) (.map [])
    | some _ => none
  | .makeSlice t x y => makeSliceF TI nid t (ev x) (ev y)
  | .lookup t x k ok => readE (lookupF TI H t (ev x) (ev k) ok)
  | .mapUpdate t x k y => mapUpdateF TI H t (ev x) (ev k) (ev y)
  | .insert t x k y => mapUpdateF TI H t (ev x) (ev k) (ev y)
  | .call c => match c.callee with
    | .builtin b => builtinF TI nid ev H b c.args.toList c.argTypes.toList
    | _ => none
  | _ => none

end

/-! ### Calls -/

mutual
/-- Renumbered; what names a number outside is unknown. -/
def D.map (g : Nat → Option Nat) : D → D
  | .ptr b o => match g b with
    | some i => .ptr i o
    | none => .undef
  | .sl b sz o n => match g b with
    | some i => .sl i sz o n
    | none => .undef
  | .mp b => match g b with
    | some i => .mp i
    | none => .undef
  | .fn f cs => .fn f (D.mapL g cs)
  | .agg cs => .agg (D.mapL g cs)
  | .tup cs => .tup (D.mapL g cs)
  | d => d
def D.mapL (g : Nat → Option Nat) : List D → List D
  | [] => []
  | d :: ds => D.map g d :: D.mapL g ds
end

def Slot.mapS (g : Nat → Option Nat) : Slot → Slot
  | .cells cs => .cells (D.mapL g cs)
  | .map es => .map es

/-- The entries of a map name no block. -/
def Slot.mapOK : Slot → Bool
  | .cells _ => true
  | .map es => (D.idsL (es.map (·.1))).isEmpty && (D.idsL (es.map (·.2))).isEmpty

def idxOf (b : Nat) : List Nat → Nat → Option Nat
  | [], _ => none
  | x :: xs, i => bif Nat.beq x b then some i else idxOf b xs (i + 1)

def memN (b : Nat) : List Nat → Bool
  | [] => false
  | x :: xs => Nat.beq x b || memN b xs

/-- Numbers that are reached, behind those of L. -/
def reach (H : Nat → Option Slot) : Nat → List Nat → List Nat → List Nat
  | 0, _, L => L
  | _ + 1, [], L => L
  | k + 1, b :: todo, L =>
    bif memN b L then reach H k todo L else
    match H b with
    | none => reach H k todo L
    | some sl => reach H k (sl.ids ++ todo) (L ++ [b])

mutual
def D.beq : D → D → Bool
  | .undef, .undef => true
  | .bool a, .bool b => a == b
  | .int k a, .int k' b => decide (k = k') && decide (a = b)
  | .str a, .str b => a == b
  | .ptr b o, .ptr b' o' => Nat.beq b b' && Nat.beq o o'
  | .nptr, .nptr => true
  | .sl b sz o n, .sl b' sz' o' n' => Nat.beq b b' && Nat.beq sz sz' && Nat.beq o o' && Nat.beq n n'
  | .isl sz es, .isl sz' es' => Nat.beq sz sz' && D.beqL es es'
  | .nsl, .nsl => true
  | .iptr d, .iptr d' => D.beq d d'
  | .mp b, .mp b' => Nat.beq b b'
  | .nmp, .nmp => true
  | .fn f cs, .fn f' cs' => Nat.beq f f' && D.beqL cs cs'
  | .agg cs, .agg cs' => D.beqL cs cs'
  | .tup cs, .tup cs' => D.beqL cs cs'
  | .ifc b, .ifc b' => b == b'
  | _, _ => false
def D.beqL : List D → List D → Bool
  | [], [] => true
  | d :: ds, d' :: ds' => D.beq d d' && D.beqL ds ds'
  | _, _ => false
end

abbrev Orc := FuncId → List D → List Slot → Option (D × List (Option Slot))

/-- The first number where two lists part, and the cells behind it up to where they are alike. -/
def firstDiff : List D → List D → Nat → Option (Nat × List D)
  | a :: as, b :: bs, i => bif D.beq a b then firstDiff as bs (i + 1) else some (i, b :: bs)
  | _, _, _ => none

def dropSame : List D → List D → List D
  | a :: as, b :: bs => match dropSame as bs with
    | [] => bif D.beq a b then [] else [b]
    | l => b :: l
  | _, _ => []

/-- What a call does to a block (its cells before, in the callee's numbers, and behind). -/
def modeF (exact : Bool) (old : Slot) (new : Option Slot) : WM :=
  bif exact then
    match old, new with
    | .cells cs, some (.cells cs') =>
      bif D.beqL cs cs' then .keep else
        match firstDiff cs cs' 0 with
        | none => .whole
        | some (i, _) => bif D.beqL (putL cs i (dropSame (cs.drop i) (cs'.drop i))) cs' then .part i (dropSame (cs.drop i) (cs'.drop i)) else .whole
    | _, _ => .whole
  else .whole

def mapO {α β : Type} (f : α → Option β) : List α → Option (List β)
  | [] => some []
  | x :: xs => match f x with
    | some y => match mapO f xs with
      | some ys => some (y :: ys)
      | none => none
    | none => none

def callF (F : Orc) (draws : Bool) (ids : Nat → Nat) (ev : Operand → D) (H : Nat → Option Slot) (cl : Call) : Option Eff :=
  match cl.callee with
  | .value x =>
    match ev x with
    | .fn f cap =>
      let as := cl.args.toList.map ev ++ cap
      let L := reach H 4096 (D.idsL as) []
      let g := fun b => idxOf b L 0
      match mapO H L with
      | some sls =>
        let hin := sls.map (Slot.mapS g)
        match F f (D.mapL g as) hin with
        | some (res, outs) =>
          let wm := fun i => match sls[i]?, outs[i]? with
            | some sl, some new => modeF (draws && sl.ids.all fun b => memN b L) (Slot.mapS g sl) new
            | _, _ => .whole
          let μ := muOf L ids
          guardO (Nat.ble outs.length (L.length + 16) && sls.all Slot.mapOK)
            (some ⟨res.ren μ, (List.range outs.length).flatMap (hwOf μ L wm outs), L.map .all, (List.range outs.length).flatMap (whOf μ L wm)⟩)
        | none => none
      | none => none
    | _ => none
  | _ => none

abbrev Nats := FuncId → List D → Option D

def stepRF (P : Program) (nat : Nats) (F : Orc) (draws : Bool) (ids : Nat → Nat) (s : ES) (o : Oper) : Option Eff :=
  match o.op with
  | .call ⟨.value x, args, ts⟩ =>
    match (match evalD (fun t => s.T.get .undef t) x with
      | .fn f cap => nat f (args.toList.map (evalD (fun t => s.T.get .undef t)) ++ cap)
      | _ => none) with
    | some v => some ⟨v, [], [], []⟩
    | none => callF F draws ids (evalD (fun t => s.T.get .undef t)) (fun b => s.H.get b) ⟨.value x, args, ts⟩
  | op => opF (tiOf P) (ids 0) (evalD (fun t => s.T.get .undef t)) (fun b => s.H.get b) op

def stepF (P : Program) (nat : Nats) (F : Orc) (draws : Bool) (ops : List Oper) (ids : Nat → Nat) (s : ES) (o : Oper) : Option Eff :=
  match o.guard with
  | none => stepRF P nat F draws ids s o
  | some (j, want) =>
    match (ops[j]?).bind (·.dst) with
    | some d =>
      match s.T.get .undef d with
      | .bool b => bif b == want then stepRF P nat F draws ids s o else some ⟨.tup [], [], [], []⟩
      | .tup [] => some ⟨.tup [], [], [], []⟩
      | _ => none
    | none => none

def HL.app (h : HL) : HW → HL
  | .put b o cs => match h.get b with
    | some (.cells old) => h.set b (some (.cells (putL old o cs)))
    | _ => h
  | .set b sl => h.set b sl

def aftE (o : Oper) (e : Eff) (s : ES) : ES :=
  ⟨match o.dst with
    | some t => s.T.put .undef e.v 10 t
    | none => s.T, e.hw.foldl HL.app s.H⟩

def dstOK (N : Nat) (o : Oper) : Bool := match o.dst with
  | some t => Nat.blt t N && Nat.blt t 1023
  | none => true

def runF (P : Program) (nat : Nats) (F : Orc) (N : Nat) (draws : Bool) (ops : List Oper) (nb n : Nat) : List Oper → Nat → ES → Option (List Eff × ES)
  | [], _, s => some ([], s)
  | o :: os, k, s =>
    match guardO (dstOK N o) (stepF P nat F draws ops (idsOf nb n k) s o) with
    | some e =>
      match runF P nat F N draws ops nb n os (k + 1) (aftE o e s) with
      | some (es, s') => some (e :: es, s')
      | none => none
    | none => none

def freeB (ops : Array Oper) (es : List Eff) : Bool := edgesOK ops.toList 0 && freeOK ops es

def execF (P : Program) (nat : Nats) (F : Orc) (N : Nat) : Nat → Code → Nat → ES → Option (Ex × Nat × ES)
  | 0, _, _, _ => none
  | k + 1, c, nb, s =>
    match c with
    | .skip => some (.normal, nb, s)
    | .region _ ops dr =>
      match runF P nat F N dr ops.toList nb ops.size ops.toList 0 s with
      | some (es, s') => guardO (!dr || freeB ops es) (some (.normal, nb + ops.size * 16, s'))
      | none => none
    | .seq x y =>
      match execF P nat F N k x nb s with
      | some (.normal, nb1, s1) => execF P nat F N k y nb1 s1
      | r => r
    | .cond c x y =>
      match evalD (fun t => s.T.get .undef t) c with
      | .bool b => bif b then execF P nat F N k x nb s else execF P nat F N k y nb s
      | _ => none
    | .block id c =>
      match execF P nat F N k c nb s with
      | some (e, nb', s') => some (e.out id, nb', s')
      | none => none
    | .loop c =>
      match execF P nat F N k c nb s with
      | some (.normal, nb1, s1) => execF P nat F N k (.loop c) nb1 s1
      | r => r
    | .exit id => some (.exit id, nb, s)
    | .ret => some (.ret, nb, s)
    | _ => none

/-! ### A function -/

def resF (TI : TT) (s : ES) : ResultVar → Option D
  | .tmp t => some (s.T.get .undef t)
  | .cell a t => match loadF TI (fun b => s.H.get b) t (s.T.get .undef a) with
    | some (d, _) => some d
    | none => none

def chunks (sz : Nat) : Nat → List D → Option (List D)
  | 0, _ => some []
  | n + 1, cs =>
    let c := cs.take sz
    match (match c with
      | [d] => some d
      | _ => guardO (Nat.beq c.length sz && c.all D.scal) (some (.agg c))) with
    | some d => match chunks sz n (cs.drop sz) with
      | some es => some (d :: es)
      | none => none
    | none => none

/-- Frozen: what the blocks of F hold, by value. -/
def fz (F : Nat → Bool) (H : Nat → Option Slot) : Nat → D → Option D
  | 0, _ => none
  | k + 1, d =>
    match d with
    | .sl b sz o n => bif F b then
        match H b with
        | some (.cells cs) => match mapO (fz F H k) ((cs.drop o).take (n * sz)) with
          | some cs' => match chunks sz n cs' with
            | some es => guardO (D.idsL es).isEmpty (some (.isl sz es))
            | none => none
          | none => none
        | _ => none
      else some d
    | .ptr b o => bif F b then
        match H b with
        | some (.cells cs) => match mapO (fz F H k) cs with
          | some cs' => guardO (Nat.beq o 0 && (D.idsL cs').isEmpty && cs'.all D.scal && !cs'.isEmpty) (some (.iptr (.agg cs')))
          | none => none
        | _ => none
      else some d
    | .agg cs => match mapO (fz F H k) cs with
      | some cs' => some (.agg cs')
      | none => none
    | .tup cs => match mapO (fz F H k) cs with
      | some cs' => some (.tup cs')
      | none => none
    | d => some d

def liveOK (H : Nat → Option Slot) (b : Nat) : Bool := match H b with
  | some sl => sl.mapOK
  | none => true

def liveIdx (H : Nat → Option Slot) (L : List Nat) (b : Nat) : Option Nat := match H b with
  | some _ => idxOf b L 0
  | none => none

def idsAt (H : Nat → Option Slot) (b : Nat) : List Nat := match H b with
  | some sl => sl.ids
  | none => []

/-- What is left of a function's blocks: the first k, and what they and the result reach. -/
def endF (k : Nat) (H : Nat → Option Slot) (r : D) : Option (D × List (Option Slot)) :=
  let L := reach H 4096 (r.ids ++ (List.range k).flatMap (idsAt H)) (List.range k)
  guardO (L.all (liveOK H)) (some (r.map (liveIdx H L), L.map fun b => (H b).map (Slot.mapS (liveIdx H L))))

def Ex.done : Ex → Bool
  | .exit _ => false
  | _ => true

def startE (args : List D) : Nat → Tr D → Tr D
  | t, tr => match args with
    | [] => tr
    | a :: as => startE as (t + 1) (tr.put .undef a 10 t)

def callE (P : Program) (nat : Nats) (lib : Orc) (fuel : Nat) : Nat → Orc
  | 0, _, _, _ => none
  | k + 1, f, args, hin =>
    match lib f args hin with
    | some r => some r
    | none =>
      match P.funcs[f]? with
      | some fn =>
        match fn.body with
        | some c =>
          match guardO (Nat.ble args.length fn.ntmps && Nat.ble args.length 1000 && !(fn.name == "runtime.NumGoroutine")) (execF P nat (callE P nat lib fuel k) fn.ntmps fuel c hin.length ⟨startE args 0 .lf, (List.range hin.length).zip hin⟩) with
          | some (e, _, s) =>
            match guardO e.done (mapO (resF (tiOf P) s) fn.results.toList) with
            | some ds => endF hin.length (fun b => s.H.get b) (packD ds)
            | none => none
          | none => none
        | none => none
      | none => none

end Go.Tw
end
