/- The machines that run the program, closed and with open leaves: what they answer is so. -/
import Derived.Test.YtaeadcgbahaofaaGreatDoorTw37
section
namespace Go.Tw

/-! ## The symbolic machine is sound: other forms of a state -/

theorem SemW.refl (N nb0 nb : Nat) (s : St) : SemW N nb0 nb nb s s :=
  ⟨fun h => h, fun _ _ ρ _ w hr => ⟨ρ, hr, Fr.refl ρ w, Mono.refl _ ρ w⟩⟩

theorem SemW.trans {N nb0 nb nb1 nb2 : Nat} {s s1 s2 : St} (h : SemW N nb0 nb nb1 s s1) (k : SemW N nb0 nb1 nb2 s1 s2) : SemW N nb0 nb nb2 s s2 :=
  ⟨fun h0 => k.1 (h.1 h0), fun h0 X ρ a w hr => by
    obtain ⟨ρ', h1⟩ := h.2 h0 X ρ a w hr
    obtain ⟨ρ'', h2⟩ := k.2 (h.1 h0) X ρ' a w h1.rel
    exact ⟨ρ'', h1.trans h2⟩⟩

theorem wkL_VRs {X : Nat → Prop} {ρ : Nat → Place} {w : World} : ∀ {ds ds' : List D} {vs : List Value}, ds'.length = ds.length → (∀ (i : Nat) (d d' : D), ds[i]? = some d → ds'[i]? = some d' → ∀ v, VR X ρ w d v → VR X ρ w d' v) → VRs X ρ w ds vs → VRs X ρ w ds' vs := by
  intro ds ds' vs hl h hv
  refine VRs_of_get (by rw [hl, VRs_length hv]) fun i d' v h1 h2 => ?_
  have hi : i < ds.length := by rw [← hl]; exact (List.getElem?_eq_some_iff.1 h1).1
  obtain ⟨v', h3, h4⟩ := VRs_get hv i ds[i] (by simp [hi])
  rw [h2] at h3; cases h3
  exact h i ds[i] d' (by simp [hi]) h1 v h4

/-- Something is forgotten. -/
theorem sem_undef {N nb0 nb : Nat} {s s' : St} (hT : ∀ t, s'.T t = s.T t ∨ s'.T t = .undef ∨ ∃ cs cs', s.T t = .agg cs ∧ s'.T t = .agg cs' ∧ cs'.length = cs.length ∧ ∀ (i : Nat) (d d' : D), cs[i]? = some d → cs'[i]? = some d' → d' = d ∨ d' = .undef)
    (hH : ∀ b, s'.H b = s.H b ∨ ∃ cs cs', s.H b = some (.cells cs) ∧ s'.H b = some (.cells cs') ∧ cs'.length = cs.length ∧ ∀ (i : Nat) (d d' : D), cs[i]? = some d → cs'[i]? = some d' → d' = d ∨ d' = .undef) : SemW N nb0 nb nb s s' := by
  refine ⟨fun h => h, fun _ X ρ a w hr => ⟨ρ, ⟨hr.size, fun t => ?_, fun t b hb => ?_, fun b sl hb c hc => ?_, hr.dom, ⟨fun b g hb => ?_, fun b hb => ?_, fun b sl hb => ?_, hr.heap.inj, hr.heap.clear, hr.heap.avoid, hr.heap.globs⟩, hr.defers⟩, Fr.refl ρ w, Mono.refl _ ρ w⟩⟩
  · rcases hT t with h | h | ⟨cs, cs', h1, h2, h3, h4⟩
    · rw [h]; exact hr.tmp t
    · rw [h]; simp [VR]
    · have := hr.tmp t
      rw [h1] at this
      rw [h2]
      simp only [VR] at this ⊢
      obtain ⟨vs, h5, h6⟩ := this
      refine ⟨vs, h5, wkL_VRs h3 (fun i d d' hd hd' v hv => ?_) h6⟩
      rcases h4 i d d' hd hd' with rfl | rfl
      · exact hv
      · simp [VR]
  · rcases hT t with h | h | ⟨cs, cs', h1, h2, h3, h4⟩
    · rw [h] at hb; exact hr.tids t b hb
    · rw [h] at hb; simp [D.ids] at hb
    · rw [h2] at hb
      obtain ⟨d', hd', hb'⟩ := mem_idsL (by simpa only [D.ids] using hb)
      obtain ⟨i, hi⟩ := List.getElem?_of_mem hd'
      have hil : i < cs.length := by rw [← h3]; exact (List.getElem?_eq_some_iff.1 hi).1
      rcases h4 i cs[i] d' (by simp [hil]) hi with h5 | h5
      · refine hr.tids t b ?_
        rw [h1]
        exact idsL_mem (List.getElem_mem hil) (by rw [← h5]; exact hb')
      · rw [h5] at hb'; simp [D.ids] at hb'
  · rcases hH b with h | ⟨cs, cs', h1, h2, h3, h4⟩
    · rw [h] at hb; exact hr.hids b sl hb c hc
    · rw [h2] at hb; cases hb
      obtain ⟨d', hd', hb'⟩ := mem_idsL hc
      obtain ⟨i, hi⟩ := List.getElem?_of_mem hd'
      have hil : i < cs.length := by rw [← h3]; exact (List.getElem?_eq_some_iff.1 hi).1
      rcases h4 i cs[i] d' (by simp [hil]) hi with h5 | h5
      · exact hr.hids b _ h1 c (idsL_mem (List.getElem_mem hil) (by rw [← h5]; exact hb'))
      · rw [h5] at hb'; simp [D.ids] at hb'
  · obtain ⟨sl, h5, h6⟩ := hr.heap.row b g hb
    rcases hH b with h | ⟨cs, cs', h1, h2, h3, h4⟩
    · exact ⟨sl, h.trans h5, h6⟩
    · rw [h1] at h5; cases h5
      refine ⟨_, h2, ?_⟩
      obtain ⟨cur, e, h7, h8⟩ := h6
      refine ⟨cur, e, h7, ?_⟩
      rw [h3]
      refine wkL_VRs h3 (fun i d d' hd hd' v hv => ?_) h8
      rcases h4 i d d' hd hd' with rfl | rfl
      · exact hv
      · simp [VR]
  · have h5 := hr.heap.nil b hb
    rcases hH b with h | ⟨cs, cs', h1, h2, h3, h4⟩
    · exact h.trans h5
    · rw [h1] at h5; cases h5
      rw [h2]
      rw [List.length_nil] at h3
      rw [List.length_eq_zero_iff.1 h3]
  · rcases hH b with h | ⟨cs, cs', h1, h2, h3, h4⟩
    · rw [h] at hb; exact hr.heap.live b sl hb
    · exact hr.heap.live b _ h1

/-- nil becomes an empty block of its own. -/
theorem sem_own {N nb0 nb sz : Nat} {s s' : St} (hT : ∀ t, s'.T t = s.T t ∨ (s.T t = .nsl ∧ s'.T t = .sl nb sz 0 0) ∨ ∃ cs cs', s.T t = .agg cs ∧ s'.T t = .agg cs' ∧ cs'.length = cs.length ∧ ∀ (i : Nat) (d d' : D), cs[i]? = some d → cs'[i]? = some d' → d' = d ∨ (d = .nsl ∧ d' = .sl nb sz 0 0))
    (hH : ∀ b, b ≠ nb → s'.H b = s.H b ∨ ∃ cs cs', s.H b = some (.cells cs) ∧ s'.H b = some (.cells cs') ∧ cs'.length = cs.length ∧ ∀ (i : Nat) (d d' : D), cs[i]? = some d → cs'[i]? = some d' → d' = d ∨ (d = .nsl ∧ d' = .sl nb sz 0 0))
    (hN : s'.H nb = some (.cells [])) : SemW N nb0 nb (nb + 1) s s' := by
  refine ⟨fun h => by omega, fun h0 X ρ a w hr => ?_⟩
  obtain ⟨hm, hh, hfr⟩ := step_nil (nid := nb) hr.heap ⟨hr.hids, hr.dom⟩ (Nat.lt_irrefl nb)
  have hval : ∀ v, VR X ρ w .nsl v → VR X (upd ρ nb .nil) w (.sl nb sz 0 0) v := fun v hv => by
    simp only [VR] at hv ⊢
    subst hv
    refine ⟨rfl, fun g hg => (by rw [upd_same] at hg; cases hg), fun _ => by simp⟩
  have hone : ∀ (d d' : D) (v : Value), (∀ b ∈ d.ids, b < nb) → (d' = d ∨ (d = .nsl ∧ d' = .sl nb sz 0 0)) → VR X ρ w d v → VR X (upd ρ nb .nil) w d' v := fun d d' v hi h hv => by
    rcases h with rfl | ⟨rfl, rfl⟩
    · exact VR_mono hm _ _ hi hv
    · exact hval v hv
  have hlist : ∀ (cs cs' : List D) (vs : List Value), (∀ b ∈ D.idsL cs, b < nb) → cs'.length = cs.length → (∀ (i : Nat) (d d' : D), cs[i]? = some d → cs'[i]? = some d' → d' = d ∨ (d = .nsl ∧ d' = .sl nb sz 0 0)) → VRs X ρ w cs vs → VRs X (upd ρ nb .nil) w cs' vs := fun cs cs' vs hi hl h hv => by
    refine VRs_of_get (by rw [hl, VRs_length hv]) fun i d' v h1 h2 => ?_
    have hil : i < cs.length := by rw [← hl]; exact (List.getElem?_eq_some_iff.1 h1).1
    obtain ⟨v', h3, h4⟩ := VRs_get hv i cs[i] (by simp [hil])
    rw [h2] at h3; cases h3
    exact hone cs[i] d' v (fun b hb => hi b (idsL_mem (List.getElem_mem hil) hb)) (h i _ d' (by simp [hil]) h1) h4
  have hids : ∀ (cs cs' : List D) (b : Nat), cs'.length = cs.length → (∀ (i : Nat) (d d' : D), cs[i]? = some d → cs'[i]? = some d' → d' = d ∨ (d = .nsl ∧ d' = .sl nb sz 0 0)) → b ∈ D.idsL cs' → b ∈ D.idsL cs ∨ b = nb := fun cs cs' b hl h hb => by
    obtain ⟨d', hd', hb'⟩ := mem_idsL hb
    obtain ⟨i, hi⟩ := List.getElem?_of_mem hd'
    have hil : i < cs.length := by rw [← hl]; exact (List.getElem?_eq_some_iff.1 hi).1
    rcases h i cs[i] d' (by simp [hil]) hi with h5 | ⟨_, h5⟩
    · exact .inl (idsL_mem (List.getElem_mem hil) (by rw [← h5]; exact hb'))
    · rw [h5] at hb'; simp only [D.ids, List.mem_singleton] at hb'; exact .inr hb'
  refine ⟨upd ρ nb .nil, ⟨hr.size, fun t => ?_, fun t b hb => ?_, fun b sl hb c hc => ?_, fun b hb => ?_, ⟨fun b g hb => ?_, fun b hb => ?_, fun b sl hb => ?_, hh.inj, hh.clear, hh.avoid, hh.globs⟩, hr.defers⟩, hfr, hm.sub fun b hb => Nat.lt_of_lt_of_le hb h0⟩
  · rcases hT t with h | ⟨h1, h2⟩ | ⟨cs, cs', h1, h2, h3, h4⟩
    · exact hone (s.T t) _ _ (hr.tids t) (.inl h) (hr.tmp t)
    · exact hone (s.T t) _ _ (hr.tids t) (.inr ⟨h1, h2⟩) (hr.tmp t)
    · have := hr.tmp t
      rw [h1] at this
      rw [h2]
      simp only [VR] at this ⊢
      obtain ⟨vs, h5, h6⟩ := this
      exact ⟨vs, h5, hlist cs cs' vs (fun b hb => hr.tids t b (by rw [h1]; exact hb)) h3 h4 h6⟩
  · rcases hT t with h | ⟨h1, h2⟩ | ⟨cs, cs', h1, h2, h3, h4⟩
    · rw [h] at hb; have := hr.tids t b hb; omega
    · rw [h2] at hb; simp only [D.ids, List.mem_singleton] at hb; omega
    · rw [h2] at hb
      rcases hids cs cs' b h3 h4 hb with h | h
      · have := hr.tids t b (by rw [h1]; exact h); omega
      · omega
  · by_cases hbn : b = nb
    · subst hbn; rw [hN] at hb; cases hb; simp [Slot.ids, D.idsL] at hc
    · rcases hH b hbn with h | ⟨cs, cs', h1, h2, h3, h4⟩
      · rw [h] at hb; have := hr.hids b sl hb c hc; omega
      · rw [h2] at hb; cases hb
        rcases hids cs cs' c h3 h4 hc with h | h
        · have := hr.hids b _ h1 c h; omega
        · omega
  · by_cases hbn : b = nb
    · omega
    · rw [upd_ne _ _ hbn] at hb; have := hr.dom b hb; omega
  · have hbn : b ≠ nb := fun e => by subst e; rw [upd_same] at hb; cases hb
    rw [upd_ne _ _ hbn] at hb
    obtain ⟨sl, h5, h6⟩ := hr.heap.row b g hb
    rcases hH b hbn with h | ⟨cs, cs', h1, h2, h3, h4⟩
    · exact ⟨sl, h.trans h5, slotR_mono hm rfl sl (fun c hc => hr.hids b sl h5 c hc) h6⟩
    · rw [h1] at h5; cases h5
      refine ⟨_, h2, ?_⟩
      obtain ⟨cur, e, h7, h8⟩ := h6
      refine ⟨cur, e, h7, ?_⟩
      rw [h3]
      exact hlist cs cs' _ (fun c hc => hr.hids b _ h1 c hc) h3 h4 h8
  · by_cases hbn : b = nb
    · subst hbn; exact hN
    · rw [upd_ne _ _ hbn] at hb
      have h5 := hr.heap.nil b hb
      rcases hH b hbn with h | ⟨cs, cs', h1, h2, h3, h4⟩
      · exact h.trans h5
      · rw [h1] at h5; cases h5
        rw [h2]
        rw [List.length_nil] at h3
        rw [List.length_eq_zero_iff.1 h3]
  · by_cases hbn : b = nb
    · subst hbn; rw [upd_same]; simp
    · rw [upd_ne _ _ hbn]
      rcases hH b hbn with h | ⟨cs, cs', h1, h2, h3, h4⟩
      · rw [h] at hb; exact hr.heap.live b sl hb
      · exact hr.heap.live b _ h1

theorem sem_frz {N nb0 nb b0 : Nat} {cs : List D} {s s' : St} (h : Frz b0 cs s s') : SemW N nb0 nb nb s s' :=
  ⟨fun h => h, fun _ _ _ _ _ hr => ⟨_, frz_sound h hr⟩⟩

theorem putL_one_get (cs : List D) (i : Nat) (d : D) (j : Nat) : (putL cs i [d])[j]? = if j = i ∧ j < cs.length then some d else cs[j]? := by
  rw [putL_get]
  by_cases h : j = i ∧ j < cs.length
  · obtain ⟨rfl, h2⟩ := h
    simp [h2]
  · rw [if_neg h, if_neg]
    intro h'
    simp only [List.length_singleton] at h'
    exact h ⟨by omega, h'.2.2⟩

theorem FVL_putL {b0 : Nat} {cs : List D} {d d' : D} (h : FV b0 cs d d') : ∀ {l : List D} {i : Nat}, l[i]? = some d → FVL b0 cs l (putL l i [d'])
  | [], i, hi => by simp at hi
  | x :: l, 0, hi => by
    simp only [List.getElem?_cons_zero, Option.some.injEq] at hi
    subst hi
    simp only [putL, putL_nil]
    exact .cons h (reflL l)
  | x :: l, i + 1, hi => by
    simp only [putL]
    exact .cons (.refl x) (FVL_putL h (by simpa using hi))
  where
  reflL : ∀ l : List D, FVL b0 cs l l
    | [] => .nil
    | x :: l => .cons (.refl x) (reflL l)

theorem FVL_refl {b0 : Nat} {cs : List D} (l : List D) : FVL b0 cs l l := FVL_putL.reflL l

theorem chunkD_frzL {sz : Nat} (hz : 0 < sz) {cs : List D} (hs : ∀ d ∈ cs, d.scal = true) : ∀ (n o : Nat), o + n * sz ≤ cs.length → frzL sz cs o (chunkD sz n (cs.drop o)) ∧ (chunkD sz n (cs.drop o)).length = n
  | 0, o, _ => by simp [chunkD, frzL]
  | n + 1, o, hl => by
    have h1 : o + sz + n * sz ≤ cs.length := by rw [Nat.succ_mul] at hl; omega
    obtain ⟨h2, h3⟩ := chunkD_frzL hz hs n (o + sz) h1
    have h4 : (cs.drop o).drop sz = cs.drop (o + sz) := by rw [List.drop_drop]
    simp only [chunkD, h4]
    refine ⟨⟨⟨(cs.drop o).take sz, rfl, ?_, by simp; rw [Nat.succ_mul] at hl; omega, rfl⟩, h2⟩, by simp [h3]⟩
    simp only [D.solid, List.all_eq_true]
    exact fun d hd => hs d (List.mem_of_mem_drop (List.mem_of_mem_take hd))

theorem one_frzL {cs : List D} (hs : ∀ d ∈ cs, d.scal = true) : ∀ (n o : Nat), o + n ≤ cs.length → frzL 1 cs o ((cs.drop o).take n) ∧ ((cs.drop o).take n).length = n
  | 0, o, _ => by simp [frzL]
  | n + 1, o, hl => by
    obtain ⟨h2, h3⟩ := one_frzL hs n (o + 1) (by omega)
    have ho : o < cs.length := by omega
    have hd : cs.drop o = cs[o] :: cs.drop (o + 1) := by rw [List.drop_eq_getElem_cons ho]
    have he : (cs.drop o).take (n + 1) = cs[o] :: (cs.drop (o + 1)).take n := by rw [hd, List.take_succ_cons]
    rw [he]
    have hsc := hs cs[o] (List.getElem_mem ho)
    refine ⟨⟨⟨[cs[o]], ?_, ?_, rfl, by rw [hd]; rfl⟩, h2⟩, by simp only [List.length_cons, h3]⟩
    · revert hsc; cases cs[o] <;> simp [D.scal, D.cells?]
    · revert hsc; cases cs[o] <;> simp [D.scal, D.solid]

theorem elemsD_frzL {sz n o : Nat} (hz : 0 < sz) {cs : List D} (hs : ∀ d ∈ cs, d.scal = true) (hl : o + n * sz ≤ cs.length) : frzL sz cs o (elemsD sz n (cs.drop o)) ∧ (elemsD sz n (cs.drop o)).length = n := by
  unfold elemsD
  cases hb : Nat.beq sz 1 with
  | true =>
    have := beq_ok hb
    subst this
    exact one_frzL hs n o (by omega)
  | false => exact chunkD_frzL hz hs n o hl

/-- What a change of form does to the heap, and what the value was. -/
inductive NV (H : SHL) (nb : Nat) (d : D) : D → SHL → Nat → Prop
  | same : NV H nb d d H nb
  | mark {H' : SHL} (h : ∀ n, H'.slot n = H.slot n) (hg : ∀ n, (H'.get n).isSome = (H.get n).isSome) (ho : H'.OK) : NV H nb d d H' nb
  | undef : NV H nb d .undef H nb
  | nil (sz : Nat) (h : d = .nsl) : NV H nb d (.isl sz []) H nb
  | own (sz : Nat) (h : d = .nsl) : NV H nb d (.sl nb sz 0 0) (H.set nb (true, .cells [])) (nb + 1)
  | val {b sz o n : Nat} {c : Bool} {cs es : List D} (h : d = .sl b sz o n) (hg : H.get b = some (c, .cells cs)) (hc : (Slot.cells cs).Clo) (hf : frzL sz cs o es) (hl : es.length = n) : NV H nb d (.isl sz es) (H.del b) nb

theorem normV_ok {H : SHL} (hs : H.OK) {nb : Nat} {z : Nz} {d d' : D} {nd : List Bool} {H' : SHL} {nb' : Nat} (h : normV H nb z d = some (nd, d', H', nb')) (hn : AllT nd) : NV H nb d d' H' nb' := by
  unfold normV at h
  cases z with
  | drop => cases h; exact .undef
  | own sz =>
    simp only at h
    split at h
    · cases h; exact .own sz rfl
    · split at h
      · rename_i b _ o n c cs hg
        cases h
        simp only [AllT.cons, Bool.or_eq_true] at hn
        refine .mark (fun n => ?_) (fun n => ?_) (fun n sl hsl => ?_)
        · simp only [SHL.slot_eq, SHL.get_set]
          split
          · rename_i e; subst e; rw [hg]; rfl
          · rfl
        · rw [SHL.get_set]
          split
          · rename_i e; subst e; rw [hg]; rfl
          · rfl
        · rw [SHL.get_set] at hsl
          split at hsl
          · cases hsl
            rcases hn.1 with h1 | h1
            · subst h1; exact hs _ _ hg
            · exact cloB_ok h1
          · exact hs n sl hsl
      · cases h
    · split at h
      · rename_i b c es hg
        cases h
        simp only [AllT.cons, Bool.or_eq_true, Bool.and_eq_true, List.isEmpty_iff] at hn
        refine .mark (fun n => ?_) (fun n => ?_) (fun n sl hsl => ?_)
        · simp only [SHL.slot_eq, SHL.get_set]
          split
          · rename_i e; subst e; rw [hg]; rfl
          · rfl
        · rw [SHL.get_set]
          split
          · rename_i e; subst e; rw [hg]; rfl
          · rfl
        · rw [SHL.get_set] at hsl
          split at hsl
          · cases hsl
            rcases hn.1 with h1 | h1
            · subst h1; exact hs _ _ hg
            · exact h1
          · exact hs n sl hsl
      · cases h
    · cases h; exact .same
  | val sz =>
    simp only at h
    split at h
    · cases h; exact .nil sz rfl
    · rename_i b sz' o n
      obtain ⟨h1, h2⟩ := bif_some h
      simp only [Bool.and_eq_true] at h1
      have := beq_ok h1.1
      subst this
      split at h2
      · rename_i c cs hg
        cases h2
        simp only [AllT.cons, Bool.or_eq_true] at hn
        have hclo : (Slot.cells cs).Clo := by
          rcases hn.2.1 with h3 | h3
          · subst h3; exact hs _ _ hg
          · exact cloB_ok h3
        obtain ⟨h4, h5⟩ := elemsD_frzL (blt_ok h1.2) hclo.2 (ble_ok hn.1)
        exact .val rfl hg hclo h4 h5
      · cases h2
    · cases h; exact .same

theorem SHL.OK.set {h : SHL} (hc : h.OK) {b : Nat} {c : Bool} {sl : Slot} (hx : c = true → sl.Clo) : (h.set b (c, sl)).OK := by
  intro n sl' hn
  rw [SHL.get_set] at hn
  split at hn
  · cases hn; exact hx rfl
  · exact hc n sl' hn

theorem SHL.OK.del {h : SHL} (hc : h.OK) {b : Nat} : (h.del b).OK := by
  intro n sl' hn
  rw [SHL.get_del] at hn
  split at hn
  · cases hn
  · exact hc n sl' hn

theorem SHL.slot_set (h : SHL) (b n : Nat) (x : FS) : (h.set b x).slot n = if n = b then some x.2 else h.slot n := by
  rw [SHL.slot_eq, SHL.get_set, SHL.slot_eq]; split <;> rfl
theorem SHL.slot_del (h : SHL) (b n : Nat) : (h.del b).slot n = if n = b then none else h.slot n := by
  rw [SHL.slot_eq, SHL.get_del, SHL.slot_eq]; split <;> rfl

theorem getD_some {l : List D} {i : Nat} (h : i < l.length) : l[i]? = some (l.getD i .undef) := by simp [List.getD_eq_getElem?_getD, h]

/-- A value at a temporary, or in one cell of an aggregate at a temporary, or in one cell of a block, has another form. -/
theorem sem_at {N nb0 nb nb' : Nat} {T T' : Nat → D} {H H' H'' : SHL} {d d' : D} (hv : NV H nb d d' H' nb')
    (hT : ∀ t, T' t = T t ∨ (T t = d ∧ T' t = d') ∨ ∃ cs i, T t = .agg cs ∧ cs[i]? = some d ∧ T' t = .agg (putL cs i [d']))
    (hH : (∀ b, H''.slot b = H'.slot b) ∨ ∃ b cs i, H.get b = some (false, .cells cs) ∧ (H'.get b).isSome = true ∧ cs[i]? = some d ∧ ∀ n, H''.slot n = if n = b then some (.cells (putL cs i [d'])) else H'.slot n)
    (hfr : H.get nb = none) : SemW N nb0 nb nb' ⟨T, fun b => H.slot b⟩ ⟨T', fun b => H''.slot b⟩ := by
  have hput : ∀ (cs : List D) (i : Nat), cs[i]? = some d → ∀ (P : D → D → Prop), (∀ x, P x x) → P d d' → (putL cs i [d']).length = cs.length ∧ ∀ (j : Nat) (x x' : D), cs[j]? = some x → (putL cs i [d'])[j]? = some x' → P x x' := fun cs i hi P hr hd => by
    refine ⟨putL_length _ _ _, fun j x x' h1 h2 => ?_⟩
    rw [putL_one_get] at h2
    split at h2
    · rename_i h3
      obtain ⟨rfl, _⟩ := h3
      cases h2
      rw [hi] at h1; cases h1; exact hd
    · rw [h1] at h2; cases h2; exact hr x
  have hslot : ∀ {b : Nat} {cs : List D}, H.get b = some (false, .cells cs) → H.slot b = some (.cells cs) := fun h => by rw [SHL.slot_eq, h]; rfl
  have heq : (∀ n, H'.slot n = H.slot n) → d' = d → SemW N nb0 nb nb ⟨T, fun b => H.slot b⟩ ⟨T', fun b => H''.slot b⟩ := fun hsl hd => by
    subst hd
    have h1 : T' = T := funext fun t => by
      rcases hT t with h | ⟨h1, h2⟩ | ⟨cs, i, h1, h2, h3⟩
      · exact h
      · rw [h1, h2]
      · rw [h3, h1]
        congr 1
        apply List.ext_getElem?
        intro j
        rw [putL_one_get]
        split
        · rename_i h4; rw [h4.1, h2]
        · rfl
    have h2 : (fun b => H''.slot b) = fun b => H.slot b := funext fun n => by
      rcases hH with h | ⟨b, cs, i, h3, _, h4, h5⟩
      · exact (h n).trans (hsl n)
      · rw [h5 n]
        split
        · rename_i e; subst e
          rw [hslot h3]
          congr 2
          apply List.ext_getElem?
          intro j
          rw [putL_one_get]
          split
          · rename_i h6; rw [h6.1, h4]
          · rfl
        · exact hsl n
    rw [h1, h2]
    exact SemW.refl _ _ _ _
  cases hv with
  | same => exact heq (fun _ => rfl) rfl
  | mark h hg ho => exact heq h rfl
  | undef =>
    refine sem_undef (fun t => ?_) fun n => ?_
    · rcases hT t with h | ⟨h1, h2⟩ | ⟨cs, i, h1, h2, h3⟩
      · exact .inl h
      · exact .inr (.inl h2)
      · obtain ⟨h4, h5⟩ := hput cs i h2 (fun x x' => x' = x ∨ x' = .undef) (fun _ => .inl rfl) (.inr rfl)
        exact .inr (.inr ⟨cs, _, h1, h3, h4, h5⟩)
    · rcases hH with h | ⟨b, cs, i, h3, _, h4, h5⟩
      · exact .inl (h n)
      · by_cases hn : n = b
        · subst hn
          obtain ⟨h6, h7⟩ := hput cs i h4 (fun x x' => x' = x ∨ x' = .undef) (fun _ => .inl rfl) (.inr rfl)
          exact .inr ⟨cs, _, hslot h3, by show H''.slot n = _; rw [h5 n]; simp, h6, h7⟩
        · exact .inl (by show H''.slot n = _; rw [h5 n]; simp [hn])
  | nil sz hd =>
    subst hd
    have hw : ∀ (X : Nat → Prop) (ρ : Nat → Place) (w : World) (v : Value), VR X ρ w .nsl v → VR X ρ w (.isl sz []) v := fun X ρ w v hv => (Wk.nil sz).1 X ρ w v hv
    refine ⟨fun h => h, fun _ X ρ a w hr => ⟨ρ, ⟨hr.size, fun t => ?_, fun t b hb => ?_, fun b sl hb c hc => ?_, hr.dom, ⟨fun b g hb => ?_, fun b hb => ?_, fun b sl hb => ?_, hr.heap.inj, hr.heap.clear, hr.heap.avoid, hr.heap.globs⟩, hr.defers⟩, Fr.refl ρ w, Mono.refl _ ρ w⟩⟩
    · have h0 := hr.tmp t
      show VR X ρ w (T' t) _
      rcases hT t with h | ⟨h1, h2⟩ | ⟨cs, i, h1, h2, h3⟩
      · rw [h]; exact h0
      · rw [h2]
        have h0 : VR X ρ w (T t) _ := h0
        rw [h1] at h0; exact hw _ _ _ _ h0
      · rw [h3]
        have h0 : VR X ρ w (T t) _ := h0
        rw [h1] at h0
        simp only [VR] at h0 ⊢
        obtain ⟨vs, h5, h6⟩ := h0
        obtain ⟨h7, h8⟩ := hput cs i h2 (fun x x' => ∀ v, VR X ρ w x v → VR X ρ w x' v) (fun _ _ h => h) (hw X ρ w)
        exact ⟨vs, h5, wkL_VRs h7 h8 h6⟩
    · have h0 : ∀ b ∈ (T t).ids, b < nb := hr.tids t
      have hb : b ∈ (T' t).ids := hb
      rcases hT t with h | ⟨h1, h2⟩ | ⟨cs, i, h1, h2, h3⟩
      · rw [h] at hb; exact h0 b hb
      · rw [h2] at hb; simp [D.ids] at hb
      · rw [h3] at hb
        obtain ⟨x', hx', hb'⟩ := mem_idsL (by simpa only [D.ids] using hb)
        obtain ⟨j, hj⟩ := List.getElem?_of_mem hx'
        rw [putL_one_get] at hj
        split at hj
        · cases hj; simp [D.ids] at hb'
        · exact h0 b (by rw [h1]; exact idsL_mem (List.mem_of_getElem? hj) hb')
    · have hb : H''.slot b = some sl := hb
      rcases hH with h | ⟨b1, cs, i, h3, _, h4, h5⟩
      · rw [h b] at hb; exact hr.hids b sl hb c hc
      · rw [h5 b] at hb
        split at hb
        · rename_i e; subst e; cases hb
          obtain ⟨x', hx', hb'⟩ := mem_idsL hc
          obtain ⟨j, hj⟩ := List.getElem?_of_mem hx'
          rw [putL_one_get] at hj
          split at hj
          · cases hj; simp [D.ids] at hb'
          · exact hr.hids b _ (hslot h3) c (idsL_mem (List.mem_of_getElem? hj) hb')
        · exact hr.hids b sl hb c hc
    · obtain ⟨sl, h5, h6⟩ := hr.heap.row b g hb
      have h5 : H.slot b = some sl := h5
      show ∃ sl, H''.slot b = some sl ∧ _
      rcases hH with h | ⟨b1, cs, i, h3, _, h4, h7⟩
      · exact ⟨sl, (h b).trans h5, h6⟩
      · rw [h7 b]
        split
        · rename_i e; subst e
          rw [hslot h3] at h5; cases h5
          refine ⟨_, rfl, ?_⟩
          obtain ⟨cur, e, h8, h9⟩ := h6
          obtain ⟨h10, h11⟩ := hput cs i h4 (fun x x' => ∀ v, VR X ρ w x v → VR X ρ w x' v) (fun _ _ h => h) (hw X ρ w)
          exact ⟨cur, e, h8, by rw [h10]; exact wkL_VRs h10 h11 h9⟩
        · exact ⟨sl, h5, h6⟩
    · have h5 : H.slot b = some (.cells []) := hr.heap.nil b hb
      show H''.slot b = _
      rcases hH with h | ⟨b1, cs, i, h3, _, h4, h7⟩
      · exact (h b).trans h5
      · rw [h7 b]
        split
        · rename_i e; subst e
          rw [hslot h3] at h5; cases h5; simp at h4
        · exact h5
    · have hb : H''.slot b = some sl := hb
      rcases hH with h | ⟨b1, cs, i, h3, _, h4, h7⟩
      · exact hr.heap.live b sl ((h b).symm.trans hb)
      · rw [h7 b] at hb
        split at hb
        · rename_i e; subst e; exact hr.heap.live b _ (hslot h3)
        · exact hr.heap.live b sl hb
  | own sz hd =>
    subst hd
    refine sem_own (sz := sz) (fun t => ?_) (fun n hn => ?_) ?_
    · rcases hT t with h | ⟨h1, h2⟩ | ⟨cs, i, h1, h2, h3⟩
      · exact .inl h
      · exact .inr (.inl ⟨h1, h2⟩)
      · obtain ⟨h4, h5⟩ := hput cs i h2 (fun x x' => x' = x ∨ (x = .nsl ∧ x' = .sl nb sz 0 0)) (fun _ => .inl rfl) (.inr ⟨rfl, rfl⟩)
        exact .inr (.inr ⟨cs, _, h1, h3, h4, h5⟩)
    · rcases hH with h | ⟨b, cs, i, h3, _, h4, h5⟩
      · exact .inl (by show H''.slot n = _; rw [h n, SHL.slot_set]; simp [hn])
      · by_cases hnb : n = b
        · subst hnb
          obtain ⟨h6, h7⟩ := hput cs i h4 (fun x x' => x' = x ∨ (x = .nsl ∧ x' = .sl nb sz 0 0)) (fun _ => .inl rfl) (.inr ⟨rfl, rfl⟩)
          exact .inr ⟨cs, _, hslot h3, by show H''.slot n = _; rw [h5 n]; simp, h6, h7⟩
        · exact .inl (by show H''.slot n = _; rw [h5 n, SHL.slot_set]; simp [hn, hnb])
    · show H''.slot nb = _
      rcases hH with h | ⟨b, cs, i, h3, _, h4, h5⟩
      · rw [h nb, SHL.slot_set]; simp
      · have hne : nb ≠ b := fun e => by subst e; rw [hfr] at h3; cases h3
        rw [h5 nb, SHL.slot_set]; simp [hne]
  | @val b sz o n c cs es hd hg hc hf hl =>
    subst hd
    have hfv : FV b cs (.sl b sz o n) (.isl sz es) := .sl hf hl
    have hne : ∀ {b1 : Nat}, ((H.del b).get b1).isSome = true → b1 ≠ b := fun h e => by subst e; rw [SHL.get_del] at h; simp at h
    refine sem_frz (b0 := b) (cs := cs) ⟨by show H.slot b = _; rw [SHL.slot_eq, hg]; rfl, hc.1, ?_, fun t => ?_, fun n sl hn hsl => ?_, fun n hn hsl => ?_⟩
    · show H''.slot b = none
      rcases hH with h | ⟨b1, cs1, i, h3, h6, h4, h5⟩
      · rw [h b, SHL.slot_del]; simp
      · rw [h5 b, SHL.slot_del]; simp [Ne.symm (hne h6)]
    · show FV b cs (T t) (T' t)
      rcases hT t with h | ⟨h1, h2⟩ | ⟨cs1, i, h1, h2, h3⟩
      · rw [h]; exact .refl _
      · rw [h1, h2]; exact hfv
      · rw [h1, h3]; exact .agg (FVL_putL hfv h2)
    · have hsl : H.slot n = some sl := hsl
      show ∃ sl', H''.slot n = some sl' ∧ _
      rcases hH with h | ⟨b1, cs1, i, h3, h6, h4, h5⟩
      · refine ⟨sl, by rw [h n, SHL.slot_del]; simp [hn, hsl], ?_⟩
        cases sl with
        | cells ds => exact FVL_refl ds
        | map es => rfl
      · by_cases hnb : n = b1
        · subst hnb
          rw [hslot h3] at hsl; cases hsl
          exact ⟨.cells (putL cs1 i [D.isl sz es]), by rw [h5 n]; simp, FVL_putL hfv h4⟩
        · refine ⟨sl, by rw [h5 n, SHL.slot_del]; simp [hn, hnb, hsl], ?_⟩
          cases sl with
          | cells ds => exact FVL_refl ds
          | map es => rfl
    · have hsl : H.slot n = none := hsl
      show H''.slot n = none
      rcases hH with h | ⟨b1, cs1, i, h3, h6, h4, h5⟩
      · rw [h n, SHL.slot_del]; simp [hsl]
      · have : n ≠ b1 := fun e => by subst e; rw [hslot h3] at hsl; cases hsl
        rw [h5 n, SHL.slot_del]; simp [this, hsl]

end Go.Tw
end
