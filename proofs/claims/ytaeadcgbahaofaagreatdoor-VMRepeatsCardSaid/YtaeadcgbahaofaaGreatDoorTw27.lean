/- The machines that run the program, closed and with open leaves: what they answer is so. -/
import Derived.Test.YtaeadcgbahaofaaGreatDoorTw26
section
namespace Go.Tw

/-! ## The machine's calls are the twin's -/

theorem WkL.ids {ds' ds : List D} (h : WkL ds' ds) : ∀ b ∈ D.idsL ds', b ∈ D.idsL ds := by
  induction h with
  | nil => exact fun b hb => hb
  | cons h _ ih =>
    intro b hb
    simp only [D.idsL, List.mem_append] at hb ⊢
    exact hb.imp (h.2 b) (ih b)

theorem WkL.tup {ds' ds : List D} (h : WkL ds' ds) : Wk (.tup ds') (.tup ds) :=
  ⟨fun X ρ w v hv => by simp only [VR] at hv ⊢; obtain ⟨vs, rfl, h2⟩ := hv; exact ⟨vs, rfl, h.VRs h2⟩, by simpa [D.ids] using h.ids⟩

theorem WkL.fn {f : FuncId} {ds' ds : List D} (h : WkL ds' ds) : Wk (.fn f ds') (.fn f ds) :=
  ⟨fun X ρ w v hv => by simp only [VR] at hv ⊢; obtain ⟨vs, rfl, h2⟩ := hv; exact ⟨vs, rfl, h.VRs h2⟩, by simpa [D.ids] using h.ids⟩

section
variable {g : Nat → Option Nat} {μ : Nat → Nat}

mutual
theorem map_wk (hg : ∀ b i, g b = some i → μ i = b) : ∀ d : D, Wk ((d.map g).ren μ) d
  | .undef | .bool _ | .int _ _ | .str _ | .nptr | .nsl | .nmp | .ifc _ | .isl _ _ | .iptr _ => by simp only [D.map, D.ren]; exact Wk.refl _
  | .ptr b o => by
    simp only [D.map]
    cases h : g b with
    | none => simp only [D.ren]; exact Wk.undef _
    | some i => simp only [D.ren]; rw [hg b i h]; exact Wk.refl _
  | .sl b sz o n => by
    simp only [D.map]
    cases h : g b with
    | none => simp only [D.ren]; exact Wk.undef _
    | some i => simp only [D.ren]; rw [hg b i h]; exact Wk.refl _
  | .mp b => by
    simp only [D.map]
    cases h : g b with
    | none => simp only [D.ren]; exact Wk.undef _
    | some i => simp only [D.ren]; rw [hg b i h]; exact Wk.refl _
  | .fn f cs => by simp only [D.map, D.ren]; exact (mapL_wk hg cs).fn
  | .agg cs => by simp only [D.map, D.ren]; exact (mapL_wk hg cs).agg (mapL_wk hg cs).ids
  | .tup cs => by simp only [D.map, D.ren]; exact (mapL_wk hg cs).tup
theorem mapL_wk (hg : ∀ b i, g b = some i → μ i = b) : ∀ ds : List D, WkL (D.renL μ (D.mapL g ds)) ds
  | [] => by simp only [D.mapL, D.renL]; exact .nil
  | d :: ds => by simp only [D.mapL, D.renL]; exact .cons (map_wk hg d) (mapL_wk hg ds)
end

mutual
theorem map_exact (hg : ∀ b i, g b = some i → μ i = b) : ∀ d : D, (∀ b ∈ d.ids, ∃ i, g b = some i) → (d.map g).ren μ = d
  | .undef, _ | .bool _, _ | .int _ _, _ | .str _, _ | .nptr, _ | .nsl, _ | .nmp, _ | .ifc _, _ | .isl _ _, _ | .iptr _, _ => by simp only [D.map, D.ren]
  | .ptr b o, h => by
    obtain ⟨i, hi⟩ := h b (by simp [D.ids])
    simp only [D.map, hi, D.ren]; rw [hg b i hi]
  | .sl b sz o n, h => by
    obtain ⟨i, hi⟩ := h b (by simp [D.ids])
    simp only [D.map, hi, D.ren]; rw [hg b i hi]
  | .mp b, h => by
    obtain ⟨i, hi⟩ := h b (by simp [D.ids])
    simp only [D.map, hi, D.ren]; rw [hg b i hi]
  | .fn f cs, h => by simp only [D.map, D.ren]; rw [mapL_exact hg cs (by simpa [D.ids] using h)]
  | .agg cs, h => by simp only [D.map, D.ren]; rw [mapL_exact hg cs (by simpa [D.ids] using h)]
  | .tup cs, h => by simp only [D.map, D.ren]; rw [mapL_exact hg cs (by simpa [D.ids] using h)]
theorem mapL_exact (hg : ∀ b i, g b = some i → μ i = b) : ∀ ds : List D, (∀ b ∈ D.idsL ds, ∃ i, g b = some i) → D.renL μ (D.mapL g ds) = ds
  | [], _ => by simp only [D.mapL, D.renL]
  | d :: ds, h => by
    simp only [D.mapL, D.renL]
    rw [map_exact hg d fun b hb => h b (by simp [D.idsL, hb]), mapL_exact hg ds fun b hb => h b (by simp [D.idsL, hb])]
end

mutual
theorem map_ids : ∀ (d : D) (i : Nat), i ∈ (d.map g).ids → ∃ b, g b = some i
  | .undef, i, h | .bool _, i, h | .int _ _, i, h | .str _, i, h | .nptr, i, h | .nsl, i, h | .nmp, i, h | .ifc _, i, h | .isl _ _, i, h | .iptr _, i, h => by simp [D.map, D.ids] at h
  | .ptr b o, i, h => by
    simp only [D.map] at h
    cases hb : g b with
    | none => rw [hb] at h; simp [D.ids] at h
    | some j => rw [hb] at h; simp [D.ids] at h; exact ⟨b, by rw [hb, h]⟩
  | .sl b sz o n, i, h => by
    simp only [D.map] at h
    cases hb : g b with
    | none => rw [hb] at h; simp [D.ids] at h
    | some j => rw [hb] at h; simp [D.ids] at h; exact ⟨b, by rw [hb, h]⟩
  | .mp b, i, h => by
    simp only [D.map] at h
    cases hb : g b with
    | none => rw [hb] at h; simp [D.ids] at h
    | some j => rw [hb] at h; simp [D.ids] at h; exact ⟨b, by rw [hb, h]⟩
  | .fn f cs, i, h => by simp only [D.map, D.ids] at h; exact mapL_ids cs i h
  | .agg cs, i, h => by simp only [D.map, D.ids] at h; exact mapL_ids cs i h
  | .tup cs, i, h => by simp only [D.map, D.ids] at h; exact mapL_ids cs i h
theorem mapL_ids : ∀ (ds : List D) (i : Nat), i ∈ D.idsL (D.mapL g ds) → ∃ b, g b = some i
  | [], i, h => by simp [D.mapL, D.idsL] at h
  | d :: ds, i, h => by
    simp only [D.mapL, D.idsL, List.mem_append] at h
    rcases h with h | h
    · exact map_ids d i h
    · exact mapL_ids ds i h
end

end

theorem idxOf_some : ∀ {L : List Nat} {b k i : Nat}, idxOf b L k = some i → k ≤ i ∧ L[i - k]? = some b
  | [], b, k, i, h => by simp [idxOf] at h
  | x :: xs, b, k, i, h => by
    simp only [idxOf, Nat.beq_tt] at h
    by_cases hx : x = b
    · subst hx
      simp only [decide_true, cond_true, Option.some.injEq] at h
      subst h; exact ⟨Nat.le_refl _, by simp⟩
    · simp only [hx, decide_false, cond_false] at h
      obtain ⟨h1, h2⟩ := idxOf_some h
      refine ⟨by omega, ?_⟩
      rw [show i - k = (i - (k + 1)) + 1 by omega]
      simpa using h2

theorem idxOf_mem : ∀ {L : List Nat} {b : Nat} (k : Nat), b ∈ L → ∃ i, idxOf b L k = some i
  | [], b, k, h => by simp at h
  | x :: xs, b, k, h => by
    simp only [idxOf, Nat.beq_tt]
    by_cases hx : x = b
    · exact ⟨k, by simp [hx]⟩
    · obtain ⟨i, hi⟩ := idxOf_mem (k + 1) ((List.mem_cons.1 h).resolve_left (Ne.symm hx))
      exact ⟨i, by simp [hx, hi]⟩

theorem memN_iff : ∀ {L : List Nat} {b : Nat}, memN b L = true ↔ b ∈ L
  | [], b => by simp [memN]
  | x :: xs, b => by
    simp only [memN, Nat.beq_tt, Bool.or_eq_true, decide_eq_true_eq, List.mem_cons]
    rw [memN_iff]
    exact or_congr ⟨Eq.symm, Eq.symm⟩ Iff.rfl

theorem reach_nodup {H : Nat → Option Slot} : ∀ (k : Nat) (todo L : List Nat), L.Nodup → (reach H k todo L).Nodup
  | 0, _, L, h => by simpa [reach] using h
  | k + 1, [], L, h => by simpa [reach] using h
  | k + 1, b :: todo, L, h => by
    simp only [reach]
    cases hm : memN b L with
    | true => exact reach_nodup k todo L h
    | false =>
      simp only [cond_false]
      cases hb : H b with
      | none => exact reach_nodup k todo L h
      | some sl =>
        refine reach_nodup k _ _ ?_
        have : b ∉ L := fun hmem => by rw [memN_iff.2 hmem] at hm; cases hm
        rw [List.nodup_append]
        exact ⟨h, by simp, fun a ha c hc => by simp at hc; subst hc; exact fun e => this (e ▸ ha)⟩

mutual
theorem beq_eq : ∀ {a b : D}, D.beq a b = true → a = b
  | .undef, b, h => by cases b <;> simp [D.beq] at h ⊢
  | .bool x, b, h => by cases b <;> simp [D.beq] at h ⊢; exact h
  | .int k x, b, h => by cases b <;> simp [D.beq] at h ⊢; exact h
  | .str x, b, h => by cases b <;> simp [D.beq] at h ⊢; exact h
  | .ptr x y, b, h => by cases b <;> simp [D.beq] at h ⊢; exact h
  | .nptr, b, h => by cases b <;> simp [D.beq] at h ⊢
  | .sl x y z n, b, h => by cases b <;> simp [D.beq] at h ⊢; exact ⟨h.1.1.1, h.1.1.2, h.1.2, h.2⟩
  | .isl sz es, b, h => by
    cases b <;> simp [D.beq] at h ⊢
    exact ⟨h.1, beqL_eq h.2⟩
  | .nsl, b, h => by cases b <;> simp [D.beq] at h ⊢
  | .iptr d, b, h => by
    cases b <;> simp [D.beq] at h ⊢
    exact beq_eq h
  | .mp x, b, h => by cases b <;> simp [D.beq] at h ⊢; exact h
  | .nmp, b, h => by cases b <;> simp [D.beq] at h ⊢
  | .fn f cs, b, h => by
    cases b <;> simp [D.beq] at h ⊢
    exact ⟨h.1, beqL_eq h.2⟩
  | .agg cs, b, h => by
    cases b <;> simp [D.beq] at h ⊢
    exact beqL_eq h
  | .tup cs, b, h => by
    cases b <;> simp [D.beq] at h ⊢
    exact beqL_eq h
  | .ifc x, b, h => by cases b <;> simp [D.beq] at h ⊢; exact h
theorem beqL_eq : ∀ {a b : List D}, D.beqL a b = true → a = b
  | [], b, h => by cases b <;> simp [D.beqL] at h ⊢
  | x :: xs, b, h => by
    cases b <;> simp [D.beqL] at h ⊢
    exact ⟨beq_eq h.1, beqL_eq h.2⟩
end

theorem mapO_spec {α β : Type} {f : α → Option β} : ∀ {l : List α} {ys : List β}, mapO f l = some ys → ys.length = l.length ∧ ∀ (i : Nat) (x : α), l[i]? = some x → ∃ y, ys[i]? = some y ∧ f x = some y
  | [], ys, h => by simp [mapO] at h; subst h; simp
  | x :: xs, ys, h => by
    simp only [mapO] at h
    split at h
    · rename_i y hy
      split at h
      · rename_i ys' hys
        cases h
        obtain ⟨h1, h2⟩ := mapO_spec hys
        refine ⟨by simp [h1], fun i z hz => ?_⟩
        cases i with
        | zero => simp at hz; subst hz; exact ⟨y, by simp, hy⟩
        | succ i => simpa using h2 i z (by simpa using hz)
      · cases h
    · cases h

/-- What is asked of an oracle. -/
def OrcOK (P : Program) (F : Orc) : Prop :=
  ∀ (f : FuncId) (args : List D) (hin : List Slot) (res : D) (outs : List (Option Slot)), F f args hin = some (res, outs) → (∀ b ∈ D.idsL args, b < hin.length) → (∀ sl ∈ hin, ∀ b ∈ sl.ids, b < hin.length) →
    Fn P f args hin res outs ∧ ClosedC args hin res outs

theorem mapS_ids {g : Nat → Option Nat} {sl : Slot} (hm : sl.mapOK = true) {i : Nat} (h : i ∈ (Slot.mapS g sl).ids) : ∃ b, g b = some i := by
  cases sl with
  | cells cs => exact mapL_ids cs i h
  | map es =>
    simp only [Slot.mapOK, Bool.and_eq_true, List.isEmpty_iff] at hm
    simp only [Slot.mapS, Slot.ids, List.mem_append, hm.1, hm.2] at h
    simp at h

theorem ren_map_closed {μ : Nat → Nat} {es : List (D × D)} (hm : Slot.mapOK (.map es) = true) : (es.map fun p => (p.1.ren μ, p.2.ren μ)) = es := by
  simp only [Slot.mapOK, Bool.and_eq_true, List.isEmpty_iff] at hm
  refine (List.map_congr_left fun p hp => ?_).trans (List.map_id es)
  rw [ren_closed μ p.1 (ids_of_idsL_nil hm.1 (List.mem_map.2 ⟨p, hp, rfl⟩)), ren_closed μ p.2 (ids_of_idsL_nil hm.2 (List.mem_map.2 ⟨p, hp, rfl⟩))]
  rfl

theorem mapS_wk {g : Nat → Option Nat} {μ : Nat → Nat} (hg : ∀ b i, g b = some i → μ i = b) {sl : Slot} (hm : sl.mapOK = true) : SlotWk ((Slot.mapS g sl).ren μ) sl := by
  cases sl with
  | cells cs =>
    simp only [Slot.mapS, Slot.ren, SlotWk]
    have h := mapL_wk hg cs
    rw [h.length, List.take_length]; exact h
  | map es =>
    simp only [Slot.mapS, Slot.ren, SlotWk]
    exact ren_map_closed hm

theorem modeF_ok {H : Nat → Option Slot} {μ : Nat → Nat} {g : Nat → Option Nat} {hin : List Slot} {outs : List (Option Slot)} {b i : Nat} {sl : Slot} {new : Option Slot} {exact : Bool} (hb : H b = some sl) (hi : hin[i]? = some (Slot.mapS g sl)) (ho : outs[i]? = some new)
    (hx : exact = true → (Slot.mapS g sl).ren μ = sl) : modeOK H μ hin outs b i (modeF exact (Slot.mapS g sl) new) := by
  unfold modeF
  cases exact with
  | false => trivial
  | true =>
    have hx := hx rfl
    simp only [cond_true]
    split
    · rename_i cs cs' hs
      rw [hs] at hx hi
      cases hq : D.beqL cs cs' with
      | true =>
        simp only [cond_true]
        have := beqL_eq hq
        subst this
        exact ⟨.cells cs, hi, ho, by rw [hx]; exact hb⟩
      | false =>
        simp only [cond_false]
        split
        · trivial
        · rename_i j _ hj
          cases hp : D.beqL (putL cs j (dropSame (cs.drop j) (cs'.drop j))) cs' with
          | false => trivial
          | true =>
            simp only [cond_true]
            refine ⟨cs, hi, by rw [hb, ← hx]; rfl, ?_⟩
            rw [ho, beqL_eq hp]
    · trivial

theorem callF_ok {P : Program} {TI : TT} {F : Orc} (hF : OrcOK P F) {draws : Bool} {ids : Nat → Nat} {s : St} {o : Oper} {cl : Call} {e : Eff} (ho : o.op = .call cl) (h : callF F draws ids (evalD s.T) s.H cl = some e) : StepR P TI ids s o e := by
  unfold callF at h
  split at h
  · rename_i x hcal
    split at h
    · rename_i f cap hfn
      simp only at h
      generalize hL : reach s.H 4096 (D.idsL (cl.args.toList.map (evalD s.T) ++ cap)) [] = L at h
      have hnd : L.Nodup := by rw [← hL]; exact reach_nodup _ _ _ (by simp)
      have hg : ∀ b i, idxOf b L 0 = some i → muOf L ids i = b := fun b i hi => by
        have := (idxOf_some hi).2
        simp only [Nat.sub_zero] at this
        simp [muOf, this]
      have hgl : ∀ b i, idxOf b L 0 = some i → i < L.length := fun b i hi => by
        have := (idxOf_some hi).2
        simp only [Nat.sub_zero] at this
        exact (List.getElem?_eq_some_iff.1 this).1
      split at h
      · rename_i sls hsls
        obtain ⟨hlen, hsl⟩ := mapO_spec hsls
        split at h
        · rename_i res outs hres
          obtain ⟨h1, h2⟩ := guardO_some h
          simp only [Bool.and_eq_true, List.all_eq_true] at h1
          have hmapok : ∀ sl ∈ sls, sl.mapOK = true := h1.2
          obtain ⟨hfnc, hclosed⟩ := hF f _ _ res outs hres (fun b hb => by
            obtain ⟨c, hc⟩ := mapL_ids _ _ hb
            simp only [List.length_map, hlen]; exact hgl c b hc) (fun sl hsl' b hb => by
            obtain ⟨sl0, h3, rfl⟩ := List.mem_map.1 hsl'
            obtain ⟨c, hc⟩ := mapS_ids (hmapok sl0 h3) hb
            simp only [List.length_map, hlen]; exact hgl c b hc)
          have hat : ∀ i, i < L.length → ∃ sl, sls[i]? = some sl ∧ s.H (muOf L ids i) = some sl := fun i hi => by
            obtain ⟨sl, h3, h4⟩ := hsl i L[i] (by simp [hi])
            exact ⟨sl, h3, by rw [muOf_lt hi]; exact h4⟩
          cases h2
          refine StepR.call ho (ble_ok h1.1) ⟨hcal, hfn, mapL_wk hg _, hnd, by simp [hlen], fun i sl' hi => ?_, hfnc, hclosed, fun i hi => ?_⟩
          · have hi' : i < L.length := by have := (List.getElem?_eq_some_iff.1 hi).1; simpa [hlen] using this
            obtain ⟨sl, h3, h4⟩ := hat i hi'
            simp only [List.getElem?_map, h3, Option.map_some, Option.some.injEq] at hi
            subst hi
            exact ⟨sl, h4, mapS_wk hg (hmapok sl (List.mem_of_getElem? h3))⟩
          · obtain ⟨sl, h3, h4⟩ := hat i hi
            have hio : i < outs.length := by have := hclosed.le; simp only [List.length_map, hlen] at this; omega
            have hou : outs[i]? = some outs[i] := by simp [hio]
            simp only [h3, hou]
            refine modeF_ok (g := fun b => idxOf b L 0) h4 (by simp [h3]) hou fun hx => ?_
            simp only [Bool.and_eq_true, List.all_eq_true] at hx
            cases sl with
            | cells cs =>
              simp only [Slot.mapS, Slot.ren]
              rw [mapL_exact hg cs fun b hb => idxOf_mem 0 (memN_iff.1 (hx.2 b hb))]
            | map es =>
              simp only [Slot.mapS, Slot.ren]
              rw [ren_map_closed (hmapok _ (List.mem_of_getElem? h3))]
        · cases h
      · cases h
    · cases h
  · cases h

end Go.Tw
end
