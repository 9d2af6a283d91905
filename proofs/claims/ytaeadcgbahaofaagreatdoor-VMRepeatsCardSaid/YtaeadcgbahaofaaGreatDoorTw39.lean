/- The machines that run the program, closed and with open leaves: what they answer is so. -/
import Derived.Test.YtaeadcgbahaofaaGreatDoorTw38
section
namespace Go.Tw

/-! ## The symbolic machine is sound: code -/

theorem put_get {T : Tr D} {t : Nat} {v : D} (h : Nat.blt t 1023 = true) (j : Nat) : (T.put .undef v 10 t).get .undef j = if j = t then v else T.get .undef j :=
  Tr.get_put .undef v 10 T t j (by have := blt_ok h; omega)

theorem sem_of_fresh {N nb0 nb nb' : Nat} {s : SS} {s' : St} (h : s.H.get nb = none → SemW N nb0 nb nb' s.st s') (hle : nb ≤ nb') : SemW N nb0 nb nb' s.st s' := by
  refine ⟨fun h0 => by omega, fun h0 X ρ a w hr => (h ?_).2 h0 X ρ a w hr⟩
  cases hg : s.H.get nb with
  | none => rfl
  | some x =>
    have h1 : s.st.H nb = some x.2 := by show s.H.slot nb = _; rw [SHL.slot_eq, hg]; rfl
    have h2 := hr.dom nb (hr.heap.live nb _ h1)
    omega

theorem NV.le {H : SHL} {nb : Nat} {d d' : D} {H' : SHL} {nb' : Nat} (h : NV H nb d d' H' nb') : nb ≤ nb' := by cases h <;> omega

theorem NV.ok {H : SHL} (hs : H.OK) {nb : Nat} {d d' : D} {H' : SHL} {nb' : Nat} (h : NV H nb d d' H' nb') : H'.OK := by
  cases h with
  | same => exact hs
  | mark h hg ho => exact ho
  | undef => exact hs
  | nil => exact hs
  | own => exact hs.set fun _ => ⟨rfl, by simp⟩
  | val => exact hs.del

theorem norm1_ok {N nb0 : Nat} {s s' : SS} {nb nb' : Nat} {x : Nat × Option Nat × Nz} {nd : List Bool} (hs : s.H.OK) (h : norm1 s nb x = some (nd, s', nb')) (hn : AllT nd) : SemW N nb0 nb nb' s.st s'.st ∧ s'.H.OK := by
  unfold norm1 at h
  obtain ⟨hlt, h⟩ := bif_some h
  split at h
  · split at h
    · rename_i nd' d H nb1 hv
      cases h
      have hv := normV_ok hs hv hn
      refine ⟨sem_of_fresh (fun hfr => sem_at hv (fun t => ?_) (.inl fun _ => rfl) hfr) hv.le, hv.ok hs⟩
      show (s.T.put .undef d 10 x.1).get .undef t = _ ∨ _
      rw [put_get hlt]
      by_cases ht : t = x.1
      · subst ht; exact .inr (.inl ⟨rfl, by simp⟩)
      · simp [ht]
    · cases h
  · rename_i j _
    split at h
    · rename_i b o hb
      split at h
      · rename_i cs hg
        split at h
        · rename_i nd' d H nb1 hv
          split at h
          · rename_i y hy
            cases h
            have hn := AllT.cons.1 hn
            have hj := blt_ok hn.1
            have hv := normV_ok hs hv hn.2
            refine ⟨sem_of_fresh (fun hfr => sem_at hv (fun t => .inl rfl) (.inr ⟨b, cs, o + j, hg, by rw [hy]; rfl, getD_some hj, fun n => ?_⟩) hfr) hv.le, (hv.ok hs).set fun h => by cases h⟩
            exact SHL.slot_set _ _ _ _
          · cases h
        · cases h
      · cases h
    · rename_i cs hb
      split at h
      · rename_i nd' d H nb1 hv
        cases h
        have hn := AllT.cons.1 hn
        have hj := blt_ok hn.1
        have hv := normV_ok hs hv hn.2
        refine ⟨sem_of_fresh (fun hfr => sem_at hv (fun t => ?_) (.inl fun _ => rfl) hfr) hv.le, hv.ok hs⟩
        show (s.T.put .undef (.agg (putL cs j [d])) 10 x.1).get .undef t = _ ∨ _
        rw [put_get hlt]
        by_cases ht : t = x.1
        · subst ht
          exact .inr (.inr ⟨cs, j, hb, getD_some hj, by simp⟩)
        · simp [ht]
      · cases h
    · cases h

theorem normC_ok {R : Type} {N nb0 : Nat} : ∀ {l : List (Nat × Option Nat × Nz)} {s : SS} {nb : Nat} {κ : SS → Nat → Option R} {r : R}, s.H.OK → normC l s nb κ = some r → ∃ s' nb', SemW N nb0 nb nb' s.st s'.st ∧ s'.H.OK ∧ κ s' nb' = some r
  | [], s, nb, κ, r, hs, h => ⟨s, nb, SemW.refl _ _ _ _, hs, h⟩
  | x :: xs, s, nb, κ, r, hs, h => by
    simp only [normC] at h
    split at h
    · rename_i nd s' nb' hx
      obtain ⟨h1, h2⟩ := needs_some h
      obtain ⟨h3, h4⟩ := norm1_ok (N := N) (nb0 := nb0) hs hx h1
      obtain ⟨s2, nb2, h5, h6, h7⟩ := normC_ok h4 h2
      exact ⟨s2, nb2, h3.trans h5, h6, h7⟩
    · cases h

/-! ### What is left of a state -/

def slotsF (outs : List (Option FS)) (i : Nat) : Option Slot := ((outs[i]?).join).map (·.2)

structure InL (k0 : Nat) (args : List D) (hin : List (Option FS)) : Prop where
  ia : ∀ b ∈ D.idsL args, b < hin.length
  ih : ∀ x, some x ∈ hin → ∀ b ∈ x.2.ids, b < hin.length
  clo : ∀ x, some x ∈ hin → x.1 = true → x.2.Clo
  le : k0 ≤ hin.length

theorem map_wkT {m : Nat → Nat} {g : Nat → Option Nat} (hg : ∀ b i, g b = some i → m i = b) (d : D) : Wk ((d.map g).ren m) d := map_wk hg d

theorem endG_ok {k : Nat} {s : SHL} (hs : s.OK) {r res : D} {outs : List (Option FS)} (h : endG k s r = some (res, outs)) :
    ∃ g : Nat → Option Nat, res = r.map g ∧ (∀ x, some x ∈ outs → ∀ b ∈ x.2.ids, b < outs.length) ∧ (∀ x, some x ∈ outs → x.1 = true → x.2.Clo) ∧ k ≤ outs.length ∧ (∀ b i, g b = some i → i < outs.length) ∧
    ∃ (m : Nat → Nat) (K : Nat → Bool), ∀ T T' : Nat → D, (∀ t, T' t = .undef ∨ T' t = (T t).map g) → Weak k outs.length m K ⟨T, fun b => s.slot b⟩ ⟨T', slotsF outs⟩ := by
  unfold endG at h
  simp only at h
  generalize hL : reach (maskH s) 4096 (r.ids ++ (List.range k).flatMap (idsAt (maskH s))) (List.range k) = L at h
  obtain ⟨h1, h2⟩ := guardO_some h
  cases h2
  simp only [List.all_eq_true] at h1
  have hnd : L.Nodup := by rw [← hL]; exact reach_nodup _ _ _ List.nodup_range
  obtain ⟨M, hM⟩ := reach_prefix (H := maskH s) 4096 (r.ids ++ (List.range k).flatMap (idsAt (maskH s))) (List.range k)
  rw [hL] at hM
  have hbase : ∀ b, b < k → L[b]? = some b := fun b hb => by
    rw [hM, List.getElem?_append_left (by simpa using hb)]
    simp [hb]
  have hkl : k ≤ L.length := by rw [hM]; simp
  let H : Nat → Option Slot := fun b => s.slot b
  let g := liveIdx H L
  let m : Nat → Nat := fun i => (L[i]?).getD 0
  let K : Nat → Bool := fun i => match L[i]? with
    | some b => (H b).isSome
    | none => false
  have hm : ∀ b i, g b = some i → m i = b := fun b i hi => by simp [m, (liveIdx_some hi).1]
  have hK : ∀ b i, g b = some i → i < L.length ∧ K i = true := fun b i hi => by
    obtain ⟨h3, sl, h4⟩ := liveIdx_some hi
    exact ⟨(List.getElem?_eq_some_iff.1 h3).1, by simp [K, h3, h4]⟩
  have hget : ∀ b x, s.get b = some x → H b = some x.2 := fun b x hx => by show s.slot b = _; rw [SHL.slot_eq, hx]; rfl
  have hclo : ∀ b x, s.get b = some x → x.1 = true → x.2.Clo := fun b x hx h => by
    obtain ⟨c, sl⟩ := x
    simp only at h; subst h
    exact hs b sl hx
  have hmok : ∀ b ∈ L, ∀ x, s.get b = some x → x.2.mapOK = true := fun b hb x hx => by
    have := h1 b hb
    rw [hx] at this
    exact okF_mapOK this (hclo b x hx)
  have hmem : ∀ x, some x ∈ L.map (fun b => match s.get b with | some x => some (mapF g x) | none => none) → ∃ b x0, b ∈ L ∧ s.get b = some x0 ∧ x = mapF g x0 := fun x hx => by
    obtain ⟨b, hb, he⟩ := List.mem_map.1 hx
    split at he
    · rename_i x0 hx0; cases he; exact ⟨b, x0, hb, hx0, rfl⟩
    · cases he
  have hslots : ∀ i sl, slotsF (L.map fun b => match s.get b with | some x => some (mapF g x) | none => none) i = some sl → ∃ b x0, L[i]? = some b ∧ s.get b = some x0 ∧ sl = (mapF g x0).2 := fun i sl hi => by
    simp only [slotsF, List.getElem?_map] at hi
    cases hb : L[i]? with
    | none => rw [hb] at hi; simp at hi
    | some b =>
      rw [hb] at hi
      simp only [Option.map_some, Option.join_some] at hi
      cases hx : s.get b with
      | none => rw [hx] at hi; simp at hi
      | some x0 =>
        rw [hx] at hi
        simp only [Option.map_some, Option.some.injEq] at hi
        exact ⟨b, x0, rfl, hx, hi.symm⟩
  refine ⟨g, rfl, fun x hx b hb => ?_, fun x hx hx1 => ?_, by simpa using hkl, fun b i hi => by simpa using (hK b i hi).1, m, K, fun T T' hT => ?_⟩
  · obtain ⟨c, x0, hc, hx0, rfl⟩ := hmem x hx
    obtain ⟨y, hy⟩ := mapF_ids (hmok c hc x0 hx0) (hclo c x0 hx0) hb
    simpa using (hK y b hy).1
  · obtain ⟨c, x0, hc, hx0, rfl⟩ := hmem x hx
    exact mapF_clo (hclo c x0 hx0) hx1
  · simp only [List.length_map]
    refine ⟨fun t => ?_, fun t b hb => ?_, fun b sl hb => ?_, fun b sl' hb => ?_, fun b hb hKb hn => ?_, fun b c hb hc _ _ he => ?_, fun b hb hb' _ => ?_⟩
    · show Wk ((T' t).ren m) (T t)
      rcases hT t with h3 | h3
      · rw [h3]; exact Wk.undef _
      · rw [h3]; exact map_wk hm _
    · have hb : b ∈ (T' t).ids := hb
      rcases hT t with h3 | h3
      · rw [h3] at hb; simp [D.ids] at hb
      · rw [h3] at hb
        obtain ⟨c, hc⟩ := map_ids _ _ hb
        exact hK c b hc
    · obtain ⟨c, x0, h3, h4, rfl⟩ := hslots b sl hb
      refine ⟨(List.getElem?_eq_some_iff.1 h3).1, by simp [K, h3, hget c x0 h4], fun z hz => ?_⟩
      obtain ⟨y, hy⟩ := mapF_ids (hmok c (List.mem_of_getElem? h3) x0 h4) (hclo c x0 h4) hz
      exact hK y z hy
    · obtain ⟨c, x0, h3, h4, rfl⟩ := hslots b sl' hb
      refine ⟨x0.2, ?_, mapF_wk hm (hmok c (List.mem_of_getElem? h3) x0 h4) (hclo c x0 h4)⟩
      show s.slot (m b) = _
      simp only [m, h3, Option.getD_some]
      exact hget c x0 h4
    · exfalso
      simp only [K] at hKb
      have hn : slotsF _ b = none := hn
      simp only [slotsF, List.getElem?_map] at hn
      cases hbL : L[b]? with
      | none => rw [hbL] at hKb; simp at hKb
      | some c =>
        rw [hbL] at hKb hn
        simp only [Option.map_some, Option.join_some] at hn hKb
        cases hc : s.get c with
        | none =>
          have : H c = none := by show s.slot c = none; rw [SHL.slot_eq, hc]; rfl
          rw [this] at hKb; simp at hKb
        | some x0 => rw [hc] at hn; simp at hn
    · simp only [m] at he
      rw [List.getElem?_eq_getElem hb, List.getElem?_eq_getElem hc] at he
      simp only [Option.getD_some] at he
      exact (List.getElem_inj hnd).1 he
    · simp [m, hbase b hb]

theorem startT'_get : ∀ {lv : List Nat} {args : List D} {tr : Tr D}, (∀ t ∈ lv, t < 1023) → ∀ t : Nat, (startT' lv args tr).get .undef t = tr.get .undef t ∨ ∃ i : Nat, lv[i]? = some t ∧ args[i]? = some ((startT' lv args tr).get .undef t)
  | [], args, tr, _, t => .inl (by simp [startT'])
  | _ :: _, [], tr, _, t => .inl (by simp [startT'])
  | l :: lv, a :: as, tr, h, t => by
    simp only [startT']
    rcases startT'_get (lv := lv) (args := as) (tr := tr.put .undef a 10 l) (fun t ht => h t (by simp [ht])) t with h1 | ⟨i, h1, h2⟩
    · rw [h1, Tr.get_put .undef a 10 tr l t (by have := h l (by simp); omega)]
      split
      · rename_i e; subst e; exact .inr ⟨0, rfl, rfl⟩
      · exact .inl rfl
    · exact .inr ⟨i + 1, by simpa using h1, by simpa using h2⟩

theorem startH_get : ∀ {hin : List (Option FS)} {i b : Nat}, SHL.get (startH hin i) b = if i ≤ b then (hin[b - i]?).join else none
  | [], i, b => by simp [startH, SHL.get]
  | none :: xs, i, b => by
    simp only [startH]
    rw [startH_get]
    by_cases h1 : i + 1 ≤ b
    · rw [if_pos h1, if_pos (by omega), show b - i = (b - (i + 1)) + 1 by omega]; simp
    · rw [if_neg h1]
      by_cases h2 : i ≤ b
      · rw [if_pos h2, show b - i = 0 by omega]; simp
      · rw [if_neg h2]
  | some x :: xs, i, b => by
    simp only [startH, SHL.get, Nat.beq_tt]
    by_cases h0 : i = b
    · subst h0; simp
    · simp only [h0, decide_false, cond_false]
      rw [startH_get]
      by_cases h1 : i + 1 ≤ b
      · rw [if_pos h1, if_pos (by omega), show b - i = (b - (i + 1)) + 1 by omega]; simp
      · rw [if_neg h1, if_neg (by omega)]

theorem startH_slot (hin : List (Option FS)) (b : Nat) : (startH hin 0).slot b = slotsF hin b := by
  rw [SHL.slot_eq, startH_get]; simp [slotsF]

theorem startH_OK {hin : List (Option FS)} (h : ∀ x, some x ∈ hin → x.1 = true → x.2.Clo) : (startH hin 0).OK := by
  intro b sl hb
  rw [startH_get] at hb
  simp only [Nat.zero_le, if_true, Nat.sub_zero] at hb
  cases hx : hin[b]? with
  | none => rw [hx] at hb; cases hb
  | some x =>
    rw [hx] at hb
    simp only [Option.join_some] at hb
    subst hb
    exact h _ (List.mem_of_getElem? hx) rfl

theorem canonS_ok {N k0 nb : Nat} {lv : List Nat} {s : SS} (hs : s.H.OK) {args : List D} {hin : List (Option FS)} (h : canonS k0 lv s = some (args, hin)) :
    SemW N k0 nb hin.length s.st (startL lv args hin).st ∧ InL k0 args hin := by
  unfold canonS at h
  obtain ⟨hlv, h⟩ := bif_some h
  simp only [List.all_eq_true] at hlv
  split at h
  · rename_i r outs hend
    cases h
    obtain ⟨g, hr, h1, h2, h3, h4, m, K, hw⟩ := endG_ok hs hend
    have hargs : tupV r = D.mapL g (lv.map s.tm) := by rw [hr]; rfl
    have hmapL : ∀ ds : List D, D.mapL g ds = ds.map (D.map g) := fun ds => by
      induction ds with
      | nil => rfl
      | cons d ds ih => simp [D.mapL, ih]
    rw [hargs]
    have hT : ∀ t, (startL lv (D.mapL g (lv.map s.tm)) hin).T.get .undef t = .undef ∨ (startL lv (D.mapL g (lv.map s.tm)) hin).T.get .undef t = (s.T.get .undef t).map g := fun t => by
      rcases startT'_get (lv := lv) (args := D.mapL g (lv.map s.tm)) (tr := .lf) (fun t ht => blt_ok (hlv t ht)) t with h5 | ⟨i, h5, h6⟩
      · exact .inl (by show (startT' lv _ .lf).get .undef t = _; rw [h5]; rfl)
      · refine .inr ?_
        rw [hmapL, List.map_map, List.getElem?_map, h5] at h6
        simp only [Option.map_some, Option.some.injEq] at h6
        show (startT' lv _ .lf).get .undef t = _
        rw [hmapL, List.map_map, ← h6]; rfl
    have hst : (startL lv (D.mapL g (lv.map s.tm)) hin).st = ⟨fun t => (startL lv (D.mapL g (lv.map s.tm)) hin).T.get .undef t, slotsF hin⟩ := by
      unfold SS.st
      congr 1
      funext b
      exact startH_slot hin b
    refine ⟨⟨fun _ => h3, fun _ X ρ a w hrel => ?_⟩, ⟨fun b hb => ?_, h1, h2, h3⟩⟩
    · rw [hst]
      exact weak_sound (hw _ _ hT) hrel
    · obtain ⟨c, hc⟩ := mapL_ids _ _ hb
      exact h4 c b hc
  · cases h

/-! ### Code -/

def loopsIn : Code → List Code
  | .seq x y => loopsIn x ++ loopsIn y
  | .cond _ x y => loopsIn x ++ loopsIn y
  | .block _ c => loopsIn c
  | .loop c => c :: loopsIn c
  | _ => []

/-- What is asked of a contract of a loop. -/
def LContOK (P : Program) (N k0 : Nat) (c : Code) (lv : List Nat) (args : List D) (hin : List (Option FS)) (φ : ContL) : Prop :=
  ∀ (R : Type) (κ : Ex → Nat → SS → Option R) (r : R), φ R κ = some r → ∃ e nb' s', Exec P (tiOf P) N k0 (.loop c) hin.length (startL lv args hin).st e nb' s'.st ∧ s'.H.OK ∧ κ e nb' s' = some r

def LGood (P : Program) (LP : LOrc) (hint : Hint) (N k0 : Nat) (c : Code) : Prop :=
  ∀ id lv, firstId c = some id → assoc hint.cuts id = some lv → ∀ args hin φ, LP k0 id args hin = some φ → InL k0 args hin → LContOK P N k0 c lv args hin φ

section
variable {P : Program} {nat : Nats} {F : SOrc} {LP : LOrc} {hint : Hint} {N k0 : Nat}

theorem setB_ok {c : Operand} {b : Bool} {s : SS} (h : evalD (fun t => s.T.get .undef t) c = .bool b) : (setB c b s).st = s.st ∧ (setB c b s).H = s.H := by
  unfold setB
  split
  · rename_i t
    cases hlt : Nat.blt t 1023 with
    | true => exact ⟨SS.put_st hlt h, rfl⟩
    | false => exact ⟨rfl, rfl⟩
  · exact ⟨rfl, rfl⟩

theorem execC_ok (hN : NatsOK P nat) (hF : SOrcOK P F) {R : Type} : ∀ (k : Nat) (c : Code) (nb : Nat) (s : SS) (κ : Ex → Nat → SS → Option R) (r : R), (∀ c' ∈ loopsIn c, LGood P LP hint N k0 c') → s.H.OK → execC P nat F LP hint N k0 k c nb s κ = some r →
    ∃ e nb' s', Exec P (tiOf P) N k0 c nb s.st e nb' s'.st ∧ s'.H.OK ∧ κ e nb' s' = some r := by
  intro k
  induction k with
  | zero => intro c nb s κ r _ _ h; simp [execC] at h
  | succ k ih =>
    intro c nb s κ r hL hs h
    cases c <;> simp only [execC] at h <;> (try (cases h; done))
    case skip => exact ⟨.normal, nb, s, .skip, hs, h⟩
    case region id ops dr =>
      obtain ⟨s1, nb1, h1, h2, h3⟩ := normC_ok (N := N) (nb0 := k0) hs h
      obtain ⟨es, s2, h4, h5, h6⟩ := runC_ok hN hF _ 0 s1 _ r h2 h3 rfl
      obtain ⟨h7, h8⟩ := bif_some h6
      refine ⟨.normal, _, s2, .sem h1 (.region h4 ?_), h5, h8⟩
      simp only [Bool.or_eq_true, Bool.not_eq_true'] at h7
      refine h7.imp (fun x => x) fun h => ?_
      unfold freeB at h
      simpa using h
    case seq x y =>
      obtain ⟨e, nb1, s1, h1, h2, h3⟩ := ih x nb s _ r (fun c' hc => hL c' (List.mem_append.2 (.inl hc))) hs h
      split at h3
      · obtain ⟨e2, nb2, s2, h4, h5, h6⟩ := ih y nb1 s1 _ r (fun c' hc => hL c' (List.mem_append.2 (.inr hc))) h2 h3
        exact ⟨e2, nb2, s2, .seq h1 h4, h5, h6⟩
      · exact ⟨_, nb1, s1, .seqX h1 (by simp), h2, h3⟩
      · exact ⟨_, nb1, s1, .seqX h1 (by simp), h2, h3⟩
    case cond c x y =>
      split at h
      · rename_i b hb
        cases b with
        | true =>
          obtain ⟨h1, h2⟩ := setB_ok hb
          obtain ⟨e, nb1, s1, h3, h4, h5⟩ := ih x nb _ _ r (fun c' hc => hL c' (List.mem_append.2 (.inl hc))) (by rw [h2]; exact hs) h
          rw [h1] at h3
          exact ⟨e, nb1, s1, .cond (b := true) hb h3, h4, h5⟩
        | false =>
          obtain ⟨h1, h2⟩ := setB_ok hb
          obtain ⟨e, nb1, s1, h3, h4, h5⟩ := ih y nb _ _ r (fun c' hc => hL c' (List.mem_append.2 (.inr hc))) (by rw [h2]; exact hs) h
          rw [h1] at h3
          exact ⟨e, nb1, s1, .cond (b := false) hb h3, h4, h5⟩
      · cases h
    case block id c =>
      obtain ⟨e, nb1, s1, h1, h2, h3⟩ := ih c nb s _ r hL hs h
      exact ⟨_, nb1, s1, .block h1, h2, h3⟩
    case loop c =>
      split at h
      · rename_i id lv hcut
        obtain ⟨s1, nb1, h1, h2, h3⟩ := normC_ok (N := N) (nb0 := k0) hs h
        split at h3
        · rename_i args hin hcan
          obtain ⟨h4, h5⟩ := canonS_ok (N := N) (nb := nb1) h2 hcan
          split at h3
          · rename_i φ hφ
            split at hcut
            · rename_i id' hid
              split at hcut
              · rename_i lv' hlv
                cases hcut
                obtain ⟨e, nb', s', h6, h7, h8⟩ := hL c (by simp [loopsIn]) id lv hid hlv args hin φ hφ h5 R κ r h3
                exact ⟨e, nb', s', .sem (h1.trans h4) h6, h7, h8⟩
              · cases hcut
            · cases hcut
          · cases h3
        · cases h3
      · obtain ⟨e, nb1, s1, h1, h2, h3⟩ := ih c nb s _ r (fun c' hc => hL c' (by simp [loopsIn, hc])) hs h
        split at h3
        · obtain ⟨e2, nb2, s2, h4, h5, h6⟩ := ih (.loop c) nb1 s1 _ r hL h2 h3
          exact ⟨e2, nb2, s2, .loop h1 h4, h5, h6⟩
        · exact ⟨_, nb1, s1, .loopX h1 (by simp), h2, h3⟩
        · exact ⟨_, nb1, s1, .loopX h1 (by simp), h2, h3⟩
    case exit id => exact ⟨_, nb, s, .exit, hs, h⟩
    case ret => exact ⟨_, nb, s, .ret, hs, h⟩

end

end Go.Tw
end
