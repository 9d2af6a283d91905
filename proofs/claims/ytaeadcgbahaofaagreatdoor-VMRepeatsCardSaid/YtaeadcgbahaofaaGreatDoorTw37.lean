/- The machines that run the program, closed and with open leaves: what they answer is so. -/
import Derived.Test.YtaeadcgbahaofaaGreatDoorTw36
section
namespace Go.Tw

/-! ## The symbolic machine is sound: calls, regions -/

def outSlots (hin : List FS) : List OutS → Nat → List (Option Slot)
  | [], _ => []
  | .keep :: os, i => (hin[i]?).map (·.2) :: outSlots hin os (i + 1)
  | .gone :: os, i => none :: outSlots hin os (i + 1)
  | .set _ sl :: os, i => some sl :: outSlots hin os (i + 1)
  | .part o new :: os, i => (match hin[i]? with
    | some (_, .cells old) => some (.cells (putL old o new))
    | _ => none) :: outSlots hin os (i + 1)

def OutsClo (outs : List OutS) : Prop := ∀ sl, OutS.set true sl ∈ outs → sl.Clo

/-- What is asked of a contract in continuation form. -/
def ContOK (P : Program) (f : FuncId) (args : List D) (hin : List FS) (φ : Cont) : Prop :=
  ∀ (R : Type) (κ : D → List OutS → Option R) (r : R), φ R κ = some r → ∃ res outs, Fn P f args (hin.map (·.2)) res (outSlots hin outs 0) ∧ ClosedC args (hin.map (·.2)) res (outSlots hin outs 0) ∧ OutsClo outs ∧ κ res outs = some r

structure InOK (args : List D) (hin : List FS) : Prop where
  ia : ∀ b ∈ D.idsL args, b < hin.length
  ih : ∀ x ∈ hin, ∀ b ∈ x.2.ids, b < hin.length
  clo : ∀ x ∈ hin, x.1 = true → x.2.Clo

def SOrcOK (P : Program) (F : SOrc) : Prop := ∀ f args hin φ, F f args hin = some φ → InOK args hin → ContOK P f args hin φ

theorem outSlots_length {hin : List FS} : ∀ {outs : List OutS} {i : Nat}, (outSlots hin outs i).length = outs.length
  | [], _ => rfl
  | .keep :: os, i => by simp [outSlots, outSlots_length (outs := os)]
  | .gone :: os, i => by simp [outSlots, outSlots_length (outs := os)]
  | .set _ _ :: os, i => by simp [outSlots, outSlots_length (outs := os)]
  | .part _ _ :: os, i => by simp [outSlots, outSlots_length (outs := os)]

def OutS.slotAt (hin : List FS) (i : Nat) : OutS → Option Slot
  | .keep => (hin[i]?).map (·.2)
  | .gone => none
  | .set _ sl => some sl
  | .part o new => match hin[i]? with
    | some (_, .cells old) => some (.cells (putL old o new))
    | _ => none

theorem outSlots_get {hin : List FS} : ∀ {outs : List OutS} {i j : Nat} {o : OutS}, outs[j]? = some o → (outSlots hin outs i)[j]? = some (o.slotAt hin (i + j))
  | [], _, _, _, h => by simp at h
  | x :: os, i, 0, o, h => by
    simp only [List.getElem?_cons_zero, Option.some.injEq] at h
    subst h
    cases x <;> simp [outSlots, OutS.slotAt]
  | x :: os, i, j + 1, o, h => by
    have h1 := outSlots_get (hin := hin) (i := i + 1) (by simpa using h : os[j]? = some o)
    have e : i + 1 + j = i + (j + 1) := by omega
    rw [e] at h1
    cases x <;> simpa [outSlots] using h1

theorem clo_ids {sl : Slot} (h : sl.Clo) : sl.ids = [] := by
  cases sl with
  | cells cs => exact h.1
  | map es => simp only [Slot.ids, h.1, h.2, List.append_nil]

theorem clo_ren {sl : Slot} (h : sl.Clo) (μ : Nat → Nat) : sl.ren μ = sl := by
  cases sl with
  | cells cs => simp only [Slot.ren]; rw [ren_closed.renL_closed μ cs h.1]
  | map es =>
    simp only [Slot.ren]
    rw [ren_map_closed (by simp [Slot.mapOK, h.1, h.2])]

theorem maskH_ids {H : SHL} {b : Nat} {sl : Slot} (h : maskH H b = some sl) : ∃ c sl0, H.get b = some (c, sl0) ∧ ((c = true ∧ sl.ids = []) ∨ (c = false ∧ sl = sl0)) := by
  unfold maskH at h
  split at h
  · rename_i sl0 hg; cases h; exact ⟨true, sl0, hg, .inl ⟨rfl, rfl⟩⟩
  · rename_i sl0 hg; cases h; exact ⟨false, sl, hg, .inr ⟨rfl, rfl⟩⟩
  · cases h

theorem outHW_noput (μ : Nat → Nat) : ∀ (outs : List OutS) (i : Nat), noPart outs = true → ∀ (b o : Nat) (cs : List D), HW.put b o cs ∉ (outHW μ outs i).map (·.1)
  | [], _, _, _, _, _ => by simp [outHW]
  | .keep :: os, i, h, b, o, cs => by simp only [outHW]; exact outHW_noput μ os (i + 1) (by simpa [noPart] using h) b o cs
  | .gone :: os, i, h, b, o, cs => by simp only [outHW, List.map_cons, List.mem_cons, reduceCtorEq, false_or]; exact outHW_noput μ os (i + 1) (by simpa [noPart] using h) b o cs
  | .set _ _ :: os, i, h, b, o, cs => by simp only [outHW, List.map_cons, List.mem_cons, reduceCtorEq, false_or]; exact outHW_noput μ os (i + 1) (by simpa [noPart] using h) b o cs
  | .part _ _ :: os, i, h, _, _, _ => by simp [noPart] at h

theorem outHW_blk (μ : Nat → Nat) : ∀ (outs : List OutS) (i : Nat), List.Sublist ((outHW μ outs i).map (·.1.blk)) ((List.range' i outs.length).map μ)
  | [], i => by simp [outHW]
  | .keep :: os, i => by simp only [outHW, List.length_cons, List.range'_succ, List.map_cons]; exact (outHW_blk μ os (i + 1)).cons _
  | .gone :: os, i => by simp only [outHW, List.length_cons, List.range'_succ, List.map_cons, HW.blk]; exact (outHW_blk μ os (i + 1)).cons_cons _
  | .set _ _ :: os, i => by simp only [outHW, List.length_cons, List.range'_succ, List.map_cons, HW.blk]; exact (outHW_blk μ os (i + 1)).cons_cons _
  | .part _ _ :: os, i => by simp only [outHW, List.length_cons, List.range'_succ, List.map_cons, HW.blk]; exact (outHW_blk μ os (i + 1)).cons_cons _

theorem nodupB_ok : ∀ {l : List Nat}, nodupB l = true → l.Nodup
  | [], _ => List.nodup_nil
  | x :: xs, h => by
    simp only [nodupB, Bool.and_eq_true, Bool.not_eq_true'] at h
    exact List.nodup_cons.2 ⟨fun hm => by rw [memN_iff.2 hm] at h; simp at h, nodupB_ok h.2⟩

theorem outHW_wok {cl : Nat → Bool} (μ : Nat → Nat) : ∀ (outs : List OutS) (i : Nat), OutsClo outs → (∀ (j o : Nat) (new : List D), outs[j]? = some (.part o new) → cl (μ (i + j)) = false) → WOK cl (outHW μ outs i)
  | [], _, _, _ => by simp [outHW, WOK]
  | .keep :: os, i, h, hp => by
    simp only [outHW]
    exact outHW_wok μ os (i + 1) (fun sl hs => h sl (by simp [hs])) fun j o new hj => by
      have := hp (j + 1) o new (by simpa using hj)
      rwa [show i + (j + 1) = i + 1 + j by omega] at this
  | .gone :: os, i, h, hp => by
    intro x hx
    simp only [outHW, List.mem_cons] at hx
    rcases hx with rfl | hx
    · trivial
    · exact outHW_wok μ os (i + 1) (fun sl hs => h sl (by simp [hs])) (fun j o new hj => by
        have := hp (j + 1) o new (by simpa using hj)
        rwa [show i + (j + 1) = i + 1 + j by omega] at this) x hx
  | .set c sl :: os, i, h, hp => by
    intro x hx
    simp only [outHW, List.mem_cons] at hx
    rcases hx with rfl | hx
    · cases c with
      | false => trivial
      | true => exact h sl (by simp)
    · exact outHW_wok μ os (i + 1) (fun sl hs => h sl (by simp [hs])) (fun j o new hj => by
        have := hp (j + 1) o new (by simpa using hj)
        rwa [show i + (j + 1) = i + 1 + j by omega] at this) x hx
  | .part o new :: os, i, h, hp => by
    intro x hx
    simp only [outHW, List.mem_cons] at hx
    rcases hx with rfl | hx
    · intro hc
      have := hp 0 o new (by simp)
      rw [Nat.add_zero] at this
      rw [this] at hc; cases hc
    · exact outHW_wok μ os (i + 1) (fun sl hs => h sl (by simp [hs])) (fun j o new hj => by
        have := hp (j + 1) o new (by simpa using hj)
        rwa [show i + (j + 1) = i + 1 + j by omega] at this) x hx

def wmOf (outs : List OutS) (i : Nat) : WM := match outs[i]? with
  | some .keep => .keep
  | some (.part o new) => .part o new
  | _ => .whole

theorem outHW_eq {μ : Nat → Nat} {L : List Nat} {hin : List FS} {outs0 : List OutS} (hk : ∀ i : Nat, outs0[i]? = some OutS.keep → i < L.length) (hpt : ∀ (i o : Nat) (new : List D), outs0[i]? = some (OutS.part o new) → i < L.length) (hcl : OutsClo outs0) : ∀ (outs : List OutS) (i : Nat), outs0.drop i = outs →
    (outHW μ outs i).map (·.1) = (List.range' i outs.length).flatMap (hwOf μ L (wmOf outs0) (outSlots hin outs0 0)) ∧ outWh μ outs i = (List.range' i outs.length).flatMap (whOf μ L (wmOf outs0))
  | [], i, _ => by simp [outHW, outWh]
  | o :: os, i, hd => by
    have hi : outs0[i]? = some o := by
      have := congrArg List.head? hd
      rw [List.head?_drop] at this; simpa using this
    have hd' : outs0.drop (i + 1) = os := by rw [← List.tail_drop, hd]; rfl
    obtain ⟨h1, h2⟩ := outHW_eq (μ := μ) (hin := hin) hk hpt hcl os (i + 1) hd'
    have hs := outSlots_get (hin := hin) (i := 0) hi
    simp only [Nat.zero_add] at hs
    have hlst : lst (outSlots hin outs0 0) i = o.slotAt hin i := by simp [lst, hs]
    simp only [List.length_cons, List.range'_succ, List.flatMap_cons]
    cases o with
    | keep =>
      have hw : hwOf μ L (wmOf outs0) (outSlots hin outs0 0) i = [] := by simp [hwOf, modeOf, hk i hi, wmOf, hi]
      have hwh : whOf μ L (wmOf outs0) i = [] := by simp [whOf, modeOf, hk i hi, wmOf, hi]
      simp only [outHW, outWh, hw, hwh, List.nil_append]
      exact ⟨h1, h2⟩
    | gone =>
      have hm : modeOf L (wmOf outs0) i = .whole := by simp [modeOf, wmOf, hi]
      have hw : hwOf μ L (wmOf outs0) (outSlots hin outs0 0) i = [.set (μ i) none] := by simp [hwOf, hm, hlst, OutS.slotAt]
      have hwh : whOf μ L (wmOf outs0) i = [.all (μ i)] := by simp [whOf, hm]
      simp only [outHW, outWh, hw, hwh, List.map_cons, List.cons_append, List.nil_append]
      exact ⟨by rw [h1], by rw [h2]⟩
    | set c sl =>
      have hm : modeOf L (wmOf outs0) i = .whole := by simp [modeOf, wmOf, hi]
      have hw : hwOf μ L (wmOf outs0) (outSlots hin outs0 0) i = [.set (μ i) (some (sl.ren μ))] := by simp [hwOf, hm, hlst, OutS.slotAt]
      have hwh : whOf μ L (wmOf outs0) i = [.all (μ i)] := by simp [whOf, hm]
      have hsl : (bif c then sl else sl.ren μ) = sl.ren μ := by
        cases c with
        | false => rfl
        | true => rw [clo_ren (hcl sl (List.mem_of_getElem? hi))]; rfl
      simp only [outHW, outWh, hw, hwh, List.map_cons, List.cons_append, List.nil_append, hsl]
      exact ⟨by rw [h1], by rw [h2]⟩
    | part o new =>
      have hm : modeOf L (wmOf outs0) i = .part o new := by simp [modeOf, hpt i o new hi, wmOf, hi]
      have hw : hwOf μ L (wmOf outs0) (outSlots hin outs0 0) i = [.put (μ i) o (D.renL μ new)] := by simp [hwOf, hm]
      have hwh : whOf μ L (wmOf outs0) i = [.part (μ i) o (o + new.length)] := by simp [whOf, hm]
      simp only [outHW, outWh, hw, hwh, List.map_cons, List.cons_append, List.nil_append]
      exact ⟨by rw [h1], by rw [h2]⟩

theorem keepOK_spec {L : List Nat} : ∀ {outs : List OutS} {xs : List FS}, keepOK L outs xs = true → ∀ i : Nat,
    (outs[i]? = some OutS.keep → ∃ x : FS, xs[i]? = some x ∧ (x.1 = true ∨ ∀ b ∈ x.2.ids, b ∈ L)) ∧
    (∀ (o : Nat) (new : List D), outs[i]? = some (OutS.part o new) → ∃ x : FS, xs[i]? = some x ∧ x.1 = false ∧ isCells x.2 = true ∧ ∀ b ∈ x.2.ids, b ∈ L)
  | [], _, _, i => by simp
  | .keep :: os, [], h, _ => by simp [keepOK] at h
  | .part _ _ :: os, [], h, _ => by simp [keepOK] at h
  | .keep :: os, x :: xs, h, i => by
    simp only [keepOK, Bool.and_eq_true, Bool.or_eq_true, List.all_eq_true] at h
    cases i with
    | zero => exact ⟨fun _ => ⟨x, rfl, h.1.imp id fun h2 b hb => memN_iff.1 (h2 b hb)⟩, fun o new ho => by simp at ho⟩
    | succ i => simpa using keepOK_spec h.2 i
  | .part o new :: os, x :: xs, h, i => by
    simp only [keepOK, Bool.and_eq_true, List.all_eq_true, Bool.not_eq_true'] at h
    cases i with
    | zero => exact ⟨fun ho => by simp at ho, fun o new _ => ⟨x, rfl, h.1.1.1, h.1.1.2, fun b hb => memN_iff.1 (h.1.2 b hb)⟩⟩
    | succ i => simpa using keepOK_spec h.2 i
  | .gone :: os, xs, h, i => by
    cases i with
    | zero => simp
    | succ i =>
      have := keepOK_spec (outs := os) (xs := xs.tail) (by simpa [keepOK] using h) i
      simpa [List.getElem?_tail] using this
  | .set _ _ :: os, xs, h, i => by
    cases i with
    | zero => simp
    | succ i =>
      have := keepOK_spec (outs := os) (xs := xs.tail) (by simpa [keepOK] using h) i
      simpa [List.getElem?_tail] using this

theorem okF_mapOK {x : FS} (h : okF x = true) (hc : x.1 = true → x.2.Clo) : x.2.mapOK = true := by
  unfold okF at h
  simp only [Bool.or_eq_true] at h
  rcases h with h | h
  · have := hc h
    cases hx : x.2 with
    | cells cs => rfl
    | map es => rw [hx] at this; simp [Slot.mapOK, this.1, this.2]
  · exact h

theorem mapF_wk {g : Nat → Option Nat} {μ : Nat → Nat} (hg : ∀ b i, g b = some i → μ i = b) {x : FS} (hm : x.2.mapOK = true) (hc : x.1 = true → x.2.Clo) : SlotWk ((mapF g x).2.ren μ) x.2 := by
  unfold mapF
  cases hx : x.1 with
  | false => exact mapS_wk hg hm
  | true => simp only [cond_true]; rw [clo_ren (hc hx)]; exact SlotWk.refl _

theorem mapF_ids {g : Nat → Option Nat} {x : FS} (hm : x.2.mapOK = true) (hc : x.1 = true → x.2.Clo) {i : Nat} (h : i ∈ (mapF g x).2.ids) : ∃ b, g b = some i := by
  unfold mapF at h
  cases hx : x.1 with
  | false => rw [hx] at h; exact mapS_ids hm h
  | true => rw [hx] at h; simp only [cond_true] at h; rw [clo_ids (hc hx)] at h; simp at h

theorem mapF_clo {g : Nat → Option Nat} {x : FS} (hc : x.1 = true → x.2.Clo) (h : (mapF g x).1 = true) : (mapF g x).2.Clo := by
  have h' : x.1 = true := h
  simp only [mapF, h', cond_true]
  exact hc h'

section
variable {R : Type} {P : Program} {TI : TT} {F : SOrc}

theorem callK_ok (hF : SOrcOK P F) {ids : Nat → Nat} {s : SS} (hs : s.H.OK) {o : Oper} {cl : Call} {x : Operand} {f : FuncId} {cap : List D} (ho : o.op = .call cl) (hcal : cl.callee = .value x) (hfn : evalD s.st.T x = .fn f cap) {κ : SE → Option R} {r : R}
    (h : callK F ids s f (cl.args.toList.map (evalD s.st.T) ++ cap) κ = some r) : ∃ e : SE, StepR P TI ids s.st o e.eff ∧ WOK (fun b => s.H.cl b) e.hw ∧ PutOK e.hw ∧ κ e = some r := by
  unfold callK at h
  simp only at h
  generalize hL : reach (maskH s.H) 4096 (D.idsL (cl.args.toList.map (evalD s.st.T) ++ cap)) [] = L at h
  have hnd : L.Nodup := by rw [← hL]; exact reach_nodup _ _ _ (by simp)
  have hg : ∀ b i, idxOf b L 0 = some i → muOf L ids i = b := fun b i hi => by
    have := (idxOf_some hi).2
    simp only [Nat.sub_zero] at this
    simp [muOf, this]
  have hgl : ∀ b i, idxOf b L 0 = some i → i < L.length := fun b i hi => by
    have := (idxOf_some hi).2
    simp only [Nat.sub_zero] at this
    exact (List.getElem?_eq_some_iff.1 this).1
  split at h
  · rename_i sls hsls
    obtain ⟨hlen, hsl⟩ := mapO_spec hsls
    split at h
    · rename_i φ hφ
      obtain ⟨hok, h⟩ := bif_some h
      simp only [List.all_eq_true] at hok
      have hclo : ∀ y ∈ sls, y.1 = true → y.2.Clo := fun y hy hy1 => by
        obtain ⟨i, hi⟩ := List.getElem?_of_mem hy
        have hil : i < L.length := by rw [← hlen]; exact (List.getElem?_eq_some_iff.1 hi).1
        obtain ⟨y', h3, h4⟩ := hsl i L[i] (by simp [hil])
        rw [hi] at h3; cases h3
        obtain ⟨c, sl⟩ := y
        simp only at hy1; subst hy1
        exact hs _ _ h4
      have hmok : ∀ y ∈ sls, y.2.mapOK = true := fun y hy => okF_mapOK (hok y hy) (hclo y hy)
      have hin : InOK (D.mapL (fun b => idxOf b L 0) (cl.args.toList.map (evalD s.st.T) ++ cap)) (sls.map (mapF fun b => idxOf b L 0)) := by
        refine ⟨fun b hb => ?_, fun y hy b hb => ?_, fun y hy hy1 => ?_⟩
        · obtain ⟨c, hc⟩ := mapL_ids _ _ hb
          simp only [List.length_map, hlen]; exact hgl c b hc
        · obtain ⟨y0, h3, rfl⟩ := List.mem_map.1 hy
          obtain ⟨c, hc⟩ := mapF_ids (hmok y0 h3) (hclo y0 h3) hb
          simp only [List.length_map, hlen]; exact hgl c b hc
        · obtain ⟨y0, h3, rfl⟩ := List.mem_map.1 hy
          exact mapF_clo (hclo y0 h3) hy1
      obtain ⟨res, outs, hfnc, hclosed, hocl, hκ⟩ := hF f _ _ φ hφ hin _ _ _ h
      obtain ⟨h1, h2⟩ := bif_some hκ
      simp only [Bool.and_eq_true] at h1
      have hnl := ble_ok h1.1
      have hle := ble_ok h1.2.1
      have hkeep := keepOK_spec h1.2.2.1
      have hk : ∀ i : Nat, outs[i]? = some OutS.keep → i < L.length := fun i hi => by
        obtain ⟨y, h3, _⟩ := (hkeep i).1 hi
        rw [← hlen]; exact (List.getElem?_eq_some_iff.1 h3).1
      have hpt : ∀ (i o : Nat) (new : List D), outs[i]? = some (OutS.part o new) → i < L.length := fun i o new hi => by
        obtain ⟨y, h3, _⟩ := (hkeep i).2 o new hi
        rw [← hlen]; exact (List.getElem?_eq_some_iff.1 h3).1
      have heq := outHW_eq (μ := muOf L ids) (hin := sls.map (mapF fun b => idxOf b L 0)) hk hpt hocl outs 0 (by simp)
      rw [← List.range_eq_range'] at heq
      have hput : PutOK (outHW (muOf L ids) outs 0) := by
        have h3 := h1.2.2.2
        simp only [Bool.or_eq_true] at h3
        rcases h3 with h3 | h3
        · exact .inl (outHW_noput _ _ _ h3)
        · refine .inr (List.Sublist.nodup (outHW_blk _ _ _) ?_)
          rw [← List.range_eq_range']
          exact nodupB_ok h3
      have hat : ∀ i, i < L.length → ∃ y, sls[i]? = some y ∧ s.H.get (muOf L ids i) = some y := fun i hi => by
        obtain ⟨y, h3, h4⟩ := hsl i L[i] (by simp [hi])
        exact ⟨y, h3, by rw [muOf_lt hi]; exact h4⟩
      refine ⟨_, ?_, outHW_wok _ _ _ hocl (fun j o new hj => ?_), hput, h2⟩
      rotate_left
      · obtain ⟨y, h3, h4, _⟩ := (hkeep j).2 o new hj
        obtain ⟨y', h5, h6⟩ := hat j (hpt j o new hj)
        rw [h3] at h5; cases h5
        show s.H.cl _ = false
        rw [Nat.zero_add, SHL.cl_eq, h6]
        exact h4
      have hfin : StepR P TI ids s.st o ⟨res.ren (muOf L ids), (List.range (outSlots (sls.map (mapF fun b => idxOf b L 0)) outs 0).length).flatMap (hwOf (muOf L ids) L (wmOf outs) (outSlots (sls.map (mapF fun b => idxOf b L 0)) outs 0)), L.map .all, (List.range (outSlots (sls.map (mapF fun b => idxOf b L 0)) outs 0).length).flatMap (whOf (muOf L ids) L (wmOf outs))⟩ := by
        refine StepR.call ho (by rw [outSlots_length]; exact hnl) ⟨hcal, hfn, mapL_wk hg _, hnd, by simp [hlen], fun i sl' hi => ?_, hfnc, hclosed, fun i hi => ?_⟩
        · have hi' : i < L.length := by have := (List.getElem?_eq_some_iff.1 hi).1; simpa [hlen] using this
          obtain ⟨y, h3, h4⟩ := hat i hi'
          simp only [List.getElem?_map, h3, Option.map_some, Option.some.injEq] at hi
          subst hi
          refine ⟨y.2, ?_, mapF_wk hg (hmok y (List.mem_of_getElem? h3)) (hclo y (List.mem_of_getElem? h3))⟩
          show s.H.slot _ = _
          rw [SHL.slot_eq, h4]; rfl
        · obtain ⟨y, h3, h4⟩ := hat i hi
          have hio : i < outs.length := by omega
          unfold wmOf
          have hou : outs[i]? = some outs[i] := by simp [hio]
          rw [hou]
          cases ho' : outs[i] with
          | keep =>
            simp only
            rw [ho'] at hou
            obtain ⟨y', h5, h6⟩ := (hkeep i).1 hou
            rw [h3] at h5; cases h5
            have hsg := outSlots_get (hin := sls.map (mapF fun b => idxOf b L 0)) (i := 0) hou
            simp only [Nat.zero_add, OutS.slotAt, List.getElem?_map, h3, Option.map_some] at hsg
            refine ⟨(mapF (fun b => idxOf b L 0) y).2, by simp [h3], hsg, ?_⟩
            show s.H.slot _ = _
            rw [SHL.slot_eq, h4]
            simp only [Option.map_some, Option.some.injEq]
            have hyc := hclo y (List.mem_of_getElem? h3)
            unfold mapF
            cases hy1 : y.1 with
            | true => simp only [cond_true]; rw [clo_ren (hyc hy1)]
            | false =>
              simp only [cond_false]
              rcases h6 with h6 | h6
              · rw [hy1] at h6; cases h6
              · cases hy2 : y.2 with
                | cells cs =>
                  simp only [Slot.mapS, Slot.ren]
                  rw [mapL_exact hg cs fun b hb => idxOf_mem 0 (h6 b (by rw [hy2]; exact hb))]
                | map es =>
                  simp only [Slot.mapS, Slot.ren]
                  rw [ren_map_closed (by rw [← hy2]; exact hmok y (List.mem_of_getElem? h3))]
          | gone => trivial
          | set c sl => trivial
          | part op new =>
            simp only
            rw [ho'] at hou
            obtain ⟨y', h5, h6, h7, h8⟩ := (hkeep i).2 op new hou
            rw [h3] at h5; cases h5
            cases hy2 : y.2 with
            | map es => rw [hy2] at h7; simp [isCells] at h7
            | cells cs =>
              have hm : mapF (fun b => idxOf b L 0) y = (false, .cells (D.mapL (fun b => idxOf b L 0) cs)) := by
                unfold mapF; rw [h6, hy2]; rfl
              have hsg := outSlots_get (hin := sls.map (mapF fun b => idxOf b L 0)) (i := 0) hou
              simp only [Nat.zero_add, OutS.slotAt, List.getElem?_map, h3, Option.map_some, hm] at hsg
              refine ⟨D.mapL (fun b => idxOf b L 0) cs, by simp [h3, hm], ?_, hsg⟩
              show s.H.slot _ = _
              rw [SHL.slot_eq, h4]
              simp only [Option.map_some, hy2]
              rw [mapL_exact hg cs fun b hb => idxOf_mem 0 (h8 b (by rw [hy2]; exact hb))]
      rw [outSlots_length] at hfin
      simp only [SE.eff]
      rw [heq.1, heq.2]
      exact hfin
    · cases h
  · cases h

variable {nat : Nats} {hint : Hint} {N : Nat}

theorem viewC_ok {o : Oper} {e : SE} {κ : SE → Option R} {r : R} (h : viewC hint o e κ = some r) : κ e = some r := by
  unfold viewC at h
  split at h
  · exact h
  · split at h
    · obtain ⟨h1, h2⟩ := bif_some h
      rw [viewS_ok h1] at h2
      exact h2
    · exact h

theorem stepK_ok (hN : NatsOK P nat) (hF : SOrcOK P F) {ids : Nat → Nat} {s : SS} (hs : s.H.OK) {o : Oper} {κ : SE → Option R} {r : R} (h : stepK P nat F hint ids s o κ = some r) :
    ∃ e : SE, StepR P (tiOf P) ids s.st o e.eff ∧ WOK (fun b => s.H.cl b) e.hw ∧ PutOK e.hw ∧ κ e = some r := by
  unfold stepK at h
  split at h
  · rename_i ho
    split at h
    · rename_i f cap hf
      split at h
      · rename_i v hv
        refine ⟨_, ?_, WOK.nil, .inl (by simp), h⟩
        exact StepR.nat (s := s.st) ho rfl hf (hN _ _ _ hv)
      · exact callK_ok hF hs ho rfl hf h
    · cases h
  · split at h
    · rename_i e he
      obtain ⟨h1, h2⟩ := needs_some h
      obtain ⟨h3, h4⟩ := opS_ok hs.cl he h1
      exact ⟨e, StepR.op (s := s.st) h3, h4, opS_put hs.cl he h1, viewC_ok h2⟩
    · cases h

theorem stepG_ok (hN : NatsOK P nat) (hF : SOrcOK P F) {ops : Array Oper} {ids : Nat → Nat} {s : SS} (hs : s.H.OK) {o : Oper} {κ : SS → SE → Option R} {r : R} (h : stepG P nat F hint ops.toList ids s o κ = some r) :
    ∃ (s1 : SS) (e : SE), s1.st = s.st ∧ s1.H = s.H ∧ Step P (tiOf P) ops ids s.st o e.eff ∧ WOK (fun b => s.H.cl b) e.hw ∧ PutOK e.hw ∧ κ s1 e = some r := by
  unfold stepG at h
  unfold Step
  split at h
  · rename_i hg
    rw [hg]
    obtain ⟨e, h1, h2, h3, h4⟩ := stepK_ok hN hF hs h
    exact ⟨s, e, rfl, rfl, h1, h2, h3, h4⟩
  · rename_i j want hg
    rw [hg]
    simp only
    split at h
    · rename_i d hd
      obtain ⟨hlt, h⟩ := bif_some h
      have hd' : (ops[j]?).bind (·.dst) = some d := by simpa using hd
      have skip : ∀ {s1 : SS} {b : Bool}, s1.st = s.st → s1.H = s.H → s.st.T d = .bool b → b = !want → κ s1 skipE = some r →
          ∃ (s1 : SS) (e : SE), s1.st = s.st ∧ s1.H = s.H ∧ (∃ d, (ops[j]?).bind (·.dst) = some d ∧ ((s.st.T d = .bool want ∧ StepR P (tiOf P) ids s.st o e.eff) ∨ ((s.st.T d = .bool (!want) ∨ s.st.T d = .tup []) ∧ e.eff = ⟨.tup [], [], [], []⟩))) ∧ WOK (fun b => s.H.cl b) e.hw ∧ PutOK e.hw ∧ κ s1 e = some r := fun h1 h2 h3 h4 h5 =>
        ⟨_, skipE, h1, h2, ⟨d, hd', .inr ⟨.inl (by rw [h3, h4]), rfl⟩⟩, WOK.nil, .inl (by simp [skipE]), h5⟩
      have run : ∀ {s1 : SS}, s1.st = s.st → s1.H = s.H → s.st.T d = .bool want → stepK P nat F hint ids s1 o (κ s1) = some r →
          ∃ (s1 : SS) (e : SE), s1.st = s.st ∧ s1.H = s.H ∧ (∃ d, (ops[j]?).bind (·.dst) = some d ∧ ((s.st.T d = .bool want ∧ StepR P (tiOf P) ids s.st o e.eff) ∨ ((s.st.T d = .bool (!want) ∨ s.st.T d = .tup []) ∧ e.eff = ⟨.tup [], [], [], []⟩))) ∧ WOK (fun b => s.H.cl b) e.hw ∧ PutOK e.hw ∧ κ s1 e = some r := fun {s1} h1 h2 h3 h5 => by
        obtain ⟨e, h6, h7, h8, h9⟩ := stepK_ok hN hF (by rw [h2]; exact hs) h5
        rw [h1] at h6
        rw [h2] at h7
        exact ⟨s1, e, h1, h2, ⟨d, hd', .inl ⟨h3, h6⟩⟩, h7, h8, h9⟩
      split at h
      · rename_i b hb
        have hb' : s.st.T d = .bool b := hb
        split at h
        · cases b with
          | true => exact run (SS.put_st hlt hb) rfl hb' h
          | false => exact skip (SS.put_st hlt hb) rfl hb' rfl h
        · cases b with
          | true => exact skip (SS.put_st hlt hb) rfl hb' rfl h
          | false => exact run (SS.put_st hlt hb) rfl hb' h
      · rename_i hb
        exact ⟨s, skipE, rfl, rfl, ⟨d, hd', .inr ⟨.inr hb, rfl⟩⟩, WOK.nil, .inl (by simp [skipE]), h⟩
      · cases h
    · cases h

theorem runC_ok (hN : NatsOK P nat) (hF : SOrcOK P F) {nb : Nat} {ops : Array Oper} : ∀ (os : List Oper) (k : Nat) (s : SS) (κ : List Eff → SS → Option R) (r : R), s.H.OK → runC P nat F hint N ops.toList nb ops.size os k s κ = some r → ops.toList.drop k = os →
    ∃ es s', Run P (tiOf P) N nb ops k s.st es s'.st ∧ s'.H.OK ∧ κ es s' = some r
  | [], k, s, κ, r, hs, h, hd => ⟨[], s, .nil (by simpa using hd), hs, h⟩
  | o :: os, k, s, κ, r, hs, h, hd => by
    simp only [runC] at h
    obtain ⟨h1, h2⟩ := bif_some h
    have hk : ops[k]? = some o := by
      have := congrArg List.head? hd
      rw [List.head?_drop] at this; simpa using this
    have hd' : ops.toList.drop (k + 1) = os := by rw [← List.tail_drop, hd]; rfl
    obtain ⟨s1, e, h3, h4, h5, h6, h7, h8⟩ := stepG_ok hN hF hs h2
    have hs1 : (aftS o e s1).H.OK := by
      show (e.hw.foldl SHL.app s1.H).OK
      rw [h4]
      exact hs.apps h7 h6
    have h8' : runC P nat F hint N ops.toList nb ops.size os (k + 1) (aftS o e s1) (fun es s' => κ (e.eff :: es) s') = some r := by
      obtain ⟨T, H⟩ := s1
      rw [← h8]
      simp only [aftS]
      cases e.hw <;> rfl
    obtain ⟨es, s', h9, h10, h11⟩ := runC_ok hN hF os (k + 1) _ _ r hs1 h8' hd'
    refine ⟨e.eff :: es, s', .cons hk (fun t ht => ?_) h5 ?_, h10, h11⟩
    · unfold dstOK at h1
      rw [ht] at h1
      simp only [Bool.and_eq_true] at h1
      exact blt_ok h1.1
    · have := aftS_st (e := e) (s := s1) h1
      rw [h3] at this
      rw [← this]
      exact h9

end

end Go.Tw
end
