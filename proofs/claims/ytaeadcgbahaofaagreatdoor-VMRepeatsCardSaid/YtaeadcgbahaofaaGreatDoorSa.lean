/- Values, blocks and steps of the twin: what it says of a run of the program. -/
import Derived.Laws.AppendOwn
import Derived.Laws.Sem
import Derived.Laws.OwnMore
import Derived.Orders
import Derived.Laws.Small
import Derived.Laws.CopyRow
import Derived.Laws.Entries
import Derived.Lib.Strings
import Derived.Laws.StructEq
import Derived.Laws.Tables
import Derived.Laws.Cells
import Derived.Laws.IdiomCopy
section
namespace Go.Tw

/-- A value of the twin: what a value of Go means, with literal numbers for the blocks that the running function may write, and by content for what nobody writes again. -/
inductive D where
  | undef
  | bool (b : Bool)
  | int (k : IntKind) (n : Int)
  | str (s : List UInt8)
  | ptr (b o : Nat)
  | nptr
  | sl (b sz o n : Nat)
  | isl (sz : Nat) (es : List D)
  | nsl
  | iptr (d : D)
  | mp (b : Nat)
  | nmp
  | fn (f : FuncId) (cs : List D)
  | agg (cs : List D)
  | tup (cs : List D)
  | ifc (b : Bool)

/-- The cells of a value. -/
def D.cells? : D → Option (List D)
  | .agg cs => some cs
  | .undef => none
  | .tup _ => none
  | d => some [d]

/-- A value that can lie in one cell. -/
def D.scal : D → Bool
  | .agg _ | .undef | .tup _ => false
  | _ => true

/-- A value that can lie in memory, every cell of it known. -/
def D.solid : D → Bool
  | .agg cs => cs.all D.scal
  | d => d.scal

/-- Where a block of the twin lies: nowhere (it is dead), nowhere because it is a nil slice's, in a block of the world. -/
inductive Place where
  | none
  | nil
  | row (g : Nat)

/-- The cells of a value at an address. -/
def holds (w : World) (g o : Nat) (u : Value) : Prop := ∀ j x, u.cells[j]? = some x → w.cell? ⟨g, o + j, none⟩ = some x

/-- A block that the twin does not write. -/
def Im (ρ : Nat → Place) (w : World) (g : Nat) : Prop := g < w.heap.size ∧ ∀ b, ρ b ≠ .row g

mutual
/-- Numbers of blocks that a value names. -/
def D.ids : D → List Nat
  | .ptr b _ => [b]
  | .sl b _ _ _ => [b]
  | .mp b => [b]
  | .fn _ cs => D.idsL cs
  | .agg cs => D.idsL cs
  | .tup cs => D.idsL cs
  | _ => []
def D.idsL : List D → List Nat
  | [] => []
  | d :: ds => D.ids d ++ D.idsL ds
end

mutual
/-- What a value of the twin says of a value. -/
def VR (X : Nat → Prop) (ρ : Nat → Place) (w : World) : D → Value → Prop
  | .undef, _ => True
  | .bool b, v => v = .bool b
  | .int k n, v => v = .int k n
  | .str s, v => v = .string ⟨s.toArray⟩
  | .ptr b o, v => v.oneCell' = true ∧ ∀ g, ρ b = .row g → v = .pointer (some ⟨g, o, none⟩)
  | .nptr, v => v = .pointer none
  | .sl b sz o n, v => v.oneCell' = true ∧ (∀ g, ρ b = .row g → ∃ cap cur e, v = .slice (some ⟨g, o, none⟩) n cap ∧ w.heap[g]? = some (.cells cur e (0, 0)) ∧ o + cap * sz = cur.size ∧ n ≤ cap ∧ cap ≤ maxLen) ∧
      (ρ b = .nil → o = 0 ∧ n = 0 ∧ v = .slice none 0 0)
  | .isl sz es, v => D.idsL es = [] ∧ ∃ ad cap, v = .slice ad es.length cap ∧ es.length ≤ cap ∧ (es ≠ [] → ∃ g o, ad = some ⟨g, o, none⟩ ∧ (¬ X g ∧ Im ρ w g) ∧ VRe X ρ w g sz es o)
  | .nsl, v => v = .slice none 0 0
  | .iptr d, v => D.ids d = [] ∧ ∃ g o u, v = .pointer (some ⟨g, o, none⟩) ∧ (¬ X g ∧ Im ρ w g) ∧ VR X ρ w d u ∧ 0 < u.cells.size ∧ holds w g o u
  | .mp b, v => v.oneCell' = true ∧ ∀ g, ρ b = .row g → v = .map (some g)
  | .nmp, v => v = .map none
  | .fn f cs, v => ∃ vs : List Value, v = .func (.func f) #[] vs.toArray ∧ VRs X ρ w cs vs
  | .agg cs, v => ∃ vs : List Value, v = .agg vs.toArray ∧ VRs X ρ w cs vs
  | .tup cs, v => ∃ vs : List Value, v = .tuple vs.toArray ∧ VRs X ρ w cs vs
  | .ifc b, v => if b then ∃ t u, v = .iface t u else v = .nilIface
def VRs (X : Nat → Prop) (ρ : Nat → Place) (w : World) : List D → List Value → Prop
  | [], vs => vs = []
  | d :: ds, vs => ∃ v vs', vs = v :: vs' ∧ VR X ρ w d v ∧ VRs X ρ w ds vs'
def VRe (X : Nat → Prop) (ρ : Nat → Place) (w : World) (g sz : Nat) : List D → Nat → Prop
  | [], _ => True
  | d :: ds, o => (d.solid = true ∧ ∃ u, VR X ρ w d u ∧ u.cells.size = sz ∧ holds w g o u) ∧ VRe X ρ w g sz ds (o + sz)
end

/-- What the program's variables hold that nobody writes behind the start. -/
def GD : Nat → Option D
  | 1 => some (.agg ([0, 0, 0, 0, 0, 0, 0, 0, 0, 1, 1, 1, 1, 1, 0, 0, 0, 0, 0, 0, 0, 0, 0, 0, 0, 0, 0, 0, 0, 0, 0, 0, 1, 0, 0, 0, 0, 0, 0, 0, 0, 0, 0, 0, 0, 0, 0, 0, 0, 0, 0, 0, 0, 0, 0, 0, 0, 0, 0, 0, 0, 0, 0, 0, 0, 0, 0, 0, 0, 0, 0, 0, 0, 0, 0, 0, 0, 0, 0, 0, 0, 0, 0, 0, 0, 0, 0, 0, 0, 0, 0, 0, 0, 0, 0, 0, 0, 0, 0, 0, 0, 0, 0, 0, 0, 0, 0, 0, 0, 0, 0, 0, 0, 0, 0, 0, 0, 0, 0, 0, 0, 0, 0, 0, 0, 0, 0, 0, 0, 0, 0, 0, 0, 0, 0, 0, 0, 0, 0, 0, 0, 0, 0, 0, 0, 0, 0, 0, 0, 0, 0, 0, 0, 0, 0, 0, 0, 0, 0, 0, 0, 0, 0, 0, 0, 0, 0, 0, 0, 0, 0, 0, 0, 0, 0, 0, 0, 0, 0, 0, 0, 0, 0, 0, 0, 0, 0, 0, 0, 0, 0, 0, 0, 0, 0, 0, 0, 0, 0, 0, 0, 0, 0, 0, 0, 0, 0, 0, 0, 0, 0, 0, 0, 0, 0, 0, 0, 0, 0, 0, 0, 0, 0, 0, 0, 0, 0, 0, 0, 0, 0, 0, 0, 0, 0, 0, 0, 0, 0, 0, 0, 0, 0, 0, 0, 0, 0, 0, 0, 0, 0, 0, 0, 0, 0, 0].map fun (n : Nat) => D.int .u8 n))
  | _ => none

/-- From one world and numbering to a later one: what is asked for values that name only the numbers I. -/
structure Mono (I : Nat → Prop) (ρ ρ' : Nat → Place) (w w' : World) : Prop where
  back : ∀ b, I b → ρ' b ≠ .none → ρ b = ρ' b
  im : ∀ g, Im ρ w g → Im ρ' w' g ∧ w'.heap[g]? = w.heap[g]?
  row : ∀ b g cur e, I b → ρ' b = .row g → w.heap[g]? = some (.cells cur e (0, 0)) → ∃ cur', w'.heap[g]? = some (.cells cur' e (0, 0)) ∧ cur'.size = cur.size

theorem holds_mono {w w' : World} {g o : Nat} {u : Value} (h : holds w g o u) (hg : w'.heap[g]? = w.heap[g]?) : holds w' g o u := by
  intro j x hx
  rw [← h j x hx]
  exact World.cell?_of_block (a := ⟨g, o + j, none⟩) hg

section
variable {X : Nat → Prop} {ρ ρ' : Nat → Place} {w w' : World}
mutual
theorem VR_mono {I : Nat → Prop} (m : Mono I ρ ρ' w w') : ∀ (d : D) (v : Value), (∀ b ∈ D.ids d, I b) → VR X ρ w d v → VR X ρ' w' d v
  | .undef, _, _, _ => by simp [VR]
  | .bool _, _, _, h => by simpa [VR] using h
  | .int _ _, _, _, h => by simpa [VR] using h
  | .str _, _, _, h => by simpa [VR] using h
  | .ptr b o, v, hi, h => by
    simp only [VR] at h ⊢
    exact ⟨h.1, fun g hg => h.2 g ((m.back b (hi b (by simp [D.ids])) (by simp [hg])).trans hg)⟩
  | .nptr, _, _, h => by simpa [VR] using h
  | .sl b sz o n, v, hi, h => by
    simp only [VR] at h ⊢
    have hb := hi b (by simp [D.ids])
    refine ⟨h.1, fun g hg => ?_, fun hg => h.2.2 ((m.back b hb (by simp [hg])).trans hg)⟩
    obtain ⟨cap, cur, e, h1, h2, h3, h4, h5⟩ := h.2.1 g ((m.back b hb (by simp [hg])).trans hg)
    obtain ⟨cur', h6, h7⟩ := m.row b g cur e hb hg h2
    exact ⟨cap, cur', e, h1, h6, by rw [h7]; exact h3, h4, h5⟩
  | .isl sz es, v, hi, h => by
    simp only [VR] at h ⊢
    obtain ⟨hc, ad, cap, h1, h2, h3⟩ := h
    refine ⟨hc, ad, cap, h1, h2, fun hne => ?_⟩
    obtain ⟨g, o, h4, h5, h6⟩ := h3 hne
    obtain ⟨h7, h8⟩ := m.im g h5.2
    exact ⟨g, o, h4, ⟨h5.1, h7⟩, VRe_mono m g sz h8 es o (by rw [hc]; simp) h6⟩
  | .nsl, _, _, h => by simpa [VR] using h
  | .iptr d, v, hi, h => by
    simp only [VR] at h ⊢
    obtain ⟨hc, g, o, u, h1, h2, h3, h4, h5⟩ := h
    obtain ⟨h7, h8⟩ := m.im g h2.2
    exact ⟨hc, g, o, u, h1, ⟨h2.1, h7⟩, VR_mono m d u (by rw [hc]; simp) h3, h4, holds_mono h5 h8⟩
  | .mp b, v, hi, h => by
    simp only [VR] at h ⊢
    exact ⟨h.1, fun g hg => h.2 g ((m.back b (hi b (by simp [D.ids])) (by simp [hg])).trans hg)⟩
  | .nmp, _, _, h => by simpa [VR] using h
  | .fn f cs, v, hi, h => by
    simp only [VR] at h ⊢
    obtain ⟨vs, h1, h2⟩ := h
    exact ⟨vs, h1, VRs_mono m cs vs (by simpa [D.ids] using hi) h2⟩
  | .agg cs, v, hi, h => by
    simp only [VR] at h ⊢
    obtain ⟨vs, h1, h2⟩ := h
    exact ⟨vs, h1, VRs_mono m cs vs (by simpa [D.ids] using hi) h2⟩
  | .tup cs, v, hi, h => by
    simp only [VR] at h ⊢
    obtain ⟨vs, h1, h2⟩ := h
    exact ⟨vs, h1, VRs_mono m cs vs (by simpa [D.ids] using hi) h2⟩
  | .ifc b, v, _, h => by simpa only [VR] using h
theorem VRs_mono {I : Nat → Prop} (m : Mono I ρ ρ' w w') : ∀ (ds : List D) (vs : List Value), (∀ b ∈ D.idsL ds, I b) → VRs X ρ w ds vs → VRs X ρ' w' ds vs
  | [], vs, _, h => by simpa [VRs] using h
  | d :: ds, vs, hi, h => by
    simp only [VRs] at h ⊢
    obtain ⟨v, vs', h1, h2, h3⟩ := h
    exact ⟨v, vs', h1, VR_mono m d v (fun b hb => hi b (by simp [D.idsL, hb])) h2, VRs_mono m ds vs' (fun b hb => hi b (by simp [D.idsL, hb])) h3⟩
theorem VRe_mono {I : Nat → Prop} (m : Mono I ρ ρ' w w') (g sz : Nat) (hg : w'.heap[g]? = w.heap[g]?) : ∀ (ds : List D) (o : Nat), (∀ b ∈ D.idsL ds, I b) → VRe X ρ w g sz ds o → VRe X ρ' w' g sz ds o
  | [], _, _, _ => by simp [VRe]
  | d :: ds, o, hi, h => by
    simp only [VRe] at h ⊢
    obtain ⟨⟨hs, u, h1, h2, h3⟩, h4⟩ := h
    exact ⟨⟨hs, u, VR_mono m d u (fun b hb => hi b (by simp [D.idsL, hb])) h1, h2, holds_mono h3 hg⟩, VRe_mono m g sz hg ds (o + sz) (fun b hb => hi b (by simp [D.idsL, hb])) h4⟩
end

theorem VRs_length : ∀ {ds : List D} {vs : List Value}, VRs X ρ w ds vs → ds.length = vs.length
  | [], _, h => by simp only [VRs] at h; simp [h]
  | d :: ds, _, h => by
    simp only [VRs] at h
    obtain ⟨v, vs', rfl, _, h3⟩ := h
    simp [VRs_length h3]

theorem VRs_get : ∀ {ds : List D} {vs : List Value}, VRs X ρ w ds vs → ∀ (i : Nat) (d : D), ds[i]? = some d → ∃ v, vs[i]? = some v ∧ VR X ρ w d v
  | [], _, _, i, d, hd => by simp at hd
  | d :: ds, _, h, i, x, hx => by
    simp only [VRs] at h
    obtain ⟨v, vs', rfl, h2, h3⟩ := h
    cases i with
    | zero => simp at hx; subst hx; exact ⟨v, by simp, h2⟩
    | succ i => simpa using VRs_get h3 i x (by simpa using hx)

theorem VRs_of_get : ∀ {ds : List D} {vs : List Value}, ds.length = vs.length → (∀ (i : Nat) (d : D) (v : Value), ds[i]? = some d → vs[i]? = some v → VR X ρ w d v) → VRs X ρ w ds vs
  | [], vs, hl, _ => by simp only [VRs]; cases vs <;> simp_all
  | d :: ds, vs, hl, h => by
    cases vs with
    | nil => simp at hl
    | cons v vs =>
      simp only [VRs]
      exact ⟨v, vs, rfl, h 0 d v (by simp) (by simp), VRs_of_get (by simpa using hl) (fun i d' v' h1 h2 => h (i + 1) d' v' (by simpa using h1) (by simpa using h2))⟩

theorem VRs_take {ds : List D} {vs : List Value} (h : VRs X ρ w ds vs) (n : Nat) : VRs X ρ w (ds.take n) (vs.take n) :=
  VRs_of_get (by simp [VRs_length h]) fun i d v h1 h2 => by
    rw [List.getElem?_take] at h1 h2
    split at h1
    · obtain ⟨v', h3, h4⟩ := VRs_get h i d h1
      rw [if_pos ‹_›, h3] at h2
      cases h2; exact h4
    · simp at h1

theorem VRs_drop {ds : List D} {vs : List Value} (h : VRs X ρ w ds vs) (n : Nat) : VRs X ρ w (ds.drop n) (vs.drop n) :=
  VRs_of_get (by simp [VRs_length h]) fun i d v h1 h2 => by
    rw [List.getElem?_drop] at h1 h2
    obtain ⟨v', h3, h4⟩ := VRs_get h (n + i) d h1
    rw [h3] at h2
    cases h2; exact h4

theorem VRs_append {ds ds' : List D} {vs vs' : List Value} (h : VRs X ρ w ds vs) (h' : VRs X ρ w ds' vs') : VRs X ρ w (ds ++ ds') (vs ++ vs') := by
  have hl := VRs_length h
  have hl' := VRs_length h'
  refine VRs_of_get (by simp [hl, hl']) fun i d v h1 h2 => ?_
  rw [List.getElem?_append] at h1 h2
  rw [← hl] at h2
  split at h1
  · rw [if_pos ‹_›] at h2
    obtain ⟨v', h3, h4⟩ := VRs_get h i d h1
    rw [h3] at h2; cases h2; exact h4
  · rw [if_neg ‹_›] at h2
    obtain ⟨v', h3, h4⟩ := VRs_get h' _ d h1
    rw [h3] at h2; cases h2; exact h4

theorem VRe_get {g sz : Nat} : ∀ {es : List D} {o : Nat}, VRe X ρ w g sz es o → ∀ (i : Nat) (d : D), es[i]? = some d → d.solid = true ∧ ∃ u, VR X ρ w d u ∧ u.cells.size = sz ∧ holds w g (o + i * sz) u
  | [], _, _, i, d, hd => by simp at hd
  | d :: ds, o, h, i, x, hx => by
    simp only [VRe] at h
    obtain ⟨⟨hs, u, h1, h2, h3⟩, h4⟩ := h
    cases i with
    | zero => simp at hx; subst hx; exact ⟨hs, u, h1, h2, by simpa using h3⟩
    | succ i =>
      obtain ⟨hs', u', h5, h6, h7⟩ := VRe_get h4 i x (by simpa using hx)
      exact ⟨hs', u', h5, h6, by rw [Nat.add_mul, Nat.one_mul, Nat.add_comm (i * sz) sz, ← Nat.add_assoc]; exact h7⟩

theorem VRe_of_get {g sz : Nat} : ∀ {es : List D} {o : Nat}, (∀ (i : Nat) (d : D), es[i]? = some d → d.solid = true ∧ ∃ u, VR X ρ w d u ∧ u.cells.size = sz ∧ holds w g (o + i * sz) u) → VRe X ρ w g sz es o
  | [], _, _ => by simp [VRe]
  | d :: ds, o, h => by
    simp only [VRe]
    refine ⟨by simpa using h 0 d (by simp), VRe_of_get fun i d' hd => ?_⟩
    obtain ⟨hs', u', h5, h6, h7⟩ := h (i + 1) d' (by simpa using hd)
    exact ⟨hs', u', h5, h6, by rw [Nat.add_mul, Nat.one_mul, Nat.add_comm (i * sz) sz, ← Nat.add_assoc] at h7; exact h7⟩
end

theorem mem_idsL {b : Nat} : ∀ {ds : List D}, b ∈ D.idsL ds → ∃ d ∈ ds, b ∈ D.ids d
  | [], h => by simp [D.idsL] at h
  | d :: ds, h => by
    simp only [D.idsL, List.mem_append] at h
    rcases h with h | h
    · exact ⟨d, by simp, h⟩
    · obtain ⟨d', h1, h2⟩ := mem_idsL h
      exact ⟨d', by simp [h1], h2⟩

theorem idsL_mem {b : Nat} : ∀ {ds : List D} {d : D}, d ∈ ds → b ∈ D.ids d → b ∈ D.idsL ds
  | [], _, h, _ => by simp at h
  | x :: ds, d, h, hb => by
    simp only [D.idsL, List.mem_append]
    rcases List.mem_cons.1 h with rfl | h
    · exact .inl hb
    · exact .inr (idsL_mem h hb)

theorem idsL_nil_of {ds : List D} (h : ∀ d ∈ ds, D.ids d = []) : D.idsL ds = [] := by
  cases hh : D.idsL ds with
  | nil => rfl
  | cons b l =>
    obtain ⟨d, h1, h2⟩ := mem_idsL (b := b) (ds := ds) (by rw [hh]; simp)
    rw [h d h1] at h2; simp at h2

theorem ids_of_idsL_nil {ds : List D} (h : D.idsL ds = []) {d : D} (hd : d ∈ ds) : D.ids d = [] := by
  cases hh : D.ids d with
  | nil => rfl
  | cons b l => have := idsL_mem (b := b) hd (by rw [hh]; simp); rw [h] at this; simp at this

end Go.Tw
end

section
namespace Go.Tw
variable {X : Nat → Prop}

/-- What a block of the twin holds: cells, or the entries of a map in their order. -/
inductive Slot where
  | cells (cs : List D)
  | map (es : List (D × D))

def Slot.ids : Slot → List Nat
  | .cells cs => D.idsL cs
  | .map es => D.idsL (es.map (·.1)) ++ D.idsL (es.map (·.2))

/-- A state of the twin: the temporaries and the blocks. -/
structure St where
  T : Nat → D
  H : Nat → Option Slot

def upd {α : Type} (f : Nat → α) (i : Nat) (x : α) : Nat → α := fun j => if j = i then x else f j

theorem upd_same {α : Type} (f : Nat → α) (i : Nat) (x : α) : upd f i x i = x := by simp [upd]
theorem upd_ne {α : Type} (f : Nat → α) {i j : Nat} (x : α) (h : j ≠ i) : upd f i x j = f j := by simp [upd, h]

def slotR (X : Nat → Prop) (ρ : Nat → Place) (w : World) (g : Nat) : Slot → Prop
  | .cells cs => ∃ cur e, w.heap[g]? = some (.cells cur e (0, 0)) ∧ VRs X ρ w cs (cur.toList.take cs.length)
  | .map es => ∃ ents : Array MapEntry, w.heap[g]? = some (.map ents ents.size) ∧ VRs X ρ w (es.map (·.1)) (ents.toList.map (·.key)) ∧ VRs X ρ w (es.map (·.2)) (ents.toList.map (·.val)) ∧
      ∀ (i : Nat) (e : MapEntry), ents[i]? = some e → e.born = i

structure HRel (X : Nat → Prop) (ρ : Nat → Place) (w : World) (H : Nat → Option Slot) : Prop where
  row : ∀ b g, ρ b = .row g → ∃ sl, H b = some sl ∧ slotR X ρ w g sl
  nil : ∀ b, ρ b = .nil → H b = some (.cells [])
  live : ∀ b sl, H b = some sl → ρ b ≠ .none
  inj : ∀ b b' g, ρ b = .row g → ρ b' = .row g → b = b'
  clear : ∀ b g, ρ b = .row g → ¬ X g
  avoid : ∀ g, X g → g < w.heap.size
  globs : ∀ g d, GD g = some d → VR X ρ w (.iptr d) (.pointer (some ⟨g, 0, none⟩))

structure Rel (X : Nat → Prop) (N : Nat) (U : Nat → Prop) (ρ : Nat → Place) (a : Act) (w : World) (s : St) : Prop where
  size : a.tmps.size = N
  tmp : ∀ t, VR X ρ w (s.T t) (a.tmps.getD t undef)
  tids : ∀ t b, b ∈ (s.T t).ids → U b
  hids : ∀ b sl, s.H b = some sl → ∀ c ∈ sl.ids, U c
  dom : ∀ b, ρ b ≠ .none → U b
  heap : HRel X ρ w s.H
  defers : a.defers = []

/-- What a step leaves as it was. -/
structure Fr (ρ ρ' : Nat → Place) (w w' : World) : Prop where
  os : w'.os = w.os
  tape : w'.tape = w.tape
  output : w'.output = w.output
  size : w.heap.size ≤ w'.heap.size
  keep : ∀ g, Im ρ w g → w'.heap[g]? = w.heap[g]?
  im : ∀ g, Im ρ w g → ∀ b, ρ' b ≠ .row g

theorem Fr.refl (ρ : Nat → Place) (w : World) : Fr ρ ρ w w := ⟨rfl, rfl, rfl, Nat.le_refl _, fun _ _ => rfl, fun _ h => h.2⟩

theorem Fr.imm {ρ ρ' : Nat → Place} {w w' : World} (h : Fr ρ ρ' w w') {g : Nat} (hg : Im ρ w g) : Im ρ' w' g := ⟨Nat.lt_of_lt_of_le hg.1 h.size, h.im g hg⟩

theorem Fr.trans {ρ ρ' ρ'' : Nat → Place} {w w' w'' : World} (h : Fr ρ ρ' w w') (k : Fr ρ' ρ'' w' w'') : Fr ρ ρ'' w w'' :=
  ⟨k.os.trans h.os, k.tape.trans h.tape, k.output.trans h.output, Nat.le_trans h.size k.size, fun g hg => (k.keep g (h.imm hg)).trans (h.keep g hg), fun g hg => k.im g (h.imm hg)⟩

theorem Fr.drew {ρ ρ' : Nat → Place} {w w' : World} (h : Fr ρ ρ' w.drew w') : Fr ρ ρ' w w' := ⟨h.os, h.tape, h.output, h.size, h.keep, h.im⟩

theorem World.heap_drew' (w : World) : w.drew.heap = w.heap := rfl

section
variable {ρ ρ' : Nat → Place} {w w' : World}

theorem Mono.of_heap {I : Nat → Prop} (h : w'.heap = w.heap) : Mono I ρ ρ w w' :=
  ⟨fun _ _ _ => rfl, fun g hg => ⟨⟨by rw [h]; exact hg.1, hg.2⟩, by rw [h]⟩, fun b g cur e _ _ hc => ⟨cur, by rw [h]; exact hc, rfl⟩⟩

theorem slotR_mono {I : Nat → Prop} (m : Mono I ρ ρ' w w') {g : Nat} (hg : w'.heap[g]? = w.heap[g]?) : ∀ (sl : Slot), (∀ b ∈ sl.ids, I b) → slotR X ρ w g sl → slotR X ρ' w' g sl
  | .cells cs, hi, h => by
    obtain ⟨cur, e, h1, h2⟩ := h
    exact ⟨cur, e, hg.trans h1, VRs_mono m _ _ hi h2⟩
  | .map es, hi, h => by
    obtain ⟨ents, h1, h2, h3, h4⟩ := h
    refine ⟨ents, hg.trans h1, VRs_mono m _ _ (fun b hb => hi b ?_) h2, VRs_mono m _ _ (fun b hb => hi b ?_) h3, h4⟩
    · exact List.mem_append.2 (.inl hb)
    · exact List.mem_append.2 (.inr hb)

/-- One step of the heap: one block is new or written, others stay or are given up. -/
theorem HRel.step {I : Nat → Prop} {H H' : Nat → Option Slot} (h : HRel X ρ w H) (hsz : w.heap.size ≤ w'.heap.size) {b0 : Nat} (hx : ∀ g, ρ' b0 = .row g → ¬ X g) (m : Mono I ρ ρ' w w') (hI : ∀ b sl, H b = some sl → ∀ c ∈ sl.ids, I c)
    (old : ∀ b, b ≠ b0 → (ρ' b = .none ∧ H' b = none) ∨ (ρ' b = ρ b ∧ H' b = H b ∧ ∀ g, ρ b = .row g → w'.heap[g]? = w.heap[g]?))
    (new : (ρ' b0 = .none ∧ H' b0 = none) ∨ (ρ' b0 = .nil ∧ H' b0 = some (.cells [])) ∨ (∃ g sl, ρ' b0 = .row g ∧ H' b0 = some sl ∧ slotR X ρ' w' g sl ∧ ∀ b, b ≠ b0 → ρ' b ≠ .row g)) : HRel X ρ' w' H' := by
  refine ⟨fun b g hb => ?_, fun b hb => ?_, fun b sl hb => ?_, fun b b' g h1 h2 => ?_, fun b g hb => ?_, fun g hg => Nat.lt_of_lt_of_le (h.avoid g hg) hsz, fun g d hg => VR_mono m _ _ (fun b hb => by simp [D.ids] at hb) (h.globs g d hg)⟩
  · by_cases e : b = b0
    · subst e
      rcases new with ⟨h1, _⟩ | ⟨h1, _⟩ | ⟨g', sl, h1, h2, h3, _⟩
      · rw [h1] at hb; cases hb
      · rw [h1] at hb; cases hb
      · rw [h1] at hb; cases hb; exact ⟨sl, h2, h3⟩
    · rcases old b e with ⟨h1, _⟩ | ⟨h1, h2, h3⟩
      · rw [h1] at hb; cases hb
      · rw [h1] at hb
        obtain ⟨sl, h4, h5⟩ := h.row b g hb
        exact ⟨sl, h2.trans h4, slotR_mono m (h3 g hb) sl (hI b sl h4) h5⟩
  · by_cases e : b = b0
    · subst e
      rcases new with ⟨h1, _⟩ | ⟨_, h2⟩ | ⟨g', sl, h1, _⟩
      · rw [h1] at hb; cases hb
      · exact h2
      · rw [h1] at hb; cases hb
    · rcases old b e with ⟨h1, _⟩ | ⟨h1, h2, _⟩
      · rw [h1] at hb; cases hb
      · rw [h2]; exact h.nil b (h1 ▸ hb)
  · by_cases e : b = b0
    · subst e
      rcases new with ⟨_, h2⟩ | ⟨h1, _⟩ | ⟨g', sl', h1, _⟩
      · rw [h2] at hb; cases hb
      · rw [h1]; simp
      · rw [h1]; simp
    · rcases old b e with ⟨_, h2⟩ | ⟨h1, h2, _⟩
      · rw [h2] at hb; cases hb
      · rw [h1]; exact h.live b sl (h2 ▸ hb)
  · have key : ∀ c, c ≠ b0 → ρ' c = .row g → ρ c = .row g := fun c hc h3 => by
      rcases old c hc with ⟨h4, _⟩ | ⟨h4, _⟩
      · rw [h4] at h3; cases h3
      · rw [← h4]; exact h3
    by_cases e : b = b0
    · by_cases e' : b' = b0
      · rw [e, e']
      · subst e
        rcases new with ⟨h3, _⟩ | ⟨h3, _⟩ | ⟨g', sl', h3, _, _, h4⟩
        · rw [h3] at h1; cases h1
        · rw [h3] at h1; cases h1
        · rw [h3] at h1; cases h1; exact absurd h2 (h4 b' e')
    · by_cases e' : b' = b0
      · subst e'
        rcases new with ⟨h3, _⟩ | ⟨h3, _⟩ | ⟨g', sl', h3, _, _, h4⟩
        · rw [h3] at h2; cases h2
        · rw [h3] at h2; cases h2
        · rw [h3] at h2; cases h2; exact absurd h1 (h4 b e)
      · exact h.inj b b' g (key b e h1) (key b' e' h2)
  · by_cases e : b = b0
    · subst e; exact hx g hb
    · rcases old b e with ⟨h1, _⟩ | ⟨h1, _⟩
      · rw [h1] at hb; cases hb
      · exact h.clear b g (h1 ▸ hb)

def putT (T : Nat → D) (d : Option Nat) (v : D) : Nat → D := match d with | some t => upd T t v | none => T

/-- A temporary is set, the world and the numbering move on. -/
theorem Rel.put {N : Nat} {U U' : Nat → Prop} {a : Act} {s : St} (h : Rel X N U ρ a w s) (m : Mono U ρ ρ' w w') (hU : ∀ b, U b → U' b) {H' : Nat → Option Slot} (hH : HRel X ρ' w' H')
    (hids : ∀ b sl, H' b = some sl → ∀ c ∈ sl.ids, U' c) (hdom : ∀ b, ρ' b ≠ .none → U' b) (d : Option Nat) (hd : ∀ t, d = some t → t < N) (v : D) (u : Value) (hv : VR X ρ' w' v u) (hvi : ∀ b ∈ v.ids, U' b) :
    Rel X N U' ρ' (a.put d u) w' ⟨putT s.T d v, H'⟩ := by
  cases d with
  | none => exact ⟨h.size, fun t => VR_mono m _ _ (h.tids t) (h.tmp t), fun t b hb => hU b (h.tids t b hb), hids, hdom, hH, h.defers⟩
  | some t0 =>
    have ht := hd t0 rfl
    refine ⟨by simp [Act.put, h.size], fun t => ?_, fun t b hb => ?_, hids, hdom, hH, h.defers⟩
    · by_cases e : t = t0
      · subst e
        simp only [Act.put, putT, upd_same]
        rw [show (a.tmps.setIfInBounds t u).getD t undef = u by simp [h.size, ht]]
        exact hv
      · simp only [Act.put, putT, upd_ne _ _ e]
        rw [show (a.tmps.setIfInBounds t0 u).getD t undef = a.tmps.getD t undef by simp [Array.getElem?_setIfInBounds_ne (Ne.symm e)]]
        exact VR_mono m _ _ (h.tids t) (h.tmp t)
    · by_cases e : t = t0
      · subst e; simp only [putT, upd_same] at hb; exact hvi b hb
      · simp only [putT, upd_ne _ _ e] at hb; exact hU b (h.tids t b hb)

end

/-- The value of an operand. -/
def ofV1 : Value → D
  | .bool b => .bool b
  | .int k n => .int k n
  | .string s => .str s.data.toList
  | .pointer none => .nptr
  | .slice none 0 0 => .nsl
  | .map none => .nmp
  | .nilIface => .ifc false
  | _ => .undef

def ofV : Value → D
  | .agg cs => .agg (cs.toList.map ofV1)
  | .tuple cs => if cs.size = 0 then .tup [] else .undef
  | v => ofV1 v

def evalD (T : Nat → D) : Operand → D
  | .tmp t => T t
  | .const v => ofV v
  | .global g => match GD g with
    | some d => .iptr d
    | none => .undef
  | .func f => .fn f []

section
variable {ρ : Nat → Place} {w : World}

theorem VR_ofV1 (v : Value) : VR X ρ w (ofV1 v) v := by
  unfold ofV1
  split <;> simp [VR]

theorem VRs_ofV1 : ∀ (l : List Value), VRs X ρ w (l.map ofV1) l
  | [] => by simp [VRs]
  | v :: l => by simp only [List.map_cons, VRs]; exact ⟨v, l, rfl, VR_ofV1 v, VRs_ofV1 l⟩

theorem VR_ofV (v : Value) : VR X ρ w (ofV v) v := by
  unfold ofV
  split
  · rename_i cs; simp only [VR]; exact ⟨cs.toList, by simp, VRs_ofV1 _⟩
  · rename_i cs
    split
    · rename_i h
      simp only [VR, VRs]
      exact ⟨[], by rw [Array.eq_empty_of_size_eq_zero h], rfl⟩
    · simp [VR]
  · exact VR_ofV1 v

theorem ids_ofV1 (v : Value) : (ofV1 v).ids = [] := by unfold ofV1; split <;> simp [D.ids]

theorem ids_ofV (v : Value) : (ofV v).ids = [] := by
  unfold ofV
  split
  · simp only [D.ids]; exact idsL_nil_of (by simp only [List.mem_map]; rintro d ⟨v, _, rfl⟩; exact ids_ofV1 v)
  · split <;> simp [D.ids, D.idsL]
  · exact ids_ofV1 v

theorem Rel.eval {N : Nat} {U : Nat → Prop} {a : Act} {s : St} (h : Rel X N U ρ a w s) (x : Operand) : VR X ρ w (evalD s.T x) (a.eval x) := by
  cases x with
  | tmp t => exact h.tmp t
  | const v => exact VR_ofV v
  | global g =>
    simp only [evalD]
    split
    · rename_i d hd; exact h.heap.globs g d hd
    · simp [VR]
  | func f => simp only [evalD, VR, Act.eval, VRs]; exact ⟨[], rfl, rfl⟩

theorem Rel.eids {N : Nat} {U : Nat → Prop} {a : Act} {s : St} (h : Rel X N U ρ a w s) (x : Operand) : ∀ b ∈ (evalD s.T x).ids, U b := by
  cases x with
  | tmp t => exact h.tids t
  | const v => simp [evalD, ids_ofV]
  | global g =>
    simp only [evalD]
    split <;> simp [D.ids]
  | func f => simp [evalD, D.ids, D.idsL]
end

end Go.Tw
end

section
namespace Go.Tw
variable {X : Nat → Prop}

/-- What the twin knows of a type. -/
structure TInfo where
  size : Nat
  bytes : Nat
  zero : D
  desc : TypeDesc
  eqok : Bool := false

def TInfo.isAgg (i : TInfo) : Bool := match i.desc with | .struct _ | .array _ _ => true | _ => false

abbrev TT := TypeId → Option TInfo

structure TIok (P : Program) (TI : TT) : Prop where
  ok : ∀ t i, TI t = some i → P.underlying t = some i.desc ∧ ∃ info z, P.info? t = some info ∧ info.size = i.size ∧ info.bytes = i.bytes ∧ info.zero = some z ∧ ofV z = i.zero ∧ z.cells.size = i.size ∧
    (i.eqok = true → P.stoodInHeld t = false ∧ P.eqGuardType P.depth t = false)

def partD (i : TInfo) (cs : List D) (o : Nat) : Option D :=
  if i.isAgg then (if o + i.size ≤ cs.length then some (.agg ((cs.drop o).take i.size)) else none) else cs[o]?

section
variable {ρ : Nat → Place} {w : World}

theorem scal_one {d : D} {v : Value} (h : VR X ρ w d v) (hs : d.scal = true) : v.oneCell' = true := by
  cases d <;> simp only [D.scal, Bool.false_eq_true] at hs <;> simp only [VR] at h
  all_goals first
    | exact h.1
    | (subst h; rfl)
    | (obtain ⟨_, _, _, rfl, _⟩ := h; rfl)
    | (obtain ⟨_, rfl⟩ := h; rfl)
    | (obtain ⟨_, _, _, _, rfl, _⟩ := h; rfl)
    | (obtain ⟨_, rfl, _⟩ := h; rfl)
    | (split at h
       · obtain ⟨_, _, rfl⟩ := h; rfl
       · subst h; rfl)

theorem one_cells {v : Value} (h : v.oneCell' = true) : v.cells = #[v] := by cases v <;> simp_all [Value.oneCell', Value.cells]

theorem cells_VRs {d : D} {v : Value} {cs : List D} (h : VR X ρ w d v) (hc : d.cells? = some cs) : VRs X ρ w cs v.cells.toList := by
  cases hs : d.scal with
  | true =>
    have h1 := one_cells (scal_one h hs)
    have hcs : cs = [d] := by cases d <;> simp_all [D.cells?, D.scal]
    subst hcs
    rw [h1]
    simp only [VRs]
    exact ⟨v, [], rfl, h, rfl⟩
  | false =>
    cases d <;> simp only [D.scal, Bool.true_eq_false] at hs <;> simp only [D.cells?, reduceCtorEq, Option.some.injEq] at hc
    subst hc
    simp only [VR] at h
    obtain ⟨vs, rfl, h2⟩ := h
    simpa [Value.cells] using h2

theorem cells_size {d : D} {v : Value} {cs : List D} (h : VR X ρ w d v) (hc : d.cells? = some cs) : v.cells.size = cs.length := by
  have := VRs_length (cells_VRs h hc); simpa using this.symm

theorem ids_cells {d : D} {cs : List D} (hc : d.cells? = some cs) : D.idsL cs = D.ids d := by
  cases d <;> simp only [D.cells?, reduceCtorEq, Option.some.injEq] at hc <;> subst hc <;> simp [D.idsL, D.ids]

theorem idsL_append (a b : List D) : D.idsL (a ++ b) = D.idsL a ++ D.idsL b := by
  induction a with
  | nil => simp [D.idsL]
  | cons d ds ih => simp [D.idsL, ih]

theorem idsL_take {b : Nat} {cs : List D} {n : Nat} (h : b ∈ D.idsL (cs.take n)) : b ∈ D.idsL cs := by
  obtain ⟨d, h1, h2⟩ := mem_idsL h
  exact idsL_mem (List.mem_of_mem_take h1) h2

theorem idsL_drop {b : Nat} {cs : List D} {n : Nat} (h : b ∈ D.idsL (cs.drop n)) : b ∈ D.idsL cs := by
  obtain ⟨d, h1, h2⟩ := mem_idsL h
  exact idsL_mem (List.mem_of_mem_drop h1) h2

theorem ids_part {i : TInfo} {cs : List D} {o : Nat} {d : D} (h : partD i cs o = some d) : ∀ b ∈ d.ids, b ∈ D.idsL cs := by
  intro b hb
  unfold partD at h
  split at h
  · split at h
    · cases h; simp only [D.ids] at hb; exact idsL_drop (idsL_take hb)
    · cases h
  · exact idsL_mem (List.mem_of_getElem? h) hb
end

section
variable {P : Program} {TI : TT}

theorem run_und (hT : TIok P TI) {t : TypeId} {i : TInfo} (h : TI t = some i) (w : World) : (underlying t).run P w = .ok i.desc w := run_underlying (hT.ok t i h).1 w

theorem run_size (hT : TIok P TI) {t : TypeId} {i : TInfo} (h : TI t = some i) (w : World) : (sizeOf t).run P w = .ok i.size w := by
  obtain ⟨_, info, z, h1, h2, _⟩ := hT.ok t i h
  simp [sizeOf, typeInfo, h1, h2]

theorem run_agg (hT : TIok P TI) {t : TypeId} {i : TInfo} (h : TI t = some i) (w : World) : (isAgg t).run P w = .ok i.isAgg w := by
  simp only [isAgg, Sem.run_bind, run_und hT h, Result.andThen_ok, TInfo.isAgg]
  cases i.desc <;> simp

theorem run_zero (hT : TIok P TI) {t : TypeId} {i : TInfo} (h : TI t = some i) (w : World) : ∃ z, (zeroValue t).run P w = .ok z w ∧ ofV z = i.zero ∧ z.cells.size = i.size := by
  obtain ⟨_, info, z, h1, _, _, h4, h5, h6, _⟩ := hT.ok t i h
  exact ⟨z, by simp [zeroValue, typeInfo, h1, h4], h5, h6⟩

theorem run_info (hT : TIok P TI) {t : TypeId} {i : TInfo} (h : TI t = some i) (w : World) : ∃ info, (typeInfo t).run P w = .ok info w ∧ info.bytes = i.bytes ∧ info.size = i.size := by
  obtain ⟨_, info, z, h1, h2, h3, _⟩ := hT.ok t i h
  exact ⟨info, by simp [typeInfo, h1], h3, h2⟩

theorem run_part (hT : TIok P TI) {t : TypeId} {i : TInfo} (h : TI t = some i) {ρ : Nat → Place} {w : World} {cs : List D} {vs : List Value} (hv : VRs X ρ w cs vs) {o : Nat} {d : D} (hp : partD i cs o = some d) :
    ∃ u, (part t vs.toArray o).run P w = .ok u w ∧ VR X ρ w d u := by
  simp only [part, Sem.run_bind, run_agg hT h, Result.andThen_ok]
  unfold partD at hp
  split at hp
  · rename_i ha
    split at hp
    · rename_i hl
      cases hp
      refine ⟨.agg (vs.toArray.extract o (o + i.size)), ?_, ?_⟩
      · simp [ha, run_size hT h]
      · simp only [VR]
        refine ⟨(vs.drop o).take i.size, ?_, VRs_take (VRs_drop hv o) i.size⟩
        congr 1
        apply Array.ext'
        simp [List.extract_eq_take_drop]
    · cases hp
  · rename_i ha
    obtain ⟨u, h1, h2⟩ := VRs_get hv o d hp
    refine ⟨u, ?_, h2⟩
    simp [ha, h1]
end

/-! ## Operations that touch no memory -/

def eqD : D → D → Option Bool
  | .int k a, .int k' b => if k = k' then some (a == b) else none
  | .str a, .str b => some (a == b)
  | .bool a, .bool b => some (a == b)
  | _, _ => none

def scalDesc : TypeDesc → Bool
  | .int _ | .string | .bool => true
  | _ => false

def i64max : Nat := 9223372036854775807

/-- Equality of two structs, field by field. -/
def eqF (TI : TT) (xs ys : List D) : List Field → Option Bool
  | [] => some true
  | f :: fs =>
    if f.name = "_" then none else
    match TI f.type, xs[f.offset]?, ys[f.offset]?, eqF TI xs ys fs with
    | some i, some a, some b, some r =>
      match i.desc, a, b with
      | .int _, .int k m, .int k' n => if k = k' then some (m == n && r) else none
      | .string, .str m, .str n => some (m == n && r)
      | .bool, .bool m, .bool n => some (m == n && r)
      | _, _, _ => none
    | _, _, _, _ => none

/-- What an operator of two operands gives. -/
def binV (TI : TT) (op : BinOp) (ty : TypeId) (yo : Operand) : D → D → D → Prop
  | .int k a, .int k' b, v =>
    match op with
    | .shl => 0 ≤ b ∧ v = .int k (k.wrap (a * 2 ^ (min b.toNat k.bits)))
    | .shr => 0 ≤ b ∧ v = .int k (a.fdiv (2 ^ (min b.toNat k.bits)))
    | .add => k = k' ∧ v = .int k (k.wrap (a + b))
    | .sub => k = k' ∧ v = .int k (k.wrap (a - b))
    | .mul => k = k' ∧ v = .int k (k.wrap (a * b))
    | .quo => k = k' ∧ b ≠ 0 ∧ v = .int k (k.wrap (a.tdiv b))
    | .rem => k = k' ∧ b ≠ 0 ∧ v = .int k (a.tmod b)
    | .and => k = k' ∧ v = .int k (k.wrap (BitVec.ofInt k.bits a &&& BitVec.ofInt k.bits b).toNat)
    | .or => k = k' ∧ v = .int k (k.wrap (BitVec.ofInt k.bits a ||| BitVec.ofInt k.bits b).toNat)
    | .xor => k = k' ∧ v = .int k (k.wrap (BitVec.ofInt k.bits a ^^^ BitVec.ofInt k.bits b).toNat)
    | .andNot => k = k' ∧ v = .int k (k.wrap (BitVec.ofInt k.bits a &&& ~~~(BitVec.ofInt k.bits b)).toNat)
    | .eql => k = k' ∧ v = .bool (a == b)
    | .neq => k = k' ∧ v = .bool (a != b)
    | .lss => k = k' ∧ v = .bool (decide (a < b))
    | .leq => k = k' ∧ v = .bool (decide (a ≤ b))
    | .gtr => k = k' ∧ v = .bool (decide (a > b))
    | .geq => k = k' ∧ v = .bool (decide (a ≥ b))
  | .str a, .str b, v =>
    match op with
    | .add => a.length + b.length ≤ i64max ∧ v = .str (a ++ b)
    | .eql => v = .bool (a == b)
    | .neq => v = .bool (!(a == b))
    | _ => False
  | .bool a, .bool b, v => (∃ i, TI ty = some i ∧ i.desc = .bool) ∧
    match op with
    | .eql => v = .bool (a == b)
    | .neq => v = .bool (!(a == b))
    | _ => False
  | .ifc a, .ifc false, v => (∃ i ms, TI ty = some i ∧ i.desc = .interface ms) ∧ (∃ c, yo = .const c) ∧
    match op with
    | .eql => v = .bool (!a)
    | .neq => v = .bool a
    | _ => False
  | .agg a, .agg b, v => (∃ i fs r, TI ty = some i ∧ i.desc = .struct fs ∧ i.eqok = true ∧ eqF TI a b fs.toList = some r ∧
    match op with
    | .eql => v = .bool r
    | .neq => v = .bool (!r)
    | _ => False)
  | _, _, _ => False

theorem ba_toList (l : List UInt8) : (ByteArray.mk l.toArray).toList = l := by
  rw [ByteArray.toList_eq]

end Go.Tw
end

section
namespace Go.Tw
variable {X : Nat → Prop}

/-! ## Value operations: what they give, and that the model gives it -/

theorem ok_int {ρ : Nat → Place} {w : World} {r : Result Value} {k : IntKind} {n : Int} (h : r = .ok (.int k n) w) : ∃ u, r = .ok u w ∧ VR X ρ w (.int k n) u ∧ (D.int k n).ids = [] := ⟨_, h, by simp only [VR], by simp [D.ids]⟩
theorem ok_bool {ρ : Nat → Place} {w : World} {r : Result Value} {b : Bool} (h : r = .ok (.bool b) w) : ∃ u, r = .ok u w ∧ VR X ρ w (.bool b) u ∧ (D.bool b).ids = [] := ⟨_, h, by simp only [VR], by simp [D.ids]⟩

theorem run_ifnil (P : Program) (w : World) (d : Nat) (t : TypeId) (ms : Array (String × TypeId)) (hu : P.underlying t = some (.interface ms)) (b : Bool) (a : Value) (ha : if b then ∃ t u, a = .iface t u else a = .nilIface) :
    (Op.equalIn (d + 1) t a .nilIface).run P w = .ok (!b) w := by
  cases b with
  | false => simp at ha; subst ha; simp [Op.equalIn, run_underlying hu]
  | true => simp at ha; obtain ⟨t', u, rfl⟩ := ha; simp [Op.equalIn, run_underlying hu]

theorem run_ifop (P : Program) (w : World) (t : TypeId) (ms : Array (String × TypeId)) (hu : P.underlying t = some (.interface ms)) (b : Bool) (a : Value) (ha : if b then ∃ t u, a = .iface t u else a = .nilIface) :
    (binOp .eql t a .nilIface).run P w = .ok (.bool (!b)) w ∧ (binOp .neq t a .nilIface).run P w = .ok (.bool b) w := by
  have h := run_ifnil P w 9999 t ms hu b a ha
  have h' : (Op.equal t a .nilIface).run P w = .ok (!b) w := h
  cases b with
  | false => simp at ha; subst ha; exact ⟨by simp [binOp, h'], by simp [binOp, h']⟩
  | true => simp at ha; obtain ⟨t', u, rfl⟩ := ha; exact ⟨by simp [binOp, h'], by simp [binOp, h']⟩

theorem eqF_sound {P : Program} {TI : TT} (hT : TIok P TI) {ρ : Nat → Place} {w : World} (d : Nat) {xs ys : List D} {us vs : List Value} (hx : VRs X ρ w xs us) (hy : VRs X ρ w ys vs) : ∀ (fs : List Field) (r : Bool), eqF TI xs ys fs = some r →
    (Op.eqFields (d + 1) us.toArray vs.toArray fs).run P w = .ok r w
  | [], r, h => by simp [eqF] at h; subst h; simp [Op.eqFields]
  | f :: fs, r, h => by
    simp only [eqF] at h
    split at h
    · cases h
    · rename_i hn
      split at h
      · rename_i i a b r' h1 h2 h3 h4
        have ih := eqF_sound hT d hx hy fs r' h4
        obtain ⟨u, h5, h6⟩ := VRs_get hx _ _ h2
        obtain ⟨v, h7, h8⟩ := VRs_get hy _ _ h3
        have hu := (hT.ok _ _ h1).1
        have hagg : i.isAgg = false := by
          unfold TInfo.isAgg
          split at h <;> first | (rename_i hd; rw [hd]) | (simp at h)
        have pa : (part f.type us.toArray f.offset).run P w = .ok u w := by simp [part, run_agg hT h1, hagg, h5]
        have pb : (part f.type vs.toArray f.offset).run P w = .ok v w := by simp [part, run_agg hT h1, hagg, h7]
        simp only [Op.eqFields, if_pos hn, Sem.run_bind, pa, pb, Result.andThen_ok]
        split at h
        · rename_i hd
          simp only [VR] at h6 h8
          subst h6 h8
          split at h
          · rename_i hk
            subst hk
            cases h
            rw [run_equalIn_int w d f.type _ _ _ _ (hd ▸ hu)]
            simp only [Result.andThen_ok]
            split <;> simp_all
          · cases h
        · rename_i hd
          simp only [VR] at h6 h8
          subst h6 h8
          cases h
          rw [run_equalIn_string w d f.type _ _ (hd ▸ hu)]
          simp only [Result.andThen_ok, ba_toList]
          split <;> simp_all
        · rename_i hd
          simp only [VR] at h6 h8
          subst h6 h8
          cases h
          rw [run_equalIn_bool' w d f.type _ _ (hd ▸ hu)]
          simp only [Result.andThen_ok]
          split <;> simp_all
        · cases h
      · cases h

section
variable {P : Program} {TI : TT} {ρ : Nat → Place} {w : World}

theorem binV_sound (hT : TIok P TI) {op : BinOp} {ty : TypeId} {xo yo : Operand} {x y v : D} {a b : Value} (hx : VR X ρ w x a) (hy : VR X ρ w y b) (h : binV TI op ty yo x y v) :
    ∃ u, (do eqGuard op ty xo yo a b; binOp op ty a b : Sem Value).run P w = .ok u w ∧ VR X ρ w v u ∧ v.ids = [] := by
  cases x <;> cases y <;> simp only [binV] at h <;> simp only [VR] at hx hy
  case int.int k m k' n =>
    subst hx hy
    have g : ∀ u, (binOp op ty (.int k m) (.int k' n)).run P w = .ok u w → (do eqGuard op ty xo yo (.int k m) (.int k' n); binOp op ty (.int k m) (.int k' n) : Sem Value).run P w = .ok u w := by
      intro u hu
      cases op <;> simp [eqGuard, hu]
    cases op <;> simp only at h
    case shl => obtain ⟨hn, rfl⟩ := h; exact ok_int (g _ (by simp [binOp, Op.shift, Int.not_lt.2 hn]))
    case shr => obtain ⟨hn, rfl⟩ := h; exact ok_int (g _ (by simp [binOp, Op.shift, Int.not_lt.2 hn]))
    case quo => obtain ⟨rfl, hn, rfl⟩ := h; exact ok_int (g _ (by simp [binOp, Op.intDiv, hn]))
    case rem => obtain ⟨rfl, hn, rfl⟩ := h; exact ok_int (g _ (by simp [binOp, Op.intDiv, hn]))
    all_goals
      obtain ⟨rfl, rfl⟩ := h
      first
        | exact ok_int (g _ (by simp [binOp, Op.intArith, Op.intBits]))
        | exact ok_bool (g _ (by simp [binOp, Op.intCmp]))
  case str.str m n =>
    subst hx hy
    cases op <;> simp only at h
    case add =>
      obtain ⟨hl, rfl⟩ := h
      refine ⟨.string ⟨(m ++ n).toArray⟩, ?_, by simp only [VR], by simp [D.ids]⟩
      have h1 : ¬ (((ByteArray.mk m.toArray).size + (ByteArray.mk n.toArray).size : Nat) : Int) > IntKind.i64.max := by
        have : IntKind.i64.max = 9223372036854775807 := by decide
        rw [this]; simp only [i64max] at hl; simp [ByteArray.size]; omega
      have h2 : (ByteArray.mk m.toArray) ++ (ByteArray.mk n.toArray) = ByteArray.mk (m ++ n).toArray := by
        apply ByteArray.ext; simp
      simp [eqGuard, binOp, Op.stringOp, h2]
      simp at h1
      omega
    case eql => subst h; exact ⟨.bool (m == n), by simp [eqGuard, binOp, Op.stringOp], by simp only [VR], by simp [D.ids]⟩
    case neq => subst h; exact ⟨.bool (!(m == n)), by simp [eqGuard, binOp, Op.stringOp], by simp only [VR], by simp [D.ids]⟩
  case bool.bool m n =>
    subst hx hy
    obtain ⟨⟨i, hi, hd⟩, h⟩ := h
    have hu : P.underlying ty = some .bool := hd ▸ (hT.ok ty i hi).1
    cases op <;> simp only at h <;> subst h
    · exact ⟨.bool (m == n), by simp [eqGuard, run_eql_bool w ty m n hu], by simp only [VR], by simp [D.ids]⟩
    · exact ⟨.bool (!(m == n)), by simp [eqGuard, run_neq_bool w ty m n hu], by simp only [VR], by simp [D.ids]⟩
  case ifc.ifc m n =>
    cases n <;> simp only at h
    obtain ⟨⟨i, ms, hi, hd⟩, ⟨c, hc⟩, h⟩ := h
    have hu : P.underlying ty = some (.interface ms) := hd ▸ (hT.ok ty i hi).1
    have hb : b = .nilIface := by simpa using hy
    subst hb
    obtain ⟨h1, h2⟩ := run_ifop P w ty ms hu m a hx
    have hg : ∀ op, (eqGuard op ty xo yo a .nilIface).run P w = .ok () w := by
      intro op
      subst hc
      cases m with
      | false => simp at hx; subst hx; cases op <;> simp [eqGuard]
      | true => simp at hx; obtain ⟨t, u, rfl⟩ := hx; cases op <;> simp [eqGuard]
    cases op <;> simp only at h <;> subst h
    · exact ok_bool (by simp [hg, h1])
    · exact ok_bool (by simp [hg, h2])
  case agg.agg m n =>
    obtain ⟨i, fs, r, h1, h2, h3, h4, h⟩ := h
    obtain ⟨us, rfl, hx⟩ := hx
    obtain ⟨vs, rfl, hy⟩ := hy
    obtain ⟨hu, info, z, _, _, _, _, _, _, h9⟩ := hT.ok _ _ h1
    obtain ⟨h10, h11⟩ := h9 h3
    rw [h2] at hu
    have hf : P.fieldsOf ty = fs := by simp [Program.fieldsOf, hu]
    have he := run_equalIn_struct (P := P) w 9999 ty us.toArray vs.toArray (by rw [hf]; exact hu) h10
    rw [hf, eqF_sound hT 9998 hx hy fs.toList r h4] at he
    have hg := run_eqGuard_agg (P := P) w op ty xo yo us.toArray vs.toArray h11
    cases op <;> simp only at h <;> subst h
    · exact ok_bool (by simp only [Sem.run_bind, hg, Result.andThen_ok, run_eql_struct, he])
    · exact ok_bool (by simp only [Sem.run_bind, hg, Result.andThen_ok, run_neq_struct, he])
end

end Go.Tw
end

section
namespace Go.Tw
variable {X : Nat → Prop}

/-! ## Reading and writing cells -/

theorem add_addr (g o j : Nat) : (⟨g, o, none⟩ : Addr).add j = ⟨g, o + j, none⟩ := by
  unfold Addr.add; split <;> simp_all

theorem cell_row {w : World} {g : Nat} {cur : Array Value} {e : TypeId} {fr : Nat × Nat} (h : w.heap[g]? = some (.cells cur e fr)) (o : Nat) : w.cell? ⟨g, o, none⟩ = cur[o]? := cell_of_row w g o cur e fr h

section
variable {ρ : Nat → Place} {w : World}

theorem take_get {α : Type} {l : List α} {n i : Nat} {x : α} (h : (l.take n)[i]? = some x) : l[i]? = some x := by
  rw [List.getElem?_take] at h; split at h <;> simp_all

/-- A cell of a live block. -/
theorem slot_cell {g : Nat} {cs : List D} (h : slotR X ρ w g (.cells cs)) {i : Nat} {d : D} (hd : cs[i]? = some d) : ∃ v, w.cell? ⟨g, i, none⟩ = some v ∧ VR X ρ w d v := by
  obtain ⟨cur, e, h1, h2⟩ := h
  obtain ⟨v, h3, h4⟩ := VRs_get h2 i d hd
  exact ⟨v, by rw [cell_row h1]; simpa using take_get h3, h4⟩

/-- Cells of a live block, in a row. -/
theorem slot_cells {g : Nat} {cs : List D} (h : slotR X ρ w g (.cells cs)) (o n : Nat) (hl : o + n ≤ cs.length) : ∃ vs : List Value, vs.length = n ∧ VRs X ρ w ((cs.drop o).take n) vs ∧ ∀ (j : Nat) (v : Value), vs[j]? = some v → w.cell? ⟨g, o + j, none⟩ = some v := by
  obtain ⟨cur, e, h1, h2⟩ := h
  have hlen := VRs_length h2
  refine ⟨((cur.toList.take cs.length).drop o).take n, ?_, VRs_take (VRs_drop h2 o) n, ?_⟩
  · simp only [List.length_take, List.length_drop] at hlen ⊢
    omega
  · intro j v hv
    rw [cell_row h1]
    have := take_get hv
    rw [List.getElem?_drop] at this
    simpa using take_get this

theorem holds_of {g o : Nat} {vs : List Value} (h : ∀ (j : Nat) (v : Value), vs[j]? = some v → w.cell? ⟨g, o + j, none⟩ = some v) : holds w g o (.agg vs.toArray) := by
  intro j x hx; exact h j x (by simpa [Value.cells] using hx)

theorem run_loadCells_at {P : Program} {g o : Nat} {vs : List Value} (h : ∀ (j : Nat) (v : Value), vs[j]? = some v → w.cell? ⟨g, o + j, none⟩ = some v) : (loadCells ⟨g, o, none⟩ vs.length).run P w = .ok vs.toArray w := by
  refine run_loadCells_list (P := P) w ⟨g, o, none⟩ vs fun j v hv => ?_
  rw [add_addr]; exact h j v hv

end

/-- The shape that a value of a type has. -/
def shapeOK (i : TInfo) (d : D) : Prop := if i.isAgg then ∃ cs, d = .agg cs ∧ cs.length = i.size else d.scal = true

section
variable {P : Program} {TI : TT} {ρ : Nat → Place} {w : World}

theorem run_load_imm (hT : TIok P TI) {t : TypeId} {i : TInfo} (hi : TI t = some i) {d : D} (hs : shapeOK i d) {g o : Nat} {u : Value} (hv : VR X ρ w d u) (hh : holds w g o u) : (loadVar t ⟨g, o, none⟩).run P w = .ok u w := by
  unfold shapeOK at hs
  simp only [loadVar, Sem.run_bind, run_agg hT hi, Result.andThen_ok]
  split at hs
  · rename_i ha
    obtain ⟨cs, rfl, hl⟩ := hs
    simp only [VR] at hv
    obtain ⟨vs, rfl, h2⟩ := hv
    have hlen := VRs_length h2
    have hr := run_loadCells_at (P := P) (w := w) (g := g) (o := o) (vs := vs) (fun j v hj => hh j v (by simpa [Value.cells] using hj))
    simp [ha, run_size hT hi, ← hl, hlen, hr]
  · rename_i ha
    have h1 := one_cells (scal_one hv hs)
    have := hh 0 u (by rw [h1]; simp)
    simp only [Nat.add_zero] at this
    simp [ha, this]

theorem run_load_slot (hT : TIok P TI) {t : TypeId} {i : TInfo} (hi : TI t = some i) {g o : Nat} {cs : List D} (h : slotR X ρ w g (.cells cs)) {d : D} (hp : partD i cs o = some d) : ∃ u, (loadVar t ⟨g, o, none⟩).run P w = .ok u w ∧ VR X ρ w d u := by
  simp only [loadVar, Sem.run_bind, run_agg hT hi, Result.andThen_ok]
  unfold partD at hp
  split at hp
  · rename_i ha
    split at hp
    · rename_i hl
      cases hp
      obtain ⟨vs, h1, h2, h3⟩ := slot_cells h o i.size hl
      have hr := run_loadCells_at (P := P) (w := w) (g := g) (o := o) (vs := vs) h3
      refine ⟨.agg vs.toArray, ?_, ?_⟩
      · simp [ha, run_size hT hi, ← h1, hr]
      · simp only [VR]; exact ⟨vs, rfl, h2⟩
    · cases hp
  · rename_i ha
    obtain ⟨v, h1, h2⟩ := slot_cell h hp
    exact ⟨v, by simp [ha, h1], h2⟩
end

/-! ## Writing -/

theorem setRow_heap' (w : World) (g : Nat) (cur new : Array Value) (e : TypeId) (h : w.heap[g]? = some (.cells cur e (0, 0))) : (w.setRow g new).heap[g]? = some (.cells new e (0, 0)) := setRow_heap w g cur new e _ h

section
variable {P : Program} {ρ : Nat → Place} {w : World}

theorem VRs_scal {cs : List D} {vs : List Value} (h : VRs X ρ w cs vs) (hs : ∀ d ∈ cs, d.scal = true) : ∀ v ∈ vs, v.oneCell' = true := by
  intro v hv
  obtain ⟨i, hi⟩ := List.getElem?_of_mem hv
  have hl := VRs_length h
  have hlt : i < cs.length := by rw [hl]; exact (List.getElem?_eq_some_iff.1 hi).1
  obtain ⟨v', h1, h2⟩ := VRs_get h i cs[i] (by simp [hlt])
  rw [hi] at h1; cases h1
  exact scal_one h2 (hs _ (by simp))
end

end Go.Tw
end

section
namespace Go.Tw
variable {X : Nat → Prop}

/-- The numbers that a heap names are among U. -/
structure WH (U : Nat → Prop) (ρ : Nat → Place) (H : Nat → Option Slot) : Prop where
  ids : ∀ b sl, H b = some sl → ∀ c ∈ sl.ids, U c
  dom : ∀ b, ρ b ≠ .none → U b

/-- What an operation may leave: its value, the world, the numbering. -/
structure Sok (X : Nat → Prop) (U : Nat → Prop) (ρ : Nat → Place) (w : World) (H' : Nat → Option Slot) (nid : Nat) (v : D) (u : Value) (ρ' : Nat → Place) (w' : World) : Prop where
  val : VR X ρ' w' v u
  mono : Mono U ρ ρ' w w'
  heap : HRel X ρ' w' H'
  fr : Fr ρ ρ' w w'
  dom : ∀ b, ρ' b ≠ .none → U b ∨ b = nid

section
variable {U : Nat → Prop} {ρ : Nat → Place} {w w' : World} {H : Nat → Option Slot} {nid : Nat}

theorem not_live (h : HRel X ρ w H) (wh : WH U ρ H) (hn : ¬ U nid) : ρ nid = .none ∧ H nid = none := by
  have h1 : ρ nid = .none := by
    cases hr : ρ nid with
    | none => rfl
    | nil => exact absurd (wh.dom nid (by simp [hr])) hn
    | row g => exact absurd (wh.dom nid (by simp [hr])) hn
  refine ⟨h1, ?_⟩
  cases hh : H nid with
  | none => rfl
  | some sl => exact absurd h1 (h.live nid sl hh)

theorem row_lt (h : HRel X ρ w H) {b g : Nat} (hb : ρ b = .row g) : g < w.heap.size := by
  obtain ⟨sl, _, h2⟩ := h.row b g hb
  cases sl with
  | cells cs => obtain ⟨cur, e, h3, _⟩ := h2; exact (Array.getElem?_eq_some_iff.1 h3).1
  | map es => obtain ⟨ents, h3, _⟩ := h2; exact (Array.getElem?_eq_some_iff.1 h3).1

theorem push_old {α : Type} {a : Array α} {x : α} {i : Nat} (h : i < a.size) : (a.push x)[i]? = a[i]? := by
  rw [Array.getElem?_push, if_neg (by omega)]

theorem push_new {α : Type} {a : Array α} {x : α} : (a.push x)[a.size]? = some x := by simp

/-- A new block. -/
theorem step_new (h : HRel X ρ w H) (wh : WH U ρ H) (hn : ¬ U nid) (o : Obj) (hw : w'.heap = w.heap.push o) (hos : w'.os = w.os) (htp : w'.tape = w.tape) (hou : w'.output = w.output) (sl : Slot)
    (hsl : Mono U ρ (upd ρ nid (.row w.heap.size)) w w' → slotR X (upd ρ nid (.row w.heap.size)) w' w.heap.size sl) :
    Mono U ρ (upd ρ nid (.row w.heap.size)) w w' ∧ HRel X (upd ρ nid (.row w.heap.size)) w' (upd H nid (some sl)) ∧ Fr ρ (upd ρ nid (.row w.heap.size)) w w' := by
  obtain ⟨hr, hH⟩ := not_live h wh hn
  have himm : ∀ g, Im ρ w g → Im (upd ρ nid (.row w.heap.size)) w' g ∧ w'.heap[g]? = w.heap[g]? := fun g hg => by
    refine ⟨⟨by rw [hw]; simp; have := hg.1; omega, fun b => ?_⟩, by rw [hw]; exact push_old hg.1⟩
    by_cases e : b = nid
    · subst e; rw [upd_same]; intro hc; cases hc; exact absurd hg.1 (Nat.lt_irrefl _)
    · rw [upd_ne _ _ e]; exact hg.2 b
  have m : Mono U ρ (upd ρ nid (.row w.heap.size)) w w' := by
    refine ⟨fun b hb _ => ?_, himm, fun b g cur e hb h1 h2 => ⟨cur, ?_, rfl⟩⟩
    · have e1 : b ≠ nid := fun e => hn (e ▸ hb)
      rw [upd_ne _ _ e1]
    · rw [hw, push_old (Array.getElem?_eq_some_iff.1 h2).1]; exact h2
  refine ⟨m, HRel.step h (by rw [hw]; simp) (b0 := nid) (fun g hg hx => by rw [upd_same] at hg; cases hg; exact Nat.lt_irrefl _ (h.avoid _ hx)) m wh.ids (fun b hb => .inr ⟨upd_ne _ _ hb, upd_ne _ _ hb, fun g hg => by rw [hw]; exact push_old (row_lt h hg)⟩)
    (.inr (.inr ⟨w.heap.size, sl, upd_same _ _ _, upd_same _ _ _, hsl m, fun b hb hc => ?_⟩)), ⟨hos, htp, hou, by rw [hw]; simp, fun g hg => (himm g hg).2, fun g hg => (himm g hg).1.2⟩⟩
  rw [upd_ne _ _ hb] at hc
  exact absurd (row_lt h hc) (Nat.lt_irrefl _)

theorem modify_other (g k : Nat) (cs : Array Value) (h : k ≠ g) : (w.setRow g cs).heap[k]? = w.heap[k]? := setRow_other w g k cs h

/-- A live block is written in place. -/
theorem step_set (h : HRel X ρ w H) (wh : WH U ρ H) {b0 g0 : Nat} (hb0 : ρ b0 = .row g0) {cur new : Array Value} {e : TypeId} (hc : w.heap[g0]? = some (.cells cur e (0, 0))) (hs : new.size = cur.size) (sl : Slot)
    (hsl : Mono U ρ ρ w (w.setRow g0 new) → slotR X ρ (w.setRow g0 new) g0 sl) :
    Mono U ρ ρ w (w.setRow g0 new) ∧ HRel X ρ (w.setRow g0 new) (upd H b0 (some sl)) ∧ Fr ρ ρ w (w.setRow g0 new) := by
  have himm : ∀ g, Im ρ w g → Im ρ (w.setRow g0 new) g ∧ (w.setRow g0 new).heap[g]? = w.heap[g]? := fun g hg =>
    ⟨⟨by rw [size_setRow]; exact hg.1, hg.2⟩, modify_other g0 g new (fun e => hg.2 b0 (e ▸ hb0))⟩
  have m : Mono U ρ ρ w (w.setRow g0 new) := by
    refine ⟨fun _ _ _ => rfl, himm, fun b g cur' e' _ h1 h2 => ?_⟩
    by_cases eg : g = g0
    · subst eg
      rw [hc] at h2; cases h2
      exact ⟨new, setRow_heap' w _ _ _ _ hc, hs⟩
    · exact ⟨cur', (modify_other g0 g new eg).trans h2, rfl⟩
  refine ⟨m, HRel.step h (by simp) (b0 := b0) (fun g hg => h.clear _ g hg) m wh.ids (fun b hb => .inr ⟨rfl, upd_ne _ _ hb, fun g hg => modify_other g0 g new (fun eg => hb (h.inj b b0 g hg (eg ▸ hb0)))⟩)
    (.inr (.inr ⟨g0, sl, hb0, upd_same _ _ _, hsl m, fun b hb hc' => hb (h.inj b b0 g0 hc' hb0)⟩)), ⟨rfl, rfl, rfl, by simp, fun g hg => (himm g hg).2, fun g hg => hg.2⟩⟩

/-- A live block gives its place in the world to a new one, which is written. -/
theorem step_take (h : HRel X ρ w H) (wh : WH U ρ H) (hn : ¬ U nid) {b0 g0 : Nat} (hb0 : ρ b0 = .row g0) {new : Array Value} (sl : Slot)
    (hsl : Mono U ρ (upd (upd ρ b0 .none) nid (.row g0)) w (w.setRow g0 new) → slotR X (upd (upd ρ b0 .none) nid (.row g0)) (w.setRow g0 new) g0 sl) :
    Mono U ρ (upd (upd ρ b0 .none) nid (.row g0)) w (w.setRow g0 new) ∧ HRel X (upd (upd ρ b0 .none) nid (.row g0)) (w.setRow g0 new) (upd (upd H b0 none) nid (some sl)) ∧ Fr ρ (upd (upd ρ b0 .none) nid (.row g0)) w (w.setRow g0 new) := by
  obtain ⟨hr, hH⟩ := not_live h wh hn
  have hne : b0 ≠ nid := fun e => by rw [e, hr] at hb0; cases hb0
  have himm : ∀ g, Im ρ w g → Im (upd (upd ρ b0 .none) nid (.row g0)) (w.setRow g0 new) g ∧ (w.setRow g0 new).heap[g]? = w.heap[g]? := fun g hg => by
    refine ⟨⟨by rw [size_setRow]; exact hg.1, fun b => ?_⟩, modify_other g0 g new (fun e => hg.2 b0 (e ▸ hb0))⟩
    by_cases e1 : b = nid
    · subst e1; rw [upd_same]; intro hc'; cases hc'; exact hg.2 b0 hb0
    · rw [upd_ne _ _ e1]
      by_cases e2 : b = b0
      · subst e2; rw [upd_same]; simp
      · rw [upd_ne _ _ e2]; exact hg.2 b
  have m : Mono U ρ (upd (upd ρ b0 .none) nid (.row g0)) w (w.setRow g0 new) := by
    refine ⟨fun b hb hne' => ?_, himm, fun b g cur' e' hb h1 h2 => ?_⟩
    · have e1 : b ≠ nid := fun e => hn (e ▸ hb)
      rw [upd_ne _ _ e1] at hne' ⊢
      by_cases e2 : b = b0
      · subst e2; rw [upd_same] at hne'; exact absurd rfl hne'
      · rw [upd_ne _ _ e2]
    · have e1 : b ≠ nid := fun e => hn (e ▸ hb)
      rw [upd_ne _ _ e1] at h1
      by_cases e2 : b = b0
      · subst e2; rw [upd_same] at h1; cases h1
      · rw [upd_ne _ _ e2] at h1
        exact ⟨cur', (modify_other g0 g new (fun eg => e2 (h.inj b b0 g h1 (eg ▸ hb0)))).trans h2, rfl⟩
  refine ⟨m, HRel.step h (by simp) (b0 := nid) (fun g hg => by rw [upd_same] at hg; cases hg; exact h.clear _ _ hb0) m wh.ids (fun b hb => ?_) (.inr (.inr ⟨g0, sl, upd_same _ _ _, upd_same _ _ _, hsl m, fun b hb hc' => ?_⟩)), ⟨rfl, rfl, rfl, by simp, fun g hg => (himm g hg).2, fun g hg => (himm g hg).1.2⟩⟩
  · by_cases e2 : b = b0
    · subst e2; exact .inl ⟨by rw [upd_ne _ _ hb, upd_same], by rw [upd_ne _ _ hb, upd_same]⟩
    · exact .inr ⟨by rw [upd_ne _ _ hb, upd_ne _ _ e2], by rw [upd_ne _ _ hb, upd_ne _ _ e2], fun g hg => modify_other g0 g new (fun eg => e2 (h.inj b b0 g hg (eg ▸ hb0)))⟩
  · rw [upd_ne _ _ hb] at hc'
    by_cases e2 : b = b0
    · subst e2; rw [upd_same] at hc'; cases hc'
    · rw [upd_ne _ _ e2] at hc'; exact e2 (h.inj b b0 g0 hc' hb0)

/-- A live block is given up, a new one is made. -/
theorem step_swap (h : HRel X ρ w H) (wh : WH U ρ H) (hn : ¬ U nid) {b0 : Nat} (hb0 : U b0) (o : Obj) (hw : w'.heap = w.heap.push o) (hos : w'.os = w.os) (htp : w'.tape = w.tape) (hou : w'.output = w.output) (sl : Slot)
    (hsl : Mono U ρ (upd (upd ρ b0 .none) nid (.row w.heap.size)) w w' → slotR X (upd (upd ρ b0 .none) nid (.row w.heap.size)) w' w.heap.size sl) :
    Mono U ρ (upd (upd ρ b0 .none) nid (.row w.heap.size)) w w' ∧ HRel X (upd (upd ρ b0 .none) nid (.row w.heap.size)) w' (upd (upd H b0 none) nid (some sl)) ∧ Fr ρ (upd (upd ρ b0 .none) nid (.row w.heap.size)) w w' := by
  obtain ⟨hr, hH⟩ := not_live h wh hn
  have hne : b0 ≠ nid := fun e => hn (e ▸ hb0)
  have himm : ∀ g, Im ρ w g → Im (upd (upd ρ b0 .none) nid (.row w.heap.size)) w' g ∧ w'.heap[g]? = w.heap[g]? := fun g hg => by
    refine ⟨⟨by rw [hw]; simp; have := hg.1; omega, fun b => ?_⟩, by rw [hw]; exact push_old hg.1⟩
    by_cases e : b = nid
    · subst e; rw [upd_same]; intro hc; cases hc; exact absurd hg.1 (Nat.lt_irrefl _)
    · rw [upd_ne _ _ e]
      by_cases e2 : b = b0
      · subst e2; rw [upd_same]; simp
      · rw [upd_ne _ _ e2]; exact hg.2 b
  have m : Mono U ρ (upd (upd ρ b0 .none) nid (.row w.heap.size)) w w' := by
    refine ⟨fun b hb hne' => ?_, himm, fun b g cur e hb h1 h2 => ⟨cur, ?_, rfl⟩⟩
    · have e1 : b ≠ nid := fun e => hn (e ▸ hb)
      rw [upd_ne _ _ e1] at hne' ⊢
      by_cases e2 : b = b0
      · subst e2; rw [upd_same] at hne'; exact absurd rfl hne'
      · rw [upd_ne _ _ e2]
    · rw [hw, push_old (Array.getElem?_eq_some_iff.1 h2).1]; exact h2
  refine ⟨m, HRel.step h (by rw [hw]; simp) (b0 := nid) (fun g hg hx => by rw [upd_same] at hg; cases hg; exact Nat.lt_irrefl _ (h.avoid _ hx)) m wh.ids (fun b hb => ?_)
    (.inr (.inr ⟨w.heap.size, sl, upd_same _ _ _, upd_same _ _ _, hsl m, fun b hb hc => ?_⟩)), ⟨hos, htp, hou, by rw [hw]; simp, fun g hg => (himm g hg).2, fun g hg => (himm g hg).1.2⟩⟩
  · by_cases e2 : b = b0
    · subst e2; exact .inl ⟨by rw [upd_ne _ _ hb, upd_same], by rw [upd_ne _ _ hb, upd_same]⟩
    · exact .inr ⟨by rw [upd_ne _ _ hb, upd_ne _ _ e2], by rw [upd_ne _ _ hb, upd_ne _ _ e2], fun g hg => by rw [hw]; exact push_old (row_lt h hg)⟩
  · rw [upd_ne _ _ hb] at hc
    by_cases e2 : b = b0
    · subst e2; rw [upd_same] at hc; cases hc
    · rw [upd_ne _ _ e2] at hc
      exact absurd (row_lt h hc) (Nat.lt_irrefl _)

/-- A block that stands for nil is added; a block may be given up. -/
theorem step_nil (h : HRel X ρ w H) (wh : WH U ρ H) (hn : ¬ U nid) :
    Mono U ρ (upd ρ nid .nil) w w ∧ HRel X (upd ρ nid .nil) w (upd H nid (some (.cells []))) ∧ Fr ρ (upd ρ nid .nil) w w := by
  have himm : ∀ g, Im ρ w g → Im (upd ρ nid .nil) w g ∧ w.heap[g]? = w.heap[g]? := fun g hg => by
    refine ⟨⟨hg.1, fun b => ?_⟩, rfl⟩
    by_cases e : b = nid
    · subst e; rw [upd_same]; simp
    · rw [upd_ne _ _ e]; exact hg.2 b
  have m : Mono U ρ (upd ρ nid .nil) w w := by
    refine ⟨fun b hb _ => ?_, himm, fun b g cur e _ _ h2 => ⟨cur, h2, rfl⟩⟩
    have e1 : b ≠ nid := fun e => hn (e ▸ hb)
    rw [upd_ne _ _ e1]
  exact ⟨m, HRel.step h (Nat.le_refl _) (b0 := nid) (fun g hg => by rw [upd_same] at hg; cases hg) m wh.ids (fun b hb => .inr ⟨upd_ne _ _ hb, upd_ne _ _ hb, fun _ _ => rfl⟩) (.inr (.inl ⟨upd_same _ _ _, upd_same _ _ _⟩)), ⟨rfl, rfl, rfl, Nat.le_refl _, fun _ _ => rfl, fun g hg => (himm g hg).1.2⟩⟩

theorem step_nil_swap (h : HRel X ρ w H) (wh : WH U ρ H) (hn : ¬ U nid) {b0 : Nat} (hb0 : U b0) :
    Mono U ρ (upd (upd ρ b0 .none) nid .nil) w w ∧ HRel X (upd (upd ρ b0 .none) nid .nil) w (upd (upd H b0 none) nid (some (.cells []))) ∧ Fr ρ (upd (upd ρ b0 .none) nid .nil) w w := by
  have himm : ∀ g, Im ρ w g → Im (upd (upd ρ b0 .none) nid .nil) w g ∧ w.heap[g]? = w.heap[g]? := fun g hg => by
    refine ⟨⟨hg.1, fun b => ?_⟩, rfl⟩
    by_cases e : b = nid
    · subst e; rw [upd_same]; simp
    · rw [upd_ne _ _ e]
      by_cases e2 : b = b0
      · subst e2; rw [upd_same]; simp
      · rw [upd_ne _ _ e2]; exact hg.2 b
  have m : Mono U ρ (upd (upd ρ b0 .none) nid .nil) w w := by
    refine ⟨fun b hb hne => ?_, himm, fun b g cur e _ _ h2 => ⟨cur, h2, rfl⟩⟩
    have e1 : b ≠ nid := fun e => hn (e ▸ hb)
    rw [upd_ne _ _ e1] at hne ⊢
    by_cases e2 : b = b0
    · subst e2; rw [upd_same] at hne; exact absurd rfl hne
    · rw [upd_ne _ _ e2]
  refine ⟨m, HRel.step h (Nat.le_refl _) (b0 := nid) (fun g hg => by rw [upd_same] at hg; cases hg) m wh.ids (fun b hb => ?_) (.inr (.inl ⟨upd_same _ _ _, upd_same _ _ _⟩)), ⟨rfl, rfl, rfl, Nat.le_refl _, fun _ _ => rfl, fun g hg => (himm g hg).1.2⟩⟩
  by_cases e2 : b = b0
  · subst e2; exact .inl ⟨by rw [upd_ne _ _ hb, upd_same], by rw [upd_ne _ _ hb, upd_same]⟩
  · exact .inr ⟨by rw [upd_ne _ _ hb, upd_ne _ _ e2], by rw [upd_ne _ _ hb, upd_ne _ _ e2], fun _ _ => rfl⟩

/-- A map's block is written. -/
theorem step_obj (h : HRel X ρ w H) (wh : WH U ρ H) {b0 g0 : Nat} (hb0 : ρ b0 = .row g0) {ents : Array MapEntry} (hc : w.heap[g0]? = some (.map ents ents.size)) (o : Obj) (sl : Slot)
    (hw : w' = { w with heap := w.heap.setIfInBounds g0 o })
    (hsl : Mono U ρ ρ w w' → slotR X ρ w' g0 sl) :
    Mono U ρ ρ w w' ∧ HRel X ρ w' (upd H b0 (some sl)) ∧ Fr ρ ρ w w' := by
  have hoth : ∀ g, g ≠ g0 → w'.heap[g]? = w.heap[g]? := fun g hg => by
    rw [hw]; exact Array.getElem?_setIfInBounds_ne (Ne.symm hg)
  have himm : ∀ g, Im ρ w g → Im ρ w' g ∧ w'.heap[g]? = w.heap[g]? := fun g hg =>
    ⟨⟨by rw [hw]; simp; exact hg.1, hg.2⟩, hoth g (fun e => hg.2 b0 (e ▸ hb0))⟩
  have m : Mono U ρ ρ w w' := by
    refine ⟨fun _ _ _ => rfl, himm, fun b g cur' e' _ h1 h2 => ?_⟩
    by_cases eg : g = g0
    · subst eg; rw [hc] at h2; cases h2
    · exact ⟨cur', (hoth g eg).trans h2, rfl⟩
  refine ⟨m, HRel.step h (by rw [hw]; simp) (b0 := b0) (fun g hg => h.clear _ g hg) m wh.ids (fun b hb => .inr ⟨rfl, upd_ne _ _ hb, fun g hg => hoth g (fun eg => hb (h.inj b b0 g hg (eg ▸ hb0)))⟩)
    (.inr (.inr ⟨g0, sl, hb0, upd_same _ _ _, hsl m, fun b hb hc' => hb (h.inj b b0 g0 hc' hb0)⟩)), ⟨by rw [hw], by rw [hw], by rw [hw], by rw [hw]; simp, fun g hg => (himm g hg).2, fun g hg => hg.2⟩⟩

end

end Go.Tw
end

section
namespace Go.Tw
variable {X : Nat → Prop}

/-! ## append -/

/-- What is appended. -/
def Src (P : Program) (w : World) (size m : Nat) (x : Value) (news : List Value) : Prop :=
  ∀ w' : World, w'.heap = w.heap → (Builtin.lenOf x).run P w' = .ok m w' ∧ (Builtin.firstCells size m x).run P w' = .ok news.toArray w'

def notInt (d : TypeDesc) : Bool := match d with | .int _ => false | _ => true

section
variable {P : Program} {TI : TT} {w : World}

theorem run_app_fits (hT : TIok P TI) {t t2 ty e : TypeId} {it i2 ie : TInfo} (h1 : TI t = some it) (h1d : it.desc = .slice e) (h2 : TI t2 = some i2) (h2d : notInt i2.desc = true) (h3 : TI e = some ie)
    {base : Option Addr} {n cap m : Nat} {x : Value} {news : List Value} (hx : Src P w ie.size m x news) (hroom : n + m ≤ cap) {w' : World}
    (hst : (match base with | some a => (storeCells (a.add (n * ie.size)) news).run P w | none => .ok () w) = .ok () w') :
    (Builtin.append_ #[t, t2] ty #[.slice base n cap, x]).run P w = .ok (.slice base (n + m) cap) w' := by
  obtain ⟨hl, hf⟩ := hx w rfl
  have hu : P.underlying t = some (.slice e) := h1d ▸ (hT.ok _ _ h1).1
  have hu2 := (hT.ok _ _ h2).1
  generalize i2.desc = d2 at h2d hu2
  cases d2 <;> first
    | (simp [notInt] at h2d; done)
    | (cases base with
       | none =>
         simp only at hst
         cases hst
         simp only [Builtin.append_, List.getElem?_toArray, List.getElem?_cons_zero, List.getElem?_cons_succ, Sem.run_bind, run_underlying hu, Result.andThen_ok, run_size hT h3, run_underlying hu2, Sem.run_pure, hl, Bool.false_eq_true, if_false, hroom, if_true, Bool.not_false, hf]
       | some a =>
         simp only at hst
         simp only [Builtin.append_, List.getElem?_toArray, List.getElem?_cons_zero, List.getElem?_cons_succ, Sem.run_bind, run_underlying hu, Result.andThen_ok, run_size hT h3, run_underlying hu2, Sem.run_pure, hl, Bool.false_eq_true, if_false, hroom, if_true, Bool.not_false, hf, hst])

theorem run_app_grows (hT : TIok P TI) {t t2 ty e : TypeId} {it i2 ie : TInfo} (h1 : TI t = some it) (h1d : it.desc = .slice e) (h2 : TI t2 = some i2) (h2d : notInt i2.desc = true) (h3 : TI e = some ie)
    {base : Option Addr} {n cap m : Nat} {x : Value} {news olds : List Value} (hx : Src P w ie.size m x news) (ho : ∀ w' : World, w'.heap = w.heap → (Builtin.firstCells ie.size n (.slice base n cap)).run P w' = .ok olds.toArray w')
    (hroom : cap < n + m) (hb : (n + m) * ie.bytes ≤ 140737488355328) (hpos : 0 < ie.bytes) :
    ∃ (c : Nat) (rest : List Value), n + m ≤ c ∧ c ≤ maxLen ∧ rest.length = (c - (n + m)) * ie.size ∧ (Builtin.append_ #[t, t2] ty #[.slice base n cap, x]).run P w = .ok (.slice (some ⟨w.heap.size, 0, none⟩) (n + m) c) (w.drew.alloc (.cells (olds ++ news ++ rest).toArray e)) := by
  obtain ⟨hl, _⟩ := hx w rfl
  obtain ⟨_, hf⟩ := hx w.drew rfl
  have ho := ho w.drew rfl
  have hu : P.underlying t = some (.slice e) := h1d ▸ (hT.ok _ _ h1).1
  have hu2 := (hT.ok _ _ h2).1
  obtain ⟨_, info, z, hi, hs, hby, hzero, _, hzs, _⟩ := hT.ok _ _ h3
  have hsmall : n + m ≤ 140737488355328 := Nat.le_trans (Nat.le_mul_of_pos_right _ hpos) hb
  have hn : ¬ (n + m ≤ cap) := by omega
  have h63 : ¬ (9223372036854775807 < ((n : Int) + (m : Int))) := by omega
  have h63' : ¬ (((n + m : Nat) : Int) > IntKind.i64.max) := by
    have : IntKind.i64.max = 9223372036854775807 := by decide
    omega
  have h48 : ¬ (Builtin.nextslicecap (n + m) cap * info.bytes > 2 ^ 48) := by
    have := growslice_fits (need := n + m) (old := cap) (bytes := info.bytes) hroom (by rw [hby]; exact hb)
    omega
  have hbz : ¬ (info.bytes = 0) := by omega
  refine ⟨grownCap w (n + m) cap e, (Builtin.zeroCells z.cells (grownCap w (n + m) cap e - (n + m))).toList, grownCap_ge w _ _ e, grownCap_le_maxLen w _ _ e (by unfold maxLen; omega), ?_, ?_⟩
  · simp [Builtin.zeroCells, hzs]
  · have hti : ∀ w, (typeInfo e).run P w = .ok info w := fun w => by simp [typeInfo, hi]
    have hzv : ∀ w, (zeroValue e).run P w = .ok z w := fun w => by simp [zeroValue, typeInfo, hi, hzero]
    have key : ((olds ++ news ++ (Builtin.zeroCells z.cells (grownCap w (n + m) cap e - (n + m))).toList).toArray) = olds.toArray ++ news.toArray ++ Builtin.zeroCells z.cells (grownCap w (n + m) cap e - (n + m)) := by
      apply Array.ext'; simp
    rw [key]
    generalize i2.desc = d2 at h2d hu2
    cases d2 <;> first
      | (simp [notInt] at h2d; done)
      | (simp only [Builtin.append_, List.getElem?_toArray, List.getElem?_cons_zero, List.getElem?_cons_succ, Sem.run_bind, run_underlying hu, Result.andThen_ok, run_size hT h3, run_underlying hu2, Sem.run_pure, hl, Bool.false_eq_true, if_false, hn,
          hti, hbz, or_self, and_false, h63', h48, run_choose, Question.forced, run_askRoom, World.drew_eq, Bool.not_false, if_true, ho, hf, hzv]
         rfl)
end

end Go.Tw
end

section
namespace Go.Tw
variable {X : Nat → Prop}

section
variable {P : Program} {TI : TT} {U : Nat → Prop} {ρ : Nat → Place} {w : World} {H : Nat → Option Slot} {nid : Nat}

theorem first_zero {size : Nat} {ad : Option Addr} {cap : Nat} (w' : World) : (Builtin.firstCells size 0 (.slice ad 0 cap)).run P w' = .ok #[] w' := by
  cases ad <;> simp [Builtin.firstCells, loadCells, loadCellsFrom]

theorem store_none (a : Option Addr) (k : Nat) : (match a with | some a => (storeCells (a.add k) []).run P w | none => .ok () w) = .ok () w := by
  cases a <;> simp [storeCells]

theorem VR_new_sl {ρ' : Nat → Place} {w' : World} {g sz n cap : Nat} {cur : Array Value} {e : TypeId} (h1 : ρ' nid = .row g) (h2 : w'.heap[g]? = some (.cells cur e (0, 0))) (h3 : cap * sz = cur.size) (h4 : n ≤ cap) (h5 : cap ≤ maxLen) :
    VR X ρ' w' (.sl nid sz 0 n) (.slice (some ⟨g, 0, none⟩) n cap) := by
  simp only [VR]
  refine ⟨rfl, fun g' hg' => ?_, fun hg' => ?_⟩
  · rw [h1] at hg'; cases hg'; exact ⟨cap, cur, e, rfl, h2, by omega, h4, h5⟩
  · rw [h1] at hg'; cases hg'

theorem slotR_new {ρ' : Nat → Place} {w' : World} {g : Nat} {cs : List D} {vs rest : List Value} {e : TypeId} (h : w'.heap[g]? = some (.cells (vs ++ rest).toArray e (0, 0))) (hv : VRs X ρ' w' cs vs) : slotR X ρ' w' g (.cells cs) := by
  refine ⟨_, e, h, ?_⟩
  have hl := VRs_length hv
  rw [hl]
  simpa using hv

/-- append on a nil slice. -/
theorem app_nil_sound (hT : TIok P TI) {t t2 ty e : TypeId} {it i2 ie : TInfo} (h1 : TI t = some it) (h1d : it.desc = .slice e) (h2 : TI t2 = some i2) (h2d : notInt i2.desc = true) (h3 : TI e = some ie)
    (h : HRel X ρ w H) (wh : WH U ρ H) (hn : ¬ U nid) {m : Nat} {x : Value} {news : List Value} {cs : List D} (hx : Src P w ie.size m x news) (hnews : VRs X ρ w cs news) (hids : ∀ b ∈ D.idsL cs, U b)
    (hlen : news.length = m * ie.size) (hb : m * ie.bytes ≤ 140737488355328) (hpos : 0 < ie.bytes) :
    ∃ u w' ρ', (Builtin.append_ #[t, t2] ty #[.slice none 0 0, x]).run P w = .ok u w' ∧ Sok X U ρ w (upd H nid (some (.cells cs))) nid (.sl nid ie.size 0 m) u ρ' w' := by
  by_cases hm : m = 0
  · subst hm
    have hnl : news = [] := List.eq_nil_of_length_eq_zero (by simpa using hlen)
    subst hnl
    have hcs : cs = [] := by have := VRs_length hnews; simpa using this
    subst hcs
    have hr := run_app_fits hT (w := w) (ty := ty) h1 h1d h2 h2d h3 (base := none) (n := 0) (cap := 0) hx (by omega) (w' := w) (by first | exact store_none none _ | simp)
    obtain ⟨m1, m2, m3⟩ := step_nil h wh hn
    refine ⟨_, _, _, hr, ⟨?_, m1, m2, m3, fun b hb' => ?_⟩⟩
    · simp only [VR]
      refine ⟨rfl, fun g hg => ?_, fun _ => by simp⟩
      rw [upd_same] at hg; cases hg
    · by_cases e' : b = nid
      · exact .inr e'
      · rw [upd_ne _ _ e'] at hb'; exact .inl (wh.dom b hb')
  · obtain ⟨c, rest, h4, h5, h6, hr⟩ := run_app_grows hT (w := w) (ty := ty) h1 h1d h2 h2d h3 (base := none) (n := 0) (cap := 0) (olds := []) hx (fun w' _ => first_zero w') (by omega) (by simpa using hb) hpos
    obtain ⟨m1, m2, m3⟩ := step_new h wh hn (.cells ([] ++ news ++ rest).toArray e) (w' := w.drew.alloc (.cells ([] ++ news ++ rest).toArray e)) rfl rfl rfl rfl (.cells cs) fun m => by
      refine slotR_new (vs := news) (rest := rest) (e := e) ?_ (VRs_mono m _ _ hids hnews)
      have := heap_alloc_new w.drew (.cells ([] ++ news ++ rest).toArray e)
      simpa using this
    refine ⟨_, _, _, hr, ⟨?_, m1, m2, m3, fun b hb' => ?_⟩⟩
    · rw [Nat.zero_add] at h4 h6 ⊢
      refine VR_new_sl (cap := c) (upd_same _ _ _) (heap_alloc_new w.drew _) ?_ h4 h5
      simp only [List.nil_append, List.size_toArray, List.length_append, hlen, h6, ← Nat.add_mul]
      congr 1; omega
    · by_cases e' : b = nid
      · exact .inr e'
      · rw [upd_ne _ _ e'] at hb'; exact .inl (wh.dom b hb')

/-- append on a slice of a live block. -/
theorem app_sl_sound (hT : TIok P TI) {t t2 ty e : TypeId} {it i2 ie : TInfo} (h1 : TI t = some it) (h1d : it.desc = .slice e) (h2 : TI t2 = some i2) (h2d : notInt i2.desc = true) (h3 : TI e = some ie)
    (h : HRel X ρ w H) (wh : WH U ρ H) (hn : ¬ U nid) {b n m : Nat} {s x : Value} {news : List Value} {cs old : List D} (hx : Src P w ie.size m x news) (hnews : VRs X ρ w cs news) (hids : ∀ b ∈ D.idsL cs, U b)
    (hlen : news.length = m * ie.size) (hb : (n + m) * ie.bytes ≤ 140737488355328) (hpos : 0 < ie.bytes) (hone : ∀ v ∈ news, v.oneCell' = true)
    (hs : VR X ρ w (.sl b ie.size 0 n) s) (hH : H b = some (.cells old)) (hol : n * ie.size ≤ old.length) :
    ∃ u w' ρ', (Builtin.append_ #[t, t2] ty #[s, x]).run P w = .ok u w' ∧ Sok X U ρ w (upd (upd H b none) nid (some (.cells (old.take (n * ie.size) ++ cs)))) nid (.sl nid ie.size 0 (n + m)) u ρ' w' := by
  have hbU : U b := wh.dom b (h.live b _ hH)
  have hne : b ≠ nid := fun e' => hn (e' ▸ hbU)
  simp only [VR] at hs
  have hdom : ∀ p b', (upd (upd ρ b .none) nid p) b' ≠ .none → U b' ∨ b' = nid := fun p b' hb' => by
    by_cases e' : b' = nid
    · exact .inr e'
    · rw [upd_ne _ _ e'] at hb'
      by_cases e2 : b' = b
      · subst e2; rw [upd_same] at hb'; exact absurd rfl hb'
      · rw [upd_ne _ _ e2] at hb'; exact .inl (wh.dom b' hb')
  cases hρ : ρ b with
  | none => exact absurd hρ (h.live b _ hH)
  | nil =>
    obtain ⟨_, hn0, rfl⟩ := hs.2.2 hρ
    subst hn0
    have ho := h.nil b hρ
    rw [hH] at ho
    cases ho
    by_cases hm : m = 0
    · subst hm
      have hnl : news = [] := List.eq_nil_of_length_eq_zero (by simpa using hlen)
      subst hnl
      have hcs : cs = [] := by have := VRs_length hnews; simpa using this
      subst hcs
      have hr := run_app_fits hT (w := w) (ty := ty) h1 h1d h2 h2d h3 (base := none) (n := 0) (cap := 0) hx (by omega) (w' := w) (by first | exact store_none none _ | simp)
      obtain ⟨m1, m2, m3⟩ := step_nil_swap h wh hn hbU
      refine ⟨_, _, _, hr, ⟨?_, m1, by simpa using m2, m3, hdom _⟩⟩
      simp only [VR]
      refine ⟨rfl, fun g hg => ?_, fun _ => by simp⟩
      rw [upd_same] at hg; cases hg
    · obtain ⟨c, rest, h4, h5, h6, hr⟩ := run_app_grows hT (w := w) (ty := ty) h1 h1d h2 h2d h3 (base := none) (n := 0) (cap := 0) (olds := []) hx (fun w' _ => first_zero w') (by omega) (by simpa using hb) hpos
      obtain ⟨m1, m2, m3⟩ := step_swap h wh hn hbU (.cells ([] ++ news ++ rest).toArray e) (w' := w.drew.alloc (.cells ([] ++ news ++ rest).toArray e)) rfl rfl rfl rfl (.cells cs) fun m => by
        refine slotR_new (vs := news) (rest := rest) (e := e) ?_ (VRs_mono m _ _ hids hnews)
        have := heap_alloc_new w.drew (.cells ([] ++ news ++ rest).toArray e)
        simpa using this
      refine ⟨_, _, _, hr, ⟨?_, m1, by simpa using m2, m3, hdom _⟩⟩
      rw [Nat.zero_add] at h4 h6 ⊢
      refine VR_new_sl (cap := c) (upd_same _ _ _) (heap_alloc_new w.drew _) ?_ h4 h5
      simp only [List.nil_append, List.size_toArray, List.length_append, hlen, h6, ← Nat.add_mul]
      congr 1; omega
  | row g =>
    obtain ⟨cap, cur, e', rfl, hg, hcap, hnc, hcm⟩ := hs.2.1 g hρ
    rw [Nat.zero_add] at hcap
    obtain ⟨sl, hsl, hslot⟩ := h.row b g hρ
    rw [hH] at hsl
    cases hsl
    obtain ⟨vs, hvl, hvs, hvc⟩ := slot_cells hslot 0 (n * ie.size) (by omega)
    simp only [List.drop_zero, Nat.zero_add] at hvs hvc
    have hcurv : cur.toList.take (n * ie.size) = vs := by
      apply List.ext_getElem?
      intro i
      rw [List.getElem?_take]
      split
      · rename_i hi
        have := hvc i vs[i] (by simp [hvl, hi])
        rw [cell_row hg] at this
        simpa [hvl, hi] using this
      · rw [List.getElem?_eq_none (by omega)]
    by_cases hroom : n + m ≤ cap
    · have hfit : 0 + n * ie.size + news.length ≤ cur.size := by rw [hlen, Nat.zero_add, ← Nat.add_mul, ← hcap]; exact Nat.mul_le_mul_right _ hroom
      have hst := run_storeCells_at P g (n * ie.size) e' news 0 cur w hg (by simpa using hfit) hone
      have hr := run_app_fits hT (w := w) (ty := ty) h1 h1d h2 h2d h3 (base := some ⟨g, 0, none⟩) (n := n) hx hroom (w' := w.setRow g (cur.toList.take (n * ie.size) ++ news ++ cur.toList.drop (n * ie.size + news.length)).toArray) (by simpa [add_addr] using hst)
      have hsize : (cur.toList.take (n * ie.size) ++ news ++ cur.toList.drop (n * ie.size + news.length)).toArray.size = cur.size := by
        simp only [List.size_toArray, List.length_append, List.length_take, List.length_drop, Array.length_toList]; omega
      obtain ⟨m1, m2, m3⟩ := step_take h wh hn hρ (new := (cur.toList.take (n * ie.size) ++ news ++ cur.toList.drop (n * ie.size + news.length)).toArray) (.cells (old.take (n * ie.size) ++ cs)) fun m => by
        refine slotR_new (vs := vs ++ news) (rest := cur.toList.drop (n * ie.size + news.length)) (e := e') ?_ (VRs_mono m _ _ ?_ (VRs_append hvs hnews))
        · rw [setRow_heap' w g cur _ e' hg, hcurv]
        · intro b' hb'
          rw [idsL_append, List.mem_append] at hb'
          rcases hb' with hb' | hb'
          · exact wh.ids b _ hH b' (idsL_take hb')
          · exact hids b' hb'
      refine ⟨_, _, _, hr, ⟨?_, m1, m2, m3, hdom _⟩⟩
      exact VR_new_sl (cap := cap) (upd_same _ _ _) (setRow_heap' w g cur _ e' hg) (by rw [hsize]; exact hcap) hroom hcm
    · have hfo : ∀ w' : World, w'.heap = w.heap → (Builtin.firstCells ie.size n (.slice (some ⟨g, 0, none⟩) n cap)).run P w' = .ok vs.toArray w' := fun w' hw' => by
        have := run_loadCells_at (P := P) (w := w') (g := g) (o := 0) (vs := vs) (fun j v hj => by
          rw [← hvc j v hj, Nat.zero_add]; exact World.cell?_of_block (a := ⟨g, j, none⟩) (by rw [hw']))
        rw [hvl] at this
        simpa [Builtin.firstCells] using this
      obtain ⟨c, rest, h4, h5, h6, hr⟩ := run_app_grows hT (w := w) (ty := ty) h1 h1d h2 h2d h3 (olds := vs) hx hfo (by omega) hb hpos
      obtain ⟨m1, m2, m3⟩ := step_swap h wh hn hbU (.cells (vs ++ news ++ rest).toArray e) (w' := w.drew.alloc (.cells (vs ++ news ++ rest).toArray e)) rfl rfl rfl rfl (.cells (old.take (n * ie.size) ++ cs)) fun m => by
        refine slotR_new (vs := vs ++ news) (rest := rest) (e := e) (heap_alloc_new w.drew _) (VRs_mono m _ _ ?_ (VRs_append hvs hnews))
        intro b' hb'
        rw [idsL_append, List.mem_append] at hb'
        rcases hb' with hb' | hb'
        · exact wh.ids b _ hH b' (idsL_take hb')
        · exact hids b' hb'
      refine ⟨_, _, _, hr, ⟨?_, m1, m2, m3, hdom _⟩⟩
      refine VR_new_sl (cap := c) (upd_same _ _ _) (heap_alloc_new w.drew _) ?_ h4 h5
      simp only [List.size_toArray, List.length_append, hlen, h6, hvl, ← Nat.add_mul]
      congr 1; omega
end

end Go.Tw
end
