/- The twin: its operations, calls and contracts are sound. -/
import Derived.Test.YtaeadcgbahaofaaGreatDoorSa
import Derived.Laws.Unary
import Derived.MapKept
import Derived.Laws.BytesString
import Derived.Lib.ConvBytes
section
namespace Go.Tw
variable {X : Nat → Prop}

/-! ## The operations of the twin -/

/-- What is read or written: some cells of a block; that it is there, and how long it is; all of it. -/
inductive Rng where
  | part (b lo hi : Nat)
  | live (b : Nat)
  | all (b : Nat)

inductive HW where
  | put (b o : Nat) (cs : List D)
  | set (b : Nat) (sl : Option Slot)

/-- Cells of a list are written. -/
def putL : List D → Nat → List D → List D
  | [], _, _ => []
  | x :: xs, 0, [] => x :: xs
  | _ :: xs, 0, c :: cs => c :: putL xs 0 cs
  | x :: xs, o + 1, cs => x :: putL xs o cs

theorem putL_nil (xs : List D) (o : Nat) : putL xs o [] = xs := by
  induction xs generalizing o with
  | nil => rfl
  | cons x xs ih => cases o with
    | zero => rfl
    | succ o => simp [putL, ih]

theorem putL_eq : ∀ (xs : List D) (o : Nat) (cs : List D), o + cs.length ≤ xs.length → putL xs o cs = xs.take o ++ cs ++ xs.drop (o + cs.length)
  | [], o, cs, h => by simp at h; simp [putL, h]
  | x :: xs, 0, [], _ => by simp [putL]
  | x :: xs, 0, c :: cs, h => by
    have := putL_eq xs 0 cs (by simp at h ⊢; omega)
    simp [putL, this]
  | x :: xs, o + 1, cs, h => by
    have := putL_eq xs o cs (by simp at h; omega)
    simp [putL, this, Nat.add_right_comm]

theorem putL_length : ∀ (xs : List D) (o : Nat) (cs : List D), (putL xs o cs).length = xs.length
  | [], _, _ => rfl
  | _ :: _, 0, [] => rfl
  | x :: xs, 0, c :: cs => by simp [putL, putL_length xs 0 cs]
  | x :: xs, o + 1, cs => by simp [putL, putL_length xs o cs]

theorem putL_get : ∀ (xs : List D) (o : Nat) (cs : List D) (i : Nat), (putL xs o cs)[i]? = if o ≤ i ∧ i < o + cs.length ∧ i < xs.length then cs[i - o]? else xs[i]?
  | [], o, cs, i => by simp [putL]
  | x :: xs, 0, [], i => by simp [putL]
  | x :: xs, 0, c :: cs, i => by
    cases i with
    | zero => simp [putL]
    | succ i =>
      have := putL_get xs 0 cs i
      simp only [putL, List.getElem?_cons_succ, this, Nat.sub_zero, Nat.zero_add, List.length_cons]
      by_cases h : i < cs.length ∧ i < xs.length
      · rw [if_pos ⟨by omega, h.1, h.2⟩, if_pos ⟨by omega, by omega, by omega⟩]
      · rw [if_neg (by omega), if_neg (by omega)]
  | x :: xs, o + 1, cs, i => by
    cases i with
    | zero => simp [putL]
    | succ i =>
      have := putL_get xs o cs i
      simp only [putL, List.getElem?_cons_succ, this, List.length_cons]
      by_cases h : o ≤ i ∧ i < o + cs.length ∧ i < xs.length
      · rw [if_pos h, if_pos ⟨by omega, by omega, by omega⟩]; congr 1; omega
      · rw [if_neg h, if_neg (by omega)]

def HW.app (H : Nat → Option Slot) : HW → (Nat → Option Slot)
  | .put b o cs => upd H b (match H b with
    | some (.cells old) => some (.cells (putL old o cs))
    | x => x)
  | .set b sl => upd H b sl

def apps (H : Nat → Option Slot) (l : List HW) : Nat → Option Slot := l.foldl HW.app H

def flatD (es : List D) : List D := es.flatMap fun d => (d.cells?).getD []

def byteD (s : List UInt8) : List D := s.map fun c => .int .u8 c.toNat

/-- The cells that an append takes. -/
def srcI (H : Nat → Option Slot) (sz : Nat) (x : D) (m : Nat) (cs : List D) (rh : List Rng) : Prop :=
  match x with
  | .nsl => m = 0 ∧ cs = [] ∧ rh = []
  | .isl sz' es => m = es.length ∧ (es = [] ∨ sz' = sz) ∧ cs = flatD es ∧ rh = []
  | .sl b sz' o n => ∃ all, H b = some (.cells all) ∧ sz' = sz ∧ m = n ∧ o + n * sz ≤ all.length ∧ cs = (all.drop o).take (n * sz) ∧ (∀ d ∈ cs, d.scal = true) ∧ rh = [.all b]
  | .str s => sz = 1 ∧ m = s.length ∧ cs = byteD s ∧ rh = []
  | _ => False

def fillD (place : Nat → Option (Nat × Nat)) (cells : List D) : List (Nat × D) → Option (List D)
  | [] => some cells
  | (i, d) :: rest =>
    match place i, d.cells? with
    | some (off, size), some cs => if cs.length ≠ size || off + cs.length > cells.length then none else fillD place (cs.zipIdx.foldl (fun l x => l.set (off + x.2) x.1) cells) rest
    | _, _ => none

def zeroD (i : TInfo) (n : Nat) : List D :=
  match i.zero.cells? with
  | some zc => (List.range n).map fun j => zc.getD (j % zc.length) .undef
  | none => []

def fieldsD (TI : TT) : List Field → Option (List (Nat × Nat))
  | [] => some []
  | f :: fs => match TI f.type, fieldsD TI fs with
    | some i, some l => some ((f.offset, i.size) :: l)
    | _, _ => none

def eqK (kd : TypeDesc) : D → D → Option Bool
  | .int k a, .int k' b => match kd with | .int _ => if k = k' then some (a == b) else none | _ => none
  | .str a, .str b => match kd with | .string => some (a == b) | _ => none
  | .bool a, .bool b => match kd with | .bool => some (a == b) | _ => none
  | _, _ => none

def isK : TypeDesc → D → Bool
  | .int k, .int k' _ => k' == k
  | .string, .str _ => true
  | .bool, .bool _ => true
  | _, _ => false

def findK (kd : TypeDesc) (k : D) : List (D × D) → Nat → Option (Option (Nat × D))
  | [], _ => some none
  | e :: es, i =>
    match eqK kd k e.1 with
    | some true => some (some (i, e.2))
    | some false => findK kd k es (i + 1)
    | none => none

def putK (es : List (D × D)) (k v : D) : Option (Nat × D) → List (D × D)
  | some (i, _) => es.set i (k, v)
  | none => es ++ [(k, v)]

/-- What an operator of one operand gives. -/
def unI (op : UnOp) (x v : D) : Prop :=
  match op, x with
  | .not, .bool b => v = .bool (!b)
  | .neg, .int k n => v = .int k (k.wrap (0 - n))
  | .xor, .int k n => v = .int k (k.wrap (BitVec.ofInt k.bits (if k.signed then -1 else k.max) ^^^ BitVec.ofInt k.bits n).toNat)
  | _, _ => False

/-- The types that len is asked at. -/
def lenT (x : D) (d : TypeDesc) : Prop :=
  match x, d with
  | .str _, .string => True
  | .isl _ _, .slice _ => True
  | .nsl, .slice _ => True
  | .sl _ _ _ _, .slice _ => True
  | _, _ => False

/-- A bound of a slice expression. -/
def offI : Option D → Nat → Nat → Prop
  | none, d, r => r = d
  | some y, _, r => ∃ k n, y = .int k n ∧ 0 ≤ n ∧ r = n.toNat

section
variable (TI : TT) (nid : Nat) (ev : Operand → D) (H : Nat → Option Slot)

def buildI (t : TypeId) (parts : Array (Nat × Operand)) (v : D) : Prop :=
  ∃ i zc cs, TI t = some i ∧ i.zero.cells? = some zc ∧ v = .agg cs ∧
    ((∃ fs pl, i.desc = .struct fs ∧ fieldsD TI fs.toList = some pl ∧ fillD (fun j => pl[j]?) zc (parts.toList.map fun p => (p.1, ev p.2)) = some cs) ∨
     (∃ n e ie, i.desc = .array n e ∧ TI e = some ie ∧ fillD (fun j => some (j * ie.size, ie.size)) zc (parts.toList.map fun p => (p.1, ev p.2)) = some cs))

def buildSliceI (t : TypeId) (n : Nat) (parts : Array (Nat × Operand)) (v : D) (cs : List D) : Prop :=
  ∃ i e ie zc, TI t = some i ∧ i.desc = .slice e ∧ TI e = some ie ∧ ie.zero.cells? = some zc ∧ n * ie.size ≤ 16777216 ∧ n ≤ 16777216 ∧
    fillD (fun j => some (j * ie.size, ie.size)) (zeroD ie (n * ie.size)) (parts.toList.map fun p => (p.1, ev p.2)) = some cs ∧ v = .sl nid ie.size 0 n

def loadI (t : TypeId) (x : D) (v : D) (rh : List Rng) : Prop :=
  ∃ i, TI t = some i ∧
    match x with
    | .iptr d => v = d ∧ rh = [] ∧ shapeOK i d
    | .ptr b o => ∃ cs, H b = some (.cells cs) ∧ 0 < i.size ∧ partD i cs o = some v ∧ rh = [.part b o (o + i.size)]
    | _ => False

def storeI (t : TypeId) (x y : D) (hw : List HW) (rh wh : List Rng) : Prop :=
  ∃ i b o cs old, TI t = some i ∧ x = .ptr b o ∧ y.cells? = some cs ∧ cs.length = i.size ∧ 0 < i.size ∧ (∀ d ∈ cs, d.scal = true) ∧ H b = some (.cells old) ∧ o + cs.length ≤ old.length ∧
    hw = [.put b o cs] ∧ rh = [.live b] ∧ wh = [.part b o (o + cs.length)]

def liveI (x : D) (v : D) (rh : List Rng) : Prop :=
  match x with
  | .iptr _ => v = x ∧ rh = []
  | .fn _ _ => v = x ∧ rh = []
  | .ptr b _ => ∃ cs, H b = some (.cells cs) ∧ 0 < cs.length ∧ v = x ∧ rh = [.live b]
  | _ => False

def fieldAddrI (t : TypeId) (f : Nat) (x : D) (v : D) (rh : List Rng) : Prop :=
  ∃ i fs fl fi, TI t = some i ∧ i.desc = .struct fs ∧ fs[f]? = some fl ∧ TI fl.type = some fi ∧ fi.size ≠ 0 ∧
    match x with
    | .iptr (.agg cs) => ∃ d, partD fi cs fl.offset = some d ∧ (fi.isAgg = true ∨ d.scal = true) ∧ v = .iptr d ∧ rh = []
    | .ptr b o => ∃ cs, H b = some (.cells cs) ∧ 0 < cs.length ∧ v = .ptr b (o + fl.offset) ∧ rh = [.live b]
    | _ => False

def indexAddrI (t : TypeId) (x y : D) (v : D) (rh : List Rng) : Prop :=
  ∃ i k n, TI t = some i ∧ y = .int k n ∧ 0 ≤ n ∧
    match x, i.desc with
    | .isl sz es, .slice e => ∃ ie d, TI e = some ie ∧ ie.size = sz ∧ 0 < sz ∧ es[n.toNat]? = some d ∧ v = .iptr d ∧ rh = []
    | .sl b sz o len, .slice e => ∃ ie cs, TI e = some ie ∧ ie.size = sz ∧ H b = some (.cells cs) ∧ 0 < cs.length ∧ n < len ∧ v = .ptr b (o + n.toNat * sz) ∧ rh = [.live b]
    | .ptr b o, .array len e => ∃ ie cs, TI e = some ie ∧ H b = some (.cells cs) ∧ 0 < cs.length ∧ n < len ∧ v = .ptr b (o + n.toNat * ie.size) ∧ rh = [.live b]
    | .iptr (.agg cs), .array len e => ∃ ie d, TI e = some ie ∧ ie.size ≠ 0 ∧ n < len ∧ partD ie cs (n.toNat * ie.size) = some d ∧ (ie.isAgg = true ∨ d.scal = true) ∧ v = .iptr d ∧ rh = []
    | _, _ => False

def indexI (t : TypeId) (x y : D) (v : D) : Prop :=
  ∃ i k n, TI t = some i ∧ y = .int k n ∧ 0 ≤ n ∧
    match x, i.desc with
    | .str s, .string => ∃ c, s[n.toNat]? = some c ∧ v = .int .u8 c.toNat
    | .agg cs, .array len e => ∃ ie, TI e = some ie ∧ n < len ∧ partD ie cs (n.toNat * ie.size) = some v
    | _, _ => False

def sliceI (t : TypeId) (x : D) (lo hi mx : Option D) (v : D) (rh : List Rng) : Prop :=
  ∃ i l h, TI t = some i ∧ offI lo 0 l ∧ l ≤ h ∧
    match x, i.desc with
    | .str s, .string => mx = none ∧ offI hi s.length h ∧ h ≤ s.length ∧ v = .str ((s.drop l).take (h - l)) ∧ rh = []
    | .isl sz es, .slice e => mx = none ∧ offI hi es.length h ∧ h ≤ es.length ∧ (∃ ie, TI e = some ie ∧ ie.size = sz) ∧ v = .isl sz ((es.drop l).take (h - l)) ∧ rh = []
    | .sl b sz o n, .slice e => mx = none ∧ offI hi n h ∧ h ≤ n ∧ (∃ ie, TI e = some ie ∧ ie.size = sz) ∧ (∃ cs, H b = some (.cells cs)) ∧
        (l = 0 ∨ l < h) ∧ v = .sl b sz (o + l * sz) (h - l) ∧ rh = [.live b]
    | .nsl, .slice e => mx = none ∧ offI hi 0 h ∧ h = 0 ∧ (∃ ie, TI e = some ie) ∧ v = .nsl ∧ rh = []
    | _, _ => False

/-- A slice is compared with nil. -/
def nilCmpI (op : BinOp) (ty : TypeId) (yo : Operand) (x y : D) (v : D) (rh : List Rng) : Prop :=
  ∃ i e q isnil, TI ty = some i ∧ i.desc = .slice e ∧ yo = .const q ∧ y = .nsl ∧
    (match x with
     | .nsl => isnil = true ∧ rh = []
     | .sl b _ _ _ => isnil = false ∧ (∃ cs, H b = some (.cells cs) ∧ 0 < cs.length) ∧ rh = [.all b]
     | _ => False) ∧
    match op with
    | .eql => v = .bool isnil
    | .neq => v = .bool (!isnil)
    | _ => False

def lenI (x : D) (v : D) (rh : List Rng) : Prop :=
  match x with
  | .str s => v = .int .i64 s.length ∧ rh = []
  | .isl _ es => v = .int .i64 es.length ∧ rh = []
  | .nsl => v = .int .i64 0 ∧ rh = []
  | .sl b _ _ n => ∃ cs, H b = some (.cells cs) ∧ v = .int .i64 n ∧ rh = [.live b]
  | _ => False

def lookupI (t : TypeId) (x k : D) (ok : Bool) (v : D) (rh : List Rng) : Prop :=
  ∃ i ke el ike iel, TI t = some i ∧ i.desc = .map ke el ∧ TI ke = some ike ∧ isK ike.desc k = true ∧ TI el = some iel ∧
    match x with
    | .mp b => ∃ es r, H b = some (.map es) ∧ findK ike.desc k es 0 = some r ∧ rh = [.all b] ∧
        v = (let val := match r with | some (_, y) => y | none => iel.zero; if ok then .tup [val, .bool r.isSome] else val)
    | .nmp => rh = [] ∧ v = (if ok then .tup [iel.zero, .bool false] else iel.zero)
    | _ => False

def mapUpdateI (t : TypeId) (x k y : D) (hw : List HW) (rh wh : List Rng) : Prop :=
  ∃ i ke el ike b es r, TI t = some i ∧ i.desc = .map ke el ∧ TI ke = some ike ∧ isK ike.desc k = true ∧ x = .mp b ∧ H b = some (.map es) ∧ findK ike.desc k es 0 = some r ∧
    hw = [.set b (some (.map (putK es k y r)))] ∧ rh = [.all b] ∧ wh = [.all b]

def mapEntryI (t : TypeId) (x k : D) (v : D) (hw : List HW) (rh wh : List Rng) : Prop :=
  ∃ i ke el ike iel b es r, TI t = some i ∧ i.desc = .map ke el ∧ TI ke = some ike ∧ isK ike.desc k = true ∧ TI el = some iel ∧ x = .mp b ∧ H b = some (.map es) ∧ findK ike.desc k es 0 = some r ∧
    hw = [.set b (some (.map (putK es k (match r with | some (_, y) => y | none => iel.zero) r)))] ∧ rh = [.all b] ∧ wh = [.all b] ∧
    v = (match r with | some (j, y) => .tup [y, .int .i64 j] | none => .tup [iel.zero, .int .i64 es.length])

def entryStoreI (x s y : D) (hw : List HW) (rh wh : List Rng) : Prop :=
  ∃ b es n e, x = .mp b ∧ s = .int .i64 (n : Nat) ∧ H b = some (.map es) ∧ es[n]? = some e ∧ hw = [.set b (some (.map (es.set n (e.1, y))))] ∧ rh = [.all b] ∧ wh = [.all b]

def appendI (t t2 : TypeId) (s x : D) (v : D) (hw : List HW) (rh wh : List Rng) : Prop :=
  ∃ it e i2 ie m cs rh', TI t = some it ∧ it.desc = .slice e ∧ TI t2 = some i2 ∧ notInt i2.desc = true ∧ TI e = some ie ∧ 0 < ie.bytes ∧ srcI H ie.size x m cs rh' ∧
    match s with
    | .nsl => m * ie.bytes ≤ 140737488355328 ∧ v = .sl nid ie.size 0 m ∧ hw = [.set nid (some (.cells cs))] ∧ rh = rh' ∧ wh = [.all nid]
    | .sl b sz o n => ∃ old, sz = ie.size ∧ o = 0 ∧ H b = some (.cells old) ∧ n * ie.size ≤ old.length ∧ (n + m) * ie.bytes ≤ 140737488355328 ∧ v = .sl nid ie.size 0 (n + m) ∧
        hw = [.set b none, .set nid (some (.cells (old.take (n * ie.size) ++ cs)))] ∧ rh = .all b :: rh' ∧ wh = [.all b, .all nid]
    | _ => False

def makeSliceI (t : TypeId) (x y : D) (v : D) (hw : List HW) (wh : List Rng) : Prop :=
  ∃ i e ie zc k k' n, TI t = some i ∧ i.desc = .slice e ∧ TI e = some ie ∧ ie.zero.cells? = some zc ∧ x = .int k (n : Nat) ∧ y = .int k' (n : Nat) ∧ n * ie.bytes ≤ 140737488355328 ∧ 0 < ie.bytes ∧
    v = .sl nid ie.size 0 n ∧ hw = [.set nid (some (.cells (zeroD ie (n * ie.size))))] ∧ wh = [.all nid]

def convertI (s d : TypeId) (x : D) (v : D) (rh : List Rng) : Prop :=
  ∃ i j, TI s = some i ∧ TI d = some j ∧
    match x, j.desc with
    | .int _ n, .int k => v = .int k (k.wrap n) ∧ rh = []
    | .str l, .string => v = .str l ∧ rh = []
    | .str l, .slice e => (∃ ie, TI e = some ie ∧ ie.desc = .int .u8) ∧ v = .isl 1 (byteD l) ∧ rh = []
    | .nsl, .string => (∃ e ie, i.desc = .slice e ∧ TI e = some ie ∧ ie.desc = .int .u8) ∧ v = .str [] ∧ rh = []
    | .sl b sz o n, .string => ∃ e ie cs l, i.desc = .slice e ∧ TI e = some ie ∧ ie.desc = .int .u8 ∧ sz = 1 ∧ H b = some (.cells cs) ∧ l.length = n ∧ (cs.drop o).take n = byteD l ∧ v = .str l ∧ rh = [.all b]
    | _, _ => False

/-- What an operation that is no call of a function gives, writes and reads. -/
def opI (op : Op) (v : D) (hw : List HW) (rh wh : List Rng) : Prop :=
  match op with
  | .move x | .assign x => v = ev x ∧ hw = [] ∧ rh = [] ∧ wh = []
  | .pick c x y => ∃ b, ev c = .bool b ∧ v = (if b then ev x else ev y) ∧ hw = [] ∧ rh = [] ∧ wh = []
  | .binOp op ty x y _ => ((binV TI op ty y (ev x) (ev y) v ∧ rh = []) ∨ nilCmpI TI H op ty y (ev x) (ev y) v rh) ∧ hw = [] ∧ wh = []
  | .unOp op _ x =>
    unI op (ev x) v ∧ hw = [] ∧ rh = [] ∧ wh = []
  | .convert s d x => convertI TI H s d (ev x) v rh ∧ hw = [] ∧ wh = []
  | .build t parts => buildI TI ev t parts v ∧ hw = [] ∧ rh = [] ∧ wh = []
  | .field t x f => (∃ i fs fl fi cs, TI t = some i ∧ i.desc = .struct fs ∧ fs[f]? = some fl ∧ TI fl.type = some fi ∧ ev x = .agg cs ∧ partD fi cs fl.offset = some v) ∧ hw = [] ∧ rh = [] ∧ wh = []
  | .index t x y => indexI TI t (ev x) (ev y) v ∧ hw = [] ∧ rh = [] ∧ wh = []
  | .extract x j => (∃ cs, ev x = .tup cs ∧ cs[j]? = some v) ∧ hw = [] ∧ rh = [] ∧ wh = []
  | .makeFunc (.func f) first cap => first = #[] ∧ v = .fn f (cap.toList.map ev) ∧ hw = [] ∧ rh = [] ∧ wh = []
  | .makeInterface t _ => (∃ i, TI t = some i ∧ (match i.desc with | .interface _ => False | _ => True)) ∧ v = .ifc true ∧ hw = [] ∧ rh = [] ∧ wh = []
  | .slice t x lo hi mx => sliceI TI H t (ev x) (lo.map ev) (hi.map ev) (mx.map ev) v rh ∧ hw = [] ∧ wh = []
  | .load t x => loadI TI H t (ev x) v rh ∧ hw = [] ∧ wh = []
  | .nilCheck x => liveI H (ev x) v rh ∧ hw = [] ∧ wh = []
  | .fieldAddr t x f => fieldAddrI TI H t f (ev x) v rh ∧ hw = [] ∧ wh = []
  | .indexAddr t x y => indexAddrI TI H t (ev x) (ev y) v rh ∧ hw = [] ∧ wh = []
  | .alloc t => (∃ i cs, TI t = some i ∧ i.zero.cells? = some cs ∧ v = .ptr nid 0 ∧ hw = [.set nid (some (.cells cs))]) ∧ rh = [] ∧ wh = [.all nid]
  | .box _ x => (∃ cs, (ev x).cells? = some cs ∧ v = .ptr nid 0 ∧ hw = [.set nid (some (.cells cs))]) ∧ rh = [] ∧ wh = [.all nid]
  | .buildSlice t n parts => (∃ cs, buildSliceI TI nid ev t n parts v cs ∧ hw = [.set nid (some (.cells cs))]) ∧ rh = [] ∧ wh = [.all nid]
  | .store t x y => storeI TI H t (ev x) (ev y) hw rh wh ∧ v = .undef
  | .makeMap _ r => r = none ∧ v = .mp nid ∧ hw = [.set nid (some (.map []))] ∧ rh = [] ∧ wh = [.all nid]
  | .makeSlice t x y => makeSliceI TI nid t (ev x) (ev y) v hw wh ∧ rh = []
  | .lookup t x k ok => lookupI TI H t (ev x) (ev k) ok v rh ∧ hw = [] ∧ wh = []
  | .mapUpdate t x k y | .insert t x k y => mapUpdateI TI H t (ev x) (ev k) (ev y) hw rh wh ∧ v = .undef
  | .mapEntry t x k => mapEntryI TI H t (ev x) (ev k) v hw rh wh
  | .entryStore _ x s y => entryStoreI H (ev x) (ev s) (ev y) hw rh wh ∧ v = .undef
  | .call c =>
    (match c.callee, c.args.toList, c.argTypes.toList with
     | .builtin .len, [x], [t] => lenI H (ev x) v rh ∧ (∃ i, TI t = some i ∧ lenT (ev x) i.desc) ∧ hw = [] ∧ wh = []
     | .builtin .append, [s, x], [t, t2] => appendI TI nid H t t2 (ev s) (ev x) v hw rh wh
     | .builtin .min, [x, y], _ => (∃ k a k' b, ev x = .int k a ∧ ev y = .int k' b ∧ v = .int k (if b < a then b else a)) ∧ hw = [] ∧ rh = [] ∧ wh = []
     | .builtin .max, [x, y], _ => (∃ k a k' b, ev x = .int k a ∧ ev y = .int k' b ∧ v = .int k (if b > a then b else a)) ∧ hw = [] ∧ rh = [] ∧ wh = []
     | _, _, _ => False)
  | _ => False

end

end Go.Tw
end

section
namespace Go.Tw
variable {X : Nat → Prop}

/-- What an operation is shown to do. -/
def OpGood (X : Nat → Prop) (P : Program) (o : Oper) (a : Act) (U : Nat → Prop) (ρ : Nat → Place) (w : World) (H : Nat → Option Slot) (nid : Nat) (v : D) (hw : List HW) : Prop :=
  ∃ n u w' ρ', (execOp a.eval o).run P w = .ok n w' ∧ (n = .value u ∨ (n = .skip ∧ u = undef)) ∧ Sok X U ρ w (apps H hw) nid v u ρ' w' ∧
    (∀ b ∈ v.ids, U b ∨ b = nid) ∧ (∀ b sl, apps H hw b = some sl → ∀ c ∈ sl.ids, U c ∨ c = nid)

theorem Mono.refl (U : Nat → Prop) (ρ : Nat → Place) (w : World) : Mono U ρ ρ w w := Mono.of_heap rfl

/-- What is known where an operation is run. -/
structure Ctx (X : Nat → Prop) (P : Program) (TI : TT) (a : Act) (U : Nat → Prop) (ρ : Nat → Place) (w : World) (H : Nat → Option Slot) (ev : Operand → D) : Prop where
  T : TIok P TI
  h : HRel X ρ w H
  wh : WH U ρ H
  E : ∀ x, VR X ρ w (ev x) (a.eval x)
  I : ∀ x, ∀ b ∈ (ev x).ids, U b

theorem ba_get (s : List UInt8) (i : Nat) : (ByteArray.mk s.toArray)[i]? = s[i]? := by
  by_cases hlt : i < s.length
  · rw [getElem?_pos (ByteArray.mk s.toArray) i (by simpa [ByteArray.size] using hlt), List.getElem?_eq_getElem hlt]; rfl
  · rw [getElem?_neg (ByteArray.mk s.toArray) i (by simpa [ByteArray.size] using hlt), List.getElem?_eq_none (by omega)]

section
variable {P : Program} {TI : TT} {o : Oper} {a : Act} {U : Nat → Prop} {ρ : Nat → Place} {w : World} {H : Nat → Option Slot} {nid : Nat} {ev : Operand → D}

theorem pureGood (h : HRel X ρ w H) (wh : WH U ρ H) {v : D} {u : Value} (hr : (execOp a.eval o).run P w = .ok (.value u) w) (hv : VR X ρ w v u) (hi : ∀ b ∈ v.ids, U b) : OpGood X P o a U ρ w H nid v [] :=
  ⟨.value u, u, w, ρ, hr, .inl rfl, ⟨hv, Mono.refl U ρ w, h, Fr.refl ρ w, fun b hb => .inl (wh.dom b hb)⟩, fun b hb => .inl (hi b hb), fun b sl hb c hc => .inl (wh.ids b sl hb c hc)⟩

/-- A new row that nobody writes. -/
theorem growGood (h : HRel X ρ w H) (wh : WH U ρ H) {v : D} {u : Value} {w' : World} (hr : (execOp a.eval o).run P w = .ok (.value u) w') (hsz : w.heap.size ≤ w'.heap.size) (hold : ∀ g, g < w.heap.size → w'.heap[g]? = w.heap[g]?) (hos : w'.os = w.os) (htp : w'.tape = w.tape) (hou : w'.output = w.output)
    (hv : (∀ g, w.heap.size ≤ g → g < w'.heap.size → ¬ X g ∧ Im ρ w' g) → VR X ρ w' v u) (hi : ∀ b ∈ v.ids, U b) : OpGood X P o a U ρ w H nid v [] := by
  have m : ∀ I, Mono I ρ ρ w w' := fun I => by
    refine ⟨fun _ _ _ => rfl, fun g hg => ⟨⟨Nat.lt_of_lt_of_le hg.1 hsz, hg.2⟩, hold g hg.1⟩, fun b g cur e _ _ h2 => ⟨cur, ?_, rfl⟩⟩
    rw [hold g (Array.getElem?_eq_some_iff.1 h2).1]; exact h2
  refine ⟨.value u, u, w', ρ, hr, .inl rfl, ⟨hv fun g h1 h2 => ⟨fun hx => ?_, h2, fun b hb => ?_⟩, m U, ⟨fun b g hb => ?_, h.nil, h.live, h.inj, h.clear, fun g hg => Nat.lt_of_lt_of_le (h.avoid g hg) hsz, fun g d hg => VR_mono (m fun _ => True) _ _ (fun _ _ => trivial) (h.globs g d hg)⟩,
    ⟨hos, htp, hou, hsz, fun g hg => hold g hg.1, fun g hg => hg.2⟩, fun b hb => .inl (wh.dom b hb)⟩, fun b hb => .inl (hi b hb), fun b sl hb c hc => .inl (wh.ids b sl hb c hc)⟩
  · have := h.avoid g hx; omega
  · have := row_lt h hb; omega
  · obtain ⟨sl, h1, h2⟩ := h.row b g hb
    exact ⟨sl, h1, slotR_mono (m fun _ => True) (hold g (row_lt h hb)) sl (fun _ _ => trivial) h2⟩

/-- A new block and a value. -/
theorem newGood (h : HRel X ρ w H) (wh : WH U ρ H) (hn : ¬ U nid) {v : D} {u : Value} {obj : Obj} {w' : World} (hr : (execOp a.eval o).run P w = .ok (.value u) w') (hw : w'.heap = w.heap.push obj) (hos : w'.os = w.os) (htp : w'.tape = w.tape) (hou : w'.output = w.output) {sl : Slot}
    (hsl : Mono U ρ (upd ρ nid (.row w.heap.size)) w w' → slotR X (upd ρ nid (.row w.heap.size)) w' w.heap.size sl) (hv : w'.heap[w.heap.size]? = some obj → VR X (upd ρ nid (.row w.heap.size)) w' v u) (hi : ∀ b ∈ v.ids, U b ∨ b = nid) (hsi : ∀ c ∈ sl.ids, U c) :
    OpGood X P o a U ρ w H nid v [.set nid (some sl)] := by
  obtain ⟨m1, m2, m3⟩ := step_new h wh hn obj hw hos htp hou sl hsl
  refine ⟨.value u, u, w', _, hr, .inl rfl, ⟨hv (by rw [hw]; simp), m1, m2, m3, fun b hb => ?_⟩, hi, fun b sl' hb c hc => ?_⟩
  · by_cases e : b = nid
    · exact .inr e
    · rw [upd_ne _ _ e] at hb; exact .inl (wh.dom b hb)
  · simp only [apps, List.foldl_cons, List.foldl_nil, HW.app] at hb
    by_cases e : b = nid
    · subst e; rw [upd_same] at hb; cases hb; exact .inl (hsi c hc)
    · rw [upd_ne _ _ e] at hb; exact .inl (wh.ids b sl' hb c hc)

theorem exec_value {sem : Sem Value} {u : Value} {w' : World} (h : sem.run P w = .ok u w') : (do pure (.value (← sem)) : Sem Next).run P w = .ok (.value u) w' := by
  simp [h]

theorem slot_of_ptr (h : HRel X ρ w H) {b o : Nat} {v : Value} (hv : VR X ρ w (.ptr b o) v) {sl : Slot} (hb : H b = some sl) (hne : ∀ cs, sl = .cells cs → 0 < cs.length) : ∃ g, ρ b = .row g ∧ v = .pointer (some ⟨g, o, none⟩) ∧ slotR X ρ w g sl := by
  simp only [VR] at hv
  cases hr : ρ b with
  | none => exact absurd hr (h.live b sl hb)
  | nil => have := h.nil b hr; rw [hb] at this; cases this; exact absurd (hne [] rfl) (by simp)
  | row g =>
    obtain ⟨sl', h1, h2⟩ := h.row b g hr
    rw [hb] at h1; cases h1
    exact ⟨g, rfl, hv.2 g hr, h2⟩

theorem slot_of_sl (h : HRel X ρ w H) {b sz o n : Nat} {v : Value} (hv : VR X ρ w (.sl b sz o n) v) {sl : Slot} (hb : H b = some sl) :
    (ρ b = .nil ∧ o = 0 ∧ n = 0 ∧ sl = .cells [] ∧ v = .slice none 0 0) ∨
    ∃ g cap cur e, ρ b = .row g ∧ v = .slice (some ⟨g, o, none⟩) n cap ∧ slotR X ρ w g sl ∧ w.heap[g]? = some (.cells cur e (0, 0)) ∧ o + cap * sz = cur.size ∧ n ≤ cap ∧ cap ≤ maxLen := by
  simp only [VR] at hv
  cases hr : ρ b with
  | none => exact absurd hr (h.live b sl hb)
  | nil => have := h.nil b hr; rw [hb] at this; cases this; obtain ⟨h1, h2, h3⟩ := hv.2.2 hr; exact .inl ⟨rfl, h1, h2, rfl, h3⟩
  | row g =>
    obtain ⟨sl', h1, h2⟩ := h.row b g hr
    rw [hb] at h1; cases h1
    obtain ⟨cap, cur, e, h3, h4, h5, h6, h7⟩ := hv.2.1 g hr
    exact .inr ⟨g, cap, cur, e, rfl, h3, h2, h4, h5, h6, h7⟩

theorem g_load (c : Ctx X P TI a U ρ w H ev) {t : TypeId} {x : Operand} {v : D} {rh : List Rng} (ho : o.op = .load t x) (hl : loadI TI H t (ev x) v rh) : OpGood X P o a U ρ w H nid v [] := by
  obtain ⟨i, hi, hl⟩ := hl
  have hx := c.E x
  have hxi := c.I x
  have key : ∀ u, (Instr.loadAt t (a.eval x)).run P w = .ok u w → (execOp a.eval o).run P w = .ok (.value u) w := fun u hu => by
    unfold execOp; simp only [ho]; exact exec_value hu
  cases hd : ev x <;> rw [hd] at hl hx hxi <;> simp only at hl
  case iptr d =>
    obtain ⟨rfl, _, hs⟩ := hl
    simp only [VR] at hx
    obtain ⟨hc, g, oo, u, h1, h2, h3, _, h5⟩ := hx
    exact pureGood c.h c.wh (key u (by simp [Instr.loadAt, Instr.sureAddr, h1, run_load_imm c.T hi hs h3 h5])) h3 (by rw [hc]; simp)
  case ptr b oo =>
    obtain ⟨cs, h1, h0, h2, _⟩ := hl
    have hne : ∀ cs', Slot.cells cs = .cells cs' → 0 < cs'.length := by
      intro cs' e; cases e
      unfold partD at h2
      split at h2
      · split at h2
        · omega
        · cases h2
      · have := (List.getElem?_eq_some_iff.1 h2).1; omega
    obtain ⟨g, _, h4, h5⟩ := slot_of_ptr c.h hx h1 hne
    obtain ⟨u, h6, h7⟩ := run_load_slot c.T hi h5 h2
    exact pureGood c.h c.wh (key u (by simp [Instr.loadAt, Instr.sureAddr, h4, h6])) h7 (fun b' hb' => c.wh.ids b _ h1 b' (ids_part h2 b' hb'))


theorem g_move (c : Ctx X P TI a U ρ w H ev) {x : Operand} (ho : o.op = .move x ∨ o.op = .assign x) : OpGood X P o a U ρ w H nid (ev x) [] := by
  refine pureGood c.h c.wh (u := a.eval x) ?_ (c.E x) (c.I x)
  unfold execOp
  rcases ho with ho | ho <;> simp [ho]

theorem g_pick (c : Ctx X P TI a U ρ w H ev) {z x y : Operand} {b : Bool} (ho : o.op = .pick z x y) (hc : ev z = .bool b) : OpGood X P o a U ρ w H nid (if b then ev x else ev y) [] := by
  have h1 := c.E z
  rw [hc] at h1
  simp only [VR] at h1
  refine pureGood c.h c.wh (u := if b then a.eval x else a.eval y) ?_ ?_ ?_
  · unfold execOp
    cases b <;> simp [ho, h1, asBool]
  · cases b
    · exact c.E y
    · exact c.E x
  · cases b
    · exact c.I y
    · exact c.I x

theorem g_binOp (c : Ctx X P TI a U ρ w H ev) {op : BinOp} {ty ty' : TypeId} {x y : Operand} {v : D} (ho : o.op = .binOp op ty x y ty') (hb : binV TI op ty y (ev x) (ev y) v) : OpGood X P o a U ρ w H nid v [] := by
  obtain ⟨u, h1, h2, h3⟩ := binV_sound c.T (xo := x) (c.E x) (c.E y) hb
  refine pureGood c.h c.wh (u := u) ?_ h2 (by rw [h3]; simp)
  unfold execOp; simp only [ho]; exact exec_value h1

theorem g_unOp (c : Ctx X P TI a U ρ w H ev) {op : UnOp} {ty : TypeId} {x : Operand} {v : D} (ho : o.op = .unOp op ty x)
    (hb : unI op (ev x) v) : OpGood X P o a U ρ w H nid v [] := by
  have hx := c.E x
  have key : ∀ u, (Op.unary op (a.eval x)).run P w = .ok u w → (execOp a.eval o).run P w = .ok (.value u) w := fun u hu => by
    unfold execOp; simp only [ho]; exact exec_value hu
  unfold unI at hb
  split at hb
  · rename_i he
    rw [he] at hx; simp only [VR] at hx; subst hb
    exact pureGood c.h c.wh (key _ (by rw [hx]; rfl)) (by simp only [VR]) (by simp [D.ids])
  · rename_i he
    rw [he] at hx; simp only [VR] at hx; subst hb
    exact pureGood c.h c.wh (key _ (by rw [hx]; rfl)) (by simp only [VR]) (by simp [D.ids])
  · rename_i k n he
    rw [he] at hx; simp only [VR] at hx; subst hb
    exact pureGood c.h c.wh (u := .int k (k.wrap (BitVec.ofInt k.bits (if k.signed then -1 else k.max) ^^^ BitVec.ofInt k.bits n).toNat)) (key _ (by rw [hx]; simp only [Op.unary, Op.intBits]; rfl)) (by simp only [VR]) (by simp [D.ids])
  · exact hb.elim

theorem g_field (c : Ctx X P TI a U ρ w H ev) {t : TypeId} {x : Operand} {f : Nat} {v : D} (ho : o.op = .field t x f)
    (hb : ∃ i fs fl fi cs, TI t = some i ∧ i.desc = .struct fs ∧ fs[f]? = some fl ∧ TI fl.type = some fi ∧ ev x = .agg cs ∧ partD fi cs fl.offset = some v) : OpGood X P o a U ρ w H nid v [] := by
  obtain ⟨i, fs, fl, fi, cs, h1, h2, h3, h4, h5, h6⟩ := hb
  have hx := c.E x
  have hxi := c.I x
  rw [h5] at hx hxi; simp only [VR] at hx
  obtain ⟨vs, h7, h8⟩ := hx
  obtain ⟨u, h9, h10⟩ := run_part c.T h4 h8 h6
  refine pureGood c.h c.wh (u := u) ?_ h10 (fun b hb => hxi b (by simpa [D.ids] using ids_part h6 b hb))
  unfold execOp; simp only [ho]
  refine exec_value ?_
  have hu : P.underlying t = some (.struct fs) := h2 ▸ (c.T.ok _ _ h1).1
  simp [Instr.field, run_underlying hu, h3, h7, asAgg, h9]

theorem g_index (c : Ctx X P TI a U ρ w H ev) {t : TypeId} {x y : Operand} {v : D} (ho : o.op = .index t x y) (hb : indexI TI t (ev x) (ev y) v) : OpGood X P o a U ρ w H nid v [] := by
  obtain ⟨i, k, n, h1, h2, h3, hb⟩ := hb
  have hx := c.E x
  have hxi := c.I x
  have hy := c.E y
  rw [h2] at hy; simp only [VR] at hy
  have key : ∀ u, (Instr.index t (a.eval x) (a.eval y)).run P w = .ok u w → (execOp a.eval o).run P w = .ok (.value u) w := fun u hu => by
    unfold execOp; simp only [ho]; exact exec_value hu
  have hu := (c.T.ok _ _ h1).1
  split at hb
  · rename_i s he hd
    obtain ⟨ch, h4, rfl⟩ := hb
    rw [he] at hx; simp only [VR] at hx
    refine pureGood c.h c.wh (key (.int .u8 ch.toNat) ?_) (by simp only [VR]) (by simp [D.ids])
    rw [hd] at hu
    have hc : (ByteArray.mk s.toArray)[n.toNat]? = some ch := by rw [ba_get]; exact h4
    simp [Instr.index, hy, asIntOf, run_underlying hu, hx, h3, hc]
  · rename_i cs len e he hd
    obtain ⟨ie, h4, h5, h6⟩ := hb
    rw [he] at hx hxi; simp only [VR] at hx
    obtain ⟨vs, h7, h8⟩ := hx
    obtain ⟨u, h9, h10⟩ := run_part c.T h4 h8 h6
    refine pureGood c.h c.wh (key u ?_) h10 (fun b hb => hxi b (by simpa [D.ids] using ids_part h6 b hb))
    rw [hd] at hu
    simp [Instr.index, hy, asIntOf, run_underlying hu, h7, h3, h5, run_size c.T h4, h9]
  · exact hb.elim

theorem g_extract (c : Ctx X P TI a U ρ w H ev) {x : Operand} {j : Nat} {v : D} (ho : o.op = .extract x j) (hb : ∃ cs, ev x = .tup cs ∧ cs[j]? = some v) : OpGood X P o a U ρ w H nid v [] := by
  obtain ⟨cs, h1, h2⟩ := hb
  have hx := c.E x
  have hxi := c.I x
  rw [h1] at hx hxi; simp only [VR] at hx
  obtain ⟨vs, h3, h4⟩ := hx
  obtain ⟨u, h5, h6⟩ := VRs_get h4 j v h2
  refine pureGood c.h c.wh (u := u) ?_ h6 (fun b hb => hxi b (by simpa [D.ids] using idsL_mem (List.mem_of_getElem? h2) hb))
  unfold execOp; simp only [ho]
  exact exec_value (by simp [Instr.extract, h3, h5])

theorem VRs_map (c : Ctx X P TI a U ρ w H ev) (l : List Operand) : VRs X ρ w (l.map ev) (l.map a.eval) := by
  induction l with
  | nil => simp [VRs]
  | cons x l ih => simp only [List.map_cons, VRs]; exact ⟨_, _, rfl, c.E x, ih⟩

theorem g_makeFunc (c : Ctx X P TI a U ρ w H ev) {f : FuncId} {first cap : Array Operand} (ho : o.op = .makeFunc (.func f) first cap) (hf : first = #[]) : OpGood X P o a U ρ w H nid (.fn f (cap.toList.map ev)) [] := by
  subst hf
  refine pureGood c.h c.wh (u := .func (.func f) #[] (cap.map a.eval)) ?_ ?_ ?_
  · unfold execOp; simp only [ho]; exact exec_value (by simp [Instr.makeFunc])
  · simp only [VR]
    exact ⟨cap.toList.map a.eval, by congr 1; apply Array.ext'; simp, VRs_map c cap.toList⟩
  · intro b hb
    simp only [D.ids] at hb
    obtain ⟨d, h1, h2⟩ := mem_idsL hb
    obtain ⟨x, _, rfl⟩ := List.mem_map.1 h1
    exact c.I x b h2

theorem g_makeInterface (c : Ctx X P TI a U ρ w H ev) {t : TypeId} {x : Operand} (ho : o.op = .makeInterface t x) (hb : ∃ i, TI t = some i ∧ (match i.desc with | .interface _ => False | _ => True)) : OpGood X P o a U ρ w H nid (.ifc true) [] := by
  obtain ⟨i, h1, h2⟩ := hb
  have hu := (c.T.ok _ _ h1).1
  refine pureGood c.h c.wh (u := .iface t (a.eval x)) ?_ (by simp [VR]) (by simp [D.ids])
  unfold execOp; simp only [ho]
  refine exec_value ?_
  generalize i.desc = d at h2 hu
  cases d <;> first | exact h2.elim | simp [Instr.makeInterface, run_underlying hu]

theorem g_nilCheck (c : Ctx X P TI a U ρ w H ev) {x : Operand} {v : D} {rh : List Rng} (ho : o.op = .nilCheck x) (hb : liveI H (ev x) v rh) : OpGood X P o a U ρ w H nid v [] := by
  have hx := c.E x
  have hxi := c.I x
  have key : (∃ ad, a.eval x = .pointer (some ad)) ∨ (∃ f c, a.eval x = .func (.func f) #[] c) → (execOp a.eval o).run P w = .ok (.value (a.eval x)) w := fun hu => by
    unfold execOp
    rcases hu with ⟨ad, hu⟩ | ⟨f, c, hu⟩ <;> simp [ho, hu]
  cases hd : ev x <;> rw [hd] at hb hx hxi <;> simp only [liveI] at hb
  case iptr d =>
    obtain ⟨rfl, _⟩ := hb
    refine pureGood c.h c.wh (key ?_) hx hxi
    simp only [VR] at hx
    obtain ⟨_, g, oo, u, h1, _⟩ := hx
    exact .inl ⟨_, h1⟩
  case fn f cs =>
    obtain ⟨rfl, _⟩ := hb
    refine pureGood c.h c.wh (key ?_) hx hxi
    simp only [VR] at hx
    obtain ⟨vs, h1, _⟩ := hx
    exact .inr ⟨_, _, h1⟩
  case ptr b oo =>
    obtain ⟨cs, h1, h2, rfl, _⟩ := hb
    obtain ⟨g, _, h4, h5⟩ := slot_of_ptr c.h hx h1 (by intro cs' e; cases e; exact h2)
    exact pureGood c.h c.wh (key (.inl ⟨_, h4⟩)) hx hxi

/-- A part of what stands by value. -/
theorem iptr_part {cs : List D} {v : Value} (hx : VR X ρ w (.iptr (.agg cs)) v) {fi : TInfo} {off : Nat} {d : D} (h5 : fi.size ≠ 0) (h6 : partD fi cs off = some d) (hsc : fi.isAgg = true ∨ d.scal = true) :
    ∃ g oo, v = .pointer (some ⟨g, oo, none⟩) ∧ VR X ρ w (.iptr d) (.pointer (some ⟨g, oo + off, none⟩)) := by
  simp only [VR] at hx
  obtain ⟨hc, g, oo, u, h7, h8, ⟨vs, rfl, h9⟩, h10, h11⟩ := hx
  have hids : D.ids d = [] := by
    cases hh : D.ids d with
    | nil => rfl
    | cons b l => have := ids_part h6 b (by rw [hh]; simp); simp only [D.ids] at hc; rw [hc] at this; simp at this
  refine ⟨g, oo, h7, ?_⟩
  simp only [VR]
  unfold partD at h6
  split at h6
  · split at h6
    · rename_i hle
      cases h6
      refine ⟨hids, g, oo + off, .agg ((vs.drop off).take fi.size).toArray, rfl, h8, ⟨_, rfl, VRs_take (VRs_drop h9 _) _⟩, ?_, ?_⟩
      · have := VRs_length h9
        simp [Value.cells]; omega
      · intro j y hy
        simp only [Value.cells, List.getElem?_toArray] at hy
        have := take_get hy
        rw [List.getElem?_drop] at this
        rw [Nat.add_assoc]
        exact h11 _ _ (by simpa [Value.cells] using this)
    · cases h6
  · rename_i ha
    obtain ⟨u', h12, h13⟩ := VRs_get h9 _ _ h6
    have hcell := h11 off u' (by simpa [Value.cells] using h12)
    have hone : u'.oneCell' = true := scal_one h13 (hsc.resolve_left ha)
    refine ⟨hids, g, oo + off, u', rfl, h8, h13, by rw [one_cells hone]; simp, ?_⟩
    intro j y hy
    rw [one_cells hone] at hy
    cases j with
    | zero => simp at hy; subst hy; exact hcell
    | succ j => simp at hy

theorem g_fieldAddr (c : Ctx X P TI a U ρ w H ev) {t : TypeId} {f : Nat} {x : Operand} {v : D} {rh : List Rng} (ho : o.op = .fieldAddr t x f) (hb : fieldAddrI TI H t f (ev x) v rh) : OpGood X P o a U ρ w H nid v [] := by
  obtain ⟨i, fs, fl, fi, h1, h2, h3, h4, h5, hb⟩ := hb
  have hx := c.E x
  have hxi := c.I x
  have hu : P.underlying t = some (.struct fs) := h2 ▸ (c.T.ok _ _ h1).1
  have key : ∀ g oo, a.eval x = .pointer (some ⟨g, oo, none⟩) → (execOp a.eval o).run P w = .ok (.value (.pointer (some ⟨g, oo + fl.offset, none⟩))) w := fun g oo hu' => by
    unfold execOp; simp only [ho]
    refine exec_value ?_
    simp [Instr.fieldAt, run_underlying hu, h3, hu', Instr.sureAddr, fieldPlace, run_size c.T h4, h5, add_addr]
  cases hd : ev x <;> rw [hd] at hb hx hxi <;> (try simp only at hb)
  case ptr b oo =>
    obtain ⟨cs, h6, h7, rfl, _⟩ := hb
    obtain ⟨g, h8, h9, _⟩ := slot_of_ptr c.h hx h6 (by intro cs' e; cases e; exact h7)
    refine pureGood c.h c.wh (key g oo h9) ?_ (by simpa [D.ids] using hxi)
    simp only [VR]
    exact ⟨rfl, fun g' hg' => by rw [h8] at hg'; cases hg'; rfl⟩
  case iptr d =>
    cases d <;> (try simp only at hb)
    case agg cs =>
      obtain ⟨d, h6, hsc, rfl, _⟩ := hb
      obtain ⟨g, oo, h7, h8⟩ := iptr_part hx h5 h6 hsc
      refine pureGood c.h c.wh (key g oo h7) h8 ?_
      simp [D.ids]

end

end Go.Tw
end

section
namespace Go.Tw
variable {X : Nat → Prop}

section
variable {P : Program} {TI : TT} {o : Oper} {a : Act} {U : Nat → Prop} {ρ : Nat → Place} {w : World} {H : Nat → Option Slot} {nid : Nat} {ev : Operand → D}

theorem ptrGood (c : Ctx X P TI a U ρ w H ev) {b oo g : Nat} (hr : (execOp a.eval o).run P w = .ok (.value (.pointer (some ⟨g, oo, none⟩))) w) (hb : ρ b = .row g) (hU : U b) : OpGood X P o a U ρ w H nid (.ptr b oo) [] := by
  refine pureGood c.h c.wh hr ?_ (by simpa [D.ids] using hU)
  simp only [VR]
  exact ⟨rfl, fun g' hg' => by rw [hb] at hg'; cases hg'; rfl⟩

theorem g_indexAddr (c : Ctx X P TI a U ρ w H ev) {t : TypeId} {x y : Operand} {v : D} {rh : List Rng} (ho : o.op = .indexAddr t x y) (hb : indexAddrI TI H t (ev x) (ev y) v rh) : OpGood X P o a U ρ w H nid v [] := by
  obtain ⟨i, k, n, h1, h2, h3, hb⟩ := hb
  have hx := c.E x
  have hxi := c.I x
  have hy := c.E y
  rw [h2] at hy; simp only [VR] at hy
  have hu := (c.T.ok _ _ h1).1
  have key : ∀ u, (Instr.indexAt t (a.eval x) (a.eval y)).run P w = .ok u w → (execOp a.eval o).run P w = .ok (.value u) w := fun u hu => by
    unfold execOp; simp only [ho]; exact exec_value hu
  split at hb
  · rename_i sz es e he hd
    obtain ⟨ie, d, h4, h5, h6, h7, rfl, _⟩ := hb
    rw [he] at hx; simp only [VR] at hx
    obtain ⟨hc, ad, cap, h8, h9, h10⟩ := hx
    have hlt : n.toNat < es.length := (List.getElem?_eq_some_iff.1 h7).1
    obtain ⟨g, oo, rfl, h11, h12⟩ := h10 (by intro e0; subst e0; simp at hlt)
    obtain ⟨hso, u, h13, h14, h15⟩ := VRe_get h12 _ _ h7
    rw [hd] at hu
    have hdi : D.ids d = [] := ids_of_idsL_nil hc (List.mem_of_getElem? h7)
    refine pureGood c.h c.wh (key (.pointer (some ⟨g, oo + n.toNat * sz, none⟩)) ?_) ?_ (by simp [D.ids])
    · have : 0 ≤ n ∧ n < (es.length : Int) := ⟨h3, by omega⟩
      simp [Instr.indexAt, hy, asIntOf, run_underlying hu, h8, this.1, this.2, run_size c.T h4, h5, add_addr]
    · simp only [VR]
      exact ⟨hdi, g, _, u, rfl, h11, h13, by omega, h15⟩
  · rename_i b sz oo len e he hd
    obtain ⟨ie, cs, h4, h5, h6, h7, h8, rfl, _⟩ := hb
    rw [he] at hx hxi
    rw [hd] at hu
    rcases slot_of_sl c.h hx h6 with ⟨_, _, _, h9, _⟩ | ⟨g, cap, cur, e', h9, h10, _⟩
    · cases h9; simp at h7
    · refine ptrGood c (g := g) (key _ ?_) h9 (hxi b (by simp [D.ids]))
      simp [Instr.indexAt, hy, asIntOf, run_underlying hu, h10, h3, h8, run_size c.T h4, h5, add_addr]
  · rename_i b oo len e he hd
    obtain ⟨ie, cs, h4, h5, h6, h7, rfl, _⟩ := hb
    rw [he] at hx hxi
    rw [hd] at hu
    obtain ⟨g, h8, h9, _⟩ := slot_of_ptr c.h hx h5 (by intro cs' e; cases e; exact h6)
    refine ptrGood c (g := g) (key _ ?_) h8 (hxi b (by simp [D.ids]))
    simp [Instr.indexAt, hy, asIntOf, run_underlying hu, h9, Instr.sureAddr, h3, h7, run_size c.T h4, add_addr]
  · rename_i cs len e he hd
    obtain ⟨ie, d, h4, h5, h6, h7, h8, rfl, _⟩ := hb
    rw [he] at hx
    rw [hd] at hu
    obtain ⟨g, oo, h9, h10⟩ := iptr_part hx h5 h7 h8
    refine pureGood c.h c.wh (key (.pointer (some ⟨g, oo + n.toNat * ie.size, none⟩)) ?_) h10 (by simp [D.ids])
    simp [Instr.indexAt, hy, asIntOf, run_underlying hu, h9, Instr.sureAddr, h3, h6, run_size c.T h4, add_addr]
  · exact hb.elim

def optR (X : Nat → Prop) (ρ : Nat → Place) (w : World) : Option D → Option Value → Prop
  | none, v => v = none
  | some y, v => ∃ u, v = some u ∧ VR X ρ w y u

theorem run_bounds {isSlice : Bool} {len cap l h : Nat} {lo hi : Option D} {lov hiv : Option Value} (hlo : optR X ρ w lo lov) (hhi : optR X ρ w hi hiv)
    (h1 : offI lo 0 l) (h2 : offI hi len h) (hlh : l ≤ h) (hhc : h ≤ cap) :
    (Instr.sliceBounds isSlice len cap lov hiv none).run P w = .ok (l, h, cap) w := by
  have hb : ∀ (x : Nat) (k : IntKind) (y : Nat) (code : BoundsCode), x ≤ y → ∀ n : Int, 0 ≤ n → x = n.toNat → (Instr.sliceBound (.int k n) y code).run P w = .ok x w := by
    intro x k y code hxy n hn e
    simp [Instr.sliceBound, asIntOf, hn, show n ≤ (y : Int) by omega, e]
  unfold Instr.sliceBounds
  cases lo with
  | none =>
    simp only [offI, optR] at h1 hlo
    subst hlo h1
    cases hi with
    | none =>
      simp only [offI, optR] at h2 hhi
      subst hhi h2
      simp
    | some y =>
      obtain ⟨k, n, rfl, h3, h4⟩ := h2
      obtain ⟨u, rfl, hv⟩ := hhi
      simp only [VR] at hv; subst hv
      simp [hb h k cap _ hhc n h3 h4]
  | some z =>
    obtain ⟨k', n', rfl, h3', h4'⟩ := h1
    obtain ⟨u', rfl, hv'⟩ := hlo
    simp only [VR] at hv'; subst hv'
    cases hi with
    | none =>
      simp only [offI, optR] at h2 hhi
      subst hhi h2
      simp [hb l k' h _ hlh n' h3' h4']
    | some y =>
      obtain ⟨k, n, rfl, h3, h4⟩ := h2
      obtain ⟨u, rfl, hv⟩ := hhi
      simp only [VR] at hv; subst hv
      simp [hb h k cap _ hhc n h3 h4, hb l k' h _ hlh n' h3' h4']

theorem isl_part {sz : Nat} {es : List D} {v : Value} (hx : VR X ρ w (.isl sz es) v) {l h cap0 : Nat} {ad : Option Addr} (hv : v = .slice ad es.length cap0) (hl : l ≤ h) (hh : h ≤ es.length) :
    VR X ρ w (.isl sz ((es.drop l).take (h - l))) (.slice (if cap0 = l then ad else ad.map (·.add (l * sz))) (h - l) (cap0 - l)) := by
  subst hv
  simp only [VR] at hx ⊢
  obtain ⟨hc, ad', cap, h8, h9, h10⟩ := hx
  cases h8
  have hlen : ((es.drop l).take (h - l)).length = h - l := by simp; omega
  refine ⟨idsL_nil_of fun d hd => ids_of_idsL_nil hc (List.mem_of_mem_drop (List.mem_of_mem_take hd)), _, cap0 - l, by rw [hlen], by rw [hlen]; omega, fun hne => ?_⟩
  have hlt : l < h := by
    rcases Nat.lt_or_ge l h with h' | h'
    · exact h'
    · exact absurd (by simp [Nat.sub_eq_zero_of_le h']) hne
  obtain ⟨g, oo, rfl, h11, h12⟩ := h10 (by intro e0; subst e0; simp at hh; omega)
  refine ⟨g, oo + l * sz, by rw [if_neg (by omega)]; simp [add_addr], h11, VRe_of_get fun i d hd => ?_⟩
  have hd' := take_get hd
  rw [List.getElem?_drop] at hd'
  obtain ⟨hs, u, h13, h14, h15⟩ := VRe_get h12 _ _ hd'
  exact ⟨hs, u, h13, h14, by rw [Nat.add_mul] at h15; rw [Nat.add_assoc]; exact h15⟩

theorem opt_eval (c : Ctx X P TI a U ρ w H ev) (x : Option Operand) : optR X ρ w (x.map ev) (x.map a.eval) := by
  cases x with
  | none => rfl
  | some x => exact ⟨_, rfl, c.E x⟩

theorem g_slice (c : Ctx X P TI a U ρ w H ev) {t : TypeId} {x : Operand} {lo hi mx : Option Operand} {v : D} {rh : List Rng} (ho : o.op = .slice t x lo hi mx) (hb : sliceI TI H t (ev x) (lo.map ev) (hi.map ev) (mx.map ev) v rh) : OpGood X P o a U ρ w H nid v [] := by
  obtain ⟨i, l, h, h1, h2, h3, hb⟩ := hb
  have hx := c.E x
  have hxi := c.I x
  have hu := (c.T.ok _ _ h1).1
  have hlo := opt_eval c lo
  have hhi := opt_eval c hi
  split at hb
  · rename_i s he hd
    obtain ⟨hm, h4, h5, rfl, _⟩ := hb
    rw [he] at hx; simp only [VR] at hx
    rw [hd] at hu
    have hmx : mx.map a.eval = none := by cases mx <;> simp_all
    have hbd := run_bounds (P := P) (isSlice := false) (len := s.length) (cap := s.length) hlo hhi h2 h4 h3 h5
    refine pureGood c.h c.wh (u := .string ⟨((s.drop l).take (h - l)).toArray⟩) ?_ (by simp only [VR]) (by simp [D.ids])
    unfold execOp; simp only [ho]
    refine exec_value ?_
    have hs : (ByteArray.mk s.toArray).size = s.length := by simp [ByteArray.size]
    simp [Instr.sliceAt, run_underlying hu, Instr.slice, hx, hmx, hs, hbd]
    rw [Lib.extract_eq]
  · rename_i sz es e he hd
    obtain ⟨hm, h4, h5, ⟨ie, h6, rfl⟩, rfl, _⟩ := hb
    rw [he] at hx hxi
    have hx' := hx
    simp only [VR] at hx'
    obtain ⟨hc, ad, cap, h8, h9, _⟩ := hx'
    rw [hd] at hu
    have hmx : mx.map a.eval = none := by cases mx <;> simp_all
    have hbd := run_bounds (P := P) (isSlice := true) (len := es.length) (cap := cap) hlo hhi h2 h4 h3 (by omega)
    refine pureGood c.h c.wh ?_ (isl_part hx h8 h3 h5) (by simp [D.ids])
    unfold execOp; simp only [ho]
    refine exec_value ?_
    simp [Instr.sliceAt, run_underlying hu, Instr.slice, h8, hmx, hbd, run_size c.T h6]
  · rename_i b sz oo n e he hd
    obtain ⟨hm, h4, h5, ⟨ie, h6, rfl⟩, ⟨sl, h7⟩, h8, rfl, _⟩ := hb
    rw [he] at hx hxi
    rw [hd] at hu
    have hmx : mx.map a.eval = none := by cases mx <;> simp_all
    have hUb : U b := hxi b (by simp [D.ids])
    rcases slot_of_sl c.h hx h7 with ⟨h9, rfl, rfl, _, h10⟩ | ⟨g, cap, cur, e', h9, h10, h11, h12, h13, h14, h15⟩
    · have hh0 : h = 0 := by omega
      subst hh0
      have hl0 : l = 0 := by omega
      subst hl0
      have hbd := run_bounds (P := P) (isSlice := true) (len := 0) (cap := 0) hlo hhi h2 h4 h3 (by omega)
      refine pureGood c.h c.wh (u := .slice none 0 0) ?_ ?_ (by simpa [D.ids] using hUb)
      · unfold execOp; simp only [ho]
        refine exec_value ?_
        simp [Instr.sliceAt, run_underlying hu, Instr.slice, h10, hmx, hbd, run_size c.T h6]
      · simp only [VR]
        exact ⟨rfl, fun g hg => (by rw [h9] at hg; cases hg), fun _ => by simp⟩
    · have hbd := run_bounds (P := P) (isSlice := true) (len := n) (cap := cap) hlo hhi h2 h4 h3 (by omega)
      refine pureGood c.h c.wh (u := .slice (some ⟨g, oo + l * ie.size, none⟩) (h - l) (cap - l)) ?_ ?_ (by simpa [D.ids] using hUb)
      · unfold execOp; simp only [ho]
        refine exec_value ?_
        simp [Instr.sliceAt, run_underlying hu, Instr.slice, h10, hmx, hbd, run_size c.T h6, add_addr]
        rcases h8 with rfl | h8
        · simp
        · intro hcl; omega
      · simp only [VR]
        refine ⟨rfl, fun g' hg' => ?_, fun hg' => (by rw [h9] at hg'; cases hg')⟩
        rw [h9] at hg'; cases hg'
        refine ⟨cap - l, cur, e', rfl, h12, ?_, by omega, by omega⟩
        have hlc : l ≤ cap := by omega
        rw [← h13, Nat.add_assoc, ← Nat.add_mul, Nat.add_sub_cancel' hlc]
  · rename_i e he hd
    obtain ⟨hm, h4, rfl, ⟨ie, h6⟩, rfl, _⟩ := hb
    rw [he] at hx; simp only [VR] at hx
    rw [hd] at hu
    have hmx : mx.map a.eval = none := by cases mx <;> simp_all
    have hl0 : l = 0 := by omega
    subst hl0
    have hbd := run_bounds (P := P) (isSlice := true) (len := 0) (cap := 0) hlo hhi h2 h4 h3 (by omega)
    refine pureGood c.h c.wh (u := .slice none 0 0) ?_ (by simp only [VR]) (by simp [D.ids])
    unfold execOp; simp only [ho]
    refine exec_value ?_
    simp [Instr.sliceAt, run_underlying hu, Instr.slice, hx, hmx, hbd, run_size c.T h6]
  · exact hb.elim

end

end Go.Tw
end

section
namespace Go.Tw
variable {X : Nat → Prop}

section
variable {P : Program} {TI : TT} {o : Oper} {a : Act} {U : Nat → Prop} {ρ : Nat → Place} {w : World} {H : Nat → Option Slot} {nid : Nat} {ev : Operand → D}

/-! ## Filling -/

theorem VRs_set : ∀ {ds : List D} {vs : List Value} (_ : VRs X ρ w ds vs) (i : Nat) {d : D} {v : Value} (_ : VR X ρ w d v), VRs X ρ w (ds.set i d) (vs.set i v)
  | [], _, h, i, d, v, _ => by simp only [VRs] at h; subst h; simp [VRs]
  | x :: ds, _, h, i, d, v, hv => by
    simp only [VRs] at h
    obtain ⟨u, vs', rfl, h2, h3⟩ := h
    cases i with
    | zero => simp only [List.set_cons_zero, VRs]; exact ⟨v, vs', rfl, hv, h3⟩
    | succ i => simp only [List.set_cons_succ, VRs]; exact ⟨u, _, rfl, h2, VRs_set h3 i hv⟩

theorem VRs_fold : ∀ {cs : List D} {us : List Value} (_ : VRs X ρ w cs us) (off k : Nat) {ds : List D} {vs : List Value} (_ : VRs X ρ w ds vs),
    VRs X ρ w ((cs.zipIdx k).foldl (fun l x => l.set (off + x.2) x.1) ds) ((us.zipIdx k).foldl (fun l x => l.set (off + x.2) x.1) vs)
  | [], _, h, off, k, ds, vs, hd => by simp only [VRs] at h; subst h; simpa using hd
  | c :: cs, _, h, off, k, ds, vs, hd => by
    simp only [VRs] at h
    obtain ⟨u, us', rfl, h2, h3⟩ := h
    simp only [List.zipIdx_cons, List.foldl_cons]
    exact VRs_fold h3 off (k + 1) (VRs_set hd _ h2)

theorem fold_array (us : List Value) (off : Nat) : ∀ (k : Nat) (vs : List Value),
    ((us.zipIdx k).foldl (fun (cs : Array Value) (x : Value × Nat) => cs.setIfInBounds (off + x.2) x.1) vs.toArray) = ((us.zipIdx k).foldl (fun l x => l.set (off + x.2) x.1) vs).toArray := by
  induction us with
  | nil => intro k vs; simp
  | cons u us ih => intro k vs; simp only [List.zipIdx_cons, List.foldl_cons, List.setIfInBounds_toArray]; exact ih (k + 1) _

theorem fill_sound (place : Nat → Option (Nat × Nat)) : ∀ {ps : List (Nat × D)} {qs : List (Nat × Value)} (_ : ps.map (·.1) = qs.map (·.1)) (_ : VRs X ρ w (ps.map (·.2)) (qs.map (·.2))) {cells out : List D} {vs : List Value} (_ : VRs X ρ w cells vs)
    (_ : fillD place cells ps = some out), ∃ us : List Value, Instr.fill place vs.toArray qs = some us.toArray ∧ VRs X ρ w out us
  | [], qs, h1, _, cells, out, vs, hv, hf => by
    have : qs = [] := by simpa using h1.symm
    subst this
    simp only [fillD, Option.some.injEq] at hf
    subst hf
    exact ⟨vs, by simp [Instr.fill], hv⟩
  | (i, d) :: ps, qs, h1, h2, cells, out, vs, hv, hf => by
    cases qs with
    | nil => simp at h1
    | cons q qs =>
      obtain ⟨i', v⟩ := q
      simp only [List.map_cons, List.cons.injEq] at h1
      obtain ⟨rfl, h1⟩ := h1
      simp only [List.map_cons, VRs, List.cons.injEq] at h2
      obtain ⟨v', vs', ⟨rfl, rfl⟩, h3, h4⟩ := h2
      simp only [fillD] at hf
      split at hf
      · rename_i off size cs hp hc
        split at hf
        · cases hf
        · rename_i hcond
          have hcs := cells_VRs h3 hc
          have hsz : v.cells.size = cs.length := cells_size h3 hc
          have hlen := VRs_length hv
          have := fill_sound place h1 h4 (VRs_fold hcs off 0 hv) hf
          obtain ⟨us, h5, h6⟩ := this
          refine ⟨us, ?_, h6⟩
          simp only [Instr.fill, hp]
          have e1 : (v.cells.size ≠ size || off + v.cells.size > vs.toArray.size) = false := by
            simp only [List.size_toArray, hsz, ← hlen]
            simpa using hcond
          rw [if_neg (by simpa using e1)]
          rw [← h5]
          congr 1
          have := fold_array v.cells.toList off 0 vs
          rw [← this]
          rw [← Array.foldl_toList]
          congr 1
          simp
      · cases hf

theorem zero_VRs (c : Ctx X P TI a U ρ w H ev) {t : TypeId} {i : TInfo} (h : TI t = some i) {zc : List D} (hz : i.zero.cells? = some zc) (w' : World) :
    ∃ z, (zeroValue t).run P w' = .ok z w' ∧ VRs X ρ w zc z.cells.toList ∧ z.cells.size = i.size ∧ zc.length = i.size ∧ D.idsL zc = [] := by
  obtain ⟨z, h1, h2, h3⟩ := run_zero c.T h w'
  have hv : VR X ρ w i.zero z := by rw [← h2]; exact VR_ofV z
  refine ⟨z, h1, cells_VRs hv hz, h3, by rw [← h3]; exact (cells_size hv hz).symm, ?_⟩
  rw [ids_cells hz, ← h2]; exact ids_ofV z

theorem parts_VRs (c : Ctx X P TI a U ρ w H ev) (parts : Array (Nat × Operand)) :
    ((parts.toList.map fun p => (p.1, ev p.2)).map (·.1) = ((parts.map fun (i, x) => (i, a.eval x)).toList).map (·.1)) ∧ VRs X ρ w ((parts.toList.map fun p => (p.1, ev p.2)).map (·.2)) (((parts.map fun (i, x) => (i, a.eval x)).toList).map (·.2)) := by
  constructor
  · simp [List.map_map]
  · have := VRs_map c (parts.toList.map (·.2))
    simpa [List.map_map, Function.comp_def] using this

theorem fillD_ids (place : Nat → Option (Nat × Nat)) (I : Nat → Prop) : ∀ {ps : List (Nat × D)} {cells out : List D}, (∀ p ∈ ps, ∀ b ∈ p.2.ids, I b) → (∀ b ∈ D.idsL cells, I b) → fillD place cells ps = some out → ∀ b ∈ D.idsL out, I b
  | [], cells, out, _, hc, hf => by simp only [fillD, Option.some.injEq] at hf; subst hf; exact hc
  | (i, d) :: ps, cells, out, hp, hc, hf => by
    simp only [fillD] at hf
    split at hf
    · rename_i off size cs _ hcs
      split at hf
      · cases hf
      · refine fillD_ids place I (fun p h => hp p (by simp [h])) ?_ hf
        have hd : ∀ b ∈ D.idsL cs, I b := fun b hb => hp (i, d) (by simp) b (by rw [ids_cells hcs] at hb; exact hb)
        have : ∀ (l : List (D × Nat)) (cells : List D), (∀ p ∈ l, ∀ b ∈ p.1.ids, I b) → (∀ b ∈ D.idsL cells, I b) → ∀ b ∈ D.idsL (l.foldl (fun l x => l.set (off + x.2) x.1) cells), I b := by
          intro l
          induction l with
          | nil => intro cells _ h; simpa using h
          | cons x l ih =>
            intro cells h1 h2
            simp only [List.foldl_cons]
            refine ih _ (fun p h => h1 p (by simp [h])) (fun b hb => ?_)
            obtain ⟨d', h3, h4⟩ := mem_idsL hb
            rcases List.mem_or_eq_of_mem_set h3 with h5 | h5
            · exact h2 b (idsL_mem h5 h4)
            · subst h5; exact h1 x (by simp) b h4
        refine this _ cells (fun p hp' b hb => ?_) hc
        have : p.1 ∈ cs.zipIdx.map Prod.fst := List.mem_map.2 ⟨p, hp', rfl⟩
        rw [List.zipIdx_map_fst] at this
        exact hd b (idsL_mem this hb)
    · cases hf

theorem g_build (c : Ctx X P TI a U ρ w H ev) {t : TypeId} {parts : Array (Nat × Operand)} {v : D} (ho : o.op = .build t parts) (hb : buildI TI ev t parts v) : OpGood X P o a U ρ w H nid v [] := by
  obtain ⟨i, zc, cs, h1, h2, rfl, hb⟩ := hb
  obtain ⟨z, h3, h4, h5, h6, h7⟩ := zero_VRs c h1 h2 w
  obtain ⟨h8, h9⟩ := parts_VRs c parts
  have hu := (c.T.ok _ _ h1).1
  have hids : ∀ pl, fillD pl zc (parts.toList.map fun p => (p.1, ev p.2)) = some cs → ∀ b ∈ D.idsL cs, U b := fun pl hf => by
    refine fillD_ids pl U (fun p hp => ?_) (by rw [h7]; simp) hf
    obtain ⟨q, _, rfl⟩ := List.mem_map.1 hp
    exact c.I q.2
  rcases hb with ⟨fs, pl, hd, hf, hfill⟩ | ⟨n, e, ie, hd, h10, hfill⟩
  · obtain ⟨us, h11, h12⟩ := fill_sound _ h8 h9 h4 hfill
    refine pureGood c.h c.wh (u := .agg us.toArray) ?_ (by simp only [VR]; exact ⟨us, rfl, h12⟩) (by simpa [D.ids] using hids _ hfill)
    unfold execOp; simp only [ho]
    refine exec_value ?_
    rw [hd] at hu
    have hm : ∀ (l : List Field) (p : List (Nat × Nat)), fieldsD TI l = some p → (l.mapM (fun f => Prod.mk f.offset <$> sizeOf f.type : Field → Sem (Nat × Nat))).run P w = .ok p w := by
      intro l
      induction l with
      | nil => intro p hp; simp [fieldsD] at hp; subst hp; simp
      | cons f l ih =>
        intro p hp
        simp only [fieldsD] at hp
        split at hp
        · rename_i fi q h13 h14
          cases hp
          simp [List.mapM_cons, run_size c.T h13, ih q h14]
        · cases hp
    have hm' := hm fs.toList pl hf
    have he : (fun f => do pure (f.offset, ← sizeOf f.type) : Field → Sem (Nat × Nat)) = fun f => Prod.mk f.offset <$> sizeOf f.type := by
      funext f; simp
    have hma : (fs.mapM (fun f => do pure (f.offset, ← sizeOf f.type) : Field → Sem (Nat × Nat))).run P w = .ok pl.toArray w := by
      rw [he, Array.mapM_eq_mapM_toList]
      simp only [Sem.run_map, hm', Result.andThen_ok]
    simp only [Instr.build, Sem.run_bind, h3, Result.andThen_ok, run_underlying hu, hma]
    have hpl : (fun (x : Nat) => pl.toArray[x]?) = fun (j : Nat) => pl[j]? := by funext j; simp
    simp only [hpl]
    have hz : z.cells = z.cells.toList.toArray := by simp
    rw [hz, h11]
    simp
  · obtain ⟨us, h11, h12⟩ := fill_sound _ h8 h9 h4 hfill
    refine pureGood c.h c.wh (u := .agg us.toArray) ?_ (by simp only [VR]; exact ⟨us, rfl, h12⟩) (by simpa [D.ids] using hids _ hfill)
    unfold execOp; simp only [ho]
    refine exec_value ?_
    rw [hd] at hu
    simp only [Instr.build, Sem.run_bind, h3, Result.andThen_ok, run_underlying hu, run_size c.T h10]
    have hz : z.cells = z.cells.toList.toArray := by simp
    rw [hz, h11]
    simp


/-! ## New blocks -/

theorem ptr_new {ρ' : Nat → Place} {w' : World} {g : Nat} (h : ρ' nid = .row g) : VR X ρ' w' (.ptr nid 0) (.pointer (some ⟨g, 0, none⟩)) := by
  simp only [VR]
  exact ⟨rfl, fun g' hg' => by rw [h] at hg'; cases hg'; rfl⟩

theorem rowGood (c : Ctx X P TI a U ρ w H ev) (hn : ¬ U nid) {cells : List Value} {cs : List D} {e : TypeId} {v : D} {u : Value} (hr : (execOp a.eval o).run P w = .ok (.value u) (w.alloc (.cells cells.toArray e)))
    (hv : VRs X ρ w cs cells) (hi : ∀ b ∈ D.idsL cs, U b) (hval : ∀ ρ' w', ρ' nid = .row w.heap.size → w'.heap[w.heap.size]? = some (.cells cells.toArray e (0, 0)) → VR X ρ' w' v u) (hvi : ∀ b ∈ v.ids, U b ∨ b = nid) :
    OpGood X P o a U ρ w H nid v [.set nid (some (.cells cs))] :=
  newGood c.h c.wh hn hr rfl rfl rfl rfl (sl := .cells cs) (fun m => by
    refine slotR_new (vs := cells) (rest := []) (e := e) ?_ (VRs_mono m _ _ hi hv)
    rw [List.append_nil]; exact heap_alloc_new w _) (fun hw => hval _ _ (upd_same _ _ _) hw) hvi hi

theorem g_alloc (c : Ctx X P TI a U ρ w H ev) (hn : ¬ U nid) {t : TypeId} {i : TInfo} {cs : List D} (ho : o.op = .alloc t) (h1 : TI t = some i) (h2 : i.zero.cells? = some cs) : OpGood X P o a U ρ w H nid (.ptr nid 0) [.set nid (some (.cells cs))] := by
  obtain ⟨z, h3, h4, h5, h6, h7⟩ := zero_VRs c h1 h2 w
  refine rowGood c hn (cells := z.cells.toList) (e := t) (u := .pointer (some ⟨w.heap.size, 0, none⟩)) ?_ h4 (by rw [h7]; simp) (fun ρ' w' hr _ => ptr_new hr) (by simp [D.ids])
  unfold execOp; simp only [ho]
  exact exec_value (by simp [Instr.alloc, h3, newVar, newRow])

theorem g_box (c : Ctx X P TI a U ρ w H ev) (hn : ¬ U nid) {t : TypeId} {x : Operand} {cs : List D} (ho : o.op = .box t x) (h1 : (ev x).cells? = some cs) : OpGood X P o a U ρ w H nid (.ptr nid 0) [.set nid (some (.cells cs))] := by
  have hx := cells_VRs (c.E x) h1
  refine rowGood c hn (cells := (a.eval x).cells.toList) (e := t) (u := .pointer (some ⟨w.heap.size, 0, none⟩)) ?_ hx (by rw [ids_cells h1]; exact c.I x) (fun ρ' w' hr _ => ptr_new hr) (by simp [D.ids])
  unfold execOp; simp only [ho]
  exact exec_value (by simp [Instr.box, newVar, newRow])

theorem zeroD_VRs {i : TInfo} {zc : List D} (h2 : i.zero.cells? = some zc) {z : Value} (h4 : VRs X ρ w zc z.cells.toList) (h7 : D.idsL zc = []) (n : Nat) (hpos : n = 0 ∨ 0 < zc.length) :
    VRs X ρ w (zeroD i n) ((Array.range n).map (z.cells[· % z.cells.size]!)).toList ∧ D.idsL (zeroD i n) = [] := by
  have hl := VRs_length h4
  simp only [Array.length_toList] at hl
  unfold zeroD
  simp only [h2]
  constructor
  · refine VRs_of_get (by simp) fun j d v hd hv => ?_
    simp only [List.getElem?_map, Array.toList_map, Array.toList_range] at hd hv
    by_cases hj : j < n
    · simp only [List.getElem?_range hj, Option.map_some, Option.some.injEq] at hd hv
      have hz : 0 < zc.length := hpos.resolve_left (by omega)
      have hm : j % zc.length < zc.length := Nat.mod_lt _ hz
      obtain ⟨u, h8, h9⟩ := VRs_get h4 (j % zc.length) zc[j % zc.length] (by simp [hm])
      have e1 : d = zc[j % zc.length] := by rw [← hd]; simp [List.getD, hm]
      have e2 : v = u := by
        rw [← hv, ← hl]
        have hm' : j % zc.length < z.cells.size := by omega
        rw [getElem!_pos z.cells (j % zc.length) hm']
        simp only [Array.getElem?_toList] at h8
        rw [Array.getElem?_eq_getElem hm'] at h8
        exact Option.some.inj h8
      rw [e1, e2]; exact h9
    · rw [List.getElem?_eq_none (by simpa using hj)] at hd; simp at hd
  · refine idsL_nil_of fun d hd => ?_
    obtain ⟨j, hj, rfl⟩ := List.mem_map.1 hd
    by_cases hz : j % zc.length < zc.length
    · simp only [List.getD, List.getElem?_eq_getElem hz, Option.getD_some]
      exact ids_of_idsL_nil h7 (by simp)
    · simp only [List.getD, List.getElem?_eq_none (Nat.le_of_not_lt hz), Option.getD_none, D.ids]

theorem sl_new {ρ' : Nat → Place} {w' : World} {g sz n : Nat} {cells : List Value} {e : TypeId} (h : ρ' nid = .row g) (hg : w'.heap[g]? = some (.cells cells.toArray e (0, 0))) (hl : cells.length = n * sz) (hm : n ≤ maxLen) :
    VR X ρ' w' (.sl nid sz 0 n) (.slice (some ⟨g, 0, none⟩) n n) :=
  VR_new_sl (cap := n) h hg (by simp [hl]) (Nat.le_refl _) hm

theorem fill_length (place : Nat → Option (Nat × Nat)) : ∀ {qs : List (Nat × Value)} {cells out : Array Value}, Instr.fill place cells qs = some out → out.size = cells.size
  | [], cells, out, h => by simp only [Instr.fill, Option.some.injEq] at h; rw [h]
  | (i, v) :: qs, cells, out, h => by
    simp only [Instr.fill] at h
    split at h
    · cases h
    · split at h
      · cases h
      · rw [fill_length place h]
        rename_i off size _ _
        rw [← Array.foldl_toList]
        have : ∀ (l : List (Value × Nat)) (cs : Array Value), (l.foldl (fun cs x => cs.setIfInBounds (off + x.2) x.1) cs).size = cs.size := by
          intro l
          induction l with
          | nil => intro cs; rfl
          | cons x l ih => intro cs; simp only [List.foldl_cons]; rw [ih]; simp
        exact this _ _

theorem g_buildSlice (c : Ctx X P TI a U ρ w H ev) (hn : ¬ U nid) {t : TypeId} {n : Nat} {parts : Array (Nat × Operand)} {v : D} {cs : List D} (ho : o.op = .buildSlice t n parts) (hb : buildSliceI TI nid ev t n parts v cs) :
    OpGood X P o a U ρ w H nid v [.set nid (some (.cells cs))] := by
  obtain ⟨i, e, ie, zc, h1, hd, h2, hz, hsm, hsm', hfill, rfl⟩ := hb
  obtain ⟨z, h3, h4, h5, h6, h7⟩ := zero_VRs c h2 hz w
  obtain ⟨h8, h9⟩ := parts_VRs c parts
  have hu : P.underlying t = some (.slice e) := hd ▸ (c.T.ok _ _ h1).1
  obtain ⟨hzd, hzi⟩ := zeroD_VRs hz h4 h7 (n * ie.size) (by rw [h6]; rcases Nat.eq_zero_or_pos ie.size with h0 | h0 <;> simp [h0])
  obtain ⟨us, h10, h11⟩ := fill_sound _ h8 h9 hzd hfill
  have hlen : us.length = n * ie.size := by have := fill_length _ h10; simpa using this
  have hids : ∀ b ∈ D.idsL cs, U b := fillD_ids _ U (fun p hp => by obtain ⟨q, _, rfl⟩ := List.mem_map.1 hp; exact c.I q.2) (by rw [hzi]; simp) hfill
  refine rowGood c hn (cells := us) (e := e) (u := .slice (some ⟨w.heap.size, 0, none⟩) n n) ?_ h11 hids (fun ρ' w' hr hg => sl_new hr hg hlen (by unfold maxLen; omega)) (by simp [D.ids])
  unfold execOp; simp only [ho]
  refine exec_value ?_
  have hsm2 : ¬ (n * ie.size > 2 ^ 24) := by omega
  have hm : ((Array.range (n * ie.size)).map (z.cells[· % z.cells.size]!)) = ((Array.range (n * ie.size)).map (z.cells[· % z.cells.size]!)).toList.toArray := (Array.toArray_toList).symm
  have r0 : Array.range 0 = #[] := rfl
  by_cases h0 : n * ie.size = 0
  · rw [h0] at h10
    simp only [Instr.buildSlice, Sem.run_bind, run_underlying hu, Result.andThen_ok, run_size c.T h2, h0]
    simp [r0] at h10
    simp [r0, h10, newRow]
  · rw [← hm] at h10
    simp only [Instr.buildSlice, Sem.run_bind, run_underlying hu, Result.andThen_ok, run_size c.T h2, hsm2, if_false, h0, h3, Sem.run_pure, h10]
    simp [newRow]

theorem g_makeSlice (c : Ctx X P TI a U ρ w H ev) (hn : ¬ U nid) {t : TypeId} {x y : Operand} {v : D} {hw : List HW} {rw' : List Rng} (ho : o.op = .makeSlice t x y) (hb : makeSliceI TI nid t (ev x) (ev y) v hw rw') :
    OpGood X P o a U ρ w H nid v hw := by
  obtain ⟨i, e, ie, zc, k, k', n, h1, hd, h2, hz, hx, hy, hby, hpos, rfl, rfl, _⟩ := hb
  obtain ⟨z, h3, h4, h5, h6, h7⟩ := zero_VRs c h2 hz w
  have hu : P.underlying t = some (.slice e) := hd ▸ (c.T.ok _ _ h1).1
  have hex := c.E x
  rw [hx] at hex; simp only [VR] at hex
  have hey := c.E y
  rw [hy] at hey; simp only [VR] at hey
  have hnb : n ≤ 140737488355328 := Nat.le_trans (Nat.le_mul_of_pos_right _ hpos) hby
  obtain ⟨info, hi1, hi2, _⟩ := run_info c.T h2 w
  obtain ⟨hzd, hzi⟩ := zeroD_VRs hz h4 h7 (n * ie.size) (by rw [h6]; rcases Nat.eq_zero_or_pos ie.size with h0 | h0 <;> simp [h0])
  refine rowGood c hn (cells := ((Array.range (n * ie.size)).map (z.cells[· % z.cells.size]!)).toList) (e := e) (u := .slice (some ⟨w.heap.size, 0, none⟩) n n) ?_ hzd (by rw [hzi]; simp) (fun ρ' w' hr hg => sl_new hr hg (by simp) (by unfold maxLen; omega)) (by simp [D.ids])
  unfold execOp; simp only [ho]
  refine exec_value ?_
  have hwrap : IntKind.i64.wrap (n : Int) = n := by
    unfold IntKind.wrap; simp [IntKind.signed, IntKind.bits]; omega
  have hbig : ¬ ((info.bytes : Int) * (n : Int) > 2 ^ 48) := by
    rw [hi2]; rw [Nat.mul_comm] at hby; omega
  have hn0 : ¬ ((n : Int) < 0) := by omega
  have hnn : ¬ ((n : Int) > n) := by omega
  simp only [Instr.makeSlice, Sem.run_bind, run_underlying hu, Result.andThen_ok, hex, hey, asInt, asIntOf, Sem.run_pure, hi1, hwrap]
  simp only [hn0, hbig, hnn, decide_false, Bool.or_self, Bool.false_eq_true, if_false, Sem.run_bind, run_askRoom, Result.andThen_ok, Int.toNat_natCast, run_size c.T h2]
  have r0 : Array.range 0 = #[] := rfl
  by_cases h0 : n * ie.size = 0
  · simp [h0, newRow, r0]
  · simp [h0, h3, newRow]
    congr 2
    apply Array.ext'
    simp

theorem g_makeMap (c : Ctx X P TI a U ρ w H ev) (hn : ¬ U nid) {t : TypeId} (ho : o.op = .makeMap t none) : OpGood X P o a U ρ w H nid (.mp nid) [.set nid (some (.map []))] := by
  refine newGood c.h c.wh hn (u := .map (some w.heap.size)) (obj := .map #[] 0) (w' := w.alloc (.map #[] 0)) ?_ rfl rfl rfl rfl (sl := .map []) (fun m => ?_) (fun hw => ?_) (by simp [D.ids]) (by simp [Slot.ids, D.idsL])
  · unfold execOp; simp only [ho]
    exact exec_value (by simp [Instr.makeMap])
  · refine ⟨#[], heap_alloc_new w _, by simp [VRs], by simp [VRs], by simp⟩
  · simp only [VR]
    exact ⟨rfl, fun g hg => by rw [upd_same] at hg; cases hg; rfl⟩

theorem g_store (c : Ctx X P TI a U ρ w H ev) {t : TypeId} {x y : Operand} {hw : List HW} {rh wh : List Rng} (ho : o.op = .store t x y) (hb : storeI TI H t (ev x) (ev y) hw rh wh) : OpGood X P o a U ρ w H nid .undef hw := by
  obtain ⟨i, b, oo, cs, old, h1, hx, hy, h2, h0, h3, h4, h5, rfl, _, _⟩ := hb
  have hex := c.E x
  rw [hx] at hex
  have hcs := cells_VRs (c.E y) hy
  have hsz := cells_size (c.E y) hy
  obtain ⟨g, hg, hp, hslot⟩ := slot_of_ptr c.h hex h4 (by intro cs' e; cases e; omega)
  obtain ⟨cur, e, h6, h7⟩ := hslot
  have hlen := VRs_length h7
  have hone : ∀ v ∈ (a.eval y).cells.toList, v.oneCell' = true := VRs_scal hcs h3
  have hvl : (a.eval y).cells.toList.length = cs.length := by simpa using hsz
  have hold : old.length ≤ cur.size := by simp only [List.length_take, Array.length_toList] at hlen; omega
  have hcur : oo + cs.length ≤ cur.size := by omega
  have hst := run_storeCells_at P g oo e (a.eval y).cells.toList 0 cur w h6 (by rw [hvl]; omega) hone
  simp only [Nat.add_zero] at hst
  have hr : (execOp a.eval o).run P w = .ok .skip (w.setRow g (cur.toList.take oo ++ (a.eval y).cells.toList ++ cur.toList.drop (oo + (a.eval y).cells.toList.length)).toArray) := by
    unfold execOp; simp only [ho]
    simp only [Instr.storeAt, Instr.sureAddr, hp, storeVar, Sem.run_bind, Sem.run_pure, Result.andThen_ok, run_size c.T h1]
    rw [if_neg (by rw [hsz, h2]; simp)]
    simp only [hst, Result.andThen_ok]
  obtain ⟨m1, m2, m3⟩ := step_set c.h c.wh hg h6 (new := (cur.toList.take oo ++ (a.eval y).cells.toList ++ cur.toList.drop (oo + (a.eval y).cells.toList.length)).toArray)
    (by simp only [List.size_toArray, List.length_append, List.length_take, List.length_drop, Array.length_toList]; omega) (.cells (old.take oo ++ cs ++ old.drop (oo + cs.length))) fun m => by
      refine ⟨_, e, setRow_heap' w g cur _ e h6, VRs_of_get ?_ fun j d v hd hv => ?_⟩
      · simp only [List.length_append, List.length_take, List.length_drop, Array.length_toList]
        omega
      · have hv' := take_get hv
        simp only at hv'
        have hl1 : (old.take oo).length = oo := by simp; omega
        have hl2 : (cur.toList.take oo).length = oo := by simp; omega
        rw [List.append_assoc] at hd hv'
        rw [List.getElem?_append] at hd hv'
        rw [hl1] at hd; rw [hl2] at hv'
        split at hd
        · rename_i hj
          rw [if_pos hj] at hv'
          obtain ⟨v', h8, h9⟩ := VRs_get h7 j d (take_get hd)
          have := take_get h8
          rw [take_get hv'] at this
          cases this
          exact VR_mono m _ _ (fun b' hb' => c.wh.ids b _ h4 b' (idsL_mem (List.mem_of_getElem? (take_get hd)) hb')) h9
        · rename_i hj
          rw [if_neg hj] at hv'
          rw [List.getElem?_append] at hd hv'
          rw [hvl] at hv'
          split at hd
          · rename_i hj2
            rw [if_pos hj2] at hv'
            obtain ⟨v', h8, h9⟩ := VRs_get hcs _ d hd
            rw [hv'] at h8; cases h8
            exact VR_mono m _ _ (fun b' hb' => c.I y b' (by rw [← ids_cells hy]; exact idsL_mem (List.mem_of_getElem? hd) hb')) h9
          · rename_i hj2
            rw [if_neg hj2, List.getElem?_drop] at hv'
            rw [List.getElem?_drop] at hd
            obtain ⟨v', h8, h9⟩ := VRs_get h7 _ d hd
            have := take_get h8
            rw [hv'] at this; cases this
            exact VR_mono m _ _ (fun b' hb' => c.wh.ids b _ h4 b' (idsL_mem (List.mem_of_getElem? hd) hb')) h9
  have happ : apps H [.put b oo cs] = upd H b (some (.cells (old.take oo ++ cs ++ old.drop (oo + cs.length)))) := by
    simp only [apps, List.foldl_cons, List.foldl_nil, HW.app, h4, putL_eq old oo cs h5]
  refine ⟨.skip, undef, _, ρ, hr, .inr ⟨rfl, rfl⟩, ⟨by simp [VR], m1, by rw [happ]; exact m2, m3, fun b' hb' => .inl (c.wh.dom b' hb')⟩, by simp [D.ids], fun b' sl hb' z hz => ?_⟩
  rw [happ] at hb'
  by_cases e1 : b' = b
  · subst e1
    rw [upd_same] at hb'; cases hb'
    simp only [Slot.ids, idsL_append, List.mem_append] at hz
    rcases hz with (hz | hz) | hz
    · exact .inl (c.wh.ids _ _ h4 z (idsL_take hz))
    · exact .inl (c.I y z (by rw [← ids_cells hy]; exact hz))
    · exact .inl (c.wh.ids _ _ h4 z (idsL_drop hz))
  · rw [upd_ne _ _ e1] at hb'; exact .inl (c.wh.ids b' sl hb' z hz)

end

end Go.Tw
end

section
namespace Go.Tw
variable {X : Nat → Prop}
open Go.MapKept

section
variable {P : Program} {TI : TT} {o : Oper} {a : Act} {U : Nat → Prop} {ρ : Nat → Place} {w : World} {H : Nat → Option Slot} {nid : Nat} {ev : Operand → D}

/-! ## Maps -/

theorem isK_key {kd : TypeDesc} {k : D} {v : Value} (h : isK kd k = true) (hv : VR X ρ w k v) : IsKey kd v := by
  cases kd <;> cases k <;> simp only [isK, Bool.false_eq_true] at h <;> simp only [VR] at hv <;> subst hv <;> simp_all [IsKey]

theorem eqK_now {kd : TypeDesc} {k x : D} {u v : Value} {r : Bool} (h : eqK kd k x = some r) (hk : VR X ρ w k u) (hx : VR X ρ w x v) : Instr.sameNow kd u v = some r ∧ (r = true → u = v) := by
  cases k <;> cases x <;> simp only [eqK, reduceCtorEq] at h <;> simp only [VR] at hk hx <;> subst hk hx <;> cases kd <;> simp only [reduceCtorEq] at h
  · simp only [Option.some.injEq] at h; subst h; simp [Instr.sameNow]
  · split at h
    · rename_i e; subst e; simp only [Option.some.injEq] at h; subst h; simp [Instr.sameNow]
    · cases h
  · simp only [Option.some.injEq] at h; subst h
    simp only [Instr.sameNow, beq_toListBytes, ba_toList, true_and, beq_iff_eq, Value.string.injEq]
    intro e; rw [e]

theorem findK_now {kd : TypeDesc} {k : D} {u : Value} (hk : VR X ρ w k u) : ∀ {es : List (D × D)} {ents : List MapEntry} {i : Nat} {r : Option (Nat × D)}, VRs X ρ w (es.map (·.1)) (ents.map (·.key)) → VRs X ρ w (es.map (·.2)) (ents.map (·.val)) → findK kd k es i = some r →
    match r with
    | none => Instr.findNow kd u ents i = some none
    | some (j, y) => ∃ v e, Instr.findNow kd u ents i = some (some (j, v)) ∧ VR X ρ w y v ∧ i ≤ j ∧ ents[j - i]? = some e ∧ e.key = u ∧ e.val = v ∧ ∃ x, es[j - i]? = some (x, y)
  | [], ents, i, r, h1, _, h => by
    have : ents = [] := by simp only [List.map_nil, VRs] at h1; simpa using h1
    subst this
    simp only [findK, Option.some.injEq] at h
    subst h
    simp [Instr.findNow]
  | (x, y) :: es, ents, i, r, h1, h2, h => by
    cases ents with
    | nil => simp [VRs] at h1
    | cons e ents =>
      simp only [List.map_cons, VRs, List.cons.injEq] at h1 h2
      obtain ⟨v1, vs1, ⟨rfl, rfl⟩, h3, h4⟩ := h1
      obtain ⟨v2, vs2, ⟨rfl, rfl⟩, h5, h6⟩ := h2
      simp only [findK] at h
      split at h
      · rename_i he
        obtain ⟨h7, h8⟩ := eqK_now he hk h3
        simp only [Option.some.injEq] at h
        subst h
        exact ⟨e.val, e, by simp [Instr.findNow, h7], h5, Nat.le_refl _, by simp, (h8 rfl).symm, rfl, x, by simp⟩
      · rename_i he
        obtain ⟨h7, _⟩ := eqK_now he hk h3
        have ih := findK_now hk h4 h6 h
        cases r with
        | none => simp only [Instr.findNow, h7]; exact ih
        | some jy =>
          obtain ⟨j, y'⟩ := jy
          obtain ⟨v, e', h9, h10, h11, h12, h13, h14, x', h15⟩ := ih
          have hj : j - i = (j - (i + 1)) + 1 := by omega
          exact ⟨v, e', by simp only [Instr.findNow, h7]; exact h9, h10, by omega, by rw [hj]; simpa using h12, h13, h14, x', by rw [hj]; simpa using h15⟩
      · cases h

theorem slot_of_mp (h : HRel X ρ w H) {b : Nat} {v : Value} (hv : VR X ρ w (.mp b) v) {es : List (D × D)} (hb : H b = some (.map es)) : ∃ g ents, ρ b = .row g ∧ v = .map (some g) ∧ w.heap[g]? = some (.map ents ents.size) ∧
    VRs X ρ w (es.map (·.1)) (ents.toList.map (·.key)) ∧ VRs X ρ w (es.map (·.2)) (ents.toList.map (·.val)) ∧ ∀ (i : Nat) (e : MapEntry), ents[i]? = some e → e.born = i := by
  simp only [VR] at hv
  cases hr : ρ b with
  | none => exact absurd hr (h.live b _ hb)
  | nil => have := h.nil b hr; rw [hb] at this; cases this
  | row g =>
    obtain ⟨sl', h1, h2⟩ := h.row b g hr
    rw [hb] at h1; cases h1
    obtain ⟨ents, h3, h4, h5, h6⟩ := h2
    exact ⟨g, ents, rfl, hv.2 g hr, h3, h4, h5, h6⟩

theorem zero_VR (c : Ctx X P TI a U ρ w H ev) {t : TypeId} {i : TInfo} (h : TI t = some i) (w' : World) : ∃ z, (zeroValue t).run P w' = .ok z w' ∧ VR X ρ w i.zero z ∧ i.zero.ids = [] := by
  obtain ⟨z, h1, h2, _⟩ := run_zero c.T h w'
  exact ⟨z, h1, by rw [← h2]; exact VR_ofV z, by rw [← h2]; exact ids_ofV z⟩

theorem g_lookup (c : Ctx X P TI a U ρ w H ev) {t : TypeId} {x k : Operand} {ok : Bool} {v : D} {rh : List Rng} (ho : o.op = .lookup t x k ok) (hb : lookupI TI H t (ev x) (ev k) ok v rh) : OpGood X P o a U ρ w H nid v [] := by
  obtain ⟨i, ke, el, ike, iel, h1, hd, h2, hk, h3, hb⟩ := hb
  have hx := c.E x
  have hkv := c.E k
  have hu : P.underlying t = some (.map ke el) := hd ▸ (c.T.ok _ _ h1).1
  have huk := (c.T.ok _ _ h2).1
  obtain ⟨z, hz, hzv, hzi⟩ := zero_VR c h3 w
  have hkey := isK_key hk hkv
  have key : ∀ u, (Instr.lookup t (a.eval x) (a.eval k) ok).run P w = .ok u w → (execOp a.eval o).run P w = .ok (.value u) w := fun u hu => by
    unfold execOp; simp only [ho]; exact exec_value hu
  have hfin : ∀ (ents : Array MapEntry) (r : Option (Nat × Value)) (y : D) (u : Value) (bo : Bool), ((a.eval x = .map none ∧ ents = #[]) ∨ ∃ g clock, a.eval x = .map (some g) ∧ w.heap[g]? = some (.map ents clock)) → Instr.findNow ike.desc (a.eval k) ents.toList 0 = some r →
      (match r with | some (_, v) => (v, true) | none => (z, false)) = (u, bo) → VR X ρ w y u → (∀ b ∈ y.ids, U b) → v = (if ok then .tup [y, .bool bo] else y) → OpGood X P o a U ρ w H nid v [] := by
    intro ents r y u bo he hf hr hy hyi hv
    have hrun : (Instr.lookup t (a.eval x) (a.eval k) ok).run P w = .ok (if ok then .tuple #[u, .bool bo] else u) w := by
      rcases he with ⟨he, rfl⟩ | ⟨g, clock, he, hg⟩
      · have hf' : (Instr.findKey ke (a.eval k) (#[] : Array MapEntry).toList).run P w = .ok r w := run_findKey huk hf
        simp only [Instr.lookup, Sem.run_bind, run_underlying hu, Result.andThen_ok, he, Sem.run_pure, run_checkKey huk hkey, hf']
        cases r with
        | none => simp only at hr; cases hr; simp [hz]
        | some r => simp only at hr; cases hr; simp
      · simp only [Instr.lookup, Sem.run_bind, run_underlying hu, Result.andThen_ok, he, run_getObj_map hg, Sem.run_pure, run_checkKey huk hkey, run_findKey huk hf]
        cases r with
        | none => simp only at hr; cases hr; simp [hz]
        | some r => simp only at hr; cases hr; simp
    subst hv
    cases ok with
    | true =>
      refine pureGood c.h c.wh (key _ hrun) ?_ (by simpa [D.ids, D.idsL] using hyi)
      simp only [if_true, VR, VRs]
      exact ⟨[u, .bool bo], rfl, u, [.bool bo], rfl, hy, .bool bo, [], rfl, rfl, rfl⟩
    | false => exact pureGood c.h c.wh (key _ hrun) hy hyi
  cases hxd : ev x <;> rw [hxd] at hb hx <;> simp only at hb
  case mp b =>
    obtain ⟨es, r, h4, h5, _, hv⟩ := hb
    obtain ⟨g, ents, h6, h7, h8, h9, h10, h11⟩ := slot_of_mp c.h hx h4
    have hf := findK_now hkv h9 h10 h5
    cases r with
    | none =>
      refine hfin ents none iel.zero z false ?_ hf rfl hzv (by rw [hzi]; simp) (by simpa using hv)
      exact .inr ⟨g, _, h7, h8⟩
    | some jy =>
      obtain ⟨j, y⟩ := jy
      obtain ⟨u, e, h12, h13, _, _, _, _, x', h14⟩ := hf
      refine hfin ents (some (j, u)) y u true ?_ h12 rfl h13 (fun b' hb' => ?_) (by simpa using hv)
      · exact .inr ⟨g, _, h7, h8⟩
      · refine c.wh.ids b _ h4 b' ?_
        simp only [Slot.ids, List.mem_append]
        exact .inr (idsL_mem (List.mem_map.2 ⟨(x', y), List.mem_of_getElem? h14, rfl⟩) hb')
  case nmp =>
    obtain ⟨_, hv⟩ := hb
    simp only [VR] at hx
    exact hfin #[] none iel.zero z false (.inl ⟨hx, rfl⟩) (by simp [Instr.findNow]) rfl hzv (by rw [hzi]; simp) hv

/-- A map's block is written: what the twin holds of it. -/
theorem mapGood (c : Ctx X P TI a U ρ w H ev) {b g : Nat} {es es' : List (D × D)} {ents ents' : Array MapEntry} {n : Next} {u : Value} {v : D} (hg : ρ b = .row g) (h8 : w.heap[g]? = some (.map ents ents.size)) (hH : H b = some (.map es))
    (hr : (execOp a.eval o).run P w = .ok n { w with heap := w.heap.setIfInBounds g (.map ents' ents'.size) }) (hn : n = .value u ∨ (n = .skip ∧ u = undef))
    (hk : VRs X ρ w (es'.map (·.1)) (ents'.toList.map (·.key))) (hv : VRs X ρ w (es'.map (·.2)) (ents'.toList.map (·.val))) (hb : ∀ (i : Nat) (e : MapEntry), ents'[i]? = some e → e.born = i)
    (hid : ∀ b ∈ (Slot.map es').ids, U b) (hval : VR X ρ w v u) (hvi : ∀ b ∈ v.ids, U b) : OpGood X P o a U ρ w H nid v [.set b (some (.map es'))] := by
  have hset := (heap_set (o' := Obj.map ents' ents'.size) h8).1
  obtain ⟨m1, m2, m3⟩ := step_obj c.h c.wh hg h8 (.map ents' ents'.size) (w' := { w with heap := w.heap.setIfInBounds g (.map ents' ents'.size) }) (.map es') rfl fun m => by
    refine ⟨ents', hset, VRs_mono m _ _ (fun b hb => hid b ?_) hk, VRs_mono m _ _ (fun b hb => hid b ?_) hv, hb⟩
    · exact List.mem_append.2 (.inl hb)
    · exact List.mem_append.2 (.inr hb)
  refine ⟨n, u, _, ρ, hr, hn, ⟨VR_mono m1 _ _ hvi hval, m1, m2, m3, fun b' hb' => .inl (c.wh.dom b' hb')⟩, fun b hb => .inl (hvi b hb), fun b' sl hb' z hz => ?_⟩
  simp only [apps, List.foldl_cons, List.foldl_nil, HW.app] at hb'
  by_cases e1 : b' = b
  · subst e1; rw [upd_same] at hb'; cases hb'; exact .inl (hid z hz)
  · rw [upd_ne _ _ e1] at hb'; exact .inl (c.wh.ids b' sl hb' z hz)

theorem map_set_fst {es : List (D × D)} {i : Nat} {k v : D} : (es.set i (k, v)).map (·.1) = (es.map (·.1)).set i k := by simp [List.map_set]
theorem map_set_snd {es : List (D × D)} {i : Nat} {k v : D} : (es.set i (k, v)).map (·.2) = (es.map (·.2)).set i v := by simp [List.map_set]

theorem putK_ids {es : List (D × D)} {k v : D} {r : Option (Nat × D)} (h1 : ∀ b ∈ (Slot.map es).ids, U b) (h2 : ∀ b ∈ k.ids, U b) (h3 : ∀ b ∈ v.ids, U b) : ∀ b ∈ (Slot.map (putK es k v r)).ids, U b := by
  intro b hb
  have key : ∀ p ∈ putK es k v r, p ∈ es ∨ p = (k, v) := by
    intro p hp
    unfold putK at hp
    split at hp
    · exact List.mem_or_eq_of_mem_set hp
    · simpa using hp
  simp only [Slot.ids, List.mem_append] at hb
  rcases hb with hb | hb
  · obtain ⟨d, hd, hb⟩ := mem_idsL hb
    obtain ⟨p, hp, rfl⟩ := List.mem_map.1 hd
    rcases key p hp with h | rfl
    · exact h1 b (List.mem_append.2 (.inl (idsL_mem (List.mem_map.2 ⟨p, h, rfl⟩) hb)))
    · exact h2 b hb
  · obtain ⟨d, hd, hb⟩ := mem_idsL hb
    obtain ⟨p, hp, rfl⟩ := List.mem_map.1 hd
    rcases key p hp with h | rfl
    · exact h1 b (List.mem_append.2 (.inr (idsL_mem (List.mem_map.2 ⟨p, h, rfl⟩) hb)))
    · exact h3 b hb

/-- The entries behind a write. -/
theorem put_ents {es : List (D × D)} {ents : Array MapEntry} {k y : D} {ku yu : Value} {r : Option (Nat × D)} {kd : TypeDesc} (hk : VR X ρ w k ku) (hy : VR X ρ w y yu) (h9 : VRs X ρ w (es.map (·.1)) (ents.toList.map (·.key))) (h10 : VRs X ρ w (es.map (·.2)) (ents.toList.map (·.val)))
    (h11 : ∀ (i : Nat) (e : MapEntry), ents[i]? = some e → e.born = i) (hf : findK kd k es 0 = some r) :
    ∃ ents' : Array MapEntry, (match r with | some (j, _) => ents' = ents.modify j (fun e => { e with key := ku, val := yu }) | none => ents' = ents.push { key := ku, val := yu, born := ents.size }) ∧
      VRs X ρ w ((putK es k y r).map (·.1)) (ents'.toList.map (·.key)) ∧ VRs X ρ w ((putK es k y r).map (·.2)) (ents'.toList.map (·.val)) ∧ (∀ (i : Nat) (e : MapEntry), ents'[i]? = some e → e.born = i) ∧
      ents'.size = (match r with | some _ => ents.size | none => ents.size + 1) := by
  cases r with
  | none =>
    refine ⟨_, rfl, ?_, ?_, fun i e he => ?_, by simp⟩
    · simp only [putK, List.map_append, Array.toList_push]
      refine VRs_append h9 ?_
      simp only [List.map_cons, List.map_nil, VRs]
      exact ⟨ku, [], rfl, hk, rfl⟩
    · simp only [putK, List.map_append, Array.toList_push]
      refine VRs_append h10 ?_
      simp only [List.map_cons, List.map_nil, VRs]
      exact ⟨yu, [], rfl, hy, rfl⟩
    · rw [Array.getElem?_push] at he
      split at he
      · rename_i hi; simp only [Option.some.injEq] at he; subst he; simp [hi]
      · exact h11 i e he
  | some jy =>
    obtain ⟨j, y'⟩ := jy
    have hm : (ents.modify j (fun e => { e with key := ku, val := yu })).toList = ents.toList.modify j (fun e => { e with key := ku, val := yu }) := by simp
    have hmk : (ents.toList.modify j (fun e => { e with key := ku, val := yu })).map (·.key) = (ents.toList.map (·.key)).set j ku := by
      apply List.ext_getElem?
      intro i
      simp only [List.getElem?_map, List.getElem?_modify, List.getElem?_set, List.length_map]
      by_cases e1 : j = i
      · subst e1
        by_cases e2 : j < ents.toList.length
        · simp at e2; simp [e2]
        · simp at e2; simp [Array.getElem?_eq_none e2]; omega
      · simp [e1]
    have hmv : (ents.toList.modify j (fun e => { e with key := ku, val := yu })).map (·.val) = (ents.toList.map (·.val)).set j yu := by
      apply List.ext_getElem?
      intro i
      simp only [List.getElem?_map, List.getElem?_modify, List.getElem?_set, List.length_map]
      by_cases e1 : j = i
      · subst e1
        by_cases e2 : j < ents.toList.length
        · simp at e2; simp [e2]
        · simp at e2; simp [Array.getElem?_eq_none e2]; omega
      · simp [e1]
    refine ⟨_, rfl, ?_, ?_, fun i e he => ?_, by simp⟩
    · rw [hm, hmk]
      simp only [putK, map_set_fst]
      exact VRs_set h9 j hk
    · rw [hm, hmv]
      simp only [putK, map_set_snd]
      exact VRs_set h10 j hy
    · rw [Array.getElem?_modify] at he
      split at he
      · rename_i e1; subst e1
        cases hh : ents[j]? with
        | none => rw [hh] at he; simp at he
        | some e0 => rw [hh] at he; simp only [Option.map_some, Option.some.injEq] at he; subst he; exact h11 _ e0 hh
      · exact h11 i e he

theorem g_mapUpdate (c : Ctx X P TI a U ρ w H ev) {t : TypeId} {x k y : Operand} {hw : List HW} {rh wh : List Rng} (ho : o.op = .mapUpdate t x k y ∨ o.op = .insert t x k y) (hb : mapUpdateI TI H t (ev x) (ev k) (ev y) hw rh wh) : OpGood X P o a U ρ w H nid .undef hw := by
  obtain ⟨i, ke, el, ike, b, es, r, h1, hd, h2, hk, hx, h4, h5, rfl, _, _⟩ := hb
  have hxv := c.E x
  rw [hx] at hxv
  have hkv := c.E k
  have hu : P.underlying t = some (.map ke el) := hd ▸ (c.T.ok _ _ h1).1
  have huk := (c.T.ok _ _ h2).1
  have hkey := isK_key hk hkv
  obtain ⟨g, ents, h6, h7, h8, h9, h10, h11⟩ := slot_of_mp c.h hxv h4
  have hf := findK_now hkv h9 h10 h5
  obtain ⟨ents', he, hk', hv', hb', hsz⟩ := put_ents hkv (c.E y) h9 h10 h11 h5
  refine mapGood c (n := .skip) (u := undef) h6 h8 h4 (ents' := ents') ?_ (.inr ⟨rfl, rfl⟩) hk' hv' hb' (putK_ids (c.wh.ids b _ h4) (c.I k) (c.I y)) (by simp [VR]) (by simp [D.ids])
  have hrun : (Instr.mapUpdate t (a.eval x) (a.eval k) (a.eval y)).run P w = .ok () { w with heap := w.heap.setIfInBounds g (.map ents' ents'.size) } := by
    simp only [Instr.mapUpdate, Sem.run_bind, run_underlying hu, Result.andThen_ok, h7, run_getObj_map h8, run_checkKey huk hkey]
    cases r with
    | none =>
      simp only at hf he hsz
      subst he
      simp only [run_findKey huk hf, Result.andThen_ok, run_setObj_map _ h8, hsz]
    | some jy =>
      obtain ⟨j, y'⟩ := jy
      simp only at he hsz
      obtain ⟨u, e, h12, h13, _, h14, h15, _⟩ := hf
      subst he
      simp only [Nat.sub_zero, Array.getElem?_toList] at h14
      simp only [run_findKey huk h12, Result.andThen_ok, Sem.run_bind, h14, Option.map_some, Option.getD_some, h15, run_keyThatStays hkey, run_setObj_map _ h8, hsz]
  unfold execOp
  rcases ho with ho | ho <;> simp [ho, hrun]

theorem g_mapEntry (c : Ctx X P TI a U ρ w H ev) {t : TypeId} {x k : Operand} {v : D} {hw : List HW} {rh wh : List Rng} (ho : o.op = .mapEntry t x k) (hb : mapEntryI TI H t (ev x) (ev k) v hw rh wh) : OpGood X P o a U ρ w H nid v hw := by
  obtain ⟨i, ke, el, ike, iel, b, es, r, h1, hd, h2, hk, h3, hx, h4, h5, rfl, _, _, hv⟩ := hb
  have hxv := c.E x
  rw [hx] at hxv
  have hkv := c.E k
  have hu : P.underlying t = some (.map ke el) := hd ▸ (c.T.ok _ _ h1).1
  have huk := (c.T.ok _ _ h2).1
  have hkey := isK_key hk hkv
  obtain ⟨z, hz, hzv, hzi⟩ := zero_VR c h3 w
  obtain ⟨g, ents, h6, h7, h8, h9, h10, h11⟩ := slot_of_mp c.h hxv h4
  have hf := findK_now hkv h9 h10 h5
  have hexec : ∀ u w', (Instr.mapEntry t (a.eval x) (a.eval k)).run P w = .ok u w' → (execOp a.eval o).run P w = .ok (.value u) w' := fun u w' hu => by
    unfold execOp; simp only [ho]; exact exec_value hu
  have hesl : es.length = ents.size := by have := VRs_length h9; simpa using this
  cases r with
  | none =>
    simp only at hf hv
    obtain ⟨ents', he, hk', hv', hb', hsz⟩ := put_ents hkv hzv h9 h10 h11 h5
    simp only at he hsz
    subst he
    refine mapGood c (n := .value (.tuple #[z, .int .i64 ents.size])) (u := .tuple #[z, .int .i64 ents.size]) h6 h8 h4 (ents' := ents.push { key := a.eval k, val := z, born := ents.size }) (hexec _ _ ?_) (.inl rfl) hk' hv' hb' (putK_ids (c.wh.ids b _ h4) (c.I k) (by rw [hzi]; simp)) ?_ ?_
    · simp only [Instr.mapEntry, Sem.run_bind, run_underlying hu, Result.andThen_ok, h7, run_getObj_map h8, run_checkKey huk hkey, run_findKey huk hf, hz, run_setObj_map _ h8, goInt, Sem.run_pure, hsz]
    · rw [hv]; simp only [VR, VRs]; exact ⟨[z, .int .i64 ents.size], rfl, z, _, rfl, hzv, _, [], rfl, by rw [hesl], rfl⟩
    · rw [hv]; simp [D.ids, D.idsL, hzi]
  | some jy =>
    obtain ⟨j, y⟩ := jy
    simp only at hv
    obtain ⟨u, e, h12, h13, _, h14, h15, h16, x', h17⟩ := hf
    simp only [Nat.sub_zero] at h14 h17
    simp only [Array.getElem?_toList] at h14
    obtain ⟨ents', he, hk', hv', hb', hsz⟩ := put_ents hkv h13 h9 h10 h11 h5
    simp only at he hsz
    have hborn := h11 j e h14
    have hsame : ents.modify j (fun e => { e with key := a.eval k }) = ents' := by
      rw [he]
      apply Array.ext'
      simp only [Array.toList_modify]
      apply List.ext_getElem?
      intro i'
      simp only [List.getElem?_modify]
      by_cases e1 : j = i'
      · subst e1; simp [h14, h16]
      · simp [e1]
    have hyi : ∀ b ∈ y.ids, U b := fun b' hb' => c.wh.ids b _ h4 b' (List.mem_append.2 (.inr (idsL_mem (List.mem_map.2 ⟨(x', y), List.mem_of_getElem? h17, rfl⟩) hb')))
    refine mapGood c (n := .value (.tuple #[u, .int .i64 j])) (u := .tuple #[u, .int .i64 j]) h6 h8 h4 (ents' := ents') (hexec _ _ ?_) (.inl rfl) hk' hv' hb' (putK_ids (c.wh.ids b _ h4) (c.I k) hyi) ?_ ?_
    · simp only [Instr.mapEntry, Sem.run_bind, run_underlying hu, Result.andThen_ok, h7, run_getObj_map h8, run_checkKey huk hkey, run_findKey huk h12, h14, Option.map_some, Option.getD_some, h15, run_keyThatStays hkey, run_setObj_map _ h8, goInt, Sem.run_pure, hsz, hsame, hborn]
    · rw [hv]; simp only [VR, VRs]; exact ⟨[u, .int .i64 j], rfl, u, _, rfl, h13, _, [], rfl, rfl, rfl⟩
    · rw [hv]; simpa [D.ids, D.idsL] using hyi

theorem findIdx_born {ents : Array MapEntry} (h : ∀ (i : Nat) (e : MapEntry), ents[i]? = some e → e.born = i) {n : Nat} {e : MapEntry} (he : ents[n]? = some e) : ents.findIdx? (fun e => (e.born : Int) == (n : Int)) = some n := by
  rw [Array.findIdx?_eq_some_iff_getElem]
  have hlt : n < ents.size := (Array.getElem?_eq_some_iff.1 he).1
  refine ⟨hlt, ?_, fun j hj => ?_⟩
  · have := h n ents[n] (by simp [hlt]); simp [this]
  · have := h j (ents[j]'(by omega)) (by simp [show j < ents.size by omega]); simp [this]; omega

theorem g_entryStore (c : Ctx X P TI a U ρ w H ev) {t : TypeId} {x s y : Operand} {hw : List HW} {rh wh : List Rng} (ho : o.op = .entryStore t x s y) (hb : entryStoreI H (ev x) (ev s) (ev y) hw rh wh) : OpGood X P o a U ρ w H nid .undef hw := by
  obtain ⟨b, es, n, p, hx, hs, h4, h5, rfl, _, _⟩ := hb
  have hxv := c.E x
  rw [hx] at hxv
  have hsv := c.E s
  rw [hs] at hsv; simp only [VR] at hsv
  obtain ⟨g, ents, h6, h7, h8, h9, h10, h11⟩ := slot_of_mp c.h hxv h4
  obtain ⟨ku, hku, hkv⟩ := VRs_get h9 n p.1 (by simp [h5])
  simp only [List.getElem?_map, Array.getElem?_toList, Option.map_eq_some_iff] at hku
  obtain ⟨e, he, rfl⟩ := hku
  have hm : (ents.modify n (fun e => { e with val := a.eval y })).toList = ents.toList.modify n (fun e => { e with val := a.eval y }) := by simp
  have hmk : (ents.toList.modify n (fun e => { e with val := a.eval y })).map (·.key) = ents.toList.map (·.key) := by
    apply List.ext_getElem?
    intro i
    simp only [List.getElem?_map, List.getElem?_modify]
    by_cases e1 : n = i
    · subst e1; simp [he]
    · simp [e1]
  have hmv : (ents.toList.modify n (fun e => { e with val := a.eval y })).map (·.val) = (ents.toList.map (·.val)).set n (a.eval y) := by
    apply List.ext_getElem?
    intro i
    simp only [List.getElem?_map, List.getElem?_modify, List.getElem?_set, List.length_map]
    by_cases e1 : n = i
    · subst e1
      have hlt : n < ents.size := (Array.getElem?_eq_some_iff.1 he).1
      simp [hlt]
    · simp [e1]
  have hes1 : (es.set n (p.1, ev y)).map (·.1) = es.map (·.1) := by
    rw [map_set_fst]
    apply List.ext_getElem?
    intro i
    simp only [List.getElem?_set, List.length_map, List.getElem?_map]
    by_cases e1 : n = i
    · subst e1
      have hlt : n < es.length := (List.getElem?_eq_some_iff.1 h5).1
      simp [h5]
      exact hlt
    · simp [e1]
  refine mapGood c (n := .skip) (u := undef) h6 h8 h4 (ents' := ents.modify n (fun e => { e with val := a.eval y })) ?_ (.inr ⟨rfl, rfl⟩) (by rw [hes1, hm, hmk]; exact h9) (by rw [map_set_snd, hm, hmv]; exact VRs_set h10 n (c.E y)) (fun i e' he' => ?_) (fun b' hb' => ?_) (by simp [VR]) (by simp [D.ids])
  · have hrun : (Instr.entryStore t (a.eval x) (a.eval s) (a.eval y)).run P w = .ok () { w with heap := w.heap.setIfInBounds g (.map (ents.modify n (fun e => { e with val := a.eval y })) (ents.modify n (fun e => { e with val := a.eval y })).size) } := by
      simp only [Instr.entryStore, h7, Sem.run_bind, Sem.run_pure, Result.andThen_ok, run_getObj_map h8, hsv, asInt, asIntOf, findIdx_born h11 he, run_setObj_map _ h8, Array.size_modify]
    unfold execOp
    simp [ho, hrun]
  · rw [Array.getElem?_modify] at he'
    split at he'
    · rename_i e1; subst e1; rw [he] at he'; simp only [Option.map_some, Option.some.injEq] at he'; subst he'; exact h11 _ e he
    · exact h11 i e' he'
  · have := putK_ids (r := some (n, p.2)) (c.wh.ids b _ h4) (k := p.1) (v := ev y) (fun b'' hb'' => c.wh.ids b _ h4 b'' (List.mem_append.2 (.inl (idsL_mem (List.mem_map.2 ⟨p, List.mem_of_getElem? h5, rfl⟩) hb'')))) (c.I y)
    exact this b' hb'

end

end Go.Tw
end

section
namespace Go.Tw
variable {X : Nat → Prop}

section
variable {P : Program} {TI : TT} {o : Oper} {a : Act} {U : Nat → Prop} {ρ : Nat → Place} {w : World} {H : Nat → Option Slot} {nid : Nat} {ev : Operand → D}

theorem VRs_byteD {l : List UInt8} {vs : List Value} (h : VRs X ρ w (byteD l) vs) : vs = l.map fun c => .int .u8 c.toNat := by
  have hl := VRs_length h
  simp only [byteD, List.length_map] at hl
  apply List.ext_getElem?
  intro i
  by_cases hi : i < l.length
  · obtain ⟨v, h1, h2⟩ := VRs_get h i (.int .u8 l[i].toNat) (by simp [byteD, hi])
    simp only [VR] at h2
    rw [h1, h2]; simp [hi]
  · rw [List.getElem?_eq_none (by omega), List.getElem?_eq_none (by simpa using hi)]

theorem byteD_VRs (l : List UInt8) : VRs X ρ w (byteD l) (l.map fun c => .int .u8 c.toNat) := by
  induction l with
  | nil => simp [byteD, VRs]
  | cons c l ih => simp only [byteD, List.map_cons, VRs] at ih ⊢; exact ⟨_, _, rfl, by simp only [VR], ih⟩

theorem idsL_byteD (l : List UInt8) : D.idsL (byteD l) = [] := idsL_nil_of fun d hd => by
  obtain ⟨c, _, rfl⟩ := List.mem_map.1 hd; simp [D.ids]

theorem fold_bytes (l : List UInt8) : ∀ (r : ByteArray), ((l.map fun c => (c.toNat : Int)).foldl (fun r n => r.push (UInt8.ofNat n.toNat)) r) = ⟨r.data ++ l.toArray⟩ := by
  induction l with
  | nil => intro r; simp
  | cons c l ih =>
    intro r
    simp only [List.map_cons, List.foldl_cons]
    rw [ih]
    simp [ByteArray.push]

theorem g_nilCmp (c : Ctx X P TI a U ρ w H ev) {op : BinOp} {ty ty' : TypeId} {x y : Operand} {v : D} {rh : List Rng} (ho : o.op = .binOp op ty x y ty') (hb : nilCmpI TI H op ty y (ev x) (ev y) v rh) : OpGood X P o a U ρ w H nid v [] := by
  obtain ⟨i, e, q, isnil, h1, h2, h3, h4, h5, hb⟩ := hb
  have hx := c.E x
  have hy := c.E y
  have hu := (c.T.ok _ _ h1).1
  rw [h2] at hu
  rw [h4] at hy; simp only [VR] at hy
  have hax : ∃ z n cap, a.eval x = .slice z n cap ∧ z.isNone = isnil := by
    cases hd : ev x <;> rw [hd] at h5 hx <;> (try simp only at h5)
    case nsl => simp only [VR] at hx; exact ⟨_, _, _, hx, h5.1.symm⟩
    case sl b sz oo n =>
      obtain ⟨rfl, ⟨cs, h7, h8⟩, _⟩ := h5
      rcases slot_of_sl c.h hx h7 with ⟨_, _, _, h9, _⟩ | ⟨g, cap, cur, e', _, h10, _⟩
      · cases h9; simp at h8
      · exact ⟨_, _, _, h10, rfl⟩
  obtain ⟨z, n, cap, hax, hz⟩ := hax
  have heq : (Op.equal ty (a.eval x) (a.eval y)).run P w = .ok isnil w := by
    rw [hax, hy]
    have hd : ∀ d, (Op.equalIn (d + 1) ty (.slice z n cap) (.slice none 0 0)).run P w = .ok isnil w := fun d => by
      rw [Op.equalIn]
      simp only [Sem.run_bind, run_underlying hu, Result.andThen_ok]
      cases z with
      | none => simp only [Option.isNone_none] at hz; subst hz; rfl
      | some z => simp only [Option.isNone_some] at hz; subst hz; rfl
    exact hd _
  have hg : ∀ op', (eqGuard op' ty x y (a.eval x) (a.eval y)).run P w = .ok () w := fun op' => by
    rw [hax, hy]
    cases op' <;> simp [eqGuard]
  cases op <;> simp only at hb <;> subst hb
  · refine pureGood c.h c.wh (u := .bool isnil) ?_ (by simp [VR]) (by simp [D.ids])
    unfold execOp; simp only [ho]
    refine exec_value ?_
    rw [hax, hy] at heq hg ⊢
    simp [hg, binOp, heq]
  · refine pureGood c.h c.wh (u := .bool (!isnil)) ?_ (by simp [VR]) (by simp [D.ids])
    unfold execOp; simp only [ho]
    refine exec_value ?_
    rw [hax, hy] at heq hg ⊢
    simp [hg, binOp, heq]

theorem g_convert (c : Ctx X P TI a U ρ w H ev) {s d : TypeId} {x : Operand} {v : D} {rh : List Rng} (ho : o.op = .convert s d x) (hb : convertI TI H s d (ev x) v rh) : OpGood X P o a U ρ w H nid v [] := by
  obtain ⟨i, j, h1, h2, hb⟩ := hb
  have hx := c.E x
  have hu := (c.T.ok _ _ h1).1
  have hu2 := (c.T.ok _ _ h2).1
  have key : ∀ u, (convert s d (a.eval x)).run P w = .ok u w → (execOp a.eval o).run P w = .ok (.value u) w := fun u hu => by
    unfold execOp; simp only [ho]; exact exec_value hu
  split at hb
  · rename_i k n k' he hd
    obtain ⟨rfl, _⟩ := hb
    rw [he] at hx; simp only [VR] at hx
    rw [hd] at hu2
    refine pureGood c.h c.wh (key (.int k' (k'.wrap n)) ?_) (by simp only [VR]) (by simp [D.ids])
    generalize i.desc = d0 at hu
    cases d0 <;> simp [convert, run_underlying hu, run_underlying hu2, hx, Conv.intToInt]
  · rename_i l he hd
    obtain ⟨rfl, _⟩ := hb
    rw [he] at hx; simp only [VR] at hx
    rw [hd] at hu2
    refine pureGood c.h c.wh (key (.string ⟨l.toArray⟩) ?_) (by simp only [VR]) (by simp [D.ids])
    generalize i.desc = d0 at hu
    cases d0 <;> simp [convert, run_underlying hu, run_underlying hu2, hx]
  · rename_i l e he hd
    obtain ⟨⟨ie, h3, h4⟩, rfl, _⟩ := hb
    rw [he] at hx; simp only [VR] at hx
    rw [hd] at hu2
    have hue : P.underlying e = some (.int .u8) := h4 ▸ (c.T.ok _ _ h3).1
    have hrun := Lib.run_convert_string_bytes (P := P) w s d e ⟨l.toArray⟩ hu hu2 hue
    rw [← hx] at hrun
    have hdl : D.idsL (byteD l) = [] := idsL_nil_of fun y hy => by
      obtain ⟨z, _, rfl⟩ := List.mem_map.1 hy; rfl
    refine growGood c.h c.wh (w' := Lib.bytesWorld w e ⟨l.toArray⟩) (by unfold execOp; simp only [ho]; exact exec_value hrun) (by rw [Lib.bytesWorld_size]; omega) (fun g hg => Lib.bytesWorld_at_old w e _ g hg) rfl rfl rfl (fun hnew => ?_) (by simp [D.ids])
    simp only [VR]
    refine ⟨hdl, some ⟨w.heap.size, 0, none⟩, grownCap w l.length 0 e, by simp [byteD, ByteArray.size], ?_, fun _ => ⟨w.heap.size, 0, rfl, hnew _ (Nat.le_refl _) (by rw [Lib.bytesWorld_size]; omega), VRe_of_get fun i y hy => ?_⟩⟩
    · rw [show (byteD l).length = l.length by simp [byteD]]
      exact grownCap_ge _ _ _ _
    · obtain ⟨b, hb, rfl⟩ : ∃ b, l[i]? = some b ∧ y = .int .u8 b.toNat := by
        simp only [byteD, List.getElem?_map, Option.map_eq_some_iff] at hy
        obtain ⟨b, h1, h2⟩ := hy; exact ⟨b, h1, h2.symm⟩
      have hi : i < l.length := (List.getElem?_eq_some_iff.1 hb).1
      refine ⟨rfl, .int .u8 b.toNat, by simp only [VR], rfl, fun j x hjx => ?_⟩
      cases j with
      | zero =>
        simp [Value.cells] at hjx; subst hjx
        have := Lib.bytesWorld_cell w e ⟨l.toArray⟩ i (by simpa [ByteArray.size] using hi)
        simp only [Nat.zero_add, Nat.mul_one, Nat.add_zero] at this ⊢
        rw [this]
        simp [List.getD, hb]
      | succ j => simp [Value.cells] at hjx
  · rename_i he hd
    obtain ⟨⟨e, ie, h3, h4, h5⟩, rfl, _⟩ := hb
    rw [he] at hx; simp only [VR] at hx
    rw [hd] at hu2; rw [h3] at hu
    have hue : P.underlying e = some (.int .u8) := h5 ▸ (c.T.ok _ _ h4).1
    refine pureGood c.h c.wh (key (.string ⟨([] : List UInt8).toArray⟩) ?_) (by simp only [VR]) (by simp [D.ids])
    rw [hx, run_convert_bytes_string w s d e none 0 0 hu hue hu2]
    rfl
  · rename_i b sz oo n he hd
    obtain ⟨e, ie, cs, l, h3, h4, h5, rfl, h6, h7, h8, rfl, _⟩ := hb
    rw [he] at hx
    rw [hd] at hu2; rw [h3] at hu
    have hue : P.underlying e = some (.int .u8) := h5 ▸ (c.T.ok _ _ h4).1
    have hfin : ∀ ad cap, a.eval x = .slice ad n cap → (n = 0 ∨ ∃ g, ad = some ⟨g, oo, none⟩ ∧ slotR X ρ w g (.cells cs)) → OpGood X P o a U ρ w H nid (.str l) [] := by
      intro ad cap hax hcase
      refine pureGood c.h c.wh (key (.string ⟨l.toArray⟩) ?_) (by simp only [VR]) (by simp [D.ids])
      rw [hax, run_convert_bytes_string w s d e ad n cap hu hue hu2]
      rcases hcase with h0 | ⟨g, rfl, hsl⟩
      · subst h0
        have hl0 : l = [] := List.eq_nil_of_length_eq_zero h7
        subst hl0
        cases ad with
        | none => rfl
        | some ad =>
          rw [run_bytesToString w ad 0 cap [] (by simp [loadCells, loadCellsFrom])]
          rfl
      · have hlen : oo + n ≤ cs.length ∨ n = 0 := by
          have := congrArg List.length h8
          simp only [List.length_take, List.length_drop, byteD, List.length_map, h7] at this
          omega
        rcases hlen with hlen | h0
        · obtain ⟨vs, h9, h10, h11⟩ := slot_cells hsl oo n hlen
          rw [h8] at h10
          have hvs := VRs_byteD h10
          have hld := run_loadCells_at (P := P) h11
          rw [h9] at hld
          have e1 : vs = (l.map fun c => (c.toNat : Int)).map (Value.int .u8) := by rw [hvs]; simp [Function.comp_def]
          rw [e1] at hld
          rw [run_bytesToString w _ n cap _ hld, fold_bytes l]
          simp [ByteArray.empty, ByteArray.emptyWithCapacity]
          rfl
        · subst h0
          have hl0 : l = [] := List.eq_nil_of_length_eq_zero h7
          subst hl0
          rw [run_bytesToString w _ 0 cap [] (by simp [loadCells, loadCellsFrom])]
          rfl
    rcases slot_of_sl c.h hx h6 with ⟨_, _, h9, _, h10⟩ | ⟨g, cap, cur, e', h9, h10, h11, _⟩
    · subst h9; exact hfin none 0 h10 (.inl rfl)
    · exact hfin _ cap h10 (.inr ⟨g, rfl, h11⟩)
  · exact hb.elim

theorem call_builtin {b : Builtin} {c : Call} {bs : List Operand} {ts : List TypeId} {u : Value} {w' : World} (ho : o.op = .call c) (hc : c.callee = .builtin b) (ha : c.args.toList = bs) (ht : c.argTypes.toList = ts)
    (hr : (builtin b ts.toArray o.type (c.args.map fun | .const _ => true | _ => false) (bs.map a.eval).toArray).run P w = .ok (.value u) w') : (execOp a.eval o).run P w = .ok (.value u) w' := by
  have e1 : c.argTypes = ts.toArray := by rw [← ht]
  have e2 : c.args.map a.eval = (bs.map a.eval).toArray := by rw [← ha]; apply Array.ext'; simp
  unfold execOp
  simp only [ho, resolve, hc, Sem.run_bind, Sem.run_pure, Result.andThen_ok, invoke, e1, e2]
  exact hr

theorem g_len (c : Ctx X P TI a U ρ w H ev) {cl : Call} {x : Operand} {t : TypeId} {v : D} {rh : List Rng} (ho : o.op = .call cl) (hc : cl.callee = .builtin .len) (ha : cl.args.toList = [x]) (ht : cl.argTypes.toList = [t]) (hb : lenI H (ev x) v rh)
    (hd : ∃ i, TI t = some i ∧ lenT (ev x) i.desc) : OpGood X P o a U ρ w H nid v [] := by
  obtain ⟨i, h1, hd⟩ := hd
  have hx := c.E x
  have hu := (c.T.ok _ _ h1).1
  have key : ∀ n : Nat, (Builtin.len_ #[t] o.type #[a.eval x]).run P w = .ok (.int .i64 n) w → OpGood X P o a U ρ w H nid (.int .i64 n) [] := fun n hn => by
    refine pureGood c.h c.wh (u := .int .i64 n) (call_builtin ho hc ha ht ?_) (by simp only [VR]) (by simp [D.ids])
    simp [builtin, hn]
  generalize i.desc = dd at hu hd
  cases hxd : ev x <;> rw [hxd] at hb hx hd <;> simp only [lenI] at hb <;> cases dd <;> simp only [lenT] at hd
  case str.string s =>
    obtain ⟨rfl, _⟩ := hb
    simp only [VR] at hx
    have hs : (ByteArray.mk s.toArray).size = s.length := by simp [ByteArray.size]
    exact key _ (by simp [Builtin.len_, run_underlying hu, hx, goInt, hs])
  case sl.slice b sz oo n e =>
    obtain ⟨sl, h2, rfl, _⟩ := hb
    rcases slot_of_sl c.h hx h2 with ⟨_, _, h9, _, h10⟩ | ⟨g, cap, cur, e', h9, h10, h11, _⟩
    · subst h9; exact key _ (by simp [Builtin.len_, run_underlying hu, h10, goInt])
    · exact key _ (by simp [Builtin.len_, run_underlying hu, h10, goInt])
  case isl.slice sz es e =>
    obtain ⟨rfl, _⟩ := hb
    simp only [VR] at hx
    obtain ⟨_, ad, cap, h3, _⟩ := hx
    exact key _ (by simp [Builtin.len_, run_underlying hu, h3, goInt])
  case nsl.slice e =>
    obtain ⟨rfl, _⟩ := hb
    simp only [VR] at hx
    exact key 0 (by simp [Builtin.len_, run_underlying hu, hx, goInt])

theorem flatD_src {sz : Nat} {g : Nat} : ∀ {es : List D} {oo : Nat}, VRe X ρ w g sz es oo → ∃ vs : List Value, vs.length = es.length * sz ∧ VRs X ρ w (flatD es) vs ∧ (∀ (j : Nat) (v : Value), vs[j]? = some v → w.cell? ⟨g, oo + j, none⟩ = some v) ∧ (∀ d ∈ flatD es, d.scal = true)
  | [], oo, _ => ⟨[], by simp, by simp [flatD, VRs], by simp, by simp [flatD]⟩
  | d :: es, oo, h => by
    simp only [VRe] at h
    obtain ⟨⟨hs, u, h1, h2, h3⟩, h4⟩ := h
    obtain ⟨vs, h5, h6, h7, h8⟩ := flatD_src h4
    have hcs : ∃ cs, d.cells? = some cs ∧ ∀ x ∈ cs, x.scal = true := by
      cases d <;> simp only [D.solid, D.scal, Bool.false_eq_true, List.all_eq_true] at hs <;> simp only [D.cells?, Option.some.injEq, exists_eq_left']
      all_goals first
        | exact hs
        | simp [D.scal]
    obtain ⟨cs, hc, hsc⟩ := hcs
    have hv := cells_VRs h1 hc
    refine ⟨u.cells.toList ++ vs, by simp [h5, h2, Nat.add_mul, Nat.add_comm], ?_, fun j v hj => ?_, fun x hx => ?_⟩
    · simp only [flatD, List.flatMap_cons, hc, Option.getD_some]
      exact VRs_append hv h6
    · rw [List.getElem?_append] at hj
      split at hj
      · exact h3 j v (by simpa using hj)
      · rename_i hlt
        have := h7 _ v hj
        simp only [Array.length_toList, h2] at this hlt
        rw [show oo + j = oo + sz + (j - sz) by omega]
        exact this
    · simp only [flatD, List.flatMap_cons, hc, Option.getD_some, List.mem_append] at hx
      rcases hx with hx | hx
      · exact hsc x hx
      · exact h8 x hx

theorem idsL_flatD {es : List D} (h : D.idsL es = []) : D.idsL (flatD es) = [] := by
  refine idsL_nil_of fun d hd => ?_
  simp only [flatD, List.mem_flatMap] at hd
  obtain ⟨x, hx, hd⟩ := hd
  have hxi := ids_of_idsL_nil h hx
  cases hc : x.cells? with
  | none => rw [hc] at hd; simp at hd
  | some cs =>
    rw [hc] at hd; simp only [Option.getD_some] at hd
    rw [← ids_cells hc] at hxi
    exact ids_of_idsL_nil hxi hd

/-- The source of an append, in the model. -/
theorem src_sound (c : Ctx X P TI a U ρ w H ev) {x : Operand} {sz m : Nat} {cs : List D} {rh : List Rng} (hb : srcI H sz (ev x) m cs rh) :
    ∃ news : List Value, Src P w sz m (a.eval x) news ∧ VRs X ρ w cs news ∧ news.length = m * sz ∧ (∀ b ∈ D.idsL cs, U b) ∧ (∀ v ∈ news, v.oneCell' = true) := by
  have hx := c.E x
  have hxi := c.I x
  have hslice : ∀ (g oo cap : Nat) (vs : List Value), vs.length = m * sz → (∀ (j : Nat) (v : Value), vs[j]? = some v → w.cell? ⟨g, oo + j, none⟩ = some v) → Src P w sz m (.slice (some ⟨g, oo, none⟩) m cap) vs := by
    intro g oo cap vs hl hc w' hw'
    refine ⟨by simp [Builtin.lenOf], ?_⟩
    have := run_loadCells_at (P := P) (w := w') (g := g) (o := oo) (vs := vs) (fun j v hj => by
      rw [← hc j v hj]; exact World.cell?_of_block (a := ⟨g, oo + j, none⟩) (by rw [hw']))
    rw [hl] at this
    simpa [Builtin.firstCells] using this
  have hempty : ∀ (ad : Option Addr) (cap : Nat), Src P w sz 0 (.slice ad 0 cap) [] := by
    intro ad cap w' _
    refine ⟨by simp [Builtin.lenOf], ?_⟩
    cases ad <;> simp [Builtin.firstCells, loadCells, loadCellsFrom]
  cases hxd : ev x <;> rw [hxd] at hb hx hxi <;> simp only [srcI] at hb
  case str s =>
    obtain ⟨rfl, rfl, rfl, _⟩ := hb
    simp only [VR] at hx
    refine ⟨s.map fun c => .int .u8 c.toNat, fun w' _ => ⟨by simp [Builtin.lenOf, hx, ByteArray.size], ?_⟩, byteD_VRs s, by simp, by rw [idsL_byteD]; simp, by simp [Value.oneCell']⟩
    simp only [hx, Builtin.firstCells, Sem.run_pure]
    congr 1
    apply Array.ext'
    have : (ByteArray.mk s.toArray).extract 0 s.length = ByteArray.mk s.toArray := by
      rw [Lib.extract_eq]; simp
    rw [this]
    simp
  case sl b sz' oo n =>
    obtain ⟨all, h1, rfl, rfl, h2, rfl, h3, _⟩ := hb
    rcases slot_of_sl c.h hx h1 with ⟨_, h5, h9, h6, h10⟩ | ⟨g, cap, cur, e', h9, h10, h11, _⟩
    · subst h9
      rw [h10]
      exact ⟨[], hempty none 0, by simp [VRs], by simp, by simp [D.idsL], by simp⟩
    · obtain ⟨vs, h12, h13, h14⟩ := slot_cells h11 oo (m * sz') h2
      rw [h10]
      exact ⟨vs, hslice g oo cap vs h12 h14, h13, h12, fun b' hb' => c.wh.ids b _ h1 b' (idsL_drop (idsL_take hb')), VRs_scal h13 h3⟩
  case isl sz' es =>
    obtain ⟨rfl, h1, rfl, _⟩ := hb
    simp only [VR] at hx
    obtain ⟨hc, ad, cap, h3, h4, h5⟩ := hx
    rw [h3]
    by_cases hne : es = []
    · subst hne
      exact ⟨[], hempty ad cap, by simp [flatD, VRs], by simp, by simp [flatD, D.idsL], by simp⟩
    · obtain rfl := h1.resolve_left hne
      obtain ⟨g, oo, rfl, _, h7⟩ := h5 hne
      obtain ⟨vs, h8, h9, h10, h11⟩ := flatD_src h7
      exact ⟨vs, hslice g oo cap vs h8 h10, h9, h8, by rw [idsL_flatD hc]; simp, VRs_scal h9 h11⟩
  case nsl =>
    obtain ⟨rfl, rfl, _⟩ := hb
    simp only [VR] at hx
    rw [hx]
    exact ⟨[], hempty none 0, by simp [VRs], by simp, by simp [D.idsL], by simp⟩

theorem g_append (c : Ctx X P TI a U ρ w H ev) (hn : ¬ U nid) {cl : Call} {s x : Operand} {t t2 : TypeId} {v : D} {hw : List HW} {rh wh : List Rng} (ho : o.op = .call cl) (hc : cl.callee = .builtin .append) (ha : cl.args.toList = [s, x]) (ht : cl.argTypes.toList = [t, t2])
    (hb : appendI TI nid H t t2 (ev s) (ev x) v hw rh wh) : OpGood X P o a U ρ w H nid v hw := by
  obtain ⟨it, e, i2, ie, m, cs, rh', h1, h1d, h2, h2d, h3, hpos, hsrc, hb⟩ := hb
  obtain ⟨news, h4, h5, h6, h7, h8⟩ := src_sound c hsrc
  have hs := c.E s
  have key : ∀ u w', (Builtin.append_ #[t, t2] o.type #[a.eval s, a.eval x]).run P w = .ok u w' → (execOp a.eval o).run P w = .ok (.value u) w' := fun u w' hr => by
    refine call_builtin ho hc ha ht ?_
    simp [builtin, hr]
  cases hsd : ev s <;> rw [hsd] at hb hs <;> simp only at hb
  case nsl =>
    obtain ⟨hbytes, rfl, rfl, _, _⟩ := hb
    simp only [VR] at hs
    obtain ⟨u, w', ρ', hr, hok⟩ := app_nil_sound c.T (ty := o.type) h1 h1d h2 h2d h3 c.h c.wh hn h4 h5 h7 h6 hbytes hpos
    refine ⟨.value u, u, w', ρ', key u w' (by rw [hs]; exact hr), .inl rfl, hok, by simp [D.ids], fun b sl hb z hz => ?_⟩
    simp only [apps, List.foldl_cons, List.foldl_nil, HW.app] at hb
    by_cases e1 : b = nid
    · subst e1; rw [upd_same] at hb; cases hb; exact .inl (h7 z hz)
    · rw [upd_ne _ _ e1] at hb; exact .inl (c.wh.ids b sl hb z hz)
  case sl b sz oo n =>
    obtain ⟨old, rfl, rfl, hH, hol, hbytes, rfl, rfl, _, _⟩ := hb
    obtain ⟨u, w', ρ', hr, hok⟩ := app_sl_sound c.T (ty := o.type) h1 h1d h2 h2d h3 c.h c.wh hn h4 h5 h7 h6 hbytes hpos h8 hs hH hol
    refine ⟨.value u, u, w', ρ', key u w' hr, .inl rfl, hok, by simp [D.ids], fun b' sl hb z hz => ?_⟩
    simp only [apps, List.foldl_cons, List.foldl_nil, HW.app] at hb
    by_cases e1 : b' = nid
    · subst e1; rw [upd_same] at hb; cases hb
      simp only [Slot.ids, idsL_append, List.mem_append] at hz
      rcases hz with hz | hz
      · exact .inl (c.wh.ids _ _ hH z (idsL_take hz))
      · exact .inl (h7 z hz)
    · rw [upd_ne _ _ e1] at hb
      by_cases e2 : b' = b
      · subst e2; rw [upd_same] at hb; cases hb
      · rw [upd_ne _ _ e2] at hb; exact .inl (c.wh.ids b' sl hb z hz)

/-- Every operation of the twin is one of the model. -/
theorem opI_good (c : Ctx X P TI a U ρ w H ev) (hn : ¬ U nid) {v : D} {hw : List HW} {rh wh : List Rng} (h : opI TI nid ev H o.op v hw rh wh) : OpGood X P o a U ρ w H nid v hw := by
  generalize hop : o.op = op at h
  cases op <;> simp only [opI] at h
  case move x => obtain ⟨rfl, rfl, _⟩ := h; exact g_move c (.inl hop)
  case assign x => obtain ⟨rfl, rfl, _⟩ := h; exact g_move c (.inr hop)
  case pick z x y => obtain ⟨b, h1, rfl, rfl, _⟩ := h; exact g_pick c hop h1
  case alloc t => obtain ⟨⟨i, cs, h1, h2, rfl, rfl⟩, _⟩ := h; exact g_alloc c hn hop h1 h2
  case box t x => obtain ⟨⟨cs, h1, rfl, rfl⟩, _⟩ := h; exact g_box c hn hop h1
  case build t parts => obtain ⟨h1, rfl, _⟩ := h; exact g_build c hop h1
  case buildSlice t n parts => obtain ⟨⟨cs, h1, rfl⟩, _⟩ := h; exact g_buildSlice c hn hop h1
  case insert t x k y => obtain ⟨h1, rfl⟩ := h; exact g_mapUpdate c (.inr hop) h1
  case load t x => obtain ⟨h1, rfl, _⟩ := h; exact g_load c hop h1
  case store t x y => obtain ⟨h1, rfl⟩ := h; exact g_store c hop h1
  case nilCheck x => obtain ⟨h1, rfl, _⟩ := h; exact g_nilCheck c hop h1
  case binOp op ty x y ty' =>
    obtain ⟨h1 | h1, rfl, _⟩ := h
    · exact g_binOp c hop h1.1
    · exact g_nilCmp c hop h1
  case unOp op ty x => obtain ⟨h1, rfl, _⟩ := h; exact g_unOp c hop h1
  case convert s d x => obtain ⟨h1, rfl, _⟩ := h; exact g_convert c hop h1
  case makeInterface t x => obtain ⟨h1, rfl, rfl, _⟩ := h; exact g_makeInterface c hop h1
  case makeFunc f first cap =>
    cases f <;> simp only at h
    case func f => obtain ⟨h1, rfl, rfl, _⟩ := h; exact g_makeFunc c hop h1
  case makeMap t r => obtain ⟨rfl, rfl, rfl, _⟩ := h; exact g_makeMap c hn hop
  case makeSlice t x y => obtain ⟨h1, _⟩ := h; exact g_makeSlice c hn hop h1
  case slice t x lo hi mx => obtain ⟨h1, rfl, _⟩ := h; exact g_slice c hop h1
  case fieldAddr t x f => obtain ⟨h1, rfl, _⟩ := h; exact g_fieldAddr c hop h1
  case field t x f => obtain ⟨h1, rfl, _⟩ := h; exact g_field c hop h1
  case indexAddr t x y => obtain ⟨h1, rfl, _⟩ := h; exact g_indexAddr c hop h1
  case index t x y => obtain ⟨h1, rfl, _⟩ := h; exact g_index c hop h1
  case lookup t x k ok => obtain ⟨h1, rfl, _⟩ := h; exact g_lookup c hop h1
  case mapUpdate t x k y => obtain ⟨h1, rfl⟩ := h; exact g_mapUpdate c (.inl hop) h1
  case mapEntry t x k => exact g_mapEntry c hop h
  case entryStore t x s y => obtain ⟨h1, rfl⟩ := h; exact g_entryStore c hop h1
  case extract x j => obtain ⟨h1, rfl, _⟩ := h; exact g_extract c hop h1
  case call cl =>
    split at h
    · rename_i x t h1 h2 h3
      obtain ⟨h4, h5, rfl, _⟩ := h
      exact g_len c hop h1 h2 h3 h4 h5
    · rename_i s x t t2 h1 h2 h3
      exact g_append c hn hop h1 h2 h3 h
    · rename_i x y h1 h2
      obtain ⟨⟨k, m, k', n, h4, h5, rfl⟩, rfl, _⟩ := h
      have hx := c.E x
      have hy := c.E y
      rw [h4] at hx; rw [h5] at hy; simp only [VR] at hx hy
      refine pureGood c.h c.wh (u := .int k (if n < m then n else m)) (call_builtin hop h1 h2 rfl ?_) (by simp only [VR]) (by simp [D.ids])
      simp [builtin, hx, hy, run_min_int2]
    · rename_i x y h1 h2
      obtain ⟨⟨k, m, k', n, h4, h5, rfl⟩, rfl, _⟩ := h
      have hx := c.E x
      have hy := c.E y
      rw [h4] at hx; rw [h5] at hy; simp only [VR] at hx hy
      refine pureGood c.h c.wh (u := .int k (if n > m then n else m)) (call_builtin hop h1 h2 rfl ?_) (by simp only [VR]) (by simp [D.ids])
      simp [builtin, hx, hy, run_max_int2]
    · exact h.elim

end

end Go.Tw
end

section
namespace Go.Tw
variable {X : Nat → Prop}

/-! ## Renaming of blocks, and calls -/

mutual
def D.ren (μ : Nat → Nat) : D → D
  | .ptr b o => .ptr (μ b) o
  | .sl b sz o n => .sl (μ b) sz o n
  | .mp b => .mp (μ b)
  | .fn f cs => .fn f (D.renL μ cs)
  | .agg cs => .agg (D.renL μ cs)
  | .tup cs => .tup (D.renL μ cs)
  | .undef => .undef
  | .bool b => .bool b
  | .int k n => .int k n
  | .str s => .str s
  | .nptr => .nptr
  | .isl sz es => .isl sz es
  | .nsl => .nsl
  | .iptr d => .iptr d
  | .nmp => .nmp
  | .ifc b => .ifc b
def D.renL (μ : Nat → Nat) : List D → List D
  | [] => []
  | d :: ds => D.ren μ d :: D.renL μ ds
end

theorem renL_eq (μ : Nat → Nat) (ds : List D) : D.renL μ ds = ds.map (D.ren μ) := by
  induction ds with
  | nil => rfl
  | cons d ds ih => simp [D.renL, ih]

def Slot.ren (μ : Nat → Nat) : Slot → Slot
  | .cells cs => .cells (D.renL μ cs)
  | .map es => .map (es.map fun p => (p.1.ren μ, p.2.ren μ))

/-- A value that names no block is not renamed. -/
theorem ren_closed (μ : Nat → Nat) : ∀ d : D, d.ids = [] → d.ren μ = d
  | .undef, _ | .bool _, _ | .int _ _, _ | .str _, _ | .nptr, _ | .isl _ _, _ | .nsl, _ | .iptr _, _ | .nmp, _ | .ifc _, _ => by simp [D.ren]
  | .ptr _ _, h => by simp [D.ids] at h
  | .sl _ _ _ _, h => by simp [D.ids] at h
  | .mp _, h => by simp [D.ids] at h
  | .fn f cs, h => by simp only [D.ids] at h; simp only [D.ren]; rw [renL_closed μ cs h]
  | .agg cs, h => by simp only [D.ids] at h; simp only [D.ren]; rw [renL_closed μ cs h]
  | .tup cs, h => by simp only [D.ids] at h; simp only [D.ren]; rw [renL_closed μ cs h]
  where
  renL_closed (μ : Nat → Nat) : ∀ ds : List D, D.idsL ds = [] → D.renL μ ds = ds
    | [], _ => rfl
    | d :: ds, h => by
      simp only [D.idsL, List.append_eq_nil_iff] at h
      simp only [D.renL]
      rw [ren_closed μ d h.1, renL_closed μ ds h.2]

mutual
theorem ids_ren (μ : Nat → Nat) : ∀ (d : D) (b : Nat), b ∈ (d.ren μ).ids → ∃ c ∈ d.ids, b = μ c
  | .undef, b, h | .bool _, b, h | .int _ _, b, h | .str _, b, h | .nptr, b, h | .nsl, b, h | .nmp, b, h | .ifc _, b, h | .isl _ _, b, h | .iptr _, b, h => by simp [D.ren, D.ids] at h
  | .ptr c _, b, h => by simp [D.ren, D.ids] at h; exact ⟨c, by simp [D.ids], h⟩
  | .sl c _ _ _, b, h => by simp [D.ren, D.ids] at h; exact ⟨c, by simp [D.ids], h⟩
  | .mp c, b, h => by simp [D.ren, D.ids] at h; exact ⟨c, by simp [D.ids], h⟩
  | .fn _ cs, b, h => by simp only [D.ren, D.ids] at h ⊢; exact idsL_ren μ cs b h
  | .agg cs, b, h => by simp only [D.ren, D.ids] at h ⊢; exact idsL_ren μ cs b h
  | .tup cs, b, h => by simp only [D.ren, D.ids] at h ⊢; exact idsL_ren μ cs b h
theorem idsL_ren (μ : Nat → Nat) : ∀ (ds : List D) (b : Nat), b ∈ D.idsL (D.renL μ ds) → ∃ c ∈ D.idsL ds, b = μ c
  | [], b, h => by simp [D.renL, D.idsL] at h
  | d :: ds, b, h => by
    simp only [D.renL, D.idsL, List.mem_append] at h ⊢
    rcases h with h | h
    · obtain ⟨c, h1, h2⟩ := ids_ren μ d b h
      exact ⟨c, .inl h1, h2⟩
    · obtain ⟨c, h1, h2⟩ := idsL_ren μ ds b h
      exact ⟨c, .inr h1, h2⟩
end

/-- Two numberings through a renaming: from the caller's to the callee's and back. X, X' are the places that each must leave alone. -/
structure Trans (X X' : Nat → Prop) (ρ ρ' : Nat → Place) (w : World) (μ : Nat → Nat) (I : Nat → Prop) : Prop where
  at_ : ∀ b, I b → ρ' b = ρ (μ b)
  im : ∀ g, ¬ X g → Im ρ w g → ¬ X' g ∧ Im ρ' w g

/-- Back: what the callee (ρ', X') says of a value holds for the caller (ρ, X). -/
structure Back (X X' : Nat → Prop) (ρ ρ' : Nat → Place) (w : World) (μ : Nat → Nat) (I : Nat → Prop) : Prop where
  at_ : ∀ b, I b → ρ' b = ρ (μ b)
  im : ∀ g, ¬ X' g → Im ρ' w g → ¬ X g ∧ Im ρ w g

section
variable {X' : Nat → Prop} {ρ ρ' : Nat → Place} {w : World} {μ : Nat → Nat} {I : Nat → Prop}

mutual
/-- A value of the caller, read by the callee. -/
theorem VR_in (t : Trans X X' ρ ρ' w μ I) : ∀ (d : D) (v : Value), (∀ b ∈ d.ids, I b) → VR X ρ w (d.ren μ) v → VR X' ρ' w d v
  | .undef, _, _, _ => by simp [VR]
  | .bool _, _, _, h | .int _ _, _, _, h | .str _, _, _, h | .nptr, _, _, h | .nsl, _, _, h | .nmp, _, _, h | .ifc _, _, _, h => by simpa only [D.ren, VR] using h
  | .ptr b o, v, hi, h => by
    simp only [D.ren, VR] at h ⊢
    exact ⟨h.1, fun g hg => h.2 g ((t.at_ b (hi b (by simp [D.ids]))).symm.trans hg)⟩
  | .sl b sz o n, v, hi, h => by
    simp only [D.ren, VR] at h ⊢
    have hb := t.at_ b (hi b (by simp [D.ids]))
    exact ⟨h.1, fun g hg => h.2.1 g (hb.symm.trans hg), fun hg => h.2.2 (hb.symm.trans hg)⟩
  | .mp b, v, hi, h => by
    simp only [D.ren, VR] at h ⊢
    exact ⟨h.1, fun g hg => h.2 g ((t.at_ b (hi b (by simp [D.ids]))).symm.trans hg)⟩
  | .isl sz es, v, _, h => by
    simp only [D.ren, VR] at h ⊢
    obtain ⟨hc, ad, cap, h1, h2, h3⟩ := h
    refine ⟨hc, ad, cap, h1, h2, fun hne => ?_⟩
    obtain ⟨g, o, h4, h5, h6⟩ := h3 hne
    exact ⟨g, o, h4, t.im g h5.1 h5.2, VRe_in t g sz es o hc h6⟩
  | .iptr d, v, _, h => by
    simp only [D.ren, VR] at h ⊢
    obtain ⟨hc, g, o, u, h1, h2, h3, h4, h5⟩ := h
    exact ⟨hc, g, o, u, h1, t.im g h2.1 h2.2, VR_in t d u (by rw [hc]; simp) (by rw [ren_closed μ d hc]; exact h3), h4, h5⟩
  | .fn f cs, v, hi, h => by
    simp only [D.ren, VR] at h ⊢
    obtain ⟨vs, h1, h2⟩ := h
    exact ⟨vs, h1, VRs_in t cs vs (by simpa [D.ids] using hi) h2⟩
  | .agg cs, v, hi, h => by
    simp only [D.ren, VR] at h ⊢
    obtain ⟨vs, h1, h2⟩ := h
    exact ⟨vs, h1, VRs_in t cs vs (by simpa [D.ids] using hi) h2⟩
  | .tup cs, v, hi, h => by
    simp only [D.ren, VR] at h ⊢
    obtain ⟨vs, h1, h2⟩ := h
    exact ⟨vs, h1, VRs_in t cs vs (by simpa [D.ids] using hi) h2⟩
theorem VRs_in (t : Trans X X' ρ ρ' w μ I) : ∀ (ds : List D) (vs : List Value), (∀ b ∈ D.idsL ds, I b) → VRs X ρ w (D.renL μ ds) vs → VRs X' ρ' w ds vs
  | [], vs, _, h => by simpa only [D.renL, VRs] using h
  | d :: ds, vs, hi, h => by
    simp only [D.renL, VRs] at h ⊢
    obtain ⟨v, vs', h1, h2, h3⟩ := h
    exact ⟨v, vs', h1, VR_in t d v (fun b hb => hi b (by simp [D.idsL, hb])) h2, VRs_in t ds vs' (fun b hb => hi b (by simp [D.idsL, hb])) h3⟩
theorem VRe_in (t : Trans X X' ρ ρ' w μ I) (g sz : Nat) : ∀ (ds : List D) (o : Nat), D.idsL ds = [] → VRe X ρ w g sz ds o → VRe X' ρ' w g sz ds o
  | [], _, _, _ => by simp [VRe]
  | d :: ds, o, hc, h => by
    simp only [D.idsL, List.append_eq_nil_iff] at hc
    simp only [VRe] at h ⊢
    obtain ⟨⟨hs, u, h1, h2, h3⟩, h4⟩ := h
    exact ⟨⟨hs, u, VR_in t d u (by rw [hc.1]; simp) (by rw [ren_closed μ d hc.1]; exact h1), h2, h3⟩, VRe_in t g sz ds (o + sz) hc.2 h4⟩
end

mutual
/-- A value of the callee, read by the caller. -/
theorem VR_out (t : Back X X' ρ ρ' w μ I) : ∀ (d : D) (v : Value), (∀ b ∈ d.ids, I b) → VR X' ρ' w d v → VR X ρ w (d.ren μ) v
  | .undef, _, _, _ => by simp [D.ren, VR]
  | .bool _, _, _, h | .int _ _, _, _, h | .str _, _, _, h | .nptr, _, _, h | .nsl, _, _, h | .nmp, _, _, h | .ifc _, _, _, h => by simpa only [D.ren, VR] using h
  | .ptr b o, v, hi, h => by
    simp only [D.ren, VR] at h ⊢
    exact ⟨h.1, fun g hg => h.2 g ((t.at_ b (hi b (by simp [D.ids]))).trans hg)⟩
  | .sl b sz o n, v, hi, h => by
    simp only [D.ren, VR] at h ⊢
    have hb := t.at_ b (hi b (by simp [D.ids]))
    exact ⟨h.1, fun g hg => h.2.1 g (hb.trans hg), fun hg => h.2.2 (hb.trans hg)⟩
  | .mp b, v, hi, h => by
    simp only [D.ren, VR] at h ⊢
    exact ⟨h.1, fun g hg => h.2 g ((t.at_ b (hi b (by simp [D.ids]))).trans hg)⟩
  | .isl sz es, v, _, h => by
    simp only [D.ren, VR] at h ⊢
    obtain ⟨hc, ad, cap, h1, h2, h3⟩ := h
    refine ⟨hc, ad, cap, h1, h2, fun hne => ?_⟩
    obtain ⟨g, o, h4, h5, h6⟩ := h3 hne
    exact ⟨g, o, h4, t.im g h5.1 h5.2, VRe_out t g sz es o hc h6⟩
  | .iptr d, v, _, h => by
    simp only [D.ren, VR] at h ⊢
    obtain ⟨hc, g, o, u, h1, h2, h3, h4, h5⟩ := h
    exact ⟨hc, g, o, u, h1, t.im g h2.1 h2.2, by have := VR_out t d u (by rw [hc]; simp) h3; rw [ren_closed μ d hc] at this; exact this, h4, h5⟩
  | .fn f cs, v, hi, h => by
    simp only [D.ren, VR] at h ⊢
    obtain ⟨vs, h1, h2⟩ := h
    exact ⟨vs, h1, VRs_out t cs vs (by simpa [D.ids] using hi) h2⟩
  | .agg cs, v, hi, h => by
    simp only [D.ren, VR] at h ⊢
    obtain ⟨vs, h1, h2⟩ := h
    exact ⟨vs, h1, VRs_out t cs vs (by simpa [D.ids] using hi) h2⟩
  | .tup cs, v, hi, h => by
    simp only [D.ren, VR] at h ⊢
    obtain ⟨vs, h1, h2⟩ := h
    exact ⟨vs, h1, VRs_out t cs vs (by simpa [D.ids] using hi) h2⟩
theorem VRs_out (t : Back X X' ρ ρ' w μ I) : ∀ (ds : List D) (vs : List Value), (∀ b ∈ D.idsL ds, I b) → VRs X' ρ' w ds vs → VRs X ρ w (D.renL μ ds) vs
  | [], vs, _, h => by simpa only [D.renL, VRs] using h
  | d :: ds, vs, hi, h => by
    simp only [D.renL, VRs] at h ⊢
    obtain ⟨v, vs', h1, h2, h3⟩ := h
    exact ⟨v, vs', h1, VR_out t d v (fun b hb => hi b (by simp [D.idsL, hb])) h2, VRs_out t ds vs' (fun b hb => hi b (by simp [D.idsL, hb])) h3⟩
theorem VRe_out (t : Back X X' ρ ρ' w μ I) (g sz : Nat) : ∀ (ds : List D) (o : Nat), D.idsL ds = [] → VRe X' ρ' w g sz ds o → VRe X ρ w g sz ds o
  | [], _, _, _ => by simp [VRe]
  | d :: ds, o, hc, h => by
    simp only [D.idsL, List.append_eq_nil_iff] at hc
    simp only [VRe] at h ⊢
    obtain ⟨⟨hs, u, h1, h2, h3⟩, h4⟩ := h
    exact ⟨⟨hs, u, by have := VR_out t d u (by rw [hc.1]; simp) h1; rw [ren_closed μ d hc.1] at this; exact this, h2, h3⟩, VRe_out t g sz ds (o + sz) hc.2 h4⟩
end

theorem slot_in (t : Trans X X' ρ ρ' w μ I) {g : Nat} : ∀ (sl : Slot), (∀ b ∈ sl.ids, I b) → slotR X ρ w g (sl.ren μ) → slotR X' ρ' w g sl
  | .cells cs, hi, h => by
    obtain ⟨cur, e, h1, h2⟩ := h
    rw [renL_eq, List.length_map, ← renL_eq] at h2
    exact ⟨cur, e, h1, VRs_in t cs _ hi h2⟩
  | .map es, hi, h => by
    obtain ⟨ents, h1, h2, h3, h4⟩ := h
    simp only [List.map_map] at h2 h3
    refine ⟨ents, h1, VRs_in t _ _ (fun b hb => hi b (List.mem_append.2 (.inl hb))) ?_, VRs_in t _ _ (fun b hb => hi b (List.mem_append.2 (.inr hb))) ?_, h4⟩
    · rw [renL_eq, List.map_map]; exact h2
    · rw [renL_eq, List.map_map]; exact h3

theorem slot_out (t : Back X X' ρ ρ' w μ I) {g : Nat} : ∀ (sl : Slot), (∀ b ∈ sl.ids, I b) → slotR X' ρ' w g sl → slotR X ρ w g (sl.ren μ)
  | .cells cs, hi, h => by
    obtain ⟨cur, e, h1, h2⟩ := h
    refine ⟨cur, e, h1, ?_⟩
    rw [renL_eq, List.length_map, ← renL_eq]
    exact VRs_out t cs _ hi h2
  | .map es, hi, h => by
    obtain ⟨ents, h1, h2, h3, h4⟩ := h
    refine ⟨ents, h1, ?_, ?_, h4⟩
    · have := VRs_out t _ _ (fun b hb => hi b (List.mem_append.2 (.inl hb))) h2
      rw [renL_eq, List.map_map] at this
      rw [List.map_map]; exact this
    · have := VRs_out t _ _ (fun b hb => hi b (List.mem_append.2 (.inr hb))) h3
      rw [renL_eq, List.map_map] at this
      rw [List.map_map]; exact this
end

theorem slot_ids_ren (μ : Nat → Nat) : ∀ (sl : Slot) (b : Nat), b ∈ (sl.ren μ).ids → ∃ c ∈ sl.ids, b = μ c
  | .cells cs, b, h => idsL_ren μ cs b h
  | .map es, b, h => by
    simp only [Slot.ren, Slot.ids, List.map_map, List.mem_append] at h ⊢
    rcases h with h | h
    · obtain ⟨d, h1, h2⟩ := mem_idsL h
      obtain ⟨p, h3, rfl⟩ := List.mem_map.1 h1
      obtain ⟨c, h4, h5⟩ := ids_ren μ p.1 b h2
      exact ⟨c, .inl (idsL_mem (List.mem_map.2 ⟨p, h3, rfl⟩) h4), h5⟩
    · obtain ⟨d, h1, h2⟩ := mem_idsL h
      obtain ⟨p, h3, rfl⟩ := List.mem_map.1 h1
      obtain ⟨c, h4, h5⟩ := ids_ren μ p.2 b h2
      exact ⟨c, .inr (idsL_mem (List.mem_map.2 ⟨p, h3, rfl⟩) h4), h5⟩

end Go.Tw
end

section
namespace Go.Tw
variable {X : Nat → Prop}

/-! ## The contract of a function, and its use at a call -/

def Callable (P : Program) (f : FuncId) : Prop := ∃ fn, P.funcs[f]? = some fn ∧ fn.body.isSome = true ∧ (fn.name == "runtime.NumGoroutine") = false

def lst (l : List (Option Slot)) : Nat → Option Slot := fun i => (l[i]?).join

/-- What a call of function f does: from arguments and the blocks that they reach to a result, the blocks behind the call (none: given up), and new ones. -/
def Fn (P : Program) (f : FuncId) (args : List D) (hin : List Slot) (res : D) (outs : List (Option Slot)) : Prop :=
  Callable P f ∧ ∀ (X : Nat → Prop) (ρ : Nat → Place) (w : World) (vs : List Value), VRs X ρ w args vs → HRel X ρ w (fun i => hin[i]?) →
    Calls P f vs.toArray w fun e w' => ∃ u ρ', e = .returned u ∧ VR X ρ' w' res u ∧ HRel X ρ' w' (lst outs) ∧ Fr ρ ρ' w w' ∧ Mono (fun i => i < hin.length) ρ ρ' w w'

/-- A weaker word on a value. -/
def Wk (d' d : D) : Prop := (∀ (X : Nat → Prop) (ρ : Nat → Place) (w : World) (v : Value), VR X ρ w d v → VR X ρ w d' v) ∧ ∀ b ∈ d'.ids, b ∈ d.ids

theorem Wk.refl (d : D) : Wk d d := ⟨fun _ _ _ _ h => h, fun _ h => h⟩
theorem Wk.nil (sz : Nat) : Wk (.isl sz []) .nsl :=
  ⟨fun X ρ w v h => by simp only [VR] at h ⊢; subst h; exact ⟨by simp [D.idsL], none, 0, rfl, by simp, by simp⟩, by simp [D.ids]⟩
theorem Wk.undef (d : D) : Wk .undef d := ⟨fun X ρ w v _ => by simp [VR], by simp [D.ids]⟩

inductive WkL : List D → List D → Prop
  | nil : WkL [] []
  | cons {d' d : D} {ds' ds : List D} (h : Wk d' d) (t : WkL ds' ds) : WkL (d' :: ds') (d :: ds)

theorem WkL.refl : ∀ ds : List D, WkL ds ds
  | [] => .nil
  | d :: ds => .cons (Wk.refl d) (WkL.refl ds)

theorem WkL.VRs {ds' ds : List D} (h : WkL ds' ds) {ρ : Nat → Place} {w : World} {vs : List Value} (hv : VRs X ρ w ds vs) : VRs X ρ w ds' vs := by
  induction h generalizing vs with
  | nil => exact hv
  | cons h _ ih =>
    simp only [Tw.VRs] at hv ⊢
    obtain ⟨v, vs', rfl, h2, h3⟩ := hv
    exact ⟨v, vs', rfl, h.1 _ _ _ _ h2, ih h3⟩

theorem WkL.length {ds' ds : List D} (h : WkL ds' ds) : ds'.length = ds.length := by
  induction h with
  | nil => rfl
  | cons _ _ ih => simp [ih]

theorem WkL.agg {ds' ds : List D} (h : WkL ds' ds) (hi : ∀ b ∈ D.idsL ds', b ∈ D.idsL ds) : Wk (.agg ds') (.agg ds) :=
  ⟨fun X ρ w v hv => by simp only [VR] at hv ⊢; obtain ⟨vs, rfl, h2⟩ := hv; exact ⟨vs, rfl, h.VRs h2⟩, by simpa [D.ids] using hi⟩

/-- A weaker word on a block: weaker cells, or fewer. -/
def SlotWk : Slot → Slot → Prop
  | .cells cs', .cells cs => WkL cs' (cs.take cs'.length)
  | .map es', .map es => es' = es
  | _, _ => False

theorem SlotWk.refl : ∀ sl : Slot, SlotWk sl sl
  | .cells cs => by simp only [SlotWk, List.take_length]; exact WkL.refl cs
  | .map es => rfl

theorem slot_wk {ρ : Nat → Place} {w : World} {g : Nat} : ∀ {sl' sl : Slot}, SlotWk sl' sl → slotR X ρ w g sl → slotR X ρ w g sl'
  | .cells cs', .cells cs, h, hs => by
    obtain ⟨cur, e, h1, h2⟩ := hs
    refine ⟨cur, e, h1, ?_⟩
    have hl : cs'.length ≤ cs.length := by
      have := WkL.length h; simp only [List.length_take] at this; omega
    have h3 := WkL.VRs h (VRs_take h2 cs'.length)
    rw [List.take_take] at h3
    rwa [Nat.min_eq_left hl] at h3
  | .map es', .map es, h, hs => by cases h; exact hs

inductive WM where
  | keep
  | part (o : Nat) (new : List D)
  | whole

def muOf (L : List Nat) (ids : Nat → Nat) : Nat → Nat := fun i => (L[i]?).getD (ids (i - L.length))

def modeOf (L : List Nat) (wm : Nat → WM) (i : Nat) : WM := if i < L.length then wm i else .whole

def hwOf (μ : Nat → Nat) (L : List Nat) (wm : Nat → WM) (outs : List (Option Slot)) (i : Nat) : List HW :=
  match modeOf L wm i with
  | .keep => []
  | .part o new => [.put (μ i) o (D.renL μ new)]
  | .whole => [.set (μ i) ((lst outs i).map (Slot.ren μ))]

def whOf (μ : Nat → Nat) (L : List Nat) (wm : Nat → WM) (i : Nat) : List Rng :=
  match modeOf L wm i with
  | .keep => []
  | .part o new => [.part (μ i) o (o + new.length)]
  | .whole => [.all (μ i)]

/-- Nothing is named but what is there. -/
structure ClosedC (args : List D) (hin : List Slot) (res : D) (outs : List (Option Slot)) : Prop where
  cargs : ∀ b ∈ D.idsL args, b < hin.length
  chin : ∀ sl ∈ hin, ∀ b ∈ sl.ids, b < hin.length
  cres : ∀ b ∈ res.ids, b < outs.length
  couts : ∀ sl, some sl ∈ outs → ∀ b ∈ sl.ids, b < outs.length
  le : hin.length ≤ outs.length

/-- What each block that a call reaches becomes. -/
def modeOK (H : Nat → Option Slot) (μ : Nat → Nat) (hin : List Slot) (outs : List (Option Slot)) (b i : Nat) : WM → Prop
  | .keep => ∃ sl, hin[i]? = some sl ∧ outs[i]? = some (some sl) ∧ H b = some (sl.ren μ)
  | .part o new => ∃ old, hin[i]? = some (.cells old) ∧ H b = some (.cells (D.renL μ old)) ∧ outs[i]? = some (some (.cells (putL old o new)))
  | .whole => True

/-- A call in the twin. -/
structure CallI (P : Program) (ids : Nat → Nat) (ev : Operand → D) (H : Nat → Option Slot) (cl : Call) (x : Operand) (f : FuncId) (cap : List D) (L : List Nat) (args : List D) (hin : List Slot) (res : D) (outs : List (Option Slot)) (wm : Nat → WM) : Prop where
  callee : cl.callee = .value x
  fn : ev x = .fn f cap
  wargs : WkL (D.renL (muOf L ids) args) (cl.args.toList.map ev ++ cap)
  nodup : L.Nodup
  len : hin.length = L.length
  blocks : ∀ i sl', hin[i]? = some sl' → ∃ sl, H (muOf L ids i) = some sl ∧ SlotWk (sl'.ren (muOf L ids)) sl
  fnc : Fn P f args hin res outs
  closed : ClosedC args hin res outs
  modes : ∀ i, i < L.length → modeOK H (muOf L ids) hin outs (muOf L ids i) i (wm i)

theorem putL_ren (μ : Nat → Nat) : ∀ (old : List D) (o : Nat) (new : List D), putL (D.renL μ old) o (D.renL μ new) = D.renL μ (putL old o new)
  | [], _, _ => rfl
  | _ :: _, 0, [] => rfl
  | x :: xs, 0, c :: cs => by simp only [D.renL, putL]; rw [putL_ren μ xs 0 cs]
  | x :: xs, o + 1, cs => by simp only [D.renL, putL]; rw [putL_ren μ xs o cs]

/-- The heap behind a call. -/
theorem apps_call {H : Nat → Option Slot} {μ : Nat → Nat} {L : List Nat} {wm : Nat → WM} {hin : List Slot} {outs : List (Option Slot)} {n : Nat} (hμ : ∀ i j, i < n → j < n → μ i = μ j → i = j) (hm : ∀ i, i < L.length → modeOK H μ hin outs (μ i) i (wm i)) :
    ∀ k, k ≤ n → ∀ b, apps H ((List.range k).flatMap (hwOf μ L wm outs)) b = if ∃ i, i < k ∧ μ i = b then (match (Classical.epsilon fun i => i < k ∧ μ i = b) with | i => (lst outs i).map (Slot.ren μ)) else H b := by
  intro k
  induction k with
  | zero => intro _ b; simp [apps]
  | succ k ih =>
    intro hk b
    rw [List.range_succ, List.flatMap_append]
    simp only [List.flatMap_cons, List.flatMap_nil, List.append_nil, apps, List.foldl_append]
    have ih' := ih (by omega)
    simp only [apps] at ih'
    by_cases hb : μ k = b
    · subst hb
      have hex : ∃ i, i < k + 1 ∧ μ i = μ k := ⟨k, by omega, rfl⟩
      have heps := Classical.epsilon_spec hex
      have he : (Classical.epsilon fun i => i < k + 1 ∧ μ i = μ k) = k := hμ _ _ (by omega) (by omega) heps.2
      rw [if_pos hex, he]
      have hprev : List.foldl HW.app H ((List.range k).flatMap (hwOf μ L wm outs)) (μ k) = H (μ k) := by
        rw [ih', if_neg]
        rintro ⟨i, h1, h2⟩
        have := hμ i k (by omega) (by omega) h2; omega
      generalize List.foldl HW.app H ((List.range k).flatMap (hwOf μ L wm outs)) = G at hprev
      by_cases hkL : k < L.length
      · have hmk := hm k hkL
        cases hwm : wm k with
        | keep =>
          rw [hwm] at hmk
          obtain ⟨sl, _, h2, h3⟩ := hmk
          have e : hwOf μ L wm outs k = [] := by simp [hwOf, modeOf, hkL, hwm]
          simp only [e, List.foldl_nil, hprev, h3, lst, h2, Option.join_some, Option.map_some]
        | part o new =>
          rw [hwm] at hmk
          obtain ⟨old, _, h2, h3⟩ := hmk
          have e : hwOf μ L wm outs k = [.put (μ k) o (D.renL μ new)] := by simp [hwOf, modeOf, hkL, hwm]
          simp only [e, List.foldl_cons, List.foldl_nil, HW.app, upd_same, hprev, h2, lst, h3, Option.join_some, Option.map_some, Slot.ren, putL_ren]
        | whole =>
          have e : hwOf μ L wm outs k = [.set (μ k) ((lst outs k).map (Slot.ren μ))] := by simp [hwOf, modeOf, hkL, hwm]
          simp only [e, List.foldl_cons, List.foldl_nil, HW.app, upd_same]
      · have e : hwOf μ L wm outs k = [.set (μ k) ((lst outs k).map (Slot.ren μ))] := by simp [hwOf, modeOf, hkL]
        simp only [e, List.foldl_cons, List.foldl_nil, HW.app, upd_same]
    · have hstep : ∀ G : Nat → Option Slot, List.foldl HW.app G (hwOf μ L wm outs k) b = G b := by
        intro G
        unfold hwOf
        split <;> simp [HW.app, upd_ne _ _ (Ne.symm hb)]
      rw [hstep, ih']
      by_cases hex : ∃ i, i < k ∧ μ i = b
      · have hex' : ∃ i, i < k + 1 ∧ μ i = b := by obtain ⟨i, h1, h2⟩ := hex; exact ⟨i, by omega, h2⟩
        rw [if_pos hex, if_pos hex']
        have e1 := Classical.epsilon_spec hex
        have e2 := Classical.epsilon_spec hex'
        have : (Classical.epsilon fun i => i < k ∧ μ i = b) = (Classical.epsilon fun i => i < k + 1 ∧ μ i = b) := hμ _ _ (by omega) (by omega) (e1.2.trans e2.2.symm)
        rw [this]
      · have hex' : ¬ ∃ i, i < k + 1 ∧ μ i = b := by
          rintro ⟨i, h1, h2⟩
          rcases Nat.lt_succ_iff_lt_or_eq.1 h1 with h | h
          · exact hex ⟨i, h, h2⟩
          · subst h; exact hb h2
        rw [if_neg hex, if_neg hex']

end Go.Tw
end
