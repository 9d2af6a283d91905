/- The machines that run the program, closed and with open leaves: what they answer is so. -/
import Derived.Test.YtaeadcgbahaofaaGreatDoorTw28
section
namespace Go.Tw

/-! ## Operations on symbolic values: what is needed, and what they give -/

structure SE where
  need : List Bool
  v : D
  hw : List (HW × Bool)
  rh : List Rng
  wh : List Rng

def SE.eff (e : SE) : Eff := ⟨e.v, e.hw.map (·.1), e.rh, e.wh⟩

def AllT (l : List Bool) : Prop := ∀ b ∈ l, b = true

/-- Cells that name no block, each of them a value of one cell. -/
def cloB (cs : List D) : Bool := (D.idsL cs).isEmpty && cs.all D.scal
def nonB (cs : List D) : Bool := !cs.isEmpty

def Slot.Clo : Slot → Prop
  | .cells cs => D.idsL cs = [] ∧ ∀ d ∈ cs, d.scal = true
  | .map es => D.idsL (es.map (·.1)) = [] ∧ D.idsL (es.map (·.2)) = []

def pickS (b : Bool) (x y : D) : D :=
  match x, y with
  | .bool p, .bool q => .bool (bif b then p else q)
  | .int k p, .int k' q => bif decide (k = k') then .int k (bif b then p else q) else bif b then .int k p else .int k' q
  | .str p, .str q => .str (bif b then p else q)
  | x, y => bif b then x else y

def pS (nd : List Bool) (v : D) : Option SE := some ⟨nd, v, [], [], []⟩
def rS (nd : List Bool) (v : D) (rh : List Rng) : Option SE := some ⟨nd, v, [], rh, []⟩
def pureV (v : Option D) : Option SE := match v with
  | some v => pS [] v
  | none => none
def readV (v : Option (D × List Rng)) : Option SE := match v with
  | some (v, rh) => rS [] v rh
  | none => none
def effS (e : Option Eff) : Option SE := match e with
  | some e => some ⟨[], e.v, e.hw.map fun x => (x, false), e.rh, e.wh⟩
  | none => none

def natS : D → Option (List Bool × Nat)
  | .int _ n => some ([decide (0 ≤ n)], n.toNat)
  | _ => none

def partS (i : TInfo) (cs : List D) (o : Nat) : List Bool × D :=
  bif i.isAgg then ([Nat.ble (o + i.size) cs.length], .agg ((cs.drop o).take i.size)) else ([Nat.blt o cs.length], cs.getD o .undef)

section
variable (TI : TT)

def binS (op : BinOp) (ty : TypeId) (yo : Operand) (x y : D) : Option SE :=
  match x with
  | .int k a =>
    match y with
    | .int k' b =>
      match op with
      | .shl => pS [decide (0 ≤ b)] (.int k (k.wrap (a * 2 ^ (min b.toNat k.bits))))
      | .shr => pS [decide (0 ≤ b)] (.int k (a.fdiv (2 ^ (min b.toNat k.bits))))
      | .quo => bif decide (k = k') then pS [!decide (b = 0)] (.int k (k.wrap (a.tdiv b))) else none
      | .rem => bif decide (k = k') then pS [!decide (b = 0)] (.int k (a.tmod b)) else none
      | op => pureV (binF TI op ty yo (.int k a) (.int k' b))
    | _ => none
  | .str a =>
    match y with
    | .str b =>
      match op with
      | .add => pS [Nat.ble (a.length + b.length) i64max] (.str (a ++ b))
      | .eql => pS [] (.bool (a == b))
      | .neq => pS [] (.bool (!(a == b)))
      | _ => none
    | _ => none
  | x => pureV (binF TI op ty yo x y)

variable (nid : Nat) (ev : Operand → D) (H : Nat → Option Slot) (cl : Nat → Bool)

def nilCmpS (op : BinOp) (ty : TypeId) (yo : Operand) (x : D) : Option SE :=
  match TI ty with
  | some ⟨_, _, _, .slice _, _⟩ =>
    match yo with
    | .const _ =>
      match op with
      | .eql => match x with
        | .nsl => rS [] (.bool true) []
        | .sl b _ _ _ => match cellsAt H b with
          | some cs => rS [nonB cs] (.bool false) [.all b]
          | none => none
        | _ => none
      | .neq => match x with
        | .nsl => rS [] (.bool false) []
        | .sl b _ _ _ => match cellsAt H b with
          | some cs => rS [nonB cs] (.bool true) [.all b]
          | none => none
        | _ => none
      | _ => none
    | _ => none
  | _ => none

def loadS (t : TypeId) (x : D) : Option SE :=
  match TI t with
  | some i =>
    match x with
    | .iptr d => rS [shapeB i d] d []
    | .ptr b o =>
      match cellsAt H b with
      | some cs => bif Nat.blt 0 i.size then rS (partS i cs o).1 (partS i cs o).2 [.part b o (o + i.size)] else none
      | none => none
    | _ => none
  | none => none

def liveS (x : D) : Option SE :=
  match x with
  | .iptr d => rS [] (.iptr d) []
  | .fn f cs => rS [] (.fn f cs) []
  | .ptr b o =>
    match cellsAt H b with
    | some cs => rS [nonB cs] (.ptr b o) [.live b]
    | none => none
  | _ => none

def fieldAddrS (t : TypeId) (f : Nat) (x : D) : Option SE :=
  match x with
  | .ptr b o =>
    match TI t with
    | some ⟨_, _, _, .struct fs, _⟩ =>
      match fs[f]? with
      | some fl =>
        match TI fl.type with
        | some fi => bif Nat.beq fi.size 0 then none else
          match cellsAt H b with
          | some cs => rS [nonB cs] (.ptr b (o + fl.offset)) [.live b]
          | none => none
        | none => none
      | none => none
    | _ => none
  | x => readV (fieldAddrF TI H t f x)

def indexAddrS (t : TypeId) (x y : D) : Option SE :=
  match TI t with
  | some i =>
    match natS y with
    | some (nd, n) =>
      match x with
      | .isl sz es =>
        match i.desc with
        | .slice e =>
          match TI e with
          | some ie => bif Nat.beq ie.size sz && Nat.blt 0 sz then rS (nd ++ [Nat.blt n es.length]) (.iptr (es.getD n .undef)) [] else none
          | none => none
        | _ => none
      | .sl b sz o len =>
        match i.desc with
        | .slice e =>
          match TI e with
          | some ie =>
            match cellsAt H b with
            | some cs => bif Nat.beq ie.size sz then rS (nd ++ [Nat.blt n len, nonB cs]) (.ptr b (o + n * sz)) [.live b] else none
            | none => none
          | none => none
        | _ => none
      | .ptr b o =>
        match i.desc with
        | .array len e =>
          match TI e with
          | some ie =>
            match cellsAt H b with
            | some cs => rS (nd ++ [Nat.blt n len, nonB cs]) (.ptr b (o + n * ie.size)) [.live b]
            | none => none
          | none => none
        | _ => none
      | x => readV (indexAddrF TI H t x y)
    | none => none
  | none => none

def indexS (t : TypeId) (x y : D) : Option SE :=
  match TI t with
  | some i =>
    match natS y with
    | some (nd, n) =>
      match x with
      | .str s =>
        match i.desc with
        | .string => pS (nd ++ [Nat.blt n s.length]) (.int .u8 (s.getD n 0).toNat)
        | _ => none
      | .agg cs =>
        match i.desc with
        | .array len e =>
          match TI e with
          | some ie => pS (nd ++ [Nat.blt n len] ++ (partS ie cs (n * ie.size)).1) (partS ie cs (n * ie.size)).2
          | none => none
        | _ => none
      | _ => none
    | none => none
  | none => none

def offS (y : Option D) : Option (List Bool × Option Nat) := match y with
  | none => some ([], none)
  | some y => match natS y with
    | some (nd, n) => some (nd, some n)
    | none => none

/-- A cut out of a list of length n: what is needed, where it begins, and its length. -/
def cutS (n : Nat) : Option Nat → Option Nat → List Bool × Nat × Option Nat
  | none, none => ([], 0, none)
  | none, some h => ([Nat.ble h n], 0, some h)
  | some l, none => ([Nat.ble l n], l, none)
  | some l, some h => ([Nat.ble l h, Nat.ble h n], l, some (h - l))

def dropS {α : Type} (l : List α) : Nat → List α
  | 0 => l
  | n + 1 => l.drop (n + 1)

def cutL {α : Type} (l : List α) (lo : Option Nat) (len : Option Nat) : List α :=
  match lo with
  | none => match len with
    | none => l
    | some k => l.take k
  | some lo => match len with
    | none => l.drop lo
    | some k => (l.drop lo).take k

def sliceS (t : TypeId) (x : D) (lo hi mx : Option D) : Option SE :=
  match mx with
  | some _ => none
  | none =>
  match TI t with
  | some i =>
    match offS lo with
    | some (nl, l) =>
      match offS hi with
      | some (nh, h) =>
        match x with
        | .str s =>
          match i.desc with
          | .string => rS (nl ++ nh ++ (cutS s.length l h).1) (.str (cutL s l (cutS s.length l h).2.2)) []
          | _ => none
        | .isl sz es =>
          match i.desc with
          | .slice e => match TI e with
            | some ie => bif Nat.beq ie.size sz then rS (nl ++ nh ++ (cutS es.length l h).1) (.isl sz (cutL es l (cutS es.length l h).2.2)) [] else none
            | none => none
          | _ => none
        | .sl b sz o n =>
          match i.desc with
          | .slice e => match TI e with
            | some ie => match cellsAt H b with
              | some _ => bif Nat.beq ie.size sz then
                  (match l with
                   | none => match h with
                     | none => rS (nl ++ nh) (.sl b sz o n) [.live b]
                     | some h => rS (nl ++ nh ++ [Nat.ble h n]) (.sl b sz o h) [.live b]
                   | some l => match h with
                     | none => rS (nl ++ nh ++ [Nat.ble l n, Nat.beq l 0 || Nat.blt l n]) (.sl b sz (o + l * sz) (n - l)) [.live b]
                     | some h => rS (nl ++ nh ++ [Nat.ble l h, Nat.ble h n, Nat.beq l 0 || Nat.blt l h]) (.sl b sz (o + l * sz) (h - l)) [.live b]) else none
              | none => none
            | none => none
          | _ => none
        | .nsl =>
          match i.desc with
          | .slice e => match TI e with
            | some _ => rS (nl ++ nh ++ [Nat.beq (l.getD 0) 0, Nat.beq (h.getD 0) 0]) .nsl []
            | none => none
          | _ => none
        | _ => none
      | none => none
    | none => none
  | none => none

def mapVal (kd : TypeDesc) (k : D) (es : List (D × D)) (z : D) : D := match findK kd k es 0 with
  | some (some (_, y)) => y
  | _ => z
def mapHas (kd : TypeDesc) (k : D) (es : List (D × D)) : Bool := match findK kd k es 0 with
  | some (some _) => true
  | _ => false
def mapOK (kd : TypeDesc) (k : D) (es : List (D × D)) : Bool := (findK kd k es 0).isSome
def mapSet (kd : TypeDesc) (k v : D) (es : List (D × D)) : List (D × D) := match findK kd k es 0 with
  | some r => putK es k v r
  | none => es

def lookupS (t : TypeId) (x k : D) (ok : Bool) : Option SE :=
  match TI t with
  | some ⟨_, _, _, .map ke el, _⟩ =>
    match TI ke with
    | some ike =>
      match TI el with
      | some iel => bif isK ike.desc k then (match x with
        | .mp b =>
          match mapAt H b with
          | some es => rS [mapOK ike.desc k es] (bif ok then .tup [mapVal ike.desc k es iel.zero, .bool (mapHas ike.desc k es)] else mapVal ike.desc k es iel.zero) [.all b]
          | none => none
        | .nmp => rS [] (bif ok then .tup [iel.zero, .bool false] else iel.zero) []
        | _ => none) else none
      | none => none
    | none => none
  | _ => none

def storeS (t : TypeId) (x y : D) : Option SE :=
  match TI t with
  | some i =>
    match x with
    | .ptr b o =>
      match y.cells? with
      | some cs =>
        match cellsAt H b with
        | some old => bif Nat.beq cs.length i.size && Nat.blt 0 i.size && cs.all D.scal then
            some ⟨[Nat.ble (o + cs.length) old.length, !cl b || cloB cs], .undef, [(.put b o cs, false)], [.live b], [.part b o (o + cs.length)]⟩ else none
        | none => none
      | none => none
    | _ => none
  | none => none

def mapUpdateS (t : TypeId) (x k y : D) : Option SE :=
  match TI t with
  | some ⟨_, _, _, .map ke _, _⟩ =>
    match TI ke with
    | some ike =>
      match x with
      | .mp b =>
        match mapAt H b with
        | some es => bif isK ike.desc k then some ⟨[mapOK ike.desc k es, !cl b || ((D.ids k).isEmpty && (D.ids y).isEmpty)], .undef, [(.set b (some (.map (mapSet ike.desc k y es))), cl b)], [.all b], [.all b]⟩ else none
        | none => none
      | _ => none
    | none => none
  | _ => none

/-- The cells that an append takes: what is needed, how many, which. -/
def srcS (sz : Nat) (x : D) : Option (List Bool × Nat × List D × List Rng) :=
  match x with
  | .nsl => some ([], 0, [], [])
  | .isl sz' es => some (bif Nat.beq sz' sz then [] else [es.isEmpty], es.length, flatD es, [])
  | .sl b sz' o n =>
    match cellsAt H b with
    | some all => bif Nat.beq sz' sz then some ([Nat.ble (o + n * sz) all.length, cl b || ((all.drop o).take (n * sz)).all D.scal], n, (all.drop o).take (n * sz), [.all b]) else none
    | none => none
  | .str s => bif Nat.beq sz 1 then some ([], s.length, byteD s, []) else none
  | _ => none

def appendS (mark : Bool) (t t2 : TypeId) (s x : D) : Option SE :=
  match TI t with
  | some ⟨_, _, _, .slice e, _⟩ =>
    match TI t2 with
    | some i2 =>
      match TI e with
      | some ie =>
        match srcS H cl ie.size x with
        | some (nd, m, cs, rh) => bif notInt i2.desc && Nat.blt 0 ie.bytes then (match s with
          | .nsl => some ⟨nd ++ [Nat.ble (m * ie.bytes) 140737488355328, !mark || cloB cs], .sl nid ie.size 0 m, [(.set nid (some (.cells cs)), mark)], rh, [.all nid]⟩
          | .sl b sz o n =>
            match cellsAt H b with
            | some old => bif Nat.beq sz ie.size && Nat.beq o 0 then
                some ⟨nd ++ [Nat.ble (n * ie.size) old.length, Nat.ble ((n + m) * ie.bytes) 140737488355328, !cl b || cloB cs], .sl nid ie.size 0 (n + m), [(.set b none, false), (.set nid (some (.cells (old.take (n * ie.size) ++ cs))), cl b)], .all b :: rh, [.all b, .all nid]⟩ else none
            | none => none
          | _ => none) else none
        | none => none
      | none => none
    | none => none
  | _ => none

def makeSliceS (mark : Bool) (t : TypeId) (x y : D) : Option SE :=
  match TI t with
  | some ⟨_, _, _, .slice e, _⟩ =>
    match TI e with
    | some ie =>
      match ie.zero.cells? with
      | some _ =>
        match natS x with
        | some (nd, n) =>
          match natS y with
          | some (nd', n') => bif Nat.blt 0 ie.bytes then
              some ⟨nd ++ nd' ++ [Nat.beq n n', Nat.ble (n * ie.bytes) 140737488355328, !mark || cloB (zeroD ie (n * ie.size))], .sl nid ie.size 0 n, [(.set nid (some (.cells (zeroD ie (n * ie.size)))), mark)], [], [.all nid]⟩ else none
          | none => none
        | none => none
      | none => none
    | none => none
  | _ => none

def byteV : D → UInt8
  | .int _ n => n.toNat.toUInt8
  | _ => 0
def byteOK : D → Bool
  | .int .u8 n => decide (0 ≤ n) && decide (n < 256)
  | _ => false

def convertS (s d : TypeId) (x : D) : Option SE :=
  match x with
  | .sl b sz o n =>
    match TI s with
    | some i =>
      match TI d with
      | some j =>
        match j.desc with
        | .string => match i.desc with
          | .slice e => match TI e with
            | some ⟨_, _, _, .int .u8, _⟩ => match cellsAt H b with
              | some cs => bif Nat.beq sz 1 then rS [Nat.ble (o + n) cs.length, ((cs.drop o).take n).all byteOK] (.str (((cs.drop o).take n).map byteV)) [.all b] else none
              | none => none
            | _ => none
          | _ => none
        | _ => none
      | none => none
    | none => none
  | x => readV (convertF TI H s d x)

/-- An operation that is no call of a function. mark: the block that is made is to count as closed. -/
def opS (mark : Bool) (op : Op) : Option SE :=
  match op with
  | .pick c x y => match ev c with
    | .bool b => pS [] (pickS b (ev x) (ev y))
    | _ => none
  | .binOp op ty x y _ => match ev y with
    | .nsl => nilCmpS TI H op ty y (ev x)
    | _ => binS TI op ty y (ev x) (ev y)
  | .convert s d x => convertS TI H s d (ev x)
  | .index t x y => indexS TI t (ev x) (ev y)
  | .slice t x lo hi mx => sliceS TI H t (ev x) (lo.map ev) (hi.map ev) (mx.map ev)
  | .load t x => loadS TI H t (ev x)
  | .nilCheck x => liveS H (ev x)
  | .fieldAddr t x f => fieldAddrS TI H t f (ev x)
  | .indexAddr t x y => indexAddrS TI H t (ev x) (ev y)
  | .store t x y => storeS TI H cl t (ev x) (ev y)
  | .makeSlice t x y => makeSliceS TI nid mark t (ev x) (ev y)
  | .lookup t x k ok => lookupS TI H t (ev x) (ev k) ok
  | .mapUpdate t x k y => mapUpdateS TI H cl t (ev x) (ev k) (ev y)
  | .insert t x k y => mapUpdateS TI H cl t (ev x) (ev k) (ev y)
  | .makeMap _ r => match r with
    | none => some ⟨[], .mp nid, [(.set nid (some (.map [])), mark)], [], [.all nid]⟩
    | some _ => none
  | .call c => match c.callee with
    | .builtin .append =>
      match c.args.toList, c.argTypes.toList with
      | [s, x], [t, t2] => appendS TI nid H cl mark t t2 (ev s) (ev x)
      | _, _ => none
    | .builtin b => effS (builtinF TI nid ev H b c.args.toList c.argTypes.toList)
    | _ => none
  | op => effS (opF TI nid ev H op)

end

end Go.Tw
end
