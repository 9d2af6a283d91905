/- The machines that run the program, closed and with open leaves: what they answer is so. -/
import Derived.Test.YtaeadcgbahaofaaGreatDoorTw34
section
namespace Go.Tw

/-! ## The symbolic machine -/

/-! ### Views: a value that is not known yet, written out by its kind -/

inductive Kd where
  | int (k : IntKind)
  | str
  | bool
  | sl (sz : Nat)
  | any

def D.intV : D → Int
  | .int _ n => n
  | _ => 0
def D.strV : D → List UInt8
  | .str s => s
  | _ => []
def D.boolV : D → Bool
  | .bool b => b
  | _ => false
def D.elV : D → List D
  | .isl _ es => es
  | _ => []
def D.cellsV : D → List D
  | .agg cs => cs
  | _ => []

def okK (k : Kd) (d : D) : Bool :=
  match k with
  | .int k => match d with
    | .int k' _ => decide (k' = k)
    | _ => false
  | .str => match d with
    | .str _ => true
    | _ => false
  | .bool => match d with
    | .bool _ => true
    | _ => false
  | .sl sz => match d with
    | .isl sz' _ => Nat.beq sz' sz
    | _ => false
  | .any => true

def vK (k : Kd) (d : D) : D :=
  match k with
  | .int k => .int k d.intV
  | .str => .str d.strV
  | .bool => .bool d.boolV
  | .sl sz => .isl sz d.elV
  | .any => d

def okL : List Kd → List D → Bool
  | [], [] => true
  | k :: ks, d :: ds => okK k d && okL ks ds
  | _, _ => false

def okA (ks : List Kd) (d : D) : Bool := match d with
  | .agg cs => okL ks cs
  | _ => false

/-- Cell j of a value. -/
def D.at (d : D) (j : Nat) : D := d.cellsV.getD j .undef

def vL (d : D) : List Kd → Nat → List D
  | [], _ => []
  | k :: ks, j => vK k (d.at j) :: vL d ks (j + 1)

inductive Vw where
  | sc (k : Kd)
  | ag (ks : List Kd)
  | psc (k : Kd)
  | pag (ks : List Kd)
  | tsc (k : Kd)
  | tag (ks : List Kd)

def viewS (w : Vw) (d : D) : Bool × D :=
  match w with
  | .sc k => (okK k d, vK k d)
  | .ag ks => (okA ks d, .agg (vL d ks 0))
  | .psc k => match d with
    | .iptr d => (okK k d, .iptr (vK k d))
    | d => (true, d)
  | .pag ks => match d with
    | .iptr d => (okA ks d, .iptr (.agg (vL d ks 0)))
    | d => (true, d)
  | .tsc k => match d with
    | .tup [a, b] => (okK k a, .tup [vK k a, b])
    | d => (true, d)
  | .tag ks => match d with
    | .tup [a, b] => (okA ks a, .tup [.agg (vL a ks 0), b])
    | d => (true, d)

/-! ### The state -/

abbrev FS := Bool × Slot
abbrev SHL := List (Nat × FS)

def SHL.get : SHL → Nat → Option FS
  | [], _ => none
  | (b, x) :: h, n => bif Nat.beq b n then some x else SHL.get h n

def SHL.del : SHL → Nat → SHL
  | [], _ => []
  | (b, x) :: h, n => bif Nat.beq b n then SHL.del h n else (b, x) :: SHL.del h n

def SHL.set (h : SHL) (n : Nat) (x : FS) : SHL := (n, x) :: h.del n

structure SS where
  T : Tr D
  H : SHL

def SS.tm (s : SS) (t : Nat) : D := s.T.get .undef t
def SHL.slot (h : SHL) (b : Nat) : Option Slot := match h.get b with
  | some (_, sl) => some sl
  | none => none
def SHL.cl (h : SHL) (b : Nat) : Bool := match h.get b with
  | some (c, _) => c
  | none => false
def SS.st (s : SS) : St := ⟨fun t => s.T.get .undef t, fun b => s.H.slot b⟩
def SS.put (s : SS) (t : Nat) (v : D) : SS := match s with
  | ⟨T, H⟩ => ⟨T.put .undef v 10 t, H⟩

def SHL.app (h : SHL) : HW × Bool → SHL
  | (.put b o cs, _) => match h.get b with
    | some (c, .cells old) => h.set b (c, .cells (putL old o cs))
    | _ => h
  | (.set b none, _) => h.del b
  | (.set b (some sl), c) => h.set b (c, sl)

def putO (o : Oper) (T : Tr D) (v : D) : Tr D := match o.dst with
  | some t => T.put .undef v 10 t
  | none => T

def aftS (o : Oper) (e : SE) (s : SS) : SS := ⟨putO o s.T e.v, e.hw.foldl SHL.app s.H⟩

def needs {R : Type} : List Bool → Option R → Option R
  | [], r => r
  | b :: bs, r => bif b then needs bs r else none

/-! ### What is known beforehand -/

inductive Nz where
  | own (sz : Nat)
  | val (sz : Nat)
  | drop

structure Hint where
  views : List (Nat × Vw) := []
  marks : List Nat := []
  cuts : List (Nat × List Nat) := []
  norms : List (Nat × List (Nat × Option Nat × Nz)) := []

def assoc {α : Type} : List (Nat × α) → Nat → Option α
  | [], _ => none
  | (i, x) :: l, n => bif Nat.beq i n then some x else assoc l n

/-! ### Blocks by value, and nil as an empty block -/

def chunkD (sz : Nat) : Nat → List D → List D
  | 0, _ => []
  | n + 1, cs => .agg (cs.take sz) :: chunkD sz n (cs.drop sz)

/-- The elements of a slice, by value. -/
def elemsD (sz n : Nat) (cs : List D) : List D := bif Nat.beq sz 1 then cs.take n else chunkD sz n cs

/-- A value in another form: what is needed, the value, the heap, the next number. -/
def normV (H : SHL) (nb : Nat) (z : Nz) (d : D) : Option (List Bool × D × SHL × Nat) :=
  match z with
  | .drop => some ([], .undef, H, nb)
  | .own sz => match d with
    | .nsl => some ([], .sl nb sz 0 0, H.set nb (true, .cells []), nb + 1)
    | .sl b sz' o n => match H.get b with
      | some (c, .cells cs) => some ([c || cloB cs], .sl b sz' o n, H.set b (true, .cells cs), nb)
      | _ => none
    | .mp b => match H.get b with
      | some (c, .map es) => some ([c || ((D.idsL (es.map (·.1))).isEmpty && (D.idsL (es.map (·.2))).isEmpty)], .mp b, H.set b (true, .map es), nb)
      | _ => none
    | d => some ([], d, H, nb)
  | .val sz => match d with
    | .nsl => some ([], .isl sz [], H, nb)
    | .sl b sz' o n => bif Nat.beq sz' sz && Nat.blt 0 sz then
        match H.get b with
        | some (c, .cells cs) => some ([Nat.ble (o + n * sz) cs.length, c || cloB cs], .isl sz (elemsD sz n (cs.drop o)), H.del b, nb)
        | _ => none
      else none
    | d => some ([], d, H, nb)

def norm1 (s : SS) (nb : Nat) (x : Nat × Option Nat × Nz) : Option (List Bool × SS × Nat) :=
  bif Nat.blt x.1 1023 then
  match x.2.1 with
  | none => match normV s.H nb x.2.2 (s.tm x.1) with
    | some (nd, d, H, nb') => some (nd, ⟨s.T.put .undef d 10 x.1, H⟩, nb')
    | none => none
  | some j => match s.tm x.1 with
    | .ptr b o => match s.H.get b with
      | some (false, .cells cs) => match normV s.H nb x.2.2 (cs.getD (o + j) .undef) with
        | some (nd, d, H, nb') => match H.get b with
          | some _ => some (Nat.blt (o + j) cs.length :: nd, ⟨s.T, H.set b (false, .cells (putL cs (o + j) [d]))⟩, nb')
          | none => none
        | none => none
      | _ => none
    | .agg cs => match normV s.H nb x.2.2 (cs.getD j .undef) with
      | some (nd, d, H, nb') => some (Nat.blt j cs.length :: nd, ⟨s.T.put .undef (.agg (putL cs j [d])) 10 x.1, H⟩, nb')
      | none => none
    | _ => none
  else none

def normC {R : Type} : List (Nat × Option Nat × Nz) → SS → Nat → (SS → Nat → Option R) → Option R
  | [], s, nb, κ => κ s nb
  | x :: xs, s, nb, κ => match norm1 s nb x with
    | some (nd, s', nb') => needs nd (normC xs s' nb' κ)
    | none => none

/-! ### Calls -/

inductive OutS where
  | keep
  | gone
  | set (c : Bool) (sl : Slot)
  | part (o : Nat) (new : List D)

abbrev Cont := ∀ R : Type, (D → List OutS → Option R) → Option R
abbrev SOrc := FuncId → List D → List FS → Option Cont
abbrev ContL := ∀ R : Type, (Ex → Nat → SS → Option R) → Option R
abbrev LOrc := Nat → Nat → List D → List (Option FS) → Option ContL

/-- What a block names, as far as it is followed. -/
def maskH (H : SHL) (b : Nat) : Option Slot := match H.get b with
  | some (true, _) => some (.cells [])
  | some (false, sl) => some sl
  | none => none

def mapF (g : Nat → Option Nat) (x : FS) : FS := (x.1, bif x.1 then x.2 else Slot.mapS g x.2)
def okF (x : FS) : Bool := x.1 || x.2.mapOK

/-- The blocks that a call writes. sls: those that it reaches, in the callee's numbers. -/
def outHW (μ : Nat → Nat) : List OutS → Nat → List (HW × Bool)
  | [], _ => []
  | .keep :: os, i => outHW μ os (i + 1)
  | .gone :: os, i => (.set (μ i) none, false) :: outHW μ os (i + 1)
  | .set c sl :: os, i => (.set (μ i) (some (bif c then sl else sl.ren μ)), c) :: outHW μ os (i + 1)
  | .part o new :: os, i => (.put (μ i) o (D.renL μ new), false) :: outHW μ os (i + 1)

def outWh (μ : Nat → Nat) : List OutS → Nat → List Rng
  | [], _ => []
  | .keep :: os, i => outWh μ os (i + 1)
  | .part o new :: os, i => .part (μ i) o (o + new.length) :: outWh μ os (i + 1)
  | .gone :: os, i => .all (μ i) :: outWh μ os (i + 1)
  | .set _ _ :: os, i => .all (μ i) :: outWh μ os (i + 1)

def isCells : Slot → Bool
  | .cells _ => true
  | .map _ => false

def keepOK (L : List Nat) : List OutS → List FS → Bool
  | [], _ => true
  | .keep :: os, x :: xs => (x.1 || x.2.ids.all fun b => memN b L) && keepOK L os xs
  | .keep :: _, [] => false
  | .part _ _ :: os, x :: xs => (!x.1 && isCells x.2 && x.2.ids.all fun b => memN b L) && keepOK L os xs
  | .part _ _ :: _, [] => false
  | .gone :: os, xs => keepOK L os xs.tail
  | .set _ _ :: os, xs => keepOK L os xs.tail

def noPart : List OutS → Bool
  | [] => true
  | .part _ _ :: _ => false
  | .keep :: os => noPart os
  | .gone :: os => noPart os
  | .set _ _ :: os => noPart os

def nodupB : List Nat → Bool
  | [] => true
  | x :: xs => !memN x xs && nodupB xs

def callK {R : Type} (F : SOrc) (ids : Nat → Nat) (s : SS) (f : FuncId) (as : List D) (κ : SE → Option R) : Option R :=
  let L := reach (maskH s.H) 4096 (D.idsL as) []
  let g := fun b => idxOf b L 0
  match mapO (fun b => s.H.get b) L with
  | some sls =>
    match F f (D.mapL g as) (sls.map (mapF g)) with
    | some φ => bif sls.all okF then φ R fun res outs =>
        let μ := muOf L ids
        bif Nat.ble outs.length (L.length + 16) && (Nat.ble L.length outs.length && (keepOK L outs sls && (noPart outs || nodupB ((List.range outs.length).map μ)))) then
          κ ⟨[], res.ren μ, outHW μ outs 0, L.map .all, outWh μ outs 0⟩
        else none
      else none
    | none => none
  | none => none

section
variable {R : Type} (P : Program) (nat : Nats) (F : SOrc) (LP : LOrc) (hint : Hint) (N k0 : Nat)

def viewC (o : Oper) (e : SE) (κ : SE → Option R) : Option R :=
  match o.dst with
  | none => κ e
  | some t => match assoc hint.views t with
    | some w => bif (viewS w e.v).1 then κ ⟨e.need, (viewS w e.v).2, e.hw, e.rh, e.wh⟩ else none
    | none => κ e

def markOf (o : Oper) : Bool := match o.dst with
  | none => false
  | some t => memN t hint.marks

def stepK (ids : Nat → Nat) (s : SS) (o : Oper) (κ : SE → Option R) : Option R :=
  match o.op with
  | .call ⟨.value x, args, _⟩ =>
    match evalD (fun t => s.T.get .undef t) x with
    | .fn f cap =>
      match nat f (args.toList.map (evalD (fun t => s.T.get .undef t)) ++ cap) with
      | some v => κ ⟨[], v, [], [], []⟩
      | none => callK F ids s f (args.toList.map (evalD (fun t => s.T.get .undef t)) ++ cap) κ
    | _ => none
  | op => match opS (tiOf P) (ids 0) (evalD (fun t => s.T.get .undef t)) (fun b => s.H.slot b) (fun b => s.H.cl b) (markOf hint o) op with
    | some e => needs e.need (viewC hint o e κ)
    | none => none

def skipE : SE := ⟨[], .tup [], [], [], []⟩

def stepG (ops : List Oper) (ids : Nat → Nat) (s : SS) (o : Oper) (κ : SS → SE → Option R) : Option R :=
  match o.guard with
  | none => stepK P nat F hint ids s o (κ s)
  | some (j, want) =>
    match (ops[j]?).bind (·.dst) with
    | some d =>
      bif Nat.blt d 1023 then
      match s.T.get .undef d with
      | .bool b =>
        match want with
        | true => bif b then stepK P nat F hint ids (s.put d (.bool true)) o (κ (s.put d (.bool true))) else κ (s.put d (.bool false)) skipE
        | false => bif b then κ (s.put d (.bool true)) skipE else stepK P nat F hint ids (s.put d (.bool false)) o (κ (s.put d (.bool false)))
      | .tup [] => κ s skipE
      | _ => none
      else none
    | none => none

def runC (ops : List Oper) (nb n : Nat) : List Oper → Nat → SS → (List Eff → SS → Option R) → Option R
  | [], _, s, κ => κ [] s
  | o :: os, k, s, κ =>
    bif dstOK N o then stepG P nat F hint ops (idsOf nb n k) s o fun s1 e => match s1 with
      | ⟨T, H⟩ => match e.hw with
        | [] => runC ops nb n os (k + 1) ⟨putO o T e.v, H⟩ fun es s' => κ (e.eff :: es) s'
        | x :: xs => runC ops nb n os (k + 1) ⟨putO o T e.v, (x :: xs).foldl SHL.app H⟩ fun es s' => κ (e.eff :: es) s'
    else none

def setB (c : Operand) (v : Bool) (s : SS) : SS := match c with
  | .tmp t => bif Nat.blt t 1023 then s.put t (.bool v) else s
  | _ => s

def firstId : Code → Option Nat
  | .region id _ _ => some id
  | .seq x y => match firstId x with
    | some i => some i
    | none => firstId y
  | .cond _ x y => match firstId x with
    | some i => some i
    | none => firstId y
  | .block _ c => firstId c
  | .loop c => firstId c
  | _ => none

def endG (k : Nat) (s : SHL) (r : D) : Option (D × List (Option FS)) :=
  let L := reach (maskH s) 4096 (r.ids ++ (List.range k).flatMap (idsAt (maskH s))) (List.range k)
  let g := liveIdx (fun b => s.slot b) L
  guardO (L.all fun b => match s.get b with
    | some x => okF x
    | none => true) (some (r.map g, L.map fun b => match s.get b with
    | some x => some (mapF g x)
    | none => none))

def tupV : D → List D
  | .tup cs => cs
  | _ => []

def canonS (lv : List Nat) (s : SS) : Option (List D × List (Option FS)) :=
  bif lv.all fun t => Nat.blt t 1023 then
    match endG k0 s.H (.tup (lv.map s.tm)) with
    | some (r, outs) => some (tupV r, outs)
    | none => none
  else none

def execC (P : Program) (nat : Nats) (F : SOrc) (LP : LOrc) (hint : Hint) (N k0 : Nat) : Nat → Code → Nat → SS → (Ex → Nat → SS → Option R) → Option R
  | 0, _, _, _, _ => none
  | k + 1, c, nb, s, κ =>
    match c with
    | .skip => κ .normal nb s
    | .region id ops dr =>
      normC ((assoc hint.norms id).getD []) s nb fun s nb =>
        runC P nat F hint N ops.toList nb ops.size ops.toList 0 s fun es s' => bif !dr || freeB ops es then κ .normal (nb + ops.size * 16) s' else none
    | .seq x y => execC P nat F LP hint N k0 k x nb s fun e nb1 s1 => match e with
      | .normal => execC P nat F LP hint N k0 k y nb1 s1 κ
      | .exit i => κ (.exit i) nb1 s1
      | .ret => κ .ret nb1 s1
    | .cond c x y =>
      match evalD (fun t => s.T.get .undef t) c with
      | .bool b => bif b then execC P nat F LP hint N k0 k x nb (setB c true s) κ else execC P nat F LP hint N k0 k y nb (setB c false s) κ
      | _ => none
    | .block id c => execC P nat F LP hint N k0 k c nb s fun e nb' s' => κ (e.out id) nb' s'
    | .loop c =>
      match (match firstId c with
        | some id => match assoc hint.cuts id with
          | some lv => some (id, lv)
          | none => none
        | none => none) with
      | some (id, lv) => normC ((assoc hint.norms (1000 + id)).getD []) s nb fun s _ =>
          match canonS k0 lv s with
          | some (args, hin) => match LP k0 id args hin with
            | some φ => φ R κ
            | none => none
          | none => none
      | none => execC P nat F LP hint N k0 k c nb s fun e nb1 s1 => match e with
        | .normal => execC P nat F LP hint N k0 k (.loop c) nb1 s1 κ
        | .exit i => κ (.exit i) nb1 s1
        | .ret => κ .ret nb1 s1
    | .exit id => κ (.exit id) nb s
    | .ret => κ .ret nb s
    | _ => none

/-- The value of a result. -/
def resS (TI : TT) (s : SS) : ResultVar → Option (List Bool × D)
  | .tmp t => some ([], s.tm t)
  | .cell a t => match loadS TI (fun b => s.H.slot b) t (s.tm a) with
    | some e => some (e.need, e.v)
    | none => none

def resL (TI : TT) (s : SS) : List ResultVar → Option (List Bool × List D)
  | [] => some ([], [])
  | r :: rs => match resS TI s r with
    | some (nd, d) => match resL TI s rs with
      | some (nd', ds) => some (nd ++ nd', d :: ds)
      | none => none
    | none => none

def outOf : Option FS → OutS
  | some (c, sl) => .set c sl
  | none => .gone

def startT' : List Nat → List D → Tr D → Tr D
  | t :: ts, a :: as, tr => startT' ts as (tr.put .undef a 10 t)
  | _, _, tr => tr

def startH : List (Option FS) → Nat → SHL
  | [], _ => []
  | some x :: xs, i => (i, x) :: startH xs (i + 1)
  | none :: xs, i => startH xs (i + 1)

def startL (lv : List Nat) (args : List D) (hin : List (Option FS)) : SS := ⟨startT' lv args .lf, startH hin 0⟩

/-- What stands behind a function's body. -/
def finC (P : Program) (hint : Hint) (fn : Func) (k0 : Nat) (e : Ex) (nb : Nat) (s : SS) (κ : D → List OutS → Option R) : Option R :=
  bif e.done then
    normC ((assoc hint.norms 9999).getD []) s nb fun s _ =>
      match resL (tiOf P) s fn.results.toList with
      | some (nd, ds) => needs nd (match endG k0 s.H (packD ds) with
        | some (res, outs) => κ res (outs.map outOf)
        | none => none)
      | none => none
  else none

/-- A function's body, run on arguments. -/
def bodyC (P : Program) (nat : Nats) (F : SOrc) (LP : LOrc) (hint : Hint) (fuel : Nat) (fn : Func) (c : Code) (args : List D) (hin : List FS) (κ : D → List OutS → Option R) : Option R :=
  bif Nat.ble args.length fn.ntmps && Nat.ble args.length 1000 && !(fn.name == "runtime.NumGoroutine") then
    execC P nat F LP hint fn.ntmps hin.length fuel c hin.length ⟨startE args 0 .lf, startH (hin.map some) 0⟩ fun e nb s => finC P hint fn hin.length e nb s κ
  else none

end

/-- The machine: an oracle first, else the function's body. -/
def callS (P : Program) (nat : Nats) (lib : SOrc) (LP : FuncId → LOrc) (hint : FuncId → Hint) (fuel : Nat) : Nat → SOrc
  | 0, _, _, _ => none
  | k + 1, f, args, hin =>
    match lib f args hin with
    | some φ => some φ
    | none =>
      match P.funcs[f]? with
      | some fn =>
        match fn.body with
        | some c => some fun _ κ => bodyC P nat (callS P nat lib LP hint fuel k) (LP f) (hint f) fuel fn c args hin κ
        | none => none
      | none => none

end Go.Tw
end
