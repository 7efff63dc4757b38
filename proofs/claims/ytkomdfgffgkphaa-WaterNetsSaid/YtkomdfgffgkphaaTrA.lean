/- Abstract values and heaps, and the abstract weakest precondition over Code (definitions). Conditions: none; the soundness lies in TrS. -/
import Derived.WalkKit
namespace Go.Tr
open Go

/-- What is known of a value: nothing, a plain value, a struct or tuple part by part, a closure, a slice or pointer into memory that is never written again, or a reference to a block of the call's own. -/
inductive AV where
  | top
  | val (v : Value)
  | agg (l : List AV)
  | tuple (l : List AV)
  | func (fn : Fn) (nf : Nat) (cap : List AV)
  | eslice
  | rslice (es len : Nat) (f : Nat → List AV)
  | rptr (l : List AV)
  | optr (b ver idx sub : Nat)
  | oslice (b ver off len : Nat) (cap : Option Nat)
  | omap (b : Nat)
  | cslice (es len cap : Nat) (f : Nat → List AV)
  | rmap (ki : Option IntKind) (et : TypeId) (has : Value → Bool) (get : Value → AV)
  | yld (i : Nat)

instance : Inhabited AV := ⟨.top⟩

structure AB where
  es : Nat
  len : Nat
  f : Nat → List AV
  ver : Nat := 0
  ro : Bool := false
  flat : Bool := true

structure AM where
  ki : Option IntKind
  et : TypeId
  has : Value → Bool
  get : Value → AV
  ro : Bool := false

/-- How code is left. -/
inductive Ex where
  | normal
  | exit (id : Nat)
  | ret

/-- jump: by what the last round of the loop, whose function runs, was left (none: it goes on). ny: how many ranges over functions have begun. -/
structure Hp where
  blocks : List AB
  maps : List AM
  jump : Option Ex := none
  ny : Nat := 0

/-- sv: the slots of the frames below. -/
structure St where
  tm : List (Nat × AV)
  hp : Hp
  sv : List (Nat × AV) := []

/-- Kinds of cells that can be compared. -/
inductive LK where
  | bool
  | int (k : IntKind)
  | str

/-- What the walk asks of a type. kinds: those of its cells, where it is a struct or an array that can be compared. -/
structure TI where
  desc : TypeDesc
  size : Nat
  bytes : Nat
  zero : Value
  kinds : Option (List LK)

def look : List (Nat × AV) → Nat → AV
  | [], _ => .top
  | (k, x) :: r, t => bif Nat.beq k t then x else look r t

def constAV : Value → AV
  | .slice none 0 0 => .eslice
  | .agg cs => bif cs.toList.all Value.oneCell' then .agg (cs.toList.map fun | .slice none 0 0 => .eslice | v => .val v) else .top
  | .tuple _ => .top
  | v => .val v

def St.eval (s : St) : Operand → AV
  | .tmp t => look s.tm t
  | .const v => constAV v
  | .func f => .func (.func f) 0 []
  | .global _ => .top

def St.put (s : St) (d : Option Tmp) (x : AV) : St :=
  match d with
  | none => s
  | some t => { s with tm := (t, x) :: s.tm }

def AV.tree : Nat → AV → Bool
  | 0, _ => false
  | n + 1, .agg l | n + 1, .tuple l | n + 1, .func _ _ l => l.all (AV.tree n)
  | _ + 1, .optr .. | _ + 1, .oslice .. | _ + 1, .omap _ | _ + 1, .yld _ => false
  | _ + 1, _ => true

def AV.cells : AV → List AV
  | .agg l => l
  | x => [x]

/-- May a value be written to memory? (it is known, and no tuple) -/
def AV.storable : AV → Bool
  | .top | .tuple _ | .yld _ => false
  | .val v => v.oneCell'
  | _ => true

def nth? {α : Type} : List α → Nat → Option α
  | [], _ => none
  | x :: _, 0 => some x
  | _ :: r, n + 1 => nth? r n

def setNth {α : Type} : List α → Nat → α → List α
  | [], _, _ => []
  | _ :: r, 0, x => x :: r
  | y :: r, n + 1, x => y :: setNth r n x

def Hp.block (h : Hp) (b ver : Nat) : Option AB :=
  match nth? h.blocks b with
  | some k => bif Nat.beq k.ver ver then some k else none
  | none => none

/-- Write cells over a list from a place on. -/
def splice : List AV → Nat → List AV → List AV
  | [], _, _ => []
  | _ :: r, 0, v :: vs => v :: splice r 0 vs
  | x :: r, 0, [] => x :: r
  | x :: r, n + 1, vs => x :: splice r n vs

/-- The list with its spine laid open. -/
def forceL {α : Type} : List AV → (List AV → α) → α
  | [], k => k []
  | x :: r, k => forceL r fun r' => k (x :: r')

/-- A value as a tree: the blocks of the call's own read out. -/
def freeze (h : Hp) : Nat → AV → AV
  | 0, _ => .top
  | n + 1, .optr b ver idx sub =>
    match h.block b ver with
    | some k => bif k.flat then .rptr ((k.f idx).drop sub) else .rptr (((k.f idx).drop sub).map (freeze h n))
    | none => .top
  | n + 1, .oslice b ver off len _ =>
    match h.block b ver with
    | some k => bif k.flat then .rslice k.es len fun i => k.f (off + i) else .rslice k.es len fun i => (k.f (off + i)).map (freeze h n)
    | none => .top
  | _ + 1, .omap b =>
    match nth? h.maps b with
    | some m => .rmap m.ki m.et m.has m.get
    | none => .top
  | n + 1, .agg l => .agg (l.map (freeze h n))
  | n + 1, .tuple l => .tuple (l.map (freeze h n))
  | n + 1, .func fn nf l => .func fn nf (l.map (freeze h n))
  | _ + 1, .yld _ => .top
  | _ + 1, x => x

def fz (h : Hp) (x : AV) : AV := freeze h 5 x

def idxOf (i : AV) : Option Int := match i with | .val (.int _ n) => some n | _ => none

/-- A bound of a slice expression. -/
def optIdx (ρ : Operand → AV) (x : Option Operand) (d : Int) : Option Int := match x with | some l => idxOf (ρ l) | none => some d

/-- What an operation comes to: not covered; a value and the heap; the same under a condition; a truth value (b, where p holds); a call of a Go function (its arguments as trees). -/
inductive Res where
  | bad
  | ok (v : AV) (h : Hp)
  | need (p : Prop) [d : Decidable p] (v : AV) (h : Hp)
  | anyB (p : Prop) [d : Decidable p] (b : Bool) (h : Hp)
  | call (f : FuncId) (args : List AV) (bs ms : List Nat)
  | yieldc (i : Nat) (args : List AV)

def Hp.addB (h : Hp) (k : AB) : Hp := { h with blocks := h.blocks ++ [k] }
def Hp.setB (h : Hp) (b : Nat) (k : AB) : Hp := { h with blocks := setNth h.blocks b k }

def isAggT (d : TypeDesc) : Bool := match d with | .struct _ | .array _ _ => true | _ => false

/-- The value of a variable out of its cells. -/
def ofCells (d : TypeDesc) (size : Nat) (l : List AV) : Option AV :=
  bif isAggT d then (bif Nat.ble size l.length then some (.agg (l.take size)) else none)
  else match l with
    | x :: _ => some x
    | [] => none

def inK (k : IntKind) (n : Int) : Prop := k.min ≤ n ∧ n ≤ k.max
instance (k : IntKind) (n : Int) : Decidable (inK k n) := inferInstanceAs (Decidable (k.min ≤ n ∧ n ≤ k.max))

/-- Equality of two plain values (numbers of one kind, Bools, strings). -/
def eqV : AV → AV → Option Bool
  | .val (.int k a), .val (.int k' b) => if k = k' then some (a == b) else none
  | .val (.bool a), .val (.bool b) => some (a == b)
  | .val (.string a), .val (.string b) => some (a == b)
  | _, _ => none

def eqL : List AV → List AV → Option Bool
  | [], [] => some true
  | x :: r, y :: s =>
    match eqV x y, eqL r s with
    | some a, some b => some (a && b)
    | _, _ => none
  | _, _ => none

/-- Is the operand the word nil of a slice type? -/
def isNilC : Operand → Bool
  | .const (.slice none 0 0) => true
  | _ => false

/-- A slice against nil. -/
def nilEv (op : BinOp) (d : Option TI) (x : AV) (h : Hp) : Res :=
  match d, x with
  | some { desc := .slice _, .. }, .rslice _ len _ =>
    match op with
    | .eql => .anyB (0 < len) false h
    | .neq => .anyB (0 < len) true h
    | _ => .bad
  | some { desc := .slice _, .. }, .eslice =>
    match op with
    | .eql => .anyB False false h
    | .neq => .anyB False false h
    | _ => .bad
  | _, _ => .bad

/-- Plain values. -/
def valsOf : List AV → Option (List Value)
  | [] => some []
  | .val v :: r => match valsOf r with | some l => some (v :: l) | none => none
  | _ :: _ => none

def kOk : List LK → List Value → Bool
  | [], [] => true
  | .bool :: r, .bool _ :: s => kOk r s
  | .int k :: r, .int k' _ :: s => decide (k = k') && kOk r s
  | .str :: r, .string _ :: s => kOk r s
  | _, _ => false

/-- Equality of plain values, one by one. -/
def vEqL : List Value → List Value → Bool
  | [], [] => true
  | .int _ a :: r, .int _ b :: s => a == b && vEqL r s
  | .bool a :: r, .bool b :: s => a == b && vEqL r s
  | .string a :: r, .string b :: s => a.toList == b.toList && vEqL r s
  | _, _ => false

def aggEv (op : BinOp) (d : Option TI) (l m : List AV) (h : Hp) : Res :=
  match d with
  | some { kinds := some ks, .. } =>
    match valsOf l, valsOf m with
    | some vs, some us =>
      bif kOk ks vs && kOk ks us then
        match op with
        | .eql => .ok (.val (.bool (vEqL vs us))) h
        | .neq => .ok (.val (.bool (!vEqL vs us))) h
        | _ => .bad
      else .bad
    | _, _ => .bad
  | _ => .bad

def binEv (op : BinOp) (d : Option TI) (x y : AV) (h : Hp) : Res :=
  match x, y with
  | .val (.int k a), .val (.int k' b) =>
    if k = k' then
      match op with
      | .add => .need (inK k (a + b)) (.val (.int k (a + b))) h
      | .sub => .need (inK k (a - b)) (.val (.int k (a - b))) h
      | .mul => .need (inK k (a * b)) (.val (.int k (a * b))) h
      | .quo => .need (b ≠ 0 ∧ inK k (a.tdiv b)) (.val (.int k (a.tdiv b))) h
      | .rem => .need (b ≠ 0) (.val (.int k (a.tmod b))) h
      | .eql => .ok (.val (.bool (a == b))) h
      | .neq => .ok (.val (.bool (a != b))) h
      | .lss => .ok (.val (.bool (a < b))) h
      | .leq => .ok (.val (.bool (a ≤ b))) h
      | .gtr => .ok (.val (.bool (a > b))) h
      | .geq => .ok (.val (.bool (a ≥ b))) h
      | _ => .bad
    else .bad
  | .val (.bool a), .val (.bool b) =>
    match op, d with
    | .eql, some { desc := .bool, .. } => .ok (.val (.bool (a == b))) h
    | .neq, some { desc := .bool, .. } => .ok (.val (.bool (!(a == b)))) h
    | _, _ => .bad
  | .val (.string a), .val (.string b) =>
    match op with
    | .eql => .ok (.val (.bool (a.toList == b.toList))) h
    | .neq => .ok (.val (.bool (!(a.toList == b.toList)))) h
    | .add => .need (((a.size + b.size : Nat) : Int) ≤ 9223372036854775807) (.val (.string (a ++ b))) h
    | _ => .bad
  | .agg l, .agg m => aggEv op d l m h
  | _, _ => .bad

/-- A slice as its length and elements. -/
def elemsOf (h : Hp) (es : Nat) : AV → Option (Nat × (Nat → List AV))
  | .eslice => some (0, fun _ => [])
  | .rslice es' len f => bif Nat.beq es' es then some (len, f) else none
  | .cslice es' len _ f => bif Nat.beq es' es then some (len, f) else none
  | .oslice b ver off len _ =>
    match h.block b ver with
    | some k => bif Nat.beq k.es es then some (len, fun i => k.f (off + i)) else none
    | none => none
  | _ => none

/-- Is what a slice holds free of blocks of the call's own? -/
def flatOf (h : Hp) : AV → Bool
  | .oslice b ver _ _ _ => match h.block b ver with | some k => k.flat | none => false
  | _ => true

def buildCells (place : Nat → Option (Nat × Nat)) : List AV → List (Nat × AV) → Option (List AV)
  | cells, [] => some cells
  | cells, (i, v) :: r =>
    match place i with
    | none => none
    | some (off, size) => bif Nat.beq v.cells.length size && Nat.ble (off + size) cells.length && v.storable then buildCells place (splice cells off v.cells) r else none


/-- The blocks and maps that a value refers to. -/
def refs (h : Hp) : Nat → AV → List Nat × List Nat
  | 0, _ => ([], [])
  | n + 1, .optr b ver idx _ =>
    match h.block b ver with
    | some k => bif k.flat then ([b], []) else (fun l => (b :: l.flatMap (·.1), l.flatMap (·.2))) ((k.f idx).map (refs h n))
    | none => ([], [])
  | _ + 1, .oslice b ver _ _ _ =>
    match h.block b ver with
    | some k => bif k.flat then ([b], []) else (List.range h.blocks.length, List.range h.maps.length)
    | none => ([], [])
  | _ + 1, .omap b => match nth? h.maps b with | some _ => ([], [b]) | none => ([], [])
  | n + 1, .agg l | n + 1, .tuple l | n + 1, .func _ _ l => (fun l => (l.flatMap (·.1), l.flatMap (·.2))) (l.map (refs h n))
  | _ + 1, _ => ([], [])

/-- The kinds of the cells of a type that can be compared. -/
def leafsF (P : Program) (g : TypeId → Option (List LK)) : List Field → Nat → Option (List LK)
  | [], _ => some []
  | f :: r, off =>
    match g f.type, leafsF P g r (off + P.cellsOf f.type) with
    | some a, some b => bif f.name != "_" && Nat.beq f.offset off && Nat.beq (P.cellsOf f.type) a.length then some (a ++ b) else none
    | _, _ => none
def leafs (P : Program) : Nat → TypeId → Option (List LK)
  | 0, _ => none
  | m + 1, t =>
    match P.underlying t with
    | some .bool => some [.bool]
    | some (.int k) => some [.int k]
    | some .string => some [.str]
    | some (.struct fs) => bif P.stoodInHeld t then none else leafsF P (leafs P m) fs.toList 0
    | some (.array n e) => match leafs P m e with
      | some a => bif Nat.beq (P.cellsOf e) a.length then some ((List.range n).flatMap fun _ => a) else none
      | none => none
    | _ => none
def kindsOf (P : Program) (t : TypeId) (d : TypeDesc) : Option (List LK) :=
  bif isAggT d && !P.eqGuardType P.depth t then leafs P 8 t else none

/-- The types of a program, as the walk asks for them. -/
def TP (P : Program) (t : Nat) : Option TI :=
  match P.underlying t, P.info? t with
  | some d, some i =>
    match i.zero with
    | some z => bif Nat.beq z.cells.size i.size && z.cells.toList.all Value.oneCell' then some ⟨d, i.size, i.bytes, z, kindsOf P t d⟩ else none
    | none => none
  | _, _ => none

section
variable (T : Nat → Option TI)

/-- Where the fields of a struct lie. -/
def placesOf : List Field → Option (List (Nat × Nat))
  | [] => some []
  | f :: r =>
    match T f.type, placesOf r with
    | some fi, some l => some ((f.offset, fi.size) :: l)
    | _, _ => none

/-- The kind of a map's keys: strings, or ints of a kind. -/
def keyKind (kt : TypeId) : Option (Option IntKind) :=
  match T kt with
  | some { desc := .string, .. } => some none
  | some { desc := .int k, .. } => some (some k)
  | _ => none

def kindIs : Option IntKind → Option IntKind → Bool
  | none, none => true
  | some k, some k' => decide (k = k')
  | _, _ => false

def keyIs : Option IntKind → Value → Bool
  | none, .string _ => true
  | some k, .int k' _ => decide (k = k')
  | _, _ => false

def zeroCells (ti : TI) : List AV := (constAV ti.zero).cells

/-- An operation without calls of Go functions' bodies. ρ: what the operands are. -/
def opEv (o : Oper) (ρ : Operand → AV) (h : Hp) : Res :=
  match o.op with
  | .move x | .assign x => .ok (ρ x) h
  | .pick c a b =>
    match ρ c with
    | .val (.bool true) => .ok (ρ a) h
    | .val (.bool false) => .ok (ρ b) h
    | _ => .bad
  | .alloc t =>
    match T t with
    | some ti => .ok (.optr h.blocks.length 0 0 0) (h.addB { es := ti.size, len := 1, f := fun _ => zeroCells ti })
    | none => .bad
  | .box t x =>
    match T t with
    | some ti =>
      bif Nat.beq (ρ x).cells.length ti.size && (ρ x).storable then
        .ok (.optr h.blocks.length 0 0 0) (h.addB { es := ti.size, len := 1, f := fun _ => (ρ x).cells, flat := (ρ x).cells.all (AV.tree 4) })
      else .bad
    | none => .bad
  | .build t parts =>
    match T t with
    | some ti =>
      match ti.desc with
      | .struct fields =>
        match placesOf T fields.toList with
        | some pl =>
          match buildCells (nth? pl) (zeroCells ti) (parts.toList.map fun p => (p.1, ρ p.2)) with
          | some l => .ok (.agg l) h
          | none => .bad
        | none => .bad
      | .array _ e =>
        match T e with
        | some ei =>
          match buildCells (fun i => some (i * ei.size, ei.size)) (zeroCells ti) (parts.toList.map fun p => (p.1, ρ p.2)) with
          | some l => .ok (.agg l) h
          | none => .bad
        | none => .bad
      | _ => .bad
    | none => .bad
  | .buildSlice t len parts =>
    match T t with
    | some { desc := .slice e, .. } =>
      match T e with
      | some ei =>
        match buildCells (fun i => some (i * ei.size, ei.size)) ((List.range len).flatMap fun _ => zeroCells ei) (parts.toList.map fun p => (p.1, ρ p.2)) with
        | some l =>
          bif Nat.ble (len * ei.size) 100000 && Nat.blt 0 ei.size then
            .ok (.oslice h.blocks.length 0 0 len (some len)) (h.addB { es := ei.size, len, f := fun i => (l.drop (i * ei.size)).take ei.size, flat := l.all (AV.tree 4) })
          else .bad
        | none => .bad
      | none => .bad
    | _ => .bad
  | .load t a =>
    match T t with
    | some ti =>
      match ρ a with
      | .optr b ver idx sub =>
        match h.block b ver with
        | some k => match ofCells ti.desc ti.size ((k.f idx).drop sub) with | some v => .ok v h | none => .bad
        | none => .bad
      | .rptr l => match ofCells ti.desc ti.size l with | some v => .ok v h | none => .bad
      | _ => .bad
    | none => .bad
  | .store t a x =>
    match T t, ρ a with
    | some ti, .optr b ver idx sub =>
      match h.block b ver with
      | some k =>
        bif Nat.beq (ρ x).cells.length ti.size && !k.ro && (ρ x).storable && Nat.ble (sub + ti.size) k.es then
          match k.len with
          | 1 => .ok .top (h.setB b { k with f := (fun l _ => l) (splice (k.f 0) sub (ρ x).cells), flat := k.flat && (ρ x).cells.all (AV.tree 4) })
          | _ => .ok .top (h.setB b { k with f := fun i => bif Nat.beq i idx then splice (k.f i) sub (ρ x).cells else k.f i, flat := k.flat && (ρ x).cells.all (AV.tree 4) })
        else .bad
      | none => .bad
    | _, _ => .bad
  | .binOp op t x y _ =>
    match isNilC y with
    | true => nilEv op (T t) (ρ x) h
    | false => binEv op (T t) (ρ x) (ρ y) h
  | .unOp op _ x =>
    match op, ρ x with
    | .not, .val (.bool b) => .ok (.val (.bool !b)) h
    | .neg, .val (.int k n) => .need (inK k (-n)) (.val (.int k (-n))) h
    | _, _ => .bad
  | .convert src dst x =>
    match T src, T dst, ρ x with
    | some _, some { desc := .int k, .. }, .val (.int _ n) => .need (inK k n) (.val (.int k n)) h
    | some { desc := .string, .. }, some { desc := .slice e, .. }, .val (.string s) =>
      match T e with
      | some { desc := .int .u8, .. } => .ok (.rslice 1 s.size fun i => [.val (.int .u8 (s.data.toList.getD i 0).toNat)]) h
      | _ => .bad
    | _, _, _ => .bad
  | .makeFunc fn first captured => .ok (.func fn first.size (first.toList.map ρ ++ captured.toList.map ρ)) h
  | .makeMap t none =>
    match T t with
    | some { desc := .map kt e, .. } =>
      match T e, keyKind T kt with
      | some ei, some ki => .ok (.omap h.maps.length) { h with maps := h.maps ++ [{ ki, et := e, has := fun _ => false, get := fun _ => constAV ei.zero }] }
      | _, _ => .bad
    | _ => .bad
  | .makeSlice t l c =>
    match T t, ρ l, ρ c with
    | some { desc := .slice e, .. }, .val (.int .i64 n), .val (.int .i64 m) =>
      match T e with
      | some ei => bif Nat.blt 0 ei.size then .need (0 ≤ n ∧ n ≤ m ∧ m ≤ 1000000000 ∧ m * ei.bytes ≤ 1000000000000) (.oslice h.blocks.length 0 0 n.toNat (some m.toNat)) (h.addB { es := ei.size, len := n.toNat, f := fun _ => zeroCells ei }) else .bad
      | none => .bad
    | _, _, _ => .bad
  | .slice t x lo hi none =>
    match T t with
    | some { desc := .slice e, .. } =>
      match T e with
      | some ei =>
        match ρ x with
        | .rslice es len f =>
          match optIdx ρ lo 0, optIdx ρ hi len with
          | some l, some r => bif Nat.beq es ei.size then .need (0 ≤ l ∧ l ≤ r ∧ r ≤ len) (.rslice es (r - l).toNat fun i => f (l.toNat + i)) h else .bad
          | _, _ => .bad
        | .oslice b ver off len cap =>
          match h.block b ver, optIdx ρ lo 0, optIdx ρ hi len with
          | some k, some l, some r => bif Nat.beq k.es ei.size then .need (0 ≤ l ∧ l ≤ r ∧ r ≤ len) (.oslice b ver (off + l.toNat) (r - l).toNat (match cap with | some c => some (c - l.toNat) | none => none)) h else .bad
          | _, _, _ => .bad
        | _ => .bad
      | none => .bad
    | some { desc := .string, .. } =>
      match ρ x with
      | .val (.string s) =>
        match optIdx ρ lo 0, optIdx ρ hi s.size with
        | some l, some r => .need (0 ≤ l ∧ l ≤ r ∧ r ≤ s.size) (.val (.string (s.extract l.toNat r.toNat))) h
        | _, _ => .bad
      | _ => .bad
    | _ => .bad
  | .slice t x lo hi (some mx) =>
    match T t with
    | some { desc := .slice e, .. } =>
      match T e with
      | some ei =>
        match ρ x, optIdx ρ lo 0, idxOf (ρ mx) with
        | .eslice, some l, some m => match optIdx ρ hi 0 with
          | some r => .need (hi.isSome = true ∧ l = 0 ∧ r = 0 ∧ m = 0) .eslice h
          | none => .bad
        | .rslice es len f, some l, some m => match optIdx ρ hi len with
          | some r => bif Nat.beq es ei.size then .need (hi.isSome = true ∧ 0 ≤ l ∧ l ≤ r ∧ r ≤ m ∧ m ≤ len) (.cslice es (r - l).toNat (m - l).toNat fun i => f (l.toNat + i)) h else .bad
          | none => .bad
        | _, _, _ => .bad
      | none => .bad
    | _ => .bad
  | .fieldAddr s x i =>
    match T s with
    | some { desc := .struct fields, .. } =>
      match nth? fields.toList i with
      | some f =>
        match T f.type, ρ x with
        | some fi, .optr b ver idx sub => match h.block b ver with | some _ => (bif Nat.blt 0 fi.size then .ok (.optr b ver idx (sub + f.offset)) h else .bad) | none => .bad
        | some fi, .rptr l => bif Nat.blt 0 fi.size then .ok (.rptr (l.drop f.offset)) h else .bad
        | _, _ => .bad
      | none => .bad
    | _ => .bad
  | .field s x i =>
    match T s, ρ x with
    | some { desc := .struct fields, .. }, .agg l =>
      match nth? fields.toList i with
      | some f => match T f.type with
        | some fi => match ofCells fi.desc fi.size (l.drop f.offset) with | some v => .ok v h | none => .bad
        | none => .bad
      | none => .bad
    | _, _ => .bad
  | .indexAddr t x i =>
    match T t, idxOf (ρ i) with
    | some { desc := .slice e, .. }, some n =>
      match T e, ρ x with
      | some ei, .rslice es len f => bif Nat.beq es ei.size then .need (0 ≤ n ∧ n < len) (.rptr (f n.toNat)) h else .bad
      | some ei, .oslice b ver off len _ =>
        match h.block b ver with
        | some k => bif Nat.beq k.es ei.size then .need (0 ≤ n ∧ n < len) (.optr b ver (off + n.toNat) 0) h else .bad
        | none => .bad
      | _, _ => .bad
    | some { desc := .array len e, .. }, some n =>
      match T e, ρ x with
      | some ei, .optr b ver idx sub => match h.block b ver with | some _ => .need (0 ≤ n ∧ n < len) (.optr b ver idx (sub + n.toNat * ei.size)) h | none => .bad
      | some ei, .rptr l => .need (0 ≤ n ∧ n < len) (.rptr (l.drop (n.toNat * ei.size))) h
      | _, _ => .bad
    | _, _ => .bad
  | .index t x i =>
    match T t, ρ x, idxOf (ρ i) with
    | some { desc := .string, .. }, .val (.string s), some n => .need (0 ≤ n ∧ n < s.size) (.val (.int .u8 (s.data.toList.getD n.toNat 0).toNat)) h
    | _, _, _ => .bad
  | .lookup t m i ok =>
    match T t, ρ i with
    | some { desc := .map kt et, .. }, .val key =>
      match keyKind T kt with
      | some ki =>
        bif (T et).isSome then
          match ρ m with
          | .omap b =>
            match nth? h.maps b with
            | some am => bif kindIs ki am.ki && keyIs ki key && Nat.beq et am.et then (bif ok then .ok (.tuple [am.get key, .val (.bool (am.has key))]) h else .ok (am.get key) h) else .bad
            | none => .bad
          | .rmap ki' et' has get => bif kindIs ki ki' && keyIs ki key && Nat.beq et et' then (bif ok then .ok (.tuple [get key, .val (.bool (has key))]) h else .ok (get key) h) else .bad
          | _ => .bad
        else .bad
      | _ => .bad
    | _, _ => .bad
  | .extract x i =>
    match ρ x with
    | .tuple l => match nth? l i with | some v => .ok v h | none => .bad
    | _ => .bad
  | .nilCheck x =>
    match ρ x with
    | .optr b ver i sub => match h.block b ver with | some _ => .ok (.optr b ver i sub) h | none => .bad
    | .rptr l => .ok (.rptr l) h
    | _ => .bad
  | .call { callee := .builtin .len, args, argTypes } =>
    match nth? argTypes.toList 0, nth? args.toList 0 with
    | some t, some x =>
      match T t, ρ x with
      | some { desc := .slice _, .. }, .eslice => .ok (.val (.int .i64 0)) h
      | some { desc := .slice _, .. }, .rslice _ len _ => .ok (.val (.int .i64 len)) h
      | some { desc := .slice _, .. }, .cslice _ len _ _ => .ok (.val (.int .i64 len)) h
      | some { desc := .slice _, .. }, .oslice b ver _ len _ => match h.block b ver with | some _ => .ok (.val (.int .i64 len)) h | none => .bad
      | some { desc := .string, .. }, .val (.string s) => .ok (.val (.int .i64 s.size)) h
      | some { desc := .array n _, .. }, _ => .ok (.val (.int .i64 n)) h
      | _, _ => .bad
    | _, _ => .bad
  | .call { callee := .builtin .max, args, .. } =>
    match args.toList.map ρ with
    | [.val (.int k a), .val (.int _ b)] => .ok (.val (.int k (if b > a then b else a))) h
    | _ => .bad
  | .call { callee := .builtin .min, args, .. } =>
    match args.toList.map ρ with
    | [.val (.int k a), .val (.int _ b)] => .ok (.val (.int k (if b < a then b else a))) h
    | _ => .bad
  | .call { callee := .builtin .append, args, argTypes } =>
    match argTypes.toList, args.toList.map ρ with
    | [t, t'], [s, x] =>
      match T t with
      | some { desc := .slice e, .. } =>
        match T e, (match T e with | some ei => bif Nat.beq t t' then elemsOf h ei.size x else none | none => none) with
        | some ei, some (m, fx) =>
          let fl := flatOf h x
          bif Nat.blt 0 ei.size then
            match s with
            | .eslice => .need (m * (ei.bytes + 1) ≤ 1000000000000) (.oslice h.blocks.length 0 0 m none) (h.addB { es := ei.size, len := m, f := fx, flat := fl })
            | .oslice b ver off len (some c) =>
              match h.block b ver with
              | some k => bif Nat.beq k.es ei.size then .need ((c < len + m ∨ m = 0 ∧ c = 0) ∧ (len + m) * (ei.bytes + 1) ≤ 1000000000000) (.oslice h.blocks.length 0 0 (len + m) none) (h.addB { es := ei.size, len := len + m, f := fun i => if i < len then k.f (off + i) else fx (i - len), flat := fl && k.flat }) else .bad
              | none => .bad
            | .cslice es len c f => bif Nat.beq es ei.size then .need (c < len + m ∧ (len + m) * (ei.bytes + 1) ≤ 1000000000000) (.oslice h.blocks.length 0 0 (len + m) none) (h.addB { es := ei.size, len := len + m, f := fun i => if i < len then f i else fx (i - len), flat := fl }) else .bad
            | .oslice b ver off len none =>
              match h.block b ver with
              | some k => bif Nat.beq k.es ei.size && !k.ro then .need ((len + m) * (ei.bytes + 1) ≤ 1000000000000) (.oslice b (ver + 1) 0 (len + m) none) (h.setB b { k with len := len + m, ver := ver + 1, f := fun i => if i < len then k.f (off + i) else fx (i - len), flat := fl && k.flat }) else .bad
              | none => .bad
            | _ => .bad
          else .bad
        | _, _ => .bad
      | _ => .bad
    | _, _ => .bad
  | .call { callee := .value f, args, .. } =>
    match ρ f with
    | .func (.func g) nf cap => (fun l => .call g ((cap.take nf).map (fz h) ++ (args.toList.map fun x => fz h (ρ x)) ++ (cap.drop nf).map (fz h)) (l.flatMap (·.1)) (l.flatMap (·.2))) ((cap.take nf).map (refs h 5) ++ (args.toList.map fun x => refs h 5 (ρ x)) ++ (cap.drop nf).map (refs h 5))
    | .yld i => .yieldc i (args.toList.map ρ)
    | _ => .bad
  | .mapUpdate t m i x =>
    match T t, ρ m, ρ i with
    | some { desc := .map kt _, .. }, .omap b, .val key =>
      match keyKind T kt with
      | some ki =>
        match nth? h.maps b with
        | some am => bif kindIs ki am.ki && keyIs ki key && AV.tree 4 (ρ x) && !am.ro then .ok .top { h with maps := setNth h.maps b { am with has := fun k => am.has k || keyEq k key, get := fun k => bif keyEq k key then ρ x else am.get k } } else .bad
        | none => .bad
      | none => .bad
    | _, _, _ => .bad
  | _ => .bad
where
  keyEq : Value → Value → Bool
  | .int k a, .int k' b => decide (k = k') && a == b
  | .string a, .string b => a == b
  | .bool a, .bool b => a == b
  | _, _ => false
end

/-- Does an operation write to memory that is there? (an append onto a slice of the call's own whose room is not known does) -/
def isEff (o : Oper) (ρ : Operand → AV) : Bool :=
  match o.op with
  | .store .. | .mapUpdate .. => true
  | .call { callee := .builtin .append, args, .. } => match args.toList.map ρ with | .oslice _ _ _ _ none :: _ => true | _ => false
  | _ => false

/-! ### The weakest precondition -/

/-- A truth value decides: both ways under their conditions. -/
def ifB (b : Bool) (x y : Prop) : Prop := match b with | true => x | false => y
theorem ifB_intro {b : Bool} {x y : Prop} (h1 : b = true → x) (h2 : b = false → y) : ifB b x y := by cases b <;> simp_all [ifB]

/-- A tree that a call handed back as memory of its own: its slices become blocks from number n on. -/
def adoptL : List AV → Nat → List AV × List AB
  | [], _ => ([], [])
  | .rslice es len f :: r, n => match adoptL r (n + 1) with | (r', bs) => (.oslice n 0 0 len none :: r', { es, len, f } :: bs)
  | x :: r, n => match adoptL r n with | (r', bs) => (x :: r', bs)

def adopt1 : AV → Nat → AV × List AB
  | .rslice es len f, n => (.oslice n 0 0 len none, [{ es, len, f }])
  | .agg l, n => match adoptL l n with | (l', bs) => (.agg l', bs)
  | x, _ => (x, [])

def adoptT : List AV → Nat → List AV × List AB
  | [], _ => ([], [])
  | x :: r, n => match adopt1 x n with | (x', b1) => match adoptT r (n + b1.length) with | (r', b2) => (x' :: r', b1 ++ b2)

def adopt : AV → Nat → AV × List AB
  | .tuple l, n => match adoptT l n with | (l', bs) => (.tuple l', bs)
  | x, n => adopt1 x n

def hasNat (l : List Nat) (n : Nat) : Bool := l.any (Nat.beq n)
def roB (ids : List Nat) : Nat → List AB → List AB
  | _, [] => []
  | n, k :: r => (bif hasNat ids n then { k with ro := true } else k) :: roB ids (n + 1) r
def roM (ids : List Nat) : Nat → List AM → List AM
  | _, [] => []
  | n, k :: r => (bif hasNat ids n then { k with ro := true } else k) :: roM ids (n + 1) r

/-- A call of the function that a range over a function hands out, in a frame of n slots. -/
abbrev YT := Nat → Nat → List AV → St → (Bool → St → Prop) → Prop

/-- What a walk may lean on. S: contracts; I: a function run in place, on the same heap (from a frame of n slots); Y: the yield of this frame; rok: may it range over functions? any: may it meet a truth value that is not known? -/
structure Env where
  S : FuncId → List AV → AV → Bool → Prop
  I : YT → FuncId → List AV → Nat → St → (AV → St → Prop) → Prop
  Y : YT
  rok : Bool
  any : Bool

def noY : YT := fun _ _ _ _ _ => False
def Env.plain (E : Env) : Env := { E with I := fun _ _ _ _ _ _ => False, Y := noY, any := false }

/-- The slots of a frame laid aside, and fetched again. -/
def pushSv (n : Nat) (tm sv : List (Nat × AV)) : List (Nat × AV) := tm.filter (fun p => Nat.blt p.1 n) ++ sv.map fun p => (p.1 + n, p.2)
def popTm (n : Nat) (sv : List (Nat × AV)) : List (Nat × AV) := sv.filter fun p => Nat.blt p.1 n
def popSv (n : Nat) (sv : List (Nat × AV)) : List (Nat × AV) := (sv.filter fun p => Nat.ble n p.1).map fun p => (p.1 - n, p.2)

/-- Values laid open before they are used again (the walk's terms stay small). -/
def forceNr {α : Type} : Nat → (Nat → α) → α
  | 0, k => k 0
  | n + 1, k => forceNr n fun m => k (m + 1)
def force0 {α : Type} (x : AV) (k : AV → α) : α :=
  match x with
  | .val (.int kd n) => k (.val (.int kd n))
  | .val (.bool b) => k (.val (.bool b))
  | .val v => k (.val v)
  | .optr b ver idx sub => forceNr b fun b => forceNr ver fun ver => k (.optr b ver idx sub)
  | .oslice b ver off len cap => forceNr b fun b => forceNr ver fun ver => k (.oslice b ver off len cap)
  | .omap b => forceNr b fun b => k (.omap b)
  | .rslice es len f => k (.rslice es len f)
  | .agg l => k (.agg l)
  | .tuple l => k (.tuple l)
  | .func fn nf l => k (.func fn nf l)
  | x => k x
def forceS {α β : Type} (g : β → (β → α) → α) : List β → (List β → α) → α
  | [], k => k []
  | x :: r, k => g x fun x' => forceS g r fun r' => k (x' :: r')
def force1 {α : Type} (x : AV) (k : AV → α) : α :=
  force0 x fun x => match x with
  | .agg l => forceS force0 l fun l => k (.agg l)
  | .tuple l => forceS force0 l fun l => k (.tuple l)
  | .func fn nf l => forceS force0 l fun l => k (.func fn nf l)
  | x => k x
def force2 {α : Type} (x : AV) (k : AV → α) : α :=
  force0 x fun x => match x with
  | .agg l => forceS force0 l fun l => k (.agg l)
  | .tuple l => forceS force1 l fun l => k (.tuple l)
  | .func fn nf l => forceS force1 l fun l => k (.func fn nf l)
  | x => k x
def forceB {α : Type} (x : AB) (k : AB → α) : α :=
  match x with
  | ⟨es, len, f, ver, ro, flat⟩ => k ⟨es, len, f, ver, ro, flat⟩
def forceM {α : Type} (x : AM) (k : AM → α) : α :=
  match x with
  | ⟨ki, et, has, get, ro⟩ => k ⟨ki, et, has, get, ro⟩
def putF {α : Type} (s : St) (d : Option Tmp) (v : AV) (K : St → α) : α :=
  match s with
  | ⟨tm, ⟨bs, ms, jump, ny⟩, sv⟩ =>
    forceS forceB bs fun bs => forceS forceM ms fun ms => force2 v fun v =>
      match d with
      | none => K ⟨tm, ⟨bs, ms, jump, ny⟩, sv⟩
      | some t => K ⟨(t, v) :: tm, ⟨bs, ms, jump, ny⟩, sv⟩

theorem forceNr_eq {α : Type} : ∀ (n : Nat) (k : Nat → α), forceNr n k = k n
  | 0, k => rfl
  | n + 1, k => by rw [forceNr, forceNr_eq n]
theorem force0_eq {α : Type} (x : AV) (k : AV → α) : force0 x k = k x := by
  unfold force0
  split <;> simp [forceNr_eq]
theorem forceS_eq {α β : Type} {g : β → (β → α) → α} (hg : ∀ x k, g x k = k x) : ∀ (l : List β) (k : List β → α), forceS g l k = k l
  | [], k => rfl
  | x :: r, k => by rw [forceS, hg, forceS_eq hg r]
theorem force1_eq {α : Type} (x : AV) (k : AV → α) : force1 x k = k x := by
  unfold force1
  rw [force0_eq]
  split <;> simp [forceS_eq force0_eq]
theorem force2_eq {α : Type} (x : AV) (k : AV → α) : force2 x k = k x := by
  unfold force2
  rw [force0_eq]
  split <;> simp [forceS_eq force0_eq, forceS_eq force1_eq]
theorem forceB_eq {α : Type} (x : AB) (k : AB → α) : forceB x k = k x := by cases x; rfl
theorem forceM_eq {α : Type} (x : AM) (k : AM → α) : forceM x k = k x := by cases x; rfl
theorem putF_eq {α : Type} (s : St) (d : Option Tmp) (v : AV) (K : St → α) : putF s d v K = K (s.put d v) := by
  obtain ⟨tm, ⟨bs, ms, jump, ny⟩, sv⟩ := s
  unfold putF
  simp only [forceS_eq forceB_eq, forceS_eq forceM_eq, force2_eq]
  cases d <;> rfl

/-- The arguments of a call as they are (references too). -/
def rawArgs (o : Oper) (ρ : Operand → AV) : List AV :=
  match o.op with
  | .call { callee := .value f, args, .. } =>
    match ρ f with
    | .func _ nf cap => cap.take nf ++ args.toList.map ρ ++ cap.drop nf
    | _ => []
  | _ => []

section
variable (E : Env) (T : Nat → Option TI)

def opW (n : Nat) (o : Oper) (s : St) (K : AV → St → Prop) : Prop :=
  match opEv T o s.eval s.hp with
  | .bad => False
  | .ok v h => K v { s with hp := h }
  | @Res.need p _ v h => p ∧ K v { s with hp := h }
  | @Res.anyB p _ b h => match E.any with
    | true => ∀ x : Bool, (p → x = b) → K (.val (.bool x)) { s with hp := h }
    | false => p ∧ K (.val (.bool b)) { s with hp := h }
  | .call f args bs ms =>
    match o.op with
    | .call { callee := .value _, .. } => (∃ r fr, E.S f args r fr ∧
      match fr with
      | true => match adopt r s.hp.blocks.length with | (v, ks) => K v { s with hp := { s.hp with blocks := s.hp.blocks ++ ks } }
      | false => K r { s with hp := { s.hp with blocks := roB bs 0 s.hp.blocks, maps := roM ms 0 s.hp.maps } }) ∨
      E.I noY f (rawArgs o s.eval) n s (fun v s' => K v { s' with hp := { s'.hp with jump := s.hp.jump } })
    | _ => False
  | .yieldc i args =>
    match o.op with
    | .call { callee := .value _, .. } => E.Y i n args s fun b s' => K (.val (.bool b)) s'
    | _ => False

/-- Does the frame have the slot? -/
def slotOk (n : Nat) : Option Tmp → Bool
  | none => true
  | some t => Nat.blt t n

/-- One operation in its turn. st: may it write? -/
def oneW (n : Nat) (st : (Operand → AV) → Option Bool) (o : Oper) (s : St) (K : St → Prop) : Prop :=
  match st s.eval with
  | none => False
  | some b =>
  match slotOk n o.dst && (b || !isEff o s.eval) with
  | true => opW E T n o s fun v s' => putF s' o.dst v K
  | false => False

def opsW (n : Nat) (st : Nat → (Operand → AV) → Option Bool) (ops : Array Oper) (K : St → Prop) : Nat → List Oper → St → Prop
  | _, [], s => K s
  | i, o :: r, s =>
    match o.guard with
    | none => oneW E T n (st i) o s (opsW n st ops K (i + 1) r)
    | some (j, want) =>
      match (nth? ops.toList j).bind (·.dst) with
      | none => False
      | some t =>
        match look s.tm t with
        | .val (.bool b) =>
          ifB b
            (match want with
             | true => putF s (some t) (.val (.bool true)) fun s => oneW E T n (st i) o s (opsW n st ops K (i + 1) r)
             | false => putF s (some t) (.val (.bool true)) fun s => putF s o.dst (.val undef) (opsW n st ops K (i + 1) r))
            (match want with
             | false => putF s (some t) (.val (.bool false)) fun s => oneW E T n (st i) o s (opsW n st ops K (i + 1) r)
             | true => putF s (some t) (.val (.bool false)) fun s => putF s o.dst (.val undef) (opsW n st ops K (i + 1) r))
        | .val (.tuple _) => putF s o.dst (.val undef) (opsW n st ops K (i + 1) r)
        | _ => False

/-- Names of old versions forgotten, blocks and maps from a number on dropped. -/
def canonAV (h : Hp) (nb nm ny : Nat) : Nat → AV → AV
  | 0, _ => .top
  | _ + 1, .optr b ver i sub => bif Nat.blt b nb then (match h.block b ver with | some _ => .optr b 0 i sub | none => .top) else .top
  | _ + 1, .oslice b ver off len cap => bif Nat.blt b nb then (match h.block b ver with | some _ => .oslice b 0 off len cap | none => .top) else .top
  | _ + 1, .yld i => bif Nat.blt i ny then .yld i else .top
  | _ + 1, .omap b => bif Nat.blt b nm then .omap b else .top
  | n + 1, .agg l => .agg (l.map (canonAV h nb nm ny n))
  | n + 1, .tuple l => .tuple (l.map (canonAV h nb nm ny n))
  | n + 1, .func fn nf l => .func fn nf (l.map (canonAV h nb nm ny n))
  | _ + 1, x => x

def canonB (h : Hp) (nb nm ny : Nat) (k : AB) : AB :=
  bif k.flat then { k with ver := 0 } else { k with ver := 0, f := fun i => (k.f i).map (canonAV h nb nm ny 5) }

def canon (keep : List Nat) (nb nm ny : Nat) (s : St) : St :=
  { tm := keep.map fun t => (t, canonAV s.hp nb nm ny 5 (look s.tm t)), hp := { s.hp with blocks := (s.hp.blocks.take nb).map (canonB s.hp nb nm ny), maps := s.hp.maps.take nm, ny }, sv := s.sv.map fun p => (p.1, canonAV s.hp nb nm ny 5 p.2) }

def BLe : List AB → List AB → Prop
  | [], [] => True
  | k :: r, k' :: r' => (k'.es = k.es ∧ k'.len = k.len ∧ k'.ver = k.ver ∧ k'.ro = k.ro ∧ (k'.flat = true → k.flat = true) ∧ ∀ i, i < k.len → k'.f i = k.f i) ∧ BLe r r'
  | _, _ => False

def MLe : List AM → List AM → Prop
  | [], [] => True
  | m :: r, m' :: r' => (m'.ro = m.ro ∧ m'.ki = m.ki ∧ m'.et = m.et ∧ ∀ k, m'.has k = m.has k ∧ m'.get k = m.get k) ∧ MLe r r'
  | _, _ => False

/-- The state s' says no more than s. -/
structure Weak (s s' : St) : Prop where
  tm : s'.tm = s.tm ∧ s'.sv = s.sv ∧ s'.hp.jump = s.hp.jump ∧ s'.hp.ny = s.hp.ny
  blocks : BLe s.hp.blocks s'.hp.blocks
  maps : MLe s.hp.maps s'.hp.maps

/-- An empty slice becomes a block of the call's own: in a slot, or in a variable (a block of one element) at a cell. -/
inductive Prep where
  | slot (t es : Nat)
  | cell (b sub es : Nat)

def prep1 (s : St) : Prep → St
  | .slot t es =>
    match look s.tm t with
    | .eslice => { s with tm := (t, .oslice s.hp.blocks.length 0 0 0 none) :: s.tm, hp := s.hp.addB { es, len := 0, f := fun _ => [] } }
    | _ => s
  | .cell b sub es =>
    match nth? s.hp.blocks b with
    | some k =>
      match k.len, nth? (k.f 0) sub with
      | 1, some .eslice => { s with hp := (s.hp.setB b { k with f := fun _ => splice (k.f 0) sub [.oslice s.hp.blocks.length 0 0 0 none], flat := false }).addB { es, len := 0, f := fun _ => [] } }
      | _, _ => s
    | none => s

def prep (s : St) (l : List Prep) : St := l.foldl prep1 s

/-- May the operation write? (an append onto a slice literal of the same region never does) -/
def effOp (ops : Array Oper) (o : Oper) : Bool :=
  match o.op with
  | .store .. | .mapUpdate .. => true
  | .call { callee := .builtin .append, args, .. } =>
    match args.toList with
    | .tmp t :: _ => !(ops.toList.any fun q => (match q.dst with | some d => Nat.beq d t | none => false) && (match q.op with | .buildSlice .. => true | _ => false))
    | _ => true
  | _ => false

def effAt (ops : Array Oper) (i : Nat) : Bool := match nth? ops.toList i with | some o => effOp ops o | none => true

/-- Does an operation ask the heap for nothing? -/
def pureOp (o : Oper) : Bool :=
  match o.op with
  | .move _ | .assign _ | .pick .. | .build .. | .binOp .. | .unOp .. | .makeFunc .. | .field .. | .index .. | .extract .. | .slice _ _ _ _ (some _) => true
  | _ => false

/-- Does an operation ask for the shape of memory alone (which blocks there are, not what they hold)? -/
def softOp (o : Oper) : Bool :=
  match o.op with
  | .fieldAddr .. | .indexAddr .. => true
  | _ => false
def storeOp (o : Oper) : Bool :=
  match o.op with
  | .store .. => true
  | _ => false

/-- Do all operations between two places keep the shape of memory? -/
def betweenOk (ops : Array Oper) (i j : Nat) : Bool :=
  (List.range ops.size).all fun k => !(Nat.blt i k && Nat.blt k j) || (match nth? ops.toList k with | some z => pureOp z || softOp z || storeOp z | none => true)

def tmpsOf : List Operand → List Tmp
  | [] => []
  | .tmp t :: r => t :: tmpsOf r
  | _ :: r => tmpsOf r

/-- The slots that an operation names besides the one that it writes; its guard's too. -/
def readsOf (ops : Array Oper) (o : Oper) : List Tmp :=
  tmpsOf o.op.operands.toList ++ (match o.guard with | some (j, _) => (match (nth? ops.toList j).bind (·.dst) with | some t => [t] | none => []) | none => [])

/-- The operations that stand before each one, as bits. -/
def befores : List Oper → List Nat → List Nat
  | [], acc => acc
  | o :: r, acc => befores r (acc ++ [o.after.toList.foldl (fun s e => bif Region.binds .any e then s ||| 2 ^ e.on ||| acc.getD e.on 0 else s) 0])

def isBefore (bf : List Nat) (i j : Nat) : Bool := (bf.getD j 0).testBit i

/-- The memory that an operation reads; the memory that it writes to. -/
def readBase (o : Oper) : Option Operand :=
  match o.op with
  | .load _ a => some a
  | .slice _ x _ _ none => some x
  | _ => none
def effTarget (o : Oper) : Option Operand :=
  match o.op with
  | .store _ a _ => some a
  | .call { callee := .builtin .append, args, .. } => nth? args.toList 0
  | _ => none

def heapFree : AV → Bool
  | .rptr _ | .rslice .. | .eslice | .val _ => true
  | _ => false
def blockOf : AV → Option Nat
  | .optr b .. | .oslice b .. => some b
  | _ => none
/-- What is read is no memory that is written to. -/
def apart (x y : AV) : Bool := heapFree x || heapFree y || (match blockOf x, blockOf y with | some b, some c => !Nat.beq b c | _, _ => false)

/-- A read and a write that are not ordered are looked at where the later one of both stands. -/
def gateOne (ops : Array Oper) (ρ : Operand → AV) (i j : Nat) : Bool :=
  match nth? ops.toList i, nth? ops.toList j with
  | some x, some y =>
    bif effOp ops x then (match readBase y with | some b => heapFree (ρ b) | none => false)
    else (match readBase x, effTarget y with | some b, some t => apart (ρ b) (ρ t) | _, _ => false)
  | _, _ => false
def gateAt (gl : List (Nat × Nat)) (ops : Array Oper) (j : Nat) (ρ : Operand → AV) : Bool := gl.all fun p => !Nat.beq p.2 j || gateOne ops ρ p.1 p.2
def gateSt (gl : List (Nat × Nat)) (ops : Array Oper) (j : Nat) (ρ : Operand → AV) : Option Bool := bif gateAt gl ops j ρ then some (effAt ops j) else none

/-- Is the slot of an operand left alone by the operations from i on, ahead of j? -/
def slotKept (ops : Array Oper) (b : Operand) (i j : Nat) : Bool :=
  match b with
  | .tmp t => (List.range ops.size).all fun k => !(Nat.ble i k && Nat.blt k j) || (match nth? ops.toList k with | some z => (match z.dst with | some d => !Nat.beq d t | none => true) | none => true)
  | _ => true
def gateStatic (ops : Array Oper) (i j : Nat) (x y : Oper) : Bool :=
  bif effOp ops x then !effOp ops y && (readBase y).isSome
  else effOp ops y && (match readBase x, effTarget y with | some b, some _ => slotKept ops b i j | _, _ => false)

/-- May two operations, i ahead of j in the text, be taken in either order, or are they ordered? -/
def pairOk (gl : List (Nat × Nat)) (ops : Array Oper) (bf : List Nat) (i j : Nat) (x y : Oper) : Bool :=
  isBefore bf i j ||
  ((match x.dst with | some d => !hasNat (readsOf ops y) d && (match y.dst with | some e => !Nat.beq d e | none => true) | none => true) &&
   (match y.dst with | some e => !hasNat (readsOf ops x) e | none => true) &&
   ((!effOp ops x || pureOp y || (softOp y && storeOp x && betweenOk ops i j)) && (!effOp ops y || pureOp x || (softOp x && storeOp y)) ||
    (gl.any (fun p => Nat.beq p.1 i && Nat.beq p.2 j) && gateStatic ops i j x y)))

def rowOk (gl : List (Nat × Nat)) (ops : Array Oper) (bf : List Nat) (j : Nat) (y : Oper) : Nat → List Oper → Bool
  | _, [] => true
  | i, x :: r => bif Nat.blt i j then pairOk gl ops bf i j x y && rowOk gl ops bf j y (i + 1) r else true

def allOk (gl : List (Nat × Nat)) (ops : Array Oper) (bf : List Nat) : Nat → List Oper → Bool
  | _, [] => true
  | j, y :: r => rowOk gl ops bf j y 0 ops.toList && y.after.toList.all (fun e => !Region.binds .any e || Nat.blt e.on j) && (match y.guard with | some (g, _) => Nat.blt g j | none => true) && allOk gl ops bf (j + 1) r

/-- A region that draws may be walked in the order of the text: what is not ordered does not meet. -/
def drawOk (gl : List (Nat × Nat)) (ops : Array Oper) : Bool := allOk gl ops (befores ops.toList []) 0 ops.toList && Region.noSelect ops

/-- The environment of a round. -/
def Env.round (E : Env) : Env := { E with Y := noY, rok := false }

/-- A round's parameters. -/
def bindP : List (Tmp × AV) → St → St
  | [], s => s
  | (t, x) :: r, s => bindP r (s.put (some t) x)

end

def AWP (T : Nat → Option TI) (n : Nat) : Code → Env → (Ex → St → Prop) → St → Prop
  | .skip, E, Q, s => Q .normal s
  | .seq a b, E, Q, s => AWP T n a E (fun e s => match e with | .normal => AWP T n b E Q s | e => Q e s) s
  | .cond x a b, E, Q, s =>
    match x, s.eval x with
    | .tmp t, .val (.bool c) => ifB c (putF s (some t) (.val (.bool true)) (AWP T n a E Q)) (putF s (some t) (.val (.bool false)) (AWP T n b E Q))
    | _, _ => False
  | .block id c, E, Q, s => AWP T n c E (fun e s => match e with | .exit i => (bif Nat.beq i id then Q .normal s else Q (.exit i) s) | e => Q e s) s
  | .loop c, E, Q, s => ∃ (pr : List Prep) (keep : List Nat) (I : St → Nat → Prop),
    (∃ s' m, I s' m ∧ Weak (canon keep (prep s pr).hp.blocks.length (prep s pr).hp.maps.length (prep s pr).hp.ny (prep s pr)) s') ∧
    ∀ s0 m0, I s0 m0 → AWP T n c E (fun e s1 => match e with
      | .normal => ∃ s' m, (I s' m ∧ m < m0) ∧ Weak (canon keep (prep s pr).hp.blocks.length (prep s pr).hp.maps.length (prep s pr).hp.ny s1) s'
      | e => Q e s1) s0
  | .exit id, E, Q, s => Q (.exit id) s
  | .ret, E, Q, s => Q .ret s
  | .region _ ops draw, E, Q, s => match draw with
    | true => ∃ gl : List (Nat × Nat), drawOk gl ops = true ∧ opsW E.plain T n (gateSt gl ops) ops (fun s => Q .normal s) 0 ops.toList s
    | false => opsW E T n (fun _ _ => some true) ops (fun s => Q .normal s) 0 ops.toList s
  | .rangeFunc g ps assign body, E, Q, s => E.rok = true ∧
    match s.eval g with
    | .func (.func f) nf cap =>
      E.I (fun i m args s1 K => (Nat.beq i s.hp.ny && Nat.beq args.length ps.size && s1.hp.jump.isNone && ps.toList.all (fun t => Nat.blt t n)) = true ∧
          AWP T n assign E.round (fun e s2 => match e with
            | .normal => AWP T n body E.round (fun e s3 => match e with
              | .normal => K true { tm := popTm m s3.sv, hp := { s3.hp with jump := none }, sv := popSv m s3.sv }
              | e => K false { tm := popTm m s3.sv, hp := { s3.hp with jump := some e }, sv := popSv m s3.sv }) s2
            | _ => False)
          (bindP (ps.toList.zip args) { tm := popTm n s1.sv, hp := s1.hp, sv := pushSv m s1.tm s1.sv }))
        f (cap.take nf ++ .yld s.hp.ny :: cap.drop nf) n { s with hp := { s.hp with jump := none, ny := s.hp.ny + 1 } }
        (fun _ s' => match s'.hp.jump with
          | none => Q .normal { s' with hp := { s'.hp with jump := s.hp.jump } }
          | some e => Q e { s' with hp := { s'.hp with jump := s.hp.jump } })
    | _ => False
  | _, _, _, _ => False

section
variable (E : Env) (T : Nat → Option TI)

/-- Equal as far as it can be seen. -/
def AVE : Nat → AV → AV → Prop
  | 0, _, _ => False
  | _ + 1, .rslice es len f, .rslice es' len' g => es = es' ∧ len = len' ∧ ∀ i, i < len → f i = g i
  | _ + 1, .eslice, .rslice _ len _ => len = 0
  | n + 1, .agg l, .agg l' => l.length = l'.length ∧ ∀ i x y, nth? l i = some x → nth? l' i = some y → AVE n x y
  | n + 1, .tuple l, .tuple l' => l.length = l'.length ∧ ∀ i x y, nth? l i = some x → nth? l' i = some y → AVE n x y
  | _ + 1, x, y => x = y

def resAV (s : St) : List ResultVar → Option (List AV)
  | [] => some []
  | .tmp t :: r => match resAV s r with | some l => some (look s.tm t :: l) | none => none
  | .cell a t :: r =>
    match resAV s r, T t, look s.tm a with
    | some l, some ti, .optr b ver idx sub =>
      match s.hp.block b ver with
      | some k => match ofCells ti.desc ti.size ((k.f idx).drop sub) with | some v => some (v :: l) | none => none
      | none => none
    | _, _, _ => none

def oneOf : List AV → AV
  | [x] => x
  | l => .tuple l

/-- Leaves that are plain or whole blocks of the call's own, no block twice. -/
def leaves : AV → List AV
  | .tuple l => l.flatMap AV.cells
  | x => x.cells

def ownLeaf (h : Hp) : AV → Option (Option Nat)
  | .val _ => some none
  | .eslice => some none
  | .oslice b ver _ _ _ => match h.block b ver with | some k => bif k.flat && !k.ro then some (some b) else none | none => none
  | _ => none

def ownB (h : Hp) : List AV → List Nat → Bool
  | [], _ => true
  | x :: r, seen => match ownLeaf h x with
    | none => false
    | some none => ownB h r seen
    | some (some b) => !hasNat seen b && ownB h r (b :: seen)

/-- The slices among the leaves hold plain values alone. -/
def PlainR : List AV → Prop
  | [] => True
  | .rslice _ len g :: r => (∀ i, i < len → ∀ x ∈ g i, ∃ v, x = .val v) ∧ PlainR r
  | _ :: r => PlainR r

def Fin (fn : Func) (r : AV) (fr : Bool) (s : St) : Prop :=
  match resAV T s fn.results.toList with
  | none => False
  | some l => AVE 5 (fz s.hp (oneOf l)) r ∧ (fr = true → ownB s.hp (leaves (oneOf l)) [] = true ∧ PlainR (leaves r))

def post (fn : Func) (r : AV) (fr : Bool) : Ex → St → Prop
  | .normal, s | .ret, s => Fin T fn r fr s
  | _, _ => False

/-- The frame in which a function's body begins. -/
def start (args : List AV) : Nat → List (Nat × AV)
  | n => match args with
    | [] => []
    | x :: r => (n, x) :: start r (n + 1)

/-- What a function's body gives. -/
def Body (fn : Func) (args : List AV) (r : AV) (fr : Bool) : Prop :=
  match fn.body with
  | none => False
  | some c => AWP T fn.ntmps c E (post T fn r fr) { tm := start args 0, hp := ⟨[], [], none, 0⟩ }

/-- A function run in place, up to a depth. -/
def INd (B : FuncId → Option Func) (S : FuncId → List AV → AV → Bool → Prop) : Nat → YT → FuncId → List AV → Nat → St → (AV → St → Prop) → Prop
  | 0, _, _, _, _, _, _ => False
  | d + 1, Y, f, args, n, s, K =>
    match B f with
    | none => False
    | some fn =>
      match fn.body with
      | none => False
      | some c =>
        match !(fn.name == "runtime.NumGoroutine") && Nat.ble args.length fn.ntmps with
        | true => AWP T fn.ntmps c { S, I := INd B S d, Y, rok := true, any := true } (fun e s' =>
            match e with
            | .exit _ => False
            | _ => match resAV T s' fn.results.toList with
              | some l => K (oneOf l) { tm := popTm n s'.sv, hp := s'.hp, sv := popSv n s'.sv }
              | none => False)
          { tm := start args 0, hp := s.hp, sv := pushSv n s.tm s.sv }
        | false => False
end
end Go.Tr
