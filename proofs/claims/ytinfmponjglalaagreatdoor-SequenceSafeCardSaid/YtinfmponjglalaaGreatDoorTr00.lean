/- Abstract values and heaps, and the abstract weakest precondition over Code (definitions). Conditions: none; the soundness lies in TrS. -/
import Derived.WalkKit
import Derived.ChangeKeysEq
set_option linter.unusedSectionVars false
set_option linter.unnecessarySimpa false
set_option linter.unusedVariables false
set_option linter.unusedSimpArgs false

namespace Go.Tr
open Go

inductive LK where
 | bool
 | int (k : IntKind)
 | str

inductive KK where
 | str
 | int (k : IntKind)
 | agg (ks : List LK)

inductive AV where
 | top
 | val (v : Value)
 | agg (l : List AV)
 | tuple (l : List AV)
 | func (fn : Fn) (nf : Nat) (cap : List AV)
 | eslice
 | rslice (es len : Nat) (f : Nat → List AV)
 | rptr (l : List AV)
 | optr (b ver idx sub : Nat)
 | oslice (b ver off len : Nat) (cap : Option Nat)
 | omap (b : Nat)
 | cslice (es len cap : Nat) (f : Nat → List AV)
 | rmap (ki : KK) (et : TypeId) (has : Value → Bool) (get : Value → AV)
 | yld (i : Nat)
 | oiter (b : Nat)
 | aslice (b ver idx sub es len : Nat)
 | err

instance : Inhabited AV := ⟨.top⟩

structure AB where
 es : Nat
 len : Nat
 f : Nat → List AV
 ver : Nat := 0
 ro : Bool := false
 flat : Bool := true
 one : Bool := false

structure AM where
 ki : KK
 et : TypeId
 has : Value → Bool
 get : Value → AV
 ro : Bool := false
 it : Option (Value → Bool) := none
 left : Nat := 0
 cur : AV := .top

inductive Ex where
 | normal
 | exit (id : Nat)
 | ret

structure Hp where
 blocks : List AB
 maps : List AM
 jump : Option Ex := none
 ny : Nat := 0

structure St where
 tm : List (Nat × AV)
 hp : Hp
 sv : List (Nat × AV) := []

structure TI where
 desc : TypeDesc
 size : Nat
 bytes : Nat
 zero : Value
 kinds : Option (List LK)

def look : List (Nat × AV) → Nat → AV
 | [],_=>.top
 | (k,x) :: r,t=>bif Nat.beq k t then x else look r t

def constAV : Value → AV
 | .slice none 0 0=>.eslice
 | .agg cs=>bif cs.toList.all Value.oneCell' then .agg (cs.toList.map fun | .slice none 0 0=>.eslice | v=>.val v) else .top
 | .tuple _=>.top
 | v=>.val v

class GTab where
 gt : Nat → Option (List AV)
 kept : Prop
 gi : Nat → Bool

def gAV [GTab] (g : Nat) : AV := match GTab.gt g with | some l=>.rptr l | none=>.top

def St.eval [GTab] (s : St) : Operand → AV
 | .tmp t=>look s.tm t
 | .const v=>constAV v
 | .func f=>.func (.func f) 0 []
 | .global g=>gAV g

def St.put (s : St) (d : Option Tmp) (x : AV) : St :=
 match d with
 | none=>s
 | some t=>{ s with tm := (t,x) :: s.tm }

def St.setHp (s : St) (h : Hp) : St := match s with | ⟨tm,_,sv⟩=>⟨tm,h,sv⟩
theorem St.setHp_eq (s : St) (h : Hp) : s.setHp h = { s with hp := h } := rfl

def AV.tree : Nat → AV → Bool
 | 0,_=>false
 | n + 1,.agg l | n + 1,.tuple l | n + 1,.func _ _ l=>l.all (AV.tree n)
 | _ + 1,.optr .. | _ + 1,.oslice .. | _ + 1,.omap _ | _ + 1,.yld _ | _ + 1,.oiter _ | _ + 1,.aslice ..=>false
 | _ + 1,_=>true

def AV.cells : AV → List AV
 | .agg l=>l
 | x=>[x]

def AV.storable : AV → Bool
 | .top | .tuple _ | .yld _ | .oiter _=>false
 | .val v=>v.oneCell'
 | _=>true

def nth? {α : Type} : List α → Nat → Option α
 | [],_=>none
 | x :: _,0=>some x
 | _ :: r,n + 1=>nth? r n

def setNth {α : Type} : List α → Nat → α → List α
 | [],_,_=>[]
 | _ :: r,0,x=>x :: r
 | y :: r,n + 1,x=>y :: setNth r n x

def Hp.block (h : Hp) (b ver : Nat) : Option AB :=
 match nth? h.blocks b with
 | some k=>bif Nat.beq k.ver ver then some k else none
 | none=>none

def splice : List AV → Nat → List AV → List AV
 | [],_,_=>[]
 | _ :: r,0,v :: vs=>v :: splice r 0 vs
 | x :: r,0,[]=>x :: r
 | x :: r,n + 1,vs=>x :: splice r n vs

def forceL {α : Type} : List AV → (List AV → α) → α
 | [],k=>k []
 | x :: r,k=>forceL r fun r'=>k (x :: r')

def shiftF {α : Type} (off : Nat) (f : Nat → α) : Nat → α := match off with | 0=>f | n + 1=>fun i=>f (n + 1 + i)
theorem shiftF_eq {α : Type} (off : Nat) (f : Nat → α) : shiftF off f = fun i=>f (off + i) := by
 cases off with
 | zero=>funext i; show f i = f (0 + i); rw [Nat.zero_add]
 | succ n=>rfl

def freeze (h : Hp) : Nat → AV → AV
 | 0,_=>.top
 | n + 1,.optr b ver idx sub =>
  match h.block b ver with
  | some k=>bif k.flat then .rptr ((k.f idx).drop sub) else .rptr (((k.f idx).drop sub).map (freeze h n))
  | none=>.top
 | n + 1,.oslice b ver off len _ =>
  match h.block b ver with
  | some k=>bif k.flat then .rslice k.es len (shiftF off k.f) else .rslice k.es len fun i=>(shiftF off k.f i).map (freeze h n)
  | none=>.top
 | _ + 1,.omap b =>
  match nth? h.maps b with
  | some m=>match m.it with | none=>.rmap m.ki m.et m.has m.get | some _=>.top
  | none=>.top
 | _ + 1,.cslice es len _ f=>.rslice es len f
 | _ + 1,.aslice b ver idx sub es len =>
  match h.block b ver with
  | some k=>bif k.flat then .rslice es len fun i=>((k.f idx).drop (sub + i * es)).take es else .top
  | none=>.top
 | n + 1,.agg l=>.agg (l.map (freeze h n))
 | n + 1,.tuple l=>.tuple (l.map (freeze h n))
 | n + 1,.func fn nf l=>.func fn nf (l.map (freeze h n))
 | _ + 1,.yld _ | _ + 1,.oiter _=>.top
 | _ + 1,x=>x

def fz (h : Hp) (x : AV) : AV := freeze h 5 x

def idxOf (i : AV) : Option Int := match i with | .val (.int _ n)=>some n | _=>none

def optIdx (ρ : Operand → AV) (x : Option Operand) (d : Int) : Option Int := match x with | some l=>idxOf (ρ l) | none=>some d

inductive Res where
 | bad
 | ok (v : AV) (h : Hp)
 | need (p : Prop) [d : Decidable p] (v : AV) (h : Hp)
 | anyB (p : Prop) [d : Decidable p] (b : Bool) (h : Hp)
 | upd (h : Hp) (b : Nat) (k : AB) (g : Nat → List AV) (fl : Bool)
 | either (p : Prop) [d : Decidable p] (v : AV) (h : Hp) (p' : Prop) [d' : Decidable p'] (v' : AV) (h' : Hp)
 | share (p : Prop) [d : Decidable p] (v : AV) (bs ms : List Nat)
 | ranged (ms : List Nat) (ki : KK) (et : TypeId) (has : Value → Bool) (get : Value → AV)
 | nextc (b : Nat) (m : AM) (seen : Value → Bool)
 | insF (b : Nat) (m : AM) (key : Value) (x : AV) (bs : List Nat)
 | call (f : FuncId) (args : List AV) (bs ms : List Nat)
 | yieldc (i : Nat) (args : List AV)

def Hp.addB (h : Hp) (k : AB) : Hp := match h with | ⟨bs,ms,j,n⟩=>⟨bs ++ [k],ms,j,n⟩
def Hp.setB (h : Hp) (b : Nat) (k : AB) : Hp := match h with | ⟨bs,ms,j,n⟩=>⟨setNth bs b k,ms,j,n⟩
def Hp.setBs (h : Hp) (l : List AB) : Hp := match h with | ⟨_,ms,j,n⟩=>⟨l,ms,j,n⟩
def Hp.setBM (h : Hp) (l : List AB) (m : List AM) : Hp := match h with | ⟨_,_,j,n⟩=>⟨l,m,j,n⟩

def isAggT (d : TypeDesc) : Bool := match d with | .struct _ | .array _ _=>true | _=>false

def ofCells (d : TypeDesc) (size : Nat) (l : List AV) : Option AV :=
 bif isAggT d then (bif Nat.ble size l.length then some (.agg (l.take size)) else none)
 else match l with
  | x :: _=>some x
  | []=>none

def inK (k : IntKind) (n : Int) : Prop := k.min ≤ n ∧ n ≤ k.max
instance (k : IntKind) (n : Int) : Decidable (inK k n) := inferInstanceAs (Decidable (k.min ≤ n ∧ n ≤ k.max))

def eqV : AV → AV → Option Bool
 | .val (.int k a),.val (.int k' b)=>if k = k' then some (a == b) else none
 | .val (.bool a),.val (.bool b)=>some (a == b)
 | .val (.string a),.val (.string b)=>some (a == b)
 | _,_=>none

def eqL : List AV → List AV → Option Bool
 | [],[]=>some true
 | x :: r,y :: s =>
  match eqV x y,eqL r s with
  | some a,some b=>some (a && b)
  | _,_=>none
 | _,_=>none

def isNilC : Operand → Bool
 | .const (.slice none 0 0)=>true
 | _=>false

def nilEv (op : BinOp) (d : Option TI) (x : AV) (h : Hp) : Res :=
 match d,x with
 | some { desc := .slice _,.. },.rslice _ len _ =>
  match op with
  | .eql=>.anyB (0 < len) false h
  | .neq=>.anyB (0 < len) true h
  | _=>.bad
 | some { desc := .slice _,.. },.eslice =>
  match op with
  | .eql=>.anyB False false h
  | .neq=>.anyB False false h
  | _=>.bad
 | _,_=>.bad

def valsOf : List AV → Option (List Value)
 | []=>some []
 | .val v :: r=>match valsOf r with | some l=>some (v :: l) | none=>none
 | _ :: _=>none

def kOk : List LK → List Value → Bool
 | [],[]=>true
 | .bool :: r,.bool _ :: s=>kOk r s
 | .int k :: r,.int k' _ :: s=>decide (k = k') && kOk r s
 | .str :: r,.string _ :: s=>kOk r s
 | _,_=>false

def vEqL : List Value → List Value → Bool
 | [],[]=>true
 | .int _ a :: r,.int _ b :: s=>a == b && vEqL r s
 | .bool a :: r,.bool b :: s=>a == b && vEqL r s
 | .string a :: r,.string b :: s=>a.toList == b.toList && vEqL r s
 | _,_=>false

def aggEv (op : BinOp) (d : Option TI) (l m : List AV) (h : Hp) : Res :=
 match d with
 | some { kinds := some ks, .. } =>
  match valsOf l,valsOf m with
  | some vs, some us =>
   bif kOk ks vs && kOk ks us then
    match op with
    | .eql=>.ok (.val (.bool (vEqL vs us))) h
    | .neq=>.ok (.val (.bool (!vEqL vs us))) h
    | _=>.bad
   else .bad
  | _,_=>.bad
 | _=>.bad

def bitI (op : BinOp) (k : IntKind) (x y : Int) : Int :=
 match op with
 | .and=>k.wrap ((BitVec.ofInt k.bits x &&& BitVec.ofInt k.bits y).toNat : Int)
 | .or=>k.wrap ((BitVec.ofInt k.bits x ||| BitVec.ofInt k.bits y).toNat : Int)
 | .xor=>k.wrap ((BitVec.ofInt k.bits x ^^^ BitVec.ofInt k.bits y).toNat : Int)
 | _=>k.wrap ((BitVec.ofInt k.bits x &&& ~~~(BitVec.ofInt k.bits y)).toNat : Int)
def shlI (k : IntKind) (x y : Int) : Int := k.wrap (x * 2 ^ (min y.toNat k.bits))
def shrI (k : IntKind) (x y : Int) : Int := x.fdiv (2 ^ (min y.toNat k.bits))

def fOp (op : BinOp) (a b : Nat) : Option Nat :=
 match op with
 | .add=>FloatKind.f64.format.add a b
 | .sub=>FloatKind.f64.format.sub a b
 | .mul=>FloatKind.f64.format.mul a b
 | _=>none
def fOp2 (op : BinOp) (x y : Option Nat) : Option Nat := match x,y with | some a,some b=>fOp op a b | _,_=>none
def pairO (x y : Option Nat) : Option (Nat × Nat) := match x,y with | some a,some b=>some (a,b) | _,_=>none
def cOp (op : BinOp) (a b c d : Nat) : Option (Nat × Nat) :=
 match op with
 | .add=>pairO (fOp .add a c) (fOp .add b d)
 | .sub=>pairO (fOp .sub a c) (fOp .sub b d)
 | .mul=>pairO (fOp2 .sub (fOp .mul a c) (fOp .mul b d)) (fOp2 .add (fOp .mul a d) (fOp .mul b c))
 | _=>none
def fInt (b : Nat) : Option Int := (FloatKind.f64.decode b).toInt .zero

def isNilI : Operand → Bool
 | .const .nilIface=>true
 | _=>false

def binEv (op : BinOp) (d : Option TI) (x y : AV) (yo : Bool) (h : Hp) : Res :=
 match x,y with
 | .val (.int k a), .val (.int k' b) =>
  if k = k' then
   match op with
   | .add=>.need (inK k (a + b)) (.val (.int k (a + b))) h
   | .sub=>.need (inK k (a - b)) (.val (.int k (a - b))) h
   | .mul=>.need (inK k (a * b)) (.val (.int k (a * b))) h
   | .quo=>.need (b ≠ 0 ∧ inK k (a.tdiv b)) (.val (.int k (a.tdiv b))) h
   | .rem=>.need (b ≠ 0) (.val (.int k (a.tmod b))) h
   | .eql=>.ok (.val (.bool (a == b))) h
   | .neq=>.ok (.val (.bool (a != b))) h
   | .lss=>.ok (.val (.bool (a < b))) h
   | .leq=>.ok (.val (.bool (a ≤ b))) h
   | .gtr=>.ok (.val (.bool (a > b))) h
   | .geq=>.ok (.val (.bool (a ≥ b))) h
   | .and=>.ok (.val (.int k (bitI .and k a b))) h
   | .or=>.ok (.val (.int k (bitI .or k a b))) h
   | .xor=>.ok (.val (.int k (bitI .xor k a b))) h
   | .andNot=>.ok (.val (.int k (bitI .andNot k a b))) h
   | .shl=>.need (0 ≤ b) (.val (.int k (shlI k a b))) h
   | .shr=>.need (0 ≤ b) (.val (.int k (shrI k a b))) h
  else match op with
   | .shl=>.need (0 ≤ b) (.val (.int k (shlI k a b))) h
   | .shr=>.need (0 ≤ b) (.val (.int k (shrI k a b))) h
   | _=>.bad
 | .val (.bool a),.val (.bool b) =>
  match op,d with
  | .eql,some { desc := .bool,.. }=>.ok (.val (.bool (a == b))) h
  | .neq,some { desc := .bool,.. }=>.ok (.val (.bool (!(a == b)))) h
  | _,_=>.bad
 | .val (.string a),.val (.string b) =>
  match op with
  | .eql=>.ok (.val (.bool (a.toList == b.toList))) h
  | .neq=>.ok (.val (.bool (!(a.toList == b.toList)))) h
  | .add=>.need (((a.size + b.size : Nat) : Int) ≤ 9223372036854775807) (.val (.string (a ++ b))) h
  | _=>.bad
 | .agg l,.agg m=>aggEv op d l m h
 | .err,.val .nilIface =>
  match op,d with
  | .eql,some { desc := .interface _,.. }=>.ok (.val (.bool false)) h
  | .neq,some { desc := .interface _,.. }=>.ok (.val (.bool true)) h
  | _,_=>.bad
 | .val .nilIface,.val .nilIface =>
  match yo,op,d with
  | true,.eql,some { desc := .interface _,.. }=>.ok (.val (.bool true)) h
  | true,.neq,some { desc := .interface _,.. }=>.ok (.val (.bool false)) h
  | _,_,_=>.bad
 | .val (.complex .f64 a b),.val (.complex .f64 c e)=>.need ((cOp op a b c e).isSome = true) (.val (.complex .f64 ((cOp op a b c e).getD (0,0)).1 ((cOp op a b c e).getD (0,0)).2)) h
 | _,_=>.bad

def elemsOf (h : Hp) (es : Nat) : AV → Option (Nat × (Nat → List AV))
 | .eslice=>some (0,fun _=>[])
 | .rslice es' len f=>bif Nat.beq es' es then some (len,f) else none
 | .cslice es' len _ f=>bif Nat.beq es' es then some (len,f) else none
 | .oslice b ver off len _ =>
  match h.block b ver with
  | some k=>bif Nat.beq k.es es then some (len,shiftF off k.f) else none
  | none=>none
 | .aslice b ver idx sub es' len =>
  match h.block b ver with
  | some k=>bif Nat.beq es' es then some (len,fun i=>((k.f idx).drop (sub + i * es')).take es') else none
  | none=>none
 | _=>none

def flatOf (h : Hp) : AV → Bool
 | .oslice b ver _ _ _=>match h.block b ver with | some k=>k.flat | none=>false
 | .aslice b ver _ _ _ _=>match h.block b ver with | some k=>k.flat | none=>false
 | _=>true

def buildCells (place : Nat → Option (Nat × Nat)) : List AV → List (Nat × AV) → Option (List AV)
 | cells,[]=>some cells
 | cells,(i,v) :: r =>
  match place i with
  | none=>none
  | some (off,size)=>bif Nat.beq v.cells.length size && Nat.ble (off + size) cells.length && v.storable then buildCells place (splice cells off v.cells) r else none

def refs (h : Hp) : Nat → AV → List Nat × List Nat
 | 0,_=>([],[])
 | n + 1,.optr b ver idx _ =>
  match h.block b ver with
  | some k=>bif k.flat then ([b],[]) else (fun l=>(b :: l.flatMap (·.1),l.flatMap (·.2))) ((k.f idx).map (refs h n))
  | none=>([],[])
 | _ + 1,.oslice b ver _ _ _ =>
  match h.block b ver with
  | some k=>bif k.flat then ([b],[]) else (List.range h.blocks.length,List.range h.maps.length)
  | none=>([],[])
 | _ + 1,.aslice b ver _ _ _ _ =>
  match h.block b ver with
  | some k=>bif k.flat then ([b],[]) else ([],[])
  | none=>([],[])
 | _ + 1,.omap b=>match nth? h.maps b with | some _=>([],[b]) | none=>([],[])
 | n + 1,.agg l | n + 1,.tuple l | n + 1,.func _ _ l=>(fun l=>(l.flatMap (·.1),l.flatMap (·.2))) (l.map (refs h n))
 | _ + 1,_=>([],[])

def leafsF (P : Program) (g : TypeId → Option (List LK)) : List Field → Nat → Option (List LK)
 | [],_=>some []
 | f :: r,off =>
  match g f.type,leafsF P g r (off + P.cellsOf f.type) with
  | some a, some b => bif f.name != "_" && Nat.beq f.offset off && Nat.beq (P.cellsOf f.type) a.length then some (a ++ b) else none
  | _,_=>none
def leafs (P : Program) : Nat → TypeId → Option (List LK)
 | 0,_=>none
 | m + 1, t =>
  match P.underlying t with
  | some .bool=>some [.bool]
  | some (.int k)=>some [.int k]
  | some .string=>some [.str]
  | some (.struct fs)=>bif P.stoodInHeld t then none else leafsF P (leafs P m) fs.toList 0
  | some (.array n e)=>match leafs P m e with
   | some a=>bif Nat.beq (P.cellsOf e) a.length then some ((List.range n).flatMap fun _=>a) else none
   | none=>none
  | _=>none
def kindsOf (P : Program) (t : TypeId) (d : TypeDesc) : Option (List LK) :=
  bif isAggT d && !P.eqGuardType P.depth t then leafs P 8 t else none

def TP (P : Program) (t : Nat) : Option TI :=
 match P.underlying t,P.info? t with
 | some d,some i =>
  match i.zero with
  | some z=>bif Nat.beq z.cells.size i.size && z.cells.toList.all Value.oneCell' then some ⟨d,i.size,i.bytes,z,kindsOf P t d⟩ else none
  | none=>none
 | _,_=>none

def forceNr {α : Type} : Nat → (Nat → α) → α
  | 0,k=>k 0
  | n + 1,k=>forceNr n fun m=>k (m + 1)
def force0 {α : Type} (x : AV) (k : AV → α) : α :=
 match x with
 | .val (.int kd n)=>k (.val (.int kd n))
 | .val (.bool b)=>k (.val (.bool b))
 | .val v=>k (.val v)
 | .optr b ver idx sub=>forceNr b fun b=>forceNr ver fun ver=>k (.optr b ver idx sub)
 | .oslice b ver off len cap=>forceNr b fun b=>forceNr ver fun ver=>k (.oslice b ver off len cap)
 | .omap b=>forceNr b fun b=>k (.omap b)
 | .rslice es len f=>k (.rslice es len f)
 | .agg l=>k (.agg l)
 | .tuple l=>k (.tuple l)
 | .func fn nf l=>k (.func fn nf l)
 | x=>k x
def forceS {α β : Type} (g : β → (β → α) → α) : List β → (List β → α) → α
  | [],k=>k []
  | x :: r,k=>g x fun x'=>forceS g r fun r'=>k (x' :: r')
def force1 {α : Type} (x : AV) (k : AV → α) : α :=
 force0 x fun x=>match x with
 | .agg l=>forceS force0 l fun l=>k (.agg l)
 | .tuple l=>forceS force0 l fun l=>k (.tuple l)
 | .func fn nf l=>forceS force0 l fun l=>k (.func fn nf l)
 | x=>k x
def force2 {α : Type} (x : AV) (k : AV → α) : α :=
 force0 x fun x=>match x with
 | .agg l=>forceS force0 l fun l=>k (.agg l)
 | .tuple l=>forceS force1 l fun l=>k (.tuple l)
 | .func fn nf l=>forceS force1 l fun l=>k (.func fn nf l)
 | x=>k x
def forceB {α : Type} (x : AB) (k : AB → α) : α :=
  match x with
  | ⟨es,len,f,ver,ro,flat,one⟩=>k ⟨es,len,f,ver,ro,flat,one⟩
def forceM {α : Type} (x : AM) (k : AM → α) : α :=
 match x with
 | ⟨ki,et,has,get,ro,none,left,cur⟩=>k ⟨ki,et,has,get,ro,none,left,cur⟩
 | ⟨ki,et,has,get,ro,some it,left,cur⟩=>k ⟨ki,et,has,get,ro,some it,left,cur⟩
theorem forceNr_eq {α : Type} : ∀ (n : Nat) (k : Nat → α),forceNr n k = k n
  | 0,k=>rfl
  | n + 1,k=>by rw [forceNr,forceNr_eq n]
theorem force0_eq {α : Type} (x : AV) (k : AV → α) : force0 x k = k x := by
  unfold force0
  split <;> simp [forceNr_eq]
theorem forceS_eq {α β : Type} {g : β → (β → α) → α} (hg : ∀ x k,g x k = k x) : ∀ (l : List β) (k : List β → α),forceS g l k = k l
  | [],k=>rfl
  | x :: r,k=>by rw [forceS,hg,forceS_eq hg r]
theorem force1_eq {α : Type} (x : AV) (k : AV → α) : force1 x k = k x := by
 unfold force1
 rw [force0_eq]
 split <;> simp [forceS_eq force0_eq]
theorem force2_eq {α : Type} (x : AV) (k : AV → α) : force2 x k = k x := by
 unfold force2
 rw [force0_eq]
 split <;> simp [forceS_eq force0_eq,forceS_eq force1_eq]
theorem forceB_eq {α : Type} (x : AB) (k : AB → α) : forceB x k = k x := by cases x; rfl
theorem forceM_eq {α : Type} (x : AM) (k : AM → α) : forceM x k = k x := by obtain ⟨ki,et,has,get,ro,it,left,cur⟩ := x; cases it <;> rfl

def AB.wr (k : AB) (f : Nat → List AV) (flat : Bool) : AB := match k with | ⟨es,len,_,ver,ro,_,one⟩=>⟨es,len,f,ver,ro,flat,one⟩
theorem AB.wr_eq (k : AB) (f : Nat → List AV) (flat : Bool) : k.wr f flat = { k with f,flat } := rfl
def AB.grow (k : AB) (len ver : Nat) (g : (Nat → List AV) → Nat → List AV) (flat : Bool) : AB := match k with | ⟨es,_,f,_,ro,_,one⟩=>⟨es,len,g f,ver,ro,flat,one⟩
theorem AB.grow_eq (k : AB) (len ver : Nat) (g : (Nat → List AV) → Nat → List AV) (flat : Bool) : k.grow len ver g flat = { k with len,f := g k.f,ver,flat } := rfl
def AM.wr (m : AM) (has : (Value → Bool) → Value → Bool) (get : (Value → AV) → Value → AV) : AM := match m with | ⟨ki,et,hs,gt,ro,it,left,cur⟩=>⟨ki,et,has hs,get gt,ro,it,left,cur⟩
theorem AM.wr_eq (m : AM) (has : (Value → Bool) → Value → Bool) (get : (Value → AV) → Value → AV) : m.wr has get = { m with has := has m.has,get := get m.get } := rfl
def Hp.addM (h : Hp) (m : AM) : Hp := match h with | ⟨bs,ms,j,n⟩=>⟨bs,ms ++ [m],j,n⟩
def Hp.setM (h : Hp) (b : Nat) (m : AM) : Hp := match h with | ⟨bs,ms,j,n⟩=>⟨bs,setNth ms b m,j,n⟩
theorem Hp.addM_eq (h : Hp) (m : AM) : h.addM m = { h with maps := h.maps ++ [m] } := rfl
theorem Hp.setM_eq (h : Hp) (b : Nat) (m : AM) : h.setM b m = { h with maps := setNth h.maps b m } := rfl
def forceC {α : Type} (l : List AV) (k : List AV → α) : α := forceS force0 l k
theorem forceC_eq {α : Type} (l : List AV) (k : List AV → α) : forceC l k = k l := forceS_eq force0_eq l k
def forceT {α : Type} (b : Bool) (k : Bool → α) : α := match b with | true=>k true | false=>k false
theorem forceT_eq {α : Type} (b : Bool) (k : Bool → α) : forceT b k = k b := by cases b <;> rfl

section
variable (T : Nat → Option TI)

def placesOf : List Field → Option (List (Nat × Nat))
 | []=>some []
 | f :: r =>
  match T f.type,placesOf r with
  | some fi,some l=>some ((f.offset,fi.size) :: l)
  | _,_=>none

def keyKind (kt : TypeId) : Option KK :=
 match T kt with
 | some { desc := .string,.. }=>some .str
 | some { desc := .int k,.. }=>some (.int k)
 | some { kinds := some ks,.. }=>some (.agg ks)
 | _=>none

def lksIs : List LK → List LK → Bool
 | [],[]=>true
 | .bool :: r,.bool :: s=>lksIs r s
 | .int k :: r,.int k' :: s=>decide (k = k') && lksIs r s
 | .str :: r,.str :: s=>lksIs r s
 | _,_=>false

def kindIs : KK → KK → Bool
 | .str,.str=>true
 | .int k,.int k'=>decide (k = k')
 | .agg l,.agg l'=>lksIs l l'
 | _,_=>false

def keyIs : KK → Value → Bool
 | .str,.string _=>true
 | .int k,.int k' _=>decide (k = k')
 | .agg ks,.agg vs=>kOk ks vs.toList
 | _,_=>false

def keyOf : AV → Option Value
 | .val v=>some v
 | .agg l=>match valsOf l with | some vs=>some (.agg vs.toArray) | none=>none
 | _=>none

def zeroCells (ti : TI) : List AV := (constAV ti.zero).cells

def opEv (o : Oper) (ρ : Operand → AV) (h : Hp) : Res :=
 match o.op with
 | .move x | .assign x=>.ok (ρ x) h
 | .pick c a b =>
  match ρ c with
  | .val (.bool true)=>.ok (ρ a) h
  | .val (.bool false)=>.ok (ρ b) h
  | _=>.bad
 | .alloc t =>
  match T t with
  | some ti=>forceNr ti.size fun es=>forceC (zeroCells ti) fun cs=>.ok (.optr h.blocks.length 0 0 0) (h.addB { es,len := 1,f := fun _=>cs,one := true })
  | none=>.bad
 | .box t x =>
  match T t with
  | some ti =>
   bif Nat.beq (ρ x).cells.length ti.size && (ρ x).storable then
    forceNr ti.size fun es=>forceC (ρ x).cells fun cs=>forceT (cs.all (AV.tree 4)) fun flat=>.ok (.optr h.blocks.length 0 0 0) (h.addB { es,len := 1,f := fun _=>cs,flat,one := true })
   else .bad
  | none=>.bad
 | .build t parts =>
  match T t with
  | some ti =>
   match ti.desc with
   | .struct fields =>
    match placesOf T fields.toList with
    | some pl =>
     match buildCells (nth? pl) (zeroCells ti) (parts.toList.map fun p=>(p.1,ρ p.2)) with
     | some l=>.ok (.agg l) h
     | none=>.bad
    | none=>.bad
   | .array _ e =>
    match T e with
    | some ei =>
     match buildCells (fun i=>some (i * ei.size,ei.size)) (zeroCells ti) (parts.toList.map fun p=>(p.1,ρ p.2)) with
     | some l=>.ok (.agg l) h
     | none=>.bad
    | none=>.bad
   | _=>.bad
  | none=>.bad
 | .buildSlice t len parts =>
  match T t with
  | some { desc := .slice e, .. } =>
   match T e with
   | some ei =>
    match buildCells (fun i=>some (i * ei.size,ei.size)) ((List.range len).flatMap fun _=>zeroCells ei) (parts.toList.map fun p=>(p.1,ρ p.2)) with
    | some l =>
     bif Nat.ble (len * ei.size) 100000 && Nat.blt 0 ei.size then
      forceNr ei.size fun es=>forceC l fun l=>forceT (l.all (AV.tree 4)) fun flat=>.ok (.oslice h.blocks.length 0 0 len (some len)) (h.addB { es,len,f := fun i=>(l.drop (i * es)).take es,flat })
     else .bad
    | none=>.bad
   | none=>.bad
  | _=>.bad
 | .load t a =>
  match T t with
  | some ti =>
   match ρ a with
   | .optr b ver idx sub =>
    match h.block b ver with
    | some k=>match ofCells ti.desc ti.size ((k.f idx).drop sub) with | some v=>.ok v h | none=>.bad
    | none=>.bad
   | .rptr l=>match ofCells ti.desc ti.size l with | some v=>.ok v h | none=>.bad
   | _=>.bad
  | none=>.bad
 | .store t a x =>
  match T t,ρ a with
  | some ti, .optr b ver idx sub =>
   match h.block b ver with
   | some k =>
    bif Nat.beq (ρ x).cells.length ti.size && !k.ro && (ρ x).storable && Nat.ble (sub + ti.size) k.es then
     match k.one with
     | true =>
      match k.len with
      | 1=>forceC (splice (k.f 0) sub (ρ x).cells) fun cs=>forceT (k.flat && (ρ x).cells.all (AV.tree 4)) fun fl=>.ok .top (h.setB b (k.wr (fun _=>cs) fl))
      | _=>.bad
     | false=>forceC (ρ x).cells fun cs=>forceT (k.flat && cs.all (AV.tree 4)) fun fl=>.upd h b k (fun i=>bif Nat.beq i idx then splice (k.f i) sub cs else k.f i) fl
    else .bad
   | none=>.bad
  | _,_=>.bad
 | .binOp op t x y _ =>
  match isNilC y with
  | true=>nilEv op (T t) (ρ x) h
  | false=>binEv op (T t) (ρ x) (ρ y) (isNilI y) h
 | .unOp op _ x =>
  match op,ρ x with
  | .not,.val (.bool b)=>.ok (.val (.bool !b)) h
  | .neg,.val (.int k n)=>.need (inK k (-n)) (.val (.int k (-n))) h
  | _,_=>.bad
 | .convert src dst x =>
  match T src,T dst,ρ x with
  | some _,some { desc := .int k,.. },.val (.int _ n)=>.need (inK k n) (.val (.int k n)) h
  | some { desc := .string,.. },some { desc := .slice e,.. },.val (.string s) =>
   match T e with
   | some { desc := .int .u8,.. }=>.ok (.rslice 1 s.size fun i=>[.val (.int .u8 (s.data.toList.getD i 0).toNat)]) h
   | _=>.bad
  | some _,some { desc := .float .f64,.. },.val (.int _ n)=>.ok (.val (.float .f64 (FloatKind.f64.nearest n))) h
  | some _,some { desc := .int k,.. },.val (.float .f64 b)=>.need ((fInt b).isSome = true ∧ inK k ((fInt b).getD 0)) (.val (.int k ((fInt b).getD 0))) h
  | some { desc := .slice e, .. }, some { desc := .string, .. }, xv =>
   match T e,elemsOf h 1 xv with
   | some { desc := .int .u8,.. },some (1,f) =>
    match f 0 with
    | [.val (.int .u8 n)]=>.ok (.val (.string ⟨#[UInt8.ofNat n.toNat]⟩)) h
    | _=>.bad
   | _,_=>.bad
  | _,_,_=>.bad
 | .makeFunc fn first captured=>.ok (.func fn first.size (first.toList.map ρ ++ captured.toList.map ρ)) h
 | .makeMap t none =>
  match T t with
  | some { desc := .map kt e,.. } =>
   match T e,keyKind T kt with
   | some ei,some ki=>force0 (constAV ei.zero) fun z=>.ok (.omap h.maps.length) (h.addM { ki,et := e,has := fun _=>false,get := fun _=>z })
   | _,_=>.bad
  | _=>.bad
 | .makeSlice t l c =>
  match T t,ρ l,ρ c with
  | some { desc := .slice e,.. },.val (.int .i64 n),.val (.int .i64 m) =>
   match T e with
   | some ei=>bif Nat.blt 0 ei.size then .need (0 ≤ n ∧ n ≤ m ∧ m ≤ 1000000000 ∧ m * ei.bytes ≤ 1000000000000) (.oslice h.blocks.length 0 0 n.toNat (some m.toNat)) (h.addB { es := ei.size,len := n.toNat,f := fun _=>zeroCells ei }) else .bad
   | none=>.bad
  | _,_,_=>.bad
 | .slice t x lo hi none =>
  match T t with
  | some { desc := .slice e, .. } =>
   match T e with
   | some ei =>
    match ρ x with
    | .rslice es len f =>
     match optIdx ρ lo 0,optIdx ρ hi len with
     | some l,some r=>bif Nat.beq es ei.size then .need (0 ≤ l ∧ l ≤ r ∧ r ≤ len) (.rslice es (r - l).toNat (shiftF l.toNat f)) h else .bad
     | _,_=>.bad
    | .oslice b ver off len cap =>
     match h.block b ver,optIdx ρ lo 0,optIdx ρ hi len with
     | some k,some l,some r=>bif Nat.beq k.es ei.size then .need (0 ≤ l ∧ l ≤ r ∧ off + r ≤ k.len) (.oslice b ver (off + l.toNat) (r - l).toNat (match cap with | some c=>some (c - l.toNat) | none=>none)) h else .bad
     | _,_,_=>.bad
    | _=>.bad
   | none=>.bad
  | some { desc := .string, .. } =>
   match ρ x with
   | .val (.string s) =>
    match optIdx ρ lo 0,optIdx ρ hi s.size with
    | some l,some r=>.need (0 ≤ l ∧ l ≤ r ∧ r ≤ s.size) (.val (.string (s.extract l.toNat r.toNat))) h
    | _,_=>.bad
   | _=>.bad
  | some { desc := .array n e, .. } =>
   match T e,ρ x with
   | some ei, .optr b ver idx sub =>
    match lo,hi with
    | none,none =>
     match h.block b ver with
     | some k=>bif Nat.blt 0 ei.size && Nat.blt 0 n && Nat.ble (sub + n * ei.size) k.es then .ok (.aslice b ver idx sub ei.size n) h else .bad
     | none=>.bad
    | _,_ =>
    match h.block b ver,optIdx ρ lo 0,optIdx ρ hi n with
    | some k,some l,some r=>bif k.flat && Nat.blt 0 ei.size && Nat.ble (sub + n * ei.size) k.es then .share (0 ≤ l ∧ l ≤ r ∧ r ≤ n) (.cslice ei.size (r - l).toNat (n - l.toNat) fun i=>((k.f idx).drop (sub + (l.toNat + i) * ei.size)).take ei.size) [b] [] else .bad
    | _,_,_=>.bad
   | _,_=>.bad
  | _=>.bad
 | .slice t x lo hi (some mx) =>
  match T t with
  | some { desc := .slice e, .. } =>
   match T e with
   | some ei =>
    match ρ x,optIdx ρ lo 0,idxOf (ρ mx) with
    | .eslice,some l,some m=>match optIdx ρ hi 0 with
     | some r=>.need (hi.isSome = true ∧ l = 0 ∧ r = 0 ∧ m = 0) .eslice h
     | none=>.bad
    | .rslice es len f,some l,some m=>match optIdx ρ hi len with
     | some r=>bif Nat.beq es ei.size then .need (hi.isSome = true ∧ 0 ≤ l ∧ l ≤ r ∧ r ≤ m ∧ m ≤ len) (.cslice es (r - l).toNat (m - l).toNat (shiftF l.toNat f)) h else .bad
     | none=>.bad
    | .oslice b ver _ len _,some l,some m=>match h.block b ver,optIdx ρ hi len with
     | some k,some r=>bif Nat.beq k.es ei.size then .share (hi.isSome = true ∧ 0 ≤ l ∧ l ≤ r ∧ r ≤ m ∧ m ≤ len) .top [] [] else .bad
     | _,_=>.bad
    | _,_,_=>.bad
   | none=>.bad
  | _=>.bad
 | .fieldAddr s x i =>
  match T s with
  | some { desc := .struct fields, .. } =>
   match nth? fields.toList i with
   | some f =>
    match T f.type,ρ x with
    | some fi,.optr b ver idx sub=>match h.block b ver with | some _=>(bif Nat.blt 0 fi.size then .ok (.optr b ver idx (sub + f.offset)) h else .bad) | none=>.bad
    | some fi,.rptr l=>bif Nat.blt 0 fi.size then .ok (.rptr (l.drop f.offset)) h else .bad
    | _,_=>.bad
   | none=>.bad
  | _=>.bad
 | .field s x i =>
  match T s,ρ x with
  | some { desc := .struct fields, .. }, .agg l =>
   match nth? fields.toList i with
   | some f=>match T f.type with
    | some fi=>match ofCells fi.desc fi.size (l.drop f.offset) with | some v=>.ok v h | none=>.bad
    | none=>.bad
   | none=>.bad
  | _,_=>.bad
 | .indexAddr t x i =>
  match T t,idxOf (ρ i) with
  | some { desc := .slice e, .. }, some n =>
   match T e,ρ x with
   | some ei,.rslice es len f=>bif Nat.beq es ei.size then .need (0 ≤ n ∧ n < len) (.rptr (f n.toNat)) h else .bad
   | some ei,.cslice es len _ f=>bif Nat.beq es ei.size then .need (0 ≤ n ∧ n < len) (.rptr (f n.toNat)) h else .bad
   | some ei,.aslice b ver idx sub es len =>
    match h.block b ver with
    | some _=>bif Nat.beq es ei.size then .need (0 ≤ n ∧ n < len) (.optr b ver idx (sub + n.toNat * es)) h else .bad
    | none=>.bad
   | some ei,.oslice b ver off len _ =>
    match h.block b ver with
    | some k=>bif Nat.beq k.es ei.size then .need (0 ≤ n ∧ n < len) (.optr b ver (off + n.toNat) 0) h else .bad
    | none=>.bad
   | _,_=>.bad
  | some { desc := .array len e,.. },some n =>
   match T e,ρ x with
   | some ei,.optr b ver idx sub=>match h.block b ver with | some _=>.need (0 ≤ n ∧ n < len) (.optr b ver idx (sub + n.toNat * ei.size)) h | none=>.bad
   | some ei,.rptr l=>.need (0 ≤ n ∧ n < len) (.rptr (l.drop (n.toNat * ei.size))) h
   | _,_=>.bad
  | _,_=>.bad
 | .index t x i =>
  match T t,ρ x,idxOf (ρ i) with
  | some { desc := .string,.. },.val (.string s),some n=>.need (0 ≤ n ∧ n < s.size) (.val (.int .u8 (s.data.toList.getD n.toNat 0).toNat)) h
  | some { desc := .array m e,.. },.agg l,some n =>
   match T e with
   | some ei=>match ofCells ei.desc ei.size (l.drop (n.toNat * ei.size)) with | some v=>.need (0 ≤ n ∧ n < m) v h | none=>.bad
   | none=>.bad
  | _,_,_=>.bad
 | .lookup t m i ok =>
  match T t,keyOf (ρ i) with
  | some { desc := .map kt et, .. }, some key =>
   match keyKind T kt with
   | some ki =>
    bif (T et).isSome then
     match ρ m with
     | .omap b =>
      match nth? h.maps b with
      | some am=>bif kindIs ki am.ki && keyIs ki key && Nat.beq et am.et && am.it.isNone then (bif ok then .ok (.tuple [am.get key,.val (.bool (am.has key))]) h else .ok (am.get key) h) else .bad
      | none=>.bad
     | .rmap ki' et' has get=>bif kindIs ki ki' && keyIs ki key && Nat.beq et et' then (bif ok then .ok (.tuple [get key,.val (.bool (has key))]) h else .ok (get key) h) else .bad
     | _=>.bad
    else .bad
   | _=>.bad
  | _,_=>.bad
 | .extract x i =>
  match ρ x with
  | .tuple l=>match nth? l i with | some v=>.ok v h | none=>.bad
  | _=>.bad
 | .nilCheck x =>
  match ρ x with
  | .optr b ver i sub=>match h.block b ver with | some _=>.ok (.optr b ver i sub) h | none=>.bad
  | .rptr l=>.ok (.rptr l) h
  | _=>.bad
 | .call { callee := .builtin .len, args, argTypes } =>
  match nth? argTypes.toList 0,nth? args.toList 0 with
  | some t,some x =>
   match T t,ρ x with
   | some { desc := .slice _,.. },.eslice=>.ok (.val (.int .i64 0)) h
   | some { desc := .slice _,.. },.rslice _ len _=>.ok (.val (.int .i64 len)) h
   | some { desc := .slice _,.. },.cslice _ len _ _=>.ok (.val (.int .i64 len)) h
   | some { desc := .slice _,.. },.aslice b ver _ _ _ len=>match h.block b ver with | some _=>.ok (.val (.int .i64 len)) h | none=>.bad
   | some { desc := .slice _,.. },.oslice b ver _ len _=>match h.block b ver with | some _=>.ok (.val (.int .i64 len)) h | none=>.bad
   | some { desc := .string,.. },.val (.string s)=>.ok (.val (.int .i64 s.size)) h
   | some { desc := .array n _,.. },.agg _=>.ok (.val (.int .i64 n)) h
   | _,_=>.bad
  | _,_=>.bad
 | .call { callee := .builtin .max,args,.. } =>
  match args.toList.map ρ with
  | [.val (.int k a),.val (.int _ b)]=>.ok (.val (.int k (if b > a then b else a))) h
  | _=>.bad
 | .call { callee := .builtin .min,args,.. } =>
  match args.toList.map ρ with
  | [.val (.int k a),.val (.int _ b)]=>.ok (.val (.int k (if b < a then b else a))) h
  | _=>.bad
 | .call { callee := .builtin .complex,args,.. } =>
  match args.toList.map ρ with
  | [.val (.float .f64 a),.val (.float .f64 b)]=>.ok (.val (.complex .f64 a b)) h
  | _=>.bad
 | .call { callee := .builtin .real,args,.. } =>
  match args.toList.map ρ with
  | [.val (.complex .f64 a _)]=>.ok (.val (.float .f64 a)) h
  | _=>.bad
 | .call { callee := .builtin .imag,args,.. } =>
  match args.toList.map ρ with
  | [.val (.complex .f64 _ b)]=>.ok (.val (.float .f64 b)) h
  | _=>.bad
 | .call { callee := .builtin .append, args, argTypes } =>
  match argTypes.toList,args.toList.map ρ with
  | [t, t'], [s, x] =>
   match T t with
   | some { desc := .slice e, .. } =>
    match T e,(match T e with | some ei=>bif Nat.beq t t' then elemsOf h ei.size x else none | none=>none) with
    | some ei, some (m, fx) =>
     let fl := flatOf h x
     bif Nat.blt 0 ei.size then
      match s with
      | .eslice=>.need (m * (ei.bytes + 1) ≤ 1000000000000) (.oslice h.blocks.length 0 0 m none) (h.addB { es := ei.size,len := m,f := fx,flat := fl })
      | .oslice b ver off len (some c) =>
       match h.block b ver with
       | some k=>bif Nat.beq k.es ei.size then .either ((c < len + m ∨ m = 0 ∧ c = 0) ∧ (len + m) * (ei.bytes + 1) ≤ 1000000000000) (.oslice h.blocks.length 0 0 (len + m) none) (h.addB { es := ei.size,len := len + m,f := fun i=>if i < len then k.f (off + i) else fx (i - len),flat := fl && k.flat }) (m = 0) (.oslice b ver off len (some c)) h else .bad
       | none=>.bad
      | .cslice es len c f=>bif Nat.beq es ei.size then .need (c < len + m ∧ (len + m) * (ei.bytes + 1) ≤ 1000000000000) (.oslice h.blocks.length 0 0 (len + m) none) (h.addB { es := ei.size,len := len + m,f := fun i=>if i < len then f i else fx (i - len),flat := fl }) else .bad
      | .aslice b ver idx sub es len =>
       match h.block b ver with
       | some k=>bif Nat.beq es ei.size then .need (0 < m ∧ (len + m) * (ei.bytes + 1) ≤ 1000000000000) (.oslice h.blocks.length 0 0 (len + m) none) (h.addB { es := ei.size,len := len + m,f := fun i=>if i < len then ((k.f idx).drop (sub + i * es)).take es else fx (i - len),flat := fl && k.flat }) else .bad
       | none=>.bad
      | .oslice b ver off len none =>
       match h.block b ver with
       | some k => bif Nat.beq k.es ei.size && !k.ro then
         .either ((len + m) * (ei.bytes + 1) ≤ 1000000000000) (.oslice b (ver + 1) 0 (len + m) none) (h.setB b (k.grow (len + m) (ver + 1) (fun f i=>if i < len then f (off + i) else fx (i - len)) (fl && k.flat)))
          (off + len + m ≤ k.len) (.oslice b ver off (len + m) none) (h.setB b (k.wr (fun i=>if i < off + len then k.f i else if i < off + len + m then fx (i - (off + len)) else k.f i) (fl && k.flat))) else .bad
       | none=>.bad
      | _=>.bad
     else .bad
    | _,_=>.bad
   | _=>.bad
  | _,_=>.bad
 | .call { callee := .builtin .clear, args, argTypes } =>
  match argTypes.toList,args.toList.map ρ with
  | [t], [x] =>
   match T t,x with
   | some { desc := .slice e,.. },.oslice b ver off len _ =>
    match T e,h.block b ver with
    | some ei,some k=>bif Nat.beq k.es ei.size && !k.ro && Nat.blt 0 ei.size then .ok .top (h.setB b (k.wr (fun i=>if off ≤ i ∧ i < off + len then zeroCells ei else k.f i) k.flat)) else .bad
    | _,_=>.bad
   | _,_=>.bad
  | _,_=>.bad
 | .range t x =>
  match T t with
  | some { desc := .map kt et, .. } =>
   match keyKind T kt with
   | some ki =>
    bif (T et).isSome then
     match ρ x with
     | .omap b =>
      match nth? h.maps b with
      | some am=>bif kindIs ki am.ki && Nat.beq et am.et && am.it.isNone then .ranged [b] ki et am.has am.get else .bad
      | none=>.bad
     | .rmap ki' et' has get=>bif kindIs ki ki' && Nat.beq et et' then .ranged [] ki et has get else .bad
     | _=>.bad
    else .bad
   | none=>.bad
  | _=>.bad
 | .entry x =>
  match ρ x with
  | .oiter b=>match nth? h.maps b with | some am=>(match am.it,am.cur with | some _,.tuple l=>.ok (.tuple l) h | _,_=>.bad) | none=>.bad
  | _=>.bad
 | .next x isStr =>
  match ρ x,isStr with
  | .oiter b, false =>
   match nth? h.maps b with
   | some am=>match am.it with
    | some seen=>bif !am.ro then .nextc b am seen else .bad
    | none=>.bad
   | none=>.bad
  | _,_=>.bad
 | .call { callee := .value f,args,.. } =>
  match ρ f with
  | .func (.func g) nf cap=>(fun l=>.call g ((cap.take nf).map (fz h) ++ (args.toList.map fun x=>fz h (ρ x)) ++ (cap.drop nf).map (fz h)) (l.flatMap (·.1)) (l.flatMap (·.2))) ((cap.take nf).map (refs h 5) ++ (args.toList.map fun x=>refs h 5 (ρ x)) ++ (cap.drop nf).map (refs h 5))
  | .yld i=>.yieldc i (args.toList.map ρ)
  | _=>.bad
 | .insert t m i x | .mapUpdate t m i x =>
  match T t,ρ m,keyOf (ρ i) with
  | some { desc := .map kt _, .. }, .omap b, some key =>
   match keyKind T kt with
   | some ki =>
    match nth? h.maps b with
    | some am => bif kindIs ki am.ki && keyIs ki key && !am.ro && am.it.isNone then
      match AV.tree 4 (ρ x) with
      | true=>force1 (ρ x) fun x=>.ok .top (h.setM b (am.wr (fun hs k=>hs k || keyEq k key) fun gt k=>bif keyEq k key then x else gt k))
      | false=>match refs h 5 (ρ x) with
       | (bs,[])=>.insF b am key (fz h (ρ x)) bs
       | _=>.bad
     else .bad
    | none=>.bad
   | none=>.bad
  | _,_,_=>.bad
 | _=>.bad
where
 keyEq : Value → Value → Bool
 | .int k a,.int k' b=>decide (k = k') && a == b
 | .string a,.string b=>a == b
 | .bool a,.bool b=>a == b
 | .agg l,.agg m=>vEqL l.toList m.toList
 | _,_=>false
end

def isEff (o : Oper) (ρ : Operand → AV) : Bool :=
 match o.op with
 | .store .. | .mapUpdate .. | .insert .. | .next ..=>true
 | .call { callee := .builtin .clear,.. }=>true
 | .call { callee := .builtin .append,args,.. }=>match args.toList.map ρ with | .oslice _ _ _ _ none :: _=>true | _=>false
 | _=>false

def AM.step (m : AM) (seen : Value → Bool) (k : Value) (x : AV) (n : Nat) : AM := match m with | ⟨ki,et,has,get,ro,_,_,_⟩=>⟨ki,et,has,get,ro,some fun k'=>seen k' || opEv.keyEq k' k,n,.tuple [x,get k]⟩
theorem AM.step_eq (m : AM) (seen : Value → Bool) (k : Value) (x : AV) (n : Nat) : m.step seen k x n = { m with it := some fun k'=>seen k' || opEv.keyEq k' k,left := n,cur := .tuple [x,m.get k] } := rfl

def allCells : List LK → (List Value → List AV → Prop) → Prop
 | [],K=>K [] []
 | .bool :: r,K=>∀ b : Bool,allCells r fun l m=>K (.bool b :: l) (.val (.bool b) :: m)
 | .int k :: r,K=>∀ n : Int,allCells r fun l m=>K (.int k n :: l) (.val (.int k n) :: m)
 | .str :: r,K=>∀ s : ByteArray,allCells r fun l m=>K (.string s :: l) (.val (.string s) :: m)
def allKeys : KK → (Value → AV → Prop) → Prop
 | .str,K=>∀ s : ByteArray,K (.string s) (.val (.string s))
 | .int k,K=>∀ n : Int,K (.int k n) (.val (.int k n))
 | .agg ks,K=>allCells ks fun l m=>K (.agg l.toArray) (.agg m)

def ifB (b : Bool) (x y : Prop) : Prop := match b with | true=>x | false=>y
theorem ifB_intro {b : Bool} {x y : Prop} (h1 : b = true → x) (h2 : b = false → y) : ifB b x y := by cases b <;> simp_all [ifB]

def adoptL : List AV → Nat → List AV × List AB
 | [],_=>([],[])
 | .rslice es len f :: r,n=>match adoptL r (n + 1) with | (r',bs)=>(.oslice n 0 0 len none :: r',{ es,len,f } :: bs)
 | x :: r,n=>match adoptL r n with | (r',bs)=>(x :: r',bs)

def adopt1 : AV → Nat → AV × List AB
 | .rslice es len f,n=>(.oslice n 0 0 len none,[{ es,len,f }])
 | .agg l,n=>match adoptL l n with | (l',bs)=>(.agg l',bs)
 | x,_=>(x,[])

def adoptT : List AV → Nat → List AV × List AB
 | [],_=>([],[])
 | x :: r,n=>match adopt1 x n with | (x',b1)=>match adoptT r (n + b1.length) with | (r',b2)=>(x' :: r',b1 ++ b2)

def adopt : AV → Nat → AV × List AB
 | .tuple l,n=>match adoptT l n with | (l',bs)=>(.tuple l',bs)
 | x,n=>adopt1 x n

def hasNat (l : List Nat) (n : Nat) : Bool := l.any (Nat.beq n)
def roB (ids : List Nat) : Nat → List AB → List AB
  | _,[]=>[]
  | n,k :: r=>(bif hasNat ids n then { k with ro := true } else k) :: roB ids (n + 1) r
def roM (ids : List Nat) : Nat → List AM → List AM
 | _,[]=>[]
 | n,k :: r=>(bif hasNat ids n then { k with ro := true } else k) :: roM ids (n + 1) r

abbrev YT := Nat → Nat → List AV → St → (Bool → St → Prop) → Prop

structure Env where
 S : FuncId → List AV → AV → Bool → Prop
 I : YT → FuncId → List AV → Nat → St → (AV → St → Prop) → Prop
 Y : YT
 rok : Bool
 any : Bool
 M : FuncId → Nat → Nat → (Nat → List AV) → List AV → (Nat → List AV) → Prop := fun _ _ _ _ _ _=>False

def noY : YT := fun _ _ _ _ _=>False
def Env.plain (E : Env) : Env := { E with I := fun _ _ _ _ _ _=>False,Y := noY,any := false,M := fun _ _ _ _ _ _=>False }

def pushSv (n : Nat) (tm sv : List (Nat × AV)) : List (Nat × AV) := tm.filter (fun p=>Nat.blt p.1 n) ++ sv.map fun p=>(p.1 + n,p.2)
def popTm (n : Nat) (sv : List (Nat × AV)) : List (Nat × AV) := sv.filter fun p=>Nat.blt p.1 n
def popSv (n : Nat) (sv : List (Nat × AV)) : List (Nat × AV) := (sv.filter fun p=>Nat.ble n p.1).map fun p=>(p.1 - n,p.2)

def putF {α : Type} (s : St) (d : Option Tmp) (v : AV) (K : St → α) : α :=
 match s with
 | ⟨tm, ⟨bs, ms, jump, ny⟩, sv⟩ =>
  forceS forceB bs fun bs=>forceS forceM ms fun ms=>force2 v fun v =>
   match d with
   | none=>K ⟨tm,⟨bs,ms,jump,ny⟩,sv⟩
   | some t=>K ⟨(t,v) :: tm,⟨bs,ms,jump,ny⟩,sv⟩

theorem putF_eq {α : Type} (s : St) (d : Option Tmp) (v : AV) (K : St → α) : putF s d v K = K (s.put d v) := by
 obtain ⟨tm,⟨bs,ms,jump,ny⟩,sv⟩ := s
 unfold putF
 simp only [forceS_eq forceB_eq,forceS_eq forceM_eq,force2_eq]
 cases d <;> rfl

def rawArgs (o : Oper) (ρ : Operand → AV) : List AV :=
 match o.op with
 | .call { callee := .value f,args,.. } =>
  match ρ f with
  | .func _ nf cap=>cap.take nf ++ args.toList.map ρ ++ cap.drop nf
  | _=>[]
 | _=>[]

def fz1 (s : St) (t : Nat) : St :=
  match refs s.hp 5 (look s.tm t) with
  | (bs,ms)=>{ s with tm := (t,fz s.hp (look s.tm t)) :: s.tm,hp := s.hp.setBM (roB bs 0 s.hp.blocks) (roM ms 0 s.hp.maps) }
def fzs : List Nat → St → St
 | [],s=>s
 | t :: l,s=>fzs l (fz1 s t)

section
variable [GTab] (E : Env) (T : Nat → Option TI)

def opW (n : Nat) (o : Oper) (s : St) (K : AV → St → Prop) : Prop :=
 match opEv T o s.eval s.hp with
 | .bad=>False
 | .ok v h=>K v (s.setHp h)
 | @Res.need p _ v h=>p ∧ K v (s.setHp h)
 | .upd h b k g fl=>∃ F : Nat → List AV,(∀ i,i < k.len → F i = g i) ∧ K .top (s.setHp (h.setB b (k.wr F fl)))
 | @Res.either p _ v h p' _ v' h'=>(p ∧ K v (s.setHp h)) ∨ (p' ∧ K v' (s.setHp h'))
 | .insF b m key x bs=>match E.any with
  | true=>K .top (s.setHp ((s.hp.setBM (roB bs 0 s.hp.blocks) s.hp.maps).setM b (m.wr (fun hs k=>hs k || opEv.keyEq k key) fun gt k=>bif opEv.keyEq k key then x else gt k)))
  | false=>False
 | @Res.share p _ v bs ms=>match E.any with
  | true=>p ∧ K v (s.setHp (s.hp.setBM (roB bs 0 s.hp.blocks) (roM ms 0 s.hp.maps)))
  | false=>False
 | .ranged ms ki et has get=>match E.any with
  | true=>∀ n : Nat,K (.oiter s.hp.maps.length) (s.setHp (s.hp.setBM s.hp.blocks (roM ms 0 s.hp.maps ++ [{ ki,et,has,get,it := some fun _=>false,left := n }])))
  | false=>False
 | .nextc b m seen=>match E.any with
  | true => ((∀ k, keyIs m.ki k = true → m.has k = true → seen k = true) → K (.tuple [.val (.bool false)]) s) ∧
    allKeys m.ki fun k x=>m.has k = true → seen k = false → ∀ n : Nat,m.left = n + 1 → K (.tuple [.val (.bool true),x,m.get k]) (s.setHp (s.hp.setM b (m.step seen k x n)))
  | false=>False
 | @Res.anyB p _ b h=>match E.any with
  | true=>∀ x : Bool,(p → x = b) → K (.val (.bool x)) (s.setHp h)
  | false=>p ∧ K (.val (.bool b)) (s.setHp h)
 | .call f args bs ms =>
  match o.op with
  | .call { callee := .value _, .. } => (∃ r fr, E.S f args r fr ∧
   match fr with
   | true=>match adopt r s.hp.blocks.length with | (v,ks)=>K v (s.setHp (s.hp.setBs (s.hp.blocks ++ ks)))
   | false=>K r (s.setHp (s.hp.setBM (roB bs 0 s.hp.blocks) (roM ms 0 s.hp.maps)))) ∨
   (∃ l : List Nat,match opEv T o (fzs l s).eval (fzs l s).hp with
    | .call f _ _ _=>E.I noY f (rawArgs o (fzs l s).eval) n (fzs l s) (fun v s'=>K v { s' with hp := { s'.hp with jump := (fzs l s).hp.jump } })
    | _=>False) ∨
   (∃ G : Nat → List AV,match rawArgs o s.eval with
    | .oslice b ver off len _ :: rest=>match s.hp.block b ver with
     | some k => (k.flat && !k.ro && rest.all (AV.tree 4)) = true ∧ 0 < len ∧ off + len ≤ k.len ∧ E.M f k.es len (shiftF off k.f) rest G ∧
       K (.tuple []) (s.setHp (s.hp.setB b (k.wr (fun i=>if i < off then k.f i else if i < off + len then G (i - off) else k.f i) k.flat)))
     | none=>False
    | _=>False) ∨
   (E.any = true ∧ ∃ r,E.S f args r true ∧ match adopt r s.hp.blocks.length with
    | (v,ks)=>match refs (s.hp.setBs (s.hp.blocks ++ ks)) 5 v with
     | (bs2,ms2)=>K (fz (s.hp.setBs (s.hp.blocks ++ ks)) v) (s.setHp ((s.hp.setBs (s.hp.blocks ++ ks)).setBM (roB bs2 0 (s.hp.blocks ++ ks)) (roM ms2 0 s.hp.maps))))
  | _=>False
 | .yieldc i args =>
  match o.op with
  | .call { callee := .value _,.. }=>E.Y i n args s fun b s'=>K (.val (.bool b)) s'
  | _=>False

def slotOk (n : Nat) : Option Tmp → Bool
 | none=>true
 | some t=>Nat.blt t n

def oneW (n : Nat) (st : (Operand → AV) → Option Bool) (o : Oper) (s : St) (K : St → Prop) : Prop :=
 match st s.eval with
 | none=>False
 | some b =>
 match slotOk n o.dst && (b || !isEff o s.eval) with
 | true=>opW E T n o s fun v s'=>putF s' o.dst v K
 | false=>False

def opsW (n : Nat) (st : Nat → (Operand → AV) → Option Bool) (ops : Array Oper) (K : St → Prop) : Nat → List Oper → St → Prop
  | _,[],s=>K s
  | i, o :: r, s =>
    match o.guard with
    | none=>oneW E T n (st i) o s (opsW n st ops K (i + 1) r)
    | some (j, want) =>
      match (nth? ops.toList j).bind (·.dst) with
      | none=>False
      | some t =>
        match look s.tm t with
        | .val (.bool b) =>
          ifB b
            (match want with
             | true=>putF s (some t) (.val (.bool true)) fun s=>oneW E T n (st i) o s (opsW n st ops K (i + 1) r)
             | false=>putF s (some t) (.val (.bool true)) fun s=>putF s o.dst (.val undef) (opsW n st ops K (i + 1) r))
            (match want with
             | false=>putF s (some t) (.val (.bool false)) fun s=>oneW E T n (st i) o s (opsW n st ops K (i + 1) r)
             | true=>putF s (some t) (.val (.bool false)) fun s=>putF s o.dst (.val undef) (opsW n st ops K (i + 1) r))
        | .val (.tuple _)=>putF s o.dst (.val undef) (opsW n st ops K (i + 1) r)
        | _=>False

def ordW (n : Nat) (ops : Array Oper) (K : St → Prop) : List Nat → St → Prop
  | [],s=>K s
  | i :: r, s =>
    match nth? ops.toList i with
    | none=>False
    | some o =>
      match o.guard with
      | none=>oneW E T n (fun _=>some true) o s (ordW n ops K r)
      | some (j, want) =>
        match (nth? ops.toList j).bind (·.dst) with
        | none=>False
        | some t =>
          match look s.tm t with
          | .val (.bool b) =>
            ifB b
              (match want with
               | true=>putF s (some t) (.val (.bool true)) fun s=>oneW E T n (fun _=>some true) o s (ordW n ops K r)
               | false=>putF s (some t) (.val (.bool true)) fun s=>putF s o.dst (.val undef) (ordW n ops K r))
              (match want with
               | false=>putF s (some t) (.val (.bool false)) fun s=>oneW E T n (fun _=>some true) o s (ordW n ops K r)
               | true=>putF s (some t) (.val (.bool false)) fun s=>putF s o.dst (.val undef) (ordW n ops K r))
          | .val (.tuple _)=>putF s o.dst (.val undef) (ordW n ops K r)
          | _=>False

def canonAV (h : Hp) (nb nm ny : Nat) : Nat → AV → AV
 | 0,_=>.top
 | _ + 1,.optr b ver i sub=>bif Nat.blt b nb then (match h.block b ver with | some _=>.optr b 0 i sub | none=>.top) else .top
 | _ + 1,.oslice b ver off len cap=>bif Nat.blt b nb then (match h.block b ver with | some _=>.oslice b 0 off len cap | none=>.top) else .top
 | _ + 1,.yld i=>bif Nat.blt i ny then .yld i else .top
 | _ + 1,.omap b=>bif Nat.blt b nm then .omap b else .top
 | _ + 1,.oiter b=>bif Nat.blt b nm then .oiter b else .top
 | _ + 1,.aslice b ver i sub es len=>bif Nat.blt b nb then (match h.block b ver with | some _=>.aslice b 0 i sub es len | none=>.top) else .top
 | n + 1,.agg l=>.agg (l.map (canonAV h nb nm ny n))
 | n + 1,.tuple l=>.tuple (l.map (canonAV h nb nm ny n))
 | n + 1,.func fn nf l=>.func fn nf (l.map (canonAV h nb nm ny n))
 | _ + 1,x=>x

def canonB (h : Hp) (nb nm ny : Nat) (k : AB) : AB :=
  bif k.flat then { k with ver := 0 } else { k with ver := 0,f := fun i=>(k.f i).map (canonAV h nb nm ny 5) }

def canon (keep : List Nat) (nb nm ny : Nat) (s : St) : St :=
  { tm := keep.map fun t=>(t,canonAV s.hp nb nm ny 5 (look s.tm t)),hp := { s.hp with blocks := (s.hp.blocks.take nb).map (canonB s.hp nb nm ny),maps := s.hp.maps.take nm,ny },sv := s.sv.map fun p=>(p.1,canonAV s.hp nb nm ny 5 p.2) }

def AVE : Nat → AV → AV → Prop
 | 0,_,_=>False
 | _ + 1,.rslice es len f,.rslice es' len' g=>es = es' ∧ len = len' ∧ ∀ i,i < len → f i = g i
 | _ + 1,.eslice,.rslice _ len _=>len = 0
 | n + 1,.agg l,.agg l'=>l.length = l'.length ∧ ∀ i x y,nth? l i = some x → nth? l' i = some y → AVE n x y
 | n + 1,.tuple l,.tuple l'=>l.length = l'.length ∧ ∀ i x y,nth? l i = some x → nth? l' i = some y → AVE n x y
 | _ + 1,x,y=>x = y

def RowLe (fl : Bool) (l l' : List AV) : Prop := fl = true ∧ l'.length = l.length ∧ ∀ j x y,nth? l j = some x → nth? l' j = some y → x = y ∨ AVE 5 x y

def BLe : List AB → List AB → Prop
 | [],[]=>True
 | k :: r,k' :: r'=>(k'.es = k.es ∧ k'.len = k.len ∧ k'.ver = k.ver ∧ k'.ro = k.ro ∧ (k'.flat = true → k.flat = true) ∧ ∀ i,i < k.len → k'.f i = k.f i ∨ RowLe k.flat (k.f i) (k'.f i)) ∧ BLe r r'
 | _,_=>False

def ItLe : Option (Value → Bool) → Nat → Option (Value → Bool) → Nat → Prop
 | none,_,none,_=>True
 | some a,n,some b,m=>n = m ∧ ∀ k,b k = a k
 | _,_,_,_=>False

def MLe : List AM → List AM → Prop
 | [],[]=>True
 | m :: r,m' :: r'=>(m'.ro = m.ro ∧ m'.ki = m.ki ∧ m'.et = m.et ∧ ItLe m.it m.left m'.it m'.left ∧ (m'.cur = m.cur ∨ m'.cur = .top) ∧ ∀ k,m'.has k = m.has k ∧ (m'.get k = m.get k ∨ AVE 5 (m.get k) (m'.get k))) ∧ MLe r r'
 | _,_=>False

def AVW : AV → AV → Prop
 | .rmap ki et h g,.rmap ki' et' h' g'=>ki' = ki ∧ et' = et ∧ ∀ k,h' k = h k ∧ (g' k = g k ∨ AVE 5 (g k) (g' k))
 | .eslice,.rslice _ len _=>len = 0
 | .rslice es len f,.rslice es' len' g=>es' = es ∧ len' = len ∧ ∀ i,i < len → g i = f i ∨ RowLe true (f i) (g i)
 | _,_=>False
def TLe : List (Nat × AV) → List (Nat × AV) → Prop
 | [],[]=>True
 | (k,x) :: r,(k',x') :: r'=>k' = k ∧ (x' = x ∨ AVW x x') ∧ TLe r r'
 | _,_=>False

structure Weak (s s' : St) : Prop where
 tm : (s'.tm = s.tm ∨ TLe s.tm s'.tm) ∧ s'.sv = s.sv ∧ s'.hp.jump = s.hp.jump ∧ s'.hp.ny = s.hp.ny
 blocks : BLe s.hp.blocks s'.hp.blocks
 maps : MLe s.hp.maps s'.hp.maps

theorem BLe_refl : ∀ l : List AB,BLe l l
  | []=>trivial
  | _ :: r=>⟨⟨rfl,rfl,rfl,rfl,id,fun _ _=>.inl rfl⟩,BLe_refl r⟩
theorem ItLe_refl : ∀ (a : Option (Value → Bool)) (n : Nat),ItLe a n a n
  | none,_=>trivial
  | some _,_=>⟨rfl,fun _=>rfl⟩
theorem MLe_refl : ∀ l : List AM,MLe l l
  | []=>trivial
  | m :: r=>⟨⟨rfl,rfl,rfl,ItLe_refl _ _,.inl rfl,fun _=>⟨rfl,.inl rfl⟩⟩,MLe_refl r⟩
def setFL : List AB → Nat → (Nat → List AV) → List AB
 | [],_,_=>[]
 | ⟨es,len,_,ver,ro,flat,one⟩ :: r,0,g=>⟨es,len,g,ver,ro,flat,one⟩ :: r
 | k :: r,b + 1,g=>k :: setFL r b g
theorem setFL_le : ∀ (l : List AB) (b : Nat) (g : Nat → List AV) (k : AB),nth? l b = some k → (∀ i,i < k.len → g i = k.f i) → BLe l (setFL l b g)
 | [],_,_,_,h,_=>by cases h
 | k0 :: r,0,g,k,h,hg=>by cases h; exact ⟨⟨rfl,rfl,rfl,rfl,id,fun i hi=>.inl (hg i hi)⟩,BLe_refl r⟩
 | k0 :: r,b + 1,g,k,h,hg=>⟨⟨rfl,rfl,rfl,rfl,id,fun _ _=>.inl rfl⟩,setFL_le r b g k h hg⟩
def St.setF (s : St) (b : Nat) (g : Nat → List AV) : St := match s with | ⟨tm,⟨bs,ms,jump,ny⟩,sv⟩=>⟨tm,⟨setFL bs b g,ms,jump,ny⟩,sv⟩
theorem weakF {s : St} (b : Nat) (g : Nat → List AV) {k : AB} (hb : nth? s.hp.blocks b = some k) (hg : ∀ i,i < k.len → g i = k.f i) : Weak s (s.setF b g) :=
  ⟨⟨.inl rfl,rfl,rfl,rfl⟩,setFL_le _ b g k hb hg,MLe_refl _⟩

inductive Prep where
 | slot (t es : Nat)
 | cell (b sub es : Nat)
 | freeze (t : Nat)
 | uncap (t : Nat)
 | forget (l : List Nat)
 | fzb (b : Nat)
 | fzl (b : Nat) (bs : List Nat)

def rowRefs (h : Hp) : List AV → List Nat × List Nat
  | []=>([],[])
  | x :: r=>match refs h 5 x,rowRefs h r with | (a,b),(c,d)=>(a ++ c,b ++ d)
def fzRow (h : Hp) : List AV → List AV
 | []=>[]
 | x :: r=>fz h x :: fzRow h r

def fzIn (bs : List Nat) (h : Hp) (x : AV) : AV :=
 match refs h 5 x with
 | (a,m)=>bif a.all (hasNat bs) && m.isEmpty then fz h x else .top

def prep1 (s : St) : Prep → St
 | .slot t es =>
  match look s.tm t with
  | .eslice=>{ s with tm := (t,.oslice s.hp.blocks.length 0 0 0 none) :: s.tm,hp := s.hp.addB { es,len := 0,f := fun _=>[] } }
  | _=>s
 | .cell b sub es =>
  match nth? s.hp.blocks b with
  | some k =>
   match k.len,nth? (k.f 0) sub with
   | 1,some .eslice=>{ s with hp := (s.hp.setB b { k with f := fun _=>splice (k.f 0) sub [.oslice s.hp.blocks.length 0 0 0 none],flat := false }).addB { es,len := 0,f := fun _=>[] } }
   | _,_=>s
  | none=>s
 | .freeze t =>
  match refs s.hp 5 (look s.tm t) with
  | (bs,ms)=>{ s with tm := (t,fz s.hp (look s.tm t)) :: s.tm,hp := s.hp.setBM (roB bs 0 s.hp.blocks) (roM ms 0 s.hp.maps) }
 | .uncap t =>
  match look s.tm t with
  | .oslice b ver off len (some _)=>{ s with tm := (t,.oslice b ver off len none) :: s.tm }
  | _=>s
 | .forget l=>{ s with sv := s.sv.filter fun p=>!hasNat l p.1 }
 | .fzb b =>
  match nth? s.hp.blocks b with
  | some k =>
   match k.len with
   | 1=>match rowRefs s.hp (k.f 0) with
    | (bs,ms)=>bif hasNat bs b then s else { s with hp := (s.hp.setBM (roB bs 0 s.hp.blocks) (roM ms 0 s.hp.maps)).setB b { k with f := fun _=>fzRow s.hp (k.f 0),flat := true } }
   | _=>s
  | none=>s
 | .fzl b bs0 =>
  match nth? s.hp.blocks b,bs0.filter fun i=>Nat.blt i s.hp.blocks.length with
  | some k,bs=>bif hasNat bs b then s else { s with hp := (s.hp.setBM (roB bs 0 s.hp.blocks) (roM [] 0 s.hp.maps)).setB b { k with f := fun i=>(k.f i).map (fzIn bs s.hp),flat := true } }
  | none,_=>s

def prep (s : St) (l : List Prep) : St := l.foldl prep1 s
def backPr : List Prep → List Prep
 | []=>[]
 | .freeze t :: r=>.freeze t :: backPr r
 | .slot _ _ :: r=>backPr r
 | .cell _ _ _ :: r=>backPr r
 | .uncap t :: r=>.uncap t :: backPr r
 | .forget l :: r=>.forget l :: backPr r
 | .fzb b :: r=>.fzb b :: backPr r
 | .fzl b bs :: r=>.fzl b bs :: backPr r

def effOp (ops : Array Oper) (o : Oper) : Bool :=
 match o.op with
 | .store .. | .mapUpdate .. | .insert .. | .next ..=>true
 | .call { callee := .builtin .clear,.. }=>true
 | .call { callee := .builtin .append,args,.. } =>
  match args.toList with
  | .tmp t :: _=>!(ops.toList.any fun q=>(match q.dst with | some d=>Nat.beq d t | none=>false) && (match q.op with | .buildSlice ..=>true | _=>false))
  | _=>true
 | _=>false

def effAt (ops : Array Oper) (i : Nat) : Bool := match nth? ops.toList i with | some o=>effOp ops o | none=>true

def pureOp (o : Oper) : Bool :=
 match o.op with
 | .move _ | .assign _ | .pick .. | .build .. | .binOp .. | .unOp .. | .makeFunc .. | .field .. | .index .. | .extract .. | .slice _ _ _ _ (some _)=>true
 | _=>false

def softOp (o : Oper) : Bool :=
 match o.op with
 | .fieldAddr .. | .indexAddr ..=>true
 | _=>false
def storeOp (o : Oper) : Bool :=
 match o.op with
 | .store ..=>true
 | _=>false

def betweenOk (ops : Array Oper) (i j : Nat) : Bool :=
  (List.range ops.size).all fun k=>!(Nat.blt i k && Nat.blt k j) || (match nth? ops.toList k with | some z=>pureOp z || softOp z || storeOp z | none=>true)

def tmpsOf : List Operand → List Tmp
 | []=>[]
 | .tmp t :: r=>t :: tmpsOf r
 | _ :: r=>tmpsOf r

def readsOf (ops : Array Oper) (o : Oper) : List Tmp :=
  tmpsOf o.op.operands.toList ++ (match o.guard with | some (j,_)=>(match (nth? ops.toList j).bind (·.dst) with | some t=>[t] | none=>[]) | none=>[])

def befores : List Oper → List Nat → List Nat
 | [],acc=>acc
 | o :: r,acc=>befores r (acc ++ [o.after.toList.foldl (fun s e=>bif Region.binds .any e then s ||| 2 ^ e.on ||| acc.getD e.on 0 else s) 0])

def isBefore (bf : List Nat) (i j : Nat) : Bool := (bf.getD j 0).testBit i

def readBase (o : Oper) : Option Operand :=
 match o.op with
 | .load _ a=>some a
 | .slice _ x _ _ none=>some x
 | .call { callee := .builtin .len,args,.. }=>nth? args.toList 0
 | _=>none
def softBase (o : Oper) : Option Operand :=
 match o.op with
 | .fieldAddr _ x _=>some x
 | .indexAddr _ x _=>some x
 | _=>none
def peekBase (o : Oper) : Option Operand := match readBase o with | some b=>some b | none=>softBase o
def newOp (o : Oper) : Bool :=
 match o.op with
 | .alloc _ | .box _ _ | .buildSlice ..=>true
 | _=>false
def effTarget (o : Oper) : Option Operand :=
 match o.op with
 | .store _ a _=>some a
 | .call { callee := .builtin .append,args,.. }=>nth? args.toList 0
 | _=>none

def heapFree : AV → Bool
  | .rptr _ | .rslice .. | .cslice .. | .eslice | .val _ | .agg _=>true
  | _=>false
def blockOf : AV → Option Nat
  | .optr b .. | .oslice b .. | .aslice b ..=>some b
  | _=>none
def apart (x y : AV) : Bool := heapFree x || heapFree y || (match blockOf x,blockOf y with | some b,some c=>!Nat.beq b c | _,_=>false)

def slotKept (ops : Array Oper) (b : Operand) (i j : Nat) : Bool :=
 match b with
 | .tmp t=>(List.range ops.size).all fun k=>!(Nat.ble i k && Nat.blt k j) || (match nth? ops.toList k with | some z=>(match z.dst with | some d=>!Nat.beq d t | none=>true) | none=>true)
 | _=>true
def gateOne (ops : Array Oper) (ρ : Operand → AV) (i j : Nat) : Bool :=
 match nth? ops.toList i,nth? ops.toList j with
 | some x, some y =>
  bif effOp ops x then (match peekBase y with | some b=>heapFree (ρ b) || (match effTarget x with | some t=>slotKept ops t i j && apart (ρ b) (ρ t) | none=>false) | none=>false)
  else match effTarget y with
   | some t=>(match peekBase x with
    | some b=>apart (ρ b) (ρ t)
    | none=>(match x.dst with | some d=>apart (ρ (.tmp d)) (ρ t) | none=>false))
   | none=>false
 | _,_=>false
def gateAt (gl : List (Nat × Nat)) (ops : Array Oper) (j : Nat) (ρ : Operand → AV) : Bool := gl.all fun p=>!Nat.beq p.2 j || gateOne ops ρ p.1 p.2
def gateSt (gl : List (Nat × Nat)) (ops : Array Oper) (j : Nat) (ρ : Operand → AV) : Option Bool := bif gateAt gl ops j ρ then some (effAt ops j) else none

def gateStatic (ops : Array Oper) (i j : Nat) (x y : Oper) : Bool :=
 bif effOp ops x then !effOp ops y && (peekBase y).isSome
 else effOp ops y && (match effTarget y with
  | some _=>(match peekBase x with
   | some b=>slotKept ops b i j
   | none=>newOp x && (match x.dst with | some d=>slotKept ops (.tmp d) (i + 1) j | none=>false))
  | none=>false)

def pairOk (gl : List (Nat × Nat)) (ops : Array Oper) (bf : List Nat) (i j : Nat) (x y : Oper) : Bool :=
  isBefore bf i j ||
  ((match x.dst with | some d=>!hasNat (readsOf ops y) d && (match y.dst with | some e=>!Nat.beq d e | none=>true) | none=>true) &&
   (match y.dst with | some e=>!hasNat (readsOf ops x) e | none=>true) &&
   ((!effOp ops x || pureOp y || (softOp y && storeOp x && betweenOk ops i j)) && (!effOp ops y || pureOp x || (softOp x && storeOp y)) ||
    (gl.any (fun p=>Nat.beq p.1 i && Nat.beq p.2 j) && gateStatic ops i j x y)))

def rowOk (gl : List (Nat × Nat)) (ops : Array Oper) (bf : List Nat) (j : Nat) (y : Oper) : Nat → List Oper → Bool
 | _,[]=>true
 | i,x :: r=>bif Nat.blt i j then pairOk gl ops bf i j x y && rowOk gl ops bf j y (i + 1) r else true

def allOk (gl : List (Nat × Nat)) (ops : Array Oper) (bf : List Nat) : Nat → List Oper → Bool
 | _,[]=>true
 | j,y :: r=>rowOk gl ops bf j y 0 ops.toList && y.after.toList.all (fun e=>!Region.binds .any e || Nat.blt e.on j) && (match y.guard with | some (g,_)=>Nat.blt g j | none=>true) && allOk gl ops bf (j + 1) r

def drawOk1 (gl : List (Nat × Nat)) (ops : Array Oper) : Bool := allOk gl ops (befores ops.toList []) 0 ops.toList && Region.noSelect ops

def ordOf : List (Nat × Nat) → List Nat
  | []=>[]
  | p :: r=>bif Nat.beq p.2 1000000 then p.1 :: ordOf r else ordOf r
def posOf : List Nat → Nat → Nat
  | [],_=>0
  | x :: r,i=>bif Nat.beq x i then 0 else posOf r i + 1
def renO (σ : List Nat) (o : Oper) : Oper :=
  match o with
  | ⟨dst,op,type,pos,after,guard⟩=>⟨dst,op,type,pos,after.map fun e=>{ e with on := posOf σ e.on },match guard with | some (j,b)=>some (posOf σ j,b) | none=>none⟩
def opAt (ops : Array Oper) (i : Nat) : Oper := match nth? ops.toList i with | some o=>o | none=>default
def arrL (σ : List Nat) (ops : Array Oper) : Array Oper := (σ.map fun i=>renO σ (opAt ops i)).toArray
def arr (gl : List (Nat × Nat)) (ops : Array Oper) : Array Oper := match ordOf gl with | []=>ops | i :: r=>arrL (i :: r) ops
def permL (σ : List Nat) (n : Nat) : Bool :=
  Nat.beq σ.length n && ((List.range n).all fun i=>match nth? σ (posOf σ i) with | some j=>Nat.beq j i | none=>false) &&
    (List.range n).all fun k=>match nth? σ k with | some j=>Nat.blt j n && Nat.beq (posOf σ j) k | none=>false
def permOk (gl : List (Nat × Nat)) (ops : Array Oper) : Bool := match ordOf gl with | []=>true | i :: r=>permL (i :: r) ops.size
def cutOf : List (Nat × Nat) → Option Nat
  | []=>none
  | p :: r=>bif Nat.beq p.2 1000001 then some p.1 else cutOf r
def noCut : List (Nat × Nat) → List (Nat × Nat)
  | []=>[]
  | p :: r=>bif Nat.beq p.2 1000001 then noCut r else p :: noCut r
def preOps (c : Nat) (ops : Array Oper) : Array Oper := (ops.toList.take c).toArray
def ascOk (i : Nat) (o : Oper) : Bool := o.after.toList.all (fun e=>!Region.binds .any e || Nat.blt e.on i) && (match o.guard with | some (g,_)=>Nat.blt g i | none=>true)
def tailOk (c : Nat) (ops : Array Oper) : Bool :=
  Nat.ble c ops.size && (List.range ops.size).all fun i=>(match nth? ops.toList i with | some o=>ascOk i o | none=>true) && (Nat.blt i c || (List.range i).all fun j=>isBefore (befores ops.toList []) j i)
def drawOk (gl : List (Nat × Nat)) (ops : Array Oper) : Bool := (permOk gl ops && drawOk1 gl (arr gl ops)) && (cutOf gl).isNone

def Env.round (E : Env) : Env := { E with Y := noY,rok := false }

def bindP : List (Tmp × AV) → St → St
 | [],s=>s
 | (t,x) :: r,s=>bindP r (s.put (some t) x)

end

def rdyL (ops : List Oper) (done : List Nat) : List Nat :=
  (List.range ops.length).filter fun i=>!hasNat done i && match nth? ops i with | some o=>o.after.toList.all fun e=>!Region.binds .any e || hasNat done e.on | none=>false
def restL (i : Nat) : List (List Nat) → List (List Nat)
 | []=>[]
 | (j :: r) :: l=>bif Nat.beq j i then r :: restL i l else restL i l
 | [] :: l=>restL i l
def hasNil : List (List Nat) → Bool
 | []=>false
 | [] :: _=>true
 | _ :: l=>hasNil l
def coverL (ops : List Oper) : Nat → List Nat → List (List Nat) → Bool
 | 0,done,os=>(match rdyL ops done with | []=>true | _=>false) && hasNil os
 | f + 1,done,os=>match rdyL ops done with
  | []=>hasNil os
  | i :: r=>(i :: r).all fun i=>coverL ops f (i :: done) (restL i os)
def allOf : List (Nat × Nat) → Bool
  | []=>false
  | p :: r=>Nat.beq p.2 1000003 || allOf r
def allW (P : List Nat → Prop) : List (List Nat) → Prop
  | []=>True
  | σ :: r=>P σ ∧ allW P r
def weakOf : List (Nat × Nat) → Bool
  | []=>false
  | p :: r=>Nat.beq p.2 1000002 || weakOf r
def drawW [GTab] (T : Nat → Option TI) (n : Nat) (ops : Array Oper) (E : Env) (K : St → Prop) (gl : List (Nat × Nat)) (s : St) : Prop :=
 match cutOf gl with
 | none=>drawOk gl ops = true ∧ opsW E.plain T n (gateSt gl (arr gl ops)) (arr gl ops) K 0 (arr gl ops).toList s
 | some c=>(tailOk c ops && drawOk (noCut gl) (preOps c ops)) = true ∧ opsW E.plain T n (gateSt (noCut gl) (arr (noCut gl) (preOps c ops))) (arr (noCut gl) (preOps c ops)) (fun s=>opsW E T n (fun _ _=>some true) ops K c (ops.toList.drop c) s) 0 (arr (noCut gl) (preOps c ops)).toList s

def AWP [GTab] (T : Nat → Option TI) (n : Nat) : Code → Env → (Ex → St → Prop) → St → Prop
 | .skip,_,Q,s=>Q .normal s
 | .seq a b,E,Q,s=>AWP T n a E (fun e s=>match e with | .normal=>AWP T n b E Q s | e=>Q e s) s
 | .cond x a b,E,Q,s =>
  match x,s.eval x with
  | .tmp t,.val (.bool c)=>ifB c (putF s (some t) (.val (.bool true)) (AWP T n a E Q)) (putF s (some t) (.val (.bool false)) (AWP T n b E Q))
  | .const (.bool true),_=>AWP T n a E Q s
  | .const (.bool false),_=>AWP T n b E Q s
  | _,_=>False
 | .block id c,E,Q,s=>AWP T n c E (fun e s=>match e with | .exit i=>(bif Nat.beq i id then Q .normal s else Q (.exit i) s) | e=>Q e s) s
 | .loop c, E, Q, s => ∃ (pr : List Prep) (keep : List Nat) (I : St → Nat → Prop),
  (∃ s' m,I s' m ∧ Weak (canon keep (prep s pr).hp.blocks.length (prep s pr).hp.maps.length (prep s pr).hp.ny (prep s pr)) s') ∧
  ∀ s0 m0,I s0 m0 → AWP T n c E (fun e s1=>match e with
   | .normal=>∃ s' m,(I s' m ∧ m < m0) ∧ Weak (canon keep (prep s pr).hp.blocks.length (prep s pr).hp.maps.length (prep s pr).hp.ny (prep s1 (backPr pr))) s'
   | e=>Q e s1) s0
 | .exit id,_,Q,s=>Q (.exit id) s
 | .ret,_,Q,s=>Q .ret s
 | .region _ ops draw, E, Q, s => match draw with
  | true => ∃ gl : List (Nat × Nat), match allOf gl with
   | true=>∃ os : List (List Nat),coverL ops.toList ops.size [] os = true ∧ allW (fun σ=>ordW E T n ops (fun s=>Q .normal s) σ s) os
   | false=>match weakOf gl with
    | false=>drawW T n ops E (fun s=>Q .normal s) gl s
    | true=>∃ s' : St,Weak s s' ∧ drawW T n ops E (fun s=>Q .normal s) gl s'
  | false=>opsW E T n (fun _ _=>some true) ops (fun s=>Q .normal s) 0 ops.toList s
 | .rangeFunc g ps assign body, E, Q, s => E.rok = true ∧ ∃ tm : List (Nat × AV), (∀ t, look tm t = look s.tm t ∨ look tm t = .top) ∧
  match St.eval { tm,hp := s.hp,sv := s.sv } g with
  | .func (.func f) nf cap =>
   E.I (fun i m args s1 K => (Nat.beq i s.hp.ny && Nat.beq args.length ps.size && s1.hp.jump.isNone && ps.toList.all (fun t => Nat.blt t n)) = true ∧
     AWP T n assign E.round (fun e s2=>match e with
      | .normal=>AWP T n body E.round (fun e s3=>match e with
       | .normal=>K true { tm := popTm m s3.sv,hp := { s3.hp with jump := none },sv := popSv m s3.sv }
       | e=>K false { tm := popTm m s3.sv,hp := { s3.hp with jump := some e },sv := popSv m s3.sv }) s2
      | _=>False)
     (bindP (ps.toList.zip args) { tm := popTm n s1.sv,hp := s1.hp,sv := pushSv m s1.tm s1.sv }))
    f (cap.take nf ++ .yld s.hp.ny :: cap.drop nf) n { tm,hp := { s.hp with jump := none,ny := s.hp.ny + 1 },sv := s.sv }
    (fun _ s'=>match s'.hp.jump with
     | none=>Q .normal { s' with hp := { s'.hp with jump := s.hp.jump } }
     | some e=>Q e { s' with hp := { s'.hp with jump := s.hp.jump } })
  | _=>False
 | _,_,_,_=>False

section
variable [GTab] (E : Env) (T : Nat → Option TI)

def resAV (s : St) : List ResultVar → Option (List AV)
 | []=>some []
 | .tmp t :: r=>match resAV s r with | some l=>some (look s.tm t :: l) | none=>none
 | .cell a t :: r =>
  match resAV s r,T t,look s.tm a with
  | some l,some ti,.optr b ver idx sub =>
   match s.hp.block b ver with
   | some k=>match ofCells ti.desc ti.size ((k.f idx).drop sub) with | some v=>some (v :: l) | none=>none
   | none=>none
  | _,_,_=>none

def oneOf : List AV → AV
 | [x]=>x
 | l=>.tuple l

def leaves : AV → List AV
 | .tuple l=>l.flatMap AV.cells
 | x=>x.cells

def ownLeaf (h : Hp) : AV → Option (Option Nat)
 | .val _=>some none
 | .eslice=>some none
 | .oslice b ver _ _ _=>match h.block b ver with | some k=>bif k.flat && !k.ro then some (some b) else none | none=>none
 | _=>none

def ownB (h : Hp) : List AV → List Nat → Bool
 | [],_=>true
 | x :: r,seen=>match ownLeaf h x with
  | none=>false
  | some none=>ownB h r seen
  | some (some b)=>!hasNat seen b && ownB h r (b :: seen)

def PlainR : List AV → Prop
 | []=>True
 | .rslice _ len g :: r=>(∀ i,i < len → ∀ x ∈ g i,∃ v,x = .val v) ∧ PlainR r
 | _ :: r=>PlainR r

def Fin (fn : Func) (r : AV) (fr : Bool) (s : St) : Prop :=
 match resAV T s fn.results.toList with
 | none=>False
 | some l=>AVE 5 (fz s.hp (oneOf l)) r ∧ (fr = true → ownB s.hp (leaves (oneOf l)) [] = true ∧ PlainR (leaves r))

def post (fn : Func) (r : AV) (fr : Bool) : Ex → St → Prop
 | .normal,s | .ret,s=>Fin T fn r fr s
 | _,_=>False

def start (args : List AV) : Nat → List (Nat × AV)
 | n=>match args with
  | []=>[]
  | x :: r=>(n,x) :: start r (n + 1)

def Body (fn : Func) (args : List AV) (r : AV) (fr : Bool) : Prop :=
 match fn.body with
 | none=>False
 | some c=>AWP T fn.ntmps c E (post T fn r fr) { tm := start args 0,hp := ⟨[],[],none,0⟩ }

def INd (B : FuncId → Option Func) (S : FuncId → List AV → AV → Bool → Prop) : Nat → YT → FuncId → List AV → Nat → St → (AV → St → Prop) → Prop
 | 0,_,_,_,_,_,_=>False
 | d + 1, Y, f, args, n, s, K =>
  match B f with
  | none=>False
  | some fn =>
   match fn.body with
   | none=>False
   | some c =>
    match !(fn.name == "runtime.NumGoroutine") && Nat.ble args.length fn.ntmps with
    | true => AWP T fn.ntmps c { S, I := INd B S d, Y, rok := true, any := true } (fun e s' =>
      match e with
      | .exit _=>False
      | _=>match resAV T s' fn.results.toList with
       | some l=>K (oneOf l) { tm := popTm n s'.sv,hp := s'.hp,sv := popSv n s'.sv }
       | none=>False)
     { tm := start args 0,hp := s.hp,sv := pushSv n s.tm s.sv }
    | false=>False
end
end Go.Tr

/- What the abstract values say of a world, and that it is kept where memory is. Conditions: none. -/
namespace Go.Tr
open Go Go.RowKit

section
variable [GTab]
def Dr (a b : Nat) : Prop := GTab.kept → a ≤ b
theorem Dr.refl (a : Nat) : Dr a a := fun _=>Nat.le_refl a
theorem Dr.succ (a : Nat) : Dr a (a + 1) := fun _=>Nat.le_succ a
theorem Dr.trans {a b c : Nat} (h : Dr a b) (k : Dr b c) : Dr a c := fun e=>Nat.le_trans (h e) (k e)
structure Below (B : Nat) (w w' : World) : Prop where
 os : w'.os = w.os
 tape : w'.tape = w.tape
 output : w'.output = w.output
 size : w.heap.size ≤ w'.heap.size
 block : ∀ k,k < B → w'.heap[k]? = w.heap[k]?
 drawn : Dr w.drawn w'.drawn
theorem Below.kit {B : Nat} {w w' : World} (h : Below B w w') : RowKit.Below B w w' := ⟨h.os,h.tape,h.output,h.size,h.block⟩
theorem Below.refl (B : Nat) (w : World) : Below B w w := ⟨rfl,rfl,rfl,Nat.le_refl _,fun _ _=>rfl,Dr.refl _⟩
theorem Below.trans {B : Nat} {a b c : World} (h : Below B a b) (k : Below B b c) : Below B a c :=
  ⟨k.os.trans h.os,k.tape.trans h.tape,k.output.trans h.output,Nat.le_trans h.size k.size,fun i hi=>(k.block i hi).trans (h.block i hi),h.drawn.trans k.drawn⟩
theorem Below.mono {B B' : Nat} {w w' : World} (h : Below B w w') (hB : B' ≤ B) : Below B' w w' := ⟨h.os,h.tape,h.output,h.size,fun k hk=>h.block k (Nat.lt_of_lt_of_le hk hB),h.drawn⟩
theorem Below.drew {B : Nat} {a w : World} (h : Below B a w) : Below B a w.drew := ⟨h.os,h.tape,h.output,h.size,h.block,h.drawn.trans (Dr.succ _)⟩
theorem Below.heap_alloc (w : World) (o : Obj) (k : Nat) (h : k < w.heap.size) : (w.alloc o).heap[k]? = w.heap[k]? := RowKit.Below.heap_alloc w o k h
theorem Below.heap_setCell (w : World) (a : Addr) (u : Value) (k : Nat) (h : k ≠ a.block) : (w.setCell a u).heap[k]? = w.heap[k]? := RowKit.Below.heap_setCell w a u k h
theorem Below.alloc {B : Nat} {a w : World} (h : Below B a w) (hB : B ≤ w.heap.size) (o : Obj) : Below B a (w.alloc o) :=
  h.trans ⟨rfl,rfl,rfl,by simp,fun k hk=>Below.heap_alloc _ _ _ (by omega),Dr.refl _⟩
theorem Below.setCell {B : Nat} {a w : World} (h : Below B a w) {p : Addr} (hp : B ≤ p.block) (u : Value) : Below B a (w.setCell p u) :=
  h.trans ⟨rfl,rfl,rfl,by simp [World.setCell],fun k hk=>Below.heap_setCell _ _ _ _ (by omega),Dr.refl _⟩
theorem Below.cell {B : Nat} {w w' : World} (h : Below B w w') {p : Addr} (hp : p.block < B) : w'.cell? p = w.cell? p := h.kit.cell hp
theorem Below.frozen {B : Nat} {w w' : World} (h : Below B w w') {p : Addr} (hp : p.block < B) : w'.frozen? p = w.frozen? p := h.kit.frozen hp
theorem Below.frame {W w' : World} (h : Below W.heap.size W w') (may : MemPlace → Prop) : W.keptBut w' may := h.kit.frame may
theorem Below.same {W w' : World} (h : Below W.heap.size W w') {p : MemPlace} (hp : p.block < W.heap.size) : W.sameAt w' p := h.kit.same hp

end

theorem nth?_eq {α : Type} : ∀ (l : List α) (i : Nat),nth? l i = l[i]?
 | [],i=>by simp [nth?]
 | x :: r,0=>by simp [nth?]
 | x :: r,n + 1=>by simp [nth?,nth?_eq r n]

theorem setNth_eq {α : Type} : ∀ (l : List α) (i : Nat) (x : α),setNth l i x = l.set i x
 | [],i,x=>by simp [setNth]
 | y :: r,0,x=>by simp [setNth]
 | y :: r,n + 1,x=>by simp [setNth,setNth_eq r n]

structure OI where
 blk : Nat
 lo : Nat
 cap : Nat
 es : Nat
 n : Nat
 ver : Nat

structure Cx where
 p : Nat → Prop
 O : Nat → Option OI
 N : Nat → Option Nat
 y : Nat → Option Nat

def keyOk (ki : KK) (v : Value) : Prop := keyIs ki v = true

structure EK (ki : KK) (has : Value → Bool) (es : Array MapEntry) (clock : Nat) : Prop where
 keys : ∀ e ∈ es.toList,keyOk ki e.key
 has : ∀ key,keyOk ki key → (has key = true ↔ ∃ e ∈ es.toList,e.key = key)
 once : ∀ (i j : Nat) e e',es.toList[i]? = some e → es.toList[j]? = some e' → e.key = e'.key → i = j
 born : ∀ (i j : Nat) e e',es.toList[i]? = some e → es.toList[j]? = some e' → e.born = e'.born → i = j
 clk : ∀ e ∈ es.toList,e.born < clock

def zeroOf (P : Program) (t : TypeId) : Option Value := (P.info? t).bind (·.zero)

inductive VT (P : Program) (w : World) (p : Nat → Prop) : AV → Value → Prop
 | top (v : Value) : VT P w p .top v
 | val (v : Value) : VT P w p (.val v) v
 | agg (l : List AV) (vs : Array Value) : vs.size = l.length → (∀ v ∈ vs.toList,v.oneCell' = true) → (∀ i x,l[i]? = some x → VT P w p x (vs.getD i undef)) → VT P w p (.agg l) (.agg vs)
 | tuple (l : List AV) (vs : Array Value) : vs.size = l.length → (∀ i x,l[i]? = some x → VT P w p x (vs.getD i undef)) → VT P w p (.tuple l) (.tuple vs)
 | func (fn : Fn) (nf : Nat) (l : List AV) (f0 vs : Array Value) : f0.size = nf → (f0 ++ vs).size = l.length → (∀ i x,l[i]? = some x → VT P w p x ((f0 ++ vs).getD i undef)) → VT P w p (.func fn nf l) (.func fn f0 vs)
 | eslice (a : Option Addr) : VT P w p .eslice (.slice a 0 0)
 | rslice0 (es : Nat) (f : Nat → List AV) (a : Option Addr) (k : Nat) : VT P w p (.rslice es 0 f) (.slice a 0 k)
 | rslice (es len : Nat) (f : Nat → List AV) (b off k : Nat) (g : Nat → Nat → Value) : len ≤ k → p b → (∀ i, i < len → (f i).length = es) →
   (∀ i j,i < len → j < es → w.cell? ⟨b,off + (i * es + j),none⟩ = some (g i j) ∧ (g i j).oneCell' = true) →
   (∀ i j x,i < len → (f i)[j]? = some x → VT P w p x (g i j)) → VT P w p (.rslice es len f) (.slice (some ⟨b,off,none⟩) len k)
 | cslice0 (es c : Nat) (f : Nat → List AV) (a : Option Addr) : VT P w p (.cslice es 0 c f) (.slice a 0 c)
 | cslice (es len c : Nat) (f : Nat → List AV) (b off : Nat) (g : Nat → Nat → Value) : len ≤ c → p b → (∀ i, i < len → (f i).length = es) →
   (∀ i j,i < len → j < es → w.cell? ⟨b,off + (i * es + j),none⟩ = some (g i j) ∧ (g i j).oneCell' = true) →
   (∀ i j x,i < len → (f i)[j]? = some x → VT P w p x (g i j)) → VT P w p (.cslice es len c f) (.slice (some ⟨b,off,none⟩) len c)
 | rptr (l : List AV) (b off : Nat) (g : Nat → Value) : p b → (∀ j, j < l.length → w.cell? ⟨b, off + j, none⟩ = some (g j) ∧ (g j).oneCell' = true) →
   (∀ j x,l[j]? = some x → VT P w p x (g j)) → VT P w p (.rptr l) (.pointer (some ⟨b,off,none⟩))
 | err (t : TypeId) (v : Value) : VT P w p .err (.iface t v)
 | rmap (ki : KK) (et : TypeId) (has : Value → Bool) (get : Value → AV) (r : Nat) (es : Array MapEntry) (clock : Nat) : p r → w.heap[r]? = some (.map es clock) →
   EK ki has es clock →
   (∀ key zv,keyOk ki key → has key = false → zeroOf P et = some zv → VT P w p (get key) zv) →
   (∀ e ∈ es.toList,VT P w p (get e.key) e.val) → VT P w p (.rmap ki et has get) (.map (some r))

inductive VR (P : Program) (w : World) (c : Cx) : AV → Value → Prop
 | tree {x : AV} {v : Value} : VT P w c.p x v → VR P w c x v
 | agg (l : List AV) (vs : Array Value) : vs.size = l.length → (∀ v ∈ vs.toList,v.oneCell' = true) → (∀ i x,l[i]? = some x → VR P w c x (vs.getD i undef)) → VR P w c (.agg l) (.agg vs)
 | tuple (l : List AV) (vs : Array Value) : vs.size = l.length → (∀ i x,l[i]? = some x → VR P w c x (vs.getD i undef)) → VR P w c (.tuple l) (.tuple vs)
 | func (fn : Fn) (nf : Nat) (l : List AV) (f0 vs : Array Value) : f0.size = nf → (f0 ++ vs).size = l.length → (∀ i x,l[i]? = some x → VR P w c x ((f0 ++ vs).getD i undef)) → VR P w c (.func fn nf l) (.func fn f0 vs)
 | optr (b ver idx sub : Nat) (v : Value) (oi : OI) : c.O b = some oi → ver ≤ oi.ver → v.oneCell' = true →
   (oi.ver = ver → idx < oi.n ∧ v = .pointer (some ⟨oi.blk,oi.lo + (idx * oi.es + sub),none⟩)) → VR P w c (.optr b ver idx sub) v
 | oslice (b ver off len : Nat) (cap : Option Nat) (v : Value) (oi : OI) : c.O b = some oi → ver ≤ oi.ver → v.oneCell' = true →
   (oi.ver = ver → off + len ≤ oi.n ∧ ∃ a k,v = .slice a len k ∧ len ≤ k ∧ off + k ≤ oi.cap ∧ oi.n ≤ off + k ∧ (k ≠ 0 → a = some ⟨oi.blk,oi.lo + off * oi.es,none⟩) ∧ (∀ cp,cap = some cp → k = cp)) →
   VR P w c (.oslice b ver off len cap) v
 | omap (b r : Nat) : c.N b = some r → VR P w c (.omap b) (.map (some r))
 | yld (i l : Nat) : c.y i = some l → VR P w c (.yld i) (.func (.yield l) #[] #[])
 | oiter (b r : Nat) : c.N b = some r → VR P w c (.oiter b) (.pointer (some ⟨r,0,none⟩))
 | aslice (b ver idx sub es len : Nat) (v : Value) (oi : OI) : c.O b = some oi → ver ≤ oi.ver → v.oneCell' = true →
   (oi.ver = ver → idx < oi.n ∧ sub + len * es ≤ oi.es ∧ v = .slice (some ⟨oi.blk,oi.lo + (idx * oi.es + sub),none⟩) len len) → VR P w c (.aslice b ver idx sub es len) v

theorem VT.unclip {P : Program} {w : World} {p : Nat → Prop} {es len c : Nat} {f : Nat → List AV} {v : Value} (h : VT P w p (.cslice es len c f) v) : VT P w p (.rslice es len f) v := by
 cases h with
 | cslice0 _ _ _ a=>exact .rslice0 _ _ a _
 | cslice _ _ _ _ b off g h1 h2 h3 h4 h5=>exact .rslice _ _ _ b off _ g h1 h2 h3 h4 h5
theorem VT.mono {P : Program} {w w' : World} {p p' : Nat → Prop} (hp : ∀ b,p b → p' b) (hb : ∀ b,p b → w'.heap[b]? = w.heap[b]?) {x : AV} {v : Value} (h : VT P w p x v) : VT P w' p' x v := by
 have hc : ∀ b o,p b → w'.cell? ⟨b,o,none⟩ = w.cell? ⟨b,o,none⟩ := fun b o h=>World.cell?_of_block (a := ⟨b,o,none⟩) (hb b h)
 induction h with
 | top v=>exact .top v
 | val v=>exact .val v
 | err t v=>exact .err t v
 | agg l vs hs ho _ ih=>exact .agg l vs hs ho ih
 | tuple l vs hs _ ih=>exact .tuple l vs hs ih
 | func fn nf l f0 vs h0 hs _ ih=>exact .func fn nf l f0 vs h0 hs ih
 | eslice a=>exact .eslice a
 | rslice0 es f a k=>exact .rslice0 es f a k
 | rslice es len f b off k g hk hpb hl hcell _ ih =>
  exact .rslice es len f b off k g hk (hp b hpb) hl (fun i j hi hj=>by rw [hc b _ hpb]; exact hcell i j hi hj) ih
 | cslice0 es c f a=>exact .cslice0 es c f a
 | cslice es len c f b off g hk hpb hl hcell _ ih =>
  exact .cslice es len c f b off g hk (hp b hpb) hl (fun i j hi hj=>by rw [hc b _ hpb]; exact hcell i j hi hj) ih
 | rptr l b off g hpb hcell _ ih=>exact .rptr l b off g (hp b hpb) (fun j hj=>by rw [hc b _ hpb]; exact hcell j hj) ih
 | rmap ki et has get r es clock hpr hr hk _ _ ih0 ih=>exact .rmap ki et has get r es clock (hp r hpr) ((hb r hpr).trans hr) hk ih0 ih

section
variable [GTab]
structure Ext (base : Nat) (w : World) (c : Cx) (w' : World) (c' : Cx) : Prop where
 below : Below base w w'
 p : ∀ b,c.p b → c'.p b
 pb : ∀ b,c.p b → w'.heap[b]? = w.heap[b]?
 O : ∀ b oi,c.O b = some oi → ∃ oi',c'.O b = some oi' ∧ oi.ver ≤ oi'.ver ∧ (oi'.ver = oi.ver → oi' = oi)
 N : ∀ b r,c.N b = some r → c'.N b = some r
 y : ∀ i l,c.y i = some l → c'.y i = some l

theorem Ext.refl (base : Nat) (w : World) (c : Cx) : Ext base w c w c :=
  ⟨Below.refl _ _,fun _ h=>h,fun _ _=>rfl,fun _ oi h=>⟨oi,h,Nat.le_refl _,fun _=>rfl⟩,fun _ _ h=>h,fun _ _ h=>h⟩

theorem Ext.trans {base : Nat} {w w' w'' : World} {c c' c'' : Cx} (h : Ext base w c w' c') (k : Ext base w' c' w'' c'') : Ext base w c w'' c'' where
 below := h.below.trans k.below
 p := fun b hb=>k.p b (h.p b hb)
 pb := fun b hb=>(k.pb b (h.p b hb)).trans (h.pb b hb)
 O := fun b oi hb => by
  obtain ⟨o1,h1,l1,e1⟩ := h.O b oi hb
  obtain ⟨o2,h2,l2,e2⟩ := k.O b o1 h1
  exact ⟨o2,h2,Nat.le_trans l1 l2,fun e=>by
   have : o1.ver = oi.ver := by omega
   rw [e2 (by omega),e1 this]⟩
 N := fun b r hb=>k.N b r (h.N b r hb)
 y := fun b r hb=>k.y b r (h.y b r hb)

theorem VR.mono {P : Program} {base : Nat} {w w' : World} {c c' : Cx} (e : Ext base w c w' c') {x : AV} {v : Value} (h : VR P w c x v) : VR P w' c' x v := by
 induction h with
 | tree h=>exact .tree (h.mono e.p e.pb)
 | agg l vs hs ho _ ih=>exact .agg l vs hs ho ih
 | tuple l vs hs _ ih=>exact .tuple l vs hs ih
 | func fn nf l f0 vs h0 hs _ ih=>exact .func fn nf l f0 vs h0 hs ih
 | optr b ver idx sub v oi hO hle h1c hv =>
  obtain ⟨o1,h1,l1,e1⟩ := e.O b oi hO
  exact .optr b ver idx sub v o1 h1 (by omega) h1c (fun hh=>by
   have : o1 = oi := e1 (by omega)
   subst this; exact hv hh)
 | oslice b ver off len cap v oi hO hle h1c hv =>
  obtain ⟨o1,h1,l1,e1⟩ := e.O b oi hO
  exact .oslice b ver off len cap v o1 h1 (by omega) h1c (fun hh=>by
   have : o1 = oi := e1 (by omega)
   subst this; exact hv hh)
 | omap b r hN=>exact .omap b r (e.N b r hN)
 | yld i l hy=>exact .yld i l (e.y i l hy)
 | oiter b r hN=>exact .oiter b r (e.N b r hN)
 | aslice b ver idx sub es len v oi hO hle h1c hv =>
  obtain ⟨o1,h1,l1,e1⟩ := e.O b oi hO
  exact .aslice b ver idx sub es len v o1 h1 (by omega) h1c (fun hh=>by
   have : o1 = oi := e1 (by omega)
   subst this; exact hv hh)

end

structure BR (P : Program) (w : World) (c : Cx) (k : AB) (oi : OI) : Prop where
 n : oi.n = k.len
 es : oi.es = k.es
 ver : oi.ver = k.ver
 le : oi.n ≤ oi.cap
 row : oi.cap ≠ 0 → ∃ cs t,w.heap[oi.blk]? = some (.cells cs t (0,0)) ∧ oi.lo + oi.cap * oi.es ≤ cs.size ∧ ∀ v ∈ cs.toList,v.oneCell' = true
 el : ∀ i,i < k.len → (k.f i).length = k.es
 rel : ∀ i j x v,i < k.len → (k.f i)[j]? = some x → w.cell? ⟨oi.blk,oi.lo + (i * oi.es + j),none⟩ = some v → VR P w c x v ∧ (k.flat = true → VT P w c.p x v)

structure MapR (P : Program) (w : World) (p : Nat → Prop) (ki : KK) (et : TypeId) (has : Value → Bool) (get : Value → AV) (es : Array MapEntry) (clock : Nat) : Prop where
 ek : EK ki has es clock
 zero : ∀ key zv,keyOk ki key → has key = false → zeroOf P et = some zv → VT P w p (get key) zv
 get : ∀ e ∈ es.toList,VT P w p (get e.key) e.val

theorem MapR.mono {P : Program} {w w' : World} {p p' : Nat → Prop} (hp : ∀ b,p b → p' b) (hb : ∀ b,p b → w'.heap[b]? = w.heap[b]?) {ki : KK} {et : TypeId} {has : Value → Bool} {get : Value → AV} {es : Array MapEntry} {clock : Nat}
  (h : MapR P w p ki et has get es clock) : MapR P w' p' ki et has get es clock :=
 ⟨h.ek,fun key zv a b d=>(h.zero key zv a b d).mono hp hb,fun e he=>(h.get e he).mono hp hb⟩

structure ItR (P : Program) (w : World) (p : Nat → Prop) (m : AM) (seen : Value → Bool) (r : Nat) : Prop where
 ex : ∃ q es clock since sn last,w.heap[r]? = some (.mapIter (some q) since sn last) ∧ p q ∧ w.heap[q]? = some (.map es clock) ∧ MapR P w p m.ki m.et m.has m.get es clock ∧
  since = clock ∧ last = clock ∧ (∀ e ∈ es.toList,seen e.key = sn.contains e.born) ∧ (es.toList.filter fun e=>!sn.contains e.born).length = m.left ∧
  (m.cur = .top ∨ ∃ e ∈ es.toList,sn.back? = some e.born ∧ VT P w p m.cur (.tuple #[e.key,e.val]))

structure MR (P : Program) (w : World) (c : Cx) (m : AM) (r : Nat) : Prop where
 ex : m.it = none → ∃ es clock,w.heap[r]? = some (.map es clock) ∧ MapR P w c.p m.ki m.et m.has m.get es clock
 it : ∀ seen,m.it = some seen → ItR P w c.p m seen r

structure HR (P : Program) (base : Nat) (w : World) (c : Cx) (h : Hp) : Prop where
 blk : ∀ b k oi,h.blocks[b]? = some k → c.O b = some oi → BR P w c k oi
 sep : ∀ b b' oi oi',c.O b = some oi → c.O b' = some oi' → b ≠ b' → oi.blk ≠ oi'.blk ∨ oi.cap = 0 ∨ oi'.cap = 0
 own : ∀ b oi,c.O b = some oi → oi.cap ≠ 0 → base ≤ oi.blk ∧ oi.blk < w.heap.size
 st : ∀ b,c.p b → b < w.heap.size
 maps : ∀ b m r,h.maps[b]? = some m → c.N b = some r → MR P w c m r
 mown : ∀ b r,c.N b = some r → base ≤ r ∧ r < w.heap.size
 msep : ∀ b b' r,c.N b = some r → c.N b' = some r → b = b'
 bm : ∀ b i oi r,c.O b = some oi → oi.cap ≠ 0 → c.N i = some r → oi.blk ≠ r

structure RO (c : Cx) (h : Hp) : Prop where
  b : ∀ b oi,c.O b = some oi → oi.cap ≠ 0 → c.p oi.blk → ∃ k,h.blocks[b]? = some k ∧ k.ro = true
  m : ∀ b r,c.N b = some r → c.p r → ∃ m,h.maps[b]? = some m ∧ m.ro = true
end Go.Tr

/- Equality of structs and arrays whose cells can be compared. Conditions: none. -/
namespace Go.Tr
open Go Go.RowKit

theorem kOk_len : ∀ {ks : List LK} {vs : List Value},kOk ks vs = true → vs.length = ks.length
 | [],[],_=>rfl
 | .bool :: r,.bool _ :: s,h=>by simp only [kOk] at h; simp [kOk_len h]
 | .int _ :: r,.int _ _ :: s,h=>by simp only [kOk,Bool.and_eq_true] at h; simp [kOk_len h.2]
 | .str :: r,.string _ :: s,h=>by simp only [kOk] at h; simp [kOk_len h]
 | [],_ :: _,h=>by simp [kOk] at h
 | .bool :: _,[],h=>by simp [kOk] at h
 | .int _ :: _,[],h=>by simp [kOk] at h
 | .str :: _,[],h=>by simp [kOk] at h
 | .bool :: _,v :: _,h=>by cases v <;> first | (simp [kOk] at h; done) | (simp only [kOk] at h; simp [kOk_len h])
 | .int _ :: _,v :: _,h=>by cases v <;> first | (simp [kOk] at h; done) | (simp only [kOk,Bool.and_eq_true] at h; simp [kOk_len h.2])
 | .str :: _,v :: _,h=>by cases v <;> first | (simp [kOk] at h; done) | (simp only [kOk] at h; simp [kOk_len h])

theorem kOk_cons {k : LK} {ks : List LK} {v : Value} {vs : List Value} (h : kOk (k :: ks) (v :: vs) = true) : kOk [k] [v] = true ∧ kOk ks vs = true := by
  cases k <;> cases v <;> simp [kOk] at h ⊢ <;> exact h

theorem kOk_append : ∀ {a b : List LK} {vs : List Value},kOk (a ++ b) vs = true → kOk a (vs.take a.length) = true ∧ kOk b (vs.drop a.length) = true
 | [],b,vs,h=>by simpa [kOk] using h
 | k :: a,b,[],h=>by cases k <;> simp [kOk] at h
 | k :: a,b,v :: vs,h=>by
  obtain ⟨h1,h2⟩ := kOk_cons (ks := a ++ b) h
  obtain ⟨g1,g2⟩ := kOk_append h2
  refine ⟨?_,by simpa using g2⟩
  simp only [List.length_cons,List.take_succ_cons]
  cases k <;> cases v <;> simp [kOk] at h1 ⊢ <;> first | exact g1 | exact ⟨h1,g1⟩

theorem vEqL_cons {k : LK} {ks : List LK} {v u : Value} {vs us : List Value} (h1 : kOk (k :: ks) (v :: vs) = true) (h2 : kOk (k :: ks) (u :: us) = true) : vEqL (v :: vs) (u :: us) = (vEqL [v] [u] && vEqL vs us) := by
  cases k <;> cases v <;> cases u <;> simp [kOk] at h1 h2 <;> simp [vEqL]

theorem vEqL_append : ∀ {a b : List LK} {vs us : List Value},kOk (a ++ b) vs = true → kOk (a ++ b) us = true → vEqL vs us = (vEqL (vs.take a.length) (us.take a.length) && vEqL (vs.drop a.length) (us.drop a.length))
 | [],b,vs,us,_,_=>by simp [vEqL]
 | k :: a,b,[],us,h,_=>by cases k <;> simp [kOk] at h
 | k :: a,b,v :: vs,[],_,h=>by cases k <;> simp [kOk] at h
 | k :: a,b,v :: vs,u :: us,h1,h2=>by
  obtain ⟨g1,g2⟩ := kOk_cons (ks := a ++ b) h1
  obtain ⟨p1,p2⟩ := kOk_cons (ks := a ++ b) h2
  have ih := vEqL_append g2 p2
  have e1 := vEqL_cons (ks := a ++ b) h1 h2
  rw [e1,ih]
  simp only [List.length_cons,List.take_succ_cons,List.drop_succ_cons]
  have t1 := (kOk_append (a := k :: a) (b := b) h1).1
  have t2 := (kOk_append (a := k :: a) (b := b) h2).1
  simp only [List.length_cons,List.take_succ_cons] at t1 t2
  rw [vEqL_cons t1 t2,Bool.and_assoc]

section
variable {P : Program}

def AsV (P : Program) (t : TypeId) (xs : List Value) (x : Value) : Prop :=
 match P.underlying t with
 | some (.struct _) | some (.array _ _)=>x = .agg xs.toArray
 | _=>xs = [x]

def EqK (P : Program) (dd : Nat) (t : TypeId) (ks : List LK) : Prop :=
  ∀ (w : World) (xs ys : List Value) (x y : Value),kOk ks xs = true → kOk ks ys = true → AsV P t xs x → AsV P t ys y → (Op.equalIn dd t x y).run P w = .ok (vEqL xs ys) w

theorem part_as {t : TypeId} {m : Nat} {ks : List LK} (hk : leafs P m t = some ks) (hc : P.cellsOf t = ks.length) {off : Nat} {cs : Array Value} {xs : List Value} (w : World) (hx : (cs.toList.drop off).take ks.length = xs) (hok : kOk ks xs = true) :
  ∃ a,(part t cs off).run P w = .ok a w ∧ AsV P t xs a := by
 have hlen := kOk_len hok
 cases m with
 | zero=>simp [leafs] at hk
 | succ m =>
  have agg : ∀ kd,P.underlying t = some kd → ((∃ n e,kd = .array n e) ∨ ∃ fs,kd = .struct fs) → ∃ a,(part t cs off).run P w = .ok a w ∧ AsV P t xs a := by
   intro kd hu h
   obtain ⟨i,hi⟩ := info_of_underlying hu
   have hl : (cs.extract off (off + P.cellsOf t)) = xs.toArray := by
    apply Array.ext'
    rw [Array.toList_extract,hc,← hx]
    simp [List.extract]
   refine ⟨.agg xs.toArray,?_,?_⟩
   ·rw [← hl]
    rcases h with ⟨n,e,rfl⟩ | ⟨fs,rfl⟩ <;> simp [part,isAgg,run_underlying hu,run_sizeOf w hi]
   ·unfold AsV
    rcases h with ⟨n,e,rfl⟩ | ⟨fs,rfl⟩ <;> rw [hu]
  have one : ∀ kd,P.underlying t = some kd → P.plainKey t = true → ks.length = 1 → ∃ a,(part t cs off).run P w = .ok a w ∧ AsV P t xs a := by
   intro kd hu hp h1
   rw [h1] at hx hlen
   obtain ⟨v,hv⟩ := List.length_eq_one_iff.1 hlen
   subst hv
   refine ⟨v,run_part_plain w hp ?_,?_⟩
   ·have : (cs.toList.drop off)[0]? = some v := by
     have := congrArg (fun l : List Value=>l[0]?) hx
     simpa [List.getElem?_take] using this
    simpa using this
   ·unfold AsV
    rw [hu]
    unfold Program.plainKey at hp
    rw [hu] at hp
    cases kd <;> simp at hp <;> rfl
  unfold leafs at hk
  cases hu : P.underlying t with
  | none=>rw [hu] at hk; cases hk
  | some kd =>
   rw [hu] at hk
   cases kd
   case bool=>exact one _ hu (by simp [Program.plainKey,hu]) (by cases hk; rfl)
   case int k=>exact one _ hu (by simp [Program.plainKey,hu]) (by cases hk; rfl)
   case string=>exact one _ hu (by simp [Program.plainKey,hu]) (by cases hk; rfl)
   case struct fs=>exact agg _ hu (.inr ⟨fs,rfl⟩)
   case array n e=>exact agg _ hu (.inl ⟨n,e,rfl⟩)
   all_goals cases hk

theorem run_eqFields_k (dd m : Nat) (hIH : ∀ t ks,leafs P m t = some ks → EqK P dd t ks) (cs ds : Array Value) : ∀ (fs : List Field) (off : Nat) (ks : List LK),leafsF P (leafs P m) fs off = some ks → ∀ (w : World),kOk ks (cs.toList.drop off) = true → kOk ks (ds.toList.drop off) = true →
  (Op.eqFields dd cs ds fs).run P w = .ok (vEqL (cs.toList.drop off) (ds.toList.drop off)) w
 | [],off,ks,h,w,h1,h2=>by
  simp only [leafsF,Option.some.injEq] at h
  subst h
  have e1 : cs.toList.drop off = [] := by exact List.length_eq_zero_iff.1 (kOk_len h1)
  have e2 : ds.toList.drop off = [] := by exact List.length_eq_zero_iff.1 (kOk_len h2)
  rw [e1,e2]
  simp [Op.eqFields,vEqL]
 | f :: fs, off, ks, h, w, h1, h2 => by
  unfold leafsF at h
  split at h
  ·rename_i a b ha hb
   cases hc : (f.name != "_" && Nat.beq f.offset off && Nat.beq (P.cellsOf f.type) a.length) with
   | false=>rw [hc] at h; cases h
   | true =>
    rw [hc] at h
    cases h
    simp only [Bool.and_eq_true,bne_iff_ne,ne_eq] at hc
    obtain ⟨⟨c1,c2⟩,c3⟩ := hc
    have c2 := Nat.eq_of_beq_eq_true c2
    have c3 := Nat.eq_of_beq_eq_true c3
    obtain ⟨p1,p2⟩ := kOk_append h1
    obtain ⟨q1,q2⟩ := kOk_append h2
    rw [List.drop_drop] at p2 q2
    obtain ⟨x,r1,r2⟩ := part_as ha c3 w rfl p1
    obtain ⟨y,s1,s2⟩ := part_as ha c3 w rfl q1
    have heq := hIH _ _ ha w _ _ x y p1 q1 r2 s2
    have hrest := run_eqFields_k dd m hIH cs ds fs (off + P.cellsOf f.type) b hb w (by rw [c3]; exact p2) (by rw [c3]; exact q2)
    rw [vEqL_append h1 h2,List.drop_drop,List.drop_drop]
    rw [c3] at hrest
    simp only [Op.eqFields,c1,ne_eq,not_false_eq_true,if_true,Sem.run_bind,c2,r1,s1,heq,Result.andThen_ok]
    cases hv : vEqL ((cs.toList.drop off).take a.length) ((ds.toList.drop off).take a.length) with
    | false=>simp
    | true=>simp [hrest]
  ·cases h

theorem run_eqItems_k (dd m : Nat) {e : TypeId} {a : List LK} (ha : leafs P m e = some a) (hIH : EqK P dd e a) (hc : P.cellsOf e = a.length) (cs ds : Array Value) : ∀ (n i : Nat) (w : World),kOk ((List.range n).flatMap fun _=>a) (cs.toList.drop (i * a.length)) = true → kOk ((List.range n).flatMap fun _=>a) (ds.toList.drop (i * a.length)) = true →
  (Op.eqItems dd e (P.cellsOf e) cs ds (List.range' i n)).run P w = .ok (vEqL (cs.toList.drop (i * a.length)) (ds.toList.drop (i * a.length))) w
 | 0,i,w,h1,h2=>by
  have e1 : cs.toList.drop (i * a.length) = [] := by exact List.length_eq_zero_iff.1 (by rw [kOk_len h1]; rfl)
  have e2 : ds.toList.drop (i * a.length) = [] := by exact List.length_eq_zero_iff.1 (by rw [kOk_len h2]; rfl)
  rw [e1,e2]
  simp [Op.eqItems,vEqL]
 | n + 1, i, w, h1, h2 => by
  have hfl : ((List.range (n + 1)).flatMap fun _=>a) = a ++ (List.range n).flatMap fun _=>a := by
   rw [List.range_succ_eq_map,List.flatMap_cons,List.flatMap_map]
  rw [hfl] at h1 h2
  obtain ⟨p1,p2⟩ := kOk_append h1
  obtain ⟨q1,q2⟩ := kOk_append h2
  rw [List.drop_drop,show i * a.length + a.length = (i + 1) * a.length from by rw [Nat.add_mul,Nat.one_mul]] at p2 q2
  obtain ⟨x,r1,r2⟩ := part_as ha hc w rfl p1
  obtain ⟨y,s1,s2⟩ := part_as ha hc w rfl q1
  have heq := hIH w _ _ x y p1 q1 r2 s2
  have hrest := run_eqItems_k dd m ha hIH hc cs ds n (i + 1) w p2 q2
  rw [vEqL_append h1 h2,List.drop_drop,List.drop_drop,show i * a.length + a.length = (i + 1) * a.length from by rw [Nat.add_mul,Nat.one_mul]]
  rw [List.range'_succ]
  rw [hc] at hrest ⊢
  simp only [Op.eqItems,Sem.run_bind,r1,s1,heq,Result.andThen_ok]
  cases hv : vEqL ((cs.toList.drop (i * a.length)).take a.length) ((ds.toList.drop (i * a.length)).take a.length) with
  | false=>simp
  | true=>simp [hrest]

theorem run_equalIn_k (d : Nat) : ∀ (m : Nat) (t : TypeId) (ks : List LK), leafs P m t = some ks → EqK P (d + m) t ks
 | 0,_,_,h=>by simp [leafs] at h
 | m + 1, t, ks, h => by
  intro w xs ys x y h1 h2 hx hy
  unfold leafs at h
  unfold AsV at hx hy
  cases hu : P.underlying t with
  | none=>rw [hu] at h; cases h
  | some kd =>
   rw [hu] at h hx hy
   cases kd
   case bool =>
    cases h
    simp only at hx hy
    subst hx; subst hy
    cases x <;> simp [kOk] at h1
    cases y <;> simp [kOk] at h2
    rw [show d + (m + 1) = (d + m) + 1 from rfl]
    rw [run_equalIn_bool w (d + m) t _ _ hu]
    simp [vEqL]
   case int k =>
    cases h
    simp only at hx hy
    subst hx; subst hy
    cases x <;> simp [kOk] at h1
    cases y <;> simp [kOk] at h2
    rw [show d + (m + 1) = (d + m) + 1 from rfl]
    subst h1
    subst h2
    rw [run_equalIn_int w (d + m) t _ _ _ _ hu]
    simp [vEqL]
   case string =>
    cases h
    simp only at hx hy
    subst hx; subst hy
    cases x <;> simp [kOk] at h1
    cases y <;> simp [kOk] at h2
    rw [show d + (m + 1) = (d + m) + 1 from rfl]
    rw [run_equalIn_string w (d + m) t _ _ hu]
    simp [vEqL]
   case struct fs =>
    simp only at h hx hy
    subst hx; subst hy
    cases hst : P.stoodInHeld t with
    | true=>rw [hst] at h; cases h
    | false =>
     rw [hst] at h
     have hfs : P.fieldsOf t = fs := by simp [Program.fieldsOf,hu]
     rw [show d + (m + 1) = (d + m) + 1 from rfl,run_equalIn_struct w (d + m) t _ _ (by rw [hfs]; exact hu) hst,hfs]
     have := run_eqFields_k (d + m) m (fun t ks=>run_equalIn_k d m t ks) xs.toArray ys.toArray fs.toList 0 ks h w (by simpa using h1) (by simpa using h2)
     simpa using this
   case array n e =>
    simp only at h hx hy
    subst hx; subst hy
    split at h
    ·rename_i a ha
     cases hc : Nat.beq (P.cellsOf e) a.length with
     | false=>rw [hc] at h; cases h
     | true =>
      rw [hc] at h
      cases h
      have hc := Nat.eq_of_beq_eq_true hc
      have hi : ∃ i,P.info? e = some i := by
       cases m with
       | zero=>simp [leafs] at ha
       | succ m' =>
        unfold leafs at ha
        cases hue : P.underlying e with
        | none=>rw [hue] at ha; cases ha
        | some _=>exact info_of_underlying hue
      obtain ⟨i,hi⟩ := hi
      rw [show d + (m + 1) = (d + m) + 1 from rfl,run_equalIn_array w (d + m) _ _ hu hi,List.range_eq_range']
      have := run_eqItems_k (d + m) m ha (run_equalIn_k d m e a ha) hc xs.toArray ys.toArray n 0 w (by simpa using h1) (by simpa using h2)
      simpa using this
    ·cases h
   all_goals cases h

theorem run_checkKey_k (em : Bool) (d : Nat) : ∀ (m : Nat) (t : TypeId) (ks : List LK), leafs P m t = some ks → ∀ (w : World) (xs : List Value) (x : Value), kOk ks xs = true → AsV P t xs x → (Instr.checkKey em (d + m) t x).run P w = .ok () w
 | 0,_,_,h=>by simp [leafs] at h
 | m + 1, t, ks, h => by
  intro w xs x h1 hx
  rw [show d + (m + 1) = (d + m) + 1 from rfl]
  unfold leafs at h
  unfold AsV at hx
  cases hu : P.underlying t with
  | none=>rw [hu] at h; cases h
  | some kd =>
   rw [hu] at h hx
   cases kd
   case bool =>
    simp only [Instr.checkKey,Sem.run_bind,run_underlying hu,Result.andThen_ok]
    cases x <;> rfl
   case int k =>
    simp only [Instr.checkKey,Sem.run_bind,run_underlying hu,Result.andThen_ok]
    cases x <;> rfl
   case string =>
    simp only [Instr.checkKey,Sem.run_bind,run_underlying hu,Result.andThen_ok]
    cases x <;> rfl
   case struct fs =>
    simp only at h hx
    subst hx
    cases hst : P.stoodInHeld t with
    | true=>rw [hst] at h; cases h
    | false =>
     rw [hst] at h
     simp only [cond_false] at h
     simp only [Instr.checkKey,Sem.run_bind,run_underlying hu,Result.andThen_ok]
     rw [← Array.forIn_toList]
     have h1' : kOk ks (xs.toArray.toList.drop 0) = true := by simpa using h1
     generalize fs.toList = L at h
     clear h1
     revert h h1'
     generalize (0 : Nat) = off
     intro h1' h
     induction L generalizing off ks with
     | nil=>simp
     | cons f fs ih =>
      unfold leafsF at h
      split at h
      ·rename_i a b ha hb
       cases hc : (f.name != "_" && Nat.beq f.offset off && Nat.beq (P.cellsOf f.type) a.length) with
       | false=>rw [hc] at h; cases h
       | true =>
        rw [hc] at h
        cases h
        simp only [Bool.and_eq_true,bne_iff_ne,ne_eq] at hc
        obtain ⟨⟨c1,c2⟩,c3⟩ := hc
        have c2 := Nat.eq_of_beq_eq_true c2
        have c3 := Nat.eq_of_beq_eq_true c3
        obtain ⟨p1,p2⟩ := kOk_append h1'
        rw [List.drop_drop] at p2
        obtain ⟨y,r1,r2⟩ := part_as ha c3 w rfl p1
        have hy := run_checkKey_k em d m f.type a ha w _ y p1 r2
        simp only [List.forIn_cons,Sem.run_bind,c1,ne_eq,not_false_eq_true,if_true,Result.andThen_ok,c2,r1,hy,Sem.run_pure]
        exact ih b (off + P.cellsOf f.type) (by rw [c3]; exact p2) hb
      ·cases h
   case array n e =>
    simp only at h hx
    subst hx
    split at h
    ·rename_i a ha
     cases hc : Nat.beq (P.cellsOf e) a.length with
     | false=>rw [hc] at h; cases h
     | true =>
      rw [hc] at h
      cases h
      have hc := Nat.eq_of_beq_eq_true hc
      have hi : ∃ i,P.info? e = some i := by
       cases m with
       | zero=>simp [leafs] at ha
       | succ m' =>
        unfold leafs at ha
        cases hue : P.underlying e with
        | none=>rw [hue] at ha; cases ha
        | some _=>exact info_of_underlying hue
      obtain ⟨i,hi⟩ := hi
      simp only [Instr.checkKey,Sem.run_bind,run_underlying hu,Result.andThen_ok]
      simp only [Std.Legacy.Range.forIn_eq_forIn_range',Std.Legacy.Range.size,Nat.sub_zero,Nat.add_one_sub_one,Nat.div_one]
      have h1' : kOk ((List.range n).flatMap fun _=>a) (xs.toArray.toList.drop (0 * a.length)) = true := by simpa using h1
      clear h1 hu
      revert h1'
      generalize (0 : Nat) = j
      intro h1'
      induction n generalizing j with
      | zero=>simp
      | succ n ih =>
       have hfl : ((List.range (n + 1)).flatMap fun _=>a) = a ++ (List.range n).flatMap fun _=>a := by
        rw [List.range_succ_eq_map,List.flatMap_cons,List.flatMap_map]
       rw [hfl] at h1'
       obtain ⟨p1,p2⟩ := kOk_append h1'
       rw [List.drop_drop,show j * a.length + a.length = (j + 1) * a.length from by rw [Nat.add_mul,Nat.one_mul]] at p2
       obtain ⟨y,r1,r2⟩ := part_as ha hc w rfl p1
       have hy := run_checkKey_k em d m e a ha w _ y p1 r2
       rw [← hc] at r1
       rw [List.range'_succ]
       have hsz : i.size = P.cellsOf e := by simp [Program.cellsOf,hi]
       simp only [List.forIn_cons,Sem.run_bind,run_sizeOf w hi,Result.andThen_ok,r1,hy,Sem.run_pure]
       exact ih (j + 1) p2
    ·cases h
   all_goals cases h

def KOK (P : Program) (t : TypeId) (ks : List LK) : Prop :=
  ∀ (w : World) (xs ys : List Value) (op : BinOp) (a b : Operand),kOk ks xs = true → kOk ks ys = true → (Op.equal t (.agg xs.toArray) (.agg ys.toArray)).run P w = .ok (vEqL xs ys) w ∧ (eqGuard op t a b (.agg xs.toArray) (.agg ys.toArray)).run P w = .ok () w

def CKOK (P : Program) (t : TypeId) (ks : List LK) : Prop :=
  ∀ (em : Bool) (w : World) (xs : List Value),kOk ks xs = true → (Instr.checkKey em 10000 t (.agg xs.toArray)).run P w = .ok () w

theorem keys_ok {t : TypeId} {d : TypeDesc} {ks : List LK} (hd : P.underlying t = some d) (h : kindsOf P t d = some ks) : isAggT d = true ∧ CKOK P t ks := by
 unfold kindsOf at h
 cases hc : (isAggT d && !P.eqGuardType P.depth t) with
 | false=>rw [hc] at h; cases h
 | true =>
  rw [hc] at h
  simp only [Bool.and_eq_true,Bool.not_eq_true'] at hc
  refine ⟨hc.1,fun em w xs h1=>?_⟩
  have as : AsV P t xs (.agg xs.toArray) := by
   unfold AsV
   rw [hd]
   cases d <;> first | rfl | (simp [isAggT] at hc)
  exact run_checkKey_k em 9992 8 t ks h w xs _ h1 as

theorem kinds_ok {t : TypeId} {d : TypeDesc} {ks : List LK} (hd : P.underlying t = some d) (h : kindsOf P t d = some ks) : KOK P t ks := by
  unfold kindsOf at h
  cases hc : (isAggT d && !P.eqGuardType P.depth t) with
  | false=>rw [hc] at h; cases h
  | true =>
    rw [hc] at h
    simp only [Bool.and_eq_true,Bool.not_eq_true'] at hc
    intro w xs ys op a b h1 h2
    have as : ∀ zs : List Value,AsV P t zs (.agg zs.toArray) := fun zs=>by
      unfold AsV
      rw [hd]
      cases d <;> first | rfl | (simp [isAggT] at hc)
    refine ⟨?_,?_⟩
    · have := run_equalIn_k 9992 8 t ks h w xs ys _ _ h1 h2 (as xs) (as ys)
      exact this
    · have hg : ∀ (k : Sem Unit),(Sem.run P (do
            let a ← program
            let b ← program
            if (!a.eqGuardType b.depth t) = true then pure () else k) w) = .ok () w := fun k=>by
        simp only [Sem.run_bind,run_program,Result.andThen_ok,hc.2,Bool.not_false,if_true,Sem.run_pure]
      unfold eqGuard
      cases op <;> first | (simp; done) | (simp only [Bool.not_true,Bool.false_eq_true,if_false]; exact hg _)
end
end Go.Tr

/- Operations that turn nothing, one by one: what they come to is what opEv says. Conditions: none. -/
namespace Go.Tr
open Go Go.RowKit

structure TOK (P : Program) (T : Nat → Option TI) : Prop where
 base : ∀ t ti,T t = some ti → P.underlying t = some ti.desc ∧ ti.zero.cells.size = ti.size ∧ (∀ v ∈ ti.zero.cells.toList,v.oneCell' = true) ∧
  ∃ i,P.info? t = some i ∧ i.size = ti.size ∧ i.bytes = ti.bytes ∧ i.zero = some ti.zero
 kinds : ∀ t ti ks,T t = some ti → ti.kinds = some ks → KOK P t ks
 keys : ∀ t ti ks,T t = some ti → ti.kinds = some ks → isAggT ti.desc = true ∧ CKOK P t ks

instance {P : Program} {T : Nat → Option TI} : CoeFun (TOK P T) (fun _=>∀ t ti,T t = some ti → P.underlying t = some ti.desc ∧ ti.zero.cells.size = ti.size ∧ (∀ v ∈ ti.zero.cells.toList,v.oneCell' = true) ∧
    ∃ i,P.info? t = some i ∧ i.size = ti.size ∧ i.bytes = ti.bytes ∧ i.zero = some ti.zero) := ⟨TOK.base⟩

theorem TOK_TP (P : Program) : TOK P (TP P) := by
 have parts : ∀ t ti,TP P t = some ti → (P.underlying t = some ti.desc ∧ ti.zero.cells.size = ti.size ∧ (∀ v ∈ ti.zero.cells.toList,v.oneCell' = true) ∧
  ∃ i,P.info? t = some i ∧ i.size = ti.size ∧ i.bytes = ti.bytes ∧ i.zero = some ti.zero) ∧ ti.kinds = Tr.kindsOf P t ti.desc := by
  intro t ti h
  unfold TP at h
  split at h
  ·rename_i d i hd hi
   split at h
   ·rename_i z hz
    cases hb : (Nat.beq z.cells.size i.size && z.cells.toList.all Value.oneCell') with
    | false=>rw [hb] at h; simp at h
    | true =>
     rw [hb] at h
     simp only [cond_true,Option.some.injEq] at h
     rw [Bool.and_eq_true] at hb
     subst h
     exact ⟨⟨hd,Nat.eq_of_beq_eq_true hb.1,fun v hv=>List.all_eq_true.1 hb.2 v hv,i,hi,rfl,rfl,hz⟩,rfl⟩
   ·cases h
  ·cases h
 exact ⟨fun t ti h=>(parts t ti h).1,fun t ti ks h hk=>kinds_ok (parts t ti h).1.1 (by rw [← (parts t ti h).2]; exact hk),fun t ti ks h hk=>keys_ok (parts t ti h).1.1 (by rw [← (parts t ti h).2]; exact hk)⟩

def TK (P : Program) (K : Nat → Option (List LK)) (t : Nat) : Option TI :=
 match TP P t with
 | some ⟨desc,size,bytes,zero,_⟩=>some ⟨desc,size,bytes,zero,K t⟩
 | none=>none
theorem TOK_TK {P : Program} {K : Nat → Option (List LK)} (hK : ∀ t ks,K t = some ks → ∃ d,P.underlying t = some d ∧ Tr.kindsOf P t d = some ks) : TOK P (TK P K) := by
 have key : ∀ t ti,TK P K t = some ti → ∃ k,TP P t = some ⟨ti.desc,ti.size,ti.bytes,ti.zero,k⟩ ∧ ti.kinds = K t := fun t ti h=>by
  unfold TK at h
  split at h
  ·rename_i desc size bytes zero k he
   cases h
   exact ⟨k,he,rfl⟩
  ·cases h
 refine ⟨fun t ti h=>?_,fun t ti ks h hk=>?_,fun t ti ks h hk=>?_⟩
 ·obtain ⟨k,h1,_⟩ := key t ti h
  have := (TOK_TP P).base t _ h1
  exact this
 ·obtain ⟨k,_,h2⟩ := key t ti h
  rw [h2] at hk
  obtain ⟨d,d1,d2⟩ := hK t ks hk
  exact kinds_ok d1 d2
 ·obtain ⟨k,h1,h2⟩ := key t ti h
  have hb := ((TOK_TP P).base t _ h1).1
  rw [h2] at hk
  obtain ⟨d,d1,d2⟩ := hK t ks hk
  rw [hb] at d1
  cases d1
  exact keys_ok hb d2

section
variable [GTab] {P : Program} {T : Nat → Option TI} {w : World} {c : Cx}

theorem VR.err_inv {u : Value} (h : VR P w c .err u) : ∃ t v,u = .iface t v := by
  cases h with
  | tree h=>cases h with | err t v=>exact ⟨t,v,rfl⟩
theorem VR.val_inv {v u : Value} (h : VR P w c (.val v) u) : u = v := by
 cases h with
 | tree h=>cases h; rfl

theorem VT.toVR {x : AV} {v : Value} (h : VT P w c.p x v) : VR P w c x v := .tree h

theorem VR.agg_inv {l : List AV} {u : Value} (h : VR P w c (.agg l) u) : ∃ vs,u = .agg vs ∧ vs.size = l.length ∧ (∀ v ∈ vs.toList,v.oneCell' = true) ∧ ∀ i x,l[i]? = some x → VR P w c x (vs.getD i undef) := by
 cases h with
 | tree h=>cases h with
  | agg _ vs hs ho h=>exact ⟨vs,rfl,hs,ho,fun i x hx=>.tree (h i x hx)⟩
 | agg _ vs hs ho h=>exact ⟨vs,rfl,hs,ho,h⟩

theorem VR.tuple_inv {l : List AV} {u : Value} (h : VR P w c (.tuple l) u) : ∃ vs,u = .tuple vs ∧ vs.size = l.length ∧ ∀ i x,l[i]? = some x → VR P w c x (vs.getD i undef) := by
 cases h with
 | tree h=>cases h with
  | tuple _ vs hs h=>exact ⟨vs,rfl,hs,fun i x hx=>.tree (h i x hx)⟩
 | tuple _ vs hs h=>exact ⟨vs,rfl,hs,h⟩

theorem VR.func_inv {fn : Fn} {nf : Nat} {l : List AV} {u : Value} (h : VR P w c (.func fn nf l) u) : ∃ f0 vs,u = .func fn f0 vs ∧ f0.size = nf ∧ (f0 ++ vs).size = l.length ∧ ∀ i x,l[i]? = some x → VR P w c x ((f0 ++ vs).getD i undef) := by
 cases h with
 | tree h =>
  cases h with
  | func _ _ _ f0 vs h0 hs h=>exact ⟨f0,vs,rfl,h0,hs,fun i x hx=>.tree (h i x hx)⟩
 | func _ _ _ f0 vs h0 hs h=>exact ⟨f0,vs,rfl,h0,hs,h⟩

theorem VR.optr_inv {b ver idx sub : Nat} {u : Value} (h : VR P w c (.optr b ver idx sub) u) : ∃ oi,c.O b = some oi ∧ ver ≤ oi.ver ∧ u.oneCell' = true ∧
  (oi.ver = ver → idx < oi.n ∧ u = .pointer (some ⟨oi.blk,oi.lo + (idx * oi.es + sub),none⟩)) := by
 cases h with
 | tree h=>cases h
 | optr _ _ _ _ _ oi h1 h2 h3 h4=>exact ⟨oi,h1,h2,h3,h4⟩

theorem VR.oslice_inv {b ver off len : Nat} {cap : Option Nat} {u : Value} (h : VR P w c (.oslice b ver off len cap) u) : ∃ oi,c.O b = some oi ∧ ver ≤ oi.ver ∧ u.oneCell' = true ∧
  (oi.ver = ver → off + len ≤ oi.n ∧ ∃ a k,u = .slice a len k ∧ len ≤ k ∧ off + k ≤ oi.cap ∧ oi.n ≤ off + k ∧ (k ≠ 0 → a = some ⟨oi.blk,oi.lo + off * oi.es,none⟩) ∧ (∀ cp,cap = some cp → k = cp)) := by
 cases h with
 | tree h=>cases h
 | oslice _ _ _ _ _ _ oi h1 h2 h3 h4=>exact ⟨oi,h1,h2,h3,h4⟩

theorem VR.aslice_inv {b ver idx sub es len : Nat} {u : Value} (h : VR P w c (.aslice b ver idx sub es len) u) : ∃ oi,c.O b = some oi ∧ ver ≤ oi.ver ∧ u.oneCell' = true ∧
  (oi.ver = ver → idx < oi.n ∧ sub + len * es ≤ oi.es ∧ u = .slice (some ⟨oi.blk,oi.lo + (idx * oi.es + sub),none⟩) len len) := by
 cases h with
 | tree h=>cases h
 | aslice _ _ _ _ _ _ _ oi h1 h2 h3 h4=>exact ⟨oi,h1,h2,h3,h4⟩
theorem VR.oiter_inv {b : Nat} {u : Value} (h : VR P w c (.oiter b) u) : ∃ r,u = .pointer (some ⟨r,0,none⟩) ∧ c.N b = some r := by
 cases h with
 | tree h=>cases h
 | oiter _ r h=>exact ⟨r,rfl,h⟩

theorem VR.omap_inv {b : Nat} {u : Value} (h : VR P w c (.omap b) u) : ∃ r,u = .map (some r) ∧ c.N b = some r := by
 cases h with
 | tree h=>cases h
 | omap _ r h=>exact ⟨r,rfl,h⟩

theorem block_some {h : Hp} {b ver : Nat} {k : AB} (hb : h.block b ver = some k) : h.blocks[b]? = some k ∧ k.ver = ver := by
 unfold Hp.block at hb
 rw [nth?_eq] at hb
 split at hb
 ·rename_i k' hk
  cases hv : Nat.beq k'.ver ver with
  | false=>rw [hv] at hb; simp at hb
  | true=>rw [hv] at hb; simp at hb; subst hb; exact ⟨hk,Nat.eq_of_beq_eq_true hv⟩
 ·cases hb

theorem BR.cell {k : AB} {oi : OI} (h : BR P w c k oi) {i j : Nat} {x : AV} (hi : i < k.len) (hx : (k.f i)[j]? = some x) :
  ∃ v,w.cell? ⟨oi.blk,oi.lo + (i * oi.es + j),none⟩ = some v ∧ v.oneCell' = true ∧ VR P w c x v ∧ (k.flat = true → VT P w c.p x v) := by
 have hj : j < k.es := by
  rw [← h.el i hi]; exact (List.getElem?_eq_some_iff.1 hx).1
 have hcap : oi.cap ≠ 0 := by have := h.n; have := h.le; omega
 obtain ⟨cs,t,hrow,hsz,hone⟩ := h.row hcap
 have hi' : i < oi.cap := by have := h.n; have := h.le; omega
 have hlt : oi.lo + (i * oi.es + j) < cs.size := by
  have : (i + 1) * oi.es ≤ oi.cap * oi.es := Nat.mul_le_mul_right _ hi'
  rw [Nat.add_mul] at this
  have := h.es
  omega
 have hc : w.cell? ⟨oi.blk,oi.lo + (i * oi.es + j),none⟩ = some cs[oi.lo + (i * oi.es + j)] := by
  simp [World.cell?,hrow,hlt]
 exact ⟨_,hc,hone _ (by simp),h.rel i j x _ hi hx hc⟩

theorem getElem?_drop' {α : Type} (l : List α) (n j : Nat) : (l.drop n)[j]? = l[n + j]? := by simp

theorem load_ofCells (hT : TOK P T) {t : TypeId} {ti : TI} (ht : T t = some ti) {l : List AV} {v : AV} (hv : ofCells ti.desc ti.size l = some v)
  {b off : Nat} (hl : ∀ j x,l[j]? = some x → ∃ u,w.cell? ⟨b,off + j,none⟩ = some u ∧ u.oneCell' = true ∧ VR P w c x u) :
  ∃ u,(Instr.loadAt t (.pointer (some ⟨b,off,none⟩))).run P w = .ok u w ∧ VR P w c v u := by
 obtain ⟨hd,_,_,i,hi,hs,_⟩ := hT t ti ht
 unfold ofCells at hv
 cases ha : isAggT ti.desc with
 | true =>
  rw [ha] at hv
  cases hn : Nat.ble ti.size l.length with
  | false=>rw [hn] at hv; simp at hv
  | true =>
   rw [hn] at hv
   simp at hv
   subst hv
   have hle : ti.size ≤ l.length := Nat.le_of_ble_eq_true hn
   have hex : ∀ j,j < ti.size → ∃ u,w.cell? ⟨b,off + j,none⟩ = some u ∧ u.oneCell' = true ∧ VR P w c (l.getD j .top) u := fun j hj=>by
    obtain ⟨u,h1,h1',h2⟩ := hl j _ (List.getElem?_eq_getElem (by omega : j < l.length))
    exact ⟨u,h1,h1',by simpa [List.getD,List.getElem?_eq_getElem (by omega : j < l.length)] using h2⟩
   let g : Nat → Value := fun j=>if h : j < ti.size then (hex j h).choose else undef
   have hg : ∀ j,j < ti.size → w.cell? ⟨b,off + j,none⟩ = some (g j) ∧ (g j).oneCell' = true ∧ VR P w c (l.getD j .top) (g j) := fun j hj=>by
    simp only [g,hj,dite_true]; exact (hex j hj).choose_spec
   refine ⟨.agg ((List.range ti.size).map g).toArray,?_,.agg _ _ (by simp [Nat.min_eq_left hle]) (by simp; intro j hj; exact (hg j hj).2.1) ?_⟩
   ·have hisagg : (isAgg t).run P w = .ok true w := by
     unfold isAgg
     simp only [Sem.run_bind,run_underlying hd,Result.andThen_ok]
     revert ha; cases ti.desc <;> simp [isAggT]
    have hld := run_loadCells (P := P) w ⟨b,off,none⟩ ti.size g (fun j hj=>by rw [Addr.add_lit]; exact (hg j hj).1)
    simp [Instr.loadAt,Instr.sureAddr,loadVar,hisagg,sizeOf,typeInfo,hi,hs,hld]
   ·intro j x hx
    have hj : j < ti.size := by have := (List.getElem?_eq_some_iff.1 hx).1; simp at this; omega
    have hx' : l.getD j .top = x := by
     rw [List.getElem?_take] at hx; simp [hj] at hx; simp [List.getD,hx]
    have := (hg j hj).2.2
    rw [hx'] at this
    simpa [hj] using this
 | false =>
  rw [ha] at hv
  cases l with
  | nil=>simp at hv
  | cons x r =>
   simp at hv
   subst hv
   obtain ⟨u,h1,_,h2⟩ := hl 0 x rfl
   refine ⟨u,?_,h2⟩
   have hisagg : (isAgg t).run P w = .ok false w := by
    unfold isAgg
    simp only [Sem.run_bind,run_underlying hd,Result.andThen_ok]
    revert ha; cases ti.desc <;> simp [isAggT]
   have h1' : w.cell? ⟨b,off,none⟩ = some u := by simpa using h1
   simp [Instr.loadAt,Instr.sureAddr,loadVar,hisagg,h1']

theorem constAV_ok (v : Value) : VT P w c.p (constAV v) v := by
 unfold constAV
 split
 ·exact .eslice none
 ·rename_i cs
  cases hall : cs.toList.all Value.oneCell' with
  | false=>exact .top _
  | true =>
   refine .agg _ _ (by simp) (fun v hv=>List.all_eq_true.1 hall v hv) fun i x hx=>?_
   rw [List.getElem?_map] at hx
   simp only [Array.getElem?_toList] at hx
   cases hc : cs[i]? with
   | none=>rw [hc] at hx; simp at hx
   | some u =>
    rw [hc] at hx
    simp only [Option.map_some,Option.some.injEq] at hx
    have hu : cs.getD i undef = u := by simp [hc]
    rw [hu]
    subst hx
    split
    ·exact .eslice none
    ·exact .val _
 ·exact .top _
 ·exact .val _

theorem VR.cells {x : AV} {u : Value} (h : VR P w c x u) (hs : x.storable = true) :
  u.cells.size = x.cells.length ∧ (∀ v ∈ u.cells.toList,v.oneCell' = true) ∧ ∀ i y,x.cells[i]? = some y → VR P w c y (u.cells.getD i undef) := by
 have one : ∀ (y : AV) (v : Value),VR P w c y v → v.oneCell' = true → y.cells = [y] → v.cells.size = y.cells.length ∧ (∀ u ∈ v.cells.toList,u.oneCell' = true) ∧ ∀ i z,y.cells[i]? = some z → VR P w c z (v.cells.getD i undef) := by
  intro y v hy hv hc
  have hvc : v.cells = #[v] := by cases v <;> simp_all [Value.cells,Value.oneCell']
  rw [hvc,hc]
  refine ⟨rfl,by simpa using hv,fun i z hz=>?_⟩
  cases i with
  | zero=>simp at hz; subst hz; simpa using hy
  | succ i=>simp at hz
 cases x with
 | top=>cases hs
 | val v=>have := h.val_inv; subst this; exact one _ _ h hs rfl
 | agg l=>obtain ⟨vs,rfl,hsz,ho,hr⟩ := h.agg_inv; exact ⟨hsz,ho,hr⟩
 | tuple l=>cases hs
 | func fn nf l=>obtain ⟨f0,vs,rfl,_⟩ := h.func_inv; exact one _ _ h rfl rfl
 | eslice=>refine one _ _ h ?_ rfl; cases h with | tree h=>cases h; rfl
 | rslice es len f=>refine one _ _ h ?_ rfl; cases h with | tree h=>cases h <;> rfl
 | rptr l=>refine one _ _ h ?_ rfl; cases h with | tree h=>cases h; rfl
 | rmap ki et has get=>refine one _ _ h ?_ rfl; cases h with | tree h=>cases h; rfl
 | omap b=>obtain ⟨r,rfl,_⟩ := h.omap_inv; exact one _ _ h rfl rfl
 | err=>obtain ⟨t,v,rfl⟩ := h.err_inv; exact one _ _ h rfl rfl
 | yld=>cases hs
 | oiter=>cases hs
 | cslice es len cc f=>refine one _ _ h ?_ rfl; cases h with | tree h=>cases h <;> rfl
 | optr b ver idx sub=>obtain ⟨_,_,_,ho,_⟩ := h.optr_inv; exact one _ _ h ho rfl
 | aslice b ver idx sub es len=>obtain ⟨_,_,_,ho,_⟩ := h.aslice_inv; exact one _ _ h ho rfl
 | oslice b ver off len cap=>obtain ⟨_,_,_,ho,_⟩ := h.oslice_inv; exact one _ _ h ho rfl
end
end Go.Tr
