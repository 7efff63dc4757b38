/- The arms of opEv, each by itself. Printed by mkfast.py out of TrA.lean. Conditions: none. -/
import Derived.Test.YtfcagapficjffaaTr04
import Derived.Test.YtfcagapficjffaaProg

namespace Go.Tr
open Go Go.RowKit
section
variable (T : Nat → Option TI) (ρ : Operand → AV) (h : Hp)

def ev_pick (c a b : Operand) : Res :=
  match ρ c with
  | .val (.bool true) => .ok (ρ a) h
  | .val (.bool false) => .ok (ρ b) h
  | _ => .bad

def ev_alloc (t : TypeId) : Res :=
  match T t with
  | some ti => forceNr ti.size fun es => forceC (zeroCells ti) fun cs => .ok (.optr h.blocks.length 0 0 0) (h.addB { es, len := 1, f := fun _ => cs, one := true })
  | none => .bad

def ev_box (t : TypeId) (x : Operand) : Res :=
  match T t with
  | some ti =>
    bif Nat.beq (ρ x).cells.length ti.size && (ρ x).storable then
      forceNr ti.size fun es => forceC (ρ x).cells fun cs => forceT (cs.all (AV.tree 4)) fun flat => .ok (.optr h.blocks.length 0 0 0) (h.addB { es, len := 1, f := fun _ => cs, flat, one := true })
    else .bad
  | none => .bad

def ev_build (t : TypeId) (parts : Array (Nat × Operand)) : Res :=
  match T t with
  | some ti =>
    match ti.desc with
    | .struct fields =>
      match placesOf T fields.toList with
      | some pl =>
        match buildCells (nth? pl) (zeroCells ti) (parts.toList.map fun p => (p.1, ρ p.2)) with
        | some l => .ok (.agg l) h
        | none => .bad
      | none => .bad
    | .array _ e =>
      match T e with
      | some ei =>
        match buildCells (fun i => some (i * ei.size, ei.size)) (zeroCells ti) (parts.toList.map fun p => (p.1, ρ p.2)) with
        | some l => .ok (.agg l) h
        | none => .bad
      | none => .bad
    | _ => .bad
  | none => .bad

def ev_buildSlice (t : TypeId) (len : Nat) (parts : Array (Nat × Operand)) : Res :=
  match T t with
  | some { desc := .slice e, .. } =>
    match T e with
    | some ei =>
      match buildCells (fun i => some (i * ei.size, ei.size)) ((List.range len).flatMap fun _ => zeroCells ei) (parts.toList.map fun p => (p.1, ρ p.2)) with
      | some l =>
        bif Nat.ble (len * ei.size) 100000 && Nat.blt 0 ei.size then
          forceNr ei.size fun es => forceC l fun l => forceT (l.all (AV.tree 4)) fun flat => .ok (.oslice h.blocks.length 0 0 len (some len)) (h.addB { es, len, f := fun i => (l.drop (i * es)).take es, flat })
        else .bad
      | none => .bad
    | none => .bad
  | _ => .bad

def ev_load (t : TypeId) (a : Operand) : Res :=
  match T t with
  | some ti =>
    match ρ a with
    | .optr b ver idx sub =>
      match h.block b ver with
      | some k => match ofCells ti.desc ti.size ((k.f idx).drop sub) with | some v => .ok v h | none => .bad
      | none => .bad
    | .rptr l => match ofCells ti.desc ti.size l with | some v => .ok v h | none => .bad
    | _ => .bad
  | none => .bad

def ev_store (t : TypeId) (a x : Operand) : Res :=
  match T t, ρ a with
  | some ti, .optr b ver idx sub =>
    match h.block b ver with
    | some k =>
      bif Nat.beq (ρ x).cells.length ti.size && !k.ro && (ρ x).storable && Nat.ble (sub + ti.size) k.es then
        match k.one with
        | true =>
          match k.len with
          | 1 => forceC (splice (k.f 0) sub (ρ x).cells) fun cs => forceT (k.flat && (ρ x).cells.all (AV.tree 4)) fun fl => .ok .top (h.setB b (k.wr (fun _ => cs) fl))
          | _ => .bad
        | false => forceC (ρ x).cells fun cs => forceT (k.flat && cs.all (AV.tree 4)) fun fl => .upd h b k (fun i => bif Nat.beq i idx then splice (k.f i) sub cs else k.f i) fl
      else .bad
    | none => .bad
  | _, _ => .bad

def ev_binOp (op : BinOp) (t : TypeId) (x y : Operand) : Res :=
  match isNilC y with
  | true => nilEv op (T t) (ρ x) h
  | false => binEv op (T t) (ρ x) (ρ y) h

def ev_unOp (op : UnOp) (x : Operand) : Res :=
  match op, ρ x with
  | .not, .val (.bool b) => .ok (.val (.bool !b)) h
  | .neg, .val (.int k n) => .need (inK k (-n)) (.val (.int k (-n))) h
  | _, _ => .bad

def ev_convert (src dst : TypeId) (x : Operand) : Res :=
  match T src, T dst, ρ x with
  | some _, some { desc := .int k, .. }, .val (.int _ n) => .need (inK k n) (.val (.int k n)) h
  | some { desc := .string, .. }, some { desc := .slice e, .. }, .val (.string s) =>
    match T e with
    | some { desc := .int .u8, .. } => .ok (.rslice 1 s.size fun i => [.val (.int .u8 (s.data.toList.getD i 0).toNat)]) h
    | _ => .bad
  | _, _, _ => .bad

def ev_makeFunc (fn : Fn) (first captured : Array Operand) : Res :=
  .ok (.func fn first.size (first.toList.map ρ ++ captured.toList.map ρ)) h

def ev_makeMap (t : TypeId) : Res :=
  match T t with
  | some { desc := .map kt e, .. } =>
    match T e, keyKind T kt with
    | some ei, some ki => force0 (constAV ei.zero) fun z => .ok (.omap h.maps.length) (h.addM { ki, et := e, has := fun _ => false, get := fun _ => z })
    | _, _ => .bad
  | _ => .bad

def ev_makeSlice (t : TypeId) (l c : Operand) : Res :=
  match T t, ρ l, ρ c with
  | some { desc := .slice e, .. }, .val (.int .i64 n), .val (.int .i64 m) =>
    match T e with
    | some ei => bif Nat.blt 0 ei.size then .need (0 ≤ n ∧ n ≤ m ∧ m ≤ 1000000000 ∧ m * ei.bytes ≤ 1000000000000) (.oslice h.blocks.length 0 0 n.toNat (some m.toNat)) (h.addB { es := ei.size, len := n.toNat, f := fun _ => zeroCells ei }) else .bad
    | none => .bad
  | _, _, _ => .bad

def ev_slice (t : TypeId) (x : Operand) (lo hi : Option Operand) : Res :=
  match T t with
  | some { desc := .slice e, .. } =>
    match T e with
    | some ei =>
      match ρ x with
      | .rslice es len f =>
        match optIdx ρ lo 0, optIdx ρ hi len with
        | some l, some r => bif Nat.beq es ei.size then .need (0 ≤ l ∧ l ≤ r ∧ r ≤ len) (.rslice es (r - l).toNat (shiftF l.toNat f)) h else .bad
        | _, _ => .bad
      | .oslice b ver off len cap =>
        match h.block b ver, optIdx ρ lo 0, optIdx ρ hi len with
        | some k, some l, some r => bif Nat.beq k.es ei.size then .need (0 ≤ l ∧ l ≤ r ∧ r ≤ len) (.oslice b ver (off + l.toNat) (r - l).toNat (match cap with | some c => some (c - l.toNat) | none => none)) h else .bad
        | _, _, _ => .bad
      | _ => .bad
    | none => .bad
  | some { desc := .string, .. } =>
    match ρ x with
    | .val (.string s) =>
      match optIdx ρ lo 0, optIdx ρ hi s.size with
      | some l, some r => .need (0 ≤ l ∧ l ≤ r ∧ r ≤ s.size) (.val (.string (s.extract l.toNat r.toNat))) h
      | _, _ => .bad
    | _ => .bad
  | _ => .bad

def ev_slice3 (t : TypeId) (x : Operand) (lo hi : Option Operand) (mx : Operand) : Res :=
  match T t with
  | some { desc := .slice e, .. } =>
    match T e with
    | some ei =>
      match ρ x, optIdx ρ lo 0, idxOf (ρ mx) with
      | .eslice, some l, some m => match optIdx ρ hi 0 with
        | some r => .need (hi.isSome = true ∧ l = 0 ∧ r = 0 ∧ m = 0) .eslice h
        | none => .bad
      | .rslice es len f, some l, some m => match optIdx ρ hi len with
        | some r => bif Nat.beq es ei.size then .need (hi.isSome = true ∧ 0 ≤ l ∧ l ≤ r ∧ r ≤ m ∧ m ≤ len) (.cslice es (r - l).toNat (m - l).toNat (shiftF l.toNat f)) h else .bad
        | none => .bad
      | _, _, _ => .bad
    | none => .bad
  | _ => .bad

def ev_fieldAddr (s : TypeId) (x : Operand) (i : Nat) : Res :=
  match T s with
  | some { desc := .struct fields, .. } =>
    match nth? fields.toList i with
    | some f =>
      match T f.type, ρ x with
      | some fi, .optr b ver idx sub => match h.block b ver with | some _ => (bif Nat.blt 0 fi.size then .ok (.optr b ver idx (sub + f.offset)) h else .bad) | none => .bad
      | some fi, .rptr l => bif Nat.blt 0 fi.size then .ok (.rptr (l.drop f.offset)) h else .bad
      | _, _ => .bad
    | none => .bad
  | _ => .bad

def ev_field (s : TypeId) (x : Operand) (i : Nat) : Res :=
  match T s, ρ x with
  | some { desc := .struct fields, .. }, .agg l =>
    match nth? fields.toList i with
    | some f => match T f.type with
      | some fi => match ofCells fi.desc fi.size (l.drop f.offset) with | some v => .ok v h | none => .bad
      | none => .bad
    | none => .bad
  | _, _ => .bad

def ev_indexAddr (t : TypeId) (x i : Operand) : Res :=
  match T t, idxOf (ρ i) with
  | some { desc := .slice e, .. }, some n =>
    match T e, ρ x with
    | some ei, .rslice es len f => bif Nat.beq es ei.size then .need (0 ≤ n ∧ n < len) (.rptr (f n.toNat)) h else .bad
    | some ei, .oslice b ver off len _ =>
      match h.block b ver with
      | some k => bif Nat.beq k.es ei.size then .need (0 ≤ n ∧ n < len) (.optr b ver (off + n.toNat) 0) h else .bad
      | none => .bad
    | _, _ => .bad
  | some { desc := .array len e, .. }, some n =>
    match T e, ρ x with
    | some ei, .optr b ver idx sub => match h.block b ver with | some _ => .need (0 ≤ n ∧ n < len) (.optr b ver idx (sub + n.toNat * ei.size)) h | none => .bad
    | some ei, .rptr l => .need (0 ≤ n ∧ n < len) (.rptr (l.drop (n.toNat * ei.size))) h
    | _, _ => .bad
  | _, _ => .bad

def ev_index (t : TypeId) (x i : Operand) : Res :=
  match T t, ρ x, idxOf (ρ i) with
  | some { desc := .string, .. }, .val (.string s), some n => .need (0 ≤ n ∧ n < s.size) (.val (.int .u8 (s.data.toList.getD n.toNat 0).toNat)) h
  | _, _, _ => .bad

def ev_lookup (t : TypeId) (m i : Operand) (ok : Bool) : Res :=
  match T t, ρ i with
  | some { desc := .map kt et, .. }, .val key =>
    match keyKind T kt with
    | some ki =>
      bif (T et).isSome then
        match ρ m with
        | .omap b =>
          match nth? h.maps b with
          | some am => bif kindIs ki am.ki && keyIs ki key && Nat.beq et am.et then (bif ok then .ok (.tuple [am.get key, .val (.bool (am.has key))]) h else .ok (am.get key) h) else .bad
          | none => .bad
        | .rmap ki' et' has get => bif kindIs ki ki' && keyIs ki key && Nat.beq et et' then (bif ok then .ok (.tuple [get key, .val (.bool (has key))]) h else .ok (get key) h) else .bad
        | _ => .bad
      else .bad
    | _ => .bad
  | _, _ => .bad

def ev_extract (x : Operand) (i : Nat) : Res :=
  match ρ x with
  | .tuple l => match nth? l i with | some v => .ok v h | none => .bad
  | _ => .bad

def ev_nilCheck (x : Operand) : Res :=
  match ρ x with
  | .optr b ver i sub => match h.block b ver with | some _ => .ok (.optr b ver i sub) h | none => .bad
  | .rptr l => .ok (.rptr l) h
  | _ => .bad

def ev_call_len (args : Array Operand) (argTypes : Array TypeId) : Res :=
  match nth? argTypes.toList 0, nth? args.toList 0 with
  | some t, some x =>
    match T t, ρ x with
    | some { desc := .slice _, .. }, .eslice => .ok (.val (.int .i64 0)) h
    | some { desc := .slice _, .. }, .rslice _ len _ => .ok (.val (.int .i64 len)) h
    | some { desc := .slice _, .. }, .cslice _ len _ _ => .ok (.val (.int .i64 len)) h
    | some { desc := .slice _, .. }, .oslice b ver _ len _ => match h.block b ver with | some _ => .ok (.val (.int .i64 len)) h | none => .bad
    | some { desc := .string, .. }, .val (.string s) => .ok (.val (.int .i64 s.size)) h
    | some { desc := .array n _, .. }, _ => .ok (.val (.int .i64 n)) h
    | _, _ => .bad
  | _, _ => .bad

def ev_call_max (args : Array Operand) : Res :=
  match args.toList.map ρ with
  | [.val (.int k a), .val (.int _ b)] => .ok (.val (.int k (if b > a then b else a))) h
  | _ => .bad

def ev_call_min (args : Array Operand) : Res :=
  match args.toList.map ρ with
  | [.val (.int k a), .val (.int _ b)] => .ok (.val (.int k (if b < a then b else a))) h
  | _ => .bad

def ev_call_append (args : Array Operand) (argTypes : Array TypeId) : Res :=
  match argTypes.toList, args.toList.map ρ with
  | [t, t'], [s, x] =>
    match T t with
    | some { desc := .slice e, .. } =>
      match T e, (match T e with | some ei => bif Nat.beq t t' then elemsOf h ei.size x else none | none => none) with
      | some ei, some (m, fx) =>
        let fl := flatOf h x
        bif Nat.blt 0 ei.size then
          match s with
          | .eslice => .need (m * (ei.bytes + 1) ≤ 1000000000000) (.oslice h.blocks.length 0 0 m none) (h.addB { es := ei.size, len := m, f := fx, flat := fl })
          | .oslice b ver off len (some c) =>
            match h.block b ver with
            | some k => bif Nat.beq k.es ei.size then .need ((c < len + m ∨ m = 0 ∧ c = 0) ∧ (len + m) * (ei.bytes + 1) ≤ 1000000000000) (.oslice h.blocks.length 0 0 (len + m) none) (h.addB { es := ei.size, len := len + m, f := fun i => if i < len then k.f (off + i) else fx (i - len), flat := fl && k.flat }) else .bad
            | none => .bad
          | .cslice es len c f => bif Nat.beq es ei.size then .need (c < len + m ∧ (len + m) * (ei.bytes + 1) ≤ 1000000000000) (.oslice h.blocks.length 0 0 (len + m) none) (h.addB { es := ei.size, len := len + m, f := fun i => if i < len then f i else fx (i - len), flat := fl }) else .bad
          | .oslice b ver off len none =>
            match h.block b ver with
            | some k => bif Nat.beq k.es ei.size && !k.ro then .need ((len + m) * (ei.bytes + 1) ≤ 1000000000000) (.oslice b (ver + 1) 0 (len + m) none) (h.setB b (k.grow (len + m) (ver + 1) (fun f i => if i < len then f (off + i) else fx (i - len)) (fl && k.flat))) else .bad
            | none => .bad
          | _ => .bad
        else .bad
      | _, _ => .bad
    | _ => .bad
  | _, _ => .bad

def ev_call_value (f : Operand) (args : Array Operand) : Res :=
  match ρ f with
  | .func (.func g) nf cap => (fun l => .call g ((cap.take nf).map (fz h) ++ (args.toList.map fun x => fz h (ρ x)) ++ (cap.drop nf).map (fz h)) (l.flatMap (·.1)) (l.flatMap (·.2))) ((cap.take nf).map (refs h 5) ++ (args.toList.map fun x => refs h 5 (ρ x)) ++ (cap.drop nf).map (refs h 5))
  | .yld i => .yieldc i (args.toList.map ρ)
  | _ => .bad

def ev_mapUpdate (t : TypeId) (m i x : Operand) : Res :=
  match T t, ρ m, ρ i with
  | some { desc := .map kt _, .. }, .omap b, .val key =>
    match keyKind T kt with
    | some ki =>
      match nth? h.maps b with
      | some am => bif kindIs ki am.ki && keyIs ki key && AV.tree 4 (ρ x) && !am.ro then force1 (ρ x) fun x => .ok .top (h.setM b (am.wr (fun hs k => hs k || opEv.keyEq k key) fun gt k => bif opEv.keyEq k key then x else gt k)) else .bad
      | none => .bad
    | none => .bad
  | _, _, _ => .bad

def ev_callB (b : Builtin) (args : Array Operand) (argTypes : Array TypeId) : Res :=
  match b with
  | .len => ev_call_len T ρ h args argTypes
  | .max => ev_call_max ρ h args
  | .min => ev_call_min ρ h args
  | .append => ev_call_append T ρ h args argTypes
  | _ => .bad

def opEvF (o : Oper) : Res :=
  match o.op with
  | .move x => .ok (ρ x) h
  | .assign x => .ok (ρ x) h
  | .binOp op t x y _ => ev_binOp T ρ h op t x y
  | .pick c a b => ev_pick ρ h c a b
  | .alloc t => ev_alloc T h t
  | .box t x => ev_box T ρ h t x
  | .build t parts => ev_build T ρ h t parts
  | .buildSlice t len parts => ev_buildSlice T ρ h t len parts
  | .load t a => ev_load T ρ h t a
  | .store t a x => ev_store T ρ h t a x
  | .unOp op _ x => ev_unOp ρ h op x
  | .convert src dst x => ev_convert T ρ h src dst x
  | .makeFunc fn first captured => ev_makeFunc ρ h fn first captured
  | .makeSlice t l c => ev_makeSlice T ρ h t l c
  | .fieldAddr s x i => ev_fieldAddr T ρ h s x i
  | .field s x i => ev_field T ρ h s x i
  | .indexAddr t x i => ev_indexAddr T ρ h t x i
  | .index t x i => ev_index T ρ h t x i
  | .lookup t m i ok => ev_lookup T ρ h t m i ok
  | .extract x i => ev_extract ρ h x i
  | .nilCheck x => ev_nilCheck ρ h x
  | .mapUpdate t m i x => ev_mapUpdate T ρ h t m i x
  | .makeMap t none => ev_makeMap T h t
  | .slice t x lo hi none => ev_slice T ρ h t x lo hi
  | .slice t x lo hi (some mx) => ev_slice3 T ρ h t x lo hi mx
  | .call c => match c.callee with
    | .value f => ev_call_value ρ h f c.args
    | .builtin b => ev_callB T ρ h b c.args c.argTypes
    | .invoke .. => .bad
  | _ => .bad
end

theorem opEvF_eq (T : Nat → Option TI) (ρ : Operand → AV) (h : Hp) (o : Oper) : opEvF T ρ h o = opEv T o ρ h := by
  unfold opEvF opEv
  cases o.op <;> try rfl
  case call c =>
    obtain ⟨callee, args, ts⟩ := c
    cases callee <;> try rfl
    case builtin b => cases b <;> rfl
  case makeMap t r => cases r <;> rfl
  case slice t x lo hi mx => cases mx <;> rfl
end Go.Tr

/- An evaluator for closed runs: where it answers, the contract holds. Conditions: the program's rules take any order. -/
namespace Go.Tr
open Go Go.RowKit

/-! ### Values made plain before they are used again -/

def forceN {α : Type} : Nat → (Nat → α) → α
  | 0, k => k 0
  | n + 1, k => k (n + 1)
def forceI {α : Type} : Int → (Int → α) → α
  | .ofNat n, k => forceN n fun n => k (.ofNat n)
  | .negSucc n, k => forceN n fun n => k (.negSucc n)
theorem forceN_eq {α : Type} (n : Nat) (k : Nat → α) : forceN n k = k n := by cases n <;> rfl
theorem forceI_eq {α : Type} (n : Int) (k : Int → α) : forceI n k = k n := by cases n <;> simp [forceI, forceN_eq]

mutual
def hard {α : Type} : Nat → AV → (AV → α) → α
  | 0, x, k => k x
  | d + 1, x, k => match x with
    | .val (.int kd n) => forceI n fun n => k (.val (.int kd n))
    | .val (.bool true) => k (.val (.bool true))
    | .val (.bool false) => k (.val (.bool false))
    | .agg l => hardL d l fun l => k (.agg l)
    | .tuple l => hardL d l fun l => k (.tuple l)
    | .func fn nf l => forceN nf fun nf => hardL d l fun l => k (.func fn nf l)
    | .rptr l => hardL d l fun l => k (.rptr l)
    | .optr b ver idx sub => forceN b fun b => forceN ver fun ver => forceN idx fun idx => forceN sub fun sub => k (.optr b ver idx sub)
    | .oslice b ver off len none => forceN b fun b => forceN ver fun ver => forceN off fun off => forceN len fun len => k (.oslice b ver off len none)
    | .oslice b ver off len (some c) => forceN b fun b => forceN ver fun ver => forceN off fun off => forceN len fun len => forceN c fun c => k (.oslice b ver off len (some c))
    | x => k x
def hardL {α : Type} : Nat → List AV → (List AV → α) → α
  | 0, l, k => k l
  | _ + 1, [], k => k []
  | d + 1, x :: r, k => hard d x fun x => hardL d r fun r => k (x :: r)
end

mutual
theorem hard_eq {α : Type} : ∀ (d : Nat) (x : AV) (k : AV → α), hard d x k = k x
  | 0, x, k => by simp [hard]
  | d + 1, x, k => by
    unfold hard
    split <;> simp [forceI_eq, forceN_eq, hardL_eq d]
theorem hardL_eq {α : Type} : ∀ (d : Nat) (l : List AV) (k : List AV → α), hardL d l k = k l
  | 0, l, k => by simp [hardL]
  | _ + 1, [], k => by simp [hardL]
  | d + 1, x :: r, k => by simp [hardL, hard_eq d, hardL_eq d]
end

/-! ### The evaluator -/

/-- A yield, a function in place, as they are run. -/
abbrev YF := Nat → Nat → List AV → St → Option (Bool × St)
abbrev IF := YF → FuncId → List AV → Nat → St → Option (AV × St)
def noYF : YF := fun _ _ _ _ => none

def forceTm {α : Type} : List (Nat × AV) → (List (Nat × AV) → α) → α
  | [], k => k []
  | (t, x) :: r, k => forceN t fun t => hard 12 x fun x => forceTm r fun r => k ((t, x) :: r)

/-- The pairs of operations of a region that draws which need a gate. -/
def glOf (ops : Array Oper) : List (Nat × Nat) :=
  let bf := befores ops.toList []
  (List.range ops.size).flatMap fun j => (List.range j).filterMap fun i =>
    match nth? ops.toList i, nth? ops.toList j with
    | some x, some y => bif pairOk [] ops bf i j x y then none else some (i, j)
    | _, _ => none

section
variable (T : Nat → Option TI) (F : FuncId → List AV → Option (AV × Bool)) (I : IF)

def evOp (Y : YF) (n : Nat) (o : Oper) (s : St) : Option (AV × St) :=
  match opEvF T s.eval s.hp o with
  | .bad => none
  | .ok v h => some (v, { s with hp := h })
  | @Res.need p d v h => match @decide p d with | true => some (v, { s with hp := h }) | false => none
  | .upd h b k g fl => some (.top, { s with hp := h.setB b (k.wr g fl) })
  | @Res.anyB p d b h => match @decide p d with | true => some (.val (.bool b), { s with hp := h }) | false => none
  | .call f args bs ms =>
    match o.op with
    | .call { callee := .value _, .. } =>
      match F f args with
      | some (r, true) => match adopt r s.hp.blocks.length with | (v, ks) => some (v, { s with hp := { s.hp with blocks := s.hp.blocks ++ ks } })
      | some (r, false) => some (r, { s with hp := { s.hp with blocks := roB bs 0 s.hp.blocks, maps := roM ms 0 s.hp.maps } })
      | none =>
        match I noYF f (rawArgs o s.eval) n s with
        | some (v, s') => some (v, { s' with hp := { s'.hp with jump := s.hp.jump } })
        | none => none
    | _ => none
  | .yieldc i args =>
    match o.op with
    | .call { callee := .value _, .. } =>
      match Y i n args s with
      | some (true, s') => some (.val (.bool true), s')
      | some (false, s') => some (.val (.bool false), s')
      | none => none
    | _ => none

def evOne (Y : YF) (n : Nat) (st : (Operand → AV) → Option Bool) (o : Oper) (s : St) : Option St :=
  match st s.eval with
  | none => none
  | some b =>
  match slotOk n o.dst && (b || !isEff o s.eval) with
  | true => match evOp T F I Y n o s with
    | some (v, s') => hard 12 v fun v => some (s'.put o.dst v)
    | none => none
  | false => none

def evOps (Y : YF) (n : Nat) (st : Nat → (Operand → AV) → Option Bool) (ops : Array Oper) : Nat → List Oper → St → Option St
  | _, [], s => some s
  | i, o :: r, s =>
    match o.guard with
    | none => match evOne T F I Y n (st i) o s with | some s' => evOps Y n st ops (i + 1) r s' | none => none
    | some (j, want) =>
      match (nth? ops.toList j).bind (·.dst) with
      | none => none
      | some t =>
        match look s.tm t with
        | .val (.bool b) =>
          match b, want with
          | true, true => match evOne T F I Y n (st i) o (s.put (some t) (.val (.bool true))) with | some s' => evOps Y n st ops (i + 1) r s' | none => none
          | false, false => match evOne T F I Y n (st i) o (s.put (some t) (.val (.bool false))) with | some s' => evOps Y n st ops (i + 1) r s' | none => none
          | true, false => evOps Y n st ops (i + 1) r ((s.put (some t) (.val (.bool true))).put o.dst (.val undef))
          | false, true => evOps Y n st ops (i + 1) r ((s.put (some t) (.val (.bool false))).put o.dst (.val undef))
        | .val (.tuple _) => evOps Y n st ops (i + 1) r (s.put o.dst (.val undef))
        | _ => none

def evLoop (body : St → Option (Ex × St)) (tidy : St → St) : Nat → St → Option (Ex × St)
  | 0, _ => none
  | m + 1, s => match body s with
    | some (.normal, s') => evLoop body tidy m (match m % 16 with | 0 => tidy s' | _ => s')
    | x => x

end

def noI : IF := fun _ _ _ _ _ => none
def gateF (gl : List (Nat × Nat)) (ops : Array Oper) : Nat → (Operand → AV) → Option Bool :=
  match gl with
  | [] => fun j _ => some (effAt ops j)
  | _ => gateSt gl ops

/-- A round. -/
def evRound (assign body : St → Option (Ex × St)) (ny n : Nat) (ps : List Tmp) : YF := fun i m args s1 =>
  bif Nat.beq i ny && Nat.beq args.length ps.length && s1.hp.jump.isNone && ps.all (fun t => Nat.blt t n) then
    forceTm (popTm n s1.sv) fun tm => forceTm (pushSv m s1.tm s1.sv) fun sv =>
    match assign (bindP (ps.zip args) { tm, hp := s1.hp, sv }) with
    | some (.normal, s2) =>
      match body s2 with
      | some (.normal, s3) => forceTm (popTm m s3.sv) fun tm => forceTm (popSv m s3.sv) fun sv => some (true, { tm, hp := { s3.hp with jump := none }, sv })
      | some (e, s3) => forceTm (popTm m s3.sv) fun tm => forceTm (popSv m s3.sv) fun sv => some (false, { tm, hp := { s3.hp with jump := some e }, sv })
      | none => none
    | _ => none
  else none

def evC (T : Nat → Option TI) (F : FuncId → List AV → Option (AV × Bool)) (I : IF) (tidy : St → St) (n L : Nat) : Code → YF → Bool → St → Option (Ex × St)
  | .skip, _, _, s => some (.normal, s)
  | .seq a b, Y, k, s => match evC T F I tidy n L a Y k s with | some (.normal, s') => evC T F I tidy n L b Y k s' | x => x
  | .cond x a b, Y, k, s =>
    match x, s.eval x with
    | .tmp _, .val (.bool true) => evC T F I tidy n L a Y k s
    | .tmp _, .val (.bool false) => evC T F I tidy n L b Y k s
    | .const (.bool true), _ => evC T F I tidy n L a Y k s
    | .const (.bool false), _ => evC T F I tidy n L b Y k s
    | _, _ => none
  | .block id c, Y, k, s => match evC T F I tidy n L c Y k s with
    | some (.exit i, s') => bif Nat.beq i id then some (.normal, s') else some (.exit i, s')
    | x => x
  | .loop c, Y, k, s => evLoop (fun s => evC T F I tidy n L c Y k s) tidy L s
  | .exit id, _, _, s => some (.exit id, s)
  | .ret, _, _, s => some (.ret, s)
  | .region _ ops draw, Y, _, s => match draw with
    | true => match glOf ops with
      | gl => bif drawOk gl ops then (match evOps T F noI noYF n (gateF gl ops) ops 0 ops.toList s with | some s' => some (.normal, s') | none => none) else none
    | false => match evOps T F I Y n (fun _ _ => some true) ops 0 ops.toList s with | some s' => some (.normal, s') | none => none
  | .rangeFunc g ps assign body, _, k, s =>
    match k, s.eval g with
    | true, .func (.func f) nf cap =>
      match I (evRound (fun s => evC T F I tidy n L assign noYF false s) (fun s => evC T F I tidy n L body noYF false s) s.hp.ny n ps.toList) f (cap.take nf ++ .yld s.hp.ny :: cap.drop nf) n { s with hp := { s.hp with jump := none, ny := s.hp.ny + 1 } } with
      | some (_, s') => match s'.hp.jump with
        | none => some (.normal, { s' with hp := { s'.hp with jump := s.hp.jump } })
        | some e => some (e, { s' with hp := { s'.hp with jump := s.hp.jump } })
      | none => none
    | _, _ => none
  | _, _, _, _ => none

section
variable (T : Nat → Option TI)

def solid : Nat → AV → AV
  | 0, x => x
  | _ + 1, .rslice es len f => hardRows ((List.range len).map f) fun l => .rslice es len fun i => (nth? l i).getD []
  | n + 1, .agg l => .agg (l.map (solid n))
  | n + 1, .tuple l => .tuple (l.map (solid n))
  | _ + 1, x => x
where
  hardRows {α : Type} : List (List AV) → (List (List AV) → α) → α
    | [], k => k []
    | x :: r, k => hardL 12 x fun x => hardRows r fun r => k (x :: r)

def deep : Nat → AV → Bool
  | 0, _ => false
  | n + 1, .agg l => l.all (deep n)
  | n + 1, .tuple l => l.all (deep n)
  | _ + 1, _ => true

def isVal : AV → Bool
  | .val _ => true
  | _ => false

def plainB : List AV → Bool
  | [] => true
  | .rslice _ len g :: r => ((List.range len).all fun i => (g i).all isVal) && plainB r
  | _ :: r => plainB r

def evR (fn : Func) (s : St) : Option (AV × Bool) :=
  match resAV T s fn.results.toList with
  | none => none
  | some l => bif deep 5 (fz s.hp (oneOf l)) then
      hard 12 (solid 5 (fz s.hp (oneOf l))) fun z => some (z, ownB s.hp (leaves (oneOf l)) [] && plainB (leaves z))
    else none
end

/-- Slots and blocks laid out anew. -/
def tidyTm (n : Nat) (tm : List (Nat × AV)) : List (Nat × AV) := go n 0
where
  go : Nat → Nat → List (Nat × AV)
    | 0, _ => []
    | k + 1, t => (match look tm t with | .top => go k (t + 1) | x => (t, x) :: go k (t + 1))

def tidyB (k : AB) : AB := bif Nat.ble k.len 64 then solid.hardRows ((List.range k.len).map k.f) fun l => { k with f := fun i => (nth? l i).getD [] } else k

def forceBs : List AB → (List AB → St) → St
  | [], k => k []
  | x :: r, k => match x with
    | ⟨es, len, f, ver, ro, flat, one⟩ => forceBs r fun r => k (⟨es, len, f, ver, ro, flat, one⟩ :: r)

def tidy (n : Nat) (s : St) : St :=
  forceTm (tidyTm n s.tm) fun tm => forceBs (s.hp.blocks.map tidyB) fun bs => { s with tm, hp := { s.hp with blocks := bs } }

/-- The body of a function, run. G: contracts that are known. -/
def evD (P : Program) (G : FuncId → List AV → Option (AV × Bool)) (L : Nat) : Nat → YF → FuncId → List (Nat × AV) → List AV → Hp → Option (St × Func)
  | 0, _, _, _, _, _ => none
  | d + 1, Y, f, sv, args, hp =>
    match P.funcs[f]? with
    | some fn =>
      match fn.body with
      | some c =>
        bif !(fn.name == "runtime.NumGoroutine") && Nat.ble args.length fn.ntmps then
          match evC (TP P)
              (fun f args => match G f args with
                | some x => some x
                | none => match evD P G L d noYF f [] args ⟨[], [], none, 0⟩ with | some (s, fn) => evR (TP P) fn s | none => none)
              (fun Y f args n s => forceTm (pushSv n s.tm s.sv) fun sv => match evD P G L d Y f sv args s.hp with
                | some (s', fn) => match resAV (TP P) s' fn.results.toList with
                  | some l => forceTm (popTm n s'.sv) fun tm => forceTm (popSv n s'.sv) fun sv => some (oneOf l, { tm, hp := s'.hp, sv })
                  | none => none
                | none => none)
              (tidy fn.ntmps) fn.ntmps L c Y true { tm := start args 0, hp, sv } with
          | some (.normal, s) => some (s, fn)
          | some (.ret, s) => some (s, fn)
          | _ => none
        else none
      | none => none
    | none => none

/-- A function, run. -/
def evF (P : Program) (G : FuncId → List AV → Option (AV × Bool)) (L d : Nat) (f : FuncId) (args : List AV) : Option (AV × Bool) :=
  match G f args with
  | some x => some x
  | none => match evD P G L d noYF f [] args ⟨[], [], none, 0⟩ with
    | some (s, fn) => evR (TP P) fn s
    | none => none

/-! ### It tells the truth -/

theorem forceTm_eq {α : Type} : ∀ (l : List (Nat × AV)) (k : List (Nat × AV) → α), forceTm l k = k l
  | [], k => rfl
  | (t, x) :: r, k => by simp [forceTm, forceN_eq, hard_eq, forceTm_eq r]

/-- What a run yield says of a yield. -/
def YRel (Y : YF) (YR : YT) : Prop := ∀ i m args s b s', Y i m args s = some (b, s') → ∀ K : Bool → St → Prop, K b s' → YR i m args s K
theorem noYF_rel (YR : YT) : YRel noYF YR := fun _ _ _ _ _ _ h => by cases h

def IRel (I : IF) : YT → FuncId → List AV → Nat → St → (AV → St → Prop) → Prop := fun YR f args n s K => ∃ Y, YRel Y YR ∧ ∃ r s', I Y f args n s = some (r, s') ∧ K r s'

section
variable {P : Program} {T : Nat → Option TI} {F : FuncId → List AV → Option (AV × Bool)} {I : IF}

/-- The environment of a run. -/
def evEnv (F : FuncId → List AV → Option (AV × Bool)) (I : IF) (YR : YT) (k : Bool) : Env := { S := fun f args r fr => F f args = some (r, fr), I := IRel I, Y := YR, rok := k, any := false }

theorem evOp_ok {Y : YF} {YR : YT} (hY : YRel Y YR) {k : Bool} {n : Nat} {o : Oper} {s s' : St} {v : AV} (he : evOp T F I Y n o s = some (v, s')) {K : AV → St → Prop} (hK : K v s') : opW (evEnv F I YR k) T n o s K := by
  unfold evOp at he
  rw [opEvF_eq] at he
  unfold opW
  split at he
  · cases he
  · rename_i v' h' hev
    rw [hev]
    cases he
    exact hK
  · rename_i p d v' h' hev
    rw [hev]
    simp only
    split at he
    · rename_i hd
      cases he
      exact ⟨of_decide_eq_true hd, hK⟩
    · cases he
  · rename_i h0 b k g fl hev
    rw [hev]
    simp only
    cases he
    exact ⟨g, fun _ _ => rfl, hK⟩
  · rename_i p d b' h' hev
    rw [hev]
    simp only
    split at he
    · rename_i hd
      cases he
      exact ⟨of_decide_eq_true hd, hK⟩
    · cases he
  · rename_i f args bs ms hev
    rw [hev]
    simp only
    split at he
    · rename_i fo gs ts hop
      simp only [hop]
      split at he
      · rename_i r hr
        split at he
        rename_i v' ks hks
        cases he
        exact .inl ⟨r, true, hr, by simp only; rw [hks]; exact hK⟩
      · rename_i r hr
        cases he
        exact .inl ⟨_, false, hr, hK⟩
      · split at he
        · rename_i v' s1 hi
          cases he
          exact .inr ⟨noYF, noYF_rel _, _, _, hi, hK⟩
        · cases he
    · cases he
  · rename_i i args hev
    rw [hev]
    simp only
    split at he
    · rename_i fo gs ts hop
      simp only [hop]
      split at he
      · rename_i s1 hy
        cases he
        exact hY _ _ _ _ _ _ hy _ hK
      · rename_i s1 hy
        cases he
        exact hY _ _ _ _ _ _ hy _ hK
      · cases he
    · cases he

theorem evOne_ok {Y : YF} {YR : YT} (hY : YRel Y YR) {k : Bool} {n : Nat} {st : (Operand → AV) → Option Bool} {o : Oper} {s s' : St} (he : evOne T F I Y n st o s = some s') {K : St → Prop} (hK : K s') : oneW (evEnv F I YR k) T n st o s K := by
  unfold evOne at he
  unfold oneW
  simp only [putF_eq]
  split at he
  · cases he
  rename_i b hb
  rw [hb]
  simp only
  split at he
  · rename_i hs
    rw [hs]
    split at he
    · rename_i v h hev
      rw [hard_eq] at he
      cases he
      exact evOp_ok hY hev hK
    · cases he
  · cases he

theorem evOps_ok {Y : YF} {YR : YT} (hY : YRel Y YR) {k : Bool} {n : Nat} {st : Nat → (Operand → AV) → Option Bool} {ops : Array Oper} {K : St → Prop} : ∀ (l : List Oper) (i : Nat) (s s' : St), evOps T F I Y n st ops i l s = some s' → K s' → opsW (evEnv F I YR k) T n st ops K i l s
  | [], i, s, s', he, hK => by simp only [evOps] at he; cases he; exact hK
  | o :: r, i, s, s', he, hK => by
    unfold evOps at he
    unfold opsW
    simp only [putF_eq]
    have go : ∀ s, (match evOne T F I Y n (st i) o s with | some s' => evOps T F I Y n st ops (i + 1) r s' | none => none) = some s' → oneW (evEnv F I YR k) T n (st i) o s (opsW (evEnv F I YR k) T n st ops K (i + 1) r) := fun s h => by
      split at h
      · rename_i s1 h1
        exact evOne_ok hY h1 (evOps_ok hY r (i + 1) s1 s' h hK)
      · cases h
    split at he
    · rename_i hg
      simp only [hg]
      exact go s he
    · rename_i j want hg
      split at he
      · cases he
      · rename_i t ht
        split at he
        · rename_i b hl
          split at he
          · simp only [hg, ht, hl, ifB]; exact go _ he
          · simp only [hg, ht, hl, ifB]; exact go _ he
          · simp only [hg, ht, hl, ifB]; exact evOps_ok hY r (i + 1) _ s' he hK
          · simp only [hg, ht, hl, ifB]; exact evOps_ok hY r (i + 1) _ s' he hK
        · rename_i vs hl
          simp only [hg, ht, hl]
          exact evOps_ok hY r (i + 1) _ s' he hK
        · cases he

theorem SR.look_eq {F : Fr} {w0 w : World} {q : Nat → Prop} {s s' : St} {a : Act} {c : Cx} (h : SR P F w0 q s a w c) (ht : ∀ t, look s'.tm t = look s.tm t ∨ look s'.tm t = .top) (hh : s'.hp = s.hp) (hsv : s'.sv = s.sv) : SR P F w0 q s' a w c :=
  ⟨by rw [hh, hsv]; exact h.toHS, fun t => by rcases ht t with g | g <;> rw [g]; exact h.tm t; exact .tree (.top _), h.size, h.defers⟩

theorem evLoop_ok {Fm : Fr} {w0 : World} {q : Nat → Prop} {cd : Code} {body : St → Option (Ex × St)} {tidy : St → St} (ht : ∀ s a w c, SR P Fm w0 q s a w c → SR P Fm w0 q (tidy s) a w c)
    (hb : ∀ e s s', body s = some (e, s') → ∀ (Q : Exit → Act → World → Prop) a w c, SR P Fm w0 q s a w c → (∀ a' w' c', SR P Fm w0 q s' a' w' c' → Q (toExit e) a' w') → cd.wpIn (FR Fm.r) 0 P Q a w)
    {m : Nat} {s s' : St} {e : Ex} (he : evLoop body tidy m s = some (e, s')) (Q : Exit → Act → World → Prop) (a : Act) (w : World) (c : Cx) (h : SR P Fm w0 q s a w c) (hQ : ∀ a' w' c', SR P Fm w0 q s' a' w' c' → Q (toExit e) a' w') : (Code.loop cd).wpIn (FR Fm.r) 0 P Q a w := by
  refine wp_loop_rel (fun m a w => ∃ s0 c0, evLoop body tidy m s0 = some (e, s') ∧ SR P Fm w0 q s0 a w c0) (m := m) ⟨s, c, he, h⟩ ?_
  rintro m a w ⟨s0, c0, h0, hs0⟩
  cases m with
  | zero => cases h0
  | succ m =>
    unfold evLoop at h0
    split at h0
    · rename_i s1 hs1
      refine hb .normal s0 s1 hs1 _ a w c0 hs0 fun a' w' c' h' => ⟨m, by omega, _, c', h0, ?_⟩
      split
      · exact ht _ _ _ _ h'
      · exact h'
    · rename_i x hx
      refine hb e s0 s' h0 _ a w c0 hs0 fun a' w' c' h' => ?_
      have := hQ a' w' c' h'
      cases e with
      | normal => exact absurd h0 (hx s')
      | exit id => exact this
      | ret => exact this

theorem gateF_eq (gl : List (Nat × Nat)) (ops : Array Oper) : gateF gl ops = gateSt gl ops := by
  unfold gateF
  cases gl with
  | nil => funext j ρ; rfl
  | cons p r => rfl

theorem evC_ok (hT : TOK P T) (hD : DrawnOk P T) (hF : ∀ f args r fr, F f args = some (r, fr) → Sound1 P f args r fr) (hI : IOk P (IRel I)) {n L : Nat} {w0 : World} {q : Nat → Prop} {tidy : St → St} (ht : ∀ (Fm : Fr) s a w c, SR P Fm w0 q s a w c → SR P Fm w0 q (tidy s) a w c) :
    ∀ (cd : Code) (Fm : Fr) (_ : Fm.n = n) (Y : YF) (YR : YT) (_ : YRel Y YR) (_ : YR = noY ∨ (Fm.r = none ∧ YOk P Fm.X Fm.G Fm.rc w0 q YR)) (k : Bool) (_ : k = true → Fm.r = none) (e : Ex) (s s' : St), evC T F I tidy n L cd Y k s = some (e, s') →
    ∀ (Q : Exit → Act → World → Prop) a w c, SR P Fm w0 q s a w c → (∀ a' w' c', SR P Fm w0 q s' a' w' c' → Q (toExit e) a' w') → cd.wpIn (FR Fm.r) 0 P Q a w := by
  intro cd
  induction cd with
  | skip => intro Fm hn Y YR hY hYo k hk e s s' he Q a w c h hQ; simp only [evC] at he; cases he; exact wpIn_skip (hQ a w c h)
  | ret => intro Fm hn Y YR hY hYo k hk e s s' he Q a w c h hQ; simp only [evC] at he; cases he; exact wpIn_ret (hQ a w c h)
  | exit id => intro Fm hn Y YR hY hYo k hk e s s' he Q a w c h hQ; simp only [evC] at he; cases he; exact wpIn_exit (hQ a w c h)
  | seq x y ihx ihy =>
    intro Fm hn Y YR hY hYo k hk e s s' he Q a w c h hQ
    simp only [evC] at he
    split at he
    · rename_i s1 h1
      exact wpIn_seq (ihx Fm hn Y YR hY hYo k hk .normal s s1 h1 _ a w c h fun a' w' c' h' => ihy Fm hn Y YR hY hYo k hk e s1 s' he Q a' w' c' h' hQ)
    · rename_i hx
      refine wpIn_seq (ihx Fm hn Y YR hY hYo k hk e s s' he _ a w c h fun a' w' c' h' => ?_)
      have := hQ a' w' c' h'
      cases e with
      | normal => exact absurd he (hx s')
      | exit id => exact this
      | ret => exact this
  | cond x t e iht ihe =>
    intro Fm hn Y YR hY hYo k hk ex s s' he Q a w c h hQ
    simp only [evC] at he
    split at he
    · rename_i t' hl
      have hv : VR P w c (look s.tm t') (a.tmps.getD t' undef) := h.tm t'
      rw [show look s.tm t' = .val (.bool true) from hl] at hv
      exact wpIn_cond_true (show a.eval (.tmp t') = .bool true from hv.val_inv) (iht Fm hn Y YR hY hYo k hk ex s s' he Q a w c h hQ)
    · rename_i t' hl
      have hv : VR P w c (look s.tm t') (a.tmps.getD t' undef) := h.tm t'
      rw [show look s.tm t' = .val (.bool false) from hl] at hv
      exact wpIn_cond_false (show a.eval (.tmp t') = .bool false from hv.val_inv) (ihe Fm hn Y YR hY hYo k hk ex s s' he Q a w c h hQ)
    · exact wpIn_cond_true rfl (iht Fm hn Y YR hY hYo k hk ex s s' he Q a w c h hQ)
    · exact wpIn_cond_false rfl (ihe Fm hn Y YR hY hYo k hk ex s s' he Q a w c h hQ)
    · cases he
  | block id x ih =>
    intro Fm hn Y YR hY hYo k hk e s s' he Q a w c h hQ
    simp only [evC] at he
    split at he
    · rename_i i s1 h1
      refine wpIn_block (ih Fm hn Y YR hY hYo k hk (.exit i) s s1 h1 _ a w c h fun a' w' c' h' => ?_)
      cases hb : Nat.beq i id with
      | true =>
        rw [hb] at he
        cases he
        have := Nat.eq_of_beq_eq_true hb
        subst this
        simp only [toExit, Exit.inBlock, if_true]
        exact hQ a' w' c' h'
      | false =>
        rw [hb] at he
        cases he
        have hne : i ≠ id := fun e => by subst e; simp at hb
        simp only [toExit, Exit.inBlock, if_neg hne]
        exact hQ a' w' c' h'
    · rename_i hx
      refine wpIn_block (ih Fm hn Y YR hY hYo k hk e s s' he _ a w c h fun a' w' c' h' => ?_)
      have := hQ a' w' c' h'
      cases e with
      | normal => exact this
      | exit id => exact absurd he (hx id s')
      | ret => exact this
  | loop x ih =>
    intro Fm hn Y YR hY hYo k hk e s s' he Q a w c h hQ
    simp only [evC] at he
    exact evLoop_ok (ht Fm) (fun e s s' he => ih Fm hn Y YR hY hYo k hk e s s' he) he Q a w c h hQ
  | region id ops draw =>
    intro Fm hn Y YR hY hYo k hk e s s' he Q a w c h hQ
    simp only [evC] at he
    split at he
    · generalize hgl : glOf ops = gl at he
      cases hd : drawOk gl ops with
      | false => rw [hd] at he; cases he
      | true =>
        rw [hd, cond_true] at he
        split at he
        · rename_i s1 h1
          cases he
          rw [gateF_eq] at h1
          have h2 := evOps_ok (k := k) (YR := noY) (noYF_rel _) (K := fun x => x = s') ops.toList 0 s s' h1 rfl
          rw [← hn] at h2
          have hpl : (evEnv F noI noY k).plain = { evEnv F noI noY k with I := fun _ _ _ _ _ _ => False, Y := noY } := rfl
          have hev : opsW (evEnv F noI noY k).plain T Fm.n (gateSt gl ops) ops (fun x => x = s') 0 ops.toList s := by
            have hI0 : (evEnv F noI noY k) = (evEnv F noI noY k).plain := by
              have : IRel noI = fun _ _ _ _ _ _ => False := by
                funext YR f args n s K
                refine propext ⟨fun ⟨Y, _, r, s', h, _⟩ => (by cases h), fun h => h.elim⟩
              unfold evEnv Env.plain
              rw [this]
            rw [← hI0]
            exact h2
          exact hD Fm (evEnv F noI noY k) w0 q id ops (fun x => x = s') Q s a w c gl hF hd (fun s2 a' w' c' h' e => hQ a' w' c' (e ▸ h')) h hev
        · cases he
    · split at he
      · rename_i s1 h1
        cases he
        refine wpIn_region ?_
        have h2 := evOps_ok (k := k) hY (K := fun x => x = s') ops.toList 0 s s' h1 rfl
        rw [← hn] at h2
        have := ops_ok hT (E := evEnv F I YR k) ⟨hF, hI, hYo, hk⟩ (Q := Q) (K := fun x => x = s') (fun s2 a' w' c' h' e => hQ a' w' c' (e ▸ h')) ops.toList 0 s a w c rfl h h2
        rwa [← List.range_eq_range', Array.length_toList] at this
      · cases he
  | rangeFunc g ps assign body iha ihb =>
    intro Fm hn Y YR hY hYo k hk e s s' he Q a w c h hQ
    simp only [evC] at he
    split at he
    · rename_i f nf cap hg
      subst hn
      have hWA : ∀ F2 : Fr, F2.n = Fm.n → F2.rc = none → F2.r ≠ none → ∀ (Q' : Ex → St → Prop) (Q : Exit → Act → World → Prop) (s : St) (a : Act) (w : World) (c : Cx), (∀ e s' a' w' c', SR P F2 w0 q s' a' w' c' → Q' e s' → Q (toExit e) a' w') → SR P F2 w0 q s a w c → (∃ e s', evC T F I tidy Fm.n L assign noYF false s = some (e, s') ∧ Q' e s') → assign.wpIn (FR F2.r) 0 P Q a w :=
        fun F2 e1 _ _ Q' Q s a w c hQ h ⟨e, s', he, hq⟩ => iha F2 e1 noYF noY (noYF_rel _) (.inl rfl) false (fun hf => by cases hf) e s s' he Q a w c h fun a' w' c' h' => hQ e s' a' w' c' h' hq
      have hWB : ∀ F2 : Fr, F2.n = Fm.n → F2.rc = none → F2.r ≠ none → ∀ (Q' : Ex → St → Prop) (Q : Exit → Act → World → Prop) (s : St) (a : Act) (w : World) (c : Cx), (∀ e s' a' w' c', SR P F2 w0 q s' a' w' c' → Q' e s' → Q (toExit e) a' w') → SR P F2 w0 q s a w c → (∃ e s', evC T F I tidy Fm.n L body noYF false s = some (e, s') ∧ Q' e s') → body.wpIn (FR F2.r) 0 P Q a w :=
        fun F2 e1 _ _ Q' Q s a w c hQ h ⟨e, s', he, hq⟩ => ihb F2 e1 noYF noY (noYF_rel _) (.inl rfl) false (fun hf => by cases hf) e s s' he Q a w c h fun a' w' c' h' => hQ e s' a' w' c' h' hq
      refine range_ok hI (hk rfl) (WA := fun Q s => ∃ e s', evC T F I tidy Fm.n L assign noYF false s = some (e, s') ∧ Q e s') (WB := fun Q s => ∃ e s', evC T F I tidy Fm.n L body noYF false s = some (e, s') ∧ Q e s') hWA hWB
        (Q' := fun e2 s2 => e2 = e ∧ s2 = s') (fun e2 s2 a' w' c' h' hq => by obtain ⟨rfl, rfl⟩ := hq; exact hQ a' w' c' h') h hg ?_
      refine ⟨evRound (fun s => evC T F I tidy Fm.n L assign noYF false s) (fun s => evC T F I tidy Fm.n L body noYF false s) s.hp.ny Fm.n ps.toList, ?_, ?_⟩
      · intro i m args s1 b s2 hr K hK
        unfold evRound at hr
        cases hc : (Nat.beq i s.hp.ny && Nat.beq args.length ps.toList.length && s1.hp.jump.isNone && ps.toList.all (fun t => Nat.blt t Fm.n)) with
        | false => rw [hc] at hr; cases hr
        | true =>
          rw [hc, cond_true] at hr
          refine ⟨rfl, ?_⟩
          rw [forceTm_eq, forceTm_eq] at hr
          split at hr
          · rename_i s3 h3
            refine ⟨_, _, h3, ?_⟩
            simp only
            split at hr
            · rename_i s4 h4
              rw [forceTm_eq, forceTm_eq] at hr
              cases hr
              exact ⟨_, _, h4, hK⟩
            · rename_i e4 s4 hne h4
              rw [forceTm_eq, forceTm_eq] at hr
              cases hr
              refine ⟨_, _, h4, ?_⟩
              cases e4 with
              | normal => exact absurd rfl (hne ·)
              | exit id => exact hK
              | ret => exact hK
            · cases hr
          · cases hr
      · split at he
        · rename_i v s2 h2
          refine ⟨v, s2, h2, ?_⟩
          split at he
          · rename_i hj
            cases he
            rw [hj]
            exact ⟨rfl, rfl⟩
          · rename_i e2 hj
            cases he
            rw [hj]
            exact ⟨rfl, rfl⟩
        · cases he
    · cases he
  | _ => intro Fm hn Y YR hY hYo k hk e s s' he; simp [evC] at he

theorem hardRows_eq {α : Type} : ∀ (l : List (List AV)) (k : List (List AV) → α), solid.hardRows l k = k l
  | [], k => rfl
  | x :: r, k => by simp [solid.hardRows, hardL_eq, hardRows_eq r]

theorem solid_ok : ∀ (k : Nat) (x : AV), deep k x = true → AVE k x (solid k x)
  | 0, x, h => by simp [deep] at h
  | k + 1, x, h => by
    have sub : ∀ (l : List AV), l.all (deep k) = true → l.length = (l.map (solid k)).length ∧ ∀ i x y, nth? l i = some x → nth? (l.map (solid k)) i = some y → AVE k x y := fun l hl => by
      refine ⟨by simp, fun i x y hx hy => ?_⟩
      rw [nth?_eq] at hx hy
      rw [List.getElem?_map, hx] at hy
      cases hy
      exact solid_ok k x (List.all_eq_true.1 hl x (List.mem_of_getElem? hx))
    cases x with
    | rslice es len f =>
      simp only [solid, hardRows_eq, AVE]
      refine ⟨trivial, trivial, fun i hi => ?_⟩
      rw [nth?_eq]
      simp [hi]
    | agg l => simp only [solid, AVE]; simp only [deep] at h; exact sub l h
    | tuple l => simp only [solid, AVE]; simp only [deep] at h; exact sub l h
    | _ => simp [solid, AVE]

theorem isVal_ok {x : AV} (h : isVal x = true) : ∃ v, x = .val v := by
  cases x <;> first | exact ⟨_, rfl⟩ | simp [isVal] at h

theorem plain_ok : ∀ (l : List AV), plainB l = true → PlainR l
  | [], _ => trivial
  | x :: r, h => by
    cases x with
    | rslice es len g =>
      simp only [plainB, Bool.and_eq_true] at h
      refine ⟨fun i hi y hy => ?_, plain_ok r h.2⟩
      have := List.all_eq_true.1 h.1 i (List.mem_range.2 hi)
      exact isVal_ok (List.all_eq_true.1 this y hy)
    | _ => simp only [plainB] at h; simp only [PlainR]; exact plain_ok r h

theorem evR_ok {fn : Func} {s : St} {r : AV} {fr : Bool} (h : evR T fn s = some (r, fr)) : Fin T fn r fr s := by
  unfold evR at h
  unfold Fin
  split at h
  · cases h
  · rename_i l hl
    rw [hl]
    cases hd : deep 5 (fz s.hp (oneOf l)) with
    | false => rw [hd] at h; cases h
    | true =>
      rw [hd, cond_true, hard_eq] at h
      cases h
      refine ⟨solid_ok 5 _ hd, fun hf => ?_⟩
      rw [Bool.and_eq_true] at hf
      exact ⟨hf.1, plain_ok _ hf.2⟩

theorem forceBs_eq : ∀ (l : List AB) (k : List AB → St), forceBs l k = k l
  | [], k => rfl
  | ⟨es, len, f, ver, ro, flat, one⟩ :: r, k => by simp [forceBs, forceBs_eq r]

theorem look_tidy (tm : List (Nat × AV)) : ∀ (n t0 t : Nat), look (tidyTm.go tm n t0) t = look tm t ∨ look (tidyTm.go tm n t0) t = .top
  | 0, t0, t => .inr rfl
  | n + 1, t0, t => by
    unfold tidyTm.go
    split
    · exact look_tidy tm n (t0 + 1) t
    · simp only [look]
      cases hb : Nat.beq t0 t with
      | true => have := Nat.eq_of_beq_eq_true hb; subst this; exact .inl rfl
      | false => exact look_tidy tm n (t0 + 1) t

theorem tidyB_le (k : AB) : (tidyB k).es = k.es ∧ (tidyB k).len = k.len ∧ (tidyB k).ver = k.ver ∧ (tidyB k).ro = k.ro ∧ ((tidyB k).flat = true → k.flat = true) ∧ ∀ i, i < k.len → (tidyB k).f i = k.f i := by
  unfold tidyB
  cases Nat.ble k.len 64 with
  | false => exact ⟨rfl, rfl, rfl, rfl, id, fun _ _ => rfl⟩
  | true =>
    rw [cond_true, hardRows_eq]
    refine ⟨rfl, rfl, rfl, rfl, fun h => h, fun i hi => ?_⟩
    simp only
    rw [nth?_eq]
    simp [hi]

theorem BLe_tidy : ∀ (l : List AB), BLe l (l.map tidyB)
  | [] => trivial
  | k :: r => ⟨tidyB_le k, BLe_tidy r⟩
theorem MLe_refl : ∀ (l : List AM), MLe l l
  | [] => trivial
  | _ :: r => ⟨⟨rfl, rfl, rfl, fun _ => ⟨rfl, rfl⟩⟩, MLe_refl r⟩

theorem SR.tidy {Fm : Fr} {w0 w : World} {q : Nat → Prop} {s : St} {a : Act} {c : Cx} (m : Nat) (h : SR P Fm w0 q s a w c) : SR P Fm w0 q (tidy m s) a w c := by
  have e : Go.Tr.tidy m s = { s with tm := tidyTm m s.tm, hp := { s.hp with blocks := s.hp.blocks.map tidyB } } := by
    unfold Go.Tr.tidy
    rw [forceTm_eq, forceBs_eq]
  rw [e]
  refine SR.look_eq (s := { s with hp := { s.hp with blocks := s.hp.blocks.map tidyB } }) (h.weak ⟨⟨rfl, rfl, rfl, rfl⟩, BLe_tidy _, MLe_refl _⟩) (fun t => look_tidy s.tm m 0 t) rfl rfl

/-- What is known of a body's run. -/
theorem evD_ok (hm : P.follows .mixedOrders = true) {G : FuncId → List AV → Option (AV × Bool)} (hG : ∀ f args r fr, G f args = some (r, fr) → Sound1 P f args r fr) (L : Nat) : ∀ (d : Nat) (Y : YF) (f : FuncId) (sv : List (Nat × AV)) (args : List AV) (hp : Hp) (s : St) (fn : Func), evD P G L d Y f sv args hp = some (s, fn) →
    P.funcs[f]? = some fn ∧ ∃ cd e, fn.body = some cd ∧ (fn.name == "runtime.NumGoroutine") = false ∧ args.length ≤ fn.ntmps ∧ (e = .normal ∨ e = .ret) ∧
    ∀ (YR : YT) (X : Nat → Value) (Gs : List (Nat × Obj × Option Nat)) (rc : Option (Nat × Nat × RcT)) (w0 : World) (q : Nat → Prop), YRel Y YR → YOk P X Gs rc w0 q YR → ∀ (Q : Exit → Act → World → Prop) a w c, SR P ⟨fn.ntmps, X, none, Gs, rc⟩ w0 q { tm := start args 0, hp, sv } a w c →
      (∀ a' w' c', SR P ⟨fn.ntmps, X, none, Gs, rc⟩ w0 q s a' w' c' → Q (toExit e) a' w') → cd.wpIn (FR none) 0 P Q a w
  | 0, _, _, _, _, _, _, _, h => by simp [evD] at h
  | d + 1, Y, f, sv, args, hp, s, fn, h => by
    have hDr : DrawnOk P (TP P) := drawn_ok (TOK_TP P) hm
    unfold evD at h
    split at h
    · rename_i fn' hf
      split at h
      · rename_i c hc
        cases hn : (!(fn'.name == "runtime.NumGoroutine") && Nat.ble args.length fn'.ntmps) with
        | false => rw [hn] at h; cases h
        | true =>
          rw [hn, cond_true] at h
          rw [Bool.and_eq_true] at hn
          have hFs : ∀ f args r fr, (match G f args with
                | some x => some x
                | none => match evD P G L d noYF f [] args ⟨[], [], none, 0⟩ with | some (s, fn) => evR (TP P) fn s | none => none) = some (r, fr) → Sound1 P f args r fr := fun f args r fr h => by
            split at h
            · rename_i x hx; cases h; exact hG _ _ _ _ hx
            · split at h
              · rename_i s1 fn1 h1
                obtain ⟨g0, cd1, e1, g1, g2, g3, g4, g5⟩ := evD_ok hm hG L d _ _ _ _ _ _ _ h1
                refine ⟨run_enter g0 g2 g1, fun w q vs hq hs hv => callsIn_wide.1 (callsIn_of_wp_marks (F := FR none) (n := 0) g0 g1 trivial (g5 noY _ _ _ w q (noYF_rel _) (noY_ok _ _ _ _ _) _ _ _ _ (sr_start g3 hq hs hv) fun a' w' c' h' => gives_of_post (TOK_TP P) h' ?_))⟩
                rcases g4 with rfl | rfl
                · exact evR_ok h
                · exact evR_ok h
              · cases h
          have hIs : IOk P (IRel fun Y f args n s => forceTm (pushSv n s.tm s.sv) fun sv => match evD P G L d Y f sv args s.hp with
                | some (s', fn) => match resAV (TP P) s' fn.results.toList with
                  | some l => forceTm (popTm n s'.sv) fun tm => forceTm (popSv n s'.sv) fun sv => some (oneOf l, { tm, hp := s'.hp, sv })
                  | none => none
                | none => none) := by
            intro YR f args n s K hI X Gs rc w0 q w c vs hHS hargs hY
            obtain ⟨Y2, hYr, r, s', he, hK⟩ := hI
            simp only [forceTm_eq] at he
            split at he
            case h_2 => cases he
            rename_i s1 fn1 h1
            split at he
            case h_2 => cases he
            rename_i l hl
            cases he
            obtain ⟨g0, cd1, e1, g1, g2, g3, g4, g5⟩ := evD_ok hm hG L d _ _ _ _ _ _ _ h1
            refine ⟨run_enter g0 g2 g1, callsIn_of_wp_marks g0 g1 trivial ?_⟩
            have h0 : SR P ⟨fn1.ntmps, X, none, Gs, rc⟩ w0 q { tm := start args 0, hp := s.hp, sv := pushSv n s.tm s.sv } { tmps := vs ++ Array.replicate (fn1.ntmps - vs.size) undef, defers := [] } w c :=
              ⟨hHS, fun t => start_rel hargs t, (by have := hargs.1; simp; omega), [], rfl, List.nodup_nil, fun D hD => by cases hD⟩
            refine g5 YR X Gs rc w0 q hYr hY _ _ _ _ h0 fun a' w' c' h' => ?_
            obtain ⟨ds, d1, d2, d3⟩ := h'.defers
            have fin : LeavesInM (FR none) 0 P fn1 a'.tmps (fun e w' => ∃ u, e = .returned u ∧ ∃ r hp' sv' c', HS P X Gs rc w0 q hp' sv' w' c' ∧ VR P w' c' r u ∧ K r { tm := popTm n sv', hp := hp', sv := popSv n sv' }) a'.defers .returning w' := by
              rw [d1]
              refine leave_marks ds a' w' h' d1 d2 d3 fun a2 w2 h2 _ => ?_
              obtain ⟨u, p1, p2⟩ := result_val (TOK_TP P) h2 hl
              exact ⟨u, p1, u, rfl, oneOf l, s1.hp, s1.sv, c', h2.toHS, p2, hK⟩
            rcases g4 with rfl | rfl <;> exact fin
          have fin : ∀ e, (e = .normal ∨ e = .ret) → ∀ s1, evC (TP P) _ _ (Go.Tr.tidy fn'.ntmps) fn'.ntmps L c Y true { tm := start args 0, hp, sv } = some (e, s1) →
              (P.funcs[f]? = some fn' ∧ ∃ cd e, fn'.body = some cd ∧ (fn'.name == "runtime.NumGoroutine") = false ∧ args.length ≤ fn'.ntmps ∧ (e = .normal ∨ e = .ret) ∧
    ∀ (YR : YT) (X : Nat → Value) (Gs : List (Nat × Obj × Option Nat)) (rc : Option (Nat × Nat × RcT)) (w0 : World) (q : Nat → Prop), YRel Y YR → YOk P X Gs rc w0 q YR → ∀ (Q : Exit → Act → World → Prop) a w c, SR P ⟨fn'.ntmps, X, none, Gs, rc⟩ w0 q { tm := start args 0, hp, sv } a w c →
      (∀ a' w' c', SR P ⟨fn'.ntmps, X, none, Gs, rc⟩ w0 q s1 a' w' c' → Q (toExit e) a' w') → cd.wpIn (FR none) 0 P Q a w) := fun e he s1 hrun =>
            ⟨hf, c, e, hc, by simpa using hn.1, Nat.le_of_ble_eq_true hn.2, he, fun YR X Gs rc w0 q hYr hY Q a w c' h0 hQ =>
              evC_ok (TOK_TP P) hDr hFs hIs (fun _ _ _ _ _ h => h.tidy _) c ⟨fn'.ntmps, X, none, Gs, rc⟩ rfl Y YR hYr (.inr ⟨rfl, hY⟩) true (fun _ => rfl) e _ _ hrun Q a w c' h0 hQ⟩
          split at h
          · rename_i s1 hs; cases h; exact fin .normal (.inl rfl) _ hs
          · rename_i s1 hs; cases h; exact fin .ret (.inr rfl) _ hs
          · cases h
      · cases h
    · cases h

theorem evF_ok (hm : P.follows .mixedOrders = true) {G : FuncId → List AV → Option (AV × Bool)} (hG : ∀ f args r fr, G f args = some (r, fr) → Sound1 P f args r fr) (L d : Nat) (f : FuncId) (args : List AV) (r : AV) (fr : Bool) (h : evF P G L d f args = some (r, fr)) : Sound1 P f args r fr := by
  unfold evF at h
  split at h
  · rename_i x hx; cases h; exact hG _ _ _ _ hx
  · split at h
    · rename_i s1 fn1 h1
      obtain ⟨g0, cd1, e1, g1, g2, g3, g4, g5⟩ := evD_ok hm hG L d _ _ _ _ _ _ _ h1
      refine ⟨run_enter g0 g2 g1, fun w q vs hq hs hv => callsIn_wide.1 (callsIn_of_wp_marks (F := FR none) (n := 0) g0 g1 trivial (g5 noY _ _ _ w q (noYF_rel _) (noY_ok _ _ _ _ _) _ _ _ _ (sr_start g3 hq hs hv) fun a' w' c' h' => gives_of_post (TOK_TP P) h' ?_))⟩
      rcases g4 with rfl | rfl
      · exact evR_ok h
      · exact evR_ok h
    · cases h
end
end Go.Tr

/- Known runs as an oracle: closed runs proved one by one. Conditions: the program's rules take any order. -/
namespace Go.Tr
open Go Go.RowKit

def valq : Value → Value → Bool
  | .int k a, .int k' b => decide (k = k') && a == b
  | .bool a, .bool b => a == b
  | .string a, .string b => a.data.toList == b.data.toList
  | _, _ => false
def celq : AV → AV → Bool
  | .val a, .val b => valq a b
  | .eslice, .eslice => true
  | _, _ => false
def rowq : List AV → List AV → Bool
  | [], [] => true
  | x :: r, y :: s => celq x y && rowq r s
  | _, _ => false
def allq (p : AV → AV → Bool) : List AV → List AV → Bool
  | [], [] => true
  | x :: r, y :: s => p x y && allq p r s
  | _, _ => false
def avq : Nat → AV → AV → Bool
  | _ + 1, .rslice es len f, .rslice es' len' g => Nat.beq es es' && Nat.beq len len' && (List.range len).all fun i => rowq (f i) (g i)
  | k + 1, .agg l, .agg m => allq (avq k) l m
  | k + 1, .tuple l, .tuple m => allq (avq k) l m
  | _ + 1, x, y => celq x y
  | 0, _, _ => false

theorem valq_ok {a b : Value} (h : valq a b = true) : a = b := by
  unfold valq at h
  split at h
  · simp at h; rw [h.1, h.2]
  · simp at h; rw [h]
  · rename_i a b
    have e : a.data.toList = b.data.toList := by simpa using h
    have e2 : a = b := ByteArray.ext (Array.ext' e)
    rw [e2]
  · cases h
theorem celq_ok {x y : AV} (h : celq x y = true) : x = y := by
  unfold celq at h
  split at h
  · rw [valq_ok h]
  · rfl
  · cases h
theorem rowq_ok : ∀ {l m : List AV}, rowq l m = true → l = m
  | [], [], _ => rfl
  | x :: r, y :: s, h => by
    simp only [rowq, Bool.and_eq_true] at h
    rw [celq_ok h.1, rowq_ok h.2]
  | [], _ :: _, h => by simp [rowq] at h
  | _ :: _, [], h => by simp [rowq] at h

theorem allq_ok {p : AV → AV → Bool} {q : AV → AV → Prop} (h : ∀ x y, p x y = true → q x y) : ∀ (l m : List AV), allq p l m = true → l.length = m.length ∧ ∀ i x y, nth? l i = some x → nth? m i = some y → q x y
  | [], [], _ => ⟨rfl, fun i x y hx => by cases hx⟩
  | x :: r, y :: s, e => by
    simp only [allq, Bool.and_eq_true] at e
    obtain ⟨h1, h2⟩ := allq_ok h r s e.2
    refine ⟨by simp [h1], fun i a b ha hb => ?_⟩
    cases i with
    | zero => cases ha; cases hb; exact h _ _ e.1
    | succ i => exact h2 i a b ha hb
  | [], _ :: _, e => by simp [allq] at e
  | _ :: _, [], e => by simp [allq] at e

theorem avq_ok : ∀ (k : Nat) (x y : AV), avq k x y = true → AVE k x y
  | 0, _, _, h => by simp [avq] at h
  | k + 1, x, y, h => by
    unfold avq at h
    split at h <;> (try injections) <;> (try subst_vars)
    · simp only [Bool.and_eq_true] at h
      refine ⟨Nat.eq_of_beq_eq_true h.1.1, Nat.eq_of_beq_eq_true h.1.2, fun i hi => rowq_ok (List.all_eq_true.1 h.2 i (List.mem_range.2 hi))⟩
    · exact allq_ok (avq_ok _) _ _ h
    · exact allq_ok (avq_ok _) _ _ h
    · have e := celq_ok h
      subst e
      unfold celq at h
      split at h <;> first | rfl | cases h

/-- Run: the function, its arguments, what it gives. -/
structure Run where
  f : FuncId
  args : List AV
  r : AV

def Run.ok (P : Program) (x : Run) : Prop := Sound1 P x.f x.args x.r false

def oracle : List Run → FuncId → List AV → Option (AV × Bool)
  | [], _, _ => none
  | x :: l, f, args => bif Nat.beq x.f f && allq (avq 5) args x.args then some (x.r, false) else oracle l f args

variable {P : Program}

theorem Sound1.res {f : FuncId} {xs : List AV} {r r' : AV} (h : Sound1 P f xs r false) (hr : AVE 5 r r') : Sound1 P f xs r' false := by
  refine ⟨h.1, fun w q vs hq hs hv => ?_⟩
  have := h.2 w q vs hq hs hv
  refine Calls.mono this ?_
  rintro e w' ⟨u, h1, h2, h3⟩
  exact ⟨u, h1, h2, AVE_ok 5 hr h3⟩

theorem Sound1.args {f : FuncId} {xs ys : List AV} {r : AV} {fr : Bool} (h : Sound1 P f xs r fr) (hl : ys.length = xs.length) (hx : ∀ i y x, nth? ys i = some y → nth? xs i = some x → AVE 5 y x) : Sound1 P f ys r fr := by
  refine ⟨h.1, fun w q vs hq hs hv => ?_⟩
  have := h.2 w q vs hq (by rw [hs, hl]) fun i x hi => by
    have hlt : i < ys.length := by rw [hl]; exact (List.getElem?_eq_some_iff.1 hi).1
    exact AVE_ok 5 (hx i ys[i] x (by rw [nth?_eq]; exact List.getElem?_eq_getElem hlt) (by rw [nth?_eq]; exact hi)) (hv i _ (List.getElem?_eq_getElem hlt))
  exact this

theorem oracle_ok : ∀ {l : List Run}, (∀ x ∈ l, x.ok P) → ∀ f args r fr, oracle l f args = some (r, fr) → Sound1 P f args r fr
  | [], _, f, args, r, fr, h => by cases h
  | x :: l, hl, f, args, r, fr, h => by
    unfold oracle at h
    cases hb : (Nat.beq x.f f && allq (avq 5) args x.args) with
    | true =>
      rw [hb, cond_true] at h
      cases h
      rw [Bool.and_eq_true] at hb
      obtain ⟨h1, h2⟩ := allq_ok (avq_ok 5) _ _ hb.2
      have e := Nat.eq_of_beq_eq_true hb.1
      have := hl x (List.mem_cons_self ..)
      unfold Run.ok at this
      rw [e] at this
      exact this.args h1 h2
    | false => rw [hb, cond_false] at h; exact oracle_ok (fun y hy => hl y (List.mem_cons_of_mem _ hy)) f args r fr h

def runq (x : Option (AV × Bool)) (y : AV) : Bool := match x with | some (r, _) => avq 5 r y | none => false

theorem oracle_false : ∀ {l : List Run} {f : FuncId} {args : List AV} {r : AV} {fr : Bool}, oracle l f args = some (r, fr) → fr = false
  | [], f, args, r, fr, h => by cases h
  | x :: l, f, args, r, fr, h => by
    unfold oracle at h
    cases hb : (Nat.beq x.f f && allq (avq 5) args x.args) with
    | true => rw [hb, cond_true] at h; cases h; rfl
    | false => rw [hb, cond_false] at h; exact oracle_false h

theorem Fin.weak {T : Nat → Option TI} {fn : Func} {r : AV} {fr : Bool} {s : St} (h : Fin T fn r fr s) : Fin T fn r false s := by
  unfold Fin at h ⊢
  split at h
  · exact h
  · exact ⟨h.1, nofun⟩

theorem evF_false (hm : P.follows .mixedOrders = true) {G : FuncId → List AV → Option (AV × Bool)} (hG : ∀ f args r fr, G f args = some (r, fr) → Sound1 P f args r fr ∧ fr = false) (L d : Nat) (f : FuncId) (args : List AV) (r : AV) (fr : Bool) (h : evF P G L d f args = some (r, fr)) : Sound1 P f args r false := by
  have hG' := fun f args r fr h => (hG f args r fr h).1
  unfold evF at h
  split at h
  · rename_i x hx; cases h; have e := (hG _ _ _ _ hx).2; subst e; exact hG' _ _ _ _ hx
  · split at h
    · rename_i s1 fn1 h1
      obtain ⟨g0, cd1, e1, g1, g2, g3, g4, g5⟩ := evD_ok hm hG' L d _ _ _ _ _ _ _ h1
      refine ⟨run_enter g0 g2 g1, fun w q vs hq hs hv => callsIn_wide.1 (callsIn_of_wp_marks (F := FR none) (n := 0) g0 g1 trivial (g5 noY _ _ _ w q (noYF_rel _) (noY_ok _ _ _ _ _) _ _ _ _ (sr_start g3 hq hs hv) fun a' w' c' h' => gives_of_post (TOK_TP P) (r := r) (fr := false) h' ?_))⟩
      rcases g4 with rfl | rfl
      · exact (evR_ok h).weak
      · exact (evR_ok h).weak
    · cases h

theorem run_okG (hm : P.follows .mixedOrders = true) {G : FuncId → List AV → Option (AV × Bool)} (hG : ∀ f args r fr, G f args = some (r, fr) → Sound1 P f args r fr ∧ fr = false) (L d : Nat) {f : FuncId} {args : List AV} {y : AV} (h : runq (evF P G L d f args) y = true) : Run.ok P ⟨f, args, y⟩ := by
  unfold runq at h
  split at h
  · rename_i r fr he
    have := evF_false hm hG L d f args r fr he
    exact this.res (avq_ok 5 _ _ h)
  · cases h

theorem run_ok (hm : P.follows .mixedOrders = true) {l : List Run} (hl : ∀ x ∈ l, x.ok P) (L d : Nat) {f : FuncId} {args : List AV} {y : AV} (h : runq (evF P (oracle l) L d f args) y = true) : Run.ok P ⟨f, args, y⟩ :=
  run_okG hm (fun f args r fr h => ⟨oracle_ok hl f args r fr h, oracle_false h⟩) L d h
end Go.Tr

/- Branches of a walk. Conditions: none. -/
namespace Go.Tr
open Go

theorem ifB_dec {p : Prop} [Decidable p] {x y : Prop} (h1 : p → x) (h2 : ¬ p → y) : ifB (decide p) x y := by
  by_cases h : p
  · rw [decide_eq_true h]; exact h1 h
  · rw [decide_eq_false h]; exact h2 h
theorem ifB_not {b : Bool} {x y : Prop} (h : ifB b y x) : ifB (!b) x y := by cases b <;> exact h
theorem ifB_beq {a b : Int} {x y : Prop} (h1 : a = b → x) (h2 : ¬ a = b → y) : ifB (a == b) x y :=
  ifB_intro (fun h => h1 (eq_of_beq h)) (fun h => h2 (ne_of_beq_false h))
theorem ifB_bne {a b : Int} {x y : Prop} (h1 : ¬ a = b → x) (h2 : a = b → y) : ifB (a != b) x y :=
  ifB_intro (fun h => h1 (bne_iff_ne.1 h)) (fun h => h2 (bne_eq_false_iff_eq.1 h))
theorem ifB_beqB {a b : Bool} {x y : Prop} (h1 : a = b → x) (h2 : ¬ a = b → y) : ifB (a == b) x y :=
  ifB_intro (fun h => h1 (eq_of_beq h)) (fun h => h2 (ne_of_beq_false h))
theorem ifB_and {a b : Bool} {x y : Prop} (h1 : a = true → b = true → x) (h2 : (a && b) = false → y) : ifB (a && b) x y :=
  ifB_intro (fun h => by rw [Bool.and_eq_true] at h; exact h1 h.1 h.2) h2
theorem ifB_veq2 {k1 k2 k3 k4 : IntKind} {a b c d : Int} {x y : Prop} (h1 : a = b ∧ c = d → x) (h2 : ¬(a = b ∧ c = d) → y) : ifB (vEqL [.int k1 a, .int k2 c] [.int k3 b, .int k4 d]) x y := by
  refine ifB_intro (fun h => h1 ?_) (fun h => h2 fun e => ?_)
  · simp only [vEqL, Bool.and_eq_true, beq_iff_eq, and_true] at h
    exact h
  · rw [e.1, e.2] at h
    simp [vEqL] at h
theorem getD_setB (m : List Bool) (a i : Nat) (v : Bool) : (m.set a v).getD i false = if i = a ∧ a < m.length then v else m.getD i false := by
  simp only [List.getD_eq_getElem?_getD, List.getElem?_set]
  by_cases h : a = i
  · subst h
    by_cases h2 : a < m.length
    · simp [h2]
    · simp [h2]
  · rw [if_neg h, if_neg (fun e => h e.1.symm)]
theorem getD_setI (m : List Int) (a i : Nat) (v : Int) : (m.set a v).getD i 0 = if i = a ∧ a < m.length then v else m.getD i 0 := by
  simp only [List.getD_eq_getElem?_getD, List.getElem?_set]
  by_cases h : a = i
  · subst h
    by_cases h2 : a < m.length
    · simp [h2]
    · simp [h2]
  · rw [if_neg h, if_neg (fun e => h e.1.symm)]
/-- A store into a row of truth values; of numbers. -/
theorem row1 (x : List Bool) (a i : Nat) (v : Bool) (ha : a < x.length) : [.val (.bool ((x.set a v).getD i false))] = bif Nat.beq i (0 + a) then splice [.val (.bool (x.getD i false))] 0 [.val (.bool v)] else [.val (.bool (x.getD i false))] := by
  rw [getD_setB, Nat.zero_add]
  cases e : Nat.beq i a with
  | true => rw [if_pos ⟨Nat.eq_of_beq_eq_true e, ha⟩]; rfl
  | false => rw [if_neg (fun h => Nat.ne_of_beq_eq_false e h.1)]; rfl
theorem rowI (x : List Int) (a i : Nat) (v : Int) (ha : a < x.length) : [.val (.int .i64 ((x.set a v).getD i 0))] = bif Nat.beq i (0 + a) then splice [.val (.int .i64 (x.getD i 0))] 0 [.val (.int .i64 v)] else [.val (.int .i64 (x.getD i 0))] := by
  rw [getD_setI, Nat.zero_add]
  cases e : Nat.beq i a with
  | true => rw [if_pos ⟨Nat.eq_of_beq_eq_true e, ha⟩]; rfl
  | false => rw [if_neg (fun h => Nat.ne_of_beq_eq_false e h.1)]; rfl
/-- Slots kept ahead of a range over a function. -/
def keepTm (keep : List Nat) (tm : List (Nat × AV)) : List (Nat × AV) := keep.map fun t => (t, look tm t)
theorem keep_ok : ∀ (keep : List Nat) (tm : List (Nat × AV)) (t : Nat), look (keepTm keep tm) t = look tm t ∨ look (keepTm keep tm) t = .top
  | [], tm, t => .inr rfl
  | k :: r, tm, t => by
    show (bif Nat.beq k t then look tm k else look (keepTm r tm) t) = _ ∨ (bif Nat.beq k t then look tm k else look (keepTm r tm) t) = _
    cases h : Nat.beq k t with
    | true => cases Nat.eq_of_beq_eq_true h; exact .inl rfl
    | false => exact keep_ok r tm t
theorem inK64 {n : Int} (h1 : -9223372036854775808 ≤ n) (h2 : n ≤ 9223372036854775807) : inK .i64 n := ⟨h1, h2⟩
theorem inKu8 {n : Int} (h1 : 0 ≤ n) (h2 : n ≤ 255) : inK .u8 n := ⟨h1, h2⟩
theorem byX {P : Program} {E : Env} (hE : E.S = Sound1 P) {f : FuncId} {args : List AV} {r : AV} {fr : Bool} (h : Sound1 P f args r fr) : E.S f args r fr := by rw [hE]; exact h
end Go.Tr

/- The examples of chapter 2 are as they should be: awake gives true. Conditions: none. -/
namespace Go.Tr
open Go Go.Proofs

abbrev i64 (n : Int) : AV := .val (.int .i64 n)
abbrev vb (b : Bool) : AV := .val (.bool b)
abbrev sb (s : List UInt8) : AV := .val (.string ⟨⟨s⟩⟩)
def tab (es : Nat) (l : List (List AV)) : AV := .rslice es l.length fun i => match nth? l i with | some r => r | none => []

def netA : AV := .agg [tab 4 [[sb [117, 112], vb true, i64 100, i64 0], [sb [106], vb false, i64 0, i64 3], [sb [100, 111, 119, 110], vb true, i64 0, i64 0]], tab 6 [[sb [97], i64 0, i64 1, i64 100, vb false, vb true], [sb [98], i64 1, i64 2, i64 200, vb true, vb true]]]
def dryA : AV := .agg [tab 4 [[sb [115], vb true, i64 0, i64 0], [sb [116], vb false, i64 0, i64 0], [sb [117], vb false, i64 0, i64 0]], tab 6 [[sb [112], i64 0, i64 1, i64 0, vb true, vb false], [sb [113], i64 1, i64 2, i64 0, vb false, vb true]]]

theorem mixed2 : Try.prog.follows .mixedOrders = true := by kernel_rfl
theorem run_net : Run.ok Try.prog ⟨13, [], netA⟩ := run_ok mixed2 (l := []) (by simp) 1000 60 (by kernel_rfl)
theorem run_dry : Run.ok Try.prog ⟨15, [], dryA⟩ := run_ok mixed2 (l := []) (by simp) 1000 60 (by kernel_rfl)
end Go.Tr

/- Contracts of chapter 2: small functions. Conditions: none. -/
namespace Go.Tr
open Go Go.Proofs

set_option maxRecDepth 20000
set_option maxHeartbeats 8000000
abbrev SP := Sound1 Try.prog

/-- The kinds of the types that are compared. -/
def K2 (t : Nat) : Option (List LK) := bif Nat.beq t 42 then some [.int .i64, .int .i64] else none
theorem tok2 : TOK Try.prog (TK Try.prog K2) := TOK_TK fun t ks h => by
  unfold K2 at h
  cases e : Nat.beq t 42 with
  | false => rw [e] at h; cases h
  | true =>
    rw [e] at h
    cases h
    cases Nat.eq_of_beq_eq_true e
    exact ⟨_, Try.underlying42, by kernel_rfl⟩

theorem byS {d : Nat} {f : FuncId} {args : List AV} {r : AV} {fr : Bool} (h : SP f args r fr) : (envOf Try.prog (TK Try.prog K2) d).S f args r fr := h
theorem byP {d : Nat} {f : FuncId} {args : List AV} {r : AV} {fr : Bool} (h : SP f args r fr) : (envOf Try.prog (TK Try.prog K2) d).plain.S f args r fr := h

theorem S22 (x a b : Int) : SP 22 [i64 x, i64 a, i64 b] (vb (decide (a ≤ x ∧ x ≤ b))) false := by
  refine sound (d := 2) tok2 mixed2 Try.func22 (by kernel_rfl) (by kernel_rfl) ?_
  refine ifB_intro (fun h => ?_) (fun h => ?_)
  · have h' : a ≤ x := of_decide_eq_true h
    refine ⟨?_, nofun⟩
    show vb (decide (x ≤ b)) = vb _
    simp [h']
  · have h' : ¬ a ≤ x := of_decide_eq_false h
    refine ⟨?_, nofun⟩
    show vb false = vb _
    simp [h']

theorem S5 (x a b : Int) : SP 5 [i64 x, i64 a, i64 b] (vb (decide (a ≤ x ∧ x ≤ b))) false := by
  refine sound (d := 2) tok2 mixed2 Try.func5 (by kernel_rfl) (by kernel_rfl) ?_
  refine ifB_intro (fun h => ?_) (fun h => ?_)
  · have h' : a ≤ x := of_decide_eq_true h
    refine ⟨?_, nofun⟩
    show vb (decide (x ≤ b)) = vb _
    simp [h']
  · have h' : ¬ a ≤ x := of_decide_eq_false h
    refine ⟨?_, nofun⟩
    show vb false = vb _
    simp [h']

theorem S43 (x b : Int) (h1 : -9223372036854775807 ≤ b) (h2 : b ≤ 9223372036854775807) : SP 43 [i64 x, i64 b] (vb (decide (-b ≤ x ∧ x ≤ b))) false := by
  refine sound (d := 2) tok2 mixed2 Try.func43 (by kernel_rfl) (by kernel_rfl) ?_
  refine ⟨inK64 (by omega) (by omega), ?_⟩
  refine .inl ⟨_, _, byS (d := 2) (S22 x (-b) b), ?_⟩
  refine ⟨?_, nofun⟩
  rfl

theorem S21 (c : Bool) (e : Int) : SP 21 [vb c, i64 e] (i64 (if c then 0 else e)) false := by
  refine sound (d := 2) tok2 mixed2 Try.func21 (by kernel_rfl) (by kernel_rfl) ?_
  refine ifB_intro (fun h => ?_) (fun h => ?_)
  · subst h; refine ⟨?_, nofun⟩; rfl
  · subst h; refine ⟨?_, nofun⟩; rfl

/-- The first number that is not 0. -/
def firstOf : List Int → Int
  | [] => 0
  | x :: r => if x = 0 then firstOf r else x
theorem firstOf_drop (l : List Int) (k : Nat) (h : k < l.length) : firstOf (l.drop k) = if l.getD k 0 = 0 then firstOf (l.drop (k+1)) else l.getD k 0 := by
  rw [List.drop_eq_getElem_cons h, firstOf]; simp [List.getD, h]
def ints (l : List Int) : AV := .rslice 1 l.length fun i => [i64 (l.getD i 0)]

theorem S19 (l : List Int) (hl : l.length ≤ 1000000000) : SP 19 [ints l] (i64 (firstOf l)) false := by
  refine sound (d := 2) tok2 mixed2 Try.func19 (by kernel_rfl) (by kernel_rfl) ?_
  refine ⟨[], [5, 6, 7], fun s m => ∃ k : Nat, k ≤ l.length ∧ firstOf (l.drop k) = firstOf l ∧ s = ⟨[(5, ints l), (6, i64 l.length), (7, i64 k)], ⟨[], [], none, 0⟩, []⟩ ∧ m = l.length - k,
    ⟨_, _, ⟨0, by omega, rfl, rfl, rfl⟩, ⟨⟨rfl, rfl, rfl, rfl⟩, trivial, trivial⟩⟩, ?_⟩
  rintro s0 m0 ⟨k, hk, hf, rfl, rfl⟩
  refine ifB_intro (fun h1 => ?_) (fun h1 => ?_)
  · have hlt : k < l.length := by have := of_decide_eq_true h1; omega
    have hd := firstOf_drop l k hlt
    refine ⟨⟨by omega, by omega⟩, ?_⟩
    refine ifB_intro (fun h2 => ?_) (fun h2 => ?_)
    · have h2' : l.getD k 0 ≠ 0 := by have := bne_iff_ne.1 h2; exact this
      refine ⟨?_, nofun⟩
      rw [if_neg h2'] at hd
      show i64 _ = i64 _
      rw [← hf, hd]; rfl
    · have h2' : l.getD k 0 = 0 := by have := bne_eq_false_iff_eq.1 h2; exact this
      rw [if_pos h2'] at hd
      refine ⟨inK64 (by omega) (by omega), ?_⟩
      refine ⟨_, _, ⟨⟨k + 1, by omega, by omega, rfl, rfl⟩, by omega⟩, ⟨⟨rfl, rfl, rfl, rfl⟩, trivial, trivial⟩⟩
  · have hlt : k = l.length := by have := of_decide_eq_false h1; omega
    refine ⟨?_, nofun⟩
    subst hlt
    simp [firstOf] at hf
    show i64 _ = i64 _
    rw [← hf]
end Go.Tr

/- Nets of chapter 2 as plain data, their abstract values, and the opening of a net. Conditions: none. -/
namespace Go.Tr
open Go Go.Proofs Go.RowKit

structure Nd where
  name : ByteArray
  lake : Bool
  head : Int
  draw : Int
structure Cn where
  name : ByteArray
  fr : Int
  to : Int
  res : Int
  valve : Bool
  opn : Bool
structure Net where
  ns : List Nd
  cs : List Cn

set_option maxRecDepth 20000
set_option maxHeartbeats 8000000
abbrev sv (s : ByteArray) : AV := .val (.string s)
def ndC (n : Nd) : List AV := [sv n.name, vb n.lake, i64 n.head, i64 n.draw]
def cnC (c : Cn) : List AV := [sv c.name, i64 c.fr, i64 c.to, i64 c.res, vb c.valve, vb c.opn]
def nd0 : Nd := ⟨ByteArray.empty, false, 0, 0⟩
def cn0 : Cn := ⟨ByteArray.empty, 0, 0, 0, false, false⟩
def listA {α : Type} (es : Nat) (g : α → List AV) (d : α) (l : List α) : AV := .rslice es l.length fun i => g (l.getD i d)
def netV (N : Net) : AV := .agg [listA 4 ndC nd0 N.ns, listA 6 cnC cn0 N.cs]

structure Nd.In (n : Nd) : Prop where
  name : n.name.size ≤ 9223372036854775807
  head : inK .i64 n.head
  draw : inK .i64 n.draw
structure Cn.In (c : Cn) : Prop where
  name : c.name.size ≤ 9223372036854775807
  fr : inK .i64 c.fr
  to : inK .i64 c.to
  res : inK .i64 c.res
structure Net.In (N : Net) : Prop where
  nl : N.ns.length ≤ 9223372036854775807
  cl : N.cs.length ≤ 9223372036854775807
  ns : ∀ n ∈ N.ns, n.In
  cs : ∀ c ∈ N.cs, c.In

/-- A slice whose rows are typed, as a list. -/
theorem list_open {α : Type} {es len : Nat} {f : Nat → List AV} {g : α → List AV} {p : α → Prop} (d : α) (h : ∀ i, i < len → ∃ a, f i = g a ∧ p a) :
    ∃ l : List α, l.length = len ∧ (∀ a ∈ l, p a) ∧ ∀ k, AVE (k + 1) (.rslice es len f) (listA es g d l) := by
  have hx : ∀ i, ∃ a, i < len → f i = g a ∧ p a := fun i => by
    by_cases hi : i < len
    · obtain ⟨a, ha⟩ := h i hi
      exact ⟨a, fun _ => ha⟩
    · exact ⟨d, fun h => absurd h hi⟩
  refine ⟨(List.range len).map fun i => Classical.choose (hx i), by simp, fun a ha => ?_, fun k => ⟨rfl, by simp, fun i hi => ?_⟩⟩
  · obtain ⟨i, hi, rfl⟩ := List.mem_map.1 ha
    exact (Classical.choose_spec (hx i) (List.mem_range.1 hi)).2
  · have := (Classical.choose_spec (hx i) hi).1
    simpa [List.getD_eq_getElem?_getD, hi] using this

theorem all2_get {α β : Type} {p : α → β → Prop} : ∀ {l : List α} {m : List β}, All2 p l m → m.length = l.length ∧ ∀ (i : Nat) x, l[i]? = some x → ∃ y, m[i]? = some y ∧ p x y
  | [], [], _ => ⟨rfl, fun i x hx => by simp at hx⟩
  | x :: l, y :: m, h => by
    obtain ⟨g1, g2⟩ := all2_get h.2
    refine ⟨by simp [g1], fun i a ha => ?_⟩
    cases i with
    | zero => simp at ha; subst ha; exact ⟨y, rfl, h.1⟩
    | succ i => simpa using g2 i a (by simpa using ha)
  | [], _ :: _, h => h.elim
  | _ :: _, [], h => h.elim

theorem int_open {m : Nat} {t : TypeId} {xs : List AV} {P : Program} (hu : P.underlying t = some (.int .i64)) (h : TyC P (m + 1) t xs) : ∃ n, xs = [i64 n] ∧ inK .i64 n := by
  simp only [TyC, hu] at h
  exact h
theorem bool_open {m : Nat} {t : TypeId} {xs : List AV} {P : Program} (hu : P.underlying t = some .bool) (h : TyC P (m + 1) t xs) : ∃ b, xs = [vb b] := by
  simp only [TyC, hu] at h
  exact h
theorem str_open {m : Nat} {t : TypeId} {xs : List AV} {P : Program} (hu : P.underlying t = some .string) (h : TyC P (m + 1) t xs) : ∃ s : ByteArray, xs = [sv s] ∧ s.size ≤ 9223372036854775807 := by
  simp only [TyC, hu] at h
  exact h

theorem all2_2 {α β : Type} {p : α → β → Prop} {a b : α} {m : List β} (h : All2 p [a, b] m) : ∃ x y, m = [x, y] ∧ p a x ∧ p b y := by
  match m, h with
  | [x, y], h => exact ⟨x, y, rfl, h.1, h.2.1⟩
theorem all2_4 {α β : Type} {p : α → β → Prop} {a b c d : α} {m : List β} (h : All2 p [a, b, c, d] m) : ∃ x y z u, m = [x, y, z, u] ∧ p a x ∧ p b y ∧ p c z ∧ p d u := by
  match m, h with
  | [x, y, z, u], h => exact ⟨x, y, z, u, rfl, h.1, h.2.1, h.2.2.1, h.2.2.2.1⟩
theorem all2_6 {α β : Type} {p : α → β → Prop} {a b c d e f : α} {m : List β} (h : All2 p [a, b, c, d, e, f] m) : ∃ x y z u v w, m = [x, y, z, u, v, w] ∧ p a x ∧ p b y ∧ p c z ∧ p d u ∧ p e v ∧ p f w := by
  match m, h with
  | [x, y, z, u, v, w], h => exact ⟨x, y, z, u, v, w, rfl, h.1, h.2.1, h.2.2.1, h.2.2.2.1, h.2.2.2.2.1, h.2.2.2.2.2.1⟩

theorem nd_open {xs : List AV} (h : TyC Try.prog 2 28 xs) : ∃ n : Nd, xs = ndC n ∧ n.In := by
  unfold TyC at h
  simp only [Try.underlying28] at h
  obtain ⟨ps, rfl, h⟩ := h
  obtain ⟨x, y, z, u, rfl, h1, h2, h3, h4⟩ := all2_4 h
  obtain ⟨s, rfl, hs⟩ := str_open Try.underlying9 h1
  obtain ⟨b, rfl⟩ := bool_open Try.underlying4 h2
  obtain ⟨i, rfl, hi⟩ := int_open Try.underlying3 h3
  obtain ⟨j, rfl, hj⟩ := int_open Try.underlying3 h4
  exact ⟨⟨s, b, i, j⟩, rfl, ⟨hs, hi, hj⟩⟩

theorem cn_open {xs : List AV} (h : TyC Try.prog 2 31 xs) : ∃ c : Cn, xs = cnC c ∧ c.In := by
  unfold TyC at h
  simp only [Try.underlying31] at h
  obtain ⟨ps, rfl, h⟩ := h
  obtain ⟨x, y, z, u, v, w, rfl, h1, h2, h3, h4, h5, h6⟩ := all2_6 h
  obtain ⟨s, rfl, hs⟩ := str_open Try.underlying9 h1
  obtain ⟨i, rfl, hi⟩ := int_open Try.underlying3 h2
  obtain ⟨j, rfl, hj⟩ := int_open Try.underlying3 h3
  obtain ⟨k, rfl, hk⟩ := int_open Try.underlying3 h4
  obtain ⟨b, rfl⟩ := bool_open Try.underlying4 h5
  obtain ⟨c, rfl⟩ := bool_open Try.underlying4 h6
  exact ⟨⟨s, i, j, k, b, c⟩, rfl, ⟨hs, hi, hj, hk⟩⟩

theorem cells64 : Try.prog.cellsOf 28 = 4 := by kernel_rfl
theorem cells58 : Try.prog.cellsOf 31 = 6 := by kernel_rfl

theorem net_open {x : AV} (h : TyA Try.prog 4 34 x) : ∃ N : Net, AVE 5 x (netV N) ∧ N.In := by
  simp only [TyA, Try.underlying34] at h
  obtain ⟨xs, rfl, h⟩ := h
  unfold TyC at h
  simp only [Try.underlying34] at h
  obtain ⟨ps, rfl, h⟩ := h
  obtain ⟨x, y, rfl, h1, h2⟩ := all2_2 h
  unfold TyC at h1
  simp only [Try.underlying29] at h1
  obtain ⟨len, f, rfl, hl, hf⟩ := h1
  unfold TyC at h2
  simp only [Try.underlying32] at h2
  obtain ⟨len', f', rfl, hl', hf'⟩ := h2
  obtain ⟨ns, n1, n2, n3⟩ := list_open (g := ndC) (p := Nd.In) nd0 (fun i hi => nd_open (hf i hi))
  obtain ⟨cs, c1, c2, c3⟩ := list_open (g := cnC) (p := Cn.In) cn0 (fun i hi => cn_open (hf' i hi))
  refine ⟨⟨ns, cs⟩, ⟨rfl, fun i a b ha hb => ?_⟩, ⟨by rw [n1]; exact hl, by rw [c1]; exact hl', n2, c2⟩⟩
  match i, ha, hb with
  | 0, ha, hb => cases ha; cases hb; rw [cells64]; exact n3 3
  | 1, ha, hb => cases ha; cases hb; rw [cells58]; exact c3 3
end Go.Tr

/- Plain laws of chapter 2: what is reached in a net, round by round. Conditions: none. -/
namespace Go.Tr
open Go Go.Proofs

/-- Both ends are reached where one is. -/
def touch (m : List Bool) (a b : Nat) : List Bool := if m.getD a false != m.getD b false then (m.set a true).set b true else m
/-- One round over all conduits that may be used. -/
def sweep (use : Nat → Bool) : Nat → List Cn → List Bool → List Bool
  | _, [], m => m
  | k, c :: r, m => sweep use (k + 1) r (if use k then touch m c.fr.toNat c.to.toNat else m)
/-- Does a round change anything? -/
def sweepC (use : Nat → Bool) : Nat → List Cn → List Bool → Bool
  | _, [], _ => false
  | k, c :: r, m => (use k && (m.getD c.fr.toNat false != m.getD c.to.toNat false)) || sweepC use (k + 1) r (if use k then touch m c.fr.toNat c.to.toNat else m)
def iterF (use : Nat → Bool) (cs : List Cn) : Nat → List Bool → List Bool
  | 0, m => m
  | n + 1, m => iterF use cs n (sweep use 0 cs m)
def clo (use : Nat → Bool) (cs : List Cn) (m : List Bool) : List Bool := iterF use cs m.length m

theorem touch_len (m : List Bool) (a b : Nat) : (touch m a b).length = m.length := by
  unfold touch; split <;> simp
theorem sweep_len (use : Nat → Bool) : ∀ (cs : List Cn) (k : Nat) (m : List Bool), (sweep use k cs m).length = m.length
  | [], k, m => rfl
  | c :: r, k, m => by
    rw [sweep, sweep_len use r]
    split
    · exact touch_len _ _ _
    · rfl
theorem iterF_len (use : Nat → Bool) (cs : List Cn) : ∀ (n : Nat) (m : List Bool), (iterF use cs n m).length = m.length
  | 0, m => rfl
  | n + 1, m => by rw [iterF, iterF_len use cs n, sweep_len]
theorem clo_len (use : Nat → Bool) (cs : List Cn) (m : List Bool) : (clo use cs m).length = m.length := iterF_len _ _ _ _

/-- How many are not reached. -/
def nF (m : List Bool) : Nat := m.count false
theorem nF_set {m : List Bool} {a : Nat} (h : m.getD a false = false) (ha : a < m.length) : nF (m.set a true) + 1 = nF m := by
  induction m generalizing a with
  | nil => simp at ha
  | cons x r ih =>
    cases a with
    | zero =>
      simp at h
      subst h
      simp [nF]
    | succ a =>
      simp only [List.getD_cons_succ] at h
      have := ih h (by simpa using ha)
      simp only [nF, List.set_cons_succ, List.count_cons] at this ⊢
      omega
theorem set_same {m : List Bool} {a : Nat} (h : m.getD a false = true) : m.set a true = m := by
  induction m generalizing a with
  | nil => rfl
  | cons x r ih =>
    cases a with
    | zero => simp at h; rw [h]; rfl
    | succ a => simp only [List.getD_cons_succ] at h; simp [ih h]
theorem getD_set (m : List Bool) (a i : Nat) (v : Bool) : (m.set a v).getD i false = if i = a ∧ a < m.length then v else m.getD i false := by
  simp only [List.getD_eq_getElem?_getD, List.getElem?_set]
  by_cases h : a = i
  · subst h
    by_cases h2 : a < m.length
    · simp [h2]
    · simp [h2]
  · rw [if_neg h, if_neg (fun e => h e.1.symm)]

theorem nF_touch {m : List Bool} {a b : Nat} (ha : a < m.length) (hb : b < m.length) : nF (touch m a b) + (if (m.getD a false != m.getD b false) then 1 else 0) = nF m := by
  unfold touch
  cases h1 : m.getD a false <;> cases h2 : m.getD b false
  · rfl
  · have e : (m.set a true).set b true = m.set a true := set_same (by rw [getD_set]; split; rfl; exact h2)
    simp only [bne_iff_ne, ne_eq, Bool.false_eq_true, not_false_eq_true, if_true, e]
    exact nF_set h1 ha
  · have e : m.set a true = m := set_same h1
    simp only [bne_iff_ne, ne_eq, Bool.true_eq_false, not_false_eq_true, if_true, e]
    exact nF_set h2 hb
  · rfl

/-- Conduits lead from nodes to nodes. -/
def inR (n : Nat) (cs : List Cn) : Prop := ∀ c ∈ cs, 0 ≤ c.fr ∧ c.fr < n ∧ 0 ≤ c.to ∧ c.to < n

theorem sweep_nF (use : Nat → Bool) : ∀ (cs : List Cn) (k : Nat) (m : List Bool), inR m.length cs → nF (sweep use k cs m) + (if sweepC use k cs m then 1 else 0) ≤ nF m ∧ (sweepC use k cs m = false → sweep use k cs m = m)
  | [], k, m, _ => ⟨by simp [sweep, sweepC], fun _ => rfl⟩
  | c :: r, k, m, h => by
    have hc := h c (by simp)
    have ht := nF_touch (m := m) (a := c.fr.toNat) (b := c.to.toNat) (by omega) (by omega)
    cases hu : use k with
    | false =>
      have := sweep_nF use r (k + 1) m (fun x hx => h x (by simp [hx]))
      simp only [sweep, sweepC, hu, Bool.false_and, Bool.false_or, Bool.false_eq_true, if_false]
      exact this
    | true =>
      have ih := sweep_nF use r (k + 1) (touch m c.fr.toNat c.to.toNat) (fun x hx => by rw [touch_len]; exact h x (by simp [hx]))
      simp only [sweep, sweepC, hu, Bool.true_and, if_true]
      cases hd : (m.getD c.fr.toNat false != m.getD c.to.toNat false) with
      | true =>
        rw [hd] at ht
        simp only [if_true] at ht
        simp only [Bool.true_or, if_true]
        refine ⟨?_, fun h => by cases h⟩
        have := ih.1
        split at this <;> omega
      | false =>
        have e : touch m c.fr.toNat c.to.toNat = m := by unfold touch; rw [hd]; rfl
        rw [e] at ih ⊢
        simpa using ih

theorem sweep_fix {use : Nat → Bool} {cs : List Cn} {m : List Bool} (h : inR m.length cs) (e : sweep use 0 cs m = m) : sweepC use 0 cs m = false := by
  have := (sweep_nF use cs 0 m h).1
  rw [e] at this
  cases h : sweepC use 0 cs m with
  | false => rfl
  | true => rw [h] at this; simp only [if_true] at this; omega

theorem iterF_fix {use : Nat → Bool} {cs : List Cn} {m : List Bool} (e : sweep use 0 cs m = m) : ∀ n, iterF use cs n m = m
  | 0 => rfl
  | n + 1 => by rw [iterF, e, iterF_fix e n]
theorem iterF_succ (use : Nat → Bool) (cs : List Cn) : ∀ (n : Nat) (m : List Bool), iterF use cs n (sweep use 0 cs m) = sweep use 0 cs (iterF use cs n m)
  | 0, m => rfl
  | n + 1, m => by rw [iterF, iterF_succ use cs n, iterF]
theorem iterF_closed {use : Nat → Bool} {cs : List Cn} : ∀ (n : Nat) (m : List Bool), inR m.length cs → nF m ≤ n → sweep use 0 cs (iterF use cs n m) = iterF use cs n m
  | 0, m, h, hn => by
    have := sweep_nF use cs 0 m h
    cases hc : sweepC use 0 cs m with
    | false => exact this.2 hc
    | true => rw [hc] at this; simp only [if_true] at this; omega
  | n + 1, m, h, hn => by
    have := sweep_nF use cs 0 m h
    cases hc : sweepC use 0 cs m with
    | false =>
      have e := this.2 hc
      rw [iterF_fix e, e]
    | true =>
      rw [hc] at this
      simp only [if_true] at this
      rw [iterF]
      exact iterF_closed n _ (by rw [sweep_len]; exact h) (by omega)
theorem nF_le (m : List Bool) : nF m ≤ m.length := List.count_le_length
theorem clo_closed {use : Nat → Bool} {cs : List Cn} {m : List Bool} (h : inR m.length cs) : sweep use 0 cs (clo use cs m) = clo use cs m := iterF_closed _ _ h (nF_le m)
theorem clo_sweep {use : Nat → Bool} {cs : List Cn} {m : List Bool} (h : inR m.length cs) : clo use cs (sweep use 0 cs m) = clo use cs m := by
  unfold clo
  rw [sweep_len, iterF_succ]
  exact clo_closed h
theorem clo_fix {use : Nat → Bool} {cs : List Cn} {m : List Bool} (e : sweep use 0 cs m = m) : clo use cs m = m := iterF_fix e _

/-- The reference's step. -/
theorem touch_or {m : List Bool} {a b : Nat} : (if m.getD a false || m.getD b false then (m.set a true).set b true else m) = touch m a b := by
  unfold touch
  cases h1 : m.getD a false <;> cases h2 : m.getD b false
  · rfl
  · rfl
  · rfl
  · have e : m.set a true = m := set_same h1
    have e2 : m.set b true = m := set_same h2
    simp [e, e2]

theorem sweep_drop {use : Nat → Bool} {cs : List Cn} {k : Nat} (m : List Bool) (h : k < cs.length) : sweep use k (cs.drop k) m = sweep use (k + 1) (cs.drop (k + 1)) (if use k then touch m (cs.getD k cn0).fr.toNat (cs.getD k cn0).to.toNat else m) := by
  have e2 : cs.getD k cn0 = cs[k] := by simp [List.getD_eq_getElem?_getD, h]
  rw [List.drop_eq_getElem_cons h, sweep, e2]
theorem sweepC_drop {use : Nat → Bool} {cs : List Cn} {k : Nat} (m : List Bool) (h : k < cs.length) : sweepC use k (cs.drop k) m = ((use k && (m.getD (cs.getD k cn0).fr.toNat false != m.getD (cs.getD k cn0).to.toNat false)) || sweepC use (k + 1) (cs.drop (k + 1)) (if use k then touch m (cs.getD k cn0).fr.toNat (cs.getD k cn0).to.toNat else m)) := by
  have e2 : cs.getD k cn0 = cs[k] := by simp [List.getD_eq_getElem?_getD, h]
  rw [List.drop_eq_getElem_cons h, sweepC, e2]
end Go.Tr

/- Contracts of chapter 2: the least number, the flow through a conduit. Conditions: none. -/
namespace Go.Tr
open Go Go.Proofs
set_option maxRecDepth 20000
set_option maxHeartbeats 8000000

/-- The least number from a on, below b, of which p holds (b: none), by halves. -/
def leastF (p : Int → Bool) : Nat → Int → Int → Int
  | 0, a, _ => a
  | n + 1, a, b => if a < b then (bif p (a + (b - a) / 2) then leastF p n a (a + (b - a) / 2) else leastF p n (a + (b - a) / 2 + 1) b) else a

theorem S23 (g : FuncId) (l1 l2 : List AV) (p : Int → Bool) (a b : Int) (n : Nat) (ha : 0 ≤ a) (hb : b ≤ 4000000000000000000) (hn : (b - a).toNat < 2 ^ n)
    (hp : ∀ x, a ≤ x → x < b → SP g [i64 x, .rptr l1, .rptr l2] (vb (p x)) false) : SP 23 [i64 a, i64 b, .func (.func g) 0 [.rptr l1, .rptr l2]] (i64 (leastF p n a b)) false := by
  refine sound (d := 2) tok2 mixed2 Try.func23 (by kernel_rfl) (by kernel_rfl) ?_
  refine ⟨[], [0, 1, 2], fun s m => ∃ (n' : Nat) (a' b' : Int), a ≤ a' ∧ b' ≤ b ∧ (b' - a').toNat < 2 ^ n' ∧ leastF p n' a' b' = leastF p n a b ∧ s = ⟨[(0, i64 a'), (1, i64 b'), (2, .func (.func g) 0 [.rptr l1, .rptr l2])], ⟨[], [], none, 0⟩, []⟩ ∧ m = n',
    ⟨_, _, ⟨n, a, b, by omega, by omega, hn, rfl, rfl, rfl⟩, ⟨⟨rfl, rfl, rfl, rfl⟩, trivial, trivial⟩⟩, ?_⟩
  rintro s0 m0 ⟨n', a', b', h1, h2, h3, h4, rfl, hm0⟩
  refine ifB_intro (fun hc => ?_) (fun hc => ?_)
  · have hlt : a' < b' := of_decide_eq_true hc
    obtain ⟨k, rfl⟩ : ∃ k, n' = k + 1 := by
      cases n' with
      | zero => simp at h3; omega
      | succ k => exact ⟨k, rfl⟩
    have ht : (b' - a').tdiv 2 = (b' - a') / 2 := Int.tdiv_eq_ediv_of_nonneg (by omega)
    have hs : (b' - a').toNat < 2 ^ k * 2 := by rw [← Nat.pow_succ]; exact h3
    refine ⟨inK64 (by omega) (by omega), ?_⟩
    refine ⟨⟨by omega, inK64 (by omega) (by omega)⟩, ?_⟩
    refine ⟨inK64 (by omega) (by omega), ?_⟩
    refine .inl ⟨_, _, byS (d := 2) (hp (a' + (b' - a').tdiv 2) (by omega) (by omega)), ?_⟩
    rw [leastF, if_pos hlt] at h4
    rw [← ht] at h4
    refine ifB_intro (fun hx => ?_) (fun hx => ?_)
    · rw [hx, cond_true] at h4
      refine ⟨_, _, ⟨⟨k, a', a' + (b' - a').tdiv 2, by omega, by omega, by omega, h4, rfl, rfl⟩, by omega⟩, ⟨⟨rfl, rfl, rfl, rfl⟩, trivial, trivial⟩⟩
    · rw [hx, cond_false] at h4
      refine ⟨inK64 (by omega) (by omega), ?_⟩
      refine ⟨_, _, ⟨⟨k, a' + (b' - a').tdiv 2 + 1, b', by omega, by omega, by omega, h4, rfl, rfl⟩, by omega⟩, ⟨⟨rfl, rfl, rfl, rfl⟩, trivial, trivial⟩⟩
  · have hlt : ¬ a' < b' := of_decide_eq_false hc
    have h5 : leastF p n' a' b' = a' := by cases n' <;> simp [leastF, hlt]
    refine ⟨?_, nofun⟩
    show i64 _ = i64 _
    rw [← h4, h5]

theorem S41 (x r d : Int) (hx : 0 ≤ x) (hx2 : x ≤ 1000000) (hr : 0 ≤ r) (hr2 : r ≤ 1000000) : SP 41 [i64 x, .rptr [i64 r], .rptr [i64 d]] (vb (decide (r * x * x ≥ d))) false := by
  have h0 : 0 ≤ r * x := Int.mul_nonneg hr hx
  have h1 : r * x ≤ 1000000 * 1000000 := Int.mul_le_mul hr2 hx2 hx (by omega)
  have h2 : 0 ≤ r * x * x := Int.mul_nonneg h0 hx
  have h3 : r * x * x ≤ 1000000000000 * 1000000 := Int.mul_le_mul (by omega) hx2 hx (by omega)
  refine sound (d := 2) tok2 mixed2 Try.func41 (by kernel_rfl) (by kernel_rfl) ?_
  refine ⟨inK64 (by omega) (by omega), ?_⟩
  refine ⟨inK64 (by omega) (by omega), ?_⟩
  refine ⟨?_, nofun⟩
  rfl

/-- The flow through a conduit at a drop: rounded down and up. -/
def hiF (r d : Int) : Int := leastF (fun x => decide (r * x * x ≥ d)) 15 0 31623
def loOf (r d h : Int) : Int := if r * h * h > d then h - 1 else h
def loF (r d : Int) : Int := loOf r d (hiF r d)

theorem ave2 (a b : Int) : AVE 5 (.agg [i64 a, i64 b]) (.agg [i64 a, i64 b]) := by
  refine ⟨rfl, fun i x y h1 h2 => ?_⟩
  match i, h1, h2 with
  | 0, h1, h2 => cases h1; cases h2; rfl
  | 1, h1, h2 => cases h1; cases h2; rfl

theorem leastF_mem (p : Int → Bool) : ∀ (n : Nat) (a b : Int), a ≤ b → a ≤ leastF p n a b ∧ leastF p n a b ≤ b
  | 0, a, b, h => ⟨Int.le_refl _, h⟩
  | n + 1, a, b, h => by
    unfold leastF
    split
    · rename_i hlt
      cases p (a + (b - a) / 2) with
      | true => have := leastF_mem p n a (a + (b - a) / 2) (by omega); simp only [cond_true]; omega
      | false => have := leastF_mem p n (a + (b - a) / 2 + 1) b (by omega); simp only [cond_false]; omega
    · omega

theorem S28 (r d : Int) (hr : 0 ≤ r) (hr2 : r ≤ 1000000) : SP 28 [i64 r, i64 d] (.agg [i64 (loF r d), i64 (hiF r d)]) false := by
  have hm := leastF_mem (fun x => decide (r * x * x ≥ d)) 15 0 31623 (by omega)
  have hm1 : 0 ≤ hiF r d := hm.1
  have hm2 : hiF r d ≤ 31623 := hm.2
  have hS : SP 23 [i64 0, i64 31623, .func (.func 41) 0 [.rptr [i64 r], .rptr [i64 d]]] (i64 (hiF r d)) false :=
    S23 41 [i64 r] [i64 d] (fun x => decide (r * x * x ≥ d)) 0 31623 15 (by omega) (by omega) (by decide) (fun x h1 h2 => S41 x r d h1 (by omega) hr hr2)
  have hlo : loF r d = loOf r d (hiF r d) := rfl
  rw [hlo]
  clear hm hlo
  generalize hiF r d = H at *
  have h0 : 0 ≤ r * H := Int.mul_nonneg hr hm1
  have h1 : r * H ≤ 1000000 * 1000000 := Int.mul_le_mul hr2 (by omega) hm1 (by omega)
  have h2 : 0 ≤ r * H * H := Int.mul_nonneg h0 hm1
  have h3 : r * H * H ≤ 1000000000000 * 1000000 := Int.mul_le_mul (by omega) (by omega) hm1 (by omega)
  refine sound (d := 2) tok2 mixed2 Try.func28 (by kernel_rfl) (by kernel_rfl) ?_
  refine .inl ⟨_, _, byS (d := 2) (hS), ?_⟩
  refine ⟨inK64 (by omega) (by omega), ?_⟩
  refine ⟨inK64 (by omega) (by omega), ?_⟩
  refine ifB_intro (fun h => ?_) (fun h => ?_)
  · have h' : r * H * H > d := of_decide_eq_true h
    refine ⟨inK64 (by omega) (by omega), ?_⟩
    refine ⟨?_, nofun⟩
    show AVE 5 (.agg [i64 (H - 1), i64 H]) _
    have e : loOf r d H = H - 1 := if_pos h'
    rw [e]
    exact ave2 _ _
  · have h' : ¬ r * H * H > d := of_decide_eq_false h
    refine ⟨?_, nofun⟩
    show AVE 5 (.agg [i64 H, i64 H]) _
    have e : loOf r d H = H := if_neg h'
    rw [e]
    exact ave2 _ _
end Go.Tr

/- A contract whose result holds no references: the memory of the arguments stays the caller's own. Conditions: none. -/
namespace Go.Tr
open Go Go.RowKit

def plain0 : AV → Bool
  | .val _ => true
  | _ => false
def plain1 : AV → Bool
  | .agg l => l.all plain0
  | x => plain0 x
def plainA : AV → Bool
  | .tuple l => l.all plain1
  | x => plain1 x

theorem adoptL_plain : ∀ (l : List AV) (n : Nat), l.all plain0 = true → adoptL l n = (l, [])
  | [], n, _ => rfl
  | x :: r, n, h => by
    simp only [List.all_cons, Bool.and_eq_true] at h
    cases x with
    | val v => simp [adoptL, adoptL_plain r n h.2]
    | _ => simp [plain0] at h
theorem adopt1_plain (x : AV) (n : Nat) (h : plain1 x = true) : adopt1 x n = (x, []) := by
  cases x with
  | agg l => simp only [adopt1]; rw [adoptL_plain l n h]
  | val v => rfl
  | _ => simp [plain1, plain0] at h
theorem adoptT_plain : ∀ (l : List AV) (n : Nat), l.all plain1 = true → adoptT l n = (l, [])
  | [], n, _ => rfl
  | x :: r, n, h => by
    simp only [List.all_cons, Bool.and_eq_true] at h
    simp only [adoptT, adopt1_plain x n h.1, List.length_nil, Nat.add_zero, adoptT_plain r n h.2, List.append_nil]
theorem adopt_plain (x : AV) (n : Nat) (h : plainA x = true) : adopt x n = (x, []) := by
  cases x with
  | tuple l => simp only [adopt]; rw [adoptT_plain l n h]
  | agg l => exact adopt1_plain (.agg l) n h
  | val v => rfl
  | _ => simp [plainA, plain1, plain0] at h

section
variable {P : Program} {w : World} {p q : Nat → Prop}
theorem VT_plain0 {x : AV} {u : Value} (hx : plain0 x = true) (h : VT P w p x u) : VT P w q x u := by
  cases h with
  | val => exact .val _
  | _ => simp [plain0] at hx
theorem VT_plain1 {x : AV} {u : Value} (hx : plain1 x = true) (h : VT P w p x u) : VT P w q x u := by
  cases h with
  | val => exact .val _
  | agg l vs h1 h2 h3 => exact .agg l vs h1 h2 fun i x hi => VT_plain0 (List.all_eq_true.1 hx x (List.mem_of_getElem? hi)) (h3 i x hi)
  | _ => simp [plain1, plain0] at hx
theorem VT_plain {x : AV} {u : Value} (hx : plainA x = true) (h : VT P w p x u) : VT P w q x u := by
  cases h with
  | val => exact .val _
  | agg l vs h1 h2 h3 => exact VT_plain1 hx (.agg l vs h1 h2 h3)
  | tuple l vs h1 h3 => exact .tuple l vs h1 fun i x hi => VT_plain1 (List.all_eq_true.1 hx x (List.mem_of_getElem? hi)) (h3 i x hi)
  | _ => simp [plainA, plain1, plain0] at hx

theorem Sound1.pl {f : FuncId} {args : List AV} {r : AV} (h : Sound1 P f args r false) (hr : plainA r = true) : Sound1 P f args r true := by
  refine ⟨h.1, fun w q vs hq hs hv => ?_⟩
  refine Calls.mono (h.2 w q vs hq hs hv) ?_
  rintro e w' ⟨u, h1, h2, h3⟩
  refine ⟨u, h1, h2, fun n yv => ⟨fun _ => none, fun _ => False, nofun, nofun, ?_, ?_, nofun⟩⟩
  · rw [adopt_plain r n hr]
    exact .tree (VT_plain hr h3)
  · intro i k oi hi
    rw [adopt_plain r n hr] at hi
    simp at hi
end
end Go.Tr

/- Contracts of chapter 2: errors of coefficients and drops. Conditions: none. -/
namespace Go.Tr
open Go Go.Proofs
set_option maxRecDepth 20000
set_option maxHeartbeats 8000000

def rOk (n : Int) : Bool := decide (1 ≤ n ∧ n ≤ 1000)
def rE (n : Int) : Int := if 1 ≤ n ∧ n ≤ 1000 then 0 else 2
def dE (d : Int) : Int := if 0 ≤ d ∧ d ≤ 1000000000 then 0 else 2
def rsE (l : List Int) : Int := if l.length = 0 then 10 else if 8 < l.length then 8 else if l.all rOk then 0 else 2

theorem rE_ok (n : Int) : rE n = if rOk n then 0 else 2 := by unfold rE rOk; simp only [decide_eq_true_eq]
theorem S6 (n : Int) : SP 6 [i64 n] (i64 (rE n)) false := by
  refine sound (d := 2) tok2 mixed2 Try.func6 (by kernel_rfl) (by kernel_rfl) ?_
  conv => whnf
  refine .inl ⟨_, _, byX rfl (Sound1.pl (S5 _ _ _) rfl), ?_⟩
  conv => whnf
  refine ifB_not ?_
  conv => whnf
  refine ifB_dec (fun w1 => ?_) (fun w1 => ?_)
  · conv => whnf
    refine ⟨?_, nofun⟩
    (show i64 _ = i64 _; unfold rE; split <;> first | rfl | (exfalso; omega))
  · conv => whnf
    refine ⟨?_, nofun⟩
    (show i64 _ = i64 _; unfold rE; split <;> first | rfl | (exfalso; omega))

theorem S27 (d : Int) : SP 27 [i64 d] (i64 (dE d)) false := by
  refine sound (d := 2) tok2 mixed2 Try.func27 (by kernel_rfl) (by kernel_rfl) ?_
  conv => whnf
  refine .inl ⟨_, _, byX rfl (Sound1.pl (S22 _ _ _) rfl), ?_⟩
  conv => whnf
  refine .inl ⟨_, _, byX rfl (Sound1.pl (S21 _ _) rfl), ?_⟩
  conv => whnf
  refine ⟨?_, nofun⟩
  (show i64 _ = i64 _; unfold dE; split <;> simp_all)

theorem S40 (n : Int) : SP 40 [i64 n] (vb (!rOk n)) false := by
  refine sound (d := 2) tok2 mixed2 Try.func40 (by kernel_rfl) (by kernel_rfl) ?_
  conv => whnf
  refine .inl ⟨_, _, byX rfl (Sound1.pl (S22 _ _ _) rfl), ?_⟩
  conv => whnf
  refine ⟨?_, nofun⟩
  (rfl)

/-- The index of the first number of which p holds; -1: none. -/
def idxF (p : Int → Bool) : Nat → List Int → Int
  | _, [] => -1
  | k, x :: r => if p x then k else idxF p (k + 1) r
theorem idxF_drop (p : Int → Bool) (l : List Int) (k : Nat) (h : k < l.length) : idxF p k (l.drop k) = if p (l.getD k 0) then (k : Int) else idxF p (k + 1) (l.drop (k + 1)) := by
  rw [List.drop_eq_getElem_cons h, idxF]; simp [List.getD, h]
theorem idxF_any (p : Int → Bool) : ∀ (l : List Int) (k : Nat), decide (idxF p k l ≥ 0) = l.any p
  | [], k => rfl
  | x :: r, k => by
    rw [idxF, List.any_cons]
    cases p x with
    | true => simp
    | false => simpa using idxF_any p r (k + 1)

theorem S54 (g : FuncId) (p : Int → Bool) (l : List Int) (hl : l.length ≤ 1000000000) (hp : ∀ n, SP g [i64 n] (vb (p n)) true) : SP 54 [ints l, .func (.func g) 0 []] (i64 (idxF p 0 l)) false := by
  generalize hR : idxF p 0 l = R
  refine sound (d := 2) tok2 mixed2 Try.func54 (by kernel_rfl) (by kernel_rfl) ?_
  conv => whnf
  refine ⟨[], [0, 1, 7, 8], fun st mq => ∃ (k : Nat), (k ≤ l.length) ∧ (idxF p k (l.drop k) = R) ∧ st = ⟨[(0, ints l), (1, .func (.func g) 0 []), (7, i64 l.length), (8, i64 k)], ⟨[], [], none, 0⟩, []⟩ ∧ mq = l.length - k,
    ⟨_, _, ⟨0, by omega, hR, rfl, rfl⟩, ⟨⟨rfl, rfl, rfl, rfl⟩, trivial, trivial⟩⟩, ?_⟩
  rintro s0 m0 ⟨k, hk, hf, rfl, hmeas⟩
  conv => whnf
  conv => whnf
  refine ifB_dec (fun w1 => ?_) (fun w1 => ?_)
  · conv => whnf
    conv => whnf
    refine ⟨⟨(by omega), (by omega)⟩, ?_⟩
    conv => whnf
    conv => whnf
    refine .inl ⟨_, _, byX rfl (hp _), ?_⟩
    conv => whnf
    conv => whnf
    refine ifB_intro (fun w2 => ?_) (fun w2 => ?_)
    · conv => whnf
      conv => whnf
      refine ⟨?_, nofun⟩
      have h : p (l.getD k 0) = true := w2
      rw [idxF_drop p l k (by omega), if_pos h] at hf
      show i64 _ = i64 _
      rw [← hf]
    · conv => whnf
      conv => whnf
      refine ⟨inK64 (by omega) (by omega), ?_⟩
      have h : p (l.getD k 0) = false := w2
      rw [idxF_drop p l k (by omega), if_neg (by rw [h]; decide)] at hf
      conv => whnf
      conv => whnf
      refine ⟨_, _, ⟨⟨k + 1, by omega, hf, rfl, rfl⟩, by omega⟩, ⟨⟨rfl, rfl, rfl, rfl⟩, trivial, trivial⟩⟩
  · conv => whnf
    conv => whnf
    refine ⟨?_, nofun⟩
    have h : k = l.length := by omega
    subst h
    rw [List.drop_length] at hf
    show i64 _ = i64 _
    rw [← hf]; rfl

theorem S39 (g : FuncId) (p : Int → Bool) (l : List Int) (hl : l.length ≤ 1000000000) (hp : ∀ n, SP g [i64 n] (vb (p n)) true) : SP 39 [ints l, .func (.func g) 0 []] (vb (l.any p)) false := by
  have h149 := S54 g p l hl hp
  refine sound (d := 2) tok2 mixed2 Try.func39 (by kernel_rfl) (by kernel_rfl) ?_
  conv => whnf
  refine .inl ⟨_, _, byX rfl (Sound1.pl (h149) rfl), ?_⟩
  conv => whnf
  refine ⟨?_, nofun⟩
  show vb (decide (idxF p 0 l ≥ 0)) = _
  rw [idxF_any]

theorem S19f (l : List Int) (f : Nat → List AV) (hl : l.length ≤ 1000000000) (h : ∀ i, i < l.length → f i = [i64 (l.getD i 0)]) : SP 19 [.rslice 1 l.length f] (i64 (firstOf l)) false :=
  (S19 l hl).args rfl fun i y x hy hx => by
    match i, hy, hx with
    | 0, hy, hx => cases hy; cases hx; exact ⟨rfl, rfl, h⟩
theorem S19_2 (a b : Int) (f : Nat → List AV) (h : f 0 = [i64 a] ∧ f 1 = [i64 b]) : SP 19 [.rslice 1 2 f] (i64 (firstOf [a, b])) false :=
  S19f [a, b] f (Nat.le_of_ble_eq_true rfl) fun i hi => match i, hi with | 0, _ => h.1 | 1, _ => h.2
theorem S19_3 (a b c : Int) (f : Nat → List AV) (h : f 0 = [i64 a] ∧ f 1 = [i64 b] ∧ f 2 = [i64 c]) : SP 19 [.rslice 1 3 f] (i64 (firstOf [a, b, c])) false :=
  S19f [a, b, c] f (Nat.le_of_ble_eq_true rfl) fun i hi => match i, hi with | 0, _ => h.1 | 1, _ => h.2.1 | 2, _ => h.2.2

theorem any_not_rOk (l : List Int) : (l.any fun n => !rOk n) = !(l.all rOk) := by
  induction l with
  | nil => rfl
  | cons x r ih => rw [List.any_cons, List.all_cons, ih]; cases rOk x <;> rfl

theorem S40p (n : Int) : SP 40 [i64 n] (vb (!rOk n)) true := (S40 n).pl rfl
theorem S20 (l : List Int) (hl : l.length ≤ 1000000000) : SP 20 [ints l] (i64 (rsE l)) false := by
  have h119 := S39 40 (fun n => !rOk n) l hl S40p
  refine sound (d := 2) tok2 mixed2 Try.func20 (by kernel_rfl) (by kernel_rfl) ?_
  conv => whnf
  refine .inl ⟨_, _, byX rfl (Sound1.pl (h119) rfl), ?_⟩
  conv => whnf
  refine .inl ⟨_, _, byX rfl (Sound1.pl (S21 _ _) rfl), ?_⟩
  conv => whnf
  refine .inl ⟨_, _, byX rfl (Sound1.pl (S21 _ _) rfl), ?_⟩
  conv => whnf
  refine .inl ⟨_, _, byX rfl (Sound1.pl (S21 _ _) rfl), ?_⟩
  conv => whnf
  refine .inl ⟨_, _, byX rfl (Sound1.pl (S19_3 _ _ _ _ ⟨rfl, rfl, rfl⟩) rfl), ?_⟩
  conv => whnf
  refine ⟨?_, nofun⟩
  show i64 (firstOf _) = i64 _
  rw [any_not_rOk, Bool.not_not]
  unfold rsE
  simp only [decide_eq_true_eq]
  by_cases h1 : l.length = 0
  · rw [if_pos h1, if_neg (by omega)]; rfl
  · rw [if_neg h1, if_pos (by omega)]
    by_cases h2 : 8 < l.length
    · rw [if_pos h2, if_neg (by omega)]; rfl
    · rw [if_neg h2, if_pos (by omega)]
      cases l.all rOk <;> rfl

theorem all_drop' {α : Type} {p : α → Bool} {l : List α} {k : Nat} (h : k < l.length) (d : α) : (l.drop k).all p = (p (l.getD k d) && (l.drop (k + 1)).all p) := by
  have e : l.getD k d = l[k] := by simp [List.getD_eq_getElem?_getD, h]
  rw [List.drop_eq_getElem_cons h, List.all_cons, e]

def loS (d : Int) : List Int → Int
  | [] => 0
  | r :: l => loF r d + loS d l
def hiS (d : Int) : List Int → Int
  | [] => 0
  | r :: l => hiF r d + hiS d l
theorem hiF_mem (r d : Int) : 0 ≤ hiF r d ∧ hiF r d ≤ 31623 := leastF_mem _ 15 0 31623 (by omega)
theorem loF_mem (r d : Int) : -1 ≤ loF r d ∧ loF r d ≤ 31623 := by
  have := hiF_mem r d
  unfold loF loOf
  split <;> omega
theorem S25 (l : List Int) (hl : l.length ≤ 1000) (hr : ∀ r ∈ l, 0 ≤ r ∧ r ≤ 1000000) (d : Int) : SP 25 [ints l, i64 d] (.agg [i64 (loS d l), i64 (hiS d l)]) false := by
  refine sound (d := 2) tok2 mixed2 Try.func25 (by kernel_rfl) (by kernel_rfl) ?_
  conv => whnf
  refine ⟨[], [0, 1, 4, 5, 9, 10, 11], fun st mq => ∃ (k : Nat) (a : Int) (b : Int), (k ≤ l.length) ∧ (a + loS d (l.drop k) = loS d l) ∧ (b + hiS d (l.drop k) = hiS d l) ∧ (-k ≤ a ∧ a ≤ 31623 * k ∧ 0 ≤ b ∧ b ≤ 31623 * k) ∧ st = ⟨[(0, ints l), (1, i64 d), (4, .optr 0 0 0 0), (5, .optr 1 0 0 0), (9, ints l), (10, i64 l.length), (11, i64 k)], ⟨[⟨2, 1, fun _ => [i64 0, i64 0], 0, false, true, true⟩, ⟨2, 1, fun _ => [i64 a, i64 b], 0, false, true, true⟩], [], none, 0⟩, []⟩ ∧ mq = l.length - k,
    ⟨_, _, ⟨0, 0, 0, by omega, Int.zero_add _, Int.zero_add _, by omega, rfl, rfl⟩, ⟨⟨rfl, rfl, rfl, rfl⟩, ⟨⟨rfl, rfl, rfl, rfl, fun _ => rfl, fun _ _ => rfl⟩, ⟨⟨rfl, rfl, rfl, rfl, fun _ => rfl, fun _ _ => rfl⟩, trivial⟩⟩, trivial⟩⟩, ?_⟩
  rintro s0 m0 ⟨k, a, b, hk, ha, hb, hc, rfl, hmeas⟩
  have hx : k < l.length → 0 ≤ l.getD (k : Int).toNat 0 ∧ l.getD (k : Int).toNat 0 ≤ 1000000 := fun h => hr _ (by simp [List.getD_eq_getElem?_getD, h])
  have hm1 := hiF_mem (l.getD (k : Int).toNat 0) d
  have hm2 := loF_mem (l.getD (k : Int).toNat 0) d
  conv => whnf
  conv => whnf
  refine ifB_dec (fun w1 => ?_) (fun w1 => ?_)
  · conv => whnf
    conv => whnf
    refine ⟨⟨(by omega), (by omega)⟩, ?_⟩
    conv => whnf
    conv => whnf
    refine .inl ⟨_, _, byX rfl (Sound1.pl (S28 _ _ (by omega) (by omega)) rfl), ?_⟩
    conv => whnf
    conv => whnf
    refine ⟨inK64 (by omega) (by omega), ?_⟩
    conv => whnf
    conv => whnf
    refine ⟨inK64 (by omega) (by omega), ?_⟩
    conv => whnf
    conv => whnf
    refine ⟨inK64 (by omega) (by omega), ?_⟩
    have e := List.drop_eq_getElem_cons (l := l) (i := k) (by omega)
    have e2 : l.getD (k : Int).toNat 0 = l[k] := by simp [List.getD_eq_getElem?_getD, show k < l.length by omega]
    rw [e, loS, ← e2] at ha
    rw [e, hiS, ← e2] at hb
    conv => whnf
    conv => whnf
    refine ⟨_, _, ⟨⟨k + 1, _, _, by omega, by (rw [Int.add_assoc]; exact ha), by (rw [Int.add_assoc]; exact hb), by omega, rfl, rfl⟩, by omega⟩, ⟨⟨rfl, rfl, rfl, rfl⟩, ⟨⟨rfl, rfl, rfl, rfl, fun _ => rfl, fun _ _ => rfl⟩, ⟨⟨rfl, rfl, rfl, rfl, fun _ => rfl, fun _ _ => rfl⟩, trivial⟩⟩, trivial⟩⟩
  · conv => whnf
    conv => whnf
    refine ⟨?_, nofun⟩
    have e : k = l.length := by omega
    subst e
    simp only [List.drop_length, loS, hiS, Int.add_zero] at ha hb
    rw [← ha, ← hb]
    exact ave2 _ _

theorem firstOf2 (a b : Int) : firstOf [a, b] = if a = 0 then (if b = 0 then 0 else b) else a := rfl
def parE (l : List Int) (d : Int) : Int := if rsE l = 0 then dE d else rsE l
theorem parE_eq (l : List Int) (d : Int) : firstOf [rsE l, dE d] = parE l d := by
  rw [firstOf2]; unfold parE; split
  · split <;> simp_all
  · rfl
theorem rsE_ok {l : List Int} (h : rsE l = 0) : 0 < l.length ∧ l.length ≤ 8 ∧ ∀ r ∈ l, 1 ≤ r ∧ r ≤ 1000 := by
  unfold rsE at h
  split at h
  · cases h
  · split at h
    · cases h
    · split at h
      · rename_i h1 h2 h3
        refine ⟨by omega, by omega, fun r hr => ?_⟩
        have := List.all_eq_true.1 h3 r hr
        unfold rOk at this
        exact of_decide_eq_true this
      · cases h
theorem dE_ok {d : Int} (h : dE d = 0) : 0 ≤ d ∧ d ≤ 1000000000 := by
  unfold dE at h; split at h
  · assumption
  · cases h
theorem parE_ok {l : List Int} {d : Int} (h : parE l d = 0) : (0 < l.length ∧ l.length ≤ 8 ∧ ∀ r ∈ l, 1 ≤ r ∧ r ≤ 1000) ∧ 0 ≤ d ∧ d ≤ 1000000000 := by
  unfold parE at h
  split at h
  · exact ⟨rsE_ok (by assumption), dE_ok h⟩
  · contradiction
def rngA (p : Int × Int) : AV := .agg [i64 p.1, i64 p.2]
def rngE (p : (Int × Int) × Int) : AV := .tuple [rngA p.1, i64 p.2]
def parF (l : List Int) (d : Int) : (Int × Int) × Int := if parE l d = 0 then ((loS d l, hiS d l), 0) else ((0, 0), parE l d)

theorem ave_rng (a b : Int) : AVE 5 (.agg [i64 a, i64 b]) (rngA (a, b)) := ave2 a b
theorem ave_rngE (a b e : Int) (p : (Int × Int) × Int) (h : p = ((a, b), e)) : AVE 5 (.tuple [.agg [i64 a, i64 b], i64 e]) (rngE p) := by
  subst h
  refine ⟨rfl, fun i x y h1 h2 => ?_⟩
  match i, h1, h2 with
  | 0, h1, h2 =>
    cases h1; cases h2
    refine ⟨rfl, fun i x y h1 h2 => ?_⟩
    match i, h1, h2 with
    | 0, h1, h2 => cases h1; cases h2; rfl
    | 1, h1, h2 => cases h1; cases h2; rfl
  | 1, h1, h2 => cases h1; cases h2; rfl

theorem S20_1 (n : Int) (f : Nat → List AV) (h : f 0 = [i64 n]) : SP 20 [.rslice 1 1 f] (i64 (rE n)) false := by
  have := (S20 [n] (by simp)).args (ys := [.rslice 1 1 f]) rfl fun i y x hy hx => by
    match i, hy, hx with
    | 0, hy, hx => cases hy; cases hx; exact ⟨rfl, rfl, fun i hi => match i, hi with | 0, _ => h⟩
  have e : rsE [n] = rE n := by rw [rE_ok]; unfold rsE; simp
  rw [e] at this
  exact this
def thrE (r d : Int) : Int := if rE r = 0 then dE d else rE r
theorem thrE_eq (r d : Int) : firstOf [rE r, dE d] = thrE r d := by
  rw [firstOf2]; unfold thrE; split
  · split <;> simp_all
  · rfl
theorem thrE_ok {r d : Int} (h : thrE r d = 0) : 1 ≤ r ∧ r ≤ 1000 ∧ 0 ≤ d ∧ d ≤ 1000000000 := by
  unfold thrE at h
  split at h
  · rename_i h1
    have h2 := dE_ok h
    unfold rE at h1
    split at h1
    · omega
    · cases h1
  · contradiction
def thrF (r d : Int) : (Int × Int) × Int := if thrE r d = 0 then ((loF r d, hiF r d), 0) else ((0, 0), thrE r d)
theorem S9 (r d : Int) : SP 9 [i64 r, i64 d] (rngE (thrF r d)) false := by
  generalize hR : thrF r d = R
  unfold thrF at hR
  rw [← thrE_eq] at hR
  refine sound (d := 2) tok2 mixed2 Try.func9 (by kernel_rfl) (by kernel_rfl) ?_
  conv => whnf
  refine .inl ⟨_, _, byX rfl (Sound1.pl (S20_1 _ _ rfl) rfl), ?_⟩
  conv => whnf
  refine .inl ⟨_, _, byX rfl (Sound1.pl (S27 _) rfl), ?_⟩
  conv => whnf
  refine .inl ⟨_, _, byX rfl (Sound1.pl (S19_2 _ _ _ ⟨rfl, rfl⟩) rfl), ?_⟩
  conv => whnf
  refine ifB_bne (fun w1 => ?_) (fun w1 => ?_)
  · conv => whnf
    refine ⟨?_, nofun⟩
    rw [if_neg w1] at hR
    exact ave_rngE _ _ _ _ hR.symm
  · conv => whnf
    refine .inl ⟨_, _, byX rfl (Sound1.pl (S28 _ _ ?_ ?_) rfl), ?_⟩
    · have := thrE_ok ((thrE_eq r d).symm.trans w1); omega
    · have := thrE_ok ((thrE_eq r d).symm.trans w1); omega
    · conv => whnf
      refine ⟨?_, nofun⟩
      rw [if_pos w1] at hR
      exact ave_rngE _ _ _ _ hR.symm

theorem ave_ints {k n : Nat} {f : Nat → List AV} {l : List Int} (hn : n = l.length) (hf : ∀ i, i < l.length → f i = [i64 (l.getD i 0)]) : AVE (k + 1) (.rslice 1 n f) (ints l) :=
  ⟨rfl, hn, fun i hi => hf i (hn ▸ hi)⟩
theorem plain_ints (l : List Int) : PlainR (leaves (ints l)) :=
  ⟨fun i _ x hx => by rw [List.mem_singleton] at hx; exact ⟨_, hx⟩, trivial⟩
end Go.Tr

/- Contracts of chapter 2: names. Conditions: none. -/
namespace Go.Tr
open Go Go.Proofs
set_option maxRecDepth 20000
set_option maxHeartbeats 8000000

def byteAt (s : ByteArray) (i : Nat) : Int := ((s.data.toList.getD i 0).toNat : Nat)
abbrev u8 (n : Int) : AV := .val (.int .u8 n)
def isLetter (c : Int) : Bool := decide (97 ≤ c ∧ c ≤ 122) || decide (65 ≤ c ∧ c ≤ 90)
def nameAt (i : Nat) (c : Int) : Bool := isLetter c || (!(decide (i = 0)) && (decide (c = 45) || decide (48 ≤ c ∧ c ≤ 57)))
def nameB (s : ByteArray) : Bool := decide (1 ≤ s.size ∧ s.size ≤ 12) && (List.range s.size).all fun i => nameAt i (byteAt s i)

theorem nameB_false {s : ByteArray} {k : Nat} (hk : k < s.size) (h : nameAt k (byteAt s k) = false) : nameB s = false := by
  unfold nameB
  rw [Bool.and_eq_false_iff]
  refine .inr ?_
  rw [List.all_eq_false]
  exact ⟨k, List.mem_range.2 hk, by rw [h]; exact Bool.false_ne_true⟩
theorem nameB_all {s : ByteArray} (h : ∀ j, j < s.size → nameAt j (byteAt s j) = true) : nameB s = decide (1 ≤ (s.size : Int) ∧ (s.size : Int) ≤ 12) := by
  unfold nameB
  have : (List.range s.size).all (fun i => nameAt i (byteAt s i)) = true := List.all_eq_true.2 fun i hi => h i (List.mem_range.1 hi)
  rw [this, Bool.and_true]
  exact decide_eq_decide.2 (by omega)
theorem byteAt_lt (s : ByteArray) (i : Nat) : 0 ≤ byteAt s i ∧ byteAt s i ≤ 255 := by
  unfold byteAt
  have := (s.data.toList.getD i 0).toNat_lt
  omega

theorem not_t {b : Bool} (h : (!b) = true) : b = false := by cases b <;> simp_all
theorem not_f {b : Bool} (h : (!b) = false) : b = true := by cases b <;> simp_all

theorem S59 (s : ByteArray) (hs : s.size ≤ 9223372036854775807) : SP 59 [sv s] (vb (nameB s)) false := by
  generalize hR : nameB s = R
  refine sound (d := 2) tok2 mixed2 Try.func59 (by kernel_rfl) (by kernel_rfl) ?_
  refine ⟨[], [0, 7, 8, 9], fun st m => ∃ k : Nat, k ≤ s.size ∧ (∀ j, j < k → nameAt j (byteAt s j) = true) ∧
      st = ⟨[(0, sv s), (7, .rslice 1 s.size fun i => [u8 (byteAt s i)]), (8, i64 s.size), (9, i64 k)], ⟨[], [], none, 0⟩, []⟩ ∧ m = s.size - k,
    ⟨_, _, ⟨0, by omega, fun j hj => absurd hj (Nat.not_lt_zero j), rfl, rfl⟩, ⟨⟨rfl, rfl, rfl, rfl⟩, trivial, trivial⟩⟩, ?_⟩
  rintro s0 m0 ⟨k, hk, hf, rfl, rfl⟩
  have hc := byteAt_lt s k
  have hI : inK .i64 (byteAt s k) := inK64 (by omega) (by omega)
  have hk1 : inK .i64 ((k : Int) + 1) ∨ ¬ k < s.size := by
    by_cases h : k < s.size
    · exact .inl (inK64 (by omega) (by omega))
    · exact .inr h
  have bad : nameAt k (byteAt s k) = false → k < s.size → vb false = vb R := fun h hlt => by rw [← hR, nameB_false hlt h]
  have good : nameAt k (byteAt s k) = true → ∀ j, j < k + 1 → nameAt j (byteAt s j) = true := fun h j hj => by
    rcases Nat.lt_succ_iff_lt_or_eq.1 hj with h' | rfl
    · exact hf j h'
    · exact h
  unfold nameAt isLetter at bad good
  refine ifB_intro (fun h1 => ?_) (fun h1 => ?_)
  · have hlt : k < s.size := by have := of_decide_eq_true h1; omega
    refine ⟨⟨by omega, by omega⟩, ?_⟩
    refine ⟨hI, ?_⟩
    refine .inl ⟨_, _, byS (d := 2) (S22 (byteAt s k) 97 122), ?_⟩
    refine ifB_intro (fun h2 => ?_) (fun h2 => ?_)
    · refine ⟨inK64 (by omega) (by omega), ?_⟩
      refine ⟨_, _, ⟨⟨k + 1, by omega, good (by rw [h2]; rfl), rfl, rfl⟩, by omega⟩, ⟨⟨rfl, rfl, rfl, rfl⟩, trivial, trivial⟩⟩
    · refine ⟨hI, ?_⟩
      refine .inl ⟨_, _, byS (d := 2) (S22 (byteAt s k) 65 90), ?_⟩
      refine ifB_intro (fun h3 => ?_) (fun h3 => ?_)
      · have h3' : decide (65 ≤ byteAt s k ∧ byteAt s k ≤ 90) = false := not_t h3
        rw [h2, h3'] at bad good
        refine ifB_intro (fun h4 => ?_) (fun h4 => ?_)
        · have h4' : k = 0 := by have := eq_of_beq h4; omega
          refine ⟨?_, nofun⟩
          exact bad (by simp [h4']) hlt
        · have h4' : ¬ k = 0 := by have := ne_of_beq_false h4; omega
          refine ifB_intro (fun h5 => ?_) (fun h5 => ?_)
          · have h5' : ¬ byteAt s k = 45 := bne_iff_ne.1 h5
            refine ⟨hI, ?_⟩
            refine .inl ⟨_, _, byS (d := 2) (S22 (byteAt s k) 48 57), ?_⟩
            refine ifB_intro (fun h6 => ?_) (fun h6 => ?_)
            · have h6' : decide (48 ≤ byteAt s k ∧ byteAt s k ≤ 57) = false := not_t h6
              refine ⟨?_, nofun⟩
              exact bad (by rw [h6']; simp [h5']) hlt
            · have h6' : decide (48 ≤ byteAt s k ∧ byteAt s k ≤ 57) = true := not_f h6
              refine ⟨inK64 (by omega) (by omega), ?_⟩
              refine ⟨_, _, ⟨⟨k + 1, by omega, good (by rw [h6']; simp [h4']), rfl, rfl⟩, by omega⟩, ⟨⟨rfl, rfl, rfl, rfl⟩, trivial, trivial⟩⟩
          · have h5' : byteAt s k = 45 := bne_eq_false_iff_eq.1 h5
            refine ⟨inK64 (by omega) (by omega), ?_⟩
            refine ⟨_, _, ⟨⟨k + 1, by omega, good (by simp [h4', h5']), rfl, rfl⟩, by omega⟩, ⟨⟨rfl, rfl, rfl, rfl⟩, trivial, trivial⟩⟩
      · have h3' : decide (65 ≤ byteAt s k ∧ byteAt s k ≤ 90) = true := not_f h3
        refine ⟨inK64 (by omega) (by omega), ?_⟩
        refine ⟨_, _, ⟨⟨k + 1, by omega, good (by rw [h3']; simp), rfl, rfl⟩, by omega⟩, ⟨⟨rfl, rfl, rfl, rfl⟩, trivial, trivial⟩⟩
  · have hlt : k = s.size := by have := of_decide_eq_false h1; omega
    refine .inl ⟨_, _, byS (d := 2) (S22 (s.size) 1 12), ?_⟩
    refine ⟨?_, nofun⟩
    show vb _ = vb R
    subst hlt
    rw [← hR, nameB_all hf]

theorem nameB_len {s : ByteArray} (h : ¬ (1 ≤ s.size ∧ s.size ≤ 12)) : nameB s = false := by
  unfold nameB
  rw [decide_eq_false h, Bool.false_and]

end Go.Tr
