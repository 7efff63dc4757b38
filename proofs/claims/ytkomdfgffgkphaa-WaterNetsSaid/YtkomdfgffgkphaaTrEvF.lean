/- The arms of opEv, each by itself. Printed by mkfast.py out of TrA.lean. Conditions: none. -/
import Derived.Test.YtkomdfgffgkphaaTrDC
namespace Go.Tr
open Go Go.RowKit
section
variable (T : Nat → Option TI) (ρ : Operand → AV) (h : Hp)

def ev_pick (c a b : Operand) : Res :=
  match ρ c with
  | .val (.bool true) => .ok (ρ a) h
  | .val (.bool false) => .ok (ρ b) h
  | _ => .bad

def ev_alloc (t : TypeId) : Res :=
  match T t with
  | some ti => .ok (.optr h.blocks.length 0 0 0) (h.addB { es := ti.size, len := 1, f := fun _ => zeroCells ti })
  | none => .bad

def ev_box (t : TypeId) (x : Operand) : Res :=
  match T t with
  | some ti =>
    bif Nat.beq (ρ x).cells.length ti.size && (ρ x).storable then
      .ok (.optr h.blocks.length 0 0 0) (h.addB { es := ti.size, len := 1, f := fun _ => (ρ x).cells, flat := (ρ x).cells.all (AV.tree 4) })
    else .bad
  | none => .bad

def ev_build (t : TypeId) (parts : Array (Nat × Operand)) : Res :=
  match T t with
  | some ti =>
    match ti.desc with
    | .struct fields =>
      match placesOf T fields.toList with
      | some pl =>
        match buildCells (nth? pl) (zeroCells ti) (parts.toList.map fun p => (p.1, ρ p.2)) with
        | some l => .ok (.agg l) h
        | none => .bad
      | none => .bad
    | .array _ e =>
      match T e with
      | some ei =>
        match buildCells (fun i => some (i * ei.size, ei.size)) (zeroCells ti) (parts.toList.map fun p => (p.1, ρ p.2)) with
        | some l => .ok (.agg l) h
        | none => .bad
      | none => .bad
    | _ => .bad
  | none => .bad

def ev_buildSlice (t : TypeId) (len : Nat) (parts : Array (Nat × Operand)) : Res :=
  match T t with
  | some { desc := .slice e, .. } =>
    match T e with
    | some ei =>
      match buildCells (fun i => some (i * ei.size, ei.size)) ((List.range len).flatMap fun _ => zeroCells ei) (parts.toList.map fun p => (p.1, ρ p.2)) with
      | some l =>
        bif Nat.ble (len * ei.size) 100000 && Nat.blt 0 ei.size then
          .ok (.oslice h.blocks.length 0 0 len (some len)) (h.addB { es := ei.size, len, f := fun i => (l.drop (i * ei.size)).take ei.size, flat := l.all (AV.tree 4) })
        else .bad
      | none => .bad
    | none => .bad
  | _ => .bad

def ev_load (t : TypeId) (a : Operand) : Res :=
  match T t with
  | some ti =>
    match ρ a with
    | .optr b ver idx sub =>
      match h.block b ver with
      | some k => match ofCells ti.desc ti.size ((k.f idx).drop sub) with | some v => .ok v h | none => .bad
      | none => .bad
    | .rptr l => match ofCells ti.desc ti.size l with | some v => .ok v h | none => .bad
    | _ => .bad
  | none => .bad

def ev_store (t : TypeId) (a x : Operand) : Res :=
  match T t, ρ a with
  | some ti, .optr b ver idx sub =>
    match h.block b ver with
    | some k =>
      bif Nat.beq (ρ x).cells.length ti.size && !k.ro && (ρ x).storable && Nat.ble (sub + ti.size) k.es then
        match k.len with
        | 1 => .ok .top (h.setB b { k with f := (fun l _ => l) (splice (k.f 0) sub (ρ x).cells), flat := k.flat && (ρ x).cells.all (AV.tree 4) })
        | _ => .ok .top (h.setB b { k with f := fun i => bif Nat.beq i idx then splice (k.f i) sub (ρ x).cells else k.f i, flat := k.flat && (ρ x).cells.all (AV.tree 4) })
      else .bad
    | none => .bad
  | _, _ => .bad

def ev_binOp (op : BinOp) (t : TypeId) (x y : Operand) : Res :=
  match isNilC y with
  | true => nilEv op (T t) (ρ x) h
  | false => binEv op (T t) (ρ x) (ρ y) h

def ev_unOp (op : UnOp) (x : Operand) : Res :=
  match op, ρ x with
  | .not, .val (.bool b) => .ok (.val (.bool !b)) h
  | .neg, .val (.int k n) => .need (inK k (-n)) (.val (.int k (-n))) h
  | _, _ => .bad

def ev_convert (src dst : TypeId) (x : Operand) : Res :=
  match T src, T dst, ρ x with
  | some _, some { desc := .int k, .. }, .val (.int _ n) => .need (inK k n) (.val (.int k n)) h
  | some { desc := .string, .. }, some { desc := .slice e, .. }, .val (.string s) =>
    match T e with
    | some { desc := .int .u8, .. } => .ok (.rslice 1 s.size fun i => [.val (.int .u8 (s.data.toList.getD i 0).toNat)]) h
    | _ => .bad
  | _, _, _ => .bad

def ev_makeFunc (fn : Fn) (first captured : Array Operand) : Res :=
  .ok (.func fn first.size (first.toList.map ρ ++ captured.toList.map ρ)) h

def ev_makeMap (t : TypeId) : Res :=
  match T t with
  | some { desc := .map kt e, .. } =>
    match T e, keyKind T kt with
    | some ei, some ki => .ok (.omap h.maps.length) { h with maps := h.maps ++ [{ ki, et := e, has := fun _ => false, get := fun _ => constAV ei.zero }] }
    | _, _ => .bad
  | _ => .bad

def ev_makeSlice (t : TypeId) (l c : Operand) : Res :=
  match T t, ρ l, ρ c with
  | some { desc := .slice e, .. }, .val (.int .i64 n), .val (.int .i64 m) =>
    match T e with
    | some ei => bif Nat.blt 0 ei.size then .need (0 ≤ n ∧ n ≤ m ∧ m ≤ 1000000000 ∧ m * ei.bytes ≤ 1000000000000) (.oslice h.blocks.length 0 0 n.toNat (some m.toNat)) (h.addB { es := ei.size, len := n.toNat, f := fun _ => zeroCells ei }) else .bad
    | none => .bad
  | _, _, _ => .bad

def ev_slice (t : TypeId) (x : Operand) (lo hi : Option Operand) : Res :=
  match T t with
  | some { desc := .slice e, .. } =>
    match T e with
    | some ei =>
      match ρ x with
      | .rslice es len f =>
        match optIdx ρ lo 0, optIdx ρ hi len with
        | some l, some r => bif Nat.beq es ei.size then .need (0 ≤ l ∧ l ≤ r ∧ r ≤ len) (.rslice es (r - l).toNat fun i => f (l.toNat + i)) h else .bad
        | _, _ => .bad
      | .oslice b ver off len cap =>
        match h.block b ver, optIdx ρ lo 0, optIdx ρ hi len with
        | some k, some l, some r => bif Nat.beq k.es ei.size then .need (0 ≤ l ∧ l ≤ r ∧ r ≤ len) (.oslice b ver (off + l.toNat) (r - l).toNat (match cap with | some c => some (c - l.toNat) | none => none)) h else .bad
        | _, _, _ => .bad
      | _ => .bad
    | none => .bad
  | some { desc := .string, .. } =>
    match ρ x with
    | .val (.string s) =>
      match optIdx ρ lo 0, optIdx ρ hi s.size with
      | some l, some r => .need (0 ≤ l ∧ l ≤ r ∧ r ≤ s.size) (.val (.string (s.extract l.toNat r.toNat))) h
      | _, _ => .bad
    | _ => .bad
  | _ => .bad

def ev_slice3 (t : TypeId) (x : Operand) (lo hi : Option Operand) (mx : Operand) : Res :=
  match T t with
  | some { desc := .slice e, .. } =>
    match T e with
    | some ei =>
      match ρ x, optIdx ρ lo 0, idxOf (ρ mx) with
      | .eslice, some l, some m => match optIdx ρ hi 0 with
        | some r => .need (hi.isSome = true ∧ l = 0 ∧ r = 0 ∧ m = 0) .eslice h
        | none => .bad
      | .rslice es len f, some l, some m => match optIdx ρ hi len with
        | some r => bif Nat.beq es ei.size then .need (hi.isSome = true ∧ 0 ≤ l ∧ l ≤ r ∧ r ≤ m ∧ m ≤ len) (.cslice es (r - l).toNat (m - l).toNat fun i => f (l.toNat + i)) h else .bad
        | none => .bad
      | _, _, _ => .bad
    | none => .bad
  | _ => .bad

def ev_fieldAddr (s : TypeId) (x : Operand) (i : Nat) : Res :=
  match T s with
  | some { desc := .struct fields, .. } =>
    match nth? fields.toList i with
    | some f =>
      match T f.type, ρ x with
      | some fi, .optr b ver idx sub => match h.block b ver with | some _ => (bif Nat.blt 0 fi.size then .ok (.optr b ver idx (sub + f.offset)) h else .bad) | none => .bad
      | some fi, .rptr l => bif Nat.blt 0 fi.size then .ok (.rptr (l.drop f.offset)) h else .bad
      | _, _ => .bad
    | none => .bad
  | _ => .bad

def ev_field (s : TypeId) (x : Operand) (i : Nat) : Res :=
  match T s, ρ x with
  | some { desc := .struct fields, .. }, .agg l =>
    match nth? fields.toList i with
    | some f => match T f.type with
      | some fi => match ofCells fi.desc fi.size (l.drop f.offset) with | some v => .ok v h | none => .bad
      | none => .bad
    | none => .bad
  | _, _ => .bad

def ev_indexAddr (t : TypeId) (x i : Operand) : Res :=
  match T t, idxOf (ρ i) with
  | some { desc := .slice e, .. }, some n =>
    match T e, ρ x with
    | some ei, .rslice es len f => bif Nat.beq es ei.size then .need (0 ≤ n ∧ n < len) (.rptr (f n.toNat)) h else .bad
    | some ei, .oslice b ver off len _ =>
      match h.block b ver with
      | some k => bif Nat.beq k.es ei.size then .need (0 ≤ n ∧ n < len) (.optr b ver (off + n.toNat) 0) h else .bad
      | none => .bad
    | _, _ => .bad
  | some { desc := .array len e, .. }, some n =>
    match T e, ρ x with
    | some ei, .optr b ver idx sub => match h.block b ver with | some _ => .need (0 ≤ n ∧ n < len) (.optr b ver idx (sub + n.toNat * ei.size)) h | none => .bad
    | some ei, .rptr l => .need (0 ≤ n ∧ n < len) (.rptr (l.drop (n.toNat * ei.size))) h
    | _, _ => .bad
  | _, _ => .bad

def ev_index (t : TypeId) (x i : Operand) : Res :=
  match T t, ρ x, idxOf (ρ i) with
  | some { desc := .string, .. }, .val (.string s), some n => .need (0 ≤ n ∧ n < s.size) (.val (.int .u8 (s.data.toList.getD n.toNat 0).toNat)) h
  | _, _, _ => .bad

def ev_lookup (t : TypeId) (m i : Operand) (ok : Bool) : Res :=
  match T t, ρ i with
  | some { desc := .map kt et, .. }, .val key =>
    match keyKind T kt with
    | some ki =>
      bif (T et).isSome then
        match ρ m with
        | .omap b =>
          match nth? h.maps b with
          | some am => bif kindIs ki am.ki && keyIs ki key && Nat.beq et am.et then (bif ok then .ok (.tuple [am.get key, .val (.bool (am.has key))]) h else .ok (am.get key) h) else .bad
          | none => .bad
        | .rmap ki' et' has get => bif kindIs ki ki' && keyIs ki key && Nat.beq et et' then (bif ok then .ok (.tuple [get key, .val (.bool (has key))]) h else .ok (get key) h) else .bad
        | _ => .bad
      else .bad
    | _ => .bad
  | _, _ => .bad

def ev_extract (x : Operand) (i : Nat) : Res :=
  match ρ x with
  | .tuple l => match nth? l i with | some v => .ok v h | none => .bad
  | _ => .bad

def ev_nilCheck (x : Operand) : Res :=
  match ρ x with
  | .optr b ver i sub => match h.block b ver with | some _ => .ok (.optr b ver i sub) h | none => .bad
  | .rptr l => .ok (.rptr l) h
  | _ => .bad

def ev_call_len (args : Array Operand) (argTypes : Array TypeId) : Res :=
  match nth? argTypes.toList 0, nth? args.toList 0 with
  | some t, some x =>
    match T t, ρ x with
    | some { desc := .slice _, .. }, .eslice => .ok (.val (.int .i64 0)) h
    | some { desc := .slice _, .. }, .rslice _ len _ => .ok (.val (.int .i64 len)) h
    | some { desc := .slice _, .. }, .cslice _ len _ _ => .ok (.val (.int .i64 len)) h
    | some { desc := .slice _, .. }, .oslice b ver _ len _ => match h.block b ver with | some _ => .ok (.val (.int .i64 len)) h | none => .bad
    | some { desc := .string, .. }, .val (.string s) => .ok (.val (.int .i64 s.size)) h
    | some { desc := .array n _, .. }, _ => .ok (.val (.int .i64 n)) h
    | _, _ => .bad
  | _, _ => .bad

def ev_call_max (args : Array Operand) : Res :=
  match args.toList.map ρ with
  | [.val (.int k a), .val (.int _ b)] => .ok (.val (.int k (if b > a then b else a))) h
  | _ => .bad

def ev_call_min (args : Array Operand) : Res :=
  match args.toList.map ρ with
  | [.val (.int k a), .val (.int _ b)] => .ok (.val (.int k (if b < a then b else a))) h
  | _ => .bad

def ev_call_append (args : Array Operand) (argTypes : Array TypeId) : Res :=
  match argTypes.toList, args.toList.map ρ with
  | [t, t'], [s, x] =>
    match T t with
    | some { desc := .slice e, .. } =>
      match T e, (match T e with | some ei => bif Nat.beq t t' then elemsOf h ei.size x else none | none => none) with
      | some ei, some (m, fx) =>
        let fl := flatOf h x
        bif Nat.blt 0 ei.size then
          match s with
          | .eslice => .need (m * (ei.bytes + 1) ≤ 1000000000000) (.oslice h.blocks.length 0 0 m none) (h.addB { es := ei.size, len := m, f := fx, flat := fl })
          | .oslice b ver off len (some c) =>
            match h.block b ver with
            | some k => bif Nat.beq k.es ei.size then .need ((c < len + m ∨ m = 0 ∧ c = 0) ∧ (len + m) * (ei.bytes + 1) ≤ 1000000000000) (.oslice h.blocks.length 0 0 (len + m) none) (h.addB { es := ei.size, len := len + m, f := fun i => if i < len then k.f (off + i) else fx (i - len), flat := fl && k.flat }) else .bad
            | none => .bad
          | .cslice es len c f => bif Nat.beq es ei.size then .need (c < len + m ∧ (len + m) * (ei.bytes + 1) ≤ 1000000000000) (.oslice h.blocks.length 0 0 (len + m) none) (h.addB { es := ei.size, len := len + m, f := fun i => if i < len then f i else fx (i - len), flat := fl }) else .bad
          | .oslice b ver off len none =>
            match h.block b ver with
            | some k => bif Nat.beq k.es ei.size && !k.ro then .need ((len + m) * (ei.bytes + 1) ≤ 1000000000000) (.oslice b (ver + 1) 0 (len + m) none) (h.setB b { k with len := len + m, ver := ver + 1, f := fun i => if i < len then k.f (off + i) else fx (i - len), flat := fl && k.flat }) else .bad
            | none => .bad
          | _ => .bad
        else .bad
      | _, _ => .bad
    | _ => .bad
  | _, _ => .bad

def ev_call_value (f : Operand) (args : Array Operand) : Res :=
  match ρ f with
  | .func (.func g) nf cap => (fun l => .call g ((cap.take nf).map (fz h) ++ (args.toList.map fun x => fz h (ρ x)) ++ (cap.drop nf).map (fz h)) (l.flatMap (·.1)) (l.flatMap (·.2))) ((cap.take nf).map (refs h 5) ++ (args.toList.map fun x => refs h 5 (ρ x)) ++ (cap.drop nf).map (refs h 5))
  | .yld i => .yieldc i (args.toList.map ρ)
  | _ => .bad

def ev_mapUpdate (t : TypeId) (m i x : Operand) : Res :=
  match T t, ρ m, ρ i with
  | some { desc := .map kt _, .. }, .omap b, .val key =>
    match keyKind T kt with
    | some ki =>
      match nth? h.maps b with
      | some am => bif kindIs ki am.ki && keyIs ki key && AV.tree 4 (ρ x) && !am.ro then .ok .top { h with maps := setNth h.maps b { am with has := fun k => am.has k || opEv.keyEq k key, get := fun k => bif opEv.keyEq k key then ρ x else am.get k } } else .bad
      | none => .bad
    | none => .bad
  | _, _, _ => .bad

def ev_callB (b : Builtin) (args : Array Operand) (argTypes : Array TypeId) : Res :=
  match b with
  | .len => ev_call_len T ρ h args argTypes
  | .max => ev_call_max ρ h args
  | .min => ev_call_min ρ h args
  | .append => ev_call_append T ρ h args argTypes
  | _ => .bad

def opEvF (o : Oper) : Res :=
  match o.op with
  | .move x => .ok (ρ x) h
  | .assign x => .ok (ρ x) h
  | .binOp op t x y _ => ev_binOp T ρ h op t x y
  | .pick c a b => ev_pick ρ h c a b
  | .alloc t => ev_alloc T h t
  | .box t x => ev_box T ρ h t x
  | .build t parts => ev_build T ρ h t parts
  | .buildSlice t len parts => ev_buildSlice T ρ h t len parts
  | .load t a => ev_load T ρ h t a
  | .store t a x => ev_store T ρ h t a x
  | .unOp op _ x => ev_unOp ρ h op x
  | .convert src dst x => ev_convert T ρ h src dst x
  | .makeFunc fn first captured => ev_makeFunc ρ h fn first captured
  | .makeSlice t l c => ev_makeSlice T ρ h t l c
  | .fieldAddr s x i => ev_fieldAddr T ρ h s x i
  | .field s x i => ev_field T ρ h s x i
  | .indexAddr t x i => ev_indexAddr T ρ h t x i
  | .index t x i => ev_index T ρ h t x i
  | .lookup t m i ok => ev_lookup T ρ h t m i ok
  | .extract x i => ev_extract ρ h x i
  | .nilCheck x => ev_nilCheck ρ h x
  | .mapUpdate t m i x => ev_mapUpdate T ρ h t m i x
  | .makeMap t none => ev_makeMap T h t
  | .slice t x lo hi none => ev_slice T ρ h t x lo hi
  | .slice t x lo hi (some mx) => ev_slice3 T ρ h t x lo hi mx
  | .call c => match c.callee with
    | .value f => ev_call_value ρ h f c.args
    | .builtin b => ev_callB T ρ h b c.args c.argTypes
    | .invoke .. => .bad
  | _ => .bad
end

theorem opEvF_eq (T : Nat → Option TI) (ρ : Operand → AV) (h : Hp) (o : Oper) : opEvF T ρ h o = opEv T o ρ h := by
  unfold opEvF opEv
  cases o.op <;> try rfl
  case call c =>
    obtain ⟨callee, args, ts⟩ := c
    cases callee <;> try rfl
    case builtin b => cases b <;> rfl
  case makeMap t r => cases r <;> rfl
  case slice t x lo hi mx => cases mx <;> rfl
end Go.Tr
