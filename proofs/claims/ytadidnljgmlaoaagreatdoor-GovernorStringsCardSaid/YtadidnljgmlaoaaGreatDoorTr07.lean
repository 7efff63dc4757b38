/- An evaluator for closed runs: where it answers, the contract holds. Conditions: the program's rules take any order. -/
import Derived.Test.YtadidnljgmlaoaaGreatDoorTr06
set_option linter.unusedSectionVars false
set_option linter.unnecessarySimpa false
set_option linter.unusedVariables false
set_option linter.unusedSimpArgs false

namespace Go.Tr
open Go Go.RowKit
variable [GTab]

def forceN {α : Type} : Nat → (Nat → α) → α
  | 0,k=>k 0
  | n + 1,k=>k (n + 1)
def forceI {α : Type} : Int → (Int → α) → α
  | .ofNat n,k=>forceN n fun n=>k (.ofNat n)
  | .negSucc n,k=>forceN n fun n=>k (.negSucc n)
theorem forceN_eq {α : Type} (n : Nat) (k : Nat → α) : forceN n k = k n := by cases n <;> rfl
theorem forceI_eq {α : Type} (n : Int) (k : Int → α) : forceI n k = k n := by cases n <;> simp [forceI,forceN_eq]

mutual
def hard {α : Type} : Nat → AV → (AV → α) → α
 | 0,x,k=>k x
 | d + 1,x,k=>match x with
  | .val (.int kd n)=>forceI n fun n=>k (.val (.int kd n))
  | .val (.bool true)=>k (.val (.bool true))
  | .val (.bool false)=>k (.val (.bool false))
  | .agg l=>hardL d l fun l=>k (.agg l)
  | .tuple l=>hardL d l fun l=>k (.tuple l)
  | .func fn nf l=>forceN nf fun nf=>hardL d l fun l=>k (.func fn nf l)
  | .rptr l=>hardL d l fun l=>k (.rptr l)
  | .optr b ver idx sub=>forceN b fun b=>forceN ver fun ver=>forceN idx fun idx=>forceN sub fun sub=>k (.optr b ver idx sub)
  | .oslice b ver off len none=>forceN b fun b=>forceN ver fun ver=>forceN off fun off=>forceN len fun len=>k (.oslice b ver off len none)
  | .oslice b ver off len (some c)=>forceN b fun b=>forceN ver fun ver=>forceN off fun off=>forceN len fun len=>forceN c fun c=>k (.oslice b ver off len (some c))
  | x=>k x
def hardL {α : Type} : Nat → List AV → (List AV → α) → α
 | 0,l,k=>k l
 | _ + 1,[],k=>k []
 | d + 1,x :: r,k=>hard d x fun x=>hardL d r fun r=>k (x :: r)
end

mutual
theorem hard_eq {α : Type} : ∀ (d : Nat) (x : AV) (k : AV → α),hard d x k = k x
 | 0,x,k=>by simp [hard]
 | d + 1,x,k=>by
  unfold hard
  split <;> simp [forceI_eq,forceN_eq,hardL_eq d]
theorem hardL_eq {α : Type} : ∀ (d : Nat) (l : List AV) (k : List AV → α),hardL d l k = k l
 | 0,l,k=>by simp [hardL]
 | _ + 1,[],k=>by simp [hardL]
 | d + 1,x :: r,k=>by simp [hardL,hard_eq d,hardL_eq d]
end

abbrev YF := Nat → Nat → List AV → St → Option (Bool × St)
abbrev IF := YF → FuncId → List AV → Nat → St → Option (AV × St)
def noYF : YF := fun _ _ _ _=>none

def forceTm {α : Type} : List (Nat × AV) → (List (Nat × AV) → α) → α
 | [],k=>k []
 | (t,x) :: r,k=>forceN t fun t=>hard 12 x fun x=>forceTm r fun r=>k ((t,x) :: r)

def glOf (ops : Array Oper) : List (Nat × Nat) :=
 let bf := befores ops.toList []
 (List.range ops.size).flatMap fun j=>(List.range j).filterMap fun i =>
  match nth? ops.toList i,nth? ops.toList j with
  | some x,some y=>bif pairOk [] ops bf i j x y then none else some (i,j)
  | _,_=>none

section
variable (T : Nat → Option TI) (F : FuncId → List AV → Option (AV × Bool)) (I : IF) (g0 : Bool)

def evOp (Y : YF) (n : Nat) (o : Oper) (s : St) : Option (AV × St) :=
 match opEvF T s.eval s.hp o with
 | .bad=>none
 | .ok v h=>some (v,{ s with hp := h })
 | @Res.need p d v h=>match @decide p d with | true=>some (v,{ s with hp := h }) | false=>none
 | .upd h b k g fl=>some (.top,{ s with hp := h.setB b (k.wr g fl) })
 | @Res.anyB p d b h=>match @decide p d with | true=>some (.val (.bool b),{ s with hp := h }) | false=>none
 | @Res.either p d v h p' d' v' h'=>match @decide p d with | true=>some (v,{ s with hp := h }) | false=>match @decide p' d' with | true=>some (v',{ s with hp := h' }) | false=>none
 | @Res.share p d v bs ms=>match g0 with | true=>(match @decide p d with | true=>some (v,{ s with hp := { s.hp with blocks := roB bs 0 s.hp.blocks,maps := roM ms 0 s.hp.maps } }) | false=>none) | false=>none
 | .ranged ..=>none
 | .nextc ..=>none
 | .insF ..=>none
 | .call f args bs ms =>
  match o.op with
  | .call { callee := .value _, .. } =>
   match F f args with
   | some (r,true)=>match adopt r s.hp.blocks.length with | (v,ks)=>some (v,{ s with hp := { s.hp with blocks := s.hp.blocks ++ ks } })
   | some (r,false)=>some (r,{ s with hp := { s.hp with blocks := roB bs 0 s.hp.blocks,maps := roM ms 0 s.hp.maps } })
   | none =>
    match I noYF f (rawArgs o s.eval) n s with
    | some (v,s')=>some (v,{ s' with hp := { s'.hp with jump := s.hp.jump } })
    | none=>none
  | _=>none
 | .yieldc i args =>
  match o.op with
  | .call { callee := .value _,.. } =>
   match Y i n args s with
   | some (true,s')=>some (.val (.bool true),s')
   | some (false,s')=>some (.val (.bool false),s')
   | none=>none
  | _=>none

def evOne (Y : YF) (n : Nat) (st : (Operand → AV) → Option Bool) (o : Oper) (s : St) : Option St :=
 match st s.eval with
 | none=>none
 | some b =>
 match slotOk n o.dst && (b || !isEff o s.eval) with
 | true=>match evOp T F I g0 Y n o s with
  | some (v,s')=>hard 12 v fun v=>some (s'.put o.dst v)
  | none=>none
 | false=>none

def evOps (Y : YF) (n : Nat) (st : Nat → (Operand → AV) → Option Bool) (ops : Array Oper) : Nat → List Oper → St → Option St
 | _,[],s=>some s
 | i, o :: r, s =>
  match o.guard with
  | none=>match evOne T F I g0 Y n (st i) o s with | some s'=>evOps Y n st ops (i + 1) r s' | none=>none
  | some (j, want) =>
   match (nth? ops.toList j).bind (·.dst) with
   | none=>none
   | some t =>
    match look s.tm t with
    | .val (.bool b) =>
     match b,want with
     | true,true=>match evOne T F I g0 Y n (st i) o (s.put (some t) (.val (.bool true))) with | some s'=>evOps Y n st ops (i + 1) r s' | none=>none
     | false,false=>match evOne T F I g0 Y n (st i) o (s.put (some t) (.val (.bool false))) with | some s'=>evOps Y n st ops (i + 1) r s' | none=>none
     | true,false=>evOps Y n st ops (i + 1) r ((s.put (some t) (.val (.bool true))).put o.dst (.val undef))
     | false,true=>evOps Y n st ops (i + 1) r ((s.put (some t) (.val (.bool false))).put o.dst (.val undef))
    | .val (.tuple _)=>evOps Y n st ops (i + 1) r (s.put o.dst (.val undef))
    | _=>none

def evLoop (body : St → Option (Ex × St)) (tidy : St → St) : Nat → St → Option (Ex × St)
 | 0,_=>none
 | m + 1,s=>match body s with
  | some (.normal,s')=>evLoop body tidy m (match m % 16 with | 0=>tidy s' | _=>s')
  | x=>x

end

def noI : IF := fun _ _ _ _ _=>none
def gateF (gl : List (Nat × Nat)) (ops : Array Oper) : Nat → (Operand → AV) → Option Bool :=
 match gl with
 | []=>fun j _=>some (effAt ops j)
 | _=>gateSt gl ops

def evRound (assign body : St → Option (Ex × St)) (ny n : Nat) (ps : List Tmp) : YF := fun i m args s1 =>
 bif Nat.beq i ny && Nat.beq args.length ps.length && s1.hp.jump.isNone && ps.all (fun t=>Nat.blt t n) then
  forceTm (popTm n s1.sv) fun tm=>forceTm (pushSv m s1.tm s1.sv) fun sv =>
  match assign (bindP (ps.zip args) { tm,hp := s1.hp,sv }) with
  | some (.normal,s2) =>
   match body s2 with
   | some (.normal,s3)=>forceTm (popTm m s3.sv) fun tm=>forceTm (popSv m s3.sv) fun sv=>some (true,{ tm,hp := { s3.hp with jump := none },sv })
   | some (e,s3)=>forceTm (popTm m s3.sv) fun tm=>forceTm (popSv m s3.sv) fun sv=>some (false,{ tm,hp := { s3.hp with jump := some e },sv })
   | none=>none
  | _=>none
 else none

def evC (T : Nat → Option TI) (F : FuncId → List AV → Option (AV × Bool)) (I : IF) (tidy : St → St) (n L : Nat) : Code → YF → Bool → St → Option (Ex × St)
 | .skip,_,_,s=>some (.normal,s)
 | .seq a b,Y,k,s=>match evC T F I tidy n L a Y k s with | some (.normal,s')=>evC T F I tidy n L b Y k s' | x=>x
 | .cond x a b,Y,k,s =>
  match x,s.eval x with
  | .tmp _,.val (.bool true)=>evC T F I tidy n L a Y k s
  | .tmp _,.val (.bool false)=>evC T F I tidy n L b Y k s
  | .const (.bool true),_=>evC T F I tidy n L a Y k s
  | .const (.bool false),_=>evC T F I tidy n L b Y k s
  | _,_=>none
 | .block id c,Y,k,s=>match evC T F I tidy n L c Y k s with
  | some (.exit i,s')=>bif Nat.beq i id then some (.normal,s') else some (.exit i,s')
  | x=>x
 | .loop c,Y,k,s=>evLoop (fun s=>evC T F I tidy n L c Y k s) tidy L s
 | .exit id,_,_,s=>some (.exit id,s)
 | .ret,_,_,s=>some (.ret,s)
 | .region _ ops draw, Y, _, s => match draw with
  | true=>match glOf ops with
   | gl=>bif drawOk gl ops then (match evOps T F noI false noYF n (gateF gl (arr gl ops)) (arr gl ops) 0 (arr gl ops).toList s with | some s'=>some (.normal,s') | none=>none) else none
  | false=>match evOps T F I true Y n (fun _ _=>some true) ops 0 ops.toList s with | some s'=>some (.normal,s') | none=>none
 | .rangeFunc g ps assign body, _, k, s =>
  match k,s.eval g with
  | true, .func (.func f) nf cap =>
   match I (evRound (fun s=>evC T F I tidy n L assign noYF false s) (fun s=>evC T F I tidy n L body noYF false s) s.hp.ny n ps.toList) f (cap.take nf ++ .yld s.hp.ny :: cap.drop nf) n { s with hp := { s.hp with jump := none,ny := s.hp.ny + 1 } } with
   | some (_,s')=>match s'.hp.jump with
    | none=>some (.normal,{ s' with hp := { s'.hp with jump := s.hp.jump } })
    | some e=>some (e,{ s' with hp := { s'.hp with jump := s.hp.jump } })
   | none=>none
  | _,_=>none
 | _,_,_,_=>none

section
variable (T : Nat → Option TI)

def solid : Nat → AV → AV
 | 0,x=>x
 | _ + 1,.rslice es len f=>hardRows ((List.range len).map f) fun l=>.rslice es len fun i=>(nth? l i).getD []
 | n + 1,.agg l=>.agg (l.map (solid n))
 | n + 1,.tuple l=>.tuple (l.map (solid n))
 | _ + 1,x=>x
where
 hardRows {α : Type} : List (List AV) → (List (List AV) → α) → α
  | [],k=>k []
  | x :: r,k=>hardL 12 x fun x=>hardRows r fun r=>k (x :: r)

def deep : Nat → AV → Bool
 | 0,_=>false
 | n + 1,.agg l=>l.all (deep n)
 | n + 1,.tuple l=>l.all (deep n)
 | _ + 1,_=>true

def isVal : AV → Bool
 | .val _=>true
 | _=>false

def plainB : List AV → Bool
 | []=>true
 | .rslice _ len g :: r=>((List.range len).all fun i=>(g i).all isVal) && plainB r
 | _ :: r=>plainB r

def evR (fn : Func) (s : St) : Option (AV × Bool) :=
 match resAV T s fn.results.toList with
 | none=>none
 | some l => bif deep 5 (fz s.hp (oneOf l)) then
   hard 12 (solid 5 (fz s.hp (oneOf l))) fun z=>some (z,ownB s.hp (leaves (oneOf l)) [] && plainB (leaves z))
  else none
end

def tidyTm (n : Nat) (tm : List (Nat × AV)) : List (Nat × AV) := go n 0
where
 go : Nat → Nat → List (Nat × AV)
  | 0,_=>[]
  | k + 1,t=>(match look tm t with | .top=>go k (t + 1) | x=>(t,x) :: go k (t + 1))

def tidyB (k : AB) : AB := bif Nat.ble k.len 64 then solid.hardRows ((List.range k.len).map k.f) fun l=>{ k with f := fun i=>(nth? l i).getD [] } else k

def forceBs : List AB → (List AB → St) → St
 | [],k=>k []
 | x :: r,k=>match x with
  | ⟨es,len,f,ver,ro,flat,one⟩=>forceBs r fun r=>k (⟨es,len,f,ver,ro,flat,one⟩ :: r)

def tidy (n : Nat) (s : St) : St :=
  forceTm (tidyTm n s.tm) fun tm=>forceBs (s.hp.blocks.map tidyB) fun bs=>{ s with tm,hp := { s.hp with blocks := bs } }

def evD (P : Program) (G : FuncId → List AV → Option (AV × Bool)) (L : Nat) : Nat → YF → FuncId → List (Nat × AV) → List AV → Hp → Option (St × Func)
 | 0,_,_,_,_,_=>none
 | d + 1, Y, f, sv, args, hp =>
  match P.funcs[f]? with
  | some fn =>
   match fn.body with
   | some c =>
    bif !(fn.name == "runtime.NumGoroutine") && Nat.ble args.length fn.ntmps then
     match evC (TP P)
       (fun f args=>match G f args with
        | some x=>some x
        | none=>match evD P G L d noYF f [] args ⟨[],[],none,0⟩ with | some (s,fn)=>evR (TP P) fn s | none=>none)
       (fun Y f args n s=>forceTm (pushSv n s.tm s.sv) fun sv=>match evD P G L d Y f sv args s.hp with
        | some (s',fn)=>match resAV (TP P) s' fn.results.toList with
         | some l=>forceTm (popTm n s'.sv) fun tm=>forceTm (popSv n s'.sv) fun sv=>some (oneOf l,{ tm,hp := s'.hp,sv })
         | none=>none
        | none=>none)
       (tidy fn.ntmps) fn.ntmps L c Y true { tm := start args 0,hp,sv } with
     | some (.normal,s)=>some (s,fn)
     | some (.ret,s)=>some (s,fn)
     | _=>none
    else none
   | none=>none
  | none=>none

def evF (P : Program) (G : FuncId → List AV → Option (AV × Bool)) (L d : Nat) (f : FuncId) (args : List AV) : Option (AV × Bool) :=
 match G f args with
 | some x=>some x
 | none=>match evD P G L d noYF f [] args ⟨[],[],none,0⟩ with
  | some (s,fn)=>evR (TP P) fn s
  | none=>none

theorem forceTm_eq {α : Type} : ∀ (l : List (Nat × AV)) (k : List (Nat × AV) → α),forceTm l k = k l
 | [],k=>rfl
 | (t,x) :: r,k=>by simp [forceTm,forceN_eq,hard_eq,forceTm_eq r]

def YRel (Y : YF) (YR : YT) : Prop := ∀ i m args s b s',Y i m args s = some (b,s') → ∀ K : Bool → St → Prop,K b s' → YR i m args s K
theorem noYF_rel (YR : YT) : YRel noYF YR := fun _ _ _ _ _ _ h=>by cases h

def IRel (I : IF) : YT → FuncId → List AV → Nat → St → (AV → St → Prop) → Prop := fun YR f args n s K=>∃ Y,YRel Y YR ∧ ∃ r s',I Y f args n s = some (r,s') ∧ K r s'

section
variable {P : Program} {T : Nat → Option TI} {F : FuncId → List AV → Option (AV × Bool)} {I : IF}

def evEnv (F : FuncId → List AV → Option (AV × Bool)) (I : IF) (YR : YT) (k g0 : Bool) : Env := { S := fun f args r fr=>F f args = some (r,fr),I := IRel I,Y := YR,rok := k,any := g0 }

theorem evOp_ok {Y : YF} {YR : YT} (hY : YRel Y YR) {k g0 : Bool} {n : Nat} {o : Oper} {s s' : St} {v : AV} (he : evOp T F I g0 Y n o s = some (v,s')) {K : AV → St → Prop} (hK : K v s') : opW (evEnv F I YR k g0) T n o s K := by
 unfold evOp at he
 rw [opEvF_eq] at he
 unfold opW
 split at he
 ·cases he
 ·rename_i v' h' hev
  rw [hev]
  cases he
  exact hK
 ·rename_i p d v' h' hev
  rw [hev]
  simp only
  split at he
  ·rename_i hd
   cases he
   exact ⟨of_decide_eq_true hd,hK⟩
  ·cases he
 ·rename_i h0 b k g fl hev
  rw [hev]
  simp only
  cases he
  exact ⟨g,fun _ _=>rfl,hK⟩
 ·rename_i p d b' h' hev
  rw [hev]
  simp only
  split at he
  ·rename_i hd
   cases he
   have hp := of_decide_eq_true hd
   cases g0 with
   | true=>exact fun x hx=>by rw [hx hp]; exact hK
   | false=>exact ⟨hp,hK⟩
  ·cases he
 ·rename_i p d v1 h1 p' d' v2 h2 hev
  rw [hev]
  simp only
  split at he
  ·rename_i hd
   cases he
   exact .inl ⟨of_decide_eq_true hd,hK⟩
  ·split at he
   ·rename_i hd
    cases he
    exact .inr ⟨of_decide_eq_true hd,hK⟩
   ·cases he
 ·rename_i p d v1 bs ms hev
  rw [hev]
  simp only
  split at he
  ·split at he
   ·rename_i hd
    cases he
    exact ⟨of_decide_eq_true hd,hK⟩
   ·cases he
  ·cases he
 ·cases he
 ·cases he
 ·cases he
 ·rename_i f args bs ms hev
  rw [hev]
  simp only
  split at he
  ·rename_i fo gs ts hop
   simp only [hop]
   split at he
   ·rename_i r hr
    split at he
    rename_i v' ks hks
    cases he
    exact .inl ⟨r,true,hr,by simp only; rw [hks]; exact hK⟩
   ·rename_i r hr
    cases he
    exact .inl ⟨_,false,hr,hK⟩
   ·split at he
    ·rename_i v' s1 hi
     cases he
     refine .inr (.inl ⟨[],?_⟩)
     simp only [fzs]
     rw [hev]
     exact ⟨noYF,noYF_rel _,_,_,hi,hK⟩
    ·cases he
  ·cases he
 ·rename_i i args hev
  rw [hev]
  simp only
  split at he
  ·rename_i fo gs ts hop
   simp only [hop]
   split at he
   ·rename_i s1 hy
    cases he
    exact hY _ _ _ _ _ _ hy _ hK
   ·rename_i s1 hy
    cases he
    exact hY _ _ _ _ _ _ hy _ hK
   ·cases he
  ·cases he

theorem evOne_ok {Y : YF} {YR : YT} (hY : YRel Y YR) {k g0 : Bool} {n : Nat} {st : (Operand → AV) → Option Bool} {o : Oper} {s s' : St} (he : evOne T F I g0 Y n st o s = some s') {K : St → Prop} (hK : K s') : oneW (evEnv F I YR k g0) T n st o s K := by
 unfold evOne at he
 unfold oneW
 simp only [putF_eq]
 split at he
 ·cases he
 rename_i b hb
 rw [hb]
 simp only
 split at he
 ·rename_i hs
  rw [hs]
  split at he
  ·rename_i v h hev
   rw [hard_eq] at he
   cases he
   exact evOp_ok hY hev hK
  ·cases he
 ·cases he

theorem evOps_ok {Y : YF} {YR : YT} (hY : YRel Y YR) {k g0 : Bool} {n : Nat} {st : Nat → (Operand → AV) → Option Bool} {ops : Array Oper} {K : St → Prop} : ∀ (l : List Oper) (i : Nat) (s s' : St),evOps T F I g0 Y n st ops i l s = some s' → K s' → opsW (evEnv F I YR k g0) T n st ops K i l s
 | [],i,s,s',he,hK=>by simp only [evOps] at he; cases he; exact hK
 | o :: r, i, s, s', he, hK => by
  unfold evOps at he
  unfold opsW
  simp only [putF_eq]
  have go : ∀ s,(match evOne T F I g0 Y n (st i) o s with | some s'=>evOps T F I g0 Y n st ops (i + 1) r s' | none=>none) = some s' → oneW (evEnv F I YR k g0) T n (st i) o s (opsW (evEnv F I YR k g0) T n st ops K (i + 1) r) := fun s h=>by
   split at h
   ·rename_i s1 h1
    exact evOne_ok hY h1 (evOps_ok hY r (i + 1) s1 s' h hK)
   ·cases h
  split at he
  ·rename_i hg
   simp only [hg]
   exact go s he
  ·rename_i j want hg
   split at he
   ·cases he
   ·rename_i t ht
    split at he
    ·rename_i b hl
     split at he
     ·simp only [hg,ht,hl,ifB]; exact go _ he
     ·simp only [hg,ht,hl,ifB]; exact go _ he
     ·simp only [hg,ht,hl,ifB]; exact evOps_ok hY r (i + 1) _ s' he hK
     ·simp only [hg,ht,hl,ifB]; exact evOps_ok hY r (i + 1) _ s' he hK
    ·rename_i vs hl
     simp only [hg,ht,hl]
     exact evOps_ok hY r (i + 1) _ s' he hK
    ·cases he

theorem SR.look_eq {F : Fr} {w0 w : World} {q : Nat → Prop} {s s' : St} {a : Act} {c : Cx} (h : SR P F w0 q s a w c) (ht : ∀ t,look s'.tm t = look s.tm t ∨ look s'.tm t = .top) (hh : s'.hp = s.hp) (hsv : s'.sv = s.sv) : SR P F w0 q s' a w c :=
  ⟨by rw [hh,hsv]; exact h.toHS,fun t=>by rcases ht t with g | g <;> rw [g]; exact h.tm t; exact .tree (.top _),h.size,h.defers⟩

theorem evLoop_ok {Fm : Fr} {w0 : World} {q : Nat → Prop} {cd : Code} {body : St → Option (Ex × St)} {tidy : St → St} (ht : ∀ s a w c,SR P Fm w0 q s a w c → SR P Fm w0 q (tidy s) a w c)
  (hb : ∀ e s s',body s = some (e,s') → ∀ (Q : Exit → Act → World → Prop) a w c,SR P Fm w0 q s a w c → (∀ a' w' c',SR P Fm w0 q s' a' w' c' → Q (toExit e) a' w') → cd.wpIn (FR Fm.r) 0 P Q a w)
  {m : Nat} {s s' : St} {e : Ex} (he : evLoop body tidy m s = some (e,s')) (Q : Exit → Act → World → Prop) (a : Act) (w : World) (c : Cx) (h : SR P Fm w0 q s a w c) (hQ : ∀ a' w' c',SR P Fm w0 q s' a' w' c' → Q (toExit e) a' w') : (Code.loop cd).wpIn (FR Fm.r) 0 P Q a w := by
 refine wp_loop_rel (fun m a w=>∃ s0 c0,evLoop body tidy m s0 = some (e,s') ∧ SR P Fm w0 q s0 a w c0) (m := m) ⟨s,c,he,h⟩ ?_
 rintro m a w ⟨s0,c0,h0,hs0⟩
 cases m with
 | zero=>cases h0
 | succ m =>
  unfold evLoop at h0
  split at h0
  ·rename_i s1 hs1
   refine hb .normal s0 s1 hs1 _ a w c0 hs0 fun a' w' c' h'=>⟨m,by omega,_,c',h0,?_⟩
   split
   ·exact ht _ _ _ _ h'
   ·exact h'
  ·rename_i x hx
   refine hb e s0 s' h0 _ a w c0 hs0 fun a' w' c' h'=>?_
   have := hQ a' w' c' h'
   cases e with
   | normal=>exact absurd h0 (hx s')
   | exit id=>exact this
   | ret=>exact this

theorem gateF_eq (gl : List (Nat × Nat)) (ops : Array Oper) : gateF gl ops = gateSt gl ops := by
 unfold gateF
 cases gl with
 | nil=>funext j ρ; rfl
 | cons p r=>rfl

theorem evC_ok (hT : TOK P T) (hD : DrawnOk P T) (hF : ∀ f args r fr, F f args = some (r, fr) → Sound1 P f args r fr) (hI : IOk P (IRel I)) {n L : Nat} {w0 : World} {q : Nat → Prop} {tidy : St → St} (ht : ∀ (Fm : Fr) s a w c, SR P Fm w0 q s a w c → SR P Fm w0 q (tidy s) a w c) :
  ∀ (cd : Code) (Fm : Fr) (_ : Fm.n = n) (Y : YF) (YR : YT) (_ : YRel Y YR) (_ : YR = noY ∨ (Fm.r = none ∧ YOk P Fm.X Fm.G Fm.rc w0 q YR)) (k : Bool) (_ : k = true → Fm.r = none) (e : Ex) (s s' : St),evC T F I tidy n L cd Y k s = some (e,s') →
  ∀ (Q : Exit → Act → World → Prop) a w c,SR P Fm w0 q s a w c → (∀ a' w' c',SR P Fm w0 q s' a' w' c' → Q (toExit e) a' w') → cd.wpIn (FR Fm.r) 0 P Q a w := by
 intro cd
 induction cd with
 | skip=>intro Fm hn Y YR hY hYo k hk e s s' he Q a w c h hQ; simp only [evC] at he; cases he; exact wpIn_skip (hQ a w c h)
 | ret=>intro Fm hn Y YR hY hYo k hk e s s' he Q a w c h hQ; simp only [evC] at he; cases he; exact wpIn_ret (hQ a w c h)
 | exit id=>intro Fm hn Y YR hY hYo k hk e s s' he Q a w c h hQ; simp only [evC] at he; cases he; exact wpIn_exit (hQ a w c h)
 | seq x y ihx ihy =>
  intro Fm hn Y YR hY hYo k hk e s s' he Q a w c h hQ
  simp only [evC] at he
  split at he
  ·rename_i s1 h1
   exact wpIn_seq (ihx Fm hn Y YR hY hYo k hk .normal s s1 h1 _ a w c h fun a' w' c' h'=>ihy Fm hn Y YR hY hYo k hk e s1 s' he Q a' w' c' h' hQ)
  ·rename_i hx
   refine wpIn_seq (ihx Fm hn Y YR hY hYo k hk e s s' he _ a w c h fun a' w' c' h'=>?_)
   have := hQ a' w' c' h'
   cases e with
   | normal=>exact absurd he (hx s')
   | exit id=>exact this
   | ret=>exact this
 | cond x t e iht ihe =>
  intro Fm hn Y YR hY hYo k hk ex s s' he Q a w c h hQ
  simp only [evC] at he
  split at he
  ·rename_i t' hl
   have hv : VR P w c (look s.tm t') (a.tmps.getD t' undef) := h.tm t'
   rw [show look s.tm t' = .val (.bool true) from hl] at hv
   exact wpIn_cond_true (show a.eval (.tmp t') = .bool true from hv.val_inv) (iht Fm hn Y YR hY hYo k hk ex s s' he Q a w c h hQ)
  ·rename_i t' hl
   have hv : VR P w c (look s.tm t') (a.tmps.getD t' undef) := h.tm t'
   rw [show look s.tm t' = .val (.bool false) from hl] at hv
   exact wpIn_cond_false (show a.eval (.tmp t') = .bool false from hv.val_inv) (ihe Fm hn Y YR hY hYo k hk ex s s' he Q a w c h hQ)
  ·exact wpIn_cond_true rfl (iht Fm hn Y YR hY hYo k hk ex s s' he Q a w c h hQ)
  ·exact wpIn_cond_false rfl (ihe Fm hn Y YR hY hYo k hk ex s s' he Q a w c h hQ)
  ·cases he
 | block id x ih =>
  intro Fm hn Y YR hY hYo k hk e s s' he Q a w c h hQ
  simp only [evC] at he
  split at he
  ·rename_i i s1 h1
   refine wpIn_block (ih Fm hn Y YR hY hYo k hk (.exit i) s s1 h1 _ a w c h fun a' w' c' h'=>?_)
   cases hb : Nat.beq i id with
   | true =>
    rw [hb] at he
    cases he
    have := Nat.eq_of_beq_eq_true hb
    subst this
    simp only [toExit,Exit.inBlock,if_true]
    exact hQ a' w' c' h'
   | false =>
    rw [hb] at he
    cases he
    have hne : i ≠ id := fun e=>by subst e; simp at hb
    simp only [toExit,Exit.inBlock,if_neg hne]
    exact hQ a' w' c' h'
  ·rename_i hx
   refine wpIn_block (ih Fm hn Y YR hY hYo k hk e s s' he _ a w c h fun a' w' c' h'=>?_)
   have := hQ a' w' c' h'
   cases e with
   | normal=>exact this
   | exit id=>exact absurd he (hx id s')
   | ret=>exact this
 | loop x ih =>
  intro Fm hn Y YR hY hYo k hk e s s' he Q a w c h hQ
  simp only [evC] at he
  exact evLoop_ok (ht Fm) (fun e s s' he=>ih Fm hn Y YR hY hYo k hk e s s' he) he Q a w c h hQ
 | region id ops draw =>
  intro Fm hn Y YR hY hYo k hk e s s' he Q a w c h hQ
  simp only [evC] at he
  split at he
  ·generalize hgl : glOf ops = gl at he
   cases hd : drawOk gl ops with
   | false=>rw [hd] at he; cases he
   | true =>
    rw [hd,cond_true] at he
    split at he
    ·rename_i s1 h1
     cases he
     rw [gateF_eq] at h1
     have h2 := evOps_ok (k := k) (YR := noY) (noYF_rel _) (K := fun x=>x = s') (arr gl ops).toList 0 s s' h1 rfl
     rw [← hn] at h2
     have hpl : (evEnv F noI noY k false).plain = { evEnv F noI noY k false with I := fun _ _ _ _ _ _=>False,Y := noY } := rfl
     have hev : opsW (evEnv F noI noY k false).plain T Fm.n (gateSt gl (arr gl ops)) (arr gl ops) (fun x=>x = s') 0 (arr gl ops).toList s := by
      have hI0 : (evEnv F noI noY k false) = (evEnv F noI noY k false).plain := by
       have : IRel noI = fun _ _ _ _ _ _=>False := by
        funext YR f args n s K
        refine propext ⟨fun ⟨Y,_,r,s',h,_⟩=>(by cases h),fun h=>h.elim⟩
       unfold evEnv Env.plain
       rw [this]
      rw [← hI0]
      exact h2
     exact hD.1 Fm (evEnv F noI noY k false) w0 q id ops (fun x=>x = s') Q s a w c gl hF hd (fun s2 a' w' c' h' e=>hQ a' w' c' (e ▸ h')) h hev
    ·cases he
  ·split at he
   ·rename_i s1 h1
    cases he
    refine wpIn_region ?_
    have h2 := evOps_ok (k := k) (g0 := true) hY (K := fun x=>x = s') ops.toList 0 s s' h1 rfl
    rw [← hn] at h2
    have := ops_ok hT (E := evEnv F I YR k true) ⟨hF,hI,hYo,hk,fun _ _ _ _ _ _ hf=>hf.elim⟩ (Q := Q) (K := fun x=>x = s') (fun s2 a' w' c' h' e=>hQ a' w' c' (e ▸ h')) ops.toList 0 s a w c rfl h h2
    rwa [← List.range_eq_range',Array.length_toList] at this
   ·cases he
 | rangeFunc g ps assign body iha ihb =>
  intro Fm hn Y YR hY hYo k hk e s s' he Q a w c h hQ
  simp only [evC] at he
  split at he
  ·rename_i f nf cap hg
   subst hn
   have hWA : ∀ F2 : Fr,F2.n = Fm.n → F2.rc = none → F2.r ≠ none → ∀ (Q' : Ex → St → Prop) (Q : Exit → Act → World → Prop) (s : St) (a : Act) (w : World) (c : Cx),(∀ e s' a' w' c',SR P F2 w0 q s' a' w' c' → Q' e s' → Q (toExit e) a' w') → SR P F2 w0 q s a w c → (∃ e s',evC T F I tidy Fm.n L assign noYF false s = some (e,s') ∧ Q' e s') → assign.wpIn (FR F2.r) 0 P Q a w :=
    fun F2 e1 _ _ Q' Q s a w c hQ h ⟨e,s',he,hq⟩=>iha F2 e1 noYF noY (noYF_rel _) (.inl rfl) false (fun hf=>by cases hf) e s s' he Q a w c h fun a' w' c' h'=>hQ e s' a' w' c' h' hq
   have hWB : ∀ F2 : Fr,F2.n = Fm.n → F2.rc = none → F2.r ≠ none → ∀ (Q' : Ex → St → Prop) (Q : Exit → Act → World → Prop) (s : St) (a : Act) (w : World) (c : Cx),(∀ e s' a' w' c',SR P F2 w0 q s' a' w' c' → Q' e s' → Q (toExit e) a' w') → SR P F2 w0 q s a w c → (∃ e s',evC T F I tidy Fm.n L body noYF false s = some (e,s') ∧ Q' e s') → body.wpIn (FR F2.r) 0 P Q a w :=
    fun F2 e1 _ _ Q' Q s a w c hQ h ⟨e,s',he,hq⟩=>ihb F2 e1 noYF noY (noYF_rel _) (.inl rfl) false (fun hf=>by cases hf) e s s' he Q a w c h fun a' w' c' h'=>hQ e s' a' w' c' h' hq
   refine range_ok hI (hk rfl) (WA := fun Q s=>∃ e s',evC T F I tidy Fm.n L assign noYF false s = some (e,s') ∧ Q e s') (WB := fun Q s=>∃ e s',evC T F I tidy Fm.n L body noYF false s = some (e,s') ∧ Q e s') hWA hWB
    (Q' := fun e2 s2=>e2 = e ∧ s2 = s') (fun e2 s2 a' w' c' h' hq=>by obtain ⟨rfl,rfl⟩ := hq; exact hQ a' w' c' h') h hg ?_
   refine ⟨evRound (fun s=>evC T F I tidy Fm.n L assign noYF false s) (fun s=>evC T F I tidy Fm.n L body noYF false s) s.hp.ny Fm.n ps.toList,?_,?_⟩
   ·intro i m args s1 b s2 hr K hK
    unfold evRound at hr
    cases hc : (Nat.beq i s.hp.ny && Nat.beq args.length ps.toList.length && s1.hp.jump.isNone && ps.toList.all (fun t=>Nat.blt t Fm.n)) with
    | false=>rw [hc] at hr; cases hr
    | true =>
     rw [hc,cond_true] at hr
     refine ⟨rfl,?_⟩
     rw [forceTm_eq,forceTm_eq] at hr
     split at hr
     ·rename_i s3 h3
      refine ⟨_,_,h3,?_⟩
      simp only
      split at hr
      ·rename_i s4 h4
       rw [forceTm_eq,forceTm_eq] at hr
       cases hr
       exact ⟨_,_,h4,hK⟩
      ·rename_i e4 s4 hne h4
       rw [forceTm_eq,forceTm_eq] at hr
       cases hr
       refine ⟨_,_,h4,?_⟩
       cases e4 with
       | normal=>exact absurd rfl (hne ·)
       | exit id=>exact hK
       | ret=>exact hK
      ·cases hr
     ·cases hr
   ·split at he
    ·rename_i v s2 h2
     refine ⟨v,s2,h2,?_⟩
     split at he
     ·rename_i hj
      cases he
      rw [hj]
      exact ⟨rfl,rfl⟩
     ·rename_i e2 hj
      cases he
      rw [hj]
      exact ⟨rfl,rfl⟩
    ·cases he
  ·cases he
 | _=>intro Fm hn Y YR hY hYo k hk e s s' he; simp [evC] at he

theorem hardRows_eq {α : Type} : ∀ (l : List (List AV)) (k : List (List AV) → α),solid.hardRows l k = k l
 | [],k=>rfl
 | x :: r,k=>by simp [solid.hardRows,hardL_eq,hardRows_eq r]

theorem solid_ok : ∀ (k : Nat) (x : AV),deep k x = true → AVE k x (solid k x)
 | 0,x,h=>by simp [deep] at h
 | k + 1, x, h => by
  have sub : ∀ (l : List AV),l.all (deep k) = true → l.length = (l.map (solid k)).length ∧ ∀ i x y,nth? l i = some x → nth? (l.map (solid k)) i = some y → AVE k x y := fun l hl=>by
   refine ⟨by simp,fun i x y hx hy=>?_⟩
   rw [nth?_eq] at hx hy
   rw [List.getElem?_map,hx] at hy
   cases hy
   exact solid_ok k x (List.all_eq_true.1 hl x (List.mem_of_getElem? hx))
  cases x with
  | rslice es len f =>
   simp only [solid,hardRows_eq,AVE]
   refine ⟨trivial,trivial,fun i hi=>?_⟩
   rw [nth?_eq]
   simp [hi]
  | agg l=>simp only [solid,AVE]; simp only [deep] at h; exact sub l h
  | tuple l=>simp only [solid,AVE]; simp only [deep] at h; exact sub l h
  | _=>simp [solid,AVE]

theorem isVal_ok {x : AV} (h : isVal x = true) : ∃ v,x = .val v := by
  cases x <;> first | exact ⟨_,rfl⟩ | simp [isVal] at h

theorem plain_ok : ∀ (l : List AV),plainB l = true → PlainR l
 | [],_=>trivial
 | x :: r, h => by
  cases x with
  | rslice es len g =>
   simp only [plainB,Bool.and_eq_true] at h
   refine ⟨fun i hi y hy=>?_,plain_ok r h.2⟩
   have := List.all_eq_true.1 h.1 i (List.mem_range.2 hi)
   exact isVal_ok (List.all_eq_true.1 this y hy)
  | _=>simp only [plainB] at h; simp only [PlainR]; exact plain_ok r h

theorem evR_ok {fn : Func} {s : St} {r : AV} {fr : Bool} (h : evR T fn s = some (r,fr)) : Fin T fn r fr s := by
 unfold evR at h
 unfold Fin
 split at h
 ·cases h
 ·rename_i l hl
  rw [hl]
  cases hd : deep 5 (fz s.hp (oneOf l)) with
  | false=>rw [hd] at h; cases h
  | true =>
   rw [hd,cond_true,hard_eq] at h
   cases h
   refine ⟨solid_ok 5 _ hd,fun hf=>?_⟩
   rw [Bool.and_eq_true] at hf
   exact ⟨hf.1,plain_ok _ hf.2⟩

theorem forceBs_eq : ∀ (l : List AB) (k : List AB → St),forceBs l k = k l
 | [],k=>rfl
 | ⟨es,len,f,ver,ro,flat,one⟩ :: r,k=>by simp [forceBs,forceBs_eq r]

theorem look_tidy (tm : List (Nat × AV)) : ∀ (n t0 t : Nat),look (tidyTm.go tm n t0) t = look tm t ∨ look (tidyTm.go tm n t0) t = .top
 | 0,t0,t=>.inr rfl
 | n + 1, t0, t => by
  unfold tidyTm.go
  split
  ·exact look_tidy tm n (t0 + 1) t
  ·simp only [look]
   cases hb : Nat.beq t0 t with
   | true=>have := Nat.eq_of_beq_eq_true hb; subst this; exact .inl rfl
   | false=>exact look_tidy tm n (t0 + 1) t

theorem tidyB_le (k : AB) : (tidyB k).es = k.es ∧ (tidyB k).len = k.len ∧ (tidyB k).ver = k.ver ∧ (tidyB k).ro = k.ro ∧ ((tidyB k).flat = true → k.flat = true) ∧ ∀ i,i < k.len → (tidyB k).f i = k.f i := by
 unfold tidyB
 cases Nat.ble k.len 64 with
 | false=>exact ⟨rfl,rfl,rfl,rfl,id,fun _ _=>rfl⟩
 | true =>
  rw [cond_true,hardRows_eq]
  refine ⟨rfl,rfl,rfl,rfl,fun h=>h,fun i hi=>?_⟩
  simp only
  rw [nth?_eq]
  simp [hi]

theorem BLe_tidy : ∀ (l : List AB),BLe l (l.map tidyB)
  | []=>trivial
  | k :: r=>⟨⟨(tidyB_le k).1,(tidyB_le k).2.1,(tidyB_le k).2.2.1,(tidyB_le k).2.2.2.1,(tidyB_le k).2.2.2.2.1,fun i hi=>.inl ((tidyB_le k).2.2.2.2.2 i hi)⟩,BLe_tidy r⟩
theorem SR.tidy {Fm : Fr} {w0 w : World} {q : Nat → Prop} {s : St} {a : Act} {c : Cx} (m : Nat) (h : SR P Fm w0 q s a w c) : SR P Fm w0 q (tidy m s) a w c := by
 have e : Go.Tr.tidy m s = { s with tm := tidyTm m s.tm,hp := { s.hp with blocks := s.hp.blocks.map tidyB } } := by
  unfold Go.Tr.tidy
  rw [forceTm_eq,forceBs_eq]
 rw [e]
 refine SR.look_eq (s := { s with hp := { s.hp with blocks := s.hp.blocks.map tidyB } }) (h.weak ⟨⟨.inl rfl,rfl,rfl,rfl⟩,BLe_tidy _,MLe_refl _⟩) (fun t=>look_tidy s.tm m 0 t) rfl rfl

theorem evD_ok (hm : P.follows .mixedOrders = true) {G : FuncId → List AV → Option (AV × Bool)} (hG : ∀ f args r fr, G f args = some (r, fr) → Sound1 P f args r fr) (L : Nat) : ∀ (d : Nat) (Y : YF) (f : FuncId) (sv : List (Nat × AV)) (args : List AV) (hp : Hp) (s : St) (fn : Func), evD P G L d Y f sv args hp = some (s, fn) →
    P.funcs[f]? = some fn ∧ ∃ cd e, fn.body = some cd ∧ (fn.name == "runtime.NumGoroutine") = false ∧ args.length ≤ fn.ntmps ∧ (e = .normal ∨ e = .ret) ∧
    ∀ (YR : YT) (X : Nat → Value) (Gs : List (Nat × Obj × Option Nat)) (rc : Option (Nat × Nat × RcT)) (w0 : World) (q : Nat → Prop), YRel Y YR → YOk P X Gs rc w0 q YR → ∀ (Q : Exit → Act → World → Prop) a w c, SR P ⟨fn.ntmps, X, none, Gs, rc⟩ w0 q { tm := start args 0, hp, sv } a w c →
      (∀ a' w' c',SR P ⟨fn.ntmps,X,none,Gs,rc⟩ w0 q s a' w' c' → Q (toExit e) a' w') → cd.wpIn (FR none) 0 P Q a w
  | 0,_,_,_,_,_,_,_,h=>by simp [evD] at h
  | d + 1, Y, f, sv, args, hp, s, fn, h => by
    have hDr : DrawnOk P (TP P) := drawn_ok (TOK_TP P) hm
    unfold evD at h
    split at h
    · rename_i fn' hf
      split at h
      · rename_i c hc
        cases hn : (!(fn'.name == "runtime.NumGoroutine") && Nat.ble args.length fn'.ntmps) with
        | false=>rw [hn] at h; cases h
        | true =>
          rw [hn,cond_true] at h
          rw [Bool.and_eq_true] at hn
          have hFs : ∀ f args r fr,(match G f args with
                | some x=>some x
                | none=>match evD P G L d noYF f [] args ⟨[],[],none,0⟩ with | some (s,fn)=>evR (TP P) fn s | none=>none) = some (r,fr) → Sound1 P f args r fr := fun f args r fr h=>by
            split at h
            · rename_i x hx; cases h; exact hG _ _ _ _ hx
            · split at h
              · rename_i s1 fn1 h1
                obtain ⟨g0,cd1,e1,g1,g2,g3,g4,g5⟩ := evD_ok hm hG L d _ _ _ _ _ _ _ h1
                refine ⟨run_enter g0 g2 g1,fun w q vs hq hgk hs hv=>callsIn_wide.1 (callsIn_of_wp_marks (F := FR none) (n := 0) g0 g1 trivial (g5 noY _ _ _ w q (noYF_rel _) (noY_ok _ _ _ _ _) _ _ _ _ (sr_start g3 hq hgk hs hv) fun a' w' c' h'=>gives_of_post (TOK_TP P) h' ?_))⟩
                rcases g4 with rfl | rfl
                · exact evR_ok h
                · exact evR_ok h
              · cases h
          have hIs : IOk P (IRel fun Y f args n s=>forceTm (pushSv n s.tm s.sv) fun sv=>match evD P G L d Y f sv args s.hp with
                | some (s', fn) => match resAV (TP P) s' fn.results.toList with
                  | some l=>forceTm (popTm n s'.sv) fun tm=>forceTm (popSv n s'.sv) fun sv=>some (oneOf l,{ tm,hp := s'.hp,sv })
                  | none=>none
                | none=>none) := by
            intro YR f args n s K hI X Gs rc w0 q w c vs hHS hargs hY
            obtain ⟨Y2,hYr,r,s',he,hK⟩ := hI
            simp only [forceTm_eq] at he
            split at he
            case h_2=>cases he
            rename_i s1 fn1 h1
            split at he
            case h_2=>cases he
            rename_i l hl
            cases he
            obtain ⟨g0,cd1,e1,g1,g2,g3,g4,g5⟩ := evD_ok hm hG L d _ _ _ _ _ _ _ h1
            refine ⟨run_enter g0 g2 g1,callsIn_of_wp_marks g0 g1 trivial ?_⟩
            have h0 : SR P ⟨fn1.ntmps,X,none,Gs,rc⟩ w0 q { tm := start args 0,hp := s.hp,sv := pushSv n s.tm s.sv } { tmps := vs ++ Array.replicate (fn1.ntmps - vs.size) undef,defers := [] } w c :=
              ⟨hHS,fun t=>start_rel hargs t,(by have := hargs.1; simp; omega),[],rfl,List.nodup_nil,fun D hD=>by cases hD⟩
            refine g5 YR X Gs rc w0 q hYr hY _ _ _ _ h0 fun a' w' c' h'=>?_
            obtain ⟨ds,d1,d2,d3⟩ := h'.defers
            have fin : LeavesInM (FR none) 0 P fn1 a'.tmps (fun e w'=>∃ u,e = .returned u ∧ ∃ r hp' sv' c',HS P X Gs rc w0 q hp' sv' w' c' ∧ VR P w' c' r u ∧ K r { tm := popTm n sv',hp := hp',sv := popSv n sv' }) a'.defers .returning w' := by
              rw [d1]
              refine leave_marks ds a' w' h' d1 d2 d3 fun a2 w2 h2 _=>?_
              obtain ⟨u,p1,p2⟩ := result_val (TOK_TP P) h2 hl
              exact ⟨u,p1,u,rfl,oneOf l,s1.hp,s1.sv,c',h2.toHS,p2,hK⟩
            rcases g4 with rfl | rfl <;> exact fin
          have fin : ∀ e,(e = .normal ∨ e = .ret) → ∀ s1,evC (TP P) _ _ (Go.Tr.tidy fn'.ntmps) fn'.ntmps L c Y true { tm := start args 0,hp,sv } = some (e,s1) →
              (P.funcs[f]? = some fn' ∧ ∃ cd e, fn'.body = some cd ∧ (fn'.name == "runtime.NumGoroutine") = false ∧ args.length ≤ fn'.ntmps ∧ (e = .normal ∨ e = .ret) ∧
    ∀ (YR : YT) (X : Nat → Value) (Gs : List (Nat × Obj × Option Nat)) (rc : Option (Nat × Nat × RcT)) (w0 : World) (q : Nat → Prop), YRel Y YR → YOk P X Gs rc w0 q YR → ∀ (Q : Exit → Act → World → Prop) a w c, SR P ⟨fn'.ntmps, X, none, Gs, rc⟩ w0 q { tm := start args 0, hp, sv } a w c →
      (∀ a' w' c', SR P ⟨fn'.ntmps, X, none, Gs, rc⟩ w0 q s1 a' w' c' → Q (toExit e) a' w') → cd.wpIn (FR none) 0 P Q a w) := fun e he s1 hrun =>
            ⟨hf,c,e,hc,by simpa using hn.1,Nat.le_of_ble_eq_true hn.2,he,fun YR X Gs rc w0 q hYr hY Q a w c' h0 hQ =>
              evC_ok (TOK_TP P) hDr hFs hIs (fun _ _ _ _ _ h=>h.tidy _) c ⟨fn'.ntmps,X,none,Gs,rc⟩ rfl Y YR hYr (.inr ⟨rfl,hY⟩) true (fun _=>rfl) e _ _ hrun Q a w c' h0 hQ⟩
          split at h
          · rename_i s1 hs; cases h; exact fin .normal (.inl rfl) _ hs
          · rename_i s1 hs; cases h; exact fin .ret (.inr rfl) _ hs
          · cases h
      · cases h
    · cases h

theorem evF_ok (hm : P.follows .mixedOrders = true) {G : FuncId → List AV → Option (AV × Bool)} (hG : ∀ f args r fr,G f args = some (r,fr) → Sound1 P f args r fr) (L d : Nat) (f : FuncId) (args : List AV) (r : AV) (fr : Bool) (h : evF P G L d f args = some (r,fr)) : Sound1 P f args r fr := by
 unfold evF at h
 split at h
 ·rename_i x hx; cases h; exact hG _ _ _ _ hx
 ·split at h
  ·rename_i s1 fn1 h1
   obtain ⟨g0,cd1,e1,g1,g2,g3,g4,g5⟩ := evD_ok hm hG L d _ _ _ _ _ _ _ h1
   refine ⟨run_enter g0 g2 g1,fun w q vs hq hgk hs hv=>callsIn_wide.1 (callsIn_of_wp_marks (F := FR none) (n := 0) g0 g1 trivial (g5 noY _ _ _ w q (noYF_rel _) (noY_ok _ _ _ _ _) _ _ _ _ (sr_start g3 hq hgk hs hv) fun a' w' c' h'=>gives_of_post (TOK_TP P) h' ?_))⟩
   rcases g4 with rfl | rfl
   ·exact evR_ok h
   ·exact evR_ok h
  ·cases h
end
end Go.Tr

/- Known runs as an oracle: closed runs proved one by one. Conditions: the program's rules take any order. -/
namespace Go.Tr
open Go Go.RowKit
variable [GTab]

def valq : Value → Value → Bool
 | .int k a,.int k' b=>decide (k = k') && a == b
 | .bool a,.bool b=>a == b
 | .string a,.string b=>a.data.toList == b.data.toList
 | _,_=>false
def celq : AV → AV → Bool
 | .val a,.val b=>valq a b
 | .eslice,.eslice=>true
 | _,_=>false
def rowq : List AV → List AV → Bool
 | [],[]=>true
 | x :: r,y :: s=>celq x y && rowq r s
 | _,_=>false
def allq (p : AV → AV → Bool) : List AV → List AV → Bool
 | [],[]=>true
 | x :: r,y :: s=>p x y && allq p r s
 | _,_=>false
def avq : Nat → AV → AV → Bool
 | _ + 1,.rslice es len f,.rslice es' len' g=>Nat.beq es es' && Nat.beq len len' && (List.range len).all fun i=>rowq (f i) (g i)
 | k + 1,.agg l,.agg m=>allq (avq k) l m
 | k + 1,.tuple l,.tuple m=>allq (avq k) l m
 | _ + 1,x,y=>celq x y
 | 0,_,_=>false

theorem valq_ok {a b : Value} (h : valq a b = true) : a = b := by
 unfold valq at h
 split at h
 ·simp at h; rw [h.1,h.2]
 ·simp at h; rw [h]
 ·rename_i a b
  have e : a.data.toList = b.data.toList := by simpa using h
  have e2 : a = b := ByteArray.ext (Array.ext' e)
  rw [e2]
 ·cases h
theorem celq_ok {x y : AV} (h : celq x y = true) : x = y := by
 unfold celq at h
 split at h
 ·rw [valq_ok h]
 ·rfl
 ·cases h
theorem rowq_ok : ∀ {l m : List AV},rowq l m = true → l = m
 | [],[],_=>rfl
 | x :: r,y :: s,h=>by
  simp only [rowq,Bool.and_eq_true] at h
  rw [celq_ok h.1,rowq_ok h.2]
 | [],_ :: _,h=>by simp [rowq] at h
 | _ :: _,[],h=>by simp [rowq] at h

theorem allq_ok {p : AV → AV → Bool} {q : AV → AV → Prop} (h : ∀ x y,p x y = true → q x y) : ∀ (l m : List AV),allq p l m = true → l.length = m.length ∧ ∀ i x y,nth? l i = some x → nth? m i = some y → q x y
 | [],[],_=>⟨rfl,fun i x y hx=>by cases hx⟩
 | x :: r,y :: s,e=>by
  simp only [allq,Bool.and_eq_true] at e
  obtain ⟨h1,h2⟩ := allq_ok h r s e.2
  refine ⟨by simp [h1],fun i a b ha hb=>?_⟩
  cases i with
  | zero=>cases ha; cases hb; exact h _ _ e.1
  | succ i=>exact h2 i a b ha hb
 | [],_ :: _,e=>by simp [allq] at e
 | _ :: _,[],e=>by simp [allq] at e

theorem avq_ok : ∀ (k : Nat) (x y : AV),avq k x y = true → AVE k x y
 | 0,_,_,h=>by simp [avq] at h
 | k + 1, x, y, h => by
  unfold avq at h
  split at h <;> (try injections) <;> (try subst_vars)
  ·simp only [Bool.and_eq_true] at h
   refine ⟨Nat.eq_of_beq_eq_true h.1.1,Nat.eq_of_beq_eq_true h.1.2,fun i hi=>rowq_ok (List.all_eq_true.1 h.2 i (List.mem_range.2 hi))⟩
  ·exact allq_ok (avq_ok _) _ _ h
  ·exact allq_ok (avq_ok _) _ _ h
  ·have e := celq_ok h
   subst e
   unfold celq at h
   split at h <;> first | rfl | cases h

structure Run where
 f : FuncId
 args : List AV
 r : AV

def Run.ok (P : Program) (x : Run) : Prop := Sound1 P x.f x.args x.r false

def oracle : List Run → FuncId → List AV → Option (AV × Bool)
 | [],_,_=>none
 | x :: l,f,args=>bif Nat.beq x.f f && allq (avq 5) args x.args then some (x.r,false) else oracle l f args

variable {P : Program}

theorem Sound1.res {f : FuncId} {xs : List AV} {r r' : AV} (h : Sound1 P f xs r false) (hr : AVE 5 r r') : Sound1 P f xs r' false := by
 refine ⟨h.1,fun w q vs hq hg hs hv=>?_⟩
 have := h.2 w q vs hq hg hs hv
 refine Calls.mono this ?_
 rintro e w' ⟨u,h1,h2,h3⟩
 exact ⟨u,h1,h2,AVE_ok 5 hr h3⟩

theorem Sound1.args {f : FuncId} {xs ys : List AV} {r : AV} {fr : Bool} (h : Sound1 P f xs r fr) (hl : ys.length = xs.length) (hx : ∀ i y x,nth? ys i = some y → nth? xs i = some x → AVE 5 y x) : Sound1 P f ys r fr := by
 refine ⟨h.1,fun w q vs hq hg hs hv=>?_⟩
 have := h.2 w q vs hq hg (by rw [hs,hl]) fun i x hi=>by
  have hlt : i < ys.length := by rw [hl]; exact (List.getElem?_eq_some_iff.1 hi).1
  exact AVE_ok 5 (hx i ys[i] x (by rw [nth?_eq]; exact List.getElem?_eq_getElem hlt) (by rw [nth?_eq]; exact hi)) (hv i _ (List.getElem?_eq_getElem hlt))
 exact this

theorem oracle_ok : ∀ {l : List Run},(∀ x ∈ l,x.ok P) → ∀ f args r fr,oracle l f args = some (r,fr) → Sound1 P f args r fr
 | [],_,f,args,r,fr,h=>by cases h
 | x :: l, hl, f, args, r, fr, h => by
  unfold oracle at h
  cases hb : (Nat.beq x.f f && allq (avq 5) args x.args) with
  | true =>
   rw [hb,cond_true] at h
   cases h
   rw [Bool.and_eq_true] at hb
   obtain ⟨h1,h2⟩ := allq_ok (avq_ok 5) _ _ hb.2
   have e := Nat.eq_of_beq_eq_true hb.1
   have := hl x (List.mem_cons_self ..)
   unfold Run.ok at this
   rw [e] at this
   exact this.args h1 h2
  | false=>rw [hb,cond_false] at h; exact oracle_ok (fun y hy=>hl y (List.mem_cons_of_mem _ hy)) f args r fr h

def runq (x : Option (AV × Bool)) (y : AV) : Bool := match x with | some (r,_)=>avq 5 r y | none=>false

theorem oracle_false : ∀ {l : List Run} {f : FuncId} {args : List AV} {r : AV} {fr : Bool},oracle l f args = some (r,fr) → fr = false
 | [],f,args,r,fr,h=>by cases h
 | x :: l,f,args,r,fr,h=>by
  unfold oracle at h
  cases hb : (Nat.beq x.f f && allq (avq 5) args x.args) with
  | true=>rw [hb,cond_true] at h; cases h; rfl
  | false=>rw [hb,cond_false] at h; exact oracle_false h

theorem Fin.weak {T : Nat → Option TI} {fn : Func} {r : AV} {fr : Bool} {s : St} (h : Fin T fn r fr s) : Fin T fn r false s := by
 unfold Fin at h ⊢
 split at h
 ·exact h
 ·exact ⟨h.1,nofun⟩

theorem evF_false (hm : P.follows .mixedOrders = true) {G : FuncId → List AV → Option (AV × Bool)} (hG : ∀ f args r fr,G f args = some (r,fr) → Sound1 P f args r fr ∧ fr = false) (L d : Nat) (f : FuncId) (args : List AV) (r : AV) (fr : Bool) (h : evF P G L d f args = some (r,fr)) : Sound1 P f args r false := by
 have hG' := fun f args r fr h=>(hG f args r fr h).1
 unfold evF at h
 split at h
 ·rename_i x hx; cases h; have e := (hG _ _ _ _ hx).2; subst e; exact hG' _ _ _ _ hx
 ·split at h
  ·rename_i s1 fn1 h1
   obtain ⟨g0,cd1,e1,g1,g2,g3,g4,g5⟩ := evD_ok hm hG' L d _ _ _ _ _ _ _ h1
   refine ⟨run_enter g0 g2 g1,fun w q vs hq hg hs hv=>callsIn_wide.1 (callsIn_of_wp_marks (F := FR none) (n := 0) g0 g1 trivial (g5 noY _ _ _ w q (noYF_rel _) (noY_ok _ _ _ _ _) _ _ _ _ (sr_start g3 hq hg hs hv) fun a' w' c' h'=>gives_of_post (TOK_TP P) (r := r) (fr := false) h' ?_))⟩
   rcases g4 with rfl | rfl
   ·exact (evR_ok h).weak
   ·exact (evR_ok h).weak
  ·cases h

theorem run_okG (hm : P.follows .mixedOrders = true) {G : FuncId → List AV → Option (AV × Bool)} (hG : ∀ f args r fr,G f args = some (r,fr) → Sound1 P f args r fr ∧ fr = false) (L d : Nat) {f : FuncId} {args : List AV} {y : AV} (h : runq (evF P G L d f args) y = true) : Run.ok P ⟨f,args,y⟩ := by
 unfold runq at h
 split at h
 ·rename_i r fr he
  have := evF_false hm hG L d f args r fr he
  exact this.res (avq_ok 5 _ _ h)
 ·cases h

theorem run_ok (hm : P.follows .mixedOrders = true) {l : List Run} (hl : ∀ x ∈ l,x.ok P) (L d : Nat) {f : FuncId} {args : List AV} {y : AV} (h : runq (evF P (oracle l) L d f args) y = true) : Run.ok P ⟨f,args,y⟩ :=
  run_okG hm (fun f args r fr h=>⟨oracle_ok hl f args r fr h,oracle_false h⟩) L d h
end Go.Tr
