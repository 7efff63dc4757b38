/- All operations together. Conditions: none. -/
import Derived.Test.YtinfmponjglalaaGreatDoorTr02
import Derived.Laws.IdiomRangeMap
import Derived.RangeFuncRecord
import Derived.OrdersIn
set_option linter.unusedSectionVars false
set_option linter.unnecessarySimpa false
set_option linter.unusedVariables false
set_option linter.unusedSimpArgs false

namespace Go.Tr
open Go Go.RowKit
variable [GTab]

section
variable {P : Program} {T : Nat → Option TI} {w w' : World} {c c' : Cx} {base : Nat} {hp hp' : Hp}

def QuietOut (P : Program) (base : Nat) (w : World) (c : Cx) (hp hp' : Hp) (x : Sem Next) (v : AV) : Prop :=
  ∃ u w' c',x.run P w = .ok (.value u) w' ∧ QOut P base w c hp w' c' hp' ∧ VR P w' c' v u

theorem PureOut.quiet (h : HR P base w c hp) {x : Sem Value} {v : AV} {o : Oper} {r : Operand → Value} (hx : hp' = hp ∧ PureOut P w c x v) (he : execOp r o = (do pure (.value (← x)))) : QuietOut P base w c hp hp' (execOp r o) v := by
 obtain ⟨rfl,u,h1,h2⟩ := hx
 refine ⟨u,w,c,?_,qout_same h (Below.refl _ _) rfl,h2⟩
 rw [he]
 simp [h1]

theorem same_quiet (h : HR P base w c hp) {v : AV} {x : Sem Next} (hx : hp' = hp ∧ ∃ u,x.run P w = .ok (.value u) w ∧ VR P w c v u) : QuietOut P base w c hp hp' x v := by
 obtain ⟨rfl,u,h1,h2⟩ := hx
 exact ⟨u,w,c,h1,qout_same h (Below.refl _ _) rfl,h2⟩

theorem append_quiet (hT : TOK P T) (h : HR P base w c hp) (hbase : base ≤ w.heap.size) {o : Oper} {args : Array Operand} {ts : Array TypeId} {ρ : Operand → AV} {r : Operand → Value} (hop : o.op = .call { callee := .builtin .append, args, argTypes := ts })
  (hx : ∀ x ∈ args,VR P w c (ρ x) (r x)) (hq : isEff o ρ = false) {v : AV} (hev : (opEv T o ρ hp).gives v hp') (hfree : ∀ b,hp.blocks.length ≤ b → b < hp'.blocks.length → c.O b = none) :
  QuietOut P base w c hp hp' (execOp r o) v := by
 unfold isEff at hq
 rw [hop] at hq
 simp only at hq
 unfold opEv at hev
 rw [hop] at hev
 simp only at hev
 split at hev
 ·rename_i t t' s x hts hargs
  have hts' : ts = #[t,t'] := by rw [← hts]
  obtain ⟨la⟩ := args
  match la,hargs with
  | [],hr=>simp at hr
  | [_],hr=>simp at hr
  | _ :: _ :: _ :: _,hr=>simp at hr
  | [os, ox], hr =>
   simp only [List.map_cons,List.map_nil,List.cons.injEq,and_true] at hr
   obtain ⟨hrs,hrx⟩ := hr
   have hvs := hx os (by simp)
   have hvx := hx ox (by simp)
   rw [hrs] at hvs
   rw [hrx] at hvx
   simp only [List.map_cons,List.map_nil,hrs] at hq
   split at hev
   ·rename_i e _ _ _ _ ht
    split at hev
    ·rename_i ei m fx he hel
     rw [he] at hel
     simp only at hel
     cases htt : Nat.beq t t' with
     | false=>rw [htt] at hel; cases hel
     | true =>
      rw [htt] at hel
      simp only [cond_true] at hel
      have := Nat.eq_of_beq_eq_true htt
      subst this
      obtain ⟨news,hE⟩ := elems_ok h hvx hel
      have hex : ∀ u w',(Builtin.append_ #[t,t] o.type #[r os,r ox]).run P w = .ok u w' → (execOp r o).run P w = .ok (.value u) w' := fun u w' hh=>by
       unfold execOp
       simp only [hop,resolve,invoke,builtin,Sem.run_bind,Sem.run_pure,Result.andThen_ok]
       simp [hts',hh]
      cases hb : Nat.blt 0 ei.size with
      | false=>simp only [hb,cond_false] at hev; exact hev.elim
      | true =>
       simp only [hb,cond_true] at hev
       split at hev
       ·-- an empty slice
        obtain ⟨hby,rfl,rfl⟩ := hev
        have hlen : (hp.addB { es := ei.size,len := m,f := fx,flat := flatOf hp x }).blocks.length = hp.blocks.length + 1 := by simp [Hp.addB]
        have hf := hfree hp.blocks.length (Nat.le_refl _) (by omega)
        cases hvs with
        | tree hvs =>
         generalize hrs2 : r os = us at hvs
         cases hvs with
         | eslice a =>
          by_cases hm : m = 0
          ·subst hm
           obtain ⟨u,w',c',g1,g2,g3⟩ := append_none (ty := o.type) hT h hbase hf ht rfl he (a := a) hE (k := { es := ei.size,len := 0,f := fx,flat := flatOf hp x }) rfl rfl rfl
           exact ⟨u,w',c',hex u w' (by rw [hrs2]; exact g1),g2,g3⟩
          ·have hE0 : Elems P w c ei.size 0 (fun _=>[]) true (.slice a 0 0) #[] := ⟨⟨a,0,rfl,Nat.zero_le _⟩,fun w' _=>by cases a <;> simp [Builtin.firstCells,loadCells,loadCellsFrom],by simp,by simp,by intro i hi; omega,by intro i j y hi; omega⟩
           obtain ⟨u,w',c',g1,g2,g3⟩ := append_new (ty := o.type) hT h hbase hf ht rfl he hE0 hE (by omega) (by rw [Nat.zero_add]; rw [Nat.mul_add] at hby; omega) (by rw [Nat.mul_add] at hby; omega) (k := { es := ei.size,len := m,f := fx,flat := flatOf hp x }) rfl (by simp) rfl (fun i hi=>by simp) (fun hfl=>by simpa using hfl)
           rw [Nat.zero_add] at g3
           exact ⟨u,w',c',hex u w' (by rw [hrs2]; exact g1),g2,g3⟩
       ·rename_i b ver off len cp
        split at hev
        ·rename_i k hk
         cases hb2 : Nat.beq k.es ei.size with
         | false=>rw [hb2] at hev; exact hev.elim
         | true =>
          rw [hb2] at hev
          have hes := Nat.eq_of_beq_eq_true hb2
          obtain ⟨hkb,hkv⟩ := block_some hk
          obtain ⟨oi,hO,hle,_,hv'⟩ := hvs.oslice_inv
          have hB := h.blk b k oi hkb hO
          obtain ⟨hn1,a,k1,hu,hk1,hk2,hkn,hk3,hk4⟩ := hv' (by rw [hB.ver,hkv])
          have hkc := hk4 cp rfl
          subst hkc
          rcases hev with ⟨⟨hcp,hby⟩,rfl,rfl⟩ | ⟨hm,rfl,rfl⟩
          case inr =>
           subst hm
           obtain ⟨_,_,_,inf,hinf,hsz,_,hz⟩ := hT _ _ he
           have hd := (hT _ _ ht).1
           obtain ⟨ax,kx,hxs,_⟩ := hE.sl
           have hn := hE.run w rfl
           have hnews : news = #[] := Array.eq_empty_of_size_eq_zero (by rw [hE.size]; simp)
           subst hnews
           rw [← hsz] at hn
           refine ⟨r os,w,c,hex _ _ ?_,qout_same h (Below.refl _ _) rfl,hvs⟩
           rw [hu]
           rw [hxs] at hn ⊢
           by_cases hk0 : k1 = 0
           ·subst hk0
            have hl0 : len = 0 := by omega
            subst hl0
            cases a <;> simp [Builtin.append_,run_underlying hd,sizeOf,typeInfo,hinf,Builtin.lenOf,hn,storeCells]
           ·rw [hk3 hk0]
            simp [Builtin.append_,run_underlying hd,sizeOf,typeInfo,hinf,Builtin.lenOf,hn,storeCells,hk1]
          have hf := hfree hp.blocks.length (Nat.le_refl _) (by simp [Hp.addB])
          rcases hcp with hcp | ⟨hm,hc0⟩
          ·have hel0 : elemsOf hp ei.size (.oslice b ver off len (some k1)) = some (len,fun i=>k.f (off + i)) := by simp [elemsOf,shiftF_eq,hk,hb2]
           obtain ⟨olds,hE0⟩ := elems_ok h hvs hel0
           have hfl0 : flatOf hp (.oslice b ver off len (some k1)) = k.flat := by simp [flatOf,hk]
           rw [hfl0,hu] at hE0
           obtain ⟨u,w',c',g1,g2,g3⟩ := append_new (ty := o.type) hT h hbase hf ht rfl he hE0 hE hcp (by rw [Nat.mul_add] at hby; omega) (by rw [Nat.mul_add] at hby; omega)
            (k := { es := ei.size,len := len + m,f := fun i=>if i < len then k.f (off + i) else fx (i - len),flat := flatOf hp x && k.flat }) rfl rfl rfl (fun i hi=>rfl) (fun hfl=>hfl)
           exact ⟨u,w',c',hex u w' (by rw [hu]; exact g1),g2,g3⟩
          ·subst hm
           have hl0 : len = 0 := by omega
           subst hl0
           rw [hc0] at hu
           obtain ⟨u,w',c',g1,g2,g3⟩ := append_none (ty := o.type) hT h hbase hf ht rfl he (a := a) hE (k := { es := ei.size,len := 0 + 0,f := fun i=>if i < 0 then k.f (off + i) else fx (i - 0),flat := flatOf hp x && k.flat }) rfl rfl rfl
           exact ⟨u,w',c',hex u w' (by rw [hu]; exact g1),g2,g3⟩
        ·exact hev.elim
       ·rename_i es len cp f
        cases hb2 : Nat.beq es ei.size with
        | false=>rw [hb2] at hev; exact hev.elim
        | true =>
         rw [hb2] at hev
         obtain ⟨⟨hcp,hby⟩,rfl,rfl⟩ := hev
         have hf := hfree hp.blocks.length (Nat.le_refl _) (by simp [Hp.addB])
         have hel0 : elemsOf hp ei.size (.cslice es len cp f) = some (len,f) := by simp [elemsOf,hb2]
         obtain ⟨olds,hE0⟩ := elems_ok h hvs hel0
         have hfl0 : flatOf hp (.cslice es len cp f) = true := rfl
         rw [hfl0] at hE0
         obtain ⟨a,hu⟩ : ∃ a,r os = .slice a len cp := by
          cases hvs with
          | tree hvs =>
           generalize r os = us at hvs
           cases hvs with
           | cslice0 _ _ _ a=>exact ⟨a,rfl⟩
           | cslice _ _ _ _ b off g=>exact ⟨_,rfl⟩
         rw [hu] at hE0
         obtain ⟨u,w',c',g1,g2,g3⟩ := append_new (ty := o.type) hT h hbase hf ht rfl he hE0 hE hcp (by rw [Nat.mul_add] at hby; omega) (by rw [Nat.mul_add] at hby; omega)
          (k := { es := ei.size,len := len + m,f := fun i=>if i < len then f i else fx (i - len),flat := flatOf hp x }) rfl rfl rfl (fun i hi=>rfl) (fun hfl=>by simpa using hfl)
         exact ⟨u,w',c',hex u w' (by rw [hu]; exact g1),g2,g3⟩
       ·rename_i b ver idx sub es len
        split at hev
        ·rename_i k hk
         cases hb2 : Nat.beq es ei.size with
         | false=>rw [hb2] at hev; exact hev.elim
         | true =>
          rw [hb2] at hev
          obtain ⟨⟨hm0,hby⟩,rfl,rfl⟩ := hev
          have hes := Nat.eq_of_beq_eq_true hb2
          have hf := hfree hp.blocks.length (Nat.le_refl _) (by simp [Hp.addB])
          have hel0 : elemsOf hp ei.size (.aslice b ver idx sub es len) = some (len,fun i=>((k.f idx).drop (sub + i * es)).take es) := by simp [elemsOf,hk,hb2]
          obtain ⟨olds,hE0⟩ := elems_ok h hvs hel0
          have hfl0 : flatOf hp (.aslice b ver idx sub es len) = k.flat := by simp [flatOf,hk]
          rw [hfl0] at hE0
          obtain ⟨hkb,hkv⟩ := block_some hk
          obtain ⟨oi,hO,hle,_,hv'⟩ := hvs.aslice_inv
          have hB := h.blk b k oi hkb hO
          obtain ⟨_,_,hu⟩ := hv' (by rw [hB.ver,hkv])
          rw [hu] at hE0
          obtain ⟨u,w',c',g1,g2,g3⟩ := append_new (ty := o.type) hT h hbase hf ht rfl he hE0 hE (by omega) (by rw [Nat.mul_add] at hby; omega) (by rw [Nat.mul_add] at hby; omega)
           (k := { es := ei.size,len := len + m,f := fun i=>if i < len then ((k.f idx).drop (sub + i * es)).take es else fx (i - len),flat := flatOf hp x && k.flat }) rfl rfl rfl (fun i hi=>rfl) (fun hfl=>hfl)
          exact ⟨u,w',c',hex u w' (by rw [hu]; exact g1),g2,g3⟩
        ·exact hev.elim
       ·simp at hq
       ·exact hev.elim
    ·exact hev.elim
   ·exact hev.elim
 ·exact hev.elim

theorem append_eff (hT : TOK P T) (h : HR P base w c hp) (ro : RO c hp) (hbase : base ≤ w.heap.size) {o : Oper} {args : Array Operand} {ts : Array TypeId} {ρ : Operand → AV} {r : Operand → Value} (hop : o.op = .call { callee := .builtin .append, args, argTypes := ts })
  (hx : ∀ x ∈ args,VR P w c (ρ x) (r x)) (hq : isEff o ρ = true) {v : AV} (hev : (opEv T o ρ hp).gives v hp') :
  ∃ u w' c',(execOp r o).run P w = .ok (.value u) w' ∧ EOut P base w c hp w' c' hp' ∧ VR P w' c' v u := by
 unfold isEff at hq
 rw [hop] at hq
 simp only at hq
 unfold opEv at hev
 rw [hop] at hev
 simp only at hev
 split at hev
 ·rename_i t t' s x hts hargs
  have hts' : ts = #[t,t'] := by rw [← hts]
  obtain ⟨la⟩ := args
  match la,hargs with
  | [],hr=>simp at hr
  | [_],hr=>simp at hr
  | _ :: _ :: _ :: _,hr=>simp at hr
  | [os, ox], hr =>
   simp only [List.map_cons,List.map_nil,List.cons.injEq,and_true] at hr
   obtain ⟨hrs,hrx⟩ := hr
   have hvs := hx os (by simp)
   have hvx := hx ox (by simp)
   rw [hrs] at hvs
   rw [hrx] at hvx
   simp only [List.map_cons,List.map_nil,hrs] at hq
   split at hev
   ·rename_i e _ _ _ _ ht
    split at hev
    ·rename_i ei m fx he hel
     rw [he] at hel
     simp only at hel
     cases htt : Nat.beq t t' with
     | false=>rw [htt] at hel; cases hel
     | true =>
      rw [htt] at hel
      simp only [cond_true] at hel
      have := Nat.eq_of_beq_eq_true htt
      subst this
      obtain ⟨news,hE⟩ := elems_ok h hvx hel
      have hex : ∀ u w',(Builtin.append_ #[t,t] o.type #[r os,r ox]).run P w = .ok u w' → (execOp r o).run P w = .ok (.value u) w' := fun u w' hh=>by
       unfold execOp
       simp only [hop,resolve,invoke,builtin,Sem.run_bind,Sem.run_pure,Result.andThen_ok]
       simp [hts',hh]
      cases hb : Nat.blt 0 ei.size with
      | false=>simp only [hb,cond_false] at hev; exact hev.elim
      | true =>
       simp only [hb,cond_true] at hev
       split at hev
       ·simp at hq
       ·simp at hq
       ·simp at hq
       ·simp at hq
       ·rename_i b ver off len
        split at hev
        ·rename_i k hk
         cases hb2 : (Nat.beq k.es ei.size && !k.ro) with
         | false=>rw [hb2] at hev; exact hev.elim
         | true =>
          rw [hb2] at hev
          simp only [Bool.and_eq_true,Bool.not_eq_true'] at hb2
          have hes := Nat.eq_of_beq_eq_true hb2.1
          obtain ⟨hkb,hkv⟩ := block_some hk
          obtain ⟨oi,hO,hle,_,hv'⟩ := hvs.oslice_inv
          have hB := h.blk b k oi hkb hO
          obtain ⟨hn1,a,k1,hu,hk1,hk2,hkn,hk3,hk4⟩ := hv' (by rw [hB.ver,hkv])
          rcases hev with ⟨hby,rfl,rfl⟩ | ⟨hfit,rfl,rfl⟩
          ·have hel0 : elemsOf hp ei.size (.oslice b ver off len none) = some (len,fun i=>k.f (off + i)) := by simp [elemsOf,shiftF_eq,hk,hb2.1]
           obtain ⟨olds,hE0⟩ := elems_ok h hvs hel0
           have hfl0 : flatOf hp (.oslice b ver off len none) = k.flat := by simp [flatOf,hk]
           rw [hfl0,hu] at hE0
           rw [← hkv]
           obtain ⟨u,w',c',g1,g2,g3⟩ := append_own (ty := o.type) hT h ro hbase ht rfl he hkb hO hb2.2 hes hn1 hk1 hk2 hk3 hE0 hE (by rw [Nat.mul_add] at hby; omega) (by rw [Nat.mul_add] at hby; omega)
            (k' := { k with len := len + m,ver := k.ver + 1,f := fun i=>if i < len then k.f (off + i) else fx (i - len),flat := flatOf hp x && k.flat }) rfl rfl rfl hb2.2 (fun i hi=>rfl) (fun hfl=>hfl)
           exact ⟨u,w',c',hex u w' (by rw [hu]; exact g1),g2,g3⟩
          ·rw [← hkv]
           obtain ⟨u,w',c',g1,g2,g3⟩ := append_room (ty := o.type) hT h ro hbase ht rfl he hkb hO hb2.2 hes hk1 hk2 hkn hk3 hfit hE
            (k' := { k with f := fun i=>if i < off + len then k.f i else if i < off + len + m then fx (i - (off + len)) else k.f i,flat := flatOf hp x && k.flat }) rfl rfl rfl hb2.2 (fun i hi=>rfl) (fun hfl=>hfl)
           exact ⟨u,w',c',hex u w' (by rw [hu]; exact g1),g2,g3⟩
        ·exact hev.elim
       ·exact hev.elim
    ·exact hev.elim
   ·exact hev.elim
 ·exact hev.elim

theorem mem_operands {o : Oper} {op : Op} (h : o.op = op) {x : Operand} (hx : x ∈ op.operands) : x ∈ o.op.operands := by rw [h]; exact hx

theorem binEv_any {op : BinOp} {d : Option TI} {x y : AV} {h h' : Hp} {p : Prop} {dp : Decidable p} {b yo : Bool} (hev : binEv op d x y yo h = @Res.anyB p dp b h') : False := by
  unfold binEv at hev
  repeat' split at hev
  all_goals first
    | cases hev
    | (unfold aggEv at hev
       (repeat' split at hev)
       all_goals first
         | cases hev
         | (simp only [Bool.cond_eq_ite] at hev
            (repeat' split at hev)
            all_goals cases hev))

theorem any_real (hT : TOK P T) {o : Oper} {ρ : Operand → AV} {r : Operand → Value} (hcst : ∀ v,r (.const v) = v) (hρ : ∀ x ∈ o.op.operands,VR P w c (ρ x) (r x)) {p : Prop} {dp : Decidable p} {b : Bool} {h' : Hp}
  (hev : opEv T o ρ hp = @Res.anyB p dp b h') : h' = hp ∧ ∃ b' : Bool,(p → b' = b) ∧ (execOp r o).run P w = .ok (.value (.bool b')) w := by
 have key : ∀ op t x y ty,o.op = .binOp op t x y ty → h' = hp ∧ ∃ b' : Bool,(p → b' = b) ∧ (execOp r o).run P w = .ok (.value (.bool b')) w := by
  intro op t x y ty hop
  unfold opEv at hev; rw [hop] at hev
  simp only at hev
  split at hev
  ·rename_i hn
   obtain ⟨e1,b',e2,e3⟩ := real_nil (t := t) (x := x) (y := y) (fun d hd=>(hT _ _ hd).1) (hρ x (mem_operands hop (by simp [Op.operands]))) hcst hn hev
   refine ⟨e1,b',e2,?_⟩
   have he : execOp r o = (do pure (.value (← (do eqGuard op t x y (r x) (r y); binOp op t (r x) (r y))))) := by simp [execOp,hop]
   rw [he,Sem.run_bind,e3]
   rfl
  ·exact (binEv_any hev).elim
 by_cases hb : ∃ op t x y ty,o.op = .binOp op t x y ty
 ·obtain ⟨op,t,x,y,ty,hop⟩ := hb
  exact key op t x y ty hop
 ·exfalso
  unfold opEv at hev
  split at hev
  all_goals try simp only [Bool.cond_eq_ite,forceNr_eq,forceC_eq,forceT_eq,force0_eq,force1_eq] at hev
  all_goals (repeat' split at hev)
  all_goals first
   | (cases hev; done)
   | exact hb ⟨_,_,_,_,_,by assumption⟩

theorem pure_str (h : HR P base w c hp) {src dst e : TypeId} {xv : AV} {u : Value} (hx : VR P w c xv u) (h1 : P.underlying src = some (.slice e)) (h2 : P.underlying dst = some .string) (he : P.underlying e = some (.int .u8)) {f : Nat → List AV}
  (hel : elemsOf hp 1 xv = some (1,f)) {n : Int} (hf : f 0 = [.val (.int .u8 n)]) : PureOut P w c (convert src dst u) (.val (.string ⟨#[UInt8.ofNat n.toNat]⟩)) := by
 obtain ⟨news,E⟩ := elems_ok h hx hel
 obtain ⟨a,k,rfl,hk⟩ := E.sl
 have hr := E.run w rfl
 have hv := (E.rel 0 0 _ (by omega) (by rw [hf]; rfl)).1.val_inv
 have hsz := E.size
 have hn : news = #[.int .u8 n] := by
  apply Array.ext_getElem?
  intro i
  match i with
  | 0 =>
   rw [Array.getElem?_eq_getElem (by omega)]
   have : news.getD (0 * 1 + 0) undef = news[0] := by simp [Array.getD,hsz]
   rw [← this,hv]; rfl
  | i + 1=>rw [Array.getElem?_eq_none (by omega)]; simp
 subst hn
 cases a with
 | none=>simp [Builtin.firstCells] at hr
 | some a =>
  refine ⟨_,?_,.tree (.val _)⟩
  rw [run_convert_bytes_string w src dst e _ _ _ h1 he h2,run_bytesToString w a 1 k [n] (by simpa [Builtin.firstCells] using hr)]
  rfl
theorem quiet_op (hT : TOK P T) (h : HR P base w c hp) (hbase : base ≤ w.heap.size) {o : Oper} {ρ : Operand → AV} {r : Operand → Value} (hcst : ∀ v,r (.const v) = v) (hρ : ∀ x ∈ o.op.operands,VR P w c (ρ x) (r x)) (hq : isEff o ρ = false)
  {v : AV} (hev : (opEv T o ρ hp).gives v hp') (hfree : ∀ b,hp.blocks.length ≤ b → b < hp'.blocks.length → c.O b = none) (hfreeM : ∀ b,hp.maps.length ≤ b → b < hp'.maps.length → c.N b = none) :
  QuietOut P base w c hp hp' (execOp r o) v := by
 have fre : ∀ k,hp' = hp.addB k → c.O hp.blocks.length = none := fun k hk=>hfree _ (Nat.le_refl _) (by subst hk; simp [Hp.addB])
 cases hop : o.op with
 | move x =>
  have hx := hρ x (mem_operands hop (by simp [Op.operands]))
  unfold opEv at hev; rw [hop] at hev
  obtain ⟨rfl,rfl⟩ := hev
  exact ⟨r x,w,c,by simp [execOp,hop],qout_same h (Below.refl _ _) rfl,hx⟩
 | assign x =>
  have hx := hρ x (mem_operands hop (by simp [Op.operands]))
  unfold opEv at hev; rw [hop] at hev
  obtain ⟨rfl,rfl⟩ := hev
  exact ⟨r x,w,c,by simp [execOp,hop],qout_same h (Below.refl _ _) rfl,hx⟩
 | pick x a b =>
  have hx := hρ x (mem_operands hop (by simp [Op.operands]))
  have ha := hρ a (mem_operands hop (by simp [Op.operands]))
  have hb := hρ b (mem_operands hop (by simp [Op.operands]))
  unfold opEv at hev; rw [hop] at hev
  simp only at hev
  split at hev
  ·rename_i hr; rw [hr] at hx
   obtain ⟨rfl,rfl⟩ := hev
   exact ⟨r a,w,c,by simp [execOp,hop,hx.val_inv,asBool],qout_same h (Below.refl _ _) rfl,ha⟩
  ·rename_i hr; rw [hr] at hx
   obtain ⟨rfl,rfl⟩ := hev
   exact ⟨r b,w,c,by simp [execOp,hop,hx.val_inv,asBool],qout_same h (Below.refl _ _) rfl,hb⟩
  ·exact hev.elim
 | alloc t =>
  have hf : c.O hp.blocks.length = none := by
   have hev2 := hev
   unfold opEv at hev2; rw [hop] at hev2; simp only at hev2
   split at hev2
   ·simp only [forceNr_eq,forceC_eq] at hev2; obtain ⟨_,e⟩ := hev2; exact fre _ e.symm
   ·exact hev2.elim
  exact make_alloc hT h hbase hop hev hf
 | box t x =>
  have hf : c.O hp.blocks.length = none := by
   have hev2 := hev
   unfold opEv at hev2; rw [hop] at hev2; simp only at hev2
   split at hev2
   ·rename_i ti _
    cases hb : (Nat.beq (ρ x).cells.length ti.size && (ρ x).storable) with
    | false=>rw [hb] at hev2; exact hev2.elim
    | true=>rw [hb] at hev2; simp only [cond_true,forceNr_eq,forceC_eq,forceT_eq] at hev2; obtain ⟨_,e⟩ := hev2; exact fre _ e.symm
   ·exact hev2.elim
  exact make_box h hbase hop (hρ x (mem_operands hop (by simp [Op.operands]))) hev hf
 | build t ps=>exact same_quiet h (pure_build hT hop (fun p hp'=>hρ p.2 (mem_operands hop (by simp [Op.operands]; exact ⟨p.1,by simpa using hp'⟩))) hev)
 | buildSlice t n ps =>
  have hf : c.O hp.blocks.length = none := by
   have hev2 := hev
   unfold opEv at hev2; rw [hop] at hev2; simp only at hev2
   split at hev2
   ·split at hev2
    ·rename_i ei _
     split at hev2
     ·cases hb : (Nat.ble (n * ei.size) 100000 && Nat.blt 0 ei.size) with
      | false=>rw [hb] at hev2; exact hev2.elim
      | true=>rw [hb] at hev2; simp only [cond_true,forceNr_eq,forceC_eq,forceT_eq] at hev2; obtain ⟨_,e⟩ := hev2; exact fre _ e.symm
     ·exact hev2.elim
    ·exact hev2.elim
   ·exact hev2.elim
  exact make_buildSlice hT h hbase hop (fun p hp'=>hρ p.2 (mem_operands hop (by simp [Op.operands]; exact ⟨p.1,by simpa using hp'⟩))) hev hf
 | load t x=>exact PureOut.quiet h (pure_load hT h hop (hρ x (mem_operands hop (by simp [Op.operands]))) hev) (by simp [execOp,hop])
 | binOp op t x y ty =>
  have hx := hρ x (mem_operands hop (by simp [Op.operands]))
  have hy := hρ y (mem_operands hop (by simp [Op.operands]))
  unfold opEv at hev; rw [hop] at hev
  have hd : ∀ d,T t = some d → P.underlying t = some d.desc := fun d hd=>(hT _ _ hd).1
  simp only at hev
  split at hev
  ·rename_i hn
   exact PureOut.quiet h (pure_nil (t := t) (x := x) (y := y) hd hx hcst hn hev) (by simp [execOp,hop])
  ·exact PureOut.quiet h (pure_bin (t := t) (x := x) (y := y) hd (fun ti ks h1 h2=>hT.kinds _ _ _ h1 h2) hx hy hev) (by simp [execOp,hop])
 | unOp op t x=>exact PureOut.quiet h (pure_un hop (hρ x (mem_operands hop (by simp [Op.operands]))) hev) (by simp [execOp,hop])
 | convert src dst x =>
  have hx := hρ x (mem_operands hop (by simp [Op.operands]))
  unfold opEv at hev; rw [hop] at hev
  simp only at hev
  split at hev
  ·rename_i _ hs hd hr
   exact PureOut.quiet h (pure_convert hT hx hs hd hr hev) (by simp [execOp,hop])
  ·rename_i _ _ _ _ _ _ _ _ s hs hd hr
   split at hev
   ·rename_i he
    obtain ⟨rfl,rfl⟩ := hev
    rw [hr] at hx
    obtain ⟨u,w',c',g1,g2,g3⟩ := make_bytes hT h (s := s) hs rfl hd rfl he rfl
    exact ⟨u,w',c',by simp [execOp,hop,hx.val_inv,g1],g2,g3⟩
   ·exact hev.elim
  ·rename_i _ hs hd hr
   exact PureOut.quiet h (pure_toF hT hx hs hd hr hev) (by simp [execOp,hop])
  ·rename_i _ hs hd hr
   exact PureOut.quiet h (pure_ofF hT hx hs hd hr hev) (by simp [execOp,hop])
  ·rename_i hs hd
   split at hev
   ·rename_i he hel
    split at hev
    ·rename_i hf
     obtain ⟨rfl,rfl⟩ := hev
     exact PureOut.quiet h ⟨rfl,pure_str h hx (hT _ _ hs).1 (hT _ _ hd).1 (hT _ _ he).1 hel hf⟩ (by simp [execOp,hop])
    ·exact hev.elim
   ·exact hev.elim
  ·exact hev.elim
 | makeFunc fn first captured =>
  unfold opEv at hev; rw [hop] at hev
  simp only at hev
  obtain ⟨rfl,rfl⟩ := hev
  refine ⟨.func fn (first.map r) (captured.map r),w,c,by simp [execOp,hop,Instr.makeFunc],qout_same h (Below.refl _ _) rfl,.func fn _ _ _ _ (by simp) (by simp) fun i x hi=>?_⟩
  have e : first.map r ++ captured.map r = (first ++ captured).map r := by simp
  have e2 : first.toList.map ρ ++ captured.toList.map ρ = (first ++ captured).toList.map ρ := by simp
  rw [e]
  rw [e2,List.getElem?_map] at hi
  cases hc : (first ++ captured).toList[i]? with
  | none=>rw [hc] at hi; cases hi
  | some y =>
   rw [hc] at hi
   simp only [Option.map_some,Option.some.injEq] at hi
   subst hi
   have hm : y ∈ first ++ captured := by
    have := List.mem_of_getElem? hc
    simpa using this
   have := hρ y (mem_operands hop (by simp [Op.operands]; simpa using hm))
   have hy : (first ++ captured)[i]? = some y := by rw [← Array.getElem?_toList]; exact hc
   simp only [Array.getD_eq_getD_getElem?,Array.getElem?_map,hy,Option.map_some,Option.getD_some]
   exact this
 | makeMap t rs =>
  cases rs with
  | none =>
   have hf : c.N hp.maps.length = none := by
    have hev2 := hev
    unfold opEv at hev2; rw [hop] at hev2; simp only at hev2
    split at hev2
    ·split at hev2
     ·simp only [force0_eq,Hp.addM_eq] at hev2; obtain ⟨_,rfl⟩ := hev2; exact hfreeM _ (Nat.le_refl _) (by simp)
     ·exact hev2.elim
    ·exact hev2.elim
   exact make_map hT h hbase hop hev hf
  | some q=>unfold opEv at hev; rw [hop] at hev; exact hev.elim
 | makeSlice t l m =>
  have hf : c.O hp.blocks.length = none := by
   have hev2 := hev
   unfold opEv at hev2; rw [hop] at hev2; simp only at hev2
   split at hev2
   ·split at hev2
    ·rename_i ei _
     cases hb : Nat.blt 0 ei.size with
     | false=>rw [hb] at hev2; exact hev2.elim
     | true=>rw [hb] at hev2; obtain ⟨_,_,e⟩ := hev2; exact fre _ e.symm
    ·exact hev2.elim
   ·exact hev2.elim
  exact make_makeSlice hT h hbase hop (hρ l (mem_operands hop (by simp [Op.operands]))) (hρ m (mem_operands hop (by simp [Op.operands]))) hev hf
 | slice t x lo hi mx =>
  cases mx with
  | none =>
   refine PureOut.quiet h (pure_slice hT h hop (hρ x (mem_operands hop (by simp [Op.operands]))) (fun y hy=>hρ y (mem_operands hop (by simp [Op.operands,hy]))) (fun y hy=>hρ y (mem_operands hop (by simp [Op.operands,hy]))) hev) (by simp [execOp,hop])
  | some q =>
   refine PureOut.quiet h (pure_slice3 hT h hop (hρ x (mem_operands hop (by simp [Op.operands]))) (fun y hy=>hρ y (mem_operands hop (by simp [Op.operands,hy]))) (fun y hy=>hρ y (mem_operands hop (by simp [Op.operands,hy]))) (hρ q (mem_operands hop (by simp [Op.operands]))) hev) (by simp [execOp,hop])
 | fieldAddr s x i=>exact PureOut.quiet h (pure_fieldAddr hT h hop (hρ x (mem_operands hop (by simp [Op.operands]))) hev) (by simp [execOp,hop])
 | field s x i=>exact PureOut.quiet h (pure_field hT hop (hρ x (mem_operands hop (by simp [Op.operands]))) hev) (by simp [execOp,hop])
 | indexAddr t x i=>exact PureOut.quiet h (pure_indexAddr hT h hop (hρ x (mem_operands hop (by simp [Op.operands]))) (hρ i (mem_operands hop (by simp [Op.operands]))) hev) (by simp [execOp,hop])
 | index t x i=>exact PureOut.quiet h (pure_index hT hop (hρ x (mem_operands hop (by simp [Op.operands]))) (hρ i (mem_operands hop (by simp [Op.operands]))) hev) (by simp [execOp,hop])
 | lookup t x i ok=>exact PureOut.quiet h (pure_lookup hT h hop (hρ x (mem_operands hop (by simp [Op.operands]))) (hρ i (mem_operands hop (by simp [Op.operands]))) hev) (by simp [execOp,hop])
 | extract x i=>exact PureOut.quiet h (pure_extract hop (hρ x (mem_operands hop (by simp [Op.operands]))) hev) (by simp [execOp,hop])
 | nilCheck x =>
  have hx := hρ x (mem_operands hop (by simp [Op.operands]))
  unfold opEv at hev; rw [hop] at hev
  simp only at hev
  split at hev
  ·rename_i hr
   split at hev
   ·rename_i k hk
    obtain ⟨rfl,rfl⟩ := hev
    rw [hr] at hx
    obtain ⟨a,hu,_,_⟩ := optr_move h hx hk
    exact ⟨r x,w,c,by simp [execOp,hop,hu],qout_same h (Below.refl _ _) rfl,hx⟩
   ·exact hev.elim
  ·rename_i hr
   obtain ⟨rfl,rfl⟩ := hev
   rw [hr] at hx
   obtain ⟨a,hu,_,_⟩ := rptr_move hx
   exact ⟨r x,w,c,by simp [execOp,hop,hu],qout_same h (Below.refl _ _) rfl,hx⟩
  ·exact hev.elim
 | call cl =>
  obtain ⟨callee,args,ts⟩ := cl
  have hargs : ∀ x ∈ args,VR P w c (ρ x) (r x) := fun x hx=>hρ x (mem_operands hop (by simp [Op.operands,Call.operands,hx]))
  cases callee with
  | builtin b =>
   cases b with
   | len=>exact same_quiet h (pure_len hT h hop hargs hev)
   | max=>exact same_quiet h (pure_max hop hargs hev)
   | min=>exact same_quiet h (pure_min hop hargs hev)
   | complex=>exact same_quiet h (pure_complex hop hargs hev)
   | real=>exact same_quiet h (pure_real hop hargs hev)
   | imag=>exact same_quiet h (pure_imag hop hargs hev)
   | append=>exact append_quiet hT h hbase hop hargs hq hev hfree
   | clear=>simp [isEff,hop] at hq
   | _=>unfold opEv at hev; rw [hop] at hev; exact hev.elim
  | value f =>
   unfold opEv at hev; rw [hop] at hev
   simp only at hev
   split at hev <;> exact hev.elim
  | invoke a b=>unfold opEv at hev; rw [hop] at hev; exact hev.elim
 | store t a x=>simp [isEff,hop] at hq
 | mapUpdate t a b x=>simp [isEff,hop] at hq
 | insert t a b x=>simp [isEff,hop] at hq
 | next x b=>simp [isEff,hop] at hq
 | entry x=>exact PureOut.quiet h (pure_entry h hop (hρ x (mem_operands hop (by simp [Op.operands]))) hev) (by simp [execOp,hop])
 | range t x =>
  exfalso
  unfold opEv at hev; rw [hop] at hev
  simp only [Bool.cond_eq_ite] at hev
  (repeat' split at hev) <;> exact hev
 | _=>unfold opEv at hev; rw [hop] at hev; exact hev.elim
end
end Go.Tr

/- Memory that is shared from now on; ranges over maps. Conditions: none. -/
namespace Go.Tr
open Go Go.RowKit Go.MapKept
variable [GTab]

section
variable {P : Program} {T : Nat → Option TI} {w w' : World} {c c' : Cx} {base : Nat} {hp hp' : Hp}

theorem share_real (hT : TOK P T) (h : HR P base w c hp) {o : Oper} {ρ : Operand → AV} {r : Operand → Value} (hρ : ∀ x ∈ o.op.operands, VR P w c (ρ x) (r x)) {p : Prop} {dp : Decidable p} {v : AV} {bs ms : List Nat}
    (hev : opEv T o ρ hp = @Res.share p dp v bs ms) (hp0 : p) :
    ∃ u,(execOp r o).run P w = .ok (.value u) w ∧ VT P w (qOf c (bs,ms)) v u ∧ (∀ i ∈ bs,i < hp.blocks.length) ∧ ∀ i ∈ ms,i < hp.maps.length := by
  have key : ∀ t x lo hi, o.op = .slice t x lo hi none → ∃ u, (execOp r o).run P w = .ok (.value u) w ∧ VT P w (qOf c (bs, ms)) v u ∧ (∀ i ∈ bs, i < hp.blocks.length) ∧ ∀ i ∈ ms, i < hp.maps.length := by
    intro t x lo hi hop
    have hx := hρ x (mem_operands hop (by simp [Op.operands]))
    have hlo : ∀ y,lo = some y → VR P w c (ρ y) (r y) := fun y hy=>hρ y (mem_operands hop (by simp [Op.operands,hy]))
    have hhi : ∀ y,hi = some y → VR P w c (ρ y) (r y) := fun y hy=>hρ y (mem_operands hop (by simp [Op.operands,hy]))
    unfold opEv at hev; rw [hop] at hev
    simp only [Bool.cond_eq_ite] at hev
    split at hev
    · (repeat' split at hev) <;> cases hev
    · (repeat' split at hev) <;> cases hev
    · rename_i n e _ _ _ _ ht
      have hd := (hT _ _ ht).1
      · split at hev
        · rename_i ei b ver idx sub he hr
          obtain ⟨_,_,_,inf,hinf,hsz,_⟩ := hT _ _ he
          split at hev
          · (repeat' split at hev) <;> cases hev
          · split at hev
            · rename_i k l q hk hl hq
              split at hev
              · rename_i hb
                simp only [Bool.and_eq_true] at hb
                obtain ⟨⟨b1,b2⟩,b3⟩ := hb
                have hpos : 0 < ei.size := Nat.le_of_ble_eq_true b2
                have hle := Nat.le_of_ble_eq_true b3
                cases hev
                obtain ⟨h0,h1,h2⟩ := hp0
                rw [hr] at hx
                obtain ⟨hkb,hkv⟩ := block_some hk
                obtain ⟨oi,hO,hlev,_,hv'⟩ := hx.optr_inv
                have hB := h.blk b k oi hkb hO
                obtain ⟨hidx,hu⟩ := hv' (by rw [hB.ver,hkv])
                have hidx' : idx < k.len := by rw [← hB.n]; exact hidx
                have hcap : oi.cap ≠ 0 := by have := hB.le; omega
                have hbl : b < hp.blocks.length := (List.getElem?_eq_some_iff.1 hkb).1
                have hel := hB.el idx hidx'
                have e2 : q.toNat - l.toNat = (q - l).toNat := by omega
                have hrun : (Instr.sliceAt t (r x) (lo.map r) (hi.map r) none).run P w = .ok (.slice (some (if n = l.toNat then ⟨oi.blk,oi.lo + (idx * oi.es + sub),none⟩ else ⟨oi.blk,oi.lo + (idx * oi.es + sub) + l.toNat * ei.size,none⟩)) (q.toNat - l.toNat) (n - l.toNat)) w := by
                  rw [hu]
                  have hb := run_bounds (P := P) (w := w) false n n _ _ l q (optIdx_some hlo hl) (optIdx_some hhi hq) h0 h1 h2
                  have h1 : (Instr.sliceAt t (.pointer (some ⟨oi.blk,oi.lo + (idx * oi.es + sub),none⟩)) (lo.map r) (hi.map r) none).run P w = .ok (.slice (some (if n = l.toNat then ⟨oi.blk,oi.lo + (idx * oi.es + sub),none⟩ else (⟨oi.blk,oi.lo + (idx * oi.es + sub),none⟩ : Addr).add (l.toNat * ei.size))) (q.toNat - l.toNat) (n - l.toNat)) w := by
                    simp [Instr.sliceAt,run_underlying hd,Instr.sureAddr,hb,sizeOf,typeInfo,hinf,hsz]
                  rw [h1,addr_add]
                refine ⟨_,by simp only [execOp,hop,Option.map_none,Sem.run_bind,hrun]; rfl,?_,fun i hi=>by simp at hi; omega,fun i hi=>by simp at hi⟩
                rw [e2]
                by_cases hz : (q - l).toNat = 0
                · rw [hz]; exact .cslice0 _ _ _ _
                · rw [if_neg (by omega)]
                  have hcell : ∀ i j,i < (q - l).toNat → j < ei.size → ∃ y,((k.f idx).drop (sub + (l.toNat + i) * ei.size))[j]? = some y ∧ ∃ u,w.cell? ⟨oi.blk,oi.lo + (idx * oi.es + sub) + l.toNat * ei.size + (i * ei.size + j),none⟩ = some u ∧ u.oneCell' = true ∧ VT P w c.p y u := fun i j hi hj=>by
                    have hin : sub + (l.toNat + i) * ei.size + j < (k.f idx).length := by
                      rw [hel]
                      have : (l.toNat + i + 1) * ei.size ≤ n * ei.size := Nat.mul_le_mul_right _ (by omega)
                      rw [Nat.add_mul,Nat.one_mul] at this
                      omega
                    obtain ⟨u,g1,g2,_,g4⟩ := hB.cell hidx' (List.getElem?_eq_getElem hin)
                    refine ⟨(k.f idx)[sub + (l.toNat + i) * ei.size + j],by rw [getElem?_drop']; exact List.getElem?_eq_getElem hin,u,?_,g2,g4 b1⟩
                    rw [← g1]; congr 2; rw [Nat.add_mul]; omega
                  let g : Nat → Nat → Value := fun i j=>(w.cell? ⟨oi.blk,oi.lo + (idx * oi.es + sub) + l.toNat * ei.size + (i * ei.size + j),none⟩).getD undef
                  refine .cslice _ _ (n - l.toNat) _ oi.blk _ g (by omega) (.inr (.inl ⟨b,by simp,oi,hO,hcap,rfl⟩)) (fun i hi=>?_) (fun i j hi hj=>?_) (fun i j y hi hy=>?_)
                  · rw [List.length_take,List.length_drop,hel]
                    have : (l.toNat + i + 1) * ei.size ≤ n * ei.size := Nat.mul_le_mul_right _ (by omega)
                    rw [Nat.add_mul,Nat.one_mul] at this
                    omega
                  · obtain ⟨y,_,u,g1,g2,_⟩ := hcell i j hi hj
                    simp only [g,g1,Option.getD_some]
                    exact ⟨trivial,g2⟩
                  · have hj : j < ei.size := by have := (List.getElem?_eq_some_iff.1 hy).1; simp at this; omega
                    rw [List.getElem?_take,if_pos hj] at hy
                    obtain ⟨y',a1,u,g1,g2,g3⟩ := hcell i j hi hj
                    rw [a1] at hy
                    cases hy
                    simp only [g,g1,Option.getD_some]
                    exact g3.weaken fun b hb=>.inl hb
              · cases hev
            · cases hev
        · cases hev
    · cases hev
  have key3 : ∀ t x lo hi mx, o.op = .slice t x lo hi (some mx) → ∃ u, (execOp r o).run P w = .ok (.value u) w ∧ VT P w (qOf c (bs, ms)) v u ∧ (∀ i ∈ bs, i < hp.blocks.length) ∧ ∀ i ∈ ms, i < hp.maps.length := by
    intro t x lo hi mx hop
    have hx := hρ x (mem_operands hop (by simp [Op.operands]))
    have hlo : ∀ y,lo = some y → VR P w c (ρ y) (r y) := fun y hy=>hρ y (mem_operands hop (by simp [Op.operands,hy]))
    have hhi : ∀ y,hi = some y → VR P w c (ρ y) (r y) := fun y hy=>hρ y (mem_operands hop (by simp [Op.operands,hy]))
    have hmx := hρ mx (mem_operands hop (by simp [Op.operands]))
    unfold opEv at hev; rw [hop] at hev
    simp only [Bool.cond_eq_ite] at hev
    split at hev
    case h_2=>cases hev
    rename_i e _ _ _ _ ht
    split at hev
    case h_2=>cases hev
    rename_i ei he
    split at hev
    · (repeat' split at hev) <;> cases hev
    · (repeat' split at hev) <;> cases hev
    · rename_i b ver off len cap l m hr hl hm
      split at hev
      · rename_i k q hk hq
        split at hev
        · cases hev
          obtain ⟨hs,h0,h1,h2,h3⟩ := hp0
          rw [hr] at hx
          obtain ⟨km,hkm⟩ := idxOf_some hmx hm
          obtain ⟨kq,hkq⟩ : ∃ kq,hi.map r = some (.int kq q) := by
            rcases optIdx_some hhi hq with ⟨g,_⟩ | g
            · cases hi with
              | none=>cases hs
              | some y=>simp at g
            · exact g
          obtain ⟨u,hu⟩ := run_slice3 (w := w) hT h ht rfl he hx hk (kr := kq) (km := km) (optIdx_some hlo hl) h0 h1 h2 h3
          refine ⟨u,?_,.top _,fun i hi=>by simp at hi,fun i hi=>by simp at hi⟩
          simp only [execOp,hop,hkq,Option.map_some,hkm,Sem.run_bind,hu]
          rfl
        · cases hev
      · cases hev
    · cases hev
  by_cases hb : (∃ t x lo hi,o.op = .slice t x lo hi none) ∨ ∃ t x lo hi mx,o.op = .slice t x lo hi (some mx)
  · rcases hb with ⟨t,x,lo,hi,hop⟩ | ⟨t,x,lo,hi,mx,hop⟩
    · exact key t x lo hi hop
    · exact key3 t x lo hi mx hop
  · exfalso
    have bin : ∀ op d x y yo,binEv op d x y yo hp ≠ @Res.share p dp v bs ms := fun op d x y yo he=>by
      unfold binEv at he
      repeat' split at he
      all_goals first
        | cases he
        | (unfold aggEv at he
           simp only [Bool.cond_eq_ite] at he
           (repeat' split at he) <;> cases he)
    have nil : ∀ op d x,nilEv op d x hp ≠ @Res.share p dp v bs ms := fun op d x he=>by
      unfold nilEv at he
      (repeat' split at he) <;> cases he
    unfold opEv at hev
    split at hev
    all_goals try simp only [Bool.cond_eq_ite,forceNr_eq,forceC_eq,forceT_eq,force0_eq,force1_eq] at hev
    all_goals (repeat' split at hev)
    all_goals first
      | (cases hev; done)
      | exact bin _ _ _ _ _ hev
      | exact nil _ _ _ hev
      | exact hb (.inl ⟨_,_,_,_,by assumption⟩)
      | exact hb (.inr ⟨_,_,_,_,_,by assumption⟩)

theorem allCells_at : ∀ {ks : List LK} {K : List Value → List AV → Prop},allCells ks K → ∀ vs,kOk ks vs = true → ∃ m,K vs m ∧ m.length = vs.length ∧ ∀ (P : Program) (w : World) (p : Nat → Prop) (i : Nat) x,m[i]? = some x → VT P w p x (vs.getD i undef) := by
 intro ks
 induction ks with
 | nil =>
  intro K h vs hv
  cases vs with
  | nil=>exact ⟨[],h,rfl,fun _ _ _ i x hx=>by simp at hx⟩
  | cons v vs=>simp [kOk] at hv
 | cons k ks ih =>
  intro K h vs hv
  cases vs with
  | nil=>cases k <;> simp [kOk] at hv
  | cons v vs =>
   obtain ⟨p1,p2⟩ := kOk_cons hv
   have go : allCells ks (fun l m=>K (v :: l) (.val v :: m)) → ∃ m,K (v :: vs) m ∧ m.length = (v :: vs).length ∧ ∀ (P : Program) (w : World) (p : Nat → Prop) (i : Nat) x,m[i]? = some x → VT P w p x ((v :: vs).getD i undef) := fun h'=>by
    obtain ⟨m,g1,g2,g3⟩ := ih h' vs p2
    refine ⟨.val v :: m,g1,by simp [g2],fun P w p i x hx=>?_⟩
    cases i with
    | zero=>simp at hx; subst hx; exact .val v
    | succ i=>simpa using g3 P w p i x (by simpa using hx)
   cases k with
   | bool=>cases v <;> simp [kOk] at p1; exact go (h _)
   | int kd=>cases v <;> simp [kOk] at p1; subst p1; exact go (h _)
   | str=>cases v <;> simp [kOk] at p1; exact go (h _)

theorem kOk_one : ∀ {ks : List LK} {vs : List Value},kOk ks vs = true → ∀ v ∈ vs,v.oneCell' = true
 | [],[],_,v,hv=>by cases hv
 | [],_ :: _,h,_,_=>by simp [kOk] at h
 | k :: ks,[],h,_,_=>by cases k <;> simp [kOk] at h
 | k :: ks,u :: us,h,v,hv=>by
  obtain ⟨p1,p2⟩ := kOk_cons h
  rcases List.mem_cons.1 hv with rfl | hv
  ·cases k <;> cases v <;> simp [kOk] at p1 <;> rfl
  ·exact kOk_one p2 v hv

theorem allKeys_at {ki : KK} {K : Value → AV → Prop} (h : allKeys ki K) {key : Value} (hk : keyOk ki key) : ∃ x,K key x ∧ ∀ (P : Program) (w : World) (p : Nat → Prop),VT P w p x key := by
 unfold keyOk at hk
 cases ki with
 | str=>cases key <;> simp [keyIs] at hk; exact ⟨_,h _,fun _ _ _=>.val _⟩
 | int k=>cases key <;> simp [keyIs] at hk; subst hk; exact ⟨_,h _,fun _ _ _=>.val _⟩
 | agg ks =>
  cases key <;> simp [keyIs] at hk
  rename_i cs
  obtain ⟨m,g1,g2,g3⟩ := allCells_at h cs.toList hk
  refine ⟨.agg m,by simpa using g1,fun P w p=>.agg m cs (by rw [g2]; simp) (fun v hv=>kOk_one hk v hv) fun i x hx=>by simpa using g3 P w p i x hx⟩

theorem nodup_filter {l : List MapEntry} (h : ∀ (i j : Nat) e e',l[i]? = some e → l[j]? = some e' → e.born = e'.born → i = j) {sn : Array Nat} {e : MapEntry} (he : e ∈ l) (hs : sn.contains e.born = false) :
  (l.filter fun e=>!sn.contains e.born).length = (l.filter fun x=>!(sn.push e.born).contains x.born).length + 1 := by
 induction l with
 | nil=>cases he
 | cons a l ih =>
  have hcont : ∀ b,(sn.push e.born).contains b = (sn.contains b || b == e.born) := fun b=>by
   rw [Array.contains_push,BEq.comm]
  have ht : ∀ (i j : Nat) x x',l[i]? = some x → l[j]? = some x' → x.born = x'.born → i = j := fun i j x x' h1 h2 h3=>by have := h (i + 1) (j + 1) x x' (by simpa using h1) (by simpa using h2) h3; omega
  by_cases hae : a.born = e.born
  ·have hnot : ∀ x ∈ l,x.born ≠ e.born := fun x hx hxe=>by
    obtain ⟨i,hi,rfl⟩ := List.getElem_of_mem hx
    have := h 0 (i + 1) a l[i] rfl (by simp) (by rw [hae,hxe])
    omega
   have hrest : (l.filter fun x=>!(sn.push e.born).contains x.born) = l.filter fun e=>!sn.contains e.born := by
    refine List.filter_congr fun x hx=>?_
    rw [hcont,beq_eq_false_iff_ne.2 (hnot x hx),Bool.or_false]
   rw [List.filter_cons,List.filter_cons,hcont,hae,hs,hrest]
   simp
  ·have hel : e ∈ l := by
    rcases List.mem_cons.1 he with rfl | he
    ·exact absurd rfl hae
    ·exact he
   have := ih ht hel
   rw [List.filter_cons,List.filter_cons,hcont,beq_eq_false_iff_ne.2 hae,Bool.or_false]
   cases hsa : sn.contains a.born with
   | true=>simp only [Bool.not_true,Bool.false_eq_true,if_false]; exact this
   | false=>simp only [Bool.not_false,if_true,List.length_cons]; omega

theorem range_real (hT : TOK P T) (h : HR P base w c hp) {o : Oper} {ρ : Operand → AV} {r : Operand → Value} (hρ : ∀ x ∈ o.op.operands, VR P w c (ρ x) (r x)) {ms : List Nat} {ki : KK} {et : TypeId} {has : Value → Bool} {get : Value → AV}
    (hev : opEv T o ρ hp = .ranged ms ki et has get) :
    ∃ q es clock, (execOp r o).run P w = .ok (.value (.pointer (some ⟨w.heap.size, 0, none⟩))) (w.alloc (.mapIter (some q) clock #[] clock)) ∧ w.heap[q]? = some (.map es clock) ∧ qOf c ([], ms) q ∧
      MapR P w (qOf c ([],ms)) ki et has get es clock ∧ ∀ i ∈ ms,i < hp.maps.length := by
  by_cases hb : ∃ t x,o.op = .range t x
  · obtain ⟨t, x, hop⟩ := hb
    have hx := hρ x (mem_operands hop (by simp [Op.operands]))
    unfold opEv at hev; rw [hop] at hev
    simp only [Bool.cond_eq_ite] at hev
    split at hev
    · rename_i kt et' _ _ _ _ ht
      have hd := (hT _ _ ht).1
      split at hev
      · split at hev
        · split at hev
          · rename_i b hr
            rw [hr] at hx
            obtain ⟨q,hu,hN⟩ := hx.omap_inv
            split at hev
            · rename_i am ham
              rw [nth?_eq] at ham
              split at hev
              · rename_i hb
                simp only [Bool.and_eq_true,Option.isNone_iff_eq_none] at hb
                obtain ⟨⟨b1,b2⟩,b3⟩ := hb
                have := kindIs_eq b1; subst this
                have := Nat.eq_of_beq_eq_true b2; subst this
                cases hev
                obtain ⟨es,clock,hq,hM⟩ := (h.maps b am q ham hN).ex b3
                refine ⟨q,es,clock,?_,hq,.inr (.inr ⟨b,by simp,hN⟩),hM.mono (fun b hb=>.inl hb) (fun _ _=>rfl),fun i hi=>by simp at hi; subst hi; exact (List.getElem?_eq_some_iff.1 ham).1⟩
                simp [execOp,hop,hu,run_range_map w t kt _ q es clock hd hq]
              · cases hev
            · cases hev
          · rename_i hr
            split at hev
            · rename_i hb
              simp only [Bool.and_eq_true] at hb
              have := kindIs_eq hb.1; subst this
              have := Nat.eq_of_beq_eq_true hb.2; subst this
              cases hev
              rw [hr] at hx
              cases hx with
              | tree hx =>
                generalize hrx : r x = rx at hx
                cases hx with
                | rmap _ _ _ _ q es clock hpq hq g1 g2 g3 =>
                  refine ⟨q,es,clock,?_,hq,.inl hpq,(MapR.mk g1 g2 g3 : MapR P w c.p ki et has get es clock).mono (fun b hb=>.inl hb) (fun _ _=>rfl),fun i hi=>by simp at hi⟩
                  simp [execOp,hop,hrx,run_range_map w t kt _ q es clock hd hq]
            · cases hev
          · cases hev
        · cases hev
      · cases hev
    · cases hev
  · exfalso
    have bin : ∀ op d x y yo,binEv op d x y yo hp ≠ .ranged ms ki et has get := fun op d x y yo he=>by
      unfold binEv at he
      repeat' split at he
      all_goals first
        | cases he
        | (unfold aggEv at he
           simp only [Bool.cond_eq_ite] at he
           (repeat' split at he) <;> cases he)
    have nil : ∀ op d x,nilEv op d x hp ≠ .ranged ms ki et has get := fun op d x he=>by
      unfold nilEv at he
      (repeat' split at he) <;> cases he
    unfold opEv at hev
    split at hev
    all_goals try simp only [Bool.cond_eq_ite,forceNr_eq,forceC_eq,forceT_eq,force0_eq,force1_eq] at hev
    all_goals (repeat' split at hev)
    all_goals first
      | (cases hev; done)
      | exact bin _ _ _ _ _ hev
      | exact nil _ _ _ hev
      | exact hb ⟨_,_,by assumption⟩

theorem iter_new {q clock : Nat} {es : Array MapEntry} {ki : KK} {et : TypeId} {has : Value → Bool} {get : Value → AV} (hq : w.heap[q]? = some (.map es clock)) (hp0 : c.p q) (hM : MapR P w c.p ki et has get es clock) {c' : Cx}
  (ex : Ext w.heap.size w c (w.alloc (.mapIter (some q) clock #[] clock)) c') :
  MR P (w.alloc (.mapIter (some q) clock #[] clock)) c' { ki,et,has,get,it := some fun _=>false,left := es.toList.length } w.heap.size := by
 refine ⟨(fun hi=>by cases hi),fun seen hs=>?_⟩
 cases hs
 refine ⟨q,es,clock,clock,#[],clock,heap_alloc_new w _,ex.p q hp0,(ex.pb q hp0).trans hq,hM.mono ex.p ex.pb,rfl,rfl,fun e he=>by simp,by
  show (List.filter (fun e=>!(#[] : Array Nat).contains e.born) es.toList).length = es.toList.length
  rw [List.filter_eq_self.2 (fun e _=>by simp)],.inl rfl⟩

theorem next_real (h : HR P base w c hp) {o : Oper} {ρ : Operand → AV} {r : Operand → Value} (hρ : ∀ x ∈ o.op.operands, VR P w c (ρ x) (r x)) {b : Nat} {m : AM} {seen : Value → Bool}
    (hev : opEv T o ρ hp = .nextc b m seen) :
    hp.maps[b]? = some m ∧ m.ro = false ∧ m.it = some seen ∧ ∃ q,c.N b = some q ∧
      (((∀ k,keyIs m.ki k = true → m.has k = true → seen k = true) ∧ (execOp r o).run P w = .ok (.value (.tuple #[.bool false])) w) ∨
      ∃ (e : MapEntry) (w1 : World) (n : Nat) (obj : Obj), (w1 = w ∨ w1 = { w with drawn := w.drawn + 1 }) ∧ keyOk m.ki e.key ∧ m.has e.key = true ∧ seen e.key = false ∧ m.left = n + 1 ∧ VT P w c.p (m.get e.key) e.val ∧
        (execOp r o).run P w = .ok (.value (.tuple #[.bool true,e.key,e.val])) { w1 with heap := w1.heap.setIfInBounds q obj } ∧
        ∀ (x : AV),VT P w c.p x e.key → Ext base w1 c { w1 with heap := w1.heap.setIfInBounds q obj } c → MR P { w1 with heap := w1.heap.setIfInBounds q obj } c (m.step seen e.key x n) q) := by
  by_cases hb : ∃ x s,o.op = .next x s
  · obtain ⟨x, s, hop⟩ := hb
    have hx := hρ x (mem_operands hop (by simp [Op.operands]))
    unfold opEv at hev; rw [hop] at hev
    simp only [Bool.cond_eq_ite] at hev
    split at hev
    · rename_i b' hr
      rw [hr] at hx
      obtain ⟨q,hu,hN⟩ := hx.oiter_inv
      split at hev
      · rename_i am ham
        rw [nth?_eq] at ham
        split at hev
        · rename_i sn0 hit
          split at hev
          · rename_i hro
            cases hev
            refine ⟨ham,by simpa using hro,hit,q,hN,?_⟩
            obtain ⟨bm,es,clock,snc,sn,last_,g1,g2,g3,g4,g5,g6,g7,g8,g9⟩ := ((h.maps b m q ham hN).it _ hit).ex
            have g5 := g5.symm
            subst g5
            have g6 := g6.symm
            subst g6
            have hold : ∀ x ∈ es.toList,x.born < clock := g4.ek.clk
            have hne : bm ≠ q := fun e=>by rw [e,g1] at g3; cases g3
            have hlt : q < w.heap.size := (h.mown b q hN).2
            have hx1 : (execOp r o).run P w = ((Instr.next (.pointer (some ⟨q,0,none⟩)) false o.type).run P w).andThen fun v w'=>.ok (.value v) w' := by
              unfold execOp
              simp only [hop,hu,Sem.run_bind]
              rfl
            rw [hx1]
            simp only [Instr.next,getObj,Sem.run_bind,Sem.run,g1,g3,Result.andThen,next_test_false sn es clock clock hold (Nat.le_refl _),Bool.false_eq_true,if_false]
            have hleft : (Array.filter (fun e=>!sn.contains e.born) es).toList = es.toList.filter fun e=>!sn.contains e.born := by simp
            have hmem : ∀ x ∈ (Array.filter (fun e=>!sn.contains e.born) es).toList,x ∈ es.toList ∧ sn.contains x.born = false := fun x hx=>by
              rw [hleft,List.mem_filter] at hx
              exact ⟨hx.1,by simpa using hx.2⟩
            have hsize : (Array.filter (fun e=>!sn.contains e.born) es).size = m.left := by rw [← g8,← hleft,Array.length_toList]
            generalize Array.filter (fun e=>!sn.contains e.born) es = L at hmem hsize hleft
            have e1 : L.filter (fun x=>decide (x.born < clock)) = L := Array.filter_eq_self.2 (fun x hx=>by simpa using hold x (hmem x (by simpa using hx)).1)
            have e2 : L.filter (fun x=>decide (x.born ≥ clock)) = #[] := by
              rw [Array.filter_eq_empty_iff]
              intro x hx
              have := hold x (hmem x (by simpa using hx)).1
              simp
              omega
            simp only [e1,e2,Array.append_empty]
            by_cases h0 : L.size = 0
            · left
              have : L = #[] := Array.eq_empty_of_size_eq_zero h0
              subst this
              refine ⟨fun k hk hh=>?_,?_⟩
              · obtain ⟨e,he,rfl⟩ := (g4.ek.has k hk).1 hh
                rw [g7 e he]
                have hnil : (es.toList.filter fun e=>!sn.contains e.born) = [] := by rw [← hleft]
                have := List.filter_eq_nil_iff.1 hnil e he
                simpa using this
              · simp [choose,Sem.run,Question.forced]
            · right
              have hne' : L.isEmpty = false := by simp [Array.isEmpty,h0]
              simp only [hne',Bool.false_eq_true,if_false,Array.empty_append,Array.size_map]
              have hch : ∃ (j : Nat) (w1 : World),j < L.size ∧ (w1 = w ∨ w1 = { w with drawn := w.drawn + 1 }) ∧ (choose (Question.mapNext L.size)).run P w = .ok j w1 := by
                by_cases hf : L.size ≤ 1
                · exact ⟨0,w,by omega,.inl rfl,by simp [choose,Sem.run,Question.forced,hf]⟩
                · exact ⟨_,w.drew,Nat.mod_lt _ (by omega),.inr rfl,by
                    simp only [choose,Sem.run,Question.forced,decide_eq_true_eq,hf,if_false,Question.cut]
                    rfl⟩
              obtain ⟨j,w1,hj,hw1,hrun⟩ := hch
              have hh1 : w1.heap = w.heap := by rcases hw1 with rfl | rfl <;> rfl
              obtain ⟨m1,m2⟩ := hmem L[j] (by simp)
              have hkey := g4.ek.keys _ m1
              have hval := g4.get _ m1
              have hset : ∀ o',(setObj q o').run P w1 = .ok () { w1 with heap := w1.heap.setIfInBounds q o' } := fun o'=>by
                simp only [setObj,Sem.run]
                rw [hh1,g1]
              refine ⟨L[j],w1,m.left - 1,.mapIter (some bm) clock (sn.push L[j].born) clock,hw1,hkey,(g4.ek.has _ hkey).2 ⟨_,m1,rfl⟩,by rw [g7 _ m1]; exact m2,by omega,hval,?_,fun x hxk ex=>?_⟩
              · simp only [hrun,Array.getElem?_map,Array.getElem?_eq_getElem hj,Option.map_some,Sem.run_bind,hset,Result.andThen]
                rfl
              · refine ⟨(fun hi=>by rw [AM.step_eq] at hi; cases hi),fun seen' hs=>?_⟩
                rw [AM.step_eq] at hs ⊢
                cases hs
                have hwb : ({ w1 with heap := w1.heap.setIfInBounds q (.mapIter (some bm) clock (sn.push L[j].born) clock) } : World).heap[bm]? = w.heap[bm]? := by
                  rw [ex.pb bm g2,hh1]
                have hpb : ∀ b,c.p b → ({ w1 with heap := w1.heap.setIfInBounds q (.mapIter (some bm) clock (sn.push L[j].born) clock) } : World).heap[b]? = w.heap[b]? := fun b hb=>by rw [ex.pb b hb,hh1]
                refine ⟨bm,es,clock,clock,sn.push L[j].born,clock,?_,g2,hwb.trans g3,g4.mono (fun _ h=>h) hpb,rfl,rfl,fun e he=>?_,?_,.inr ⟨L[j],m1,by simp,?_⟩⟩
                · simp only [Array.getElem?_setIfInBounds]
                  rw [if_pos trivial,if_pos (by rw [hh1]; exact hlt)]
                · have hek := g4.ek.keys e he
                  have hpush : (sn.push L[j].born).contains e.born = (sn.contains e.born || e.born == L[j].born) := by
                    rw [Array.contains_push,BEq.comm]
                  rw [hpush,g7 e he]
                  congr 1
                  rw [Bool.eq_iff_iff,keyEq_iff hek hkey,beq_iff_eq]
                  obtain ⟨i1,hi1,he1⟩ := List.getElem_of_mem he
                  obtain ⟨i2,hi2,he2⟩ := List.getElem_of_mem m1
                  constructor
                  · intro hke
                    have := g4.ek.once i1 i2 e L[j] (by rw [← he1]; exact List.getElem?_eq_getElem hi1) (by rw [← he2]; exact List.getElem?_eq_getElem hi2) hke
                    subst this
                    rw [← he1,← he2]
                  · intro hbe
                    have := g4.ek.born i1 i2 e L[j] (by rw [← he1]; exact List.getElem?_eq_getElem hi1) (by rw [← he2]; exact List.getElem?_eq_getElem hi2) hbe
                    subst this
                    rw [← he1,← he2]
                · have := nodup_filter g4.ek.born m1 m2
                  rw [g8] at this
                  show _ = m.left - 1
                  omega
                · refine .tuple _ _ rfl fun i y hy=>?_
                  match i with
                  | 0=>simp at hy; subst hy; exact hxk.mono (fun _ h=>h) hpb
                  | 1=>simp at hy; subst hy; exact hval.mono (fun _ h=>h) hpb
                  | i + 2=>simp at hy
          · cases hev
        · cases hev
      · cases hev
    · cases hev
  · exfalso
    have bin : ∀ op d x y yo,binEv op d x y yo hp ≠ .nextc b m seen := fun op d x y yo he=>by
      unfold binEv at he
      repeat' split at he
      all_goals first
        | cases he
        | (unfold aggEv at he
           simp only [Bool.cond_eq_ite] at he
           (repeat' split at he) <;> cases he)
    have nil : ∀ op d x,nilEv op d x hp ≠ .nextc b m seen := fun op d x he=>by
      unfold nilEv at he
      (repeat' split at he) <;> cases he
    unfold opEv at hev
    split at hev
    all_goals try simp only [Bool.cond_eq_ite,forceNr_eq,forceC_eq,forceT_eq,force0_eq,force1_eq] at hev
    all_goals (repeat' split at hev)
    all_goals first
      | (cases hev; done)
      | exact bin _ _ _ _ _ hev
      | exact nil _ _ _ hev
      | exact hb ⟨_,_,by assumption⟩

theorem insF_real (hT : TOK P T) (h : HR P base w c hp) {o : Oper} {ρ : Operand → AV} {r : Operand → Value} (hρ : ∀ x ∈ o.op.operands, VR P w c (ρ x) (r x)) {b : Nat} {m : AM} {key : Value} {x' : AV} {bs : List Nat}
    (hev : opEv T o ρ hp = .insF b m key x' bs) :
    hp.maps[b]? = some m ∧ m.ro = false ∧ m.it = none ∧ keyOk m.ki key ∧ (∀ i ∈ bs,i < hp.blocks.length) ∧ ∃ t kt et q u,P.underlying t = some (.map kt et) ∧ KeyT P kt m.ki ∧ c.N b = some q ∧ VT P w (qOf c (bs,[])) x' u ∧
      ∀ w',(Instr.mapUpdate t (.map (some q)) key u).run P w = .ok () w' → (execOp r o).run P w = .ok .skip w' := by
  have main : ∀ t a i y, (o.op = .mapUpdate t a i y ∨ o.op = .insert t a i y) → hp.maps[b]? = some m ∧ m.ro = false ∧ m.it = none ∧ keyOk m.ki key ∧ (∀ i ∈ bs, i < hp.blocks.length) ∧ ∃ t kt et q u, P.underlying t = some (.map kt et) ∧ KeyT P kt m.ki ∧ c.N b = some q ∧ VT P w (qOf c (bs, [])) x' u ∧
      ∀ w',(Instr.mapUpdate t (.map (some q)) key u).run P w = .ok () w' → (execOp r o).run P w = .ok .skip w' := by
    intro t a i y hop
    have ha : VR P w c (ρ a) (r a) := by rcases hop with hop | hop <;> exact hρ a (mem_operands hop (by simp [Op.operands]))
    have hi : VR P w c (ρ i) (r i) := by rcases hop with hop | hop <;> exact hρ i (mem_operands hop (by simp [Op.operands]))
    have hy : VR P w c (ρ y) (r y) := by rcases hop with hop | hop <;> exact hρ y (mem_operands hop (by simp [Op.operands]))
    have hex : ∀ w',(Instr.mapUpdate t (r a) (r i) (r y)).run P w = .ok () w' → (execOp r o).run P w = .ok .skip w' := fun w' hh=>by
      rcases hop with hop | hop <;> simp [execOp,hop,hh]
    have hev : (match T t,ρ a,keyOf (ρ i) with
      | some { desc := .map kt _, .. }, .omap b, some key =>
        match keyKind T kt with
        | some ki =>
          match nth? hp.maps b with
          | some am => bif kindIs ki am.ki && keyIs ki key && !am.ro && am.it.isNone then
              match AV.tree 4 (ρ y) with
              | true=>force1 (ρ y) fun x=>Res.ok .top (hp.setM b (am.wr (fun hs k=>hs k || opEv.keyEq k key) fun gt k=>bif opEv.keyEq k key then x else gt k))
              | false => match refs hp 5 (ρ y) with
                | (bs,[])=>.insF b am key (fz hp (ρ y)) bs
                | _=>.bad
            else .bad
          | none=>.bad
        | none=>.bad
      | _,_,_=>.bad) = .insF b m key x' bs := by
      rcases hop with hop | hop <;> (unfold opEv at hev; rw [hop] at hev; exact hev)
    simp only [Bool.cond_eq_ite,force1_eq] at hev
    split at hev
    · rename_i kt et _ _ _ _ b' key' ht hra hri
      split at hev
      · rename_i ki hki
        split at hev
        · rename_i am ham
          rw [nth?_eq] at ham
          split at hev
          · rename_i hb
            simp only [Bool.and_eq_true,Bool.not_eq_true',Option.isNone_iff_eq_none] at hb
            obtain ⟨⟨⟨b1,b2⟩,b4⟩,b5⟩ := hb
            split at hev
            · cases hev
            · split at hev
              · rename_i bs' hrefs
                cases hev
                have := kindIs_eq b1
                subst this
                rw [hra] at ha
                obtain ⟨q,hq,hN⟩ := ha.omap_inv
                have hfz := freeze_ok h 5 hy
                have hl := (refs_lt (hp := hp) 5 (ρ y)).1
                rw [hrefs] at hfz hl
                exact ⟨ham,b4,b5,b2,hl,t,kt,et,q,r y,(hT _ _ ht).1,find_known hT hki,hN,hfz,fun w' hh=>hex w' (by rw [hq,keyOf_eq hri hi]; exact hh)⟩
              · cases hev
          · cases hev
        · cases hev
      · cases hev
    · cases hev
  by_cases hb : ∃ t a i y,(o.op = .mapUpdate t a i y ∨ o.op = .insert t a i y)
  · obtain ⟨t,a,i,y,hop⟩ := hb
    exact main t a i y hop
  · exfalso
    have bin : ∀ op d x y yo,binEv op d x y yo hp ≠ .insF b m key x' bs := fun op d x y yo he=>by
      unfold binEv at he
      repeat' split at he
      all_goals first
        | cases he
        | (unfold aggEv at he
           simp only [Bool.cond_eq_ite] at he
           (repeat' split at he) <;> cases he)
    have nil : ∀ op d x,nilEv op d x hp ≠ .insF b m key x' bs := fun op d x he=>by
      unfold nilEv at he
      (repeat' split at he) <;> cases he
    unfold opEv at hev
    split at hev
    all_goals try simp only [Bool.cond_eq_ite,forceNr_eq,forceC_eq,forceT_eq,force0_eq,force1_eq] at hev
    all_goals (repeat' split at hev)
    all_goals first
      | (cases hev; done)
      | exact bin _ _ _ _ _ hev
      | exact nil _ _ _ hev
      | exact hb ⟨_,_,_,_,.inl (by assumption)⟩
      | exact hb ⟨_,_,_,_,.inr (by assumption)⟩
end
end Go.Tr

/- A region in the order of its text; the rules of Code; a function's body. Conditions: none. -/
namespace Go.Tr
open Go Go.RowKit

section
variable [GTab] {P : Program} {T : Nat → Option TI}

def codeOf : Ex → Option Code
 | .normal=>none
 | .exit i=>some (.exit i)
 | .ret=>some .ret

abbrev RcT := LoopState → Option Code → Loop
def recAt (rc : RcT) : Option Ex → Loop
 | none=>rc .ready none
 | some e=>rc .done (codeOf e)

structure Fr where
 n : Nat
 X : Nat → Value
 r : Option Nat
 G : List (Nat × Obj × Option Nat)
 rc : Option (Nat × Nat × RcT)

def FR (r : Option Nat) : Fence := { Fence.wide with round := r }
def markOf (D : Nat) : Deferred := { target := .collected D,args := #[] }

structure HS (P : Program) (X : Nat → Value) (G : List (Nat × Obj × Option Nat)) (rc : Option (Nat × Nat × RcT)) (w0 : World) (q : Nat → Prop) (hp : Hp) (sv : List (Nat × AV)) (w : World) (c : Cx) : Prop where
 hr : HR P w0.heap.size w c hp
 ro : RO c hp
 hi : ∀ b oi,c.O b = some oi → b < hp.blocks.length
 hiM : ∀ b r,c.N b = some r → b < hp.maps.length
 hy : ∀ i l,c.y i = some l → i < hp.ny
 below : Below w0.heap.size w0 w
 pq : ∀ b,c.p b → q b ∨ w0.heap.size ≤ b
 sv : ∀ i,VR P w c (look sv i) (X i)
 keep : ∀ x ∈ G,c.p x.1 ∧ w0.heap.size ≤ x.1 ∧ w.heap[x.1]? = some x.2.1 ∧ ∀ i,x.2.2 = some i → c.y i = some x.1
 rcd : ∀ i l rc',rc = some (i,l,rc') → c.y i = some l ∧ c.p l ∧ w0.heap.size ≤ l ∧ w.heap[l]? = some (.loop (recAt rc' hp.jump))
 gok : GOk P w c.p

structure SR (P : Program) (F : Fr) (w0 : World) (q : Nat → Prop) (s : St) (a : Act) (w : World) (c : Cx) : Prop extends HS P F.X F.G F.rc w0 q s.hp s.sv w c where
 tm : ∀ t,VR P w c (look s.tm t) (a.tmps.getD t undef)
 size : a.tmps.size = F.n
 defers : ∃ ds : List Nat,a.defers = ds.map markOf ∧ ds.Nodup ∧ ∀ D ∈ ds,c.p D ∧ w0.heap.size ≤ D ∧ w.heap[D]? = some (.deferred (some [])) ∧ ∀ x ∈ F.G,x.1 ≠ D

theorem HS.moved {X : Nat → Value} {G : List (Nat × Obj × Option Nat)} {rc : Option (Nat × Nat × RcT)} {w0 w w' : World} {q : Nat → Prop} {hp hp' : Hp} {sv : List (Nat × AV)} {c c' : Cx} (h : HS P X G rc w0 q hp sv w c) (hr : HR P w0.heap.size w' c' hp') (ro : RO c' hp') (e : Ext w0.heap.size w c w' c')
  (hi : ∀ b oi,c'.O b = some oi → b < hp'.blocks.length) (hiM : ∀ b r,c'.N b = some r → b < hp'.maps.length) (hy : ∀ i l,c'.y i = some l → i < hp'.ny) (pq : ∀ b,c'.p b → q b ∨ w0.heap.size ≤ b) (hj : hp'.jump = hp.jump) : HS P X G rc w0 q hp' sv w' c' :=
 ⟨hr,ro,hi,hiM,hy,h.below.trans e.below,pq,fun i=>(h.sv i).mono e,fun x hx=>by obtain ⟨g1,g2,g3,g4⟩ := h.keep x hx; exact ⟨e.p _ g1,g2,(e.pb _ g1).trans g3,fun i hi=>e.y _ _ (g4 i hi)⟩,
  (fun i l rc' hrc=>by obtain ⟨g1,g2,g3,g4⟩ := h.rcd i l rc' hrc; exact ⟨e.y _ _ g1,e.p _ g2,g3,by rw [hj]; exact (e.pb _ g2).trans g4⟩),h.gok.mono e.p e.pb⟩

theorem SR.moved {F : Fr} {w0 w w' : World} {q : Nat → Prop} {s : St} {a : Act} {c c' : Cx} (h : SR P F w0 q s a w c) (e : Ext w0.heap.size w c w' c') : ∃ ds : List Nat,a.defers = ds.map markOf ∧ ds.Nodup ∧ ∀ D ∈ ds,c'.p D ∧ w0.heap.size ≤ D ∧ w'.heap[D]? = some (.deferred (some [])) ∧ ∀ x ∈ F.G,x.1 ≠ D := by
 obtain ⟨ds,g1,g2,g3⟩ := h.defers
 exact ⟨ds,g1,g2,fun D hD=>by obtain ⟨p1,p2,p3,p4⟩ := g3 D hD; exact ⟨e.p _ p1,p2,(e.pb _ p1).trans p3,p4⟩⟩

theorem SR.base {F : Fr} {w0 w : World} {q : Nat → Prop} {s : St} {a : Act} {c : Cx} (h : SR P F w0 q s a w c) : w0.heap.size ≤ w.heap.size := h.below.size

omit [GTab] in
theorem look_put (s : St) (d : Tmp) (x : AV) (t : Nat) : look (s.put (some d) x).tm t = if d = t then x else look s.tm t := by
 simp only [St.put,look]
 by_cases h : d = t
 ·subst h; simp
 ·rw [if_neg h]
  cases hb : Nat.beq d t with
  | true=>exact absurd (Nat.eq_of_beq_eq_true hb) h
  | false=>rfl

theorem eval_rel {w : World} {c : Cx} {s : St} {a : Act} (hg : GOk P w c.p) (h : ∀ t,VR P w c (look s.tm t) (a.tmps.getD t undef)) (x : Operand) : VR P w c (s.eval x) (a.eval x) := by
 cases x with
 | tmp t=>exact h t
 | const v=>exact .tree (constAV_ok v)
 | global g =>
  show VR P w c (gAV g) _
  unfold gAV
  split
  ·rename_i l hl
   exact .tree (hg.g g l hl).1
  ·exact .tree (.top _)
 | func f=>exact .tree (.func _ _ _ #[] #[] rfl rfl (by simp))

theorem SR.known {F : Fr} {w0 w : World} {q : Nat → Prop} {s : St} {a : Act} {c : Cx} (h : SR P F w0 q s a w c) {t : Nat} {x : AV} (hx : VR P w c x (a.tmps.getD t undef)) : SR P F w0 q (s.put (some t) x) a w c :=
 ⟨h.toHS,fun t'=>by
   rw [look_put]
   split
   ·rename_i e; subst e; exact hx
   ·exact h.tm t',h.size,h.defers⟩

theorem SR.putV {F : Fr} {w0 w w' : World} {q : Nat → Prop} {s : St} {a : Act} {c c' : Cx} {h' : Hp} (h : SR P F w0 q s a w c) (hr : HR P w0.heap.size w' c' h') (ro : RO c' h') (e : Ext w0.heap.size w c w' c')
  (hi : ∀ b oi,c'.O b = some oi → b < h'.blocks.length) (hiM : ∀ b r,c'.N b = some r → b < h'.maps.length) (hy : ∀ i l,c'.y i = some l → i < h'.ny) (pq : ∀ b,c'.p b → q b ∨ w0.heap.size ≤ b) (hj : h'.jump = s.hp.jump) {d : Option Tmp} (hd : slotOk F.n d = true) {v : AV} {u : Value} (hv : VR P w' c' v u) :
  SR P F w0 q ({ s with hp := h' }.put d v) (a.put d u) w' c' where
 toHS := by cases d <;> exact h.toHS.moved hr ro e hi hiM hy pq hj
 size := by cases d <;> simp [Act.put,h.size]
 defers := by cases d <;> exact h.moved e
 tm := fun t => by
  cases d with
  | none=>exact (h.tm t).mono e
  | some d =>
   rw [look_put]
   have hlt : d < a.tmps.size := by rw [h.size]; exact Nat.le_of_ble_eq_true hd
   split
   ·rename_i he
    subst he
    simpa [Act.put,hlt] using hv
   ·rename_i hne
    have := (h.tm t).mono e
    simpa [Act.put,Array.getElem?_setIfInBounds_ne hne] using this

theorem SR.skip {F : Fr} {w0 w : World} {q : Nat → Prop} {s : St} {a : Act} {c : Cx} (h : SR P F w0 q s a w c) (d : Option Tmp) : SR P F w0 q (s.put d (.val undef)) (a.put d undef) w c where
 toHS := by cases d <;> exact h.toHS
 size := by cases d <;> simp [Act.put,h.size]
 defers := by cases d <;> exact h.defers
 tm := fun t => by
  cases d with
  | none=>exact h.tm t
  | some d =>
   rw [look_put]
   split
   ·rename_i he
    subst he
    have e : (a.put (some d) undef).tmps.getD d undef = undef := by
     by_cases hlt : d < a.tmps.size
     ·simp [Act.put,hlt]
     ·simp [Act.put]
    rw [e]
    exact .tree (.val _)
   ·rename_i hne
    have := h.tm t
    simpa [Act.put,Array.getElem?_setIfInBounds_ne hne] using this

theorem SR.drew {F : Fr} {w0 w : World} {q : Nat → Prop} {s : St} {a : Act} {c : Cx} (h : SR P F w0 q s a w c) : SR P F w0 q s a { w with drawn := w.drawn + 1 } c := by
 have q0 := qout_same (w' := { w with drawn := w.drawn + 1 }) h.hr ⟨rfl,rfl,rfl,Nat.le_refl _,fun _ _=>rfl,Dr.succ _⟩ rfl
 have e := q0.ext.low h.base
 exact ⟨h.toHS.moved q0.hr h.ro e h.hi h.hiM h.hy h.pq rfl,fun t=>(h.tm t).mono e,h.size,h.moved e⟩

theorem pq_of {F : Fr} {w0 w w' : World} {q : Nat → Prop} {s : St} {a : Act} {c c' : Cx} {h' : Hp} (h : SR P F w0 q s a w c) {hp : Hp} (hq : QOut P w0.heap.size w c hp w' c' h') : ∀ b,c'.p b → q b ∨ w0.heap.size ≤ b := fun b hb=>by
 rcases hq.pN b hb with g | g | ⟨i,oi,g1,g2,g3⟩ | ⟨i,g⟩
 ·exact h.pq b g
 ·have := h.base; exact .inr (by omega)
 ·have := h.hr.own i oi g1 g2; exact .inr (by omega)
 ·have := h.hr.mown i b g; exact .inr (by omega)

omit [GTab] in
theorem gives_keep {o : Oper} {ρ : Operand → AV} {h h' : Hp} {v : AV} (hev : (opEv T o ρ h).gives v h') : h'.jump = h.jump ∧ h'.ny = h.ny := by
 have bin : ∀ op d x y yo,(binEv op d x y yo h).gives v h' → h' = h := fun op d x y yo hev=>by
  unfold binEv at hev
  repeat' split at hev
  all_goals first
   | exact (aggEv_h hev).1
   | (simp only [Res.gives] at hev <;> first | exact hev.elim | exact hev.2.symm | exact hev.2.2.symm)
 have nil : ∀ op d x,(nilEv op d x h).gives v h' → h' = h := fun op d x hev=>by
  unfold nilEv at hev
  repeat' split at hev
  all_goals simp only [Res.gives] at hev
  all_goals first | exact hev.elim | exact hev.2.2.symm
 unfold opEv at hev
 split at hev
 all_goals try simp only [Bool.cond_eq_ite,forceNr_eq,forceC_eq,forceT_eq,force0_eq,force1_eq] at hev
 all_goals (repeat' split at hev)
 all_goals first | (have := bin _ _ _ _ _ hev; subst this; exact ⟨rfl,rfl⟩) | (have := nil _ _ _ hev; subst this; exact ⟨rfl,rfl⟩) | simp only [Res.gives] at hev
 all_goals first
  | exact hev.elim
  | (have e := hev.2; subst e; exact ⟨rfl,rfl⟩)
  | (have e := hev.2.2; subst e; exact ⟨rfl,rfl⟩)
  | (obtain ⟨_,_,_,e⟩ := hev; subst e; exact ⟨rfl,rfl⟩)
  | (rcases hev with ⟨_,_,e⟩ | ⟨_,_,e⟩ <;> (subst e; exact ⟨rfl,rfl⟩))

omit [GTab] in
theorem ext_y {c c' : Cx} {hp hp' : Hp} (hy : ∀ i l,c.y i = some l → i < hp.ny) (hc : ∀ i l,c'.y i = some l → c.y i = some l) (hn : hp'.ny = hp.ny) : ∀ i l,c'.y i = some l → i < hp'.ny := fun i l h=>by rw [hn]; exact hy i l (hc i l h)

theorem SR.quiet {F : Fr} {w0 w w' : World} {q : Nat → Prop} {s : St} {a : Act} {c c' : Cx} {h' : Hp} (h : SR P F w0 q s a w c) (hq : QOut P w0.heap.size w c s.hp w' c' h') (hk : h'.jump = s.hp.jump ∧ h'.ny = s.hp.ny) {d : Option Tmp} (hd : slotOk F.n d = true) {v : AV} {u : Value} (hv : VR P w' c' v u) :
  SR P F w0 q ({ s with hp := h' }.put d v) (a.put d u) w' c' :=
 h.putV hq.hr (hq.roOf h.ro) (hq.ext.low h.base) (fun b oi hb=>by rcases hq.oNew b oi hb with g | g; exact Nat.lt_of_lt_of_le (h.hi b oi g) hq.le.blen; exact g.2)
  (fun b r hb=>by rcases hq.nNew b r hb with g | g; exact Nat.lt_of_lt_of_le (h.hiM b r g) hq.le.mlen; exact g.2) (fun i l hi=>by rw [hk.2]; rw [hq.yE] at hi; exact h.hy i l hi) (pq_of h hq) hk.1 hd hv

theorem SR.fzs {F : Fr} {w0 w : World} {q : Nat → Prop} {a : Act} : ∀ (l : List Nat) {s : St} {c : Cx},SR P F w0 q s a w c → ∃ c',SR P F w0 q (Tr.fzs l s) a w c'
 | [],s,c,h=>⟨c,h⟩
 | t :: l,s,c,h=>by
  have hv := h.tm t
  have hz := freeze_ok h.hr 5 hv
  have hq := qout_shared h.hr (Below.refl _ w) (bs := (refs s.hp 5 (look s.tm t)).1) (ms := (refs s.hp 5 (look s.tm t)).2) (refs_lt 5 _).1 (refs_lt 5 _).2
  have h1 := h.quiet hq ⟨rfl,rfl⟩ (d := none) rfl (v := .top) (u := undef) (.tree (.top _))
  exact SR.fzs l (h1.known (t := t) (x := fz s.hp (look s.tm t)) (.tree (hz.weaken fun b hb=>.inl hb)))

theorem SR.eff {F : Fr} {w0 w w' : World} {q : Nat → Prop} {s : St} {a : Act} {c c' : Cx} {h' : Hp} (h : SR P F w0 q s a w c) (hq : EOut P w0.heap.size w c s.hp w' c' h') (hk : h'.jump = s.hp.jump ∧ h'.ny = s.hp.ny) {d : Option Tmp} (hd : slotOk F.n d = true) {v : AV} {u : Value} (hv : VR P w' c' v u) :
  SR P F w0 q ({ s with hp := h' }.put d v) (a.put d u) w' c' :=
 h.putV hq.hr hq.ro hq.ext (fun b oi hb=>by obtain ⟨oi',g⟩ := hq.oNew b oi hb; rw [hq.blen]; exact h.hi b oi' g)
  (fun b r hb=>by obtain ⟨r',g⟩ := hq.nNew b r hb; rw [hq.mlen]; exact h.hiM b r' g) (fun i l hi=>by rw [hk.2]; rw [hq.yE] at hi; exact h.hy i l hi) (fun b hb=>h.pq b (hq.pE b hb)) hk.1 hd hv

def stackX (n : Nat) (a : Act) (X : Nat → Value) (j : Nat) : Value := if j < n then a.tmps.getD j undef else X (j - n)

omit [GTab] in
theorem look_append : ∀ (l m : List (Nat × AV)) (t : Nat),(∀ p ∈ m,p.1 ≠ t) → look (l ++ m) t = look l t
 | [],[],t,_=>rfl
 | [], (k, x) :: m, t, h => by
  have hk : Nat.beq k t = false := by
   cases hb : Nat.beq k t with
   | false=>rfl
   | true=>exact absurd (Nat.eq_of_beq_eq_true hb) (h (k,x) (.head _))
  have := look_append [] m t (fun p hp=>h p (.tail _ hp))
  simp only [List.nil_append,look,hk,cond_false] at this ⊢
  exact this
 | (k,x) :: l,m,t,h=>by
  have := look_append l m t h
  simp only [List.cons_append,look,this]

omit [GTab] in
theorem look_append2 : ∀ (l m : List (Nat × AV)) (t : Nat),(∀ p ∈ l,p.1 ≠ t) → look (l ++ m) t = look m t
 | [],m,t,_=>rfl
 | (k, x) :: l, m, t, h => by
  have hk : Nat.beq k t = false := by
   cases hb : Nat.beq k t with
   | false=>rfl
   | true=>exact absurd (Nat.eq_of_beq_eq_true hb) (h (k,x) (.head _))
  have := look_append2 l m t (fun p hp=>h p (.tail _ hp))
  simp only [List.cons_append,look,hk,cond_false,this]

omit [GTab] in
theorem look_filter (f : Nat → Bool) : ∀ (l : List (Nat × AV)) (t : Nat),look (l.filter fun p=>f p.1) t = if f t then look l t else .top
 | [],t=>by simp [look]
 | (k, x) :: l, t => by
  have ih := look_filter f l t
  by_cases hk : k = t
  ·subst hk
   cases hf : f k with
   | true=>simp [hf,look]
   | false=>simp only [List.filter_cons,hf]; rw [hf] at ih; simpa using ih
  ·have hb : Nat.beq k t = false := by
    cases hb : Nat.beq k t with
    | false=>rfl
    | true=>exact absurd (Nat.eq_of_beq_eq_true hb) hk
   cases hf : f k with
   | true=>simp only [List.filter_cons,hf,if_true,look,hb,cond_false]; exact ih
   | false=>simp only [List.filter_cons,hf]; simp only [look,hb,cond_false]; simpa using ih

omit [GTab] in
theorem look_up (n : Nat) : ∀ (l : List (Nat × AV)) (t : Nat),look (l.map fun p=>(p.1 + n,p.2)) (t + n) = look l t
 | [],t=>rfl
 | (k, x) :: l, t => by
  have ih := look_up n l t
  have : Nat.beq (k + n) (t + n) = Nat.beq k t := by
   rw [Bool.eq_iff_iff,Nat.beq_eq,Nat.beq_eq]; omega
  simp only [List.map_cons,look,this,ih]

theorem look_push (n : Nat) (tm sv : List (Nat × AV)) (i : Nat) : look (pushSv n tm sv) i = if i < n then look tm i else look sv (i - n) := by
 unfold pushSv
 by_cases hi : i < n
 ·rw [if_pos hi,look_append _ _ _ (fun p hp=>by
   obtain ⟨y,_,rfl⟩ := List.mem_map.1 hp
   simp only; omega),look_filter (fun k=>Nat.blt k n),if_pos (by rw [Nat.blt_eq]; exact hi)]
 ·rw [if_neg hi,look_append2 _ _ _ (fun p hp=>by
   have := (List.mem_filter.1 hp).2
   rw [Nat.blt_eq] at this; omega)]
  obtain ⟨k,rfl⟩ : ∃ k,i = k + n := ⟨i - n,by omega⟩
  rw [look_up,Nat.add_sub_cancel]

theorem look_popTm (n : Nat) (sv : List (Nat × AV)) (t : Nat) : look (popTm n sv) t = if t < n then look sv t else .top := by
 unfold popTm
 rw [look_filter (fun k=>Nat.blt k n)]
 by_cases ht : t < n
 ·rw [if_pos ht,if_pos (by rw [Nat.blt_eq]; exact ht)]
 ·rw [if_neg ht,if_neg (by rw [Nat.blt_eq]; exact ht)]

omit [GTab] in
theorem look_popSv (n : Nat) : ∀ (sv : List (Nat × AV)) (t : Nat),look (popSv n sv) t = look sv (t + n)
 | [],t=>rfl
 | (k, x) :: l, t => by
  have ih := look_popSv n l t
  unfold popSv at ih ⊢
  by_cases hk : n ≤ k
  ·have h1 : Nat.ble n k = true := by rw [Nat.ble_eq]; exact hk
   have h2 : Nat.beq (k - n) t = Nat.beq k (t + n) := by rw [Bool.eq_iff_iff,Nat.beq_eq,Nat.beq_eq]; omega
   simp only [List.filter_cons,h1,if_true,List.map_cons,look,h2,ih]
  ·have h1 : Nat.ble n k = false := by
    cases hb : Nat.ble n k with
    | false=>rfl
    | true=>rw [Nat.ble_eq] at hb; exact absurd hb hk
   have h2 : Nat.beq k (t + n) = false := by
    cases hb : Nat.beq k (t + n) with
    | false=>rfl
    | true=>have := Nat.eq_of_beq_eq_true hb; omega
   simp only [List.filter_cons,h1,look,h2,cond_false]
   simpa using ih

def gOf (F : Fr) (ds : List Nat) (j : Option Ex) : List (Nat × Obj × Option Nat) := F.G ++ ds.map (fun D=>(D,Obj.deferred (some []),none)) ++ (match F.rc with | some (i,l,rc)=>[(l,Obj.loop (recAt rc j),some i)] | none=>[])

omit [GTab] in
theorem HR.jumpd {base : Nat} {w : World} {c : Cx} {hp : Hp} (h : HR P base w c hp) (j : Option Ex) (m : Nat) : HR P base w c { hp with jump := j,ny := m } := ⟨h.blk,h.sep,h.own,h.st,h.maps,h.mown,h.msep,h.bm⟩
omit [GTab] in
theorem RO.jumpd {c : Cx} {hp : Hp} (h : RO c hp) (j : Option Ex) (m : Nat) : RO c { hp with jump := j,ny := m } := ⟨h.b,h.m⟩

theorem SR.push {F : Fr} {w0 w : World} {q : Nat → Prop} {s : St} {a : Act} {c : Cx} (h : SR P F w0 q s a w c) {ds : List Nat} (hds : ∀ D ∈ ds,c.p D ∧ w0.heap.size ≤ D ∧ w.heap[D]? = some (.deferred (some []))) {rc' : Option (Nat × Nat × RcT)} {j : Option Ex}
  (hrc : ∀ i l rc,rc' = some (i,l,rc) → c.y i = some l ∧ c.p l ∧ w0.heap.size ≤ l ∧ w.heap[l]? = some (.loop (recAt rc j))) :
  HS P (stackX F.n a F.X) (gOf F ds s.hp.jump) rc' w0 q { s.hp with jump := j } (pushSv F.n s.tm s.sv) w c := by
 refine ⟨h.hr.jumpd _ _,h.ro.jumpd _ _,h.hi,h.hiM,h.hy,h.below,h.pq,fun i=>?_,fun x hx=>?_,hrc,h.gok⟩
 ·rw [look_push]
  unfold stackX
  by_cases hi : i < F.n
  ·rw [if_pos hi,if_pos hi]; exact h.tm i
  ·rw [if_neg hi,if_neg hi]; exact h.sv _
 ·unfold gOf at hx
  rcases List.mem_append.1 hx with hx | hx
  ·rcases List.mem_append.1 hx with hx | hx
   ·exact h.keep x hx
   ·obtain ⟨D,hD,rfl⟩ := List.mem_map.1 hx
    obtain ⟨g1,g2,g3⟩ := hds D hD
    exact ⟨g1,g2,g3,fun i hi=>by cases hi⟩
  ·split at hx
   ·rename_i i l rc hrcF
    rw [List.mem_singleton] at hx
    subst hx
    obtain ⟨g0,g1,g2,g3⟩ := h.rcd i l rc hrcF
    exact ⟨g1,g2,g3,fun i' hi=>by cases hi; exact g0⟩
   ·cases hx

theorem SR.pop {F : Fr} {w0 w : World} {q : Nat → Prop} {hp : Hp} {sv : List (Nat × AV)} {a : Act} {c : Cx} {G' : List (Nat × Obj × Option Nat)} {rc' : Option (Nat × Nat × RcT)} (h : HS P (stackX F.n a F.X) G' rc' w0 q hp sv w c) (hsz : a.tmps.size = F.n) {ds : List Nat} (hd1 : a.defers = ds.map markOf) (hd2 : ds.Nodup)
  (hd3 : ∀ D ∈ ds,∀ x ∈ F.G,x.1 ≠ D) (hG : ∀ x ∈ F.G,x ∈ G') (hD : ∀ D ∈ ds,(D,Obj.deferred (some []),none) ∈ G') {j : Option Ex} (hrc : ∀ i l rc,F.rc = some (i,l,rc) → c.y i = some l ∧ c.p l ∧ w0.heap.size ≤ l ∧ w.heap[l]? = some (.loop (recAt rc j))) :
  SR P F w0 q { tm := popTm F.n sv,hp := { hp with jump := j },sv := popSv F.n sv } a w c := by
 refine ⟨⟨h.hr.jumpd _ _,h.ro.jumpd _ _,h.hi,h.hiM,h.hy,h.below,h.pq,fun i=>?_,fun x hx=>h.keep x (hG x hx),hrc,h.gok⟩,fun t=>?_,hsz,ds,hd1,hd2,fun D hD'=>?_⟩
 ·show VR P w c (look (popSv F.n sv) i) _
  rw [look_popSv]
  have := h.sv (i + F.n)
  unfold stackX at this
  rw [if_neg (by omega),Nat.add_sub_cancel] at this
  exact this
 ·show VR P w c (look (popTm F.n sv) t) _
  rw [look_popTm]
  by_cases ht : t < F.n
  ·rw [if_pos ht]
   have := h.sv t
   unfold stackX at this
   rw [if_pos ht] at this
   exact this
  ·rw [if_neg ht]; exact .tree (.top _)
 ·obtain ⟨g1,g2,g3,_⟩ := h.keep _ (hD D hD')
  exact ⟨g1,g2,g3,hd3 D hD'⟩

theorem SR.back {F : Fr} {w0 w w' : World} {q : Nat → Prop} {s : St} {a : Act} {c c' : Cx} (h : SR P F w0 q s a w c) {ds : List Nat} (hd1 : a.defers = ds.map markOf) (hd2 : ds.Nodup) (hd3 : ∀ D ∈ ds,∀ x ∈ F.G,x.1 ≠ D) {hp : Hp} {sv : List (Nat × AV)}
  (h' : HS P (stackX F.n a F.X) (gOf F ds s.hp.jump) none w0 q hp sv w' c') : SR P F w0 q { tm := popTm F.n sv,hp := { hp with jump := s.hp.jump },sv := popSv F.n sv } a w' c' := by
 refine SR.pop h' h.size hd1 hd2 hd3 (fun x hx=>List.mem_append_left _ (List.mem_append_left _ hx)) (fun D hD=>List.mem_append_left _ (List.mem_append_right _ (List.mem_map.2 ⟨D,hD,rfl⟩))) fun i l rc hrc=>?_
 obtain ⟨g1,g2,g3,g4⟩ := h'.keep (l,.loop (recAt rc s.hp.jump),some i) (List.mem_append_right _ (by rw [hrc]; exact .head _))
 exact ⟨g4 i rfl,g1,g2,g3⟩

def ArgsR (P : Program) (w : World) (c : Cx) (args : List AV) (vs : Array Value) : Prop := vs.size = args.length ∧ ∀ (i : Nat) x,args[i]? = some x → VR P w c x (vs.getD i undef)

def YOk (P : Program) (X : Nat → Value) (G : List (Nat × Obj × Option Nat)) (rc : Option (Nat × Nat × RcT)) (w0 : World) (q : Nat → Prop) (Y : YT) : Prop :=
 ∀ i m args s K,Y i m args s K → ∀ a w c vs l,SR P ⟨m,X,none,G,rc⟩ w0 q s a w c → ArgsR P w c args vs → c.y i = some l →
  ∃ fn tmps assign body,(Instr.yield l vs).run P w = .ok (.round l fn tmps assign body) w ∧ RoundIn (FR none) 0 P l fn tmps assign body w fun e w'=>∃ b s' c',e = .returned (.bool b) ∧ SR P ⟨m,X,none,G,rc⟩ w0 q s' a w' c' ∧ K b s'

def IOk (P : Program) (I : YT → FuncId → List AV → Nat → St → (AV → St → Prop) → Prop) : Prop :=
 ∀ Y f args n s K, I Y f args n s K → ∀ X G rc w0 q w c vs, HS P X G rc w0 q s.hp (pushSv n s.tm s.sv) w c → ArgsR P w c args vs → YOk P X G rc w0 q Y →
  (∀ as w,(callFunc f as).run P w = .ok (.enter f as) w) ∧ CallsIn (FR none) 0 P f vs w fun e w'=>∃ u,e = .returned u ∧ ∃ r hp' sv' c',HS P X G rc w0 q hp' sv' w' c' ∧ VR P w' c' r u ∧
   K r { tm := popTm n sv',hp := hp',sv := popSv n sv' }

structure EnvOk (P : Program) (F : Fr) (w0 : World) (q : Nat → Prop) (E : Env) : Prop where
 S : ∀ f args r fr,E.S f args r fr → Sound1 P f args r fr
 I : IOk P E.I
 Y : E.Y = noY ∨ (F.r = none ∧ YOk P F.X F.G F.rc w0 q E.Y)
 rok : E.rok = true → F.r = none
 M : ∀ f es len R rest G,E.M f es len R rest G → Sound2 P f es len R rest G

theorem EnvOk.plain {F : Fr} {w0 : World} {q : Nat → Prop} {E : Env} (h : EnvOk P F w0 q E) : EnvOk P F w0 q E.plain :=
  ⟨h.S,fun _ _ _ _ _ _ hf=>hf.elim,.inl rfl,h.rok,fun _ _ _ _ _ _ hf=>hf.elim⟩

theorem noY_ok (X : Nat → Value) (G : List (Nat × Obj × Option Nat)) (rc : Option (Nat × Nat × RcT)) (w0 : World) (q : Nat → Prop) : YOk P X G rc w0 q noY := fun _ _ _ _ _ hf=>hf.elim

omit [GTab] in
theorem wp_in {o : Oper} {a : Act} {w : World} {next : Act → World → Prop} {Q : Exit → Act → World → Prop} {r : Option Nat} (hnd : ∀ c,o.op ≠ .defer c) (h : o.wp P a w next Q) : o.wpIn (FR r) 0 P a w next Q := by
 refine ⟨fun _ _=>trivial,?_⟩
 rw [show (FR r).round = r from rfl,Oper.semAt_eq r _ _ hnd]
 unfold Oper.wp at h
 generalize (execOp a.eval o).run P w = res at h ⊢
 cases res with
 | ok x w' =>
  cases x with
  | value v=>exact h
  | skip=>exact h
  | defer d=>exact h
  | enter f args=>exact ⟨(fun hd=>by cases hd),callsIn_wide.2 h⟩
  | row row args =>
   refine ⟨(fun hd=>by cases hd),fun cc cs _=>?_⟩
   obtain ⟨v,w'',hR,hs⟩ := h cc cs
   exact ⟨v,w'',hR,stepsIn_wide.2 hs⟩
  | _=>exact h.elim
 | halt x w'=>cases x <;> exact h

omit [GTab] in
theorem not_defer {o : Oper} {ρ : Operand → AV} {h : Hp} (hb : ∀ c,o.op = .defer c → opEv T o ρ h ≠ .bad) : ∀ c,o.op ≠ .defer c := fun c hc=>hb c hc (by unfold opEv; rw [hc])

theorem SR.put {F : Fr} {w0 w : World} {q : Nat → Prop} {s : St} {a : Act} {c : Cx} (h : SR P F w0 q s a w c) {d : Option Tmp} (hd : slotOk F.n d = true) {v : AV} {u : Value} (hv : VR P w c v u) : SR P F w0 q (s.put d v) (a.put d u) w c :=
  h.putV h.hr h.ro (Ext.refl _ _ _) h.hi h.hiM h.hy h.pq rfl hd hv

omit [GTab] in
theorem op_yield {o : Oper} {f : Operand} {args : Array Operand} {ts : Array TypeId} {r : Operand → Value} {l : Nat} {w : World} (hop : o.op = .call { callee := .value f,args,argTypes := ts }) (hf : r f = .func (.yield l) #[] #[]) :
  (execOp r o).run P w = (Instr.yield l (args.map r)).run P w := by
 unfold execOp
 simp only [hop,resolve,hf,Deferred.ofValue,Sem.run_bind,Sem.run_pure,Result.andThen_ok,invoke]
 simp

theorem one_ok (hT : TOK P T) {F : Fr} {w0 w : World} {q : Nat → Prop} {E : Env} (hE : EnvOk P F w0 q E) {s : St} {a : Act} {c : Cx} (h : SR P F w0 q s a w c) {o : Oper} {st : (Operand → AV) → Option Bool} {K : St → Prop} (hw : oneW E T F.n st o s K) {next : Act → World → Prop} {Q : Exit → Act → World → Prop}
    (hK : ∀ s' a' w' c',SR P F w0 q s' a' w' c' → K s' → next a' w') : o.wpIn (FR F.r) 0 P a w next Q := by
  unfold oneW at hw
  simp only [putF_eq] at hw
  split at hw
  · exact hw.elim
  split at hw
  case h_2=>exact hw.elim
  rename_i hs
  rw [Bool.and_eq_true] at hs
  have hd := hs.1
  have hρ : ∀ x ∈ o.op.operands,VR P w c (s.eval x) (a.eval x) := fun x _=>eval_rel h.gok h.tm x
  have hnd : ∀ cc,o.op ≠ .defer cc := fun cc hcc=>by
    unfold opW at hw
    rw [show opEv T o s.eval s.hp = .bad from by unfold opEv; rw [hcc]] at hw
    exact hw
  have done : ∀ (v : AV) (h' : Hp),(opEv T o s.eval s.hp).gives v h' → K ({ s with hp := h' }.put o.dst v) → o.wpIn (FR F.r) 0 P a w next Q := by
    intro v h' hev hk
    have hkeep := gives_keep hev
    refine wp_in hnd ?_
    cases he : isEff o s.eval with
    | false =>
      obtain ⟨u,w',c',g1,g2,g3⟩ := quiet_op hT h.hr h.base (fun _=>rfl) hρ he hev (fun b hb _=>by
        cases hO : c.O b with
        | none=>rfl
        | some oi=>have := h.hi b oi hO; omega) (fun b hb _=>by
        cases hO : c.N b with
        | none=>rfl
        | some r=>have := h.hiM b r hO; omega)
      unfold Oper.wp
      rw [g1]
      exact hK _ _ _ _ (h.quiet g2 hkeep hd g3) hk
    | true =>
      unfold isEff at he
      split at he
      · rename_i t x y hop
        obtain ⟨w',c',g1,g2,rfl⟩ := eff_store hT h.hr h.ro h.base hop (hρ x (by rw [hop]; simp [Op.operands])) (hρ y (by rw [hop]; simp [Op.operands])) hev
        unfold Oper.wp
        rw [g1]
        exact hK _ _ _ _ (h.eff g2 hkeep hd (.tree (.top _))) hk
      · rename_i t x y z hop
        obtain ⟨w',c',g1,g2,rfl⟩ := eff_mapUpdate hT h.hr h.ro (.inl hop) (hρ x (by rw [hop]; simp [Op.operands])) (hρ y (by rw [hop]; simp [Op.operands])) (hρ z (by rw [hop]; simp [Op.operands])) hev
        unfold Oper.wp
        rw [g1]
        exact hK _ _ _ _ (h.eff g2 hkeep hd (.tree (.top _))) hk
      · rename_i t x y z hop
        obtain ⟨w',c',g1,g2,rfl⟩ := eff_mapUpdate hT h.hr h.ro (.inr hop) (hρ x (by rw [hop]; simp [Op.operands])) (hρ y (by rw [hop]; simp [Op.operands])) (hρ z (by rw [hop]; simp [Op.operands])) hev
        unfold Oper.wp
        rw [g1]
        exact hK _ _ _ _ (h.eff g2 hkeep hd (.tree (.top _))) hk
      · rename_i x y hop
        exfalso
        unfold opEv at hev
        rw [hop] at hev
        simp only [Bool.cond_eq_ite] at hev
        (repeat' split at hev) <;> exact hev
      · rename_i args ts hop
        obtain ⟨u,w',c',g1,g2,g3⟩ := eff_clear hT h.hr h.ro h.base hop (fun x hx=>hρ x (by rw [hop]; simp [Op.operands,Call.operands,hx])) hev
        unfold Oper.wp
        rw [g1]
        exact hK _ _ _ _ (h.eff g2 hkeep hd g3) hk
      · rename_i args ts hop
        obtain ⟨u,w',c',g1,g2,g3⟩ := append_eff hT h.hr h.ro h.base hop (fun x hx=>hρ x (by rw [hop]; simp [Op.operands,Call.operands,hx])) (by unfold isEff; rw [hop]; exact he) hev
        unfold Oper.wp
        rw [g1]
        exact hK _ _ _ _ (h.eff g2 hkeep hd g3) hk
      · cases he
  unfold opW at hw
  split at hw
  · exact hw.elim
  · rename_i v h' hev
    exact done v h' (by rw [hev]; exact ⟨rfl,rfl⟩) hw
  · rename_i p v h' hev
    exact done v h' (by rw [hev]; exact ⟨hw.1,rfl,rfl⟩) hw.2
  · rename_i h0 b k g fl hev
    obtain ⟨G',hG,hw⟩ := hw
    exact done _ _ (by rw [hev]; exact ⟨G',hG,rfl,rfl⟩) hw
  · rename_i p _ v h' p' _ v' h'' hev
    rcases hw with ⟨hp0,hw⟩ | ⟨hp0,hw⟩
    · exact done v h' (by rw [hev]; exact .inl ⟨hp0,rfl,rfl⟩) hw
    · exact done v' h'' (by rw [hev]; exact .inr ⟨hp0,rfl,rfl⟩) hw
  · rename_i b m key x bs hev
    split at hw
    case h_2=>exact hw.elim
    obtain ⟨g0,g1,g2,g3,g4,t,kt,et,q',u,g5,g6,g7,g8,g9⟩ := insF_real hT h.hr hρ hev
    have hq := qout_shared h.hr (Below.refl _ w) (bs := bs) (ms := []) g4 (fun i hi=>by cases hi)
    have h1 := h.quiet hq ⟨rfl,rfl⟩ (d := none) rfl (v := .top) (u := undef) (.tree (.top _))
    obtain ⟨w',m1,m2⟩ := map_write h1.hr h1.ro g5 g6 (b := b) (m := m) (by show (roM [] 0 s.hp.maps)[b]? = some m; rw [roM_nil]; exact g0) g7 g1 g2 g3 (g8.weaken fun b hb=>.inl hb) rfl
    refine wp_in hnd ?_
    unfold Oper.wp
    rw [g9 w' m1]
    refine hK _ _ _ _ (h1.eff m2 ⟨rfl,rfl⟩ hd (.tree (.top _))) ?_
    have hm : (roHp s.hp bs []).maps = s.hp.maps := roM_nil _ _
    show K (St.put { s with hp := { roHp s.hp bs [] with maps := setNth (roHp s.hp bs []).maps b _ } } o.dst .top)
    rw [hm]
    exact hw
  · rename_i p _ v bs ms hev
    split at hw
    case h_2=>exact hw.elim
    obtain ⟨u,g1,g2,g3,g4⟩ := share_real hT h.hr hρ hev hw.1
    refine wp_in hnd ?_
    unfold Oper.wp
    rw [g1]
    exact hK _ _ _ _ (h.quiet (qout_shared h.hr (Below.refl _ w) g3 g4) ⟨rfl,rfl⟩ hd (.tree (g2.weaken fun b hb=>.inl hb))) hw.2
  · rename_i ms ki et has get hev
    split at hw
    case h_2=>exact hw.elim
    obtain ⟨q',es,clock,g1,g2,g3,g4,g5⟩ := range_real hT h.hr hρ hev
    have hq := qout_shared h.hr (Below.refl _ w) (bs := []) (ms := ms) (fun i hi=>by cases hi) g5
    have h1 := h.quiet hq ⟨rfl,rfl⟩ (d := none) rfl (v := .top) (u := undef) (.tree (.top _))
    have hl : (roHp s.hp [] ms).maps.length = s.hp.maps.length := roM_length _ _ _
    have hb : (roHp s.hp [] ms).blocks = s.hp.blocks := roB_nil _ _
    have hq2 := qout_map h1.hr h1.base (m := { ki,et,has,get,it := some fun _=>false,left := es.toList.length }) (o := .mapIter (some q') clock #[] clock) (by
      cases hN : ({ c with p := fun b=>qOf c ([],ms) b ∨ (w.heap.size ≤ b ∧ b < w.heap.size) } : Cx).N (roHp s.hp [] ms).maps.length with
      | none=>exact hN
      | some r=>have := h1.hiM _ r hN; exact absurd this (Nat.lt_irrefl _)) (fun ex=>iter_new (c := { c with p := fun b=>qOf c ([],ms) b ∨ (w.heap.size ≤ b ∧ b < w.heap.size) }) g2 (Or.inl g3) (g4.mono (fun b hb=>Or.inl hb) fun _ _=>rfl) ex)
    refine wp_in hnd ?_
    unfold Oper.wp
    rw [g1]
    refine hK _ _ _ _ (h1.quiet hq2 ⟨rfl,rfl⟩ hd (v := .oiter (roHp s.hp [] ms).maps.length) (.oiter _ _ (by simp [Cx.addN,St.put]))) ?_
    have hk := hw es.toList.length
    show K (St.put { s with hp := { roHp s.hp [] ms with maps := (roHp s.hp [] ms).maps ++ _ } } o.dst _)
    rw [hl]
    have e : ({ roHp s.hp [] ms with maps := (roHp s.hp [] ms).maps ++ [{ ki,et,has,get,it := some fun _=>false,left := es.toList.length }] } : Hp) = { s.hp with maps := roM ms 0 s.hp.maps ++ [{ ki,et,has,get,it := some fun _=>false,left := es.toList.length }] } := by
      unfold roHp
      rw [roB_nil]
    rw [e]
    exact hk
  · rename_i b m seen hev
    split at hw
    case h_2=>exact hw.elim
    obtain ⟨g0,g1,g2,q',hN,hcase⟩ := next_real h.hr hρ hev
    rcases hcase with ⟨ho,hrun⟩ | ⟨e,w1,n,obj,hw1,k1,k2,k3,k4,k5,hrun,hMR⟩
    · refine wp_in hnd ?_
      unfold Oper.wp
      rw [hrun]
      refine hK _ _ _ _ (h.put hd (.tree (.tuple _ _ rfl fun i y hy=>?_))) (hw.1 ho)
      match i with
      | 0=>simp at hy; subst hy; exact .val _
      | i + 1=>simp at hy
    · obtain ⟨x,hx1,hx2⟩ := allKeys_at hw.2 k1
      have hk := hx1 k2 k3 n k4
      have h1 : SR P F w0 q s a w1 c := by
        rcases hw1 with rfl | rfl
        · exact h
        · exact h.drew
      have hh1 : w1.heap = w.heap := by rcases hw1 with rfl | rfl <;> rfl
      have hE := set_map h1.hr h1.ro g0 hN g1 (m' := m.step seen e.key x n) (by rw [AM.step_eq]; exact g1) (o := obj) (fun ex=>hMR x (hx2 P w c.p) ex)
      refine wp_in hnd ?_
      unfold Oper.wp
      rw [hrun]
      refine hK _ _ _ _ (h1.eff hE ⟨rfl,rfl⟩ hd (v := .tuple [.val (.bool true),x,m.get e.key]) (.tree (.tuple _ _ rfl fun i y hy=>?_))) hk
      match i with
      | 0=>simp at hy; subst hy; exact .val _
      | 1=>simp at hy; subst hy; exact hx2 _ _ _
      | 2=>simp at hy; subst hy; exact k5.mono (fun _ h=>h) fun b hb=>by rw [hE.ext.pb b hb,hh1]
      | i + 3=>simp at hy
  · rename_i p _ b h' hev
    split at hw
    · obtain ⟨rfl,b',e2,e3⟩ := any_real hT (fun _=>rfl) hρ hev
      refine wp_in hnd ?_
      unfold Oper.wp
      rw [e3]
      exact hK _ _ _ _ (h.put hd (.tree (.val _))) (hw b' e2)
    · exact done _ h' (by rw [hev]; exact ⟨hw.1,rfl,rfl⟩) hw.2
  · rename_i g as bs ms hev
    split at hw
    case h_2=>exact hw.elim
    rename_i f args ts hop
    rcases hw with ⟨res,fr,hS,hk⟩ | hw | hw | hw
    · obtain ⟨vs,g1,g2⟩ := op_call h.hr h.gok h.base hop (hρ f (by rw [hop]; simp [Op.operands,Call.operands])) (fun x hx=>hρ x (by rw [hop]; simp [Op.operands,Call.operands,hx])) hev (hE.S _ _ _ _ hS) (fun _ b hb _=>by
          cases hO : c.O b with
          | none=>rfl
          | some oi=>have := h.hi b oi hO; omega)
      refine wp_in hnd ?_
      unfold Oper.wp
      rw [g1]
      refine Calls.mono g2 ?_
      rintro e w' ⟨u,rfl,c',hres⟩
      cases fr with
      | true=>exact hK _ _ _ _ (h.quiet hres.1 ⟨rfl,rfl⟩ hd hres.2) hk
      | false=>exact hK _ _ _ _ (h.quiet hres.1 ⟨rfl,rfl⟩ hd hres.2) hk
    · obtain ⟨l,hw⟩ := hw
      obtain ⟨c,h⟩ := h.fzs l
      have hρ := fun x (_ : x ∈ o.op.operands)=>eval_rel h.gok h.tm x
      split at hw
      case h_2=>exact hw.elim
      rename_i f2 as2 bs2 ms2 hev
      obtain ⟨ds,hd1,hd2,hd3⟩ := h.defers
      have hpush := h.push (ds := ds) (fun D hD=>by obtain ⟨p1,p2,p3,_⟩ := hd3 D hD; exact ⟨p1,p2,p3⟩) (rc' := none) (j := (fzs l s).hp.jump) (fun i l rc hf=>by cases hf)
      have hfr := hρ f (by rw [hop]; simp [Op.operands,Call.operands])
      have hin := fun X G rc w0' q' w' c' vs h1 h2=>(hE.I _ _ _ _ _ _ hw X G rc w0' q' w' c' vs h1 h2 (noY_ok _ _ _ _ _)).1
      obtain ⟨vs0,_,a1,a2⟩ : ∃ vs0 : Array Value,True ∧ vs0.size = (rawArgs o (fzs l s).eval).length ∧ ∀ (i : Nat) x,(rawArgs o (fzs l s).eval)[i]? = some x → VR P w c x (vs0.getD i undef) := by
        obtain ⟨vs0,a1,a2⟩ := raw_args hop hfr (fun x hx=>hρ x (by rw [hop]; simp [Op.operands,Call.operands,hx])) hev
        exact ⟨vs0,trivial,a1,a2⟩
      obtain ⟨vs,g1,g2,g3⟩ := op_raw (w := w) hop hfr (fun x hx=>hρ x (by rw [hop]; simp [Op.operands,Call.operands,hx])) hev (hin _ _ _ _ _ _ _ _ hpush ⟨a1,a2⟩)
      obtain ⟨_,hcall⟩ := hE.I _ _ _ _ _ _ hw _ _ _ _ _ _ _ vs hpush ⟨g2,g3⟩ (noY_ok _ _ _ _ _)
      refine ⟨fun _ _=>trivial,?_⟩
      rw [Oper.semAt_eq _ _ _ hnd,g1]
      refine ⟨(fun hdd=>by cases hdd),CallsIn.mono hcall ?_⟩
      rintro e w' ⟨u,rfl,r,hp',sv',c',hs',hr,hk⟩
      have hback := h.back hd1 hd2 (fun D hD x hx=>(hd3 D hD).2.2.2 x hx) hs'
      exact hK _ _ _ _ (hback.put hd hr) hk
    · obtain ⟨G,hw⟩ := hw
      split at hw
      case h_2=>exact hw.elim
      rename_i b ver off len cp rest hraw
      split at hw
      case h_2=>exact hw.elim
      rename_i k hkb
      obtain ⟨hfl,hlen,hle,hM,hk⟩ := hw
      rw [Bool.and_eq_true,Bool.and_eq_true] at hfl
      obtain ⟨⟨hfl,hro⟩,hrest⟩ := hfl
      have hro : k.ro = false := by simpa using hro
      obtain ⟨hen,hS⟩ := hE.M _ _ _ _ _ _ hM
      obtain ⟨vs,g1,g2,g3⟩ := op_raw (w := w) hop (hρ f (by rw [hop]; simp [Op.operands,Call.operands])) (fun x hx=>hρ x (by rw [hop]; simp [Op.operands,Call.operands,hx])) hev hen
      rw [hraw] at g2 g3
      obtain ⟨hkb,hkv⟩ := block_some hkb
      obtain ⟨oi,hO,_,_,hv⟩ := (g3 0 _ rfl).oslice_inv
      have hB := h.hr.blk b k oi hkb hO
      obtain ⟨hln,aa,k1,hu,q1,q2,q3,q4,_⟩ := hv (by rw [hB.ver,hkv])
      have hk1 : k1 ≠ 0 := by omega
      have hcap : oi.cap ≠ 0 := by omega
      obtain ⟨cs,t,hrow,hsz,hone⟩ := hB.row hcap
      have hnp : ¬ c.p oi.blk := fun hp=>by
        obtain ⟨k2,g4,g5⟩ := h.ro.b b oi hO hcap hp
        rw [hkb] at g4; cases g4
        rw [hro] at g5; cases g5
      have hvs : vs = #[.slice (some ⟨oi.blk,oi.lo + off * oi.es,none⟩) len k1] ++ vs.extract 1 vs.size := by
        apply Array.ext
        · simp at g2 ⊢; omega
        · intro i h1 h2
          cases i with
          | zero =>
            have := hu
            rw [q4 hk1] at this
            simp [h1] at this
            simp [this]
          | succ i=>simp; congr 1; omega
      have hes := hB.es
      have hmul : ∀ i,i < len → (off + i) * oi.es + oi.es ≤ (off + len) * oi.es := fun i hi=>by
        have := Nat.mul_le_mul_right oi.es (show off + i + 1 ≤ off + len by omega)
        rwa [Nat.add_mul (off + i),Nat.one_mul] at this
      have hmul2 : (off + len) * oi.es ≤ oi.cap * oi.es := Nat.mul_le_mul_right _ (by omega)
      have hcall := hS w c.p (vs.extract 1 vs.size) oi.blk (oi.lo + off * oi.es) k1 cs t h.hr.st h.gok hnp hrow
        (by rw [← hes,Nat.add_assoc,← Nat.add_mul]; omega) hone q1 (fun i hi=>by rw [shiftF_eq]; exact hB.el _ (by omega))
        (fun i j x hi hx=>by
          rw [shiftF_eq] at hx
          have hj : j < oi.es := by rw [hes,← hB.el (off + i) (by omega)]; exact (List.getElem?_eq_some_iff.1 hx).1
          have hm := hmul i hi
          rw [Nat.add_mul] at hm
          have hlt : oi.lo + ((off + i) * oi.es + j) < cs.size := by rw [Nat.add_mul]; omega
          have := (hB.rel (off + i) j x cs[oi.lo + ((off + i) * oi.es + j)] (by omega) hx (by simp [World.cell?,hrow,hlt])).2 hfl
          rw [← hes,show oi.lo + off * oi.es + (i * oi.es + j) = oi.lo + ((off + i) * oi.es + j) by rw [Nat.add_mul]; omega]
          simpa [hlt] using this)
        (by simp at g2 ⊢; omega)
        (fun i x hi=>by
          have := g3 (i + 1) x (by simpa using hi)
          have hri : i < rest.length := (List.getElem?_eq_some_iff.1 hi).1
          have hvi : i + 1 < vs.size := by simp at g2; omega
          rw [show (vs.extract 1 vs.size).getD i undef = vs.getD (i + 1) undef by
            simp only [Array.getD_eq_getD_getElem?]
            rw [Array.getElem?_eq_getElem hvi,Array.getElem?_eq_getElem (by simp; omega)]
            simp [Nat.add_comm]]
          exact VR.toVT 4 (List.all_eq_true.1 hrest x (List.mem_of_getElem? hi)) this)
      rw [← hvs] at hcall
      refine wp_in hnd ?_
      unfold Oper.wp
      rw [g1]
      refine Calls.mono hcall ?_
      rintro e w' ⟨rfl,news,n1,n2,n3,n4,n5⟩
      have hE1 := write_seg h.hr h.ro h.base hkb hO hro hcap hrow (k' := k.wr (fun i=>if i < off then k.f i else if i < off + len then G (i - off) else k.f i) k.flat) (at_ := off) (m := len) (fx := G) (fl := true) (news := news) (by rw [n1]) n2 n3
        (fun i j y hi hy=>⟨.tree (n4 i j y hi hy),fun _=>n4 i j y hi hy⟩) (by omega) rfl rfl rfl hro (fun i hi=>rfl) (fun hf=>by have hf : k.flat = true := hf; simp [hf])
      have h1 := h.eff hE1 ⟨rfl,rfl⟩ (d := none) rfl (v := .top) (u := undef) (.tree (.top _))
      have hq := qout_shared h1.hr (w' := w') (bs := []) (ms := []) (by rw [show ∀ cs',(w.setRow oi.blk cs').heap.size = w.heap.size from fun cs'=>by simp [World.setRow]]; exact n5) (fun i hi=>by cases hi) (fun i hi=>by cases hi)
      refine hK _ _ _ _ (h1.quiet hq ⟨rfl,rfl⟩ hd (v := .tuple []) (.tree (.tuple _ _ rfl fun i y hy=>by cases hy))) ?_
      have e2 : roHp (s.hp.setB b (k.wr (fun i=>if i < off then k.f i else if i < off + len then G (i - off) else k.f i) k.flat)) [] [] = s.hp.setB b (k.wr (fun i=>if i < off then k.f i else if i < off + len then G (i - off) else k.f i) k.flat) := by
        unfold roHp
        rw [roB_nil,roM_nil]
      show K (St.put { s with hp := roHp (s.hp.setB b _) [] [] } o.dst _)
      rw [e2]
      exact hk
    · obtain ⟨_,res,hS,hk⟩ := hw
      obtain ⟨vs,g1,g2⟩ := op_call h.hr h.gok h.base hop (hρ f (by rw [hop]; simp [Op.operands,Call.operands])) (fun x hx=>hρ x (by rw [hop]; simp [Op.operands,Call.operands,hx])) hev (hE.S _ _ _ _ hS) (fun _ b hb _=>by
          cases hO : c.O b with
          | none=>rfl
          | some oi=>have := h.hi b oi hO; omega)
      refine wp_in hnd ?_
      unfold Oper.wp
      rw [g1]
      refine Calls.mono g2 ?_
      rintro e w' ⟨u,rfl,c',hres⟩
      have h1 := h.quiet hres.1 ⟨rfl,rfl⟩ (d := none) rfl (v := .top) (u := undef) (.tree (.top _))
      have hz := freeze_ok h1.hr 5 hres.2
      have hq := qout_shared h1.hr (Below.refl _ w') (bs := (refs { s.hp with blocks := s.hp.blocks ++ (adopt res s.hp.blocks.length).2 } 5 (adopt res s.hp.blocks.length).1).1) (ms := (refs { s.hp with blocks := s.hp.blocks ++ (adopt res s.hp.blocks.length).2 } 5 (adopt res s.hp.blocks.length).1).2) (refs_lt 5 _).1 (refs_lt 5 _).2
      exact hK _ _ _ _ (h1.quiet hq ⟨rfl,rfl⟩ hd (.tree (hz.weaken fun b hb=>.inl hb))) hk
  · rename_i i as hev
    split at hw
    case h_2=>exact hw.elim
    rename_i f args ts hop
    rcases hE.Y with hY | ⟨hr0,hY⟩
    · rw [hY] at hw; exact hw.elim
    · have hfr := hρ f (by rw [hop]; simp [Op.operands,Call.operands])
      unfold opEv at hev
      rw [hop] at hev
      simp only at hev
      split at hev
      · cases hev
      · rename_i i' hf
        cases hev
        rw [hf] at hfr
        obtain ⟨l,hl,hv⟩ : ∃ l,c.y i = some l ∧ a.eval f = .func (.yield l) #[] #[] := by
          generalize a.eval f = u at hfr
          cases hfr with
          | tree ht=>cases ht
          | yld _ l hy=>exact ⟨l,hy,rfl⟩
        have hF : F = ⟨F.n,F.X,none,F.G,F.rc⟩ := by rw [← hr0]
        obtain ⟨fn,tmps,assign,body,y1,y2⟩ := hY _ _ _ _ _ hw a w c (args.map a.eval) l (hF ▸ h) ⟨by simp,fun k x hx=>by
          rw [List.getElem?_map] at hx
          by_cases hk : k < args.size
          · have : args.toList[k]? = some args[k] := by simp [hk]
            rw [this] at hx
            simp only [Option.map_some,Option.some.injEq] at hx
            subst hx
            simpa [hk] using hρ args[k] (by rw [hop]; simp [Op.operands,Call.operands])
          · rw [List.getElem?_eq_none (by simp; omega)] at hx; cases hx⟩ hl
        refine ⟨fun _ _=>trivial,?_⟩
        rw [Oper.semAt_eq _ _ _ hnd,op_yield hop hv,y1]
        refine ⟨(fun hdd=>by cases hdd),RoundIn.mono y2 ?_⟩
        rintro e w' ⟨b,s',c',rfl,hs',hk⟩
        exact hK _ _ _ _ (SR.put (hF ▸ hs' : SR P F w0 q s' a w' c') hd (.tree (.val _))) hk
      · cases hev

theorem guard_known {F : Fr} {w0 w : World} {q : Nat → Prop} {s : St} {a : Act} {c : Cx} (h : SR P F w0 q s a w c) {ops : Array Oper} {o : Oper} {j : Nat} {want : Bool} (hg : o.guard = some (j,want)) {t : Tmp} (ht : (nth? ops.toList j).bind (·.dst) = some t) {b : Bool}
  (hl : look s.tm t = .val (.bool b)) : Region.wanted o (yielded ops a.tmps) = (b == want) := by
 rw [nth?_eq] at ht
 have ht' : (ops[j]?).bind (·.dst) = some t := by simpa using ht
 have hv := h.tm t
 rw [hl] at hv
 have hv := hv.val_inv
 have hs : a.tmps[t]? = some (.bool b) := by
  cases hq : a.tmps[t]? with
  | none=>simp [hq,undef] at hv
  | some u=>simp [hq] at hv; rw [hv]
 unfold Region.wanted
 rw [hg]
 simp [yielded,ht',hs]

theorem guard_undef {F : Fr} {w0 w : World} {q : Nat → Prop} {s : St} {a : Act} {c : Cx} (h : SR P F w0 q s a w c) {ops : Array Oper} {o : Oper} {j : Nat} {want : Bool} (hg : o.guard = some (j,want)) {t : Tmp} (ht : (nth? ops.toList j).bind (·.dst) = some t) {vs : Array Value}
  (hl : look s.tm t = .val (.tuple vs)) : Region.wanted o (yielded ops a.tmps) = false := by
 rw [nth?_eq] at ht
 have ht' : (ops[j]?).bind (·.dst) = some t := by simpa using ht
 have hv := h.tm t
 rw [hl] at hv
 have hv := hv.val_inv
 unfold Region.wanted
 rw [hg]
 simp only [yielded,ht',Option.bind_some]
 cases hq : a.tmps[t]? with
 | none=>rfl
 | some u =>
  have : u = .tuple vs := by simpa [hq] using hv
  subst this
  rfl

theorem ops_ok (hT : TOK P T) {F : Fr} {w0 : World} {q : Nat → Prop} {ops : Array Oper} {E : Env} (hE : EnvOk P F w0 q E) {st : Nat → (Operand → AV) → Option Bool} {K : St → Prop} {Q : Exit → Act → World → Prop} (hK : ∀ s' a' w' c',SR P F w0 q s' a' w' c' → K s' → Q .normal a' w') :
  ∀ (l : List Oper) (i : Nat) (s : St) (a : Act) (w : World) (c : Cx),ops.toList.drop i = l → SR P F w0 q s a w c → opsW E T F.n st ops K i l s → wpOpsIn (FR F.r) 0 P ops Q (List.range' i l.length) a w
 | [],i,s,a,w,c,_,h,hw=>by simp only [List.length_nil,List.range'_zero,wpOpsIn]; exact hK s a w c h hw
 | o :: r, i, s, a, w, c, hd, h, hw => by
  have ho : ops[i]? = some o := by
   have := List.getElem?_drop (xs := ops.toList) (i := i) (j := 0)
   rw [hd] at this
   simpa using this.symm
  have hd' : ops.toList.drop (i + 1) = r := by
   have : ops.toList.drop (i + 1) = (ops.toList.drop i).drop 1 := by rw [List.drop_drop]
   rw [this,hd]; rfl
  simp only [List.length_cons,List.range'_succ,wpOpsIn,ho]
  have go : ∀ s,SR P F w0 q s a w c → oneW E T F.n (st i) o s (opsW E T F.n st ops K (i + 1) r) → o.wpIn (FR F.r) 0 P a w (wpOpsIn (FR F.r) 0 P ops Q (List.range' (i + 1) r.length)) Q := fun s hs ho' =>
   one_ok hT hE hs ho' fun s' a' w' c' hs' hk=>ops_ok hT hE hK r (i + 1) s' a' w' c' hd' hs' hk
  have sk : ∀ s,SR P F w0 q s a w c → opsW E T F.n st ops K (i + 1) r (s.put o.dst (.val undef)) → wpOpsIn (FR F.r) 0 P ops Q (List.range' (i + 1) r.length) (a.put o.dst undef) w := fun s hs ho' =>
   ops_ok hT hE hK r (i + 1) _ _ w c hd' (hs.skip o.dst) ho'
  unfold opsW at hw
  simp only [putF_eq] at hw
  split at hw
  ·rename_i hg
   have : Region.wanted o (yielded ops a.tmps) = true := by unfold Region.wanted; rw [hg]
   rw [if_pos this]
   exact go s h hw
  ·rename_i j want hg
   split at hw
   ·exact hw.elim
   ·rename_i t ht
    split at hw
    ·rename_i b hl
     have hwd := guard_known h hg ht hl
     have hkn : SR P F w0 q (s.put (some t) (.val (.bool b))) a w c := h.known (by rw [← hl]; exact h.tm t)
     rw [hwd]
     cases b <;> cases want <;> simp only [ifB] at hw <;> simp
     ·exact go _ hkn hw
     ·exact ⟨fun _ _=>trivial,sk _ hkn hw⟩
     ·exact ⟨fun _ _=>trivial,sk _ hkn hw⟩
     ·exact go _ hkn hw
    ·rename_i vs hl
     rw [guard_undef h hg ht hl]
     simp
     exact ⟨fun _ _=>trivial,sk s h hw⟩
    ·exact hw.elim
theorem ord_ok (hT : TOK P T) {F : Fr} {w0 : World} {q : Nat → Prop} {ops : Array Oper} {E : Env} (hE : EnvOk P F w0 q E) {K : St → Prop} {Q : Exit → Act → World → Prop} (hK : ∀ s' a' w' c',SR P F w0 q s' a' w' c' → K s' → Q .normal a' w') :
  ∀ (l : List Nat) (s : St) (a : Act) (w : World) (c : Cx),SR P F w0 q s a w c → ordW E T F.n ops K l s → wpOpsIn (FR F.r) 0 P ops Q l a w
 | [],s,a,w,c,h,hw=>by simp only [wpOpsIn]; exact hK s a w c h hw
 | i :: r, s, a, w, c, h, hw => by
  unfold ordW at hw
  split at hw
  ·exact hw.elim
  rename_i o hn
  have ho : ops[i]? = some o := by rw [nth?_eq] at hn; simpa using hn
  simp only [wpOpsIn,ho]
  have go : ∀ s,SR P F w0 q s a w c → oneW E T F.n (fun _=>some true) o s (ordW E T F.n ops K r) → o.wpIn (FR F.r) 0 P a w (wpOpsIn (FR F.r) 0 P ops Q r) Q := fun s hs ho' =>
   one_ok hT hE hs ho' fun s' a' w' c' hs' hk=>ord_ok hT hE hK r s' a' w' c' hs' hk
  have sk : ∀ s,SR P F w0 q s a w c → ordW E T F.n ops K r (s.put o.dst (.val undef)) → wpOpsIn (FR F.r) 0 P ops Q r (a.put o.dst undef) w := fun s hs ho' =>
   ord_ok hT hE hK r _ _ w c (hs.skip o.dst) ho'
  simp only [putF_eq] at hw
  split at hw
  ·rename_i hg
   have : Region.wanted o (yielded ops a.tmps) = true := by unfold Region.wanted; rw [hg]
   rw [if_pos this]
   exact go s h hw
  ·rename_i j want hg
   split at hw
   ·exact hw.elim
   ·rename_i t ht
    split at hw
    ·rename_i b hl
     have hwd := guard_known h hg ht hl
     have hkn : SR P F w0 q (s.put (some t) (.val (.bool b))) a w c := h.known (by rw [← hl]; exact h.tm t)
     rw [hwd]
     cases b <;> cases want <;> simp only [ifB] at hw <;> simp
     ·exact go _ hkn hw
     ·exact ⟨fun _ _=>trivial,sk _ hkn hw⟩
     ·exact ⟨fun _ _=>trivial,sk _ hkn hw⟩
     ·exact go _ hkn hw
    ·rename_i vs hl
     rw [guard_undef h hg ht hl]
     simp
     exact ⟨fun _ _=>trivial,sk s h hw⟩
    ·exact hw.elim
end
end Go.Tr
