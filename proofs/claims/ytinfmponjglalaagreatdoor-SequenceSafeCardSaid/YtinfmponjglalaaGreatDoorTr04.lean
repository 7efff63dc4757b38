/- States that say less; loops. Conditions: none. -/
import Derived.Test.YtinfmponjglalaaGreatDoorTr03
set_option linter.unusedSectionVars false
set_option linter.unnecessarySimpa false
set_option linter.unusedVariables false
set_option linter.unusedSimpArgs false

namespace Go.Tr
open Go Go.RowKit

section
variable [GTab] {P : Program} {T : Nat → Option TI} {F : Fr} {w0 w : World} {q : Nat → Prop} {s s' : St} {a : Act} {c : Cx}

theorem BLe_len : ∀ {l l' : List AB},BLe l l' → l'.length = l.length
 | [],[],_=>rfl
 | [],_ :: _,h=>h.elim
 | _ :: _,[],h=>h.elim
 | _ :: _,_ :: _,h=>by simp [BLe_len h.2]
section
variable {P : Program} {w : World}
theorem AVE_ok {p : Nat → Prop} : ∀ (k : Nat) {x y : AV} {v : Value}, AVE k x y → VT P w p x v → VT P w p y v
  | 0,x,y,v,h,_=>h.elim
  | k + 1, x, y, v, h, hx => by
    have eqc : x = y → VT P w p y v := fun e=>e ▸ hx
    cases x with
    | rslice es len f =>
      cases y with
      | rslice es' len' g =>
        obtain ⟨rfl,rfl,hf⟩ := h
        cases hx with
        | rslice0=>exact .rslice0 _ _ _ _
        | rslice _ _ _ b off kk gg h1 h2 h3 h4 h5=>exact .rslice _ _ _ b off kk gg h1 h2 (fun i hi=>by rw [← hf i hi]; exact h3 i hi) h4 (fun i j y hi hy=>h5 i j y hi (by rw [hf i hi]; exact hy))
      | _=>exact eqc h
    | eslice =>
      cases y with
      | rslice es' len' g =>
        have h : len' = 0 := h
        subst h
        cases hx with
        | eslice a=>exact .rslice0 _ _ _ _
      | _=>exact eqc h
    | agg l =>
      cases y with
      | agg l' =>
        obtain ⟨hl,hc⟩ := h
        cases hx with
        | agg _ vs hs ho hr =>
                                   refine .agg _ vs (by rw [hs,hl]) ho (fun i y hy=>?_)
                                   have hlt : i < l.length := by rw [hl]; exact (List.getElem?_eq_some_iff.1 hy).1
                                   exact AVE_ok k (hc i _ y (by rw [nth?_eq]; exact List.getElem?_eq_getElem hlt) (by rw [nth?_eq]; exact hy)) (hr i _ (List.getElem?_eq_getElem hlt))
      | _=>exact eqc h
    | tuple l =>
      cases y with
      | tuple l' =>
        obtain ⟨hl,hc⟩ := h
        cases hx with
        | tuple _ vs hs hr =>
                                  refine .tuple _ vs (by rw [hs,hl]) (fun i y hy=>?_)
                                  have hlt : i < l.length := by rw [hl]; exact (List.getElem?_eq_some_iff.1 hy).1
                                  exact AVE_ok k (hc i _ y (by rw [nth?_eq]; exact List.getElem?_eq_getElem hlt) (by rw [nth?_eq]; exact hy)) (hr i _ (List.getElem?_eq_getElem hlt))
      | _=>exact eqc h
    | top=>cases y <;> exact eqc h
    | val=>cases y <;> exact eqc h
    | func=>cases y <;> exact eqc h
    | rptr=>cases y <;> exact eqc h
    | optr=>cases y <;> exact eqc h
    | oslice=>cases y <;> exact eqc h
    | omap=>cases y <;> exact eqc h
    | yld=>cases y <;> exact eqc h
    | oiter=>cases y <;> exact eqc h
    | err=>cases y <;> exact eqc h
    | aslice=>cases y <;> exact eqc h
    | cslice=>cases y <;> exact eqc h
    | rmap=>cases y <;> exact eqc h
end
theorem RowLe_ok {P : Program} {w : World} {p : Nat → Prop} {fl : Bool} {l l' : List AV} (h : l' = l ∨ RowLe fl l l') : l'.length = l.length ∧ ∀ (j : Nat) y,l'[j]? = some y → ∃ x,l[j]? = some x ∧ (y = x ∨ fl = true ∧ ∀ v,VT P w p x v → VT P w p y v) := by
 rcases h with rfl | ⟨h1,h2,h3⟩
 ·exact ⟨rfl,fun j y hy=>⟨y,hy,.inl rfl⟩⟩
 ·refine ⟨h2,fun j y hy=>?_⟩
  have hlt : j < l.length := by rw [← h2]; exact (List.getElem?_eq_some_iff.1 hy).1
  refine ⟨_,List.getElem?_eq_getElem hlt,?_⟩
  rcases h3 j _ y (by rw [nth?_eq]; exact List.getElem?_eq_getElem hlt) (by rw [nth?_eq]; exact hy) with e | e
  ·exact .inl e.symm
  ·exact .inr ⟨h1,fun v hv=>AVE_ok 5 e hv⟩
theorem AVW_ok {P : Program} {w : World} {c : Cx} {x y : AV} {v : Value} (h : AVW x y) (hx : VR P w c x v) : VR P w c y v := by
 cases x with
 | rmap ki et hs g =>
  cases y with
  | rmap ki' et' hs' g' =>
   obtain ⟨rfl,rfl,hk⟩ := h
   cases hx with
   | tree hx =>
    cases hx with
    | rmap _ _ _ _ r es clock hp hr hek hz hg =>
     have e1 : hs' = hs := funext fun k=>(hk k).1
     subst e1
     have key : ∀ x v,VT P w c.p (g x) v → VT P w c.p (g' x) v := fun x v hv=>by
      rcases (hk x).2 with e | e
      ·rw [e]; exact hv
      ·exact AVE_ok 5 e hv
     exact .tree (.rmap _ _ _ _ r es clock hp hr hek (fun k zv h1 h2 h3=>key _ _ (hz k zv h1 h2 h3)) fun e he=>key _ _ (hg e he))
  | _=>exact h.elim
 | eslice =>
  cases y with
  | rslice es len f =>
   have h : len = 0 := h
   subst h
   cases hx with
   | tree hx=>cases hx with | eslice a=>exact .tree (.rslice0 _ _ _ _)
  | _=>exact h.elim
 | rslice es len f =>
  cases y with
  | rslice es' len' g =>
   obtain ⟨rfl,rfl,hf⟩ := h
   cases hx with
   | tree hx =>
    cases hx with
    | rslice0=>exact .tree (.rslice0 _ _ _ _)
    | rslice _ _ _ b off kk gg h1 h2 h3 h4 h5 =>
     refine .tree (.rslice _ _ _ b off kk gg h1 h2 (fun i hi=>?_) h4 (fun i j y hi hy=>?_))
     ·rw [(RowLe_ok (w := w) (P := P) (p := c.p) (hf i hi)).1]; exact h3 i hi
     ·obtain ⟨x,hx,hr⟩ := (RowLe_ok (w := w) (P := P) (p := c.p) (hf i hi)).2 j y hy
      rcases hr with rfl | ⟨_,hr⟩
      ·exact h5 i j y hi hx
      ·exact hr _ (h5 i j x hi hx)
  | _=>exact h.elim
 | _=>cases y <;> exact h.elim
theorem TLe_ok {P : Program} {w : World} {c : Cx} : ∀ {l l' : List (Nat × AV)},TLe l l' → ∀ (t : Nat) {v : Value},VR P w c (look l t) v → VR P w c (look l' t) v
 | [],[],_,t,v,h=>h
 | [],_ :: _,h,_,_,_=>h.elim
 | _ :: _,[],h,_,_,_=>h.elim
 | (k, x) :: r, (k', x') :: r', h, t, v, hv => by
  obtain ⟨rfl,h2,h3⟩ := h
  unfold look at hv ⊢
  cases hb : Nat.beq k' t with
  | true =>
   rw [hb] at hv
   rcases h2 with e | e
   ·rw [e]; exact hv
   ·exact AVW_ok e hv
  | false=>rw [hb] at hv; exact TLe_ok h3 t hv
theorem BLe_get : ∀ {l l' : List AB} {i : Nat} {k' : AB},BLe l l' → l'[i]? = some k' → ∃ k,l[i]? = some k ∧ k'.es = k.es ∧ k'.len = k.len ∧ k'.ver = k.ver ∧ k'.ro = k.ro ∧ (k'.flat = true → k.flat = true) ∧ ∀ i,i < k.len → k'.f i = k.f i ∨ RowLe k.flat (k.f i) (k'.f i)
 | [],[],_,_,_,h2=>by simp at h2
 | [],_ :: _,_,_,h,_=>h.elim
 | _ :: _,[],_,_,h,_=>h.elim
 | k :: l,k2 :: l',0,k',h,h2=>by simp at h2; subst h2; exact ⟨k,rfl,h.1⟩
 | k :: l,k2 :: l',i + 1,k',h,h2=>by
  obtain ⟨x,hx,hr⟩ := BLe_get (l := l) (l' := l') (i := i) (k' := k') h.2 (by simpa using h2)
  exact ⟨x,by simpa using hx,hr⟩
theorem BLe_get' : ∀ {l l' : List AB} {i : Nat} {k : AB},BLe l l' → l[i]? = some k → ∃ k',l'[i]? = some k' ∧ k'.ro = k.ro
 | [],[],_,_,_,h2=>by simp at h2
 | [],_ :: _,_,_,h,_=>h.elim
 | _ :: _,[],_,_,h,_=>h.elim
 | k :: l,k2 :: l',0,k',h,h2=>by simp at h2; subst h2; exact ⟨k2,rfl,h.1.2.2.2.1⟩
 | k :: l,k2 :: l',i + 1,k',h,h2=>by
  obtain ⟨x,hx,hr⟩ := BLe_get' (l := l) (l' := l') (i := i) (k := k') h.2 (by simpa using h2)
  exact ⟨x,by simpa using hx,hr⟩
theorem MLe_len : ∀ {l l' : List AM},MLe l l' → l'.length = l.length
 | [],[],_=>rfl
 | [],_ :: _,h=>h.elim
 | _ :: _,[],h=>h.elim
 | _ :: _,_ :: _,h=>by simp [MLe_len h.2]
theorem MLe_get : ∀ {l l' : List AM} {i : Nat} {k' : AM},MLe l l' → l'[i]? = some k' → ∃ k,l[i]? = some k ∧ k'.ro = k.ro ∧ k'.ki = k.ki ∧ k'.et = k.et ∧ ItLe k.it k.left k'.it k'.left ∧ (k'.cur = k.cur ∨ k'.cur = .top) ∧ ∀ x,k'.has x = k.has x ∧ (k'.get x = k.get x ∨ AVE 5 (k.get x) (k'.get x))
 | [],[],_,_,_,h2=>by simp at h2
 | [],_ :: _,_,_,h,_=>h.elim
 | _ :: _,[],_,_,h,_=>h.elim
 | k :: l,k2 :: l',0,k',h,h2=>by simp at h2; subst h2; exact ⟨k,rfl,h.1⟩
 | k :: l,k2 :: l',i + 1,k',h,h2=>by
  obtain ⟨x,hx,hr⟩ := MLe_get (l := l) (l' := l') (i := i) (k' := k') h.2 (by simpa using h2)
  exact ⟨x,by simpa using hx,hr⟩
theorem MLe_get' : ∀ {l l' : List AM} {i : Nat} {k : AM},MLe l l' → l[i]? = some k → ∃ k',l'[i]? = some k' ∧ k'.ro = k.ro
 | [],[],_,_,_,h2=>by simp at h2
 | [],_ :: _,_,_,h,_=>h.elim
 | _ :: _,[],_,_,h,_=>h.elim
 | k :: l,k2 :: l',0,k',h,h2=>by simp at h2; subst h2; exact ⟨k2,rfl,h.1.1⟩
 | k :: l,k2 :: l',i + 1,k',h,h2=>by
  obtain ⟨x,hx,hr⟩ := MLe_get' (l := l) (l' := l') (i := i) (k := k') h.2 (by simpa using h2)
  exact ⟨x,by simpa using hx,hr⟩

theorem SR.weak (h : SR P F w0 q s a w c) (hw : Weak s s') : SR P F w0 q s' a w c where
 hr := by
  refine ⟨fun b k' oi hk hO=>?_,h.hr.sep,h.hr.own,h.hr.st,fun b m' r hm hN=>?_,h.hr.mown,h.hr.msep,h.hr.bm⟩
  ·obtain ⟨k,hk0,e1,e2,e3,e4,e5,e6⟩ := BLe_get hw.blocks hk
   have hB := h.hr.blk b k oi hk0 hO
   exact ⟨by rw [hB.n,e2],by rw [hB.es,e1],by rw [hB.ver,e3],hB.le,hB.row,fun i hi=>by rw [e2] at hi; rw [(RowLe_ok (P := P) (w := w) (p := c.p) (e6 i hi)).1,e1]; exact hB.el i hi,fun i j x v hi hx hv=>by
    rw [e2] at hi
    obtain ⟨y,hy,hxy⟩ := (RowLe_ok (P := P) (w := w) (p := c.p) (e6 i hi)).2 j x hx
    obtain ⟨g1,g2⟩ := hB.rel i j y v hi hy hv
    rcases hxy with rfl | ⟨hfl,hxy⟩
    ·exact ⟨g1,fun hf=>g2 (e5 hf)⟩
    ·exact ⟨.tree (hxy v (g2 hfl)),fun _=>hxy v (g2 hfl)⟩⟩
  ·obtain ⟨m,hm0,e1,e2,e3,e5,e6,e4⟩ := MLe_get hw.maps hm
   have hMR := h.hr.maps b m r hm0 hN
   have hmap : ∀ {es clock},MapR P w c.p m.ki m.et m.has m.get es clock → MapR P w c.p m'.ki m'.et m'.has m'.get es clock := fun {es clock} g=>by
    rw [e2,e3,show m'.has = m.has from funext fun k=>(e4 k).1]
    have key : ∀ x v,VT P w c.p (m.get x) v → VT P w c.p (m'.get x) v := fun x v hv=>by
     rcases (e4 x).2 with e | e
     ·rw [e]; exact hv
     ·exact AVE_ok 5 e hv
    exact ⟨g.ek,fun k zv h1 h2 h3=>key _ _ (g.zero k zv h1 h2 h3),fun e he=>key _ _ (g.get e he)⟩
   refine ⟨fun hi=>?_,fun seen' hs=>?_⟩
   ·have : m.it = none := by
     cases hmi : m.it with
     | none=>rfl
     | some _=>rw [hmi,hi] at e5; exact e5.elim
    obtain ⟨es,clock,g1,g2⟩ := hMR.ex this
    exact ⟨es,clock,g1,hmap g2⟩
   ·cases hmi : m.it with
    | none=>rw [hmi,hs] at e5; exact e5.elim
    | some seen =>
     rw [hmi,hs] at e5
     obtain ⟨e7,e8⟩ := e5
     obtain ⟨q',es,clock,since,sn,last,g1,g2,g3,g4,g5,g6,g7,g8,g9⟩ := (hMR.it seen hmi).ex
     refine ⟨q',es,clock,since,sn,last,g1,g2,g3,hmap g4,g5,g6,fun e he=>by rw [e8]; exact g7 e he,by rw [← e7]; exact g8,?_⟩
     rcases e6 with e6 | e6
     ·rw [e6]; exact g9
     ·exact .inl e6
 ro := ⟨fun b oi hO hc hp=>by obtain ⟨k,hk,hr⟩ := h.ro.b b oi hO hc hp; obtain ⟨k',g1,g2⟩ := BLe_get' hw.blocks hk; exact ⟨k',g1,by rw [g2,hr]⟩,
  fun b r hN hp=>by obtain ⟨k,hk,hr⟩ := h.ro.m b r hN hp; obtain ⟨k',g1,g2⟩ := MLe_get' hw.maps hk; exact ⟨k',g1,by rw [g2,hr]⟩⟩
 tm := fun t=>by
  rcases hw.tm.1 with e | e
  ·rw [e]; exact h.tm t
  ·exact TLe_ok e t (h.tm t)
 sv := fun t=>by rw [hw.tm.2.1]; exact h.sv t
 hy := fun i l hl=>by rw [hw.tm.2.2.2]; exact h.hy i l hl
 keep := h.keep
 rcd := fun i l rc hrc=>by rw [hw.tm.2.2.1]; exact h.rcd i l rc hrc
 hi := fun b oi hb=>by rw [BLe_len hw.blocks]; exact h.hi b oi hb
 hiM := fun b r hb=>by rw [MLe_len hw.maps]; exact h.hiM b r hb
 size := h.size
 defers := h.defers
 below := h.below
 pq := h.pq
 gok := h.gok

def canonCx (c : Cx) (nb nm ny : Nat) : Cx :=
  { p := c.p,O := fun b=>if b < nb then (match c.O b with | some oi=>some { oi with ver := 0 } | none=>none) else none,N := fun b=>if b < nm then c.N b else none,y := fun i=>if i < ny then c.y i else none }

theorem canonAV_ok {base : Nat} {hp : Hp} (h : HR P base w c hp) (nb nm ny : Nat) : ∀ (k : Nat) {x : AV} {v : Value},VR P w c x v → VR P w (canonCx c nb nm ny) (canonAV hp nb nm ny k x) v
 | 0,x,v,_=>by simp only [canonAV]; exact .tree (.top v)
 | k + 1, x, v, hx => by
  have list : ∀ (l : List AV) (vs : Array Value),(∀ i x,l[i]? = some x → VR P w c x (vs.getD i undef)) → ∀ i x,(l.map (canonAV hp nb nm ny k))[i]? = some x → VR P w (canonCx c nb nm ny) x (vs.getD i undef) := by
   intro l vs hr i x hi
   rw [List.getElem?_map] at hi
   cases hl : l[i]? with
   | none=>rw [hl] at hi; cases hi
   | some y =>
    rw [hl] at hi
    simp only [Option.map_some,Option.some.injEq] at hi
    subst hi
    exact canonAV_ok h nb nm ny k (hr i y hl)
  cases x with
  | top=>simp only [canonAV]; exact .tree (.top v)
  | val u=>simp only [canonAV]; cases hx with | tree hx=>exact .tree hx
  | err=>simp only [canonAV]; cases hx with | tree hx=>exact .tree hx
  | eslice=>simp only [canonAV]; cases hx with | tree hx=>exact .tree hx
  | rslice es len f=>simp only [canonAV]; cases hx with | tree hx=>exact .tree hx
  | cslice es len cc f=>simp only [canonAV]; cases hx with | tree hx=>exact .tree hx
  | rptr l=>simp only [canonAV]; cases hx with | tree hx=>exact .tree hx
  | rmap ki et has get=>simp only [canonAV]; cases hx with | tree hx=>exact .tree hx
  | agg l =>
   obtain ⟨vs,rfl,hs,ho,hr⟩ := hx.agg_inv
   simp only [canonAV]
   exact .agg _ vs (by simp [hs]) ho (list l vs hr)
  | tuple l =>
   obtain ⟨vs,rfl,hs,hr⟩ := hx.tuple_inv
   simp only [canonAV]
   exact .tuple _ vs (by simp [hs]) (list l vs hr)
  | func fn nf l =>
   obtain ⟨f0,vs,rfl,h0,hs,hr⟩ := hx.func_inv
   simp only [canonAV]
   exact .func fn nf _ f0 vs h0 (by rw [hs]; simp) (list l (f0 ++ vs) hr)
  | yld i =>
   simp only [canonAV]
   cases hb : Nat.blt i ny with
   | false=>exact .tree (.top _)
   | true =>
    cases hx with
    | tree hx=>cases hx
    | yld _ l hl=>exact .yld i l (by simp only [canonCx]; rw [if_pos (show i < ny from Nat.le_of_ble_eq_true hb)]; exact hl)
  | omap b =>
   obtain ⟨r,rfl,hN⟩ := hx.omap_inv
   simp only [canonAV]
   cases hb : Nat.blt b nm with
   | false=>exact .tree (.top _)
   | true=>exact .omap b r (by simp only [canonCx]; rw [if_pos (show b < nm from Nat.le_of_ble_eq_true hb)]; exact hN)
  | oiter b =>
   obtain ⟨r,rfl,hN⟩ := hx.oiter_inv
   simp only [canonAV]
   cases hb : Nat.blt b nm with
   | false=>exact .tree (.top _)
   | true=>exact .oiter b r (by simp only [canonCx]; rw [if_pos (show b < nm from Nat.le_of_ble_eq_true hb)]; exact hN)
  | aslice b ver idx sub es len =>
   simp only [canonAV]
   cases hb : Nat.blt b nb with
   | false=>exact .tree (.top _)
   | true =>
    simp only [cond_true]
    split
    ·rename_i kk hk
     obtain ⟨hkb,hkv⟩ := block_some hk
     obtain ⟨oi,hO,hle,h1,hv'⟩ := hx.aslice_inv
     have hB := h.blk b kk oi hkb hO
     exact .aslice _ _ _ _ _ _ _ { oi with ver := 0 } (by simp only [canonCx]; rw [if_pos (show b < nb from Nat.le_of_ble_eq_true hb),hO]) (Nat.le_refl _) h1 fun _=>hv' (by rw [hB.ver,hkv])
    ·exact .tree (.top _)
  | optr b ver idx sub =>
   simp only [canonAV]
   cases hb : Nat.blt b nb with
   | false=>exact .tree (.top _)
   | true =>
    simp only [cond_true]
    split
    ·rename_i kk hk
     obtain ⟨hkb,hkv⟩ := block_some hk
     obtain ⟨oi,hO,hle,h1,hv'⟩ := hx.optr_inv
     have hB := h.blk b kk oi hkb hO
     exact .optr _ _ _ _ _ { oi with ver := 0 } (by simp only [canonCx]; rw [if_pos (show b < nb from Nat.le_of_ble_eq_true hb),hO]) (Nat.le_refl _) h1 fun _=>hv' (by rw [hB.ver,hkv])
    ·exact .tree (.top _)
  | oslice b ver off len cap =>
   simp only [canonAV]
   cases hb : Nat.blt b nb with
   | false=>exact .tree (.top _)
   | true =>
    simp only [cond_true]
    split
    ·rename_i kk hk
     obtain ⟨hkb,hkv⟩ := block_some hk
     obtain ⟨oi,hO,hle,h1,hv'⟩ := hx.oslice_inv
     have hB := h.blk b kk oi hkb hO
     exact .oslice _ _ _ _ _ _ { oi with ver := 0 } (by simp only [canonCx]; rw [if_pos (show b < nb from Nat.le_of_ble_eq_true hb),hO]) (Nat.le_refl _) h1 fun _=>hv' (by rw [hB.ver,hkv])
    ·exact .tree (.top _)

theorem look_keep (f : Nat → AV) : ∀ (keep : List Nat) (t : Nat),look (keep.map fun t=>(t,f t)) t = f t ∨ look (keep.map fun t=>(t,f t)) t = .top
 | [],t=>.inr rfl
 | k :: r,t=>by
  simp only [List.map_cons,look]
  cases hb : Nat.beq k t with
  | true=>have := Nat.eq_of_beq_eq_true hb; subst this; exact .inl rfl
  | false=>exact look_keep f r t

theorem look_map (f : AV → AV) : ∀ (l : List (Nat × AV)) (t : Nat),look (l.map fun p=>(p.1,f p.2)) t = f (look l t) ∨ look (l.map fun p=>(p.1,f p.2)) t = .top
 | [],t=>.inr rfl
 | (k,x) :: r,t=>by
  simp only [List.map_cons,look]
  cases hb : Nat.beq k t with
  | true=>exact .inl rfl
  | false=>exact look_map f r t

theorem SR.canon (h : SR P F w0 q s a w c) (keep : List Nat) (nb nm ny : Nat) (h1 : ∀ i l rc,F.rc = some (i,l,rc) → i < ny) (h2 : ∀ x ∈ F.G,∀ i,x.2.2 = some i → i < ny) : SR P F w0 q (canon keep nb nm ny s) a w (canonCx c nb nm ny) := by
 have hcO : ∀ b oi',(canonCx c nb nm ny).O b = some oi' → b < nb ∧ ∃ oi,c.O b = some oi ∧ oi' = { oi with ver := 0 } := fun b oi' hb=>by
  simp only [canonCx] at hb
  split at hb
  ·rename_i hlt
   split at hb
   ·rename_i oi hO; exact ⟨hlt,oi,hO,(Option.some.inj hb).symm⟩
   ·cases hb
  ·cases hb
 have hcN : ∀ b r,(canonCx c nb nm ny).N b = some r → b < nm ∧ c.N b = some r := fun b r hb=>by
  simp only [canonCx] at hb
  split at hb
  ·rename_i hlt; exact ⟨hlt,hb⟩
  ·cases hb
 have hcy : ∀ i l,(canonCx c nb nm ny).y i = some l → i < ny ∧ c.y i = some l := fun b r hb=>by
  simp only [canonCx] at hb
  split at hb
  ·rename_i hlt; exact ⟨hlt,hb⟩
  ·cases hb
 have hyc : ∀ i l,i < ny → c.y i = some l → (canonCx c nb nm ny).y i = some l := fun i l hi hl=>by simp only [canonCx]; rw [if_pos hi]; exact hl
 refine ⟨⟨⟨fun b k' oi' hk hO=>?_,fun b b' o1 o2 h1 h2 hne=>?_,fun b oi' hO hc=>?_,h.hr.st,fun b m r hm hN=>?_,fun b r hN=>?_,fun b b' r h1 h2=>?_,fun b i oi' r hO hc hN=>?_⟩,⟨fun b oi' hO hc hp=>?_,fun b r hN hp=>?_⟩,fun b oi' hb=>?_,fun b r hb=>?_,
  fun i l hl=>(hcy i l hl).1,h.below,h.pq,fun t=>?_,fun x hx=>?_,fun i l rc hrc=>?_,h.gok⟩,fun t=>?_,h.size,h.defers⟩
 ·obtain ⟨hlt,oi,hO',rfl⟩ := hcO b oi' hO
  simp only [Tr.canon,List.getElem?_map,List.getElem?_take,if_pos hlt] at hk
  cases hk0 : s.hp.blocks[b]? with
  | none=>rw [hk0] at hk; cases hk
  | some k =>
   rw [hk0] at hk
   simp only [Option.map_some,Option.some.injEq] at hk
   subst hk
   have hB := h.hr.blk b k oi hk0 hO'
   unfold canonB
   cases hf : k.flat with
   | true =>
    simp only [cond_true]
    refine ⟨hB.n,hB.es,rfl,hB.le,hB.row,hB.el,fun i j x v hi hx hv=>?_⟩
    have := (hB.rel i j x v hi hx hv).2 hf
    exact ⟨.tree this,fun _=>this⟩
   | false =>
    simp only [cond_false]
    refine ⟨hB.n,hB.es,rfl,hB.le,hB.row,fun i hi=>by simpa using hB.el i hi,fun i j x v hi hx hv=>?_⟩
    rw [List.getElem?_map] at hx
    cases hy : (k.f i)[j]? with
    | none=>rw [hy] at hx; cases hx
    | some y =>
     rw [hy] at hx
     simp only [Option.map_some,Option.some.injEq] at hx
     subst hx
     exact ⟨canonAV_ok h.hr nb nm ny 5 (hB.rel i j y v hi hy hv).1,fun hff=>by cases hff⟩
 ·obtain ⟨_,o1',g1,rfl⟩ := hcO b o1 h1
  obtain ⟨_,o2',g2,rfl⟩ := hcO b' o2 h2
  exact h.hr.sep b b' o1' o2' g1 g2 hne
 ·obtain ⟨_,oi,g,rfl⟩ := hcO b oi' hO
  exact h.hr.own b oi g hc
 ·obtain ⟨hlt,hN'⟩ := hcN b r hN
  simp only [Tr.canon,List.getElem?_take,if_pos hlt] at hm
  exact ⟨(h.hr.maps b m r hm hN').ex,fun seen hs=>⟨((h.hr.maps b m r hm hN').it seen hs).ex⟩⟩
 ·exact h.hr.mown b r (hcN b r hN).2
 ·exact h.hr.msep b b' r (hcN b r h1).2 (hcN b' r h2).2
 ·obtain ⟨_,oi,g,rfl⟩ := hcO b oi' hO
  exact h.hr.bm b i oi r g hc (hcN i r hN).2
 ·obtain ⟨hlt,oi,g,rfl⟩ := hcO b oi' hO
  obtain ⟨k,hk,hr⟩ := h.ro.b b oi g hc hp
  refine ⟨_,by simp only [Tr.canon,List.getElem?_map,List.getElem?_take,if_pos hlt,hk]; rfl,?_⟩
  unfold canonB
  cases k.flat <;> exact hr
 ·obtain ⟨hlt,g⟩ := hcN b r hN
  obtain ⟨k,hk,hr⟩ := h.ro.m b r g hp
  exact ⟨k,by simp only [Tr.canon,List.getElem?_take,if_pos hlt,hk],hr⟩
 ·obtain ⟨hlt,oi,g,rfl⟩ := hcO b oi' hb
  have := h.hi b oi g
  simp [Tr.canon]; omega
 ·obtain ⟨hlt,g⟩ := hcN b r hb
  have := h.hiM b r g
  simp [Tr.canon]; omega
 ·show VR P w (canonCx c nb nm ny) (look (s.sv.map fun p=>(p.1,canonAV s.hp nb nm ny 5 p.2)) t) _
  rcases look_map (canonAV s.hp nb nm ny 5) s.sv t with g | g
  ·rw [g]; exact canonAV_ok h.hr nb nm ny 5 (h.sv t)
  ·rw [g]; exact .tree (.top _)
 ·obtain ⟨g1,g2,g3,g4⟩ := h.keep x hx
  exact ⟨g1,g2,g3,fun i hi=>hyc i _ (h2 x hx i hi) (g4 i hi)⟩
 ·obtain ⟨g1,g2,g3,g4⟩ := h.rcd i l rc hrc
  exact ⟨hyc i l (h1 i l rc hrc) g1,g2,g3,g4⟩
 ·rcases look_keep (fun t=>canonAV s.hp nb nm ny 5 (look s.tm t)) keep t with g | g
  ·show VR P w (canonCx c nb nm ny) (look (keep.map fun t=>(t,canonAV s.hp nb nm ny 5 (look s.tm t))) t) _
   rw [g]; exact canonAV_ok h.hr nb nm ny 5 (h.tm t)
  ·show VR P w (canonCx c nb nm ny) (look (keep.map fun t=>(t,canonAV s.hp nb nm ny 5 (look s.tm t))) t) _
   rw [g]; exact .tree (.top _)

theorem SR.redescribe (h : SR P F w0 q s a w c) {b : Nat} {k k' : AB} (hk : s.hp.blocks[b]? = some k) (hro : k'.ro = k.ro) (hB : ∀ oi,c.O b = some oi → BR P w c k' oi) : SR P F w0 q { s with hp := s.hp.setB b k' } a w c := by
 refine ⟨⟨⟨fun b2 k2 oi hk2 hO=>?_,h.hr.sep,h.hr.own,h.hr.st,h.hr.maps,h.hr.mown,h.hr.msep,h.hr.bm⟩,⟨fun b2 oi hO hc hp=>?_,h.ro.m⟩,fun b2 oi hb=>by have := h.hi b2 oi hb; simp [Hp.setB,setNth_eq]; exact this,h.hiM,h.hy,h.below,h.pq,h.sv,h.keep,h.rcd,h.gok⟩,h.tm,h.size,h.defers⟩
 ·rcases set_get hk2 with ⟨rfl,rfl⟩ | ⟨_,hk2'⟩
  ·exact hB oi hO
  ·exact h.hr.blk b2 k2 oi hk2' hO
 ·obtain ⟨k2,hk2,hr2⟩ := h.ro.b b2 oi hO hc hp
  by_cases hb : b2 = b
  ·subst hb
   rw [hk] at hk2; cases hk2
   have hl := (List.getElem?_eq_some_iff.1 hk).1
   exact ⟨k',by simp only [Hp.setB,setNth_eq]; rw [List.getElem?_set_self hl],by rw [hro,hr2]⟩
  ·exact ⟨k2,by simp only [Hp.setB,setNth_eq]; rw [List.getElem?_set_ne (fun e=>hb e.symm)]; exact hk2,hr2⟩

theorem SR.empty (h : SR P F w0 q s a w c) (es : Nat) : ∃ c',SR P F w0 q { s with hp := s.hp.addB { es,len := 0,f := fun _=>[] } } a w c' ∧ (∀ x v,VR P w c x v → VR P w c' x v) ∧
  ∀ b,VR P w c' (.oslice s.hp.blocks.length 0 0 0 none) (.slice b 0 0) := by
 have hfree : c.O s.hp.blocks.length = none := by
  cases hO : c.O s.hp.blocks.length with
  | none=>rfl
  | some oi=>have := h.hi _ oi hO; omega
 have hq := qout_block (w' := w) h.hr h.base (Below.refl _ _) hfree (k := { es,len := 0,f := fun _=>[] }) (oi := ⟨0,0,0,es,0,0⟩) (fun hc=>absurd rfl hc)
  (fun ex=>⟨rfl,rfl,rfl,Nat.le_refl _,fun hc=>absurd rfl hc,fun i hi=>by simp at hi,fun i j y v hi=>by simp at hi⟩)
 refine ⟨_,h.quiet hq ⟨rfl,rfl⟩ (d := none) rfl (u := undef) (.tree (.top _)),fun x v hx=>hx.mono hq.ext,fun b=>.oslice _ _ _ _ _ _ _ (addO_self _ _ _) (Nat.le_refl _) rfl fun _=>⟨by simp,b,0,rfl,Nat.le_refl _,by simp,by simp,fun hc=>absurd rfl hc,fun cp hcp=>by cases hcp⟩⟩

theorem eslice_inv {v : Value} (h : VR P w c .eslice v) : ∃ b,v = .slice b 0 0 := by
 cases h with
 | tree h=>cases h with
  | eslice b=>exact ⟨b,rfl⟩

theorem look_forget (l : List Nat) : ∀ (sv : List (Nat × AV)) (i : Nat),look (sv.filter fun p=>!hasNat l p.1) i = look sv i ∨ look (sv.filter fun p=>!hasNat l p.1) i = .top
 | [],i=>.inl rfl
 | (k, x) :: r, i => by
  have ih := look_forget l r i
  rw [List.filter_cons]
  cases hk : hasNat l k with
  | true =>
   simp only [Bool.not_true,Bool.false_eq_true,if_false,look]
   cases hb : Nat.beq k i with
   | true =>
    have e := Nat.eq_of_beq_eq_true hb
    subst e
    refine .inr ?_
    clear ih hb
    induction r with
    | nil=>rfl
    | cons y r ih2 =>
     rw [List.filter_cons]
     cases hy : hasNat l y.1 with
     | true=>simpa [hy] using ih2
     | false =>
      simp only [Bool.not_false,if_true,look]
      cases hb : Nat.beq y.1 k with
      | true =>
       have e := Nat.eq_of_beq_eq_true hb
       rw [e,hk] at hy; cases hy
      | false=>exact ih2
   | false=>exact ih
  | false =>
   simp only [Bool.not_false,if_true,look]
   cases hb : Nat.beq k i with
   | true=>exact .inl rfl
   | false=>exact ih

theorem rowRefs_lt (hp : Hp) : ∀ l : List AV,(∀ i ∈ (rowRefs hp l).1,i < hp.blocks.length) ∧ (∀ i ∈ (rowRefs hp l).2,i < hp.maps.length)
 | []=>⟨fun _ h=>(by cases h),fun _ h=>(by cases h)⟩
 | x :: r=>by
  have h1 := refs_lt (hp := hp) 5 x
  have h2 := rowRefs_lt hp r
  exact ⟨fun i hi=>(List.mem_append.1 hi).elim (h1.1 i) (h2.1 i),fun i hi=>(List.mem_append.1 hi).elim (h1.2 i) (h2.2 i)⟩
theorem fzRow_len (hp : Hp) : ∀ l : List AV,(fzRow hp l).length = l.length
  | []=>rfl
  | x :: r=>congrArg (· + 1) (fzRow_len hp r)
theorem fzRow_get (hp : Hp) : ∀ (l : List AV) (j : Nat) (y : AV),(fzRow hp l)[j]? = some y → ∃ x,l[j]? = some x ∧ y = fz hp x ∧ (∀ i ∈ (refs hp 5 x).1,i ∈ (rowRefs hp l).1) ∧ (∀ i ∈ (refs hp 5 x).2,i ∈ (rowRefs hp l).2)
 | [],j,y,h=>by simp [fzRow] at h
 | x :: r,0,y,h=>by
  have h : some (fz hp x) = some y := h
  cases h
  exact ⟨x,rfl,rfl,fun i hi=>List.mem_append_left _ hi,fun i hi=>List.mem_append_left _ hi⟩
 | x :: r,j + 1,y,h=>by
  obtain ⟨z,h1,h2,h3,h4⟩ := fzRow_get hp r j y h
  exact ⟨z,h1,h2,fun i hi=>List.mem_append_right _ (h3 i hi),fun i hi=>List.mem_append_right _ (h4 i hi)⟩

theorem SR.prep1 (h : SR P F w0 q s a w c) (p : Prep) : ∃ c', SR P F w0 q (prep1 s p) a w c' := by
 unfold Tr.prep1
 cases p with
 | slot t es =>
  simp only
  split
  ·rename_i ht
   obtain ⟨c',g1,g2,g3⟩ := h.empty es
   have hv := h.tm t
   rw [ht] at hv
   obtain ⟨b,hb⟩ := eslice_inv hv
   exact ⟨c',g1.known (t := t) (x := .oslice s.hp.blocks.length 0 0 0 none) (by rw [hb]; exact g3 b)⟩
  ·exact ⟨c,h⟩
 | cell b sub es =>
  simp only
  split
  ·rename_i k hk
   split
   ·rename_i hlen hcell
    rw [nth?_eq] at hk hcell
    obtain ⟨c',g1,g2,g3⟩ := h.empty es
    have hlt := (List.getElem?_eq_some_iff.1 hk).1
    have hk' : ({ s with hp := s.hp.addB { es,len := 0,f := fun _=>[] } } : St).hp.blocks[b]? = some k := by
     show (s.hp.blocks ++ [_])[b]? = some k
     rw [List.getElem?_append_left hlt]; exact hk
    have := g1.redescribe hk' (k' := { k with f := fun _=>splice (k.f 0) sub [.oslice s.hp.blocks.length 0 0 0 none],flat := false }) rfl fun oi hO=>?_
    ·refine ⟨c',?_⟩
     have e : ({ s with hp := (s.hp.addB { es,len := 0,f := fun _=>[] }).setB b { k with f := fun _=>splice (k.f 0) sub [.oslice s.hp.blocks.length 0 0 0 none],flat := false } } : St) =
       { s with hp := (s.hp.setB b { k with f := fun _=>splice (k.f 0) sub [.oslice s.hp.blocks.length 0 0 0 none],flat := false }).addB { es,len := 0,f := fun _=>[] } } := by
      simp only [Hp.addB,Hp.setB,setNth_eq,List.set_append_left _ _ hlt]
     rw [← e]; exact this
    ·have hB := g1.hr.blk b k oi hk' hO
     refine ⟨hB.n,hB.es,hB.ver,hB.le,hB.row,fun i hi=>?_,fun i j x v hi hx hv=>⟨?_,fun hf=>by cases hf⟩⟩
     ·have hi0 : i < k.len := hi
      have : i = 0 := by omega
      subst this
      rw [splice_length]; exact hB.el 0 hi
     ·have hi0 : i < k.len := hi
      have : i = 0 := by omega
      subst this
      have hj : j < (k.f 0).length := by have := (List.getElem?_eq_some_iff.1 hx).1; rwa [splice_length] at this
      rw [splice_get _ _ _ _ hj] at hx
      split at hx
      ·rename_i hc
       simp at hc
       have hjs : j = sub := by omega
       subst hjs
       simp at hx
       subst hx
       obtain ⟨g,_⟩ := hB.rel 0 j .eslice v hi hcell hv
       obtain ⟨bb,hbb⟩ := eslice_inv g
       rw [hbb]; exact g3 bb
      ·exact (hB.rel 0 j x v hi hx hv).1
   ·exact ⟨c,h⟩
  ·exact ⟨c,h⟩
 | freeze t =>
  have hv := h.tm t
  have hz := freeze_ok h.hr 5 hv
  have hq := qout_shared h.hr (Below.refl _ w) (bs := (refs s.hp 5 (look s.tm t)).1) (ms := (refs s.hp 5 (look s.tm t)).2) (refs_lt 5 _).1 (refs_lt 5 _).2
  have h1 := h.quiet hq ⟨rfl,rfl⟩ (d := none) rfl (v := .top) (u := undef) (.tree (.top _))
  exact ⟨_,h1.known (t := t) (x := fz s.hp (look s.tm t)) (.tree (hz.weaken fun b hb=>.inl hb))⟩
 | fzb b =>
  simp only
  split
  ·rename_i k hk
   split
   ·rename_i hlen
    generalize hrr : rowRefs s.hp (k.f 0) = rr
    obtain ⟨bs,ms⟩ := rr
    simp only
    cases hcb : hasNat bs b with
    | true=>exact ⟨c,h⟩
    | false =>
     rw [nth?_eq] at hk
     have hlt := rowRefs_lt s.hp (k.f 0)
     rw [hrr] at hlt
     have hq := qout_shared h.hr (Below.refl _ w) (bs := bs) (ms := ms) hlt.1 hlt.2
     have h1 := h.quiet hq ⟨rfl,rfl⟩ (d := none) rfl (v := .top) (u := undef) (.tree (.top _))
     have hk' : (roB bs 0 s.hp.blocks)[b]? = some k := by
      rw [roB_get,hk]
      simp [hcb]
     refine ⟨_,h1.redescribe (b := b) (k := k) (k' := { k with f := fun _=>fzRow s.hp (k.f 0),flat := true }) hk' rfl fun oi hO=>?_⟩
     have hB1 := h1.hr.blk b k oi hk' hO
     have hB0 := h.hr.blk b k oi hk hO
     refine ⟨hB1.n,hB1.es,hB1.ver,hB1.le,hB1.row,fun i hi=>?_,fun i j x v hi hx hv=>?_⟩
     ·have hi0 : i < k.len := hi
      have : i = 0 := by omega
      subst this
      show (fzRow s.hp (k.f 0)).length = _
      rw [fzRow_len]; exact hB1.el 0 hi0
     ·have hi0 : i < k.len := hi
      have : i = 0 := by omega
      subst this
      obtain ⟨y,g1,rfl,g3,g4⟩ := fzRow_get s.hp (k.f 0) j x hx
      rw [hrr] at g3 g4
      obtain ⟨e1,_⟩ := hB0.rel 0 j y v hi0 g1 hv
      have hz := (freeze_ok h.hr 5 e1).weaken (p' := fun b=>qOf c (bs,ms) b ∨ (w.heap.size ≤ b ∧ b < w.heap.size)) fun b hb=>.inl (qOf_mono g3 g4 hb)
      exact ⟨.tree hz,fun _=>hz⟩
   ·exact ⟨c,h⟩
  ·exact ⟨c,h⟩
 | fzl b bs0 =>
  simp only
  split
  ·rename_i k hk
   generalize hbb : (bs0.filter fun i=>Nat.blt i s.hp.blocks.length) = bs
   have hlt : ∀ i ∈ bs,i < s.hp.blocks.length := fun i hi=>by
    rw [← hbb] at hi
    have := (List.mem_filter.1 hi).2
    simpa using this
   cases hcb : hasNat bs b with
   | true=>exact ⟨c,h⟩
   | false =>
    rw [nth?_eq] at hk
    have hq := qout_shared h.hr (Below.refl _ w) (bs := bs) (ms := []) hlt (fun i hi=>by cases hi)
    have h1 := h.quiet hq ⟨rfl,rfl⟩ (d := none) rfl (v := .top) (u := undef) (.tree (.top _))
    have hk' : (roB bs 0 s.hp.blocks)[b]? = some k := by
     rw [roB_get,hk]
     simp [hcb]
    refine ⟨_,h1.redescribe (b := b) (k := k) (k' := { k with f := fun i=>(k.f i).map (fzIn bs s.hp),flat := true }) hk' rfl fun oi hO=>?_⟩
    have hB1 := h1.hr.blk b k oi hk' hO
    have hB0 := h.hr.blk b k oi hk hO
    refine ⟨hB1.n,hB1.es,hB1.ver,hB1.le,hB1.row,fun i hi=>?_,fun i j x v hi hx hv=>?_⟩
    ·show ((k.f i).map _).length = _
     rw [List.length_map]; exact hB1.el i hi
    ·have hx : ((k.f i).map (fzIn bs s.hp))[j]? = some x := hx
     rw [List.getElem?_map] at hx
     obtain ⟨y,g1,rfl⟩ := Option.map_eq_some_iff.1 hx
     obtain ⟨e1,_⟩ := hB0.rel i j y v hi g1 hv
     have hz : VT P w (fun b=>qOf c (bs,[]) b ∨ (w.heap.size ≤ b ∧ b < w.heap.size)) (fzIn bs s.hp y) v := by
      have hf := freeze_ok h.hr 5 e1
      unfold fzIn
      generalize refs s.hp 5 y = rr at hf
      obtain ⟨ra,rm⟩ := rr
      simp only
      cases hc : (ra.all (hasNat bs) && rm.isEmpty) with
      | false=>exact .top _
      | true =>
       simp only [cond_true]
       rw [Bool.and_eq_true] at hc
       refine hf.weaken fun b hb=>.inl (qOf_mono (fun i hi=>?_) (fun i hi=>?_) hb)
       ·exact hasNat_iff.1 (List.all_eq_true.1 hc.1 i hi)
       ·have := List.isEmpty_iff.1 hc.2
        simp only at hi
        rw [this] at hi; cases hi
     exact ⟨.tree hz,fun _=>hz⟩
  ·exact ⟨c,h⟩
 | uncap t =>
  simp only
  split
  ·rename_i b ver off len cp ht
   have hv := h.tm t
   rw [ht] at hv
   refine ⟨c,h.known (t := t) (x := .oslice b ver off len none) ?_⟩
   cases hv with
   | oslice _ _ _ _ _ _ oi hO hle h1c hv =>
    refine .oslice _ _ _ _ _ _ oi hO hle h1c fun hh=>?_
    obtain ⟨g1,a,k,g2,g3,g4,g5,g6,_⟩ := hv hh
    exact ⟨g1,a,k,g2,g3,g4,g5,g6,fun _ hc=>by cases hc⟩
   | tree hv=>cases hv
  ·exact ⟨c,h⟩
 | forget l =>
  refine ⟨c,⟨{ h.toHS with sv := fun i=>?_ },h.tm,h.size,h.defers⟩⟩
  rcases look_forget l s.sv i with e | e
  ·rw [e]; exact h.sv i
  ·rw [e]; exact .tree (.top _)

theorem SR.prep : ∀ (l : List Prep) {s : St} {c : Cx},SR P F w0 q s a w c → ∃ c',SR P F w0 q (prep s l) a w c'
 | [],s,c,h=>⟨c,h⟩
 | p :: r,s,c,h=>by
  obtain ⟨c',h'⟩ := h.prep1 p
  exact SR.prep r h'
end

theorem prep1_keep (s : St) (p : Prep) : (prep1 s p).hp.ny = s.hp.ny ∧ (prep1 s p).hp.jump = s.hp.jump := by
 unfold prep1
 repeat' split
 all_goals first
  | exact ⟨rfl,rfl⟩
  | (simp only [Bool.cond_eq_ite]; split <;> exact ⟨rfl,rfl⟩)
theorem prep_keep : ∀ (l : List Prep) (s : St),(prep s l).hp.ny = s.hp.ny ∧ (prep s l).hp.jump = s.hp.jump
 | [],s=>⟨rfl,rfl⟩
 | p :: r,s=>by
  have h1 := prep1_keep s p
  have h2 := prep_keep r (prep1 s p)
  exact ⟨h2.1.trans h1.1,h2.2.trans h1.2⟩

theorem wp_loop_rel {P : Program} {F : Fence} {n : Nat} {Q : Exit → Act → World → Prop} {c : Code} (I : Nat → Act → World → Prop) {m : Nat} {a : Act} {w : World} (h₀ : I m a w)
  (round : ∀ m a w,I m a w → c.wpIn F n P (Exit.then (fun a' w'=>∃ m',m' < m ∧ I m' a' w') Q) a w) : (Code.loop c).wpIn F n P Q a w := by
 intro b k cs hro hb hr
 have key : ∀ m a w,I m a w → ∃ e a' w',Q e a' w' ∧ ArrivesIn (Machine.fenced P F) P (lone (b.atR a (.code c :: .inLoop c :: k)) cs w) b k cs e a' w' := by
  intro m
  induction m using Nat.strongRecOn with
  | _ m ih =>
   intro a w hI
   obtain ⟨e,a₁,w₁,hq,harr⟩ := round m a w hI b (.inLoop c :: k) cs hro hb hr
   cases e with
   | normal =>
    obtain ⟨m',hlt,hI₁⟩ := hq
    obtain ⟨e₂,a₂,w₂,hq₂,harr₂⟩ := ih m' hlt a₁ w₁ hI₁
    exact ⟨e₂,a₂,w₂,hq₂,.of_steps (StepsIn.trans harr (.one (fenced_calm hb hr rfl) stepR_inLoop)) harr₂⟩
   | exit id=>exact ⟨_,a₁,w₁,hq,.pass (x := .inLoop c) rfl (fun _ _=>.inl (by simp)) harr⟩
   | goto l=>exact ⟨_,a₁,w₁,hq,.pass (x := .inLoop c) rfl (fun _ _=>.inl (by simp)) harr⟩
   | ret=>exact ⟨_,a₁,w₁,hq,.pass (x := .inLoop c) rfl (fun _ _=>.inl (by simp)) harr⟩
   | panic ch=>exact ⟨_,a₁,w₁,hq,.pass (x := .inLoop c) rfl (fun _ _=>.inl (by simp)) harr⟩
   | outgrown=>exact ⟨_,a₁,w₁,hq,.pass (x := .inLoop c) rfl (fun _ _=>.inl (by simp)) harr⟩
 obtain ⟨e,a',w',hq,harr⟩ := key m a w h₀
 exact ⟨e,a',w',hq,.of_steps (.one (fenced_calm hb hr rfl) stepR_loop) harr⟩
end Go.Tr

/- The weakest precondition holds what it promises: Code, bodies, contracts. Conditions: regions that draw are taken as a premise here. -/
namespace Go.Tr
open Go Go.RowKit

variable [GTab]

def toExit : Ex → Exit
 | .normal=>.normal
 | .exit id=>.exit id
 | .ret=>.ret

def DrawnOk (P : Program) (T : Nat → Option TI) : Prop :=
 (∀ (F : Fr) (E : Env) (w0 : World) (q : Nat → Prop) (id : Nat) (ops : Array Oper) (K : St → Prop) (Q : Exit → Act → World → Prop) (s : St) (a : Act) (w : World) (c : Cx) (gl : List (Nat × Nat)),(∀ f args r fr,E.S f args r fr → Sound1 P f args r fr) → drawOk gl ops = true →
  (∀ s' a' w' c',SR P F w0 q s' a' w' c' → K s' → Q .normal a' w') → SR P F w0 q s a w c → opsW E.plain T F.n (gateSt gl (arr gl ops)) (arr gl ops) K 0 (arr gl ops).toList s → (Code.region id ops true).wpIn (FR F.r) 0 P Q a w) ∧
 (∀ (F : Fr) (E : Env) (w0 : World) (q : Nat → Prop) (id : Nat) (ops : Array Oper) (K : St → Prop) (Q : Exit → Act → World → Prop) (s : St) (a : Act) (w : World) (c : Cx) (gl : List (Nat × Nat)) (cut : Nat),(∀ f args r fr,E.S f args r fr → Sound1 P f args r fr) → (tailOk cut ops && drawOk gl (preOps cut ops)) = true →
  (∀ s' a' w' c',SR P F w0 q s' a' w' c' → K s' → wpOpsIn (FR F.r) 0 P ops Q (List.range' cut (ops.size - cut)) a' w') → SR P F w0 q s a w c → opsW E.plain T F.n (gateSt gl (arr gl (preOps cut ops))) (arr gl (preOps cut ops)) K 0 (arr gl (preOps cut ops)).toList s → (Code.region id ops true).wpIn (FR F.r) 0 P Q a w) ∧
 ∀ (F : Fr) (id : Nat) (ops : Array Oper) (Q : Exit → Act → World → Prop) (a : Act) (w : World) (os : List (List Nat)),coverL ops.toList ops.size [] os = true → (∀ σ ∈ os,wpOpsIn (FR F.r) 0 P ops Q σ a { w with drawn := w.drawn + 1 }) → (Code.region id ops true).wpIn (FR F.r) 0 P Q a w

section
variable {P : Program} {T : Nat → Option TI}

def objCells : Obj → Bool
 | .cells ..=>true
 | _=>false

theorem VT.turn {w w' : World} {p : Nat → Prop} (h1 : ∀ a v,w.cell? a = some v → w'.cell? a = some v) (h2 : ∀ (r : Nat) es k,w.heap[r]? = some (.map es k) → w'.heap[r]? = some (.map es k)) {x : AV} {v : Value} (h : VT P w p x v) : VT P w' p x v := by
 induction h with
 | top v=>exact .top v
 | val v=>exact .val v
 | err t v=>exact .err t v
 | agg l vs hs ho _ ih=>exact .agg l vs hs ho ih
 | tuple l vs hs _ ih=>exact .tuple l vs hs ih
 | func fn nf l f0 vs h0 hs _ ih=>exact .func fn nf l f0 vs h0 hs ih
 | eslice a=>exact .eslice a
 | rslice0 es f a k=>exact .rslice0 es f a k
 | rslice es len f b off k g hk hpb hl hcell _ ih =>
  exact .rslice es len f b off k g hk hpb hl (fun i j hi hj=>⟨h1 _ _ (hcell i j hi hj).1,(hcell i j hi hj).2⟩) ih
 | cslice0 es c f a=>exact .cslice0 es c f a
 | cslice es len c f b off g hk hpb hl hcell _ ih =>
  exact .cslice es len c f b off g hk hpb hl (fun i j hi hj=>⟨h1 _ _ (hcell i j hi hj).1,(hcell i j hi hj).2⟩) ih
 | rptr l b off g hpb hcell _ ih=>exact .rptr l b off g hpb (fun j hj=>⟨h1 _ _ (hcell j hj).1,(hcell j hj).2⟩) ih
 | rmap ki et has get r es clock hpr hr hk _ _ ih0 ih=>exact .rmap ki et has get r es clock hpr (h2 _ _ _ hr) hk ih0 ih

theorem VR.turn {w w' : World} {c : Cx} (h1 : ∀ a v,w.cell? a = some v → w'.cell? a = some v) (h2 : ∀ (r : Nat) es k,w.heap[r]? = some (.map es k) → w'.heap[r]? = some (.map es k)) {x : AV} {v : Value} (h : VR P w c x v) : VR P w' c x v := by
 induction h with
 | tree h=>exact .tree (h.turn h1 h2)
 | agg l vs hs ho _ ih=>exact .agg l vs hs ho ih
 | tuple l vs hs _ ih=>exact .tuple l vs hs ih
 | func fn nf l f0 vs h0 hs _ ih=>exact .func fn nf l f0 vs h0 hs ih
 | optr b ver idx sub v oi hO hle h1c hv=>exact .optr b ver idx sub v oi hO hle h1c hv
 | oslice b ver off len cap v oi hO hle h1c hv=>exact .oslice b ver off len cap v oi hO hle h1c hv
 | omap b r hN=>exact .omap b r hN
 | yld i l hy=>exact .yld i l hy
 | oiter b r hN=>exact .oiter b r hN
 | aslice b ver idx sub es len v oi hO hle h1c hv=>exact .aslice b ver idx sub es len v oi hO hle h1c hv

theorem putObj_cell {w : World} {l : Nat} {o o' : Obj} (hl : w.heap[l]? = some o) (ho : objCells o = false) : ∀ a v,w.cell? a = some v → (w.putObj l o').cell? a = some v := by
 intro a v h
 have hne : a.block ≠ l := fun e=>by
  unfold World.cell? at h
  rw [e,hl] at h
  cases o <;> simp_all [objCells]
 rw [World.cell?_of_block (World.putObj_heap_other hne)]
 exact h

theorem putObj_block {w : World} {l : Nat} {o o' o2 : Obj} (hl : w.heap[l]? = some o) {r : Nat} (h : w.heap[r]? = some o2) (hne : o2 ≠ o) : (w.putObj l o').heap[r]? = some o2 := by
 rw [World.putObj_heap_other (fun e=>by subst e; rw [hl] at h; cases h; exact hne rfl)]
 exact h

theorem HS.turn {X : Nat → Value} {G G' : List (Nat × Obj × Option Nat)} {rc rc' : Option (Nat × Nat × RcT)} {w0 w : World} {q : Nat → Prop} {hp : Hp} {sv : List (Nat × AV)} {c : Cx} (h : HS P X G rc w0 q hp sv w c) {l : Nat} {o o' : Obj} (hl : w.heap[l]? = some o) (ho : objCells o = false) (hm : (∀ es k,o ≠ .map es k) ∧ ∀ a b s d,o ≠ .mapIter a b s d)
  (hb : w0.heap.size ≤ l) (hG : ∀ x ∈ G',c.p x.1 ∧ w0.heap.size ≤ x.1 ∧ (w.putObj l o').heap[x.1]? = some x.2.1 ∧ ∀ i,x.2.2 = some i → c.y i = some x.1)
  (hrc : ∀ i l' rc2,rc' = some (i,l',rc2) → c.y i = some l' ∧ c.p l' ∧ w0.heap.size ≤ l' ∧ (w.putObj l o').heap[l']? = some (.loop (recAt rc2 hp.jump))) : HS P X G' rc' w0 q hp sv (w.putObj l o') c := by
 have h1 := putObj_cell (o' := o') hl ho
 have h2 : ∀ (r : Nat) es k,w.heap[r]? = some (.map es k) → (w.putObj l o').heap[r]? = some (.map es k) := fun r es k hr=>putObj_block hl hr (fun e=>hm.1 es k e.symm)
 have h3 : ∀ (r : Nat) a b s d,w.heap[r]? = some (.mapIter a b s d) → (w.putObj l o').heap[r]? = some (.mapIter a b s d) := fun r a b s d hr=>putObj_block hl hr (fun e=>hm.2 a b s d e.symm)
 have hs : (w.putObj l o').heap.size = w.heap.size := by simp
 refine ⟨⟨fun b k oi hk hO=>?_,h.hr.sep,fun b oi hO hc=>by rw [hs]; exact h.hr.own b oi hO hc,fun b hb=>by rw [hs]; exact h.hr.st b hb,fun b m r hm hN=>?_,fun b r hN=>by rw [hs]; exact h.hr.mown b r hN,h.hr.msep,h.hr.bm⟩,h.ro,h.hi,h.hiM,h.hy,
  h.below.trans ⟨rfl,rfl,rfl,Nat.le_of_eq hs.symm,fun b hb'=>World.putObj_heap_other (by omega),Dr.refl _⟩,h.pq,fun i=>(h.sv i).turn h1 h2,hG,hrc,⟨fun g l hg=>⟨(h.gok.g g l hg).1.turn h1 h2,by obtain ⟨cs,t,a,hc,hz⟩ := (h.gok.g g l hg).2; exact ⟨cs,t,a,putObj_block hl hc (fun e=>by subst e; cases ho),hz⟩⟩,fun g hg=>⟨(h.gok.i g hg).1,by obtain ⟨m,t,a,hc⟩ := (h.gok.i g hg).2; exact ⟨m,t,a,putObj_block hl hc (fun e=>by subst e; cases ho)⟩⟩⟩⟩
 ·have hB := h.hr.blk b k oi hk hO
  have keep : oi.cap ≠ 0 → (w.putObj l o').heap[oi.blk]? = w.heap[oi.blk]? := fun hc=>by
   obtain ⟨cs,t,hrow,_⟩ := hB.row hc
   exact (putObj_block hl hrow (fun e=>by subst e; simp [objCells] at ho)).trans hrow.symm
  refine ⟨hB.n,hB.es,hB.ver,hB.le,fun hc=>by rw [keep hc]; exact hB.row hc,hB.el,fun i j x v hi hx hv=>?_⟩
  have hcap : oi.cap ≠ 0 := by have := hB.n; have := hB.le; omega
  rw [World.cell?_of_block (w := w) (a := ⟨oi.blk,_,none⟩) (keep hcap)] at hv
  obtain ⟨g1,g2⟩ := hB.rel i j x v hi hx hv
  exact ⟨g1.turn h1 h2,fun hf=>(g2 hf).turn h1 h2⟩
 ·have mapT : ∀ {ki et has get es clock},MapR P w c.p ki et has get es clock → MapR P (w.putObj l o') c.p ki et has get es clock := fun g=>⟨g.ek,fun key zv a b d=>(g.zero key zv a b d).turn h1 h2,fun e he=>(g.get e he).turn h1 h2⟩
  refine ⟨fun hi=>?_,fun seen hs=>?_⟩
  ·obtain ⟨es,clock,g1,g2⟩ := (h.hr.maps b m r hm hN).ex hi
   exact ⟨es,clock,h2 r es clock g1,mapT g2⟩
  ·obtain ⟨q',es,clock,since,sn,last,g1,g2,g3,g4,g5,g6,g7,g8,g9⟩ := ((h.hr.maps b m r hm hN).it seen hs).ex
   refine ⟨q',es,clock,since,sn,last,h3 _ _ _ _ _ g1,g2,h2 _ _ _ g3,mapT g4,g5,g6,g7,g8,?_⟩
   rcases g9 with g9 | ⟨e,he,hb,hv⟩
   ·exact .inl g9
   ·exact .inr ⟨e,he,hb,hv.turn h1 h2⟩

theorem bindP_ok {F : Fr} {w0 w : World} {q : Nat → Prop} {c : Cx} (vs : Array Value) : ∀ (l : List (Tmp × AV)) (ps : List Tmp) (us : List Value) (s : St) (a : Act),SR P F w0 q s a w c → l.map (·.1) = ps → ps.length = us.length → (∀ t ∈ ps,slotOk F.n (some t) = true) → (∀ (i : Nat) x u,l[i]? = some x → us[i]? = some u → VR P w c x.2 u) →
  SR P F w0 q (bindP l s) { a with tmps := (ps.zip us).foldl (fun tmps (t,u)=>tmps.setIfInBounds t u) a.tmps } w c
 | [],ps,us,s,a,h,hps,hlen,_,_=>by
  simp at hps
  subst hps
  exact h
 | (t, x) :: r, ps, us, s, a, h, hps, hlen, hok, hr => by
  obtain ⟨ps',rfl⟩ : ∃ ps',ps = t :: ps' := ⟨r.map (·.1),by simpa using hps.symm⟩
  cases us with
  | nil=>cases hlen
  | cons u us =>
   have hput := h.put (hok t (.head _)) (hr 0 (t,x) u rfl rfl)
   have := bindP_ok vs r ps' us (s.put (some t) x) (a.put (some t) u) hput (by simpa using hps) (by simpa using hlen) (fun t' ht=>hok t' (.tail _ ht)) (fun i y u' hy hu=>hr (i + 1) y u' (by simpa using hy) (by simpa using hu))
   exact this

theorem range_ok {w0 : World} {q : Nat → Prop} {F : Fr} {I : YT → FuncId → List AV → Nat → St → (AV → St → Prop) → Prop} (hI : IOk P I) (hr0 : F.r = none) {WA WB : (Ex → St → Prop) → St → Prop} {g : Operand} {ps : Array Tmp} {assign body : Code}
    (iha : ∀ F2 : Fr,F2.n = F.n → F2.rc = none → F2.r ≠ none → ∀ (Q' : Ex → St → Prop) (Q : Exit → Act → World → Prop) (s : St) (a : Act) (w : World) (c : Cx),(∀ e s' a' w' c',SR P F2 w0 q s' a' w' c' → Q' e s' → Q (toExit e) a' w') → SR P F2 w0 q s a w c → WA Q' s → assign.wpIn (FR F2.r) 0 P Q a w)
    (ihb : ∀ F2 : Fr,F2.n = F.n → F2.rc = none → F2.r ≠ none → ∀ (Q' : Ex → St → Prop) (Q : Exit → Act → World → Prop) (s : St) (a : Act) (w : World) (c : Cx),(∀ e s' a' w' c',SR P F2 w0 q s' a' w' c' → Q' e s' → Q (toExit e) a' w') → SR P F2 w0 q s a w c → WB Q' s → body.wpIn (FR F2.r) 0 P Q a w)
    {Q' : Ex → St → Prop} {Q : Exit → Act → World → Prop} {s : St} {a : Act} {w : World} {c : Cx} (hQ : ∀ e s' a' w' c',SR P F w0 q s' a' w' c' → Q' e s' → Q (toExit e) a' w') (h : SR P F w0 q s a w c) {f : FuncId} {nf : Nat} {cap : List AV} (hg : s.eval g = .func (.func f) nf cap)
    (hw : I (fun i m args s1 K => (Nat.beq i s.hp.ny && Nat.beq args.length ps.size && s1.hp.jump.isNone && ps.toList.all (fun t => Nat.blt t F.n)) = true ∧
          WA (fun e s2=>match e with
            | .normal => WB (fun e s3 => match e with
              | .normal=>K true { tm := popTm m s3.sv,hp := { s3.hp with jump := none },sv := popSv m s3.sv }
              | e=>K false { tm := popTm m s3.sv,hp := { s3.hp with jump := some e },sv := popSv m s3.sv }) s2
            | _=>False)
          (bindP (ps.toList.zip args) { tm := popTm F.n s1.sv,hp := s1.hp,sv := pushSv m s1.tm s1.sv }))
        f (cap.take nf ++ .yld s.hp.ny :: cap.drop nf) F.n { s with hp := { s.hp with jump := none,ny := s.hp.ny + 1 } }
        (fun _ s'=>match s'.hp.jump with
          | none=>Q' .normal { s' with hp := { s'.hp with jump := s.hp.jump } }
          | some e=>Q' e { s' with hp := { s'.hp with jump := s.hp.jump } })) : (Code.rangeFunc g ps assign body).wpIn (FR F.r) 0 P Q a w := by
  have hgv := eval_rel h.gok h.tm g
  rw [hg] at hgv
  obtain ⟨f0,cv,hgv',hf0,hcs,hcr⟩ := hgv.func_inv
  obtain ⟨ds,hd1,hd2,hd3⟩ := h.defers
  refine wpIn_rangeFunc fun fn _=>?_
  obtain ⟨rec,hrec⟩ : ∃ rec : RcT,rec = fun st pe=>{ state := st,pending := pe,fn,tmps := a.tmps,params := ps,assign,body,defers := w.heap.size } := ⟨_,rfl⟩
  obtain ⟨W1,hW1⟩ : ∃ W1,(w.alloc (.deferred (some []))).alloc (.loop (rec .ready none)) = W1 := ⟨_,rfl⟩
  have hL1 : W1.heap[w.heap.size + 1]? = some (.loop (rec .ready none)) := by
    rw [← hW1]; have := World.alloc_heap_new (w.alloc (.deferred (some []))) (.loop (rec .ready none)); rwa [World.size_alloc] at this
  have hK1 : W1.heap[w.heap.size]? = some (.deferred (some [])) := by
    rw [← hW1]; exact (Below.heap_alloc _ _ _ (by simp)).trans (World.alloc_heap_new w _)
  have hsz1 : W1.heap.size = w.heap.size + 2 := by rw [← hW1]; simp
  have hb1 : Below w.heap.size w W1 := by
    rw [← hW1]; exact ((Below.refl _ w).alloc (Nat.le_refl _) _).alloc (by simp) _
  have hbase := h.base
  have hq1 := qout_stable h.hr hb1 (fun b=>b = w.heap.size ∨ b = w.heap.size + 1) (fun b hb=>by rcases hb with rfl | rfl <;> omega)
  have h1 := h.quiet hq1 ⟨rfl,rfl⟩ (d := none) rfl (v := .top) (u := undef) (.tree (.top _))
  obtain ⟨c1,hc1⟩ : ∃ c1 : Cx,c1 = { c with p := fun b=>c.p b ∨ (b = w.heap.size ∨ b = w.heap.size + 1) } := ⟨_,rfl⟩
  rw [← hc1] at h1
  have hc1y : c1.y = c.y := by rw [hc1]
  have hc1p : ∀ b,c.p b → c1.p b := fun b hb=>by rw [hc1]; exact .inl hb
  have hpD : c1.p w.heap.size := by rw [hc1]; exact .inr (.inl rfl)
  have hpl : c1.p (w.heap.size + 1) := by rw [hc1]; exact .inr (.inr rfl)
  obtain ⟨c2,hc2⟩ : ∃ c2 : Cx,c2 = { c1 with y := fun i=>if i = s.hp.ny then some (w.heap.size + 1) else c1.y i } := ⟨_,rfl⟩
  have e2 : Ext w0.heap.size W1 c1 W1 c2 := by
    rw [hc2]
    exact ⟨Below.refl _ _,fun _ h=>h,fun _ _=>rfl,fun _ oi h=>⟨oi,h,Nat.le_refl _,fun _=>rfl⟩,fun _ _ h=>h,fun i l hi=>by
      have := h1.hy i l hi
      simp only
      rw [if_neg (by have : i < s.hp.ny := this; omega)]
      exact hi⟩
  have h2 : SR P F w0 q { s with hp := { s.hp with ny := s.hp.ny + 1 } } a W1 c2 := by
    refine ⟨⟨⟨fun b k oi hk hO=>(h1.hr.blk b k oi hk (by rw [hc2] at hO; exact hO)).mono e2 fun _=>rfl,?_,?_,?_,fun b m r hm hN=>(h1.hr.maps b m r hm (by rw [hc2] at hN; exact hN)).mono e2 rfl,?_,?_,?_⟩,?_,?_,?_,fun i l hi=>?_,h1.below,?_,fun i=>(h1.sv i).mono e2,fun x hx=>?_,fun i l rc' hrc=>?_,h1.gok.mono e2.p e2.pb⟩,
      fun t=>(h1.tm t).mono e2,h1.size,h1.moved e2⟩
    · rw [hc2]; exact h1.hr.sep
    · rw [hc2]; exact h1.hr.own
    · rw [hc2]; exact h1.hr.st
    · rw [hc2]; exact h1.hr.mown
    · rw [hc2]; exact h1.hr.msep
    · rw [hc2]; exact h1.hr.bm
    · rw [hc2]; exact ⟨h1.ro.b,h1.ro.m⟩
    · rw [hc2]; exact h1.hi
    · rw [hc2]; exact h1.hiM
    · rw [hc2] at hi
      simp only at hi ⊢
      split at hi
      · omega
      · have := h1.hy i l hi
        have : i < s.hp.ny := this
        omega
    · rw [hc2]; exact h1.pq
    · obtain ⟨g1,g2,g3,g4⟩ := h1.keep x hx
      exact ⟨e2.p _ g1,g2,g3,fun i hi=>e2.y _ _ (g4 i hi)⟩
    · obtain ⟨g1,g2,g3,g4⟩ := h1.rcd i l rc' hrc
      exact ⟨e2.y _ _ g1,e2.p _ g2,g3,g4⟩
  have hlt : ∀ D ∈ ds,D < w.heap.size := fun D hD=>h.hr.st D (hd3 D hD).1
  have hltG : ∀ x ∈ F.G,x.1 < w.heap.size := fun x hx=>h.hr.st _ (h.keep x hx).1
  have hfacts : ∀ D ∈ w.heap.size :: ds,c2.p D ∧ w0.heap.size ≤ D ∧ W1.heap[D]? = some (.deferred (some [])) := fun D hD=>by
    rcases List.mem_cons.1 hD with rfl | hD
    · exact ⟨e2.p _ hpD,hbase,hK1⟩
    · obtain ⟨p1,p2,p3,_⟩ := hd3 D hD
      exact ⟨e2.p _ (hc1p _ p1),p2,(hb1.block D (hlt D hD)).trans p3⟩
  have hne : ∀ D ∈ w.heap.size :: ds,∀ x ∈ F.G,x.1 ≠ D := fun D hD x hx=>by
    rcases List.mem_cons.1 hD with rfl | hD
    · have := hltG x hx; omega
    · exact (hd3 D hD).2.2.2 x hx
  have hnd : (w.heap.size :: ds).Nodup := List.nodup_cons.2 ⟨fun hm=>by have := hlt _ hm; omega,hd2⟩
  have h3 : SR P F w0 q { s with hp := { s.hp with ny := s.hp.ny + 1 } } { a with defers := markOf w.heap.size :: a.defers } W1 c2 :=
    ⟨h2.toHS,h2.tm,h2.size,w.heap.size :: ds,by simp [hd1],hnd,fun D hD=>by obtain ⟨p1,p2,p3⟩ := hfacts D hD; exact ⟨p1,p2,p3,hne D hD⟩⟩
  have hy2 : c2.y s.hp.ny = some (w.heap.size + 1) := by rw [hc2]; simp
  have hpush := h3.push (ds := w.heap.size :: ds) hfacts (rc' := some (s.hp.ny,w.heap.size + 1,rec)) (j := none) (fun i l rc hrc=>by
    simp only [Option.some.injEq,Prod.mk.injEq] at hrc
    obtain ⟨rfl,rfl,rfl⟩ := hrc
    exact ⟨hy2,e2.p _ hpl,by omega,hL1⟩)
  have hGlt : ∀ x ∈ gOf F (w.heap.size :: ds) s.hp.jump,x.1 < w.heap.size + 1 := fun x hx=>by
    unfold gOf at hx
    rcases List.mem_append.1 hx with hx | hx
    · rcases List.mem_append.1 hx with hx | hx
      · have := hltG x hx; omega
      · obtain ⟨D,hD,rfl⟩ := List.mem_map.1 hx
        rcases List.mem_cons.1 hD with rfl | hD
        · show w.heap.size < _; omega
        · have := hlt D hD; show D < _; omega
    · split at hx
      · rename_i i l rc hrcF
        rw [List.mem_singleton] at hx
        subst hx
        have := h.hr.st l (h.rcd i l rc hrcF).2.1
        show l < _; omega
      · cases hx
  -- the arguments
  have hcs' : f0.size + cv.size = cap.length := by simpa using hcs
  have hargs : ArgsR P W1 c2 (cap.take nf ++ .yld s.hp.ny :: cap.drop nf) (f0 ++ #[.func (.yield (w.heap.size + 1)) #[] #[]] ++ cv) := by
    refine ⟨by simp; omega,fun i x hi=>?_⟩
    have htl : (cap.take nf).length = f0.size := by simp; omega
    have e1 := hq1.ext
    have hm : ∀ {y : AV} {u : Value},VR P w c y u → VR P W1 c2 y u := fun hy=>by
      have hy1 := hy.mono e1
      rw [← hc1] at hy1
      exact hy1.mono e2
    simp only [Array.getD_eq_getD_getElem?] at hcr ⊢
    by_cases h1 : i < f0.size
    · rw [List.getElem?_append_left (by omega),List.getElem?_take,if_pos (by omega)] at hi
      have := hcr i x hi
      rw [Array.getElem?_append_left h1] at this
      rw [Array.append_assoc,Array.getElem?_append_left h1]
      exact hm this
    · rw [List.getElem?_append_right (by omega),htl] at hi
      rw [Array.append_assoc,Array.getElem?_append_right (by omega)]
      obtain ⟨k,rfl⟩ : ∃ k,i = f0.size + k := ⟨i - f0.size,by omega⟩
      rw [Nat.add_sub_cancel_left] at hi ⊢
      cases k with
      | zero =>
        simp only [List.getElem?_cons_zero,Option.some.injEq] at hi
        subst hi
        rw [Array.getElem?_append_left (by simp)]
        exact .yld _ _ hy2
      | succ k =>
        simp only [List.getElem?_cons_succ,List.getElem?_drop] at hi
        rw [Array.getElem?_append_right (by simp)]
        have := hcr _ x hi
        rw [Array.getElem?_append_right (by omega)] at this
        have e : nf + k - f0.size = k + 1 - (#[Value.func (.yield (w.heap.size + 1)) #[] #[]] : Array Value).size := by simp; omega
        rw [← e]
        exact hm this
  -- a round
  obtain ⟨hin,hcall⟩ := hI _ _ _ _ _ _ hw _ _ _ _ _ _ _ _ hpush hargs (by
    intro i m args s1 K hY a1 w1 cc1 vs l hs1 hvs hl
    obtain ⟨hchk,hY⟩ := hY
    simp only [Bool.and_eq_true] at hchk
    obtain ⟨⟨⟨k1,k2⟩,k3⟩,k4⟩ := hchk
    have k1 := Nat.eq_of_beq_eq_true k1
    have k2 := Nat.eq_of_beq_eq_true k2
    have k3 : s1.hp.jump = none := by simpa using k3
    subst k1
    obtain ⟨r1,r2,r3,r4⟩ := hs1.rcd _ _ _ rfl
    rw [hl] at r1
    obtain rfl : l = w.heap.size + 1 := by simpa using r1
    rw [k3] at r4
    have r4 : w1.heap[w.heap.size + 1]? = some (.loop (rec .ready none)) := r4
    obtain ⟨ds1,f1,f2,f3⟩ := hs1.defers
    have hsz : vs.size = ps.size := by rw [hvs.1,k2]
    have hy := run_yield (P := P) (args := vs) r4 (by rw [hrec]; exact hsz)
    refine ⟨_,_,_,_,hy,roundIn_of_wpIn trivial ?_⟩
    have hp1 := hs1.push (ds := ds1) (fun D hD=>by obtain ⟨p1,p2,p3,_⟩ := f3 D hD; exact ⟨p1,p2,p3⟩) (rc' := none) (j := s1.hp.jump) (fun i l rc hf=>by cases hf)
    -- the round's frame
    let F2 : Fr := ⟨F.n,stackX m a1 (stackX F.n { a with defers := markOf w.heap.size :: a.defers } F.X),some (w.heap.size + 1),gOf ⟨m,stackX F.n { a with defers := markOf w.heap.size :: a.defers } F.X,none,gOf F (w.heap.size :: ds) s.hp.jump,some (s.hp.ny,w.heap.size + 1,rec)⟩ ds1 s1.hp.jump,none⟩
    have hb0 : SR P F2 w0 q { tm := popTm F.n s1.sv,hp := s1.hp,sv := pushSv m s1.tm s1.sv } { tmps := a.tmps,defers := [] } w1 cc1 := by
      refine ⟨hp1,fun t=>?_,h.size,[],rfl,List.nodup_nil,fun D hD=>by cases hD⟩
      show VR P w1 cc1 (look (popTm F.n s1.sv) t) _
      rw [look_popTm]
      by_cases ht : t < F.n
      · rw [if_pos ht]
        have := hs1.sv t
        have : VR P w1 cc1 (look s1.sv t) (stackX F.n { a with defers := markOf w.heap.size :: a.defers } F.X t) := this
        unfold stackX at this
        rw [if_pos ht] at this
        exact this
      · rw [if_neg ht]; exact .tree (.top _)
    have hb2 := bindP_ok vs (ps.toList.zip args) ps.toList vs.toList _ _ hb0 (by rw [List.map_fst_zip]; simp [k2]) (by simp [hsz]) (fun t ht=>List.all_eq_true.1 k4 t ht) (fun i x u hx hu=>by
      have hx2 : args[i]? = some x.2 := by
        rw [List.getElem?_zip_eq_some] at hx
        exact hx.2
      have := hvs.2 i x.2 hx2
      have hu' : vs.getD i undef = u := by
        simp only [Array.getElem?_toList] at hu
        simp [hu]
      rwa [hu'] at this)
    have hfold : (ps.toList.zip vs.toList).foldl (fun tmps (t,u)=>tmps.setIfInBounds t u) a.tmps = (ps.zip vs).foldl (fun tmps (t,u)=>tmps.setIfInBounds t u) a.tmps := by
      rw [← Array.toList_zip,Array.foldl_toList]
    have hF2 : (F2.r) = some (w.heap.size + 1) := rfl
    have hgo := iha F2 rfl rfl (by simp [F2]) _ (Exit.then (fun a₁ w₁=>∃ w₂,(Instr.beginRound (w.heap.size + 1)).run P w₁ = .ok () w₂ ∧ body.wpIn ((FR none).inRound (w.heap.size + 1)) 0 P (roundPost P (w.heap.size + 1) fun e w'=>∃ b s' c',e = .returned (.bool b) ∧ SR P ⟨m,stackX F.n { a with defers := markOf w.heap.size :: a.defers } F.X,none,gOf F (w.heap.size :: ds) s.hp.jump,some (s.hp.ny,w.heap.size + 1,rec)⟩ w0 q s' a1 w' c' ∧ K b s') a₁ w₂) (fun _ _ _=>False)) _ _ w1 cc1 ?_ hb2 hY
    · rw [hfold] at hgo
      have er : (rec .ready none).tmps = a.tmps ∧ (rec .ready none).params = ps ∧ (rec .ready none).assign = assign ∧ (rec .ready none).body = body := by rw [hrec]; exact ⟨rfl,rfl,rfl,rfl⟩
      rw [er.1,er.2.1,er.2.2.1,er.2.2.2]
      exact hgo
    · intro e s2 a2 w2 cc2 hs2 hq2
      cases e with
      | exit id=>exact hq2.elim
      | ret=>exact hq2.elim
      | normal =>
        simp only [toExit,Exit.then]
        have hself : (w.heap.size + 1,Obj.loop (recAt rec s1.hp.jump),some s.hp.ny) ∈ F2.G := List.mem_append_right _ (.head _)
        obtain ⟨v1,v2,v3,v4⟩ := hs2.keep _ hself
        rw [k3] at v3
        have v3 : w2.heap[w.heap.size + 1]? = some (.loop (rec .ready none)) := v3
        refine ⟨_,run_beginRound v3 (by rw [hrec]),?_⟩
        have others : ∀ x ∈ F2.G,x = (w.heap.size + 1,Obj.loop (recAt rec s1.hp.jump),some s.hp.ny) ∨ x.1 ≠ w.heap.size + 1 := fun x hx=>by
          rcases List.mem_append.1 hx with hx' | hx'
          · right
            rcases List.mem_append.1 hx' with hx'' | hx''
            · have := hGlt x hx''; omega
            · obtain ⟨D,hD,rfl⟩ := List.mem_map.1 hx''
              intro e
              have hD2 := (hs2.keep _ hx).2.2.1
              have e : D = w.heap.size + 1 := e
              simp only at hD2
              rw [e,v3] at hD2
              cases hD2
          · left
            exact List.mem_singleton.1 hx'
        let lbusy : Loop := { rec .ready none with state := .busy }
        let G3 := F2.G.map fun x=>if x.1 = w.heap.size + 1 then (x.1,Obj.loop lbusy,x.2.2) else x
        have hlt2 : w.heap.size + 1 < w2.heap.size := (Array.getElem?_eq_some_iff.1 v3).1
        have hG3 : ∀ (W : World),(∀ x ∈ F2.G,x.1 ≠ w.heap.size + 1 → W.heap[x.1]? = some x.2.1) → W.heap[w.heap.size + 1]? = some (.loop lbusy) → ∀ x ∈ G3,∃ y ∈ F2.G,x.1 = y.1 ∧ x.2.2 = y.2.2 ∧ W.heap[x.1]? = some x.2.1 := fun W hW hWl x hx=>by
          obtain ⟨y,hy,rfl⟩ := List.mem_map.1 hx
          by_cases hyl : y.1 = w.heap.size + 1
          · rw [if_pos hyl]; exact ⟨y,hy,rfl,rfl,by simp only; rw [hyl]; exact hWl⟩
          · rw [if_neg hyl]; exact ⟨y,hy,rfl,rfl,hW y hy hyl⟩
        have hs3 : SR P { F2 with G := G3 } w0 q s2 a2 (w2.putObj (w.heap.size + 1) (.loop lbusy)) cc2 := by
          have htm := hs2.toHS.turn (o' := .loop lbusy) (G' := G3) (rc' := none) v3 rfl ⟨(fun es k e=>by cases e),(fun a b s d e=>by cases e)⟩ v2 (fun x hx=>by
            obtain ⟨y,hy,e1,e2,e3⟩ := hG3 (w2.putObj (w.heap.size + 1) (.loop lbusy)) (fun x hx hne=>(World.putObj_heap_other hne).trans (hs2.keep x hx).2.2.1) (World.putObj_heap_same hlt2) x hx
            obtain ⟨u1,u2,u3,u4⟩ := hs2.keep y hy
            exact ⟨by rw [e1]; exact u1,by rw [e1]; exact u2,e3,fun i hi=>by rw [e1]; exact u4 i (e2 ▸ hi)⟩) (fun i l rc hf=>by cases hf)
          have t1 := putObj_cell (o' := .loop lbusy) v3 rfl
          have t2 : ∀ (r : Nat) es k,w2.heap[r]? = some (.map es k) → (w2.putObj (w.heap.size + 1) (.loop lbusy)).heap[r]? = some (.map es k) := fun r es k hr=>putObj_block v3 hr (fun e=>by cases e)
          refine ⟨htm,fun t=>(hs2.tm t).turn t1 t2,hs2.size,?_⟩
          obtain ⟨dd,g1,g2,g3⟩ := hs2.defers
          refine ⟨dd,g1,g2,fun D hD=>?_⟩
          obtain ⟨p1,p2,p3,p4⟩ := g3 D hD
          refine ⟨p1,p2,putObj_block v3 p3 (fun e=>by cases e),fun x hx=>?_⟩
          obtain ⟨y,hy,rfl⟩ := List.mem_map.1 hx
          split
          · exact p4 y hy
          · exact p4 y hy
        have hgo2 := ihb { F2 with G := G3 } rfl rfl (by simp [F2]) _ (roundPost P (w.heap.size + 1) fun e w'=>∃ b s' c',e = .returned (.bool b) ∧ SR P ⟨m,stackX F.n { a with defers := markOf w.heap.size :: a.defers } F.X,none,gOf F (w.heap.size :: ds) s.hp.jump,some (s.hp.ny,w.heap.size + 1,rec)⟩ w0 q s' a1 w' c' ∧ K b s') s2 a2 _ cc2 ?_ hs3 hq2
        · exact hgo2
        · intro e3 s3 a3 w3 cc3 hs4 hq3
          have hself3 : (w.heap.size + 1,Obj.loop lbusy,some s.hp.ny) ∈ G3 := List.mem_map.2 ⟨_,hself,by simp⟩
          obtain ⟨x1,x2,x3,x4⟩ := hs4.keep _ hself3
          have x3 : w3.heap[w.heap.size + 1]? = some (.loop lbusy) := x3
          have hlt3 := (Array.getElem?_eq_some_iff.1 x3).1
          -- back in the frame of the function
          have fin : ∀ (j : Option Ex),recAt rec j = { lbusy with state := if (j.bind codeOf).isNone then (match j with | none=>.ready | some _=>.done) else .done,pending := j.bind codeOf } →
              SR P ⟨m,stackX F.n { a with defers := markOf w.heap.size :: a.defers } F.X,none,gOf F (w.heap.size :: ds) s.hp.jump,some (s.hp.ny,w.heap.size + 1,rec)⟩ w0 q { tm := popTm m s3.sv,hp := { s3.hp with jump := j },sv := popSv m s3.sv } a1 (w3.putObj (w.heap.size + 1) (.loop (recAt rec j))) cc3 := fun j _=>by
            have hturn := hs4.toHS.turn (o' := .loop (recAt rec j)) (G' := (gOf F (w.heap.size :: ds) s.hp.jump) ++ ds1.map (fun D=>(D,Obj.deferred (some []),none))) (rc' := none) x3 rfl ⟨(fun es k e=>by cases e),(fun a b s d e=>by cases e)⟩ x2 (fun x hx=>by
              have hxF : x ∈ F2.G := List.mem_append_left _ hx
              have hxn : x.1 ≠ w.heap.size + 1 := by
                rcases others x hxF with e | e
                · exfalso
                  rcases List.mem_append.1 hx with hx | hx
                  · have := hGlt x hx; rw [e] at this; exact absurd this (Nat.lt_irrefl _)
                  · obtain ⟨D,_,rfl⟩ := List.mem_map.1 hx; simp at e
                · exact e
              have hx3 : x ∈ G3 := List.mem_map.2 ⟨x,hxF,by rw [if_neg hxn]⟩
              obtain ⟨u1,u2,u3,u4⟩ := hs4.keep x hx3
              exact ⟨u1,u2,(World.putObj_heap_other hxn).trans u3,u4⟩) (fun i l rc hf=>by cases hf)
            refine SR.pop (F := ⟨m,stackX F.n { a with defers := markOf w.heap.size :: a.defers } F.X,none,gOf F (w.heap.size :: ds) s.hp.jump,some (s.hp.ny,w.heap.size + 1,rec)⟩) hturn hs1.size f1 f2 (fun D hD x hx=>(f3 D hD).2.2.2 x hx) (fun x hx=>List.mem_append_left _ hx) (fun D hD=>List.mem_append_right _ (List.mem_map.2 ⟨D,hD,rfl⟩)) fun i l rc hrc=>?_
            simp only [Option.some.injEq,Prod.mk.injEq] at hrc
            obtain ⟨rfl,rfl,rfl⟩ := hrc
            exact ⟨x4 _ rfl,x1,x2,World.putObj_heap_same hlt3⟩
          have hrb : ∀ st pe,({ lbusy with state := st,pending := pe } : Loop) = rec st pe := fun st pe=>by simp only [lbusy]; rw [hrec]
          cases e3 with
          | normal =>
            have hrun := run_endRound (P := P) none x3
            rw [hrb] at hrun
            exact ⟨_,_,hrun,true,_,cc3,rfl,fin none (by simp [recAt,lbusy]; rw [hrec]),hq3⟩
          | ret =>
            have hrun := run_endRound (P := P) (some .ret) x3
            rw [hrb] at hrun
            exact ⟨_,_,hrun,false,_,cc3,rfl,fin (some .ret) (by simp [recAt,codeOf,lbusy]; rw [hrec]),hq3⟩
          | exit id =>
            have hrun := run_endRound (P := P) (some (.exit id)) x3
            rw [hrb] at hrun
            exact ⟨_,_,hrun,false,_,cc3,rfl,fin (some (.exit id)) (by simp [recAt,codeOf,lbusy]; rw [hrec]),hq3⟩)
  refine ⟨w.heap.size + 1,[markOf w.heap.size],W1,{ target := .fn (.func f) cv,args := f0 ++ #[.func (.yield (w.heap.size + 1)) #[] #[]] },W1,f,f0 ++ #[.func (.yield (w.heap.size + 1)) #[] #[]] ++ cv,W1,?_,?_,?_,?_,(fun hd=>by cases hd),?_⟩
  · rw [show (FR F.r).round = none from hr0,← hW1,hrec]; exact run_enterLoop_outer _ _ _ _ _
  · simp only [resolve,hgv']
    simp [go_sem,Deferred.ofValue]
  · intro f' _; trivial
  · simp only [invoke]
    simpa using hin _ _
  · refine CallsIn.mono hcall ?_
    rintro e w3 ⟨u,rfl,r,hp',sv',c3,hs3,_,hk⟩
    obtain ⟨r1,r2,r3,r4⟩ := hs3.rcd _ _ _ rfl
    have hlt3 := (Array.getElem?_eq_some_iff.1 r4).1
    have hback : SR P F w0 q { tm := popTm F.n sv',hp := { hp' with jump := s.hp.jump },sv := popSv F.n sv' } { a with defers := markOf w.heap.size :: a.defers } (w3.putObj (w.heap.size + 1) (.loop { recAt rec hp'.jump with state := .exhausted })) c3 := by
      have hturn := hs3.turn (o' := .loop { recAt rec hp'.jump with state := .exhausted }) (G' := gOf F (w.heap.size :: ds) s.hp.jump) (rc' := none) r4 rfl ⟨(fun es k e=>by cases e),(fun a b s d e=>by cases e)⟩ r3 (fun x hx=>by
        obtain ⟨u1,u2,u3,u4⟩ := hs3.keep x hx
        exact ⟨u1,u2,(World.putObj_heap_other (by have := hGlt x hx; omega)).trans u3,u4⟩) (fun i l rc hf=>by cases hf)
      exact h3.back (ds := w.heap.size :: ds) (by simp [hd1]) hnd hne hturn
    have hend : (Instr.endLoop (w.heap.size + 1)).run P w3 = .ok (recAt rec hp'.jump).pending (w3.putObj (w.heap.size + 1) (.loop { recAt rec hp'.jump with state := .exhausted })) := run_endLoop r4 (by
      cases hp'.jump <;> simp only [recAt] <;> rw [hrec] <;> simp)
    refine ⟨_,_,hend,?_⟩
    cases hj : hp'.jump with
    | none =>
      have hpend : (recAt rec hp'.jump).pending = none := by rw [hj]; simp only [recAt]; rw [hrec]
      rw [hj] at hpend hback
      rw [hpend]
      simp only [hj] at hk
      exact hQ .normal _ _ _ _ hback hk
    | some e =>
      have hpend : (recAt rec hp'.jump).pending = codeOf e := by rw [hj]; simp only [recAt]; rw [hrec]
      rw [hj] at hpend hback
      rw [hpend]
      simp only [hj] at hk
      cases e with
      | normal=>exact hQ .normal _ _ _ _ hback hk
      | exit id=>exact wpIn_exit (hQ (.exit id) _ _ _ _ hback hk)
      | ret=>exact wpIn_ret (hQ .ret _ _ _ _ hback hk)

theorem awp_ok (hT : TOK P T) (hD : DrawnOk P T) {w0 : World} {q : Nat → Prop} : ∀ (cd : Code) (F : Fr) (E : Env) (_ : EnvOk P F w0 q E) (Q' : Ex → St → Prop) (Q : Exit → Act → World → Prop) (s : St) (a : Act) (w : World) (c : Cx),
  (∀ e s' a' w' c',SR P F w0 q s' a' w' c' → Q' e s' → Q (toExit e) a' w') → SR P F w0 q s a w c → AWP T F.n cd E Q' s → cd.wpIn (FR F.r) 0 P Q a w := by
 intro cd
 induction cd with
 | skip=>intro F E hE Q' Q s a w c hQ h hw; exact wpIn_skip (hQ .normal s a w c h hw)
 | ret=>intro F E hE Q' Q s a w c hQ h hw; exact wpIn_ret (hQ .ret s a w c h hw)
 | exit id=>intro F E hE Q' Q s a w c hQ h hw; exact wpIn_exit (hQ (.exit id) s a w c h hw)
 | seq x y ihx ihy =>
  intro F E hE Q' Q s a w c hQ h hw
  refine wpIn_seq (ihx F E hE _ _ s a w c (fun e s' a' w' c' h' hq=>?_) h hw)
  cases e with
  | normal=>exact ihy F E hE Q' Q s' a' w' c' hQ h' hq
  | exit id=>exact hQ (.exit id) s' a' w' c' h' hq
  | ret=>exact hQ .ret s' a' w' c' h' hq
 | cond x t e iht ihe =>
  intro F E hE Q' Q s a w c hQ h hw
  unfold AWP at hw
  simp only [putF_eq] at hw
  split at hw
  ·rename_i t' b hl
   have hv : VR P w c (look s.tm t') (a.tmps.getD t' undef) := h.tm t'
   have hl' : look s.tm t' = .val (.bool b) := hl
   rw [hl'] at hv
   have hb : a.eval (.tmp t') = .bool b := hv.val_inv
   have hkn : SR P F w0 q (s.put (some t') (.val (.bool b))) a w c := h.known (by rw [← hl']; exact h.tm t')
   cases b with
   | true=>exact wpIn_cond_true hb (iht F E hE Q' Q _ a w c hQ hkn hw)
   | false=>exact wpIn_cond_false hb (ihe F E hE Q' Q _ a w c hQ hkn hw)
  ·exact wpIn_cond_true rfl (iht F E hE Q' Q s a w c hQ h hw)
  ·exact wpIn_cond_false rfl (ihe F E hE Q' Q s a w c hQ h hw)
  ·exact hw.elim
 | block id x ih =>
  intro F E hE Q' Q s a w c hQ h hw
  refine wpIn_block (ih F E hE _ _ s a w c (fun e s' a' w' c' h' hq=>?_) h hw)
  cases e with
  | normal=>exact hQ .normal s' a' w' c' h' hq
  | ret=>exact hQ .ret s' a' w' c' h' hq
  | exit i =>
   simp only at hq
   cases hb : Nat.beq i id with
   | true =>
    rw [hb] at hq
    have := Nat.eq_of_beq_eq_true hb
    subst this
    simp only [toExit,Exit.inBlock,if_true]
    exact hQ .normal s' a' w' c' h' hq
   | false =>
    rw [hb] at hq
    have hne : i ≠ id := fun e=>by subst e; simp at hb
    simp only [toExit,Exit.inBlock,if_neg hne]
    exact hQ (.exit i) s' a' w' c' h' hq
 | loop x ih =>
  intro F E hE Q' Q s a w c hQ h hw
  obtain ⟨pr,keep,I,⟨s1,m,hI,hwk⟩,hround⟩ := hw
  obtain ⟨c1,h1⟩ := SR.prep pr h
  have k1 : ∀ i l rc,F.rc = some (i,l,rc) → i < (prep s pr).hp.ny := fun i l rc hrc=>h1.hy i l (h1.rcd i l rc hrc).1
  have k2 : ∀ x ∈ F.G,∀ i,x.2.2 = some i → i < (prep s pr).hp.ny := fun x hx i hi=>h1.hy i _ ((h1.keep x hx).2.2.2 i hi)
  refine wp_loop_rel (fun m a w=>∃ s0 c0,I s0 m ∧ SR P F w0 q s0 a w c0) (m := m) ⟨s1,_,hI,(h1.canon keep _ _ _ k1 k2).weak hwk⟩ ?_
  rintro m a w ⟨s0,c0,hI0,h0⟩
  refine ih F E hE _ _ s0 a w c0 (fun e s' a' w' c' h' hq=>?_) h0 (hround s0 m hI0)
  cases e with
  | normal =>
   obtain ⟨s2,m2,⟨hI2,hlt⟩,hwk2⟩ := hq
   obtain ⟨c2,h2⟩ := SR.prep (backPr pr) h'
   exact ⟨m2,hlt,s2,_,hI2,(h2.canon keep _ _ _ k1 k2).weak hwk2⟩
  | exit id=>exact hQ (.exit id) s' a' w' c' h' hq
  | ret=>exact hQ .ret s' a' w' c' h' hq
 | region id ops draw =>
  intro F E hE Q' Q s a w c hQ h hw
  unfold AWP at hw
  split at hw
  ·obtain ⟨gl,hw⟩ := hw
   have key : ∀ s,SR P F w0 q s a w c → drawW T F.n ops E (fun s=>Q' .normal s) gl s → (Code.region id ops true).wpIn (FR F.r) 0 P Q a w := fun s h hw=>by
    unfold drawW at hw
    split at hw
    ·exact hD.1 F E w0 q id ops _ Q s a w c gl hE.S hw.1 (fun s' a' w' c' h' hq=>hQ .normal s' a' w' c' h' hq) h hw.2
    ·rename_i cut _
     refine hD.2.1 F E w0 q id ops _ Q s a w c (noCut gl) cut hE.S hw.1 (fun s' a' w' c' h' hq=>?_) h hw.2
     have := ops_ok hT hE (Q := Q) (K := fun s=>Q' .normal s) (fun s' a' w' c' h' hq=>hQ .normal s' a' w' c' h' hq) (ops.toList.drop cut) cut s' a' w' c' rfl h' hq
     rwa [List.length_drop,Array.length_toList] at this
   split at hw
   ·obtain ⟨os,hco,hw⟩ := hw
    have hall : ∀ (os : List (List Nat)),allW (fun σ=>ordW E T F.n ops (fun s=>Q' .normal s) σ s) os → ∀ σ ∈ os,ordW E T F.n ops (fun s=>Q' .normal s) σ s := fun os=>by
     induction os with
     | nil=>intro _ σ hσ; cases hσ
     | cons x r ih =>
      intro g σ hσ
      rcases List.mem_cons.1 hσ with e | hσ
      ·rw [e]; exact g.1
      ·exact ih g.2 σ hσ
    exact hD.2.2 F id ops Q a w os hco fun σ hσ=>ord_ok hT hE (Q := Q) (K := fun s=>Q' .normal s) (fun s' a' w' c' h' hq=>hQ .normal s' a' w' c' h' hq) σ s a _ c h.drew (hall os hw σ hσ)
   ·split at hw
    ·exact key s h hw
    ·obtain ⟨s',hwk,hw⟩ := hw
     exact key s' (h.weak hwk) hw
  ·refine wpIn_region ?_
   have := ops_ok hT hE (Q := Q) (K := fun s=>Q' .normal s) (fun s' a' w' c' h' hq=>hQ .normal s' a' w' c' h' hq) ops.toList 0 s a w c rfl h hw
   rwa [← List.range_eq_range',Array.length_toList] at this
 | rangeFunc g ps assign body iha ihb =>
  intro F E hE Q' Q s a w c hQ h hw
  unfold AWP at hw
  obtain ⟨hrok,tm',htm,hw⟩ := hw
  split at hw
  case h_2=>exact hw.elim
  rename_i f nf cap hg
  have h : SR P F w0 q { s with tm := tm' } a w c := ⟨h.toHS,fun t=>(by
   rcases htm t with e | e
   ·show VR P w c (look tm' t) _
    rw [e]; exact h.tm t
   ·show VR P w c (look tm' t) _
    rw [e]; exact .tree (.top _)),h.size,h.defers⟩
  have hr0 : F.r = none := hE.rok hrok
  have hE2 : ∀ F2,EnvOk P F2 w0 q E.round := fun G2=>⟨hE.S,hE.I,.inl rfl,(fun hf=>by cases hf),hE.M⟩
  exact range_ok (WA := fun Q s=>AWP T F.n assign E.round Q s) (WB := fun Q s=>AWP T F.n body E.round Q s) hE.I hr0
   (fun F2 e1 _ _ Q' Q s a w c hQ h hw=>iha F2 E.round (hE2 F2) Q' Q s a w c hQ h (by rw [e1]; exact hw))
   (fun F2 e1 _ _ Q' Q s a w c hQ h hw=>ihb F2 E.round (hE2 F2) Q' Q s a w c hQ h (by rw [e1]; exact hw)) hQ h hg hw
 | _=>intro F E hE Q' Q s a w c hQ h hw; exact hw.elim

theorem getElem?_start : ∀ (args : List AV) (n t : Nat),look (start args n) t = if n ≤ t ∧ t < n + args.length then args.getD (t - n) .top else .top
 | [],n,t=>by simp [start,look]
 | x :: r, n, t => by
  simp only [start,look]
  cases hb : Nat.beq n t with
  | true =>
   have := Nat.eq_of_beq_eq_true hb
   subst this
   simp
  | false =>
   have hne : n ≠ t := fun e=>by subst e; simp at hb
   simp only [cond_false]
   rw [getElem?_start r (n + 1) t]
   by_cases hc : n + 1 ≤ t ∧ t < n + 1 + r.length
   ·rw [if_pos hc,if_pos (by simp; omega)]
    rw [show t - n = (t - (n + 1)) + 1 from by omega]
    simp
   ·rw [if_neg hc,if_neg (by simp; omega)]

def resSem (tmps : Array Value) : ResultVar → Sem Value
 | .tmp t=>pure (tmps.getD t undef)
 | .cell a t=>do loadVar t (← asAddr (tmps.getD a undef))

theorem results_eq (fn : Func) (tmps : Array Value) : results fn tmps = (do let vs ← fn.results.mapM (resSem tmps); pure (if h : vs.size = 1 then vs[0] else .tuple vs)) := by
 unfold results
 congr 1

theorem results_ok (hT : TOK P T) {F : Fr} {w0 w : World} {q : Nat → Prop} {s : St} {a : Act} {c : Cx} (h : SR P F w0 q s a w c) : ∀ (rs : List ResultVar) (l : List AV),resAV T s rs = some l →
  ∃ vs : List Value,(rs.mapM (resSem a.tmps)).run P w = .ok vs w ∧ vs.length = l.length ∧ ∀ (i : Nat) x,l[i]? = some x → VR P w c x (vs.getD i undef)
 | [],l,hl=>by simp [resAV] at hl; subst hl; exact ⟨[],by simp,rfl,by simp⟩
 | .tmp t :: r, l, hl => by
  simp only [resAV] at hl
  split at hl
  ·rename_i l' hl'
   cases hl
   obtain ⟨vs,g1,g2,g3⟩ := results_ok hT h r l' hl'
   refine ⟨a.tmps.getD t undef :: vs,by simp [List.mapM_cons,resSem,g1],by simp [g2],fun i x hi=>?_⟩
   cases i with
   | zero=>simp at hi; subst hi; exact h.tm t
   | succ i=>exact g3 i x (by simpa using hi)
  ·cases hl
 | .cell rr t :: r, l, hl => by
  simp only [resAV] at hl
  split at hl
  ·rename_i l' ti b ver idx sub hl' ht hlook
   split at hl
   ·rename_i k hk
    split at hl
    ·rename_i v hv
     cases hl
     obtain ⟨vs,g1,g2,g3⟩ := results_ok hT h r l' hl'
     have hx := h.tm rr
     rw [hlook] at hx
     obtain ⟨hkb,hkv⟩ := block_some hk
     obtain ⟨oi,hO,hle,_,hv'⟩ := hx.optr_inv
     have hb := h.hr.blk b k oi hkb hO
     obtain ⟨hidx,hu⟩ := hv' (by rw [hb.ver,hkv])
     obtain ⟨u,p1,p2⟩ := load_ofCells (P := P) (w := w) (c := c) hT ht hv (b := oi.blk) (off := oi.lo + (idx * oi.es + sub)) fun j y hy=>by
      rw [getElem?_drop'] at hy
      obtain ⟨u,h1,h2,h3,_⟩ := hb.cell (by rw [← hb.n]; exact hidx) hy
      exact ⟨u,by rw [← h1]; congr 2; omega,h2,h3⟩
     have p1' : (loadVar t ⟨oi.blk,oi.lo + (idx * oi.es + sub),none⟩).run P w = .ok u w := by simpa [Instr.loadAt,Instr.sureAddr] using p1
     refine ⟨u :: vs,by simp [List.mapM_cons,resSem,-Array.getD_eq_getD_getElem?,hu,asAddr,p1',g1],by simp [g2],fun i x hi=>?_⟩
     cases i with
     | zero=>simp at hi; subst hi; exact p2
     | succ i=>exact g3 i x (by simpa using hi)
    ·cases hl
   ·cases hl
  ·cases hl

theorem run_results {fn : Func} {a : Act} {w : World} {vs : List Value} (h : (fn.results.toList.mapM (resSem a.tmps)).run P w = .ok vs w) :
  (results fn a.tmps).run P w = .ok (if vs.length = 1 then vs.getD 0 undef else .tuple vs.toArray) w := by
 rw [results_eq,Array.mapM_eq_mapM_toList]
 simp only [Sem.run_bind,Sem.run_map,h,Result.andThen_ok,Sem.run_pure]
 congr 1
 by_cases hl : vs.length = 1
 ·match vs,hl with
  | [x],_=>simp
 ·simp [hl]
end
end Go.Tr

/- Results: trees, and memory of the call's own. Conditions: none. -/
namespace Go.Tr
open Go Go.RowKit

variable [GTab]

section
variable {yv : Nat → Option Nat} {P : Program} {T : Nat → Option TI} {w : World} {c : Cx} {base : Nat} {hp : Hp}

def idsOf (hp : Hp) (xs : List AV) : List Nat := xs.filterMap fun x=>(ownLeaf hp x).bind id

theorem ownB_ok : ∀ (xs : List AV) (seen : List Nat),ownB hp xs seen = true → (∀ x ∈ xs,(ownLeaf hp x).isSome = true) ∧ (idsOf hp xs).Nodup ∧ ∀ b ∈ idsOf hp xs,b ∉ seen
 | [],seen,_=>by simp [idsOf]
 | x :: r, seen, h => by
  simp only [ownB] at h
  split at h
  ·cases h
  ·rename_i hx
   obtain ⟨g1,g2,g3⟩ := ownB_ok r seen h
   have hid : idsOf hp (x :: r) = idsOf hp r := by simp [idsOf,hx]
   rw [hid]
   exact ⟨fun y hy=>by rcases List.mem_cons.1 hy with rfl | hy; simp [hx]; exact g1 y hy,g2,g3⟩
  ·rename_i b hx
   rw [Bool.and_eq_true] at h
   obtain ⟨g1,g2,g3⟩ := ownB_ok r (b :: seen) h.2
   have hid : idsOf hp (x :: r) = b :: idsOf hp r := by simp [idsOf,hx]
   rw [hid]
   have hb : b ∉ seen := fun hm=>by have := hasNat_iff.2 hm; rw [this] at h; simp at h
   exact ⟨fun y hy=>by rcases List.mem_cons.1 hy with rfl | hy; simp [hx]; exact g1 y hy,List.nodup_cons.2 ⟨fun hm=>g3 b hm (.head _),g2⟩,
    fun b' hm=>by rcases List.mem_cons.1 hm with rfl | hm; exact hb; exact fun hs=>g3 b' hm (.tail _ hs)⟩

structure Piece (P : Program) (w : World) (c : Cx) (base n m : Nat) (ids : List Nat) (O : Nat → Option OI) : Prop where
 dom : ∀ b oi,O b = some oi → n ≤ b ∧ b < n + m
 src : ∀ b oi,O b = some oi → oi.cap ≠ 0 → ∃ i ∈ ids,∃ o0,c.O i = some o0 ∧ o0.cap ≠ 0 ∧ oi.blk = o0.blk
 sep : ∀ b b' oi oi',O b = some oi → O b' = some oi' → b ≠ b' → oi.blk ≠ oi'.blk ∨ oi.cap = 0 ∨ oi'.cap = 0

def eCx (yv : Nat → Option Nat) (O : Nat → Option OI) : Cx := ⟨fun _=>False,O,fun _=>none,yv⟩

theorem VR.enlarge {O O' : Nat → Option OI} (h : ∀ b oi,O b = some oi → O' b = some oi) {x : AV} {v : Value} (hx : VR P w (eCx yv O) x v) : VR P w (eCx yv O') x v :=
  VR.mono (base := 0) (c := eCx yv O) (c' := eCx yv O') (w := w) (w' := w) ⟨Below.refl _ _,fun _ h=>h,fun _ _=>rfl,fun b oi hb=>⟨oi,h b oi hb,Nat.le_refl _,fun _=>rfl⟩,(fun b r hb=>by cases hb),fun _ _ h=>h⟩ hx

theorem BR.enlarge {O O' : Nat → Option OI} (h : ∀ b oi,O b = some oi → O' b = some oi) {k : AB} {oi : OI} (hx : BR P w (eCx yv O) k oi) : BR P w (eCx yv O') k oi :=
  BR.mono (base := 0) (c := eCx yv O) (c' := eCx yv O') (w := w) (w' := w) ⟨Below.refl _ _,fun _ h=>h,fun _ _=>rfl,fun b oi hb=>⟨oi,h b oi hb,Nat.le_refl _,fun _=>rfl⟩,(fun b r hb=>by cases hb),fun _ _ h=>h⟩ hx fun _=>rfl

theorem Piece.join (h : HR P base w c hp) {n m m' : Nat} {ids ids' : List Nat} {O O' : Nat → Option OI} (a : Piece P w c base n m ids O) (b : Piece P w c base (n + m) m' ids' O') (hd : ∀ i ∈ ids,i ∉ ids') :
  ∃ O2,Piece P w c base n (m + m') (ids ++ ids') O2 ∧ (∀ b oi,O b = some oi → O2 b = some oi) ∧ (∀ b oi,O' b = some oi → O2 b = some oi) ∧ (∀ b,n ≤ b → b < n + m → O2 b = O b) ∧ (∀ b,n + m ≤ b → O2 b = O' b) := by
 refine ⟨fun b=>if b < n + m then O b else O' b,⟨fun b' oi hb=>?_,fun b' oi hb hc=>?_,fun b1 b2 o1 o2 h1 h2 hne=>?_⟩,fun b' oi hb=>?_,fun b' oi hb=>?_,fun b' _ hlt=>if_pos hlt,fun b' hge=>if_neg (by omega)⟩
 ·split at hb
  ·have := a.dom b' oi hb; omega
  ·have := b.dom b' oi hb; omega
 ·split at hb
  ·obtain ⟨i,hi,r⟩ := a.src b' oi hb hc; exact ⟨i,List.mem_append_left _ hi,r⟩
  ·obtain ⟨i,hi,r⟩ := b.src b' oi hb hc; exact ⟨i,List.mem_append_right _ hi,r⟩
 ·have cross : ∀ o1 o2,(∃ b,O b = some o1) → (∃ b,O' b = some o2) → o1.blk ≠ o2.blk ∨ o1.cap = 0 ∨ o2.cap = 0 := fun o1 o2 ⟨x,hx⟩ ⟨y,hy⟩=>by
   by_cases c1 : o1.cap = 0
   ·exact .inr (.inl c1)
   ·by_cases c2 : o2.cap = 0
    ·exact .inr (.inr c2)
    ·obtain ⟨i,hi,p1,q1,q2,q3⟩ := a.src x o1 hx c1
     obtain ⟨j,hj,p2,r1,r2,r3⟩ := b.src y o2 hy c2
     have hij : i ≠ j := fun e=>hd i hi (e ▸ hj)
     rcases h.sep i j p1 p2 q1 r1 hij with g | g | g
     ·exact .inl (by rw [q3,r3]; exact g)
     ·exact absurd g q2
     ·exact absurd g r2
  split at h1 <;> split at h2
  ·exact a.sep b1 b2 o1 o2 h1 h2 hne
  ·exact cross o1 o2 ⟨_,h1⟩ ⟨_,h2⟩
  ·rcases cross o2 o1 ⟨_,h2⟩ ⟨_,h1⟩ with g | g | g
   ·exact .inl (fun e=>g e.symm)
   ·exact .inr (.inr g)
   ·exact .inr (.inl g)
  ·exact b.sep b1 b2 o1 o2 h1 h2 hne
 ·have := a.dom b' oi hb; simp only; rw [if_pos (by omega)]; exact hb
 ·have := b.dom b' oi hb; simp only; rw [if_neg (by omega)]; exact hb

theorem Piece.nil (n : Nat) : Piece P w c base n 0 [] (fun _=>none) := ⟨fun b oi h=>(by cases h),fun b oi h=>(by cases h),fun b b' oi oi' h=>(by cases h)⟩

theorem leaf_slice (h : HR P base w c hp) {k jj : Nat} {x : AV} {u : Value} {es len : Nat} {g : Nat → List AV} (hx : VR P w c x u) (ho : (ownLeaf hp x).isSome = true) (he : AVE (k + 1) (freeze hp (jj + 1) x) (.rslice es len g)) (hpl : ∀ i,i < len → ∀ y ∈ g i,∃ v,y = .val v) (n : Nat) :
  ∃ O,Piece P w c base n 1 (idsOf hp [x]) O ∧ VR P w (eCx yv O) (.oslice n 0 0 len none) u ∧ ∃ oi,O n = some oi ∧ BR P w (eCx yv O) { es,len,f := g } oi := by
 have single : ∀ (oi : OI) (ids : List Nat),(oi.cap ≠ 0 → ∃ i ∈ ids,∃ o0,c.O i = some o0 ∧ o0.cap ≠ 0 ∧ oi.blk = o0.blk) → Piece P w c base n 1 ids (fun b=>if b = n then some oi else none) := fun oi ids hs =>
  ⟨fun b o hb=>(by split at hb <;> first | (cases hb; done) | (subst_vars; omega)),fun b o hb hc=>(by split at hb <;> first | (cases hb; exact hs hc) | (cases hb; done)),fun b b' o o' h1 h2 hne=>(by
   split at h1 <;> split at h2 <;> first | (subst_vars; exact absurd rfl hne) | (cases h1; done) | (cases h2; done))⟩
 have empty : ∀ (a : Option Addr) (ids : List Nat),u = .slice a 0 0 → len = 0 → ∃ O,Piece P w c base n 1 ids O ∧ VR P w (eCx yv O) (.oslice n 0 0 len none) u ∧ ∃ oi,O n = some oi ∧ BR P w (eCx yv O) { es,len,f := g } oi := fun a ids hu hl=>by
  subst hu; subst hl
  exact ⟨_,single ⟨0,0,0,es,0,0⟩ ids (fun hc=>absurd rfl hc),.oslice _ _ _ _ _ _ ⟨0,0,0,es,0,0⟩ (by simp [eCx]) (Nat.le_refl _) rfl fun _=>⟨by simp,a,0,rfl,Nat.le_refl _,by simp,by simp,fun hc=>absurd rfl hc,fun cp hcp=>by cases hcp⟩,
   _,if_pos rfl,⟨rfl,rfl,rfl,Nat.le_refl _,fun hc=>absurd rfl hc,fun i hi=>by simp at hi,fun i j y v hi=>by simp at hi⟩⟩
 cases x with
 | val v=>simp [freeze,AVE] at he
 | eslice =>
  obtain ⟨a,ha⟩ := eslice_inv hx
  exact empty a _ ha he
 | oslice b ver off ln cap =>
  simp only [ownLeaf] at ho
  split at ho
  ·rename_i kk hk
   cases hf : (kk.flat && !kk.ro) with
   | false=>rw [hf] at ho; simp at ho
   | true =>
    rw [Bool.and_eq_true] at hf
    have hfz : freeze hp (jj + 1) (.oslice b ver off ln cap) = .rslice kk.es ln fun i=>kk.f (off + i) := by simp [freeze,shiftF_eq,hk,hf.1]
    rw [hfz] at he
    obtain ⟨rfl,rfl,hgf⟩ := he
    obtain ⟨hkb,hkv⟩ := block_some hk
    obtain ⟨oi,hO,hle,_,hv'⟩ := hx.oslice_inv
    have hB := h.blk b kk oi hkb hO
    obtain ⟨hn1,a,k1,hu,hk1,hk2,hkn,hk3,_⟩ := hv' (by rw [hB.ver,hkv])
    have hids : idsOf hp [.oslice b ver off ln cap] = [b] := by simp [idsOf,ownLeaf,hk,hf.1,(by simpa using hf.2 : kk.ro = false)]
    by_cases hk0 : k1 = 0
    ·subst hk0
     have : ln = 0 := by omega
     subst this
     exact empty a _ hu rfl
    ·have hcap : oi.cap ≠ 0 := by omega
     obtain ⟨cs,t,hrow,hsz,hone⟩ := hB.row hcap
     have hn := hB.n
     refine ⟨_,single ⟨oi.blk,oi.lo + off * oi.es,k1,kk.es,ln,0⟩ _ (fun _=>⟨b,by rw [hids]; simp,oi,hO,hcap,rfl⟩),.oslice _ _ _ _ _ _ ⟨oi.blk,oi.lo + off * oi.es,k1,kk.es,ln,0⟩ (by simp [eCx]) (Nat.le_refl _) (by rw [hu]; rfl) fun _=>⟨by simp,a,k1,hu,hk1,by simp,by simpa using hk1,fun _=>by rw [hk3 hk0]; simp,fun cp hcp=>by cases hcp⟩,
      _,if_pos rfl,⟨rfl,rfl,rfl,hk1,fun _=>⟨cs,t,hrow,?_,hone⟩,fun i hi=>?_,fun i j y v hi hy hv=>?_⟩⟩
     ·have : (off + k1) * oi.es ≤ oi.cap * oi.es := Nat.mul_le_mul_right _ hk2
      rw [Nat.add_mul] at this
      have := hB.es
      simp only
      rw [← hB.es]
      omega
     ·have hi' : i < ln := hi
      show (g i).length = kk.es
      have e2 : kk.f (off + i) = g i := hgf i hi'
      rw [← e2]; exact hB.el _ (by omega)
     ·have hi' : i < ln := hi
      obtain ⟨vv,rfl⟩ := hpl i hi' y (List.mem_of_getElem? hy)
      have e2 : kk.f (off + i) = g i := hgf i hi'
      have hy' : (kk.f (off + i))[j]? = some (.val vv) := by rw [e2]; exact hy
      obtain ⟨v2,g1,_,g3,_⟩ := hB.cell (by omega : off + i < kk.len) hy'
      have : v = v2 := by
       have e : oi.lo + ((off + i) * oi.es + j) = oi.lo + off * oi.es + (i * kk.es + j) := by rw [Nat.add_mul,hB.es]; omega
       rw [e] at g1
       simp only at hv
       rw [g1] at hv
       exact (Option.some.inj hv).symm
      subst this
      have := g3.val_inv
      subst this
      exact ⟨.tree (.val _),fun _=>.val _⟩
  ·simp at ho
 | top=>simp [ownLeaf] at ho
 | agg=>simp [ownLeaf] at ho
 | tuple=>simp [ownLeaf] at ho
 | func=>simp [ownLeaf] at ho
 | rslice=>simp [ownLeaf] at ho
 | rptr=>simp [ownLeaf] at ho
 | optr=>simp [ownLeaf] at ho
 | omap=>simp [ownLeaf] at ho
 | yld=>simp [ownLeaf] at ho
 | oiter=>simp [ownLeaf] at ho
 | err=>simp [ownLeaf] at ho
 | aslice=>simp [ownLeaf] at ho
 | cslice=>simp [ownLeaf] at ho
 | rmap=>simp [ownLeaf] at ho
end
end Go.Tr

/- Results that are memory of the call's own. Conditions: none. -/
namespace Go.Tr
open Go Go.RowKit

variable [GTab]

section
variable {yv : Nat → Option Nat} {P : Program} {T : Nat → Option TI} {w : World} {c : Cx} {base : Nat} {hp : Hp}

theorem leaf_plain {k jj : Nat} {x y : AV} {v : Value} {p : Nat → Prop} (hx : VR P w c x v) (ho : (ownLeaf hp x).isSome = true) (he : AVE (k + 1) (freeze hp (jj + 1) x) y) (hy : ∀ es len f,y ≠ .rslice es len f) : VT P w p y v ∧ idsOf hp [x] = [] ∨ VT P w p y v := by
 cases x with
 | val u =>
  have e : y = .val u := by cases y <;> first | exact absurd rfl (hy _ _ _) | (simp [freeze,AVE] at he; done) | (simp [freeze,AVE] at he; subst he; rfl)
  subst e
  have := hx.val_inv
  subst this
  exact .inr (.val _)
 | eslice =>
  have e : y = .eslice := by cases y <;> first | rfl | exact absurd rfl (hy _ _ _) | (simp [freeze,AVE] at he; done)
  subst e
  obtain ⟨a,ha⟩ := eslice_inv hx
  subst ha
  exact .inr (.eslice a)
 | oslice b ver off ln cap =>
  simp only [ownLeaf] at ho
  split at ho
  ·rename_i kk hk
   cases hf : kk.flat with
   | false=>rw [hf] at ho; simp at ho
   | true =>
    have hfz : freeze hp (jj + 1) (.oslice b ver off ln cap) = .rslice kk.es ln fun i=>kk.f (off + i) := by simp [freeze,shiftF_eq,hk,hf]
    rw [hfz] at he
    cases y <;> first | exact absurd rfl (hy _ _ _) | (simp [AVE] at he)
  ·simp at ho
 | top=>simp [ownLeaf] at ho
 | agg=>simp [ownLeaf] at ho
 | tuple=>simp [ownLeaf] at ho
 | func=>simp [ownLeaf] at ho
 | rslice=>simp [ownLeaf] at ho
 | rptr=>simp [ownLeaf] at ho
 | optr=>simp [ownLeaf] at ho
 | omap=>simp [ownLeaf] at ho
 | yld=>simp [ownLeaf] at ho
 | oiter=>simp [ownLeaf] at ho
 | err=>simp [ownLeaf] at ho
 | aslice=>simp [ownLeaf] at ho
 | cslice=>simp [ownLeaf] at ho
 | rmap=>simp [ownLeaf] at ho

structure Adp (yv : Nat → Option Nat) (P : Program) (w : World) (c : Cx) (base n : Nat) (ids : List Nat) (ks : List AB) (O : Nat → Option OI) : Prop where
 piece : Piece P w c base n ks.length ids O
 blks : ∀ (i : Nat) k oi,ks[i]? = some k → O (n + i) = some oi → BR P w (eCx yv O) k oi

theorem Adp.join (h : HR P base w c hp) {n : Nat} {ids ids' : List Nat} {ks ks' : List AB} {O O' : Nat → Option OI} (a : Adp yv P w c base n ids ks O) (b : Adp yv P w c base (n + ks.length) ids' ks' O') (hd : ∀ i ∈ ids,i ∉ ids') :
  ∃ O2,Adp yv P w c base n (ids ++ ids') (ks ++ ks') O2 ∧ (∀ b oi,O b = some oi → O2 b = some oi) ∧ (∀ b oi,O' b = some oi → O2 b = some oi) := by
 obtain ⟨O2,g1,g2,g3,g4,g5⟩ := Piece.join h a.piece b.piece hd
 refine ⟨O2,⟨by rw [List.length_append]; exact g1,fun i k oi hk hO=>?_⟩,g2,g3⟩
 by_cases hi : i < ks.length
 ·rw [List.getElem?_append_left hi] at hk
  rw [g4 (n + i) (by omega) (by omega)] at hO
  exact (a.blks i k oi hk hO).enlarge g2
 ·have hi : ks.length ≤ i := by omega
  rw [List.getElem?_append_right hi] at hk
  rw [g5 (n + i) (by omega),show n + i = n + ks.length + (i - ks.length) from by omega] at hO
  exact (b.blks _ k oi hk hO).enlarge g3

theorem Adp.nil (n : Nat) : Adp yv P w c base n [] [] (fun _=>none) := ⟨Piece.nil n,fun i k oi h=>by simp at h⟩

theorem Piece.ids {n m : Nat} {ids ids' : List Nat} {O : Nat → Option OI} (h : Piece P w c base n m ids O) (hs : ∀ i ∈ ids,i ∈ ids') : Piece P w c base n m ids' O :=
  ⟨h.dom,fun b oi hb hc=>by obtain ⟨i,hi,r⟩ := h.src b oi hb hc; exact ⟨i,hs i hi,r⟩,h.sep⟩

theorem leaf_ok (h : HR P base w c hp) {k jj : Nat} {x y : AV} {v : Value} (hx : VR P w c x v) (ho : (ownLeaf hp x).isSome = true) (he : AVE (k + 1) (freeze hp (jj + 1) x) y) (hpl : PlainR [y]) (n : Nat) :
  ∃ O,Adp yv P w c base n (idsOf hp [x]) (adoptL [y] n).2 O ∧ ∀ z ∈ (adoptL [y] n).1[0]?,VR P w (eCx yv O) z v := by
 by_cases hy : ∃ es len f,y = .rslice es len f
 ·obtain ⟨es,len,f,rfl⟩ := hy
  obtain ⟨O,g1,g2,oi,g3,g4⟩ := leaf_slice h hx ho he hpl.1 n
  refine ⟨O,⟨g1,fun i k oi' hk hO=>?_⟩,fun z hz=>?_⟩
  ·cases i with
   | zero =>
    simp [adoptL] at hk
    subst hk
    have : oi = oi' := by rw [Nat.add_zero,g3] at hO; exact Option.some.inj hO
    subst this
    exact g4
   | succ i=>simp [adoptL] at hk
  ·simp [adoptL] at hz
   subst hz
   exact g2
 ·have hne : ∀ es len f,y ≠ .rslice es len f := fun es len f e=>hy ⟨es,len,f,e⟩
  have e : adoptL [y] n = ([y],[]) := by cases y <;> first | exact absurd rfl (hne _ _ _) | rfl
  rw [e]
  refine ⟨_,⟨(Piece.nil n).ids (fun i hi=>by simp at hi),(Adp.nil n (base := base) (c := c)).blks⟩,fun z hz=>?_⟩
  simp at hz
  subst hz
  rcases leaf_plain (p := fun _=>False) hx ho he hne with g | g
  ·exact .tree g.1
  ·exact .tree g

theorem adoptL_cons (y : AV) (ys : List AV) (n : Nat) : adoptL (y :: ys) n = ((adoptL [y] n).1 ++ (adoptL ys (n + (adoptL [y] n).2.length)).1,(adoptL [y] n).2 ++ (adoptL ys (n + (adoptL [y] n).2.length)).2) ∧ (adoptL [y] n).1.length = 1 := by
  cases y <;> simp [adoptL]

theorem idsOf_cons (x : AV) (xs : List AV) : idsOf hp (x :: xs) = idsOf hp [x] ++ idsOf hp xs := by
 unfold idsOf
 rw [show x :: xs = [x] ++ xs from rfl,List.filterMap_append]

theorem PlainR_cons (y : AV) (ys : List AV) : PlainR (y :: ys) ↔ PlainR [y] ∧ PlainR ys := by
  cases y <;> simp [PlainR]

theorem PlainR_append : ∀ (l m : List AV),PlainR (l ++ m) ↔ PlainR l ∧ PlainR m
 | [],m=>by simp [PlainR]
 | x :: l,m=>by
  rw [List.cons_append,PlainR_cons,PlainR_append l m,PlainR_cons x l]
  exact and_assoc.symm

theorem adoptL_ok (h : HR P base w c hp) {k jj : Nat} : ∀ (ys xs : List AV) (n : Nat) (vs : Nat → Value),xs.length = ys.length → (∀ (i : Nat) x,xs[i]? = some x → VR P w c x (vs i)) → (∀ x ∈ xs,(ownLeaf hp x).isSome = true) → (idsOf hp xs).Nodup →
  (∀ (i : Nat) x y,xs[i]? = some x → ys[i]? = some y → AVE (k + 1) (freeze hp (jj + 1) x) y) → PlainR ys →
  ∃ O,Adp yv P w c base n (idsOf hp xs) (adoptL ys n).2 O ∧ (adoptL ys n).1.length = ys.length ∧ ∀ (i : Nat) z,(adoptL ys n).1[i]? = some z → VR P w (eCx yv O) z (vs i)
 | [],xs,n,vs,hl,_,_,_,_,_=>by
  have : xs = [] := List.length_eq_zero_iff.1 hl
  subst this
  exact ⟨_,Adp.nil n,rfl,fun i z hz=>by simp [adoptL] at hz⟩
 | y :: ys,[],n,vs,hl,_,_,_,_,_=>by simp at hl
 | y :: ys, x :: xs, n, vs, hl, hx, ho, hn, he, hp' => by
  rw [PlainR_cons] at hp'
  rw [idsOf_cons,List.nodup_append] at hn
  obtain ⟨O1,a1,a2⟩ := leaf_ok h (hx 0 x rfl) (ho x (.head _)) (he 0 x y rfl rfl) hp'.1 n
  obtain ⟨O2,b1,bl,b2⟩ := adoptL_ok h (k := k) (jj := jj) ys xs (n + (adoptL [y] n).2.length) (fun i=>vs (i + 1)) (by simpa using hl) (fun i x hi=>hx (i + 1) x (by simpa using hi)) (fun x hx=>ho x (.tail _ hx)) hn.2.1
   (fun i x y hi hj=>he (i + 1) x y (by simpa using hi) (by simpa using hj)) hp'.2
  obtain ⟨e,el⟩ := adoptL_cons y ys n
  obtain ⟨O,g1,g2,g3⟩ := Adp.join h a1 b1 (fun i hi hj=>hn.2.2 i hi i hj rfl)
  rw [e,idsOf_cons]
  refine ⟨O,g1,by simp [el,bl]; omega,fun i z hz=>?_⟩
  cases i with
  | zero =>
   rw [List.getElem?_append_left (by omega)] at hz
   exact (a2 z hz).enlarge g2
  | succ i =>
   rw [List.getElem?_append_right (by omega),el] at hz
   exact (b2 i z (by simpa using hz)).enlarge g3

theorem adopt1_ok (h : HR P base w c hp) {k jj : Nat} {x y : AV} {v : Value} (hx : VR P w c x v) (ho : ∀ z ∈ x.cells,(ownLeaf hp z).isSome = true) (hn : (idsOf hp x.cells).Nodup) (he : AVE (k + 2) (freeze hp (jj + 2) x) y) (hpl : PlainR y.cells) (n : Nat) :
  ∃ O,Adp yv P w c base n (idsOf hp x.cells) (adopt1 y n).2 O ∧ VR P w (eCx yv O) (adopt1 y n).1 v := by
 by_cases hagg : ∃ l,x = .agg l
 ·obtain ⟨l,rfl⟩ := hagg
  obtain ⟨vs,rfl,hs,h1,hr⟩ := hx.agg_inv
  cases y with
  | agg l' =>
   have he' : (l.map (freeze hp (jj + 1))).length = l'.length ∧ ∀ i x y,nth? (l.map (freeze hp (jj + 1))) i = some x → nth? l' i = some y → AVE (k + 1) x y := by simpa [freeze,AVE] using he
   obtain ⟨O,g1,gl,g2⟩ := adoptL_ok h (k := k) (jj := jj) l' l n (fun i=>vs.getD i undef) (by simpa using he'.1) (fun i x hi=>hr i x hi) ho hn
    (fun i x y hi hj=>he'.2 i _ y (by rw [nth?_eq,List.getElem?_map,hi]; rfl) (by rw [nth?_eq]; exact hj)) hpl
   exact ⟨O,g1,.agg _ vs (by show vs.size = (adoptL l' n).1.length; rw [gl,hs,← he'.1,List.length_map]) h1 g2⟩
  | _=>simp [freeze,AVE] at he
 ·have hc : x.cells = [x] := by cases x <;> first | exact absurd ⟨_,rfl⟩ hagg | rfl
  have hox := ho x (by rw [hc]; exact .head _)
  have hny : ∀ l,y ≠ .agg l := fun l e=>by
   subst e
   cases x with
   | val u=>simp [freeze,AVE] at he
   | eslice=>simp [freeze,AVE] at he
   | oslice b ver off ln cap =>
    simp only [ownLeaf] at hox
    split at hox
    ·rename_i kk hk
     cases hf : kk.flat with
     | false=>rw [hf] at hox; simp at hox
     | true=>simp [freeze,hk,hf,AVE] at he
    ·simp at hox
   | agg l=>exact hagg ⟨l,rfl⟩
   | top=>simp [ownLeaf] at hox
   | tuple=>simp [ownLeaf] at hox
   | func=>simp [ownLeaf] at hox
   | rslice=>simp [ownLeaf] at hox
   | rptr=>simp [ownLeaf] at hox
   | optr=>simp [ownLeaf] at hox
   | omap=>simp [ownLeaf] at hox
   | yld=>simp [ownLeaf] at hox
   | oiter=>simp [ownLeaf] at hox
   | err=>simp [ownLeaf] at hox
   | aslice=>simp [ownLeaf] at hox
   | cslice=>simp [ownLeaf] at hox
   | rmap=>simp [ownLeaf] at hox
  have hcy : y.cells = [y] := by cases y <;> first | exact absurd rfl (hny _) | rfl
  rw [hcy] at hpl
  rw [hc]
  obtain ⟨O,g1,g2⟩ := leaf_ok h (k := k + 1) (jj := jj + 1) hx hox he hpl n
  have e : adoptL [y] n = ([(adopt1 y n).1],(adopt1 y n).2) := by cases y <;> first | exact absurd rfl (hny _) | rfl
  rw [e] at g1 g2
  exact ⟨O,g1,g2 _ rfl⟩

theorem idsOf_append (l m : List AV) : idsOf hp (l ++ m) = idsOf hp l ++ idsOf hp m := by
  unfold idsOf; rw [List.filterMap_append]

theorem adoptT_ok (h : HR P base w c hp) {k jj : Nat} : ∀ (ys xs : List AV) (n : Nat) (vs : Nat → Value),xs.length = ys.length → (∀ (i : Nat) x,xs[i]? = some x → VR P w c x (vs i)) → (∀ x ∈ xs.flatMap AV.cells,(ownLeaf hp x).isSome = true) → (idsOf hp (xs.flatMap AV.cells)).Nodup →
  (∀ (i : Nat) x y,xs[i]? = some x → ys[i]? = some y → AVE (k + 2) (freeze hp (jj + 2) x) y) → PlainR (ys.flatMap AV.cells) →
  ∃ O,Adp yv P w c base n (idsOf hp (xs.flatMap AV.cells)) (adoptT ys n).2 O ∧ (adoptT ys n).1.length = ys.length ∧ ∀ (i : Nat) z,(adoptT ys n).1[i]? = some z → VR P w (eCx yv O) z (vs i)
 | [],xs,n,vs,hl,_,_,_,_,_=>by
  have : xs = [] := List.length_eq_zero_iff.1 hl
  subst this
  exact ⟨_,Adp.nil n,rfl,fun i z hz=>by simp [adoptT] at hz⟩
 | y :: ys,[],n,vs,hl,_,_,_,_,_=>by simp at hl
 | y :: ys, x :: xs, n, vs, hl, hx, ho, hn, he, hp' => by
  rw [List.flatMap_cons] at ho hn hp' ⊢
  rw [PlainR_append] at hp'
  rw [idsOf_append,List.nodup_append] at hn
  obtain ⟨O1,a1,a2⟩ := adopt1_ok h (hx 0 x rfl) (fun x hx=>ho x (List.mem_append_left _ hx)) hn.1 (he 0 x y rfl rfl) hp'.1 n
  obtain ⟨O2,b1,bl,b2⟩ := adoptT_ok h (k := k) (jj := jj) ys xs (n + (adopt1 y n).2.length) (fun i=>vs (i + 1)) (by simpa using hl) (fun i x hi=>hx (i + 1) x (by simpa using hi)) (fun x hx=>ho x (List.mem_append_right _ hx)) hn.2.1
   (fun i x y hi hj=>he (i + 1) x y (by simpa using hi) (by simpa using hj)) hp'.2
  obtain ⟨O,g1,g2,g3⟩ := Adp.join h a1 b1 (fun i hi hj=>hn.2.2 i hi i hj rfl)
  rw [idsOf_append]
  refine ⟨O,g1,by simp [adoptT,bl],fun i z hz=>?_⟩
  cases i with
  | zero =>
   simp [adoptT] at hz
   subst hz
   exact a2.enlarge g2
  | succ i =>
   simp [adoptT] at hz
   exact (b2 i z hz).enlarge g3

theorem adopt_ok (h : HR P base w c hp) {k jj : Nat} {x y : AV} {v : Value} (hx : VR P w c x v) (ho : ownB hp (leaves x) [] = true) (he : AVE (k + 3) (freeze hp (jj + 3) x) y) (hpl : PlainR (leaves y)) (n : Nat) :
  ∃ O,Adp yv P w c base n (idsOf hp (leaves x)) (adopt y n).2 O ∧ VR P w (eCx yv O) (adopt y n).1 v := by
 obtain ⟨o1,o2,_⟩ := ownB_ok (leaves x) [] ho
 by_cases htup : ∃ l,x = .tuple l
 ·obtain ⟨l,rfl⟩ := htup
  obtain ⟨vs,rfl,hs,hr⟩ := hx.tuple_inv
  cases y with
  | tuple l' =>
   have he' : (l.map (freeze hp (jj + 2))).length = l'.length ∧ ∀ i x y,nth? (l.map (freeze hp (jj + 2))) i = some x → nth? l' i = some y → AVE (k + 2) x y := by simpa [freeze,AVE] using he
   obtain ⟨O,g1,gl,g2⟩ := adoptT_ok h (k := k) (jj := jj) l' l n (fun i=>vs.getD i undef) (by simpa using he'.1) (fun i x hi=>hr i x hi) o1 o2
    (fun i x y hi hj=>he'.2 i _ y (by rw [nth?_eq,List.getElem?_map,hi]; rfl) (by rw [nth?_eq]; exact hj)) hpl
   exact ⟨O,g1,.tuple _ vs (by show vs.size = (adoptT l' n).1.length; rw [gl,hs,← he'.1,List.length_map]) g2⟩
  | _=>simp [freeze,AVE] at he
 ·have hlx : leaves x = x.cells := by cases x <;> first | exact absurd ⟨_,rfl⟩ htup | rfl
  have hny : ∀ l,y ≠ .tuple l := fun l e=>by
   subst e
   rw [hlx] at o1
   cases x with
   | val u=>simp [freeze,AVE] at he
   | eslice=>simp [freeze,AVE] at he
   | oslice b ver off ln cap =>
    have hox := o1 _ (.head _)
    simp only [ownLeaf] at hox
    split at hox
    ·rename_i kk hk
     cases hf : kk.flat with
     | false=>rw [hf] at hox; simp at hox
     | true=>simp [freeze,hk,hf,AVE] at he
    ·simp at hox
   | agg l=>simp [freeze,AVE] at he
   | tuple l=>exact htup ⟨l,rfl⟩
   | top=>have hox := o1 _ (.head _); simp [ownLeaf] at hox
   | func=>have hox := o1 _ (.head _); simp [ownLeaf] at hox
   | rslice=>have hox := o1 _ (.head _); simp [ownLeaf] at hox
   | rptr=>have hox := o1 _ (.head _); simp [ownLeaf] at hox
   | optr=>have hox := o1 _ (.head _); simp [ownLeaf] at hox
   | omap=>have hox := o1 _ (.head _); simp [ownLeaf] at hox
   | yld=>have hox := o1 _ (.head _); simp [ownLeaf] at hox
   | oiter=>have hox := o1 _ (.head _); simp [ownLeaf] at hox
   | err=>have hox := o1 _ (.head _); simp [ownLeaf] at hox
   | aslice=>have hox := o1 _ (.head _); simp [ownLeaf] at hox
   | cslice=>have hox := o1 _ (.head _); simp [ownLeaf] at hox
   | rmap=>have hox := o1 _ (.head _); simp [ownLeaf] at hox
  have hly : leaves y = y.cells := by cases y <;> first | exact absurd rfl (hny _) | rfl
  have ea : adopt y n = adopt1 y n := by cases y <;> first | exact absurd rfl (hny _) | rfl
  rw [hlx] at o1 o2 ⊢
  rw [hly] at hpl
  rw [ea]
  exact adopt1_ok h (k := k + 1) (jj := jj + 1) hx o1 o2 he hpl n

theorem fresh_at (h : HR P base w c hp) {x y : AV} {v : Value} (hx : VR P w c x v) (ho : ownB hp (leaves x) [] = true) (he : AVE 5 (fz hp x) y) (hpl : PlainR (leaves y)) (n : Nat) : FreshAt P base w n y v := by
 intro yv
 obtain ⟨O,g1,g2⟩ := adopt_ok (yv := yv) h (k := 2) (jj := 2) hx ho he hpl n
 refine ⟨O,fun _=>False,fun b oi hb=>?_,fun _ hf=>hf.elim,g2,g1.blks,g1.piece.sep⟩
 have hd := g1.piece.dom b oi hb
 refine ⟨hd.1,hd.2,fun hc=>?_⟩
 obtain ⟨i,_,o0,p1,p2,p3⟩ := g1.piece.src b oi hb hc
 have := h.own i o0 p1 p2
 rw [p3]
 exact ⟨this.1,this.2,id⟩
end
end Go.Tr

/- From a body to the contract of its function. Conditions: regions that draw are taken as a premise here. -/
namespace Go.Tr
open Go Go.RowKit

variable [GTab]

theorem run_enter {P : Program} {f : FuncId} {fn : Func} {c : Code} (hf : P.funcs[f]? = some fn) (hn : (fn.name == "runtime.NumGoroutine") = false) (hb : fn.body = some c) (as : Array Value) (w : World) : (callFunc f as).run P w = .ok (.enter f as) w := by
 unfold callFunc
 have hn' := beq_eq_false_iff_ne.1 hn
 simp [hf,hn',hb]

def Gives (P : Program) (w : World) (q : Nat → Prop) (r : AV) (fr : Bool) (e : Ending) (w' : World) : Prop := ∃ u,e = .returned u ∧ Below w.heap.size w w' ∧
      match fr with
      | false=>VT P w' (fun b=>q b ∨ (w.heap.size ≤ b ∧ b < w'.heap.size)) r u
      | true=>∀ n,FreshAt P w.heap.size w' n r u

theorem start_rel {P : Program} {w : World} {c : Cx} {n : Nat} {args : List AV} {vs : Array Value} (hv : ArgsR P w c args vs) (t : Nat) : VR P w c (look (start args 0) t) ((vs ++ Array.replicate (n - vs.size) undef).getD t undef) := by
 rw [getElem?_start]
 by_cases ht : 0 ≤ t ∧ t < 0 + args.length
 ·rw [if_pos ht]
  have hlt : t < args.length := by omega
  have hs := hv.1
  have hx := hv.2 t _ (List.getElem?_eq_getElem hlt)
  simp only [Array.getD_eq_getD_getElem?] at hx ⊢
  rw [Array.getElem?_append_left (by omega)]
  simpa [hlt] using hx
 ·rw [if_neg ht]; exact .tree (.top _)

theorem leave_marks {P : Program} {F : Fr} {w0 : World} {q : Nat → Prop} {s : St} {c : Cx} {fn : Func} {R : Ending → World → Prop} : ∀ (ds : List Nat) (a : Act) (w : World),SR P F w0 q s a w c → a.defers = ds.map markOf → ds.Nodup →
  (∀ D ∈ ds,c.p D ∧ w0.heap.size ≤ D ∧ w.heap[D]? = some (.deferred (some [])) ∧ ∀ x ∈ F.G,x.1 ≠ D) →
  (∀ a' w',SR P F w0 q s a' w' c → a'.tmps = a.tmps → ∃ v,(results fn a'.tmps).run P w' = .ok v w' ∧ R (.returned v) w') → LeavesInM (FR none) 0 P fn a.tmps R (ds.map markOf) .returning w
 | [],a,w,h,hd,_,_,hR=>by
  obtain ⟨v,g1,g2⟩ := hR a w h rfl
  exact ⟨v,g1,g2⟩
 | D :: ds, a, w, h, hd, hnd, hD, hR => by
  obtain ⟨p1,p2,p3,p4⟩ := hD D (.head _)
  have hnd' := List.nodup_cons.1 hnd
  refine ⟨by simp,.inl ⟨D,_,rfl,run_takeDeferred p3,?_⟩⟩
  have t1 := putObj_cell (o' := .deferred none) p3 rfl
  have t2 : ∀ (r : Nat) es k,w.heap[r]? = some (.map es k) → (w.putObj D (.deferred none)).heap[r]? = some (.map es k) := fun r es k hr=>putObj_block p3 hr (fun e=>by cases e)
  have hturn := h.toHS.turn (o' := .deferred none) (G' := F.G) (rc' := F.rc) p3 rfl ⟨(fun es k e=>by cases e),(fun a b s d e=>by cases e)⟩ p2 (fun x hx=>by
   obtain ⟨u1,u2,u3,u4⟩ := h.keep x hx
   exact ⟨u1,u2,(World.putObj_heap_other (p4 x hx)).trans u3,u4⟩) (fun i l rc hrc=>by
   obtain ⟨u1,u2,u3,u4⟩ := h.rcd i l rc hrc
   exact ⟨u1,u2,u3,putObj_block p3 u4 (fun e=>by cases e)⟩)
  have hrest : ∀ D' ∈ ds,c.p D' ∧ w0.heap.size ≤ D' ∧ (w.putObj D (.deferred none)).heap[D']? = some (.deferred (some [])) ∧ ∀ x ∈ F.G,x.1 ≠ D' := fun D' hD'=>by
   obtain ⟨q1,q2,q3,q4⟩ := hD D' (.tail _ hD')
   exact ⟨q1,q2,(World.putObj_heap_other (fun e : D' = D=>hnd'.1 (by rw [← e]; exact hD'))).trans q3,q4⟩
  have h' : SR P F w0 q s { a with defers := ds.map markOf } (w.putObj D (.deferred none)) c := ⟨hturn,fun t=>(h.tm t).turn t1 t2,h.size,ds,rfl,hnd'.2,hrest⟩
  exact leave_marks ds { a with defers := ds.map markOf } _ h' rfl hnd'.2 hrest hR

theorem sr_start {P : Program} {n : Nat} {args : List AV} {w : World} {q : Nat → Prop} {vs : Array Value} (hlen : args.length ≤ n) (hq : ∀ b,q b → b < w.heap.size) (hg : GOk P w q) (hs : vs.size = args.length) (hv : ∀ (i : Nat) x,args[i]? = some x → VT P w q x (vs.getD i undef)) :
  SR P ⟨n,fun _=>undef,none,[],none⟩ w q { tm := start args 0,hp := ⟨[],[],none,0⟩ } { tmps := vs ++ Array.replicate (n - vs.size) undef,defers := [] } w ⟨q,fun _=>none,fun _=>none,fun _=>none⟩ := by
 refine ⟨⟨⟨fun b k oi hk=>(by simp at hk),fun b b' oi oi' h=>(by cases h),fun b oi h=>(by cases h),hq,fun b m r hk=>(by simp at hk),fun b r h=>(by cases h),fun b b' r h=>(by cases h),fun b i oi r h=>(by cases h)⟩,
  ⟨fun b oi h=>(by cases h),fun b r h=>(by cases h)⟩,fun b oi h=>(by cases h),fun b r h=>(by cases h),fun b r h=>(by cases h),Below.refl _ _,fun b hb=>.inl hb,fun i=>.tree (.top _),fun x hx=>(by cases hx),fun i l rc h=>(by cases h),hg⟩,
  fun t=>start_rel ⟨hs,fun i x hi=>.tree (hv i x hi)⟩ t,(by simp; omega),[],rfl,List.nodup_nil,fun D hD=>by cases hD⟩

theorem result_val {P : Program} {T : Nat → Option TI} (hT : TOK P T) {F : Fr} {w0 w : World} {q : Nat → Prop} {s : St} {a : Act} {c : Cx} (h : SR P F w0 q s a w c) {fn : Func} {l : List AV} (hl : resAV T s fn.results.toList = some l) : ∃ u,(results fn a.tmps).run P w = .ok u w ∧ VR P w c (oneOf l) u := by
 obtain ⟨us,g1,g2,g3⟩ := results_ok hT h fn.results.toList l hl
 refine ⟨_,run_results g1,?_⟩
 by_cases h1 : us.length = 1
 ·rw [if_pos h1]
  obtain ⟨u,rfl⟩ := List.length_eq_one_iff.1 h1
  obtain ⟨x,rfl⟩ := List.length_eq_one_iff.1 (g2.symm.trans h1)
  exact g3 0 x rfl
 ·rw [if_neg h1]
  have : oneOf l = .tuple l := by
   have hne : l.length ≠ 1 := fun e=>h1 (g2.trans e)
   cases l with
   | nil=>rfl
   | cons x l=>cases l with
    | nil=>exact absurd rfl hne
    | cons y l=>rfl
  rw [this]
  exact .tuple l us.toArray (by simpa using g2) fun i x hi=>by simpa using g3 i x hi

theorem gives_of_post {P : Program} {T : Nat → Option TI} (hT : TOK P T) {F : Fr} {w w' : World} {q : Nat → Prop} {s' : St} {a' : Act} {c' : Cx} {fn : Func} {r : AV} {fr : Bool} {e : Ex} (h : SR P F w q s' a' w' c') (hq' : post T fn r fr e s') : bodyPostM (FR none) 0 P fn (Gives P w q r fr) (toExit e) a' w' := by
 have fin : Fin T fn r fr s' → ∀ a2 w2,SR P F w q s' a2 w2 c' → a2.tmps = a'.tmps → ∃ v,(results fn a2.tmps).run P w2 = .ok v w2 ∧ Gives P w q r fr (.returned v) w2 := by
  intro hfin a2 w2 h _
  unfold Fin at hfin
  split at hfin
  ·exact hfin.elim
  rename_i l hl
  obtain ⟨u,g1,hx⟩ := result_val hT h hl
  refine ⟨u,g1,_,rfl,h.below,?_⟩
  cases fr with
  | true =>
   intro n
   exact fresh_at h.hr hx (hfin.2 rfl).1 hfin.1 (hfin.2 rfl).2 n
  | false =>
   refine (AVE_ok 5 hfin.1 (freeze_ok h.hr 5 hx)).weaken fun b hb=>?_
   have hlt : b < w2.heap.size := by
    rcases hb with hb | ⟨i,_,oi,hO,hc,rfl⟩ | ⟨i,_,hN⟩
    ·exact h.hr.st b hb
    ·exact (h.hr.own i oi hO hc).2
    ·exact (h.hr.mown i b hN).2
   have hor : q b ∨ w.heap.size ≤ b := by
    rcases hb with hb | ⟨i,_,oi,hO,hc,rfl⟩ | ⟨i,_,hN⟩
    ·exact h.pq b hb
    ·exact .inr (h.hr.own i oi hO hc).1
    ·exact .inr (h.hr.mown i b hN).1
   exact hor.imp (fun g=>g) fun g=>⟨g,hlt⟩
 obtain ⟨ds,d1,d2,d3⟩ := h.defers
 cases e with
 | normal=>show LeavesInM _ _ _ _ _ _ a'.defers _ _; rw [d1]; exact leave_marks ds a' w' h d1 d2 d3 (fin hq')
 | ret=>show LeavesInM _ _ _ _ _ _ a'.defers _ _; rw [d1]; exact leave_marks ds a' w' h d1 d2 d3 (fin hq')
 | exit id=>exact hq'.elim

theorem ind_ok {P : Program} {T : Nat → Option TI} (hT : TOK P T) (hD : DrawnOk P T) {S : FuncId → List AV → AV → Bool → Prop} (hS : ∀ f args r fr,S f args r fr → Sound1 P f args r fr) : ∀ d,IOk P (INd T (fun f=>P.funcs[f]?) S d)
 | 0=>fun _ _ _ _ _ _ hf=>hf.elim
 | d + 1 => by
  intro Y f args n s K hI X G rc w0 q w c vs hHS hargs hY
  unfold INd at hI
  split at hI
  ·exact hI.elim
  rename_i fn hf
  split at hI
  ·exact hI.elim
  rename_i cd hcd
  split at hI
  case h_2=>exact hI.elim
  rename_i hchk
  rw [Bool.and_eq_true] at hchk
  have hlen : args.length ≤ fn.ntmps := Nat.le_of_ble_eq_true hchk.2
  refine ⟨run_enter hf (by simpa using hchk.1) hcd,callsIn_of_wp_marks hf hcd trivial ?_⟩
  have hE : EnvOk P ⟨fn.ntmps,X,none,G,rc⟩ w0 q { S,I := INd T (fun f=>P.funcs[f]?) S d,Y,rok := true,any := true } := ⟨hS,ind_ok hT hD hS d,.inr ⟨rfl,hY⟩,fun _=>rfl,fun _ _ _ _ _ _ hf=>hf.elim⟩
  have h0 : SR P ⟨fn.ntmps,X,none,G,rc⟩ w0 q { tm := start args 0,hp := s.hp,sv := pushSv n s.tm s.sv } { tmps := vs ++ Array.replicate (fn.ntmps - vs.size) undef,defers := [] } w c :=
   ⟨hHS,fun t=>start_rel hargs t,(by have := hargs.1; simp; omega),[],rfl,List.nodup_nil,fun D hD=>by cases hD⟩
  refine awp_ok hT hD cd ⟨fn.ntmps,X,none,G,rc⟩ _ hE _ _ _ _ _ _ (fun e s' a' w' c' h hq'=>?_) h0 hI
  obtain ⟨ds,d1,d2,d3⟩ := h.defers
  have fin : (match resAV T s' fn.results.toList with
    | some l=>K (oneOf l) { tm := popTm n s'.sv,hp := s'.hp,sv := popSv n s'.sv }
    | none=>False) → bodyPostM (FR none) 0 P fn (fun e w'=>∃ u,e = .returned u ∧ ∃ r hp' sv' c',HS P X G rc w0 q hp' sv' w' c' ∧ VR P w' c' r u ∧ K r { tm := popTm n sv',hp := hp',sv := popSv n sv' }) .ret a' w' := fun hk=>by
   show LeavesInM _ _ _ _ _ _ a'.defers _ _
   rw [d1]
   refine leave_marks ds a' w' h d1 d2 d3 fun a2 w2 h2 _=>?_
   split at hk
   ·rename_i l hl
    obtain ⟨u,g1,g2⟩ := result_val hT h2 hl
    exact ⟨u,g1,u,rfl,oneOf l,s'.hp,s'.sv,c',h2.toHS,g2,hk⟩
   ·exact hk.elim
  cases e with
  | normal=>exact fin hq'
  | ret=>exact fin hq'
  | exit id=>exact hq'.elim

def envOf (P : Program) (T : Nat → Option TI) (d : Nat) : Env := { S := Sound1 P,I := INd T (fun f=>P.funcs[f]?) (Sound1 P) d,Y := noY,rok := true,any := true,M := Sound2 P }

theorem envOf_ok {P : Program} {T : Nat → Option TI} (hT : TOK P T) (hD : DrawnOk P T) (d n : Nat) (w0 : World) (q : Nat → Prop) : EnvOk P ⟨n,fun _=>undef,none,[],none⟩ w0 q (envOf P T d) :=
  ⟨fun _ _ _ _ h=>h,ind_ok hT hD (fun _ _ _ _ h=>h) d,.inl rfl,fun _=>rfl,fun _ _ _ _ _ _ h=>h⟩

theorem sound_of_body {P : Program} {T : Nat → Option TI} (hT : TOK P T) {d : Nat} {f : FuncId} {fn : Func} {args : List AV} {r : AV} {fr : Bool} (hD : DrawnOk P T) (hf : P.funcs[f]? = some fn) (hn : (fn.name == "runtime.NumGoroutine") = false) (hlen : args.length ≤ fn.ntmps) (hb : Body (envOf P T d) T fn args r fr) : Sound1 P f args r fr := by
 unfold Body at hb
 split at hb
 ·exact hb.elim
 rename_i cd hcd
 exact ⟨run_enter hf hn hcd,fun w q vs hq hg hs hv=>callsIn_wide.1 (callsIn_of_wp_marks (F := FR none) (n := 0) hf hcd trivial (awp_ok hT hD cd ⟨fn.ntmps,fun _=>undef,none,[],none⟩ _ (envOf_ok hT hD d _ _ _) _ _ _ _ _ _ (fun e s' a' w' c' h hq'=>gives_of_post hT h hq') (sr_start hlen hq hg hs hv) hb))⟩
end Go.Tr
