/- Operations that write: stores and appends. Conditions: none. -/
import Derived.Test.YtinfmponjglalaaGreatDoorTr01
import Derived.MapKept
import Derived.Laws.IdiomStrings
set_option linter.unusedSectionVars false
set_option linter.unnecessarySimpa false
set_option linter.unusedVariables false
set_option linter.unusedSimpArgs false

namespace Go.Tr
open Go Go.RowKit
variable [GTab]

section
variable {P : Program} {T : Nat → Option TI} {w w' : World} {c c' : Cx} {base : Nat} {hp hp' : Hp}

structure EOut (P : Program) (base : Nat) (w : World) (c : Cx) (hp : Hp) (w' : World) (c' : Cx) (hp' : Hp) : Prop where
 hr : HR P base w' c' hp'
 ext : Ext base w c w' c'
 ro : RO c' hp'
 blen : hp'.blocks.length = hp.blocks.length
 mlen : hp'.maps.length = hp.maps.length
 oNew : ∀ b oi,c'.O b = some oi → ∃ oi',c.O b = some oi'
 nNew : ∀ b r,c'.N b = some r → ∃ r',c.N b = some r'
 pE : ∀ b,c'.p b → c.p b
 yE : c'.y = c.y

theorem set_get {l : List AB} {b i : Nat} {k' x : AB} (h : (setNth l b k')[i]? = some x) : (i = b ∧ x = k') ∨ (i ≠ b ∧ l[i]? = some x) := by
 rw [setNth_eq,List.getElem?_set] at h
 split at h
 ·rename_i hb
  split at h
  ·exact .inl ⟨hb.symm,(Option.some.inj h).symm⟩
  ·cases h
 ·rename_i hb; exact .inr ⟨fun e=>hb e.symm,h⟩

theorem set_block (h : HR P base w c hp) (ro : RO c hp) {b : Nat} {k k' : AB} {oi oi' : OI} (hk : hp.blocks[b]? = some k) (hO : c.O b = some oi) (hro : k.ro = false) (hbase : base ≤ w.heap.size)
  (hos : w'.os = w.os) (htape : w'.tape = w.tape) (hout : w'.output = w.output) (hsz : w.heap.size ≤ w'.heap.size)
  (hw : ∀ q,q < w.heap.size → q ≠ oi.blk ∨ oi.cap = 0 → w'.heap[q]? = w.heap[q]?)
  (hblk : oi'.cap ≠ 0 → (oi'.blk = oi.blk ∧ oi.cap ≠ 0) ∨ (w.heap.size ≤ oi'.blk ∧ oi'.blk < w'.heap.size))
  (hver : oi.ver ≤ oi'.ver ∧ (oi'.ver = oi.ver → oi' = oi)) (hro' : k'.ro = false)
  (hBR : Ext base w c w' (c.addO b oi') → BR P w' (c.addO b oi') k' oi') (hdr : Dr w.drawn w'.drawn := by first | exact Dr.refl _ | exact Dr.succ _) : EOut P base w c hp w' (c.addO b oi') (hp.setB b k') := by
 have hnp : oi.cap ≠ 0 → ¬ c.p oi.blk := fun hc hp'=>by
  obtain ⟨k2,hk2,hr2⟩ := ro.b b oi hO hc hp'
  rw [hk] at hk2; cases hk2; rw [hro] at hr2; cases hr2
 have hB0 := h.blk b k oi hk hO
 have hkeep : ∀ q,c.p q → w'.heap[q]? = w.heap[q]? := fun q hq=>hw q (h.st q hq) (by
  by_cases hc : oi.cap = 0
  ·exact .inr hc
  ·exact .inl fun e=>hnp hc (e ▸ hq))
 have hcase : ∀ b2 o2,(c.addO b oi').O b2 = some o2 → (b2 = b ∧ o2 = oi') ∨ (b2 ≠ b ∧ c.O b2 = some o2) := fun b2 o2 hb=>by
  simp only [Cx.addO] at hb
  by_cases hbn : b2 = b
  ·rw [if_pos hbn] at hb; exact .inl ⟨hbn,(Option.some.inj hb).symm⟩
  ·rw [if_neg hbn] at hb; exact .inr ⟨hbn,hb⟩
 have hbel : Below base w w' := ⟨hos,htape,hout,hsz,fun q hq=>hw q (by omega) (by
  by_cases hc : oi.cap = 0
  ·exact .inr hc
  ·exact .inl (by have := h.own b oi hO hc; omega)),hdr⟩
 have e : Ext base w c w' (c.addO b oi') := ⟨hbel,fun _ h=>h,hkeep,fun b2 o2 hb=>by
  by_cases hbn : b2 = b
  ·subst hbn
   rw [hO] at hb; cases hb
   exact ⟨oi',addO_self _ _ _,hver.1,hver.2⟩
  ·exact ⟨o2,by simp only [Cx.addO]; rw [if_neg hbn]; exact hb,Nat.le_refl _,fun _=>rfl⟩,fun _ _ h=>h,fun _ _ h=>h⟩
 have hother : ∀ b2 o2,b2 ≠ b → c.O b2 = some o2 → o2.cap ≠ 0 → w'.heap[o2.blk]? = w.heap[o2.blk]? := fun b2 o2 hne hO2 hc2=>hw _ (h.own b2 o2 hO2 hc2).2 (by
  rcases h.sep b2 b o2 oi hO2 hO hne with h1 | h1 | h1
  ·exact .inl h1
  ·exact absurd h1 hc2
  ·exact .inr h1)
 have hmap : ∀ b2 r m,hp.maps[b2]? = some m → c.N b2 = some r → w'.heap[r]? = w.heap[r]? := fun b2 r m hm hN=>hw r (h.mown b2 r hN).2 (by
  by_cases hc : oi.cap = 0
  ·exact .inr hc
  ·exact .inl fun er=>h.bm b b2 oi r hO hc hN er.symm)
 refine ⟨⟨fun b2 k2 o2 hk2 hO2=>?_,fun b2 b3 o2 o3 h2 h3 hne=>?_,fun b2 o2 hO2 hc=>?_,fun q hq=>by have := h.st q hq; omega,fun b2 m r hm hN=>(h.maps b2 m r hm hN).mono e (hmap b2 r m hm hN),fun b2 r hN=>by have := h.mown b2 r hN; omega,h.msep,fun b2 i o2 r hO2 hc hN=>?_⟩,e,
  ⟨fun b2 o2 hO2 hc hpp=>?_,fun b2 r hN hpp=>ro.m b2 r hN hpp⟩,by simp [Hp.setB,setNth_eq],rfl,fun b2 o2 hO2=>?_,fun b2 r hN=>⟨r,hN⟩,fun _ h=>h,rfl⟩
 ·rcases hcase b2 o2 hO2 with ⟨rfl,rfl⟩ | ⟨hne,hO2'⟩
  ·rcases set_get hk2 with ⟨_,rfl⟩ | ⟨hne,_⟩
   ·exact hBR e
   ·exact absurd rfl hne
  ·rcases set_get hk2 with ⟨he,_⟩ | ⟨_,hk2'⟩
   ·exact absurd he hne
   ·exact (h.blk b2 k2 o2 hk2' hO2').mono e (hother b2 o2 hne hO2')
 ·have key : ∀ b4 o4,b4 ≠ b → c.O b4 = some o4 → oi'.blk ≠ o4.blk ∨ oi'.cap = 0 ∨ o4.cap = 0 := fun b4 o4 hne4 hO4=>by
   by_cases hc : oi'.cap = 0
   ·exact .inr (.inl hc)
   ·by_cases hc4 : o4.cap = 0
    ·exact .inr (.inr hc4)
    ·rcases hblk hc with ⟨he,hc0⟩ | ⟨hge,_⟩
     ·rcases h.sep b b4 oi o4 hO hO4 (fun e=>hne4 e.symm) with h1 | h1 | h1
      ·exact .inl (by rw [he]; exact h1)
      ·exact absurd h1 hc0
      ·exact absurd h1 hc4
     ·have := h.own b4 o4 hO4 hc4; exact .inl (by omega)
  rcases hcase b2 o2 h2 with ⟨rfl,rfl⟩ | ⟨hne1,hO1⟩ <;> rcases hcase b3 o3 h3 with ⟨rfl,rfl⟩ | ⟨hne2,hO2⟩
  ·exact absurd rfl hne
  ·exact key b3 o3 hne2 hO2
  ·rcases key b2 o2 hne1 hO1 with h | h | h
   ·exact .inl (fun e=>h e.symm)
   ·exact .inr (.inr h)
   ·exact .inr (.inl h)
  ·exact h.sep b2 b3 o2 o3 hO1 hO2 hne
 ·rcases hcase b2 o2 hO2 with ⟨rfl,rfl⟩ | ⟨_,hO2'⟩
  ·rcases hblk hc with ⟨he,hc0⟩ | ⟨hge,hlt⟩
   ·have := h.own b2 oi hO hc0; rw [he]; omega
   ·omega
  ·have := h.own b2 o2 hO2' hc; omega
 ·rcases hcase b2 o2 hO2 with ⟨rfl,rfl⟩ | ⟨_,hO2'⟩
  ·rcases hblk hc with ⟨he,hc0⟩ | ⟨hge,_⟩
   ·rw [he]; exact h.bm b2 i oi r hO hc0 hN
   ·have := h.mown i r hN; omega
  ·exact h.bm b2 i o2 r hO2' hc hN
 ·rcases hcase b2 o2 hO2 with ⟨rfl,rfl⟩ | ⟨hne,hO2'⟩
  ·rcases hblk hc with ⟨he,hc0⟩ | ⟨hge,_⟩
   ·rw [he] at hpp; exact absurd hpp (hnp hc0)
   ·have := h.st _ hpp; omega
  ·obtain ⟨k2,hk2,hr2⟩ := ro.b b2 o2 hO2' hc hpp
   refine ⟨k2,?_,hr2⟩
   show (setNth hp.blocks b k')[b2]? = some k2
   rw [setNth_eq,List.getElem?_set_ne (fun e=>hne e.symm)]; exact hk2
 ·rcases hcase b2 o2 hO2 with ⟨rfl,rfl⟩ | ⟨_,hO2'⟩
  ·exact ⟨oi,hO⟩
  ·exact ⟨o2,hO2'⟩
end
end Go.Tr

/- A store; an append in place; an append into new memory. Conditions: none. -/
namespace Go.Tr
open Go Go.RowKit
variable [GTab]

section
variable {P : Program} {T : Nat → Option TI} {w w' : World} {c c' : Cx} {base : Nat} {hp hp' : Hp}

theorem seg_get (l vs : List Value) (o k : Nat) (h : o + vs.length ≤ l.length) :
  (l.take o ++ vs ++ l.drop (o + vs.length))[k]? = if o ≤ k ∧ k - o < vs.length then vs[k - o]? else l[k]? := by
 have hto : (l.take o).length = o := by simp; omega
 by_cases h1 : k < o
 ·rw [if_neg (by omega),List.append_assoc,List.getElem?_append_left (by omega),List.getElem?_take,if_pos h1]
 ·by_cases h2 : k - o < vs.length
  ·rw [if_pos ⟨by omega,h2⟩,List.append_assoc,List.getElem?_append_right (by omega),hto,List.getElem?_append_left h2]
  ·rw [if_neg (by omega),List.getElem?_append_right (by simp; omega),List.getElem?_drop]
   congr 1
   simp
   omega

theorem seg_one {l vs : List Value} {o : Nat} (h1 : ∀ v ∈ l,v.oneCell' = true) (h2 : ∀ v ∈ vs,v.oneCell' = true) : ∀ v ∈ l.take o ++ vs ++ l.drop (o + vs.length),v.oneCell' = true := by
 intro v hv
 simp only [List.mem_append] at hv
 rcases hv with (hv | hv) | hv
 ·exact h1 v (List.mem_of_mem_take hv)
 ·exact h2 v hv
 ·exact h1 v (List.mem_of_mem_drop hv)

theorem write_row (h : HR P base w c hp) (ro : RO c hp) (hbase : base ≤ w.heap.size) {b : Nat} {k k' : AB} {oi : OI} (hk : hp.blocks[b]? = some k) (hO : c.O b = some oi) (hro : k.ro = false) (hcap : oi.cap ≠ 0)
  {cs : Array Value} {t : TypeId} (hrow : w.heap[oi.blk]? = some (.cells cs t (0,0))) {idx sub : Nat} {x : AV} {u : Value} (hx : CR P w c x.cells u.cells) (hidx : idx < k.len) (hsub : sub + x.cells.length ≤ k.es)
  (hes : k'.es = k.es) (hlen : k'.len = k.len) (hver : k'.ver = k.ver) (hro' : k'.ro = false) (hf : ∀ i,i < k.len → k'.f i = if i = idx then splice (k.f i) sub x.cells else k.f i)
  (hflat : k'.flat = true → k.flat = true ∧ x.cells.all (AV.tree 4) = true) :
  EOut P base w c hp (w.setRow oi.blk (cs.toList.take (oi.lo + (idx * oi.es + sub)) ++ u.cells.toList ++ cs.toList.drop (oi.lo + (idx * oi.es + sub) + u.cells.toList.length)).toArray) (c.addO b oi) (hp.setB b k') := by
 have hB := h.blk b k oi hk hO
 obtain ⟨cs',t',hrow',hsz,hone⟩ := hB.row hcap
 rw [hrow] at hrow'
 cases hrow'
 have hul : u.cells.toList.length = x.cells.length := by simpa using hx.size
 have hidx' : idx < oi.cap := by have := hB.n; have := hB.le; omega
 have hfit : oi.lo + (idx * oi.es + sub) + u.cells.toList.length ≤ cs.toList.length := by
  have : (idx + 1) * oi.es ≤ oi.cap * oi.es := Nat.mul_le_mul_right _ hidx'
  rw [Nat.add_mul,Nat.one_mul] at this
  have := hB.es
  rw [hul]
  simp
  omega
 refine set_block h ro hk hO hro hbase rfl rfl rfl (by simp) (fun q _ hq=>setRow_other w _ _ _ (by rcases hq with hq | hq; exact hq; exact absurd hq hcap)) (fun _=>.inl ⟨rfl,hcap⟩) ⟨Nat.le_refl _,fun _=>rfl⟩ hro' fun e=>?_
 have hrow2 := setRow_heap w oi.blk cs (cs.toList.take (oi.lo + (idx * oi.es + sub)) ++ u.cells.toList ++ cs.toList.drop (oi.lo + (idx * oi.es + sub) + u.cells.toList.length)).toArray t (0,0) hrow
 refine ⟨by rw [hB.n,hlen],by rw [hB.es,hes],by rw [hB.ver,hver],hB.le,fun _=>⟨_,t,hrow2,?_,?_⟩,fun i hi=>?_,fun i j y v hi hy hv=>?_⟩
 ·simp at hfit ⊢
  omega
 ·intro v hv
  exact seg_one hone hx.one v (by simpa using hv)
 ·rw [hlen] at hi
  rw [hf i hi,hes]
  split
  ·rw [splice_length]; exact hB.el i hi
  ·exact hB.el i hi
 ·rw [hlen] at hi
  rw [hf i hi] at hy
  have hj : j < oi.es := by
   rw [hB.es,← hB.el i hi]
   have := (List.getElem?_eq_some_iff.1 hy).1
   split at this
   ·rwa [splice_length] at this
   ·exact this
  have hv' : (cs.toList.take (oi.lo + (idx * oi.es + sub)) ++ u.cells.toList ++ cs.toList.drop (oi.lo + (idx * oi.es + sub) + u.cells.toList.length))[oi.lo + (i * oi.es + j)]? = some v := by
   have hv2 := hv
   simp only [World.cell?] at hv2
   rw [hrow2] at hv2
   simpa using hv2
  rw [seg_get _ _ _ _ hfit] at hv'
  have hold : ∀ z,(k.f i)[j]? = some z → cs.toList[oi.lo + (i * oi.es + j)]? = some v → VR P w c z v ∧ (k.flat = true → VT P w c.p z v) := fun z hz hcv =>
   hB.rel i j z v hi hz (by simpa [World.cell?,hrow] using hcv)
  split at hv'
  ·rename_i hin
   -- the place lies in what is written: then it is the element idx
   have hii : i = idx := by
    rcases Nat.lt_trichotomy i idx with hlt | heq | hgt
    ·have : (i + 1) * oi.es ≤ idx * oi.es := Nat.mul_le_mul_right _ hlt
     rw [Nat.add_mul,Nat.one_mul] at this
     omega
    ·exact heq
    ·have : (idx + 1) * oi.es ≤ i * oi.es := Nat.mul_le_mul_right _ hgt
     rw [Nat.add_mul,Nat.one_mul] at this
     have := hB.es
     omega
   subst hii
   rw [if_pos rfl,splice_get _ _ _ _ (by rw [hB.el i hi,← hB.es]; exact hj)] at hy
   have hjs : sub ≤ j ∧ j - sub < x.cells.length := by omega
   rw [if_pos hjs] at hy
   have hr := hx.rel _ y hy
   have hvv : u.cells.getD (j - sub) undef = v := by
    have e1 : oi.lo + (i * oi.es + j) - (oi.lo + (i * oi.es + sub)) = j - sub := by omega
    rw [e1] at hv'
    simp at hv'
    simp [hv']
   rw [hvv] at hr
   have hr' := hr.mono e
   exact ⟨hr',fun hfl=>VR.toVT 4 (List.all_eq_true.1 (hflat hfl).2 y (List.mem_of_getElem? hy)) hr'⟩
  ·rename_i hin
   have hz : (k.f i)[j]? = some y := by
    split at hy
    ·rename_i hii
     subst hii
     rw [splice_get _ _ _ _ (by rw [hB.el i hi,← hB.es]; exact hj),if_neg (by omega)] at hy
     exact hy
    ·exact hy
   obtain ⟨h1,h2⟩ := hold y hz hv'
   exact ⟨h1.mono e,fun hfl=>(h2 (hflat hfl).1).mono e.p e.pb⟩

theorem eff_store (hT : TOK P T) (h : HR P base w c hp) (ro : RO c hp) (hbase : base ≤ w.heap.size) {t : TypeId} {o : Oper} {a x : Operand} {ρ : Operand → AV} {r : Operand → Value} (hop : o.op = .store t a x)
  (ha : VR P w c (ρ a) (r a)) (hx : VR P w c (ρ x) (r x)) {v : AV} (hev : (opEv T o ρ hp).gives v hp') :
  ∃ w' c',(execOp r o).run P w = .ok .skip w' ∧ EOut P base w c hp w' c' hp' ∧ v = .top := by
 unfold opEv at hev
 rw [hop] at hev
 simp only at hev
 split at hev
 ·rename_i ti b ver idx sub ht hra
  split at hev
  ·rename_i k hk
   rw [hra] at ha
   cases hb : (Nat.beq (ρ x).cells.length ti.size && !k.ro && (ρ x).storable && Nat.ble (sub + ti.size) k.es) with
   | false=>rw [hb] at hev; exact hev.elim
   | true =>
    rw [hb] at hev
    simp only [Bool.and_eq_true,Bool.not_eq_true'] at hb
    obtain ⟨⟨⟨b1,b2⟩,b3⟩,b4⟩ := hb
    have b1 := Nat.eq_of_beq_eq_true b1
    have b4 := Nat.le_of_ble_eq_true b4
    obtain ⟨_,_,_,inf,hinf,hsz,_⟩ := hT _ _ ht
    have hxc := hx.cr b3
    obtain ⟨hkb,hkv⟩ := block_some hk
    obtain ⟨oi,hO,hle,_,hv'⟩ := ha.optr_inv
    have hB := h.blk b k oi hkb hO
    obtain ⟨hidx,hu⟩ := hv' (by rw [hB.ver,hkv])
    have hidx' : idx < k.len := by rw [← hB.n]; exact hidx
    have hcap : oi.cap ≠ 0 := by have := hB.le; omega
    obtain ⟨cs,t',hrow,hszc,hone⟩ := hB.row hcap
    have hrun : (execOp r o).run P w = .ok .skip (w.setRow oi.blk (cs.toList.take (oi.lo + (idx * oi.es + sub)) ++ (r x).cells.toList ++ cs.toList.drop (oi.lo + (idx * oi.es + sub) + (r x).cells.toList.length)).toArray) := by
     have hul : (r x).cells.toList.length = ti.size := by rw [← b1]; simpa using hxc.size
     have hidx2 : idx < oi.cap := by have := hB.le; omega
     have hst := run_storeCells_at P oi.blk (oi.lo + (idx * oi.es + sub)) t' (r x).cells.toList 0 cs w hrow (by
      have : (idx + 1) * oi.es ≤ oi.cap * oi.es := Nat.mul_le_mul_right _ hidx2
      rw [Nat.add_mul,Nat.one_mul] at this
      have := hB.es
      rw [hul]
      omega) hxc.one
     have hne : (r x).cells.size = inf.size := by rw [hxc.size,b1,hsz]
     simp only [Nat.add_zero] at hst
     have e1 : (Instr.storeAt t (r a) (r x)).run P w = (storeCells ⟨oi.blk,oi.lo + (idx * oi.es + sub),none⟩ (r x).cells.toList).run P w := by
      rw [hu]
      simp [Instr.storeAt,Instr.sureAddr,storeVar,sizeOf,typeInfo,hinf,hne]
     unfold execOp
     simp only [hop,Sem.run_bind,e1,hst,Result.andThen_ok,Sem.run_pure]
    simp only [cond_true,forceC_eq,forceT_eq,AB.wr_eq] at hev
    split at hev
    ·split at hev
     case h_2=>exact hev.elim
     rename_i hlen
     obtain ⟨rfl,rfl⟩ := hev
     refine ⟨_,_,hrun,write_row h ro hbase hkb hO b2 hcap hrow hxc hidx' (by rw [b1]; exact b4) rfl rfl rfl b2 (fun i hi=>?_) (fun hf=>by simpa using hf),rfl⟩
     have : i = idx := by omega
     have h0 : i = 0 := by omega
     subst h0
     rw [if_pos this]
    ·obtain ⟨F,hF,rfl,rfl⟩ := hev
     simp only [AB.wr_eq]
     refine ⟨_,_,hrun,write_row h ro hbase hkb hO b2 hcap hrow hxc hidx' (by rw [b1]; exact b4) rfl rfl rfl b2 (fun i hi=>?_) (fun hf=>by simpa using hf),trivial⟩
     show F i = _
     rw [hF i hi]
     by_cases hi2 : i = idx
     ·subst hi2; simp
     ·rw [if_neg hi2]
      have : Nat.beq i idx = false := by
       cases hbb : Nat.beq i idx with
       | false=>rfl
       | true=>exact absurd (Nat.eq_of_beq_eq_true hbb) hi2
      simp [this]
  ·exact hev.elim
 ·exact hev.elim
end
end Go.Tr

/- The built-in append. Conditions: none. -/
namespace Go.Tr
open Go Go.RowKit
variable [GTab]

section
variable {P : Program} {T : Nat → Option TI} {w w' : World} {c c' : Cx} {base : Nat} {hp hp' : Hp}

theorem run_grow (t ty e : TypeId) (i : TypeInfo) (z : Value) (ht : P.underlying t = some (.slice e)) (hi : P.info? e = some i) (hz : i.zero = some z)
  {a : Option Addr} {sLen sCap m : Nat} {x : Value} {ax : Option Addr} {kx : Nat} (hx : x = .slice ax m kx) {olds news : Array Value}
  (ho : ∀ w',w'.heap = w.heap → (Builtin.firstCells i.size sLen (.slice a sLen sCap)).run P w' = .ok olds w') (hn : ∀ w',w'.heap = w.heap → (Builtin.firstCells i.size m x).run P w' = .ok news w')
  (hg : sCap < sLen + m) (h63 : sLen + m ≤ 9223372036854775807) (hb : (sLen + m) * i.bytes ≤ 140737488355328) :
  (Builtin.append_ #[t,t] ty #[.slice a sLen sCap,x]).run P w =
   .ok (.slice (some ⟨w.heap.size,0,none⟩) (sLen + m) (grownCap w (sLen + m) sCap e)) (w.drew.alloc (.cells (olds ++ news ++ Builtin.zeroCells z.cells (grownCap w (sLen + m) sCap e - (sLen + m))) e)) := by
 subst hx
 have hn' : ¬ (sLen + m ≤ sCap) := by omega
 have h63' : ¬ (9223372036854775807 < ((sLen : Int) + (m : Int))) := by omega
 have h48' : ¬ (281474976710656 < Builtin.nextslicecap (sLen + m) sCap * i.bytes) := by have := growslice_fits hg hb; omega
 have h1 := ho w.drew rfl
 have h2 := hn w.drew rfl
 simp [Builtin.append_,Builtin.lenOf,run_underlying ht,sizeOf,typeInfo,hi,hn',h63',h48',Question.forced,h1,h2,zeroValue,hz,newRow,grownCap]

theorem zeroCells_one {z : Array Value} (h : ∀ v ∈ z.toList,v.oneCell' = true) (n : Nat) : ∀ v ∈ (Builtin.zeroCells z n).toList,v.oneCell' = true := by
 intro v hv
 unfold Builtin.zeroCells at hv
 simp at hv
 obtain ⟨i,hi,rfl⟩ := hv
 have hz : 0 < z.size := by rcases Nat.eq_zero_or_pos z.size with h0 | h0 <;> simp_all
 have hlt : i % z.size < z.size := Nat.mod_lt _ hz
 rw [getElem!_pos z (i % z.size) hlt]
 exact h _ (by simp)

theorem two_rows {es sLen m : Nat} {fs fx : Nat → List AV} {fl1 fl : Bool} {s x : Value} {olds news rest : Array Value} (hs : Elems P w c es sLen fs fl1 s olds) (hx : Elems P w c es m fx fl x news)
  {i j : Nat} {y : AV} (hi : i < sLen + m) (hy : (if i < sLen then fs i else fx (i - sLen))[j]? = some y) :
  VR P w c y ((olds ++ news ++ rest).getD (i * es + j) undef) ∧ ((fl && fl1) = true → VT P w c.p y ((olds ++ news ++ rest).getD (i * es + j) undef)) := by
 simp only [Array.getD_eq_getD_getElem?]
 by_cases h : i < sLen
 ·rw [if_pos h] at hy
  have hj : j < es := by rw [← hs.len i h]; exact (List.getElem?_eq_some_iff.1 hy).1
  have hij : i * es + j < sLen * es := by
   have : (i + 1) * es ≤ sLen * es := Nat.mul_le_mul_right _ h
   rw [Nat.add_mul,Nat.one_mul] at this
   omega
  have hg : (olds ++ news ++ rest)[i * es + j]? = olds[i * es + j]? := by
   rw [Array.append_assoc,Array.getElem?_append_left (by rw [hs.size]; exact hij)]
  rw [hg]
  have := hs.rel i j y h hy
  simp only [Array.getD_eq_getD_getElem?] at this
  exact ⟨this.1,fun hf=>this.2 (by simp at hf; exact hf.2)⟩
 ·rw [if_neg h] at hy
  have hi' : i - sLen < m := by omega
  have hj : j < es := by rw [← hx.len _ hi']; exact (List.getElem?_eq_some_iff.1 hy).1
  have hij : (i - sLen) * es + j < m * es := by
   have : (i - sLen + 1) * es ≤ m * es := Nat.mul_le_mul_right _ hi'
   rw [Nat.add_mul,Nat.one_mul] at this
   omega
  have hsub : i * es + j - olds.size = (i - sLen) * es + j := by
   rw [hs.size,Nat.sub_mul]
   have : sLen * es ≤ i * es := Nat.mul_le_mul_right _ (by omega)
   omega
  have hge : olds.size ≤ i * es + j := by
   rw [hs.size]
   have : sLen * es ≤ i * es := Nat.mul_le_mul_right _ (by omega)
   omega
  have hg : (olds ++ news ++ rest)[i * es + j]? = news[(i - sLen) * es + j]? := by
   rw [Array.append_assoc,Array.getElem?_append_right hge,hsub,Array.getElem?_append_left (by rw [hx.size]; exact hij)]
  rw [hg]
  have := hx.rel _ j y hi' hy
  simp only [Array.getD_eq_getD_getElem?] at this
  exact ⟨this.1,fun hf=>this.2 (by simp at hf; exact hf.1)⟩

theorem grown_facts (hT : TOK P T) {e : TypeId} {ei : TI} (he : T e = some ei) {sLen m : Nat} {fs fx : Nat → List AV} {fl1 fl : Bool} {s x : Value} {olds news : Array Value}
  (hs : Elems P w c ei.size sLen fs fl1 s olds) (hx : Elems P w c ei.size m fx fl x news) (cap : Nat) (hcap : sLen + m ≤ cap) :
  cap * ei.size ≤ (olds ++ news ++ Builtin.zeroCells ei.zero.cells (cap - (sLen + m))).size ∧ ∀ v ∈ (olds ++ news ++ Builtin.zeroCells ei.zero.cells (cap - (sLen + m))).toList,v.oneCell' = true := by
 obtain ⟨_,hz1,hz2,_⟩ := hT _ _ he
 refine ⟨?_,?_⟩
 ·rw [Array.size_append,Array.size_append,hs.size,hx.size,size_zeroCells,hz1,← Nat.add_mul,← Nat.add_mul]
  exact Nat.mul_le_mul_right _ (by omega)
 ·intro v hv
  simp only [Array.toList_append,List.mem_append] at hv
  rcases hv with (hv | hv) | hv
  ·exact hs.one v hv
  ·exact hx.one v hv
  ·exact zeroCells_one hz2 _ v hv

theorem elem_len {es sLen m : Nat} {fs fx : Nat → List AV} {fl1 fl : Bool} {s x : Value} {olds news : Array Value}
  (hs : Elems P w c es sLen fs fl1 s olds) (hx : Elems P w c es m fx fl x news) {i : Nat} (hi : i < sLen + m) : (if i < sLen then fs i else fx (i - sLen)).length = es := by
 split
 ·rename_i h; exact hs.len i h
 ·exact hx.len _ (by omega)

theorem append_new (hT : TOK P T) (h : HR P base w c hp) (hbase : base ≤ w.heap.size) (hfree : c.O hp.blocks.length = none) {t e ty : TypeId} {tt ei : TI} (ht : T t = some tt) (htt : tt.desc = .slice e) (he : T e = some ei)
  {sLen m : Nat} {fs fx : Nat → List AV} {fl1 fl : Bool} {a : Option Addr} {sCap : Nat} {x : Value} {olds news : Array Value}
  (hs : Elems P w c ei.size sLen fs fl1 (.slice a sLen sCap) olds) (hx : Elems P w c ei.size m fx fl x news) (hg : sCap < sLen + m) (hb : (sLen + m) * ei.bytes ≤ 1000000000000) (hl : sLen + m ≤ 9223372036854775807)
  {k : AB} (hkes : k.es = ei.size) (hklen : k.len = sLen + m) (hkver : k.ver = 0) (hkf : ∀ i,i < sLen + m → k.f i = if i < sLen then fs i else fx (i - sLen)) (hkfl : k.flat = true → (fl && fl1) = true) :
  ∃ u w' c',(Builtin.append_ #[t,t] ty #[.slice a sLen sCap,x]).run P w = .ok u w' ∧ QOut P base w c hp w' c' (hp.addB k) ∧ VR P w' c' (.oslice hp.blocks.length 0 0 (sLen + m) none) u := by
 obtain ⟨_,_,_,inf,hinf,hsz,hby,hz⟩ := hT _ _ he
 have hd := (hT _ _ ht).1
 rw [htt] at hd
 obtain ⟨ax,kx,hxs,_⟩ := hx.sl
 have hrun := run_grow (P := P) (w := w) t ty e inf ei.zero hd hinf hz hxs (by rw [hsz]; exact hs.run) (by rw [hsz]; exact hx.run) hg hl (by rw [hby]; omega)
 have hge := grownCap_ge w (sLen + m) sCap e
 obtain ⟨g1,g2⟩ := grown_facts hT he hs hx (grownCap w (sLen + m) sCap e) hge
 have hB : Below w.heap.size w (w.drew.alloc (.cells (olds ++ news ++ Builtin.zeroCells ei.zero.cells (grownCap w (sLen + m) sCap e - (sLen + m))) e)) := ((Below.refl _ _).drew).alloc (by simp) _
 have hnew : (w.drew.alloc (.cells (olds ++ news ++ Builtin.zeroCells ei.zero.cells (grownCap w (sLen + m) sCap e - (sLen + m))) e)).heap[w.heap.size]? = some (.cells (olds ++ news ++ Builtin.zeroCells ei.zero.cells (grownCap w (sLen + m) sCap e - (sLen + m))) e (0,0)) := heap_alloc_new w.drew _
 refine ⟨_,_,c.addO hp.blocks.length ⟨w.heap.size,0,grownCap w (sLen + m) sCap e,ei.size,sLen + m,0⟩,hrun,qout_block h hbase hB hfree (fun _=>⟨Nat.le_refl _,by simp⟩) fun ex=>?_,
  .oslice _ _ _ _ _ _ _ (addO_self _ _ _) (Nat.le_refl _) rfl fun _=>⟨by simp,some ⟨w.heap.size,0,none⟩,grownCap w (sLen + m) sCap e,rfl,hge,by simp,by simpa using hge,fun _=>by simp,fun cp hcp=>by cases hcp⟩⟩
 refine ⟨hklen.symm,hkes.symm,hkver.symm,hge,fun _=>⟨_,e,hnew,by simpa using g1,g2⟩,fun i hi=>?_,fun i j y v hi hy hv=>?_⟩
 ·rw [hklen] at hi; rw [hkf i hi,hkes]; exact elem_len hs hx hi
 ·rw [hklen] at hi
  rw [hkf i hi] at hy
  have hr := two_rows (rest := Builtin.zeroCells ei.zero.cells (grownCap w (sLen + m) sCap e - (sLen + m))) hs hx hi hy
  have hv' : v = (olds ++ news ++ Builtin.zeroCells ei.zero.cells (grownCap w (sLen + m) sCap e - (sLen + m))).getD (i * ei.size + j) undef := by
   have hv2 := hv
   simp only [World.cell?] at hv2
   rw [hnew] at hv2
   simp only [Nat.zero_add] at hv2
   rw [if_neg (by simp)] at hv2
   simp only [Array.getD_eq_getD_getElem?]
   rw [hv2]; rfl
  rw [hv']
  exact ⟨hr.1.mono ex,fun hf=>(hr.2 (hkfl hf)).mono ex.p ex.pb⟩

theorem append_none (hT : TOK P T) (h : HR P base w c hp) (hbase : base ≤ w.heap.size) (hfree : c.O hp.blocks.length = none) {t e ty : TypeId} {tt ei : TI} (ht : T t = some tt) (htt : tt.desc = .slice e) (he : T e = some ei)
  {fx : Nat → List AV} {fl : Bool} {a : Option Addr} {x : Value} {news : Array Value} (hx : Elems P w c ei.size 0 fx fl x news) {k : AB} (hkes : k.es = ei.size) (hklen : k.len = 0) (hkver : k.ver = 0) :
  ∃ u w' c',(Builtin.append_ #[t,t] ty #[.slice a 0 0,x]).run P w = .ok u w' ∧ QOut P base w c hp w' c' (hp.addB k) ∧ VR P w' c' (.oslice hp.blocks.length 0 0 0 none) u := by
 obtain ⟨_,_,_,inf,hinf,hsz,hby,hz⟩ := hT _ _ he
 have hd := (hT _ _ ht).1
 rw [htt] at hd
 obtain ⟨ax,kx,hxs,_⟩ := hx.sl
 have hn := hx.run w rfl
 have hnews : news = #[] := Array.eq_empty_of_size_eq_zero (by rw [hx.size]; simp)
 subst hnews
 rw [← hsz] at hn
 refine ⟨.slice a 0 0,w,c.addO hp.blocks.length ⟨0,0,0,ei.size,0,0⟩,?_,qout_block h hbase (Below.refl _ _) hfree (fun hc=>absurd rfl hc) fun ex=>?_,
  .oslice _ _ _ _ _ _ _ (addO_self _ _ _) (Nat.le_refl _) rfl fun _=>⟨by simp,a,0,rfl,Nat.le_refl _,by simp,by simp,fun hc=>absurd rfl hc,fun cp hcp=>by cases hcp⟩⟩
 ·subst hxs
  cases a <;> simp [Builtin.append_,run_underlying hd,sizeOf,typeInfo,hinf,Builtin.lenOf,hn,storeCells]
 ·exact ⟨hklen.symm,hkes.symm,hkver.symm,Nat.le_refl _,fun hc=>absurd rfl hc,fun i hi=>by omega,fun i j y v hi=>by omega⟩

theorem append_own (hT : TOK P T) (h : HR P base w c hp) (ro : RO c hp) (hbase : base ≤ w.heap.size) {t e ty : TypeId} {tt ei : TI} (ht : T t = some tt) (htt : tt.desc = .slice e) (he : T e = some ei)
  {b off len m : Nat} {k k' : AB} {oi : OI} (hk : hp.blocks[b]? = some k) (hO : c.O b = some oi) (hro : k.ro = false) (hkes0 : k.es = ei.size) {a : Option Addr} {k1 : Nat} (hn1 : off + len ≤ oi.n) (hk1 : len ≤ k1) (hk2 : off + k1 ≤ oi.cap)
  (hk3 : k1 ≠ 0 → a = some ⟨oi.blk,oi.lo + off * oi.es,none⟩)
  {fx : Nat → List AV} {fl : Bool} {x : Value} {olds news : Array Value}
  (hs : Elems P w c ei.size len (fun i=>k.f (off + i)) k.flat (.slice a len k1) olds) (hx : Elems P w c ei.size m fx fl x news) (hb : (len + m) * ei.bytes ≤ 1000000000000) (hl : len + m ≤ 9223372036854775807)
  (hkes : k'.es = k.es) (hklen : k'.len = len + m) (hkver : k'.ver = k.ver + 1) (hkro : k'.ro = false) (hkf : ∀ i,i < len + m → k'.f i = if i < len then k.f (off + i) else fx (i - len)) (hkfl : k'.flat = true → (fl && k.flat) = true) :
  ∃ u w' c',(Builtin.append_ #[t,t] ty #[.slice a len k1,x]).run P w = .ok u w' ∧ EOut P base w c hp w' c' (hp.setB b k') ∧ VR P w' c' (.oslice b (k.ver + 1) 0 (len + m) none) u := by
 obtain ⟨_,_,_,inf,hinf,hsz,hby,hz⟩ := hT _ _ he
 have hd := (hT _ _ ht).1
 rw [htt] at hd
 have hB0 := h.blk b k oi hk hO
 obtain ⟨ax,kx,hxs,_⟩ := hx.sl
 by_cases hroom : len + m ≤ k1
 ·-- in place
  have hn := hx.run w rfl
  rw [← hsz] at hn
  by_cases hk0 : k1 = 0
  ·-- no room,nothing appended
   have hm0 : m = 0 := by omega
   have hl0 : len = 0 := by omega
   subst hm0; subst hl0; subst hk0
   have hnews : news = #[] := Array.eq_empty_of_size_eq_zero (by rw [hx.size]; simp)
   subst hnews
   refine ⟨.slice a 0 0,w,c.addO b ⟨0,0,0,ei.size,0,oi.ver + 1⟩,?_,set_block h ro hk hO hro hbase rfl rfl rfl (Nat.le_refl _) (fun _ _ _=>rfl) (fun hc=>absurd rfl hc) ⟨by simp,fun hh=>by simp at hh⟩ hkro fun ex=>?_,
    .oslice _ _ _ _ _ _ _ (addO_self _ _ _) (by simp [hB0.ver]) rfl fun _=>⟨by simp,a,0,rfl,Nat.le_refl _,by simp,by simp,fun hc=>absurd rfl hc,fun cp hcp=>by cases hcp⟩⟩
   ·subst hxs
    cases a <;> simp [Builtin.append_,run_underlying hd,sizeOf,typeInfo,hinf,Builtin.lenOf,hn,storeCells]
   ·exact ⟨hklen.symm,by rw [hkes,hkes0],by rw [hkver,hB0.ver],Nat.le_refl _,fun hc=>absurd rfl hc,fun i hi=>by omega,fun i j y v hi=>by omega⟩
  ·have ha := hk3 hk0
   have hcap : oi.cap ≠ 0 := by omega
   obtain ⟨cs,t',hrow,hszc,hone⟩ := hB0.row hcap
   have hoes : oi.es = ei.size := by rw [hB0.es,hkes0]
   have hnl : news.toList.length = m * ei.size := by simpa using hx.size
   have hfit : oi.lo + (off + len) * ei.size + news.toList.length ≤ cs.toList.length := by
    have : (off + len + m) * ei.size ≤ oi.cap * ei.size := Nat.mul_le_mul_right _ (by omega)
    rw [Nat.add_mul] at this
    rw [hnl]
    rw [hoes] at hszc
    simp
    omega
   have hst := run_storeCells_at P oi.blk (oi.lo + (off + len) * ei.size) t' news.toList 0 cs w hrow (by simpa using hfit) hx.one
   simp only [Nat.add_zero] at hst
   have hrun : (Builtin.append_ #[t,t] ty #[.slice a len k1,x]).run P w = .ok (.slice a (len + m) k1) (w.setRow oi.blk (cs.toList.take (oi.lo + (off + len) * ei.size) ++ news.toList ++ cs.toList.drop (oi.lo + (off + len) * ei.size + news.toList.length)).toArray) := by
    have hadd : (⟨oi.blk,oi.lo + off * oi.es,none⟩ : Addr).add (len * inf.size) = ⟨oi.blk,oi.lo + (off + len) * ei.size,none⟩ := by
     rw [addr_add,hsz,hoes,Nat.add_mul]; congr 1; omega
    subst hxs
    rw [ha]
    have e1 : (Builtin.append_ #[t,t] ty #[.slice (some ⟨oi.blk,oi.lo + off * oi.es,none⟩) len k1,.slice ax m kx]).run P w = ((storeCells ⟨oi.blk,oi.lo + (off + len) * ei.size,none⟩ news.toList).run P w).andThen fun _ w'=>.ok (.slice (some ⟨oi.blk,oi.lo + off * oi.es,none⟩) (len + m) k1) w' := by
     simp [Builtin.append_,run_underlying hd,sizeOf,typeInfo,hinf,Builtin.lenOf,hn,hroom,hadd]
    rw [e1,hst]; rfl
   have hrow2 := setRow_heap w oi.blk cs (cs.toList.take (oi.lo + (off + len) * ei.size) ++ news.toList ++ cs.toList.drop (oi.lo + (off + len) * ei.size + news.toList.length)).toArray t' (0,0) hrow
   refine ⟨_,_,c.addO b ⟨oi.blk,oi.lo + off * ei.size,k1,ei.size,len + m,oi.ver + 1⟩,hrun,
    set_block h ro hk hO hro hbase rfl rfl rfl (by simp) (fun q _ hq=>setRow_other w _ _ _ (by rcases hq with hq | hq; exact hq; exact absurd hq hcap)) (fun _=>.inl ⟨rfl,hcap⟩) ⟨by simp,fun hh=>by simp at hh⟩ hkro fun ex=>?_,
    .oslice _ _ _ _ _ _ _ (addO_self _ _ _) (by simp [hB0.ver]) rfl fun _=>⟨by simp,a,k1,rfl,hroom,by simp,by simpa using hroom,fun _=>by rw [ha,hoes]; simp,fun cp hcp=>by cases hcp⟩⟩
   refine ⟨hklen.symm,by rw [hkes,hkes0],by rw [hkver,hB0.ver],hroom,fun _=>⟨_,t',hrow2,?_,?_⟩,fun i hi=>?_,fun i j y v hi hy hv=>?_⟩
   ·have : (off + k1) * ei.size ≤ oi.cap * ei.size := Nat.mul_le_mul_right _ hk2
    rw [Nat.add_mul] at this
    rw [hoes] at hszc
    simp at hfit ⊢
    omega
   ·intro v hv
    exact seg_one hone hx.one v (by simpa using hv)
   ·rw [hklen] at hi; rw [hkf i hi,hkes,hkes0]; exact elem_len hs hx hi
   ·rw [hklen] at hi
    rw [hkf i hi] at hy
    have hj : j < ei.size := by rw [← elem_len hs hx hi]; exact (List.getElem?_eq_some_iff.1 hy).1
    have hv2 := hv
    simp only [World.cell?] at hv2
    rw [hrow2] at hv2
    have hv' : (cs.toList.take (oi.lo + (off + len) * ei.size) ++ news.toList ++ cs.toList.drop (oi.lo + (off + len) * ei.size + news.toList.length))[oi.lo + off * ei.size + (i * ei.size + j)]? = some v := by simpa using hv2
    rw [seg_get _ _ _ _ hfit] at hv'
    by_cases hil : i < len
    ·rw [if_pos hil] at hy
     have hlt : (i + 1) * ei.size ≤ len * ei.size := Nat.mul_le_mul_right _ hil
     rw [Nat.add_mul,Nat.one_mul] at hlt
     rw [if_neg (by rw [Nat.add_mul]; omega)] at hv'
     have hlen : off + i < k.len := by have := hB0.n; omega
     have hcv : w.cell? ⟨oi.blk,oi.lo + ((off + i) * oi.es + j),none⟩ = some v := by
      rw [hoes,Nat.add_mul,show oi.lo + (off * ei.size + i * ei.size + j) = oi.lo + off * ei.size + (i * ei.size + j) from by omega]
      simpa [World.cell?,hrow] using hv'
     obtain ⟨g1,g2⟩ := hB0.rel (off + i) j y v hlen hy hcv
     exact ⟨g1.mono ex,fun hf=>(g2 (by have := hkfl hf; simp at this; exact this.2)).mono ex.p ex.pb⟩
    ·rw [if_neg hil] at hy
     have hi' : i - len < m := by omega
     have hlt : (i - len + 1) * ei.size ≤ m * ei.size := Nat.mul_le_mul_right _ hi'
     rw [Nat.add_mul,Nat.one_mul,Nat.sub_mul] at hlt
     have hge : len * ei.size ≤ i * ei.size := Nat.mul_le_mul_right _ (by omega)
     have hidx : oi.lo + off * ei.size + (i * ei.size + j) - (oi.lo + (off + len) * ei.size) = (i - len) * ei.size + j := by rw [Nat.add_mul,Nat.sub_mul]; omega
     rw [if_pos ⟨by rw [Nat.add_mul]; omega,by rw [hidx,hnl,Nat.sub_mul]; omega⟩,hidx] at hv'
     have hr := hx.rel (i - len) j y hi' hy
     have hvv : news.getD ((i - len) * ei.size + j) undef = v := by
      simp at hv'
      simp [hv']
     rw [hvv] at hr
     exact ⟨hr.1.mono ex,fun hf=>(hr.2 (by have := hkfl hf; simp at this; exact this.1)).mono ex.p ex.pb⟩
 ·-- into new memory
  have hg : k1 < len + m := by omega
  have hrun := run_grow (P := P) (w := w) t ty e inf ei.zero hd hinf hz hxs (by rw [hsz]; exact hs.run) (by rw [hsz]; exact hx.run) hg hl (by rw [hby]; omega)
  have hge := grownCap_ge w (len + m) k1 e
  obtain ⟨g1,g2⟩ := grown_facts hT he hs hx (grownCap w (len + m) k1 e) hge
  have hnew : (w.drew.alloc (.cells (olds ++ news ++ Builtin.zeroCells ei.zero.cells (grownCap w (len + m) k1 e - (len + m))) e)).heap[w.heap.size]? = some (.cells (olds ++ news ++ Builtin.zeroCells ei.zero.cells (grownCap w (len + m) k1 e - (len + m))) e (0,0)) := heap_alloc_new w.drew _
  refine ⟨_,_,c.addO b ⟨w.heap.size,0,grownCap w (len + m) k1 e,ei.size,len + m,oi.ver + 1⟩,hrun,
   set_block h ro hk hO hro hbase rfl rfl rfl (by simp) (fun q hq _=>Below.heap_alloc w.drew _ q hq) (fun _=>.inr ⟨Nat.le_refl _,by simp⟩) ⟨by simp,fun hh=>by simp at hh⟩ hkro fun ex=>?_,
   .oslice _ _ _ _ _ _ _ (addO_self _ _ _) (by simp [hB0.ver]) rfl fun _=>⟨by simp,some ⟨w.heap.size,0,none⟩,grownCap w (len + m) k1 e,rfl,hge,by simp,by simpa using hge,fun _=>by simp,fun cp hcp=>by cases hcp⟩⟩
  refine ⟨hklen.symm,by rw [hkes,hkes0],by rw [hkver,hB0.ver],hge,fun _=>⟨_,e,hnew,by simpa using g1,g2⟩,fun i hi=>?_,fun i j y v hi hy hv=>?_⟩
  ·rw [hklen] at hi; rw [hkf i hi,hkes,hkes0]; exact elem_len hs hx hi
  ·rw [hklen] at hi
   rw [hkf i hi] at hy
   have hr := two_rows (rest := Builtin.zeroCells ei.zero.cells (grownCap w (len + m) k1 e - (len + m))) hs hx hi hy
   have hv' : v = (olds ++ news ++ Builtin.zeroCells ei.zero.cells (grownCap w (len + m) k1 e - (len + m))).getD (i * ei.size + j) undef := by
    have hv2 := hv
    simp only [World.cell?] at hv2
    rw [hnew] at hv2
    simp only [Nat.zero_add] at hv2
    rw [if_neg (by simp)] at hv2
    simp only [Array.getD_eq_getD_getElem?]
    rw [hv2]; rfl
   rw [hv']
   exact ⟨hr.1.mono ex,fun hf=>(hr.2 (hkfl hf)).mono ex.p ex.pb⟩

theorem write_seg (h : HR P base w c hp) (ro : RO c hp) (hbase : base ≤ w.heap.size) {b : Nat} {k k' : AB} {oi : OI} (hk : hp.blocks[b]? = some k) (hO : c.O b = some oi) (hro : k.ro = false) (hcap : oi.cap ≠ 0)
  {cs : Array Value} {t : TypeId} (hrow : w.heap[oi.blk]? = some (.cells cs t (0,0))) {at_ m : Nat} {fx : Nat → List AV} {fl : Bool} {news : Array Value} (hsize : news.size = m * k.es) (hnone : ∀ v ∈ news.toList,v.oneCell' = true)
  (hlenx : ∀ i,i < m → (fx i).length = k.es) (hrel : ∀ (i j : Nat) (y : AV),i < m → (fx i)[j]? = some y → VR P w c y (news.getD (i * k.es + j) undef) ∧ (fl = true → VT P w c.p y (news.getD (i * k.es + j) undef)))
  (hle : at_ + m ≤ k.len) (hes : k'.es = k.es) (hlen : k'.len = k.len) (hver : k'.ver = k.ver) (hro' : k'.ro = false) (hf : ∀ i,i < k.len → k'.f i = if i < at_ then k.f i else if i < at_ + m then fx (i - at_) else k.f i)
  (hflat : k'.flat = true → (fl && k.flat) = true) :
  EOut P base w c hp (w.setRow oi.blk (cs.toList.take (oi.lo + at_ * oi.es) ++ news.toList ++ cs.toList.drop (oi.lo + at_ * oi.es + news.toList.length)).toArray) (c.addO b oi) (hp.setB b k') := by
 have hB := h.blk b k oi hk hO
 obtain ⟨cs',t',hrow',hsz,hone⟩ := hB.row hcap
 rw [hrow] at hrow'
 cases hrow'
 have hoes := hB.es
 have hnl : news.toList.length = m * oi.es := by rw [hoes]; simpa using hsize
 have hfit : oi.lo + at_ * oi.es + news.toList.length ≤ cs.toList.length := by
  have : (at_ + m) * oi.es ≤ oi.cap * oi.es := Nat.mul_le_mul_right _ (by have := hB.n; have := hB.le; omega)
  rw [Nat.add_mul] at this
  rw [hnl]
  simp
  omega
 refine set_block h ro hk hO hro hbase rfl rfl rfl (by simp) (fun q _ hq=>setRow_other w _ _ _ (by rcases hq with hq | hq; exact hq; exact absurd hq hcap)) (fun _=>.inl ⟨rfl,hcap⟩) ⟨Nat.le_refl _,fun _=>rfl⟩ hro' fun e=>?_
 have hrow2 := setRow_heap w oi.blk cs (cs.toList.take (oi.lo + at_ * oi.es) ++ news.toList ++ cs.toList.drop (oi.lo + at_ * oi.es + news.toList.length)).toArray t (0,0) hrow
 refine ⟨by rw [hB.n,hlen],by rw [hB.es,hes],by rw [hB.ver,hver],hB.le,fun _=>⟨_,t,hrow2,?_,?_⟩,fun i hi=>?_,fun i j y v hi hy hv=>?_⟩
 ·simp at hfit ⊢
  omega
 ·intro v hv
  exact seg_one hone hnone v (by simpa using hv)
 ·rw [hlen] at hi
  rw [hf i hi,hes]
  split
  ·exact hB.el i hi
  ·split
   ·exact hlenx _ (by omega)
   ·exact hB.el i hi
 ·rw [hlen] at hi
  rw [hf i hi] at hy
  have hv' : (cs.toList.take (oi.lo + at_ * oi.es) ++ news.toList ++ cs.toList.drop (oi.lo + at_ * oi.es + news.toList.length))[oi.lo + (i * oi.es + j)]? = some v := by
   have hv2 := hv
   simp only [World.cell?] at hv2
   rw [hrow2] at hv2
   simpa using hv2
  rw [seg_get _ _ _ _ hfit] at hv'
  have old : (k.f i)[j]? = some y → (i < at_ ∨ at_ + m ≤ i) → VR P (w.setRow oi.blk (cs.toList.take (oi.lo + at_ * oi.es) ++ news.toList ++ cs.toList.drop (oi.lo + at_ * oi.es + news.toList.length)).toArray) (c.addO b oi) y v ∧ (k'.flat = true → VT P (w.setRow oi.blk (cs.toList.take (oi.lo + at_ * oi.es) ++ news.toList ++ cs.toList.drop (oi.lo + at_ * oi.es + news.toList.length)).toArray) (c.addO b oi).p y v) := fun hz hout=>by
   have hj : j < oi.es := by rw [hoes,← hB.el i hi]; exact (List.getElem?_eq_some_iff.1 hz).1
   have hnin : ¬ (oi.lo + at_ * oi.es ≤ oi.lo + (i * oi.es + j) ∧ oi.lo + (i * oi.es + j) - (oi.lo + at_ * oi.es) < news.toList.length) := by
    rw [hnl]
    rcases hout with ho | ho
    ·have : (i + 1) * oi.es ≤ at_ * oi.es := Nat.mul_le_mul_right _ ho
     rw [Nat.add_mul,Nat.one_mul] at this
     omega
    ·have : (at_ + m) * oi.es ≤ i * oi.es := Nat.mul_le_mul_right _ ho
     rw [Nat.add_mul] at this
     omega
   rw [if_neg hnin] at hv'
   obtain ⟨g1,g2⟩ := hB.rel i j y v hi hz (by simpa [World.cell?,hrow] using hv')
   exact ⟨g1.mono e,fun hfl=>(g2 (by have := hflat hfl; simp at this; exact this.2)).mono e.p e.pb⟩
  split at hy
  ·rename_i hlt
   exact old hy (.inl hlt)
  ·rename_i hge
   split at hy
   ·rename_i hin
    have hi' : i - at_ < m := by omega
    have hj : j < oi.es := by rw [hoes,← hlenx _ hi']; exact (List.getElem?_eq_some_iff.1 hy).1
    have hlt : (i - at_ + 1) * oi.es ≤ m * oi.es := Nat.mul_le_mul_right _ hi'
    rw [Nat.add_mul,Nat.one_mul,Nat.sub_mul] at hlt
    have hge' : at_ * oi.es ≤ i * oi.es := Nat.mul_le_mul_right _ (by omega)
    have hidx : oi.lo + (i * oi.es + j) - (oi.lo + at_ * oi.es) = (i - at_) * oi.es + j := by rw [Nat.sub_mul]; omega
    rw [if_pos ⟨by omega,by rw [hnl]; omega⟩,hidx] at hv'
    have hr := hrel (i - at_) j y hi' hy
    rw [hoes] at hv'
    have hvv : news.getD ((i - at_) * k.es + j) undef = v := by
     simp at hv'
     simp [hv']
    rw [hvv] at hr
    exact ⟨hr.1.mono e,fun hfl=>(hr.2 (by have := hflat hfl; simp at this; exact this.1)).mono e.p e.pb⟩
   ·exact old hy (.inr (by omega))

theorem append_room (hT : TOK P T) (h : HR P base w c hp) (ro : RO c hp) (hbase : base ≤ w.heap.size) {t e ty : TypeId} {tt ei : TI} (ht : T t = some tt) (htt : tt.desc = .slice e) (he : T e = some ei)
  {b off len m : Nat} {k k' : AB} {oi : OI} (hk : hp.blocks[b]? = some k) (hO : c.O b = some oi) (hro : k.ro = false) (hkes0 : k.es = ei.size) {a : Option Addr} {k1 : Nat} (hk1 : len ≤ k1) (hk2 : off + k1 ≤ oi.cap) (hkn : oi.n ≤ off + k1)
  (hk3 : k1 ≠ 0 → a = some ⟨oi.blk,oi.lo + off * oi.es,none⟩) (hfits : off + len + m ≤ k.len)
  {fx : Nat → List AV} {fl : Bool} {x : Value} {news : Array Value} (hx : Elems P w c ei.size m fx fl x news)
  (hkes : k'.es = k.es) (hklen : k'.len = k.len) (hkver : k'.ver = k.ver) (hkro : k'.ro = false) (hkf : ∀ i,i < k.len → k'.f i = if i < off + len then k.f i else if i < off + len + m then fx (i - (off + len)) else k.f i) (hkfl : k'.flat = true → (fl && k.flat) = true) :
  ∃ u w' c',(Builtin.append_ #[t,t] ty #[.slice a len k1,x]).run P w = .ok u w' ∧ EOut P base w c hp w' c' (hp.setB b k') ∧ VR P w' c' (.oslice b k.ver off (len + m) none) u := by
 obtain ⟨_,_,_,inf,hinf,hsz,hby,hz⟩ := hT _ _ he
 have hd := (hT _ _ ht).1
 rw [htt] at hd
 have hB0 := h.blk b k oi hk hO
 obtain ⟨ax,kx,hxs,_⟩ := hx.sl
 have hn := hx.run w rfl
 rw [← hsz] at hn
 have hroom : len + m ≤ k1 := by have := hB0.n; omega
 by_cases hk0 : k1 = 0
 ·have hm0 : m = 0 := by omega
  have hl0 : len = 0 := by omega
  subst hm0; subst hl0; subst hk0
  have hnews : news = #[] := Array.eq_empty_of_size_eq_zero (by rw [hx.size]; simp)
  subst hnews
  refine ⟨.slice a 0 0,w,c.addO b oi,?_,set_block h ro hk hO hro hbase rfl rfl rfl (Nat.le_refl _) (fun _ _ _=>rfl) (fun hc=>.inl ⟨rfl,hc⟩) ⟨Nat.le_refl _,fun _=>rfl⟩ hkro fun ex=>?_,
   .oslice _ _ _ _ _ _ _ (addO_self _ _ _) (by rw [hB0.ver]; exact Nat.le_refl _) rfl fun _=>⟨by have := hB0.n; omega,a,0,rfl,Nat.le_refl _,by omega,by omega,fun hc=>absurd rfl hc,fun cp hcp=>by cases hcp⟩⟩
  ·subst hxs
   cases a <;> simp [Builtin.append_,run_underlying hd,sizeOf,typeInfo,hinf,Builtin.lenOf,hn,storeCells]
  ·refine ⟨by rw [hB0.n,hklen],by rw [hB0.es,hkes],by rw [hB0.ver,hkver],hB0.le,fun hc=>hB0.row hc,fun i hi=>?_,fun i j y v hi hy hv=>?_⟩
   ·rw [hklen] at hi
    rw [hkf i hi,hkes]
    (repeat' split) <;> first | exact hB0.el i hi | omega
   ·rw [hklen] at hi
    rw [hkf i hi] at hy
    have hy' : (k.f i)[j]? = some y := by
     split at hy
     ·exact hy
     ·first | exact hy | (rw [if_neg (by omega)] at hy; exact hy)
    obtain ⟨g1,g2⟩ := hB0.rel i j y v hi hy' hv
    exact ⟨g1.mono ex,fun hf=>(g2 (by have := hkfl hf; simp at this; exact this.2)).mono ex.p ex.pb⟩
 ·have ha := hk3 hk0
  have hcap : oi.cap ≠ 0 := by omega
  obtain ⟨cs,t',hrow,hszc,hone⟩ := hB0.row hcap
  have hoes : oi.es = ei.size := by rw [hB0.es,hkes0]
  have hnl : news.toList.length = m * ei.size := by simpa using hx.size
  have hfit : oi.lo + (off + len) * oi.es + news.toList.length ≤ cs.toList.length := by
   have : (off + len + m) * oi.es ≤ oi.cap * oi.es := Nat.mul_le_mul_right _ (by omega)
   rw [Nat.add_mul] at this
   rw [hnl,← hoes]
   simp
   omega
  have hst := run_storeCells_at P oi.blk (oi.lo + (off + len) * oi.es) t' news.toList 0 cs w hrow (by simpa using hfit) hx.one
  simp only [Nat.add_zero] at hst
  have hrun : (Builtin.append_ #[t,t] ty #[.slice a len k1,x]).run P w = .ok (.slice a (len + m) k1) (w.setRow oi.blk (cs.toList.take (oi.lo + (off + len) * oi.es) ++ news.toList ++ cs.toList.drop (oi.lo + (off + len) * oi.es + news.toList.length)).toArray) := by
   have hadd : (⟨oi.blk,oi.lo + off * oi.es,none⟩ : Addr).add (len * inf.size) = ⟨oi.blk,oi.lo + (off + len) * oi.es,none⟩ := by
    rw [addr_add,hsz,hoes,Nat.add_mul]; congr 1; omega
   subst hxs
   rw [ha]
   have e1 : (Builtin.append_ #[t,t] ty #[.slice (some ⟨oi.blk,oi.lo + off * oi.es,none⟩) len k1,.slice ax m kx]).run P w = ((storeCells ⟨oi.blk,oi.lo + (off + len) * oi.es,none⟩ news.toList).run P w).andThen fun _ w'=>.ok (.slice (some ⟨oi.blk,oi.lo + off * oi.es,none⟩) (len + m) k1) w' := by
    simp [Builtin.append_,run_underlying hd,sizeOf,typeInfo,hinf,Builtin.lenOf,hn,hroom,hadd]
   rw [e1,hst]; rfl
  refine ⟨_,_,c.addO b oi,hrun,write_seg h ro hbase hk hO hro hcap hrow (by rw [hx.size,hkes0]) hx.one (fun i hi=>by rw [hkes0]; exact hx.len i hi) (fun i j y hi hy=>by rw [hkes0]; exact hx.rel i j y hi hy) hfits hkes hklen hkver hkro hkf hkfl,
   .oslice _ _ _ _ _ _ _ (addO_self _ _ _) (by rw [hB0.ver]; exact Nat.le_refl _) rfl fun _=>⟨by have := hB0.n; omega,a,k1,rfl,hroom,hk2,hkn,hk3,fun cp hcp=>by cases hcp⟩⟩

theorem eff_clear (hT : TOK P T) (h : HR P base w c hp) (ro : RO c hp) (hbase : base ≤ w.heap.size) {o : Oper} {args : Array Operand} {ts : Array TypeId} {ρ : Operand → AV} {r : Operand → Value} (hop : o.op = .call { callee := .builtin .clear, args, argTypes := ts })
  (hx : ∀ x ∈ args,VR P w c (ρ x) (r x)) {v : AV} (hev : (opEv T o ρ hp).gives v hp') :
  ∃ u w' c',(execOp r o).run P w = .ok (.value u) w' ∧ EOut P base w c hp w' c' hp' ∧ VR P w' c' v u := by
 unfold opEv at hev
 rw [hop] at hev
 simp only at hev
 split at hev
 ·rename_i t x hts hargs
  have hts' : ts = #[t] := by rw [← hts]
  obtain ⟨la⟩ := args
  match la,hargs with
  | [],hr=>simp at hr
  | _ :: _ :: _,hr=>simp at hr
  | [ox], hr =>
   simp only [List.map_cons,List.map_nil,List.cons.injEq,and_true] at hr
   have hvx := hx ox (by simp)
   rw [hr] at hvx
   split at hev
   ·rename_i e _ _ _ _ b ver off len cp ht
    have hd := (hT _ _ ht).1
    split at hev
    ·rename_i ei k he hk
     cases hb : (Nat.beq k.es ei.size && !k.ro && Nat.blt 0 ei.size) with
     | false=>rw [hb] at hev; exact hev.elim
     | true =>
      rw [hb] at hev
      obtain ⟨rfl,rfl⟩ := hev
      simp only [Bool.and_eq_true,Bool.not_eq_true'] at hb
      obtain ⟨⟨b1,b2⟩,b3⟩ := hb
      have hes := Nat.eq_of_beq_eq_true b1
      have hpos : 0 < ei.size := Nat.le_of_ble_eq_true b3
      obtain ⟨_,hzs,hzo,inf,hinf,hsz,_,hz⟩ := hT _ _ he
      obtain ⟨hkb,hkv⟩ := block_some hk
      obtain ⟨oi,hO,hle,_,hv'⟩ := hvx.oslice_inv
      have hB := h.blk b k oi hkb hO
      obtain ⟨hn1,a,k1,hu,hk1,hk2,hkn,hk3,_⟩ := hv' (by rw [hB.ver,hkv])
      have hzl := zero_len hT he
      have hcr := rep_cr (zero_cr (P := P) (w := w) (c := c) hT he hzl) (by omega) len
      have hn := hB.n
      have hex : ∀ u w',(Builtin.clear_ #[t] o.type #[r ox]).run P w = .ok u w' → (execOp r o).run P w = .ok (.value u) w' := fun u w' hh=>by
       unfold execOp
       simp only [hop,resolve,invoke,builtin,Sem.run_bind,Sem.run_pure,Result.andThen_ok]
       simp [hts',hh]
      simp only [AB.wr_eq]
      by_cases h0 : len = 0
      ·subst h0
       refine ⟨.tuple #[],w,c.addO b oi,hex _ _ (by rw [hu]; cases a <;> simp [Builtin.clear_,run_underlying hd]),set_block h ro hkb hO b2 hbase rfl rfl rfl (Nat.le_refl _) (fun _ _ _=>rfl) (fun hc=>.inl ⟨rfl,hc⟩) ⟨Nat.le_refl _,fun _=>rfl⟩ b2 fun ex=>?_,.tree (.top _)⟩
       refine ⟨hB.n,hB.es,hB.ver,hB.le,fun hc=>hB.row hc,fun i hi=>?_,fun i j y v hi hy hv=>?_⟩
       ·show (if off ≤ i ∧ i < off + 0 then zeroCells ei else k.f i).length = k.es
        rw [if_neg (by omega)]; exact hB.el i hi
       ·have hy : (if off ≤ i ∧ i < off + 0 then zeroCells ei else k.f i)[j]? = some y := hy
        rw [if_neg (by omega)] at hy
        obtain ⟨g1,g2⟩ := hB.rel i j y v hi hy hv
        exact ⟨g1.mono ex,fun hf=>(g2 hf).mono ex.p ex.pb⟩
      ·have hk0 : k1 ≠ 0 := by omega
       have ha := hk3 hk0
       have hcap : oi.cap ≠ 0 := by omega
       obtain ⟨cs,t',hrow,hszc,hone⟩ := hB.row hcap
       have hoes : oi.es = ei.size := by rw [hB.es,hes]
       generalize hnw : ((Array.range (len * (zeroCells ei).length)).map (ei.zero.cells[· % ei.zero.cells.size]!)) = news at hcr
       have hns : news.size = len * ei.size := by rw [hcr.size,rep_length,hzl]
       have hzc : Builtin.zeroCells ei.zero.cells len = news := by
        rw [← hnw]
        unfold Builtin.zeroCells
        rw [hzl,hzs]
       have hfit : oi.lo + off * oi.es + news.toList.length ≤ cs.toList.length := by
        have : (off + len) * oi.es ≤ oi.cap * oi.es := Nat.mul_le_mul_right _ (by omega)
        rw [Nat.add_mul] at this
        simp only [Array.length_toList,hns,← hoes]
        omega
       have hst := run_storeCells_at P oi.blk (oi.lo + off * oi.es) t' news.toList 0 cs w hrow (by simpa using hfit) hcr.one
       simp only [Nat.add_zero] at hst
       have hrun : (Builtin.clear_ #[t] o.type #[r ox]).run P w = .ok (.tuple #[]) (w.setRow oi.blk (cs.toList.take (oi.lo + off * oi.es) ++ news.toList ++ cs.toList.drop (oi.lo + off * oi.es + news.toList.length)).toArray) := by
        rw [hu,ha]
        obtain ⟨l',rfl⟩ : ∃ l',len = l' + 1 := ⟨len - 1,by omega⟩
        simp [Builtin.clear_,run_underlying hd,zeroValue,typeInfo,hinf,hz,hzc,hst]
       refine ⟨_,_,c.addO b oi,hex _ _ hrun,write_seg h ro hbase hkb hO b2 hcap hrow (m := len) (fx := fun _=>zeroCells ei) (fl := true) (by rw [hns,hes]) hcr.one (fun i hi=>by rw [hzl,hes]) (fun i j y hi hy=>?_) (by omega) rfl rfl rfl b2 (fun i hi=>?_) (fun hf=>by simpa using hf),.tree (.top _)⟩
       ·have hj : j < ei.size := by rw [← hzl]; exact (List.getElem?_eq_some_iff.1 hy).1
        have hr := hcr.rel (i * k.es + j) y (by
         rw [rep_get,hzl,hes]
         have : (i + 1) * ei.size ≤ len * ei.size := Nat.mul_le_mul_right _ hi
         rw [Nat.add_mul,Nat.one_mul] at this
         rw [if_pos (by omega),mul_add_mod' hj]; exact hy)
        exact ⟨hr,fun _=>VR.toVT 4 (zero_tree ei y (List.mem_of_getElem? hy)) hr⟩
       ·show (if off ≤ i ∧ i < off + len then zeroCells ei else k.f i) = _
        by_cases hi1 : i < off
        ·rw [if_pos hi1,if_neg (by omega)]
        ·by_cases hi2 : i < off + len
         ·rw [if_neg hi1,if_pos hi2,if_pos (by omega)]
         ·rw [if_neg hi1,if_neg hi2,if_neg (by omega)]
    ·exact hev.elim
   ·exact hev.elim
 ·exact hev.elim
end
end Go.Tr

/- Maps made and written; bytes of a string. Conditions: none. -/
namespace Go.Tr
open Go Go.RowKit Go.MapKept
variable [GTab]

section
variable {P : Program} {T : Nat → Option TI} {w w' : World} {c c' : Cx} {base : Nat} {hp hp' : Hp}

def Cx.addN (c : Cx) (n r : Nat) : Cx := { c with N := fun b=>if b = n then some r else c.N b }

theorem getElem?_snocM {l : List AM} {x : AM} {i : Nat} {y : AM} (h : (l ++ [x])[i]? = some y) : (i < l.length ∧ l[i]? = some y) ∨ (i = l.length ∧ y = x) := getElem?_snoc h

theorem qout_map (h : HR P base w c hp) (hbase : base ≤ w.heap.size) (hfree : c.N hp.maps.length = none) {o : Obj} {m : AM}
  (hm : Ext w.heap.size w c (w.alloc o) (c.addN hp.maps.length w.heap.size) → MR P (w.alloc o) (c.addN hp.maps.length w.heap.size) m w.heap.size) :
  QOut P base w c hp (w.alloc o) (c.addN hp.maps.length w.heap.size) { hp with maps := hp.maps ++ [m] } := by
 have hw := below_alloc w o
 have e : Ext w.heap.size w c (w.alloc o) (c.addN hp.maps.length w.heap.size) := ⟨hw,fun _ h=>h,fun b hb=>hw.block b (h.st b hb),fun _ oi h=>⟨oi,h,Nat.le_refl _,fun _=>rfl⟩,fun b r hb=>by
  simp only [Cx.addN]; rw [if_neg (fun e=>by rw [e,hfree] at hb; cases hb)]; exact hb,fun _ _ h=>h⟩
 have hs : (w.alloc o).heap.size = w.heap.size + 1 := by simp
 have hcase : ∀ b r,(c.addN hp.maps.length w.heap.size).N b = some r → (b = hp.maps.length ∧ r = w.heap.size) ∨ (b ≠ hp.maps.length ∧ c.N b = some r) := fun b r hb=>by
  simp only [Cx.addN] at hb
  by_cases hbn : b = hp.maps.length
  ·rw [if_pos hbn] at hb; exact .inl ⟨hbn,(Option.some.inj hb).symm⟩
  ·rw [if_neg hbn] at hb; exact .inr ⟨hbn,hb⟩
 refine ⟨⟨fun b k oi hk hO=>h.blk_old e hk hO,h.sep,fun b oi hO hc=>by have := h.own b oi hO hc; omega,fun b hb=>by have := h.st b hb; omega,fun b m' r hk hO=>?_,fun b r hO=>?_,fun b b' r h1 h2=>?_,fun b i oi r hO hc hN=>?_⟩,e,
  ⟨fun i x hx=>⟨x,hx,.refl _⟩,fun i x hx=>⟨x,?_,.refl _⟩⟩,fun _ _ h=>h,fun _ _ h=>.inl h,fun b r hb=>?_,fun b oi h1 h2 h3=>.inl ⟨h1,h3⟩,fun b r h1 h3=>?_,fun _ h=>.inl h,rfl⟩
 ·rcases hcase b r hO with ⟨rfl,rfl⟩ | ⟨hne,hO'⟩
  ·rcases getElem?_snocM hk with ⟨hlt',_⟩ | ⟨_,rfl⟩
   ·omega
   ·exact hm e
  ·rcases getElem?_snocM hk with ⟨_,hk''⟩ | ⟨he,_⟩
   ·exact h.map_old e hk'' hO'
   ·exact absurd he hne
 ·rcases hcase b r hO with ⟨rfl,rfl⟩ | ⟨_,hO'⟩
  ·omega
  ·have := h.mown b r hO'; omega
 ·rcases hcase b r h1 with ⟨rfl,rfl⟩ | ⟨hne1,hO1⟩ <;> rcases hcase b' _ h2 with ⟨rfl,hr⟩ | ⟨hne2,hO2⟩
  ·rfl
  ·have := h.mown b' _ hO2; omega
  ·have := h.mown b r hO1; omega
  ·exact h.msep b b' r hO1 hO2
 ·rcases hcase i r hN with ⟨rfl,rfl⟩ | ⟨_,hN'⟩
  ·have := h.own b oi hO hc; omega
  ·exact h.bm b i oi r hO hc hN'
 ·show (hp.maps ++ [m])[i]? = some x
  rw [List.getElem?_append_left (List.getElem?_eq_some_iff.1 hx).1]; exact hx
 ·rcases hcase b r hb with ⟨rfl,rfl⟩ | ⟨_,hO'⟩
  ·exact .inr ⟨Nat.le_refl _,by simp⟩
  ·exact .inl hO'
 ·rcases hcase b r h1 with ⟨rfl,rfl⟩ | ⟨_,hO'⟩
  ·have := h.st _ h3; omega
  ·exact .inl ⟨hO',h3⟩

theorem make_map (hT : TOK P T) (h : HR P base w c hp) (hbase : base ≤ w.heap.size) {t : TypeId} {o : Oper} {ρ : Operand → AV} {r : Operand → Value} (hop : o.op = .makeMap t none)
  {v : AV} (hev : (opEv T o ρ hp).gives v hp') (hfree : c.N hp.maps.length = none) :
  ∃ u w' c',(execOp r o).run P w = .ok (.value u) w' ∧ QOut P base w c hp w' c' hp' ∧ VR P w' c' v u := by
 unfold opEv at hev
 rw [hop] at hev
 simp only at hev
 split at hev
 ·rename_i kt e _ _ _ _ ht
  split at hev
  ·rename_i ei ki he hki
   simp only [force0_eq,Hp.addM_eq] at hev
   obtain ⟨rfl,rfl⟩ := hev
   obtain ⟨_,_,_,inf,hinf,_,_,hz⟩ := hT _ _ he
   refine ⟨.map (some w.heap.size),w.alloc (.map #[] 0),_,by simp [execOp,hop,Instr.makeMap],qout_map h hbase hfree fun ex=>?_,.omap _ _ (by simp [Cx.addN])⟩
   refine ⟨fun _=>⟨#[],0,heap_alloc_new w _,⟨by simp,fun key _=>by simp,by simp,by simp,by simp⟩,fun key zv _ _ hzz=>?_,by simp⟩,fun seen hs=>by cases hs⟩
   have : zv = ei.zero := by simp [zeroOf,hinf,hz] at hzz; exact hzz.symm
   subst this
   exact constAV_ok (P := P) (w := w.alloc (.map #[] 0)) (c := c.addN hp.maps.length w.heap.size) ei.zero
  ·exact hev.elim
 ·exact hev.elim

theorem sameBits_cells : ∀ {ks : List LK} {vs : List Value} (n : Nat),kOk ks vs = true → ((vs.zip vs).all fun p=>Instr.sameBits n p.1 p.2) = true
 | [],[],n,_=>rfl
 | [],_ :: _,_,h=>by simp [kOk] at h
 | k :: ks,[],_,h=>by cases k <;> simp [kOk] at h
 | k :: ks,v :: vs,n,h=>by
  obtain ⟨p1,p2⟩ := kOk_cons h
  have ih := sameBits_cells n p2
  simp only [List.zip_cons_cons,List.all_cons,ih,Bool.and_true]
  cases k <;> cases v <;> simp [kOk] at p1 <;> cases n <;> simp [Instr.sameBits,MapKept.bytes_beq]

theorem sameBits_key {ki : KK} {key : Value} (hk : keyOk ki key) : Instr.sameBits 10000 key key = true := by
 unfold keyOk at hk
 cases ki with
 | str=>cases key <;> simp [keyIs] at hk; simp [Instr.sameBits,MapKept.bytes_beq]
 | int k=>cases key <;> simp [keyIs] at hk; simp [Instr.sameBits]
 | agg ks =>
  cases key <;> simp [keyIs] at hk
  rename_i l
  have := sameBits_cells 9999 hk
  unfold Instr.sameBits
  rw [Bool.and_eq_true]
  refine ⟨by simp,?_⟩
  simpa using this

theorem Below.set {w : World} {r : Nat} {o : Obj} {B : Nat} (h : B ≤ r) : Below B w { w with heap := w.heap.setIfInBounds r o } :=
  ⟨rfl,rfl,rfl,by simp,fun k hk=>by simp only [Array.getElem?_setIfInBounds]; rw [if_neg (by omega)],Dr.refl _⟩

theorem setM_get {l : List AM} {b i : Nat} {k' x : AM} (h : (setNth l b k')[i]? = some x) : (i = b ∧ x = k') ∨ (i ≠ b ∧ l[i]? = some x) := by
 rw [setNth_eq,List.getElem?_set] at h
 split at h
 ·rename_i hb
  split at h
  ·exact .inl ⟨hb.symm,(Option.some.inj h).symm⟩
  ·cases h
 ·rename_i hb; exact .inr ⟨fun e=>hb e.symm,h⟩

theorem set_map (h : HR P base w c hp) (ro : RO c hp) {b r : Nat} {m m' : AM} (hm : hp.maps[b]? = some m) (hN : c.N b = some r) (hro : m.ro = false) (hro' : m'.ro = false) {o : Obj}
  (hMR : Ext base w c { w with heap := w.heap.setIfInBounds r o } c → MR P { w with heap := w.heap.setIfInBounds r o } c m' r) :
  EOut P base w c hp { w with heap := w.heap.setIfInBounds r o } c { hp with maps := setNth hp.maps b m' } := by
 have hnp : ¬ c.p r := fun hp'=>by
  obtain ⟨k2,hk2,hr2⟩ := ro.m b r hN hp'
  rw [hm] at hk2; cases hk2; rw [hro] at hr2; cases hr2
 have hother : ∀ q,q ≠ r → ({ w with heap := w.heap.setIfInBounds r o } : World).heap[q]? = w.heap[q]? := fun q hq=>by
  simp only [Array.getElem?_setIfInBounds]; rw [if_neg (fun e=>hq e.symm)]
 have e : Ext base w c { w with heap := w.heap.setIfInBounds r o } c := ⟨Below.set (h.mown b r hN).1,fun _ h=>h,fun q hq=>hother q (fun e=>hnp (e ▸ hq)),fun _ oi h=>⟨oi,h,Nat.le_refl _,fun _=>rfl⟩,fun _ _ h=>h,fun _ _ h=>h⟩
 have hs : ({ w with heap := w.heap.setIfInBounds r o } : World).heap.size = w.heap.size := by simp
 refine ⟨⟨fun b2 k2 o2 hk2 hO2=>(h.blk b2 k2 o2 hk2 hO2).mono e fun hc=>hother _ fun er=>?_,h.sep,fun b2 o2 hO2 hc=>by rw [hs]; exact h.own b2 o2 hO2 hc,fun q hq=>by rw [hs]; exact h.st q hq,fun b2 m2 r2 hm2 hN2=>?_,fun b2 r2 hN2=>by rw [hs]; exact h.mown b2 r2 hN2,h.msep,h.bm⟩,e,
  ⟨fun b2 o2 hO2 hc hpp=>ro.b b2 o2 hO2 hc hpp,fun b2 r2 hN2 hpp=>?_⟩,rfl,by simp [setNth_eq],fun b2 o2 hO2=>⟨o2,hO2⟩,fun b2 r2 hN2=>⟨r2,hN2⟩,fun _ h=>h,rfl⟩
 ·exact h.bm b2 b o2 r hO2 hc hN er
 ·rcases setM_get hm2 with ⟨rfl,rfl⟩ | ⟨hne,hm2'⟩
  ·rw [hN] at hN2; cases hN2; exact hMR e
  ·exact (h.maps b2 m2 r2 hm2' hN2).mono e (hother r2 fun er=>hne (h.msep b2 b r2 hN2 (er ▸ hN)))
 ·have hne : b2 ≠ b := fun e=>by subst e; rw [hN] at hN2; cases hN2; exact hnp hpp
  obtain ⟨k2,hk2,hr2⟩ := ro.m b2 r2 hN2 hpp
  refine ⟨k2,?_,hr2⟩
  show (setNth hp.maps b m')[b2]? = some k2
  rw [setNth_eq,List.getElem?_set_ne (fun e=>hne e.symm)]; exact hk2

theorem map_write (h : HR P base w c hp) (ro : RO c hp) {t kt et : TypeId} (hd : P.underlying t = some (.map kt et)) {m : AM} (hu : KeyT P kt m.ki) {b q : Nat} (hm : hp.maps[b]? = some m) (hN : c.N b = some q) (hro : m.ro = false) (hit : m.it = none)
  {key : Value} (hko : keyOk m.ki key) {x : AV} {u : Value} (hxt : VT P w c.p x u) {m' : AM} (hm' : m' = m.wr (fun hs k=>hs k || opEv.keyEq k key) fun gt k=>bif opEv.keyEq k key then x else gt k) :
  ∃ w',(Instr.mapUpdate t (.map (some q)) key u).run P w = .ok () w' ∧ EOut P base w c hp w' c { hp with maps := setNth hp.maps b m' } := by
 obtain ⟨es,clock,hmap,hM⟩ := (h.maps b m q hm hN).ex hit
 have hgo := MapKept.run_getObj_map (P := P) hmap
 have hck := run_checkKey (P := P) (w := w) hu hko false
 have hfk := run_findKey (P := P) (w := w) hu hko es.toList hM.ek.keys
 have hro' : m'.ro = false := by rw [hm',AM.wr_eq]; exact hro
 have hit' : m'.it = none := by rw [hm',AM.wr_eq]; exact hit
 have hki' : m'.ki = m.ki := by rw [hm',AM.wr_eq]
 have het' : m'.et = m.et := by rw [hm',AM.wr_eq]
 have hhas' : ∀ k,m'.has k = (m.has k || opEv.keyEq k key) := fun k=>by rw [hm',AM.wr_eq]
 have hget' : ∀ k,m'.get k = bif opEv.keyEq k key then x else m.get k := fun k=>by rw [hm',AM.wr_eq]
 have hkk : ∀ k,keyOk m.ki k → k ≠ key → opEv.keyEq k key = false := fun k hk hne=>(keyEq_false hk hko).2 hne
 have hkey : opEv.keyEq key key = true := (keyEq_iff hko hko).2 rfl
 have fin : ∀ (es' : Array MapEntry) (clock' : Nat) (w' : World),w' = { w with heap := w.heap.setIfInBounds q (.map es' clock') } → (Instr.mapUpdate t (.map (some q)) key u).run P w = .ok () w' →
   EK m.ki m'.has es' clock' → (∀ e ∈ es'.toList,(e.key = key ∧ e.val = u) ∨ (e.key ≠ key ∧ e ∈ es.toList)) →
   ∃ w',(Instr.mapUpdate t (.map (some q)) key u).run P w = .ok () w' ∧ EOut P base w c hp w' c { hp with maps := setNth hp.maps b m' } := by
  intro es' clock' w' hw' hrun hek hes
  subst hw'
  refine ⟨_,hrun,set_map h ro hm hN hro hro' fun ex=>⟨fun _=>⟨es',clock',(heap_set hmap).1,⟨by rw [hki']; exact hek,fun k zv hk hh hz=>?_,fun e he=>?_⟩⟩,fun seen hs=>by rw [hit'] at hs; cases hs⟩⟩
  ·rw [hki'] at hk
   rw [het'] at hz
   rw [hhas',Bool.or_eq_false_iff] at hh
   rw [hget',hh.2]
   exact (hM.zero k zv hk hh.1 hz).mono ex.p ex.pb
  ·rw [hget']
   rcases hes e he with ⟨e1,e2⟩ | ⟨e1,e2⟩
   ·rw [e1,hkey,e2]
    exact hxt.mono ex.p ex.pb
   ·rw [hkk _ (hM.ek.keys e e2) e1]
    exact (hM.get e e2).mono ex.p ex.pb
 cases ho : findV key es.toList 0 with
 | none =>
  rw [ho] at hfk
  have hno := findV_none hko _ _ hM.ek.keys ho
  refine fin (es.push { key,val := u,born := clock }) (clock + 1) _ rfl ?_ ⟨fun e he=>?_,fun k hk=>?_,fun i j e e' hi hj hke=>?_,fun i j e e' hi hj hbe=>?_,fun e he=>?_⟩ fun e he=>?_
  ·simp [Instr.mapUpdate,run_underlying hd,hgo,hck,hfk,MapKept.run_setObj_map (P := P) _ hmap]
  ·simp only [Array.toList_push,List.mem_append,List.mem_singleton] at he
   rcases he with he | rfl
   ·exact hM.ek.keys e he
   ·exact hko
  ·rw [hhas',Bool.or_eq_true,hM.ek.has k hk,keyEq_iff hk hko]
   constructor
   ·rintro (⟨e,he,hke⟩ | rfl)
    ·exact ⟨e,by simp [he],hke⟩
    ·exact ⟨{ key := k,val := u,born := clock },by simp,rfl⟩
   ·rintro ⟨e,he,hke⟩
    simp only [Array.toList_push,List.mem_append,List.mem_singleton] at he
    rcases he with he | rfl
    ·exact .inl ⟨e,he,hke⟩
    ·exact .inr hke.symm
  ·rw [Array.toList_push] at hi hj
   rcases getElem?_snoc hi with ⟨_,hi'⟩ | ⟨hi1,rfl⟩ <;> rcases getElem?_snoc hj with ⟨_,hj'⟩ | ⟨hj1,rfl⟩
   ·exact hM.ek.once i j e e' hi' hj' hke
   ·exact absurd hke (hno e (List.mem_of_getElem? hi'))
   ·exact absurd (Eq.symm hke) (hno e' (List.mem_of_getElem? hj'))
   ·omega
  ·rw [Array.toList_push] at hi hj
   rcases getElem?_snoc hi with ⟨_,hi'⟩ | ⟨hi1,rfl⟩ <;> rcases getElem?_snoc hj with ⟨_,hj'⟩ | ⟨hj1,rfl⟩
   ·exact hM.ek.born i j e e' hi' hj' hbe
   ·have := hM.ek.clk e (List.mem_of_getElem? hi'); have hbe : e.born = clock := hbe; omega
   ·have := hM.ek.clk e' (List.mem_of_getElem? hj'); have hbe : clock = e'.born := hbe; omega
   ·omega
  ·simp only [Array.toList_push,List.mem_append,List.mem_singleton] at he
   rcases he with he | rfl
   ·have := hM.ek.clk e he; omega
   ·exact Nat.lt_succ_self _
  ·simp only [Array.toList_push,List.mem_append,List.mem_singleton] at he
   rcases he with he | rfl
   ·exact .inr ⟨hno e he,he⟩
   ·exact .inl ⟨rfl,rfl⟩
 | some iv =>
  obtain ⟨j,v0⟩ := iv
  rw [ho] at hfk
  obtain ⟨q',e0,hjq,he0,hke0,_⟩ := findV_some hko _ _ hM.ek.keys j v0 ho
  have hjq : j = q' := by omega
  subst hjq
  have hj : es[j]? = some e0 := by simpa using he0
  have hmod : (es.modify j fun e=>{ e with key,val := u }).toList = es.toList.modify j fun e=>{ e with key,val := u } := by simp
  have hat : ∀ (i : Nat) (e : MapEntry),(es.modify j fun e=>{ e with key,val := u }).toList[i]? = some e → ∃ e1,es.toList[i]? = some e1 ∧ e.born = e1.born ∧ ((i = j ∧ e.key = key ∧ e.val = u ∧ e1.key = key) ∨ (i ≠ j ∧ e = e1)) := fun i e hi=>by
   rw [hmod,List.getElem?_modify] at hi
   cases h1 : es.toList[i]? with
   | none=>rw [h1] at hi; simp at hi
   | some e1 =>
    rw [h1] at hi
    simp only [Option.map_eq_map,Option.map_some,Option.some.injEq] at hi
    refine ⟨e1,rfl,?_⟩
    by_cases hij : j = i
    ·subst hij
     rw [if_pos rfl] at hi
     subst hi
     rw [he0] at h1
     cases h1
     exact ⟨rfl,.inl ⟨rfl,rfl,rfl,hke0⟩⟩
    ·rw [if_neg hij] at hi
     subst hi
     exact ⟨rfl,.inr ⟨fun e=>hij e.symm,rfl⟩⟩
  have hkeq : ∀ (i : Nat) (e : MapEntry),(es.modify j fun e=>{ e with key,val := u }).toList[i]? = some e → ∃ e1,es.toList[i]? = some e1 ∧ e.born = e1.born ∧ e.key = e1.key := fun i e hi=>by
   obtain ⟨e1,a1,a2,a3⟩ := hat i e hi
   refine ⟨e1,a1,a2,?_⟩
   rcases a3 with ⟨_,b1,_,b2⟩ | ⟨_,rfl⟩
   ·rw [b1,b2]
   ·rfl
  refine fin (es.modify j fun e=>{ e with key,val := u }) clock _ rfl ?_ ⟨fun e he=>?_,fun k hk=>?_,fun i j' e e' hi hj' hke=>?_,fun i j' e e' hi hj' hbe=>?_,fun e he=>?_⟩ fun e he=>?_
  ·have hst : (Instr.keyThatStays key key).run P w = .ok key w := by simp [Instr.keyThatStays,sameBits_key hko]
   simp [Instr.mapUpdate,run_underlying hd,hgo,hck,hfk,hj,hke0,hst,MapKept.run_setObj_map (P := P) _ hmap]
  ·obtain ⟨i,hi,rfl⟩ := List.getElem_of_mem he
   obtain ⟨e1,a1,_,a3⟩ := hkeq i _ (List.getElem?_eq_getElem hi)
   rw [a3]; exact hM.ek.keys e1 (List.mem_of_getElem? a1)
  ·rw [hhas',Bool.or_eq_true,hM.ek.has k hk,keyEq_iff hk hko]
   constructor
   ·intro hh
    have : ∃ e ∈ es.toList,e.key = k := by
     rcases hh with hh | rfl
     ·exact hh
     ·exact ⟨e0,List.mem_of_getElem? he0,hke0⟩
    obtain ⟨e,he,hke⟩ := this
    obtain ⟨i,hi,rfl⟩ := List.getElem_of_mem he
    have hi2 : i < (es.modify j fun e=>{ e with key,val := u }).toList.length := by rw [hmod]; simpa using hi
    obtain ⟨e1,a1,_,a3⟩ := hkeq i _ (List.getElem?_eq_getElem hi2)
    refine ⟨_,List.getElem_mem hi2,?_⟩
    rw [a3]
    rw [List.getElem?_eq_getElem hi] at a1
    cases a1
    exact hke
   ·rintro ⟨e,he,hke⟩
    obtain ⟨i,hi,rfl⟩ := List.getElem_of_mem he
    obtain ⟨e1,a1,_,a3⟩ := hkeq i _ (List.getElem?_eq_getElem hi)
    exact .inl ⟨e1,List.mem_of_getElem? a1,by rw [← a3]; exact hke⟩
  ·obtain ⟨e1,a1,_,a3⟩ := hkeq i e hi
   obtain ⟨e2,b1,_,b3⟩ := hkeq j' e' hj'
   exact hM.ek.once i j' e1 e2 a1 b1 (by rw [← a3,← b3]; exact hke)
  ·obtain ⟨e1,a1,a2,_⟩ := hkeq i e hi
   obtain ⟨e2,b1,b2,_⟩ := hkeq j' e' hj'
   exact hM.ek.born i j' e1 e2 a1 b1 (by rw [← a2,← b2]; exact hbe)
  ·obtain ⟨i,hi,rfl⟩ := List.getElem_of_mem he
   obtain ⟨e1,a1,a2,_⟩ := hkeq i _ (List.getElem?_eq_getElem hi)
   rw [a2]; exact hM.ek.clk e1 (List.mem_of_getElem? a1)
  ·obtain ⟨i,hi,rfl⟩ := List.getElem_of_mem he
   obtain ⟨e1,a1,_,a3⟩ := hat i _ (List.getElem?_eq_getElem hi)
   rcases a3 with ⟨_,b1,b2,_⟩ | ⟨hne,b1⟩
   ·exact .inl ⟨b1,b2⟩
   ·refine .inr ⟨fun hke=>?_,by rw [b1]; exact List.mem_of_getElem? a1⟩
    rw [b1] at hke
    exact hne (hM.ek.once i j e1 e0 a1 he0 (by rw [hke,hke0]))

theorem eff_mapUpdate (hT : TOK P T) (h : HR P base w c hp) (ro : RO c hp) {t : TypeId} {o : Oper} {a i x : Operand} {ρ : Operand → AV} {r : Operand → Value} (hop : o.op = .mapUpdate t a i x ∨ o.op = .insert t a i x)
  (ha : VR P w c (ρ a) (r a)) (hi : VR P w c (ρ i) (r i)) (hx : VR P w c (ρ x) (r x)) {v : AV} (hev : (opEv T o ρ hp).gives v hp') :
  ∃ w' c',(execOp r o).run P w = .ok .skip w' ∧ EOut P base w c hp w' c' hp' ∧ v = .top := by
 have hex : ∀ w',(Instr.mapUpdate t (r a) (r i) (r x)).run P w = .ok () w' → (execOp r o).run P w = .ok .skip w' := fun w' hh=>by
  rcases hop with hop | hop <;> simp [execOp,hop,hh]
 have hev : (match T t, ρ a, keyOf (ρ i) with
  | some { desc := .map kt _, .. }, .omap b, some key =>
   match keyKind T kt with
   | some ki =>
    match nth? hp.maps b with
    | some am => bif kindIs ki am.ki && keyIs ki key && !am.ro && am.it.isNone then
      match AV.tree 4 (ρ x) with
      | true=>force1 (ρ x) fun x=>Res.ok .top (hp.setM b (am.wr (fun hs k=>hs k || opEv.keyEq k key) fun gt k=>bif opEv.keyEq k key then x else gt k))
      | false=>match refs hp 5 (ρ x) with
       | (bs,[])=>.insF b am key (fz hp (ρ x)) bs
       | _=>.bad
     else .bad
    | none=>.bad
   | none=>.bad
  | _,_,_=>.bad).gives v hp' := by
  rcases hop with hop | hop <;> (unfold opEv at hev; rw [hop] at hev; exact hev)
 split at hev
 ·rename_i kt et _ _ _ _ b key ht hra hri
  have hd := (hT _ _ ht).1
  split at hev
  ·rename_i ki hki
   have hu := find_known hT hki
   split at hev
   ·rename_i m hm
    rw [nth?_eq] at hm
    cases hb : (kindIs ki m.ki && keyIs ki key && !m.ro && m.it.isNone) with
    | false=>rw [hb] at hev; exact hev.elim
    | true =>
     rw [hb] at hev
     simp only [cond_true,force1_eq,Hp.setM_eq] at hev
     split at hev
     ·rename_i htree
      obtain ⟨rfl,rfl⟩ := hev
      simp only [Bool.and_eq_true,Bool.not_eq_true',Option.isNone_iff_eq_none] at hb
      obtain ⟨⟨⟨b1,b2⟩,b4⟩,b5⟩ := hb
      have := kindIs_eq b1
      subst this
      rw [hra] at ha
      obtain ⟨q,hq,hN⟩ := ha.omap_inv
      obtain ⟨w',g1,g2⟩ := map_write h ro hd hu hm hN b4 b5 (keyIs_ok b2) (VR.toVT 4 htree hx) rfl
      exact ⟨w',c,hex w' (by rw [hq,keyOf_eq hri hi]; exact g1),g2,rfl⟩
     ·split at hev <;> exact hev.elim
   ·exact hev.elim
  ·exact hev.elim
 ·exact hev.elim

theorem make_bytes (hT : TOK P T) (h : HR P base w c hp) {src dst e : TypeId} {s : ByteArray} {ts td te : TI} (hs : T src = some ts) (hs' : ts.desc = .string) (hd : T dst = some td) (hd' : td.desc = .slice e) (he : T e = some te) (he' : te.desc = .int .u8) :
  ∃ u w' c',(convert src dst (.string s)).run P w = .ok u w' ∧ QOut P base w c hp w' c' hp ∧ VR P w' c' (.rslice 1 s.size fun i=>[.val (.int .u8 (s.data.toList.getD i 0).toNat)]) u := by
 have h1 := (hT _ _ hs).1
 have h2 := (hT _ _ hd).1
 have h3 := (hT _ _ he).1
 rw [hs'] at h1
 rw [hd'] at h2
 rw [he'] at h3
 have hrun := run_bytes_of_string (P := P) w src dst e s h1 h2 h3
 have hge := grownCap_ge w s.size 0 e
 generalize hC : bytesRow s (grownCap w s.size 0 e) = C at hrun
 have hnew : (w.drew.alloc (.cells C e (C.size,C.size + 1))).heap[w.heap.size]? = some (.cells C e (C.size,C.size + 1)) := heap_alloc_new w.drew _
 have hB : Below w.heap.size w (w.drew.alloc (.cells C e (C.size,C.size + 1))) := ((Below.refl _ _).drew).alloc (by simp) _
 refine ⟨_,_,_,hrun,qout_stable h hB (fun b=>b = w.heap.size) (fun b hb=>by subst hb; simp),.tree (.rslice 1 s.size _ w.heap.size 0 _ (fun i j=>C.getD i undef) hge (.inr rfl) (fun i hi=>rfl) (fun i j hi hj=>?_) (fun i j x hi hx=>?_))⟩
 ·have hj0 : j = 0 := by omega
  subst hj0
  have hci : C[i]? = some (.int .u8 ((s.data.toList.getD i 0).toNat : Int)) := by
   rw [← hC]
   unfold bytesRow
   have hi' : i < s.data.size := hi
   rw [Array.getElem?_append_left (by simpa using hi')]
   simp only [Array.getElem?_map,Array.getElem?_eq_getElem hi',Option.map_some,List.getD_eq_getElem?_getD,Array.getElem?_toList,Option.getD_some]
  have hcell : (w.drew.alloc (.cells C e (C.size,C.size + 1))).cell? ⟨w.heap.size,0 + (i * 1 + 0),none⟩ = C[i]? := by
   simp only [World.cell?]
   rw [hnew]
   simp
  rw [hcell,hci]
  simp [hci,Value.oneCell']
 ·have hci : C[i]? = some (.int .u8 ((s.data.toList.getD i 0).toNat : Int)) := by
   rw [← hC]
   unfold bytesRow
   have hi' : i < s.data.size := hi
   rw [Array.getElem?_append_left (by simpa using hi')]
   simp only [Array.getElem?_map,Array.getElem?_eq_getElem hi',Option.map_some,List.getD_eq_getElem?_getD,Array.getElem?_toList,Option.getD_some]
  cases j with
  | zero =>
   simp at hx
   subst hx
   simp [hci]
   exact .val _
  | succ j=>simp at hx
end
end Go.Tr

/- Values handed to a call as trees; what a call hands back. Conditions: none. -/
namespace Go.Tr
open Go Go.RowKit
variable [GTab]

section
variable {P : Program} {T : Nat → Option TI} {w w' : World} {c c' : Cx} {base : Nat} {hp hp' : Hp}

def qOf (c : Cx) (l : List Nat × List Nat) (b : Nat) : Prop :=
  c.p b ∨ (∃ i ∈ l.1,∃ oi,c.O i = some oi ∧ oi.cap ≠ 0 ∧ oi.blk = b) ∨ (∃ i ∈ l.2,c.N i = some b)

theorem qOf_mono {l m : List Nat × List Nat} (h1 : ∀ i ∈ l.1,i ∈ m.1) (h2 : ∀ i ∈ l.2,i ∈ m.2) {b : Nat} (h : qOf c l b) : qOf c m b := by
 rcases h with h | ⟨i,hi,h⟩ | ⟨i,hi,h⟩
 ·exact .inl h
 ·exact .inr (.inl ⟨i,h1 i hi,h⟩)
 ·exact .inr (.inr ⟨i,h2 i hi,h⟩)

theorem VT.weaken {p p' : Nat → Prop} (hp : ∀ b,p b → p' b) {x : AV} {v : Value} (h : VT P w p x v) : VT P w p' x v := h.mono hp fun _ _=>rfl

theorem refs_lt : ∀ (n : Nat) (x : AV),(∀ i ∈ (refs hp n x).1,i < hp.blocks.length) ∧ (∀ i ∈ (refs hp n x).2,i < hp.maps.length)
 | 0,x=>by simp [refs]
 | n + 1, x => by
  have list : ∀ l : List AV,(∀ i ∈ (l.map (refs hp n)).flatMap (·.1),i < hp.blocks.length) ∧ (∀ i ∈ (l.map (refs hp n)).flatMap (·.2),i < hp.maps.length) := fun l=>by
   refine ⟨fun i hi=>?_,fun i hi=>?_⟩
   ·obtain ⟨q,hq,hi⟩ := List.mem_flatMap.1 hi
    obtain ⟨y,_,rfl⟩ := List.mem_map.1 hq
    exact (refs_lt n y).1 i hi
   ·obtain ⟨q,hq,hi⟩ := List.mem_flatMap.1 hi
    obtain ⟨y,_,rfl⟩ := List.mem_map.1 hq
    exact (refs_lt n y).2 i hi
  cases x with
  | agg l=>exact list l
  | tuple l=>exact list l
  | func fn nf l=>exact list l
  | optr b ver idx sub =>
   simp only [refs]
   split
   ·rename_i k hk
    have hlt := (List.getElem?_eq_some_iff.1 (block_some hk).1).1
    cases k.flat with
    | true=>simpa using hlt
    | false =>
     simp only [cond_false]
     refine ⟨fun i hi=>?_,(list _).2⟩
     rcases List.mem_cons.1 hi with rfl | hi
     ·exact hlt
     ·exact (list _).1 i hi
   ·simp
  | oslice b ver off len cap =>
   simp only [refs]
   split
   ·rename_i k hk
    have hlt := (List.getElem?_eq_some_iff.1 (block_some hk).1).1
    cases k.flat with
    | true=>simpa using hlt
    | false=>simp
   ·simp
  | omap b =>
   simp only [refs]
   split
   ·rename_i m hm
    rw [nth?_eq] at hm
    simpa using (List.getElem?_eq_some_iff.1 hm).1
   ·simp
  | top=>simp [refs]
  | val=>simp [refs]
  | eslice=>simp [refs]
  | rslice=>simp [refs]
  | rptr=>simp [refs]
  | rmap=>simp [refs]
  | cslice=>simp [refs]
  | yld=>simp [refs]
  | oiter=>simp [refs]
  | err=>simp [refs]
  | aslice b ver idx sub es len =>
   simp only [refs]
   split
   ·rename_i k hk
    have hlt := (List.getElem?_eq_some_iff.1 (block_some hk).1).1
    cases k.flat with
    | true=>simpa using hlt
    | false=>simp
   ·simp

theorem freeze_ok (h : HR P base w c hp) : ∀ (n : Nat) {x : AV} {u : Value}, VR P w c x u → VT P w (qOf c (refs hp n x)) (freeze hp n x) u
 | 0,x,u,_=>by simp only [freeze]; exact .top u
 | n + 1, x, u, hx => by
  have tree : ∀ {y : AV} {v : Value},VT P w c.p y v → ∀ l,VT P w (qOf c l) y v := fun hy l=>hy.weaken fun b hb=>.inl hb
  have list : ∀ (l : List AV) (vs : Array Value),(∀ i x,l[i]? = some x → VR P w c x (vs.getD i undef)) → ∀ i x,(l.map (freeze hp n))[i]? = some x →
    VT P w (qOf c ((l.map (refs hp n)).flatMap (·.1),(l.map (refs hp n)).flatMap (·.2))) x (vs.getD i undef) := by
   intro l vs hr i x hi
   rw [List.getElem?_map] at hi
   cases hl : l[i]? with
   | none=>rw [hl] at hi; cases hi
   | some y =>
    rw [hl] at hi
    simp only [Option.map_some,Option.some.injEq] at hi
    subst hi
    have hm := List.mem_of_getElem? hl
    exact (freeze_ok h n (hr i y hl)).weaken fun b hb=>qOf_mono (m := ((l.map (refs hp n)).flatMap (·.1),(l.map (refs hp n)).flatMap (·.2)))
     (fun q hq=>List.mem_flatMap.2 ⟨_,List.mem_map.2 ⟨y,hm,rfl⟩,hq⟩) (fun q hq=>List.mem_flatMap.2 ⟨_,List.mem_map.2 ⟨y,hm,rfl⟩,hq⟩) hb
  cases x with
  | top=>simp only [freeze]; exact .top u
  | yld=>simp only [freeze]; exact .top u
  | oiter=>simp only [freeze]; exact .top u
  | val v=>simp only [freeze]; rw [hx.val_inv]; exact .val v
  | err=>simp only [freeze]; cases hx with | tree hx=>exact tree hx _
  | eslice=>simp only [freeze]; cases hx with | tree hx=>exact tree hx _
  | rslice es len f=>simp only [freeze]; cases hx with | tree hx=>exact tree hx _
  | cslice es len cc f=>simp only [freeze]; cases hx with | tree hx=>exact tree hx.unclip _
  | rptr l=>simp only [freeze]; cases hx with | tree hx=>exact tree hx _
  | rmap ki et has get=>simp only [freeze]; cases hx with | tree hx=>exact tree hx _
  | agg l =>
   obtain ⟨vs,rfl,hs,ho,hr⟩ := hx.agg_inv
   simp only [freeze,refs]
   exact .agg _ vs (by simp [hs]) ho (list l vs hr)
  | tuple l =>
   obtain ⟨vs,rfl,hs,hr⟩ := hx.tuple_inv
   simp only [freeze,refs]
   exact .tuple _ vs (by simp [hs]) (list l vs hr)
  | func fn nf l =>
   obtain ⟨f0,vs,rfl,h0,hs,hr⟩ := hx.func_inv
   simp only [freeze,refs]
   exact .func fn nf _ f0 vs h0 (by rw [hs]; simp) (list l (f0 ++ vs) hr)
  | omap b =>
   obtain ⟨r,rfl,hN⟩ := hx.omap_inv
   simp only [freeze,refs]
   split
   ·rename_i m hm
    rw [nth?_eq] at hm
    split
    ·rename_i hit
     obtain ⟨es,clock,h1,h2⟩ := (h.maps b m r hm hN).ex hit
     exact .rmap m.ki m.et m.has m.get r es clock (.inr (.inr ⟨b,by simp,hN⟩)) h1 h2.ek (fun key zv a d g=>tree (h2.zero key zv a d g) _) (fun e he=>tree (h2.get e he) _)
    ·exact .top _
   ·exact .top _
  | aslice b ver idx sub es len =>
   simp only [freeze,refs]
   split
   ·rename_i k hk
    obtain ⟨hkb,hkv⟩ := block_some hk
    obtain ⟨oi,hO,hle,_,hv'⟩ := hx.aslice_inv
    have hB := h.blk b k oi hkb hO
    obtain ⟨hidx,hsz,hu⟩ := hv' (by rw [hB.ver,hkv])
    have hidx' : idx < k.len := by rw [← hB.n]; exact hidx
    have hcap : oi.cap ≠ 0 := by have := hB.le; omega
    cases hf : k.flat with
    | false=>simp only [cond_false]; exact .top _
    | true =>
     simp only [cond_true]
     rw [hu]
     have hel := hB.el idx hidx'
     have hes := hB.es
     by_cases hz : len = 0
     ·subst hz; exact .rslice0 _ _ _ _
     ·have hcell : ∀ i j,i < len → j < es → ∃ y,((k.f idx).drop (sub + i * es))[j]? = some y ∧ ∃ u,w.cell? ⟨oi.blk,oi.lo + (idx * oi.es + sub) + (i * es + j),none⟩ = some u ∧ u.oneCell' = true ∧ VT P w c.p y u := fun i j hi hj=>by
       have hin : sub + i * es + j < (k.f idx).length := by
        rw [hel,← hes]
        have : (i + 1) * es ≤ len * es := Nat.mul_le_mul_right _ (by omega)
        rw [Nat.add_mul,Nat.one_mul] at this
        omega
       obtain ⟨u,g1,g2,_,g4⟩ := hB.cell hidx' (List.getElem?_eq_getElem hin)
       refine ⟨(k.f idx)[sub + i * es + j],by rw [getElem?_drop']; exact List.getElem?_eq_getElem hin,u,?_,g2,g4 hf⟩
       rw [← g1]; congr 2; omega
      let g : Nat → Nat → Value := fun i j=>(w.cell? ⟨oi.blk,oi.lo + (idx * oi.es + sub) + (i * es + j),none⟩).getD undef
      refine .rslice _ _ _ oi.blk _ len g (Nat.le_refl _) (.inr (.inl ⟨b,by simp,oi,hO,hcap,rfl⟩)) (fun i hi=>?_) (fun i j hi hj=>?_) (fun i j y hi hy=>?_)
      ·rw [List.length_take,List.length_drop,hel,← hes]
       have : (i + 1) * es ≤ len * es := Nat.mul_le_mul_right _ (by omega)
       rw [Nat.add_mul,Nat.one_mul] at this
       omega
      ·obtain ⟨y,_,u,g1,g2,_⟩ := hcell i j hi hj
       simp only [g,g1,Option.getD_some]
       exact ⟨trivial,g2⟩
      ·have hj : j < es := by have := (List.getElem?_eq_some_iff.1 hy).1; simp at this; omega
       rw [List.getElem?_take,if_pos hj] at hy
       obtain ⟨y',a1,u,g1,g2,g3⟩ := hcell i j hi hj
       rw [a1] at hy
       cases hy
       simp only [g,g1,Option.getD_some]
       exact g3.weaken fun b hb=>.inl hb
   ·exact .top _
  | optr b ver idx sub =>
   simp only [freeze,refs]
   split
   ·rename_i k hk
    obtain ⟨hkb,hkv⟩ := block_some hk
    obtain ⟨oi,hO,hle,_,hv'⟩ := hx.optr_inv
    have hB := h.blk b k oi hkb hO
    obtain ⟨hidx,hu⟩ := hv' (by rw [hB.ver,hkv])
    have hidx' : idx < k.len := by rw [← hB.n]; exact hidx
    have hcap : oi.cap ≠ 0 := by have := hB.le; omega
    have hcell : ∀ (j : Nat) (y : AV),((k.f idx).drop sub)[j]? = some y → ∃ v,w.cell? ⟨oi.blk,oi.lo + (idx * oi.es + sub) + j,none⟩ = some v ∧ v.oneCell' = true ∧ VR P w c y v ∧ (k.flat = true → VT P w c.p y v) := fun j y hy=>by
     rw [getElem?_drop'] at hy
     obtain ⟨v,g1,g2,g3,g4⟩ := hB.cell hidx' hy
     exact ⟨v,by rw [← g1]; congr 2; omega,g2,g3,g4⟩
    have hall : ∀ (j : Nat),j < ((k.f idx).drop sub).length → ∃ v,w.cell? ⟨oi.blk,oi.lo + (idx * oi.es + sub) + j,none⟩ = some v ∧ v.oneCell' = true := fun j hj=>by
     obtain ⟨v,g1,g2,_⟩ := hcell j _ (List.getElem?_eq_getElem hj)
     exact ⟨v,g1,g2⟩
    let g : Nat → Value := fun j=>(w.cell? ⟨oi.blk,oi.lo + (idx * oi.es + sub) + j,none⟩).getD undef
    have hg : ∀ (j : Nat) (v : Value),w.cell? ⟨oi.blk,oi.lo + (idx * oi.es + sub) + j,none⟩ = some v → g j = v := fun j v hv=>by simp only [g,hv,Option.getD_some]
    rw [hu]
    cases hf : k.flat with
    | true =>
     simp only [cond_true]
     refine .rptr _ oi.blk _ g (.inr (.inl ⟨b,by simp,oi,hO,hcap,rfl⟩)) (fun j hj=>?_) (fun j y hy=>?_)
     ·obtain ⟨v,g1,g2⟩ := hall j hj
      rw [hg j v g1]; exact ⟨g1,g2⟩
     ·obtain ⟨v,g1,_,_,g4⟩ := hcell j y hy
      rw [hg j v g1]; exact tree (g4 hf) _
    | false =>
     simp only [cond_false]
     refine .rptr _ oi.blk _ g (.inr (.inl ⟨b,by simp,oi,hO,hcap,rfl⟩)) (fun j hj=>?_) (fun j y hy=>?_)
     ·obtain ⟨v,g1,g2⟩ := hall j (by simpa using hj)
      rw [hg j v g1]; exact ⟨g1,g2⟩
     ·rw [List.getElem?_map] at hy
      cases hz : ((k.f idx).drop sub)[j]? with
      | none=>rw [hz] at hy; cases hy
      | some z =>
       rw [hz] at hy
       simp only [Option.map_some,Option.some.injEq] at hy
       subst hy
       obtain ⟨v,g1,_,g3,_⟩ := hcell j z hz
       rw [hg j v g1]
       have hm : z ∈ k.f idx := List.mem_of_mem_drop (List.mem_of_getElem? hz)
       exact (freeze_ok h n g3).weaken fun b' hb=>qOf_mono (m := (b :: ((k.f idx).map (refs hp n)).flatMap (·.1),((k.f idx).map (refs hp n)).flatMap (·.2)))
        (fun q hq=>List.mem_cons_of_mem _ (List.mem_flatMap.2 ⟨_,List.mem_map.2 ⟨z,hm,rfl⟩,hq⟩)) (fun q hq=>List.mem_flatMap.2 ⟨_,List.mem_map.2 ⟨z,hm,rfl⟩,hq⟩) hb
   ·exact .top _
  | oslice b ver off len cap =>
   simp only [freeze,refs,shiftF_eq]
   split
   ·rename_i k hk
    obtain ⟨hkb,hkv⟩ := block_some hk
    obtain ⟨oi,hO,hle,_,hv'⟩ := hx.oslice_inv
    have hB := h.blk b k oi hkb hO
    obtain ⟨hn1,a,k1,hu,hk1,hk2,hkn,hk3,_⟩ := hv' (by rw [hB.ver,hkv])
    rw [hu]
    have hn := hB.n
    have hcell : ∀ (i j : Nat) (y : AV),i < len → (k.f (off + i))[j]? = some y → ∃ v,w.cell? ⟨oi.blk,oi.lo + off * oi.es + (i * k.es + j),none⟩ = some v ∧ v.oneCell' = true ∧ VR P w c y v ∧ (k.flat = true → VT P w c.p y v) := fun i j y hi hy=>by
     obtain ⟨v,g1,g2,g3,g4⟩ := hB.cell (by omega : off + i < k.len) hy
     exact ⟨v,by rw [← g1,Nat.add_mul,hB.es]; congr 2; omega,g2,g3,g4⟩
    let g : Nat → Nat → Value := fun i j=>(w.cell? ⟨oi.blk,oi.lo + off * oi.es + (i * k.es + j),none⟩).getD undef
    have hg : ∀ (i j : Nat) (v : Value),w.cell? ⟨oi.blk,oi.lo + off * oi.es + (i * k.es + j),none⟩ = some v → g i j = v := fun i j v hv=>by simp only [g,hv,Option.getD_some]
    by_cases h0 : len = 0
    ·subst h0
     cases k.flat <;> exact .rslice0 _ _ _ _
    ·have hk0 : k1 ≠ 0 := by omega
     have hcap : oi.cap ≠ 0 := by omega
     rw [hk3 hk0]
     have hel : ∀ i,i < len → (k.f (off + i)).length = k.es := fun i hi=>hB.el _ (by omega)
     have hall : ∀ i j,i < len → j < k.es → ∃ v,w.cell? ⟨oi.blk,oi.lo + off * oi.es + (i * k.es + j),none⟩ = some v ∧ v.oneCell' = true := fun i j hi hj=>by
      obtain ⟨v,g1,g2,_⟩ := hcell i j _ hi (List.getElem?_eq_getElem (by rw [hel i hi]; exact hj))
      exact ⟨v,g1,g2⟩
     cases hf : k.flat with
     | true =>
      simp only [cond_true]
      refine .rslice _ _ _ oi.blk _ k1 g hk1 (.inr (.inl ⟨b,by simp,oi,hO,hcap,rfl⟩)) hel (fun i j hi hj=>?_) (fun i j y hi hy=>?_)
      ·obtain ⟨v,g1,g2⟩ := hall i j hi hj
       rw [hg i j v g1]; exact ⟨g1,g2⟩
      ·obtain ⟨v,g1,_,_,g4⟩ := hcell i j y hi hy
       rw [hg i j v g1]; exact tree (g4 hf) _
     | false =>
      simp only [cond_false]
      refine .rslice _ _ _ oi.blk _ k1 g hk1 (.inr (.inl ⟨b,by simp; exact (List.getElem?_eq_some_iff.1 hkb).1,oi,hO,hcap,rfl⟩)) (fun i hi=>by simpa using hel i hi) (fun i j hi hj=>?_) (fun i j y hi hy=>?_)
      ·obtain ⟨v,g1,g2⟩ := hall i j hi hj
       rw [hg i j v g1]; exact ⟨g1,g2⟩
      ·rw [List.getElem?_map] at hy
       cases hz : (k.f (off + i))[j]? with
       | none=>rw [hz] at hy; cases hy
       | some z =>
        rw [hz] at hy
        simp only [Option.map_some,Option.some.injEq] at hy
        subst hy
        obtain ⟨v,g1,_,g3,_⟩ := hcell i j z hi hz
        rw [hg i j v g1]
        exact (freeze_ok h n g3).weaken fun b' hb=>qOf_mono (m := (List.range hp.blocks.length,List.range hp.maps.length))
         (fun q hq=>List.mem_range.2 ((refs_lt n z).1 q hq)) (fun q hq=>List.mem_range.2 ((refs_lt n z).2 q hq)) hb
   ·exact .top _
end
end Go.Tr

/- What a function's contract says; a call by its contract. Conditions: none. -/
namespace Go.Tr
open Go Go.RowKit
variable [GTab]

def FreshAt (P : Program) (B : Nat) (w' : World) (n : Nat) (r : AV) (u : Value) : Prop :=
 ∀ yv : Nat → Option Nat,∃ (O' : Nat → Option OI) (q' : Nat → Prop),
  (∀ b oi,O' b = some oi → n ≤ b ∧ b < n + (adopt r n).2.length ∧ (oi.cap ≠ 0 → B ≤ oi.blk ∧ oi.blk < w'.heap.size ∧ ¬ q' oi.blk)) ∧
  (∀ b,q' b → B ≤ b ∧ b < w'.heap.size) ∧
  VR P w' ⟨q',O',fun _=>none,yv⟩ (adopt r n).1 u ∧
  (∀ (i : Nat) (k : AB) (oi : OI),(adopt r n).2[i]? = some k → O' (n + i) = some oi → BR P w' ⟨q',O',fun _=>none,yv⟩ k oi) ∧
  (∀ b b' oi oi',O' b = some oi → O' b' = some oi' → b ≠ b' → oi.blk ≠ oi'.blk ∨ oi.cap = 0 ∨ oi'.cap = 0)

theorem VT.rptr_p {P : Program} {w : World} {q : Nat → Prop} {l : List AV} {g : Nat} (h : VT P w q (.rptr l) (.pointer (some ⟨g,0,none⟩))) : q g := by
 cases h with
 | rptr _ _ _ _ hp _ _=>exact hp

structure GOk (P : Program) (w : World) (q : Nat → Prop) : Prop where
 g : ∀ (g : Nat) (l : List AV),GTab.gt g = some l → VT P w q (.rptr l) (.pointer (some ⟨g,0,none⟩)) ∧ ∃ cs t a,w.heap[g]? = some (.cells cs t a) ∧ cs.size = l.length
 i : ∀ g : Nat,GTab.gi g = true → q g ∧ ∃ (m : Int) (t : TypeId) (a : Nat × Nat),w.heap[g]? = some (.cells #[.int .i64 m] t a)

theorem GOk.mono {P : Program} {w w' : World} {p p' : Nat → Prop} (h : GOk P w p) (hp : ∀ b,p b → p' b) (hb : ∀ b,p b → w'.heap[b]? = w.heap[b]?) : GOk P w' p' :=
  ⟨fun g l hg=>⟨(h.g g l hg).1.mono hp hb,by rw [hb g (h.g g l hg).1.rptr_p]; exact (h.g g l hg).2⟩,fun g hg=>⟨hp g (h.i g hg).1,by rw [hb g (h.i g hg).1]; exact (h.i g hg).2⟩⟩

def Sound1 (P : Program) (f : FuncId) (args : List AV) (r : AV) (fr : Bool) : Prop :=
 (∀ as w,(callFunc f as).run P w = .ok (.enter f as) w) ∧
 ∀ (w : World) (q : Nat → Prop) (vs : Array Value), (∀ b, q b → b < w.heap.size) → GOk P w q → vs.size = args.length → (∀ (i : Nat) x, args[i]? = some x → VT P w q x (vs.getD i undef)) →
  Calls P f vs w fun e w'=>∃ u,e = .returned u ∧ Below w.heap.size w w' ∧
   match fr with
   | false=>VT P w' (fun b=>q b ∨ (w.heap.size ≤ b ∧ b < w'.heap.size)) r u
   | true=>∀ n,FreshAt P w.heap.size w' n r u

def Sound2 (P : Program) (f : FuncId) (es len : Nat) (R : Nat → List AV) (rest : List AV) (G : Nat → List AV) : Prop :=
 (∀ as w,(callFunc f as).run P w = .ok (.enter f as) w) ∧
 ∀ (w : World) (q : Nat → Prop) (vs : Array Value) (blk off cap : Nat) (cs : Array Value) (t : TypeId), (∀ b, q b → b < w.heap.size) → GOk P w q → ¬ q blk → w.heap[blk]? = some (.cells cs t (0, 0)) →
  off + len * es ≤ cs.size → (∀ v ∈ cs.toList,v.oneCell' = true) → len ≤ cap → (∀ i,i < len → (R i).length = es) → (∀ i j x,i < len → (R i)[j]? = some x → VT P w q x (cs.getD (off + (i * es + j)) undef)) →
  vs.size = rest.length → (∀ (i : Nat) x,rest[i]? = some x → VT P w q x (vs.getD i undef)) →
  Calls P f (#[.slice (some ⟨blk,off,none⟩) len cap] ++ vs) w fun e w'=>e = .returned (.tuple #[]) ∧
   ∃ news : Array Value,news.size = len * es ∧ (∀ v ∈ news.toList,v.oneCell' = true) ∧ (∀ i,i < len → (G i).length = es) ∧
    (∀ (i j : Nat) (y : AV),i < len → (G i)[j]? = some y → VT P w q y (news.getD (i * es + j) undef)) ∧
    Below w.heap.size (w.setRow blk (cs.toList.take off ++ news.toList ++ cs.toList.drop (off + news.toList.length)).toArray) w'

section
variable {P : Program} {T : Nat → Option TI} {w w' : World} {c c' : Cx} {base : Nat} {hp hp' : Hp}

theorem hasNat_iff {l : List Nat} {n : Nat} : hasNat l n = true ↔ n ∈ l := by
 unfold hasNat
 rw [List.any_eq_true]
 constructor
 ·rintro ⟨x,hx,h⟩
  have := Nat.eq_of_beq_eq_true h
  exact this ▸ hx
 ·intro h
  exact ⟨n,h,Nat.beq_refl n⟩

theorem roB_get (ids : List Nat) : ∀ (l : List AB) (n i : Nat),(roB ids n l)[i]? = (l[i]?).map fun k=>bif hasNat ids (n + i) then { k with ro := true } else k
 | [],n,i=>by simp [roB]
 | k :: r,n,0=>by simp [roB]
 | k :: r,n,i + 1=>by
  simp only [roB,List.getElem?_cons_succ]
  rw [roB_get ids r (n + 1) i,show n + 1 + i = n + (i + 1) from by omega]
theorem roM_get (ids : List Nat) : ∀ (l : List AM) (n i : Nat),(roM ids n l)[i]? = (l[i]?).map fun k=>bif hasNat ids (n + i) then { k with ro := true } else k
 | [],n,i=>by simp [roM]
 | k :: r,n,0=>by simp [roM]
 | k :: r,n,i + 1=>by
  simp only [roM,List.getElem?_cons_succ]
  rw [roM_get ids r (n + 1) i,show n + 1 + i = n + (i + 1) from by omega]
theorem roB_length (ids : List Nat) : ∀ (l : List AB) (n : Nat),(roB ids n l).length = l.length
  | [],n=>by simp [roB]
  | k :: r,n=>by simp [roB,roB_length ids r (n + 1)]
theorem roM_length (ids : List Nat) : ∀ (l : List AM) (n : Nat),(roM ids n l).length = l.length
 | [],n=>by simp [roM]
 | k :: r,n=>by simp [roM,roM_length ids r (n + 1)]

theorem roB_nil : ∀ (n : Nat) (l : List AB),roB [] n l = l
  | _,[]=>rfl
  | n,k :: r=>by rw [roB,roB_nil (n + 1) r]; rfl
theorem roM_nil : ∀ (n : Nat) (l : List AM),roM [] n l = l
 | _,[]=>rfl
 | n,k :: r=>by rw [roM,roM_nil (n + 1) r]; rfl

def roHp (hp : Hp) (bs ms : List Nat) : Hp := { hp with blocks := roB bs 0 hp.blocks,maps := roM ms 0 hp.maps }

theorem qout_shared (h : HR P base w c hp) (hw : Below w.heap.size w w') {bs ms : List Nat} (hbs : ∀ i ∈ bs,i < hp.blocks.length) (hms : ∀ i ∈ ms,i < hp.maps.length) :
  QOut P base w c hp w' { c with p := fun b=>qOf c (bs,ms) b ∨ (w.heap.size ≤ b ∧ b < w'.heap.size) } (roHp hp bs ms) := by
 have hqlt : ∀ b,qOf c (bs,ms) b → b < w.heap.size := fun b hb=>by
  rcases hb with hb | ⟨i,_,oi,hO,hc,rfl⟩ | ⟨i,_,hN⟩
  ·exact h.st b hb
  ·exact (h.own i oi hO hc).2
  ·exact (h.mown i b hN).2
 have e : Ext w.heap.size w c w' { c with p := fun b=>qOf c (bs,ms) b ∨ (w.heap.size ≤ b ∧ b < w'.heap.size) } :=
  ⟨hw,fun _ h=>.inl (.inl h),fun b hb=>hw.block b (h.st b hb),fun _ oi h=>⟨oi,h,Nat.le_refl _,fun _=>rfl⟩,fun _ _ h=>h,fun _ _ h=>h⟩
 have hs := hw.size
 have hgb : ∀ (i : Nat) (k : AB),(roB bs 0 hp.blocks)[i]? = some k → ∃ k0,hp.blocks[i]? = some k0 ∧ ABro k0 k := fun i k hk=>by
  rw [roB_get] at hk
  cases hk0 : hp.blocks[i]? with
  | none=>rw [hk0] at hk; cases hk
  | some k0 =>
   rw [hk0] at hk
   simp only [Option.map_some,Option.some.injEq] at hk
   refine ⟨k0,rfl,?_⟩
   cases hh : hasNat bs (0 + i) with
   | true=>rw [hh] at hk; exact .inr hk.symm
   | false=>rw [hh] at hk; exact .inl hk.symm
 have hgm : ∀ (i : Nat) (k : AM),(roM ms 0 hp.maps)[i]? = some k → ∃ k0,hp.maps[i]? = some k0 ∧ AMro k0 k := fun i k hk=>by
  rw [roM_get] at hk
  cases hk0 : hp.maps[i]? with
  | none=>rw [hk0] at hk; cases hk
  | some k0 =>
   rw [hk0] at hk
   simp only [Option.map_some,Option.some.injEq] at hk
   refine ⟨k0,rfl,?_⟩
   cases hh : hasNat ms (0 + i) with
   | true=>rw [hh] at hk; exact .inr hk.symm
   | false=>rw [hh] at hk; exact .inl hk.symm
 refine ⟨⟨fun b k oi hk hO=>?_,h.sep,fun b oi hO hc=>?_,fun b hb=>?_,fun b m r hk hO=>?_,fun b r hO=>?_,h.msep,h.bm⟩,e,⟨fun i k hk=>?_,fun i k hk=>?_⟩,fun _ _ h=>h,fun _ _ h=>.inl h,fun _ _ h=>.inl h,fun b oi h1 h2 h3=>?_,fun b r h1 h3=>?_,fun b hb=>?_,rfl⟩
 ·obtain ⟨k0,hk0,er⟩ := hgb b k hk
  exact (h.blk_old e hk0 hO).ro er
 ·have := h.own b oi hO hc; omega
 ·rcases hb with hb | hb
  ·have := hqlt b hb; omega
  ·exact hb.2
 ·obtain ⟨k0,hk0,er⟩ := hgm b m hk
  exact (h.map_old e hk0 hO).ro er
 ·have := h.mown b r hO; omega
 ·refine ⟨_,by simp only [roHp]; rw [roB_get,hk]; rfl,?_⟩
  cases hh : hasNat bs (0 + i) with
  | true=>exact .inr rfl
  | false=>exact .inl rfl
 ·refine ⟨_,by simp only [roHp]; rw [roM_get,hk]; rfl,?_⟩
  cases hh : hasNat ms (0 + i) with
  | true=>exact .inr rfl
  | false=>exact .inl rfl
 ·have hlt := (h.own b oi h1 h2).2
  rcases h3 with (h3 | ⟨i,hi,oi2,hO2,hc2,he⟩ | ⟨i,hi,hN⟩) | h3
  ·exact .inl ⟨h1,h3⟩
  ·have hib : i = b := by
    by_cases hib : i = b
    ·exact hib
    ·rcases h.sep i b oi2 oi hO2 h1 hib with h | h | h
     ·exact absurd he h
     ·exact absurd h hc2
     ·exact absurd h h2
   subst hib
   have hl := hbs i hi
   refine .inr ⟨{ hp.blocks[i] with ro := true },?_,rfl⟩
   simp only [roHp]
   rw [roB_get,List.getElem?_eq_getElem hl,Nat.zero_add]
   simp [hasNat_iff.2 hi]
  ·exact absurd rfl (h.bm b i oi _ h1 h2 hN)
  ·omega
 ·have hlt := (h.mown b r h1).2
  rcases h3 with (h3 | ⟨i,hi,oi2,hO2,hc2,he⟩ | ⟨i,hi,hN⟩) | h3
  ·exact .inl ⟨h1,h3⟩
  ·exact absurd he (h.bm i b oi2 r hO2 hc2 h1)
  ·have hib := h.msep i b r hN h1
   subst hib
   have hl := hms i hi
   refine .inr ⟨{ hp.maps[i] with ro := true },?_,rfl⟩
   simp only [roHp]
   rw [roM_get,List.getElem?_eq_getElem hl,Nat.zero_add]
   simp [hasNat_iff.2 hi]
  ·omega
 ·rcases hb with (hb | ⟨i,_,oi,hO,hc,he⟩ | ⟨i,_,hN⟩) | hb
  ·exact .inl hb
  ·exact .inr (.inr (.inl ⟨i,oi,hO,hc,he⟩))
  ·exact .inr (.inr (.inr ⟨i,hN⟩))
  ·exact .inr (.inl hb.1)

theorem qout_fresh (h : HR P base w c hp) (hbase : base ≤ w.heap.size) (hw : Below w.heap.size w w') {r : AV} {u : Value} (hf : FreshAt P w.heap.size w' hp.blocks.length r u)
  (hfree : ∀ b,hp.blocks.length ≤ b → b < hp.blocks.length + (adopt r hp.blocks.length).2.length → c.O b = none) :
  ∃ c',QOut P base w c hp w' c' { hp with blocks := hp.blocks ++ (adopt r hp.blocks.length).2 } ∧ VR P w' c' (adopt r hp.blocks.length).1 u := by
 obtain ⟨O',q',f1,f2,f3,f4,f5⟩ := hf c.y
 generalize hA : adopt r hp.blocks.length = A at *
 let c' : Cx := { p := fun b=>c.p b ∨ q' b,O := fun b=>match O' b with | some oi=>some oi | none=>c.O b,N := c.N,y := c.y }
 have hs := hw.size
 have hcase : ∀ b oi,c'.O b = some oi → O' b = some oi ∨ (O' b = none ∧ c.O b = some oi) := fun b oi hb=>by
  simp only [c'] at hb
  cases hO' : O' b with
  | some o2=>rw [hO'] at hb; simp only at hb; exact .inl hb
  | none=>rw [hO'] at hb; simp only at hb; exact .inr ⟨rfl,hb⟩
 have hnew : ∀ b oi,O' b = some oi → c'.O b = some oi := fun b oi hb=>by simp only [c',hb]
 have hold : ∀ b oi,c.O b = some oi → c'.O b = some oi := fun b oi hb=>by
  simp only [c']
  cases hO' : O' b with
  | some o2=>have := (f1 b o2 hO'); rw [hfree b this.1 this.2.1] at hb; cases hb
  | none=>exact hb
 have e : Ext w.heap.size w c w' c' := ⟨hw,fun _ h=>.inl h,fun b hb=>hw.block b (h.st b hb),fun b oi hb=>⟨oi,hold b oi hb,Nat.le_refl _,fun _=>rfl⟩,fun _ _ h=>h,fun _ _ h=>h⟩
 have e2 : Ext 0 w' ⟨q',O',fun _=>none,c.y⟩ w' c' := ⟨Below.refl _ _,fun _ h=>.inr h,fun _ _=>rfl,fun b oi hb=>⟨oi,hnew b oi hb,Nat.le_refl _,fun _=>rfl⟩,(fun b r hb=>by cases hb),fun _ _ h=>h⟩
 refine ⟨c',⟨⟨fun b k oi hk hO=>?_,fun b b' o1 o2 h1 h2 hne=>?_,fun b oi hO hc=>?_,fun b hb=>?_,fun b m r hk hO=>h.map_old e hk hO,fun b r hO=>?_,h.msep,fun b i oi r hO hc hN=>?_⟩,e,
  ⟨fun i x hx=>⟨x,?_,.refl _⟩,fun i x hx=>⟨x,hx,.refl _⟩⟩,hold,fun b oi hb=>?_,fun _ _ h=>.inl h,fun b oi h1 h2 h3=>?_,fun b r h1 h3=>.inl ⟨h1,?_⟩,fun b hb=>hb.imp id fun hb=>.inl (f2 b hb).1,rfl⟩,f3.mono e2⟩
 ·rcases hcase b oi hO with hO' | ⟨_,hO'⟩
  ·have hb := f1 b oi hO'
   obtain ⟨i,rfl⟩ : ∃ i,b = hp.blocks.length + i := ⟨b - hp.blocks.length,by omega⟩
   have hk' : A.2[i]? = some k := by
    rw [List.getElem?_append_right (by omega)] at hk
    simpa using hk
   exact (f4 i k oi hk' hO').mono e2 fun _=>rfl
  ·have hlt : b < hp.blocks.length := by
    rcases Nat.lt_or_ge b hp.blocks.length with hlt | hge
    ·exact hlt
    ·have := (List.getElem?_eq_some_iff.1 hk).1
     simp at this
     rw [hfree b hge this] at hO'; cases hO'
   rw [List.getElem?_append_left hlt] at hk
   exact h.blk_old e hk hO'
 ·rcases hcase b o1 h1 with g1 | ⟨_,g1⟩ <;> rcases hcase b' o2 h2 with g2 | ⟨_,g2⟩
  ·exact f5 b b' o1 o2 g1 g2 hne
  ·by_cases hc : o1.cap = 0
   ·exact .inr (.inl hc)
   ·by_cases hc2 : o2.cap = 0
    ·exact .inr (.inr hc2)
    ·have := (f1 b o1 g1).2.2 hc; have := h.own b' o2 g2 hc2; exact .inl (by omega)
  ·by_cases hc : o2.cap = 0
   ·exact .inr (.inr hc)
   ·by_cases hc2 : o1.cap = 0
    ·exact .inr (.inl hc2)
    ·have := (f1 b' o2 g2).2.2 hc; have := h.own b o1 g1 hc2; exact .inl (by omega)
  ·exact h.sep b b' o1 o2 g1 g2 hne
 ·rcases hcase b oi hO with g | ⟨_,g⟩
  ·have := (f1 b oi g).2.2 hc; omega
  ·have := h.own b oi g hc; omega
 ·rcases hb with hb | hb
  ·have := h.st b hb; omega
  ·exact (f2 b hb).2
 ·have := h.mown b r hO; omega
 ·rcases hcase b oi hO with g | ⟨_,g⟩
  ·have := (f1 b oi g).2.2 hc; have := h.mown i r hN; omega
  ·exact h.bm b i oi r g hc hN
 ·rw [List.getElem?_append_left (List.getElem?_eq_some_iff.1 hx).1]; exact hx
 ·rcases hcase b oi hb with g | ⟨_,g⟩
  ·have := f1 b oi g; exact .inr ⟨this.1,by simp; exact this.2.1⟩
  ·exact .inl g
 ·rcases hcase b oi h1 with g | ⟨_,g⟩
  ·have := (f1 b oi g).2.2 h2
   rcases h3 with h3 | h3
   ·have := h.st _ h3; omega
   ·exact absurd h3 this.2.2
  ·rcases h3 with h3 | h3
   ·exact .inl ⟨g,h3⟩
   ·have := h.own b oi g h2; have := f2 _ h3; omega
 ·rcases h3 with h3 | h3
  ·exact h3
  ·have := h.mown b r h1; have := f2 _ h3; omega

theorem refsL (l : List AV) : (∀ i ∈ (l.map (refs hp 5)).flatMap (·.1),i < hp.blocks.length) ∧ (∀ i ∈ (l.map (refs hp 5)).flatMap (·.2),i < hp.maps.length) := by
 refine ⟨fun i hi=>?_,fun i hi=>?_⟩
 ·obtain ⟨q,hq,hi⟩ := List.mem_flatMap.1 hi
  obtain ⟨y,_,rfl⟩ := List.mem_map.1 hq
  exact (refs_lt 5 y).1 i hi
 ·obtain ⟨q,hq,hi⟩ := List.mem_flatMap.1 hi
  obtain ⟨y,_,rfl⟩ := List.mem_map.1 hq
  exact (refs_lt 5 y).2 i hi

theorem op_call (h : HR P base w c hp) (hg : GOk P w c.p) (hbase : base ≤ w.heap.size) {o : Oper} {f : Operand} {args : Array Operand} {ts : Array TypeId} {ρ : Operand → AV} {r : Operand → Value} (hop : o.op = .call { callee := .value f,args,argTypes := ts })
  (hf : VR P w c (ρ f) (r f)) (hx : ∀ x ∈ args,VR P w c (ρ x) (r x)) {g : FuncId} {as : List AV} {bs ms : List Nat} (hev : opEv T o ρ hp = .call g as bs ms) {res : AV} {fr : Bool} (hS : Sound1 P g as res fr)
  (hfree : fr = true → ∀ b,hp.blocks.length ≤ b → b < hp.blocks.length + (adopt res hp.blocks.length).2.length → c.O b = none) :
  ∃ vs,(execOp r o).run P w = .ok (.enter g vs) w ∧ Calls P g vs w fun e w'=>∃ u,e = .returned u ∧ ∃ c',
   match fr with
   | true=>QOut P base w c hp w' c' { hp with blocks := hp.blocks ++ (adopt res hp.blocks.length).2 } ∧ VR P w' c' (adopt res hp.blocks.length).1 u
   | false=>QOut P base w c hp w' c' (roHp hp bs ms) ∧ VR P w' c' res u := by
 obtain ⟨hin,hcalls⟩ := hS
 unfold opEv at hev
 rw [hop] at hev
 simp only at hev
 split at hev
 ·rename_i g' nf cap hrf
  simp only [Res.call.injEq] at hev
  obtain ⟨rfl,rfl,rfl,rfl⟩ := hev
  rw [hrf] at hf
  obtain ⟨f0,cv,hcv,hf0,hcs,hcr⟩ := hf.func_inv
  have hcs' : f0.size + cv.size = cap.length := by simpa using hcs
  refine ⟨f0 ++ args.map r ++ cv,?_,?_⟩
  ·unfold execOp
   simp only [hop,resolve,hcv,Deferred.ofValue,Sem.run_bind,Sem.run_pure,Result.andThen_ok,invoke]
   simpa using hin (f0 ++ args.map r ++ cv) w
  ·-- the arguments as trees
   let L : List AV := cap.take nf ++ args.toList.map ρ ++ cap.drop nf
   have hLe : (cap.take nf).map (refs hp 5) ++ (args.toList.map fun x=>refs hp 5 (ρ x)) ++ (cap.drop nf).map (refs hp 5) = L.map (refs hp 5) := by simp [L,-List.map_take,-List.map_drop]
   have hLf : (cap.take nf).map (fz hp) ++ (args.toList.map fun x=>fz hp (ρ x)) ++ (cap.drop nf).map (fz hp) = L.map (fz hp) := by simp [L,-List.map_take,-List.map_drop]
   have hLr : ∀ (i : Nat) x,L[i]? = some x → VR P w c x ((f0 ++ args.map r ++ cv).getD i undef) := fun i x hi=>by
    simp only [L] at hi
    have htl : (cap.take nf).length = f0.size := by simp; omega
    simp only [Array.getD_eq_getD_getElem?] at hcr ⊢
    by_cases h1 : i < f0.size
    ·rw [List.append_assoc,List.getElem?_append_left (by omega),List.getElem?_take,if_pos (by omega)] at hi
     have := hcr i x hi
     rw [Array.getElem?_append_left h1] at this
     rw [Array.append_assoc,Array.getElem?_append_left h1]
     exact this
    ·by_cases hlt : i < f0.size + args.size
     ·rw [List.append_assoc,List.getElem?_append_right (by omega),List.getElem?_append_left (by simp; omega),List.getElem?_map] at hi
      rw [Array.append_assoc,Array.getElem?_append_right (by omega),Array.getElem?_append_left (by simp; omega)]
      rw [htl] at hi
      have hlt' : i - f0.size < args.size := by omega
      have ha : args.toList[i - f0.size]? = some args[i - f0.size] := by simp [hlt']
      rw [ha] at hi
      simp only [Option.map_some,Option.some.injEq] at hi
      subst hi
      simpa [hlt'] using hx args[i - f0.size] (by simp)
     ·have hll : (cap.take nf ++ args.toList.map ρ).length = f0.size + args.size := by rw [List.length_append,htl]; simp
      rw [List.getElem?_append_right (by omega),hll,List.getElem?_drop] at hi
      rw [Array.getElem?_append_right (by simp; omega)]
      have := hcr _ x hi
      rw [Array.getElem?_append_right (by omega)] at this
      have e : i - (f0 ++ args.map r).size = nf + (i - (f0.size + args.size)) - f0.size := by simp; omega
      rw [e]
      exact this
   rw [hLe] at *
   rw [hLf] at hcalls
   obtain ⟨l1,l2⟩ := refsL (hp := hp) L
   have hq : ∀ b,qOf c ((L.map (refs hp 5)).flatMap (·.1),(L.map (refs hp 5)).flatMap (·.2)) b → b < w.heap.size := fun b hb=>by
    rcases hb with hb | ⟨i,_,oi,hO,hc,rfl⟩ | ⟨i,_,hN⟩
    ·exact h.st b hb
    ·exact (h.own i oi hO hc).2
    ·exact (h.mown i b hN).2
   have hsz : (f0 ++ args.map r ++ cv).size = (L.map (fz hp)).length := by simp [L]; omega
   refine (hcalls w (qOf c ((L.map (refs hp 5)).flatMap (·.1),(L.map (refs hp 5)).flatMap (·.2))) (f0 ++ args.map r ++ cv) hq (hg.mono (fun b hb=>.inl hb) fun _ _=>rfl) hsz fun i x hi=>?_).mono ?_
   ·rw [List.getElem?_map] at hi
    cases hl : L[i]? with
    | none=>rw [hl] at hi; cases hi
    | some y =>
     rw [hl] at hi
     simp only [Option.map_some,Option.some.injEq] at hi
     subst hi
     have hm := List.mem_of_getElem? hl
     exact (freeze_ok h 5 (hLr i y hl)).weaken fun b hb=>qOf_mono (m := ((L.map (refs hp 5)).flatMap (·.1),(L.map (refs hp 5)).flatMap (·.2)))
      (fun q hq=>List.mem_flatMap.2 ⟨_,List.mem_map.2 ⟨y,hm,rfl⟩,hq⟩) (fun q hq=>List.mem_flatMap.2 ⟨_,List.mem_map.2 ⟨y,hm,rfl⟩,hq⟩) hb
   ·rintro e w' ⟨u,rfl,hw,hres⟩
    refine ⟨u,rfl,?_⟩
    cases fr with
    | true =>
     obtain ⟨c',h1,h2⟩ := qout_fresh h hbase hw (hres hp.blocks.length) (hfree rfl)
     exact ⟨c',h1,h2⟩
    | false=>exact ⟨_,qout_shared h hw l1 l2,.tree hres⟩
 ·cases hev
 ·cases hev

theorem raw_args {o : Oper} {f : Operand} {args : Array Operand} {ts : Array TypeId} {ρ : Operand → AV} {r : Operand → Value} (hop : o.op = .call { callee := .value f,args,argTypes := ts })
  (hf : VR P w c (ρ f) (r f)) (hx : ∀ x ∈ args,VR P w c (ρ x) (r x)) {g : FuncId} {as : List AV} {bs ms : List Nat} (hev : opEv T o ρ hp = .call g as bs ms) :
  ∃ vs : Array Value,vs.size = (rawArgs o ρ).length ∧ ∀ (i : Nat) x,(rawArgs o ρ)[i]? = some x → VR P w c x (vs.getD i undef) := by
 unfold opEv at hev
 rw [hop] at hev
 simp only at hev
 split at hev
 ·rename_i g' nf cap hrf
  simp only [Res.call.injEq] at hev
  obtain ⟨rfl,rfl,rfl,rfl⟩ := hev
  rw [hrf] at hf
  obtain ⟨f0,cv,hcv,hf0,hcs,hcr⟩ := hf.func_inv
  have hcs' : f0.size + cv.size = cap.length := by simpa using hcs
  have hraw : rawArgs o ρ = cap.take nf ++ args.toList.map ρ ++ cap.drop nf := by
   unfold rawArgs
   rw [hop]
   simp only
   rw [hrf]
  refine ⟨f0 ++ args.map r ++ cv,?_,?_⟩
  ·rw [hraw]; simp; omega
  ·rw [hraw]
   intro i x hi
   have htl : (cap.take nf).length = f0.size := by simp; omega
   simp only [Array.getD_eq_getD_getElem?] at hcr ⊢
   by_cases h1 : i < f0.size
   ·rw [List.append_assoc,List.getElem?_append_left (by omega),List.getElem?_take,if_pos (by omega)] at hi
    have := hcr i x hi
    rw [Array.getElem?_append_left h1] at this
    rw [Array.append_assoc,Array.getElem?_append_left h1]
    exact this
   ·by_cases hlt : i < f0.size + args.size
    ·rw [List.append_assoc,List.getElem?_append_right (by omega),List.getElem?_append_left (by simp; omega),List.getElem?_map] at hi
     rw [Array.append_assoc,Array.getElem?_append_right (by omega),Array.getElem?_append_left (by simp; omega)]
     rw [htl] at hi
     have hlt' : i - f0.size < args.size := by omega
     have ha : args.toList[i - f0.size]? = some args[i - f0.size] := by simp [hlt']
     rw [ha] at hi
     simp only [Option.map_some,Option.some.injEq] at hi
     subst hi
     simpa [hlt'] using hx args[i - f0.size] (by simp)
    ·have hll : (cap.take nf ++ args.toList.map ρ).length = f0.size + args.size := by rw [List.length_append,htl]; simp
     rw [List.getElem?_append_right (by omega),hll,List.getElem?_drop] at hi
     rw [Array.getElem?_append_right (by simp; omega)]
     have := hcr _ x hi
     rw [Array.getElem?_append_right (by omega)] at this
     have e : i - (f0 ++ args.map r).size = nf + (i - (f0.size + args.size)) - f0.size := by simp; omega
     rw [e]
     exact this
 ·cases hev
 ·cases hev

theorem op_raw {o : Oper} {f : Operand} {args : Array Operand} {ts : Array TypeId} {ρ : Operand → AV} {r : Operand → Value} (hop : o.op = .call { callee := .value f,args,argTypes := ts })
  (hf : VR P w c (ρ f) (r f)) (hx : ∀ x ∈ args,VR P w c (ρ x) (r x)) {g : FuncId} {as : List AV} {bs ms : List Nat} (hev : opEv T o ρ hp = .call g as bs ms) (hin : ∀ as w,(callFunc g as).run P w = .ok (.enter g as) w) :
  ∃ vs : Array Value,(execOp r o).run P w = .ok (.enter g vs) w ∧ vs.size = (rawArgs o ρ).length ∧ ∀ (i : Nat) x,(rawArgs o ρ)[i]? = some x → VR P w c x (vs.getD i undef) := by
 unfold opEv at hev
 rw [hop] at hev
 simp only at hev
 split at hev
 ·rename_i g' nf cap hrf
  simp only [Res.call.injEq] at hev
  obtain ⟨rfl,rfl,rfl,rfl⟩ := hev
  rw [hrf] at hf
  obtain ⟨f0,cv,hcv,hf0,hcs,hcr⟩ := hf.func_inv
  have hcs' : f0.size + cv.size = cap.length := by simpa using hcs
  have hraw : rawArgs o ρ = cap.take nf ++ args.toList.map ρ ++ cap.drop nf := by
   unfold rawArgs
   rw [hop]
   simp only
   rw [hrf]
  refine ⟨f0 ++ args.map r ++ cv,?_,?_,?_⟩
  ·unfold execOp
   simp only [hop,resolve,hcv,Deferred.ofValue,Sem.run_bind,Sem.run_pure,Result.andThen_ok,invoke]
   simpa using hin (f0 ++ args.map r ++ cv) w
  ·rw [hraw]; simp; omega
  ·rw [hraw]
   intro i x hi
   have htl : (cap.take nf).length = f0.size := by simp; omega
   simp only [Array.getD_eq_getD_getElem?] at hcr ⊢
   by_cases h1 : i < f0.size
   ·rw [List.append_assoc,List.getElem?_append_left (by omega),List.getElem?_take,if_pos (by omega)] at hi
    have := hcr i x hi
    rw [Array.getElem?_append_left h1] at this
    rw [Array.append_assoc,Array.getElem?_append_left h1]
    exact this
   ·by_cases hlt : i < f0.size + args.size
    ·rw [List.append_assoc,List.getElem?_append_right (by omega),List.getElem?_append_left (by simp; omega),List.getElem?_map] at hi
     rw [Array.append_assoc,Array.getElem?_append_right (by omega),Array.getElem?_append_left (by simp; omega)]
     rw [htl] at hi
     have hlt' : i - f0.size < args.size := by omega
     have ha : args.toList[i - f0.size]? = some args[i - f0.size] := by simp [hlt']
     rw [ha] at hi
     simp only [Option.map_some,Option.some.injEq] at hi
     subst hi
     simpa [hlt'] using hx args[i - f0.size] (by simp)
    ·have hll : (cap.take nf ++ args.toList.map ρ).length = f0.size + args.size := by rw [List.length_append,htl]; simp
     rw [List.getElem?_append_right (by omega),hll,List.getElem?_drop] at hi
     rw [Array.getElem?_append_right (by simp; omega)]
     have := hcr _ x hi
     rw [Array.getElem?_append_right (by omega)] at this
     have e : i - (f0 ++ args.map r).size = nf + (i - (f0.size + args.size)) - f0.size := by simp; omega
     rw [e]
     exact this
 ·cases hev
 ·cases hev
end
end Go.Tr
