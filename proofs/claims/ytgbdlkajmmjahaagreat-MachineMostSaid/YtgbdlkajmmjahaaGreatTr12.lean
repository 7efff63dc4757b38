/- Contracts of chapter 5: the reference's maximum power. Conditions: none. -/
import Derived.Test.YtgbdlkajmmjahaaGreatTr11
set_option linter.unusedSectionVars false
set_option linter.unnecessarySimpa false
set_option linter.unusedVariables false
set_option linter.unusedSimpArgs false

-- seat YtgbdlkajmmjahaaGreat
namespace Go.Tr
open Go Go.Proofs
set_option maxRecDepth 20000
set_option maxHeartbeats 8000000

theorem triT_P {t : List MRow} (hR : RwOk t) : ∀ i,i ≤ t.length - 1 → ∀ x ∈ triT t i,TriP x
 | 0,_,_,hx=>by cases hx
 | i + 1, hi, x, hx => by
  unfold triT at hx
  rcases List.mem_append.1 hx with hx | hx
  ·exact triT_P hR i (by omega) x hx
  ·obtain ⟨j,hj,e⟩ := List.getElem_of_mem hx
   have hl := triK_len t i (npT t - 1)
   have h := triK_ok hR (i := i) (by omega) (j := j) (by omega)
   have e2 : (triK t i (npT t - 1)).getD j tri0 = x := by
    rw [List.getD_eq_getElem?_getD,List.getElem?_eq_getElem hj,e]; rfl
   rw [e2] at h
   exact h
theorem digs0_len : (digs (0 : Int).natAbs).length = 0 := by
  show (digs 0).length = 0
  rw [digs0]; rfl
theorem nm1_q (p : P3) : nmQ (p,1) = ptQ p := by
 have e : ∀ a : Int,Rat.divInt a 1 = (a : Rat) := fun a=>by
  have := divInt_int a (d := 1) (by decide)
  rwa [Int.mul_one] at this
 unfold nmQ ptQ
 rw [e,e,e]
theorem S21a (x : Tri) (hx : TriP x) (l : Ln) (hl : LnOk l) {f : Nat → List AV} (h : f 0 = bgC (ptQ x.1.1) ∧ f 1 = bgC (ptQ x.2.1.1) ∧ f 2 = bgC (ptQ x.2.2.1) ∧ f 3 = bgC (ptQ x.1.1)) : SP 21 [.rslice 12 4 f,lnA l] (bgs (spL (arQ x) l)) false := by
 have key : ∀ i,i < 4 → f i = bgC ((arQ x).getD i q0) := fun i hi=>by
  match i,hi with
  | 0,_=>exact (h.1).trans (congrArg bgC (nm1_q _).symm)
  | 1,_=>exact (h.2.1).trans (congrArg bgC (nm1_q _).symm)
  | 2,_=>exact (h.2.2.1).trans (congrArg bgC (nm1_q _).symm)
  | 3,_=>exact (h.2.2.2).trans (congrArg bgC (nm1_q _).symm)
 refine (S21 (arQ x) l (arQ_ok hx hl) hl).argsD rfl fun i y x hy hx=>?_
 match i,hy,hx with
 | 0,hy,hx=>cases hy; cases hx; exact .inr ⟨1,AVF_rows rfl key 0⟩
 | 1,hy,hx=>cases hy; cases hx; exact .inl rfl
def prO (o : Option Rat) : Int × Int := match o with | none=>(0,0) | some q=>(q.num,(q.den : Nat))
theorem row_zr : RowLe true [i64 0,.eslice,i64 0,.eslice] [i64 (sgI (prO none).1),ints (digs (prO none).1.natAbs),i64 (sgI (prO none).2),ints (digs (prO none).2.natAbs)] := by
 refine ⟨rfl,rfl,fun j x y hx hy=>?_⟩
 match j,hx,hy with
 | 0,hx,hy=>cases hx; cases hy; exact .inl rfl
 | 1,hx,hy=>cases hx; cases hy; exact .inr digs0_len
 | 2,hx,hy=>cases hx; cases hy; exact .inl rfl
 | 3,hx,hy=>cases hx; cases hy; exact .inr digs0_len
theorem c109_o {o : Option Rat} {p : Rat} (h : o.isSome = true) (ho : ∀ m,o = some m → Rk 2 m) (hp : Rk 2 p) : SP 109 [rA p,rA2 (prO o).1 (prO o).2] (i64 (cmpR p (o.getD 0))) false := by
 cases o with
 | none=>cases h
 | some b=>exact S109 p b hp (ho b rfl) (by decide)
theorem ave_pr {k : Nat} {o M : Option Rat} (e : o = M) : AVE (k + 2) (rA2 (prO o).1 (prO o).2) (rA2 (prO M).1 (prO M).2) := by subst e; exact ave_rA
theorem ar4 {x : Tri} {f : Nat → List AV} (h0 : bgC (ptQ x.1.1) = f 0) (h1 : bgC (ptQ x.2.1.1) = f 1) (h2 : bgC (ptQ x.2.2.1) = f 2) (h3 : bgC (ptQ x.1.1) = f 3) : ∀ i,i < 4 → bgC ((arQ x).getD i q0) = f i := fun i hi=>by
 match i,hi with
 | 0,_=>exact (congrArg bgC (nm1_q _)).trans h0
 | 1,_=>exact (congrArg bgC (nm1_q _)).trans h1
 | 2,_=>exact (congrArg bgC (nm1_q _)).trans h2
 | 3,_=>exact (congrArg bgC (nm1_q _)).trans h3
theorem rx_x (h : Int) (hl : LnOk (hdL h)) (x : Tri) (hx : TriP x) : ∃ (S : List Q3) (P : List Rat),P = rws h x ∧ S.length ≤ 24 ∧ P.length = S.length ∧ (∀ j,j < S.length → P.getD j 0 = (S.getD j q0).2.2 ∧ Rk 2 (S.getD j q0).2.2) ∧
  (∀ f : Nat → List AV,(f 0 = bgC (ptQ x.1.1) ∧ f 1 = bgC (ptQ x.2.1.1) ∧ f 2 = bgC (ptQ x.2.2.1) ∧ f 3 = bgC (ptQ x.1.1)) → SP 21 [.rslice 12 4 f,lnA (hdL h)] (bgs S) false) := by
 have hq := arQ_ok hx hl
 refine ⟨spL (arQ x) (hdL h),rws h x,rfl,spL_len hq.len,List.length_map _,fun j hj=>⟨getD_mapG _ _ j q0 0 hj,?_⟩,fun f e=>S21a x hx _ hl e⟩
 exact (hq.on _ (Nat.le_refl _) _ ((putAll_mem _ _).1 (getD_memG (d := q0) hj))).2.2
set_option maxHeartbeats 16000000 in
theorem S40 (t : List MRow) (hR : RwOk t) (h : Int) (hs : szE h = 0) : SP 40 [tblA t, i64 h] (.tuple [rA2 (prO (rxT h none (triT t (t.length - 1)))).1 (prO (rxT h none (triT t (t.length - 1)))).2, vb (rxT h none (triT t (t.length - 1))).isSome]) false := by
 have h108 := S108 t hR
 have hln := hdL_ok hs
 have hP := triT_P hR (t.length - 1) (Nat.le_refl _)
 have hTl := triT_len t (t.length - 1)
 have hn := hR.n
 have hnp := hR.np
 have hTl2 : (triT t (t.length - 1)).length ≤ 60 := by
  rw [hTl]
  have := Nat.mul_le_mul (show t.length - 1 ≤ 5 by omega) (show 2 * (npT t - 1) ≤ 10 by omega)
  omega
 generalize triT t (t.length - 1) = L at *
 obtain ⟨M,hM⟩ : ∃ M,M = rxT h none L := ⟨_,rfl⟩
 rw [← hM]
 refine sound (d := 2) tok2 mixed2 Tryz.func40 (by kernel_rfl) (by kernel_rfl) ?_
 (conv=>whnf); refine .inl ⟨_,_,byX rfl (h108),?_⟩
 (conv=>whnf); refine ⟨[],[9,8,7,6,4,1],fun st mq=>∃ (k : Nat) (o : Option Rat),(k ≤ L.length) ∧ (o = rxT h none (L.take k)) ∧ (∀ m,o = some m → Rk 2 m) ∧ st = ⟨[(9,i64 k),(8,tris L),(7,vb o.isSome),(6,.optr 2 0 0 0),(4,.optr 1 0 0 0),(1,i64 h)],⟨[⟨1,1,fun _=>[rowsA t],0,false,true,true⟩,⟨4,1,fun _=>[i64 0,.eslice,i64 0,.eslice],0,false,true,true⟩,⟨4,1,fun _=>[i64 (sgI (prO o).1),ints (digs (prO o).1.natAbs),i64 (sgI (prO o).2),ints (digs (prO o).2.natAbs)],0,false,true,true⟩],[],none,0⟩,[]⟩ ∧ mq = L.length - k,
  ⟨_,_,⟨0,none,by omega,rfl,nofun,rfl,rfl⟩,⟨⟨.inl rfl,rfl,rfl,rfl⟩,⟨⟨rfl,rfl,rfl,rfl,fun _=>rfl,fun _ _=>.inl rfl⟩,⟨⟨rfl,rfl,rfl,rfl,fun _=>rfl,fun _ _=>.inl rfl⟩,⟨⟨rfl,rfl,rfl,rfl,fun _=>rfl,fun _ _=>.inr (row_zr)⟩,trivial⟩⟩⟩,trivial⟩⟩,?_⟩
 rintro s0 m0 ⟨k,o,hk,ho,hm,rfl,hmeas⟩
 by_cases hlt : k < L.length
 ·have hx := hP _ (getD_memG (d := tri0) hlt)
  have c1 := S88 _ hx.1
  have c2 := S88 _ hx.2.1
  have c3 := S88 _ hx.2.2
  have h31 := S31 h
  obtain ⟨S,P,hPe,hSl,hPl,hSP,h21⟩ := rx_x h hln _ hx
  conv=>whnf
  (conv=>whnf); refine ifB_dec (fun w1=>?_) (fun w1=>?_)
  ·conv => whnf
   (conv=>whnf); refine ⟨⟨(by omega),(by omega)⟩,?_⟩
   conv=>whnf
   (conv=>whnf); refine ⟨[],by kernel_rfl,?_⟩
   conv=>whnf
   (conv=>whnf); refine ⟨⟨(by omega),(by omega)⟩,?_⟩
   conv=>whnf
   (conv=>whnf); refine .inl ⟨_,_,byX rfl (c1),?_⟩
   conv=>whnf
   (conv=>whnf); refine ⟨⟨(by omega),(by omega)⟩,?_⟩
   conv=>whnf
   (conv=>whnf); refine .inl ⟨_,_,byX rfl (c2),?_⟩
   conv=>whnf
   (conv=>whnf); refine ⟨⟨(by omega),(by omega)⟩,?_⟩
   conv=>whnf
   (conv=>whnf); refine .inl ⟨_,_,byX rfl (c3),?_⟩
   conv=>whnf
   (conv=>whnf); refine ⟨⟨(by omega),(by omega)⟩,?_⟩
   conv=>whnf
   (conv=>whnf); refine .inl ⟨_,_,byX rfl (c1),?_⟩
   conv=>whnf
   (conv=>whnf); refine .inl ⟨_,_,byX rfl (Sound1.pl (h31) rfl),?_⟩
   conv=>whnf
   (conv=>whnf); refine .inl ⟨_,_,byX rfl (h21 _ ⟨rfl,rfl,rfl,rfl⟩),?_⟩
   conv=>whnf
   (conv=>whnf); refine ⟨[],[13,12,9,8,7,6,4,1],fun st mq=>∃ (j : Nat) (u : Option Rat) (F3 : Nat → List AV),(j ≤ S.length) ∧ (u = mxO o (P.take j)) ∧ (∀ m,u = some m → Rk 2 m) ∧ st = ⟨[(13,i64 j),(12,bgs S),(9,i64 k),(8,tris L),(7,vb u.isSome),(6,.optr 2 0 0 0),(4,.optr 1 0 0 0),(1,i64 h)],⟨[⟨1,1,fun _=>[rowsA t],0,false,true,true⟩,⟨4,1,fun _=>[i64 0,.eslice,i64 0,.eslice],0,false,true,true⟩,⟨4,1,fun _=>[i64 (sgI (prO u).1),ints (digs (prO u).1.natAbs),i64 (sgI (prO u).2),ints (digs (prO u).2.natAbs)],0,false,true,true⟩,⟨9,1,F3,0,false,true,false⟩,⟨12,4,fun i=>bgC ((arQ (L.getD k tri0)).getD i q0),0,true,true,false⟩],[],none,0⟩,[]⟩ ∧ mq = S.length - j,
    ⟨_,_,⟨0,o,_,by omega,rfl,hm,rfl,rfl⟩,⟨⟨.inl rfl,rfl,rfl,rfl⟩,⟨⟨rfl,rfl,rfl,rfl,fun _=>rfl,fun _ _=>.inl rfl⟩,⟨⟨rfl,rfl,rfl,rfl,fun _=>rfl,fun _ _=>.inl rfl⟩,⟨⟨rfl,rfl,rfl,rfl,fun _=>rfl,fun _ _=>.inl rfl⟩,⟨⟨rfl,rfl,rfl,rfl,fun _=>rfl,fun _ _=>.inl rfl⟩,⟨⟨rfl,rfl,rfl,rfl,fun _=>rfl,fun i hi=>.inl (ar4 (by rfl) (by rfl) (by rfl) (by rfl) i hi)⟩,trivial⟩⟩⟩⟩⟩,trivial⟩⟩,?_⟩
   rintro s0 m0 ⟨j,u,F3,hj,hu,hum,rfl,hmeas⟩
   by_cases hlj : j < S.length
   ·obtain ⟨he,hrk⟩ := hSP j hlj
    have e1 : mxO o (P.take (j + 1)) = stO u (S.getD j q0).2.2 := by rw [mxO_take _ _ _ (by omega),← hu,he]
    by_cases g1 : u.isSome = true
    ·have c109 := c109_o g1 hum hrk
     by_cases g2 : 0 < cmpR (S.getD j q0).2.2 (u.getD 0)
     ·conv=>whnf
      conv=>whnf
      (conv=>whnf); refine ifB_dec (fun w2=>?_) (fun w2=>?_)
      ·conv=>whnf
       conv=>whnf
       (conv=>whnf); refine ⟨[],by kernel_rfl,?_⟩
       conv=>whnf
       conv=>whnf
       (conv=>whnf); refine ifB_not ?_
       conv=>whnf
       conv=>whnf
       (conv=>whnf); refine ifB_intro (fun w3=>?_) (fun w3=>?_)
       ·conv=>whnf
        conv=>whnf
        (conv=>whnf); refine ⟨⟨(by omega),(by omega)⟩,?_⟩
        conv=>whnf
        conv=>whnf
        (conv=>whnf); refine .inl ⟨_,_,byX rfl (Sound1.pl (c109) rfl),?_⟩
        conv=>whnf
        conv=>whnf
        (conv=>whnf); refine ifB_dec (fun w4=>?_) (fun w4=>?_)
        ·conv=>whnf
         conv=>whnf
         (conv=>whnf); refine ⟨⟨(by omega),(by omega)⟩,?_⟩
         conv=>whnf
         conv=>whnf
         (conv=>whnf); refine ⟨inK64 (by omega) (by omega),?_⟩
         conv=>whnf
         conv=>whnf
         (conv=>whnf); refine ⟨_,_,⟨⟨j + 1,some (S.getD j q0).2.2,_,by omega,(by rw [e1,st_gt g1 g2]),(fun m e=>by cases e; exact hrk),rfl,rfl⟩,by omega⟩,⟨⟨.inl rfl,rfl,rfl,rfl⟩,⟨⟨rfl,rfl,rfl,rfl,fun _=>rfl,fun _ _=>.inl rfl⟩,⟨⟨rfl,rfl,rfl,rfl,fun _=>rfl,fun _ _=>.inl rfl⟩,⟨⟨rfl,rfl,rfl,rfl,fun _=>rfl,fun _ _=>.inl rfl⟩,⟨⟨rfl,rfl,rfl,rfl,fun _=>rfl,fun _ _=>.inl rfl⟩,⟨⟨rfl,rfl,rfl,rfl,fun _=>rfl,fun _ _=>.inl rfl⟩,trivial⟩⟩⟩⟩⟩,trivial⟩⟩
        ·(exfalso; omega)
       ·exact absurd (g1.symm.trans w3) nofun
      ·(exfalso; omega)
     ·conv=>whnf
      conv=>whnf
      (conv=>whnf); refine ifB_dec (fun w2=>?_) (fun w2=>?_)
      ·conv=>whnf
       conv=>whnf
       (conv=>whnf); refine ⟨[],by kernel_rfl,?_⟩
       conv=>whnf
       conv=>whnf
       (conv=>whnf); refine ifB_not ?_
       conv=>whnf
       conv=>whnf
       (conv=>whnf); refine ifB_intro (fun w3=>?_) (fun w3=>?_)
       ·conv=>whnf
        conv=>whnf
        (conv=>whnf); refine ⟨⟨(by omega),(by omega)⟩,?_⟩
        conv=>whnf
        conv=>whnf
        (conv=>whnf); refine .inl ⟨_,_,byX rfl (Sound1.pl (c109) rfl),?_⟩
        conv=>whnf
        conv=>whnf
        (conv=>whnf); refine ifB_dec (fun w4=>?_) (fun w4=>?_)
        ·(exfalso; omega)
        ·conv=>whnf
         conv=>whnf
         (conv=>whnf); refine ⟨inK64 (by omega) (by omega),?_⟩
         conv=>whnf
         conv=>whnf
         (conv=>whnf); refine ⟨_,_,⟨⟨j + 1,u,_,by omega,(by rw [e1,st_le g1 g2]),hum,rfl,rfl⟩,by omega⟩,⟨⟨.inl rfl,rfl,rfl,rfl⟩,⟨⟨rfl,rfl,rfl,rfl,fun _=>rfl,fun _ _=>.inl rfl⟩,⟨⟨rfl,rfl,rfl,rfl,fun _=>rfl,fun _ _=>.inl rfl⟩,⟨⟨rfl,rfl,rfl,rfl,fun _=>rfl,fun _ _=>.inl rfl⟩,⟨⟨rfl,rfl,rfl,rfl,fun _=>rfl,fun _ _=>.inl rfl⟩,⟨⟨rfl,rfl,rfl,rfl,fun _=>rfl,fun _ _=>.inl rfl⟩,trivial⟩⟩⟩⟩⟩,trivial⟩⟩
       ·exact absurd (g1.symm.trans w3) nofun
      ·(exfalso; omega)
    ·conv=>whnf
     conv=>whnf
     (conv=>whnf); refine ifB_dec (fun w2=>?_) (fun w2=>?_)
     ·conv=>whnf
      conv=>whnf
      (conv=>whnf); refine ⟨[],by kernel_rfl,?_⟩
      conv=>whnf
      conv=>whnf
      (conv=>whnf); refine ifB_not ?_
      conv=>whnf
      conv=>whnf
      (conv=>whnf); refine ifB_intro (fun w3=>?_) (fun w3=>?_)
      ·conv=>whnf
       conv=>whnf
       (conv=>whnf); refine ⟨⟨(by omega),(by omega)⟩,?_⟩
       (first | contradiction | omega)
      ·conv=>whnf
       conv=>whnf
       (conv=>whnf); refine ⟨⟨(by omega),(by omega)⟩,?_⟩
       conv=>whnf
       conv=>whnf
       (conv=>whnf); refine ⟨inK64 (by omega) (by omega),?_⟩
       conv=>whnf
       conv=>whnf
       (conv=>whnf); refine ⟨_,_,⟨⟨j + 1,some (S.getD j q0).2.2,_,by omega,(by rw [e1,st_none _ g1]),(fun m e=>by cases e; exact hrk),rfl,rfl⟩,by omega⟩,⟨⟨.inl rfl,rfl,rfl,rfl⟩,⟨⟨rfl,rfl,rfl,rfl,fun _=>rfl,fun _ _=>.inl rfl⟩,⟨⟨rfl,rfl,rfl,rfl,fun _=>rfl,fun _ _=>.inl rfl⟩,⟨⟨rfl,rfl,rfl,rfl,fun _=>rfl,fun _ _=>.inl rfl⟩,⟨⟨rfl,rfl,rfl,rfl,fun _=>rfl,fun _ _=>.inl rfl⟩,⟨⟨rfl,rfl,rfl,rfl,fun _=>rfl,fun _ _=>.inl rfl⟩,trivial⟩⟩⟩⟩⟩,trivial⟩⟩
     ·(exfalso; omega)
   ·have he := mp_end hu (by omega)
    conv=>whnf
    conv=>whnf
    (conv=>whnf); refine ifB_dec (fun w2=>?_) (fun w2=>?_)
    ·(exfalso; omega)
    ·conv=>whnf
     conv=>whnf
     (conv=>whnf); refine ⟨inK64 (by omega) (by omega),?_⟩
     conv=>whnf
     conv=>whnf
     (conv=>whnf); refine ⟨_,_,⟨⟨k + 1,u,by omega,(by rw [rxT_take hlt,← ho,he,hPe]),hum,rfl,rfl⟩,by omega⟩,⟨⟨.inl rfl,rfl,rfl,rfl⟩,⟨⟨rfl,rfl,rfl,rfl,fun _=>rfl,fun _ _=>.inl rfl⟩,⟨⟨rfl,rfl,rfl,rfl,fun _=>rfl,fun _ _=>.inl rfl⟩,⟨⟨rfl,rfl,rfl,rfl,fun _=>rfl,fun _ _=>.inl rfl⟩,trivial⟩⟩⟩,trivial⟩⟩
  ·(exfalso; omega)
 ·have e : o = M := by rw [ho,hM,List.take_of_length_le (by omega)]
  conv=>whnf
  (conv=>whnf); refine ifB_dec (fun w1=>?_) (fun w1=>?_)
  ·(exfalso; omega)
  ·conv=>whnf
   (conv=>whnf); refine ⟨?_,nofun⟩
   exact ave_tup2 (ave_pr e) (congrArg (fun q : Option Rat=>vb q.isSome) e)
end Go.Tr

/- Contracts of chapter 5: where a list meets a line, as memory of the caller's own. Conditions: none. -/
-- seat YtgbdlkajmmjahaaGreat
namespace Go.Tr
open Go Go.Proofs
set_option maxRecDepth 20000
set_option maxHeartbeats 8000000

theorem nm_val {n : Nm} {x : AV} (hx : x ∈ nmC n) : ∃ v,x = .val v := by
  simp only [List.mem_cons,List.not_mem_nil,or_false] at hx
  rcases hx with h | h | h | h <;> exact ⟨_,h⟩
set_option maxHeartbeats 8000000 in
theorem S90t (L : List Nm) (l : Ln) (hL : CvOk L) (hl : LnOk l) : SP 90 [nms L, lnA l] (nms (onL L l)) true := by
 have hlen := hL.len
 refine sound (d := 2) tok2 mixed2 Tryz.func90 (by kernel_rfl) (by kernel_rfl) ?_
 (conv=>whnf); refine ⟨[.slot 5 4],[0,3,5,10,11,12],fun st mq=>∃ (k : Nat) (R : List Nm) (n : Nat),(k ≤ L.length) ∧ (R = onN L l k) ∧ (R.length = n) ∧ st = ⟨[(0,nms L),(3,.optr 0 0 0 0),(5,.oslice 1 0 0 n none),(10,nms L),(11,i64 L.length),(12,i64 k)],⟨[⟨4,1,fun _=>lnC l,0,false,true,true⟩,⟨4,n,fun i=>nmC (R.getD i n0),0,false,true,false⟩],[],none,0⟩,[]⟩ ∧ mq = L.length - k,
  ⟨_,_,⟨0,[],0,by omega,rfl,rfl,rfl,rfl⟩,⟨⟨.inl rfl,rfl,rfl,rfl⟩,⟨⟨rfl,rfl,rfl,rfl,fun _=>rfl,fun _ _=>.inl rfl⟩,⟨⟨rfl,rfl,rfl,rfl,fun _=>rfl,fun i h=>.inl (absurd h (Nat.not_lt_zero i))⟩,trivial⟩⟩,trivial⟩⟩,?_⟩
 rintro s0 m0 ⟨k,R,n,hk,hR,hn,rfl,hmeas⟩
 have hrl := onN_len L l k
 rw [← hR] at hrl
 by_cases hlt : k < L.length
 ·have b1 := hL.b _ (getD_memG (d := n0) hlt)
  have s1 := (side_b hl b1).2
  have c1 := S149 l _ hl b1
  by_cases hz : sideN l (L.getD k n0) = 0
  ·have eR := onN_1 hz
   rw [← hR] at eR
   by_cases hlt2 : k + 1 < L.length
   ·have b2 := hL.b _ (getD_memG (d := n0) hlt2)
    have c2 := S149 l _ hl b2
    rw [hz] at c1
    conv=>whnf
    (conv=>whnf); refine ifB_dec (fun w1=>?_) (fun w1=>?_)
    ·conv=>whnf
     (conv=>whnf); refine ⟨⟨(by omega),(by omega)⟩,?_⟩
     conv=>whnf
     (conv=>whnf); refine .inl ⟨_,_,byX rfl (Sound1.pl (c1) rfl),?_⟩
     conv=>whnf
     (conv=>whnf); refine .inl ?_
     conv=>whnf
     (conv=>whnf); refine ⟨(by show _ * (32 + 1) ≤ _; omega),?_⟩
     conv=>whnf
     (conv=>whnf); refine ⟨inK64 (by omega) (by omega),?_⟩
     conv=>whnf
     (conv=>whnf); refine ifB_dec (fun w2=>?_) (fun w2=>?_)
     ·conv=>whnf
      (conv=>whnf); refine ⟨[],by kernel_rfl,?_⟩
      conv=>whnf
      (conv=>whnf); refine ⟨inK64 (by omega) (by omega),?_⟩
      conv=>whnf
      (conv=>whnf); refine ⟨⟨(by omega),(by omega)⟩,?_⟩
      conv=>whnf
      (conv=>whnf); refine .inl ⟨_,_,byX rfl (Sound1.pl (c2) rfl),?_⟩
      conv=>whnf
      (conv=>whnf); refine ⟨inK64 (by omega) (by omega),?_⟩
      conv=>whnf
      (conv=>whnf); refine ⟨_,_,⟨⟨k + 1,R ++ [L.getD k n0],n + 1,by omega,eR.symm,(by simp [hn]),rfl,rfl⟩,by omega⟩,⟨⟨.inl rfl,rfl,rfl,rfl⟩,⟨⟨rfl,rfl,rfl,rfl,fun _=>rfl,fun _ _=>.inl rfl⟩,⟨⟨rfl,rfl,rfl,rfl,fun _=>rfl,fun j hj=>.inl (appG nmC (fun _=>rfl) n0 R _ n j hn hj)⟩,trivial⟩⟩,trivial⟩⟩
     ·(exfalso; omega)
    ·(exfalso; omega)
   ·rw [hz] at c1
    conv=>whnf
    (conv=>whnf); refine ifB_dec (fun w1=>?_) (fun w1=>?_)
    ·conv=>whnf
     (conv=>whnf); refine ⟨⟨(by omega),(by omega)⟩,?_⟩
     conv=>whnf
     (conv=>whnf); refine .inl ⟨_,_,byX rfl (Sound1.pl (c1) rfl),?_⟩
     conv=>whnf
     (conv=>whnf); refine .inl ?_
     conv=>whnf
     (conv=>whnf); refine ⟨(by show _ * (32 + 1) ≤ _; omega),?_⟩
     conv=>whnf
     (conv=>whnf); refine ⟨inK64 (by omega) (by omega),?_⟩
     conv=>whnf
     (conv=>whnf); refine ifB_dec (fun w2=>?_) (fun w2=>?_)
     ·(exfalso; omega)
     ·conv=>whnf
      (conv=>whnf); refine ⟨inK64 (by omega) (by omega),?_⟩
      conv=>whnf
      (conv=>whnf); refine ⟨_,_,⟨⟨k + 1,R ++ [L.getD k n0],n + 1,by omega,eR.symm,(by simp [hn]),rfl,rfl⟩,by omega⟩,⟨⟨.inl rfl,rfl,rfl,rfl⟩,⟨⟨rfl,rfl,rfl,rfl,fun _=>rfl,fun _ _=>.inl rfl⟩,⟨⟨rfl,rfl,rfl,rfl,fun _=>rfl,fun j hj=>.inl (appG nmC (fun _=>rfl) n0 R _ n j hn hj)⟩,trivial⟩⟩,trivial⟩⟩
    ·(exfalso; omega)
  ·by_cases hlt2 : k + 1 < L.length
   ·have b2 := hL.b _ (getD_memG (d := n0) hlt2)
    have s2 := (side_b hl b2).2
    have c2 := S149 l _ hl b2
    have c3 := S150 _ _ (sideN l (L.getD k n0)) (sideN l (L.getD (k + 1) n0)) b1 b2 s1 s2
    by_cases hc : crossB (sideN l (L.getD k n0)) (sideN l (L.getD (k + 1) n0))
    ·have eR := onN_2 hz ⟨hlt2, hc⟩
     rw [← hR] at eR
     unfold crossB at hc
     generalize sideN l (L.getD k n0) = A at *
     generalize sideN l (L.getD (k + 1) n0) = B at *
     rcases hc with hc | hc
     ·conv => whnf
      (conv=>whnf); refine ifB_dec (fun w1=>?_) (fun w1=>?_)
      ·conv=>whnf
       (conv=>whnf); refine ⟨⟨(by omega),(by omega)⟩,?_⟩
       conv=>whnf
       (conv=>whnf); refine .inl ⟨_,_,byX rfl (Sound1.pl (c1) rfl),?_⟩
       conv=>whnf
       (conv=>whnf); refine ifB_beq (fun w2=>?_) (fun w2=>?_)
       ·(exfalso; omega)
       ·conv=>whnf
        (conv=>whnf); refine ⟨inK64 (by omega) (by omega),?_⟩
        conv=>whnf
        (conv=>whnf); refine ifB_dec (fun w3=>?_) (fun w3=>?_)
        ·conv=>whnf
         (conv=>whnf); refine ⟨[],by kernel_rfl,?_⟩
         conv=>whnf
         (conv=>whnf); refine ⟨inK64 (by omega) (by omega),?_⟩
         conv=>whnf
         (conv=>whnf); refine ⟨⟨(by omega),(by omega)⟩,?_⟩
         conv=>whnf
         (conv=>whnf); refine .inl ⟨_,_,byX rfl (Sound1.pl (c2) rfl),?_⟩
         conv=>whnf
         (conv=>whnf); refine ifB_dec (fun w4=>?_) (fun w4=>?_)
         ·conv=>whnf
          (conv=>whnf); refine ifB_dec (fun w5=>?_) (fun w5=>?_)
          ·conv=>whnf
           (conv=>whnf); refine ⟨[],by kernel_rfl,?_⟩
           conv=>whnf
           (conv=>whnf); refine ⟨inK64 (by omega) (by omega),?_⟩
           conv=>whnf
           (conv=>whnf); refine ⟨⟨(by omega),(by omega)⟩,?_⟩
           conv=>whnf
           (conv=>whnf); refine .inl ⟨_,_,byX rfl (Sound1.pl (c3) rfl),?_⟩
           conv=>whnf
           (conv=>whnf); refine .inl ?_
           conv=>whnf
           (conv=>whnf); refine ⟨(by show _ * (32 + 1) ≤ _; omega),?_⟩
           conv=>whnf
           (conv=>whnf); refine ⟨inK64 (by omega) (by omega),?_⟩
           conv=>whnf
           (conv=>whnf); refine ⟨_,_,⟨⟨k + 1,R ++ [crsN (L.getD k n0) (L.getD (k + 1) n0) A B],n + 1,by omega,eR.symm,(by simp [hn]),rfl,rfl⟩,by omega⟩,⟨⟨.inl rfl,rfl,rfl,rfl⟩,⟨⟨rfl,rfl,rfl,rfl,fun _=>rfl,fun _ _=>.inl rfl⟩,⟨⟨rfl,rfl,rfl,rfl,fun _=>rfl,fun j hj=>.inl (appG nmC (fun _=>rfl) n0 R _ n j hn hj)⟩,trivial⟩⟩,trivial⟩⟩
          ·(exfalso; omega)
         ·(exfalso; omega)
        ·(exfalso; omega)
      ·(exfalso; omega)
     ·conv => whnf
      (conv=>whnf); refine ifB_dec (fun w1=>?_) (fun w1=>?_)
      ·conv => whnf
       (conv=>whnf); refine ⟨⟨(by omega),(by omega)⟩,?_⟩
       conv=>whnf
       (conv=>whnf); refine .inl ⟨_,_,byX rfl (Sound1.pl (c1) rfl),?_⟩
       conv=>whnf
       (conv=>whnf); refine ifB_beq (fun w2=>?_) (fun w2=>?_)
       ·(exfalso; omega)
       ·conv=>whnf
        (conv=>whnf); refine ⟨inK64 (by omega) (by omega),?_⟩
        conv=>whnf
        (conv=>whnf); refine ifB_dec (fun w3=>?_) (fun w3=>?_)
        ·conv=>whnf
         (conv=>whnf); refine ⟨[],by kernel_rfl,?_⟩
         conv=>whnf
         (conv=>whnf); refine ⟨inK64 (by omega) (by omega),?_⟩
         conv=>whnf
         (conv=>whnf); refine ⟨⟨(by omega),(by omega)⟩,?_⟩
         conv=>whnf
         (conv=>whnf); refine .inl ⟨_,_,byX rfl (Sound1.pl (c2) rfl),?_⟩
         conv=>whnf
         (conv=>whnf); refine ifB_dec (fun w4=>?_) (fun w4=>?_)
         ·(exfalso; omega)
         ·conv=>whnf
          (conv=>whnf); refine ifB_dec (fun w5=>?_) (fun w5=>?_)
          ·conv=>whnf
           (conv=>whnf); refine ifB_dec (fun w6=>?_) (fun w6=>?_)
           ·conv=>whnf
            (conv=>whnf); refine ⟨[],by kernel_rfl,?_⟩
            conv=>whnf
            (conv=>whnf); refine ⟨inK64 (by omega) (by omega),?_⟩
            conv=>whnf
            (conv=>whnf); refine ⟨⟨(by omega),(by omega)⟩,?_⟩
            conv=>whnf
            (conv=>whnf); refine .inl ⟨_,_,byX rfl (Sound1.pl (c3) rfl),?_⟩
            conv=>whnf
            (conv=>whnf); refine .inl ?_
            conv=>whnf
            (conv=>whnf); refine ⟨(by show _ * (32 + 1) ≤ _; omega),?_⟩
            conv=>whnf
            (conv=>whnf); refine ⟨inK64 (by omega) (by omega),?_⟩
            conv=>whnf
            (conv=>whnf); refine ⟨_,_,⟨⟨k + 1,R ++ [crsN (L.getD k n0) (L.getD (k + 1) n0) A B],n + 1,by omega,eR.symm,(by simp [hn]),rfl,rfl⟩,by omega⟩,⟨⟨.inl rfl,rfl,rfl,rfl⟩,⟨⟨rfl,rfl,rfl,rfl,fun _=>rfl,fun _ _=>.inl rfl⟩,⟨⟨rfl,rfl,rfl,rfl,fun _=>rfl,fun j hj=>.inl (appG nmC (fun _=>rfl) n0 R _ n j hn hj)⟩,trivial⟩⟩,trivial⟩⟩
           ·(exfalso; omega)
          ·(exfalso; omega)
        ·(exfalso; omega)
      ·(exfalso; omega)
    ·have eR := onN_3 hz (fun e => hc e.2)
     rw [← hR] at eR
     unfold crossB at hc
     generalize sideN l (L.getD k n0) = A at *
     generalize sideN l (L.getD (k + 1) n0) = B at *
     conv=>whnf
     (conv=>whnf); refine ifB_dec (fun w1=>?_) (fun w1=>?_)
     ·conv => whnf
      (conv=>whnf); refine ⟨⟨(by omega),(by omega)⟩,?_⟩
      conv=>whnf
      (conv=>whnf); refine .inl ⟨_,_,byX rfl (Sound1.pl (c1) rfl),?_⟩
      conv=>whnf
      (conv=>whnf); refine ifB_beq (fun w2=>?_) (fun w2=>?_)
      ·(exfalso; omega)
      ·conv=>whnf
       (conv=>whnf); refine ⟨inK64 (by omega) (by omega),?_⟩
       conv=>whnf
       (conv=>whnf); refine ifB_dec (fun w3=>?_) (fun w3=>?_)
       ·conv=>whnf
        (conv=>whnf); refine ⟨[],by kernel_rfl,?_⟩
        conv=>whnf
        (conv=>whnf); refine ⟨inK64 (by omega) (by omega),?_⟩
        conv=>whnf
        (conv=>whnf); refine ⟨⟨(by omega),(by omega)⟩,?_⟩
        conv=>whnf
        (conv=>whnf); refine .inl ⟨_,_,byX rfl (Sound1.pl (c2) rfl),?_⟩
        conv=>whnf
        (conv=>whnf); refine ifB_dec (fun w4=>?_) (fun w4=>?_)
        ·conv=>whnf
         (conv=>whnf); refine ifB_dec (fun w5=>?_) (fun w5=>?_)
         ·(exfalso; omega)
         ·conv=>whnf
          (conv=>whnf); refine ifB_dec (fun w6=>?_) (fun w6=>?_)
          ·(exfalso; omega)
          ·conv=>whnf
           (conv=>whnf); refine ⟨inK64 (by omega) (by omega),?_⟩
           conv=>whnf
           (conv=>whnf); refine ⟨_,_,⟨⟨k + 1,R,n,by omega,eR.symm,hn,rfl,rfl⟩,by omega⟩,⟨⟨.inl rfl,rfl,rfl,rfl⟩,⟨⟨rfl,rfl,rfl,rfl,fun _=>rfl,fun _ _=>.inl rfl⟩,⟨⟨rfl,rfl,rfl,rfl,fun _=>rfl,fun _ _=>.inl rfl⟩,trivial⟩⟩,trivial⟩⟩
        ·conv=>whnf
         (conv=>whnf); refine ifB_dec (fun w5=>?_) (fun w5=>?_)
         ·conv=>whnf
          (conv=>whnf); refine ifB_dec (fun w6=>?_) (fun w6=>?_)
          ·(exfalso; omega)
          ·conv=>whnf
           (conv=>whnf); refine ⟨inK64 (by omega) (by omega),?_⟩
           conv=>whnf
           (conv=>whnf); refine ⟨_,_,⟨⟨k + 1,R,n,by omega,eR.symm,hn,rfl,rfl⟩,by omega⟩,⟨⟨.inl rfl,rfl,rfl,rfl⟩,⟨⟨rfl,rfl,rfl,rfl,fun _=>rfl,fun _ _=>.inl rfl⟩,⟨⟨rfl,rfl,rfl,rfl,fun _=>rfl,fun _ _=>.inl rfl⟩,trivial⟩⟩,trivial⟩⟩
         ·(exfalso; omega)
       ·(exfalso; omega)
     ·(exfalso; omega)
   ·have eR := onN_3 hz (fun e=>hlt2 e.1)
    rw [← hR] at eR
    conv=>whnf
    (conv=>whnf); refine ifB_dec (fun w1=>?_) (fun w1=>?_)
    ·conv=>whnf
     (conv=>whnf); refine ⟨⟨(by omega),(by omega)⟩,?_⟩
     conv=>whnf
     (conv=>whnf); refine .inl ⟨_,_,byX rfl (Sound1.pl (c1) rfl),?_⟩
     conv=>whnf
     (conv=>whnf); refine ifB_beq (fun w2=>?_) (fun w2=>?_)
     ·(exfalso; omega)
     ·conv=>whnf
      (conv=>whnf); refine ⟨inK64 (by omega) (by omega),?_⟩
      conv=>whnf
      (conv=>whnf); refine ifB_dec (fun w3=>?_) (fun w3=>?_)
      ·(exfalso; omega)
      ·conv=>whnf
       (conv=>whnf); refine ⟨inK64 (by omega) (by omega),?_⟩
       conv=>whnf
       (conv=>whnf); refine ⟨_,_,⟨⟨k + 1,R,n,by omega,eR.symm,hn,rfl,rfl⟩,by omega⟩,⟨⟨.inl rfl,rfl,rfl,rfl⟩,⟨⟨rfl,rfl,rfl,rfl,fun _=>rfl,fun _ _=>.inl rfl⟩,⟨⟨rfl,rfl,rfl,rfl,fun _=>rfl,fun _ _=>.inl rfl⟩,trivial⟩⟩,trivial⟩⟩
    ·(exfalso; omega)
 ·obtain rfl : k = L.length := by omega
  have hR : R = onL L l := hR
  rw [← hR]
  conv=>whnf
  (conv=>whnf); refine ifB_dec (fun w1=>?_) (fun w1=>?_)
  ·(exfalso; omega)
  ·conv=>whnf
   (conv=>whnf); refine ⟨?_,fun _=>⟨rfl,?_⟩⟩
   ·exact ⟨rfl,hn.symm,fun _ _=>rfl⟩
   ·exact ⟨fun i _ x hx=>nm_val hx,trivial⟩
end Go.Tr

/- Plain laws of chapter 5: the best point for a head and a power, in both orders the same. Conditions: none. -/
-- seat YtgbdlkajmmjahaaGreat
namespace Go.Tr
open Go Go.Proofs
set_option maxRecDepth 20000
set_option maxHeartbeats 8000000

def wN (r : MRow) : List Nm := r.ps.map fun p=>(p,1)
theorem wN_len (r : MRow) : (wN r).length = r.ps.length := List.length_map _
theorem wN_get (r : MRow) {k : Nat} (hk : k < r.ps.length) : (wN r).getD k n0 = (r.ps.getD k p0,1) := getD_mapG _ _ k p0 n0 hk
theorem wN_row (r : MRow) {k j : Nat} (hk : k < r.ps.length) (hj : j = k) : [i64 (r.ps.getD j p0).1,i64 (r.ps.getD j p0).2.1,i64 (r.ps.getD j p0).2.2,i64 1] = nmC ((wN r).getD k n0) := by
  subst hj
  rw [wN_get r hk]
theorem wN_ok {t : List MRow} (hR : RwOk t) {i : Nat} (hi : i < t.length) : CvOk (wN (t.getD i r0)) := by
 have hl := hR.len i hi
 have hnp := hR.np
 have hb : ∀ n ∈ wN (t.getD i r0),∃ p,PtOk p ∧ n = (p,1) := fun n hn=>by
  obtain ⟨p,hp,e⟩ := List.mem_map.1 hn
  obtain ⟨k,hk,e2⟩ := List.getElem_of_mem hp
  have h : PtOk ((t.getD i r0).ps.getD k p0) := hR.pts i k hi (by omega)
  rw [List.getD_eq_getElem?_getD,List.getElem?_eq_getElem hk] at h
  refine ⟨p,?_,e.symm⟩
  rw [← e2]; exact h
 refine ⟨by rw [wN_len]; omega,fun n hn=>?_,fun n hn m hm=>?_⟩
 ·obtain ⟨p,hp,e⟩ := hb n hn
  rw [e]; exact nm1_ok hp
 ·obtain ⟨p,_,e⟩ := hb n hn
  obtain ⟨p',_,e'⟩ := hb m hm
  rw [e,e']
theorem wN_one {t : List MRow} (hR : RwOk t) {i : Nat} (hi : i < t.length) : One (wN (t.getD i r0)) := fun n hn=>by
 refine ⟨?_,(wN_ok hR hi).b n hn⟩
 obtain ⟨p,_,e⟩ := List.mem_map.1 hn
 rw [← e]
def bfS (h f : Int) : Int := if 1 ≤ h ∧ h ≤ 1000 ∧ 1 ≤ f ∧ f ≤ 10000 then 0 else 2
def bfE (t : List MRow) (h f : Int) : Int := if (chkM t).2 ≠ 0 then (chkM t).2 else bfS h f
theorem bfE_ok {t : List MRow} {h f : Int} (g : bfE t h f = 0) : TblOk t ∧ (chkM t).2 = 0 ∧ 1 ≤ h ∧ h ≤ 1000 ∧ 1 ≤ f ∧ f ≤ 10000 := by
 unfold bfE at g
 by_cases h1 : (chkM t).2 = 0
 ·rw [if_neg (not_not_intro h1)] at g
  unfold bfS at g
  split at g
  ·exact ⟨TblOk.of h1,h1,by assumption⟩
  ·exact absurd g (by decide)
 ·rw [if_pos h1] at g; exact absurd g h1
def leF (a b : Nm) : Prop := leR (nmQ a).2.1 (nmQ b).2.1
theorem leF_tr (a b c : Nm) (h1 : leF a b) (h2 : leF b c) : leF a c := leR_tr _ _ _ h1 h2
theorem perm_pos {b Q : List Nm} (hp : b.Perm Q) (hQ : ∀ n ∈ Q,NmB 4000 n) {i : Nat} (hi : i < b.length) : NmB 4000 (b.getD i n0) := hQ _ (hp.subset (getD_memG hi))
theorem leF_of (b : List Nm) {Q : List Nm} (hp : b.Perm Q) (hQ : ∀ n ∈ Q,NmB 4000 n) {i j : Nat} (hi : i < b.length) (hj : j < b.length) (h : cmpF (b.getD i n0) (b.getD j n0) < 0) : leF (b.getD i n0) (b.getD j n0) :=
  fun g=>rlt_irr _ (rlt_tr g ((cmpF_neg (perm_pos hp hQ hi).d.1 (perm_pos hp hQ hj).d.1).1 h))
theorem geF_of (b : List Nm) {Q : List Nm} (hp : b.Perm Q) (hQ : ∀ n ∈ Q,NmB 4000 n) {i j : Nat} (hi : i < b.length) (hj : j < b.length) (h : ¬ cmpF (b.getD i n0) (b.getD j n0) < 0) : leF (b.getD j n0) (b.getD i n0) :=
  fun g=>h ((cmpF_neg (perm_pos hp hQ hi).d.1 (perm_pos hp hQ hj).d.1).2 g)
def pasB (n b : Nm) : Bool := decide (n.1.2.2 * b.1.2.1 > b.1.2.2 * n.1.2.1)
def bo (o : Option (Int × Nm)) : Int × Nm := match o with | none=>(0,((0,0,0),0)) | some b=>b
def stB (f x : Int) (o : Option (Int × Nm)) (n : Nm) : Option (Int × Nm) := if okB f n = true ∧ (o.isSome = true → pasB n (bo o).2 = true) then some (x,n) else o
def rwB (f x : Int) (o : Option (Int × Nm)) (L : List Nm) : Option (Int × Nm) := L.foldl (stB f x) o
inductive BstT (h f : Int) (t : List MRow) : Nat → Option (Int × Nm) → Prop
  | zero : BstT h f t 0 none
  | row {i : Nat} {o : Option (Int × Nm)} {L : List Nm} (hb : BstT h f t i o) (hp : L.Perm (onL (wN (t.getD i r0)) (hdL h))) (hs : L.Pairwise leF) : BstT h f t (i + 1) (rwB f (t.getD i r0).o o L)
theorem szE_of {h : Int} (h1 : 1 ≤ h) (h2 : h ≤ 1000) : szE h = 0 := if_pos ⟨by omega,h2⟩
def efQ (s : Q3) : Rat := s.2.2 / s.2.1
def okQ (f : Int) (s : Q3) : Prop := 0 < s.2.1 ∧ (f : Rat) ≤ s.2.2
instance (f : Int) (s : Q3) : Decidable (okQ f s) := inferInstanceAs (Decidable (_ ∧ _))
def topQ (o : Option (Int × Q3)) (s : Q3) : Bool := match o with | none=>true | some b=>decide (efQ b.2 < efQ s)
def stQ (f x : Int) (o : Option (Int × Q3)) (s : Q3) : Option (Int × Q3) := if okQ f s ∧ topQ o s = true then some (x,s) else o
def rwQ (f x : Int) (o : Option (Int × Q3)) (L : List Q3) : Option (Int × Q3) := L.foldl (stQ f x) o
theorem rwQ_snoc (f x : Int) (o : Option (Int × Q3)) (L : List Q3) (s : Q3) : rwQ f x o (L ++ [s]) = stQ f x (rwQ f x o L) s := by unfold rwQ; rw [List.foldl_append]; rfl
theorem rwQ_take {f x : Int} {o : Option (Int × Q3)} {L : List Q3} {k : Nat} (hk : k < L.length) : rwQ f x o (L.take (k + 1)) = stQ f x (rwQ f x o (L.take k)) (L.getD k q0) := by
  rw [take_succG (d := q0) hk,rwQ_snoc]
inductive IsB (f x : Int) (o : Option (Int × Q3)) (L : List Q3) : Option (Int × Q3) → Prop
  | old (h : ∀ s ∈ L,okQ f s → topQ o s = false) : IsB f x o L o
  | new {n : Q3} (hn : n ∈ L) (hk : okQ f n) (ht : topQ o n = true) (hb : ∀ s ∈ L,okQ f s → ¬ efQ n < efQ s) (he : ∀ s ∈ L,okQ f s → ¬ efQ s < efQ n → leR n.2.1 s.2.1) : IsB f x o L (some (x,n))
theorem topQ_lt {o : Option (Int × Q3)} {s n : Q3} (h1 : topQ o s = false) (h2 : topQ o n = true) : efQ s < efQ n := by
 cases o with
 | none=>cases h1
 | some b =>
  have h1 : ¬ efQ b.2 < efQ s := of_decide_eq_false h1
  have h2 : efQ b.2 < efQ n := of_decide_eq_true h2
  grind
theorem topQ_up {o : Option (Int × Q3)} {s n : Q3} (h1 : topQ o s = true) (h2 : efQ s < efQ n) : topQ o n = true := by
 cases o with
 | none=>rfl
 | some b =>
  have h1 : efQ b.2 < efQ s := of_decide_eq_true h1
  exact decide_eq_true (rlt_tr h1 h2)
theorem leR_rf (a : Rat) : leR a a := rlt_irr a
theorem isB (f x : Int) (o : Option (Int × Q3)) (L : List Q3) (hp : L.Pairwise fun a b=>leR a.2.1 b.2.1) : IsB f x o L (rwQ f x o L) := by
 induction L using snoc_ind with
 | h0=>exact .old fun s hs=>by cases hs
 | hs l y ih =>
  rw [List.pairwise_append] at hp
  have ih := ih hp.1
  have hly := fun s hs=>hp.2.2 s hs y (by simp)
  rw [rwQ_snoc]
  generalize hr : rwQ f x o l = r at ih
  clear hr
  unfold stQ
  by_cases hy : okQ f y
  ·cases ih with
   | old h =>
    by_cases ht : topQ o y = true
    ·rw [if_pos ⟨hy,ht⟩]
     refine .new (by simp) hy ht (fun s hs hk=>?_) fun s hs hk hne=>?_
     ·rcases List.mem_append.1 hs with hs | hs
      ·exact fun g=>rlt_irr _ (rlt_tr g (topQ_lt (h s hs hk) ht))
      ·rw [List.mem_singleton.1 hs]; exact rlt_irr _
     ·rcases List.mem_append.1 hs with hs | hs
      ·exact absurd (topQ_lt (h s hs hk) ht) hne
      ·rw [List.mem_singleton.1 hs]; exact leR_rf _
    ·rw [if_neg fun g=>ht g.2]
     refine .old fun s hs hk=>?_
     rcases List.mem_append.1 hs with hs | hs
     ·exact h s hs hk
     ·rw [List.mem_singleton.1 hs]; exact Bool.eq_false_iff.2 ht
   | new hn hk ht hb he =>
    rename_i n
    by_cases hg : efQ n < efQ y
    ·rw [if_pos ⟨hy,decide_eq_true hg⟩]
     refine .new (by simp) hy (topQ_up ht hg) (fun s hs hk=>?_) fun s hs hk hne=>?_
     ·rcases List.mem_append.1 hs with hs | hs
      ·exact fun g=>hb s hs hk (rlt_tr hg g)
      ·rw [List.mem_singleton.1 hs]; exact rlt_irr _
     ·rcases List.mem_append.1 hs with hs | hs
      ·have := hb s hs hk
       exact absurd (show efQ s < efQ y by grind) hne
      ·rw [List.mem_singleton.1 hs]; exact leR_rf _
    ·rw [if_neg fun g=>hg (of_decide_eq_true g.2)]
     refine .new (by simp [hn]) hk ht (fun s hs hk=>?_) fun s hs hk hne=>?_
     ·rcases List.mem_append.1 hs with hs | hs
      ·exact hb s hs hk
      ·rw [List.mem_singleton.1 hs]; exact hg
     ·rcases List.mem_append.1 hs with hs | hs
      ·exact he s hs hk hne
      ·rw [List.mem_singleton.1 hs]; exact hly n hn
  ·rw [if_neg fun g=>hy g.1]
   cases ih with
   | old h =>
    refine .old fun s hs hk=>?_
    rcases List.mem_append.1 hs with hs | hs
    ·exact h s hs hk
    ·rw [List.mem_singleton.1 hs] at hk; exact absurd hk hy
   | new hn hk ht hb he =>
    refine .new (by simp [hn]) hk ht (fun s hs hk=>?_) fun s hs hk hne=>?_
    ·rcases List.mem_append.1 hs with hs | hs
     ·exact hb s hs hk
     ·rw [List.mem_singleton.1 hs] at hk; exact absurd hk hy
    ·rcases List.mem_append.1 hs with hs | hs
     ·exact he s hs hk hne
     ·rw [List.mem_singleton.1 hs] at hk; exact absurd hk hy
theorem eff_inj {m n : Q3} (hm : 0 < m.2.1) (hh : m.1 = n.1) (hq : m.2.1 = n.2.1) (he : efQ m = efQ n) : m = n := by
 obtain ⟨a,b,c⟩ := m
 obtain ⟨a',b',c'⟩ := n
 unfold efQ at he
 dsimp only at *
 subst hh; subst hq
 have h0 : b ≠ 0 := fun e=>by rw [e] at hm; exact rlt_irr _ hm
 have : c = c' := by
  have h1 : c / b * b = c' / b * b := by rw [he]
  rwa [Rat.div_mul_cancel h0,Rat.div_mul_cancel h0] at h1
 rw [this]
theorem IsB.uniq {f x : Int} {o r r' : Option (Int × Q3)} {L M : List Q3} {h : Rat} (hL : IsB f x o L r) (hM : IsB f x o M r') (hm : ∀ s,s ∈ L ↔ s ∈ M) (hh : ∀ s ∈ L,s.1 = h) : r = r' := by
 cases hL with
 | old h1 =>
  cases hM with
  | old h2=>rfl
  | new hn hk ht hb he =>
   have := h1 _ ((hm _).2 hn) hk
   rw [this] at ht; cases ht
 | new hn hk ht hb he =>
  cases hM with
  | old h2 =>
   have := h2 _ ((hm _).1 hn) hk
   rw [this] at ht; cases ht
  | new hn' hk' ht' hb' he' =>
   have a1 := hb _ ((hm _).2 hn') hk'
   have a2 := hb' _ ((hm _).1 hn) hk
   have b1 := he _ ((hm _).2 hn') hk' a2
   have b2 := he' _ ((hm _).1 hn) hk a1
   unfold leR at b1 b2
   rw [eff_inj hk.1 ((hh _ hn).trans (hh _ ((hm _).2 hn')).symm) (by grind) (by grind)]
def ptsQ (t : List MRow) (i : Nat) : List Q3 := (t.getD i r0).ps.map ptQ
def bsT (h f : Int) (t : List MRow) : Nat → Option (Int × Q3)
  | 0=>none
  | i + 1=>rwQ f (t.getD i r0).o (bsT h f t i) (spL (ptsQ t i) (hdL h))
def oQ (o : Option (Int × Nm)) : Option (Int × Q3) := o.map fun b=>(b.1,nmQ b.2)
theorem pasB_q {n b : Nm} (hn : 0 < n.2) (hb : 0 < b.2) (hnq : 0 < n.1.2.1) (hbq : 0 < b.1.2.1) : pasB n b = decide (efQ (nmQ b) < efQ (nmQ n)) := by
 have e : efQ (nmQ b) < efQ (nmQ n) ↔ b.1.2.2 * n.1.2.1 < n.1.2.2 * b.1.2.1 := by
  have e1 : ∀ {m : Nm},0 < m.2 → efQ (nmQ m) = Rat.divInt m.1.2.2 m.1.2.1 := fun {m} hm=>by
   unfold efQ nmQ
   dsimp only
   rw [Rat.divInt_eq_div,Rat.divInt_eq_div,Rat.divInt_eq_div]
   have h0 : (m.2 : Rat) ≠ 0 := cast_ne (by omega)
   grind
  rw [e1 hb,e1 hn,divInt_lt_iff hbq hnq]
 rw [Bool.eq_iff_iff]
 unfold pasB
 rw [decide_eq_true_iff,decide_eq_true_iff,e]
def OkO (o : Option (Int × Nm)) : Prop := ∀ b,o = some b → NmB 4000 b.2 ∧ 0 < b.2.1.2.1
theorem stB_q {f x : Int} {o : Option (Int × Nm)} {n : Nm} (ho : OkO o) (hn : NmB 4000 n) : OkO (stB f x o n) ∧ oQ (stB f x o n) = stQ f x (oQ o) (nmQ n) := by
 have hk := okB_q (f := f) hn.d.1
 unfold stB stQ
 by_cases h1 : okB f n = true
 ·have h2 : okQ f (nmQ n) := hk.1 h1
  have hq : 0 < n.1.2.1 := by
   unfold okB at h1
   rw [Bool.and_eq_true,decide_eq_true_iff] at h1
   exact h1.1
  have e : (o.isSome = true → pasB n (bo o).2 = true) ↔ topQ (oQ o) (nmQ n) = true := by
   cases o with
   | none=>exact ⟨fun _=>rfl,fun _ g=>by cases g⟩
   | some b =>
    have hb := ho b rfl
    have e := pasB_q hn.d.1 hb.1.d.1 hq hb.2
    show (true = true → pasB n b.2 = true) ↔ decide (efQ (nmQ b.2) < efQ (nmQ n)) = true
    rw [e]
    exact ⟨fun g=>g rfl,fun g _=>g⟩
  by_cases h3 : topQ (oQ o) (nmQ n) = true
  ·rw [if_pos ⟨h1,e.2 h3⟩,if_pos ⟨h2,h3⟩]
   exact ⟨fun b hb=>by cases hb; exact ⟨hn,hq⟩,rfl⟩
  ·rw [if_neg fun g=>h3 (e.1 g.2),if_neg fun g=>h3 g.2]
   exact ⟨ho,rfl⟩
 ·rw [if_neg fun g=>h1 g.1,if_neg fun g=>h1 (hk.2 g.1)]
  exact ⟨ho,rfl⟩
theorem rwB_q {f x : Int} : ∀ (L : List Nm) {o : Option (Int × Nm)},OkO o → (∀ n ∈ L,NmB 4000 n) → OkO (rwB f x o L) ∧ oQ (rwB f x o L) = rwQ f x (oQ o) (L.map nmQ)
 | [],o,ho,_=>⟨ho,rfl⟩
 | n :: r,o,ho,hL=>by
  have h1 := stB_q (f := f) (x := x) ho (hL n (by simp))
  have h2 := rwB_q (f := f) (x := x) r h1.1 fun m hm=>hL m (by simp [hm])
  refine ⟨h2.1,?_⟩
  show oQ (rwB f x (stB f x o n) r) = rwQ f x (stQ f x (oQ o) (nmQ n)) (r.map nmQ)
  rw [h2.2,h1.2]
theorem wN_map (r : MRow) : (wN r).map nmQ = r.ps.map ptQ := by
 unfold wN
 rw [List.map_map]
 exact List.map_congr_left fun p _=>nm1_q p
theorem BstT.q {h f : Int} {t : List MRow} (hR : RwOk t) (hh : szE h = 0) {i : Nat} {o : Option (Int × Nm)} (hi : i ≤ t.length) (hb : BstT h f t i o) : OkO o ∧ oQ o = bsT h f t i := by
 induction hb with
 | zero=>exact ⟨nofun,rfl⟩
 | @row i o L hb hp hs ih =>
  obtain ⟨h1,h2⟩ := ih (by omega)
  have hw := wN_ok hR (i := i) (by omega)
  have hr : -1000 ≤ h ∧ h ≤ 1000 := by
   unfold szE at hh
   split at hh
   ·assumption
   ·cases hh
  have hB : ∀ n ∈ L,NmB 4000 n := fun n hn=>one_on (wN_one hR (i := i) (by omega)) hr _ (Nat.le_refl _) n (hp.subset hn)
  obtain ⟨g1,g2⟩ := rwB_q (f := f) (x := (t.getD i r0).o) L h1 hB
  refine ⟨g1,?_⟩
  rw [g2,h2]
  have hmap : (onL (wN (t.getD i r0)) (hdL h)).map nmQ = onS (ptsQ t i) (hdL h) := by
   rw [onL_map hw,wN_map]; rfl
  have hmem : ∀ s,s ∈ L.map nmQ ↔ s ∈ spL (ptsQ t i) (hdL h) := fun s=>by
   unfold spL
   rw [putAll_mem,← hmap]
   constructor
   ·intro hs
    obtain ⟨n,hn,e⟩ := List.mem_map.1 hs
    exact List.mem_map.2 ⟨n,hp.subset hn,e⟩
   ·intro hs
    obtain ⟨n,hn,e⟩ := List.mem_map.1 hs
    exact List.mem_map.2 ⟨n,hp.symm.subset hn,e⟩
  have hhd : ∀ s ∈ L.map nmQ,s.1 = (h : Rat) := fun s hs=>by
   have := (hmem s).1 hs
   unfold spL at this
   exact hdL_side (on_side _ s ((putAll_mem _ _).1 this))
  refine IsB.uniq (isB _ _ _ _ ?_) (isB _ _ _ _ ?_) hmem hhd
  ·rw [List.pairwise_map]; exact hs
  ·have hps : (spL (ptsQ t i) (hdL h)).Pairwise lt3 := putAll_sorted lt3_tr lt3_tri _
   refine List.Pairwise.imp_of_mem ?_ hps
   intro a b ha hb hl
   have h1 := hhd a ((hmem a).2 ha)
   have h2 := hhd b ((hmem b).2 hb)
   exact lt3_flow hl (h1.trans h2.symm)
theorem take_lastG {α : Type} [DecidableEq α] {a : List α} {k : Nat} {d : α} (hk : k < a.length) : (a.take (k + 1)).getLast? = some (a.getD k d) := by
  rw [take_succG (d := d) hk]; simp
def Adj (a : List Q3) : Prop := ∀ k,k + 1 < a.length → a.getD k q0 ≠ a.getD (k + 1) q0
theorem compS_take {a : List Q3} (ha : Adj a) {k : Nat} (hk : k < a.length) : compS (a.take k) (a.getD k q0) = a.take (k + 1) := by
 rw [take_succG (d := q0) hk]
 unfold compS
 cases k with
 | zero=>rfl
 | succ k =>
  rw [take_lastG (d := q0) (by omega),if_neg]
  intro e
  exact ha k hk (Option.some.inj e)
theorem compS_same {a : List Q3} {k : Nat} (hk : k < a.length) : compS (a.take (k + 1)) (a.getD k q0) = a.take (k + 1) := by
  unfold compS
  rw [take_lastG (d := q0) hk,if_pos rfl]
theorem mix_0 (a b : Q3) : mixQ a b 0 = a := by
 obtain ⟨a1,a2,a3⟩ := a
 unfold mixQ mix1
 dsimp only
 rw [Rat.zero_mul,Rat.zero_mul,Rat.zero_mul,Rat.add_zero,Rat.add_zero,Rat.add_zero]
theorem mix_1 (a b : Q3) : mixQ a b 1 = b := by
 obtain ⟨a1,a2,a3⟩ := a
 obtain ⟨b1,b2,b3⟩ := b
 unfold mixQ mix1
 dsimp only
 rw [Rat.one_mul,Rat.one_mul,Rat.one_mul]
 refine Prod.ext (by grind) (Prod.ext (by grind) (by grind))
theorem raw_0 {A B : List P3} (ha : Adj (A.map ptQ)) : ∀ k,k < A.length → compL (rawQ A B 0 (k + 1)) = (A.map ptQ).take (min (k + 2) A.length)
 | 0, hk => by
  have e0 : (A.map ptQ).getD 0 q0 = ptQ (A.getD 0 p0) := getD_mapG ptQ A 0 p0 q0 hk
  have hl : (A.map ptQ).length = A.length := List.length_map _
  by_cases h1 : 0 + 1 < A.length
  ·have e1 : (A.map ptQ).getD 1 q0 = ptQ (A.getD 1 p0) := getD_mapG ptQ A 1 p0 q0 h1
   rw [rawQ_2 h1,mix_0,mix_0,compL_snoc,compL_snoc,show compL (rawQ A B 0 0) = (A.map ptQ).take 0 from rfl,← e0,compS_take ha (by omega),show ptQ (A.getD (0 + 1) p0) = (A.map ptQ).getD 1 q0 from e1.symm,compS_take ha (by omega),Nat.min_eq_left (by omega)]
  ·rw [rawQ_1 h1,mix_0,compL_snoc,show compL (rawQ A B 0 0) = (A.map ptQ).take 0 from rfl,← e0,compS_take ha (by omega),Nat.min_eq_right (by omega),show A.length = 1 by omega]
 | k + 1, hk => by
  have ih := raw_0 (B := B) ha k (by omega)
  have hl : (A.map ptQ).length = A.length := List.length_map _
  rw [Nat.min_eq_left (by omega)] at ih
  have e0 : (A.map ptQ).getD (k + 1) q0 = ptQ (A.getD (k + 1) p0) := getD_mapG ptQ A _ p0 q0 hk
  by_cases h1 : k + 1 + 1 < A.length
  ·have e1 : (A.map ptQ).getD (k + 2) q0 = ptQ (A.getD (k + 2) p0) := getD_mapG ptQ A _ p0 q0 h1
   rw [rawQ_2 h1,mix_0,mix_0,compL_snoc,compL_snoc,ih,← e0,compS_same (by omega),show ptQ (A.getD (k + 1 + 1) p0) = (A.map ptQ).getD (k + 2) q0 from e1.symm,compS_take ha (by omega),Nat.min_eq_left (by omega)]
  ·rw [rawQ_1 h1,mix_0,compL_snoc,ih,← e0,compS_same (by omega),Nat.min_eq_right (by omega),show A.length = k + 2 by omega]
theorem raw_1 {A B : List P3} (hAB : B.length = A.length) (hb : Adj (B.map ptQ)) : ∀ k,k ≤ A.length → compL (rawQ A B 1 k) = (B.map ptQ).take k
 | 0,_=>rfl
 | k + 1,hk=>by
  have ih := raw_1 hAB hb k (by omega)
  have hl : (B.map ptQ).length = B.length := List.length_map _
  have e0 : (B.map ptQ).getD k q0 = ptQ (B.getD k p0) := getD_mapG ptQ B _ p0 q0 (by omega)
  by_cases h1 : k + 1 < A.length
  ·rw [rawQ_2 h1,mix_1,mix_1,compL_snoc,compL_snoc,ih,← e0,compS_take hb (by omega),compS_same (by omega)]
  ·rw [rawQ_1 h1,mix_1,compL_snoc,ih,← e0,compS_take hb (by omega)]
theorem ptQ_inj {a b : P3} (h : ptQ a = ptQ b) : a = b := by
 obtain ⟨a1,a2,a3⟩ := a
 obtain ⟨b1,b2,b3⟩ := b
 unfold ptQ at h
 rw [Prod.mk.injEq,Prod.mk.injEq] at h
 have e1 : a1 = b1 := Rat.intCast_inj.1 h.1
 have e2 : a2 = b2 := Rat.intCast_inj.1 h.2.1
 have e3 : a3 = b3 := Rat.intCast_inj.1 h.2.2
 rw [e1,e2,e3]
theorem adj_row {t : List MRow} (hT : TblOk t) {i : Nat} (hi : i < t.length) : Adj (ptsQ t i) := fun k hk e=>by
 have hl := hT.len i hi
 have hk2 : k + 1 < npT t := by
  have : (ptsQ t i).length = (t.getD i r0).ps.length := List.length_map _
  omega
 unfold ptsQ at e
 rw [getD_mapG ptQ _ k p0 q0 (by omega),getD_mapG ptQ _ (k + 1) p0 q0 (by omega)] at e
 have e : ptT t i k = ptT t i (k + 1) := ptQ_inj e
 have hn := hT.n
 by_cases h : i + 1 < t.length
 ·have := (hT.ar i k h hk2).1
  unfold tri1 turnI at this
  rw [e] at this
  have e2 : ((ptT t i (k + 1)).1 - (ptT t i (k + 1)).1) * ((ptT t (i + 1) k).2.1 - (ptT t i (k + 1)).2.1) - ((ptT t (i + 1) k).1 - (ptT t i (k + 1)).1) * ((ptT t i (k + 1)).2.1 - (ptT t i (k + 1)).2.1) = 0 := by
   rw [Int.sub_self,Int.sub_self]; simp
  omega
 ·obtain ⟨j,rfl⟩ : ∃ j,i = j + 1 := ⟨i - 1,by omega⟩
  have := (hT.ar j k hi hk2).2
  unfold tri2 turnI at this
  rw [e] at this
  have e2 : ((ptT t (j + 1) (k + 1)).1 - (ptT t j (k + 1)).1) * ((ptT t (j + 1) (k + 1)).2.1 - (ptT t j (k + 1)).2.1) - ((ptT t (j + 1) (k + 1)).1 - (ptT t j (k + 1)).1) * ((ptT t (j + 1) (k + 1)).2.1 - (ptT t j (k + 1)).2.1) = 0 := Int.sub_self _
  omega
theorem o_lt {t : List MRow} (hT : TblOk t) : ∀ {i j : Nat},i < j → j < t.length → (t.getD i r0).o < (t.getD j r0).o
 | i,0,h,_=>by omega
 | i, j + 1, h, hj => by
  have h1 := (hT.ord j hj).1
  by_cases e : i = j
  ·rw [e]; exact h1
  ·have := o_lt hT (i := i) (j := j) (by omega) (by omega)
   omega
theorem op_row {t : List MRow} (hT : TblOk t) {i : Nat} (hi : i < t.length) : OpOk t ((t.getD i r0).o,1) := by
 have hn := hT.n
 refine ⟨⟨Int.le_refl _,by show (1 : Int) ≤ 10; decide⟩,?_,?_⟩
 ·show (t.getD 0 r0).o * 1 ≤ (t.getD i r0).o
  by_cases e : i = 0
  ·rw [e]; omega
  ·have := o_lt hT (i := 0) (j := i) (by omega) hi; omega
 ·show (t.getD i r0).o ≤ (t.getD (t.length - 1) r0).o * 1
  by_cases e : i = t.length - 1
  ·rw [← e]; omega
  ·have := o_lt hT (i := i) (j := t.length - 1) (by omega) (by omega); omega
theorem crvQ_row {t : List MRow} (hT : TblOk t) {i : Nat} (hi : i < t.length) : crvQ t ((t.getD i r0).o,1) = ptsQ t i := by
 have hO := op_row hT hi
 have hn := hT.n
 obtain ⟨hK,h1,h2⟩ := rwK_ok hT hO
 have hl := crv_len hT hO
 have hnp := hT.np
 have hi2 : i = rwK t ((t.getD i r0).o,1) ∨ i = rwK t ((t.getD i r0).o,1) + 1 := by
  generalize hKK : rwK t ((t.getD i r0).o,1) = K at *
  have h1 : (t.getD K r0).o * 1 ≤ (t.getD i r0).o := h1
  have h2 : (t.getD i r0).o ≤ (t.getD (K + 1) r0).o * 1 := h2
  rcases Nat.lt_trichotomy i K with g | g | g
  ·have := o_lt hT g (by omega); omega
  ·exact .inl g
  ·rcases Nat.lt_trichotomy i (K + 1) with g2 | g2 | g2
   ·omega
   ·exact .inr g2
   ·have := o_lt hT g2 hi; omega
 have hcd := crv_den hT hO
 rcases hi2 with e | e
 ·have eP : crvP t ((t.getD i r0).o,1) = 0 := by
   unfold crvP
   rw [← e]
   show (t.getD i r0).o - (t.getD i r0).o * 1 = 0
   omega
  have eA : (crvA t ((t.getD i r0).o,1)).map ptQ = ptsQ t i := by unfold crvA ptsQ; rw [← e]
  unfold crvQ
  rw [eP,Rat.zero_divInt]
  obtain ⟨m,hm⟩ : ∃ m,(crvA t ((t.getD i r0).o,1)).length = m + 1 := ⟨(crvA t ((t.getD i r0).o,1)).length - 1,by omega⟩
  rw [hm,raw_0 (by rw [eA]; exact adj_row hT hi) m (by omega),eA,hm,Nat.min_eq_right (by omega),List.take_of_length_le]
  rw [← eA,List.length_map]; omega
 ·have eP : crvP t ((t.getD i r0).o,1) = crvD t ((t.getD i r0).o,1) := by
   unfold crvP crvD
   rw [← e]
   show (t.getD i r0).o - (t.getD (rwK t ((t.getD i r0).o,1)) r0).o * 1 = ((t.getD i r0).o - (t.getD (rwK t ((t.getD i r0).o,1)) r0).o) * 1
   omega
  have eB : (crvB t ((t.getD i r0).o,1)).map ptQ = ptsQ t i := by unfold crvB ptsQ; rw [← e]
  have e1 : Rat.divInt (crvD t ((t.getD i r0).o,1)) (crvD t ((t.getD i r0).o,1)) = 1 := by
   have h0 : (crvD t ((t.getD i r0).o,1) : Rat) ≠ 0 := cast_ne (by omega)
   rw [Rat.divInt_eq_div,Rat.div_def,Rat.mul_inv_cancel _ h0]
  unfold crvQ
  rw [eP,e1,raw_1 (hl.2.trans hl.1.symm) (by rw [eB]; exact adj_row hT hi) _ (Nat.le_refl _),eB,List.take_of_length_le]
  rw [← eB,List.length_map]; omega
end Go.Tr
