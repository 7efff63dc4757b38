/- Tables as strings: the package's ParseTable. Conditions: none. -/
import Derived.Test.YtnphjhgmoijbfaaGreatDoorTr10
import Derived.Test.YtnphjhgmoijbfaaGreatDoorTr06
import Derived.ProofKit
set_option linter.unusedSectionVars false
set_option linter.unnecessarySimpa false
set_option linter.unusedVariables false
set_option linter.unusedSimpArgs false

-- seat YtnphjhgmoijbfaaGreatDoor
namespace Go.Tr
open Go Go.Proofs
set_option maxRecDepth 20000
set_option maxHeartbeats 8000000

def wdsR (s : ByteArray) : List ByteArray := sepL s (byteB 32)
abbrev wdR (s : ByteArray) (j : Nat) : ByteArray := (wdsR s).getD j ByteArray.empty
def rwOk (s : ByteArray) : Bool := numO (wdR s 0) false && (wdsR s).tail.all prsO
def rwM (s : ByteArray) : MRow := ⟨atoiV (wdR s 0),(wdsR s).tail.map prsP⟩
def prtT (s : ByteArray) : List ByteArray := sepL s (byteB 59)
abbrev pcT (s : ByteArray) (j : Nat) : ByteArray := (prtT s).getD j ByteArray.empty
def prsE (s : ByteArray) : Int := if 60000 < s.size then 8 else if (prtT s).all rwOk then (chkM ((prtT s).map rwM)).2 else 7
def prsT (s : ByteArray) : List MRow := if prsE s = 0 then (prtT s).map rwM else []
def SqAt (s R : ByteArray) (m : Nat) : Prop := ((prtT s).drop m).map (·.data.toList) = cutL 59 R.data.toList
theorem sq_hit {s R : ByteArray} {m i : Nat} (h : SqAt s R m) (hi : Lib.index R.data.toList [59] = (i : Int)) : m < (prtT s).length ∧ R.extract 0 i = pcT s m ∧ SqAt s (R.extract (i + 1) R.size) (m + 1) ∧ i < R.size := by
 obtain ⟨a,r,e1,e2,e3⟩ := index_hit hi
 unfold SqAt at h
 rw [e1,cut_hit e3] at h
 have hm : m < (prtT s).length := by
  by_cases hm : m < (prtT s).length
  ·exact hm
  ·rw [List.drop_eq_nil_of_le (by omega)] at h; cases h
 rw [List.drop_eq_getElem_cons hm,List.map_cons] at h
 injection h with h3 h4
 refine ⟨hm,bs_ext ?_,?_,?_⟩
 ·rw [bs_ex,List.drop_zero,Nat.sub_zero,e1,← e2,List.take_left' rfl,← h3]
  show _ = (pcT s m).data.toList
  unfold pcT
  rw [List.getD_eq_getElem?_getD,List.getElem?_eq_getElem hm]; rfl
 ·unfold SqAt
  rw [h4,bs_ex,List.take_of_length_le (by rw [List.length_drop,bs_len]; omega),e1,← e2,show a ++ 59 :: r = (a ++ [59]) ++ r by simp,List.drop_left' (by simp)]
 ·rw [bs_len,e1]; simp; omega
theorem sq_end {s R : ByteArray} {m : Nat} (h : SqAt s R m) (hi : Lib.index R.data.toList [59] = -1) : (prtT s).length = m + 1 ∧ R = pcT s m := by
 unfold SqAt at h
 rw [cut_miss (index_miss hi)] at h
 have hm : m < (prtT s).length := by
  by_cases hm : m < (prtT s).length
  ·exact hm
  ·rw [List.drop_eq_nil_of_le (by omega)] at h; cases h
 rw [List.drop_eq_getElem_cons hm,List.map_cons] at h
 injection h with h3 h4
 have h5 := congrArg List.length h4
 rw [List.length_map,List.length_drop] at h5
 refine ⟨by simp at h5; omega,bs_ext ?_⟩
 rw [← h3]
 show _ = (pcT s m).data.toList
 unfold pcT
 rw [List.getD_eq_getElem?_getD,List.getElem?_eq_getElem hm]; rfl
theorem extG {α : Type} (g : α → List AV) {m : Nat} (hg : ∀ a,(g a).length = m) (f : Nat → α) (k i : Nat) (hi : i < k + 1) : g (f i) = if i < k then g (f (0 + i)) else List.take m (List.drop ((i - k) * m) (g (f k))) := by
 by_cases h : i < k
 ·rw [if_pos h,Nat.zero_add]
 ·obtain rfl : i = k := by omega
  rw [if_neg h,Nat.sub_self,Nat.zero_mul,List.drop_zero,List.take_of_length_le (by rw [hg]; exact Nat.le_refl _)]
theorem sep_len (s : ByteArray) (c : UInt8) : 0 < (sepL s (byteB c)).length ∧ (sepL s (byteB c)).length ≤ s.size + 1 := by
 have e : (sepL s (byteB c)).length = Lib.countB s (byteB c) + 1 := Lib.splitB_all (byteB c) (Nat.le_refl 1) 0 _ s rfl
 have := Lib.countB_le (byteB c) (Nat.le_refl 1) s.size s (Nat.le_refl _)
 omega
theorem prsP_nil : prsP ByteArray.empty = p0 := by
  have : prsO ByteArray.empty = false := rfl
  rw [prsP,this]; rfl
theorem pts_eq (x : ByteArray) : ptsA (rwM x).ps = .rslice 3 (((wdsR x).length : Int) - 1).toNat fun j=>ptC (prsP (wdR x (0 + 1 + j))) := by
 have hl : (rwM x).ps.length = (((wdsR x).length : Int) - 1).toNat := by
  show ((wdsR x).tail.map prsP).length = _
  rw [List.length_map,List.length_tail]; omega
 unfold ptsA
 rw [hl]
 congr 1
 funext j
 have : (rwM x).ps.getD j p0 = prsP (wdR x (0 + 1 + j)) := by
  show ((wdsR x).tail.map prsP).getD j p0 = _
  unfold wdR
  rw [← prsP_nil,List.getD_eq_getElem?_getD,List.getElem?_map,List.getElem?_tail,List.getD_eq_getElem?_getD,show 0 + 1 + j = j + 1 by omega]
  cases (wdsR x)[j + 1]? <;> rfl
 rw [this]
theorem Sound1.ave1 {f : FuncId} {x y r : AV} {fr : Bool} (h : SP f [y] r fr) (hx : AVE 5 x y) : SP f [x] r fr :=
  ⟨h.1,fun w q vs hq hg hs hv=>h.2 w q vs hq hg hs fun i z hz=>match i,hz with
    | 0,hz=>by cases hz; exact AVE_ok 5 hx (hv 0 _ rfl)⟩
theorem ave_tbl {T : List MRow} {n : Nat} {F : Nat → List AV} (hn : n = T.length) (hF : ∀ i,i < n → F i = [i64 (T.getD i r0).o,ptsA (T.getD i r0).ps]) {k : Nat} : AVE (k + 2) (.agg [.rslice 2 n F]) (tblA T) :=
  ⟨rfl,fun i x y hx hy=>match i,hx,hy with
    | 0,hx,hy=>by cases hx; cases hy; exact ⟨rfl,hn,hF⟩⟩
theorem fit_prs {s : ByteArray} (hs : s.size ≤ 900000) : Fit ((prtT s).map rwM) := by
 have h1 := (sep_len s 59).2
 refine ⟨by rw [List.length_map]; show (sepL s (byteB 59)).length ≤ _; omega,fun i=>?_⟩
 by_cases hi : i < (prtT s).length
 ·rw [getD_mapG rwM _ i ByteArray.empty r0 hi]
  show ((wdsR (pcT s i)).tail.map prsP).length ≤ _
  have h2 := (sep_len (pcT s i) 32).2
  have h3 := sepL_size s (byteB 59) i
  rw [List.length_map,List.length_tail]
  show (sepL (pcT s i) (byteB 32)).length - 1 ≤ _
  have h4 : (pcT s i).size ≤ s.size := h3
  omega
 ·have e : ((prtT s).map rwM).getD i r0 = r0 := by rw [List.getD_eq_getElem?_getD,List.getElem?_eq_none (by rw [List.length_map]; omega)]; rfl
  rw [e]; exact Nat.zero_le _
theorem row_at {s : ByteArray} {i : Nat} (hi : i < (prtT s).length) : ((prtT s).map rwM).getD i r0 = rwM (pcT s i) := getD_mapG rwM _ i ByteArray.empty r0 hi
theorem ok_no {s : ByteArray} {m : Nat} (hm : m < (prtT s).length) (h : rwOk (pcT s m) = false) (hs : s.size ≤ 60000) : prsE s = 7 := by
 have : (prtT s).all rwOk = false := by
  rw [List.all_eq_false]
  refine ⟨pcT s m,?_,by rw [h]; simp⟩
  unfold pcT
  rw [List.getD_eq_getElem?_getD,List.getElem?_eq_getElem hm]; exact List.getElem_mem hm
 rw [prsE,if_neg (by omega),this]; rfl
theorem ok_all {s : ByteArray} (h : ∀ i,i < (prtT s).length → rwOk (pcT s i) = true) (hs : s.size ≤ 60000) : prsE s = (chkM ((prtT s).map rwM)).2 := by
 have : (prtT s).all rwOk = true := by
  rw [List.all_eq_true]
  intro w hw
  obtain ⟨j,hj⟩ := List.mem_iff_getElem?.1 hw
  have hlt := (List.getElem?_eq_some_iff.1 hj).1
  have := h j hlt
  unfold pcT at this
  rw [List.getD_eq_getElem?_getD,hj] at this
  exact this
 rw [prsE,if_neg (by omega),this,if_pos rfl]
theorem fin_err {s : ByteArray} {e : Int} (h : prsE s = e) (h0 : e ≠ 0) : AVE 5 (.tuple [.agg [.eslice],i64 e]) (.tuple [tblA (prsT s),i64 (prsE s)]) := by
 rw [prsT,h,if_neg h0]
 exact ave_tup2 (k := 4) ⟨rfl,fun i x y hx hy=>match i,hx,hy with
  | 0,hx,hy=>by cases hx; cases hy; exact rfl⟩ rfl
theorem fin_ok {s : ByteArray} (h : prsE s = 0) {n : Nat} {F : Nat → List AV} (hn : n = (prtT s).length) (hF : ∀ i,i < n → F i = [i64 (rwM (pcT s i)).o,ptsA (rwM (pcT s i)).ps]) : AVE 5 (.tuple [.agg [.rslice 2 n F],i64 0]) (.tuple [tblA (prsT s),i64 (prsE s)]) := by
  rw [prsT,h,if_pos rfl]
  exact ave_tup2 (k := 4) (ave_tbl (by rw [List.length_map]; exact hn) fun i hi=>by rw [hF i hi,row_at (by omega)]) rfl
theorem all_s {x : ByteArray} {k : Nat} (hk : k < (((wdsR x).length : Int) - 1).toNat) : ((wdsR x).tail.take (k + 1)).all prsO = (((wdsR x).tail.take k).all prsO && prsO (wdR x (0 + 1 + k))) := by
 have hlt : k < (wdsR x).tail.length := by rw [List.length_tail]; omega
 rw [List.take_add_one,List.all_append,List.getElem?_eq_getElem hlt]
 have : wdR x (0 + 1 + k) = (wdsR x).tail[k] := by
  unfold wdR
  rw [List.getD_eq_getElem?_getD,show 0 + 1 + k = k + 1 by omega,← List.getElem?_tail,List.getElem?_eq_getElem hlt]; rfl
 rw [this]; simp
theorem all_e {x : ByteArray} {k : Nat} (hk : k = (((wdsR x).length : Int) - 1).toNat) : (numO (wdR x 0) false && ((wdsR x).tail.take k).all prsO) = rwOk x := by
  unfold rwOk
  rw [List.take_of_length_le (by rw [List.length_tail]; omega)]
theorem last_row {s : ByteArray} {m i : Nat} (hi : i < m + 1) {k : Nat} (hk : k = (((wdsR (pcT s m)).length : Int) - 1).toNat) {G : AV → AV} {x : AV} (h0 : ∀ r : MRow,List.map G [i64 r.o,ptsA r.ps] = [i64 r.o,ptsA r.ps])
  (h1 : List.map G [i64 (atoiV (wdR (pcT s m) 0)),x] = [i64 (atoiV (wdR (pcT s m) 0)),.rslice 3 k fun j=>ptC (prsP (wdR (pcT s m) (0 + 1 + j)))]) :
  List.map G (if i < m then [i64 (rwM (pcT s (0 + i))).o,ptsA (rwM (pcT s (0 + i))).ps] else List.take (0 + 2) (List.drop ((i - m) * (0 + 2)) [i64 (atoiV (wdR (pcT s m) 0)),x])) = [i64 (rwM (pcT s i)).o,ptsA (rwM (pcT s i)).ps] := by
 by_cases h : i < m
 ·rw [if_pos h,Nat.zero_add,h0]
 ·obtain rfl : i = m := by omega
  rw [if_neg h,Nat.sub_self,pts_eq,← hk]
  exact h1
set_option maxHeartbeats 4000000 in
theorem S8 (s : ByteArray) (hs : s.size ≤ 900000) : SP 8 [sv s] (.tuple [tblA (prsT s), i64 (prsE s)]) false := by
 by_cases hbig : 60000 < s.size
 ·have hf := fin_err (s := s) (e := 8) (by rw [prsE,if_pos hbig]) (by decide)
  refine sound (d := 2) tok2 mixed2 Tryz.func8 (by kernel_rfl) (by kernel_rfl) ?_
  (conv=>whnf); refine ifB_dec (fun w1=>?_) (fun w1=>?_)
  ·(conv=>whnf); refine ⟨?_,nofun⟩
   (first | omega | exact hf)
  ·(exfalso; omega)
 ·refine sound (d := 2) tok2 mixed2 Tryz.func8 (by kernel_rfl) (by kernel_rfl) ?_
  (conv=>whnf); refine ifB_dec (fun w1=>?_) (fun w1=>?_)
  ·(exfalso; omega)
  ·(conv => whnf); refine .inr (.inl ⟨[], ?_⟩)
   (conv=>whnf); refine .inr (.inl ⟨[],?_⟩)
   (conv=>whnf); refine ⟨(by first | rfl | assumption),?_⟩
   refine ⟨_,keep_ok [2,3,4,20] _,?_⟩
   (conv=>whnf); refine ⟨[.cell 2 0 2,.fzl 6 [7,8,9,10,11]],[0,1,2,3],fun st mq=>∃ (m : Nat) (R : ByteArray),(SqAt s R m) ∧ (R.size ≤ s.size) ∧ (∀ i,i < m → rwOk (pcT s i) = true) ∧ st = ⟨[(0,.yld 0),(1,.optr 4 0 0 0),(2,.optr 3 0 0 0),(3,.optr 5 0 0 0)],⟨[⟨1,1,fun _=>[.eslice],0,false,true,true⟩,⟨1,1,fun _=>[i64 0],0,false,true,true⟩,⟨1,1,fun _=>[.oslice 6 0 0 m none],0,false,false,true⟩,⟨1,1,fun _=>[sv R],0,false,true,true⟩,⟨1,1,fun _=>[sv ⟨#[59]⟩],0,false,true,true⟩,⟨1,1,fun _=>[i64 0],0,false,true,true⟩,⟨2,m,fun i=>[i64 (rwM (pcT s i)).o,ptsA (rwM (pcT s i)).ps],0,false,true,false⟩],[],none,1⟩,[(2,.optr 0 0 0 0),(3,.optr 1 0 0 0),(4,.optr 2 0 0 0),(20,.func (.func 83) 0 [.optr 4 0 0 0,.optr 3 0 0 0,.optr 5 0 0 0])]⟩ ∧ mq = R.size,
    ⟨_,_,⟨0,s,sep_cut s 59,by omega,(fun i h=>by omega),rfl,rfl⟩,⟨⟨.inl rfl,rfl,rfl,rfl⟩,⟨⟨rfl,rfl,rfl,rfl,fun _=>rfl,fun _ _=>.inl rfl⟩,⟨⟨rfl,rfl,rfl,rfl,fun _=>rfl,fun _ _=>.inl rfl⟩,⟨⟨rfl,rfl,rfl,rfl,nofun,fun _ _=>.inl rfl⟩,⟨⟨rfl,rfl,rfl,rfl,fun _=>rfl,fun _ _=>.inl rfl⟩,⟨⟨rfl,rfl,rfl,rfl,fun _=>rfl,fun _ _=>.inl rfl⟩,⟨⟨rfl,rfl,rfl,rfl,fun _=>rfl,fun _ _=>.inl rfl⟩,⟨⟨rfl,rfl,rfl,rfl,fun _=>rfl,fun i h=>.inl (absurd h (Nat.not_lt_zero i))⟩,trivial⟩⟩⟩⟩⟩⟩⟩,trivial⟩⟩,?_⟩
   rintro s0 m0 ⟨m,R,hR,hz,ho,rfl,hmeas⟩
   have h85 : SP 85 [sv R,sv (byteB 59)] (i64 (Lib.index R.data.toList [59])) true := S85 R (byteB 59) (by omega)
   have hsz := sepL_size s (byteB 59) m
   have hsz : (pcT s m).size ≤ s.size := hsz
   have hln := sep_len (pcT s m) 32
   have hln : 0 < (wdsR (pcT s m)).length ∧ (wdsR (pcT s m)).length ≤ (pcT s m).size + 1 := hln
   have h26 : SP 26 [sv (wdR (pcT s m) 0),vb false] (.tuple [i64 (atoiV (wdR (pcT s m) 0)),vb (numO (wdR (pcT s m) 0) false)]) false := S26 _ false (by have := sepL_size (pcT s m) (byteB 32) 0; show ((sepL (pcT s m) (byteB 32)).getD 0 ByteArray.empty).size ≤ _; omega)
   have h25x : SP 25 [sv (pcT s m),sv (byteB 32)] (strsA (wdsR (pcT s m))) false := S25 (pcT s m) (byteB 32) (by omega) (Nat.le_refl 1)
   by_cases hi : Lib.index R.data.toList [59] = -1
   ·obtain ⟨hlen,hW⟩ := sq_end hR hi
    have hm : m < (prtT s).length := by omega
    have h25 : SP 25 [sv R,sv (byteB 32)] (strsA (wdsR (pcT s m))) false := by rw [hW]; exact h25x
    rw [hi] at h85
    conv=>whnf
    (conv=>whnf); refine .inl ⟨_,_,byX rfl (h85),?_⟩
    conv=>whnf
    (conv=>whnf); refine ⟨(by first | rfl | assumption),?_⟩
    conv=>whnf
    (conv=>whnf); refine .inl ⟨_,_,byX rfl (h25),?_⟩
    conv=>whnf
    (conv=>whnf); refine ⟨⟨(by omega),(by omega)⟩,?_⟩
    conv=>whnf
    (conv=>whnf); refine .inl ⟨_,_,byX rfl (Sound1.pl (h26) rfl),?_⟩
    conv=>whnf
    (conv=>whnf); refine ⟨⟨(by omega),⟨(by omega),(by omega)⟩⟩,?_⟩
    conv=>whnf
    (conv=>whnf); refine ⟨[.cell 7 1 3,.forget [50,49,33,32,7,31,30,29]],[2,3,4,8,9,34,35,36],fun st mq=>∃ (k : Nat) (b : Bool),(k ≤ (((wdsR (pcT s m)).length : Int) - 1).toNat) ∧ (b = (numO (wdR (pcT s m) 0) false && ((wdsR (pcT s m)).tail.take k).all prsO)) ∧ st = ⟨[(2,.optr 0 0 0 0),(3,.optr 1 0 0 0),(4,.optr 2 0 0 0),(8,vb b),(9,.optr 7 0 0 0),(34,.rslice 1 (((wdsR (pcT s m)).length : Int) - 1).toNat (shiftF (Int.toNat 1) fun i=>[sv (wdR (pcT s m) i)])),(35,i64 (((wdsR (pcT s m)).length : Int) - 1).toNat),(36,i64 k)],⟨[⟨1,1,fun _=>[.eslice],0,false,true,true⟩,⟨1,1,fun _=>[i64 0],0,false,true,true⟩,⟨1,1,fun _=>[.oslice 6 0 0 m none],0,false,false,true⟩,⟨1,1,fun _=>[sv R],0,false,true,true⟩,⟨1,1,fun _=>[sv ⟨#[59]⟩],0,false,true,true⟩,⟨1,1,fun _=>[i64 0],0,false,true,true⟩,⟨2,m,fun i=>[i64 (rwM (pcT s i)).o,ptsA (rwM (pcT s i)).ps],0,false,true,false⟩,⟨2,1,fun _=>[i64 (atoiV (wdR (pcT s m) 0)),.oslice 8 0 0 k none],0,false,false,true⟩,⟨3,k,fun j=>ptC (prsP (wdR (pcT s m) (0 + 1 + j))),0,false,true,false⟩],[],none,1⟩,[(0,.yld 0),(1,.optr 4 0 0 0),(2,.optr 3 0 0 0),(3,.optr 5 0 0 0),(54,.optr 0 0 0 0),(55,.optr 1 0 0 0),(56,.optr 2 0 0 0),(72,.func (.func 83) 0 [.optr 4 0 0 0,.optr 3 0 0 0,.optr 5 0 0 0])]⟩ ∧ mq = (((wdsR (pcT s m)).length : Int) - 1).toNat - k,
     ⟨_,_,⟨0,numO (wdR (pcT s m) 0) false,by omega,by simp,rfl,rfl⟩,⟨⟨.inl rfl,rfl,rfl,rfl⟩,⟨⟨rfl,rfl,rfl,rfl,fun _=>rfl,fun _ _=>.inl rfl⟩,⟨⟨rfl,rfl,rfl,rfl,fun _=>rfl,fun _ _=>.inl rfl⟩,⟨⟨rfl,rfl,rfl,rfl,nofun,fun _ _=>.inl rfl⟩,⟨⟨rfl,rfl,rfl,rfl,fun _=>rfl,fun _ _=>.inl rfl⟩,⟨⟨rfl,rfl,rfl,rfl,fun _=>rfl,fun _ _=>.inl rfl⟩,⟨⟨rfl,rfl,rfl,rfl,fun _=>rfl,fun _ _=>.inl rfl⟩,⟨⟨rfl,rfl,rfl,rfl,fun _=>rfl,fun _ _=>.inl rfl⟩,⟨⟨rfl,rfl,rfl,rfl,nofun,fun _ _=>.inl rfl⟩,⟨⟨rfl,rfl,rfl,rfl,fun _=>rfl,fun i h=>.inl (absurd h (Nat.not_lt_zero i))⟩,trivial⟩⟩⟩⟩⟩⟩⟩⟩⟩,trivial⟩⟩,?_⟩
    rintro s0 m0 ⟨k,b,hk,hb,rfl,hmeas⟩
    by_cases hlt : k < (((wdsR (pcT s m)).length : Int) - 1).toNat
    ·have hst := all_s hlt
     have h27 := S27 (wdR (pcT s m) (0 + 1 + k)) (by have := sepL_size (pcT s m) (byteB 32) (0 + 1 + k); show ((sepL (pcT s m) (byteB 32)).getD (0 + 1 + k) ByteArray.empty).size ≤ _; omega)
     cases b with
     | true =>
      conv=>whnf
      conv=>whnf
      (conv=>whnf); refine ifB_dec (fun w2=>?_) (fun w2=>?_)
      ·conv=>whnf
       conv=>whnf
       (conv=>whnf); refine ⟨⟨(by omega),(by omega)⟩,?_⟩
       conv=>whnf
       conv=>whnf
       (conv=>whnf); refine .inl ⟨_,_,byX rfl (Sound1.pl (h27) rfl),?_⟩
       conv=>whnf
       conv=>whnf
       (conv=>whnf); refine .inl ?_
       conv=>whnf
       conv=>whnf
       (conv=>whnf); refine ⟨(by show _ * (24 + 1) ≤ _; omega),?_⟩
       conv=>whnf
       conv=>whnf
       (conv=>whnf); refine ⟨inK64 (by omega) (by omega),?_⟩
       conv=>whnf
       conv=>whnf
       (conv=>whnf); refine ⟨_,_,⟨⟨k + 1,prsO (wdR (pcT s m) (0 + 1 + k)),by omega,(by rw [hst,← Bool.and_assoc,← hb]; rfl),rfl,rfl⟩,by omega⟩,⟨⟨.inl rfl,rfl,rfl,rfl⟩,⟨⟨rfl,rfl,rfl,rfl,fun _=>rfl,fun _ _=>.inl rfl⟩,⟨⟨rfl,rfl,rfl,rfl,fun _=>rfl,fun _ _=>.inl rfl⟩,⟨⟨rfl,rfl,rfl,rfl,nofun,fun _ _=>.inl rfl⟩,⟨⟨rfl,rfl,rfl,rfl,fun _=>rfl,fun _ _=>.inl rfl⟩,⟨⟨rfl,rfl,rfl,rfl,fun _=>rfl,fun _ _=>.inl rfl⟩,⟨⟨rfl,rfl,rfl,rfl,fun _=>rfl,fun _ _=>.inl rfl⟩,⟨⟨rfl,rfl,rfl,rfl,fun _=>rfl,fun _ _=>.inl rfl⟩,⟨⟨rfl,rfl,rfl,rfl,nofun,fun _ _=>.inl rfl⟩,⟨⟨rfl,rfl,rfl,rfl,fun _=>rfl,fun j hj=>.inl (extG ptC (m := 3) (fun _=>rfl) (fun j=>prsP (wdR (pcT s m) (0 + 1 + j))) k j hj)⟩,trivial⟩⟩⟩⟩⟩⟩⟩⟩⟩,trivial⟩⟩
      ·(exfalso; omega)
     | false =>
      conv=>whnf
      conv=>whnf
      (conv=>whnf); refine ifB_dec (fun w2=>?_) (fun w2=>?_)
      ·conv=>whnf
       conv=>whnf
       (conv=>whnf); refine ⟨⟨(by omega),(by omega)⟩,?_⟩
       conv=>whnf
       conv=>whnf
       (conv=>whnf); refine .inl ⟨_,_,byX rfl (Sound1.pl (h27) rfl),?_⟩
       conv=>whnf
       conv=>whnf
       (conv=>whnf); refine .inl ?_
       conv=>whnf
       conv=>whnf
       (conv=>whnf); refine ⟨(by show _ * (24 + 1) ≤ _; omega),?_⟩
       conv=>whnf
       conv=>whnf
       (conv=>whnf); refine ⟨inK64 (by omega) (by omega),?_⟩
       conv=>whnf
       conv=>whnf
       (conv=>whnf); refine ⟨_,_,⟨⟨k + 1,false,by omega,(by rw [hst,← Bool.and_assoc,← hb]; rfl),rfl,rfl⟩,by omega⟩,⟨⟨.inl rfl,rfl,rfl,rfl⟩,⟨⟨rfl,rfl,rfl,rfl,fun _=>rfl,fun _ _=>.inl rfl⟩,⟨⟨rfl,rfl,rfl,rfl,fun _=>rfl,fun _ _=>.inl rfl⟩,⟨⟨rfl,rfl,rfl,rfl,nofun,fun _ _=>.inl rfl⟩,⟨⟨rfl,rfl,rfl,rfl,fun _=>rfl,fun _ _=>.inl rfl⟩,⟨⟨rfl,rfl,rfl,rfl,fun _=>rfl,fun _ _=>.inl rfl⟩,⟨⟨rfl,rfl,rfl,rfl,fun _=>rfl,fun _ _=>.inl rfl⟩,⟨⟨rfl,rfl,rfl,rfl,fun _=>rfl,fun _ _=>.inl rfl⟩,⟨⟨rfl,rfl,rfl,rfl,nofun,fun _ _=>.inl rfl⟩,⟨⟨rfl,rfl,rfl,rfl,fun _=>rfl,fun j hj=>.inl (extG ptC (m := 3) (fun _=>rfl) (fun j=>prsP (wdR (pcT s m) (0 + 1 + j))) k j hj)⟩,trivial⟩⟩⟩⟩⟩⟩⟩⟩⟩,trivial⟩⟩
      ·(exfalso; omega)
    ·have hke : k = (((wdsR (pcT s m)).length : Int) - 1).toNat := by omega
     rw [hke,all_e rfl] at hb
     cases b with
     | false =>
      have hf := fin_err (ok_no hm hb.symm (by omega)) (by decide)
      conv=>whnf
      conv=>whnf
      (conv=>whnf); refine ifB_dec (fun w2=>?_) (fun w2=>?_)
      ·(exfalso; omega)
      ·conv=>whnf
       conv=>whnf
       (conv=>whnf); refine ⟨?_,nofun⟩
       (first | omega | exact hf)
     | true =>
      have hall : prsE s = (chkM ((prtT s).map rwM)).2 := ok_all (fun j hj=>by by_cases e : j = m; (rw [e]; exact hb.symm); exact ho j (by omega)) (by omega)
      have hby : Tryz.prog.types[58].bytes = 32 := by kernel_rfl
      have hlt2 : (prtT s).length ≤ s.size + 1 := (sep_len s 59).2
      have hneed : (m + 1) * (Tryz.prog.types[58].bytes + 1) ≤ 1000000000000 := by rw [hby]; omega
      have h28 : ∀ {n : Nat} {F : Nat → List AV},n = m + 1 → (∀ i,i < m + 1 → F i = [i64 (rwM (pcT s i)).o,ptsA (rwM (pcT s i)).ps]) → SP 28 [.agg [.rslice 2 n F]] (i64 (chkM ((prtT s).map rwM)).2) false := fun {n F} hn hF=>Sound1.ave1 (S28 _ (fit_prs (by omega))) (ave_tbl (by rw [List.length_map]; omega) fun i hi=>by rw [hF i (by omega),row_at (by omega)])
      by_cases he : (chkM ((prtT s).map rwM)).2 = 0
      ·rw [he] at h28 hall
       conv=>whnf
       conv=>whnf
       (conv=>whnf); refine ifB_dec (fun w2=>?_) (fun w2=>?_)
       ·(exfalso; omega)
       ·conv=>whnf
        conv=>whnf
        (conv=>whnf); refine .inl ?_
        conv=>whnf
        conv=>whnf
        (conv=>whnf); refine ⟨(by show _ * (32 + 1) ≤ _; omega),?_⟩
        conv=>whnf
        conv=>whnf
        (conv=>whnf); refine .inl ⟨_,_,byX rfl (Sound1.pl (h28 ?_ ?_) rfl),?_⟩
        ·(first | omega | exact hneed | exact fun i hi=>last_row hi hke (fun _=>rfl) rfl | exact fin_ok hall (by omega) (fun i hi=>last_row hi hke (fun _=>rfl) rfl))
        ·(first | omega | exact hneed | exact fun i hi=>last_row hi hke (fun _=>rfl) rfl | exact fin_ok hall (by omega) (fun i hi=>last_row hi hke (fun _=>rfl) rfl))
        ·conv=>whnf
         conv=>whnf
         (conv=>whnf); refine ⟨?_,nofun⟩
         (first | omega | exact hneed | exact fun i hi=>last_row hi hke (fun _=>rfl) rfl | exact fin_ok hall (by omega) (fun i hi=>last_row hi hke (fun _=>rfl) rfl))
      ·have hf := fin_err hall he
       conv=>whnf
       conv=>whnf
       (conv=>whnf); refine ifB_dec (fun w2=>?_) (fun w2=>?_)
       ·(exfalso; omega)
       ·conv=>whnf
        conv=>whnf
        (conv=>whnf); refine .inl ?_
        conv=>whnf
        conv=>whnf
        (conv=>whnf); refine ⟨(by show _ * (32 + 1) ≤ _; omega),?_⟩
        conv=>whnf
        conv=>whnf
        (conv=>whnf); refine .inl ⟨_,_,byX rfl (Sound1.pl (h28 ?_ ?_) rfl),?_⟩
        ·(first | omega | contradiction | exact hneed | exact fun i hi=>last_row hi hke (fun _=>rfl) rfl | exact hf)
        ·(first | omega | contradiction | exact hneed | exact fun i hi=>last_row hi hke (fun _=>rfl) rfl | exact hf)
        ·conv=>whnf
         conv=>whnf
         (conv=>whnf); refine ifB_bne (fun w3=>?_) (fun w3=>?_)
         ·conv=>whnf
          conv=>whnf
          (conv=>whnf); refine ⟨?_,nofun⟩
          (first | omega | contradiction | exact hneed | exact fun i hi=>last_row hi hke (fun _=>rfl) rfl | exact hf)
         ·(exfalso; omega)
   ·obtain ⟨i,hi⟩ : ∃ i : Nat,Lib.index R.data.toList [59] = i := ⟨(Lib.index R.data.toList [59]).toNat,by have := Lib.index_ge R.data.toList [59]; omega⟩
    obtain ⟨hm,hW,hR2,hiR⟩ := sq_hit hR hi
    have h25 : SP 25 [sv (R.extract 0 i),sv (byteB 32)] (strsA (wdsR (pcT s m))) false := by rw [hW]; exact h25x
    rw [hi] at h85
    conv=>whnf
    (conv=>whnf); refine .inl ⟨_,_,byX rfl (h85),?_⟩
    conv=>whnf
    (conv=>whnf); refine ⟨inK64 (by omega) (by omega),?_⟩
    conv=>whnf
    (conv=>whnf); refine ⟨⟨(by omega),⟨(by omega),(by omega)⟩⟩,?_⟩
    conv=>whnf
    (conv=>whnf); refine ⟨(by first | rfl | assumption),?_⟩
    conv=>whnf
    (conv=>whnf); refine .inl ⟨_,_,byX rfl (h25),?_⟩
    conv=>whnf
    (conv=>whnf); refine ⟨⟨(by omega),(by omega)⟩,?_⟩
    conv=>whnf
    (conv=>whnf); refine .inl ⟨_,_,byX rfl (Sound1.pl (h26) rfl),?_⟩
    conv=>whnf
    (conv=>whnf); refine ⟨⟨(by omega),⟨(by omega),(by omega)⟩⟩,?_⟩
    conv=>whnf
    (conv=>whnf); refine ⟨[.cell 7 1 3,.forget [40,39,38,37,36,35,34,33,32,31,30,29,8]],[2,3,4,8,9,34,35,36],fun st mq=>∃ (k : Nat) (b : Bool),(k ≤ (((wdsR (pcT s m)).length : Int) - 1).toNat) ∧ (b = (numO (wdR (pcT s m) 0) false && ((wdsR (pcT s m)).tail.take k).all prsO)) ∧ st = ⟨[(2,.optr 0 0 0 0),(3,.optr 1 0 0 0),(4,.optr 2 0 0 0),(8,vb b),(9,.optr 7 0 0 0),(34,.rslice 1 (((wdsR (pcT s m)).length : Int) - 1).toNat (shiftF (Int.toNat 1) fun i=>[sv (wdR (pcT s m) i)])),(35,i64 (((wdsR (pcT s m)).length : Int) - 1).toNat),(36,i64 k)],⟨[⟨1,1,fun _=>[.eslice],0,false,true,true⟩,⟨1,1,fun _=>[i64 0],0,false,true,true⟩,⟨1,1,fun _=>[.oslice 6 0 0 m none],0,false,false,true⟩,⟨1,1,fun _=>[sv R],0,false,true,true⟩,⟨1,1,fun _=>[sv ⟨#[59]⟩],0,false,true,true⟩,⟨1,1,fun _=>[i64 0],0,false,true,true⟩,⟨2,m,fun i=>[i64 (rwM (pcT s i)).o,ptsA (rwM (pcT s i)).ps],0,false,true,false⟩,⟨2,1,fun _=>[i64 (atoiV (wdR (pcT s m) 0)),.oslice 8 0 0 k none],0,false,false,true⟩,⟨3,k,fun j=>ptC (prsP (wdR (pcT s m) (0 + 1 + j))),0,false,true,false⟩],[],none,1⟩,[(7,i64 i),(0,.yld 0),(1,.optr 4 0 0 0),(2,.optr 3 0 0 0),(3,.optr 5 0 0 0),(54,.optr 0 0 0 0),(55,.optr 1 0 0 0),(56,.optr 2 0 0 0),(72,.func (.func 83) 0 [.optr 4 0 0 0,.optr 3 0 0 0,.optr 5 0 0 0])]⟩ ∧ mq = (((wdsR (pcT s m)).length : Int) - 1).toNat - k,
     ⟨_,_,⟨0,numO (wdR (pcT s m) 0) false,by omega,by simp,rfl,rfl⟩,⟨⟨.inl rfl,rfl,rfl,rfl⟩,⟨⟨rfl,rfl,rfl,rfl,fun _=>rfl,fun _ _=>.inl rfl⟩,⟨⟨rfl,rfl,rfl,rfl,fun _=>rfl,fun _ _=>.inl rfl⟩,⟨⟨rfl,rfl,rfl,rfl,nofun,fun _ _=>.inl rfl⟩,⟨⟨rfl,rfl,rfl,rfl,fun _=>rfl,fun _ _=>.inl rfl⟩,⟨⟨rfl,rfl,rfl,rfl,fun _=>rfl,fun _ _=>.inl rfl⟩,⟨⟨rfl,rfl,rfl,rfl,fun _=>rfl,fun _ _=>.inl rfl⟩,⟨⟨rfl,rfl,rfl,rfl,fun _=>rfl,fun _ _=>.inl rfl⟩,⟨⟨rfl,rfl,rfl,rfl,nofun,fun _ _=>.inl rfl⟩,⟨⟨rfl,rfl,rfl,rfl,fun _=>rfl,fun i h=>.inl (absurd h (Nat.not_lt_zero i))⟩,trivial⟩⟩⟩⟩⟩⟩⟩⟩⟩,trivial⟩⟩,?_⟩
    rintro s0 m0 ⟨k,b,hk,hb,rfl,hmeas⟩
    by_cases hlt : k < (((wdsR (pcT s m)).length : Int) - 1).toNat
    ·have hst := all_s hlt
     have h27 := S27 (wdR (pcT s m) (0 + 1 + k)) (by have := sepL_size (pcT s m) (byteB 32) (0 + 1 + k); show ((sepL (pcT s m) (byteB 32)).getD (0 + 1 + k) ByteArray.empty).size ≤ _; omega)
     cases b with
     | true =>
      conv=>whnf
      conv=>whnf
      (conv=>whnf); refine ifB_dec (fun w2=>?_) (fun w2=>?_)
      ·conv=>whnf
       conv=>whnf
       (conv=>whnf); refine ⟨⟨(by omega),(by omega)⟩,?_⟩
       conv=>whnf
       conv=>whnf
       (conv=>whnf); refine .inl ⟨_,_,byX rfl (Sound1.pl (h27) rfl),?_⟩
       conv=>whnf
       conv=>whnf
       (conv=>whnf); refine .inl ?_
       conv=>whnf
       conv=>whnf
       (conv=>whnf); refine ⟨(by show _ * (24 + 1) ≤ _; omega),?_⟩
       conv=>whnf
       conv=>whnf
       (conv=>whnf); refine ⟨inK64 (by omega) (by omega),?_⟩
       conv=>whnf
       conv=>whnf
       (conv=>whnf); refine ⟨_,_,⟨⟨k + 1,prsO (wdR (pcT s m) (0 + 1 + k)),by omega,(by rw [hst,← Bool.and_assoc,← hb]; rfl),rfl,rfl⟩,by omega⟩,⟨⟨.inl rfl,rfl,rfl,rfl⟩,⟨⟨rfl,rfl,rfl,rfl,fun _=>rfl,fun _ _=>.inl rfl⟩,⟨⟨rfl,rfl,rfl,rfl,fun _=>rfl,fun _ _=>.inl rfl⟩,⟨⟨rfl,rfl,rfl,rfl,nofun,fun _ _=>.inl rfl⟩,⟨⟨rfl,rfl,rfl,rfl,fun _=>rfl,fun _ _=>.inl rfl⟩,⟨⟨rfl,rfl,rfl,rfl,fun _=>rfl,fun _ _=>.inl rfl⟩,⟨⟨rfl,rfl,rfl,rfl,fun _=>rfl,fun _ _=>.inl rfl⟩,⟨⟨rfl,rfl,rfl,rfl,fun _=>rfl,fun _ _=>.inl rfl⟩,⟨⟨rfl,rfl,rfl,rfl,nofun,fun _ _=>.inl rfl⟩,⟨⟨rfl,rfl,rfl,rfl,fun _=>rfl,fun j hj=>.inl (extG ptC (m := 3) (fun _=>rfl) (fun j=>prsP (wdR (pcT s m) (0 + 1 + j))) k j hj)⟩,trivial⟩⟩⟩⟩⟩⟩⟩⟩⟩,trivial⟩⟩
      ·(exfalso; omega)
     | false =>
      conv=>whnf
      conv=>whnf
      (conv=>whnf); refine ifB_dec (fun w2=>?_) (fun w2=>?_)
      ·conv=>whnf
       conv=>whnf
       (conv=>whnf); refine ⟨⟨(by omega),(by omega)⟩,?_⟩
       conv=>whnf
       conv=>whnf
       (conv=>whnf); refine .inl ⟨_,_,byX rfl (Sound1.pl (h27) rfl),?_⟩
       conv=>whnf
       conv=>whnf
       (conv=>whnf); refine .inl ?_
       conv=>whnf
       conv=>whnf
       (conv=>whnf); refine ⟨(by show _ * (24 + 1) ≤ _; omega),?_⟩
       conv=>whnf
       conv=>whnf
       (conv=>whnf); refine ⟨inK64 (by omega) (by omega),?_⟩
       conv=>whnf
       conv=>whnf
       (conv=>whnf); refine ⟨_,_,⟨⟨k + 1,false,by omega,(by rw [hst,← Bool.and_assoc,← hb]; rfl),rfl,rfl⟩,by omega⟩,⟨⟨.inl rfl,rfl,rfl,rfl⟩,⟨⟨rfl,rfl,rfl,rfl,fun _=>rfl,fun _ _=>.inl rfl⟩,⟨⟨rfl,rfl,rfl,rfl,fun _=>rfl,fun _ _=>.inl rfl⟩,⟨⟨rfl,rfl,rfl,rfl,nofun,fun _ _=>.inl rfl⟩,⟨⟨rfl,rfl,rfl,rfl,fun _=>rfl,fun _ _=>.inl rfl⟩,⟨⟨rfl,rfl,rfl,rfl,fun _=>rfl,fun _ _=>.inl rfl⟩,⟨⟨rfl,rfl,rfl,rfl,fun _=>rfl,fun _ _=>.inl rfl⟩,⟨⟨rfl,rfl,rfl,rfl,fun _=>rfl,fun _ _=>.inl rfl⟩,⟨⟨rfl,rfl,rfl,rfl,nofun,fun _ _=>.inl rfl⟩,⟨⟨rfl,rfl,rfl,rfl,fun _=>rfl,fun j hj=>.inl (extG ptC (m := 3) (fun _=>rfl) (fun j=>prsP (wdR (pcT s m) (0 + 1 + j))) k j hj)⟩,trivial⟩⟩⟩⟩⟩⟩⟩⟩⟩,trivial⟩⟩
      ·(exfalso; omega)
    ·have hke : k = (((wdsR (pcT s m)).length : Int) - 1).toNat := by omega
     rw [hke,all_e rfl] at hb
     cases b with
     | false =>
      have hf := fin_err (ok_no hm hb.symm (by omega)) (by decide)
      conv=>whnf
      conv=>whnf
      (conv=>whnf); refine ifB_dec (fun w2=>?_) (fun w2=>?_)
      ·(exfalso; omega)
      ·conv=>whnf
       conv=>whnf
       (conv=>whnf); refine ⟨?_,nofun⟩
       (first | omega | exact hf)
     | true =>
      have hby : Tryz.prog.types[58].bytes = 32 := by kernel_rfl
      have hlt2 : (prtT s).length ≤ s.size + 1 := (sep_len s 59).2
      have hneed : (m + 1) * (Tryz.prog.types[58].bytes + 1) ≤ 1000000000000 := by rw [hby]; omega
      have hR3 : SqAt s (R.extract (((i : Int) + ((⟨#[59]⟩ : ByteArray).size : Int)).toNat) ((R.size : Int).toNat)) (m + 1) := hR2
      have hR4 : (R.extract (((i : Int) + ((⟨#[59]⟩ : ByteArray).size : Int)).toNat) ((R.size : Int).toNat)).size = R.size - (i + 1) := by show (R.extract (i + 1) R.size).size = _; rw [ByteArray.size_extract]; omega
      have hone : (⟨#[59]⟩ : ByteArray).size = 1 := rfl
      conv=>whnf
      conv=>whnf
      (conv=>whnf); refine ifB_dec (fun w2=>?_) (fun w2=>?_)
      ·(exfalso; omega)
      ·conv=>whnf
       conv=>whnf
       (conv=>whnf); refine .inl ?_
       conv=>whnf
       conv=>whnf
       (conv=>whnf); refine ⟨(by show _ * (32 + 1) ≤ _; omega),?_⟩
       conv=>whnf
       conv=>whnf
       (conv=>whnf); refine ⟨inK64 (by omega) (by omega),?_⟩
       conv=>whnf
       conv=>whnf
       (conv=>whnf); refine ⟨⟨(by omega),⟨(by omega),(by omega)⟩⟩,?_⟩
       conv=>whnf
       conv=>whnf
       (conv=>whnf); refine ⟨_,_,⟨⟨m + 1,R.extract (((i : Int) + ((⟨#[59]⟩ : ByteArray).size : Int)).toNat) ((R.size : Int).toNat),hR3,(by rw [hR4]; omega),(fun j hj=>by by_cases e : j = m; (rw [e]; exact hb.symm); exact ho j (by omega)),rfl,rfl⟩,by omega⟩,⟨⟨.inl rfl,rfl,rfl,rfl⟩,⟨⟨rfl,rfl,rfl,rfl,fun _=>rfl,fun _ _=>.inl rfl⟩,⟨⟨rfl,rfl,rfl,rfl,fun _=>rfl,fun _ _=>.inl rfl⟩,⟨⟨rfl,rfl,rfl,rfl,nofun,fun _ _=>.inl rfl⟩,⟨⟨rfl,rfl,rfl,rfl,fun _=>rfl,fun _ _=>.inl rfl⟩,⟨⟨rfl,rfl,rfl,rfl,fun _=>rfl,fun _ _=>.inl rfl⟩,⟨⟨rfl,rfl,rfl,rfl,fun _=>rfl,fun _ _=>.inl rfl⟩,⟨⟨rfl,rfl,rfl,rfl,fun _=>rfl,fun j hj=>.inr (cp_row (o := fun i=>(rwM (pcT s i)).o) (P := fun i=>(rwM (pcT s i)).ps) hj (by rw [pts_eq,← hke]; exact ⟨rfl,rfl,fun _ _=>rfl⟩))⟩,trivial⟩⟩⟩⟩⟩⟩⟩,trivial⟩⟩
end Go.Tr

/- Tables as strings: the reference's ParseTable. Conditions: none. -/
-- seat YtnphjhgmoijbfaaGreatDoor
namespace Go.Tr
open Go Go.Proofs
set_option maxRecDepth 20000
set_option maxHeartbeats 8000000

theorem pts_eq2 (x : ByteArray) : ptsA (rwM x).ps = .rslice 3 ((wdsR x).length - 1) fun j=>ptC (prsP (wdR x (j + 1))) := by
 rw [pts_eq,show (((wdsR x).length : Int) - 1).toNat = (wdsR x).length - 1 by omega]
 congr 1
 funext j
 rw [show 0 + 1 + j = j + 1 by omega]
theorem no0 {x : ByteArray} (h : numO (wdR x 0) false = false) : rwOk x = false := by rw [rwOk,h]; rfl
theorem no1 {x : ByteArray} {k : Nat} (hk : k + 1 < (wdsR x).length) (h : prsO (wdR x (k + 1)) = false) : rwOk x = false := by
 have : (wdsR x).tail.all prsO = false := by
  rw [List.all_eq_false]
  refine ⟨wdR x (k + 1),?_,by rw [h]; simp⟩
  rw [List.mem_iff_getElem?]
  refine ⟨k,?_⟩
  unfold wdR
  rw [List.getElem?_tail,List.getD_eq_getElem?_getD,List.getElem?_eq_getElem hk]; rfl
 rw [rwOk,this]; simp
theorem yes1 {x : ByteArray} (h0 : numO (wdR x 0) false = true) (h : ∀ j,j + 1 < (wdsR x).length → prsO (wdR x (j + 1)) = true) : rwOk x = true := by
 have : (wdsR x).tail.all prsO = true := by
  rw [List.all_eq_true]
  intro w hw
  obtain ⟨j,hj⟩ := List.mem_iff_getElem?.1 hw
  rw [List.getElem?_tail] at hj
  have hlt := (List.getElem?_eq_some_iff.1 hj).1
  have := h j hlt
  unfold wdR at this
  rw [List.getD_eq_getElem?_getD,hj] at this
  exact this
 rw [rwOk,this,h0]; rfl
theorem sgn_at {w : ByteArray} (h : numO w true = true) : 0 < w.size ∧ numO w false = !decide (((w.data.toList.getD (Int.toNat 0) 0).toNat : Int) = 45) := by
 have h1 := (num_ref w).1
 rw [h] at h1
 rw [num_ref0,← h1,Bool.true_and,bs_len]
 cases hd : w.data.toList with
 | nil=>rw [hd] at h1; cases h1
 | cons c r =>
  refine ⟨by simp,?_⟩
  congr 1
  show ((some c : Option UInt8) == some 45) = decide ((c.toNat : Int) = 45)
  by_cases hc : c = 45
  ·subst hc; rfl
  ·have hne : ¬ (c.toNat : Int) = 45 := fun e=>hc ((u8_eq (n := 45) (by decide)).1 e)
   rw [decide_eq_false hne]
   simpa using hc
set_option maxHeartbeats 4000000 in
theorem S9 (s : ByteArray) (hs : s.size ≤ 900000) : SP 9 [sv s] (.tuple [tblA (prsT s), i64 (prsE s)]) false := by
 have h29 : SP 29 [sv s,.val (.int .u8 59)] (strsA (prtT s)) false := S29 s 59 (by omega)
 by_cases hbig : 60000 < s.size
 ·have hf := fin_err (s := s) (e := 8) (by rw [prsE,if_pos hbig]) (by decide)
  refine sound (d := 2) tok2 mixed2 Tryz.func9 (by kernel_rfl) (by kernel_rfl) ?_
  (conv=>whnf); refine ifB_dec (fun w1=>?_) (fun w1=>?_)
  ·(conv=>whnf); refine ⟨?_,nofun⟩
   (first | omega | exact hf)
  ·(exfalso; omega)
 ·refine sound (d := 2) tok2 mixed2 Tryz.func9 (by kernel_rfl) (by kernel_rfl) ?_
  (conv=>whnf); refine ifB_dec (fun w1=>?_) (fun w1=>?_)
  ·(exfalso; omega)
  ·(conv => whnf); refine .inl ⟨_, _, byX rfl (h29), ?_⟩
   (conv=>whnf); refine ⟨[.cell 2 0 2,.fzl 3 [4,5,6,7,8]],[2,4,5,6,7],fun st mq=>∃ (m : Nat),(m ≤ (prtT s).length) ∧ (∀ i,i < m → rwOk (pcT s i) = true) ∧ st = ⟨[(2,.optr 0 0 0 0),(4,.optr 1 0 0 0),(5,strsA (prtT s)),(6,.optr 2 0 0 0),(7,i64 m)],⟨[⟨1,1,fun _=>[.eslice],0,false,true,true⟩,⟨1,1,fun _=>[.eslice],0,false,true,true⟩,⟨1,1,fun _=>[.oslice 3 0 0 m none],0,false,false,true⟩,⟨2,m,fun i=>[i64 (rwM (pcT s i)).o,ptsA (rwM (pcT s i)).ps],0,false,true,false⟩],[],none,0⟩,[]⟩ ∧ mq = (prtT s).length - m,
    ⟨_,_,⟨0,by omega,(fun i h=>by omega),rfl,rfl⟩,⟨⟨.inl rfl,rfl,rfl,rfl⟩,⟨⟨rfl,rfl,rfl,rfl,fun _=>rfl,fun _ _=>.inl rfl⟩,⟨⟨rfl,rfl,rfl,rfl,fun _=>rfl,fun _ _=>.inl rfl⟩,⟨⟨rfl,rfl,rfl,rfl,nofun,fun _ _=>.inl rfl⟩,⟨⟨rfl,rfl,rfl,rfl,fun _=>rfl,fun i h=>.inl (absurd h (Nat.not_lt_zero i))⟩,trivial⟩⟩⟩⟩,trivial⟩⟩,?_⟩
   rintro s0 m0 ⟨m,hm,ho,rfl,hmeas⟩
   have hlt2 : (prtT s).length ≤ s.size + 1 := (sep_len s 59).2
   by_cases hlt : m < (prtT s).length
   ·have hsz : (pcT s m).size ≤ s.size := sepL_size s (byteB 59) m
    have h29r : SP 29 [sv (pcT s m),.val (.int .u8 32)] (strsA (wdsR (pcT s m))) false := S29 (pcT s m) 32 (by omega)
    have hln : 0 < (wdsR (pcT s m)).length ∧ (wdsR (pcT s m)).length ≤ (pcT s m).size + 1 := sep_len (pcT s m) 32
    have hw0 : (wdR (pcT s m) 0).size ≤ (pcT s m).size := sepL_size (pcT s m) (byteB 32) 0
    have h30 := S30w (wdR (pcT s m) 0) (by omega)
    cases hn : numO (wdR (pcT s m) 0) true with
    | false =>
     have hf0 : numO (wdR (pcT s m) 0) false = false := by
      rw [num_ref0,← (num_ref _).1,hn]; rfl
     have hf := fin_err (ok_no hlt (no0 hf0) (by omega)) (by decide)
     rw [hn] at h30
     conv=>whnf
     (conv=>whnf); refine ifB_dec (fun w2=>?_) (fun w2=>?_)
     ·conv=>whnf
      (conv=>whnf); refine ⟨⟨(by omega),(by omega)⟩,?_⟩
      conv=>whnf
      (conv=>whnf); refine .inl ⟨_,_,byX rfl (h29r),?_⟩
      conv=>whnf
      (conv=>whnf); refine ⟨⟨(by omega),(by omega)⟩,?_⟩
      conv=>whnf
      (conv=>whnf); refine .inl ⟨_,_,byX rfl (Sound1.pl (h30) rfl),?_⟩
      conv=>whnf
      (conv=>whnf); refine ⟨?_,nofun⟩
      (first | omega | exact hf)
     ·(exfalso; omega)
    | true =>
     obtain ⟨hp0,hsg⟩ := sgn_at hn
     rw [hn,if_pos rfl] at h30
     have hneed0 : (0 : Int) ≤ 0 ∧ (0 : Int) < ((wdR (pcT s m) 0).size : Int) := ⟨by omega,by omega⟩
     by_cases h45 : ((((wdsR (pcT s m)).getD (Int.toNat 0) ByteArray.empty).data.toList.getD (Int.toNat 0) 0).toNat : Int) = 45
     ·have hsg : numO (wdR (pcT s m) 0) false = false := by rw [hsg,decide_eq_true (show (((wdR (pcT s m) 0).data.toList.getD (Int.toNat 0) 0).toNat : Int) = 45 from h45)]; rfl
      have hf := fin_err (ok_no hlt (no0 hsg) (by omega)) (by decide)
      conv=>whnf
      (conv=>whnf); refine ifB_dec (fun w2=>?_) (fun w2=>?_)
      ·conv=>whnf
       (conv=>whnf); refine ⟨⟨(by omega),(by omega)⟩,?_⟩
       conv=>whnf
       (conv=>whnf); refine .inl ⟨_,_,byX rfl (h29r),?_⟩
       conv=>whnf
       (conv=>whnf); refine ⟨⟨(by omega),(by omega)⟩,?_⟩
       conv=>whnf
       (conv=>whnf); refine .inl ⟨_,_,byX rfl (Sound1.pl (h30) rfl),?_⟩
       conv=>whnf
       (conv=>whnf); refine ⟨⟨(by omega),(by omega)⟩,?_⟩
       conv=>whnf
       (conv=>whnf); refine ⟨by assumption,?_⟩
       conv=>whnf
       (conv=>whnf); refine ifB_beq (fun w3=>?_) (fun w3=>?_)
       ·conv=>whnf
        (conv=>whnf); refine ⟨?_,nofun⟩
        (first | omega | exact hneed0 | contradiction | exact hf)
       ·(exfalso; omega)
      ·(exfalso; omega)
     ·have hsg : numO (wdR (pcT s m) 0) false = true := by rw [hsg, decide_eq_false (show ¬ (((wdR (pcT s m) 0).data.toList.getD (Int.toNat 0) 0).toNat : Int) = 45 from h45)]; rfl
      conv=>whnf
      (conv=>whnf); refine ifB_dec (fun w2=>?_) (fun w2=>?_)
      ·conv=>whnf
       (conv=>whnf); refine ⟨⟨(by omega),(by omega)⟩,?_⟩
       conv=>whnf
       (conv=>whnf); refine .inl ⟨_,_,byX rfl (h29r),?_⟩
       conv=>whnf
       (conv=>whnf); refine ⟨⟨(by omega),(by omega)⟩,?_⟩
       conv=>whnf
       (conv=>whnf); refine .inl ⟨_,_,byX rfl (Sound1.pl (h30) rfl),?_⟩
       conv=>whnf
       (conv=>whnf); refine ⟨⟨(by omega),(by omega)⟩,?_⟩
       conv=>whnf
       (conv=>whnf); refine ⟨by assumption,?_⟩
       conv=>whnf
       (conv=>whnf); refine ifB_beq (fun w3=>?_) (fun w3=>?_)
       ·(exfalso; omega)
       ·conv=>whnf
        (conv=>whnf); refine ⟨[.cell 4 1 3],[2,4,5,6,7,8,11,12],fun st mq=>∃ (k : Nat),(k + 1 ≤ (wdsR (pcT s m)).length) ∧ (∀ j,j < k → prsO (wdR (pcT s m) (j + 1)) = true) ∧ st = ⟨[(2,.optr 0 0 0 0),(4,.optr 1 0 0 0),(5,strsA (prtT s)),(6,.optr 2 0 0 0),(7,i64 m),(8,strsA (wdsR (pcT s m))),(11,.optr 4 0 0 0),(12,i64 ((k : Int) + 1))],⟨[⟨1,1,fun _=>[.eslice],0,false,true,true⟩,⟨1,1,fun _=>[.eslice],0,false,true,true⟩,⟨1,1,fun _=>[.oslice 3 0 0 m none],0,false,false,true⟩,⟨2,m,fun i=>[i64 (rwM (pcT s i)).o,ptsA (rwM (pcT s i)).ps],0,false,true,false⟩,⟨2,1,fun _=>[i64 (atoiV (wdR (pcT s m) 0)),.oslice 5 0 0 k none],0,false,false,true⟩,⟨3,k,fun j=>ptC (prsP (wdR (pcT s m) (j + 1))),0,false,true,false⟩],[],none,0⟩,[]⟩ ∧ mq = (wdsR (pcT s m)).length - (k + 1),
         ⟨_,_,⟨0,by omega,(fun j h=>by omega),rfl,rfl⟩,⟨⟨.inl rfl,rfl,rfl,rfl⟩,⟨⟨rfl,rfl,rfl,rfl,fun _=>rfl,fun _ _=>.inl rfl⟩,⟨⟨rfl,rfl,rfl,rfl,fun _=>rfl,fun _ _=>.inl rfl⟩,⟨⟨rfl,rfl,rfl,rfl,nofun,fun _ _=>.inl rfl⟩,⟨⟨rfl,rfl,rfl,rfl,fun _=>rfl,fun _ _=>.inl rfl⟩,⟨⟨rfl,rfl,rfl,rfl,nofun,fun _ _=>.inl rfl⟩,⟨⟨rfl,rfl,rfl,rfl,fun _=>rfl,fun i h=>.inl (absurd h (Nat.not_lt_zero i))⟩,trivial⟩⟩⟩⟩⟩⟩,trivial⟩⟩,?_⟩
        rintro s0 m0 ⟨k,hk,hq,rfl,hmeas⟩
        by_cases hlk : k + 1 < (wdsR (pcT s m)).length
        ·have hwk : (wdR (pcT s m) (k + 1)).size ≤ (pcT s m).size := sepL_size (pcT s m) (byteB 32) (k + 1)
         have h31 := S31 (wdR (pcT s m) (k + 1)) (by omega)
         cases hpo : prsO (wdR (pcT s m) (k + 1)) with
         | false =>
          have hf := fin_err (ok_no hlt (no1 hlk hpo) (by omega)) (by decide)
          rw [hpo] at h31
          conv=>whnf
          conv=>whnf
          (conv=>whnf); refine ifB_dec (fun w4=>?_) (fun w4=>?_)
          ·conv=>whnf
           conv=>whnf
           (conv=>whnf); refine ⟨⟨(by omega),(by omega)⟩,?_⟩
           conv=>whnf
           conv=>whnf
           (conv=>whnf); refine .inl ⟨_,_,byX rfl (Sound1.pl (h31) rfl),?_⟩
           conv=>whnf
           conv=>whnf
           (conv=>whnf); refine ⟨?_,nofun⟩
           (first | omega | exact hf)
          ·(exfalso; omega)
         | true =>
          rw [hpo] at h31
          conv=>whnf
          conv=>whnf
          (conv=>whnf); refine ifB_dec (fun w4=>?_) (fun w4=>?_)
          ·conv=>whnf
           conv=>whnf
           (conv=>whnf); refine ⟨⟨(by omega),(by omega)⟩,?_⟩
           conv=>whnf
           conv=>whnf
           (conv=>whnf); refine .inl ⟨_,_,byX rfl (Sound1.pl (h31) rfl),?_⟩
           conv=>whnf
           conv=>whnf
           (conv=>whnf); refine .inl ?_
           conv=>whnf
           conv=>whnf
           (conv=>whnf); refine ⟨(by show _ * (24 + 1) ≤ _; omega),?_⟩
           conv=>whnf
           conv=>whnf
           (conv=>whnf); refine ⟨inK64 (by omega) (by omega),?_⟩
           conv=>whnf
           conv=>whnf
           (conv=>whnf); refine ⟨_,_,⟨⟨k + 1,by omega,(fun j hj=>by by_cases e : j = k; (rw [e]; exact hpo); exact hq j (by omega)),rfl,rfl⟩,by omega⟩,⟨⟨.inl rfl,rfl,rfl,rfl⟩,⟨⟨rfl,rfl,rfl,rfl,fun _=>rfl,fun _ _=>.inl rfl⟩,⟨⟨rfl,rfl,rfl,rfl,fun _=>rfl,fun _ _=>.inl rfl⟩,⟨⟨rfl,rfl,rfl,rfl,nofun,fun _ _=>.inl rfl⟩,⟨⟨rfl,rfl,rfl,rfl,fun _=>rfl,fun _ _=>.inl rfl⟩,⟨⟨rfl,rfl,rfl,rfl,nofun,fun _ _=>.inl rfl⟩,⟨⟨rfl,rfl,rfl,rfl,fun _=>rfl,fun j hj=>.inl (extG ptC (m := 3) (fun _=>rfl) (fun j=>prsP (wdR (pcT s m) (j + 1))) k j hj)⟩,trivial⟩⟩⟩⟩⟩⟩,trivial⟩⟩
          ·(exfalso; omega)
        ·have hke : k = (wdsR (pcT s m)).length - 1 := by omega
         have hok := yes1 hsg (fun j hj=>hq j (by omega))
         have hby : Tryz.prog.types[58].bytes = 32 := by kernel_rfl
         have hneed : (m + 1) * (Tryz.prog.types[58].bytes + 1) ≤ 1000000000000 := by rw [hby]; omega
         conv=>whnf
         conv=>whnf
         (conv=>whnf); refine ifB_dec (fun w4=>?_) (fun w4=>?_)
         ·(exfalso; omega)
         ·conv=>whnf
          conv=>whnf
          (conv=>whnf); refine .inl ?_
          conv=>whnf
          conv=>whnf
          (conv=>whnf); refine ⟨(by show _ * (32 + 1) ≤ _; omega),?_⟩
          conv=>whnf
          conv=>whnf
          (conv=>whnf); refine ⟨inK64 (by omega) (by omega),?_⟩
          conv=>whnf
          conv=>whnf
          (conv=>whnf); refine ⟨_,_,⟨⟨m + 1,by omega,(fun j hj=>by by_cases e : j = m; (rw [e]; exact hok); exact ho j (by omega)),rfl,rfl⟩,by omega⟩,⟨⟨.inl rfl,rfl,rfl,rfl⟩,⟨⟨rfl,rfl,rfl,rfl,fun _=>rfl,fun _ _=>.inl rfl⟩,⟨⟨rfl,rfl,rfl,rfl,fun _=>rfl,fun _ _=>.inl rfl⟩,⟨⟨rfl,rfl,rfl,rfl,nofun,fun _ _=>.inl rfl⟩,⟨⟨rfl,rfl,rfl,rfl,fun _=>rfl,fun j hj=>.inr (cp_row (o := fun i=>(rwM (pcT s i)).o) (P := fun i=>(rwM (pcT s i)).ps) hj (by rw [pts_eq2,← hke]; exact ⟨rfl,rfl,fun _ _=>rfl⟩))⟩,trivial⟩⟩⟩⟩,trivial⟩⟩
      ·(exfalso; omega)
   ·have he : m = (prtT s).length := by omega
    have hall : prsE s = (chkM ((prtT s).map rwM)).2 := ok_all (fun j hj=>ho j (by omega)) (by omega)
    have h12 : ∀ {n : Nat} {F : Nat → List AV},n = m → (∀ i,i < m → F i = [i64 (rwM (pcT s i)).o,ptsA (rwM (pcT s i)).ps]) → SP 12 [.agg [.rslice 2 n F]] (i64 (chkM ((prtT s).map rwM)).2) false := fun {n F} hn hF=>Sound1.ave1 (S12 _ (fit_prs (by omega))) (ave_tbl (by rw [List.length_map]; omega) fun i hi=>by rw [hF i (by omega),row_at (by omega)])
    by_cases hc : (chkM ((prtT s).map rwM)).2 = 0
    ·rw [hc] at h12 hall
     conv=>whnf
     (conv=>whnf); refine ifB_dec (fun w2=>?_) (fun w2=>?_)
     ·(exfalso; omega)
     ·conv=>whnf
      (conv=>whnf); refine .inl ⟨_,_,byX rfl (Sound1.pl (h12 ?_ ?_) rfl),?_⟩
      ·(first | omega | exact fun i hi=>rfl | exact fin_ok hall (by omega) (fun i hi=>rfl))
      ·(first | omega | exact fun i hi=>rfl | exact fin_ok hall (by omega) (fun i hi=>rfl))
      ·conv=>whnf
       (conv=>whnf); refine ⟨?_,nofun⟩
       (first | omega | exact fun i hi=>rfl | exact fin_ok hall (by omega) (fun i hi=>rfl))
    ·have hf := fin_err hall hc
     conv=>whnf
     (conv=>whnf); refine ifB_dec (fun w2=>?_) (fun w2=>?_)
     ·(exfalso; omega)
     ·conv=>whnf
      (conv=>whnf); refine .inl ⟨_,_,byX rfl (Sound1.pl (h12 ?_ ?_) rfl),?_⟩
      ·(first | omega | contradiction | exact fun i hi=>rfl | exact hf)
      ·(first | omega | contradiction | exact fun i hi=>rfl | exact hf)
      ·conv=>whnf
       (conv=>whnf); refine ifB_bne (fun w3=>?_) (fun w3=>?_)
       ·conv=>whnf
        (conv=>whnf); refine ⟨?_,nofun⟩
        (first | omega | contradiction | exact fun i hi=>rfl | exact hf)
       ·(exfalso; omega)
end Go.Tr

/- The package's FormatTable. Conditions: none. -/
-- seat YtnphjhgmoijbfaaGreatDoor
namespace Go.Tr
open Go Go.Proofs
set_option maxRecDepth 20000
set_option maxHeartbeats 8000000

def I64 (n : Int) : Prop := -9223372036854775808 ≤ n ∧ n ≤ 9223372036854775807
def PtI (p : P3) : Prop := I64 p.1 ∧ I64 p.2.1 ∧ I64 p.2.2
structure TblI (t : List MRow) : Prop where
 n : t.length ≤ 8
 np : ∀ i,(t.getD i r0).ps.length ≤ 8
 o : ∀ i,I64 (t.getD i r0).o
 p : ∀ i k,PtI ((t.getD i r0).ps.getD k p0)
abbrev nsP (p : P3) : List ByteArray := [itoaB p.1,itoaB p.2.1,itoaB p.2.2]
def ptS (p : P3) : ByteArray := byteB 58 ++ joinB (nsP p) (byteB 44)
def wsR (r : MRow) : List ByteArray := itoaB r.o :: r.ps.map ptS
def rowS (r : MRow) : ByteArray := joinB (wsR r) (byteB 32)
def tabS (t : List MRow) : ByteArray := joinB (t.map rowS) (byteB 59)
theorem join_le (sep : ByteArray) (B : Nat) : ∀ l : List ByteArray,(∀ x ∈ l,x.size ≤ B) → (joinB l sep).size ≤ l.length * (B + sep.size)
 | [],_=>Nat.zero_le _
 | [x], h => by
  have e : (joinB [x] sep).size = x.size := by
   rw [joinB,size_mk,List.map_cons,List.map_nil,Lib.join_one,← bs_len]
  have := h x (.head _)
  rw [e]; simp; omega
 | x :: y :: r, h => by
  have ih := join_le sep B (y :: r) fun z hz=>h z (.tail _ hz)
  have hx := h x (.head _)
  have e : (joinB (x :: y :: r) sep).size = x.size + sep.size + (joinB (y :: r) sep).size := by
   rw [joinB,joinB,size_mk,size_mk,List.map_cons,List.map_cons,Lib.join_cons,Lib.join_cons,bs_len,bs_len]
   simp [Lib.joinTail]; omega
  rw [e,List.length_cons,Nat.add_mul,Nat.one_mul]
  omega
theorem itoaB_le {n : Int} (h : I64 n) : (itoaB n).size ≤ 21 := by
  rw [bs_len,itoaB_l]; exact Lib.itoa_length_le n h.1 h.2
theorem nsP_le {p : P3} (h : PtI p) : ∀ x ∈ nsP p,x.size ≤ 21 := fun x hx=>by
 simp only [List.mem_cons,List.not_mem_nil,or_false] at hx
 rcases hx with rfl | rfl | rfl
 ·exact itoaB_le h.1
 ·exact itoaB_le h.2.1
 ·exact itoaB_le h.2.2
theorem byteB_size (c : UInt8) : (byteB c).size = 1 := rfl
theorem ptS_le {p : P3} (h : PtI p) : (joinB (nsP p) (byteB 44)).size ≤ 66 ∧ (ptS p).size ≤ 67 := by
 have := join_le (byteB 44) 21 (nsP p) (nsP_le h)
 rw [byteB_size] at this
 have h1 : (joinB (nsP p) (byteB 44)).size ≤ 66 := this
 refine ⟨h1,?_⟩
 rw [ptS,ByteArray.size_append,byteB_size]; omega
theorem wsR_le {r : MRow} (ho : I64 r.o) (hp : ∀ k,PtI (r.ps.getD k p0)) : ∀ x ∈ wsR r,x.size ≤ 67 := fun x hx=>by
 rcases List.mem_cons.1 hx with e | hx
 ·rw [e]; have := itoaB_le ho; omega
 ·obtain ⟨p,hpm,rfl⟩ := List.mem_map.1 hx
  obtain ⟨k,hk⟩ := List.mem_iff_getElem?.1 hpm
  have := hp k
  rw [List.getD_eq_getElem?_getD,hk] at this
  exact (ptS_le this).2
theorem rowS_le {r : MRow} (ho : I64 r.o) (hp : ∀ k,PtI (r.ps.getD k p0)) (hn : r.ps.length ≤ 8) : (rowS r).size ≤ 612 := by
 have := join_le (byteB 32) 67 (wsR r) (wsR_le ho hp)
 rw [byteB_size,wsR,List.length_cons,List.length_map] at this
 exact Nat.le_trans this (by omega)
theorem tabS_le {t : List MRow} (h : TblI t) : (tabS t).size ≤ 4904 := by
 have := join_le (byteB 59) 612 (t.map rowS) fun x hx=>by
  obtain ⟨r,hr,rfl⟩ := List.mem_map.1 hx
  obtain ⟨i,hi⟩ := List.mem_iff_getElem?.1 hr
  have h1 := h.o i; have h2 := h.p i; have h3 := h.np i
  rw [List.getD_eq_getElem?_getD,hi] at h1 h2 h3
  exact rowS_le h1 h2 h3
 rw [byteB_size,List.length_map] at this
 have h8 := h.n
 have this : (tabS t).size ≤ t.length * (612 + 1) := this
 omega
theorem S21 (p : P3) : SP 21 [.agg (ptC p)] (.agg (ptC p)) false := by
 refine sound (d := 2) tok2 mixed2 Tryz.func21 (by kernel_rfl) (by kernel_rfl) ?_
 (conv=>whnf); refine ⟨?_,nofun⟩
 (first | omega | exact ave_aggR (l := ptC p) (by simp [AV.atom]))
theorem one_row {α : Type} {f g : Nat → α} (h : f 0 = g 0) : ∀ i,i < 1 → f i = g i := fun i hi=>by
  obtain rfl : i = 0 := by omega
  exact h
theorem S22l (l : List ByteArray) (c : UInt8) (n : Nat) (hn : n = l.length) (B : Nat) (hB : ∀ x ∈ l,x.size ≤ B) (hl : l.length ≤ 1000) (hb : B ≤ 100000) : SP 22 [.rslice 1 n fun i=>[sv (l.getD i ByteArray.empty)],sv (byteB c)] (sv (joinB l (byteB c))) true := by
 subst hn
 have := join_le (byteB c) B l hB
 rw [byteB_size] at this
 have h2 : l.length * (B + 1) ≤ 1000 * 100001 := Nat.mul_le_mul hl (by omega)
 exact S22 l (byteB c) _ (fun i _=>rfl) (by omega) (by omega)
theorem ws_s (r : MRow) (k : Nat) (hk : k < r.ps.length) : (wsR r).getD (k + 1) ByteArray.empty = ptS (r.ps.getD k p0) := by
  rw [wsR,List.getD_cons_succ]; exact getD_mapG ptS r.ps k p0 _ hk
theorem S6 (t : List MRow) (h : TblI t) : SP 6 [tblA t] (sv (tabS t)) false := by
 have hn := h.n
 refine sound (d := 2) tok2 mixed2 Tryz.func6 (by kernel_rfl) (by kernel_rfl) ?_
 (conv=>whnf); refine ⟨[.slot 3 1],[3,13,14,15],fun st mq=>∃ (m : Nat) (F0 : Nat → List AV),(m ≤ t.length) ∧ st = ⟨[(3,.oslice 1 0 0 m none),(13,rowsA t),(14,i64 t.length),(15,i64 m)],⟨[⟨1,1,F0,0,false,true,false⟩,⟨1,m,fun i=>[sv ((t.map rowS).getD i ByteArray.empty)],0,false,true,false⟩],[],none,0⟩,[]⟩ ∧ mq = t.length - m,
  ⟨_,_,⟨0,_,by omega,rfl,rfl⟩,⟨⟨.inl rfl,rfl,rfl,rfl⟩,⟨⟨rfl,rfl,rfl,rfl,fun _=>rfl,fun _ _=>.inl rfl⟩,⟨⟨rfl,rfl,rfl,rfl,fun _=>rfl,fun i h=>.inl (absurd h (Nat.not_lt_zero i))⟩,trivial⟩⟩,trivial⟩⟩,?_⟩
 rintro s0 m0 ⟨m,F0,hm,rfl,hmeas⟩
 by_cases hlt : m < t.length
 ·have ho := h.o m
  have hp := h.p m
  have h8 := h.np m
  have h20 := S20 (t.getD m r0).o ho.1 ho.2
  conv=>whnf
  (conv=>whnf); refine ifB_dec (fun w1=>?_) (fun w1=>?_)
  ·conv=>whnf
   (conv=>whnf); refine ⟨⟨(by omega),(by omega)⟩,?_⟩
   conv=>whnf
   (conv=>whnf); refine .inl ⟨_,_,byX rfl (h20),?_⟩
   conv=>whnf
   (conv=>whnf); refine ⟨[.uncap 6],[3,6,13,14,15,24,25,26],fun st mq=>∃ (k : Nat) (F0 : Nat → List AV) (F2 : Nat → List AV),(k ≤ (t.getD m r0).ps.length) ∧ st = ⟨[(3,.oslice 1 0 0 m none),(6,.oslice 3 0 0 (k + 1) none),(13,rowsA t),(14,i64 t.length),(15,i64 m),(24,ptsA (t.getD m r0).ps),(25,i64 (t.getD m r0).ps.length),(26,i64 k)],⟨[⟨1,1,F0,0,false,true,false⟩,⟨1,m,fun i=>[sv ((t.map rowS).getD i ByteArray.empty)],0,false,true,false⟩,⟨2,1,F2,0,false,true,false⟩,⟨1,k + 1,fun i=>[sv ((wsR (t.getD m r0)).getD i ByteArray.empty)],0,false,true,false⟩],[],none,0⟩,[]⟩ ∧ mq = (t.getD m r0).ps.length - k,
    ⟨_,_,⟨0,_,_,by omega,rfl,rfl⟩,⟨⟨.inl rfl,rfl,rfl,rfl⟩,⟨⟨rfl,rfl,rfl,rfl,fun _=>rfl,fun _ _=>.inl rfl⟩,⟨⟨rfl,rfl,rfl,rfl,fun _=>rfl,fun _ _=>.inl rfl⟩,⟨⟨rfl,rfl,rfl,rfl,fun _=>rfl,fun _ _=>.inl rfl⟩,⟨⟨rfl,rfl,rfl,rfl,fun _=>rfl,fun i h=>.inl (one_row (f := fun i=>[sv ((wsR (t.getD m r0)).getD i ByteArray.empty)]) (g := fun i=>List.take (0 + 1) (List.drop (i * (0 + 1)) [sv (itoaB (t.getD m r0).o)])) rfl i h)⟩,trivial⟩⟩⟩⟩,trivial⟩⟩,?_⟩
   rintro s0 m0 ⟨k,F0,F2,hk,rfl,hmeas⟩
   by_cases hlk : k < (t.getD m r0).ps.length
   ·have hpk := hp k
    have h21 := S21 ((t.getD m r0).ps.getD k p0)
    conv=>whnf
    conv=>whnf
    (conv=>whnf); refine ifB_dec (fun w2=>?_) (fun w2=>?_)
    ·conv=>whnf
     conv=>whnf
     (conv=>whnf); refine ⟨⟨(by omega),(by omega)⟩,?_⟩
     conv=>whnf
     conv=>whnf
     (conv=>whnf); refine .inl ⟨_,_,byX rfl (Sound1.pl (h21) rfl),?_⟩
     conv=>whnf
     conv=>whnf
     (conv=>whnf); refine ⟨[.slot 9 1],[3,6,9,13,14,15,24,25,26,31,32],fun st mq=>∃ (j : Nat) (F0 : Nat → List AV) (F2 : Nat → List AV) (F4 : Nat → List AV),(j ≤ 3) ∧ st = ⟨[(3,.oslice 1 0 0 m none),(6,.oslice 3 0 0 (k + 1) none),(9,.oslice 5 0 0 j none),(13,rowsA t),(14,i64 t.length),(15,i64 m),(24,ptsA (t.getD m r0).ps),(25,i64 (t.getD m r0).ps.length),(26,i64 k),(31,.agg (ptC ((t.getD m r0).ps.getD k p0))),(32,i64 j)],⟨[⟨1,1,F0,0,false,true,false⟩,⟨1,m,fun i=>[sv ((t.map rowS).getD i ByteArray.empty)],0,false,true,false⟩,⟨2,1,F2,0,false,true,false⟩,⟨1,k + 1,fun i=>[sv ((wsR (t.getD m r0)).getD i ByteArray.empty)],0,false,true,false⟩,⟨3,1,F4,0,false,true,false⟩,⟨1,j,fun i=>[sv ((nsP ((t.getD m r0).ps.getD k p0)).getD i ByteArray.empty)],0,false,true,false⟩],[],none,0⟩,[]⟩ ∧ mq = 3 - j,
      ⟨_,_,⟨0,_,_,_,by omega,rfl,rfl⟩,⟨⟨.inl rfl,rfl,rfl,rfl⟩,⟨⟨rfl,rfl,rfl,rfl,fun _=>rfl,fun _ _=>.inl rfl⟩,⟨⟨rfl,rfl,rfl,rfl,fun _=>rfl,fun _ _=>.inl rfl⟩,⟨⟨rfl,rfl,rfl,rfl,fun _=>rfl,fun _ _=>.inl rfl⟩,⟨⟨rfl,rfl,rfl,rfl,fun _=>rfl,fun _ _=>.inl rfl⟩,⟨⟨rfl,rfl,rfl,rfl,fun _=>rfl,fun _ _=>.inl rfl⟩,⟨⟨rfl,rfl,rfl,rfl,fun _=>rfl,fun i h=>.inl (absurd h (Nat.not_lt_zero i))⟩,trivial⟩⟩⟩⟩⟩⟩,trivial⟩⟩,?_⟩
     rintro s0 m0 ⟨j,F0,F2,F4,hj,rfl,hmeas⟩
     have hcase : j = 0 ∨ j = 1 ∨ j = 2 ∨ j = 3 := by omega
     rcases hcase with rfl | rfl | rfl | rfl
     ·have h20 := S20 ((t.getD m r0).ps.getD k p0).1 (hpk.1).1 (hpk.1).2
      conv=>whnf
      conv=>whnf
      conv=>whnf
      (conv=>whnf); refine ⟨⟨(by omega),(by omega)⟩,?_⟩
      conv=>whnf
      conv=>whnf
      conv=>whnf
      (conv=>whnf); refine .inl ⟨_,_,byX rfl (h20),?_⟩
      conv=>whnf
      conv=>whnf
      conv=>whnf
      (conv=>whnf); refine .inl ?_
      conv=>whnf
      conv=>whnf
      conv=>whnf
      (conv=>whnf); refine ⟨(by show _ * (16 + 1) ≤ _; omega),?_⟩
      conv=>whnf
      conv=>whnf
      conv=>whnf
      (conv=>whnf); refine ⟨inK64 (by omega) (by omega),?_⟩
      conv=>whnf
      conv=>whnf
      conv=>whnf
      (conv=>whnf); refine ⟨_,_,⟨⟨1,_,_,_,by omega,rfl,rfl⟩,by omega⟩,⟨⟨.inl rfl,rfl,rfl,rfl⟩,⟨⟨rfl,rfl,rfl,rfl,fun _=>rfl,fun _ _=>.inl rfl⟩,⟨⟨rfl,rfl,rfl,rfl,fun _=>rfl,fun _ _=>.inl rfl⟩,⟨⟨rfl,rfl,rfl,rfl,fun _=>rfl,fun _ _=>.inl rfl⟩,⟨⟨rfl,rfl,rfl,rfl,fun _=>rfl,fun _ _=>.inl rfl⟩,⟨⟨rfl,rfl,rfl,rfl,fun _=>rfl,fun _ _=>.inl rfl⟩,⟨⟨rfl,rfl,rfl,rfl,fun _=>rfl,fun i hi=>.inl ((app_str (F := nsP ((t.getD m r0).ps.getD k p0)) rfl hi).symm)⟩,trivial⟩⟩⟩⟩⟩⟩,trivial⟩⟩
     ·have h20 := S20 ((t.getD m r0).ps.getD k p0).2.1 (hpk.2.1).1 (hpk.2.1).2
      conv=>whnf
      conv=>whnf
      conv=>whnf
      (conv=>whnf); refine ⟨⟨(by omega),(by omega)⟩,?_⟩
      conv=>whnf
      conv=>whnf
      conv=>whnf
      (conv=>whnf); refine .inl ⟨_,_,byX rfl (h20),?_⟩
      conv=>whnf
      conv=>whnf
      conv=>whnf
      (conv=>whnf); refine .inl ?_
      conv=>whnf
      conv=>whnf
      conv=>whnf
      (conv=>whnf); refine ⟨(by show _ * (16 + 1) ≤ _; omega),?_⟩
      conv=>whnf
      conv=>whnf
      conv=>whnf
      (conv=>whnf); refine ⟨inK64 (by omega) (by omega),?_⟩
      conv=>whnf
      conv=>whnf
      conv=>whnf
      (conv=>whnf); refine ⟨_,_,⟨⟨2,_,_,_,by omega,rfl,rfl⟩,by omega⟩,⟨⟨.inl rfl,rfl,rfl,rfl⟩,⟨⟨rfl,rfl,rfl,rfl,fun _=>rfl,fun _ _=>.inl rfl⟩,⟨⟨rfl,rfl,rfl,rfl,fun _=>rfl,fun _ _=>.inl rfl⟩,⟨⟨rfl,rfl,rfl,rfl,fun _=>rfl,fun _ _=>.inl rfl⟩,⟨⟨rfl,rfl,rfl,rfl,fun _=>rfl,fun _ _=>.inl rfl⟩,⟨⟨rfl,rfl,rfl,rfl,fun _=>rfl,fun _ _=>.inl rfl⟩,⟨⟨rfl,rfl,rfl,rfl,fun _=>rfl,fun i hi=>.inl ((app_str (F := nsP ((t.getD m r0).ps.getD k p0)) rfl hi).symm)⟩,trivial⟩⟩⟩⟩⟩⟩,trivial⟩⟩
     ·have h20 := S20 ((t.getD m r0).ps.getD k p0).2.2 (hpk.2.2).1 (hpk.2.2).2
      conv=>whnf
      conv=>whnf
      conv=>whnf
      (conv=>whnf); refine ⟨⟨(by omega),(by omega)⟩,?_⟩
      conv=>whnf
      conv=>whnf
      conv=>whnf
      (conv=>whnf); refine .inl ⟨_,_,byX rfl (h20),?_⟩
      conv=>whnf
      conv=>whnf
      conv=>whnf
      (conv=>whnf); refine .inl ?_
      conv=>whnf
      conv=>whnf
      conv=>whnf
      (conv=>whnf); refine ⟨(by show _ * (16 + 1) ≤ _; omega),?_⟩
      conv=>whnf
      conv=>whnf
      conv=>whnf
      (conv=>whnf); refine ⟨inK64 (by omega) (by omega),?_⟩
      conv=>whnf
      conv=>whnf
      conv=>whnf
      (conv=>whnf); refine ⟨_,_,⟨⟨3,_,_,_,by omega,rfl,rfl⟩,by omega⟩,⟨⟨.inl rfl,rfl,rfl,rfl⟩,⟨⟨rfl,rfl,rfl,rfl,fun _=>rfl,fun _ _=>.inl rfl⟩,⟨⟨rfl,rfl,rfl,rfl,fun _=>rfl,fun _ _=>.inl rfl⟩,⟨⟨rfl,rfl,rfl,rfl,fun _=>rfl,fun _ _=>.inl rfl⟩,⟨⟨rfl,rfl,rfl,rfl,fun _=>rfl,fun _ _=>.inl rfl⟩,⟨⟨rfl,rfl,rfl,rfl,fun _=>rfl,fun _ _=>.inl rfl⟩,⟨⟨rfl,rfl,rfl,rfl,fun _=>rfl,fun i hi=>.inl ((app_str (F := nsP ((t.getD m r0).ps.getD k p0)) rfl hi).symm)⟩,trivial⟩⟩⟩⟩⟩⟩,trivial⟩⟩
     ·have h22 := S22l (nsP ((t.getD m r0).ps.getD k p0)) 44 3 rfl 21 (nsP_le hpk) (by show 3 ≤ 1000; omega) (by omega)
      have hps := ptS_le hpk
      have hone : (⟨#[58]⟩ : ByteArray).size = 1 := rfl
      conv=>whnf
      conv=>whnf
      conv=>whnf
      (conv=>whnf); refine .inl ⟨_,_,byX rfl (h22),?_⟩
      conv=>whnf
      conv=>whnf
      conv=>whnf
      (conv=>whnf); refine ⟨(by omega),?_⟩
      conv=>whnf
      conv=>whnf
      conv=>whnf
      (conv=>whnf); refine .inl ?_
      conv=>whnf
      conv=>whnf
      conv=>whnf
      (conv=>whnf); refine ⟨(by show _ * (16 + 1) ≤ _; omega),?_⟩
      conv=>whnf
      conv=>whnf
      conv=>whnf
      (conv=>whnf); refine ⟨inK64 (by omega) (by omega),?_⟩
      conv=>whnf
      conv=>whnf
      conv=>whnf
      (conv=>whnf); refine ⟨_,_,⟨⟨k + 1,_,_,by omega,rfl,rfl⟩,by omega⟩,⟨⟨.inl rfl,rfl,rfl,rfl⟩,⟨⟨rfl,rfl,rfl,rfl,fun _=>rfl,fun _ _=>.inl rfl⟩,⟨⟨rfl,rfl,rfl,rfl,fun _=>rfl,fun _ _=>.inl rfl⟩,⟨⟨rfl,rfl,rfl,rfl,fun _=>rfl,fun _ _=>.inl rfl⟩,⟨⟨rfl,rfl,rfl,rfl,fun _=>rfl,fun i hi=>.inl ((app_str (F := wsR (t.getD m r0)) (m := k + 1) (ws_s _ k hlk).symm hi).symm)⟩,trivial⟩⟩⟩⟩,trivial⟩⟩
    ·(exfalso; omega)
   ·have hke : k = (t.getD m r0).ps.length := by omega
    have h22 := S22l (wsR (t.getD m r0)) 32 (k + 1) (by rw [wsR,List.length_cons,List.length_map,hke]) 67 (wsR_le ho hp) (by rw [wsR,List.length_cons,List.length_map]; omega) (by omega)
    conv=>whnf
    conv=>whnf
    (conv=>whnf); refine ifB_dec (fun w2=>?_) (fun w2=>?_)
    ·(exfalso; omega)
    ·conv=>whnf
     conv=>whnf
     (conv=>whnf); refine .inl ⟨_,_,byX rfl (h22),?_⟩
     conv=>whnf
     conv=>whnf
     (conv=>whnf); refine .inl ?_
     conv=>whnf
     conv=>whnf
     (conv=>whnf); refine ⟨(by show _ * (16 + 1) ≤ _; omega),?_⟩
     conv=>whnf
     conv=>whnf
     (conv=>whnf); refine ⟨inK64 (by omega) (by omega),?_⟩
     conv=>whnf
     conv=>whnf
     (conv=>whnf); refine ⟨_,_,⟨⟨m + 1,_,by omega,rfl,rfl⟩,by omega⟩,⟨⟨.inl rfl,rfl,rfl,rfl⟩,⟨⟨rfl,rfl,rfl,rfl,fun _=>rfl,fun _ _=>.inl rfl⟩,⟨⟨rfl,rfl,rfl,rfl,fun _=>rfl,fun i hi=>.inl ((app_str (F := t.map rowS) (m := m) (getD_mapG rowS t m r0 ByteArray.empty hlt).symm hi).symm)⟩,trivial⟩⟩,trivial⟩⟩
  ·(exfalso; omega)
 ·have he : m = t.length := by omega
  have h22 := S22l (t.map rowS) 59 m (by rw [List.length_map]; exact he) 612 (fun x hx=>by
   obtain ⟨r,hr,rfl⟩ := List.mem_map.1 hx
   obtain ⟨i,hi⟩ := List.mem_iff_getElem?.1 hr
   have h1 := h.o i; have h2 := h.p i; have h3 := h.np i
   rw [List.getD_eq_getElem?_getD,hi] at h1 h2 h3
   exact rowS_le h1 h2 h3) (by rw [List.length_map]; omega) (by omega)
  conv=>whnf
  (conv=>whnf); refine ifB_dec (fun w1=>?_) (fun w1=>?_)
  ·(exfalso; omega)
  ·conv=>whnf
   (conv=>whnf); refine .inl ⟨_,_,byX rfl (h22),?_⟩
   conv=>whnf
   (conv=>whnf); refine ⟨?_,nofun⟩
   (first | omega | exact rfl)
end Go.Tr

/- Equal tables. Conditions: none. -/
-- seat YtnphjhgmoijbfaaGreatDoor
namespace Go.Tr
open Go Go.Proofs
set_option maxRecDepth 20000
set_option maxHeartbeats 8000000

theorem S33 (r : MRow) (h : r.ps.length ≤ 1000000) : SP 33 [.agg (rowC r),.agg (rowC r)] (vb true) false := by
 refine sound (d := 2) tok2 mixed2 Tryz.func33 (by kernel_rfl) (by kernel_rfl) ?_
 (conv=>whnf); refine ifB_bne (fun w1=>?_) (fun w1=>?_)
 ·(exfalso; omega)
 ·(conv=>whnf); refine ifB_bne (fun w2=>?_) (fun w2=>?_)
  ·(exfalso; omega)
  ·(conv=>whnf); refine ⟨[],[2,3,5],fun st mq=>∃ (k : Nat),(k ≤ r.ps.length) ∧ st = ⟨[(2,.optr 0 0 0 0),(3,.optr 1 0 0 0),(5,i64 k)],⟨[⟨2,1,fun _=>rowC r,0,false,true,true⟩,⟨2,1,fun _=>rowC r,0,false,true,true⟩],[],none,0⟩,[]⟩ ∧ mq = r.ps.length - k,
    ⟨_,_,⟨0,by omega,rfl,rfl⟩,⟨⟨.inl rfl,rfl,rfl,rfl⟩,⟨⟨rfl,rfl,rfl,rfl,fun _=>rfl,fun _ _=>.inl rfl⟩,⟨⟨rfl,rfl,rfl,rfl,fun _=>rfl,fun _ _=>.inl rfl⟩,trivial⟩⟩,trivial⟩⟩,?_⟩
   rintro s0 m0 ⟨k,hk,rfl,hmeas⟩
   by_cases hlt : k < r.ps.length
   ·have hv : vEqL [.int .i64 (r.ps.getD (k : Int).toNat p0).1,.int .i64 (r.ps.getD (k : Int).toNat p0).2.1,.int .i64 (r.ps.getD (k : Int).toNat p0).2.2] [.int .i64 (r.ps.getD (k : Int).toNat p0).1,.int .i64 (r.ps.getD (k : Int).toNat p0).2.1,.int .i64 (r.ps.getD (k : Int).toNat p0).2.2] = true := by simp [vEqL]
    conv=>whnf
    (conv=>whnf); refine ifB_dec (fun w3=>?_) (fun w3=>?_)
    ·conv=>whnf
     (conv=>whnf); refine ⟨[],by kernel_rfl,?_⟩
     conv=>whnf
     (conv=>whnf); refine ⟨⟨(by omega),(by omega)⟩,?_⟩
     conv=>whnf
     (conv=>whnf); refine ⟨⟨(by omega),(by omega)⟩,?_⟩
     conv=>whnf
     (conv=>whnf); refine ifB_not ?_
     conv=>whnf
     (conv=>whnf); refine ifB_intro (fun w4=>?_) (fun w4=>?_)
     ·conv=>whnf
      (conv=>whnf); refine ⟨inK64 (by omega) (by omega),?_⟩
      conv=>whnf
      (conv=>whnf); refine ⟨_,_,⟨⟨k + 1,by omega,rfl,rfl⟩,by omega⟩,⟨⟨.inl rfl,rfl,rfl,rfl⟩,⟨⟨rfl,rfl,rfl,rfl,fun _=>rfl,fun _ _=>.inl rfl⟩,⟨⟨rfl,rfl,rfl,rfl,fun _=>rfl,fun _ _=>.inl rfl⟩,trivial⟩⟩,trivial⟩⟩
     ·exact absurd (hv.symm.trans w4) nofun
    ·(exfalso; omega)
   ·conv=>whnf
    (conv=>whnf); refine ifB_dec (fun w3=>?_) (fun w3=>?_)
    ·(exfalso; omega)
    ·conv=>whnf
     (conv=>whnf); refine ⟨?_,nofun⟩
     (first | omega | contradiction | exact rfl)
theorem S11 (t : List MRow) (h : Fit t) : SP 11 [tblA t,tblA t] (vb true) false := by
 have h1 := h.1
 refine sound (d := 2) tok2 mixed2 Tryz.func11 (by kernel_rfl) (by kernel_rfl) ?_
 (conv=>whnf); refine ifB_bne (fun w1=>?_) (fun w1=>?_)
 ·(exfalso; omega)
 ·(conv=>whnf); refine ⟨[],[2,3,5],fun st mq=>∃ (k : Nat),(k ≤ t.length) ∧ st = ⟨[(2,.optr 0 0 0 0),(3,.optr 1 0 0 0),(5,i64 k)],⟨[⟨1,1,fun _=>[rowsA t],0,false,true,true⟩,⟨1,1,fun _=>[rowsA t],0,false,true,true⟩],[],none,0⟩,[]⟩ ∧ mq = t.length - k,
   ⟨_,_,⟨0,by omega,rfl,rfl⟩,⟨⟨.inl rfl,rfl,rfl,rfl⟩,⟨⟨rfl,rfl,rfl,rfl,fun _=>rfl,fun _ _=>.inl rfl⟩,⟨⟨rfl,rfl,rfl,rfl,fun _=>rfl,fun _ _=>.inl rfl⟩,trivial⟩⟩,trivial⟩⟩,?_⟩
  rintro s0 m0 ⟨k,hk,rfl,hmeas⟩
  by_cases hlt : k < t.length
  ·have h33 := S33 (t.getD k r0) (h.2 k)
   conv=>whnf
   (conv=>whnf); refine ifB_dec (fun w2=>?_) (fun w2=>?_)
   ·conv=>whnf
    (conv=>whnf); refine ⟨[],by kernel_rfl,?_⟩
    conv=>whnf
    (conv=>whnf); refine ⟨⟨(by omega),(by omega)⟩,?_⟩
    conv=>whnf
    (conv=>whnf); refine ⟨⟨(by omega),(by omega)⟩,?_⟩
    conv=>whnf
    (conv=>whnf); refine .inl ⟨_,_,byX rfl (Sound1.pl (h33) rfl),?_⟩
    conv=>whnf
    (conv=>whnf); refine ⟨inK64 (by omega) (by omega),?_⟩
    conv=>whnf
    (conv=>whnf); refine ⟨_,_,⟨⟨k + 1,by omega,rfl,rfl⟩,by omega⟩,⟨⟨.inl rfl,rfl,rfl,rfl⟩,⟨⟨rfl,rfl,rfl,rfl,fun _=>rfl,fun _ _=>.inl rfl⟩,⟨⟨rfl,rfl,rfl,rfl,fun _=>rfl,fun _ _=>.inl rfl⟩,trivial⟩⟩,trivial⟩⟩
   ·(exfalso; omega)
  ·conv=>whnf
   (conv=>whnf); refine ifB_dec (fun w2=>?_) (fun w2=>?_)
   ·(exfalso; omega)
   ·conv=>whnf
    (conv=>whnf); refine ⟨?_,nofun⟩
    (first | omega | contradiction | exact rfl)
end Go.Tr

/- The reference's FormatTable. Conditions: none. -/
-- seat YtnphjhgmoijbfaaGreatDoor
namespace Go.Tr
open Go Go.Proofs
set_option maxRecDepth 20000
set_option maxHeartbeats 8000000

theorem S32a (n : Int) (h : I64 n) : SP 32 [i64 n] (sv (itoaB n)) false := by
 by_cases hn : n = 0
 ·subst hn; exact S32z
 ·exact S32 n hn h
theorem jl (l : List ByteArray) (sep : ByteArray) : (joinB l sep).data.toList = Lib.join (l.map (·.data.toList)) sep.data.toList := by simp [joinB]
theorem join_snocL (l : List (List UInt8)) (x sep : List UInt8) (h : l ≠ []) : Lib.join (l ++ [x]) sep = Lib.join l sep ++ sep ++ x := by
 cases l with
 | nil=>exact absurd rfl h
 | cons y r=>rw [List.cons_append,Lib.join_cons,Lib.join_cons]; simp [Lib.joinTail]
def hdS (t : List MRow) (m : Nat) : ByteArray := if m = 0 then ⟨#[]⟩ else joinB ((t.map rowS).take m) (byteB 59) ++ ⟨#[59]⟩
def rkS (t : List MRow) (m k : Nat) : ByteArray := hdS t m ++ joinB ((wsR (t.getD m r0)).take (k + 1)) (byteB 32)
theorem take_s (t : List MRow) {m : Nat} (h : m < t.length) : (t.map rowS).take (m + 1) = (t.map rowS).take m ++ [rowS (t.getD m r0)] := by
  rw [List.take_add_one,List.getElem?_eq_getElem (by rw [List.length_map]; exact h),List.getElem_map,List.getD_eq_getElem?_getD,List.getElem?_eq_getElem h]; rfl
theorem row_end {t : List MRow} {m k : Nat} (h : m < t.length) (hk : k = (t.getD m r0).ps.length) : rkS t m k = joinB ((t.map rowS).take (m + 1)) (byteB 59) := by
 have e : (wsR (t.getD m r0)).take (k + 1) = wsR (t.getD m r0) := List.take_of_length_le (by rw [wsR,List.length_cons,List.length_map,hk]; exact Nat.le_refl _)
 rw [rkS,e,take_s t h]
 apply bs_ext
 rw [bs_app,jl,jl,List.map_append,List.map_cons,List.map_nil]
 unfold hdS
 by_cases h0 : m = 0
 ·rw [if_pos h0]
  subst h0
  show _ = Lib.join [(rowS (t.getD 0 r0)).data.toList] (byteB 59).data.toList
  rw [Lib.join_one,rowS,jl]; rfl
 ·rw [if_neg h0,join_snocL _ _ _ (by
   intro hn
   have := congrArg List.length hn
   rw [List.length_map,List.length_take,List.length_map,List.length_nil] at this
   omega),bs_app,jl,rowS,jl]; rfl
theorem row_beg (t : List MRow) (m : Nat) : rkS t m 0 = hdS t m ++ itoaB (t.getD m r0).o := by
 rw [rkS]
 congr 1
 apply bs_ext
 rw [jl]
 show Lib.join [_] _ = _
 rw [Lib.join_one]
theorem row_pt {t : List MRow} {m k : Nat} (hk : k < (t.getD m r0).ps.length) :
  rkS t m k ++ ⟨#[32,58]⟩ ++ itoaB ((t.getD m r0).ps.getD k p0).1 ++ ⟨#[44]⟩ ++ itoaB ((t.getD m r0).ps.getD k p0).2.1 ++ ⟨#[44]⟩ ++ itoaB ((t.getD m r0).ps.getD k p0).2.2 = rkS t m (k + 1) := by
 have e : (wsR (t.getD m r0)).take (k + 1 + 1) = (wsR (t.getD m r0)).take (k + 1) ++ [ptS ((t.getD m r0).ps.getD k p0)] := by
  have hl : k + 1 < (wsR (t.getD m r0)).length := by rw [wsR,List.length_cons,List.length_map]; omega
  have h2 : ptS ((t.getD m r0).ps.getD k p0) = (wsR (t.getD m r0))[k + 1] := by rw [← ws_s _ k hk,List.getD_eq_getElem?_getD,List.getElem?_eq_getElem hl]; rfl
  rw [List.take_add_one,List.getElem?_eq_getElem hl,h2]; rfl
 have hp : (ptS ((t.getD m r0).ps.getD k p0)).data.toList = 58 :: (Lib.itoa ((t.getD m r0).ps.getD k p0).1 ++ [44] ++ Lib.itoa ((t.getD m r0).ps.getD k p0).2.1 ++ [44] ++ Lib.itoa ((t.getD m r0).ps.getD k p0).2.2) := by
  rw [ptS,bs_app,jl]
  show 58 :: Lib.join [Lib.itoa _,Lib.itoa _,Lib.itoa _] [44] = _
  rw [Lib.join_cons]; simp [Lib.joinTail]
 apply bs_ext
 rw [rkS,rkS,e]
 simp only [bs_app,jl,itoaB_l]
 rw [List.map_append,List.map_cons,List.map_nil,join_snocL _ _ _ (by
  intro hn
  have := congrArg List.length hn
  rw [List.length_map,List.length_take,wsR,List.length_cons,List.length_nil] at this
  omega),hp]
 show _ = _ ++ (_ ++ [32] ++ _)
 simp
theorem take_le {l : List ByteArray} {sep : ByteArray} {B : Nat} (h : ∀ x ∈ l,x.size ≤ B) (k : Nat) : (joinB (l.take k) sep).size ≤ l.length * (B + sep.size) := by
  have h1 := join_le sep B (l.take k) fun x hx=>h x (List.mem_of_mem_take hx)
  exact Nat.le_trans h1 (Nat.mul_le_mul_right _ (by rw [List.length_take]; omega))
theorem hdS_le {t : List MRow} (h : TblI t) (m : Nat) : (hdS t m).size ≤ 5000 ∧ (joinB ((t.map rowS).take m) (byteB 59)).size ≤ 5000 := by
 have h1 := take_le (l := t.map rowS) (sep := byteB 59) (B := 612) (fun x hx=>by
  obtain ⟨r,hr,rfl⟩ := List.mem_map.1 hx
  obtain ⟨i,hi⟩ := List.mem_iff_getElem?.1 hr
  have h1 := h.o i; have h2 := h.p i; have h3 := h.np i
  rw [List.getD_eq_getElem?_getD,hi] at h1 h2 h3
  exact rowS_le h1 h2 h3) m
 rw [byteB_size,List.length_map] at h1
 have h8 := h.n
 have h2 : (joinB ((t.map rowS).take m) (byteB 59)).size ≤ 4904 := Nat.le_trans h1 (by omega)
 refine ⟨?_,by omega⟩
 unfold hdS
 split
 ·exact Nat.zero_le _
 ·rw [ByteArray.size_append]
  have : (⟨#[59]⟩ : ByteArray).size = 1 := rfl
  omega
theorem rkS_le {t : List MRow} (h : TblI t) (m k : Nat) : (rkS t m k).size ≤ 6000 := by
 have h1 := take_le (l := wsR (t.getD m r0)) (sep := byteB 32) (wsR_le (h.o m) (h.p m)) (k + 1)
 have h2 := (hdS_le h m).1
 have h3 := h.np m
 rw [byteB_size,wsR,List.length_cons,List.length_map] at h1
 rw [rkS,ByteArray.size_append]
 have h4 : (joinB ((wsR (t.getD m r0)).take (k + 1)) (byteB 32)).size ≤ ((t.getD m r0).ps.length + 1) * (67 + 1) := h1
 omega
set_option maxHeartbeats 1000000 in
theorem S10 (t : List MRow) (h : TblI t) : SP 10 [tblA t] (sv (tabS t)) false := by
 have hn := h.n
 refine sound (d := 2) tok2 mixed2 Tryz.func10 (by kernel_rfl) (by kernel_rfl) ?_
 (conv=>whnf); refine ⟨[],[1,3,4],fun st mq=>∃ (m : Nat) (S : ByteArray),(m ≤ t.length) ∧ (S = joinB ((t.map rowS).take m) (byteB 59)) ∧ st = ⟨[(1,.optr 0 0 0 0),(3,sv S),(4,i64 m)],⟨[⟨1,1,fun _=>[rowsA t],0,false,true,true⟩],[],none,0⟩,[]⟩ ∧ mq = t.length - m,
  ⟨_,_,⟨0,⟨#[]⟩,by omega,rfl,rfl,rfl⟩,⟨⟨.inl rfl,rfl,rfl,rfl⟩,⟨⟨rfl,rfl,rfl,rfl,fun _=>rfl,fun _ _=>.inl rfl⟩,trivial⟩,trivial⟩⟩,?_⟩
 rintro s0 m0 ⟨m,S,hm,hS,rfl,hmeas⟩
 have hsz := (hdS_le h m).2
 rw [← hS] at hsz
 by_cases hlt : m < t.length
 ·have h32 := S32a (t.getD m r0).o (h.o m)
  have h8 := h.np m
  have hq := itoaB_le (h.o m)
  have hone : (⟨#[59]⟩ : ByteArray).size = 1 := rfl
  have hone2 : (⟨#[44]⟩ : ByteArray).size = 1 := rfl
  have hone3 : (⟨#[32,58]⟩ : ByteArray).size = 2 := rfl
  have z1 : (S ++ ⟨#[59]⟩).size = S.size + 1 := by rw [ByteArray.size_append]; rfl
  by_cases h0 : m = 0
  ·have hbeg : S ++ itoaB (t.getD m r0).o = rkS t m 0 := by rw [row_beg,hdS,if_pos h0,hS,h0]; rfl
   conv=>whnf
   (conv=>whnf); refine ifB_dec (fun w1=>?_) (fun w1=>?_)
   ·conv=>whnf
    (conv=>whnf); refine ifB_dec (fun w2=>?_) (fun w2=>?_)
    ·(exfalso; omega)
    ·conv=>whnf
     (conv=>whnf); refine ⟨⟨(by omega),(by omega)⟩,?_⟩
     conv=>whnf
     (conv=>whnf); refine .inl ⟨_,_,byX rfl (Sound1.pl (h32) rfl),?_⟩
     conv=>whnf
     (conv=>whnf); refine ⟨(by omega),?_⟩
     conv=>whnf
     (conv=>whnf); refine ⟨[],[1,3,4,5],fun st mq=>∃ (k : Nat) (U : ByteArray),(k ≤ (t.getD m r0).ps.length) ∧ (U = rkS t m k) ∧ st = ⟨[(1,.optr 0 0 0 0),(3,sv U),(4,i64 m),(5,i64 k)],⟨[⟨1,1,fun _=>[rowsA t],0,false,true,true⟩],[],none,0⟩,[]⟩ ∧ mq = (t.getD m r0).ps.length - k,
      ⟨_,_,⟨0,S ++ itoaB (t.getD m r0).o,by omega,hbeg,rfl,rfl⟩,⟨⟨.inl rfl,rfl,rfl,rfl⟩,⟨⟨rfl,rfl,rfl,rfl,fun _=>rfl,fun _ _=>.inl rfl⟩,trivial⟩,trivial⟩⟩,?_⟩
     rintro s0 m0 ⟨k,U,hk,hU,rfl,hmeas⟩
     have hus := rkS_le h m k
     rw [← hU] at hus
     by_cases hlk : k < (t.getD (m : Int).toNat r0).ps.length
     ·have hp := h.p m k
      have c1 := S32a ((t.getD m r0).ps.getD k p0).1 hp.1
      have c2 := S32a ((t.getD m r0).ps.getD k p0).2.1 hp.2.1
      have c3 := S32a ((t.getD m r0).ps.getD k p0).2.2 hp.2.2
      have q1 := itoaB_le hp.1
      have q2 := itoaB_le hp.2.1
      have q3 := itoaB_le hp.2.2
      have y1 : (U ++ ⟨#[32,58]⟩).size = U.size + 2 := by rw [ByteArray.size_append]; rfl
      have y2 : (U ++ ⟨#[32,58]⟩ ++ itoaB ((t.getD m r0).ps.getD k p0).1).size ≤ U.size + 23 := by rw [ByteArray.size_append,y1]; omega
      have y3 : (U ++ ⟨#[32,58]⟩ ++ itoaB ((t.getD m r0).ps.getD k p0).1 ++ ⟨#[44]⟩).size ≤ U.size + 24 := by rw [ByteArray.size_append]; omega
      have y4 : (U ++ ⟨#[32,58]⟩ ++ itoaB ((t.getD m r0).ps.getD k p0).1 ++ ⟨#[44]⟩ ++ itoaB ((t.getD m r0).ps.getD k p0).2.1).size ≤ U.size + 45 := by rw [ByteArray.size_append]; omega
      have y5 : (U ++ ⟨#[32,58]⟩ ++ itoaB ((t.getD m r0).ps.getD k p0).1 ++ ⟨#[44]⟩ ++ itoaB ((t.getD m r0).ps.getD k p0).2.1 ++ ⟨#[44]⟩).size ≤ U.size + 46 := by rw [ByteArray.size_append]; omega
      have hlk2 : k < (t.getD m r0).ps.length := hlk
      have hpt := row_pt (t := t) (m := m) (k := k) hlk
      rw [← hU] at hpt
      conv=>whnf
      conv=>whnf
      (conv=>whnf); refine ⟨⟨(by omega),(by omega)⟩,?_⟩
      conv=>whnf
      conv=>whnf
      (conv=>whnf); refine ifB_dec (fun w3=>?_) (fun w3=>?_)
      ·conv=>whnf
       conv=>whnf
       (conv=>whnf); refine ⟨⟨(by omega),(by omega)⟩,?_⟩
       conv=>whnf
       conv=>whnf
       (conv=>whnf); refine ⟨⟨(by omega),(by omega)⟩,?_⟩
       conv=>whnf
       conv=>whnf
       (conv=>whnf); refine ⟨[],by kernel_rfl,?_⟩
       conv=>whnf
       conv=>whnf
       (conv=>whnf); refine ⟨(by omega),?_⟩
       conv=>whnf
       conv=>whnf
       (conv=>whnf); refine .inl ⟨_,_,byX rfl (Sound1.pl (c1) rfl),?_⟩
       conv=>whnf
       conv=>whnf
       (conv=>whnf); refine ⟨(by omega),?_⟩
       conv=>whnf
       conv=>whnf
       (conv=>whnf); refine ⟨(by omega),?_⟩
       conv=>whnf
       conv=>whnf
       (conv=>whnf); refine .inl ⟨_,_,byX rfl (Sound1.pl (c2) rfl),?_⟩
       conv=>whnf
       conv=>whnf
       (conv=>whnf); refine ⟨(by omega),?_⟩
       conv=>whnf
       conv=>whnf
       (conv=>whnf); refine ⟨(by omega),?_⟩
       conv=>whnf
       conv=>whnf
       (conv=>whnf); refine .inl ⟨_,_,byX rfl (Sound1.pl (c3) rfl),?_⟩
       conv=>whnf
       conv=>whnf
       (conv=>whnf); refine ⟨(by omega),?_⟩
       conv=>whnf
       conv=>whnf
       (conv=>whnf); refine ⟨inK64 (by omega) (by omega),?_⟩
       conv=>whnf
       conv=>whnf
       (conv=>whnf); refine ⟨_,_,⟨⟨k + 1,_,by omega,(by exact hpt),rfl,rfl⟩,by omega⟩,⟨⟨.inl rfl,rfl,rfl,rfl⟩,⟨⟨rfl,rfl,rfl,rfl,fun _=>rfl,fun _ _=>.inl rfl⟩,trivial⟩,trivial⟩⟩
      ·(exfalso; omega)
     ·have hke : k = (t.getD m r0).ps.length := Nat.le_antisymm hk (Nat.le_of_not_lt hlk)
      conv=>whnf
      conv=>whnf
      (conv=>whnf); refine ⟨⟨(by omega),(by omega)⟩,?_⟩
      conv=>whnf
      conv=>whnf
      (conv=>whnf); refine ifB_dec (fun w3=>?_) (fun w3=>?_)
      ·(exfalso; omega)
      ·conv=>whnf
       conv=>whnf
       (conv=>whnf); refine ⟨inK64 (by omega) (by omega),?_⟩
       conv=>whnf
       conv=>whnf
       (conv=>whnf); refine ⟨_,_,⟨⟨m + 1,U,by omega,(by rw [hU]; exact row_end hlt hke),rfl,rfl⟩,by omega⟩,⟨⟨.inl rfl,rfl,rfl,rfl⟩,⟨⟨rfl,rfl,rfl,rfl,fun _=>rfl,fun _ _=>.inl rfl⟩,trivial⟩,trivial⟩⟩
   ·(exfalso; omega)
  ·have hbeg : S ++ ⟨#[59]⟩ ++ itoaB (t.getD m r0).o = rkS t m 0 := by rw [row_beg,hdS,if_neg h0,hS]
   conv=>whnf
   (conv=>whnf); refine ifB_dec (fun w1=>?_) (fun w1=>?_)
   ·conv=>whnf
    (conv=>whnf); refine ifB_dec (fun w2=>?_) (fun w2=>?_)
    ·conv=>whnf
     (conv=>whnf); refine ⟨(by omega),?_⟩
     conv=>whnf
     (conv=>whnf); refine ⟨⟨(by omega),(by omega)⟩,?_⟩
     conv=>whnf
     (conv=>whnf); refine .inl ⟨_,_,byX rfl (Sound1.pl (h32) rfl),?_⟩
     conv=>whnf
     (conv=>whnf); refine ⟨(by omega),?_⟩
     conv=>whnf
     (conv=>whnf); refine ⟨[],[1,3,4,5],fun st mq=>∃ (k : Nat) (U : ByteArray),(k ≤ (t.getD m r0).ps.length) ∧ (U = rkS t m k) ∧ st = ⟨[(1,.optr 0 0 0 0),(3,sv U),(4,i64 m),(5,i64 k)],⟨[⟨1,1,fun _=>[rowsA t],0,false,true,true⟩],[],none,0⟩,[]⟩ ∧ mq = (t.getD m r0).ps.length - k,
      ⟨_,_,⟨0,S ++ ⟨#[59]⟩ ++ itoaB (t.getD m r0).o,by omega,hbeg,rfl,rfl⟩,⟨⟨.inl rfl,rfl,rfl,rfl⟩,⟨⟨rfl,rfl,rfl,rfl,fun _=>rfl,fun _ _=>.inl rfl⟩,trivial⟩,trivial⟩⟩,?_⟩
     rintro s0 m0 ⟨k,U,hk,hU,rfl,hmeas⟩
     have hus := rkS_le h m k
     rw [← hU] at hus
     by_cases hlk : k < (t.getD (m : Int).toNat r0).ps.length
     ·have hp := h.p m k
      have c1 := S32a ((t.getD m r0).ps.getD k p0).1 hp.1
      have c2 := S32a ((t.getD m r0).ps.getD k p0).2.1 hp.2.1
      have c3 := S32a ((t.getD m r0).ps.getD k p0).2.2 hp.2.2
      have q1 := itoaB_le hp.1
      have q2 := itoaB_le hp.2.1
      have q3 := itoaB_le hp.2.2
      have y1 : (U ++ ⟨#[32,58]⟩).size = U.size + 2 := by rw [ByteArray.size_append]; rfl
      have y2 : (U ++ ⟨#[32,58]⟩ ++ itoaB ((t.getD m r0).ps.getD k p0).1).size ≤ U.size + 23 := by rw [ByteArray.size_append,y1]; omega
      have y3 : (U ++ ⟨#[32,58]⟩ ++ itoaB ((t.getD m r0).ps.getD k p0).1 ++ ⟨#[44]⟩).size ≤ U.size + 24 := by rw [ByteArray.size_append]; omega
      have y4 : (U ++ ⟨#[32,58]⟩ ++ itoaB ((t.getD m r0).ps.getD k p0).1 ++ ⟨#[44]⟩ ++ itoaB ((t.getD m r0).ps.getD k p0).2.1).size ≤ U.size + 45 := by rw [ByteArray.size_append]; omega
      have y5 : (U ++ ⟨#[32,58]⟩ ++ itoaB ((t.getD m r0).ps.getD k p0).1 ++ ⟨#[44]⟩ ++ itoaB ((t.getD m r0).ps.getD k p0).2.1 ++ ⟨#[44]⟩).size ≤ U.size + 46 := by rw [ByteArray.size_append]; omega
      have hlk2 : k < (t.getD m r0).ps.length := hlk
      have hpt := row_pt (t := t) (m := m) (k := k) hlk
      rw [← hU] at hpt
      conv=>whnf
      conv=>whnf
      (conv=>whnf); refine ⟨⟨(by omega),(by omega)⟩,?_⟩
      conv=>whnf
      conv=>whnf
      (conv=>whnf); refine ifB_dec (fun w3=>?_) (fun w3=>?_)
      ·conv=>whnf
       conv=>whnf
       (conv=>whnf); refine ⟨⟨(by omega),(by omega)⟩,?_⟩
       conv=>whnf
       conv=>whnf
       (conv=>whnf); refine ⟨⟨(by omega),(by omega)⟩,?_⟩
       conv=>whnf
       conv=>whnf
       (conv=>whnf); refine ⟨[],by kernel_rfl,?_⟩
       conv=>whnf
       conv=>whnf
       (conv=>whnf); refine ⟨(by omega),?_⟩
       conv=>whnf
       conv=>whnf
       (conv=>whnf); refine .inl ⟨_,_,byX rfl (Sound1.pl (c1) rfl),?_⟩
       conv=>whnf
       conv=>whnf
       (conv=>whnf); refine ⟨(by omega),?_⟩
       conv=>whnf
       conv=>whnf
       (conv=>whnf); refine ⟨(by omega),?_⟩
       conv=>whnf
       conv=>whnf
       (conv=>whnf); refine .inl ⟨_,_,byX rfl (Sound1.pl (c2) rfl),?_⟩
       conv=>whnf
       conv=>whnf
       (conv=>whnf); refine ⟨(by omega),?_⟩
       conv=>whnf
       conv=>whnf
       (conv=>whnf); refine ⟨(by omega),?_⟩
       conv=>whnf
       conv=>whnf
       (conv=>whnf); refine .inl ⟨_,_,byX rfl (Sound1.pl (c3) rfl),?_⟩
       conv=>whnf
       conv=>whnf
       (conv=>whnf); refine ⟨(by omega),?_⟩
       conv=>whnf
       conv=>whnf
       (conv=>whnf); refine ⟨inK64 (by omega) (by omega),?_⟩
       conv=>whnf
       conv=>whnf
       (conv=>whnf); refine ⟨_,_,⟨⟨k + 1,_,by omega,(by exact hpt),rfl,rfl⟩,by omega⟩,⟨⟨.inl rfl,rfl,rfl,rfl⟩,⟨⟨rfl,rfl,rfl,rfl,fun _=>rfl,fun _ _=>.inl rfl⟩,trivial⟩,trivial⟩⟩
      ·(exfalso; omega)
     ·have hke : k = (t.getD m r0).ps.length := Nat.le_antisymm hk (Nat.le_of_not_lt hlk)
      conv=>whnf
      conv=>whnf
      (conv=>whnf); refine ⟨⟨(by omega),(by omega)⟩,?_⟩
      conv=>whnf
      conv=>whnf
      (conv=>whnf); refine ifB_dec (fun w3=>?_) (fun w3=>?_)
      ·(exfalso; omega)
      ·conv=>whnf
       conv=>whnf
       (conv=>whnf); refine ⟨inK64 (by omega) (by omega),?_⟩
       conv=>whnf
       conv=>whnf
       (conv=>whnf); refine ⟨_,_,⟨⟨m + 1,U,by omega,(by rw [hU]; exact row_end hlt hke),rfl,rfl⟩,by omega⟩,⟨⟨.inl rfl,rfl,rfl,rfl⟩,⟨⟨rfl,rfl,rfl,rfl,fun _=>rfl,fun _ _=>.inl rfl⟩,trivial⟩,trivial⟩⟩
    ·(exfalso; omega)
   ·(exfalso; omega)
 ·have he : m = t.length := by omega
  have hf : S = tabS t := by rw [hS,tabS,List.take_of_length_le (by rw [List.length_map]; omega)]
  subst hf
  conv=>whnf
  (conv=>whnf); refine ifB_dec (fun w1=>?_) (fun w1=>?_)
  ·(exfalso; omega)
  ·conv=>whnf
   (conv=>whnf); refine ⟨?_,nofun⟩
   (first | omega | exact rfl)
end Go.Tr

/- A valid table is read as it was written. Conditions: none. -/
-- seat YtnphjhgmoijbfaaGreatDoor
namespace Go.Tr
open Go Go.Proofs
set_option maxRecDepth 20000
set_option maxHeartbeats 8000000

theorem sepJ (l : List ByteArray) (c : UInt8) (h0 : l ≠ []) (hf : ∀ x ∈ l,∀ b ∈ x.data.toList,b ≠ c) : sepL (joinB l (byteB c)) (byteB c) = l := by
 have e := sep_cut (joinB l (byteB c)) c
 rw [jl,show (byteB c).data.toList = [c] from rfl,cut_join c _ (by simpa using h0) (fun p hp=>by
  obtain ⟨x,hx,rfl⟩ := List.mem_map.1 hp
  exact hf x hx)] at e
 exact (List.map_inj_right fun a b h=>bs_ext h).1 e
theorem itoa_ne {c : UInt8} (h1 : c ≠ 45) (h2 : isDig c = false) (n : Int) : ∀ b ∈ (itoaB n).data.toList,b ≠ c := fun b hb e=>by
 rw [itoaB_l,Lib.itoa] at hb
 subst e
 have hd : ∀ u,¬ b ∈ Lib.decDigits u := fun u hb=>by rw [(dec_dig u).1 b hb] at h2; cases h2
 split at hb
 ·rcases List.mem_cons.1 hb with e | hb
  ·exact h1 e
  ·exact hd _ hb
 ·exact hd _ hb
theorem mem_join {sep : List UInt8} : ∀ {l : List (List UInt8)} {b : UInt8},b ∈ Lib.join l sep → b ∈ sep ∨ ∃ x ∈ l,b ∈ x
 | [],b,h=>by simp [Lib.join_nil] at h
 | [x],b,h=>by rw [Lib.join_one] at h; exact .inr ⟨x,.head _,h⟩
 | x :: y :: r, b, h => by
  have e : Lib.join (x :: y :: r) sep = x ++ sep ++ Lib.join (y :: r) sep := by rw [Lib.join_cons,Lib.join_cons]; simp [Lib.joinTail]
  rw [e] at h
  rcases List.mem_append.1 h with h | h
  ·rcases List.mem_append.1 h with h | h
   ·exact .inr ⟨x,.head _,h⟩
   ·exact .inl h
  ·rcases mem_join h with h | ⟨z,hz,h⟩
   ·exact .inl h
   ·exact .inr ⟨z,.tail _ hz,h⟩
theorem join_ne {c d : UInt8} (hcd : d ≠ c) {l : List ByteArray} (h : ∀ x ∈ l,∀ b ∈ x.data.toList,b ≠ c) : ∀ b ∈ (joinB l (byteB d)).data.toList,b ≠ c := fun b hb=>by
 rw [jl] at hb
 rcases mem_join hb with hb | ⟨x,hx,hb⟩
 ·have : b = d := List.mem_singleton.1 hb
  rw [this]; exact hcd
 ·obtain ⟨y,hy,rfl⟩ := List.mem_map.1 hx
  exact h y hy b hb
theorem nsP_ne {c : UInt8} (h1 : c ≠ 45) (h2 : isDig c = false) (p : P3) : ∀ x ∈ nsP p,∀ b ∈ x.data.toList,b ≠ c := fun x hx=>by
  simp only [List.mem_cons,List.not_mem_nil,or_false] at hx
  rcases hx with rfl | rfl | rfl <;> exact itoa_ne h1 h2 _
theorem ptS_ne {c : UInt8} (h1 : c ≠ 45) (h2 : isDig c = false) (h3 : (58 : UInt8) ≠ c) (h4 : (44 : UInt8) ≠ c) (p : P3) : ∀ b ∈ (ptS p).data.toList,b ≠ c := fun b hb=>by
 rw [ptS,bs_app] at hb
 rcases List.mem_append.1 hb with hb | hb
 ·have : b = 58 := List.mem_singleton.1 hb
  rw [this]; exact h3
 ·exact join_ne h4 (nsP_ne h1 h2 p) b hb
theorem wsR_ne {c : UInt8} (h1 : c ≠ 45) (h2 : isDig c = false) (h3 : (58 : UInt8) ≠ c) (h4 : (44 : UInt8) ≠ c) (r : MRow) : ∀ x ∈ wsR r,∀ b ∈ x.data.toList,b ≠ c := fun x hx=>by
 rcases List.mem_cons.1 hx with e | hx
 ·rw [e]; exact itoa_ne h1 h2 _
 ·obtain ⟨p,_,rfl⟩ := List.mem_map.1 hx
  exact ptS_ne h1 h2 h3 h4 p
theorem map_self {α : Type} {f : α → α} {l : List α} (h : ∀ x ∈ l,f x = x) : l.map f = l := by
  rw [List.map_congr_left (g := id) h,List.map_id]
theorem prt_tab {t : List MRow} (h0 : t ≠ []) : prtT (tabS t) = t.map rowS :=
 sepJ (t.map rowS) 59 (by simpa using h0) fun x hx=>by
  obtain ⟨r,_,rfl⟩ := List.mem_map.1 hx
  exact join_ne (by decide) (wsR_ne (by decide) (by decide) (by decide) (by decide) r)
theorem wds_row (r : MRow) : wdsR (rowS r) = wsR r := sepJ (wsR r) 32 (by simp [wsR]) (wsR_ne (by decide) (by decide) (by decide) (by decide) r)
theorem ptS_l (p : P3) : (ptS p).data.toList = 58 :: (joinB (nsP p) (byteB 44)).data.toList := by rw [ptS,bs_app]; rfl
theorem col_pt (p : P3) : colB (ptS p) = true := by
  unfold colB
  rw [ptS_l]; rfl
theorem tail_pt (p : P3) : tailB (ptS p) = joinB (nsP p) (byteB 44) := by
 rw [tailB,col_pt,if_pos rfl]
 apply bs_ext
 rw [bs_ex,List.take_of_length_le (by rw [List.length_drop,bs_len]; omega),ptS_l]; rfl
theorem wds_pt (p : P3) : wdsP (ptS p) = nsP p := by
  rw [wdsP,tail_pt]
  exact sepJ (nsP p) 44 (by simp) (nsP_ne (by decide) (by decide) p)
theorem nD_le : ∀ (k u : Nat),u < 10 ^ (k + 1) → Lib.nDigits u ≤ k + 1
 | 0,u,h=>by rw [Lib.nDigits_small (by omega)]; omega
 | k + 1, u, h => by
  by_cases h10 : u < 10
  ·rw [Lib.nDigits_small h10]; omega
  ·rw [Lib.nDigits_big h10]
   have := nD_le k (u / 10) (by rw [Nat.pow_succ] at h; omega)
   omega
theorem num_itoa {n : Int} (h : -99999 ≤ n ∧ n ≤ 99999) : numO (itoaB n) true = true ∧ atoiV (itoaB n) = n := by
 obtain ⟨h1,h2⟩ := num_ref (itoaB n)
 obtain ⟨r1,r2⟩ := refOk_itoa n 5
 have hr : refOk (itoaB n).data.toList 5 = true := by
  rw [itoaB_l,r1,Lib.decDigits_length]
  exact Nat.ble_eq_true_of_le (nD_le 4 _ (by omega))
 refine ⟨by rw [h1,hr],?_⟩
 rw [h2 hr,itoaB_l,r2]
theorem num_itoa0 {n : Int} (h : 0 ≤ n ∧ n ≤ 99999) : numO (itoaB n) false = true := by
 obtain ⟨h1,h2⟩ := num_ref (itoaB n)
 rw [num_ref0,← h1,(num_itoa (by omega)).1,itoaB_l]
 have := (magL_itoa n).2
 have hne : ¬ (Lib.itoa n).head? = some 45 := fun e=>by have := this.1 e; omega
 simpa using hne
theorem prs_pt {p : P3} (h : PtOk p) : prsO (ptS p) = true ∧ prsP (ptS p) = p := by
 obtain ⟨h1,h2,h3⟩ := h
 have n1 := num_itoa (n := p.1) (by omega)
 have n2 := num_itoa (n := p.2.1) (by omega)
 have n3 := num_itoa (n := p.2.2) (by omega)
 have ho : prsO (ptS p) = true := by
  unfold prsO numsO
  rw [col_pt,wds_pt]
  simp [n1.1,n2.1,n3.1]
 refine ⟨ho,?_⟩
 rw [prsP,ho,if_pos rfl]
 unfold wv
 rw [wds_pt]
 show (atoiV (itoaB p.1),atoiV (itoaB p.2.1),atoiV (itoaB p.2.2)) = p
 rw [n1.2,n2.2,n3.2]
theorem row_back {r : MRow} (ho : 0 ≤ r.o ∧ r.o ≤ 100) (hp : ∀ p ∈ r.ps,PtOk p) : rwOk (rowS r) = true ∧ rwM (rowS r) = r := by
 have n0 := num_itoa0 (n := r.o) (by omega)
 have n1 := num_itoa (n := r.o) (by omega)
 constructor
 ·unfold rwOk wdR
  rw [wds_row]
  show (numO (itoaB r.o) false && (r.ps.map ptS).all prsO) = true
  rw [n0,Bool.true_and,List.all_eq_true]
  intro x hx
  obtain ⟨p,hpm,rfl⟩ := List.mem_map.1 hx
  exact (prs_pt (hp p hpm)).1
 ·unfold rwM wdR
  rw [wds_row]
  show MRow.mk (atoiV (itoaB r.o)) ((r.ps.map ptS).map prsP) = r
  rw [n1.2,List.map_map,map_self (f := prsP ∘ ptS) fun p hpm=>by rw [Function.comp_apply]; exact (prs_pt (hp p hpm)).2]
theorem tab_back {t : List MRow} (h : TblI t) (hc : (chkM t).2 = 0) : prsE (tabS t) = 0 ∧ prsT (tabS t) = t := by
 have hT := TblOk.of hc
 have h0 : t ≠ [] := fun e=>by have := hT.n; rw [e] at this; simp at this
 have hsz := tabS_le h
 have hrow : ∀ r ∈ t,rwOk (rowS r) = true ∧ rwM (rowS r) = r := fun r hr=>by
  obtain ⟨i,hi⟩ := List.mem_iff_getElem?.1 hr
  have hlt := (List.getElem?_eq_some_iff.1 hi).1
  have e : t.getD i r0 = r := by rw [List.getD_eq_getElem?_getD,hi]; rfl
  have ho := hT.op i hlt
  rw [e] at ho
  refine row_back ho fun p hp=>?_
  obtain ⟨k,hk⟩ := List.mem_iff_getElem?.1 hp
  have hklt := (List.getElem?_eq_some_iff.1 hk).1
  have hl := hT.len i hlt
  rw [e] at hl
  have := hT.pts i k hlt (by omega)
  unfold ptT at this
  rw [e,List.getD_eq_getElem?_getD,hk] at this
  exact this
 have hm : (prtT (tabS t)).map rwM = t := by
  rw [prt_tab h0,List.map_map,map_self (f := rwM ∘ rowS) fun r hr=>by rw [Function.comp_apply]; exact (hrow r hr).2]
 have ha : (prtT (tabS t)).all rwOk = true := by
  rw [prt_tab h0,List.all_eq_true]
  intro x hx
  obtain ⟨r,hr,rfl⟩ := List.mem_map.1 hx
  exact (hrow r hr).1
 have he : prsE (tabS t) = 0 := by
  rw [prsE,if_neg (by omega),ha,if_pos rfl,hm,hc]
 exact ⟨he,by rw [prsT,he,if_pos rfl,hm]⟩
end Go.Tr

/- MachineStrings: the law. Conditions: none. -/
-- seat YtnphjhgmoijbfaaGreatDoor
namespace Go.Tr
open Go Go.Proofs
set_option maxRecDepth 20000
set_option maxHeartbeats 8000000

theorem few_ok {t : List MRow} (h : fewT t = true) : t.length ≤ 8 ∧ ∀ i,(t.getD i r0).ps.length ≤ 8 := by
 unfold fewT at h
 rw [Bool.and_eq_true,List.all_eq_true] at h
 refine ⟨of_decide_eq_true h.1,fun i=>?_⟩
 rw [List.getD_eq_getElem?_getD]
 cases hi : t[i]? with
 | none=>exact Nat.zero_le _
 | some r=>exact of_decide_eq_true (h.2 r (List.mem_of_getElem? hi))
theorem I64_0 : I64 0 := ⟨by decide,by decide⟩
structure TblN (t : List MRow) : Prop where
  o : ∀ r ∈ t,I64 r.o
  p : ∀ r ∈ t,∀ p ∈ r.ps,PtI p
theorem getD_all {α : Type} {l : List α} {d : α} {p : α → Prop} (h : ∀ x ∈ l,p x) (h0 : p d) (i : Nat) : p (l.getD i d) := by
 rw [List.getD_eq_getElem?_getD]
 cases hi : l[i]? with
 | none=>exact h0
 | some r=>exact h r (List.mem_of_getElem? hi)
theorem TblN.tbl {t : List MRow} (h : TblN t) (hf : fewT t = true) : TblI t := by
 obtain ⟨h1,h2⟩ := few_ok hf
 refine ⟨h1,h2,fun i=>getD_all (p := fun r : MRow=>I64 r.o) h.o I64_0 i,fun i k=>?_⟩
 exact getD_all (d := r0) (p := fun r : MRow=>PtI (r.ps.getD k p0)) (fun r hr=>getD_all (p := PtI) (h.p r hr) ⟨I64_0,I64_0,I64_0⟩ k) ⟨I64_0,I64_0,I64_0⟩ i
theorem fit_T {s : ByteArray} (hs : s.size ≤ 900000) : Fit (prsT s) := by
 unfold prsT
 split
 ·exact fit_prs hs
 ·exact ⟨Nat.zero_le _,fun i=>Nat.zero_le _⟩
theorem S3 (t : List MRow) (s : ByteArray) (hl : t.length ≤ 9223372036854775807) (ht : TblN t) (hs : s.size ≤ 9223372036854775807) : SP 3 [tblA t, sv s] (vb true) false := by
 have h4 := S4
 have h5 := S5 t hl
 by_cases hf : fewT t = true
 ·rw [hf] at h5
  have hI := ht.tbl hf
  have hF : Fit t := ⟨by have := hI.n; omega,fun i=>by have := hI.np i; omega⟩
  have h7 := S7 t hF
  have h6 := S6 t hI
  have h10 := S10 t hI
  have h12 := S12 t hF
  have hz := tabS_le hI
  by_cases h8 : s.size ≤ 800
  ·have c8 := S8 s (by omega)
   have c9 := S9 s (by omega)
   have c11 := S11 (prsT s) (fit_T (by omega))
   have d8 := S8 (tabS t) (by omega)
   have htt : ((tabS t).toList == (tabS t).toList) = true := by simp
   by_cases hc : (chkM t).2 = 0
   ·obtain ⟨b1,b2⟩ := tab_back hI hc
    have d11 := S11 t hF
    rw [b1,b2] at d8
    refine sound (d := 2) tok2 mixed2 Tryz.func3 (by kernel_rfl) (by kernel_rfl) ?_
    (conv=>whnf); refine .inl ⟨_,_,byX rfl (Sound1.pl (h4) rfl),?_⟩
    (conv=>whnf); refine .inl ⟨_,_,byX rfl (Sound1.pl (h5) rfl),?_⟩
    (conv=>whnf); refine ifB_dec (fun w1=>?_) (fun w1=>?_)
    ·(exfalso; omega)
    ·(conv=>whnf); refine .inl ⟨_,_,byX rfl (h7),?_⟩
     (conv=>whnf); refine .inl ⟨_,_,byX rfl (Sound1.pl (h6) rfl),?_⟩
     (conv=>whnf); refine .inl ⟨_,_,byX rfl (c8),?_⟩
     (conv=>whnf); refine .inl ⟨_,_,byX rfl (c9),?_⟩
     (conv=>whnf); refine .inl ⟨_,_,byX rfl (Sound1.pl (h10) rfl),?_⟩
     (conv=>whnf); refine ifB_not ?_
     (conv=>whnf); refine ifB_intro (fun w2=>?_) (fun w2=>?_)
     ·(conv=>whnf); refine ifB_bne (fun w3=>?_) (fun w3=>?_)
      ·(exfalso; omega)
      ·(conv=>whnf); refine .inl ⟨_,_,byX rfl (Sound1.pl (c11) rfl),?_⟩
       (conv=>whnf); refine .inl ⟨_,_,byX rfl (Sound1.pl (h12) rfl),?_⟩
       (conv=>whnf); refine ifB_bne (fun w4=>?_) (fun w4=>?_)
       ·(exfalso; omega)
       ·(conv=>whnf); refine .inl ⟨_,_,byX rfl (d8),?_⟩
        (conv=>whnf); refine .inl ⟨_,_,byX rfl (Sound1.pl (d11) rfl),?_⟩
        (conv=>whnf); refine ⟨?_,nofun⟩
        (first | omega | contradiction | exact rfl)
     ·exact absurd (htt.symm.trans w2) nofun
   ·refine sound (d := 2) tok2 mixed2 Tryz.func3 (by kernel_rfl) (by kernel_rfl) ?_
    (conv=>whnf); refine .inl ⟨_,_,byX rfl (Sound1.pl (h4) rfl),?_⟩
    (conv=>whnf); refine .inl ⟨_,_,byX rfl (Sound1.pl (h5) rfl),?_⟩
    (conv=>whnf); refine ifB_dec (fun w1=>?_) (fun w1=>?_)
    ·(exfalso; omega)
    ·(conv=>whnf); refine .inl ⟨_,_,byX rfl (h7),?_⟩
     (conv=>whnf); refine .inl ⟨_,_,byX rfl (Sound1.pl (h6) rfl),?_⟩
     (conv=>whnf); refine .inl ⟨_,_,byX rfl (c8),?_⟩
     (conv=>whnf); refine .inl ⟨_,_,byX rfl (c9),?_⟩
     (conv=>whnf); refine .inl ⟨_,_,byX rfl (Sound1.pl (h10) rfl),?_⟩
     (conv=>whnf); refine ifB_not ?_
     (conv=>whnf); refine ifB_intro (fun w2=>?_) (fun w2=>?_)
     ·(conv=>whnf); refine ifB_bne (fun w3=>?_) (fun w3=>?_)
      ·(exfalso; omega)
      ·(conv=>whnf); refine .inl ⟨_,_,byX rfl (Sound1.pl (c11) rfl),?_⟩
       (conv=>whnf); refine .inl ⟨_,_,byX rfl (Sound1.pl (h12) rfl),?_⟩
       (conv=>whnf); refine ifB_bne (fun w4=>?_) (fun w4=>?_)
       ·(conv=>whnf); refine ⟨?_,nofun⟩
        (first | omega | contradiction | exact rfl)
       ·(exfalso; omega)
     ·exact absurd (htt.symm.trans w2) nofun
  ·refine sound (d := 2) tok2 mixed2 Tryz.func3 (by kernel_rfl) (by kernel_rfl) ?_
   (conv=>whnf); refine .inl ⟨_,_,byX rfl (Sound1.pl (h4) rfl),?_⟩
   (conv=>whnf); refine .inl ⟨_,_,byX rfl (Sound1.pl (h5) rfl),?_⟩
   (conv=>whnf); refine ifB_dec (fun w1=>?_) (fun w1=>?_)
   ·(conv=>whnf); refine ⟨?_,nofun⟩
    (first | omega | contradiction | exact rfl)
   ·(exfalso; omega)
 ·rw [Bool.not_eq_true] at hf
  rw [hf] at h5
  refine sound (d := 2) tok2 mixed2 Tryz.func3 (by kernel_rfl) (by kernel_rfl) ?_
  (conv=>whnf); refine .inl ⟨_,_,byX rfl (Sound1.pl (h4) rfl),?_⟩
  (conv=>whnf); refine .inl ⟨_,_,byX rfl (Sound1.pl (h5) rfl),?_⟩
  (conv=>whnf); refine ⟨?_,nofun⟩
  (first | omega | contradiction | exact rfl)
end Go.Tr

/- The opening of a law: what an argument reads as, as abstract values, with its shape. Conditions: types of numbers, truth values, strings, slices, structs and arrays. -/
namespace Go.Tr
open Go Go.RowKit

def V2 (P : Program) (w : World) (q : Nat → Prop) : List AV → List Value → Prop
 | [],[]=>True
 | x :: xs,v :: vs=>(VT P w q x v ∧ v.oneCell' = true) ∧ V2 P w q xs vs
 | _,_=>False

def All2 {α β : Type} (p : α → β → Prop) : List α → List β → Prop
 | [],[]=>True
 | x :: xs,y :: ys=>p x y ∧ All2 p xs ys
 | _,_=>False

def TyC (P : Program) : Nat → TypeId → List AV → Prop
 | 0,_,_=>True
 | m + 1,t,xs=>match P.underlying t with
  | some .bool=>∃ b,xs = [.val (.bool b)]
  | some (.int k)=>∃ n,xs = [.val (.int k n)] ∧ inK k n
  | some .string=>∃ s : ByteArray,xs = [.val (.string s)] ∧ s.size ≤ 9223372036854775807
  | some (.slice e)=>∃ len f,xs = [.rslice (P.cellsOf e) len f] ∧ len ≤ 9223372036854775807 ∧ ∀ i,i < len → TyC P m e (f i)
  | some (.struct fs)=>∃ ps : List (List AV),xs = ps.flatten ∧ All2 (fun f p=>TyC P m f.type p) fs.toList ps
  | some (.array n e)=>∃ ps : List (List AV),xs = ps.flatten ∧ ps.length = n ∧ ∀ p ∈ ps,TyC P m e p
  | _=>False

def layF (P : Program) (g : TypeId → Bool) : List Field → Nat → Nat → Bool
 | [],off,tot=>Nat.beq off tot
 | f :: r,off,tot=>Nat.beq f.offset off && g f.type && layF P g r (off + P.cellsOf f.type) tot

def lay (P : Program) : Nat → TypeId → Bool
 | 0,_=>false
 | m + 1,t=>match P.underlying t with
  | some .bool | some (.int _) | some .string=>true
  | some (.slice e)=>Nat.blt 0 (P.cellsOf e) && lay P m e
  | some (.struct fs)=>layF P (lay P m) fs.toList 0 (P.cellsOf t)
  | some (.array n e)=>Nat.beq (P.cellsOf t) (n * P.cellsOf e) && lay P m e
  | _=>false

section
variable {H : Type} {enc : TypeId × Value → H} {P : Program} {w : World} {spare : Nat → Bool} {held : Bool} {q : Nat → Prop}

theorem V2_len : ∀ {xs : List AV} {vs : List Value},V2 P w q xs vs → xs.length = vs.length
 | [],[],_=>rfl
 | x :: xs,v :: vs,h=>by simp [V2_len h.2]
 | [],_ :: _,h=>h.elim
 | _ :: _,[],h=>h.elim

theorem V2_append : ∀ {xs : List AV} {vs : List Value} {ys : List AV} {us : List Value},V2 P w q xs vs → V2 P w q ys us → V2 P w q (xs ++ ys) (vs ++ us)
 | [],[],_,_,_,h=>h
 | _ :: _,_ :: _,_,_,h,h'=>⟨h.1,V2_append h.2 h'⟩
 | [],_ :: _,_,_,h,_=>h.elim
 | _ :: _,[],_,_,h,_=>h.elim

theorem V2_get : ∀ {xs : List AV} {vs : List Value},V2 P w q xs vs → ∀ (i : Nat) x,xs[i]? = some x → VT P w q x (vs.getD i undef) ∧ (vs.getD i undef).oneCell' = true
 | [],[],_,i,x,hx=>by simp at hx
 | y :: ys,v :: vs,h,0,x,hx=>by
  simp at hx
  subst hx
  simpa using h.1
 | y :: ys,v :: vs,h,i + 1,x,hx=>by
  have := V2_get h.2 i x (by simpa using hx)
  simpa using this
 | [],_ :: _,h,_,_,_=>h.elim
 | _ :: _,[],h,_,_,_=>h.elim

theorem mapM_cons_some {α β : Type} {f : α → Option β} {a : α} {l : List α} {r : List β} (h : (a :: l).mapM f = some r) : ∃ b bs,f a = some b ∧ l.mapM f = some bs ∧ r = b :: bs := by
 rw [List.mapM_cons] at h
 cases ha : f a with
 | none=>simp [ha] at h
 | some b =>
  cases hl : l.mapM f with
  | none=>simp [ha,hl] at h
  | some bs=>simp [ha,hl] at h; exact ⟨b,bs,rfl,rfl,h.symm⟩

theorem mapM_get {α β : Type} {f : α → Option β} : ∀ {l : List α} {r : List β},l.mapM f = some r → r.length = l.length ∧ ∀ (i : Nat) x,l[i]? = some x → ∃ y,f x = some y ∧ r[i]? = some y
 | [],r,h=>by simp at h; subst h; exact ⟨rfl,fun i x hx=>by simp at hx⟩
 | a :: l,r,h=>by
  obtain ⟨b,bs,h1,h2,rfl⟩ := mapM_cons_some h
  obtain ⟨g1,g2⟩ := mapM_get h2
  refine ⟨by simp [g1],fun i x hx=>?_⟩
  cases i with
  | zero=>simp at hx; subst hx; exact ⟨b,h1,rfl⟩
  | succ i=>simpa using g2 i x (by simpa using hx)

theorem cells_some {a : Addr} {n : Nat} {cs : List Value} (h : w.cells? 0 a n = some cs) : cs.length = n ∧ ∀ j,j < n → w.cell? (a.add j) = some (cs.getD j undef) := by
 unfold World.cells? at h
 rw [if_pos (Nat.zero_le _)] at h
 obtain ⟨h1,h2⟩ := mapM_get h
 refine ⟨by simpa using h1,fun j hj=>?_⟩
 obtain ⟨y,h3,h4⟩ := h2 j j (by simp [hj])
 rw [h3,List.getD_eq_getElem?_getD,h4]
 rfl

theorem cell_spot {a : Addr} {v : Value} (h : w.cell? a = some v) : a.spot = none ∧ a.block < w.heap.size := by
 unfold World.cell? at h
 split at h
 ·rename_i c t fr hb
  refine ⟨?_,?_⟩
  ·cases hs : a.spot with
   | none=>rfl
   | some s=>simp [hs] at h
  ·exact (Array.getElem?_eq_some_iff.1 hb).1
 ·cases h

theorem addr_add2 (blk off u j : Nat) : ((⟨blk,off,none⟩ : Addr).add u).add j = ⟨blk,off + (u + j),none⟩ := by
 unfold Addr.add
 by_cases h1 : u = 0
 ·subst h1
  by_cases h2 : j = 0
  ·subst h2; rfl
  ·simp [h2]
 ·by_cases h2 : j = 0
  ·subst h2; simp [h1]
  ·simp [h1,h2,Nat.add_assoc]

theorem fields_av {g : TypeId → List Value → Option (DataW H × List MemPlace)} {T : TypeId → List AV → Prop} {ly : TypeId → Bool}
  (ih : ∀ t,ly t = true → ∀ cs x,g t cs = some x → ∃ xs,V2 P w q xs cs ∧ T t xs) (cs : List Value) : ∀ (fs : List Field) (off : Nat) (r : List (DataW H × List MemPlace)),layF P ly fs off cs.length = true →
  (fs.mapM fun f=>g f.type ((cs.drop f.offset).take (P.cellsOf f.type))) = some r → ∃ ps : List (List AV),V2 P w q ps.flatten (cs.drop off) ∧ All2 (fun f p=>T f.type p) fs ps
 | [],off,r,hl,h=>by
  have := Nat.eq_of_beq_eq_true hl
  subst this
  exact ⟨[],by simp [V2],trivial⟩
 | f :: fs, off, r, hl, h => by
  simp only [layF,Bool.and_eq_true] at hl
  obtain ⟨⟨h1,h2⟩,h3⟩ := hl
  have e := Nat.eq_of_beq_eq_true h1
  obtain ⟨b,bs,g1,g2,rfl⟩ := mapM_cons_some h
  obtain ⟨p,p1,p2⟩ := ih _ h2 _ _ g1
  obtain ⟨ps,r1,r2⟩ := fields_av ih cs fs _ _ h3 g2
  refine ⟨p :: ps,?_,p2,r2⟩
  rw [List.flatten_cons]
  have : cs.drop off = (cs.drop f.offset).take (P.cellsOf f.type) ++ cs.drop (off + P.cellsOf f.type) := by
   rw [e,← List.drop_drop]
   exact (List.take_append_drop _ _).symm
  rw [this]
  exact V2_append p1 r1

theorem items_av {g : List Value → Option (DataW H × List MemPlace)} {T : List AV → Prop} (ih : ∀ cs x,g cs = some x → ∃ xs,V2 P w q xs cs ∧ T xs) (cs : List Value) (s n : Nat) (hn : cs.length = n * s)
  (h : ∀ i,i < n → ∃ x,g ((cs.drop (i * s)).take s) = some x) : ∀ (k i : Nat),i + k = n → ∃ ps : List (List AV),V2 P w q ps.flatten (cs.drop (i * s)) ∧ ps.length = k ∧ ∀ p ∈ ps,T p
 | 0,i,hi=>by
  have : i = n := by omega
  subst this
  refine ⟨[],?_,rfl,nofun⟩
  rw [List.drop_eq_nil_of_le (by omega)]
  exact trivial
 | k + 1, i, hi => by
  obtain ⟨x,hx⟩ := h i (by omega)
  obtain ⟨p,p1,p2⟩ := ih _ _ hx
  obtain ⟨ps,r1,r2,r3⟩ := items_av ih cs s n hn h k (i + 1) (by omega)
  refine ⟨p :: ps,?_,by simp [r2],fun y hy=>?_⟩
  ·rw [List.flatten_cons]
   have : cs.drop (i * s) = (cs.drop (i * s)).take s ++ cs.drop ((i + 1) * s) := by
    rw [Nat.succ_mul,← List.drop_drop]
    exact (List.take_append_drop _ _).symm
   rw [this]
   exact V2_append p1 r1
  ·rcases List.mem_cons.1 hy with rfl | hy
   ·exact p2
   ·exact r3 y hy

theorem trod_av (hq : ∀ b, b < w.heap.size → q b) : ∀ (m : Nat) (t : TypeId), lay P m t = true → ∀ (fuel : Nat) (cs : List Value) (x : DataW H × List MemPlace), DataW.trod enc P w 0 spare held fuel t cs = some x → ∃ xs, V2 P w q xs cs ∧ TyC P m t xs
 | 0,t,hl,_,_,_,_=>by simp [lay] at hl
 | m + 1,t,hl,0,cs,x,h=>by simp [DataW.trod] at h
 | m + 1, t, hl, fuel + 1, cs, x, h => by
  unfold lay at hl
  unfold TyC
  unfold DataW.trod at h
  cases hu : P.underlying t with
  | none=>simp [hu] at hl
  | some d =>
   simp only [hu] at hl h ⊢
   cases d with
   | bool =>
    split at h <;> first | (cases h; done) | (rename_i e; cases e; done) | skip
    cases h
    exact ⟨[.val (.bool _)],⟨⟨.val _,rfl⟩,trivial⟩,_,rfl⟩
   | int k =>
    split at h <;> first | (cases h; done) | (rename_i e; cases e; done) | skip
    rename_i e
    cases e
    split at h
    ·rename_i hk
     obtain ⟨rfl,hw⟩ := hk
     simp only [Lit.wf,Bool.and_eq_true,decide_eq_true_eq] at hw
     exact ⟨[.val (.int _ _)],⟨⟨.val _,rfl⟩,trivial⟩,_,rfl,hw⟩
    ·cases h
   | string =>
    split at h <;> first | (cases h; done) | (rename_i e; cases e; done) | skip
    split at h
    ·rename_i hs
     exact ⟨[.val (.string _)],⟨⟨.val _,rfl⟩,trivial⟩,_,rfl,hs⟩
    ·cases h
   | slice e =>
    simp only [Bool.and_eq_true] at hl
    split at h <;> first | (cases h; done) | (rename_i e; cases e; done) | skip
    ·exact ⟨[.rslice (P.cellsOf e) 0 fun _=>[]],⟨⟨.rslice0 _ _ _ _,rfl⟩,trivial⟩,_,_,rfl,by omega,fun i hi=>absurd hi (Nat.not_lt_zero i)⟩
    ·rename_i e0 a len cap e1
     cases e1
     split at h
     case isFalse=>cases h
     rename_i hb
     have hes : 0 < P.cellsOf e := Nat.le_of_ble_eq_true hl.1
     cases hM : (List.range len).mapM fun i=>(w.cells? 0 (a.add (i * P.cellsOf e)) (P.cellsOf e)).bind (DataW.trod enc P w 0 spare held fuel e) with
     | none=>rw [hM] at h; cases h
     | some elems =>
      obtain ⟨_,g2⟩ := mapM_get hM
      have hx : ∀ i,∃ xs : List AV,i < len → ∃ cs,(cs.length = P.cellsOf e ∧ ∀ j,j < P.cellsOf e → w.cell? ((a.add (i * P.cellsOf e)).add j) = some (cs.getD j undef)) ∧ V2 P w q xs cs ∧ TyC P m e xs := fun i=>by
       by_cases hi : i < len
       ·obtain ⟨y,y1,_⟩ := g2 i i (by simp [hi])
        cases hc : w.cells? 0 (a.add (i * P.cellsOf e)) (P.cellsOf e) with
        | none=>rw [hc] at y1; cases y1
        | some cs1 =>
         rw [hc] at y1
         obtain ⟨xs,x1,x2⟩ := trod_av hq m e hl.2 _ _ _ y1
         exact ⟨xs,fun _=>⟨cs1,cells_some hc,x1,x2⟩⟩
       ·exact ⟨[],fun h=>absurd h hi⟩
      have hf := fun i=>(Classical.choose_spec (hx i))
      generalize hF : (fun i=>Classical.choose (hx i)) = F
      have hf : ∀ i,i < len → ∃ cs,(cs.length = P.cellsOf e ∧ ∀ j,j < P.cellsOf e → w.cell? ((a.add (i * P.cellsOf e)).add j) = some (cs.getD j undef)) ∧ V2 P w q (F i) cs ∧ TyC P m e (F i) := fun i hi=>by
       have := Classical.choose_spec (hx i) hi
       rw [← hF]
       exact this
      refine ⟨[.rslice (P.cellsOf e) len F],⟨⟨?_,rfl⟩,trivial⟩,len,F,rfl,?_,fun i hi=>?_⟩
      ·rcases Nat.eq_zero_or_pos len with rfl | hp
       ·exact .rslice0 _ _ _ _
       ·obtain ⟨cs0,c1,_,_⟩ := hf 0 hp
        have hc0 := c1.2 0 hes
        have e0 : ((a.add (0 * P.cellsOf e)).add 0) = a := by simp [Addr.add]
        rw [e0] at hc0
        obtain ⟨s1,s2⟩ := cell_spot hc0
        obtain ⟨blk,off,spot⟩ := a
        simp only at s1 s2
        subst s1
        have hG : ∀ i,∃ cs : List Value,i < len → (cs.length = P.cellsOf e ∧ ∀ j,j < P.cellsOf e → w.cell? (((⟨blk,off,none⟩ : Addr).add (i * P.cellsOf e)).add j) = some (cs.getD j undef)) ∧ V2 P w q (F i) cs := fun i=>by
         by_cases hi : i < len
         ·obtain ⟨cs,c1,c2,_⟩ := hf i hi
          exact ⟨cs,fun _=>⟨c1,c2⟩⟩
         ·exact ⟨[],fun h=>absurd h hi⟩
        refine .rslice _ _ _ blk off cap (fun i j=>(Classical.choose (hG i)).getD j undef) hb.2.1 (hq _ s2) (fun i hi=>?_) (fun i j hi hj=>?_) (fun i j x hi hx=>?_)
        ·obtain ⟨c1,c2⟩ := Classical.choose_spec (hG i) hi
         rw [V2_len c2,c1.1]
        ·obtain ⟨c1,c2⟩ := Classical.choose_spec (hG i) hi
         have hc := c1.2 j hj
         have ea : ((⟨blk,off,none⟩ : Addr).add (i * P.cellsOf e)).add j = ⟨blk,off + (i * P.cellsOf e + j),none⟩ := by
          exact addr_add2 blk off _ j
         rw [ea] at hc
         refine ⟨hc,?_⟩
         have hlt : j < (F i).length := by rw [V2_len c2,c1.1]; exact hj
         exact (V2_get c2 j _ (List.getElem?_eq_getElem hlt)).2
        ·obtain ⟨c1,c2⟩ := Classical.choose_spec (hG i) hi
         exact (V2_get c2 j x hx).1
      ·have := hb.2.2
       unfold maxLen at this
       omega
      ·obtain ⟨_,_,_,h3⟩ := hf i hi
       exact h3
   | struct fs =>
    replace h : (if cs.length = P.cellsOf t then (fs.toList.mapM fun f=>DataW.trod enc P w 0 spare held fuel f.type ((cs.drop f.offset).take (P.cellsOf f.type))).map fun xs=>(.agg (xs.map (·.1)),xs.flatMap (·.2)) else none) = some x := h
    split at h
    case isFalse=>cases h
    rename_i hc
    cases hM : fs.toList.mapM fun f=>DataW.trod enc P w 0 spare held fuel f.type ((cs.drop f.offset).take (P.cellsOf f.type)) with
    | none=>rw [hM] at h; cases h
    | some r =>
     obtain ⟨ps,p1,p2⟩ := fields_av (T := TyC P m) (ly := lay P m) (fun t ht cs x hx=>trod_av hq m t ht fuel cs x hx) cs fs.toList 0 r (by rw [hc]; exact hl) hM
     exact ⟨ps.flatten,by simpa using p1,ps,rfl,p2⟩
   | array n e =>
    simp only [Bool.and_eq_true] at hl
    replace h : (if cs.length = P.cellsOf t then ((List.range n).mapM fun i=>DataW.trod enc P w 0 spare held fuel e ((cs.drop (i * P.cellsOf e)).take (P.cellsOf e))).map fun xs=>(.agg (xs.map (·.1)),xs.flatMap (·.2)) else none) = some x := h
    split at h
    case isFalse=>cases h
    rename_i hc
    cases hM : (List.range n).mapM fun i=>DataW.trod enc P w 0 spare held fuel e ((cs.drop (i * P.cellsOf e)).take (P.cellsOf e)) with
    | none=>rw [hM] at h; cases h
    | some r =>
     obtain ⟨_,g2⟩ := mapM_get hM
     obtain ⟨ps,p1,p2,p3⟩ := items_av (T := TyC P m e) (fun cs x hx=>trod_av hq m e hl.2 fuel cs x hx) cs (P.cellsOf e) n (by rw [hc]; exact Nat.eq_of_beq_eq_true hl.1)
      (fun i hi=>by obtain ⟨y,y1,_⟩ := g2 i i (by simp [hi]); exact ⟨y,y1⟩) n 0 (by omega)
     exact ⟨ps.flatten,by simpa using p1,ps,rfl,p2,p3⟩
   | _=>simp at hl

def TyA (P : Program) (m : Nat) (t : TypeId) (x : AV) : Prop :=
 match P.underlying t with
 | some (.struct _) | some (.array _ _)=>∃ xs,x = .agg xs ∧ TyC P m t xs
 | _=>TyC P m t [x]

theorem open_av {r : Reach} {b0 : Nat} {t : TypeId} {v : Value} {d : DataW H} {ps : List MemPlace} {m : Nat} (hl : lay P m t = true) (hq : ∀ b,b < w.heap.size → q b)
  (hv : Value.okWide P w r b0 t v) (hd : DataW.Trod enc P w 0 spare held t v d ps) : ∃ x,VT P w q x v ∧ TyA P m t x := by
 obtain ⟨fuel,hf⟩ := hd
 obtain ⟨xs,h1,h2⟩ := trod_av hq m t hl fuel _ _ hf
 have agg : ∀ cs,v = .agg cs → VT P w q (.agg xs) v := by
  rintro cs rfl
  have hlen := V2_len h1
  refine .agg xs cs (by rw [hlen]; simp [Value.cells]) (fun u hu=>?_) (fun i x hx=>?_)
  ·obtain ⟨i,hi,rfl⟩ := List.getElem_of_mem hu
   have hx : i < xs.length := by rw [hlen]; simpa [Value.cells] using hi
   have := (V2_get h1 i _ (List.getElem?_eq_getElem hx)).2
   have hi' : i < cs.size := by simpa using hi
   simpa [Value.cells,List.getD_eq_getElem?_getD,hi'] using this
  ·have := (V2_get h1 i x hx).1
   simpa [Value.cells,List.getD_eq_getElem?_getD,Array.getD_eq_getD_getElem?] using this
 have one : ∀ u,v.cells.toList = [u] → v = u → ∃ x,VT P w q x v ∧ TyC P m t [x] := by
  rintro u e rfl
  rw [e] at h1
  match xs,h1,h2 with
  | [x],h1,h2=>exact ⟨x,h1.1.1,h2⟩
 unfold TyA
 unfold Value.okWide at hv
 split
 ·rename_i fs hu
  simp only [hu] at hv
  obtain ⟨cs,e,_,_⟩ := hv
  exact ⟨_,agg cs e,xs,rfl,h2⟩
 ·rename_i n e hu
  simp only [hu] at hv
  obtain ⟨cs,e,_,_⟩ := hv
  exact ⟨_,agg cs e,xs,rfl,h2⟩
 ·rename_i n1 n2
  have hc : Cell.okWide P w r b0 t v := by
   split at hv
   ·rename_i hu; exact absurd hu (n1 _)
   ·rename_i hu; exact absurd hu (n2 _ _)
   ·exact hv
  cases v with
  | agg cs =>
   simp only [Cell.okWide] at hc
   split at hc <;> first | (rename_i e _; cases e; done) | (rename_i e; cases e; done) | (simp [Cell.ok] at hc)
  | tuple cs =>
   simp only [Cell.okWide] at hc
   split at hc <;> first | (rename_i e _; cases e; done) | (rename_i e; cases e; done) | (simp [Cell.ok] at hc)
  | _=>exact one _ rfl rfl
end
end Go.Tr
