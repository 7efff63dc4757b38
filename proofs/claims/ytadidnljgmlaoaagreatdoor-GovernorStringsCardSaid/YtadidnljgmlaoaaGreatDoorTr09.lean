/- Polynomials as strings: what they are, and what is read again. Conditions: none. -/
import Derived.Test.YtadidnljgmlaoaaGreatDoorTr08
import Derived.Test.YtadidnljgmlaoaaGreatDoorTr06
import Derived.ProofKit
set_option linter.unusedSectionVars false
set_option linter.unnecessarySimpa false
set_option linter.unusedVariables false
set_option linter.unusedSimpArgs false

-- seat YtadidnljgmlaoaaGreatDoor
namespace Go.Tr
open Go Go.Proofs
set_option maxRecDepth 20000
set_option maxHeartbeats 8000000

def wdsG (s : ByteArray) : List ByteArray := sepL s (byteB 32)
abbrev wdG (s : ByteArray) (j : Nat) : ByteArray := (wdsG s).getD j ByteArray.empty
def okG (w : ByteArray) : Bool := numO w true
def prsE (s : ByteArray) : Int := if (wdsG s).all okG then polyE ((wdsG s).map atoiV) else 7
def prsL (s : ByteArray) : List Int := if prsE s = 0 then (wdsG s).map atoiV else []
def fmtL (l : List Int) : ByteArray := joinB (l.map itoaB) (byteB 32)
def I64 (n : Int) : Prop := -9223372036854775808 ≤ n ∧ n ≤ 9223372036854775807
theorem getD_mapG {α β : Type} (f : α → β) (l : List α) (k : Nat) (d : α) (e : β) (h : k < l.length) : (l.map f).getD k e = f (l.getD k d) := by
  simp [List.getD_eq_getElem?_getD,h]
theorem jl (l : List ByteArray) (sep : ByteArray) : (joinB l sep).data.toList = Lib.join (l.map (·.data.toList)) sep.data.toList := by simp [joinB]
theorem sepJ (l : List ByteArray) (c : UInt8) (h0 : l ≠ []) (hf : ∀ x ∈ l,∀ b ∈ x.data.toList,b ≠ c) : sepL (joinB l (byteB c)) (byteB c) = l := by
 have e := sep_cut (joinB l (byteB c)) c
 rw [jl,show (byteB c).data.toList = [c] from rfl,cut_join c _ (by simpa using h0) (fun p hp=>by
  obtain ⟨x,hx,rfl⟩ := List.mem_map.1 hp
  exact hf x hx)] at e
 exact (List.map_inj_right fun a b h=>bs_ext h).1 e
theorem itoa_ne {c : UInt8} (h1 : c ≠ 45) (h2 : isDig c = false) (n : Int) : ∀ b ∈ (itoaB n).data.toList,b ≠ c := fun b hb e=>by
 rw [itoaB_l,Lib.itoa] at hb
 subst e
 have hd : ∀ u,¬ b ∈ Lib.decDigits u := fun u hb=>by rw [(dec_dig u).1 b hb] at h2; cases h2
 split at hb
 ·rcases List.mem_cons.1 hb with e | hb
  ·exact h1 e
  ·exact hd _ hb
 ·exact hd _ hb
theorem nD_le : ∀ (k u : Nat),u < 10 ^ (k + 1) → Lib.nDigits u ≤ k + 1
 | 0,u,h=>by rw [Lib.nDigits_small (by omega)]; omega
 | k + 1, u, h => by
  by_cases h10 : u < 10
  ·rw [Lib.nDigits_small h10]; omega
  ·rw [Lib.nDigits_big h10]
   have := nD_le k (u / 10) (by rw [Nat.pow_succ] at h; omega)
   omega
theorem num_itoa {n : Int} (h : -9999999 ≤ n ∧ n ≤ 9999999) : numO (itoaB n) true = true ∧ atoiV (itoaB n) = n := by
 obtain ⟨h1,h2⟩ := num_ref (itoaB n)
 obtain ⟨r1,r2⟩ := refOk_itoa n 7
 have hr : refOk (itoaB n).data.toList 7 = true := by
  rw [itoaB_l,r1,Lib.decDigits_length]
  exact Nat.ble_eq_true_of_le (nD_le 6 _ (by omega))
 refine ⟨by rw [h1,hr],?_⟩
 rw [h2 hr,itoaB_l,r2]
theorem map_self {α : Type} {f : α → α} {l : List α} (h : ∀ x ∈ l,f x = x) : l.map f = l := by
  rw [List.map_congr_left (g := id) h,List.map_id]
theorem each_all : ∀ (l : List Int) (k : Nat),(eachI (fun _ x=>coefE x) l k).2 = 0 → ∀ x ∈ l,coefE x = 0
 | [],_,_,x,hx=>by cases hx
 | y :: r, k, h, x, hx => by
  rw [eachI] at h
  by_cases hy : coefE y = 0
  ·rw [if_pos hy] at h
   rcases List.mem_cons.1 hx with e | hx
   ·rw [e]; exact hy
   ·exact each_all r (k + 1) h x hx
  ·rw [if_neg hy] at h; exact absurd h hy
theorem poly_back {l : List Int} (h : polyE l = 0) : prsE (fmtL l) = 0 ∧ prsL (fmtL l) = l := by
 have hs : shapeE l.length = 0 := by
  unfold polyE at h
  by_cases hs : shapeE l.length = 0
  ·exact hs
  ·rw [if_pos hs] at h; exact absurd h hs
 have hc : coefsE l = 0 := by
  unfold polyE at h
  rw [if_neg (not_not_intro hs)] at h
  by_cases hc : coefsE l = 0
  ·exact hc
  ·rw [if_pos hc] at h; exact absurd h hc
 have h0 : l ≠ [] := fun e=>by rw [e] at hs; revert hs; decide
 have hn : ∀ x ∈ l,numO (itoaB x) true = true ∧ atoiV (itoaB x) = x := fun x hx=>by
  have := each_all l 0 hc x hx
  unfold coefE at this
  split at this
  ·exact num_itoa (by omega)
  ·cases this
 have hw : wdsG (fmtL l) = l.map itoaB := sepJ (l.map itoaB) 32 (by simpa using h0) fun x hx=>by
  obtain ⟨n,_,rfl⟩ := List.mem_map.1 hx
  exact itoa_ne (by decide) (by decide) n
 have hm : (wdsG (fmtL l)).map atoiV = l := by
  rw [hw,List.map_map,map_self (f := atoiV ∘ itoaB) fun x hx=>by rw [Function.comp_apply]; exact (hn x hx).2]
 have ha : (wdsG (fmtL l)).all okG = true := by
  rw [hw,List.all_eq_true]
  intro x hx
  obtain ⟨n,hnm,rfl⟩ := List.mem_map.1 hx
  exact (hn n hnm).1
 have he : prsE (fmtL l) = 0 := by rw [prsE,ha,if_pos rfl,hm,h]
 exact ⟨he,by rw [prsL,he,if_pos rfl,hm]⟩
theorem ok_no {s : ByteArray} {m : Nat} (hm : m < (wdsG s).length) (h : okG (wdG s m) = false) : prsE s = 7 := by
 have : (wdsG s).all okG = false := by
  rw [List.all_eq_false]
  refine ⟨wdG s m,?_,by rw [h]; simp⟩
  unfold wdG
  rw [List.getD_eq_getElem?_getD,List.getElem?_eq_getElem hm]; exact List.getElem_mem hm
 rw [prsE,this]; rfl
theorem ok_all {s : ByteArray} (h : ∀ i,i < (wdsG s).length → okG (wdG s i) = true) : prsE s = polyE ((wdsG s).map atoiV) := by
 have : (wdsG s).all okG = true := by
  rw [List.all_eq_true]
  intro w hw
  obtain ⟨j,hj⟩ := List.mem_iff_getElem?.1 hw
  have hlt := (List.getElem?_eq_some_iff.1 hj).1
  have := h j hlt
  unfold wdG at this
  rw [List.getD_eq_getElem?_getD,hj] at this
  exact this
 rw [prsE,this,if_pos rfl]
theorem sep_len (s : ByteArray) (c : UInt8) : 0 < (sepL s (byteB c)).length ∧ (sepL s (byteB c)).length ≤ s.size + 1 := by
 have e : (sepL s (byteB c)).length = Lib.countB s (byteB c) + 1 := Lib.splitB_all (byteB c) (Nat.le_refl 1) 0 _ s rfl
 have := Lib.countB_le (byteB c) (Nat.le_refl 1) s.size s (Nat.le_refl _)
 omega
theorem splitB_size (sep : ByteArray) : ∀ (k : Nat) (s : ByteArray),∀ w ∈ Lib.splitB sep 0 k s,w.size ≤ s.size
 | 0,s,w,h=>by rw [Lib.splitB_zero] at h; rw [List.mem_singleton.1 h]; exact Nat.le_refl _
 | k + 1, s, w, h => by
  rw [Lib.splitB] at h
  split at h
  ·rw [List.mem_singleton.1 h]; exact Nat.le_refl _
  ·rcases List.mem_cons.1 h with e | h
   ·rw [e,ByteArray.size_extract]; omega
   ·have := splitB_size sep k _ w h
    rw [ByteArray.size_extract] at this; omega
theorem sepL_size (s sep : ByteArray) (i : Nat) : ((sepL s sep).getD i ByteArray.empty).size ≤ s.size := by
 rw [List.getD_eq_getElem?_getD]
 cases h : (sepL s sep)[i]? with
 | none=>exact Nat.zero_le _
 | some w=>exact splitB_size sep _ s w (List.mem_of_getElem? h)
def SqAt (s R : ByteArray) (m : Nat) : Prop := ((wdsG s).drop m).map (·.data.toList) = cutL 32 R.data.toList
theorem sq_hit {s R : ByteArray} {m i : Nat} (h : SqAt s R m) (hi : Lib.index R.data.toList [32] = (i : Int)) : m < (wdsG s).length ∧ R.extract 0 i = wdG s m ∧ SqAt s (R.extract (i + 1) R.size) (m + 1) ∧ i < R.size := by
 obtain ⟨a,r,e1,e2,e3⟩ := index_hit hi
 unfold SqAt at h
 rw [e1,cut_hit e3] at h
 have hm : m < (wdsG s).length := by
  by_cases hm : m < (wdsG s).length
  ·exact hm
  ·rw [List.drop_eq_nil_of_le (by omega)] at h; cases h
 rw [List.drop_eq_getElem_cons hm,List.map_cons] at h
 injection h with h3 h4
 refine ⟨hm,bs_ext ?_,?_,?_⟩
 ·rw [bs_ex,List.drop_zero,Nat.sub_zero,e1,← e2,List.take_left' rfl,← h3]
  show _ = (wdG s m).data.toList
  unfold wdG
  rw [List.getD_eq_getElem?_getD,List.getElem?_eq_getElem hm]; rfl
 ·unfold SqAt
  rw [h4,bs_ex,List.take_of_length_le (by rw [List.length_drop,bs_len]; omega),e1,← e2,show a ++ 32 :: r = (a ++ [32]) ++ r by simp,List.drop_left' (by simp)]
 ·rw [bs_len,e1]; simp; omega
theorem sq_end {s R : ByteArray} {m : Nat} (h : SqAt s R m) (hi : Lib.index R.data.toList [32] = -1) : (wdsG s).length = m + 1 ∧ R = wdG s m := by
 unfold SqAt at h
 rw [cut_miss (index_miss hi)] at h
 have hm : m < (wdsG s).length := by
  by_cases hm : m < (wdsG s).length
  ·exact hm
  ·rw [List.drop_eq_nil_of_le (by omega)] at h; cases h
 rw [List.drop_eq_getElem_cons hm,List.map_cons] at h
 injection h with h3 h4
 have h5 := congrArg List.length h4
 rw [List.length_map,List.length_drop] at h5
 refine ⟨by simp at h5; omega,bs_ext ?_⟩
 rw [← h3]
 show _ = (wdG s m).data.toList
 unfold wdG
 rw [List.getD_eq_getElem?_getD,List.getElem?_eq_getElem hm]; rfl
theorem join_le (sep : ByteArray) (B : Nat) : ∀ l : List ByteArray,(∀ x ∈ l,x.size ≤ B) → (joinB l sep).size ≤ l.length * (B + sep.size)
 | [],_=>Nat.zero_le _
 | [x], h => by
  have e : (joinB [x] sep).size = x.size := by
   rw [joinB,size_mk,List.map_cons,List.map_nil,Lib.join_one,← bs_len]
  have := h x (.head _)
  rw [e]; simp; omega
 | x :: y :: r, h => by
  have ih := join_le sep B (y :: r) fun z hz=>h z (.tail _ hz)
  have hx := h x (.head _)
  have e : (joinB (x :: y :: r) sep).size = x.size + sep.size + (joinB (y :: r) sep).size := by
   rw [joinB,joinB,size_mk,size_mk,List.map_cons,List.map_cons,Lib.join_cons,Lib.join_cons,bs_len,bs_len]
   simp [Lib.joinTail]; omega
  rw [e,List.length_cons,Nat.add_mul,Nat.one_mul]
  omega
theorem itoaB_le {n : Int} (h : I64 n) : (itoaB n).size ≤ 21 := by
  rw [bs_len,itoaB_l]; exact Lib.itoa_length_le n h.1 h.2
theorem byteB_size (c : UInt8) : (byteB c).size = 1 := rfl
theorem join_snocL (l : List (List UInt8)) (x sep : List UInt8) (h : l ≠ []) : Lib.join (l ++ [x]) sep = Lib.join l sep ++ sep ++ x := by
 cases l with
 | nil=>exact absurd rfl h
 | cons y r=>rw [List.cons_append,Lib.join_cons,Lib.join_cons]; simp [Lib.joinTail]
end Go.Tr

/- Polynomials as strings: FormatPolynomial, the reference's Format. Conditions: none. -/
-- seat YtadidnljgmlaoaaGreatDoor
namespace Go.Tr
open Go Go.Proofs
set_option maxRecDepth 20000
set_option maxHeartbeats 8000000

theorem S21l (l : List ByteArray) (c : UInt8) (n : Nat) (hn : n = l.length) (B : Nat) (hB : ∀ x ∈ l,x.size ≤ B) (hl : l.length ≤ 1000) (hb : B ≤ 100000) : SP 21 [.rslice 1 n fun i=>[sv (l.getD i ByteArray.empty)],sv (byteB c)] (sv (joinB l (byteB c))) true := by
 subst hn
 have := join_le (byteB c) B l hB
 rw [byteB_size] at this
 have h2 : l.length * (B + 1) ≤ 1000 * 100001 := Nat.mul_le_mul hl (by omega)
 exact S21 l (byteB c) _ (fun i _=>rfl) (by omega) (by omega)
theorem itoas_le {l : List Int} (h : ∀ x ∈ l,I64 x) : ∀ x ∈ l.map itoaB,x.size ≤ 21 := fun x hx=>by
  obtain ⟨n,hn,rfl⟩ := List.mem_map.1 hx
  exact itoaB_le (h n hn)
theorem I64_at {l : List Int} (h : ∀ x ∈ l,I64 x) (i : Nat) : I64 (l.getD i 0) := by
 rw [List.getD_eq_getElem?_getD]
 cases hi : l[i]? with
 | none=>exact ⟨by decide,by decide⟩
 | some r=>exact h r (List.mem_of_getElem? hi)
theorem S5 (l : List Int) (hl : l.length ≤ 100) (h : ∀ x ∈ l,I64 x) : SP 5 [ints l] (sv (fmtL l)) false := by
 refine sound (d := 2) tok2 mixed2 Tryz.func5 (by kernel_rfl) (by kernel_rfl) ?_
 (conv=>whnf); refine ⟨[.slot 3 1],[3,6,7,8],fun st mq=>∃ (m : Nat),(m ≤ l.length) ∧ st = ⟨[(3,.oslice 0 0 0 m none),(6,ints l),(7,i64 l.length),(8,i64 m)],⟨[⟨1,m,fun i=>[sv ((l.map itoaB).getD i ByteArray.empty)],0,false,true,false⟩],[],none,0⟩,[]⟩ ∧ mq = l.length - m,
  ⟨_,_,⟨0,by omega,rfl,rfl⟩,⟨⟨.inl rfl,rfl,rfl,rfl⟩,⟨⟨rfl,rfl,rfl,rfl,fun _=>rfl,fun i h=>.inl (absurd h (Nat.not_lt_zero i))⟩,trivial⟩,trivial⟩⟩,?_⟩
 rintro s0 m0 ⟨m,hm,rfl,hmeas⟩
 by_cases hlt : m < l.length
 ·have hx := I64_at h m
  have h20 := S20 (l.getD m 0) hx.1 hx.2
  conv=>whnf
  (conv=>whnf); refine ifB_dec (fun w1=>?_) (fun w1=>?_)
  ·conv=>whnf
   (conv=>whnf); refine ⟨⟨(by omega),(by omega)⟩,?_⟩
   conv=>whnf
   (conv=>whnf); refine .inl ⟨_,_,byX rfl (h20),?_⟩
   conv=>whnf
   (conv=>whnf); refine .inl ?_
   conv=>whnf
   (conv=>whnf); refine ⟨(by show _ * (16 + 1) ≤ _; omega),?_⟩
   conv=>whnf
   (conv=>whnf); refine ⟨inK64 (by omega) (by omega),?_⟩
   conv=>whnf
   (conv=>whnf); refine ⟨_,_,⟨⟨m + 1,by omega,rfl,rfl⟩,by omega⟩,⟨⟨.inl rfl,rfl,rfl,rfl⟩,⟨⟨rfl,rfl,rfl,rfl,fun _=>rfl,fun i hi=>.inl ((app_str (F := l.map itoaB) (m := m) (getD_mapG itoaB l m 0 ByteArray.empty hlt).symm hi).symm)⟩,trivial⟩,trivial⟩⟩
  ·(exfalso; omega)
 ·have he : m = l.length := by omega
  have h21 := S21l (l.map itoaB) 32 m (by rw [List.length_map]; exact he) 21 (itoas_le h) (by rw [List.length_map]; omega) (by omega)
  conv=>whnf
  (conv=>whnf); refine ifB_dec (fun w1=>?_) (fun w1=>?_)
  ·(exfalso; omega)
  ·conv=>whnf
   (conv=>whnf); refine .inl ⟨_,_,byX rfl (h21),?_⟩
   conv=>whnf
   (conv=>whnf); refine ⟨?_,nofun⟩
   (first | omega | exact rfl)
theorem S28a (n : Int) (h : I64 n) : SP 28 [i64 n] (sv (itoaB n)) false := by
 by_cases hn : n = 0
 ·subst hn; exact S28z
 ·exact S28 n hn h
theorem take_sI (l : List Int) {m : Nat} (h : m < l.length) : (l.map itoaB).take (m + 1) = (l.map itoaB).take m ++ [itoaB (l.getD m 0)] := by
  rw [List.take_add_one,List.getElem?_eq_getElem (by rw [List.length_map]; exact h),List.getElem_map,List.getD_eq_getElem?_getD,List.getElem?_eq_getElem h]; rfl
def upI (l : List Int) (m : Nat) : ByteArray := joinB ((l.map itoaB).take m) (byteB 32)
theorem up_0 {l : List Int} (h : 0 < l.length) : upI l 0 ++ itoaB (l.getD 0 0) = upI l 1 := by
 unfold upI
 rw [take_sI l h]
 apply bs_ext
 rw [bs_app,jl,jl,List.take_zero,List.nil_append,List.map_cons,List.map_nil,Lib.join_one]; rfl
theorem up_s {l : List Int} {m : Nat} (h : m < l.length) (h0 : m ≠ 0) : upI l m ++ ⟨#[32]⟩ ++ itoaB (l.getD m 0) = upI l (m + 1) := by
 unfold upI
 rw [take_sI l h]
 apply bs_ext
 rw [bs_app,bs_app,jl,jl,List.map_append,List.map_cons,List.map_nil,join_snocL _ _ _ (by
  intro hn
  have := congrArg List.length hn
  rw [List.length_map,List.length_take,List.length_map,List.length_nil] at this
  omega)]; rfl
theorem up_e (l : List Int) : upI l l.length = fmtL l := by
  rw [upI,fmtL,List.take_of_length_le (by rw [List.length_map]; exact Nat.le_refl _)]
theorem up_le {l : List Int} (h : ∀ x ∈ l,I64 x) (hl : l.length ≤ 100) (m : Nat) : (upI l m).size ≤ 2200 := by
 have h1 := join_le (byteB 32) 21 ((l.map itoaB).take m) fun x hx=>itoas_le h x (List.mem_of_mem_take hx)
 rw [byteB_size,List.length_take,List.length_map] at h1
 have h2 : min m l.length * (21 + 1) ≤ 100 * 22 := Nat.mul_le_mul (by omega) (by omega)
 unfold upI
 omega
theorem S9 (l : List Int) (hl : l.length ≤ 100) (h : ∀ x ∈ l,I64 x) : SP 9 [ints l] (sv (fmtL l)) false := by
 refine sound (d := 2) tok2 mixed2 Tryz.func9 (by kernel_rfl) (by kernel_rfl) ?_
 (conv=>whnf); refine ⟨[],[0,3,4],fun st mq=>∃ (m : Nat) (S : ByteArray),(m ≤ l.length) ∧ (S = upI l m) ∧ st = ⟨[(0,ints l),(3,sv S),(4,i64 m)],⟨[],[],none,0⟩,[]⟩ ∧ mq = l.length - m,
  ⟨_,_,⟨0,⟨#[]⟩,by omega,rfl,rfl,rfl⟩,⟨⟨.inl rfl,rfl,rfl,rfl⟩,trivial,trivial⟩⟩,?_⟩
 rintro s0 m0 ⟨m,S,hm,hS,rfl,hmeas⟩
 have hsz := up_le h hl m
 rw [← hS] at hsz
 by_cases hlt : m < l.length
 ·have h28 := S28a (l.getD m 0) (I64_at h m)
  have hq := itoaB_le (I64_at h m)
  have hone : (⟨#[32]⟩ : ByteArray).size = 1 := rfl
  have z1 : (S ++ ⟨#[32]⟩).size = S.size + 1 := by rw [ByteArray.size_append]; rfl
  by_cases h0 : m = 0
  ·have hu : S ++ itoaB (l.getD m 0) = upI l (m + 1) := by rw [hS,h0]; exact up_0 (by omega)
   conv=>whnf
   (conv=>whnf); refine ifB_dec (fun w1=>?_) (fun w1=>?_)
   ·conv=>whnf
    (conv=>whnf); refine ifB_dec (fun w2=>?_) (fun w2=>?_)
    ·(exfalso; omega)
    ·conv=>whnf
     (conv=>whnf); refine ⟨⟨(by omega),(by omega)⟩,?_⟩
     conv=>whnf
     (conv=>whnf); refine .inl ⟨_,_,byX rfl (Sound1.pl (h28) rfl),?_⟩
     conv=>whnf
     (conv=>whnf); refine ⟨(by omega),?_⟩
     conv=>whnf
     (conv=>whnf); refine ⟨inK64 (by omega) (by omega),?_⟩
     conv=>whnf
     (conv=>whnf); refine ⟨_,_,⟨⟨m + 1,_,by omega,(by exact hu),rfl,rfl⟩,by omega⟩,⟨⟨.inl rfl,rfl,rfl,rfl⟩,trivial,trivial⟩⟩
   ·(exfalso; omega)
  ·have hu : S ++ ⟨#[32]⟩ ++ itoaB (l.getD m 0) = upI l (m + 1) := by rw [hS]; exact up_s hlt h0
   conv=>whnf
   (conv=>whnf); refine ifB_dec (fun w1=>?_) (fun w1=>?_)
   ·conv=>whnf
    (conv=>whnf); refine ifB_dec (fun w2=>?_) (fun w2=>?_)
    ·conv=>whnf
     (conv=>whnf); refine ⟨(by omega),?_⟩
     conv=>whnf
     (conv=>whnf); refine ⟨⟨(by omega),(by omega)⟩,?_⟩
     conv=>whnf
     (conv=>whnf); refine .inl ⟨_,_,byX rfl (Sound1.pl (h28) rfl),?_⟩
     conv=>whnf
     (conv=>whnf); refine ⟨(by omega),?_⟩
     conv=>whnf
     (conv=>whnf); refine ⟨inK64 (by omega) (by omega),?_⟩
     conv=>whnf
     (conv=>whnf); refine ⟨_,_,⟨⟨m + 1,_,by omega,(by exact hu),rfl,rfl⟩,by omega⟩,⟨⟨.inl rfl,rfl,rfl,rfl⟩,trivial,trivial⟩⟩
    ·(exfalso; omega)
   ·(exfalso; omega)
 ·have he : m = l.length := by omega
  have hf : S = fmtL l := by rw [hS,he]; exact up_e l
  subst hf
  conv=>whnf
  (conv=>whnf); refine ifB_dec (fun w1=>?_) (fun w1=>?_)
  ·(exfalso; omega)
  ·conv=>whnf
   (conv=>whnf); refine ⟨?_,nofun⟩
   (first | omega | exact rfl)
end Go.Tr

/- Polynomials as strings: the reference's Parse. Conditions: none. -/
-- seat YtadidnljgmlaoaaGreatDoor
namespace Go.Tr
open Go Go.Proofs
set_option maxRecDepth 20000
set_option maxHeartbeats 8000000

theorem fin_err {s : ByteArray} {e : Int} (h : prsE s = e) (h0 : e ≠ 0) : AVE 5 (.tuple [.eslice,i64 e]) (.tuple [ints (prsL s),i64 (prsE s)]) := by
  rw [prsL,h,if_neg h0]
  exact ave_tup2 (k := 4) rfl rfl
theorem fin_ok {s : ByteArray} (h : prsE s = 0) {n : Nat} {F : Nat → List AV} (hn : n = (wdsG s).length) (hF : ∀ i,i < n → F i = [i64 (atoiV (wdG s i))]) : AVE 5 (.tuple [.rslice 1 n F,i64 0]) (.tuple [ints (prsL s),i64 (prsE s)]) := by
  rw [prsL,h,if_pos rfl]
  exact ave_tup2 (k := 4) ⟨rfl,by rw [List.length_map]; exact hn,fun i hi=>by show F i = [i64 (((wdsG s).map atoiV).getD i 0)]; rw [hF i hi,getD_mapG atoiV (wdsG s) i ByteArray.empty 0 (by omega)]⟩ rfl
theorem Sound1.ave1 {f : FuncId} {x y r : AV} {fr : Bool} (h : SP f [y] r fr) (hx : AVE 5 x y) : SP f [x] r fr :=
  ⟨h.1,fun w q vs hq hg hs hv=>h.2 w q vs hq hg hs fun i z hz=>match i,hz with
    | 0,hz=>by cases hz; exact AVE_ok 5 hx (hv 0 _ rfl)⟩
theorem ave_wds {s : ByteArray} {n : Nat} {F : Nat → List AV} (hn : n = (wdsG s).length) (hF : ∀ i,i < n → F i = [i64 (atoiV (wdG s i))]) {k : Nat} : AVE (k + 1) (.rslice 1 n F) (ints ((wdsG s).map atoiV)) :=
  ⟨rfl,by rw [List.length_map]; exact hn,fun i hi=>by show F i = [i64 (((wdsG s).map atoiV).getD i 0)]; rw [hF i hi,getD_mapG atoiV (wdsG s) i ByteArray.empty 0 (by omega)]⟩
theorem app_int {f : Nat → Int} {m i : Nat} {x : Int} (hx : x = f m) (hi : i < m + 1) : (if i < m then [i64 (f (0 + i))] else List.take (0 + 1) (List.drop ((i - m) * (0 + 1)) [i64 x])) = [i64 (f i)] := by
 by_cases h : i < m
 ·rw [if_pos h,Nat.zero_add]
 ·obtain rfl : i = m := by omega
  rw [if_neg h,Nat.sub_self,hx]; rfl
theorem S27w (w : ByteArray) (hs : w.size ≤ 1000000000) : SP 27 [sv w,i64 7] (.tuple [i64 (if okG w then atoiV w else 0),vb (okG w)]) false := by
 have h := S27 w hs
 obtain ⟨h1,h2⟩ := num_ref w
 unfold okG
 rw [refN] at h
 rw [h1]
 by_cases hr : refOk w.data.toList 7 = true
 ·rw [if_pos hr] at h ⊢
  rw [h2 hr]; exact h
 ·rw [if_neg hr] at h ⊢
  exact h
theorem S8 (s : ByteArray) (hs : s.size ≤ 900000) : SP 8 [sv s] (.tuple [ints (prsL s),i64 (prsE s)]) false := by
 have h26 : SP 26 [sv s,.val (.int .u8 32)] (strsA (wdsG s)) false := S26 s 32 (by omega)
 have hln : 0 < (wdsG s).length ∧ (wdsG s).length ≤ s.size + 1 := sep_len s 32
 refine sound (d := 2) tok2 mixed2 Tryz.func8 (by kernel_rfl) (by kernel_rfl) ?_
 (conv=>whnf); refine .inl ⟨_,_,byX rfl (h26),?_⟩
 (conv=>whnf); refine ⟨[.slot 5 1],[4,5,6],fun st mq=>∃ (m : Nat),(m ≤ (wdsG s).length) ∧ (∀ i,i < m → okG (wdG s i) = true) ∧ st = ⟨[(4,strsA (wdsG s)),(5,.oslice 0 0 0 m none),(6,i64 m)],⟨[⟨1,m,fun i=>[i64 (atoiV (wdG s i))],0,false,true,false⟩],[],none,0⟩,[]⟩ ∧ mq = (wdsG s).length - m,
  ⟨_,_,⟨0,by omega,(fun i h=>by omega),rfl,rfl⟩,⟨⟨.inl rfl,rfl,rfl,rfl⟩,⟨⟨rfl,rfl,rfl,rfl,fun _=>rfl,fun i h=>.inl (absurd h (Nat.not_lt_zero i))⟩,trivial⟩,trivial⟩⟩,?_⟩
 rintro s0 m0 ⟨m,hm,ho,rfl,hmeas⟩
 by_cases hlt : m < (wdsG s).length
 ·have hsz : (wdG s m).size ≤ s.size := sepL_size s (byteB 32) m
  have h27 := S27w (wdG s m) (by omega)
  cases hn : okG (wdG s m) with
  | false =>
   have hf := fin_err (ok_no hlt hn) (by decide)
   rw [hn] at h27
   conv=>whnf
   (conv=>whnf); refine ifB_dec (fun w1=>?_) (fun w1=>?_)
   ·conv=>whnf
    (conv=>whnf); refine ⟨⟨(by omega),(by omega)⟩,?_⟩
    conv=>whnf
    (conv=>whnf); refine .inl ⟨_,_,byX rfl (Sound1.pl (h27) rfl),?_⟩
    conv=>whnf
    (conv=>whnf); refine ⟨?_,nofun⟩
    (first | omega | exact hf)
   ·(exfalso; omega)
  | true =>
   rw [hn,if_pos rfl] at h27
   conv=>whnf
   (conv=>whnf); refine ifB_dec (fun w1=>?_) (fun w1=>?_)
   ·conv=>whnf
    (conv=>whnf); refine ⟨⟨(by omega),(by omega)⟩,?_⟩
    conv=>whnf
    (conv=>whnf); refine .inl ⟨_,_,byX rfl (Sound1.pl (h27) rfl),?_⟩
    conv=>whnf
    (conv=>whnf); refine .inl ?_
    conv=>whnf
    (conv=>whnf); refine ⟨(by show _ * (8 + 1) ≤ _; omega),?_⟩
    conv=>whnf
    (conv=>whnf); refine ⟨inK64 (by omega) (by omega),?_⟩
    conv=>whnf
    (conv=>whnf); refine ⟨_,_,⟨⟨m + 1,by omega,(fun j hj=>by by_cases e : j = m; (rw [e]; exact hn); exact ho j (by omega)),rfl,rfl⟩,by omega⟩,⟨⟨.inl rfl,rfl,rfl,rfl⟩,⟨⟨rfl,rfl,rfl,rfl,fun _=>rfl,fun j hj=>.inl ((app_int (f := fun i=>atoiV (wdG s i)) rfl hj).symm)⟩,trivial⟩,trivial⟩⟩
   ·(exfalso; omega)
 ·have he : m = (wdsG s).length := by omega
  have hall : prsE s = polyE ((wdsG s).map atoiV) := ok_all (fun j hj=>ho j (by omega))
  have h11 : ∀ {n : Nat} {F : Nat → List AV},n = m → (∀ i,i < m → F i = [i64 (atoiV (wdG s i))]) → SP 11 [.rslice 1 n F] (i64 (polyE ((wdsG s).map atoiV))) false := fun {n F} hn hF=>Sound1.ave1 (S11 _ (by rw [List.length_map]; omega)) (ave_wds (by omega) fun i hi=>hF i (by omega))
  by_cases hc : polyE ((wdsG s).map atoiV) = 0
  ·rw [hc] at h11 hall
   conv=>whnf
   (conv=>whnf); refine ifB_dec (fun w1=>?_) (fun w1=>?_)
   ·(exfalso; omega)
   ·conv=>whnf
    (conv=>whnf); refine .inl ⟨_,_,byX rfl (Sound1.pl (h11 ?_ ?_) rfl),?_⟩
    ·(first | omega | exact fun i hi=>rfl | exact fin_ok hall (by omega) (fun i hi=>rfl))
    ·(first | omega | exact fun i hi=>rfl | exact fin_ok hall (by omega) (fun i hi=>rfl))
    ·conv=>whnf
     (conv=>whnf); refine ⟨?_,nofun⟩
     (first | omega | exact fun i hi=>rfl | exact fin_ok hall (by omega) (fun i hi=>rfl))
  ·have hf := fin_err hall hc
   conv=>whnf
   (conv=>whnf); refine ifB_dec (fun w1=>?_) (fun w1=>?_)
   ·(exfalso; omega)
   ·conv=>whnf
    (conv=>whnf); refine .inl ⟨_,_,byX rfl (Sound1.pl (h11 ?_ ?_) rfl),?_⟩
    ·(first | omega | contradiction | exact fun i hi=>rfl | exact hf)
    ·(first | omega | contradiction | exact fun i hi=>rfl | exact hf)
    ·conv=>whnf
     (conv=>whnf); refine ifB_bne (fun w2=>?_) (fun w2=>?_)
     ·conv=>whnf
      (conv=>whnf); refine ⟨?_,nofun⟩
      (first | omega | contradiction | exact fun i hi=>rfl | exact hf)
     ·(exfalso; omega)
end Go.Tr

/- Polynomials as strings: ParsePolynomial. Conditions: none. -/
-- seat YtadidnljgmlaoaaGreatDoor
namespace Go.Tr
open Go Go.Proofs
set_option maxRecDepth 20000
set_option maxHeartbeats 8000000

theorem okG_1 {w : ByteArray} (h : atoiOk w = false) : okG w = false := by
  unfold okG numO; rw [h]; rfl
theorem okG_2 {w : ByteArray} (h : ((itoaB (atoiV w)).toList == w.toList) = false) : okG w = false := by
  unfold okG numO; rw [h,Bool.and_false]; rfl
theorem okG_3 {w : ByteArray} (h : ¬ (Lib.trimPrefix w.data.toList [45]).length ≤ 7) : okG w = false := by
  unfold okG numO; rw [decide_eq_false h,Bool.and_false]
theorem okG_y {w : ByteArray} (h1 : atoiOk w = true) (h2 : ((itoaB (atoiV w)).toList == w.toList) = true) (h3 : (Lib.trimPrefix w.data.toList [45]).length ≤ 7) : okG w = true := by
  unfold okG numO; rw [h1,h2,decide_eq_true h3]; rfl
set_option maxHeartbeats 4000000 in
theorem S7 (s : ByteArray) (hs : s.size ≤ 900000) : SP 7 [sv s] (.tuple [ints (prsL s), i64 (prsE s)]) false := by
 refine sound (d := 2) tok2 mixed2 Tryz.func7 (by kernel_rfl) (by kernel_rfl) ?_
 (conv=>whnf); refine .inr (.inl ⟨[],?_⟩)
 (conv=>whnf); refine .inr (.inl ⟨[],?_⟩)
 (conv=>whnf); refine ⟨(by first | rfl | assumption),?_⟩
 refine ⟨_,keep_ok [2,3,4,10] _,?_⟩
 (conv=>whnf); refine ⟨[.cell 2 0 1],[0,1,2,3],fun st mq=>∃ (m : Nat) (R : ByteArray),(SqAt s R m) ∧ (R.size ≤ s.size) ∧ (∀ i,i < m → okG (wdG s i) = true) ∧ st = ⟨[(0,.yld 0),(1,.optr 4 0 0 0),(2,.optr 3 0 0 0),(3,.optr 5 0 0 0)],⟨[⟨1,1,fun _=>[.eslice],0,false,true,true⟩,⟨1,1,fun _=>[i64 0],0,false,true,true⟩,⟨1,1,fun _=>[.oslice 6 0 0 m none],0,false,false,true⟩,⟨1,1,fun _=>[sv R],0,false,true,true⟩,⟨1,1,fun _=>[sv ⟨#[32]⟩],0,false,true,true⟩,⟨1,1,fun _=>[i64 0],0,false,true,true⟩,⟨1,m,fun i=>[i64 (atoiV (wdG s i))],0,false,true,false⟩],[],none,1⟩,[(2,.optr 0 0 0 0),(3,.optr 1 0 0 0),(4,.optr 2 0 0 0),(10,.func (.func 87) 0 [.optr 4 0 0 0,.optr 3 0 0 0,.optr 5 0 0 0])]⟩ ∧ mq = R.size,
  ⟨_,_,⟨0,s,sep_cut s 32,by omega,(fun i h=>by omega),rfl,rfl⟩,⟨⟨.inl rfl,rfl,rfl,rfl⟩,⟨⟨rfl,rfl,rfl,rfl,fun _=>rfl,fun _ _=>.inl rfl⟩,⟨⟨rfl,rfl,rfl,rfl,fun _=>rfl,fun _ _=>.inl rfl⟩,⟨⟨rfl,rfl,rfl,rfl,nofun,fun _ _=>.inl rfl⟩,⟨⟨rfl,rfl,rfl,rfl,fun _=>rfl,fun _ _=>.inl rfl⟩,⟨⟨rfl,rfl,rfl,rfl,fun _=>rfl,fun _ _=>.inl rfl⟩,⟨⟨rfl,rfl,rfl,rfl,fun _=>rfl,fun _ _=>.inl rfl⟩,⟨⟨rfl,rfl,rfl,rfl,fun _=>rfl,fun i h=>.inl (absurd h (Nat.not_lt_zero i))⟩,trivial⟩⟩⟩⟩⟩⟩⟩,trivial⟩⟩,?_⟩
 rintro s0 m0 ⟨m,R,hR,hz,ho,rfl,hmeas⟩
 have h89 : SP 89 [sv R,sv (byteB 32)] (i64 (Lib.index R.data.toList [32])) true := S89 R (byteB 32) (by omega)
 have hsz : (wdG s m).size ≤ s.size := sepL_size s (byteB 32) m
 by_cases hi : Lib.index R.data.toList [32] = -1
 ·obtain ⟨hlen, hW⟩ := sq_end hR hi
  have hm : m < (wdsG s).length := by omega
  have h23 := S23 R (by omega)
  have h20 := S20 (atoiV R) (atoiV_in R).1 (atoiV_in R).2
  have h24 := S24 R ⟨#[45]⟩
  rw [hi] at h89
  cases hok : atoiOk R with
  | false =>
   have hf := fin_err (ok_no hm (by rw [← hW]; exact okG_1 hok)) (by decide)
   rw [hok] at h23
   conv=>whnf
   (conv=>whnf); refine .inl ⟨_,_,byX rfl (h89),?_⟩
   conv=>whnf
   (conv=>whnf); refine ⟨(by first | rfl | assumption),?_⟩
   conv=>whnf
   (conv=>whnf); refine .inl ⟨_,_,byX rfl (h23),?_⟩
   conv=>whnf
   (conv=>whnf); refine ⟨?_,nofun⟩
   (first | omega | exact hf)
  | true =>
   rw [hok] at h23
   cases he : ((itoaB (atoiV R)).toList == R.toList) with
   | false =>
    have hf := fin_err (ok_no hm (by rw [← hW]; exact okG_2 he)) (by decide)
    conv=>whnf
    (conv=>whnf); refine .inl ⟨_,_,byX rfl (h89),?_⟩
    conv=>whnf
    (conv=>whnf); refine ⟨(by first | rfl | assumption),?_⟩
    conv=>whnf
    (conv=>whnf); refine .inl ⟨_,_,byX rfl (Sound1.pl (h23) rfl),?_⟩
    conv=>whnf
    (conv=>whnf); refine .inl ⟨_,_,byX rfl (h20),?_⟩
    conv=>whnf
    (conv=>whnf); refine ifB_not ?_
    conv=>whnf
    (conv=>whnf); refine ifB_intro (fun w1=>?_) (fun w1=>?_)
    ·exact absurd (he.symm.trans w1) nofun
    ·conv=>whnf
     (conv=>whnf); refine ⟨?_,nofun⟩
     (first | omega | exact hf)
   | true =>
    by_cases h7 : (Lib.trimPrefix R.data.toList [45]).length ≤ 7
    ·have hok2 : okG (wdG s m) = true := by rw [← hW]; exact okG_y hok he h7
     have hall : prsE s = polyE ((wdsG s).map atoiV) := ok_all fun j hj=>by by_cases e : j = m; (rw [e]; exact hok2); exact ho j (by omega)
     have hlt2 : (wdsG s).length ≤ s.size + 1 := (sep_len s 32).2
     have h25 : ∀ {n : Nat} {F : Nat → List AV},n = m + 1 → (∀ i,i < m + 1 → F i = [i64 (atoiV (wdG s i))]) → SP 25 [.rslice 1 n F] (i64 (polyE ((wdsG s).map atoiV))) false := fun {n F} hn hF=>Sound1.ave1 (S25 _ (by rw [List.length_map]; omega)) (ave_wds (by omega) fun i hi=>hF i (by omega))
     have hsm : (ByteArray.mk (Lib.trimPrefix R.data.toList (⟨#[45]⟩ : ByteArray).data.toList).toArray).size ≤ 7 := by rw [size_mk]; exact h7
     have hap : ∀ i,i < m + 1 → (if i < m then [i64 (atoiV (wdG s (0 + i)))] else List.take (0 + 1) (List.drop ((i - m) * (0 + 1)) [i64 (atoiV R)])) = [i64 (atoiV (wdG s i))] := fun i hi=>app_int (f := fun i=>atoiV (wdG s i)) (by rw [hW]) hi
     by_cases hc : polyE ((wdsG s).map atoiV) = 0
     ·rw [hc] at h25 hall
      conv=>whnf
      (conv=>whnf); refine .inl ⟨_,_,byX rfl (h89),?_⟩
      conv=>whnf
      (conv=>whnf); refine ⟨(by first | rfl | assumption),?_⟩
      conv=>whnf
      (conv=>whnf); refine .inl ⟨_,_,byX rfl (Sound1.pl (h23) rfl),?_⟩
      conv=>whnf
      (conv=>whnf); refine .inl ⟨_,_,byX rfl (h20),?_⟩
      conv=>whnf
      (conv=>whnf); refine ifB_not ?_
      conv=>whnf
      (conv=>whnf); refine ifB_intro (fun w1=>?_) (fun w1=>?_)
      ·conv=>whnf
       (conv=>whnf); refine .inl ⟨_,_,byX rfl (h24),?_⟩
       conv=>whnf
       (conv=>whnf); refine ifB_dec (fun w2=>?_) (fun w2=>?_)
       ·(exfalso; omega)
       ·conv=>whnf
        (conv=>whnf); refine .inl ?_
        conv=>whnf
        (conv=>whnf); refine ⟨(by show _ * (8 + 1) ≤ _; omega),?_⟩
        conv=>whnf
        (conv=>whnf); refine .inl ⟨_,_,byX rfl (Sound1.pl (h25 (by first | omega | assumption | simp) (by first | omega | assumption | simp)) rfl),?_⟩
        conv=>whnf
        (conv=>whnf); refine ⟨?_,nofun⟩
        (first | omega | exact hap | exact fin_ok hall (by omega) hap)
      ·exact absurd (he.symm.trans w1) nofun
     ·have hf := fin_err hall hc
      conv=>whnf
      (conv=>whnf); refine .inl ⟨_,_,byX rfl (h89),?_⟩
      conv=>whnf
      (conv=>whnf); refine ⟨(by first | rfl | assumption),?_⟩
      conv=>whnf
      (conv=>whnf); refine .inl ⟨_,_,byX rfl (Sound1.pl (h23) rfl),?_⟩
      conv=>whnf
      (conv=>whnf); refine .inl ⟨_,_,byX rfl (h20),?_⟩
      conv=>whnf
      (conv=>whnf); refine ifB_not ?_
      conv=>whnf
      (conv=>whnf); refine ifB_intro (fun w1=>?_) (fun w1=>?_)
      ·conv=>whnf
       (conv=>whnf); refine .inl ⟨_,_,byX rfl (h24),?_⟩
       conv=>whnf
       (conv=>whnf); refine ifB_dec (fun w2=>?_) (fun w2=>?_)
       ·(exfalso; omega)
       ·conv=>whnf
        (conv=>whnf); refine .inl ?_
        conv=>whnf
        (conv=>whnf); refine ⟨(by show _ * (8 + 1) ≤ _; omega),?_⟩
        conv=>whnf
        (conv=>whnf); refine .inl ⟨_,_,byX rfl (Sound1.pl (h25 (by first | omega | assumption | simp) (by first | omega | assumption | simp)) rfl),?_⟩
        conv=>whnf
        (conv=>whnf); refine ifB_bne (fun w3=>?_) (fun w3=>?_)
        ·conv=>whnf
         (conv=>whnf); refine ⟨?_,nofun⟩
         (first | omega | contradiction | exact hap | exact hf)
        ·(exfalso; omega)
      ·exact absurd (he.symm.trans w1) nofun
    ·have hf := fin_err (ok_no hm (by rw [← hW]; exact okG_3 h7)) (by decide)
     have hsm : ¬ (ByteArray.mk (Lib.trimPrefix R.data.toList (⟨#[45]⟩ : ByteArray).data.toList).toArray).size ≤ 7 := by rw [size_mk]; exact h7
     conv=>whnf
     (conv=>whnf); refine .inl ⟨_,_,byX rfl (h89),?_⟩
     conv=>whnf
     (conv=>whnf); refine ⟨(by first | rfl | assumption),?_⟩
     conv=>whnf
     (conv=>whnf); refine .inl ⟨_,_,byX rfl (Sound1.pl (h23) rfl),?_⟩
     conv=>whnf
     (conv=>whnf); refine .inl ⟨_,_,byX rfl (h20),?_⟩
     conv=>whnf
     (conv=>whnf); refine ifB_not ?_
     conv=>whnf
     (conv=>whnf); refine ifB_intro (fun w1=>?_) (fun w1=>?_)
     ·conv=>whnf
      (conv=>whnf); refine .inl ⟨_,_,byX rfl (h24),?_⟩
      conv=>whnf
      (conv=>whnf); refine ifB_dec (fun w2=>?_) (fun w2=>?_)
      ·conv=>whnf
       (conv=>whnf); refine ⟨?_,nofun⟩
       (first | omega | exact hf)
      ·(exfalso; omega)
     ·exact absurd (he.symm.trans w1) nofun
 ·obtain ⟨i,hi⟩ : ∃ i : Nat,Lib.index R.data.toList [32] = i := ⟨(Lib.index R.data.toList [32]).toNat,by have := Lib.index_ge R.data.toList [32]; omega⟩
  obtain ⟨hm,hW0,hR2,hiR⟩ := sq_hit hR hi
  have hW : R.extract (Int.toNat 0) ((i : Int) + 0).toNat = wdG s m := hW0
  have hwz : (R.extract (Int.toNat 0) ((i : Int) + 0).toNat).size ≤ R.size := by show (R.extract 0 i).size ≤ R.size; rw [ByteArray.size_extract]; omega
  have h23 := S23 (R.extract (Int.toNat 0) ((i : Int) + 0).toNat) (by omega)
  have h20 := S20 (atoiV (R.extract (Int.toNat 0) ((i : Int) + 0).toNat)) (atoiV_in (R.extract (Int.toNat 0) ((i : Int) + 0).toNat)).1 (atoiV_in (R.extract (Int.toNat 0) ((i : Int) + 0).toNat)).2
  have h24 := S24 (R.extract (Int.toNat 0) ((i : Int) + 0).toNat) ⟨#[45]⟩
  rw [hi] at h89
  cases hok : atoiOk (R.extract (Int.toNat 0) ((i : Int) + 0).toNat) with
  | false =>
   have hf := fin_err (ok_no hm (by rw [← hW]; exact okG_1 hok)) (by decide)
   rw [hok] at h23
   conv=>whnf
   (conv=>whnf); refine .inl ⟨_,_,byX rfl (h89),?_⟩
   conv=>whnf
   (conv=>whnf); refine ⟨inK64 (by omega) (by omega),?_⟩
   conv=>whnf
   (conv=>whnf); refine ⟨⟨(by omega),⟨(by omega),(by omega)⟩⟩,?_⟩
   conv=>whnf
   (conv=>whnf); refine ⟨(by first | rfl | assumption),?_⟩
   conv=>whnf
   (conv=>whnf); refine .inl ⟨_,_,byX rfl (h23),?_⟩
   conv=>whnf
   (conv=>whnf); refine ⟨?_,nofun⟩
   (first | omega | exact hf)
  | true =>
   rw [hok] at h23
   cases he : ((itoaB (atoiV (R.extract (Int.toNat 0) ((i : Int) + 0).toNat))).toList == (R.extract (Int.toNat 0) ((i : Int) + 0).toNat).toList) with
   | false =>
    have hf := fin_err (ok_no hm (by rw [← hW]; exact okG_2 he)) (by decide)
    conv=>whnf
    (conv=>whnf); refine .inl ⟨_,_,byX rfl (h89),?_⟩
    conv=>whnf
    (conv=>whnf); refine ⟨inK64 (by omega) (by omega),?_⟩
    conv=>whnf
    (conv=>whnf); refine ⟨⟨(by omega),⟨(by omega),(by omega)⟩⟩,?_⟩
    conv=>whnf
    (conv=>whnf); refine ⟨(by first | rfl | assumption),?_⟩
    conv=>whnf
    (conv=>whnf); refine .inl ⟨_,_,byX rfl (Sound1.pl (h23) rfl),?_⟩
    conv=>whnf
    (conv=>whnf); refine .inl ⟨_,_,byX rfl (h20),?_⟩
    conv=>whnf
    (conv=>whnf); refine ifB_not ?_
    conv=>whnf
    (conv=>whnf); refine ifB_intro (fun w1=>?_) (fun w1=>?_)
    ·exact absurd (he.symm.trans w1) nofun
    ·conv=>whnf
     (conv=>whnf); refine ⟨?_,nofun⟩
     (first | omega | exact hf)
   | true =>
    by_cases h7 : (Lib.trimPrefix (R.extract (Int.toNat 0) ((i : Int) + 0).toNat).data.toList [45]).length ≤ 7
    ·have hok2 : okG (wdG s m) = true := by rw [← hW]; exact okG_y hok he h7
     have hby : Tryz.prog.types[3].bytes = 8 := by kernel_rfl
     have hlt2 : (wdsG s).length ≤ s.size + 1 := (sep_len s 32).2
     have hneed : (m + 1) * (Tryz.prog.types[3].bytes + 1) ≤ 1000000000000 := by rw [hby]; omega
     have hsm : (ByteArray.mk (Lib.trimPrefix (R.extract (Int.toNat 0) ((i : Int) + 0).toNat).data.toList (⟨#[45]⟩ : ByteArray).data.toList).toArray).size ≤ 7 := by rw [size_mk]; exact h7
     have hR3 : SqAt s (R.extract (((i : Int) + ((⟨#[32]⟩ : ByteArray).size : Int)).toNat) ((R.size : Int).toNat)) (m + 1) := hR2
     have hR4 : (R.extract (((i : Int) + ((⟨#[32]⟩ : ByteArray).size : Int)).toNat) ((R.size : Int).toNat)).size = R.size - (i + 1) := by show (R.extract (i + 1) R.size).size = _; rw [ByteArray.size_extract]; omega
     have hone : (⟨#[32]⟩ : ByteArray).size = 1 := rfl
     have hap : ∀ j,j < m + 1 → (if j < m then [i64 (atoiV (wdG s (0 + j)))] else List.take (0 + 1) (List.drop ((j - m) * (0 + 1)) [i64 (atoiV (R.extract (Int.toNat 0) ((i : Int) + 0).toNat))])) = [i64 (atoiV (wdG s j))] := fun j hj=>app_int (f := fun i=>atoiV (wdG s i)) (by rw [hW]) hj
     conv=>whnf
     (conv=>whnf); refine .inl ⟨_,_,byX rfl (h89),?_⟩
     conv=>whnf
     (conv=>whnf); refine ⟨inK64 (by omega) (by omega),?_⟩
     conv=>whnf
     (conv=>whnf); refine ⟨⟨(by omega),⟨(by omega),(by omega)⟩⟩,?_⟩
     conv=>whnf
     (conv=>whnf); refine ⟨(by first | rfl | assumption),?_⟩
     conv=>whnf
     (conv=>whnf); refine .inl ⟨_,_,byX rfl (Sound1.pl (h23) rfl),?_⟩
     conv=>whnf
     (conv=>whnf); refine .inl ⟨_,_,byX rfl (h20),?_⟩
     conv=>whnf
     (conv=>whnf); refine ifB_not ?_
     conv=>whnf
     (conv=>whnf); refine ifB_intro (fun w1=>?_) (fun w1=>?_)
     ·conv=>whnf
      (conv=>whnf); refine .inl ⟨_,_,byX rfl (h24),?_⟩
      conv=>whnf
      (conv=>whnf); refine ifB_dec (fun w2=>?_) (fun w2=>?_)
      ·(exfalso; omega)
      ·conv=>whnf
       (conv=>whnf); refine .inl ?_
       conv=>whnf
       (conv=>whnf); refine ⟨(by show _ * (8 + 1) ≤ _; omega),?_⟩
       conv=>whnf
       (conv=>whnf); refine ⟨inK64 (by omega) (by omega),?_⟩
       conv=>whnf
       (conv=>whnf); refine ⟨⟨(by omega),⟨(by omega),(by omega)⟩⟩,?_⟩
       conv=>whnf
       (conv=>whnf); refine ⟨_,_,⟨⟨m + 1,R.extract (((i : Int) + ((⟨#[32]⟩ : ByteArray).size : Int)).toNat) ((R.size : Int).toNat),hR3,(by rw [hR4]; omega),(fun j hj=>by by_cases e : j = m; (rw [e]; exact hok2); exact ho j (by omega)),rfl,rfl⟩,by omega⟩,⟨⟨.inl rfl,rfl,rfl,rfl⟩,⟨⟨rfl,rfl,rfl,rfl,fun _=>rfl,fun _ _=>.inl rfl⟩,⟨⟨rfl,rfl,rfl,rfl,fun _=>rfl,fun _ _=>.inl rfl⟩,⟨⟨rfl,rfl,rfl,rfl,nofun,fun _ _=>.inl rfl⟩,⟨⟨rfl,rfl,rfl,rfl,fun _=>rfl,fun _ _=>.inl rfl⟩,⟨⟨rfl,rfl,rfl,rfl,fun _=>rfl,fun _ _=>.inl rfl⟩,⟨⟨rfl,rfl,rfl,rfl,fun _=>rfl,fun _ _=>.inl rfl⟩,⟨⟨rfl,rfl,rfl,rfl,fun _=>rfl,fun j hj=>.inl ((hap j hj).symm)⟩,trivial⟩⟩⟩⟩⟩⟩⟩,trivial⟩⟩
     ·exact absurd (he.symm.trans w1) nofun
    ·have hf := fin_err (ok_no hm (by rw [← hW]; exact okG_3 h7)) (by decide)
     have hsm : ¬ (ByteArray.mk (Lib.trimPrefix (R.extract (Int.toNat 0) ((i : Int) + 0).toNat).data.toList (⟨#[45]⟩ : ByteArray).data.toList).toArray).size ≤ 7 := by rw [size_mk]; exact h7
     conv=>whnf
     (conv=>whnf); refine .inl ⟨_,_,byX rfl (h89),?_⟩
     conv=>whnf
     (conv=>whnf); refine ⟨inK64 (by omega) (by omega),?_⟩
     conv=>whnf
     (conv=>whnf); refine ⟨⟨(by omega),⟨(by omega),(by omega)⟩⟩,?_⟩
     conv=>whnf
     (conv=>whnf); refine ⟨(by first | rfl | assumption),?_⟩
     conv=>whnf
     (conv=>whnf); refine .inl ⟨_,_,byX rfl (Sound1.pl (h23) rfl),?_⟩
     conv=>whnf
     (conv=>whnf); refine .inl ⟨_,_,byX rfl (h20),?_⟩
     conv=>whnf
     (conv=>whnf); refine ifB_not ?_
     conv=>whnf
     (conv=>whnf); refine ifB_intro (fun w1=>?_) (fun w1=>?_)
     ·conv=>whnf
      (conv=>whnf); refine .inl ⟨_,_,byX rfl (h24),?_⟩
      conv=>whnf
      (conv=>whnf); refine ifB_dec (fun w2=>?_) (fun w2=>?_)
      ·conv=>whnf
       (conv=>whnf); refine ⟨?_,nofun⟩
       (first | omega | exact hf)
      ·(exfalso; omega)
     ·exact absurd (he.symm.trans w1) nofun
end Go.Tr

/- GovernorStrings: the law. Conditions: none. -/
-- seat YtadidnljgmlaoaaGreatDoor
namespace Go.Tr
open Go Go.Proofs
set_option maxRecDepth 20000
set_option maxHeartbeats 8000000

theorem prsL_len (s : ByteArray) : (prsL s).length ≤ s.size + 1 := by
 have := (sep_len s 32).2
 unfold prsL
 split
 ·rw [List.length_map]; exact this
 ·exact Nat.zero_le _
theorem S10s (l : List Int) (h : l.length ≤ 1000000) : SP 10 [ints l,ints l] (vb true) false := by
 have := S10 l l (by omega) (by omega)
 rw [decide_eq_true rfl] at this
 exact this
theorem fmtL_le {l : List Int} (h : ∀ x ∈ l,I64 x) (hl : l.length ≤ 100) : (fmtL l).size ≤ 2200 := by
  rw [← up_e]; exact up_le h hl _
theorem S3 (l : List Int) (s : ByteArray) (hl : l.length ≤ 9223372036854775807) (hi : ∀ x ∈ l, I64 x) (hs : s.size ≤ 9223372036854775807) : SP 3 [ints l, sv s] (vb true) false := by
 have h4 := S4
 by_cases hf : l.length ≤ 10
 ·by_cases h1 : s.size ≤ 100
  ·have h6 := S6 l (by omega)
   have h5 := S5 l (by omega) hi
   have h9 := S9 l (by omega) hi
   have h7 := S7 s (by omega)
   have h8 := S8 s (by omega)
   have hp := prsL_len s
   have h10 := S10s (prsL s) (by omega)
   have h11 := S11 l (by omega)
   have hz := fmtL_le hi (by omega)
   have htt : ((fmtL l).toList == (fmtL l).toList) = true := by simp
   have d7 := S7 (fmtL l) (by omega)
   have d10 := S10s l (by omega)
   by_cases hc : polyE l = 0
   ·obtain ⟨b1,b2⟩ := poly_back hc
    rw [b1,b2] at d7
    rw [hc] at h11
    refine sound (d := 2) tok2 mixed2 Tryz.func3 (by kernel_rfl) (by kernel_rfl) ?_
    (conv=>whnf); refine .inl ⟨_,_,byX rfl (Sound1.pl (h4) rfl),?_⟩
    (conv=>whnf); refine ifB_dec (fun w1=>?_) (fun w1=>?_)
    ·(exfalso; omega)
    ·(conv=>whnf); refine ifB_dec (fun w2=>?_) (fun w2=>?_)
     ·(exfalso; omega)
     ·(conv=>whnf); refine .inl ⟨_,_,byX rfl (h6),?_⟩
      (conv=>whnf); refine .inl ⟨_,_,byX rfl (Sound1.pl (h5) rfl),?_⟩
      (conv=>whnf); refine .inl ⟨_,_,byX rfl (h7),?_⟩
      (conv=>whnf); refine .inl ⟨_,_,byX rfl (h8),?_⟩
      (conv=>whnf); refine .inl ⟨_,_,byX rfl (Sound1.pl (h9) rfl),?_⟩
      (conv=>whnf); refine ifB_not ?_
      (conv=>whnf); refine ifB_intro (fun w3=>?_) (fun w3=>?_)
      ·(conv=>whnf); refine ifB_bne (fun w4=>?_) (fun w4=>?_)
       ·(exfalso; omega)
       ·(conv=>whnf); refine .inl ⟨_,_,byX rfl (Sound1.pl (h10) rfl),?_⟩
        (conv=>whnf); refine .inl ⟨_,_,byX rfl (Sound1.pl (h11) rfl),?_⟩
        (conv=>whnf); refine .inl ⟨_,_,byX rfl (d7),?_⟩
        (conv=>whnf); refine .inl ⟨_,_,byX rfl (Sound1.pl (d10) rfl),?_⟩
        (conv=>whnf); refine ⟨?_,nofun⟩
        (first | omega | contradiction | exact rfl)
      ·exact absurd (htt.symm.trans w3) nofun
   ·refine sound (d := 2) tok2 mixed2 Tryz.func3 (by kernel_rfl) (by kernel_rfl) ?_
    (conv=>whnf); refine .inl ⟨_,_,byX rfl (Sound1.pl (h4) rfl),?_⟩
    (conv=>whnf); refine ifB_dec (fun w1=>?_) (fun w1=>?_)
    ·(exfalso; omega)
    ·(conv=>whnf); refine ifB_dec (fun w2=>?_) (fun w2=>?_)
     ·(exfalso; omega)
     ·(conv=>whnf); refine .inl ⟨_,_,byX rfl (h6),?_⟩
      (conv=>whnf); refine .inl ⟨_,_,byX rfl (Sound1.pl (h5) rfl),?_⟩
      (conv=>whnf); refine .inl ⟨_,_,byX rfl (h7),?_⟩
      (conv=>whnf); refine .inl ⟨_,_,byX rfl (h8),?_⟩
      (conv=>whnf); refine .inl ⟨_,_,byX rfl (Sound1.pl (h9) rfl),?_⟩
      (conv=>whnf); refine ifB_not ?_
      (conv=>whnf); refine ifB_intro (fun w3=>?_) (fun w3=>?_)
      ·(conv=>whnf); refine ifB_bne (fun w4=>?_) (fun w4=>?_)
       ·(exfalso; omega)
       ·(conv=>whnf); refine .inl ⟨_,_,byX rfl (Sound1.pl (h10) rfl),?_⟩
        (conv=>whnf); refine .inl ⟨_,_,byX rfl (Sound1.pl (h11) rfl),?_⟩
        (conv=>whnf); refine ifB_bne (fun w5=>?_) (fun w5=>?_)
        ·(conv=>whnf); refine ⟨?_,nofun⟩
         (first | omega | contradiction | exact rfl)
        ·(exfalso; omega)
      ·exact absurd (htt.symm.trans w3) nofun
  ·refine sound (d := 2) tok2 mixed2 Tryz.func3 (by kernel_rfl) (by kernel_rfl) ?_
   (conv=>whnf); refine .inl ⟨_,_,byX rfl (Sound1.pl (h4) rfl),?_⟩
   (conv=>whnf); refine ifB_dec (fun w1=>?_) (fun w1=>?_)
   ·(exfalso; omega)
   ·(conv=>whnf); refine ifB_dec (fun w2=>?_) (fun w2=>?_)
    ·(conv=>whnf); refine ⟨?_,nofun⟩
     (first | omega | contradiction | exact rfl)
    ·(exfalso; omega)
 ·refine sound (d := 2) tok2 mixed2 Tryz.func3 (by kernel_rfl) (by kernel_rfl) ?_
  (conv=>whnf); refine .inl ⟨_,_,byX rfl (Sound1.pl (h4) rfl),?_⟩
  (conv=>whnf); refine ifB_dec (fun w1=>?_) (fun w1=>?_)
  ·(conv=>whnf); refine ⟨?_,nofun⟩
   (first | omega | contradiction | exact rfl)
  ·(exfalso; omega)
end Go.Tr

/- The opening of a law: what an argument reads as, as abstract values, with its shape. Conditions: types of numbers, truth values, strings, slices, structs and arrays. -/
namespace Go.Tr
open Go Go.RowKit

def V2 (P : Program) (w : World) (q : Nat → Prop) : List AV → List Value → Prop
 | [],[]=>True
 | x :: xs,v :: vs=>(VT P w q x v ∧ v.oneCell' = true) ∧ V2 P w q xs vs
 | _,_=>False

def All2 {α β : Type} (p : α → β → Prop) : List α → List β → Prop
 | [],[]=>True
 | x :: xs,y :: ys=>p x y ∧ All2 p xs ys
 | _,_=>False

def TyC (P : Program) : Nat → TypeId → List AV → Prop
 | 0,_,_=>True
 | m + 1,t,xs=>match P.underlying t with
  | some .bool=>∃ b,xs = [.val (.bool b)]
  | some (.int k)=>∃ n,xs = [.val (.int k n)] ∧ inK k n
  | some .string=>∃ s : ByteArray,xs = [.val (.string s)] ∧ s.size ≤ 9223372036854775807
  | some (.slice e)=>∃ len f,xs = [.rslice (P.cellsOf e) len f] ∧ len ≤ 9223372036854775807 ∧ ∀ i,i < len → TyC P m e (f i)
  | some (.struct fs)=>∃ ps : List (List AV),xs = ps.flatten ∧ All2 (fun f p=>TyC P m f.type p) fs.toList ps
  | some (.array n e)=>∃ ps : List (List AV),xs = ps.flatten ∧ ps.length = n ∧ ∀ p ∈ ps,TyC P m e p
  | _=>False

def layF (P : Program) (g : TypeId → Bool) : List Field → Nat → Nat → Bool
 | [],off,tot=>Nat.beq off tot
 | f :: r,off,tot=>Nat.beq f.offset off && g f.type && layF P g r (off + P.cellsOf f.type) tot

def lay (P : Program) : Nat → TypeId → Bool
 | 0,_=>false
 | m + 1,t=>match P.underlying t with
  | some .bool | some (.int _) | some .string=>true
  | some (.slice e)=>Nat.blt 0 (P.cellsOf e) && lay P m e
  | some (.struct fs)=>layF P (lay P m) fs.toList 0 (P.cellsOf t)
  | some (.array n e)=>Nat.beq (P.cellsOf t) (n * P.cellsOf e) && lay P m e
  | _=>false

section
variable {H : Type} {enc : TypeId × Value → H} {P : Program} {w : World} {spare : Nat → Bool} {held : Bool} {q : Nat → Prop}

theorem V2_len : ∀ {xs : List AV} {vs : List Value},V2 P w q xs vs → xs.length = vs.length
 | [],[],_=>rfl
 | x :: xs,v :: vs,h=>by simp [V2_len h.2]
 | [],_ :: _,h=>h.elim
 | _ :: _,[],h=>h.elim

theorem V2_append : ∀ {xs : List AV} {vs : List Value} {ys : List AV} {us : List Value},V2 P w q xs vs → V2 P w q ys us → V2 P w q (xs ++ ys) (vs ++ us)
 | [],[],_,_,_,h=>h
 | _ :: _,_ :: _,_,_,h,h'=>⟨h.1,V2_append h.2 h'⟩
 | [],_ :: _,_,_,h,_=>h.elim
 | _ :: _,[],_,_,h,_=>h.elim

theorem V2_get : ∀ {xs : List AV} {vs : List Value},V2 P w q xs vs → ∀ (i : Nat) x,xs[i]? = some x → VT P w q x (vs.getD i undef) ∧ (vs.getD i undef).oneCell' = true
 | [],[],_,i,x,hx=>by simp at hx
 | y :: ys,v :: vs,h,0,x,hx=>by
  simp at hx
  subst hx
  simpa using h.1
 | y :: ys,v :: vs,h,i + 1,x,hx=>by
  have := V2_get h.2 i x (by simpa using hx)
  simpa using this
 | [],_ :: _,h,_,_,_=>h.elim
 | _ :: _,[],h,_,_,_=>h.elim

theorem mapM_cons_some {α β : Type} {f : α → Option β} {a : α} {l : List α} {r : List β} (h : (a :: l).mapM f = some r) : ∃ b bs,f a = some b ∧ l.mapM f = some bs ∧ r = b :: bs := by
 rw [List.mapM_cons] at h
 cases ha : f a with
 | none=>simp [ha] at h
 | some b =>
  cases hl : l.mapM f with
  | none=>simp [ha,hl] at h
  | some bs=>simp [ha,hl] at h; exact ⟨b,bs,rfl,rfl,h.symm⟩

theorem mapM_get {α β : Type} {f : α → Option β} : ∀ {l : List α} {r : List β},l.mapM f = some r → r.length = l.length ∧ ∀ (i : Nat) x,l[i]? = some x → ∃ y,f x = some y ∧ r[i]? = some y
 | [],r,h=>by simp at h; subst h; exact ⟨rfl,fun i x hx=>by simp at hx⟩
 | a :: l,r,h=>by
  obtain ⟨b,bs,h1,h2,rfl⟩ := mapM_cons_some h
  obtain ⟨g1,g2⟩ := mapM_get h2
  refine ⟨by simp [g1],fun i x hx=>?_⟩
  cases i with
  | zero=>simp at hx; subst hx; exact ⟨b,h1,rfl⟩
  | succ i=>simpa using g2 i x (by simpa using hx)

theorem cells_some {a : Addr} {n : Nat} {cs : List Value} (h : w.cells? 0 a n = some cs) : cs.length = n ∧ ∀ j,j < n → w.cell? (a.add j) = some (cs.getD j undef) := by
 unfold World.cells? at h
 rw [if_pos (Nat.zero_le _)] at h
 obtain ⟨h1,h2⟩ := mapM_get h
 refine ⟨by simpa using h1,fun j hj=>?_⟩
 obtain ⟨y,h3,h4⟩ := h2 j j (by simp [hj])
 rw [h3,List.getD_eq_getElem?_getD,h4]
 rfl

theorem cell_spot {a : Addr} {v : Value} (h : w.cell? a = some v) : a.spot = none ∧ a.block < w.heap.size := by
 unfold World.cell? at h
 split at h
 ·rename_i c t fr hb
  refine ⟨?_,?_⟩
  ·cases hs : a.spot with
   | none=>rfl
   | some s=>simp [hs] at h
  ·exact (Array.getElem?_eq_some_iff.1 hb).1
 ·cases h

theorem addr_add2 (blk off u j : Nat) : ((⟨blk,off,none⟩ : Addr).add u).add j = ⟨blk,off + (u + j),none⟩ := by
 unfold Addr.add
 by_cases h1 : u = 0
 ·subst h1
  by_cases h2 : j = 0
  ·subst h2; rfl
  ·simp [h2]
 ·by_cases h2 : j = 0
  ·subst h2; simp [h1]
  ·simp [h1,h2,Nat.add_assoc]

theorem fields_av {g : TypeId → List Value → Option (DataW H × List MemPlace)} {T : TypeId → List AV → Prop} {ly : TypeId → Bool}
  (ih : ∀ t,ly t = true → ∀ cs x,g t cs = some x → ∃ xs,V2 P w q xs cs ∧ T t xs) (cs : List Value) : ∀ (fs : List Field) (off : Nat) (r : List (DataW H × List MemPlace)),layF P ly fs off cs.length = true →
  (fs.mapM fun f=>g f.type ((cs.drop f.offset).take (P.cellsOf f.type))) = some r → ∃ ps : List (List AV),V2 P w q ps.flatten (cs.drop off) ∧ All2 (fun f p=>T f.type p) fs ps
 | [],off,r,hl,h=>by
  have := Nat.eq_of_beq_eq_true hl
  subst this
  exact ⟨[],by simp [V2],trivial⟩
 | f :: fs, off, r, hl, h => by
  simp only [layF,Bool.and_eq_true] at hl
  obtain ⟨⟨h1,h2⟩,h3⟩ := hl
  have e := Nat.eq_of_beq_eq_true h1
  obtain ⟨b,bs,g1,g2,rfl⟩ := mapM_cons_some h
  obtain ⟨p,p1,p2⟩ := ih _ h2 _ _ g1
  obtain ⟨ps,r1,r2⟩ := fields_av ih cs fs _ _ h3 g2
  refine ⟨p :: ps,?_,p2,r2⟩
  rw [List.flatten_cons]
  have : cs.drop off = (cs.drop f.offset).take (P.cellsOf f.type) ++ cs.drop (off + P.cellsOf f.type) := by
   rw [e,← List.drop_drop]
   exact (List.take_append_drop _ _).symm
  rw [this]
  exact V2_append p1 r1

theorem items_av {g : List Value → Option (DataW H × List MemPlace)} {T : List AV → Prop} (ih : ∀ cs x,g cs = some x → ∃ xs,V2 P w q xs cs ∧ T xs) (cs : List Value) (s n : Nat) (hn : cs.length = n * s)
  (h : ∀ i,i < n → ∃ x,g ((cs.drop (i * s)).take s) = some x) : ∀ (k i : Nat),i + k = n → ∃ ps : List (List AV),V2 P w q ps.flatten (cs.drop (i * s)) ∧ ps.length = k ∧ ∀ p ∈ ps,T p
 | 0,i,hi=>by
  have : i = n := by omega
  subst this
  refine ⟨[],?_,rfl,nofun⟩
  rw [List.drop_eq_nil_of_le (by omega)]
  exact trivial
 | k + 1, i, hi => by
  obtain ⟨x,hx⟩ := h i (by omega)
  obtain ⟨p,p1,p2⟩ := ih _ _ hx
  obtain ⟨ps,r1,r2,r3⟩ := items_av ih cs s n hn h k (i + 1) (by omega)
  refine ⟨p :: ps,?_,by simp [r2],fun y hy=>?_⟩
  ·rw [List.flatten_cons]
   have : cs.drop (i * s) = (cs.drop (i * s)).take s ++ cs.drop ((i + 1) * s) := by
    rw [Nat.succ_mul,← List.drop_drop]
    exact (List.take_append_drop _ _).symm
   rw [this]
   exact V2_append p1 r1
  ·rcases List.mem_cons.1 hy with rfl | hy
   ·exact p2
   ·exact r3 y hy

theorem trod_av (hq : ∀ b, b < w.heap.size → q b) : ∀ (m : Nat) (t : TypeId), lay P m t = true → ∀ (fuel : Nat) (cs : List Value) (x : DataW H × List MemPlace), DataW.trod enc P w 0 spare held fuel t cs = some x → ∃ xs, V2 P w q xs cs ∧ TyC P m t xs
 | 0,t,hl,_,_,_,_=>by simp [lay] at hl
 | m + 1,t,hl,0,cs,x,h=>by simp [DataW.trod] at h
 | m + 1, t, hl, fuel + 1, cs, x, h => by
  unfold lay at hl
  unfold TyC
  unfold DataW.trod at h
  cases hu : P.underlying t with
  | none=>simp [hu] at hl
  | some d =>
   simp only [hu] at hl h ⊢
   cases d with
   | bool =>
    split at h <;> first | (cases h; done) | (rename_i e; cases e; done) | skip
    cases h
    exact ⟨[.val (.bool _)],⟨⟨.val _,rfl⟩,trivial⟩,_,rfl⟩
   | int k =>
    split at h <;> first | (cases h; done) | (rename_i e; cases e; done) | skip
    rename_i e
    cases e
    split at h
    ·rename_i hk
     obtain ⟨rfl,hw⟩ := hk
     simp only [Lit.wf,Bool.and_eq_true,decide_eq_true_eq] at hw
     exact ⟨[.val (.int _ _)],⟨⟨.val _,rfl⟩,trivial⟩,_,rfl,hw⟩
    ·cases h
   | string =>
    split at h <;> first | (cases h; done) | (rename_i e; cases e; done) | skip
    split at h
    ·rename_i hs
     exact ⟨[.val (.string _)],⟨⟨.val _,rfl⟩,trivial⟩,_,rfl,hs⟩
    ·cases h
   | slice e =>
    simp only [Bool.and_eq_true] at hl
    split at h <;> first | (cases h; done) | (rename_i e; cases e; done) | skip
    ·exact ⟨[.rslice (P.cellsOf e) 0 fun _=>[]],⟨⟨.rslice0 _ _ _ _,rfl⟩,trivial⟩,_,_,rfl,by omega,fun i hi=>absurd hi (Nat.not_lt_zero i)⟩
    ·rename_i e0 a len cap e1
     cases e1
     split at h
     case isFalse=>cases h
     rename_i hb
     have hes : 0 < P.cellsOf e := Nat.le_of_ble_eq_true hl.1
     cases hM : (List.range len).mapM fun i=>(w.cells? 0 (a.add (i * P.cellsOf e)) (P.cellsOf e)).bind (DataW.trod enc P w 0 spare held fuel e) with
     | none=>rw [hM] at h; cases h
     | some elems =>
      obtain ⟨_,g2⟩ := mapM_get hM
      have hx : ∀ i,∃ xs : List AV,i < len → ∃ cs,(cs.length = P.cellsOf e ∧ ∀ j,j < P.cellsOf e → w.cell? ((a.add (i * P.cellsOf e)).add j) = some (cs.getD j undef)) ∧ V2 P w q xs cs ∧ TyC P m e xs := fun i=>by
       by_cases hi : i < len
       ·obtain ⟨y,y1,_⟩ := g2 i i (by simp [hi])
        cases hc : w.cells? 0 (a.add (i * P.cellsOf e)) (P.cellsOf e) with
        | none=>rw [hc] at y1; cases y1
        | some cs1 =>
         rw [hc] at y1
         obtain ⟨xs,x1,x2⟩ := trod_av hq m e hl.2 _ _ _ y1
         exact ⟨xs,fun _=>⟨cs1,cells_some hc,x1,x2⟩⟩
       ·exact ⟨[],fun h=>absurd h hi⟩
      have hf := fun i=>(Classical.choose_spec (hx i))
      generalize hF : (fun i=>Classical.choose (hx i)) = F
      have hf : ∀ i,i < len → ∃ cs,(cs.length = P.cellsOf e ∧ ∀ j,j < P.cellsOf e → w.cell? ((a.add (i * P.cellsOf e)).add j) = some (cs.getD j undef)) ∧ V2 P w q (F i) cs ∧ TyC P m e (F i) := fun i hi=>by
       have := Classical.choose_spec (hx i) hi
       rw [← hF]
       exact this
      refine ⟨[.rslice (P.cellsOf e) len F],⟨⟨?_,rfl⟩,trivial⟩,len,F,rfl,?_,fun i hi=>?_⟩
      ·rcases Nat.eq_zero_or_pos len with rfl | hp
       ·exact .rslice0 _ _ _ _
       ·obtain ⟨cs0,c1,_,_⟩ := hf 0 hp
        have hc0 := c1.2 0 hes
        have e0 : ((a.add (0 * P.cellsOf e)).add 0) = a := by simp [Addr.add]
        rw [e0] at hc0
        obtain ⟨s1,s2⟩ := cell_spot hc0
        obtain ⟨blk,off,spot⟩ := a
        simp only at s1 s2
        subst s1
        have hG : ∀ i,∃ cs : List Value,i < len → (cs.length = P.cellsOf e ∧ ∀ j,j < P.cellsOf e → w.cell? (((⟨blk,off,none⟩ : Addr).add (i * P.cellsOf e)).add j) = some (cs.getD j undef)) ∧ V2 P w q (F i) cs := fun i=>by
         by_cases hi : i < len
         ·obtain ⟨cs,c1,c2,_⟩ := hf i hi
          exact ⟨cs,fun _=>⟨c1,c2⟩⟩
         ·exact ⟨[],fun h=>absurd h hi⟩
        refine .rslice _ _ _ blk off cap (fun i j=>(Classical.choose (hG i)).getD j undef) hb.2.1 (hq _ s2) (fun i hi=>?_) (fun i j hi hj=>?_) (fun i j x hi hx=>?_)
        ·obtain ⟨c1,c2⟩ := Classical.choose_spec (hG i) hi
         rw [V2_len c2,c1.1]
        ·obtain ⟨c1,c2⟩ := Classical.choose_spec (hG i) hi
         have hc := c1.2 j hj
         have ea : ((⟨blk,off,none⟩ : Addr).add (i * P.cellsOf e)).add j = ⟨blk,off + (i * P.cellsOf e + j),none⟩ := by
          exact addr_add2 blk off _ j
         rw [ea] at hc
         refine ⟨hc,?_⟩
         have hlt : j < (F i).length := by rw [V2_len c2,c1.1]; exact hj
         exact (V2_get c2 j _ (List.getElem?_eq_getElem hlt)).2
        ·obtain ⟨c1,c2⟩ := Classical.choose_spec (hG i) hi
         exact (V2_get c2 j x hx).1
      ·have := hb.2.2
       unfold maxLen at this
       omega
      ·obtain ⟨_,_,_,h3⟩ := hf i hi
       exact h3
   | struct fs =>
    replace h : (if cs.length = P.cellsOf t then (fs.toList.mapM fun f=>DataW.trod enc P w 0 spare held fuel f.type ((cs.drop f.offset).take (P.cellsOf f.type))).map fun xs=>(.agg (xs.map (·.1)),xs.flatMap (·.2)) else none) = some x := h
    split at h
    case isFalse=>cases h
    rename_i hc
    cases hM : fs.toList.mapM fun f=>DataW.trod enc P w 0 spare held fuel f.type ((cs.drop f.offset).take (P.cellsOf f.type)) with
    | none=>rw [hM] at h; cases h
    | some r =>
     obtain ⟨ps,p1,p2⟩ := fields_av (T := TyC P m) (ly := lay P m) (fun t ht cs x hx=>trod_av hq m t ht fuel cs x hx) cs fs.toList 0 r (by rw [hc]; exact hl) hM
     exact ⟨ps.flatten,by simpa using p1,ps,rfl,p2⟩
   | array n e =>
    simp only [Bool.and_eq_true] at hl
    replace h : (if cs.length = P.cellsOf t then ((List.range n).mapM fun i=>DataW.trod enc P w 0 spare held fuel e ((cs.drop (i * P.cellsOf e)).take (P.cellsOf e))).map fun xs=>(.agg (xs.map (·.1)),xs.flatMap (·.2)) else none) = some x := h
    split at h
    case isFalse=>cases h
    rename_i hc
    cases hM : (List.range n).mapM fun i=>DataW.trod enc P w 0 spare held fuel e ((cs.drop (i * P.cellsOf e)).take (P.cellsOf e)) with
    | none=>rw [hM] at h; cases h
    | some r =>
     obtain ⟨_,g2⟩ := mapM_get hM
     obtain ⟨ps,p1,p2,p3⟩ := items_av (T := TyC P m e) (fun cs x hx=>trod_av hq m e hl.2 fuel cs x hx) cs (P.cellsOf e) n (by rw [hc]; exact Nat.eq_of_beq_eq_true hl.1)
      (fun i hi=>by obtain ⟨y,y1,_⟩ := g2 i i (by simp [hi]); exact ⟨y,y1⟩) n 0 (by omega)
     exact ⟨ps.flatten,by simpa using p1,ps,rfl,p2,p3⟩
   | _=>simp at hl

def TyA (P : Program) (m : Nat) (t : TypeId) (x : AV) : Prop :=
 match P.underlying t with
 | some (.struct _) | some (.array _ _)=>∃ xs,x = .agg xs ∧ TyC P m t xs
 | _=>TyC P m t [x]

theorem open_av {r : Reach} {b0 : Nat} {t : TypeId} {v : Value} {d : DataW H} {ps : List MemPlace} {m : Nat} (hl : lay P m t = true) (hq : ∀ b,b < w.heap.size → q b)
  (hv : Value.okWide P w r b0 t v) (hd : DataW.Trod enc P w 0 spare held t v d ps) : ∃ x,VT P w q x v ∧ TyA P m t x := by
 obtain ⟨fuel,hf⟩ := hd
 obtain ⟨xs,h1,h2⟩ := trod_av hq m t hl fuel _ _ hf
 have agg : ∀ cs,v = .agg cs → VT P w q (.agg xs) v := by
  rintro cs rfl
  have hlen := V2_len h1
  refine .agg xs cs (by rw [hlen]; simp [Value.cells]) (fun u hu=>?_) (fun i x hx=>?_)
  ·obtain ⟨i,hi,rfl⟩ := List.getElem_of_mem hu
   have hx : i < xs.length := by rw [hlen]; simpa [Value.cells] using hi
   have := (V2_get h1 i _ (List.getElem?_eq_getElem hx)).2
   have hi' : i < cs.size := by simpa using hi
   simpa [Value.cells,List.getD_eq_getElem?_getD,hi'] using this
  ·have := (V2_get h1 i x hx).1
   simpa [Value.cells,List.getD_eq_getElem?_getD,Array.getD_eq_getD_getElem?] using this
 have one : ∀ u,v.cells.toList = [u] → v = u → ∃ x,VT P w q x v ∧ TyC P m t [x] := by
  rintro u e rfl
  rw [e] at h1
  match xs,h1,h2 with
  | [x],h1,h2=>exact ⟨x,h1.1.1,h2⟩
 unfold TyA
 unfold Value.okWide at hv
 split
 ·rename_i fs hu
  simp only [hu] at hv
  obtain ⟨cs,e,_,_⟩ := hv
  exact ⟨_,agg cs e,xs,rfl,h2⟩
 ·rename_i n e hu
  simp only [hu] at hv
  obtain ⟨cs,e,_,_⟩ := hv
  exact ⟨_,agg cs e,xs,rfl,h2⟩
 ·rename_i n1 n2
  have hc : Cell.okWide P w r b0 t v := by
   split at hv
   ·rename_i hu; exact absurd hu (n1 _)
   ·rename_i hu; exact absurd hu (n2 _ _)
   ·exact hv
  cases v with
  | agg cs =>
   simp only [Cell.okWide] at hc
   split at hc <;> first | (rename_i e _; cases e; done) | (rename_i e; cases e; done) | (simp [Cell.ok] at hc)
  | tuple cs =>
   simp only [Cell.okWide] at hc
   split at hc <;> first | (rename_i e _; cases e; done) | (rename_i e; cases e; done) | (simp [Cell.ok] at hc)
  | _=>exact one _ rfl rfl
end
end Go.Tr
