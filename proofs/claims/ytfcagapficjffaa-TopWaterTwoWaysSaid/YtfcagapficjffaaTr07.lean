/- Contracts of chapter 2: the closing conduit, the form of a net. Conditions: none. -/
import Derived.Test.YtfcagapficjffaaTr06

namespace Go.Tr
open Go Go.Proofs
set_option maxRecDepth 20000
set_option maxHeartbeats 8000000

theorem contains_drop {l : List Int} {k : Nat} {x : Int} (h : k < l.length) : (l.drop k).contains x = (x == l.getD k 0 || (l.drop (k + 1)).contains x) := by
  have e : l.getD k 0 = l[k] := by simp [List.getD_eq_getElem?_getD, h]
  rw [List.drop_eq_getElem_cons h, List.contains_cons, e]
theorem S57 (b : Int × Int) (i : Int) : SP 57 [.agg (brC b), .rptr [i64 i]] (vb (b.1 == i)) true := by
  have h : SP 57 [.agg (brC b), .rptr [i64 i]] (vb (b.1 == i)) false := by
    refine sound (d := 2) tok2 mixed2 Try.func57 (by kernel_rfl) (by kernel_rfl) ?_
    conv => whnf
    refine ⟨?_, nofun⟩
    rfl
  exact h.pl rfl

/-- The index of the branch of a conduit. -/
def idxR (x : Int) : Nat → List (Int × Int) → Int
  | _, [] => -1
  | k, b :: r => if b.1 = x then k else idxR x (k + 1) r
theorem idxR_drop {x : Int} {l : List (Int × Int)} {k : Nat} (h : k < l.length) : idxR x k (l.drop k) = if (l.getD k (0, 0)).1 = x then (k : Int) else idxR x (k + 1) (l.drop (k + 1)) := by
  rw [List.drop_eq_getElem_cons h, idxR]; simp [List.getD_eq_getElem?_getD, h]
theorem idxR_has (x : Int) : ∀ (l : List (Int × Int)) (k : Nat), decide (idxR x k l ≥ 0) = (l.map (·.1)).contains x
  | [], k => rfl
  | b :: r, k => by
    rw [idxR, List.map_cons, List.contains_cons]
    by_cases h : b.1 = x
    · rw [if_pos h, ← h]; simp
    · rw [if_neg h, idxR_has x r (k + 1)]
      have e2 : (x == b.1) = false := by simpa using fun e => h e.symm
      rw [e2, Bool.false_or]
theorem S64 (l : List (Int × Int)) (x : Int) (hl : l.length ≤ 1000) : SP 64 [brA l, .func (.func 57) 0 [.rptr [i64 x]]] (i64 (idxR x 0 l)) false := by
  generalize hR : idxR x 0 l = R
  refine sound (d := 2) tok2 mixed2 Try.func64 (by kernel_rfl) (by kernel_rfl) ?_
  conv => whnf
  refine ⟨[], [0, 1, 7, 8], fun st mq => ∃ (k : Nat), (k ≤ l.length) ∧ (idxR x k (l.drop k) = R) ∧ st = ⟨[(0, brA l), (1, .func (.func 57) 0 [.rptr [i64 x]]), (7, i64 l.length), (8, i64 k)], ⟨[], [], none, 0⟩, []⟩ ∧ mq = l.length - k,
    ⟨_, _, ⟨0, by omega, hR, rfl, rfl⟩, ⟨⟨rfl, rfl, rfl, rfl⟩, trivial, trivial⟩⟩, ?_⟩
  rintro s0 m0 ⟨k, hk, h1, rfl, hmeas⟩
  by_cases hkl : k < l.length
  · rw [idxR_drop hkl] at h1
    have hq := S57 (l.getD (k : Int).toNat (0, 0)) x
    conv => whnf
    conv => whnf
    refine ifB_dec (fun w1 => ?_) (fun w1 => ?_)
    · conv => whnf
      conv => whnf
      refine ⟨⟨(by omega), (by omega)⟩, ?_⟩
      conv => whnf
      conv => whnf
      refine .inl ⟨_, _, byX rfl (hq), ?_⟩
      conv => whnf
      conv => whnf
      refine ifB_beq (fun w2 => ?_) (fun w2 => ?_)
      · conv => whnf
        conv => whnf
        refine ⟨?_, nofun⟩
        have e : (l.getD k (0, 0)).1 = x := w2
        rw [if_pos e] at h1
        show i64 _ = i64 _
        rw [← h1]
      · conv => whnf
        conv => whnf
        refine ⟨inK64 (by omega) (by omega), ?_⟩
        have e : ¬ (l.getD k (0, 0)).1 = x := w2
        rw [if_neg e] at h1
        conv => whnf
        conv => whnf
        refine ⟨_, _, ⟨⟨k + 1, by omega, h1, rfl, rfl⟩, by omega⟩, ⟨⟨rfl, rfl, rfl, rfl⟩, trivial, trivial⟩⟩
    · (exfalso; omega)
  · have e : k = l.length := by omega
    subst e
    rw [List.drop_length] at h1
    conv => whnf
    conv => whnf
    refine ifB_dec (fun w1 => ?_) (fun w1 => ?_)
    · (exfalso; omega)
    · conv => whnf
      conv => whnf
      refine ⟨?_, nofun⟩
      show i64 _ = i64 _
      rw [← h1]; rfl
theorem S56 (l : List (Int × Int)) (x : Int) (hl : l.length ≤ 1000) : SP 56 [brA l, .func (.func 57) 0 [.rptr [i64 x]]] (vb ((l.map (·.1)).contains x)) false := by
  have h161 := S64 l x hl
  refine sound (d := 2) tok2 mixed2 Try.func56 (by kernel_rfl) (by kernel_rfl) ?_
  conv => whnf
  refine .inl ⟨_, _, byX rfl (Sound1.pl (h161) rfl), ?_⟩
  conv => whnf
  refine ⟨?_, nofun⟩
  show vb _ = vb _
  rw [idxR_has]

/-- The closing conduit, and the error of the form: from a conduit on. -/
def closeF (T : List Int) : Nat → List Cn → Int → Int × Int
  | _, [], o => (o, 0)
  | k, c :: r, o => if c.opn = false ∨ T.contains (k : Int) = true then closeF T (k + 1) r o else if o ≥ 0 then (o, 8) else closeF T (k + 1) r k
theorem closeF_drop {T : List Int} {l : List Cn} {k : Nat} {o : Int} (h : k < l.length) : closeF T k (l.drop k) o = if (l.getD k cn0).opn = false ∨ T.contains (k : Int) = true then closeF T (k + 1) (l.drop (k + 1)) o else if o ≥ 0 then (o, 8) else closeF T (k + 1) (l.drop (k + 1)) k := by
  have e : l.getD k cn0 = l[k] := by simp [List.getD_eq_getElem?_getD, h]
  rw [List.drop_eq_getElem_cons h, closeF, e]
/-- The branches of a net, its closing conduit (as the program says), the error of its form. -/
def brF (N : Net) : List (Int × Int) := (treeF N).2
def gapE (N : Net) : Bool := (treeF N).1.contains false
def clF (N : Net) : Int × Int := if gapE N then (-1, 14) else closeF ((brF N).map (·.1)) 0 N.cs (-1)

theorem growF_len {cs : List Cn} {n : Nat} (hr : inR n cs) : ∀ (k : Nat) (m : List Bool) (b : List (Int × Int)), m.length = n → nF m ≤ k → (growF cs k m b).1.length = n ∧ (growF cs k m b).2.length + nF (growF cs k m b).1 = b.length + nF m ∧ fstC (grows (growF cs k m b).1) 0 cs < 0
  | 0, m, b, hm, hk => by
    refine ⟨hm, rfl, ?_⟩
    rcases Int.lt_or_le (fstC (grows m) 0 cs) 0 with h | h
    · exact h
    · obtain ⟨i, _, _, _, _, _, e5, _⟩ := grow_step hr hm (by omega)
      omega
  | k + 1, m, b, hm, hk => by
    rcases Int.lt_or_le (fstC (grows m) 0 cs) 0 with h | h
    · rw [growF, if_pos h]; exact ⟨hm, rfl, h⟩
    · obtain ⟨i, hi, e1, e2, e3, e4, e5, _⟩ := grow_step hr hm (by omega)
      rw [growF, if_neg (by omega), e1]
      have ih := growF_len hr k (m.set (newNode m (cs.getD (i : Int).toNat cn0)).toNat true) (b ++ [((i : Int), newNode m (cs.getD (i : Int).toNat cn0))]) (by simpa using hm) (by
        show nF (m.set (newNode m (cs.getD i cn0)).toNat true) ≤ k
        omega)
      refine ⟨ih.1, ?_, ih.2.2⟩
      rw [ih.2.1]
      have : nF (m.set (newNode m (cs.getD (i : Int).toNat cn0)).toNat true) + 1 = nF m := e5
      simp only [List.length_append, List.length_cons, List.length_nil]
      omega
theorem treeF_len {N : Net} (hr : inR N.ns.length N.cs) : (treeF N).1.length = N.ns.length ∧ (brF N).length + nF (treeF N).1 = nF (lakesB N) := by
  have := growF_len hr (nF (lakesB N)) (lakesB N) [] (lakesB_len N) (Nat.le_refl _)
  refine ⟨this.1, ?_⟩
  have h := this.2.1
  simpa [brF, treeF] using h
theorem contains_false (m : List Bool) : m.contains false = decide (0 < nF m) := by
  rw [Bool.eq_iff_iff, decide_eq_true_eq, List.contains_iff_mem]
  exact List.count_pos_iff.symm
/-- All junctions are in the tree, or one is not. -/
theorem gap_ok {N : Net} (hr : inR N.ns.length N.cs) : decide ((brF N).length = nF (lakesB N)) = !gapE N := by
  have := (treeF_len hr).2
  unfold gapE
  rw [contains_false, Bool.eq_iff_iff]
  simp only [decide_eq_true_eq, Bool.not_eq_true', decide_eq_false_iff_not]
  omega
theorem brF_len {N : Net} (hr : inR N.ns.length N.cs) : (brF N).length ≤ N.ns.length := by
  have h := (treeF_len hr).2
  have := nF_le (lakesB N)
  rw [lakesB_len] at this
  omega

theorem ave_treeE (N : Net) (b : List (Int × Int)) (c e : Int) : AVE 5 (.tuple [treeA N b c, i64 e]) (.tuple [treeA N b c, i64 e]) :=
  ave_tup2 (k := 4) (ave_agg4 (k := 3) (a := .rslice 4 N.ns.length _) (b := .rslice 6 N.cs.length _) (c := .rslice 2 b.length _) (d := i64 c) ⟨rfl, rfl, fun _ _ => rfl⟩ ⟨rfl, rfl, fun _ _ => rfl⟩ ⟨rfl, rfl, fun _ _ => rfl⟩ rfl) rfl
theorem ave_tree (N : Net) (b : List (Int × Int)) (c : Int) : AVE 5 (treeA N b c) (treeA N b c) :=
  ave_agg4 (k := 4) (a := .rslice 4 N.ns.length _) (b := .rslice 6 N.cs.length _) (c := .rslice 2 b.length _) (d := i64 c) ⟨rfl, rfl, fun _ _ => rfl⟩ ⟨rfl, rfl, fun _ _ => rfl⟩ ⟨rfl, rfl, fun _ _ => rfl⟩ rfl
theorem S42 (N : Net) (hn : N.ns.length ≤ 1000) (hc : N.cs.length ≤ 1000) (hr : inR N.ns.length N.cs) : SP 42 [netV N] (.tuple [treeA N (brF N) (clF N).1, i64 (clF N).2]) false := by
  have h151 := S55 N hn hc hr
  have hb := brF_len hr
  change SP 55 _ (.tuple [treeA N (brF N) (-1), i64 (if gapE N = true then 14 else 0)]) false at h151
  generalize hR : clF N = R
  unfold clF at hR
  cases hg : gapE N with
  | true =>
    rw [hg] at h151 hR
    rw [if_pos rfl] at hR h151
    subst hR
    refine sound (d := 2) tok2 mixed2 Try.func42 (by kernel_rfl) (by kernel_rfl) ?_
    conv => whnf
    refine .inl ⟨_, _, byX rfl (h151), ?_⟩
    conv => whnf
    refine ⟨?_, nofun⟩
    exact ave_treeE N _ _ _
  | false =>
    rw [hg] at h151 hR
    rw [if_neg nofun] at hR h151
    refine sound (d := 2) tok2 mixed2 Try.func42 (by kernel_rfl) (by kernel_rfl) ?_
    conv => whnf
    refine .inl ⟨_, _, byX rfl (h151), ?_⟩
    conv => whnf
    refine ⟨[], [2, 4, 20, 21, 22], fun st mq => ∃ (k : Nat) (o : Int), (k ≤ N.cs.length) ∧ (o ≤ k) ∧ (closeF ((brF N).map (·.1)) k (N.cs.drop k) o = R) ∧ st = ⟨[(2, .optr 1 0 0 0), (4, .optr 2 0 0 0), (20, listA 6 cnC cn0 N.cs), (21, i64 N.cs.length), (22, i64 k)], ⟨[netBlk N, ⟨4, 1, fun _ => [.eslice, .eslice, .eslice, i64 0], 0, false, true, true⟩, ⟨4, 1, fun _ => [listA 4 ndC nd0 N.ns, listA 6 cnC cn0 N.cs, brA (brF N), i64 o], 0, false, true, true⟩], [], none, 0⟩, []⟩ ∧ mq = N.cs.length - k,
      ⟨_, _, ⟨0, -1, by omega, by omega, hR, rfl, rfl⟩, ⟨⟨rfl, rfl, rfl, rfl⟩, ⟨⟨rfl, rfl, rfl, rfl, fun _ => rfl, fun _ _ => rfl⟩, ⟨⟨rfl, rfl, rfl, rfl, fun _ => rfl, fun _ _ => rfl⟩, ⟨⟨rfl, rfl, rfl, rfl, fun _ => rfl, fun _ _ => rfl⟩, trivial⟩⟩⟩, trivial⟩⟩, ?_⟩
    rintro s0 m0 ⟨k, o, hk, ho, h1, rfl, hmeas⟩
    by_cases hkl : k < N.cs.length
    · rw [closeF_drop hkl] at h1
      have h152 := S56 (brF N) (k : Int) (by omega)
      conv => whnf
      conv => whnf
      refine ifB_dec (fun w1 => ?_) (fun w1 => ?_)
      · conv => whnf
        conv => whnf
        refine ⟨⟨(by omega), (by omega)⟩, ?_⟩
        conv => whnf
        conv => whnf
        refine .inl ⟨_, _, byX rfl (Sound1.pl (h152) rfl), ?_⟩
        conv => whnf
        conv => whnf
        refine ifB_not ?_
        conv => whnf
        conv => whnf
        refine ifB_intro (fun w2 => ?_) (fun w2 => ?_)
        · conv => whnf
          conv => whnf
          refine ifB_intro (fun w3 => ?_) (fun w3 => ?_)
          · conv => whnf
            conv => whnf
            refine ⟨inK64 (by omega) (by omega), ?_⟩
            rw [if_pos (.inr w3)] at h1
            conv => whnf
            conv => whnf
            refine ⟨_, _, ⟨⟨k + 1, o, by omega, by omega, h1, rfl, rfl⟩, by omega⟩, ⟨⟨rfl, rfl, rfl, rfl⟩, ⟨⟨rfl, rfl, rfl, rfl, fun _ => rfl, fun _ _ => rfl⟩, ⟨⟨rfl, rfl, rfl, rfl, fun _ => rfl, fun _ _ => rfl⟩, ⟨⟨rfl, rfl, rfl, rfl, fun _ => rfl, fun _ _ => rfl⟩, trivial⟩⟩⟩, trivial⟩⟩
          · conv => whnf
            conv => whnf
            refine ifB_dec (fun w4 => ?_) (fun w4 => ?_)
            · conv => whnf
              conv => whnf
              refine ⟨?_, nofun⟩
              rw [if_neg (by rintro (e | e); exact absurd (w2.symm.trans e) nofun; exact absurd (w3.symm.trans e) nofun), if_pos w4] at h1
              subst h1
              exact ave_treeE N _ _ _
            · conv => whnf
              conv => whnf
              refine ⟨inK64 (by omega) (by omega), ?_⟩
              rw [if_neg (by rintro (e | e); exact absurd (w2.symm.trans e) nofun; exact absurd (w3.symm.trans e) nofun), if_neg w4] at h1
              conv => whnf
              conv => whnf
              refine ⟨_, _, ⟨⟨k + 1, k, by omega, by omega, h1, rfl, rfl⟩, by omega⟩, ⟨⟨rfl, rfl, rfl, rfl⟩, ⟨⟨rfl, rfl, rfl, rfl, fun _ => rfl, fun _ _ => rfl⟩, ⟨⟨rfl, rfl, rfl, rfl, fun _ => rfl, fun _ _ => rfl⟩, ⟨⟨rfl, rfl, rfl, rfl, fun _ => rfl, fun _ _ => rfl⟩, trivial⟩⟩⟩, trivial⟩⟩
        · conv => whnf
          conv => whnf
          refine ⟨inK64 (by omega) (by omega), ?_⟩
          rw [if_pos (.inl w2)] at h1
          conv => whnf
          conv => whnf
          refine ⟨_, _, ⟨⟨k + 1, o, by omega, by omega, h1, rfl, rfl⟩, by omega⟩, ⟨⟨rfl, rfl, rfl, rfl⟩, ⟨⟨rfl, rfl, rfl, rfl, fun _ => rfl, fun _ _ => rfl⟩, ⟨⟨rfl, rfl, rfl, rfl, fun _ => rfl, fun _ _ => rfl⟩, ⟨⟨rfl, rfl, rfl, rfl, fun _ => rfl, fun _ _ => rfl⟩, trivial⟩⟩⟩, trivial⟩⟩
      · (exfalso; omega)
    · have e : k = N.cs.length := by omega
      subst e
      rw [List.drop_length, closeF] at h1
      subst h1
      conv => whnf
      conv => whnf
      refine ifB_dec (fun w1 => ?_) (fun w1 => ?_)
      · (exfalso; omega)
      · conv => whnf
        conv => whnf
        refine ⟨?_, nofun⟩
        exact ave_treeE N _ _ _

theorem ints_map1 (l : List (Int × Int)) : ints (l.map (·.1)) = .rslice 1 l.length fun i => [i64 ((l.map (·.1)).getD i 0)] := by
  unfold ints; rw [List.length_map]
/-- As the reference says it. -/
def clR (N : Net) : Int := if (clF N).2 = 0 then (clF N).1 else -1
theorem closeF_err (T : List Int) : ∀ (l : List Cn) (k : Nat) (o : Int), -1 ≤ o → (closeF T k l o).2 = 0 ∧ -1 ≤ (closeF T k l o).1 ∨ (closeF T k l o).2 = 8 ∧ 0 ≤ (closeF T k l o).1
  | [], k, o, h => .inl ⟨rfl, h⟩
  | c :: r, k, o, h => by
    rw [closeF]
    split
    · exact closeF_err T r _ _ h
    · split
      · exact .inr ⟨rfl, by assumption⟩
      · exact closeF_err T r _ _ (by omega)
theorem S30 (c : Int) : SP 30 [i64 c] (i64 (if decide (-200000 ≤ c ∧ c ≤ 200000) = true then 0 else 2)) false := by
  have h73 := S43 c 200000 (by omega) (by omega)
  refine sound (d := 2) tok2 mixed2 Try.func30 (by kernel_rfl) (by kernel_rfl) ?_
  conv => whnf
  refine .inl ⟨_, _, byX rfl (Sound1.pl (h73) rfl), ?_⟩
  conv => whnf
  refine .inl ⟨_, _, byX rfl (Sound1.pl (S21 _ _) rfl), ?_⟩
  conv => whnf
  refine ⟨?_, nofun⟩
  rfl
/-- The error of a net's form, a net's own ahead. -/
def formE (N : Net) : Int := if netE N = 0 then (clF N).2 else netE N
/-- What the opening of a tree gives. -/
theorem S29ok (N : Net) (hN : N.In) (hE : netE N = 0) : SP 29 [netV N] (.tuple [treeA N (brF N) (clF N).1, i64 (clF N).2]) false := by
  have hok := net_ok hE
  have h87 := S33 N hN
  rw [hE] at h87
  have h138 := S42 N (by have := hok.n1; omega) (by have := hok.c1; omega) hok.ends
  refine sound (d := 2) tok2 mixed2 Try.func29 (by kernel_rfl) (by kernel_rfl) ?_
  conv => whnf
  refine .inl ⟨_, _, byX rfl (h87), ?_⟩
  conv => whnf
  refine .inl ⟨_, _, byX rfl (h138), ?_⟩
  conv => whnf
  refine ⟨?_, nofun⟩
  exact ave_treeE N _ _ _
def tree0 : AV := .agg [.eslice, .eslice, .eslice, i64 0]
theorem S29err (N : Net) (hN : N.In) (hE : ¬ netE N = 0) : SP 29 [netV N] (.tuple [tree0, i64 (netE N)]) false := by
  have h87 := S33 N hN
  refine sound (d := 2) tok2 mixed2 Try.func29 (by kernel_rfl) (by kernel_rfl) ?_
  conv => whnf
  refine .inl ⟨_, _, byX rfl (h87), ?_⟩
  conv => whnf
  refine ifB_bne (fun w1 => ?_) (fun w1 => ?_)
  · conv => whnf
    refine ⟨?_, nofun⟩
    exact ave_tup2 (k := 4) (ave_agg4 (k := 3) rfl rfl rfl rfl) rfl
  · (exfalso; omega)
end Go.Tr

/- Plain laws of chapter 2: trees, and what is carried along them. Conditions: none. -/
namespace Go.Tr
open Go Go.Proofs
set_option maxRecDepth 20000
set_option maxHeartbeats 8000000

/-- The other end of a branch, and its sign. -/
def otherN (c : Cn) (v : Int) : Int := if c.to = v then c.fr else c.to
def signN (c : Cn) (v : Int) : Int := if c.to = v then 1 else -1
/-- A branch that comes into a tree. -/
structure BrOk (n : Nat) (cs : List Cn) (m : List Bool) (b : Int × Int) : Prop where
  i0 : 0 ≤ b.1
  i1 : b.1 < cs.length
  v0 : 0 ≤ b.2
  v1 : b.2 < n
  o0 : 0 ≤ otherN (cs.getD b.1.toNat cn0) b.2
  o1 : otherN (cs.getD b.1.toNat cn0) b.2 < n
  new : m.getD b.2.toNat false = false
  old : m.getD (otherN (cs.getD b.1.toNat cn0) b.2).toNat false = true
  opn : (cs.getD b.1.toNat cn0).opn = true
  isEnd : (cs.getD b.1.toNat cn0).to = b.2 ∨ (cs.getD b.1.toNat cn0).fr = b.2
def TreeOk (n : Nat) (cs : List Cn) : List Bool → List (Int × Int) → Prop
  | _, [] => True
  | m, b :: r => BrOk n cs m b ∧ TreeOk n cs (m.set b.2.toNat true) r
/-- Who is in the tree behind some branches. -/
def afterF (m : List Bool) (l : List (Int × Int)) : List Bool := l.foldl (fun m b => m.set b.2.toNat true) m

theorem growF_tree {n : Nat} {cs : List Cn} (hr : inR n cs) : ∀ (k : Nat) (m : List Bool) (b : List (Int × Int)), m.length = n → ∃ r, growF cs k m b = (afterF m r, b ++ r) ∧ TreeOk n cs m r
  | 0, m, b, hm => ⟨[], by simp [growF, afterF], trivial⟩
  | k + 1, m, b, hm => by
    rcases Int.lt_or_le (fstC (grows m) 0 cs) 0 with h | h
    · exact ⟨[], by rw [growF, if_pos h]; simp [afterF], trivial⟩
    · obtain ⟨i, hi, e1, e2, e3, e4, e5, _⟩ := grow_step hr hm (by omega)
      obtain ⟨r, h1, h2⟩ := growF_tree hr k (m.set (newNode m (cs.getD i cn0)).toNat true) (b ++ [((i : Int), newNode m (cs.getD i cn0))]) (by simpa using hm)
      refine ⟨((i : Int), newNode m (cs.getD i cn0)) :: r, ?_, ?_, h2⟩
      · rw [growF, if_neg (by omega), e1]
        show growF cs k (m.set (newNode m (cs.getD i cn0)).toNat true) _ = _
        rw [show ((i : Int).toNat) = i from rfl, h1]
        simp [afterF]
      · have hq := hr (cs.getD i cn0) (by simp [List.getD_eq_getElem?_getD, hi])
        have hne := newNode_out e2
        have hg := e2
        unfold grows at hg
        simp only [Bool.and_eq_true, bne_iff_ne, ne_eq] at hg
        have key : otherN (cs.getD i cn0) (newNode m (cs.getD i cn0)) = (if m.getD (cs.getD i cn0).to.toNat false then (cs.getD i cn0).to else (cs.getD i cn0).fr) ∧ ((cs.getD i cn0).to = newNode m (cs.getD i cn0) ∨ (cs.getD i cn0).fr = newNode m (cs.getD i cn0)) := by
          unfold otherN newNode
          cases ht : m.getD (cs.getD i cn0).to.toNat false with
          | true =>
            simp only [if_true]
            refine ⟨?_, .inr trivial⟩
            rw [if_neg]
            intro e
            rw [e] at ht
            exact hg.2 (by rw [ht, e, ht])
          | false => simp
        have hold : m.getD (otherN (cs.getD i cn0) (newNode m (cs.getD i cn0))).toNat false = true := by
          rw [key.1]
          cases ht : m.getD (cs.getD i cn0).to.toNat false with
          | true => simpa using ht
          | false =>
            simp only [Bool.false_eq_true, if_false]
            cases hf : m.getD (cs.getD i cn0).fr.toNat false with
            | true => rfl
            | false => exact absurd (hf.trans ht.symm) hg.2
        exact ⟨Int.natCast_nonneg i, by show (i : Int) < _; omega, e3, e4, by
          show 0 ≤ otherN (cs.getD i cn0) _
          rw [key.1]; split <;> omega, by
          show otherN (cs.getD i cn0) _ < _
          rw [key.1]; split <;> omega, hne, hold, hg.1, key.2⟩
theorem brF_tree {N : Net} (hr : inR N.ns.length N.cs) : TreeOk N.ns.length N.cs (lakesB N) (brF N) ∧ (treeF N).1 = afterF (lakesB N) (brF N) := by
  obtain ⟨r, h1, h2⟩ := growF_tree hr (nF (lakesB N)) (lakesB N) [] (lakesB_len N)
  have e : brF N = r := by unfold brF treeF; rw [h1]; rfl
  rw [e]
  exact ⟨h2, by unfold treeF; rw [h1]⟩

/-- The size of a number. -/
def absI (x : Int) : Int := if 0 ≤ x then x else -x
/-- The sizes of what is marked, added up. -/
def sumM : List Bool → List Int → Int
  | m :: ms, d :: ds => (if m then absI d else 0) + sumM ms ds
  | _, _ => 0
theorem absI_nonneg (x : Int) : 0 ≤ absI x := by unfold absI; split <;> omega
theorem absI_add (x y : Int) : absI (x + y) ≤ absI x + absI y := by unfold absI; split <;> split <;> split <;> omega
theorem sumM_nonneg : ∀ (m : List Bool) (d : List Int), 0 ≤ sumM m d
  | [], d => by simp [sumM]
  | m :: ms, [] => by simp [sumM]
  | m :: ms, d :: ds => by
    have := sumM_nonneg ms ds
    have := absI_nonneg d
    rw [sumM]; split <;> omega
theorem sumM_mark : ∀ (m : List Bool) (d : List Int) (v : Nat), m.length = d.length → v < m.length → m.getD v false = false → sumM (m.set v true) d = sumM m d + absI (d.getD v 0)
  | [], d, v, _, h, _ => by simp at h
  | m :: ms, [], v, hl, _, _ => by simp at hl
  | m :: ms, d :: ds, 0, hl, h, hm => by
    simp at hm
    subst hm
    simp [sumM]; omega
  | m :: ms, d :: ds, v + 1, hl, h, hm => by
    have := sumM_mark ms ds v (by simpa using hl) (by simpa using h) (by simpa using hm)
    simp only [List.set_cons_succ, sumM, List.getD_cons_succ]
    omega
theorem sumM_set : ∀ (m : List Bool) (d : List Int) (o : Nat) (x : Int), m.length = d.length → o < m.length → m.getD o false = true → sumM m (d.set o x) = sumM m d - absI (d.getD o 0) + absI x
  | [], d, o, x, _, h, _ => by simp at h
  | m :: ms, [], o, x, hl, _, _ => by simp at hl
  | m :: ms, d :: ds, 0, x, hl, h, hm => by
    simp at hm
    subst hm
    simp [sumM]; omega
  | m :: ms, d :: ds, o + 1, x, hl, h, hm => by
    have := sumM_set ms ds o x (by simpa using hl) (by simpa using h) (by simpa using hm)
    simp only [List.set_cons_succ, sumM, List.getD_cons_succ]
    omega
theorem sumM_mem : ∀ (m : List Bool) (d : List Int) (v : Nat), m.length = d.length → v < m.length → m.getD v false = true → absI (d.getD v 0) ≤ sumM m d
  | [], d, v, _, h, _ => by simp at h
  | m :: ms, [], v, hl, _, _ => by simp at hl
  | m :: ms, d :: ds, 0, hl, h, hm => by
    simp at hm
    subst hm
    have := sumM_nonneg ms ds
    simp [sumM]; omega
  | m :: ms, d :: ds, v + 1, hl, h, hm => by
    have := sumM_mem ms ds v (by simpa using hl) (by simpa using h) (by simpa using hm)
    have := absI_nonneg d
    simp only [sumM, List.getD_cons_succ]
    split <;> omega
def sumA (d : List Int) : Int := (d.map absI).sum
theorem sumM_le : ∀ (m : List Bool) (d : List Int), sumM m d ≤ sumA d
  | [], d => by
    have : 0 ≤ sumA d := by
      induction d with
      | nil => simp [sumA]
      | cons x r ih => have := absI_nonneg x; simp [sumA] at ih ⊢; omega
    simpa [sumM] using this
  | m :: ms, [] => by simp [sumM, sumA]
  | m :: ms, d :: ds => by
    have := sumM_le ms ds
    have := absI_nonneg d
    simp only [sumM, sumA, List.map_cons, List.sum_cons] at *
    split <;> omega

/-- One branch, backward: the conduit's flow, and what the node draws carried on. -/
def stepB (cs : List Cn) (b : Int × Int) (s : List Int × List Int) : List Int × List Int :=
  (s.1.set b.1.toNat (signN (cs.getD b.1.toNat cn0) b.2 * s.2.getD b.2.toNat 0), s.2.set (otherN (cs.getD b.1.toNat cn0) b.2).toNat (s.2.getD (otherN (cs.getD b.1.toNat cn0) b.2).toNat 0 + s.2.getD b.2.toNat 0))
def backL (cs : List Cn) : List (Int × Int) → List Int × List Int → List Int × List Int
  | [], s => s
  | b :: r, s => stepB cs b (backL cs r s)
theorem backL_len (cs : List Cn) : ∀ (l : List (Int × Int)) (s : List Int × List Int), (backL cs l s).1.length = s.1.length ∧ (backL cs l s).2.length = s.2.length
  | [], s => ⟨rfl, rfl⟩
  | b :: r, s => by
    have := backL_len cs r s
    simp [backL, stepB, this]
theorem afterF_len (l : List (Int × Int)) : ∀ (m : List Bool), (afterF m l).length = m.length := by
  induction l with
  | nil => intro m; rfl
  | cons b r ih => intro m; show (afterF (m.set b.2.toNat true) r).length = _; rw [ih]; simp

/-- What is carried never exceeds all that is drawn. -/
theorem back_sum {n : Nat} {cs : List Cn} : ∀ (l : List (Int × Int)) (m : List Bool) (s : List Int × List Int), m.length = n → s.2.length = n → TreeOk n cs m l → sumM m (backL cs l s).2 ≤ sumA s.2
  | [], m, s, hm, hd, _ => sumM_le _ _
  | b :: r, m, s, hm, hd, ht => by
    obtain ⟨hb, ht⟩ := ht
    have ih := back_sum r (m.set b.2.toNat true) s (by simpa using hm) hd ht
    have hl := (backL_len cs r s).2
    have hv := hb.v0; have hv1 := hb.v1; have ho := hb.o0; have ho1 := hb.o1
    rw [sumM_mark m _ _ (by omega) (by omega) hb.new] at ih
    show sumM m ((backL cs r s).2.set _ _) ≤ _
    rw [sumM_set m _ _ _ (by omega) (by omega) hb.old]
    have := absI_add ((backL cs r s).2.getD (otherN (cs.getD b.1.toNat cn0) b.2).toNat 0) ((backL cs r s).2.getD b.2.toNat 0)
    omega

theorem tree_at {n : Nat} {cs : List Cn} : ∀ (l : List (Int × Int)) (m : List Bool) (i : Nat), TreeOk n cs m l → i < l.length → BrOk n cs (afterF m (l.take i)) (l.getD i (0, 0)) ∧ TreeOk n cs (afterF m (l.take (i + 1))) (l.drop (i + 1))
  | [], m, i, _, h => by simp at h
  | b :: r, m, 0, ht, _ => ⟨ht.1, ht.2⟩
  | b :: r, m, i + 1, ht, h => by
    have := tree_at r (m.set b.2.toNat true) i ht.2 (by simpa using h)
    exact this
theorem afterF_mono (l : List (Int × Int)) : ∀ (m : List Bool) (i : Nat), m.getD i false = true → (afterF m l).getD i false = true := by
  induction l with
  | nil => intro m i h; exact h
  | cons b r ih =>
    intro m i h
    refine ih _ i ?_
    rw [getD_set]; split
    · rfl
    · exact h
theorem afterF_snoc {m : List Bool} {l : List (Int × Int)} {i : Nat} (h : i < l.length) : afterF m (l.take (i + 1)) = (afterF m (l.take i)).set (l.getD i (0, 0)).2.toNat true := by
  have e : l.getD i (0, 0) = l[i] := by simp [List.getD_eq_getElem?_getD, h]
  rw [List.take_succ_eq_append_getElem h, e]
  unfold afterF
  rw [List.foldl_append]
  rfl
theorem backL_drop {cs : List Cn} {l : List (Int × Int)} {i : Nat} (h : i < l.length) (s : List Int × List Int) : backL cs (l.drop i) s = stepB cs (l.getD i (0, 0)) (backL cs (l.drop (i + 1)) s) := by
  have e : l.getD i (0, 0) = l[i] := by simp [List.getD_eq_getElem?_getD, h]
  rw [List.drop_eq_getElem_cons h, backL, e]
theorem absI_le {x B : Int} (h : absI x ≤ B) : -B ≤ x ∧ x ≤ B := by unfold absI at h; split at h <;> omega
theorem absI_of {x B : Int} (h : -B ≤ x ∧ x ≤ B) : absI x ≤ B := by unfold absI; split <;> omega
theorem sumA_le {B : Int} : ∀ (d : List Int), (∀ i, absI (d.getD i 0) ≤ B) → sumA d ≤ d.length * B
  | [], _ => by simp [sumA]
  | x :: r, h => by
    have h0 := h 0
    have := sumA_le r (fun i => by simpa using h (i + 1))
    simp only [sumA, List.map_cons, List.sum_cons, List.length_cons] at this ⊢
    simp only [List.getD_cons_zero] at h0
    rw [Int.natCast_add, Int.add_mul]
    omega
/-- What stands at a branch while the branches are walked backward. -/
theorem back_at {n : Nat} {cs : List Cn} {l : List (Int × Int)} {m : List Bool} {s : List Int × List Int} (hm : m.length = n) (hd : s.2.length = n) (ht : TreeOk n cs m l) {i : Nat} (hi : i < l.length) {S : Int} (hS : sumA s.2 ≤ S) :
    BrOk n cs (afterF m (l.take i)) (l.getD i (0, 0)) ∧
    (-S ≤ (backL cs (l.drop (i + 1)) s).2.getD (l.getD i (0, 0)).2.toNat 0 ∧ (backL cs (l.drop (i + 1)) s).2.getD (l.getD i (0, 0)).2.toNat 0 ≤ S) ∧
    (-S ≤ (backL cs (l.drop (i + 1)) s).2.getD (otherN (cs.getD (l.getD i (0, 0)).1.toNat cn0) (l.getD i (0, 0)).2).toNat 0 ∧ (backL cs (l.drop (i + 1)) s).2.getD (otherN (cs.getD (l.getD i (0, 0)).1.toNat cn0) (l.getD i (0, 0)).2).toNat 0 ≤ S) := by
  obtain ⟨hb, ht2⟩ := tree_at l m i ht hi
  have hlen : (afterF m (l.take (i + 1))).length = n := by rw [afterF_len]; exact hm
  have hsum := back_sum (l.drop (i + 1)) (afterF m (l.take (i + 1))) s hlen hd ht2
  have hl := (backL_len cs (l.drop (i + 1)) s).2
  have e := afterF_snoc (m := m) hi
  have hv := hb.v0; have hv1 := hb.v1; have ho := hb.o0; have ho1 := hb.o1
  have hml : (afterF m (l.take i)).length = n := by rw [afterF_len]; exact hm
  have mv : (afterF m (l.take (i + 1))).getD (l.getD i (0, 0)).2.toNat false = true := by
    rw [e, getD_set, if_pos]
    exact ⟨rfl, by omega⟩
  have mo : (afterF m (l.take (i + 1))).getD (otherN (cs.getD (l.getD i (0, 0)).1.toNat cn0) (l.getD i (0, 0)).2).toNat false = true := by
    rw [e, getD_set]; split
    · rfl
    · exact hb.old
  have b1 := sumM_mem (afterF m (l.take (i + 1))) (backL cs (l.drop (i + 1)) s).2 _ (by omega) (by omega) mv
  have b2 := sumM_mem (afterF m (l.take (i + 1))) (backL cs (l.drop (i + 1)) s).2 _ (by omega) (by omega) mo
  exact ⟨hb, absI_le (Int.le_trans b1 (Int.le_trans hsum hS)), absI_le (Int.le_trans b2 (Int.le_trans hsum hS))⟩
theorem sign_bd {c : Cn} {v x S : Int} (h : -S ≤ x ∧ x ≤ S) : -S ≤ signN c v * x ∧ signN c v * x ≤ S := by
  unfold signN; split <;> omega
/-- All flows are bounded by what is drawn. -/
theorem back_flow {n : Nat} {cs : List Cn} {S : Int} : ∀ (l : List (Int × Int)) (m : List Bool) (s : List Int × List Int), m.length = n → s.2.length = n → TreeOk n cs m l → sumA s.2 ≤ S → (∀ i, -S ≤ s.1.getD i 0 ∧ s.1.getD i 0 ≤ S) →
    ∀ i, -S ≤ (backL cs l s).1.getD i 0 ∧ (backL cs l s).1.getD i 0 ≤ S
  | [], m, s, hm, hd, ht, hS, hf, i => hf i
  | b :: r, m, s, hm, hd, ht, hS, hf, i => by
    have ih := back_flow r (m.set b.2.toNat true) s (by simpa using hm) hd ht.2 hS hf
    have hb := back_at (i := 0) hm hd ht (by simp) hS
    show -S ≤ ((backL cs r s).1.set _ _).getD i 0 ∧ _
    rw [backL, stepB]
    rw [getD_setI]
    split
    · exact sign_bd hb.2.1
    · exact ih i

/-- The heads, forward. -/
def stepH (cs : List Cn) (f : List Int) (b : Int × Int) (h : List Int) : List Int :=
  h.set b.2.toNat (h.getD (otherN (cs.getD b.1.toNat cn0) b.2).toNat 0 - lossF (cs.getD b.1.toNat cn0).res (signN (cs.getD b.1.toNat cn0) b.2 * f.getD b.1.toNat 0))
def foreL (cs : List Cn) (f : List Int) : List (Int × Int) → List Int → List Int
  | [], h => h
  | b :: r, h => foreL cs f r (stepH cs f b h)
theorem foreL_len (cs : List Cn) (f : List Int) : ∀ (l : List (Int × Int)) (h : List Int), (foreL cs f l h).length = h.length
  | [], h => rfl
  | b :: r, h => by rw [foreL, foreL_len cs f r]; simp [stepH]
theorem foreL_drop {cs : List Cn} {f : List Int} {l : List (Int × Int)} {i : Nat} (h : i < l.length) (x : List Int) : foreL cs f (l.drop i) x = foreL cs f (l.drop (i + 1)) (stepH cs f (l.getD i (0, 0)) x) := by
  have e : l.getD i (0, 0) = l[i] := by simp [List.getD_eq_getElem?_getD, h]
  rw [List.drop_eq_getElem_cons h, foreL, e]
end Go.Tr

/- Contracts of chapter 2: the state of a net. Conditions: none. -/
namespace Go.Tr
open Go Go.Proofs
set_option maxRecDepth 20000
set_option maxHeartbeats 8000000

theorem S45 (N : Net) (b : List (Int × Int)) (c : Int) (x : Int × Int) (h0 : 0 ≤ x.1) (h1 : x.1 < N.cs.length) : SP 45 [treeA N b c, .agg (brC x)] (.tuple [i64 (otherN (N.cs.getD x.1.toNat cn0) x.2), i64 (signN (N.cs.getD x.1.toNat cn0) x.2)]) false := by
  unfold otherN signN
  refine sound (d := 2) tok2 mixed2 Try.func45 (by kernel_rfl) (by kernel_rfl) ?_
  conv => whnf
  refine ⟨⟨(by omega), (by omega)⟩, ?_⟩
  conv => whnf
  refine ifB_bne (fun w1 => ?_) (fun w1 => ?_)
  · conv => whnf
    refine ⟨?_, nofun⟩
    rw [if_neg w1, if_neg w1]
    exact ave_tup2 (k := 4) rfl rfl
  · conv => whnf
    refine ⟨?_, nofun⟩
    rw [if_pos w1, if_pos w1]
    exact ave_tup2 (k := 4) rfl rfl

theorem mem_getD {l : List Cn} {k : Nat} (h : k < l.length) : l.getD k cn0 ∈ l := by simp [List.getD_eq_getElem?_getD, h]
/-- What is asked of a tree for its states. -/
structure StOk (N : Net) (b : List (Int × Int)) (c : Int) : Prop where
  n1 : N.ns.length ≤ 10
  c1 : N.cs.length ≤ 14
  ends : inR N.ns.length N.cs
  dr : ∀ n ∈ N.ns, -10000 ≤ n.draw ∧ n.draw ≤ 10000
  hd : ∀ n ∈ N.ns, 0 ≤ n.head ∧ n.head ≤ 1000000
  res : ∀ c ∈ N.cs, 0 ≤ c.res ∧ c.res ≤ 1000
  tr : TreeOk N.ns.length N.cs (lakesB N) b
  cl : c < N.cs.length
  nb : b.length ≤ 10

def drawsL (N : Net) : List Int := N.ns.map Nd.draw
def headsL (N : Net) : List Int := N.ns.map fun n => 1000 * n.head
theorem drawsL_getD (N : Net) (k : Nat) (h : k < N.ns.length) : (drawsL N).getD k 0 = (N.ns.getD k nd0).draw := by simp [drawsL, List.getD_eq_getElem?_getD, h]
theorem headsL_getD (N : Net) (k : Nat) (h : k < N.ns.length) : (headsL N).getD k 0 = 1000 * (N.ns.getD k nd0).head := by simp [headsL, List.getD_eq_getElem?_getD, h]
theorem set_invI {y W : List Int} {k : Nat} {v : Int} (h : ∀ i, i < k → y.getD i 0 = W.getD i 0) (hk : k < y.length) (hv : v = W.getD k 0) : ∀ i, i < k + 1 → (y.set k v).getD i 0 = W.getD i 0 := fun i hi => by
  rw [getD_setI]
  by_cases e : i = k
  · subst e; rw [if_pos ⟨rfl, hk⟩]; exact hv
  · rw [if_neg (fun h => e h.1)]; exact h i (by omega)
theorem ext_invI {y W : List Int} {n : Nat} (h1 : y.length = n) (h2 : W.length = n) (h : ∀ i, i < n → y.getD i 0 = W.getD i 0) : y = W := by
  apply List.ext_getElem (h1.trans h2.symm)
  intro i a b
  have := h i (by omega)
  simpa [List.getD_eq_getElem?_getD, a, b] using this
theorem rep_rowI (n i : Nat) : [i64 ((List.replicate n 0).getD i 0)] = [i64 0] := by
  simp only [List.getD_eq_getElem?_getD, List.getElem?_replicate]
  split <;> rfl

/-- The flows and draws before the branches are walked. -/
def st0 (N : Net) (c q : Int) : List Int × List Int :=
  if c < 0 then (List.replicate N.cs.length 0, drawsL N)
  else ((List.replicate N.cs.length 0).set c.toNat q,
    ((drawsL N).set (N.cs.getD c.toNat cn0).fr.toNat ((drawsL N).getD (N.cs.getD c.toNat cn0).fr.toNat 0 + q)).set (N.cs.getD c.toNat cn0).to.toNat
      (((drawsL N).set (N.cs.getD c.toNat cn0).fr.toNat ((drawsL N).getD (N.cs.getD c.toNat cn0).fr.toNat 0 + q)).getD (N.cs.getD c.toNat cn0).to.toNat 0 - q))
theorem drawsL_len (N : Net) : (drawsL N).length = N.ns.length := by simp [drawsL]
theorem headsL_len (N : Net) : (headsL N).length = N.ns.length := by simp [headsL]

theorem st0_len0 (N : Net) (c q : Int) : (st0 N c q).1.length = N.cs.length := by unfold st0; split <;> simp
theorem st0_len1 (N : Net) (c q : Int) : (st0 N c q).2.length = N.ns.length := by unfold st0; split <;> simp [drawsL]
theorem S44 (l : List (Int × Int)) : SP 44 [brA l] (.func (.func 58) 0 [.rptr [brA l]]) false := by
  refine sound (d := 2) tok2 mixed2 Try.func44 (by kernel_rfl) (by kernel_rfl) ?_
  conv => whnf
  refine ⟨?_, nofun⟩
  rfl
theorem getD_bdI {l : List Int} {A B : Int} (h : ∀ x ∈ l, A ≤ x ∧ x ≤ B) (hA : A ≤ 0) (hB : 0 ≤ B) (i : Nat) : A ≤ l.getD i 0 ∧ l.getD i 0 ≤ B := by
  rw [List.getD_eq_getElem?_getD]
  by_cases hi : i < l.length
  · rw [List.getElem?_eq_getElem hi]; exact h _ (List.getElem_mem hi)
  · rw [List.getElem?_eq_none (by omega)]; exact ⟨hA, hB⟩
theorem drawsL_bd {N : Net} (h : ∀ n ∈ N.ns, -10000 ≤ n.draw ∧ n.draw ≤ 10000) (i : Nat) : -10000 ≤ (drawsL N).getD i 0 ∧ (drawsL N).getD i 0 ≤ 10000 :=
  getD_bdI (fun x hx => by obtain ⟨n, hn, rfl⟩ := List.mem_map.1 hx; exact h n hn) (by omega) (by omega) i
theorem set_bdI {l : List Int} {A B : Int} {k : Nat} {v : Int} (h : ∀ i, A ≤ l.getD i 0 ∧ l.getD i 0 ≤ B) (hv : A ≤ v ∧ v ≤ B) (i : Nat) : A ≤ (l.set k v).getD i 0 ∧ (l.set k v).getD i 0 ≤ B := by
  rw [getD_setI]; split
  · exact hv
  · exact h i
theorem st0_bd {N : Net} {b : List (Int × Int)} {c q : Int} (hS : StOk N b c) (hq : -200000 ≤ q ∧ q ≤ 200000) (i : Nat) : -410000 ≤ (st0 N c q).2.getD i 0 ∧ (st0 N c q).2.getD i 0 ≤ 410000 := by
  have hbd := drawsL_bd hS.dr
  unfold st0
  split
  · have := hbd i
    show -410000 ≤ (drawsL N).getD i 0 ∧ (drawsL N).getD i 0 ≤ 410000
    omega
  · have h1 := fun i => set_bdI (l := drawsL N) (A := -210000) (B := 210000) (k := (N.cs.getD c.toNat cn0).fr.toNat) (v := (drawsL N).getD (N.cs.getD c.toNat cn0).fr.toNat 0 + q) (fun i => by have := hbd i; omega) (by have := hbd (N.cs.getD c.toNat cn0).fr.toNat; omega) i
    exact set_bdI (fun i => by have := h1 i; omega) (by have := h1 (N.cs.getD c.toNat cn0).to.toNat; omega) i
theorem st0_sum {N : Net} {b : List (Int × Int)} {c q : Int} (hS : StOk N b c) (hq : -200000 ≤ q ∧ q ≤ 200000) : sumA (st0 N c q).2 ≤ 4100000 := by
  have h := sumA_le (B := 410000) (st0 N c q).2 fun i => absI_of (st0_bd hS hq i)
  rw [st0_len1] at h
  have := hS.n1
  omega
theorem st0_fl {N : Net} {b : List (Int × Int)} {c q : Int} (_ : StOk N b c) (hq : -200000 ≤ q ∧ q ≤ 200000) (i : Nat) : -4100000 ≤ (st0 N c q).1.getD i 0 ∧ (st0 N c q).1.getD i 0 ≤ 4100000 := by
  have hz : ∀ i, -4100000 ≤ (List.replicate N.cs.length (0 : Int)).getD i 0 ∧ (List.replicate N.cs.length (0 : Int)).getD i 0 ≤ 4100000 := fun i => by
    have := rep_rowI N.cs.length i
    have e : (List.replicate N.cs.length (0 : Int)).getD i 0 = 0 := by
      simp only [List.getD_eq_getElem?_getD, List.getElem?_replicate]; split <;> rfl
    omega
  unfold st0
  split
  · exact hz i
  · exact set_bdI hz (by omega) i
/-- The state of a tree at a circulation: the flows, and the heads. -/
def stateF (N : Net) (b : List (Int × Int)) (c q : Int) : List Int × List Int :=
  ((backL N.cs b (st0 N c q)).1, foreL N.cs (backL N.cs b (st0 N c q)).1 b (headsL N))
theorem lossW {r f : Int} (hr : 0 ≤ r ∧ r ≤ 1000) (hf : -4100000 ≤ f ∧ f ≤ 4100000) : (-4100000000 ≤ r * f ∧ r * f ≤ 4100000000) ∧ -16810000000000000 ≤ lossF r f ∧ lossF r f ≤ 16810000000000000 := by
  have h1 := mul_bound (A := 1000) (B := 4100000) (by omega) hr.2 hf.1 hf.2 (by omega) (by omega)
  have h2 := mul_bound (a := r * f) (b := sizeF f) (A := 4100000000) (B := 4100000) (by omega) (by omega) (sizeF_le hf.1 hf.2).1 (sizeF_le hf.1 hf.2).2 (by omega) (by omega)
  unfold lossF
  omega
theorem S46w (r f : Int) (hr : 0 ≤ r ∧ r ≤ 1000) (hf : -4100000 ≤ f ∧ f ≤ 4100000) : SP 46 [i64 r, i64 f] (i64 (lossF r f)) false := by
  have h := lossW hr hf
  unfold lossF at h ⊢
  unfold sizeF at h ⊢
  refine sound (d := 2) tok2 mixed2 Try.func46 (by kernel_rfl) (by kernel_rfl) ?_
  conv => whnf
  refine ⟨inK64 (by omega) (by omega), ?_⟩
  conv => whnf
  refine ⟨inK64 (by omega) (by omega), ?_⟩
  conv => whnf
  refine ⟨inK64 (by omega) (by omega), ?_⟩
  conv => whnf
  refine ⟨?_, nofun⟩
  rfl
theorem headsL_bd {N : Net} (h : ∀ n ∈ N.ns, 0 ≤ n.head ∧ n.head ≤ 1000000) (i : Nat) : -1000000000 ≤ (headsL N).getD i 0 ∧ (headsL N).getD i 0 ≤ 1000000000 :=
  getD_bdI (fun x hx => by obtain ⟨n, hn, rfl⟩ := List.mem_map.1 hx; have := h n hn; omega) (by omega) (by omega) i
set_option maxHeartbeats 0 in
theorem S31 (N : Net) (b : List (Int × Int)) (c : Int) (q : Int) (hS : StOk N b c) (hq : -200000 ≤ q ∧ q ≤ 200000) : SP 31 [treeA N b c, i64 q] (.agg [ints (stateF N b c q).1, ints (stateF N b c q).2]) false := by
  have hn := hS.n1
  have hc := hS.c1
  refine sound (d := 2) tok2 mixed2 Try.func31 (by kernel_rfl) (by kernel_rfl) ?_
  conv => whnf
  refine ⟨[], by kernel_rfl, ?_⟩
  conv => whnf
  refine ⟨⟨(by omega), ⟨(by omega), ⟨(by omega), (by show _ * ((8 : Nat) : Int) ≤ _; omega)⟩⟩⟩, ?_⟩
  conv => whnf
  refine ⟨⟨(by omega), ⟨(by omega), ⟨(by omega), (by show _ * ((8 : Nat) : Int) ≤ _; omega)⟩⟩⟩, ?_⟩
  conv => whnf
  refine ⟨⟨(by omega), ⟨(by omega), ⟨(by omega), (by show _ * ((8 : Nat) : Int) ≤ _; omega)⟩⟩⟩, ?_⟩
  conv => whnf
  refine ⟨[], [1, 2, 4, 5, 6, 40, 41, 42], fun st mq => ∃ (k : Nat) (d : List Int) (h : List Int), (k ≤ N.ns.length) ∧ (d.length = N.ns.length) ∧ (h.length = N.ns.length) ∧ (∀ i, i < k → d.getD i 0 = (drawsL N).getD i 0) ∧ (∀ i, i < k → h.getD i 0 = (headsL N).getD i 0) ∧ st = ⟨[(1, i64 q), (2, .optr 0 0 0 0), (4, .optr 1 0 0 0), (5, .optr 4 0 0 0), (6, .optr 6 0 0 0), (40, listA 4 ndC nd0 N.ns), (41, i64 N.ns.length), (42, i64 k)], ⟨[⟨4, 1, fun _ => [listA 4 ndC nd0 N.ns, listA 6 cnC cn0 N.cs, brA b, i64 c], 0, false, true, true⟩, ⟨2, 1, fun _ => [.eslice, .eslice], 0, false, true, true⟩, ⟨1, N.cs.length, fun i => [i64 ((List.replicate N.cs.length 0).getD i 0)], 0, false, true, false⟩, ⟨1, N.ns.length, fun i => [i64 (h.getD i 0)], 0, false, true, false⟩, ⟨2, 1, fun _ => [.oslice 2 0 0 N.cs.length (some N.cs.length), .oslice 3 0 0 N.ns.length (some N.ns.length)], 0, false, false, true⟩, ⟨1, N.ns.length, fun i => [i64 (d.getD i 0)], 0, false, true, false⟩, ⟨1, 1, fun _ => [.oslice 5 0 0 N.ns.length (some N.ns.length)], 0, false, false, true⟩], [], none, 0⟩, []⟩ ∧ mq = N.ns.length - k,
    ⟨_, _, ⟨0, List.replicate N.ns.length 0, List.replicate N.ns.length 0, by omega, by simp, by simp, fun i h => absurd h (Nat.not_lt_zero i), fun i h => absurd h (Nat.not_lt_zero i), rfl, rfl⟩, ⟨⟨rfl, rfl, rfl, rfl⟩, ⟨⟨rfl, rfl, rfl, rfl, fun _ => rfl, fun _ _ => rfl⟩, ⟨⟨rfl, rfl, rfl, rfl, fun _ => rfl, fun _ _ => rfl⟩, ⟨⟨rfl, rfl, rfl, rfl, fun _ => rfl, fun i _ => rep_rowI _ i⟩, ⟨⟨rfl, rfl, rfl, rfl, fun _ => rfl, fun i _ => rep_rowI _ i⟩, ⟨⟨rfl, rfl, rfl, rfl, nofun, fun _ _ => rfl⟩, ⟨⟨rfl, rfl, rfl, rfl, fun _ => rfl, fun i _ => rep_rowI _ i⟩, ⟨⟨rfl, rfl, rfl, rfl, nofun, fun _ _ => rfl⟩, trivial⟩⟩⟩⟩⟩⟩⟩, trivial⟩⟩, ?_⟩
  rintro s0 m0 ⟨k, d, h, hk, hd, hh, h1, h2, rfl, hmeas⟩
  by_cases hkl : k < N.ns.length
  · have hb := hS.hd (N.ns.getD (k : Int).toNat nd0) (by simp [List.getD_eq_getElem?_getD, hkl])
    have g1 := set_invI (v := (N.ns.getD (k : Int).toNat nd0).draw) h1 (by omega) (drawsL_getD N k hkl).symm
    have g2 := set_invI (v := 1000 * (N.ns.getD (k : Int).toNat nd0).head) h2 (by omega) (headsL_getD N k hkl).symm
    conv => whnf
    conv => whnf
    refine ifB_dec (fun w1 => ?_) (fun w1 => ?_)
    · conv => whnf
      conv => whnf
      refine ⟨⟨(by omega), (by omega)⟩, ?_⟩
      conv => whnf
      conv => whnf
      refine ⟨⟨(by omega), (by omega)⟩, ?_⟩
      refine ⟨_, fun i _ => rowI _ _ i _ (by first | omega | (simp only [List.length_set]; omega) | (simp only [List.length_replicate]; omega) | (simp only [List.length_set, List.length_replicate]; omega)), ?_⟩
      conv => whnf
      conv => whnf
      refine ⟨inK64 (by omega) (by omega), ?_⟩
      conv => whnf
      conv => whnf
      refine ⟨⟨(by omega), (by omega)⟩, ?_⟩
      refine ⟨_, fun i _ => rowI _ _ i _ (by first | omega | (simp only [List.length_set]; omega) | (simp only [List.length_replicate]; omega) | (simp only [List.length_set, List.length_replicate]; omega)), ?_⟩
      conv => whnf
      conv => whnf
      refine ⟨inK64 (by omega) (by omega), ?_⟩
      conv => whnf
      conv => whnf
      refine ⟨_, _, ⟨⟨k + 1, _, _, by omega, by simpa using hd, by simpa using hh, g1, g2, rfl, rfl⟩, by omega⟩, ⟨⟨rfl, rfl, rfl, rfl⟩, ⟨⟨rfl, rfl, rfl, rfl, fun _ => rfl, fun _ _ => rfl⟩, ⟨⟨rfl, rfl, rfl, rfl, fun _ => rfl, fun _ _ => rfl⟩, ⟨⟨rfl, rfl, rfl, rfl, fun _ => rfl, fun _ _ => rfl⟩, ⟨⟨rfl, rfl, rfl, rfl, fun _ => rfl, fun _ _ => rfl⟩, ⟨⟨rfl, rfl, rfl, rfl, nofun, fun _ _ => rfl⟩, ⟨⟨rfl, rfl, rfl, rfl, fun _ => rfl, fun _ _ => rfl⟩, ⟨⟨rfl, rfl, rfl, rfl, nofun, fun _ _ => rfl⟩, trivial⟩⟩⟩⟩⟩⟩⟩, trivial⟩⟩
    · (exfalso; omega)
  · have e : k = N.ns.length := by omega
    subst e
    have e : d = drawsL N := ext_invI hd (drawsL_len N) h1
    subst e
    have e : h = headsL N := ext_invI hh (headsL_len N) h2
    subst e
    clear h1 h2 hk hmeas
    have hbd := drawsL_bd hS.dr
    have hnb := hS.nb
    have hs0 := st0_len0 N c q
    have hs1 := st0_len1 N c q
    have hsum := st0_sum hS hq
    by_cases hc0 : c < 0
    · conv => whnf
      conv => whnf
      refine ifB_dec (fun w1 => ?_) (fun w1 => ?_)
      · (exfalso; omega)
      · conv => whnf
        conv => whnf
        refine ifB_dec (fun w2 => ?_) (fun w2 => ?_)
        · (exfalso; omega)
        · conv => whnf
          conv => whnf
          refine .inl ⟨_, _, byX rfl (S44 _), ?_⟩
          conv => whnf
          conv => whnf
          refine ⟨(by first | rfl | assumption), ?_⟩
          refine ⟨_, keep_ok [1, 2, 4, 5, 6, 95] _, ?_⟩
          conv => whnf
          conv => whnf
          refine ⟨inK64 (by omega) (by omega), ?_⟩
          conv => whnf
          conv => whnf
          refine ⟨[], [0, 1, 3], fun st mq => ∃ (j : Int) (f : List Int) (d : List Int), (-1 ≤ j ∧ j < b.length) ∧ ((f, d) = backL N.cs (b.drop (j + 1).toNat) (st0 N c q)) ∧ st = ⟨[(0, .yld 0), (1, .rptr [brA b]), (3, i64 j)], ⟨[⟨4, 1, fun _ => [listA 4 ndC nd0 N.ns, listA 6 cnC cn0 N.cs, brA b, i64 c], 0, false, true, true⟩, ⟨2, 1, fun _ => [.eslice, .eslice], 0, false, true, true⟩, ⟨1, N.cs.length, fun i => [i64 (f.getD i 0)], 0, false, true, false⟩, ⟨1, N.ns.length, fun i => [i64 ((headsL N).getD i 0)], 0, false, true, false⟩, ⟨2, 1, fun _ => [.oslice 2 0 0 N.cs.length (some N.cs.length), .oslice 3 0 0 N.ns.length (some N.ns.length)], 0, false, false, true⟩, ⟨1, N.ns.length, fun i => [i64 (d.getD i 0)], 0, false, true, false⟩, ⟨1, 1, fun _ => [.oslice 5 0 0 N.ns.length (some N.ns.length)], 0, false, false, true⟩], [], none, 1⟩, [(1, i64 q), (2, .optr 0 0 0 0), (4, .optr 1 0 0 0), (5, .optr 4 0 0 0), (6, .optr 6 0 0 0), (95, .func (.func 58) 0 [.rptr [brA b]])]⟩ ∧ mq = (j + 1).toNat,
            ⟨_, _, ⟨(b.length : Int) - 1, List.replicate N.cs.length 0, drawsL N, by omega, (by rw [show ((b.length : Int) - 1 + 1).toNat = b.length by omega, List.drop_length, backL, st0, if_pos hc0]), rfl, rfl⟩, ⟨⟨rfl, rfl, rfl, rfl⟩, ⟨⟨rfl, rfl, rfl, rfl, fun _ => rfl, fun _ _ => rfl⟩, ⟨⟨rfl, rfl, rfl, rfl, fun _ => rfl, fun _ _ => rfl⟩, ⟨⟨rfl, rfl, rfl, rfl, fun _ => rfl, fun _ _ => rfl⟩, ⟨⟨rfl, rfl, rfl, rfl, fun _ => rfl, fun _ _ => rfl⟩, ⟨⟨rfl, rfl, rfl, rfl, nofun, fun _ _ => rfl⟩, ⟨⟨rfl, rfl, rfl, rfl, fun _ => rfl, fun _ _ => rfl⟩, ⟨⟨rfl, rfl, rfl, rfl, nofun, fun _ _ => rfl⟩, trivial⟩⟩⟩⟩⟩⟩⟩, trivial⟩⟩, ?_⟩
          rintro s0 m0 ⟨j, f, d, hj, he, rfl, hmeas⟩
          have hdl : d.length = N.ns.length := by
            have e := congrArg Prod.snd he
            simp only at e
            rw [e, (backL_len _ _ _).2]; exact hs1
          have hfl : f.length = N.cs.length := by
            have e := congrArg Prod.fst he
            simp only at e
            rw [e, (backL_len _ _ _).1]; exact hs0
          by_cases hj0 : 0 ≤ j
          · obtain ⟨hB, hv, ho⟩ := back_at (lakesB_len N) hs1 hS.tr (i := j.toNat) (by omega) hsum
            have e1 : (j + 1).toNat = j.toNat + 1 := by omega
            rw [e1] at he
            rw [← he] at hv ho
            simp only at hv ho
            have hsg := sign_bd (c := N.cs.getD (b.getD j.toNat (0, 0)).1.toNat cn0) (v := (b.getD j.toNat (0, 0)).2) hv
            have i0 := hB.i0; have i1 := hB.i1; have v0 := hB.v0; have v1 := hB.v1; have o0 := hB.o0; have o1 := hB.o1
            rw [← Nat.zero_add (b.getD j.toNat (0, 0)).2.toNat] at hv hsg
            rw [← Nat.zero_add (otherN (N.cs.getD (b.getD j.toNat (0, 0)).1.toNat cn0) (b.getD j.toNat (0, 0)).2).toNat] at ho
            conv => whnf
            conv => whnf
            conv => whnf
            refine ifB_dec (fun w3 => ?_) (fun w3 => ?_)
            · conv => whnf
              conv => whnf
              conv => whnf
              refine ⟨⟨(by omega), (by omega)⟩, ?_⟩
              conv => whnf
              conv => whnf
              conv => whnf
              refine ⟨(by first | rfl | assumption), ?_⟩
              conv => whnf
              conv => whnf
              conv => whnf
              refine .inl ⟨_, _, byX rfl (Sound1.pl (S45 _ _ _ _ (by omega) (by omega)) rfl), ?_⟩
              conv => whnf
              conv => whnf
              conv => whnf
              refine ⟨[], by kernel_rfl, ?_⟩
              conv => whnf
              conv => whnf
              conv => whnf
              refine ⟨⟨(by omega), (by omega)⟩, ?_⟩
              conv => whnf
              conv => whnf
              conv => whnf
              refine ⟨inK64 (by omega) (by omega), ?_⟩
              conv => whnf
              conv => whnf
              conv => whnf
              refine ⟨⟨(by omega), (by omega)⟩, ?_⟩
              refine ⟨_, fun i _ => rowI _ _ i _ (by first | omega | (simp only [List.length_set]; omega) | (simp only [List.length_replicate]; omega) | (simp only [List.length_set, List.length_replicate]; omega)), ?_⟩
              conv => whnf
              conv => whnf
              conv => whnf
              refine ⟨[], by kernel_rfl, ?_⟩
              conv => whnf
              conv => whnf
              conv => whnf
              refine ⟨⟨(by omega), (by omega)⟩, ?_⟩
              conv => whnf
              conv => whnf
              conv => whnf
              refine ⟨⟨(by omega), (by omega)⟩, ?_⟩
              conv => whnf
              conv => whnf
              conv => whnf
              refine ⟨inK64 (by omega) (by omega), ?_⟩
              conv => whnf
              conv => whnf
              conv => whnf
              refine ⟨⟨(by omega), (by omega)⟩, ?_⟩
              refine ⟨_, fun i _ => rowI _ _ i _ (by first | omega | (simp only [List.length_set]; omega) | (simp only [List.length_replicate]; omega) | (simp only [List.length_set, List.length_replicate]; omega)), ?_⟩
              conv => whnf
              conv => whnf
              conv => whnf
              refine ⟨inK64 (by omega) (by omega), ?_⟩
              conv => whnf
              conv => whnf
              conv => whnf
              refine ⟨_, _, ⟨⟨j - 1, _, _, by omega, (by rw [show (j - 1 + 1).toNat = j.toNat by omega, backL_drop (by omega), ← he]; simp only [stepB, Nat.zero_add]), rfl, rfl⟩, by omega⟩, ⟨⟨rfl, rfl, rfl, rfl⟩, ⟨⟨rfl, rfl, rfl, rfl, fun _ => rfl, fun _ _ => rfl⟩, ⟨⟨rfl, rfl, rfl, rfl, fun _ => rfl, fun _ _ => rfl⟩, ⟨⟨rfl, rfl, rfl, rfl, fun _ => rfl, fun _ _ => rfl⟩, ⟨⟨rfl, rfl, rfl, rfl, fun _ => rfl, fun _ _ => rfl⟩, ⟨⟨rfl, rfl, rfl, rfl, nofun, fun _ _ => rfl⟩, ⟨⟨rfl, rfl, rfl, rfl, fun _ => rfl, fun _ _ => rfl⟩, ⟨⟨rfl, rfl, rfl, rfl, nofun, fun _ _ => rfl⟩, trivial⟩⟩⟩⟩⟩⟩⟩, trivial⟩⟩
            · (exfalso; omega)
          · have e : j = -1 := by omega
            subst e
            have he' : (f, d) = backL N.cs b (st0 N c q) := he
            clear he hj hj0 hmeas
            conv => whnf
            conv => whnf
            conv => whnf
            refine ⟨[], [2, 4, 5, 128, 129, 130], fun st mq => ∃ (i : Nat) (h : List Int), (i ≤ b.length) ∧ (h.length = N.ns.length) ∧ (foreL N.cs f (b.drop i) h = foreL N.cs f b (headsL N)) ∧ (∀ j, -(1000000000 + i * 17000000000000000) ≤ h.getD j 0 ∧ h.getD j 0 ≤ 1000000000 + i * 17000000000000000) ∧ st = ⟨[(2, .optr 0 0 0 0), (4, .optr 1 0 0 0), (5, .optr 4 0 0 0), (128, brA b), (129, i64 b.length), (130, i64 i)], ⟨[⟨4, 1, fun _ => [listA 4 ndC nd0 N.ns, listA 6 cnC cn0 N.cs, brA b, i64 c], 0, false, true, true⟩, ⟨2, 1, fun _ => [.eslice, .eslice], 0, false, true, true⟩, ⟨1, N.cs.length, fun i => [i64 (f.getD i 0)], 0, false, true, false⟩, ⟨1, N.ns.length, fun i => [i64 (h.getD i 0)], 0, false, true, false⟩, ⟨2, 1, fun _ => [.oslice 2 0 0 N.cs.length (some N.cs.length), .oslice 3 0 0 N.ns.length (some N.ns.length)], 0, false, false, true⟩, ⟨1, N.ns.length, fun i => [i64 (d.getD i 0)], 0, false, true, false⟩, ⟨1, 1, fun _ => [.oslice 5 0 0 N.ns.length (some N.ns.length)], 0, false, false, true⟩], [], none, 1⟩, []⟩ ∧ mq = b.length - i,
              ⟨_, _, ⟨0, headsL N, by omega, headsL_len N, rfl, fun j => (by have := headsL_bd hS.hd j; omega), rfl, rfl⟩, ⟨⟨rfl, rfl, rfl, rfl⟩, ⟨⟨rfl, rfl, rfl, rfl, fun _ => rfl, fun _ _ => rfl⟩, ⟨⟨rfl, rfl, rfl, rfl, fun _ => rfl, fun _ _ => rfl⟩, ⟨⟨rfl, rfl, rfl, rfl, fun _ => rfl, fun _ _ => rfl⟩, ⟨⟨rfl, rfl, rfl, rfl, fun _ => rfl, fun _ _ => rfl⟩, ⟨⟨rfl, rfl, rfl, rfl, nofun, fun _ _ => rfl⟩, ⟨⟨rfl, rfl, rfl, rfl, fun _ => rfl, fun _ _ => rfl⟩, ⟨⟨rfl, rfl, rfl, rfl, nofun, fun _ _ => rfl⟩, trivial⟩⟩⟩⟩⟩⟩⟩, trivial⟩⟩, ?_⟩
            rintro s0 m0 ⟨i, h, hi, hh, hf2, hb0, rfl, hmeas⟩
            have hfe : f = (backL N.cs b (st0 N c q)).1 := congrArg Prod.fst he'
            by_cases hil : i < b.length
            · obtain ⟨hB, _⟩ := back_at (lakesB_len N) hs1 hS.tr (i := (i : Int).toNat) (by omega) hsum
              have hfb := back_flow b (lakesB N) (st0 N c q) (lakesB_len N) hs1 hS.tr hsum (st0_fl hS hq) (0 + (b.getD (i : Int).toNat (0, 0)).1.toNat)
              rw [← hfe] at hfb
              have hsg := sign_bd (c := N.cs.getD (b.getD (i : Int).toNat (0, 0)).1.toNat cn0) (v := (b.getD (i : Int).toNat (0, 0)).2) hfb
              have i0 := hB.i0; have i1 := hB.i1; have v0 := hB.v0; have v1 := hB.v1; have o0 := hB.o0; have o1 := hB.o1
              have hres := hS.res (N.cs.getD (b.getD (i : Int).toNat (0, 0)).1.toNat cn0) (mem_getD (by omega))
              have hlw := lossW hres hsg
              have hho := hb0 (0 + (otherN (N.cs.getD (b.getD (i : Int).toNat (0, 0)).1.toNat cn0) (b.getD (i : Int).toNat (0, 0)).2).toNat)
              rw [foreL_drop hil] at hf2
              conv => whnf
              conv => whnf
              conv => whnf
              conv => whnf
              refine ifB_dec (fun w3 => ?_) (fun w3 => ?_)
              · conv => whnf
                conv => whnf
                conv => whnf
                conv => whnf
                refine ⟨⟨(by omega), (by omega)⟩, ?_⟩
                conv => whnf
                conv => whnf
                conv => whnf
                conv => whnf
                refine .inl ⟨_, _, byX rfl (Sound1.pl (S45 _ _ _ _ (by omega) (by omega)) rfl), ?_⟩
                conv => whnf
                conv => whnf
                conv => whnf
                conv => whnf
                refine ⟨[], by kernel_rfl, ?_⟩
                conv => whnf
                conv => whnf
                conv => whnf
                conv => whnf
                refine ⟨⟨(by omega), (by omega)⟩, ?_⟩
                conv => whnf
                conv => whnf
                conv => whnf
                conv => whnf
                refine ⟨⟨(by omega), (by omega)⟩, ?_⟩
                conv => whnf
                conv => whnf
                conv => whnf
                conv => whnf
                refine ⟨⟨(by omega), (by omega)⟩, ?_⟩
                conv => whnf
                conv => whnf
                conv => whnf
                conv => whnf
                refine ⟨inK64 (by omega) (by omega), ?_⟩
                conv => whnf
                conv => whnf
                conv => whnf
                conv => whnf
                refine .inl ⟨_, _, byX rfl (Sound1.pl (S46w _ _ (by omega) (by omega)) rfl), ?_⟩
                conv => whnf
                conv => whnf
                conv => whnf
                conv => whnf
                refine ⟨inK64 (by omega) (by omega), ?_⟩
                conv => whnf
                conv => whnf
                conv => whnf
                conv => whnf
                refine ⟨⟨(by omega), (by omega)⟩, ?_⟩
                refine ⟨_, fun i _ => rowI _ _ i _ (by first | omega | (simp only [List.length_set]; omega) | (simp only [List.length_replicate]; omega) | (simp only [List.length_set, List.length_replicate]; omega)), ?_⟩
                conv => whnf
                conv => whnf
                conv => whnf
                conv => whnf
                refine ⟨inK64 (by omega) (by omega), ?_⟩
                conv => whnf
                conv => whnf
                conv => whnf
                conv => whnf
                refine ⟨_, _, ⟨⟨i + 1, _, by omega, (by rw [List.length_set]; exact hh), (by rw [← hf2]; simp only [stepH, Nat.zero_add]; rfl), fun j => set_bdI (fun j => by have := hb0 j; omega) (by omega) j, rfl, rfl⟩, by omega⟩, ⟨⟨rfl, rfl, rfl, rfl⟩, ⟨⟨rfl, rfl, rfl, rfl, fun _ => rfl, fun _ _ => rfl⟩, ⟨⟨rfl, rfl, rfl, rfl, fun _ => rfl, fun _ _ => rfl⟩, ⟨⟨rfl, rfl, rfl, rfl, fun _ => rfl, fun _ _ => rfl⟩, ⟨⟨rfl, rfl, rfl, rfl, fun _ => rfl, fun _ _ => rfl⟩, ⟨⟨rfl, rfl, rfl, rfl, nofun, fun _ _ => rfl⟩, ⟨⟨rfl, rfl, rfl, rfl, fun _ => rfl, fun _ _ => rfl⟩, ⟨⟨rfl, rfl, rfl, rfl, nofun, fun _ _ => rfl⟩, trivial⟩⟩⟩⟩⟩⟩⟩, trivial⟩⟩
              · (exfalso; omega)
            · have e : i = b.length := by omega
              subst e
              rw [List.drop_length, foreL] at hf2
              rw [hfe] at hf2
              conv => whnf
              conv => whnf
              conv => whnf
              conv => whnf
              refine ifB_dec (fun w3 => ?_) (fun w3 => ?_)
              · (exfalso; omega)
              · conv => whnf
                conv => whnf
                conv => whnf
                conv => whnf
                refine ⟨?_, nofun⟩
                exact ave_agg2 (k := 4) (a := .rslice 1 N.cs.length _) (b := .rslice 1 N.ns.length _) ⟨rfl, (by rw [← hfl, hfe]; rfl), fun j _ => by show [i64 (f.getD j 0)] = _; rw [hfe]; rfl⟩ ⟨rfl, (by rw [← hh, hf2]; rfl), fun j _ => by show [i64 (h.getD j 0)] = _; rw [hf2]; rfl⟩
    · have hcl := hS.cl
      have hqq := hS.ends (N.cs.getD c.toNat cn0) (by
        have : c.toNat < N.cs.length := by omega
        simp [List.getD_eq_getElem?_getD, this])
      have hb1 := hbd (0 + (N.cs.getD c.toNat cn0).fr.toNat)
      have hb2 := set_bdI (k := (N.cs.getD c.toNat cn0).fr.toNat) (v := (drawsL N).getD (0 + (N.cs.getD c.toNat cn0).fr.toNat) 0 + q) (A := -210000) (B := 210000) (l := drawsL N) (fun i => by have := hbd i; omega) (by omega) (0 + (N.cs.getD c.toNat cn0).to.toNat)
      conv => whnf
      conv => whnf
      refine ifB_dec (fun w1 => ?_) (fun w1 => ?_)
      · (exfalso; omega)
      · conv => whnf
        conv => whnf
        refine ifB_dec (fun w2 => ?_) (fun w2 => ?_)
        · conv => whnf
          conv => whnf
          refine ⟨⟨(by omega), (by omega)⟩, ?_⟩
          conv => whnf
          conv => whnf
          refine ⟨⟨(by omega), (by omega)⟩, ?_⟩
          refine ⟨_, fun i _ => rowI _ _ i _ (by first | omega | (simp only [List.length_set]; omega) | (simp only [List.length_replicate]; omega) | (simp only [List.length_set, List.length_replicate]; omega)), ?_⟩
          conv => whnf
          conv => whnf
          refine ⟨⟨(by omega), (by omega)⟩, ?_⟩
          conv => whnf
          conv => whnf
          refine ⟨inK64 (by omega) (by omega), ?_⟩
          conv => whnf
          conv => whnf
          refine ⟨⟨(by omega), (by omega)⟩, ?_⟩
          refine ⟨_, fun i _ => rowI _ _ i _ (by first | omega | (simp only [List.length_set]; omega) | (simp only [List.length_replicate]; omega) | (simp only [List.length_set, List.length_replicate]; omega)), ?_⟩
          conv => whnf
          conv => whnf
          refine ⟨⟨(by omega), (by omega)⟩, ?_⟩
          conv => whnf
          conv => whnf
          refine ⟨inK64 (by omega) (by omega), ?_⟩
          conv => whnf
          conv => whnf
          refine ⟨⟨(by omega), (by omega)⟩, ?_⟩
          refine ⟨_, fun i _ => rowI _ _ i _ (by first | omega | (simp only [List.length_set]; omega) | (simp only [List.length_replicate]; omega) | (simp only [List.length_set, List.length_replicate]; omega)), ?_⟩
          conv => whnf
          conv => whnf
          refine .inl ⟨_, _, byX rfl (S44 _), ?_⟩
          conv => whnf
          conv => whnf
          refine ⟨(by first | rfl | assumption), ?_⟩
          refine ⟨_, keep_ok [1, 2, 4, 5, 6, 95] _, ?_⟩
          conv => whnf
          conv => whnf
          refine ⟨inK64 (by omega) (by omega), ?_⟩
          conv => whnf
          conv => whnf
          refine ⟨[], [0, 1, 3], fun st mq => ∃ (j : Int) (f : List Int) (d : List Int) (F7 : Nat → List AV), (-1 ≤ j ∧ j < b.length) ∧ ((f, d) = backL N.cs (b.drop (j + 1).toNat) (st0 N c q)) ∧ st = ⟨[(0, .yld 0), (1, .rptr [brA b]), (3, i64 j)], ⟨[⟨4, 1, fun _ => [listA 4 ndC nd0 N.ns, listA 6 cnC cn0 N.cs, brA b, i64 c], 0, false, true, true⟩, ⟨2, 1, fun _ => [.eslice, .eslice], 0, false, true, true⟩, ⟨1, N.cs.length, fun i => [i64 (f.getD i 0)], 0, false, true, false⟩, ⟨1, N.ns.length, fun i => [i64 ((headsL N).getD i 0)], 0, false, true, false⟩, ⟨2, 1, fun _ => [.oslice 2 0 0 N.cs.length (some N.cs.length), .oslice 3 0 0 N.ns.length (some N.ns.length)], 0, false, false, true⟩, ⟨1, N.ns.length, fun i => [i64 (d.getD i 0)], 0, false, true, false⟩, ⟨1, 1, fun _ => [.oslice 5 0 0 N.ns.length (some N.ns.length)], 0, false, false, true⟩, ⟨6, 1, F7, 0, false, true, false⟩], [], none, 1⟩, [(1, i64 q), (2, .optr 0 0 0 0), (4, .optr 1 0 0 0), (5, .optr 4 0 0 0), (6, .optr 6 0 0 0), (95, .func (.func 58) 0 [.rptr [brA b]])]⟩ ∧ mq = (j + 1).toNat,
            ⟨_, _, ⟨(b.length : Int) - 1, _, _, _, by omega, (by rw [show ((b.length : Int) - 1 + 1).toNat = b.length by omega, List.drop_length, backL, st0, if_neg hc0]; simp only [Nat.zero_add]), rfl, rfl⟩, ⟨⟨rfl, rfl, rfl, rfl⟩, ⟨⟨rfl, rfl, rfl, rfl, fun _ => rfl, fun _ _ => rfl⟩, ⟨⟨rfl, rfl, rfl, rfl, fun _ => rfl, fun _ _ => rfl⟩, ⟨⟨rfl, rfl, rfl, rfl, fun _ => rfl, fun _ _ => rfl⟩, ⟨⟨rfl, rfl, rfl, rfl, fun _ => rfl, fun _ _ => rfl⟩, ⟨⟨rfl, rfl, rfl, rfl, nofun, fun _ _ => rfl⟩, ⟨⟨rfl, rfl, rfl, rfl, fun _ => rfl, fun _ _ => rfl⟩, ⟨⟨rfl, rfl, rfl, rfl, nofun, fun _ _ => rfl⟩, ⟨⟨rfl, rfl, rfl, rfl, fun _ => rfl, fun _ _ => rfl⟩, trivial⟩⟩⟩⟩⟩⟩⟩⟩, trivial⟩⟩, ?_⟩
          rintro s0 m0 ⟨j, f, d, F7, hj, he, rfl, hmeas⟩
          have hdl : d.length = N.ns.length := by
            have e := congrArg Prod.snd he
            simp only at e
            rw [e, (backL_len _ _ _).2]; exact hs1
          have hfl : f.length = N.cs.length := by
            have e := congrArg Prod.fst he
            simp only at e
            rw [e, (backL_len _ _ _).1]; exact hs0
          by_cases hj0 : 0 ≤ j
          · obtain ⟨hB, hv, ho⟩ := back_at (lakesB_len N) hs1 hS.tr (i := j.toNat) (by omega) hsum
            have e1 : (j + 1).toNat = j.toNat + 1 := by omega
            rw [e1] at he
            rw [← he] at hv ho
            simp only at hv ho
            have hsg := sign_bd (c := N.cs.getD (b.getD j.toNat (0, 0)).1.toNat cn0) (v := (b.getD j.toNat (0, 0)).2) hv
            have i0 := hB.i0; have i1 := hB.i1; have v0 := hB.v0; have v1 := hB.v1; have o0 := hB.o0; have o1 := hB.o1
            rw [← Nat.zero_add (b.getD j.toNat (0, 0)).2.toNat] at hv hsg
            rw [← Nat.zero_add (otherN (N.cs.getD (b.getD j.toNat (0, 0)).1.toNat cn0) (b.getD j.toNat (0, 0)).2).toNat] at ho
            conv => whnf
            conv => whnf
            conv => whnf
            refine ifB_dec (fun w3 => ?_) (fun w3 => ?_)
            · conv => whnf
              conv => whnf
              conv => whnf
              refine ⟨⟨(by omega), (by omega)⟩, ?_⟩
              conv => whnf
              conv => whnf
              conv => whnf
              refine ⟨(by first | rfl | assumption), ?_⟩
              conv => whnf
              conv => whnf
              conv => whnf
              refine .inl ⟨_, _, byX rfl (Sound1.pl (S45 _ _ _ _ (by omega) (by omega)) rfl), ?_⟩
              conv => whnf
              conv => whnf
              conv => whnf
              refine ⟨[], by kernel_rfl, ?_⟩
              conv => whnf
              conv => whnf
              conv => whnf
              refine ⟨⟨(by omega), (by omega)⟩, ?_⟩
              conv => whnf
              conv => whnf
              conv => whnf
              refine ⟨inK64 (by omega) (by omega), ?_⟩
              conv => whnf
              conv => whnf
              conv => whnf
              refine ⟨⟨(by omega), (by omega)⟩, ?_⟩
              refine ⟨_, fun i _ => rowI _ _ i _ (by first | omega | (simp only [List.length_set]; omega) | (simp only [List.length_replicate]; omega) | (simp only [List.length_set, List.length_replicate]; omega)), ?_⟩
              conv => whnf
              conv => whnf
              conv => whnf
              refine ⟨[], by kernel_rfl, ?_⟩
              conv => whnf
              conv => whnf
              conv => whnf
              refine ⟨⟨(by omega), (by omega)⟩, ?_⟩
              conv => whnf
              conv => whnf
              conv => whnf
              refine ⟨⟨(by omega), (by omega)⟩, ?_⟩
              conv => whnf
              conv => whnf
              conv => whnf
              refine ⟨inK64 (by omega) (by omega), ?_⟩
              conv => whnf
              conv => whnf
              conv => whnf
              refine ⟨⟨(by omega), (by omega)⟩, ?_⟩
              refine ⟨_, fun i _ => rowI _ _ i _ (by first | omega | (simp only [List.length_set]; omega) | (simp only [List.length_replicate]; omega) | (simp only [List.length_set, List.length_replicate]; omega)), ?_⟩
              conv => whnf
              conv => whnf
              conv => whnf
              refine ⟨inK64 (by omega) (by omega), ?_⟩
              conv => whnf
              conv => whnf
              conv => whnf
              refine ⟨_, _, ⟨⟨j - 1, _, _, _, by omega, (by rw [show (j - 1 + 1).toNat = j.toNat by omega, backL_drop (by omega), ← he]; simp only [stepB, Nat.zero_add]), rfl, rfl⟩, by omega⟩, ⟨⟨rfl, rfl, rfl, rfl⟩, ⟨⟨rfl, rfl, rfl, rfl, fun _ => rfl, fun _ _ => rfl⟩, ⟨⟨rfl, rfl, rfl, rfl, fun _ => rfl, fun _ _ => rfl⟩, ⟨⟨rfl, rfl, rfl, rfl, fun _ => rfl, fun _ _ => rfl⟩, ⟨⟨rfl, rfl, rfl, rfl, fun _ => rfl, fun _ _ => rfl⟩, ⟨⟨rfl, rfl, rfl, rfl, nofun, fun _ _ => rfl⟩, ⟨⟨rfl, rfl, rfl, rfl, fun _ => rfl, fun _ _ => rfl⟩, ⟨⟨rfl, rfl, rfl, rfl, nofun, fun _ _ => rfl⟩, ⟨⟨rfl, rfl, rfl, rfl, fun _ => rfl, fun _ _ => rfl⟩, trivial⟩⟩⟩⟩⟩⟩⟩⟩, trivial⟩⟩
            · (exfalso; omega)
          · have e : j = -1 := by omega
            subst e
            have he' : (f, d) = backL N.cs b (st0 N c q) := he
            clear he hj hj0 hmeas
            conv => whnf
            conv => whnf
            conv => whnf
            refine ⟨[], [2, 4, 5, 128, 129, 130], fun st mq => ∃ (i : Nat) (h : List Int) (F7 : Nat → List AV), (i ≤ b.length) ∧ (h.length = N.ns.length) ∧ (foreL N.cs f (b.drop i) h = foreL N.cs f b (headsL N)) ∧ (∀ j, -(1000000000 + i * 17000000000000000) ≤ h.getD j 0 ∧ h.getD j 0 ≤ 1000000000 + i * 17000000000000000) ∧ st = ⟨[(2, .optr 0 0 0 0), (4, .optr 1 0 0 0), (5, .optr 4 0 0 0), (128, brA b), (129, i64 b.length), (130, i64 i)], ⟨[⟨4, 1, fun _ => [listA 4 ndC nd0 N.ns, listA 6 cnC cn0 N.cs, brA b, i64 c], 0, false, true, true⟩, ⟨2, 1, fun _ => [.eslice, .eslice], 0, false, true, true⟩, ⟨1, N.cs.length, fun i => [i64 (f.getD i 0)], 0, false, true, false⟩, ⟨1, N.ns.length, fun i => [i64 (h.getD i 0)], 0, false, true, false⟩, ⟨2, 1, fun _ => [.oslice 2 0 0 N.cs.length (some N.cs.length), .oslice 3 0 0 N.ns.length (some N.ns.length)], 0, false, false, true⟩, ⟨1, N.ns.length, fun i => [i64 (d.getD i 0)], 0, false, true, false⟩, ⟨1, 1, fun _ => [.oslice 5 0 0 N.ns.length (some N.ns.length)], 0, false, false, true⟩, ⟨6, 1, F7, 0, false, true, false⟩], [], none, 1⟩, []⟩ ∧ mq = b.length - i,
              ⟨_, _, ⟨0, headsL N, _, by omega, headsL_len N, rfl, fun j => (by have := headsL_bd hS.hd j; omega), rfl, rfl⟩, ⟨⟨rfl, rfl, rfl, rfl⟩, ⟨⟨rfl, rfl, rfl, rfl, fun _ => rfl, fun _ _ => rfl⟩, ⟨⟨rfl, rfl, rfl, rfl, fun _ => rfl, fun _ _ => rfl⟩, ⟨⟨rfl, rfl, rfl, rfl, fun _ => rfl, fun _ _ => rfl⟩, ⟨⟨rfl, rfl, rfl, rfl, fun _ => rfl, fun _ _ => rfl⟩, ⟨⟨rfl, rfl, rfl, rfl, nofun, fun _ _ => rfl⟩, ⟨⟨rfl, rfl, rfl, rfl, fun _ => rfl, fun _ _ => rfl⟩, ⟨⟨rfl, rfl, rfl, rfl, nofun, fun _ _ => rfl⟩, ⟨⟨rfl, rfl, rfl, rfl, fun _ => rfl, fun _ _ => rfl⟩, trivial⟩⟩⟩⟩⟩⟩⟩⟩, trivial⟩⟩, ?_⟩
            rintro s0 m0 ⟨i, h, F7, hi, hh, hf2, hb0, rfl, hmeas⟩
            have hfe : f = (backL N.cs b (st0 N c q)).1 := congrArg Prod.fst he'
            by_cases hil : i < b.length
            · obtain ⟨hB, _⟩ := back_at (lakesB_len N) hs1 hS.tr (i := (i : Int).toNat) (by omega) hsum
              have hfb := back_flow b (lakesB N) (st0 N c q) (lakesB_len N) hs1 hS.tr hsum (st0_fl hS hq) (0 + (b.getD (i : Int).toNat (0, 0)).1.toNat)
              rw [← hfe] at hfb
              have hsg := sign_bd (c := N.cs.getD (b.getD (i : Int).toNat (0, 0)).1.toNat cn0) (v := (b.getD (i : Int).toNat (0, 0)).2) hfb
              have i0 := hB.i0; have i1 := hB.i1; have v0 := hB.v0; have v1 := hB.v1; have o0 := hB.o0; have o1 := hB.o1
              have hres := hS.res (N.cs.getD (b.getD (i : Int).toNat (0, 0)).1.toNat cn0) (mem_getD (by omega))
              have hlw := lossW hres hsg
              have hho := hb0 (0 + (otherN (N.cs.getD (b.getD (i : Int).toNat (0, 0)).1.toNat cn0) (b.getD (i : Int).toNat (0, 0)).2).toNat)
              rw [foreL_drop hil] at hf2
              conv => whnf
              conv => whnf
              conv => whnf
              conv => whnf
              refine ifB_dec (fun w3 => ?_) (fun w3 => ?_)
              · conv => whnf
                conv => whnf
                conv => whnf
                conv => whnf
                refine ⟨⟨(by omega), (by omega)⟩, ?_⟩
                conv => whnf
                conv => whnf
                conv => whnf
                conv => whnf
                refine .inl ⟨_, _, byX rfl (Sound1.pl (S45 _ _ _ _ (by omega) (by omega)) rfl), ?_⟩
                conv => whnf
                conv => whnf
                conv => whnf
                conv => whnf
                refine ⟨[], by kernel_rfl, ?_⟩
                conv => whnf
                conv => whnf
                conv => whnf
                conv => whnf
                refine ⟨⟨(by omega), (by omega)⟩, ?_⟩
                conv => whnf
                conv => whnf
                conv => whnf
                conv => whnf
                refine ⟨⟨(by omega), (by omega)⟩, ?_⟩
                conv => whnf
                conv => whnf
                conv => whnf
                conv => whnf
                refine ⟨⟨(by omega), (by omega)⟩, ?_⟩
                conv => whnf
                conv => whnf
                conv => whnf
                conv => whnf
                refine ⟨inK64 (by omega) (by omega), ?_⟩
                conv => whnf
                conv => whnf
                conv => whnf
                conv => whnf
                refine .inl ⟨_, _, byX rfl (Sound1.pl (S46w _ _ (by omega) (by omega)) rfl), ?_⟩
                conv => whnf
                conv => whnf
                conv => whnf
                conv => whnf
                refine ⟨inK64 (by omega) (by omega), ?_⟩
                conv => whnf
                conv => whnf
                conv => whnf
                conv => whnf
                refine ⟨⟨(by omega), (by omega)⟩, ?_⟩
                refine ⟨_, fun i _ => rowI _ _ i _ (by first | omega | (simp only [List.length_set]; omega) | (simp only [List.length_replicate]; omega) | (simp only [List.length_set, List.length_replicate]; omega)), ?_⟩
                conv => whnf
                conv => whnf
                conv => whnf
                conv => whnf
                refine ⟨inK64 (by omega) (by omega), ?_⟩
                conv => whnf
                conv => whnf
                conv => whnf
                conv => whnf
                refine ⟨_, _, ⟨⟨i + 1, _, _, by omega, (by rw [List.length_set]; exact hh), (by rw [← hf2]; simp only [stepH, Nat.zero_add]; rfl), fun j => set_bdI (fun j => by have := hb0 j; omega) (by omega) j, rfl, rfl⟩, by omega⟩, ⟨⟨rfl, rfl, rfl, rfl⟩, ⟨⟨rfl, rfl, rfl, rfl, fun _ => rfl, fun _ _ => rfl⟩, ⟨⟨rfl, rfl, rfl, rfl, fun _ => rfl, fun _ _ => rfl⟩, ⟨⟨rfl, rfl, rfl, rfl, fun _ => rfl, fun _ _ => rfl⟩, ⟨⟨rfl, rfl, rfl, rfl, fun _ => rfl, fun _ _ => rfl⟩, ⟨⟨rfl, rfl, rfl, rfl, nofun, fun _ _ => rfl⟩, ⟨⟨rfl, rfl, rfl, rfl, fun _ => rfl, fun _ _ => rfl⟩, ⟨⟨rfl, rfl, rfl, rfl, nofun, fun _ _ => rfl⟩, ⟨⟨rfl, rfl, rfl, rfl, fun _ => rfl, fun _ _ => rfl⟩, trivial⟩⟩⟩⟩⟩⟩⟩⟩, trivial⟩⟩
              · (exfalso; omega)
            · have e : i = b.length := by omega
              subst e
              rw [List.drop_length, foreL] at hf2
              rw [hfe] at hf2
              conv => whnf
              conv => whnf
              conv => whnf
              conv => whnf
              refine ifB_dec (fun w3 => ?_) (fun w3 => ?_)
              · (exfalso; omega)
              · conv => whnf
                conv => whnf
                conv => whnf
                conv => whnf
                refine ⟨?_, nofun⟩
                exact ave_agg2 (k := 4) (a := .rslice 1 N.cs.length _) (b := .rslice 1 N.ns.length _) ⟨rfl, (by rw [← hfl, hfe]; rfl), fun j _ => by show [i64 (f.getD j 0)] = _; rw [hfe]; rfl⟩ ⟨rfl, (by rw [← hh, hf2]; rfl), fun j _ => by show [i64 (h.getD j 0)] = _; rw [hf2]; rfl⟩
        · (exfalso; omega)
end Go.Tr

/- Contracts of chapter 2: closing conduit, state and gap of a net. Conditions: none. -/
namespace Go.Tr
open Go Go.Proofs
set_option maxRecDepth 20000
set_option maxHeartbeats 8000000

theorem closeF_lt (T : List Int) : ∀ (l : List Cn) (k : Nat) (o : Int), o < k + l.length → (closeF T k l o).1 < k + l.length
  | [], k, o, h => by simpa [closeF] using h
  | c :: r, k, o, h => by
    rw [closeF]
    simp only [List.length_cons] at h ⊢
    split
    · have := closeF_lt T r (k + 1) o (by omega); omega
    · split
      · omega
      · have := closeF_lt T r (k + 1) k (by omega); omega
theorem clF_bd (N : Net) (h : 0 < N.cs.length) : -1 ≤ (clF N).1 ∧ (clF N).1 < N.cs.length := by
  unfold clF
  split
  · exact ⟨Int.le_refl _, by omega⟩
  · have a := closeF_lt ((brF N).map (·.1)) N.cs 0 (-1) (by omega)
    have b := closeF_err ((brF N).map (·.1)) N.cs 0 (-1) (by omega)
    constructor
    · rcases b with b | b <;> omega
    · simpa using a
theorem node_bd {n : Nd} (h : nodeRight n = true ∧ nodeOther n = 0) : (-10000 ≤ n.draw ∧ n.draw ≤ 10000) ∧ 0 ≤ n.head ∧ n.head ≤ 1000000 := by
  obtain ⟨h1, h2⟩ := h
  unfold nodeRight at h1
  unfold nodeOther at h2
  cases hl : n.lake with
  | true =>
    rw [hl] at h1 h2
    simp only [if_true, decide_eq_true_eq] at h1 h2
    omega
  | false =>
    rw [hl] at h1 h2
    simp only [Bool.false_eq_true, if_false, decide_eq_true_eq] at h1 h2
    omega
theorem stOk {N : Net} (hok : N.Ok) : StOk N (brF N) (clF N).1 where
  n1 := hok.n1
  c1 := hok.c1
  ends := hok.ends
  dr := fun n hn => (node_bd (hok.node n hn)).1
  hd := fun n hn => (node_bd (hok.node n hn)).2
  res := fun c hc => ⟨(hok.con c hc).2.1, (hok.con c hc).2.2.1⟩
  tr := (brF_tree hok.ends).1
  cl := (clF_bd N hok.c0).2
  nb := Nat.le_trans (brF_len hok.ends) hok.n1

theorem foreL_bd {cs : List Cn} {f : List Int} (hcs : ∀ c ∈ cs, 0 ≤ c.res ∧ c.res ≤ 1000) (hf : ∀ i, -4100000 ≤ f.getD i 0 ∧ f.getD i 0 ≤ 4100000) : ∀ (l : List (Int × Int)) (h : List Int) (B : Int), 0 ≤ B → (∀ j, -B ≤ h.getD j 0 ∧ h.getD j 0 ≤ B) →
    ∀ j, -(B + l.length * 17000000000000000) ≤ (foreL cs f l h).getD j 0 ∧ (foreL cs f l h).getD j 0 ≤ B + l.length * 17000000000000000
  | [], h, B, hB, hb, j => by simpa [foreL] using hb j
  | b :: r, h, B, hB, hb, j => by
    have hres : 0 ≤ (cs.getD b.1.toNat cn0).res ∧ (cs.getD b.1.toNat cn0).res ≤ 1000 := by
      by_cases hi : b.1.toNat < cs.length
      · exact hcs _ (mem_getD hi)
      · rw [List.getD_eq_getElem?_getD, List.getElem?_eq_none (by omega)]
        exact ⟨by decide, by decide⟩
    have hl := lossW hres (sign_bd (c := cs.getD b.1.toNat cn0) (v := b.2) (hf b.1.toNat))
    have ih := foreL_bd hcs hf r (stepH cs f b h) (B + 17000000000000000) (by omega) (fun j => set_bdI (fun j => by have := hb j; omega) (by have := hb (otherN (cs.getD b.1.toNat cn0) b.2).toNat; omega) j) j
    rw [foreL]
    simp only [List.length_cons]
    rw [Int.natCast_add, Int.add_mul]
    omega
theorem state_bd {N : Net} {b : List (Int × Int)} {c q : Int} (hS : StOk N b c) (hq : -200000 ≤ q ∧ q ≤ 200000) (j : Nat) : (-4100000 ≤ (stateF N b c q).1.getD j 0 ∧ (stateF N b c q).1.getD j 0 ≤ 4100000) ∧ -180000000000000000 ≤ (stateF N b c q).2.getD j 0 ∧ (stateF N b c q).2.getD j 0 ≤ 180000000000000000 := by
  have hf := back_flow b (lakesB N) (st0 N c q) (lakesB_len N) (st0_len1 N c q) hS.tr (st0_sum hS hq) (st0_fl hS hq)
  have hh := foreL_bd hS.res hf b (headsL N) 1000000000 (by omega) (headsL_bd hS.hd) j
  have := hS.nb
  refine ⟨hf j, ?_⟩
  show -180000000000000000 ≤ (foreL _ _ _ _).getD j 0 ∧ (foreL _ _ _ _).getD j 0 ≤ 180000000000000000
  omega
theorem state_len (N : Net) (b : List (Int × Int)) (c q : Int) : (stateF N b c q).1.length = N.cs.length ∧ (stateF N b c q).2.length = N.ns.length := by
  unfold stateF
  simp only [(backL_len _ _ _).1, st0_len0, foreL_len, headsL_len, and_self]

/-- The gap at a circulation. -/
def gapF (N : Net) (b : List (Int × Int)) (c q : Int) : Int :=
  lossF (N.cs.getD c.toNat cn0).res q - ((stateF N b c q).2.getD (N.cs.getD c.toNat cn0).fr.toNat 0 - (stateF N b c q).2.getD (N.cs.getD c.toNat cn0).to.toNat 0)
theorem ints_n {l : List Int} {n : Nat} (h : l.length = n) : ints l = .rslice 1 n fun i => [i64 (l.getD i 0)] := by
  unfold ints; rw [h]
theorem S48 (N : Net) (b : List (Int × Int)) (c q : Int) (hS : StOk N b c) (hq : -200000 ≤ q ∧ q ≤ 200000) (hc : 0 ≤ c) : SP 48 [treeA N b c, i64 q] (i64 (gapF N b c q)) false := by
  have h101 := S31 N b c q hS hq
  have hl := state_len N b c q
  have hcl := hS.cl
  have he := hS.ends (N.cs.getD c.toNat cn0) (mem_getD (by omega))
  have hr := hS.res (N.cs.getD c.toNat cn0) (mem_getD (by omega))
  have hlw := lossW (f := q) hr (by omega)
  have b1 := (state_bd hS hq (N.cs.getD c.toNat cn0).fr.toNat).2
  have b2 := (state_bd hS hq (N.cs.getD c.toNat cn0).to.toNat).2
  have h77 := S46w (N.cs.getD c.toNat cn0).res q hr (by omega)
  rw [ints_n hl.1, ints_n hl.2] at h101
  refine sound (d := 2) tok2 mixed2 Try.func48 (by kernel_rfl) (by kernel_rfl) ?_
  conv => whnf
  refine ⟨⟨(by omega), (by omega)⟩, ?_⟩
  conv => whnf
  refine .inl ⟨_, _, byX rfl (h101), ?_⟩
  conv => whnf
  refine ⟨[], by kernel_rfl, ?_⟩
  conv => whnf
  refine .inl ⟨_, _, byX rfl (Sound1.pl (h77) rfl), ?_⟩
  conv => whnf
  refine ⟨⟨(by omega), (by omega)⟩, ?_⟩
  conv => whnf
  refine ⟨⟨(by omega), (by omega)⟩, ?_⟩
  conv => whnf
  refine ⟨inK64 (by omega) (by omega), ?_⟩
  conv => whnf
  refine ⟨inK64 (by omega) (by omega), ?_⟩
  conv => whnf
  refine ⟨?_, nofun⟩
  rfl

/-- What ClosingOf says of a net: 12 where there is none. -/
def closE (N : Net) : Int := if formE N = 0 then (if 0 ≤ (clF N).1 then 0 else 12) else formE N
theorem clF_err {N : Net} (h : ¬ (clF N).2 = 0) : (clF N).2 = 14 ∧ (clF N).1 = -1 ∨ (clF N).2 = 8 ∧ 0 ≤ (clF N).1 := by
  unfold clF at h ⊢
  split at h
  · rename_i hg; rw [if_pos hg]; exact .inl ⟨rfl, rfl⟩
  · rename_i hg
    rw [if_neg hg]
    rcases closeF_err ((brF N).map (·.1)) N.cs 0 (-1) (by omega) with b | b
    · exact absurd b.1 h
    · exact .inr b
/-- A tree, or nothing. -/
def treeT (N : Net) : AV := if netE N = 0 then treeA N (brF N) (clF N).1 else tree0
theorem formE_ok {N : Net} (h : formE N = 0) : netE N = 0 ∧ (clF N).2 = 0 := by
  unfold formE at h
  split at h
  · exact ⟨by assumption, h⟩
  · contradiction
theorem closE_ok {N : Net} (h : closE N = 0) : formE N = 0 ∧ 0 ≤ (clF N).1 := by
  unfold closE at h
  split at h
  · split at h
    · exact ⟨by assumption, by assumption⟩
    · cases h
  · contradiction
/-- The error of a state; of a gap. -/
def crE (q : Int) : Int := if decide (-200000 ≤ q ∧ q ≤ 200000) = true then 0 else 2
def stateE (N : Net) (q : Int) : Int := if formE N = 0 then (if crE q = 0 then (if q = 0 ∨ 0 ≤ (clF N).1 then 0 else 3) else crE q) else formE N
def gapErr (N : Net) (q : Int) : Int := if closE N = 0 then crE q else closE N
theorem crE_ok {q : Int} (h : crE q = 0) : -200000 ≤ q ∧ q ≤ 200000 := by
  unfold crE at h; split at h
  · exact of_decide_eq_true (by assumption)
  · cases h
end Go.Tr

/- Contracts of chapter 2: the state at a circulation. Conditions: none. -/
namespace Go.Tr
open Go Go.Proofs
set_option maxRecDepth 20000
set_option maxHeartbeats 8000000

def stA (s : List Int × List Int) : AV := .agg [ints s.1, ints s.2]
theorem stateE_ok {N : Net} {q : Int} (h : stateE N q = 0) : formE N = 0 ∧ crE q = 0 ∧ (q = 0 ∨ 0 ≤ (clF N).1) := by
  unfold stateE at h
  split at h
  · split at h
    · split at h
      · exact ⟨by assumption, by assumption, by assumption⟩
      · cases h
    · contradiction
  · contradiction
theorem firstOf3 (a b c : Int) : firstOf [a, b, c] = if a = 0 then (if b = 0 then (if c = 0 then 0 else c) else b) else a := rfl
theorem stateE_eq {N : Net} {q : Int} (hn : netE N = 0) (x : Int) (hx : x = if q = 0 ∨ 0 ≤ (clF N).1 then 0 else 3) : firstOf [(clF N).2, crE q, x] = stateE N q := by
  rw [firstOf3]
  unfold stateE formE
  rw [if_pos hn, ← hx]
  by_cases h1 : (clF N).2 = 0
  · rw [if_pos h1, if_pos h1]
    by_cases h2 : crE q = 0
    · rw [if_pos h2, if_pos h2]; split <;> simp_all
    · rw [if_neg h2, if_neg h2]
  · rw [if_neg h1, if_neg h1]
theorem ave_st0 (e : Int) : AVE 5 (.tuple [.agg [.eslice, .eslice], i64 e]) (.tuple [stA ([], []), i64 e]) :=
  ave_tup2 (k := 4) (ave_agg2 (k := 3) (show (0 : Nat) = 0 from rfl) (show (0 : Nat) = 0 from rfl)) rfl
theorem ave_st (s : List Int × List Int) (e : Int) : AVE 5 (.tuple [stA s, i64 e]) (.tuple [stA s, i64 e]) :=
  ave_tup2 (k := 4) (ave_agg2 (k := 3) (a := .rslice 1 s.1.length _) (b := .rslice 1 s.2.length _) ⟨rfl, rfl, fun _ _ => rfl⟩ ⟨rfl, rfl, fun _ _ => rfl⟩) rfl
theorem S11 (N : Net) (hN : N.In) (q : Int) : SP 11 [netV N, i64 q] (.tuple [stA (if stateE N q = 0 then stateF N (brF N) (clF N).1 q else ([], [])), i64 (stateE N q)]) false := by
  have h100 : SP 30 [i64 q] (i64 (crE q)) false := S30 q
  by_cases hn : netE N = 0
  · have h99 := S29ok N hN hn
    have e1 : q = 0 → firstOf [(clF N).2, crE q, if true = true then 0 else 3] = stateE N q := fun h => stateE_eq hn _ (by rw [if_pos rfl, if_pos (.inl h)])
    have e2 : ¬ q = 0 → firstOf [(clF N).2, crE q, if decide ((clF N).1 ≥ 0) = true then 0 else 3] = stateE N q := fun h => stateE_eq hn _ (by
      by_cases h2 : 0 ≤ (clF N).1
      · rw [if_pos (by simpa using h2), if_pos (.inr h2)]
      · rw [if_neg (by simpa using h2), if_neg (by rintro (a | a); exact h a; exact h2 a)])
    by_cases hE : stateE N q = 0
    · have hk := stateE_ok hE
      have h101 := S31 N (brF N) (clF N).1 q (stOk (net_ok hn)) (crE_ok hk.2.1)
      rw [if_pos hE]
      change SP 31 _ (stA (stateF N (brF N) (clF N).1 q)) false at h101
      refine sound (d := 2) tok2 mixed2 Try.func11 (by kernel_rfl) (by kernel_rfl) ?_
      conv => whnf
      refine .inl ⟨_, _, byX rfl (h99), ?_⟩
      conv => whnf
      refine .inl ⟨_, _, byX rfl (Sound1.pl (h100) rfl), ?_⟩
      conv => whnf
      refine ifB_beq (fun w1 => ?_) (fun w1 => ?_)
      · conv => whnf
        refine .inl ⟨_, _, byX rfl (Sound1.pl (S21 _ _) rfl), ?_⟩
        conv => whnf
        refine .inl ⟨_, _, byX rfl (Sound1.pl (S19_3 _ _ _ _ ⟨rfl, rfl, rfl⟩) rfl), ?_⟩
        conv => whnf
        refine ifB_bne (fun w2 => ?_) (fun w2 => ?_)
        · (exfalso; omega)
        · conv => whnf
          refine .inl ⟨_, _, byX rfl (h101), ?_⟩
          conv => whnf
          refine ⟨?_, nofun⟩
          rw [hE]; exact ave_st _ _
      · conv => whnf
        refine .inl ⟨_, _, byX rfl (Sound1.pl (S21 _ _) rfl), ?_⟩
        conv => whnf
        refine .inl ⟨_, _, byX rfl (Sound1.pl (S19_3 _ _ _ _ ⟨rfl, rfl, rfl⟩) rfl), ?_⟩
        conv => whnf
        refine ifB_bne (fun w2 => ?_) (fun w2 => ?_)
        · (exfalso; omega)
        · conv => whnf
          refine .inl ⟨_, _, byX rfl (h101), ?_⟩
          conv => whnf
          refine ⟨?_, nofun⟩
          rw [hE]; exact ave_st _ _
    · rw [if_neg hE]
      refine sound (d := 2) tok2 mixed2 Try.func11 (by kernel_rfl) (by kernel_rfl) ?_
      conv => whnf
      refine .inl ⟨_, _, byX rfl (h99), ?_⟩
      conv => whnf
      refine .inl ⟨_, _, byX rfl (Sound1.pl (h100) rfl), ?_⟩
      conv => whnf
      refine ifB_beq (fun w1 => ?_) (fun w1 => ?_)
      · conv => whnf
        refine .inl ⟨_, _, byX rfl (Sound1.pl (S21 _ _) rfl), ?_⟩
        conv => whnf
        refine .inl ⟨_, _, byX rfl (Sound1.pl (S19_3 _ _ _ _ ⟨rfl, rfl, rfl⟩) rfl), ?_⟩
        conv => whnf
        refine ifB_bne (fun w2 => ?_) (fun w2 => ?_)
        · conv => whnf
          refine ⟨?_, nofun⟩
          refine ave_tup2 (k := 4) (ave_agg2 (k := 3) (show (0 : Nat) = 0 from rfl) (show (0 : Nat) = 0 from rfl)) ?_
          show i64 _ = i64 _
          rw [e1 w1]
        · (exfalso; omega)
      · conv => whnf
        refine .inl ⟨_, _, byX rfl (Sound1.pl (S21 _ _) rfl), ?_⟩
        conv => whnf
        refine .inl ⟨_, _, byX rfl (Sound1.pl (S19_3 _ _ _ _ ⟨rfl, rfl, rfl⟩) rfl), ?_⟩
        conv => whnf
        refine ifB_bne (fun w2 => ?_) (fun w2 => ?_)
        · conv => whnf
          refine ⟨?_, nofun⟩
          refine ave_tup2 (k := 4) (ave_agg2 (k := 3) (show (0 : Nat) = 0 from rfl) (show (0 : Nat) = 0 from rfl)) ?_
          show i64 _ = i64 _
          rw [e2 w1]
        · (exfalso; omega)
  · have h99 := S29err N hN hn
    have hE : stateE N q = netE N := by unfold stateE formE; rw [if_neg hn, if_neg hn]
    have e : ∀ x y : Int, firstOf [netE N, x, y] = netE N := fun x y => by rw [firstOf3, if_neg hn]
    rw [hE, if_neg hn]
    refine sound (d := 2) tok2 mixed2 Try.func11 (by kernel_rfl) (by kernel_rfl) ?_
    conv => whnf
    refine .inl ⟨_, _, byX rfl (h99), ?_⟩
    conv => whnf
    refine .inl ⟨_, _, byX rfl (Sound1.pl (h100) rfl), ?_⟩
    conv => whnf
    refine ifB_beq (fun w1 => ?_) (fun w1 => ?_)
    · conv => whnf
      refine .inl ⟨_, _, byX rfl (Sound1.pl (S21 _ _) rfl), ?_⟩
      conv => whnf
      refine .inl ⟨_, _, byX rfl (Sound1.pl (S19_3 _ _ _ _ ⟨rfl, rfl, rfl⟩) rfl), ?_⟩
      conv => whnf
      refine ifB_bne (fun w2 => ?_) (fun w2 => ?_)
      · conv => whnf
        refine ⟨?_, nofun⟩
        refine ave_tup2 (k := 4) (ave_agg2 (k := 3) (show (0 : Nat) = 0 from rfl) (show (0 : Nat) = 0 from rfl)) ?_
        show i64 _ = i64 _
        rw [e]
      · exact absurd ((e _ _).symm.trans w2) hn
    · conv => whnf
      refine .inl ⟨_, _, byX rfl (Sound1.pl (S21 _ _) rfl), ?_⟩
      conv => whnf
      refine .inl ⟨_, _, byX rfl (Sound1.pl (S19_3 _ _ _ _ ⟨rfl, rfl, rfl⟩) rfl), ?_⟩
      conv => whnf
      refine ifB_bne (fun w2 => ?_) (fun w2 => ?_)
      · conv => whnf
        refine ⟨?_, nofun⟩
        refine ave_tup2 (k := 4) (ave_agg2 (k := 3) (show (0 : Nat) = 0 from rfl) (show (0 : Nat) = 0 from rfl)) ?_
        show i64 _ = i64 _
        rw [e]
      · exact absurd ((e _ _).symm.trans w2) hn
end Go.Tr

/- Plain laws of chapter 2: no water is lost, heads along a tree. Conditions: none. -/
namespace Go.Tr
open Go Go.Proofs
set_option maxRecDepth 20000
set_option maxHeartbeats 8000000

section
variable {n : Nat} {cs : List Cn}

/-- A branch's conduit is of no later branch. -/
theorem tree_later : ∀ (l : List (Int × Int)) (m : List Bool) (i : Int), m.length = n → inR n cs → TreeOk n cs m l → m.getD (cs.getD i.toNat cn0).fr.toNat false = true → m.getD (cs.getD i.toNat cn0).to.toNat false = true → ∀ b ∈ l, b.1 ≠ i
  | [], m, i, _, _, _, _, _, b, hb => by simp at hb
  | b :: r, m, i, hm, hr, ht, h1, h2, x, hx => by
    obtain ⟨hB, ht⟩ := ht
    rcases List.mem_cons.1 hx with rfl | hx
    · intro e
      subst e
      have hn := hB.new
      rcases hB.isEnd with e | e
      · rw [← e, h2] at hn; cases hn
      · rw [← e, h1] at hn; cases hn
    · have mono : ∀ u, m.getD u false = true → (m.set b.2.toNat true).getD u false = true := fun u hu => by
        rw [getD_set]; split
        · rfl
        · exact hu
      exact tree_later r _ i (by simpa using hm) hr ht (mono _ h1) (mono _ h2) x hx
theorem other_or {c : Cn} {v : Int} (h : c.to = v ∨ c.fr = v) : (c.to = v ∧ otherN c v = c.fr ∧ signN c v = 1) ∨ (c.to ≠ v ∧ c.fr = v ∧ otherN c v = c.to ∧ signN c v = -1) := by
  unfold otherN signN
  by_cases e : c.to = v
  · exact .inl ⟨e, if_pos e, if_pos e⟩
  · rcases h with h | h
    · exact absurd h e
    · exact .inr ⟨e, h, if_neg e, if_neg e⟩
theorem tree_dist {b : Int × Int} {r : List (Int × Int)} {m : List Bool} (hm : m.length = n) (hr : inR n cs) (ht : TreeOk n cs m (b :: r)) : ∀ x ∈ r, x.1 ≠ b.1 := by
  obtain ⟨hB, ht⟩ := ht
  have hv := hB.v0; have hv1 := hB.v1
  have hv2 : (m.set b.2.toNat true).getD b.2.toNat false = true := by rw [getD_set, if_pos]; exact ⟨rfl, by omega⟩
  have ho : (m.set b.2.toNat true).getD (otherN (cs.getD b.1.toNat cn0) b.2).toNat false = true := by
    rw [getD_set]; split
    · rfl
    · exact hB.old
  refine tree_later r _ b.1 (by simpa using hm) hr ht ?_ ?_
  · rcases other_or hB.isEnd with ⟨e1, e2, _⟩ | ⟨_, e1, e2, _⟩
    · rw [← e2]; exact ho
    · rw [e1]; exact hv2
  · rcases other_or hB.isEnd with ⟨e1, e2, _⟩ | ⟨_, e1, e2, _⟩
    · rw [e1]; exact hv2
    · rw [← e2]; exact ho

theorem tree_range : ∀ (l : List (Int × Int)) (m : List Bool), TreeOk n cs m l → ∀ b ∈ l, 0 ≤ b.1 ∧ b.1 < cs.length ∧ 0 ≤ b.2 ∧ b.2 < n ∧ (cs.getD b.1.toNat cn0).opn = true
  | [], m, _, b, hb => by simp at hb
  | x :: r, m, ht, b, hb => by
    rcases List.mem_cons.1 hb with rfl | hb
    · exact ⟨ht.1.i0, ht.1.i1, ht.1.v0, ht.1.v1, ht.1.opn⟩
    · exact tree_range r _ ht.2 b hb

/-- Conduits of no branch keep their flow. -/
theorem back_other : ∀ (l : List (Int × Int)) (s : List Int × List Int) (i : Nat), (∀ b ∈ l, 0 ≤ b.1) → (∀ b ∈ l, b.1 ≠ i) → (backL cs l s).1.getD i 0 = s.1.getD i 0
  | [], s, i, _, _ => rfl
  | b :: r, s, i, h0, h => by
    have ih := back_other r s i (fun x hx => h0 x (by simp [hx])) (fun x hx => h x (by simp [hx]))
    show ((backL cs r s).1.set _ _).getD i 0 = _
    rw [getD_setI, if_neg, ih]
    rintro ⟨e, _⟩
    have := h0 b (by simp)
    exact h b (by simp) (by omega)
theorem back_flow_at {b : Int × Int} {r : List (Int × Int)} {m : List Bool} {s : List Int × List Int} (hs : s.1.length = cs.length) (ht : TreeOk n cs m (b :: r)) :
    (backL cs (b :: r) s).1.getD b.1.toNat 0 = signN (cs.getD b.1.toNat cn0) b.2 * (backL cs r s).2.getD b.2.toNat 0 := by
  have h1 := ht.1.i0; have h2 := ht.1.i1
  show ((backL cs r s).1.set _ _).getD _ 0 = _
  rw [getD_setI, if_pos]
  exact ⟨rfl, by rw [(backL_len cs r s).1, hs]; omega⟩

/-- Heads of nodes that were in the tree stay. -/
theorem fore_keep {f : List Int} : ∀ (l : List (Int × Int)) (m : List Bool) (h : List Int) (u : Nat), TreeOk n cs m l → m.getD u false = true → (foreL cs f l h).getD u 0 = h.getD u 0
  | [], m, h, u, _, _ => rfl
  | b :: r, m, h, u, ht, hu => by
    have ih := fore_keep (f := f) r _ (stepH cs f b h) u ht.2 (by rw [getD_set]; split; rfl; exact hu)
    rw [foreL, ih]
    show (h.set _ _).getD u 0 = _
    rw [getD_setI, if_neg]
    rintro ⟨e, _⟩
    have := ht.1.new
    rw [← e, hu] at this
    cases this
theorem loss_neg (r f : Int) : lossF r (-f) = -lossF r f := by
  have e : sizeF (-f) = sizeF f := by unfold sizeF; split <;> split <;> omega
  unfold lossF
  rw [e, Int.mul_neg, Int.neg_mul]
/-- The loss of each branch is what the heads of its ends differ by. -/
theorem fore_loss {f : List Int} : ∀ (l : List (Int × Int)) (m : List Bool) (h : List Int), m.length = n → h.length = n → TreeOk n cs m l → ∀ b ∈ l,
    (foreL cs f l h).getD (cs.getD b.1.toNat cn0).fr.toNat 0 - (foreL cs f l h).getD (cs.getD b.1.toNat cn0).to.toNat 0 = lossF (cs.getD b.1.toNat cn0).res (f.getD b.1.toNat 0)
  | [], m, h, _, _, _, b, hb => by simp at hb
  | x :: r, m, h, hm, hh, ht, b, hb => by
    rcases List.mem_cons.1 hb with rfl | hb
    · obtain ⟨hB, ht⟩ := ht
      have hv := hB.v0; have hv1 := hB.v1
      have kv := fore_keep (f := f) r _ (stepH cs f b h) b.2.toNat ht (by rw [getD_set, if_pos]; exact ⟨rfl, by omega⟩)
      have ko := fore_keep (f := f) r _ (stepH cs f b h) (otherN (cs.getD b.1.toNat cn0) b.2).toNat ht (by rw [getD_set]; split; rfl; exact hB.old)
      have sv : (stepH cs f b h).getD b.2.toNat 0 = h.getD (otherN (cs.getD b.1.toNat cn0) b.2).toNat 0 - lossF (cs.getD b.1.toNat cn0).res (signN (cs.getD b.1.toNat cn0) b.2 * f.getD b.1.toNat 0) := by
        unfold stepH
        rw [getD_setI, if_pos]
        exact ⟨rfl, by omega⟩
      have so : (stepH cs f b h).getD (otherN (cs.getD b.1.toNat cn0) b.2).toNat 0 = h.getD (otherN (cs.getD b.1.toNat cn0) b.2).toNat 0 := by
        unfold stepH
        rw [getD_setI, if_neg]
        rintro ⟨e, _⟩
        have := hB.new
        rw [← e, hB.old] at this
        cases this
      rw [foreL]
      rcases other_or hB.isEnd with ⟨e1, e2, e3⟩ | ⟨_, e1, e2, e3⟩
      · rw [e2] at ko so sv
        rw [e3, Int.one_mul] at sv
        rw [e1, kv, ko, sv, so]
        omega
      · rw [e2] at ko so sv
        rw [e3, Int.neg_mul, Int.one_mul, loss_neg] at sv
        rw [e1, kv, ko, sv, so]
        omega
    · rw [foreL]
      exact fore_loss r _ _ (by simpa using hm) (by simpa [stepH] using hh) ht.2 b hb

/-- What arrives at a node, minus what leaves it. -/
def inflow : List Cn → List Int → Nat → Int
  | c :: r, f :: fs, u => f * ((if c.to.toNat = u then 1 else 0) - (if c.fr.toNat = u then 1 else 0)) + inflow r fs u
  | _, _, _ => 0
theorem inflow_set : ∀ (cs : List Cn) (f : List Int) (i : Nat) (x : Int) (u : Nat), f.length = cs.length → i < cs.length →
    inflow cs (f.set i x) u = inflow cs f u + (x - f.getD i 0) * ((if (cs.getD i cn0).to.toNat = u then 1 else 0) - (if (cs.getD i cn0).fr.toNat = u then 1 else 0))
  | [], f, i, x, u, _, h => by simp at h
  | c :: r, [], i, x, u, hl, _ => by simp at hl
  | c :: r, f :: fs, 0, x, u, hl, _ => by
    simp only [List.set_cons_zero, inflow, List.getD_cons_zero]
    rw [Int.sub_mul]; omega
  | c :: r, f :: fs, i + 1, x, u, hl, h => by
    have := inflow_set r fs i x u (by simpa using hl) (by simpa using h)
    simp only [List.set_cons_succ, inflow, List.getD_cons_succ]
    omega
/-- What a branch carries arrives at its node, and leaves the other one. -/
theorem carry {c : Cn} {v y : Int} {u : Nat} (h : c.to = v ∨ c.fr = v) : (signN c v * y) * ((if c.to.toNat = u then (1 : Int) else 0) - (if c.fr.toNat = u then 1 else 0)) = y * ((if v.toNat = u then 1 else 0) - (if (otherN c v).toNat = u then 1 else 0)) := by
  rcases other_or h with ⟨e1, e2, e3⟩ | ⟨_, e1, e2, e3⟩
  · rw [e2, e3, e1, Int.one_mul]
  · rw [e2, e3, e1, Int.neg_mul, Int.one_mul, Int.neg_mul, ← Int.mul_neg]
    congr 1
    omega

theorem kept : ∀ (l : List (Int × Int)) (m : List Bool) (s : List Int × List Int), m.length = n → s.1.length = cs.length → s.2.length = n → inR n cs → TreeOk n cs m l → (∀ b ∈ l, s.1.getD b.1.toNat 0 = 0) → ∀ u : Nat, u < n →
    (m.getD u false = true → inflow cs (backL cs l s).1 u + (backL cs l s).2.getD u 0 = inflow cs s.1 u + s.2.getD u 0) ∧
    (m.getD u false = false → (afterF m l).getD u false = true → inflow cs (backL cs l s).1 u = inflow cs s.1 u + s.2.getD u 0)
  | [], m, s, hm, hs1, hs2, hr, ht, hz, u, hu => ⟨fun _ => rfl, fun h1 h2 => by rw [show (afterF m []) = m from rfl, h1] at h2; cases h2⟩
  | b :: r, m, s, hm, hs1, hs2, hr, ht, hz, u, hu => by
    have hd := tree_dist hm hr ht
    have hrg := tree_range r _ ht.2
    obtain ⟨hB, ht2⟩ := ht
    have i0 := hB.i0; have i1 := hB.i1; have v0 := hB.v0; have v1 := hB.v1; have o0 := hB.o0; have o1 := hB.o1
    have ih := kept r (m.set b.2.toNat true) s (by simpa using hm) hs1 hs2 hr ht2 (fun x hx => hz x (by simp [hx])) u hu
    have hf0 : (backL cs r s).1.getD b.1.toNat 0 = 0 := by
      rw [back_other r s b.1.toNat (fun x hx => (hrg x hx).1) (fun x hx e => hd x hx (by omega))]
      exact hz b (by simp)
    have hfl : (backL cs r s).1.length = cs.length := by rw [(backL_len cs r s).1, hs1]
    have hdl : (backL cs r s).2.length = n := by rw [(backL_len cs r s).2, hs2]
    have hin : inflow cs (backL cs (b :: r) s).1 u = inflow cs (backL cs r s).1 u + (backL cs r s).2.getD b.2.toNat 0 * ((if b.2.toNat = u then 1 else 0) - (if (otherN (cs.getD b.1.toNat cn0) b.2).toNat = u then 1 else 0)) := by
      show inflow cs ((backL cs r s).1.set _ _) u = _
      rw [inflow_set cs _ _ _ u hfl (by omega), hf0, Int.sub_zero, carry hB.isEnd]
    have hdr : (backL cs (b :: r) s).2.getD u 0 = if u = (otherN (cs.getD b.1.toNat cn0) b.2).toNat then (backL cs r s).2.getD u 0 + (backL cs r s).2.getD b.2.toNat 0 else (backL cs r s).2.getD u 0 := by
      show ((backL cs r s).2.set _ _).getD u 0 = _
      rw [getD_setI]
      by_cases e : u = (otherN (cs.getD b.1.toNat cn0) b.2).toNat
      · rw [if_pos ⟨e, by omega⟩, if_pos e, ← e]
      · rw [if_neg (fun h => e h.1), if_neg e]
    rw [getD_set] at ih
    have hne : (otherN (cs.getD b.1.toNat cn0) b.2).toNat ≠ b.2.toNat := fun e => by
      have := hB.new
      rw [← e, hB.old] at this
      cases this
    by_cases huv : u = b.2.toNat
    · subst huv
      rw [if_pos ⟨rfl, by omega⟩] at ih
      refine ⟨fun h => (by rw [hB.new] at h; cases h), fun _ _ => ?_⟩
      rw [hin, if_pos rfl, if_neg hne, Int.sub_zero, Int.mul_one]
      exact ih.1 rfl
    · rw [if_neg (fun h => huv h.1)] at ih
      rw [if_neg (fun e => huv e.symm)] at hin
      by_cases huo : u = (otherN (cs.getD b.1.toNat cn0) b.2).toNat
      · rw [if_pos huo.symm] at hin
        rw [if_pos huo] at hdr
        refine ⟨fun h => ?_, fun h _ => ?_⟩
        · have := ih.1 h
          rw [hin, hdr]
          omega
        · rw [huo, hB.old] at h; cases h
      · rw [if_neg (fun e => huo e.symm)] at hin
        rw [if_neg huo] at hdr
        rw [Int.sub_self, Int.mul_zero, Int.add_zero] at hin
        rw [hin, hdr]
        exact ⟨ih.1, fun h1 h2 => ih.2 h1 h2⟩
end
end Go.Tr

/- Plain laws of chapter 2: the gap never decreases with the circulation; the closing conduit. Conditions: none. -/
namespace Go.Tr
open Go Go.Proofs
set_option maxRecDepth 20000
set_option maxHeartbeats 8000000

theorem size_nonneg (f : Int) : 0 ≤ sizeF f := by unfold sizeF; split <;> omega
theorem sq_size_mono {f g : Int} (h : f ≤ g) : f * sizeF f ≤ g * sizeF g := by
  by_cases hf : 0 ≤ f
  · have e1 : sizeF f = f := by unfold sizeF; split <;> omega
    have e2 : sizeF g = g := by unfold sizeF; split <;> omega
    rw [e1, e2]
    exact Int.mul_le_mul h h hf (by omega)
  · have e1 : sizeF f = -f := by unfold sizeF; split <;> omega
    by_cases hg : 0 ≤ g
    · have h1 : f * sizeF f ≤ 0 := by
        rw [e1]; exact Int.mul_nonpos_of_nonpos_of_nonneg (by omega) (by omega)
      have h2 : 0 ≤ g * sizeF g := Int.mul_nonneg hg (size_nonneg g)
      omega
    · have e2 : sizeF g = -g := by unfold sizeF; split <;> omega
      rw [e1, e2, Int.mul_neg, Int.mul_neg]
      have : (-g) * (-g) ≤ (-f) * (-f) := Int.mul_le_mul (by omega) (by omega) (by omega) (by omega)
      rw [Int.neg_mul_neg, Int.neg_mul_neg] at this
      omega
theorem loss_mono {r f g : Int} (hr : 0 ≤ r) (h : f ≤ g) : lossF r f ≤ lossF r g := by
  unfold lossF
  rw [Int.mul_assoc, Int.mul_assoc]
  exact Int.mul_le_mul_of_nonneg_left (sq_size_mono h) hr

/-- Is it this node? -/
def dl (u p : Nat) : Int := if u = p then 1 else 0

section
variable {n : Nat} {cs : List Cn}
theorem tok (hcs : ∀ c ∈ cs, 0 ≤ c.res) (hr : inR n cs) (D : Int) (hD : 0 ≤ D) : ∀ (l : List (Int × Int)) (m : List Bool) (s s' : List Int × List Int) (P0 R0 : Nat), m.length = n → s.1.length = cs.length → s'.1.length = cs.length → s.2.length = n → s'.2.length = n → TreeOk n cs m l →
    (∀ u : Nat, s'.2.getD u 0 = s.2.getD u 0 + D * (dl u P0 - dl u R0)) →
    ∃ P R : Nat, (∀ u : Nat, m.getD u false = true → (backL cs l s').2.getD u 0 = (backL cs l s).2.getD u 0 + D * (dl u P - dl u R)) ∧
      ((l = [] → P = P0 ∧ R = R0) ∧ ∀ F F' h h' : List Int, h.length = n → h'.length = n → (∀ x ∈ l, F.getD x.1.toNat 0 = (backL cs l s).1.getD x.1.toNat 0) → (∀ x ∈ l, F'.getD x.1.toNat 0 = (backL cs l s').1.getD x.1.toNat 0) →
        h'.getD P 0 ≤ h.getD P 0 → h.getD R 0 ≤ h'.getD R 0 → (foreL cs F' l h').getD P0 0 ≤ (foreL cs F l h).getD P0 0 ∧ (foreL cs F l h).getD R0 0 ≤ (foreL cs F' l h').getD R0 0)
  | [], m, s, s', P0, R0, _, _, _, _, _, _, hs => ⟨P0, R0, fun u _ => hs u, fun _ => ⟨rfl, rfl⟩, fun F F' h h' _ _ _ _ h1 h2 => ⟨h1, h2⟩⟩
  | b :: r, m, s, s', P0, R0, hm, a1, a2, a3, a4, ht, hs => by
    have ht0 := ht
    have hd := tree_dist hm hr ht
    have hrg := tree_range r _ ht.2
    obtain ⟨hB, ht2⟩ := ht
    have i0 := hB.i0; have i1 := hB.i1; have v0 := hB.v0; have v1 := hB.v1; have o0 := hB.o0; have o1 := hB.o1
    obtain ⟨P1, R1, g1, _, g2⟩ := tok hcs hr D hD r (m.set b.2.toNat true) s s' P0 R0 (by simpa using hm) a1 a2 a3 a4 ht2 hs
    have hne : (otherN (cs.getD b.1.toNat cn0) b.2).toNat ≠ b.2.toNat := fun e => by
      have := hB.new
      rw [← e, hB.old] at this
      cases this
    have mk : ∀ u, m.getD u false = true → (m.set b.2.toNat true).getD u false = true := fun u hu => by
      rw [getD_set]; split
      · rfl
      · exact hu
    have mv : (m.set b.2.toNat true).getD b.2.toNat false = true := by rw [getD_set, if_pos]; exact ⟨rfl, by omega⟩
    have gv := g1 _ mv
    have hl1 : (backL cs r s).2.length = n := by rw [(backL_len cs r s).2, a3]
    have hl2 : (backL cs r s').2.length = n := by rw [(backL_len cs r s').2, a4]
    refine ⟨if P1 = b.2.toNat then (otherN (cs.getD b.1.toNat cn0) b.2).toNat else P1, if R1 = b.2.toNat then (otherN (cs.getD b.1.toNat cn0) b.2).toNat else R1, ?_, ⟨(fun h => by cases h), ?_⟩⟩
    · intro u hu
      have gu := g1 u (mk u hu)
      have huv : u ≠ b.2.toNat := fun e => by
        have := hB.new
        rw [← e, hu] at this
        cases this
      show ((backL cs r s').2.set _ _).getD u 0 = ((backL cs r s).2.set _ _).getD u 0 + _
      rw [getD_setI, getD_setI]
      by_cases huo : u = (otherN (cs.getD b.1.toNat cn0) b.2).toNat
      · rw [if_pos ⟨huo, by omega⟩, if_pos ⟨huo, by omega⟩, ← huo, gu, gv]
        have e1 : dl u (if P1 = b.2.toNat then u else P1) = dl u P1 + dl b.2.toNat P1 := by
          unfold dl
          by_cases e : P1 = b.2.toNat
          · rw [if_pos e, if_pos rfl, if_neg (by omega), if_pos e.symm]; rfl
          · have h0 : (if b.2.toNat = P1 then (1 : Int) else 0) = 0 := if_neg (fun h => e h.symm)
            rw [if_neg e, h0]; omega
        have e2 : dl u (if R1 = b.2.toNat then u else R1) = dl u R1 + dl b.2.toNat R1 := by
          unfold dl
          by_cases e : R1 = b.2.toNat
          · rw [if_pos e, if_pos rfl, if_neg (by omega), if_pos e.symm]; rfl
          · have h0 : (if b.2.toNat = R1 then (1 : Int) else 0) = 0 := if_neg (fun h => e h.symm)
            rw [if_neg e, h0]; omega
        rw [e1, e2]
        simp only [Int.mul_sub, Int.mul_add]
        omega
      · rw [if_neg (fun h => huo h.1), if_neg (fun h => huo h.1), gu]
        have e1 : dl u (if P1 = b.2.toNat then (otherN (cs.getD b.1.toNat cn0) b.2).toNat else P1) = dl u P1 := by
          unfold dl
          by_cases e : P1 = b.2.toNat
          · rw [if_pos e, if_neg huo, if_neg (by omega)]
          · rw [if_neg e]
        have e2 : dl u (if R1 = b.2.toNat then (otherN (cs.getD b.1.toNat cn0) b.2).toNat else R1) = dl u R1 := by
          unfold dl
          by_cases e : R1 = b.2.toNat
          · rw [if_pos e, if_neg huo, if_neg (by omega)]
          · rw [if_neg e]
        rw [e1, e2]
    · intro F F' h h' hh hh' hF hF' hP hR
      have sgn : ∀ (c : Cn) (v x : Int), signN c v * (signN c v * x) = x := fun c v x => by
        unfold signN; split <;> omega
      have f1 : signN (cs.getD b.1.toNat cn0) b.2 * F.getD b.1.toNat 0 = (backL cs r s).2.getD b.2.toNat 0 := by
        rw [hF b (by simp), back_flow_at a1 ht0, sgn]
      have f2 : signN (cs.getD b.1.toNat cn0) b.2 * F'.getD b.1.toNat 0 = (backL cs r s').2.getD b.2.toNat 0 := by
        rw [hF' b (by simp), back_flow_at a2 ht0, sgn]
      have hFr : ∀ x ∈ r, F.getD x.1.toNat 0 = (backL cs r s).1.getD x.1.toNat 0 := fun x hx => by
        rw [hF x (by simp [hx])]
        show ((backL cs r s).1.set _ _).getD _ 0 = _
        rw [getD_setI, if_neg]
        rintro ⟨e, _⟩
        have := (hrg x hx).1
        exact hd x hx (by omega)
      have hFr' : ∀ x ∈ r, F'.getD x.1.toNat 0 = (backL cs r s').1.getD x.1.toNat 0 := fun x hx => by
        rw [hF' x (by simp [hx])]
        show ((backL cs r s').1.set _ _).getD _ 0 = _
        rw [getD_setI, if_neg]
        rintro ⟨e, _⟩
        have := (hrg x hx).1
        exact hd x hx (by omega)
      have hres := hcs (cs.getD b.1.toNat cn0) (mem_getD (by omega))
      have sv : ∀ (G g : List Int), g.length = n → (stepH cs G b g).getD b.2.toNat 0 = g.getD (otherN (cs.getD b.1.toNat cn0) b.2).toNat 0 - lossF (cs.getD b.1.toNat cn0).res (signN (cs.getD b.1.toNat cn0) b.2 * G.getD b.1.toNat 0) := fun G g hg => by
        unfold stepH
        rw [getD_setI, if_pos]
        exact ⟨rfl, by omega⟩
      have so : ∀ (G g : List Int) (u : Nat), u ≠ b.2.toNat → (stepH cs G b g).getD u 0 = g.getD u 0 := fun G g u hu => by
        unfold stepH
        rw [getD_setI, if_neg (fun h => hu h.1)]
      refine g2 F F' (stepH cs F b h) (stepH cs F' b h') (by simpa [stepH] using hh) (by simpa [stepH] using hh') hFr hFr' ?_ ?_
      · by_cases e : P1 = b.2.toNat
        · rw [if_pos e] at hP
          rw [e, sv F h hh, sv F' h' hh', f1, f2, gv]
          have hd1 : dl b.2.toNat P1 = 1 := if_pos e.symm
          have hd2 : dl b.2.toNat R1 ≤ 1 := by unfold dl; split <;> omega
          have := Int.mul_nonneg hD (show 0 ≤ dl b.2.toNat P1 - dl b.2.toNat R1 by omega)
          have := loss_mono hres (show (backL cs r s).2.getD b.2.toNat 0 ≤ (backL cs r s).2.getD b.2.toNat 0 + D * (dl b.2.toNat P1 - dl b.2.toNat R1) by omega)
          omega
        · rw [if_neg e] at hP
          rw [so F h P1 e, so F' h' P1 e]
          exact hP
      · by_cases e : R1 = b.2.toNat
        · rw [if_pos e] at hR
          rw [e, sv F h hh, sv F' h' hh', f1, f2, gv]
          have hd1 : dl b.2.toNat R1 = 1 := if_pos e.symm
          have hd2 : dl b.2.toNat P1 ≤ 1 := by unfold dl; split <;> omega
          have := Int.mul_nonneg hD (show 0 ≤ dl b.2.toNat R1 - dl b.2.toNat P1 by omega)
          have e3 : D * (dl b.2.toNat P1 - dl b.2.toNat R1) = -(D * (dl b.2.toNat R1 - dl b.2.toNat P1)) := by
            rw [← Int.mul_neg]; congr 1; omega
          have := loss_mono hres (show (backL cs r s).2.getD b.2.toNat 0 + D * (dl b.2.toNat P1 - dl b.2.toNat R1) ≤ (backL cs r s).2.getD b.2.toNat 0 by omega)
          omega
        · rw [if_neg e] at hR
          rw [so F h R1 e, so F' h' R1 e]
          exact hR
end

theorem st0_diff {N : Net} {c q q' : Int} (hr : inR N.ns.length N.cs) (hc0 : 0 ≤ c) (hc : c < N.cs.length) (hne : (N.cs.getD c.toNat cn0).fr ≠ (N.cs.getD c.toNat cn0).to) (u : Nat) :
    (st0 N c q').2.getD u 0 = (st0 N c q).2.getD u 0 + (q' - q) * (dl u (N.cs.getD c.toNat cn0).fr.toNat - dl u (N.cs.getD c.toNat cn0).to.toNat) := by
  have he := hr (N.cs.getD c.toNat cn0) (mem_getD (by omega))
  have hn : (N.cs.getD c.toNat cn0).to.toNat ≠ (N.cs.getD c.toNat cn0).fr.toNat := by omega
  have hl := drawsL_len N
  have hv : ∀ q : Int, ((drawsL N).set (N.cs.getD c.toNat cn0).fr.toNat ((drawsL N).getD (N.cs.getD c.toNat cn0).fr.toNat 0 + q)).getD (N.cs.getD c.toNat cn0).to.toNat 0 = (drawsL N).getD (N.cs.getD c.toNat cn0).to.toNat 0 := fun q => by
    rw [getD_setI, if_neg (fun h => hn h.1)]
  have hx : ∀ q : Int, (st0 N c q).2.getD u 0 = if u = (N.cs.getD c.toNat cn0).to.toNat then (drawsL N).getD u 0 - q else if u = (N.cs.getD c.toNat cn0).fr.toNat then (drawsL N).getD u 0 + q else (drawsL N).getD u 0 := fun q => by
    unfold st0
    rw [if_neg (by omega)]
    show (((drawsL N).set _ _).set _ _).getD u 0 = _
    rw [hv, getD_setI, getD_setI]
    by_cases h1 : u = (N.cs.getD c.toNat cn0).to.toNat
    · rw [if_pos ⟨h1, by rw [List.length_set]; omega⟩, if_pos h1, ← h1]
    · rw [if_neg (fun h => h1 h.1), if_neg h1]
      by_cases h2 : u = (N.cs.getD c.toNat cn0).fr.toNat
      · rw [if_pos ⟨h2, by omega⟩, if_pos h2, ← h2]
      · rw [if_neg (fun h => h2 h.1), if_neg h2]
  rw [hx, hx]
  unfold dl
  by_cases h1 : u = (N.cs.getD c.toNat cn0).to.toNat
  · rw [if_pos h1, if_pos h1, if_neg (by omega), if_pos h1]
    omega
  · rw [if_neg h1, if_neg h1, if_neg h1]
    by_cases h2 : u = (N.cs.getD c.toNat cn0).fr.toNat
    · rw [if_pos h2, if_pos h2, if_pos h2]; omega
    · rw [if_neg h2, if_neg h2, if_neg h2]; omega

/-- The gap never decreases with the circulation. -/
theorem gap_mono {N : Net} {b : List (Int × Int)} {c q q' : Int} (hS : StOk N b c) (hc : 0 ≤ c) (hne : (N.cs.getD c.toNat cn0).fr ≠ (N.cs.getD c.toNat cn0).to) (h : q ≤ q') : gapF N b c q ≤ gapF N b c q' := by
  have hcl := hS.cl
  obtain ⟨P, R, _, _, g⟩ := tok (fun c hc => (hS.res c hc).1) hS.ends (q' - q) (by omega) b (lakesB N) (st0 N c q) (st0 N c q') _ _ (lakesB_len N) (st0_len0 N c q) (st0_len0 N c q') (st0_len1 N c q) (st0_len1 N c q') hS.tr (st0_diff hS.ends hc hcl hne)
  have := g (backL N.cs b (st0 N c q)).1 (backL N.cs b (st0 N c q')).1 (headsL N) (headsL N) (headsL_len N) (headsL_len N) (fun _ _ => rfl) (fun _ _ => rfl) (Int.le_refl _) (Int.le_refl _)
  have hl := loss_mono (hS.res (N.cs.getD c.toNat cn0) (mem_getD (by omega))).1 h
  unfold gapF stateF
  simp only
  omega
end Go.Tr
