/- Contracts of chapter 2: losses, texts. Conditions: none. -/
import Derived.Test.YtfcagapficjffaaTr05

namespace Go.Tr
open Go Go.Proofs
set_option maxRecDepth 20000
set_option maxHeartbeats 8000000

theorem ave2t (a b : Int) : AVE 5 (.tuple [i64 a, i64 b]) (.tuple [i64 a, i64 b]) := by
  refine ⟨rfl, fun i x y h1 h2 => ?_⟩
  match i, h1, h2 with
  | 0, h1, h2 => cases h1; cases h2; rfl
  | 1, h1, h2 => cases h1; cases h2; rfl

theorem mul_bound {a b A B : Int} (ha : -A ≤ a) (ha2 : a ≤ A) (hb : -B ≤ b) (hb2 : b ≤ B) (hA : 0 ≤ A) (hB : 0 ≤ B) : -(A * B) ≤ a * b ∧ a * b ≤ A * B := by
  have h1 : a.natAbs ≤ A.toNat := by omega
  have h2 : b.natAbs ≤ B.toNat := by omega
  have h3 : (a * b).natAbs ≤ A.toNat * B.toNat := by rw [Int.natAbs_mul]; exact Nat.mul_le_mul h1 h2
  have h4 : ((A.toNat * B.toNat : Nat) : Int) = A * B := by rw [Int.natCast_mul]; rw [Int.toNat_of_nonneg hA, Int.toNat_of_nonneg hB]
  omega

def sizeF (f : Int) : Int := if -f > f then -f else f
theorem sizeF_le {f B : Int} (h : -B ≤ f) (h2 : f ≤ B) : -B ≤ sizeF f ∧ sizeF f ≤ B := by unfold sizeF; split <;> omega
def lossF (r f : Int) : Int := r * f * sizeF f
theorem loss_bound {r f : Int} (hr : 0 ≤ r) (hr2 : r ≤ 1000) (hf : -200000 ≤ f) (hf2 : f ≤ 200000) : inK .i64 (r * f) ∧ inK .i64 (r * f * sizeF f) := by
  have h1 := mul_bound (A := 1000) (B := 200000) (by omega) hr2 hf hf2 (by omega) (by omega)
  have h2 := mul_bound (a := r * f) (b := sizeF f) (A := 200000000) (B := 200000) (by omega) (by omega) (sizeF_le hf hf2).1 (sizeF_le hf hf2).2 (by omega) (by omega)
  exact ⟨inK64 (by omega) (by omega), inK64 (by omega) (by omega)⟩

theorem S46 (r f : Int) (hr : 0 ≤ r) (hr2 : r ≤ 1000) (hf : -200000 ≤ f) (hf2 : f ≤ 200000) : SP 46 [i64 r, i64 f] (i64 (lossF r f)) false := by
  obtain ⟨h1, h2⟩ := loss_bound hr hr2 hf hf2
  refine sound (d := 2) tok2 mixed2 Try.func46 (by kernel_rfl) (by kernel_rfl) ?_
  refine ⟨h1, ?_⟩
  refine ⟨inK64 (by omega) (by omega), ?_⟩
  refine ⟨h2, ?_⟩
  refine ⟨?_, nofun⟩
  rfl

def listS (l : List ByteArray) : AV := .rslice 1 l.length fun i => [sv (l.getD i ByteArray.empty)]
def hasS (l : List ByteArray) (s : ByteArray) : Bool := l.any fun x => x.toList == s.toList
theorem hasS_drop {l : List ByteArray} {k : Nat} (h : k < l.length) (s : ByteArray) : hasS (l.drop k) s = ((l.getD k ByteArray.empty).toList == s.toList || hasS (l.drop (k + 1)) s) := by
  have e : l.getD k ByteArray.empty = l[k] := by simp [List.getD_eq_getElem?_getD, h]
  unfold hasS
  rw [List.drop_eq_getElem_cons h, List.any_cons, e]

end Go.Tr

/- Contracts of chapter 2: small nets. Conditions: none. -/
namespace Go.Tr
open Go Go.Proofs
set_option maxRecDepth 20000
set_option maxHeartbeats 8000000

def fewB (N : Net) : Bool := decide (N.ns.length ≤ 12 ∧ N.cs.length ≤ 16) && (N.ns.all fun n => decide (n.name.size ≤ 20)) && N.cs.all fun c => decide (c.name.size ≤ 20)

/-- The block of a boxed net. -/
abbrev netBlk (N : Net) : AB := ⟨2, 1, fun _ => [listA 4 ndC nd0 N.ns, listA 6 cnC cn0 N.cs], 0, false, true, true⟩

theorem all_drop {α : Type} {p : α → Bool} {l : List α} {k : Nat} (h : k < l.length) (d : α) : (l.drop k).all p = (p (l.getD k d) && (l.drop (k + 1)).all p) := by
  have e : l.getD k d = l[k] := by simp [List.getD_eq_getElem?_getD, h]
  rw [List.drop_eq_getElem_cons h, List.all_cons, e]

end Go.Tr

/- Contracts of chapter 2: a net copied, errors of nodes and conduits (reference). Conditions: none. -/
namespace Go.Tr
open Go Go.Proofs
set_option maxRecDepth 20000
set_option maxHeartbeats 8000000

theorem ave_agg2 {k : Nat} {a b a' b' : AV} (ha : AVE k a a') (hb : AVE k b b') : AVE (k + 1) (.agg [a, b]) (.agg [a', b']) := by
  refine ⟨rfl, fun i x y h1 h2 => ?_⟩
  match i, h1, h2 with
  | 0, h1, h2 => cases h1; cases h2; exact ha
  | 1, h1, h2 => cases h1; cases h2; exact hb

def un (c : Bool) (e : Int) : Int := if c then 0 else e
def nodeRight (n : Nd) : Bool := if n.lake then decide (0 ≤ n.head ∧ n.head ≤ 1000000) else decide (-10000 ≤ n.draw ∧ n.draw ≤ 10000)
def nodeOther (n : Nd) : Int := if n.lake then n.draw else n.head
def nodeE (seen : List ByteArray) (n : Nd) : Int := firstOf [un (nameB n.name) 4, un (!hasS seen n.name) 5, un (nodeRight n) 2, un (nodeOther n == 0) 3]

end Go.Tr

/- Contracts of chapter 2: errors of conduits (reference). Conditions: none. -/
namespace Go.Tr
open Go Go.Proofs
set_option maxRecDepth 20000
set_option maxHeartbeats 8000000

def isN (nn : Nat) (k : Int) : Bool := decide (0 ≤ k ∧ k ≤ (nn : Int) - 1)
def conE (nn : Nat) (seen : List ByteArray) (c : Cn) : Int :=
  firstOf [un (nameB c.name) 4, un (!hasS seen c.name) 5, un (isN nn c.fr && isN nn c.to) 6, un (!(c.fr == c.to)) 13, un (decide (0 ≤ c.res ∧ c.res ≤ 1000)) 2, un (c.valve || c.opn) 3]

end Go.Tr

/- Contracts of chapter 2: which nets are valid (reference). Conditions: none. -/
namespace Go.Tr
open Go Go.Proofs
set_option maxRecDepth 20000
set_option maxHeartbeats 8000000

/-- The first that has an error, with its index. -/
def scan {α : Type} (e : List ByteArray → α → Int) (nm : α → ByteArray) : Nat → List ByteArray → List α → Option (Nat × Int)
  | _, _, [] => none
  | k, seen, x :: r => if e seen x = 0 then scan e nm (k + 1) (seen ++ [nm x]) r else some (k, e seen x)

theorem scan_drop {α : Type} {e : List ByteArray → α → Int} {nm : α → ByteArray} {l : List α} {k : Nat} (h : k < l.length) (d : α) (seen : List ByteArray) :
    scan e nm k seen (l.drop k) = if e seen (l.getD k d) = 0 then scan e nm (k + 1) (seen ++ [nm (l.getD k d)]) (l.drop (k + 1)) else some (k, e seen (l.getD k d)) := by
  have e : l.getD k d = l[k] := by simp [List.getD_eq_getElem?_getD, h]
  rw [List.drop_eq_getElem_cons h, scan, e]

def tailN (N : Net) : Int × Int := match scan (conE N.ns.length) Cn.name 0 [] N.cs with
  | some (k, e) => (k, e)
  | none => (0, 0)
def midN (N : Net) : Int × Int := match scan nodeE Nd.name 0 [] N.ns with
  | some (k, e) => (k, e)
  | none => tailN N
def checkN (N : Net) : Int × Int :=
  if N.ns.length = 0 ∨ N.cs.length = 0 then (0, 10) else if 10 < N.ns.length ∨ 14 < N.cs.length then (0, 8) else midN N
def pairA (p : Int × Int) : AV := .tuple [i64 p.1, i64 p.2]

theorem getD_append (seen : List ByteArray) (x : ByteArray) (i : Nat) (h : i < seen.length + 1) : (seen ++ [x]).getD i ByteArray.empty = if i < seen.length then seen.getD i ByteArray.empty else x := by
  by_cases hi : i < seen.length
  · simp [List.getD_eq_getElem?_getD, hi, List.getElem?_append_left hi]
  · have : i = seen.length := by omega
    subst this
    simp [List.getD_eq_getElem?_getD]

abbrev seenBlk (seen : List ByteArray) (fl : Bool) : AB := ⟨1, seen.length, fun i => [sv (seen.getD i ByteArray.empty)], 0, false, fl, false⟩
theorem listS_eq (seen : List ByteArray) : listS seen = .rslice 1 seen.length fun i => [sv (seen.getD i ByteArray.empty)] := by
  unfold listS
  simp
theorem seen_next (seen : List ByteArray) (x : ByteArray) (i : Nat) (h : i < seen.length + 1) : [sv ((seen ++ [x]).getD i ByteArray.empty)] = if i < seen.length then [sv (seen.getD (0 + i) ByteArray.empty)] else List.take 1 (List.drop ((i - seen.length) * 1) [sv x]) := by
  rw [getD_append seen x i h, Nat.zero_add]
  by_cases hi : i < seen.length
  · rw [if_pos hi, if_pos hi]
  · rw [if_neg hi, if_neg hi]
    have : i - seen.length = 0 := by omega
    rw [this]
    rfl
end Go.Tr

/- Contracts of chapter 2: what is reached. Conditions: none. -/
namespace Go.Tr
open Go Go.Proofs
set_option maxRecDepth 20000
set_option maxHeartbeats 8000000

def bools (l : List Bool) : AV := .rslice 1 l.length fun i => [vb (l.getD i false)]
theorem ave_bools {k n : Nat} {f : Nat → List AV} {l : List Bool} (hn : n = l.length) (hf : ∀ i, i < l.length → f i = [vb (l.getD i false)]) : AVE (k + 1) (.rslice 1 n f) (bools l) :=
  ⟨rfl, hn, fun i hi => hf i (hn ▸ hi)⟩
theorem plain_bools (l : List Bool) : PlainR (leaves (bools l)) :=
  ⟨fun i _ x hx => by rw [List.mem_singleton] at hx; exact ⟨_, hx⟩, trivial⟩

theorem S53 (N : Net) (i : Nat) (hi : i < N.cs.length) : SP 53 [netV N, i64 i] (vb (N.cs.getD i cn0).opn) false := by
  refine sound (d := 2) tok2 mixed2 Try.func53 (by kernel_rfl) (by kernel_rfl) ?_
  conv => whnf
  refine ⟨⟨(by omega), (by omega)⟩, ?_⟩
  conv => whnf
  refine ⟨?_, nofun⟩
  rfl

theorem touch_ne {m : List Bool} {a b : Nat} (h : ¬ m.getD a false = m.getD b false) : touch m a b = (m.set a true).set b true := by
  unfold touch; rw [if_pos]; simpa using h
theorem touch_eq {m : List Bool} {a b : Nat} (h : m.getD a false = m.getD b false) : touch m a b = m := by
  unfold touch; rw [if_neg]; simpa using h
def marks (n : Nat) (l : List Int) : List Bool := l.foldl (fun m k => m.set k.toNat true) (List.replicate n false)
theorem rep_row (n i : Nat) : [vb ((List.replicate n false).getD i false)] = [vb false] := by
  simp only [List.getD_eq_getElem?_getD, List.getElem?_replicate]
  split <;> rfl
theorem S51 (N : Net) (g : FuncId) (N' : Net) (use : Nat → Bool) (fm : List Int) (hn : N.ns.length ≤ 1000) (hc : N.cs.length ≤ 1000) (hr : inR N.ns.length N.cs) (hf : ∀ x ∈ fm, 0 ≤ x ∧ x < N.ns.length) (hl : fm.length ≤ 1000)
    (hg : ∀ i : Nat, i < N.cs.length → SP g [netV N', i64 i] (vb (use i)) true) : SP 51 [netV N, ints fm, .func (.func g) 1 [netV N']] (bools (clo use N.cs (marks N.ns.length fm))) true := by
  generalize hR : clo use N.cs (marks N.ns.length fm) = R
  refine sound (d := 2) tok2 mixed2 Try.func51 (by kernel_rfl) (by kernel_rfl) ?_
  conv => whnf
  refine ⟨⟨(by omega), ⟨(by omega), ⟨(by omega), (by show _ * ((1 : Nat) : Int) ≤ _; omega)⟩⟩⟩, ?_⟩
  conv => whnf
  refine ⟨[], [2, 3, 7, 18, 19, 20], fun st mq => ∃ (k : Nat) (x : List Bool), (k ≤ fm.length) ∧ (x.length = N.ns.length) ∧ ((fm.drop k).foldl (fun m k => m.set k.toNat true) x = marks N.ns.length fm) ∧ st = ⟨[(2, .func (.func g) 1 [netV N']), (3, .optr 0 0 0 0), (7, .oslice 1 0 0 N.ns.length (some N.ns.length)), (18, ints fm), (19, i64 fm.length), (20, i64 k)], ⟨[netBlk N, ⟨1, N.ns.length, fun i => [vb (x.getD i false)], 0, false, true, false⟩], [], none, 0⟩, []⟩ ∧ mq = fm.length - k,
    ⟨_, _, ⟨0, List.replicate N.ns.length false, by omega, by simp, rfl, rfl, rfl⟩, ⟨⟨rfl, rfl, rfl, rfl⟩, ⟨⟨rfl, rfl, rfl, rfl, fun _ => rfl, fun _ _ => rfl⟩, ⟨⟨rfl, rfl, rfl, rfl, fun _ => rfl, fun i _ => rep_row _ i⟩, trivial⟩⟩, trivial⟩⟩, ?_⟩
  rintro s0 m0 ⟨k, x, hk, hm, hf1, rfl, hmeas⟩
  by_cases hkl : k < fm.length
  · have hq := hf (fm.getD (k : Int).toNat 0) (by simp [List.getD_eq_getElem?_getD, hkl])
    have e := List.drop_eq_getElem_cons (l := fm) (i := k) hkl
    have e2 : fm.getD (k : Int).toNat 0 = fm[k] := by simp [List.getD_eq_getElem?_getD, hkl]
    rw [e, List.foldl_cons, ← e2] at hf1
    conv => whnf
    conv => whnf
    refine ifB_dec (fun w1 => ?_) (fun w1 => ?_)
    · conv => whnf
      conv => whnf
      refine ⟨⟨(by omega), (by omega)⟩, ?_⟩
      conv => whnf
      conv => whnf
      refine ⟨⟨(by omega), (by omega)⟩, ?_⟩
      refine ⟨_, fun i _ => row1 _ _ i _ (by first | omega | (simp only [List.length_set]; omega) | (simp only [List.length_replicate]; omega) | (simp only [List.length_set, List.length_replicate]; omega)), ?_⟩
      conv => whnf
      conv => whnf
      refine ⟨inK64 (by omega) (by omega), ?_⟩
      conv => whnf
      conv => whnf
      refine ⟨_, _, ⟨⟨k + 1, _, by omega, by (rw [List.length_set]; exact hm), hf1, rfl, rfl⟩, by omega⟩, ⟨⟨rfl, rfl, rfl, rfl⟩, ⟨⟨rfl, rfl, rfl, rfl, fun _ => rfl, fun _ _ => rfl⟩, ⟨⟨rfl, rfl, rfl, rfl, fun _ => rfl, fun _ _ => rfl⟩, trivial⟩⟩, trivial⟩⟩
    · (exfalso; omega)
  · have e : k = fm.length := by omega
    subst e
    rw [List.drop_length, List.foldl_nil] at hf1
    rw [← hf1] at hR
    conv => whnf
    conv => whnf
    refine ifB_dec (fun w1 => ?_) (fun w1 => ?_)
    · (exfalso; omega)
    · clear hk hkl hmeas hf1 w1
      conv => whnf
      conv => whnf
      refine ⟨[], [2, 3, 7, 10], fun st mq => ∃ (x : List Bool) (c : Bool), (x.length = N.ns.length) ∧ (clo use N.cs x = R) ∧ (c = false → sweep use 0 N.cs x = x) ∧ st = ⟨[(2, .func (.func g) 1 [netV N']), (3, .optr 0 0 0 0), (7, .oslice 1 0 0 N.ns.length (some N.ns.length)), (10, vb c)], ⟨[netBlk N, ⟨1, N.ns.length, fun i => [vb (x.getD i false)], 0, false, true, false⟩], [], none, 0⟩, []⟩ ∧ mq = nF x + c.toNat,
        ⟨_, _, ⟨x, true, hm, hR, nofun, rfl, rfl⟩, ⟨⟨rfl, rfl, rfl, rfl⟩, ⟨⟨rfl, rfl, rfl, rfl, fun _ => rfl, fun _ _ => rfl⟩, ⟨⟨rfl, rfl, rfl, rfl, fun _ => rfl, fun _ _ => rfl⟩, trivial⟩⟩, trivial⟩⟩, ?_⟩
      rintro s0 m0 ⟨x, c, hm, hR, hch, rfl, hmeas⟩
      cases c with
      | false =>
        have e : x = R := (clo_fix (hch rfl)).symm.trans hR
        conv => whnf
        conv => whnf
        conv => whnf
        refine ⟨?_, fun _ => ⟨rfl, ?_⟩⟩
        · subst e
          exact ave_bools hm.symm fun _ _ => rfl
        · exact plain_bools R
      | true =>
        have hr' : inR x.length N.cs := by rw [hm]; exact hr
        conv => whnf
        conv => whnf
        conv => whnf
        refine ⟨[], [2, 3, 7, 10, 31, 32, 33], fun st mq => ∃ (k : Nat) (y : List Bool) (c : Bool), (k ≤ N.cs.length) ∧ (y.length = N.ns.length) ∧ (sweep use k (N.cs.drop k) y = sweep use 0 N.cs x) ∧ ((c || sweepC use k (N.cs.drop k) y) = sweepC use 0 N.cs x) ∧ st = ⟨[(2, .func (.func g) 1 [netV N']), (3, .optr 0 0 0 0), (7, .oslice 1 0 0 N.ns.length (some N.ns.length)), (10, vb c), (31, listA 6 cnC cn0 N.cs), (32, i64 N.cs.length), (33, i64 k)], ⟨[netBlk N, ⟨1, N.ns.length, fun i => [vb (y.getD i false)], 0, false, true, false⟩], [], none, 0⟩, []⟩ ∧ mq = N.cs.length - k,
          ⟨_, _, ⟨0, x, false, by omega, hm, rfl, rfl, rfl, rfl⟩, ⟨⟨rfl, rfl, rfl, rfl⟩, ⟨⟨rfl, rfl, rfl, rfl, fun _ => rfl, fun _ _ => rfl⟩, ⟨⟨rfl, rfl, rfl, rfl, fun _ => rfl, fun _ _ => rfl⟩, trivial⟩⟩, trivial⟩⟩, ?_⟩
        rintro s0 m0 ⟨k, y, c, hk, hy, h1, h2, rfl, hmeas⟩
        by_cases hkl : k < N.cs.length
        · have hq := hr (N.cs.getD (k : Int).toNat cn0) (by simp [List.getD_eq_getElem?_getD, hkl])
          rw [sweep_drop y hkl] at h1
          rw [sweepC_drop y hkl] at h2
          have hg' := hg k hkl
          conv => whnf
          conv => whnf
          conv => whnf
          conv => whnf
          refine ifB_dec (fun w1 => ?_) (fun w1 => ?_)
          · conv => whnf
            conv => whnf
            conv => whnf
            conv => whnf
            refine ⟨⟨(by omega), (by omega)⟩, ?_⟩
            conv => whnf
            conv => whnf
            conv => whnf
            conv => whnf
            refine ⟨[], by kernel_rfl, ?_⟩
            conv => whnf
            conv => whnf
            conv => whnf
            conv => whnf
            refine .inl ⟨_, _, byX rfl (hg'), ?_⟩
            conv => whnf
            conv => whnf
            conv => whnf
            conv => whnf
            refine ifB_intro (fun w2 => ?_) (fun w2 => ?_)
            · conv => whnf
              conv => whnf
              conv => whnf
              conv => whnf
              refine ⟨⟨(by omega), (by omega)⟩, ?_⟩
              conv => whnf
              conv => whnf
              conv => whnf
              conv => whnf
              refine ⟨⟨(by omega), (by omega)⟩, ?_⟩
              conv => whnf
              conv => whnf
              conv => whnf
              conv => whnf
              refine ifB_not ?_
              conv => whnf
              conv => whnf
              conv => whnf
              conv => whnf
              refine ifB_beqB (fun w3 => ?_) (fun w3 => ?_)
              · conv => whnf
                conv => whnf
                conv => whnf
                conv => whnf
                refine ⟨inK64 (by omega) (by omega), ?_⟩
                have e : y.getD (N.cs.getD k cn0).fr.toNat false = y.getD (N.cs.getD k cn0).to.toNat false := by simpa using w3
                rw [touch_eq e] at h1 h2
                rw [e] at h2
                conv => whnf
                conv => whnf
                conv => whnf
                conv => whnf
                refine ⟨_, _, ⟨⟨k + 1, y, c, by omega, hy, by simpa using h1, by simpa using h2, rfl, rfl⟩, by omega⟩, ⟨⟨rfl, rfl, rfl, rfl⟩, ⟨⟨rfl, rfl, rfl, rfl, fun _ => rfl, fun _ _ => rfl⟩, ⟨⟨rfl, rfl, rfl, rfl, fun _ => rfl, fun _ _ => rfl⟩, trivial⟩⟩, trivial⟩⟩
              · conv => whnf
                conv => whnf
                conv => whnf
                conv => whnf
                refine ⟨[(5, 7)], by kernel_rfl, ?_⟩
                conv => whnf
                conv => whnf
                conv => whnf
                conv => whnf
                refine ⟨⟨(by omega), (by omega)⟩, ?_⟩
                refine ⟨_, fun i _ => row1 _ _ i _ (by first | omega | (simp only [List.length_set]; omega) | (simp only [List.length_replicate]; omega) | (simp only [List.length_set, List.length_replicate]; omega)), ?_⟩
                conv => whnf
                conv => whnf
                conv => whnf
                conv => whnf
                refine ⟨⟨(by omega), (by omega)⟩, ?_⟩
                refine ⟨_, fun i _ => row1 _ _ i _ (by first | omega | (simp only [List.length_set]; omega) | (simp only [List.length_replicate]; omega) | (simp only [List.length_set, List.length_replicate]; omega)), ?_⟩
                conv => whnf
                conv => whnf
                conv => whnf
                conv => whnf
                refine ⟨inK64 (by omega) (by omega), ?_⟩
                have e : ¬ y.getD (N.cs.getD k cn0).fr.toNat false = y.getD (N.cs.getD k cn0).to.toNat false := by simpa using w3
                rw [touch_ne e, if_pos w2] at h1 h2
                have e2 : (y.getD (N.cs.getD k cn0).fr.toNat false != y.getD (N.cs.getD k cn0).to.toNat false) = true := by simpa using e
                rw [e2, w2] at h2
                conv => whnf
                conv => whnf
                conv => whnf
                conv => whnf
                refine ⟨_, _, ⟨⟨k + 1, (y.set (N.cs.getD (k : Int).toNat cn0).fr.toNat true).set (N.cs.getD (k : Int).toNat cn0).to.toNat true, true, by omega, by simpa using hy, h1, by simpa using h2, rfl, rfl⟩, by omega⟩, ⟨⟨rfl, rfl, rfl, rfl⟩, ⟨⟨rfl, rfl, rfl, rfl, fun _ => rfl, fun _ _ => rfl⟩, ⟨⟨rfl, rfl, rfl, rfl, fun _ => rfl, fun _ _ => rfl⟩, trivial⟩⟩, trivial⟩⟩
            · conv => whnf
              conv => whnf
              conv => whnf
              conv => whnf
              refine ⟨inK64 (by omega) (by omega), ?_⟩
              rw [w2] at h1 h2
              conv => whnf
              conv => whnf
              conv => whnf
              conv => whnf
              refine ⟨_, _, ⟨⟨k + 1, y, c, by omega, hy, h1, by simpa using h2, rfl, rfl⟩, by omega⟩, ⟨⟨rfl, rfl, rfl, rfl⟩, ⟨⟨rfl, rfl, rfl, rfl, fun _ => rfl, fun _ _ => rfl⟩, ⟨⟨rfl, rfl, rfl, rfl, fun _ => rfl, fun _ _ => rfl⟩, trivial⟩⟩, trivial⟩⟩
          · (exfalso; omega)
        · have e : k = N.cs.length := by omega
          subst e
          rw [List.drop_length] at h1 h2
          have h1' : y = sweep use 0 N.cs x := h1
          have h2' : c = sweepC use 0 N.cs x := by rw [← h2]; simp [sweepC]
          have hs := sweep_nF use N.cs 0 x hr'
          conv => whnf
          conv => whnf
          conv => whnf
          conv => whnf
          refine ifB_dec (fun w1 => ?_) (fun w1 => ?_)
          · (exfalso; omega)
          · conv => whnf
            conv => whnf
            conv => whnf
            conv => whnf
            refine ⟨_, _, ⟨⟨y, c, hy, by rw [h1', clo_sweep hr']; exact hR, fun hc => ?_, rfl, rfl⟩, ?_⟩, ⟨⟨rfl, rfl, rfl, rfl⟩, ⟨⟨rfl, rfl, rfl, rfl, fun _ => rfl, fun _ _ => rfl⟩, ⟨⟨rfl, rfl, rfl, rfl, fun _ => rfl, fun _ _ => rfl⟩, trivial⟩⟩, trivial⟩⟩
            · have := hs.2 (h2'.symm.trans hc)
              rw [h1', this, this]
            · have := hs.1
              rw [← h2', ← h1'] at this
              cases c with
              | true => rw [if_pos rfl] at this; have t1 : true.toNat = 1 := rfl; omega
              | false => rw [if_neg nofun] at this; have t1 : true.toNat = 1 := rfl; have t0 : false.toNat = 0 := rfl; omega
end Go.Tr

/- Contracts of chapter 2: which nets are valid (the program). Conditions: none. -/
namespace Go.Tr
open Go Go.Proofs
set_option maxRecDepth 20000
set_option maxHeartbeats 8000000

theorem toList_loop (b : ByteArray) : ∀ (n i : Nat) (r : List UInt8), b.size - i = n → ByteArray.toList.loop b i r = r.reverse ++ b.data.toList.drop i
  | 0, i, r, h => by
    unfold ByteArray.toList.loop
    have hs : b.data.toList.length = b.size := Array.length_toList
    rw [if_neg (by omega), List.drop_eq_nil_of_le (by omega), List.append_nil]
  | n + 1, i, r, h => by
    unfold ByteArray.toList.loop
    have hi : i < b.size := by omega
    have hs : i < b.data.toList.length := by rw [Array.length_toList]; exact hi
    rw [if_pos hi, toList_loop b n (i + 1) _ (by omega), List.drop_eq_getElem_cons hs]
    have : b.get! i = b.data.toList[i] := by
      have hi' : i < b.data.size := hi
      show b.data[i]! = _
      rw [getElem!_pos b.data i hi', Array.getElem_toList]
    rw [this]
    simp
theorem toList_data (b : ByteArray) : b.toList = b.data.toList := by
  unfold ByteArray.toList
  rw [toList_loop b b.size 0 [] rfl]
  simp
theorem toList_beq (a b : ByteArray) : (a == b) = (b.toList == a.toList) := by
  rw [toList_data, toList_data]
  show (a.data == b.data) = _
  by_cases h : a = b
  · subst h; simp
  · have h1 : ¬ a.data = b.data := fun e => h (ByteArray.ext e)
    have h2 : ¬ b.data.toList = a.data.toList := fun e => h (ByteArray.ext (Array.ext' e.symm))
    rw [beq_eq_false_iff_ne.2 h1, beq_eq_false_iff_ne.2 h2]

theorem hasS_snoc (seen : List ByteArray) (x s : ByteArray) : hasS (seen ++ [x]) s = (hasS seen s || (s == x)) := by
  rw [toList_beq]
  simp [hasS]

theorem S19g (l : List Int) (f : Nat → List AV) (hl : l.length ≤ 1000) (h : ∀ i, i < l.length → f i = [i64 (l.getD i 0)]) : SP 19 [.rslice 1 l.length f] (i64 (firstOf l)) true := by
  refine Sound1.pl ((S19 l (by omega)).args rfl fun i y x hy hx => ?_) rfl
  match i, hy, hx with
  | 0, hy, hx => cases hy; cases hx; exact ⟨rfl, rfl, h⟩

theorem S60 (N : Net) (hN : N.ns.length ≤ 1000) (k : Int) : SP 60 [i64 k, .rptr [listA 4 ndC nd0 N.ns, listA 6 cnC cn0 N.cs]] (vb (isN N.ns.length k)) true := by
  refine Sound1.pl ?_ rfl
  refine sound (d := 2) tok2 mixed2 Try.func60 (by kernel_rfl) (by kernel_rfl) ?_
  refine ⟨inK64 (by omega) (by omega), ?_⟩
  refine .inl ⟨_, _, byS (d := 2) (S22 k 0 (N.ns.length - 1)), ?_⟩
  refine ⟨?_, nofun⟩
  rfl

theorem unA (c : Bool) (e : Int) : SP 21 [vb c, i64 e] (i64 (un c e)) false := by
  have := S21 c e
  unfold un
  exact this

theorem map_next (hs : Value → Bool) (key k : Value) : vb (hs k || opEv.keyEq k key) = bif opEv.keyEq k key then vb true else vb (hs k) := by
  cases opEv.keyEq k key <;> simp
theorem node_first (hs : Value → Bool) (seen : List ByteArray) (n : Nd) (h : hs (.string n.name) = hasS seen n.name) : firstOf [un (nameB n.name) 4, un (!hs (.string n.name)) 5, un (nodeRight n) 2, un (nodeOther n == 0) 3] = nodeE seen n := by
  rw [h]; rfl
theorem hs_next {hs : Value → Bool} {seen : List ByteArray} {x : ByteArray} (h : ∀ s, hs (.string s) = hasS seen s) (s : ByteArray) : (hs (.string s) || opEv.keyEq (.string s) (.string x)) = hasS (seen ++ [x]) s := by
  rw [hasS_snoc, h s]; rfl

set_option maxHeartbeats 4000000 in
theorem S49 (N : Net) (hN : N.In) : SP 49 [netV N] (pairA (checkN N)) false := by
  have hl1 := hN.nl
  have hl2 := hN.cl
  generalize hR : checkN N = R
  obtain ⟨R1, R2⟩ := R
  unfold checkN at hR
  have res : ∀ a b : Int, (a, b) = (R1, R2) → AVE 5 (.tuple [i64 a, i64 b]) (.tuple [i64 R1, i64 R2]) := fun a b h => by cases h; exact ave2t _ _
  by_cases hA : N.ns.length = 0 ∨ N.cs.length = 0
  · rw [if_pos hA] at hR
    refine sound (d := 2) tok2 mixed2 Try.func49 (by kernel_rfl) (by kernel_rfl) ?_
    refine ifB_intro (fun h1 => ?_) (fun h1 => ?_)
    · have h1' : (N.ns.length : Int) > 0 := of_decide_eq_true h1
      refine ifB_intro (fun h2 => ?_) (fun h2 => ?_)
      · have h2' : (N.ns.length : Int) ≤ 10 := of_decide_eq_true h2
        have e : firstOf [un (decide ((N.cs.length : Int) > 0)) 10, un (decide ((N.cs.length : Int) ≤ 14)) 8] = 10 := by rw [decide_eq_false (by omega)]; rfl
        refine .inl ⟨_, _, byS (d := 2) (unA (decide ((N.cs.length : Int) > 0)) 10), ?_⟩
        refine .inl ⟨_, _, byS (d := 2) (unA (decide ((N.cs.length : Int) ≤ 14)) 8), ?_⟩
        refine .inl ⟨_, _, byS (d := 2) (S19g [un (decide ((N.cs.length : Int) > 0)) 10, un (decide ((N.cs.length : Int) ≤ 14)) 8] _ (Nat.le_of_ble_eq_true rfl) (fun i hi => match i, hi with | 0, _ => rfl | 1, _ => rfl)), ?_⟩
        refine ifB_intro (fun h3 => ?_) (fun h3 => ?_)
        · refine ⟨?_, nofun⟩
          exact res 0 _ (by rw [e]; exact hR)
        · exact absurd (bne_eq_false_iff_eq.1 h3) (by rw [e]; decide)
      · have h2' : ¬ (N.ns.length : Int) ≤ 10 := of_decide_eq_false h2
        have e : firstOf [un (decide ((N.cs.length : Int) > 0)) 10, un (false) 8] = 10 := by rw [decide_eq_false (by omega)]; rfl
        refine .inl ⟨_, _, byS (d := 2) (unA (decide ((N.cs.length : Int) > 0)) 10), ?_⟩
        refine .inl ⟨_, _, byS (d := 2) (unA (false) 8), ?_⟩
        refine .inl ⟨_, _, byS (d := 2) (S19g [un (decide ((N.cs.length : Int) > 0)) 10, un (false) 8] _ (Nat.le_of_ble_eq_true rfl) (fun i hi => match i, hi with | 0, _ => rfl | 1, _ => rfl)), ?_⟩
        refine ifB_intro (fun h3 => ?_) (fun h3 => ?_)
        · refine ⟨?_, nofun⟩
          exact res 0 _ (by rw [e]; exact hR)
        · exact absurd (bne_eq_false_iff_eq.1 h3) (by rw [e]; decide)
    · have h1' : ¬ (N.ns.length : Int) > 0 := of_decide_eq_false h1
      refine ifB_intro (fun h2 => ?_) (fun h2 => ?_)
      · have h2' : (N.ns.length : Int) ≤ 10 := of_decide_eq_true h2
        refine .inl ⟨_, _, byS (d := 2) (unA (false) 10), ?_⟩
        refine .inl ⟨_, _, byS (d := 2) (unA (decide ((N.cs.length : Int) ≤ 14)) 8), ?_⟩
        refine .inl ⟨_, _, byS (d := 2) (S19g [un (false) 10, un (decide ((N.cs.length : Int) ≤ 14)) 8] _ (Nat.le_of_ble_eq_true rfl) (fun i hi => match i, hi with | 0, _ => rfl | 1, _ => rfl)), ?_⟩
        refine ⟨?_, nofun⟩
        exact res 0 10 hR
      · have h2' : ¬ (N.ns.length : Int) ≤ 10 := of_decide_eq_false h2
        refine .inl ⟨_, _, byS (d := 2) (unA (false) 10), ?_⟩
        refine .inl ⟨_, _, byS (d := 2) (unA (false) 8), ?_⟩
        refine .inl ⟨_, _, byS (d := 2) (S19g [un (false) 10, un (false) 8] _ (Nat.le_of_ble_eq_true rfl) (fun i hi => match i, hi with | 0, _ => rfl | 1, _ => rfl)), ?_⟩
        refine ⟨?_, nofun⟩
        exact res 0 10 hR
  · rw [if_neg hA] at hR
    by_cases hB : 10 < N.ns.length ∨ 14 < N.cs.length
    · rw [if_pos hB] at hR
      refine sound (d := 2) tok2 mixed2 Try.func49 (by kernel_rfl) (by kernel_rfl) ?_
      refine ifB_intro (fun h1 => ?_) (fun h1 => ?_)
      · have h1' : (N.ns.length : Int) > 0 := of_decide_eq_true h1
        refine ifB_intro (fun h2 => ?_) (fun h2 => ?_)
        · have h2' : (N.ns.length : Int) ≤ 10 := of_decide_eq_true h2
          have e : firstOf [un (decide ((N.cs.length : Int) > 0)) 10, un (decide ((N.cs.length : Int) ≤ 14)) 8] = 8 := by rw [decide_eq_true (by omega), decide_eq_false (by omega)]; rfl
          refine .inl ⟨_, _, byS (d := 2) (unA (decide ((N.cs.length : Int) > 0)) 10), ?_⟩
          refine .inl ⟨_, _, byS (d := 2) (unA (decide ((N.cs.length : Int) ≤ 14)) 8), ?_⟩
          refine .inl ⟨_, _, byS (d := 2) (S19g [un (decide ((N.cs.length : Int) > 0)) 10, un (decide ((N.cs.length : Int) ≤ 14)) 8] _ (Nat.le_of_ble_eq_true rfl) (fun i hi => match i, hi with | 0, _ => rfl | 1, _ => rfl)), ?_⟩
          refine ifB_intro (fun h3 => ?_) (fun h3 => ?_)
          · refine ⟨?_, nofun⟩
            exact res 0 _ (by rw [e]; exact hR)
          · exact absurd (bne_eq_false_iff_eq.1 h3) (by rw [e]; decide)
        · have h2' : ¬ (N.ns.length : Int) ≤ 10 := of_decide_eq_false h2
          have e : firstOf [un (decide ((N.cs.length : Int) > 0)) 10, un (false) 8] = 8 := by rw [decide_eq_true (by omega)]; rfl
          refine .inl ⟨_, _, byS (d := 2) (unA (decide ((N.cs.length : Int) > 0)) 10), ?_⟩
          refine .inl ⟨_, _, byS (d := 2) (unA (false) 8), ?_⟩
          refine .inl ⟨_, _, byS (d := 2) (S19g [un (decide ((N.cs.length : Int) > 0)) 10, un (false) 8] _ (Nat.le_of_ble_eq_true rfl) (fun i hi => match i, hi with | 0, _ => rfl | 1, _ => rfl)), ?_⟩
          refine ifB_intro (fun h3 => ?_) (fun h3 => ?_)
          · refine ⟨?_, nofun⟩
            exact res 0 _ (by rw [e]; exact hR)
          · exact absurd (bne_eq_false_iff_eq.1 h3) (by rw [e]; decide)
      · have h1' : ¬ (N.ns.length : Int) > 0 := of_decide_eq_false h1
        refine ifB_intro (fun h2 => ?_) (fun h2 => ?_)
        · have h2' : (N.ns.length : Int) ≤ 10 := of_decide_eq_true h2
          omega
        · have h2' : ¬ (N.ns.length : Int) ≤ 10 := of_decide_eq_false h2
          omega
    · rw [if_neg hB] at hR
      refine sound (d := 2) tok2 mixed2 Try.func49 (by kernel_rfl) (by kernel_rfl) ?_
      refine ifB_intro (fun h1 => ?_) (fun h1 => ?_)
      · have h1' : (N.ns.length : Int) > 0 := of_decide_eq_true h1
        refine ifB_intro (fun h2 => ?_) (fun h2 => ?_)
        · have h2' : (N.ns.length : Int) ≤ 10 := of_decide_eq_true h2
          have e : firstOf [un (decide ((N.cs.length : Int) > 0)) 10, un (decide ((N.cs.length : Int) ≤ 14)) 8] = 0 := by rw [decide_eq_true (by omega), decide_eq_true (by omega)]; rfl
          refine .inl ⟨_, _, byS (d := 2) (unA (decide ((N.cs.length : Int) > 0)) 10), ?_⟩
          refine .inl ⟨_, _, byS (d := 2) (unA (decide ((N.cs.length : Int) ≤ 14)) 8), ?_⟩
          refine .inl ⟨_, _, byS (d := 2) (S19g [un (decide ((N.cs.length : Int) > 0)) 10, un (decide ((N.cs.length : Int) ≤ 14)) 8] _ (Nat.le_of_ble_eq_true rfl) (fun i hi => match i, hi with | 0, _ => rfl | 1, _ => rfl)), ?_⟩
          refine ifB_intro (fun h3 => ?_) (fun h3 => ?_)
          · exact absurd e (bne_iff_ne.1 h3)
          · clear h3
            refine ⟨[], [1, 7, 49, 50, 51], fun st m => ∃ (k : Nat) (seen : List ByteArray) (hs : Value → Bool) (F : Nat → List AV), k ≤ N.ns.length ∧ seen.length = k ∧ (∀ s, hs (.string s) = hasS seen s) ∧
                (match scan nodeE Nd.name k seen (N.ns.drop k) with | some (k, e) => ((k : Int), e) | none => tailN N) = (R1, R2) ∧
                st = ⟨[(1, .optr 0 0 0 0), (7, .omap 0), (49, listA 4 ndC nd0 N.ns), (50, i64 N.ns.length), (51, i64 k)], ⟨[netBlk N, ⟨1, 2, F, 0, false, true, false⟩], [⟨none, 4, hs, fun k => vb (hs k), false⟩], none, 0⟩, []⟩ ∧ m = N.ns.length - k,
              ⟨_, _, ⟨0, [], fun _ => false, _, by omega, rfl, fun _ => rfl, hR, rfl, rfl⟩, ⟨⟨rfl, rfl, rfl, rfl⟩, ⟨⟨rfl, rfl, rfl, rfl, fun _ => rfl, fun _ _ => rfl⟩, ⟨rfl, rfl, rfl, rfl, fun _ => rfl, fun _ _ => rfl⟩, trivial⟩, ⟨rfl, rfl, rfl, fun _ => ⟨rfl, rfl⟩⟩, trivial⟩⟩, ?_⟩
            rintro s0 m0 ⟨k, seen, hs, F, hk, hk0, hhs, hf, rfl, rfl⟩
            refine ifB_intro (fun h5 => ?_) (fun h5 => ?_)
            · have hlt : k < N.ns.length := by have := of_decide_eq_true h5; omega
              have hnm : (N.ns.getD k nd0).In := hN.ns _ (by simp [List.getD_eq_getElem?_getD, hlt])
              rw [scan_drop hlt nd0] at hf
              refine ⟨⟨by omega, by omega⟩, ?_⟩
              refine ⟨[], by kernel_rfl, ?_⟩
              refine .inl ⟨_, _, byP (d := 2) (S43 (N.ns.getD k nd0).draw 10000 (by omega) (by omega)), ?_⟩
              refine ifB_intro (fun h6 => ?_) (fun h6 => ?_)
              · have h6' : (N.ns.getD k nd0).lake = true := h6
                refine ⟨[], by kernel_rfl, ?_⟩
                refine .inl ⟨_, _, byP (d := 2) (S22 (N.ns.getD k nd0).head 0 1000000), ?_⟩
                refine ⟨[], by kernel_rfl, ?_⟩
                refine .inl ⟨_, _, byP (d := 2) (S59 (N.ns.getD k nd0).name hnm.name), ?_⟩
                refine .inl ⟨_, _, byP (d := 2) (unA (nameB (N.ns.getD k nd0).name) 4), ?_⟩
                refine .inl ⟨_, _, byP (d := 2) (unA (!hs (.string (N.ns.getD k nd0).name)) 5), ?_⟩
                refine .inl ⟨_, _, byP (d := 2) (unA (decide (0 ≤ (N.ns.getD k nd0).head ∧ (N.ns.getD k nd0).head ≤ 1000000)) 2), ?_⟩
                refine .inl ⟨_, _, byP (d := 2) (unA ((N.ns.getD k nd0).draw == 0) 3), ?_⟩
                refine .inl ⟨_, _, byP (d := 2) (S19g [un (nameB (N.ns.getD k nd0).name) 4, un (!hs (.string (N.ns.getD k nd0).name)) 5, un (decide (0 ≤ (N.ns.getD k nd0).head ∧ (N.ns.getD k nd0).head ≤ 1000000)) 2, un ((N.ns.getD k nd0).draw == 0) 3] _ (Nat.le_of_ble_eq_true rfl)
                  (fun i hi => match i, hi with | 0, _ => rfl | 1, _ => rfl | 2, _ => rfl | 3, _ => rfl)), ?_⟩
                have e : firstOf [un (nameB (N.ns.getD k nd0).name) 4, un (!hs (.string (N.ns.getD k nd0).name)) 5, un (decide (0 ≤ (N.ns.getD k nd0).head ∧ (N.ns.getD k nd0).head ≤ 1000000)) 2, un ((N.ns.getD k nd0).draw == 0) 3] = nodeE seen (N.ns.getD k nd0) := by
                  rw [← node_first hs seen (N.ns.getD k nd0) (hhs _)]
                  unfold nodeRight nodeOther
                  rw [h6']
                  rfl
                refine ifB_intro (fun h7 => ?_) (fun h7 => ?_)
                · have h7' : ¬ nodeE seen (N.ns.getD k nd0) = 0 := by rw [← e]; exact bne_iff_ne.1 h7
                  rw [if_neg h7', ← e] at hf
                  refine ⟨?_, nofun⟩
                  exact res _ _ hf
                · have h7' : nodeE seen (N.ns.getD k nd0) = 0 := by rw [← e]; exact bne_eq_false_iff_eq.1 h7
                  rw [if_pos h7'] at hf
                  refine ⟨inK64 (by omega) (by omega), ?_⟩
                  refine ⟨_, _, ⟨⟨k + 1, seen ++ [(N.ns.getD k nd0).name], fun x => hs x || opEv.keyEq x (.string (N.ns.getD k nd0).name), F, by omega, by simp [hk0], fun s => hs_next hhs s, hf, rfl, rfl⟩, by omega⟩,
                    ⟨⟨rfl, rfl, rfl, rfl⟩, ⟨⟨rfl, rfl, rfl, rfl, fun _ => rfl, fun _ _ => rfl⟩, ⟨rfl, rfl, rfl, rfl, fun _ => rfl, fun _ _ => rfl⟩, trivial⟩, ⟨rfl, rfl, rfl, fun x => ⟨rfl, map_next hs _ x⟩⟩, trivial⟩⟩
              · have h6' : (N.ns.getD k nd0).lake = false := h6
                refine ⟨[], by kernel_rfl, ?_⟩
                refine .inl ⟨_, _, byP (d := 2) (S59 (N.ns.getD k nd0).name hnm.name), ?_⟩
                refine .inl ⟨_, _, byP (d := 2) (unA (nameB (N.ns.getD k nd0).name) 4), ?_⟩
                refine .inl ⟨_, _, byP (d := 2) (unA (!hs (.string (N.ns.getD k nd0).name)) 5), ?_⟩
                refine .inl ⟨_, _, byP (d := 2) (unA (decide (-10000 ≤ (N.ns.getD k nd0).draw ∧ (N.ns.getD k nd0).draw ≤ 10000)) 2), ?_⟩
                refine .inl ⟨_, _, byP (d := 2) (unA ((N.ns.getD k nd0).head == 0) 3), ?_⟩
                refine .inl ⟨_, _, byP (d := 2) (S19g [un (nameB (N.ns.getD k nd0).name) 4, un (!hs (.string (N.ns.getD k nd0).name)) 5, un (decide (-10000 ≤ (N.ns.getD k nd0).draw ∧ (N.ns.getD k nd0).draw ≤ 10000)) 2, un ((N.ns.getD k nd0).head == 0) 3] _ (Nat.le_of_ble_eq_true rfl)
                  (fun i hi => match i, hi with | 0, _ => rfl | 1, _ => rfl | 2, _ => rfl | 3, _ => rfl)), ?_⟩
                have e : firstOf [un (nameB (N.ns.getD k nd0).name) 4, un (!hs (.string (N.ns.getD k nd0).name)) 5, un (decide (-10000 ≤ (N.ns.getD k nd0).draw ∧ (N.ns.getD k nd0).draw ≤ 10000)) 2, un ((N.ns.getD k nd0).head == 0) 3] = nodeE seen (N.ns.getD k nd0) := by
                  rw [← node_first hs seen (N.ns.getD k nd0) (hhs _)]
                  unfold nodeRight nodeOther
                  rw [h6']
                  rfl
                refine ifB_intro (fun h7 => ?_) (fun h7 => ?_)
                · have h7' : ¬ nodeE seen (N.ns.getD k nd0) = 0 := by rw [← e]; exact bne_iff_ne.1 h7
                  rw [if_neg h7', ← e] at hf
                  refine ⟨?_, nofun⟩
                  exact res _ _ hf
                · have h7' : nodeE seen (N.ns.getD k nd0) = 0 := by rw [← e]; exact bne_eq_false_iff_eq.1 h7
                  rw [if_pos h7'] at hf
                  refine ⟨inK64 (by omega) (by omega), ?_⟩
                  refine ⟨_, _, ⟨⟨k + 1, seen ++ [(N.ns.getD k nd0).name], fun x => hs x || opEv.keyEq x (.string (N.ns.getD k nd0).name), F, by omega, by simp [hk0], fun s => hs_next hhs s, hf, rfl, rfl⟩, by omega⟩,
                    ⟨⟨rfl, rfl, rfl, rfl⟩, ⟨⟨rfl, rfl, rfl, rfl, fun _ => rfl, fun _ _ => rfl⟩, ⟨rfl, rfl, rfl, rfl, fun _ => rfl, fun _ _ => rfl⟩, trivial⟩, ⟨rfl, rfl, rfl, fun x => ⟨rfl, map_next hs _ x⟩⟩, trivial⟩⟩
            · have hlt : k = N.ns.length := by have := of_decide_eq_false h5; omega
              rw [hlt, List.drop_length, scan] at hf
              unfold tailN at hf
              clear hR hlt
              refine ⟨[], [1, 13, 14, 96, 97, 98], fun st m => ∃ (j : Nat) (se : List ByteArray) (hs2 : Value → Bool), j ≤ N.cs.length ∧ se.length = j ∧ (∀ s, hs2 (.string s) = hasS se s) ∧
                  (match scan (conE N.ns.length) Cn.name j se (N.cs.drop j) with | some (k, e) => ((k : Int), e) | none => (0, 0)) = (R1, R2) ∧
                  st = ⟨[(1, .optr 0 0 0 0), (13, .func (.func 60) 0 [.optr 0 0 0 0]), (14, .omap 1), (96, listA 6 cnC cn0 N.cs), (97, i64 N.cs.length), (98, i64 j)], ⟨[netBlk N, ⟨1, 2, F, 0, false, true, false⟩], [⟨none, 4, hs, fun k => vb (hs k), false⟩, ⟨none, 4, hs2, fun k => vb (hs2 k), false⟩], none, 0⟩, []⟩ ∧ m = N.cs.length - j,
                ⟨_, _, ⟨0, [], fun _ => false, by omega, rfl, fun _ => rfl, hf, rfl, rfl⟩, ⟨⟨rfl, rfl, rfl, rfl⟩, ⟨⟨rfl, rfl, rfl, rfl, fun _ => rfl, fun _ _ => rfl⟩, ⟨rfl, rfl, rfl, rfl, fun _ => rfl, fun _ _ => rfl⟩, trivial⟩, ⟨rfl, rfl, rfl, fun _ => ⟨rfl, rfl⟩⟩, ⟨rfl, rfl, rfl, fun _ => ⟨rfl, rfl⟩⟩, trivial⟩⟩, ?_⟩
              rintro s0 m0 ⟨j, se, hs2, hj, hj0, hhs2, hf, rfl, rfl⟩
              refine ifB_intro (fun h5 => ?_) (fun h5 => ?_)
              · have hlt : j < N.cs.length := by have := of_decide_eq_true h5; omega
                have hnm : (N.cs.getD j cn0).In := hN.cs _ (by simp [List.getD_eq_getElem?_getD, hlt])
                rw [scan_drop hlt cn0] at hf
                refine ⟨⟨by omega, by omega⟩, ?_⟩
                refine ⟨[], by kernel_rfl, ?_⟩
                refine .inl ⟨_, _, byP (d := 2) (S59 (N.cs.getD j cn0).name hnm.name), ?_⟩
                refine .inl ⟨_, _, byP (d := 2) (unA (nameB (N.cs.getD j cn0).name) 4), ?_⟩
                refine .inl ⟨_, _, byP (d := 2) (unA (!hs2 (.string (N.cs.getD j cn0).name)) 5), ?_⟩
                refine .inl ⟨_, _, byP (d := 2) (S60 N (by omega) (N.cs.getD j cn0).fr), ?_⟩
                refine ifB_intro (fun g1 => ?_) (fun g1 => ?_)
                · have g1' : isN N.ns.length (N.cs.getD j cn0).fr = true := g1
                  refine .inl ⟨_, _, byP (d := 2) (S60 N (by omega) (N.cs.getD j cn0).to), ?_⟩
                  refine .inl ⟨_, _, byP (d := 2) (unA (isN N.ns.length (N.cs.getD j cn0).to) 6), ?_⟩
                  refine .inl ⟨_, _, byP (d := 2) (unA ((N.cs.getD j cn0).fr != (N.cs.getD j cn0).to) 13), ?_⟩
                  refine .inl ⟨_, _, byP (d := 2) (S22 (N.cs.getD j cn0).res 0 1000), ?_⟩
                  refine .inl ⟨_, _, byP (d := 2) (unA (decide (0 ≤ (N.cs.getD j cn0).res ∧ (N.cs.getD j cn0).res ≤ 1000)) 2), ?_⟩
                  refine ifB_intro (fun g2 => ?_) (fun g2 => ?_)
                  · have g2' : (N.cs.getD j cn0).valve = true := g2
                    refine .inl ⟨_, _, byP (d := 2) (unA (true) 3), ?_⟩
                    refine .inl ⟨_, _, byP (d := 2) (S19g [un (nameB (N.cs.getD j cn0).name) 4, un (!hs2 (.string (N.cs.getD j cn0).name)) 5, un (isN N.ns.length (N.cs.getD j cn0).to) 6, un ((N.cs.getD j cn0).fr != (N.cs.getD j cn0).to) 13, un (decide (0 ≤ (N.cs.getD j cn0).res ∧ (N.cs.getD j cn0).res ≤ 1000)) 2, un (true) 3] _ (Nat.le_of_ble_eq_true rfl)
                      (fun i hi => match i, hi with | 0, _ => rfl | 1, _ => rfl | 2, _ => rfl | 3, _ => rfl | 4, _ => rfl | 5, _ => rfl)), ?_⟩
                    have e : firstOf [un (nameB (N.cs.getD j cn0).name) 4, un (!hs2 (.string (N.cs.getD j cn0).name)) 5, un (isN N.ns.length (N.cs.getD j cn0).to) 6, un ((N.cs.getD j cn0).fr != (N.cs.getD j cn0).to) 13, un (decide (0 ≤ (N.cs.getD j cn0).res ∧ (N.cs.getD j cn0).res ≤ 1000)) 2, un (true) 3] = conE N.ns.length se (N.cs.getD j cn0) := by
                      unfold conE
                      rw [g1', g2', hhs2]
                      rfl
                    refine ifB_intro (fun h7 => ?_) (fun h7 => ?_)
                    · have h7' : ¬ conE N.ns.length se (N.cs.getD j cn0) = 0 := by rw [← e]; exact bne_iff_ne.1 h7
                      rw [if_neg h7', ← e] at hf
                      refine ⟨?_, nofun⟩
                      exact res _ _ hf
                    · have h7' : conE N.ns.length se (N.cs.getD j cn0) = 0 := by rw [← e]; exact bne_eq_false_iff_eq.1 h7
                      rw [if_pos h7'] at hf
                      refine ⟨inK64 (by omega) (by omega), ?_⟩
                      refine ⟨_, _, ⟨⟨j + 1, se ++ [(N.cs.getD j cn0).name], fun x => hs2 x || opEv.keyEq x (.string (N.cs.getD j cn0).name), by omega, by simp [hj0], fun s => hs_next hhs2 s, hf, rfl, rfl⟩, by omega⟩,
                        ⟨⟨rfl, rfl, rfl, rfl⟩, ⟨⟨rfl, rfl, rfl, rfl, fun _ => rfl, fun _ _ => rfl⟩, ⟨rfl, rfl, rfl, rfl, fun _ => rfl, fun _ _ => rfl⟩, trivial⟩, ⟨rfl, rfl, rfl, fun _ => ⟨rfl, rfl⟩⟩, ⟨rfl, rfl, rfl, fun x => ⟨rfl, map_next hs2 _ x⟩⟩, trivial⟩⟩
                  · have g2' : (N.cs.getD j cn0).valve = false := g2
                    refine .inl ⟨_, _, byP (d := 2) (unA ((N.cs.getD j cn0).opn) 3), ?_⟩
                    refine .inl ⟨_, _, byP (d := 2) (S19g [un (nameB (N.cs.getD j cn0).name) 4, un (!hs2 (.string (N.cs.getD j cn0).name)) 5, un (isN N.ns.length (N.cs.getD j cn0).to) 6, un ((N.cs.getD j cn0).fr != (N.cs.getD j cn0).to) 13, un (decide (0 ≤ (N.cs.getD j cn0).res ∧ (N.cs.getD j cn0).res ≤ 1000)) 2, un ((N.cs.getD j cn0).opn) 3] _ (Nat.le_of_ble_eq_true rfl)
                      (fun i hi => match i, hi with | 0, _ => rfl | 1, _ => rfl | 2, _ => rfl | 3, _ => rfl | 4, _ => rfl | 5, _ => rfl)), ?_⟩
                    have e : firstOf [un (nameB (N.cs.getD j cn0).name) 4, un (!hs2 (.string (N.cs.getD j cn0).name)) 5, un (isN N.ns.length (N.cs.getD j cn0).to) 6, un ((N.cs.getD j cn0).fr != (N.cs.getD j cn0).to) 13, un (decide (0 ≤ (N.cs.getD j cn0).res ∧ (N.cs.getD j cn0).res ≤ 1000)) 2, un ((N.cs.getD j cn0).opn) 3] = conE N.ns.length se (N.cs.getD j cn0) := by
                      unfold conE
                      rw [g1', g2', hhs2]
                      rfl
                    refine ifB_intro (fun h7 => ?_) (fun h7 => ?_)
                    · have h7' : ¬ conE N.ns.length se (N.cs.getD j cn0) = 0 := by rw [← e]; exact bne_iff_ne.1 h7
                      rw [if_neg h7', ← e] at hf
                      refine ⟨?_, nofun⟩
                      exact res _ _ hf
                    · have h7' : conE N.ns.length se (N.cs.getD j cn0) = 0 := by rw [← e]; exact bne_eq_false_iff_eq.1 h7
                      rw [if_pos h7'] at hf
                      refine ⟨inK64 (by omega) (by omega), ?_⟩
                      refine ⟨_, _, ⟨⟨j + 1, se ++ [(N.cs.getD j cn0).name], fun x => hs2 x || opEv.keyEq x (.string (N.cs.getD j cn0).name), by omega, by simp [hj0], fun s => hs_next hhs2 s, hf, rfl, rfl⟩, by omega⟩,
                        ⟨⟨rfl, rfl, rfl, rfl⟩, ⟨⟨rfl, rfl, rfl, rfl, fun _ => rfl, fun _ _ => rfl⟩, ⟨rfl, rfl, rfl, rfl, fun _ => rfl, fun _ _ => rfl⟩, trivial⟩, ⟨rfl, rfl, rfl, fun _ => ⟨rfl, rfl⟩⟩, ⟨rfl, rfl, rfl, fun x => ⟨rfl, map_next hs2 _ x⟩⟩, trivial⟩⟩
                · have g1' : isN N.ns.length (N.cs.getD j cn0).fr = false := g1
                  refine .inl ⟨_, _, byP (d := 2) (unA (false) 6), ?_⟩
                  refine .inl ⟨_, _, byP (d := 2) (unA ((N.cs.getD j cn0).fr != (N.cs.getD j cn0).to) 13), ?_⟩
                  refine .inl ⟨_, _, byP (d := 2) (S22 (N.cs.getD j cn0).res 0 1000), ?_⟩
                  refine .inl ⟨_, _, byP (d := 2) (unA (decide (0 ≤ (N.cs.getD j cn0).res ∧ (N.cs.getD j cn0).res ≤ 1000)) 2), ?_⟩
                  refine ifB_intro (fun g2 => ?_) (fun g2 => ?_)
                  · have g2' : (N.cs.getD j cn0).valve = true := g2
                    refine .inl ⟨_, _, byP (d := 2) (unA (true) 3), ?_⟩
                    refine .inl ⟨_, _, byP (d := 2) (S19g [un (nameB (N.cs.getD j cn0).name) 4, un (!hs2 (.string (N.cs.getD j cn0).name)) 5, un (false) 6, un ((N.cs.getD j cn0).fr != (N.cs.getD j cn0).to) 13, un (decide (0 ≤ (N.cs.getD j cn0).res ∧ (N.cs.getD j cn0).res ≤ 1000)) 2, un (true) 3] _ (Nat.le_of_ble_eq_true rfl)
                      (fun i hi => match i, hi with | 0, _ => rfl | 1, _ => rfl | 2, _ => rfl | 3, _ => rfl | 4, _ => rfl | 5, _ => rfl)), ?_⟩
                    have e : firstOf [un (nameB (N.cs.getD j cn0).name) 4, un (!hs2 (.string (N.cs.getD j cn0).name)) 5, un (false) 6, un ((N.cs.getD j cn0).fr != (N.cs.getD j cn0).to) 13, un (decide (0 ≤ (N.cs.getD j cn0).res ∧ (N.cs.getD j cn0).res ≤ 1000)) 2, un (true) 3] = conE N.ns.length se (N.cs.getD j cn0) := by
                      unfold conE
                      rw [g1', g2', hhs2]
                      rfl
                    refine ifB_intro (fun h7 => ?_) (fun h7 => ?_)
                    · have h7' : ¬ conE N.ns.length se (N.cs.getD j cn0) = 0 := by rw [← e]; exact bne_iff_ne.1 h7
                      rw [if_neg h7', ← e] at hf
                      refine ⟨?_, nofun⟩
                      exact res _ _ hf
                    · have h7' : conE N.ns.length se (N.cs.getD j cn0) = 0 := by rw [← e]; exact bne_eq_false_iff_eq.1 h7
                      rw [if_pos h7'] at hf
                      refine ⟨inK64 (by omega) (by omega), ?_⟩
                      refine ⟨_, _, ⟨⟨j + 1, se ++ [(N.cs.getD j cn0).name], fun x => hs2 x || opEv.keyEq x (.string (N.cs.getD j cn0).name), by omega, by simp [hj0], fun s => hs_next hhs2 s, hf, rfl, rfl⟩, by omega⟩,
                        ⟨⟨rfl, rfl, rfl, rfl⟩, ⟨⟨rfl, rfl, rfl, rfl, fun _ => rfl, fun _ _ => rfl⟩, ⟨rfl, rfl, rfl, rfl, fun _ => rfl, fun _ _ => rfl⟩, trivial⟩, ⟨rfl, rfl, rfl, fun _ => ⟨rfl, rfl⟩⟩, ⟨rfl, rfl, rfl, fun x => ⟨rfl, map_next hs2 _ x⟩⟩, trivial⟩⟩
                  · have g2' : (N.cs.getD j cn0).valve = false := g2
                    refine .inl ⟨_, _, byP (d := 2) (unA ((N.cs.getD j cn0).opn) 3), ?_⟩
                    refine .inl ⟨_, _, byP (d := 2) (S19g [un (nameB (N.cs.getD j cn0).name) 4, un (!hs2 (.string (N.cs.getD j cn0).name)) 5, un (false) 6, un ((N.cs.getD j cn0).fr != (N.cs.getD j cn0).to) 13, un (decide (0 ≤ (N.cs.getD j cn0).res ∧ (N.cs.getD j cn0).res ≤ 1000)) 2, un ((N.cs.getD j cn0).opn) 3] _ (Nat.le_of_ble_eq_true rfl)
                      (fun i hi => match i, hi with | 0, _ => rfl | 1, _ => rfl | 2, _ => rfl | 3, _ => rfl | 4, _ => rfl | 5, _ => rfl)), ?_⟩
                    have e : firstOf [un (nameB (N.cs.getD j cn0).name) 4, un (!hs2 (.string (N.cs.getD j cn0).name)) 5, un (false) 6, un ((N.cs.getD j cn0).fr != (N.cs.getD j cn0).to) 13, un (decide (0 ≤ (N.cs.getD j cn0).res ∧ (N.cs.getD j cn0).res ≤ 1000)) 2, un ((N.cs.getD j cn0).opn) 3] = conE N.ns.length se (N.cs.getD j cn0) := by
                      unfold conE
                      rw [g1', g2', hhs2]
                      rfl
                    refine ifB_intro (fun h7 => ?_) (fun h7 => ?_)
                    · have h7' : ¬ conE N.ns.length se (N.cs.getD j cn0) = 0 := by rw [← e]; exact bne_iff_ne.1 h7
                      rw [if_neg h7', ← e] at hf
                      refine ⟨?_, nofun⟩
                      exact res _ _ hf
                    · have h7' : conE N.ns.length se (N.cs.getD j cn0) = 0 := by rw [← e]; exact bne_eq_false_iff_eq.1 h7
                      rw [if_pos h7'] at hf
                      refine ⟨inK64 (by omega) (by omega), ?_⟩
                      refine ⟨_, _, ⟨⟨j + 1, se ++ [(N.cs.getD j cn0).name], fun x => hs2 x || opEv.keyEq x (.string (N.cs.getD j cn0).name), by omega, by simp [hj0], fun s => hs_next hhs2 s, hf, rfl, rfl⟩, by omega⟩,
                        ⟨⟨rfl, rfl, rfl, rfl⟩, ⟨⟨rfl, rfl, rfl, rfl, fun _ => rfl, fun _ _ => rfl⟩, ⟨rfl, rfl, rfl, rfl, fun _ => rfl, fun _ _ => rfl⟩, trivial⟩, ⟨rfl, rfl, rfl, fun _ => ⟨rfl, rfl⟩⟩, ⟨rfl, rfl, rfl, fun x => ⟨rfl, map_next hs2 _ x⟩⟩, trivial⟩⟩
              · have hlt : j = N.cs.length := by have := of_decide_eq_false h5; omega
                rw [hlt, List.drop_length, scan] at hf
                refine ⟨?_, nofun⟩
                exact res 0 0 hf
        · have h2' : ¬ (N.ns.length : Int) ≤ 10 := of_decide_eq_false h2
          omega
      · have h1' : ¬ (N.ns.length : Int) > 0 := of_decide_eq_false h1
        refine ifB_intro (fun h2 => ?_) (fun h2 => ?_)
        · have h2' : (N.ns.length : Int) ≤ 10 := of_decide_eq_true h2
          omega
        · have h2' : ¬ (N.ns.length : Int) ≤ 10 := of_decide_eq_false h2
          omega
end Go.Tr

/- Contracts of chapter 2: valid nets, indexes, lakes. Conditions: none. -/
namespace Go.Tr
open Go Go.Proofs
set_option maxRecDepth 20000
set_option maxHeartbeats 8000000

/-- What is known of a valid net. -/
structure Net.Ok (N : Net) : Prop where
  n0 : 0 < N.ns.length
  n1 : N.ns.length ≤ 10
  c0 : 0 < N.cs.length
  c1 : N.cs.length ≤ 14
  ends : inR N.ns.length N.cs
  con : ∀ c ∈ N.cs, c.fr ≠ c.to ∧ 0 ≤ c.res ∧ c.res ≤ 1000 ∧ (c.valve = true ∨ c.opn = true)
  node : ∀ n ∈ N.ns, nodeRight n = true ∧ nodeOther n = 0

theorem firstOf_zero {l : List Int} (h : firstOf l = 0) : ∀ x ∈ l, x = 0 := by
  induction l with
  | nil => simp
  | cons y r ih =>
    unfold firstOf at h
    split at h
    · intro x hx
      rcases List.mem_cons.1 hx with rfl | hx
      · assumption
      · exact ih h x hx
    · contradiction
theorem un_zero {c : Bool} {e : Int} (he : e ≠ 0) (h : un c e = 0) : c = true := by
  unfold un at h
  cases c with
  | true => rfl
  | false => exact absurd h he
theorem scan_all {α : Type} {e : List ByteArray → α → Int} {nm : α → ByteArray} : ∀ {l : List α} {k : Nat} {seen : List ByteArray}, scan e nm k seen l = none → ∀ x ∈ l, ∃ s, e s x = 0
  | [], k, seen, _, x, hx => by simp at hx
  | y :: r, k, seen, h, x, hx => by
    unfold scan at h
    split at h
    · rcases List.mem_cons.1 hx with rfl | hx
      · exact ⟨seen, by assumption⟩
      · exact scan_all h x hx
    · cases h
theorem scan_ne {α : Type} {e : List ByteArray → α → Int} {nm : α → ByteArray} : ∀ {l : List α} {k : Nat} {seen : List ByteArray} {i : Nat} {x : Int}, scan e nm k seen l = some (i, x) → x ≠ 0
  | [], k, seen, i, x, h => by cases h
  | y :: r, k, seen, i, x, h => by
    unfold scan at h
    split at h
    · exact scan_ne h
    · cases h; assumption

theorem net_ok {N : Net} (h : (checkN N).2 = 0) : N.Ok := by
  unfold checkN at h
  split at h
  · cases h
  · split at h
    · cases h
    · rename_i h1 h2
      unfold midN at h
      split at h
      · rename_i k e hs; exact absurd h (scan_ne hs)
      · rename_i hs
        unfold tailN at h
        split at h
        · rename_i k e hs; exact absurd h (scan_ne hs)
        · rename_i hs2
          have hcs := scan_all hs2
          have hns := scan_all hs
          refine ⟨by omega, by omega, by omega, by omega, fun c hc => ?_, fun c hc => ?_, fun n hn => ?_⟩
          · obtain ⟨s, e⟩ := hcs c hc
            have := un_zero (by decide) (firstOf_zero e _ (by simp : un (isN N.ns.length c.fr && isN N.ns.length c.to) 6 ∈ _))
            simp only [isN, Bool.and_eq_true, decide_eq_true_eq] at this
            omega
          · obtain ⟨s, e⟩ := hcs c hc
            have a := un_zero (by decide) (firstOf_zero e _ (by simp : un (!(c.fr == c.to)) 13 ∈ _))
            have b := un_zero (by decide) (firstOf_zero e _ (by simp : un (decide (0 ≤ c.res ∧ c.res ≤ 1000)) 2 ∈ _))
            have d := un_zero (by decide) (firstOf_zero e _ (by simp : un (c.valve || c.opn) 3 ∈ _))
            simp only [decide_eq_true_eq] at b
            refine ⟨by simpa using a, b.1, b.2, by simpa using d⟩
          · obtain ⟨s, e⟩ := hns n hn
            have a := un_zero (by decide) (firstOf_zero e _ (by simp : un (nodeRight n) 2 ∈ _))
            have b := un_zero (by decide) (firstOf_zero e _ (by simp : un (nodeOther n == 0) 3 ∈ _))
            exact ⟨a, by simpa using b⟩

/-- The error of a net. -/
def netE (N : Net) : Int := (checkN N).2
theorem ave_pairNE (k : Nat) (N : Net) (e : Int) : AVE (k + 4) (.tuple [netV N, i64 e]) (.tuple [netV N, i64 e]) := by
  refine ⟨rfl, fun i x y h1 h2 => ?_⟩
  match i, h1, h2 with
  | 0, h1, h2 =>
    cases h1; cases h2
    refine ⟨rfl, fun i x y h1 h2 => ?_⟩
    match i, h1, h2 with
    | 0, h1, h2 => cases h1; cases h2; exact ⟨rfl, rfl, fun _ _ => rfl⟩
    | 1, h1, h2 => cases h1; cases h2; exact ⟨rfl, rfl, fun _ _ => rfl⟩
  | 1, h1, h2 => cases h1; cases h2; rfl

theorem S33 (N : Net) (hN : N.In) : SP 33 [netV N] (.tuple [netV N, i64 (netE N)]) false := by
  have h16 := S49 N hN
  unfold pairA at h16
  unfold netE
  generalize checkN N = p at *
  refine sound (d := 2) tok2 mixed2 Try.func33 (by kernel_rfl) (by kernel_rfl) ?_
  conv => whnf
  refine .inl ⟨_, _, byX rfl (Sound1.pl (h16) rfl), ?_⟩
  conv => whnf
  refine ⟨?_, nofun⟩
  exact ave_pairNE 1 N _
def ndE (N : Net) (k : Int) : Int := if 0 ≤ k ∧ k ≤ (N.ns.length : Int) - 1 then 0 else 6
def whereF : Nat → List Bool → List Int
  | _, [] => []
  | k, b :: r => if b then (k : Int) :: whereF (k + 1) r else whereF (k + 1) r
theorem whereF_drop {l : List Bool} {k : Nat} (h : k < l.length) : whereF k (l.drop k) = if l.getD k false then (k : Int) :: whereF (k + 1) (l.drop (k + 1)) else whereF (k + 1) (l.drop (k + 1)) := by
  rw [List.drop_eq_getElem_cons h, whereF]; simp [List.getD_eq_getElem?_getD, h]
theorem app_row {acc : List Int} {n : Nat} (hn : acc.length = n) (x : Int) (i : Nat) (h : i < n + 1) : [i64 ((acc ++ [x]).getD i 0)] = if i < n then [i64 (acc.getD (0 + i) 0)] else List.take 1 (List.drop ((i - n) * 1) [i64 x]) := by
  subst hn
  rw [Nat.zero_add]
  by_cases hi : i < acc.length
  · rw [if_pos hi]; simp [List.getD_eq_getElem?_getD, hi, List.getElem?_append_left hi]
  · have : i = acc.length := by omega
    subst this
    rw [if_neg hi]; simp [List.getD_eq_getElem?_getD]

theorem S36 (l : List Bool) (hl : l.length ≤ 1000) : SP 36 [bools l] (ints (whereF 0 l)) false := by
  generalize hR : whereF 0 l = R
  refine sound (d := 2) tok2 mixed2 Try.func36 (by kernel_rfl) (by kernel_rfl) ?_
  conv => whnf
  refine ⟨[.slot 3 1], [3, 6, 7, 8], fun st mq => ∃ (k : Nat) (n : Nat) (a : List Int), (a.length = n) ∧ (k ≤ l.length) ∧ (n ≤ k) ∧ (a ++ whereF k (l.drop k) = R) ∧ st = ⟨[(3, .oslice 0 0 0 n none), (6, bools l), (7, i64 l.length), (8, i64 k)], ⟨[⟨1, n, fun i => [i64 (a.getD i 0)], 0, false, true, false⟩], [], none, 0⟩, []⟩ ∧ mq = l.length - k,
    ⟨_, _, ⟨0, 0, [], rfl, by omega, by omega, hR, rfl, rfl⟩, ⟨⟨rfl, rfl, rfl, rfl⟩, ⟨⟨rfl, rfl, rfl, rfl, fun _ => rfl, fun i h => absurd h (Nat.not_lt_zero i)⟩, trivial⟩, trivial⟩⟩, ?_⟩
  rintro s0 m0 ⟨k, n, a, hn, hk, ha, h1, rfl, hmeas⟩
  by_cases hkl : k < l.length
  · rw [whereF_drop hkl] at h1
    conv => whnf
    conv => whnf
    refine ifB_dec (fun w1 => ?_) (fun w1 => ?_)
    · conv => whnf
      conv => whnf
      refine ⟨⟨(by omega), (by omega)⟩, ?_⟩
      conv => whnf
      conv => whnf
      refine ifB_intro (fun w2 => ?_) (fun w2 => ?_)
      · conv => whnf
        conv => whnf
        refine ⟨(by show _ * (8 + 1) ≤ _; omega), ?_⟩
        conv => whnf
        conv => whnf
        refine ⟨inK64 (by omega) (by omega), ?_⟩
        have w : l.getD k false = true := w2
        rw [if_pos w] at h1
        conv => whnf
        conv => whnf
        refine ⟨_, _, ⟨⟨k + 1, n + 1, a ++ [(k : Int)], by simpa using hn, by omega, by omega, by simpa using h1, rfl, rfl⟩, by omega⟩, ⟨⟨rfl, rfl, rfl, rfl⟩, ⟨⟨rfl, rfl, rfl, rfl, fun _ => rfl, fun i h => app_row hn _ i h⟩, trivial⟩, trivial⟩⟩
      · conv => whnf
        conv => whnf
        refine ⟨inK64 (by omega) (by omega), ?_⟩
        have w : l.getD k false = false := w2
        rw [w] at h1
        conv => whnf
        conv => whnf
        refine ⟨_, _, ⟨⟨k + 1, n, a, hn, by omega, by omega, by simpa using h1, rfl, rfl⟩, by omega⟩, ⟨⟨rfl, rfl, rfl, rfl⟩, ⟨⟨rfl, rfl, rfl, rfl, fun _ => rfl, fun _ _ => rfl⟩, trivial⟩, trivial⟩⟩
    · (exfalso; omega)
  · have e : k = l.length := by omega
    subst e
    rw [List.drop_length] at h1
    conv => whnf
    conv => whnf
    refine ifB_dec (fun w1 => ?_) (fun w1 => ?_)
    · (exfalso; omega)
    · conv => whnf
      conv => whnf
      refine ⟨?_, nofun⟩
      have e2 : a = R := by simpa [whereF] using h1
      subst e2
      exact ave_ints hn.symm fun _ _ => rfl

/-- The lakes. -/
def lakesB (N : Net) : List Bool := N.ns.map Nd.lake
theorem lakesB_getD (N : Net) (k : Nat) (h : k < N.ns.length) : (lakesB N).getD k false = (N.ns.getD k nd0).lake := by
  simp [lakesB, List.getD_eq_getElem?_getD, h]
theorem S52 (N : Net) (hN : N.ns.length ≤ 1000) : SP 52 [netV N] (ints (whereF 0 (lakesB N))) false := by
  have hl : (lakesB N).length = N.ns.length := by simp [lakesB]
  generalize hR : whereF 0 (lakesB N) = R
  refine sound (d := 2) tok2 mixed2 Try.func52 (by kernel_rfl) (by kernel_rfl) ?_
  conv => whnf
  refine ⟨[.slot 3 1], [3, 8, 9, 10], fun st mq => ∃ (k : Nat) (n : Nat) (a : List Int), (a.length = n) ∧ (k ≤ N.ns.length) ∧ (n ≤ k) ∧ (a ++ whereF k ((lakesB N).drop k) = R) ∧ st = ⟨[(3, .oslice 1 0 0 n none), (8, listA 4 ndC nd0 N.ns), (9, i64 N.ns.length), (10, i64 k)], ⟨[netBlk N, ⟨1, n, fun i => [i64 (a.getD i 0)], 0, false, true, false⟩], [], none, 0⟩, []⟩ ∧ mq = N.ns.length - k,
    ⟨_, _, ⟨0, 0, [], rfl, by omega, by omega, hR, rfl, rfl⟩, ⟨⟨rfl, rfl, rfl, rfl⟩, ⟨⟨rfl, rfl, rfl, rfl, fun _ => rfl, fun _ _ => rfl⟩, ⟨⟨rfl, rfl, rfl, rfl, fun _ => rfl, fun i h => absurd h (Nat.not_lt_zero i)⟩, trivial⟩⟩, trivial⟩⟩, ?_⟩
  rintro s0 m0 ⟨k, n, a, hn, hk, ha, h1, rfl, hmeas⟩
  by_cases hkl : k < N.ns.length
  · rw [whereF_drop (by omega), lakesB_getD N k hkl] at h1
    conv => whnf
    conv => whnf
    refine ifB_dec (fun w1 => ?_) (fun w1 => ?_)
    · conv => whnf
      conv => whnf
      refine ⟨⟨(by omega), (by omega)⟩, ?_⟩
      conv => whnf
      conv => whnf
      refine ifB_intro (fun w2 => ?_) (fun w2 => ?_)
      · conv => whnf
        conv => whnf
        refine ⟨(by show _ * (8 + 1) ≤ _; omega), ?_⟩
        conv => whnf
        conv => whnf
        refine ⟨inK64 (by omega) (by omega), ?_⟩
        have w : (N.ns.getD k nd0).lake = true := w2
        rw [if_pos w] at h1
        conv => whnf
        conv => whnf
        refine ⟨_, _, ⟨⟨k + 1, n + 1, a ++ [(k : Int)], by simpa using hn, by omega, by omega, by simpa using h1, rfl, rfl⟩, by omega⟩, ⟨⟨rfl, rfl, rfl, rfl⟩, ⟨⟨rfl, rfl, rfl, rfl, fun _ => rfl, fun _ _ => rfl⟩, ⟨⟨rfl, rfl, rfl, rfl, fun _ => rfl, fun i h => app_row hn _ i h⟩, trivial⟩⟩, trivial⟩⟩
      · conv => whnf
        conv => whnf
        refine ⟨inK64 (by omega) (by omega), ?_⟩
        have w : (N.ns.getD k nd0).lake = false := w2
        rw [w] at h1
        conv => whnf
        conv => whnf
        refine ⟨_, _, ⟨⟨k + 1, n, a, hn, by omega, by omega, by simpa using h1, rfl, rfl⟩, by omega⟩, ⟨⟨rfl, rfl, rfl, rfl⟩, ⟨⟨rfl, rfl, rfl, rfl, fun _ => rfl, fun _ _ => rfl⟩, ⟨⟨rfl, rfl, rfl, rfl, fun _ => rfl, fun _ _ => rfl⟩, trivial⟩⟩, trivial⟩⟩
    · (exfalso; omega)
  · have e : k = N.ns.length := by omega
    subst e
    rw [← hl, List.drop_length] at h1
    conv => whnf
    conv => whnf
    refine ifB_dec (fun w1 => ?_) (fun w1 => ?_)
    · (exfalso; omega)
    · conv => whnf
      conv => whnf
      refine ⟨?_, nofun⟩
      have e2 : a = R := by simpa [whereF] using h1
      subst e2
      exact ave_ints hn.symm fun _ _ => rfl

theorem whereF_mem {l : List Bool} : ∀ {k : Nat} {x : Int}, x ∈ whereF k l → k ≤ x ∧ x < k + l.length := by
  induction l with
  | nil => intro k x h; simp [whereF] at h
  | cons b r ih =>
    intro k x h
    rw [whereF] at h
    have : x = k ∨ x ∈ whereF (k + 1) r := by
      cases b with
      | true => simpa using h
      | false => exact .inr (by simpa using h)
    rcases this with rfl | h
    · simp; omega
    · have := ih h
      simp only [List.length_cons]
      omega
theorem whereF_len : ∀ (l : List Bool) (k : Nat), (whereF k l).length ≤ l.length
  | [], k => by simp [whereF]
  | b :: r, k => by
    have := whereF_len r (k + 1)
    rw [whereF]
    split <;> simp <;> omega
/-- Marks at the indexes of a list of truth values are this list. -/
theorem marks_where_aux : ∀ (l : List Bool) (k : Nat) (m : List Bool), m.length = k + l.length → (∀ i, k ≤ i → m.getD i false = false) →
    ∀ i, ((whereF k l).foldl (fun m j => m.set j.toNat true) m).getD i false = if i < k then m.getD i false else l.getD (i - k) false
  | [], k, m, hm, h0, i => by
    simp only [whereF, List.foldl_nil]
    split
    · rfl
    · rw [h0 i (by omega)]; rfl
  | b :: r, k, m, hm, h0, i => by
    have hm' : m.length = k + 1 + r.length := by rw [hm]; simp; omega
    cases b with
    | true =>
      rw [whereF, if_pos rfl, List.foldl_cons]
      rw [marks_where_aux r (k + 1) (m.set (k : Int).toNat true) (by simp; omega) (fun j hj => by rw [getD_set, if_neg (fun e => by have := e.1; simp at this; omega)]; exact h0 j (by omega))]
      rw [getD_set]
      by_cases hi : i < k
      · rw [if_pos (by omega), if_pos hi, if_neg (fun e => by have := e.1; simp at this; omega)]
      · by_cases hi2 : i = k
        · subst hi2
          rw [if_pos (by omega), if_neg hi, if_pos ⟨by simp, by simp; omega⟩]; simp
        · rw [if_neg (by omega), if_neg hi, show i - k = i - (k + 1) + 1 by omega]; rfl
    | false =>
      rw [whereF, if_neg (by decide)]
      rw [marks_where_aux r (k + 1) m hm' (fun j hj => h0 j (by omega))]
      by_cases hi : i < k
      · rw [if_pos (by omega), if_pos hi]
      · by_cases hi2 : i = k
        · subst hi2
          rw [if_pos (by omega), if_neg hi, h0 i (by omega)]; simp
        · rw [if_neg (by omega), if_neg hi, show i - k = i - (k + 1) + 1 by omega]; rfl
theorem list_ext_getD {l m : List Bool} (h : l.length = m.length) (e : ∀ i, l.getD i false = m.getD i false) : l = m := by
  apply List.ext_getElem h
  intro i h1 h2
  have := e i
  simpa [List.getD_eq_getElem?_getD, h1, h2] using this
theorem foldl_set_len (l : List Int) : ∀ (m : List Bool), (l.foldl (fun m j => m.set j.toNat true) m).length = m.length := by
  induction l with
  | nil => intro m; rfl
  | cons x r ih => intro m; rw [List.foldl_cons, ih]; simp
theorem marks_where (l : List Bool) : marks l.length (whereF 0 l) = l := by
  apply list_ext_getD
  · unfold marks; rw [foldl_set_len]; simp
  · intro i
    unfold marks
    rw [marks_where_aux l 0 _ (by simp) (fun j _ => by simp only [List.getD_eq_getElem?_getD, List.getElem?_replicate]; split <;> rfl)]
    rw [if_neg (by omega)]; rfl
end Go.Tr

/- Contracts of chapter 2: wet conduits. Conditions: none. -/
namespace Go.Tr
open Go Go.Proofs
set_option maxRecDepth 20000
set_option maxHeartbeats 8000000

theorem bools_n {l : List Bool} {n : Nat} (h : l.length = n) : bools l = .rslice 1 n fun i => [vb (l.getD i false)] := by
  unfold bools; rw [h]
def opnU (N : Net) (k : Nat) : Bool := (N.cs.getD k cn0).opn
theorem set_inv {y W : List Bool} {k : Nat} {v : Bool} (h : ∀ i, i < k → y.getD i false = W.getD i false) (hk : k < y.length) (hv : v = W.getD k false) : ∀ i, i < k + 1 → (y.set k v).getD i false = W.getD i false := fun i hi => by
  rw [getD_set]
  by_cases e : i = k
  · subst e; rw [if_pos ⟨rfl, hk⟩]; exact hv
  · rw [if_neg (fun h => e h.1)]; exact h i (by omega)
theorem app_inv {y W : List Bool} {k : Nat} {v : Bool} (h : ∀ i, i < k → y.getD i false = W.getD i false) (hk : y.length = k) (hv : v = W.getD k false) : ∀ i, i < k + 1 → (y ++ [v]).getD i false = W.getD i false := fun i hi => by
  subst hk
  by_cases e : i < y.length
  · rw [← h i e]; simp [List.getD_eq_getElem?_getD, List.getElem?_append_left e]
  · have : i = y.length := by omega
    subst this
    rw [← hv]; simp [List.getD_eq_getElem?_getD]
theorem ext_inv {y W : List Bool} {n : Nat} (h1 : y.length = n) (h2 : W.length = n) (h : ∀ i, i < n → y.getD i false = W.getD i false) : y = W :=
  list_ext_getD (h1.trans h2.symm) fun i => by
    by_cases hi : i < n
    · exact h i hi
    · rw [List.getD_eq_getElem?_getD, List.getD_eq_getElem?_getD, List.getElem?_eq_none (by omega), List.getElem?_eq_none (by omega)]

/-- The nodes that are reached from lakes; the wet conduits. -/
def lakeR (N : Net) : List Bool := clo (opnU N) N.cs (lakesB N)
def wetC (N : Net) (c : Cn) : Bool := (lakeR N).getD c.to.toNat false || (c.opn && (lakeR N).getD c.fr.toNat false)
def wetB (N : Net) : List Bool := N.cs.map (wetC N)
theorem lakesB_len (N : Net) : (lakesB N).length = N.ns.length := by simp [lakesB]
theorem lakeR_len (N : Net) : (lakeR N).length = N.ns.length := by unfold lakeR; rw [clo_len, lakesB_len]
theorem wetB_len (N : Net) : (wetB N).length = N.cs.length := by simp [wetB]
theorem wetB_getD (N : Net) (k : Nat) (h : k < N.cs.length) : (wetB N).getD k false = wetC N (N.cs.getD k cn0) := by
  simp [wetB, List.getD_eq_getElem?_getD, h]

theorem app_rowB {acc : List Bool} {n : Nat} (hn : acc.length = n) (x : Bool) (i : Nat) (h : i < n + 1) : [vb ((acc ++ [x]).getD i false)] = if i < n then [vb (acc.getD (0 + i) false)] else List.take 1 (List.drop ((i - n) * 1) [vb x]) := by
  subst hn
  rw [Nat.zero_add]
  by_cases hi : i < acc.length
  · rw [if_pos hi]; simp [List.getD_eq_getElem?_getD, hi, List.getElem?_append_left hi]
  · have : i = acc.length := by omega
    subst this
    rw [if_neg hi]; simp [List.getD_eq_getElem?_getD]
theorem S53p (N : Net) (i : Nat) (hi : i < N.cs.length) : SP 53 [netV N, i64 i] (vb (opnU N i)) true := (S53 N i hi).pl rfl

theorem S35 (N : Net) (hn : N.ns.length ≤ 1000) (hc : N.cs.length ≤ 1000) (hr : inR N.ns.length N.cs) : SP 35 [netV N] (bools (wetB N)) true := by
  have h135 := S52 N hn
  have hw : ∀ x ∈ whereF 0 (lakesB N), 0 ≤ x ∧ x < N.ns.length := fun x hx => by
    have := whereF_mem hx
    rw [lakesB_len] at this
    omega
  have hwl := whereF_len (lakesB N) 0
  rw [lakesB_len] at hwl
  have h90 := S51 N 53 N (opnU N) (whereF 0 (lakesB N)) hn hc hr hw (by omega) (S53p N)
  have hm := marks_where (lakesB N)
  rw [lakesB_len] at hm
  rw [hm] at h90
  change SP 51 _ (bools (lakeR N)) true at h90
  have hR := lakeR_len N
  refine sound (d := 2) tok2 mixed2 Try.func35 (by kernel_rfl) (by kernel_rfl) ?_
  conv => whnf
  refine ⟨[], by kernel_rfl, ?_⟩
  conv => whnf
  refine .inl ⟨_, _, byX rfl (h135), ?_⟩
  conv => whnf
  refine .inl ⟨_, _, byX rfl (h90), ?_⟩
  conv => whnf
  refine ⟨[.slot 4 1], [1, 3, 4, 15, 16, 17], fun st mq => ∃ (k : Nat) (n : Nat) (a : List Bool), (a.length = n) ∧ (k ≤ N.cs.length) ∧ (n = k) ∧ (∀ i, i < k → a.getD i false = (wetB N).getD i false) ∧ st = ⟨[(1, .optr 0 0 0 0), (3, .oslice 1 0 0 (lakeR N).length none), (4, .oslice 2 0 0 n none), (15, listA 6 cnC cn0 N.cs), (16, i64 N.cs.length), (17, i64 k)], ⟨[netBlk N, ⟨1, (lakeR N).length, fun i => [vb ((lakeR N).getD i false)], 0, false, true, false⟩, ⟨1, n, fun i => [vb (a.getD i false)], 0, false, true, false⟩], [], none, 0⟩, []⟩ ∧ mq = N.cs.length - k,
    ⟨_, _, ⟨0, 0, [], rfl, by omega, rfl, fun i h => absurd h (Nat.not_lt_zero i), rfl, rfl⟩, ⟨⟨rfl, rfl, rfl, rfl⟩, ⟨⟨rfl, rfl, rfl, rfl, fun _ => rfl, fun _ _ => rfl⟩, ⟨⟨rfl, rfl, rfl, rfl, fun _ => rfl, fun _ _ => rfl⟩, ⟨⟨rfl, rfl, rfl, rfl, fun _ => rfl, fun i h => absurd h (Nat.not_lt_zero i)⟩, trivial⟩⟩⟩, trivial⟩⟩, ?_⟩
  rintro s0 m0 ⟨k, n, a, hn1, hk, ha, h1, rfl, hmeas⟩
  by_cases hkl : k < N.cs.length
  · have hq := hr (N.cs.getD (k : Int).toNat cn0) (by simp [List.getD_eq_getElem?_getD, hkl])
    have hW := wetB_getD N k hkl
    unfold wetC at hW
    subst ha
    conv => whnf
    conv => whnf
    refine ifB_dec (fun w1 => ?_) (fun w1 => ?_)
    · conv => whnf
      conv => whnf
      refine ⟨⟨(by omega), (by omega)⟩, ?_⟩
      conv => whnf
      conv => whnf
      refine ⟨⟨(by omega), (by omega)⟩, ?_⟩
      conv => whnf
      conv => whnf
      refine ifB_intro (fun w2 => ?_) (fun w2 => ?_)
      · conv => whnf
        conv => whnf
        refine ⟨(by show _ * (1 + 1) ≤ _; omega), ?_⟩
        conv => whnf
        conv => whnf
        refine ⟨inK64 (by omega) (by omega), ?_⟩
        have e : (lakeR N).getD (N.cs.getD n cn0).to.toNat false = true := by simpa using w2
        have hs := app_inv (v := true) h1 hn1 (by rw [hW, e]; rfl)
        conv => whnf
        conv => whnf
        refine ⟨_, _, ⟨⟨n + 1, n + 1, a ++ [true], by simpa using hn1, by omega, rfl, hs, rfl, rfl⟩, by omega⟩, ⟨⟨rfl, rfl, rfl, rfl⟩, ⟨⟨rfl, rfl, rfl, rfl, fun _ => rfl, fun _ _ => rfl⟩, ⟨⟨rfl, rfl, rfl, rfl, fun _ => rfl, fun _ _ => rfl⟩, ⟨⟨rfl, rfl, rfl, rfl, fun _ => rfl, fun i h => app_rowB hn1 _ i h⟩, trivial⟩⟩⟩, trivial⟩⟩
      · conv => whnf
        conv => whnf
        refine ifB_intro (fun w3 => ?_) (fun w3 => ?_)
        · conv => whnf
          conv => whnf
          refine ⟨⟨(by omega), (by omega)⟩, ?_⟩
          conv => whnf
          conv => whnf
          refine ⟨(by show _ * (1 + 1) ≤ _; omega), ?_⟩
          conv => whnf
          conv => whnf
          refine ⟨inK64 (by omega) (by omega), ?_⟩
          have e : (lakeR N).getD (N.cs.getD n cn0).to.toNat false = false := by simpa using w2
          have e2 : (N.cs.getD n cn0).opn = true := by simpa using w3
          have hs := app_inv (v := (lakeR N).getD (0 + (N.cs.getD (n : Int).toNat cn0).fr.toNat) false) h1 hn1 (by rw [hW, e, e2]; simp)
          conv => whnf
          conv => whnf
          refine ⟨_, _, ⟨⟨n + 1, n + 1, a ++ [(lakeR N).getD (0 + (N.cs.getD (n : Int).toNat cn0).fr.toNat) false], by simpa using hn1, by omega, rfl, hs, rfl, rfl⟩, by omega⟩, ⟨⟨rfl, rfl, rfl, rfl⟩, ⟨⟨rfl, rfl, rfl, rfl, fun _ => rfl, fun _ _ => rfl⟩, ⟨⟨rfl, rfl, rfl, rfl, fun _ => rfl, fun _ _ => rfl⟩, ⟨⟨rfl, rfl, rfl, rfl, fun _ => rfl, fun i h => app_rowB hn1 _ i h⟩, trivial⟩⟩⟩, trivial⟩⟩
        · conv => whnf
          conv => whnf
          refine ⟨(by show _ * (1 + 1) ≤ _; omega), ?_⟩
          conv => whnf
          conv => whnf
          refine ⟨inK64 (by omega) (by omega), ?_⟩
          have e : (lakeR N).getD (N.cs.getD n cn0).to.toNat false = false := by simpa using w2
          have e2 : (N.cs.getD n cn0).opn = false := by simpa using w3
          have hs := app_inv (v := false) h1 hn1 (by rw [hW, e, e2]; rfl)
          conv => whnf
          conv => whnf
          refine ⟨_, _, ⟨⟨n + 1, n + 1, a ++ [false], by simpa using hn1, by omega, rfl, hs, rfl, rfl⟩, by omega⟩, ⟨⟨rfl, rfl, rfl, rfl⟩, ⟨⟨rfl, rfl, rfl, rfl, fun _ => rfl, fun _ _ => rfl⟩, ⟨⟨rfl, rfl, rfl, rfl, fun _ => rfl, fun _ _ => rfl⟩, ⟨⟨rfl, rfl, rfl, rfl, fun _ => rfl, fun i h => app_rowB hn1 _ i h⟩, trivial⟩⟩⟩, trivial⟩⟩
    · (exfalso; omega)
  · have e : k = N.cs.length := by omega
    subst e
    have e : a = wetB N := ext_inv (hn1.trans ha) (wetB_len N) h1
    subst e
    conv => whnf
    conv => whnf
    refine ifB_dec (fun w1 => ?_) (fun w1 => ?_)
    · (exfalso; omega)
    · conv => whnf
      conv => whnf
      refine ⟨?_, fun _ => ⟨rfl, ?_⟩⟩
      · exact ave_bools hn1.symm fun _ _ => rfl
      · exact plain_bools _
end Go.Tr

/- Contracts of chapter 2: what a valve fills. Conditions: none. -/
namespace Go.Tr
open Go Go.Proofs
set_option maxRecDepth 20000
set_option maxHeartbeats 8000000

theorem plain_cons (cs : List Cn) : PlainR (leaves (listA 6 cnC cn0 cs)) := by
  refine ⟨fun i _ x hx => ?_, trivial⟩
  simp only [cnC, List.mem_cons, List.not_mem_nil, or_false] at hx
  rcases hx with rfl | rfl | rfl | rfl | rfl | rfl <;> exact ⟨_, rfl⟩
theorem S50 (cs : List Cn) (h0 : 0 < cs.length) (h1 : cs.length ≤ 1000) : SP 50 [listA 6 cnC cn0 cs] (listA 6 cnC cn0 cs) true := by
  refine sound (d := 2) tok2 mixed2 Try.func50 (by kernel_rfl) (by kernel_rfl) ?_
  rintro (_ | _) w1
  · conv => whnf
    refine ⟨⟨(by omega), (by show _ * (48 + 1) ≤ _; omega)⟩, ?_⟩
    conv => whnf
    refine ⟨?_, fun _ => ⟨rfl, ?_⟩⟩
    · refine ⟨rfl, Nat.zero_add _, fun i _ => ?_⟩
      show cnC (cs.getD (i - 0) cn0) = _
      rw [Nat.sub_zero]
    · exact plain_cons cs
  · (exact absurd (w1 (by omega)) nofun)

def setOpen (N : Net) (k : Nat) (b : Bool) : Net := ⟨N.ns, N.cs.set k { N.cs.getD k cn0 with opn := b }⟩
theorem con_row (cs : List Cn) (k j : Nat) (b : Bool) (hk : k < cs.length) : cnC ((cs.set k { cs.getD k cn0 with opn := b }).getD j cn0) = bif Nat.beq j (0 + k) then splice (cnC (cs.getD j cn0)) 5 [vb b] else cnC (cs.getD j cn0) := by
  rw [Nat.zero_add]
  cases e : Nat.beq j k with
  | true => cases Nat.eq_of_beq_eq_true e; simp [List.getD_eq_getElem?_getD, hk, cnC, splice]
  | false => have := Nat.ne_of_beq_eq_false e; simp [List.getD_eq_getElem?_getD, Ne.symm this]

theorem S34 (N : Net) (k : Nat) (b : Bool) (hk : k < N.cs.length) (h1 : N.cs.length ≤ 1000) : SP 34 [netV N, i64 k, vb b] (netV (setOpen N k b)) false := by
  have h136 := S50 N.cs (by omega) h1
  refine sound (d := 2) tok2 mixed2 Try.func34 (by kernel_rfl) (by kernel_rfl) ?_
  conv => whnf
  refine ⟨[], by kernel_rfl, ?_⟩
  conv => whnf
  refine .inl ⟨_, _, byX rfl (h136), ?_⟩
  conv => whnf
  refine ⟨⟨(by omega), (by omega)⟩, ?_⟩
  refine ⟨_, fun _ _ => rfl, ?_⟩
  conv => whnf
  refine ⟨?_, nofun⟩
  exact ave_agg2 (k := 4) (a := .rslice 4 N.ns.length _) (b := .rslice 6 N.cs.length _) ⟨rfl, rfl, fun _ _ => rfl⟩ ⟨rfl, by simp [setOpen], fun j _ => (con_row N.cs k j b hk).symm⟩
theorem plain_net (N : Net) : PlainR (leaves (netV N)) := by
  refine ⟨fun i _ x hx => ?_, fun i _ x hx => ?_, trivial⟩
  · simp only [ndC, List.mem_cons, List.not_mem_nil, or_false] at hx
    rcases hx with rfl | rfl | rfl | rfl <;> exact ⟨_, rfl⟩
  · simp only [cnC, List.mem_cons, List.not_mem_nil, or_false] at hx
    rcases hx with rfl | rfl | rfl | rfl | rfl | rfl <;> exact ⟨_, rfl⟩
theorem inR_setOpen {N : Net} {k : Nat} {b : Bool} (hk : k < N.cs.length) (h : inR N.ns.length N.cs) : inR (setOpen N k b).ns.length (setOpen N k b).cs := by
  intro c hc
  rcases List.mem_or_eq_of_mem_set hc with h1 | rfl
  · exact h c h1
  · exact h (N.cs.getD k cn0) (by simp [List.getD_eq_getElem?_getD, hk])
theorem setOpen_len (N : Net) (k : Nat) (b : Bool) : (setOpen N k b).cs.length = N.cs.length := by simp [setOpen]

/-- What a valve fills. -/
def fillB (N : Net) (k : Nat) : List Bool := List.zipWith (fun a b => a && !b) (wetB (setOpen N k true)) (wetB (setOpen N k false))
theorem wetSO_len (N : Net) (k : Nat) (b : Bool) : (wetB (setOpen N k b)).length = N.cs.length := by rw [wetB_len, setOpen_len]
theorem fillB_len (N : Net) (k : Nat) : (fillB N k).length = N.cs.length := by simp [fillB, wetSO_len]
theorem fillB_getD (N : Net) (k i : Nat) (h : i < N.cs.length) : (fillB N k).getD i false = ((wetB (setOpen N k true)).getD i false && !(wetB (setOpen N k false)).getD i false) := by
  have h1 := wetSO_len N k true
  have h2 := wetSO_len N k false
  simp [fillB, List.getD_eq_getElem?_getD, h1, h2, h]

theorem wet_args {N : Net} {k : Nat} {b : Bool} (hk : k < N.cs.length) {f : Nat → List AV} (hf : ∀ j, f j = bif Nat.beq j (0 + k) then splice (cnC (N.cs.getD j cn0)) 5 [vb b] else cnC (N.cs.getD j cn0)) : AVE 5 (.agg [listA 4 ndC nd0 N.ns, .rslice 6 N.cs.length f]) (netV (setOpen N k b)) :=
  ave_agg2 (k := 4) (a := .rslice 4 N.ns.length _) (b := .rslice 6 N.cs.length _) ⟨rfl, rfl, fun _ _ => rfl⟩ ⟨rfl, (setOpen_len N k b).symm, fun j _ => by rw [hf]; exact (con_row N.cs k j b hk).symm⟩
end Go.Tr

/- Contracts of chapter 2: the three functions of reach. Conditions: none. -/
namespace Go.Tr
open Go Go.Proofs
set_option maxRecDepth 20000
set_option maxHeartbeats 8000000

theorem S16 (a b : List Int) (ha : a.length ≤ 1000000000) (hb : b.length ≤ 1000000000) : SP 16 [ints a, ints b] (vb (decide (a = b))) false := by
  refine sound (d := 2) tok2 mixed2 Try.func16 (by kernel_rfl) (by kernel_rfl) ?_
  conv => whnf
  refine ifB_bne (fun w1 => ?_) (fun w1 => ?_)
  · conv => whnf
    refine ⟨?_, nofun⟩
    show vb false = vb _
    rw [decide_eq_false]
    intro e; subst e; exact w1 rfl
  · have hab : a.length = b.length := by omega
    conv => whnf
    refine ⟨[], [0, 1, 5], fun st mq => ∃ (k : Nat), (k ≤ a.length) ∧ (∀ i, i < k → a.getD i 0 = b.getD i 0) ∧ st = ⟨[(0, ints a), (1, ints b), (5, i64 k)], ⟨[], [], none, 0⟩, []⟩ ∧ mq = a.length - k,
      ⟨_, _, ⟨0, by omega, fun i h => absurd h (Nat.not_lt_zero i), rfl, rfl⟩, ⟨⟨rfl, rfl, rfl, rfl⟩, trivial, trivial⟩⟩, ?_⟩
    rintro s0 m0 ⟨k, hk, h1, rfl, hmeas⟩
    conv => whnf
    conv => whnf
    refine ifB_dec (fun w2 => ?_) (fun w2 => ?_)
    · conv => whnf
      conv => whnf
      refine ⟨[], by kernel_rfl, ?_⟩
      conv => whnf
      conv => whnf
      refine ⟨⟨(by omega), (by omega)⟩, ?_⟩
      conv => whnf
      conv => whnf
      refine ⟨⟨(by omega), (by omega)⟩, ?_⟩
      conv => whnf
      conv => whnf
      refine ifB_bne (fun w3 => ?_) (fun w3 => ?_)
      · conv => whnf
        conv => whnf
        refine ⟨?_, nofun⟩
        have e : ¬ a.getD k 0 = b.getD k 0 := w3
        show vb false = vb _
        rw [decide_eq_false]
        intro h; subst h; exact e rfl
      · conv => whnf
        conv => whnf
        refine ⟨inK64 (by omega) (by omega), ?_⟩
        have e : a.getD k 0 = b.getD k 0 := w3
        conv => whnf
        conv => whnf
        refine ⟨_, _, ⟨⟨k + 1, by omega, fun i hi => (by rcases Nat.lt_or_ge i k with h | h; exact h1 i h; rw [show i = k by omega]; exact e), rfl, rfl⟩, by omega⟩, ⟨⟨rfl, rfl, rfl, rfl⟩, trivial, trivial⟩⟩
    · conv => whnf
      conv => whnf
      refine ⟨?_, nofun⟩
      have e : k = a.length := by omega
      subst e
      show vb true = vb _
      rw [decide_eq_true]
      apply List.ext_getElem hab
      intro i h2 h3
      have := h1 i h2
      simpa [List.getD_eq_getElem?_getD, h2, h3] using this

/-- The nodes that are reached from a node. -/
def reachB (N : Net) (k : Int) : List Bool := clo (opnU N) N.cs (marks N.ns.length [k])
theorem marks_len (n : Nat) (l : List Int) : (marks n l).length = n := by unfold marks; rw [foldl_set_len]; simp
theorem reachB_len (N : Net) (k : Int) : (reachB N k).length = N.ns.length := by unfold reachB; rw [clo_len, marks_len]
theorem S51_1 (N : Net) (k : Int) (h0 : 0 ≤ k) (h1 : k < N.ns.length) (hn : N.ns.length ≤ 1000) (hc : N.cs.length ≤ 1000) (hr : inR N.ns.length N.cs) (f : Nat → List AV) (hf : f 0 = [i64 k]) : SP 51 [netV N, .rslice 1 1 f, .func (.func 53) 1 [netV N]] (bools (reachB N k)) true :=
  (S51 N 53 N (opnU N) [k] hn hc hr (by simpa using ⟨h0, h1⟩) (by simp) (S53p N)).args rfl fun i y x hy hx => by
    match i, hy, hx with
    | 0, hy, hx => cases hy; cases hx; exact ave_agg2 (k := 4) (a := .rslice 4 N.ns.length _) (b := .rslice 6 N.cs.length _) ⟨rfl, rfl, fun _ _ => rfl⟩ ⟨rfl, rfl, fun _ _ => rfl⟩
    | 1, hy, hx => cases hy; cases hx; exact ⟨rfl, rfl, fun i hi => match i, hi with | 0, _ => hf⟩
    | 2, hy, hx => cases hy; cases hx; rfl

theorem ave_listE {k : Nat} {x : AV} {l : List Int} {e : Int} (h : AVE (k + 3) x (ints l)) : AVE (k + 4) (.tuple [x, i64 e]) (.tuple [ints l, i64 e]) := by
  refine ⟨rfl, fun i a b h1 h2 => ?_⟩
  match i, h1, h2 with
  | 0, h1, h2 => cases h1; cases h2; exact h
  | 1, h1, h2 => cases h1; cases h2; rfl
theorem ave_nilE (k : Nat) (e : Int) : AVE (k + 4) (.tuple [.eslice, i64 e]) (.tuple [ints [], i64 e]) := ave_listE (k := k) (show (0 : Nat) = 0 from rfl)

def conN (N : Net) (k : Int) : Int := if decide (0 ≤ k ∧ k ≤ (N.cs.length : Int) - 1) = true then 0 else 6
def fillE (N : Net) (k : Int) : Int := if firstOf [netE N, conN N k] = 0 then (if (N.cs.getD k.toNat cn0).valve then 0 else 12) else firstOf [netE N, conN N k]
theorem S14 (N : Net) (hN : N.In) (k : Int) : SP 14 [netV N, i64 k] (.tuple [ints (if fillE N k = 0 then whereF 0 (fillB N k.toNat) else []), i64 (fillE N k)]) false := by
  have hn := hN.cl
  have h87 := S33 N hN
  unfold fillE
  by_cases hE : firstOf [netE N, conN N k] = 0
  · have hz := firstOf_zero hE
    have hok := net_ok (hz _ (by simp : netE N ∈ _))
    have h1 := hok.n1
    have h2 := hok.c1
    have hk : 0 ≤ k ∧ k ≤ (N.cs.length : Int) - 1 := by
      have := hz (conN N k) (by simp)
      unfold conN at this
      split at this
      · exact of_decide_eq_true (by assumption)
      · cases this
    obtain ⟨i, rfl⟩ : ∃ i : Nat, k = i := ⟨k.toNat, by omega⟩
    have hE' : firstOf [netE N, if decide (0 ≤ (i : Int) ∧ (i : Int) ≤ (N.cs.length : Int) - 1) = true then 0 else 6] = 0 := hE
    have hi : i < N.cs.length := by omega
    rw [if_pos hE]
    cases hv : (N.cs.getD (i : Int).toNat cn0).valve with
    | false =>
      rw [if_neg nofun, if_neg (by decide)]
      refine sound (d := 2) tok2 mixed2 Try.func14 (by kernel_rfl) (by kernel_rfl) ?_
      conv => whnf
      refine .inl ⟨_, _, byX rfl (h87), ?_⟩
      conv => whnf
      refine ⟨inK64 (by omega) (by omega), ?_⟩
      conv => whnf
      refine .inl ⟨_, _, byX rfl (Sound1.pl (S22 _ _ _) rfl), ?_⟩
      conv => whnf
      refine .inl ⟨_, _, byX rfl (Sound1.pl (S21 _ _) rfl), ?_⟩
      conv => whnf
      refine .inl ⟨_, _, byX rfl (Sound1.pl (S19_2 _ _ _ ⟨rfl, rfl⟩) rfl), ?_⟩
      conv => whnf
      refine ifB_bne (fun w1 => ?_) (fun w1 => ?_)
      · (exfalso; omega)
      · conv => whnf
        refine ⟨⟨(by omega), (by omega)⟩, ?_⟩
        conv => whnf
        refine ifB_not ?_
        conv => whnf
        refine ifB_intro (fun w2 => ?_) (fun w2 => ?_)
        · exact absurd (hv.symm.trans w2) nofun
        · conv => whnf
          refine ⟨?_, nofun⟩
          exact ave_nilE 1 _
    | true =>
      rw [if_pos rfl, if_pos rfl]
      have h92a := S35 (setOpen N i false) (show N.ns.length ≤ 1000 by omega) (by rw [setOpen_len]; omega) (inR_setOpen hi hok.ends)
      have h92b := S35 (setOpen N i true) (show N.ns.length ≤ 1000 by omega) (by rw [setOpen_len]; omega) (inR_setOpen hi hok.ends)
      have h93a := S34 N i false hi (by omega)
      have h93b := S34 N i true hi (by omega)
      have hW1 := wetSO_len N i true
      have hW2 := wetSO_len N i false
      have hfl := fillB_len N i
      have h89 := S36 (fillB N i) (by rw [hfl]; omega)
      refine sound (d := 2) tok2 mixed2 Try.func14 (by kernel_rfl) (by kernel_rfl) ?_
      conv => whnf
      refine .inl ⟨_, _, byX rfl (h87), ?_⟩
      conv => whnf
      refine ⟨inK64 (by omega) (by omega), ?_⟩
      conv => whnf
      refine .inl ⟨_, _, byX rfl (Sound1.pl (S22 _ _ _) rfl), ?_⟩
      conv => whnf
      refine .inl ⟨_, _, byX rfl (Sound1.pl (S21 _ _) rfl), ?_⟩
      conv => whnf
      refine .inl ⟨_, _, byX rfl (Sound1.pl (S19_2 _ _ _ ⟨rfl, rfl⟩) rfl), ?_⟩
      conv => whnf
      refine ifB_bne (fun w1 => ?_) (fun w1 => ?_)
      · (exfalso; omega)
      · conv => whnf
        refine ⟨⟨(by omega), (by omega)⟩, ?_⟩
        conv => whnf
        refine ifB_not ?_
        conv => whnf
        refine ifB_intro (fun w2 => ?_) (fun w2 => ?_)
        · conv => whnf
          refine .inl ⟨_, _, byX rfl (h93a), ?_⟩
          conv => whnf
          refine .inl ⟨_, _, byX rfl (h92a), ?_⟩
          conv => whnf
          refine .inl ⟨_, _, byX rfl (h93b), ?_⟩
          conv => whnf
          refine .inl ⟨_, _, byX rfl (h92b), ?_⟩
          conv => whnf
          refine ⟨[], [8, 9, 46, 47], fun st mq => ∃ (j : Nat) (n : Nat) (y : List Bool) (F0 : Nat → List AV) (F1 : Nat → List AV) (F2 : Nat → List AV), (j ≤ N.cs.length) ∧ (n = N.cs.length) ∧ (y.length = N.cs.length) ∧ (∀ p, p < j → y.getD p false = (fillB N i).getD p false) ∧ (∀ p, j ≤ p → y.getD p false = (wetB (setOpen N i true)).getD p false) ∧ st = ⟨[(8, .oslice 3 0 0 (wetB (setOpen N i false)).length none), (9, .oslice 4 0 0 n none), (46, i64 n), (47, i64 j)], ⟨[⟨2, 1, F0, 0, false, true, false⟩, ⟨2, 1, F1, 0, false, true, false⟩, ⟨1, 2, F2, 0, false, true, false⟩, ⟨1, (wetB (setOpen N i false)).length, fun p => [vb ((wetB (setOpen N i false)).getD p false)], 0, false, true, false⟩, ⟨1, n, fun p => [vb (y.getD p false)], 0, false, true, false⟩], [], none, 0⟩, []⟩ ∧ mq = N.cs.length - j,
            ⟨_, _, ⟨0, _, wetB (setOpen N i true), _, _, _, by omega, hW1, hW1, fun j h => absurd h (Nat.not_lt_zero j), fun j _ => rfl, rfl, rfl⟩, ⟨⟨rfl, rfl, rfl, rfl⟩, ⟨⟨rfl, rfl, rfl, rfl, fun _ => rfl, fun _ _ => rfl⟩, ⟨⟨rfl, rfl, rfl, rfl, fun _ => rfl, fun _ _ => rfl⟩, ⟨⟨rfl, rfl, rfl, rfl, fun _ => rfl, fun _ _ => rfl⟩, ⟨⟨rfl, rfl, rfl, rfl, fun _ => rfl, fun _ _ => rfl⟩, ⟨⟨rfl, rfl, rfl, rfl, fun _ => rfl, fun _ _ => rfl⟩, trivial⟩⟩⟩⟩⟩, trivial⟩⟩, ?_⟩
          rintro s0 m0 ⟨j, n, y, F0, F1, F2, hj, hn1, hy, h3, h4, rfl, hmeas⟩
          by_cases hil : j < N.cs.length
          · have hF := fillB_getD N i j hil
            rw [← h4 j (Nat.le_refl j)] at hF
            conv => whnf
            conv => whnf
            refine ifB_dec (fun w3 => ?_) (fun w3 => ?_)
            · conv => whnf
              conv => whnf
              refine ⟨⟨(by omega), (by omega)⟩, ?_⟩
              conv => whnf
              conv => whnf
              refine ifB_intro (fun w4 => ?_) (fun w4 => ?_)
              · conv => whnf
                conv => whnf
                refine ⟨⟨(by omega), (by omega)⟩, ?_⟩
                conv => whnf
                conv => whnf
                refine ⟨⟨(by omega), (by omega)⟩, ?_⟩
                refine ⟨_, fun i _ => row1 _ _ i _ (by first | omega | (simp only [List.length_set]; omega) | (simp only [List.length_replicate]; omega) | (simp only [List.length_set, List.length_replicate]; omega)), ?_⟩
                conv => whnf
                conv => whnf
                refine ⟨inK64 (by omega) (by omega), ?_⟩
                have e : y.getD j false = true := by simpa using w4
                rw [e] at hF
                have hs := set_inv (v := !(wetB (setOpen N i false)).getD (0 + (j : Int).toNat) false) h3 (by omega) (by rw [hF]; simp)
                conv => whnf
                conv => whnf
                refine ⟨_, _, ⟨⟨j + 1, n, y.set (j : Int).toNat (!(wetB (setOpen N i false)).getD (0 + (j : Int).toNat) false), _, _, _, by omega, hn1, by simpa using hy, hs, fun p hp => (by rw [getD_set, if_neg (fun e => by have := e.1; simp at this; omega)]; exact h4 p (by omega)), rfl, rfl⟩, by omega⟩, ⟨⟨rfl, rfl, rfl, rfl⟩, ⟨⟨rfl, rfl, rfl, rfl, fun _ => rfl, fun _ _ => rfl⟩, ⟨⟨rfl, rfl, rfl, rfl, fun _ => rfl, fun _ _ => rfl⟩, ⟨⟨rfl, rfl, rfl, rfl, fun _ => rfl, fun _ _ => rfl⟩, ⟨⟨rfl, rfl, rfl, rfl, fun _ => rfl, fun _ _ => rfl⟩, ⟨⟨rfl, rfl, rfl, rfl, fun _ => rfl, fun _ _ => rfl⟩, trivial⟩⟩⟩⟩⟩, trivial⟩⟩
              · conv => whnf
                conv => whnf
                refine ⟨⟨(by omega), (by omega)⟩, ?_⟩
                refine ⟨_, fun i _ => row1 _ _ i _ (by first | omega | (simp only [List.length_set]; omega) | (simp only [List.length_replicate]; omega) | (simp only [List.length_set, List.length_replicate]; omega)), ?_⟩
                conv => whnf
                conv => whnf
                refine ⟨inK64 (by omega) (by omega), ?_⟩
                have e : y.getD j false = false := by simpa using w4
                rw [e] at hF
                have hs := set_inv (v := false) h3 (by omega) (by rw [hF]; rfl)
                conv => whnf
                conv => whnf
                refine ⟨_, _, ⟨⟨j + 1, n, y.set (j : Int).toNat false, _, _, _, by omega, hn1, by simpa using hy, by simpa using hs, fun p hp => (by rw [getD_set, if_neg (fun e => by have := e.1; simp at this; omega)]; exact h4 p (by omega)), rfl, rfl⟩, by omega⟩, ⟨⟨rfl, rfl, rfl, rfl⟩, ⟨⟨rfl, rfl, rfl, rfl, fun _ => rfl, fun _ _ => rfl⟩, ⟨⟨rfl, rfl, rfl, rfl, fun _ => rfl, fun _ _ => rfl⟩, ⟨⟨rfl, rfl, rfl, rfl, fun _ => rfl, fun _ _ => rfl⟩, ⟨⟨rfl, rfl, rfl, rfl, fun _ => rfl, fun _ _ => rfl⟩, ⟨⟨rfl, rfl, rfl, rfl, fun _ => rfl, fun _ _ => rfl⟩, trivial⟩⟩⟩⟩⟩, trivial⟩⟩
            · (exfalso; omega)
          · have e : j = N.cs.length := by omega
            subst e
            have e : y = fillB N i := ext_inv hy hfl h3
            subst e
            subst hn1
            rw [bools_n hfl] at h89
            conv => whnf
            conv => whnf
            refine ifB_dec (fun w3 => ?_) (fun w3 => ?_)
            · (exfalso; omega)
            · conv => whnf
              conv => whnf
              refine .inl ⟨_, _, byX rfl (h89), ?_⟩
              conv => whnf
              conv => whnf
              refine ⟨?_, nofun⟩
              exact ave_listE (k := 1) (ave_ints rfl fun _ _ => rfl)
        · exact absurd (hv.symm.trans w2) nofun
  · rw [if_neg hE, if_neg hE]
    have hE' : ¬ firstOf [netE N, if decide (0 ≤ k ∧ k ≤ (N.cs.length : Int) - 1) = true then 0 else 6] = 0 := hE
    refine sound (d := 2) tok2 mixed2 Try.func14 (by kernel_rfl) (by kernel_rfl) ?_
    conv => whnf
    refine .inl ⟨_, _, byX rfl (h87), ?_⟩
    conv => whnf
    refine ⟨inK64 (by omega) (by omega), ?_⟩
    conv => whnf
    refine .inl ⟨_, _, byX rfl (Sound1.pl (S22 _ _ _) rfl), ?_⟩
    conv => whnf
    refine .inl ⟨_, _, byX rfl (Sound1.pl (S21 _ _) rfl), ?_⟩
    conv => whnf
    refine .inl ⟨_, _, byX rfl (Sound1.pl (S19_2 _ _ _ ⟨rfl, rfl⟩) rfl), ?_⟩
    conv => whnf
    refine ifB_bne (fun w1 => ?_) (fun w1 => ?_)
    · conv => whnf
      refine ⟨?_, nofun⟩
      exact ave_nilE 1 _
    · (exfalso; omega)
end Go.Tr

/- Plain laws of chapter 2: how a tree grows; contracts of the searches. Conditions: none. -/
namespace Go.Tr
open Go Go.Proofs
set_option maxRecDepth 20000
set_option maxHeartbeats 8000000

/-- May a conduit bring a node into the tree? -/
def grows (m : List Bool) (c : Cn) : Bool := c.opn && (m.getD c.fr.toNat false != m.getD c.to.toNat false)
/-- The index of the first conduit for which something holds. -/
def fstC (p : Cn → Bool) : Nat → List Cn → Int
  | _, [] => -1
  | k, c :: r => if p c then k else fstC p (k + 1) r
theorem fstC_drop {p : Cn → Bool} {l : List Cn} {k : Nat} (h : k < l.length) : fstC p k (l.drop k) = if p (l.getD k cn0) then (k : Int) else fstC p (k + 1) (l.drop (k + 1)) := by
  rw [List.drop_eq_getElem_cons h, fstC]; simp [List.getD_eq_getElem?_getD, h]
theorem fstC_cases {p : Cn → Bool} : ∀ (l : List Cn) (k : Nat), (fstC p k l = -1 ∧ ∀ c ∈ l, p c = false) ∨ ∃ i, i < l.length ∧ fstC p k l = ((k + i : Nat) : Int) ∧ p (l.getD i cn0) = true ∧ ∀ j, j < i → p (l.getD j cn0) = false
  | [], k => .inl ⟨rfl, by simp⟩
  | c :: r, k => by
    rw [fstC]
    cases hp : p c with
    | true => exact .inr ⟨0, by simp, by simp, by simpa using hp, by simp⟩
    | false =>
      rw [if_neg (by decide)]
      rcases fstC_cases r (k + 1) with ⟨h1, h2⟩ | ⟨i, h1, h2, h3, h4⟩
      · exact .inl ⟨h1, fun x hx => by rcases List.mem_cons.1 hx with rfl | hx; exact hp; exact h2 x hx⟩
      · refine .inr ⟨i + 1, by simpa using h1, by rw [h2]; congr 1; omega, by simpa using h3, fun j hj => ?_⟩
        cases j with
        | zero => simpa using hp
        | succ j => simpa using h4 j (by omega)

/-- The node that a conduit brings in. -/
def newNode (m : List Bool) (c : Cn) : Int := if m.getD c.to.toNat false then c.fr else c.to
/-- The branches of the tree, with the nodes that are in it at the end. -/
def growF (cs : List Cn) : Nat → List Bool → List (Int × Int) → List Bool × List (Int × Int)
  | 0, m, b => (m, b)
  | n + 1, m, b => if fstC (grows m) 0 cs < 0 then (m, b) else growF cs n (m.set (newNode m (cs.getD (fstC (grows m) 0 cs).toNat cn0)).toNat true) (b ++ [(fstC (grows m) 0 cs, newNode m (cs.getD (fstC (grows m) 0 cs).toNat cn0))])

theorem newNode_out {m : List Bool} {c : Cn} (h : grows m c = true) : m.getD (newNode m c).toNat false = false := by
  unfold grows at h
  unfold newNode
  simp only [Bool.and_eq_true, bne_iff_ne, ne_eq] at h
  cases h1 : m.getD c.to.toNat false with
  | true =>
    rw [h1] at h
    simp only [if_true]
    cases h2 : m.getD c.fr.toNat false with
    | true => exact absurd h2 h.2
    | false => rfl
  | false => simpa using h1
theorem newNode_in {n : Nat} {cs : List Cn} (hr : inR n cs) {m : List Bool} {i : Nat} (hi : i < cs.length) : 0 ≤ newNode m (cs.getD i cn0) ∧ newNode m (cs.getD i cn0) < n := by
  have := hr (cs.getD i cn0) (by simp [List.getD_eq_getElem?_getD, hi])
  unfold newNode
  split <;> omega

/-- One step of growth. -/
theorem grow_step {n : Nat} {cs : List Cn} (hr : inR n cs) {m : List Bool} (hm : m.length = n) (h : ¬ fstC (grows m) 0 cs < 0) :
    ∃ i, i < cs.length ∧ fstC (grows m) 0 cs = (i : Int) ∧ grows m (cs.getD i cn0) = true ∧ 0 ≤ newNode m (cs.getD i cn0) ∧ newNode m (cs.getD i cn0) < n ∧ nF (m.set (newNode m (cs.getD i cn0)).toNat true) + 1 = nF m ∧
      ∀ (b : List (Int × Int)), growF cs (nF m) m b = growF cs (nF (m.set (newNode m (cs.getD i cn0)).toNat true)) (m.set (newNode m (cs.getD i cn0)).toNat true) (b ++ [((i : Int), newNode m (cs.getD i cn0))]) := by
  rcases fstC_cases (p := grows m) cs 0 with ⟨e, _⟩ | ⟨i, h1, h2, h3, h4⟩
  · rw [e] at h; omega
  · have h2' : fstC (grows m) 0 cs = (i : Int) := by rw [h2]; simp
    have hn := newNode_in hr (m := m) h1
    have hc := nF_set (newNode_out h3) (by omega)
    refine ⟨i, h1, h2', h3, hn.1, hn.2, hc, fun b => ?_⟩
    rw [← hc, growF, if_neg h, h2']
    rfl
theorem grow_end {cs : List Cn} {m : List Bool} (h : fstC (grows m) 0 cs < 0) (n : Nat) (b : List (Int × Int)) : growF cs n m b = (m, b) := by
  cases n with
  | zero => rfl
  | succ n => rw [growF, if_pos h]

/-- The tree of a net: who is in it, and its branches. -/
def treeF (N : Net) : List Bool × List (Int × Int) := growF N.cs (nF (lakesB N)) (lakesB N) []

theorem S62 (c : Cn) (m : List Bool) (n : Nat) (hm : m.length = n) (h1 : 0 ≤ c.fr ∧ c.fr < n) (h2 : 0 ≤ c.to ∧ c.to < n) : SP 62 [.agg (cnC c), .rptr [bools m]] (vb (grows m c)) false := by
  unfold grows
  subst hm
  refine sound (d := 2) tok2 mixed2 Try.func62 (by kernel_rfl) (by kernel_rfl) ?_
  conv => whnf
  refine ⟨[], by kernel_rfl, ?_⟩
  conv => whnf
  refine ifB_intro (fun w1 => ?_) (fun w1 => ?_)
  · conv => whnf
    refine ⟨⟨(by omega), (by omega)⟩, ?_⟩
    conv => whnf
    refine ⟨⟨(by omega), (by omega)⟩, ?_⟩
    conv => whnf
    refine ⟨?_, nofun⟩
    have e : c.opn = true := w1
    have e2 : vb (!(m.getD c.fr.toNat false == m.getD c.to.toNat false)) = vb (c.opn && (m.getD c.fr.toNat false != m.getD c.to.toNat false)) := by rw [e]; rfl
    exact e2
  · conv => whnf
    refine ⟨?_, nofun⟩
    have e : c.opn = false := w1
    show vb false = vb _
    rw [e]; rfl

theorem S61 (g : FuncId) (l : List Cn) (m : List Bool) (p : Cn → Bool) (hl : l.length ≤ 1000) (hp : ∀ c ∈ l, SP g [.agg (cnC c), .rptr [bools m]] (vb (p c)) true) : SP 61 [listA 6 cnC cn0 l, .func (.func g) 0 [.rptr [bools m]]] (i64 (fstC p 0 l)) false := by
  generalize hR : fstC p 0 l = R
  refine sound (d := 2) tok2 mixed2 Try.func61 (by kernel_rfl) (by kernel_rfl) ?_
  conv => whnf
  refine ⟨[], [0, 1, 7, 8], fun st mq => ∃ (k : Nat), (k ≤ l.length) ∧ (fstC p k (l.drop k) = R) ∧ st = ⟨[(0, listA 6 cnC cn0 l), (1, .func (.func g) 0 [.rptr [bools m]]), (7, i64 l.length), (8, i64 k)], ⟨[], [], none, 0⟩, []⟩ ∧ mq = l.length - k,
    ⟨_, _, ⟨0, by omega, hR, rfl, rfl⟩, ⟨⟨rfl, rfl, rfl, rfl⟩, trivial, trivial⟩⟩, ?_⟩
  rintro s0 m0 ⟨k, hk, h1, rfl, hmeas⟩
  by_cases hkl : k < l.length
  · rw [fstC_drop hkl] at h1
    have hq := hp (l.getD (k : Int).toNat cn0) (by simp [List.getD_eq_getElem?_getD, hkl])
    conv => whnf
    conv => whnf
    refine ifB_dec (fun w1 => ?_) (fun w1 => ?_)
    · conv => whnf
      conv => whnf
      refine ⟨⟨(by omega), (by omega)⟩, ?_⟩
      conv => whnf
      conv => whnf
      refine .inl ⟨_, _, byX rfl (hq), ?_⟩
      conv => whnf
      conv => whnf
      refine ifB_intro (fun w2 => ?_) (fun w2 => ?_)
      · conv => whnf
        conv => whnf
        refine ⟨?_, nofun⟩
        have e : p (l.getD k cn0) = true := w2
        rw [if_pos e] at h1
        show i64 _ = i64 _
        rw [← h1]
      · conv => whnf
        conv => whnf
        refine ⟨inK64 (by omega) (by omega), ?_⟩
        have e : p (l.getD k cn0) = false := w2
        rw [e] at h1
        conv => whnf
        conv => whnf
        refine ⟨_, _, ⟨⟨k + 1, by omega, h1, rfl, rfl⟩, by omega⟩, ⟨⟨rfl, rfl, rfl, rfl⟩, trivial, trivial⟩⟩
    · (exfalso; omega)
  · have e : k = l.length := by omega
    subst e
    rw [List.drop_length] at h1
    conv => whnf
    conv => whnf
    refine ifB_dec (fun w1 => ?_) (fun w1 => ?_)
    · (exfalso; omega)
    · conv => whnf
      conv => whnf
      refine ⟨?_, nofun⟩
      show i64 _ = i64 _
      rw [← h1]; rfl

/-- The index of a truth value. -/
def idxB (v : Bool) : Nat → List Bool → Int
  | _, [] => -1
  | k, b :: r => if v = b then k else idxB v (k + 1) r
theorem idxB_drop {v : Bool} {l : List Bool} {k : Nat} (h : k < l.length) : idxB v k (l.drop k) = if v = l.getD k false then (k : Int) else idxB v (k + 1) (l.drop (k + 1)) := by
  rw [List.drop_eq_getElem_cons h, idxB]; simp [List.getD_eq_getElem?_getD, h]
theorem idxB_has (v : Bool) : ∀ (l : List Bool) (k : Nat), decide (idxB v k l ≥ 0) = l.contains v
  | [], k => rfl
  | b :: r, k => by
    rw [idxB, List.contains_cons]
    by_cases h : v = b
    · subst h; simp
    · rw [if_neg h, idxB_has v r (k + 1)]
      cases hv : (v == b) with
      | true => exact absurd (eq_of_beq hv) h
      | false => rfl
theorem S65 (l : List Bool) (v : Bool) (hl : l.length ≤ 1000) : SP 65 [bools l, vb v] (i64 (idxB v 0 l)) false := by
  generalize hR : idxB v 0 l = R
  refine sound (d := 2) tok2 mixed2 Try.func65 (by kernel_rfl) (by kernel_rfl) ?_
  conv => whnf
  refine ⟨[], [0, 1, 7, 8], fun st mq => ∃ (k : Nat), (k ≤ l.length) ∧ (idxB v k (l.drop k) = R) ∧ st = ⟨[(0, bools l), (1, vb v), (7, i64 l.length), (8, i64 k)], ⟨[], [], none, 0⟩, []⟩ ∧ mq = l.length - k,
    ⟨_, _, ⟨0, by omega, hR, rfl, rfl⟩, ⟨⟨rfl, rfl, rfl, rfl⟩, trivial, trivial⟩⟩, ?_⟩
  rintro s0 m0 ⟨k, hk, h1, rfl, hmeas⟩
  by_cases hkl : k < l.length
  · rw [idxB_drop hkl] at h1
    conv => whnf
    conv => whnf
    refine ifB_dec (fun w1 => ?_) (fun w1 => ?_)
    · conv => whnf
      conv => whnf
      refine ⟨⟨(by omega), (by omega)⟩, ?_⟩
      conv => whnf
      conv => whnf
      refine ifB_beqB (fun w2 => ?_) (fun w2 => ?_)
      · conv => whnf
        conv => whnf
        refine ⟨?_, nofun⟩
        have e : v = l.getD k false := w2
        rw [if_pos e] at h1
        show i64 _ = i64 _
        rw [← h1]
      · conv => whnf
        conv => whnf
        refine ⟨inK64 (by omega) (by omega), ?_⟩
        have e : ¬ v = l.getD k false := w2
        rw [if_neg e] at h1
        conv => whnf
        conv => whnf
        refine ⟨_, _, ⟨⟨k + 1, by omega, h1, rfl, rfl⟩, by omega⟩, ⟨⟨rfl, rfl, rfl, rfl⟩, trivial, trivial⟩⟩
    · (exfalso; omega)
  · have e : k = l.length := by omega
    subst e
    rw [List.drop_length] at h1
    conv => whnf
    conv => whnf
    refine ifB_dec (fun w1 => ?_) (fun w1 => ?_)
    · (exfalso; omega)
    · conv => whnf
      conv => whnf
      refine ⟨?_, nofun⟩
      show i64 _ = i64 _
      rw [← h1]; rfl
theorem S63 (l : List Bool) (v : Bool) (hl : l.length ≤ 1000) : SP 63 [bools l, vb v] (vb (l.contains v)) false := by
  have h162 := S65 l v hl
  refine sound (d := 2) tok2 mixed2 Try.func63 (by kernel_rfl) (by kernel_rfl) ?_
  conv => whnf
  refine .inl ⟨_, _, byX rfl (Sound1.pl (h162) rfl), ?_⟩
  conv => whnf
  refine ⟨?_, nofun⟩
  show vb _ = vb _
  rw [idxB_has]

/-- Branches as rows; a tree as a value. -/
def brC (b : Int × Int) : List AV := [i64 b.1, i64 b.2]
def brA (l : List (Int × Int)) : AV := listA 2 brC (0, 0) l
def treeA (N : Net) (b : List (Int × Int)) (c : Int) : AV := .agg [listA 4 ndC nd0 N.ns, listA 6 cnC cn0 N.cs, brA b, i64 c]
theorem ave_tup2 {k : Nat} {a b a' b' : AV} (ha : AVE k a a') (hb : AVE k b b') : AVE (k + 1) (.tuple [a, b]) (.tuple [a', b']) := by
  refine ⟨rfl, fun i x y h1 h2 => ?_⟩
  match i, h1, h2 with
  | 0, h1, h2 => cases h1; cases h2; exact ha
  | 1, h1, h2 => cases h1; cases h2; exact hb
theorem ave_tup3 {k : Nat} {a b c a' b' c' : AV} (ha : AVE k a a') (hb : AVE k b b') (hc : AVE k c c') : AVE (k + 1) (.tuple [a, b, c]) (.tuple [a', b', c']) := by
  refine ⟨rfl, fun i x y h1 h2 => ?_⟩
  match i, h1, h2 with
  | 0, h1, h2 => cases h1; cases h2; exact ha
  | 1, h1, h2 => cases h1; cases h2; exact hb
  | 2, h1, h2 => cases h1; cases h2; exact hc
theorem ave_agg4 {k : Nat} {a b c d a' b' c' d' : AV} (ha : AVE k a a') (hb : AVE k b b') (hc : AVE k c c') (hd : AVE k d d') : AVE (k + 1) (.agg [a, b, c, d]) (.agg [a', b', c', d']) := by
  refine ⟨rfl, fun i x y h1 h2 => ?_⟩
  match i, h1, h2 with
  | 0, h1, h2 => cases h1; cases h2; exact ha
  | 1, h1, h2 => cases h1; cases h2; exact hb
  | 2, h1, h2 => cases h1; cases h2; exact hc
  | 3, h1, h2 => cases h1; cases h2; exact hd
theorem app_rowR {acc : List (Int × Int)} {n : Nat} (hn : acc.length = n) (x : Int × Int) (i : Nat) (h : i < n + 1) : brC ((acc ++ [x]).getD i (0, 0)) = if i < n then brC (acc.getD (0 + i) (0, 0)) else List.take 2 (List.drop ((i - n) * 2) (brC x)) := by
  subst hn
  rw [Nat.zero_add]
  by_cases hi : i < acc.length
  · rw [if_pos hi]; simp [List.getD_eq_getElem?_getD, hi, List.getElem?_append_left hi]
  · have : i = acc.length := by omega
    subst this
    rw [if_neg hi]; simp [List.getD_eq_getElem?_getD, brC]

theorem S55 (N : Net) (hn : N.ns.length ≤ 1000) (hc : N.cs.length ≤ 1000) (hr : inR N.ns.length N.cs) : SP 55 [netV N] (.tuple [treeA N (treeF N).2 (-1), i64 (if (treeF N).1.contains false then 14 else 0)]) false := by
  have h135 := S52 N hn
  have hw : ∀ x ∈ whereF 0 (lakesB N), 0 ≤ x ∧ x < N.ns.length := fun x hx => by
    have := whereF_mem hx
    rw [lakesB_len] at this
    omega
  have hwl := whereF_len (lakesB N) 0
  rw [lakesB_len] at hwl
  have hm := marks_where (lakesB N)
  rw [lakesB_len] at hm
  generalize hR : treeF N = R
  unfold treeF at hR
  refine sound (d := 2) tok2 mixed2 Try.func55 (by kernel_rfl) (by kernel_rfl) ?_
  conv => whnf
  refine ⟨⟨(by omega), ⟨(by omega), ⟨(by omega), (by show _ * ((1 : Nat) : Int) ≤ _; omega)⟩⟩⟩, ?_⟩
  conv => whnf
  refine .inl ⟨_, _, byX rfl (h135), ?_⟩
  conv => whnf
  refine ⟨[], [1, 2, 4, 5, 19, 20, 21], fun st mq => ∃ (k : Nat) (x : List Bool), (k ≤ (whereF 0 (lakesB N)).length) ∧ (x.length = N.ns.length) ∧ (((whereF 0 (lakesB N)).drop k).foldl (fun m k => m.set k.toNat true) x = lakesB N) ∧ st = ⟨[(1, .optr 0 0 0 0), (2, .optr 1 0 0 0), (4, .optr 2 0 0 0), (5, .optr 4 0 0 0), (19, ints (whereF 0 (lakesB N))), (20, i64 (whereF 0 (lakesB N)).length), (21, i64 k)], ⟨[netBlk N, ⟨4, 1, fun _ => [.eslice, .eslice, .eslice, i64 0], 0, false, true, true⟩, ⟨4, 1, fun _ => [listA 4 ndC nd0 N.ns, listA 6 cnC cn0 N.cs, .eslice, i64 (-1)], 0, false, true, true⟩, ⟨1, N.ns.length, fun i => [vb (x.getD i false)], 0, false, true, false⟩, ⟨1, 1, fun _ => [.oslice 3 0 0 N.ns.length (some N.ns.length)], 0, false, false, true⟩], [], none, 0⟩, []⟩ ∧ mq = (whereF 0 (lakesB N)).length - k,
    ⟨_, _, ⟨0, List.replicate N.ns.length false, by omega, by simp, hm, rfl, rfl⟩, ⟨⟨rfl, rfl, rfl, rfl⟩, ⟨⟨rfl, rfl, rfl, rfl, fun _ => rfl, fun _ _ => rfl⟩, ⟨⟨rfl, rfl, rfl, rfl, fun _ => rfl, fun _ _ => rfl⟩, ⟨⟨rfl, rfl, rfl, rfl, fun _ => rfl, fun _ _ => rfl⟩, ⟨⟨rfl, rfl, rfl, rfl, fun _ => rfl, fun i _ => rep_row _ i⟩, ⟨⟨rfl, rfl, rfl, rfl, nofun, fun _ _ => rfl⟩, trivial⟩⟩⟩⟩⟩, trivial⟩⟩, ?_⟩
  rintro s0 m0 ⟨k, x, hk, hx, h1, rfl, hmeas⟩
  by_cases hkl : k < (whereF 0 (lakesB N)).length
  · have hq := hw ((whereF 0 (lakesB N)).getD (k : Int).toNat 0) (by simp [List.getD_eq_getElem?_getD, hkl])
    have e := List.drop_eq_getElem_cons (l := whereF 0 (lakesB N)) (i := k) hkl
    have e2 : (whereF 0 (lakesB N)).getD (k : Int).toNat 0 = (whereF 0 (lakesB N))[k] := by simp [List.getD_eq_getElem?_getD, hkl]
    rw [e, List.foldl_cons, ← e2] at h1
    conv => whnf
    conv => whnf
    refine ifB_dec (fun w1 => ?_) (fun w1 => ?_)
    · conv => whnf
      conv => whnf
      refine ⟨⟨(by omega), (by omega)⟩, ?_⟩
      conv => whnf
      conv => whnf
      refine ⟨⟨(by omega), (by omega)⟩, ?_⟩
      refine ⟨_, fun i _ => row1 _ _ i _ (by first | omega | (simp only [List.length_set]; omega) | (simp only [List.length_replicate]; omega) | (simp only [List.length_set, List.length_replicate]; omega)), ?_⟩
      conv => whnf
      conv => whnf
      refine ⟨inK64 (by omega) (by omega), ?_⟩
      conv => whnf
      conv => whnf
      refine ⟨_, _, ⟨⟨k + 1, _, by omega, by (rw [List.length_set]; exact hx), h1, rfl, rfl⟩, by omega⟩, ⟨⟨rfl, rfl, rfl, rfl⟩, ⟨⟨rfl, rfl, rfl, rfl, fun _ => rfl, fun _ _ => rfl⟩, ⟨⟨rfl, rfl, rfl, rfl, fun _ => rfl, fun _ _ => rfl⟩, ⟨⟨rfl, rfl, rfl, rfl, fun _ => rfl, fun _ _ => rfl⟩, ⟨⟨rfl, rfl, rfl, rfl, fun _ => rfl, fun _ _ => rfl⟩, ⟨⟨rfl, rfl, rfl, rfl, nofun, fun _ _ => rfl⟩, trivial⟩⟩⟩⟩⟩, trivial⟩⟩
    · (exfalso; omega)
  · have e : k = (whereF 0 (lakesB N)).length := by omega
    subst e
    rw [List.drop_length, List.foldl_nil] at h1
    subst h1
    conv => whnf
    conv => whnf
    refine ifB_dec (fun w1 => ?_) (fun w1 => ?_)
    · (exfalso; omega)
    · clear hk hkl hmeas w1
      have hF := nF_le (lakesB N)
      conv => whnf
      conv => whnf
      refine ⟨[.cell 2 2 2], [1, 2, 4, 5], fun st mq => ∃ (x : List Bool) (n : Nat) (b : List (Int × Int)), (x.length = N.ns.length) ∧ (b.length = n) ∧ (n + nF x ≤ N.ns.length) ∧ (growF N.cs (nF x) x b = R) ∧ st = ⟨[(1, .optr 0 0 0 0), (2, .optr 1 0 0 0), (4, .optr 2 0 0 0), (5, .optr 4 0 0 0)], ⟨[netBlk N, ⟨4, 1, fun _ => [.eslice, .eslice, .eslice, i64 0], 0, false, true, true⟩, ⟨4, 1, fun _ => [listA 4 ndC nd0 N.ns, listA 6 cnC cn0 N.cs, .oslice 5 0 0 n none, i64 (-1)], 0, false, false, true⟩, ⟨1, N.ns.length, fun i => [vb (x.getD i false)], 0, false, true, false⟩, ⟨1, 1, fun _ => [.oslice 3 0 0 N.ns.length (some N.ns.length)], 0, false, false, true⟩, ⟨2, n, fun i => brC (b.getD i (0, 0)), 0, false, true, false⟩], [], none, 0⟩, []⟩ ∧ mq = nF x,
        ⟨_, _, ⟨lakesB N, 0, [], hx, rfl, by omega, hR, rfl, rfl⟩, ⟨⟨rfl, rfl, rfl, rfl⟩, ⟨⟨rfl, rfl, rfl, rfl, fun _ => rfl, fun _ _ => rfl⟩, ⟨⟨rfl, rfl, rfl, rfl, fun _ => rfl, fun _ _ => rfl⟩, ⟨⟨rfl, rfl, rfl, rfl, nofun, fun _ _ => rfl⟩, ⟨⟨rfl, rfl, rfl, rfl, fun _ => rfl, fun _ _ => rfl⟩, ⟨⟨rfl, rfl, rfl, rfl, nofun, fun _ _ => rfl⟩, ⟨⟨rfl, rfl, rfl, rfl, fun _ => rfl, fun i h => absurd h (Nat.not_lt_zero i)⟩, trivial⟩⟩⟩⟩⟩⟩, trivial⟩⟩, ?_⟩
      rintro s0 m0 ⟨x, n, b, hx, hb, hn1, h1, rfl, hmeas⟩
      have h158 := S61 62 N.cs x (grows x) hc (fun c hcm => (S62 c x N.ns.length hx (by have := hr c hcm; omega) (by have := hr c hcm; omega)).pl rfl)
      have h160 := S63 x false (by omega)
      rw [bools_n hx] at h158 h160
      by_cases hlt : fstC (grows x) 0 N.cs < 0
      · rw [grow_end hlt] at h1
        subst h1
        conv => whnf
        conv => whnf
        conv => whnf
        refine .inl ⟨_, _, byX rfl (Sound1.pl (h158) rfl), ?_⟩
        conv => whnf
        conv => whnf
        conv => whnf
        refine ifB_dec (fun w1 => ?_) (fun w1 => ?_)
        · conv => whnf
          conv => whnf
          conv => whnf
          refine ⟨[], by kernel_rfl, ?_⟩
          conv => whnf
          conv => whnf
          conv => whnf
          refine .inl ⟨_, _, byX rfl (Sound1.pl (h160) rfl), ?_⟩
          conv => whnf
          conv => whnf
          conv => whnf
          refine .inl ⟨_, _, byX rfl (Sound1.pl (S21 _ _) rfl), ?_⟩
          conv => whnf
          conv => whnf
          conv => whnf
          refine ⟨?_, nofun⟩
          refine ave_tup2 (k := 4) (ave_agg4 (k := 3) (a := .rslice 4 N.ns.length _) (b := .rslice 6 N.cs.length _) (c := .rslice 2 n _) (d := i64 (-1)) ⟨rfl, rfl, fun _ _ => rfl⟩ ⟨rfl, rfl, fun _ _ => rfl⟩ ⟨rfl, hb.symm, fun _ _ => rfl⟩ rfl) ?_
          show i64 (if (!x.contains false) = true then 0 else 14) = i64 (if x.contains false = true then 14 else 0)
          cases x.contains false <;> rfl
        · (exfalso; omega)
      · obtain ⟨i, hi, e1, e2, e3, e4, e5, e6⟩ := grow_step hr hx hlt
        rw [e1] at h158
        rw [e6] at h1
        clear e6
        unfold newNode at e3 e4 e5 h1
        have hq := hr (N.cs.getD (i : Int).toNat cn0) (by simp [List.getD_eq_getElem?_getD, hi])
        conv => whnf
        conv => whnf
        conv => whnf
        refine .inl ⟨_, _, byX rfl (Sound1.pl (h158) rfl), ?_⟩
        conv => whnf
        conv => whnf
        conv => whnf
        refine ⟨⟨(by omega), (by omega)⟩, ?_⟩
        conv => whnf
        conv => whnf
        conv => whnf
        refine ⟨⟨(by omega), (by omega)⟩, ?_⟩
        conv => whnf
        conv => whnf
        conv => whnf
        refine ifB_intro (fun w1 => ?_) (fun w1 => ?_)
        · conv => whnf
          conv => whnf
          conv => whnf
          refine ⟨⟨(by omega), (by omega)⟩, ?_⟩
          refine ⟨_, fun i _ => row1 _ _ i _ (by first | omega | (simp only [List.length_set]; omega) | (simp only [List.length_replicate]; omega) | (simp only [List.length_set, List.length_replicate]; omega)), ?_⟩
          conv => whnf
          conv => whnf
          conv => whnf
          refine ⟨(by show _ * (16 + 1) ≤ _; omega), ?_⟩
          have e : x.getD (N.cs.getD i cn0).to.toNat false = true := by simpa using w1
          rw [if_pos e] at e3 e4 e5 h1
          conv => whnf
          conv => whnf
          conv => whnf
          refine ⟨_, _, ⟨⟨x.set (N.cs.getD (i : Int).toNat cn0).fr.toNat true, n + 1, b ++ [((i : Int), (N.cs.getD (i : Int).toNat cn0).fr)], by simpa using hx, by simpa using hb, (by show n + 1 + nF (x.set (N.cs.getD i cn0).fr.toNat true) ≤ _; omega), h1, rfl, rfl⟩, (by show nF (x.set (N.cs.getD i cn0).fr.toNat true) < _; omega)⟩, ⟨⟨rfl, rfl, rfl, rfl⟩, ⟨⟨rfl, rfl, rfl, rfl, fun _ => rfl, fun _ _ => rfl⟩, ⟨⟨rfl, rfl, rfl, rfl, fun _ => rfl, fun _ _ => rfl⟩, ⟨⟨rfl, rfl, rfl, rfl, nofun, fun _ _ => rfl⟩, ⟨⟨rfl, rfl, rfl, rfl, fun _ => rfl, fun _ _ => rfl⟩, ⟨⟨rfl, rfl, rfl, rfl, nofun, fun _ _ => rfl⟩, ⟨⟨rfl, rfl, rfl, rfl, fun _ => rfl, fun j h => app_rowR hb _ j h⟩, trivial⟩⟩⟩⟩⟩⟩, trivial⟩⟩
        · conv => whnf
          conv => whnf
          conv => whnf
          refine ⟨⟨(by omega), (by omega)⟩, ?_⟩
          refine ⟨_, fun i _ => row1 _ _ i _ (by first | omega | (simp only [List.length_set]; omega) | (simp only [List.length_replicate]; omega) | (simp only [List.length_set, List.length_replicate]; omega)), ?_⟩
          conv => whnf
          conv => whnf
          conv => whnf
          refine ⟨(by show _ * (16 + 1) ≤ _; omega), ?_⟩
          have e : ¬ x.getD (N.cs.getD i cn0).to.toNat false = true := by simpa using w1
          rw [if_neg e] at e3 e4 e5 h1
          conv => whnf
          conv => whnf
          conv => whnf
          refine ⟨_, _, ⟨⟨x.set (N.cs.getD (i : Int).toNat cn0).to.toNat true, n + 1, b ++ [((i : Int), (N.cs.getD (i : Int).toNat cn0).to)], by simpa using hx, by simpa using hb, (by show n + 1 + nF (x.set (N.cs.getD i cn0).to.toNat true) ≤ _; omega), h1, rfl, rfl⟩, (by show nF (x.set (N.cs.getD i cn0).to.toNat true) < _; omega)⟩, ⟨⟨rfl, rfl, rfl, rfl⟩, ⟨⟨rfl, rfl, rfl, rfl, fun _ => rfl, fun _ _ => rfl⟩, ⟨⟨rfl, rfl, rfl, rfl, fun _ => rfl, fun _ _ => rfl⟩, ⟨⟨rfl, rfl, rfl, rfl, nofun, fun _ _ => rfl⟩, ⟨⟨rfl, rfl, rfl, rfl, fun _ => rfl, fun _ _ => rfl⟩, ⟨⟨rfl, rfl, rfl, rfl, nofun, fun _ _ => rfl⟩, ⟨⟨rfl, rfl, rfl, rfl, fun _ => rfl, fun j h => app_rowR hb _ j h⟩, trivial⟩⟩⟩⟩⟩⟩, trivial⟩⟩
end Go.Tr

/- Contracts of chapter 2: the tree of the reference; the closing conduit. Conditions: none. -/
namespace Go.Tr
open Go Go.Proofs
set_option maxRecDepth 20000
set_option maxHeartbeats 8000000

theorem count_take_succ {l : List Bool} {k : Nat} (h : k < l.length) : nF (l.take (k + 1)) = nF (l.take k) + (if l.getD k false then 0 else 1) := by
  have e : l.getD k false = l[k] := by simp [List.getD_eq_getElem?_getD, h]
  unfold nF
  rw [List.take_succ_eq_append_getElem h, List.count_append, e]
  cases l[k] <;> simp

theorem app_rowM1 {acc : List (Int × Int)} {n : Nat} (hn : acc.length = n) (x : Int × Int) (i : Nat) (h : i < n + 1) : [i64 (((acc ++ [x]).map (·.1)).getD i 0)] = if i < n then [i64 ((acc.map (·.1)).getD (0 + i) 0)] else List.take 1 (List.drop ((i - n) * 1) [i64 x.1]) := by
  rw [List.map_append]
  exact app_row (by simpa using hn) x.1 i h
theorem app_rowM2 {acc : List (Int × Int)} {n : Nat} (hn : acc.length = n) (x : Int × Int) (i : Nat) (h : i < n + 1) : [i64 (((acc ++ [x]).map (·.2)).getD i 0)] = if i < n then [i64 ((acc.map (·.2)).getD (0 + i) 0)] else List.take 1 (List.drop ((i - n) * 1) [i64 x.2]) := by
  rw [List.map_append]
  exact app_row (by simpa using hn) x.2 i h
end Go.Tr
