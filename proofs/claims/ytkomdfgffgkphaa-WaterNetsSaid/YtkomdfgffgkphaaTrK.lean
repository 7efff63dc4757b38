/- Operations that write: stores and appends. Conditions: none. -/
import Derived.Test.YtkomdfgffgkphaaTrJ
namespace Go.Tr
open Go Go.RowKit

section
variable {P : Program} {T : Nat → Option TI} {w w' : World} {c c' : Cx} {base : Nat} {hp hp' : Hp}

/-- What an operation that writes leaves. -/
structure EOut (P : Program) (base : Nat) (w : World) (c : Cx) (hp : Hp) (w' : World) (c' : Cx) (hp' : Hp) : Prop where
  hr : HR P base w' c' hp'
  ext : Ext base w c w' c'
  ro : RO c' hp'
  blen : hp'.blocks.length = hp.blocks.length
  mlen : hp'.maps.length = hp.maps.length
  oNew : ∀ b oi, c'.O b = some oi → ∃ oi', c.O b = some oi'
  nNew : ∀ b r, c'.N b = some r → ∃ r', c.N b = some r'
  pE : ∀ b, c'.p b → c.p b
  yE : c'.y = c.y

theorem set_get {l : List AB} {b i : Nat} {k' x : AB} (h : (setNth l b k')[i]? = some x) : (i = b ∧ x = k') ∨ (i ≠ b ∧ l[i]? = some x) := by
  rw [setNth_eq, List.getElem?_set] at h
  split at h
  · rename_i hb
    split at h
    · exact .inl ⟨hb.symm, (Option.some.inj h).symm⟩
    · cases h
  · rename_i hb; exact .inr ⟨fun e => hb e.symm, h⟩

theorem set_block (h : HR P base w c hp) (ro : RO c hp) {b : Nat} {k k' : AB} {oi oi' : OI} (hk : hp.blocks[b]? = some k) (hO : c.O b = some oi) (hro : k.ro = false) (hbase : base ≤ w.heap.size)
    (hos : w'.os = w.os) (htape : w'.tape = w.tape) (hout : w'.output = w.output) (hsz : w.heap.size ≤ w'.heap.size)
    (hw : ∀ q, q < w.heap.size → q ≠ oi.blk ∨ oi.cap = 0 → w'.heap[q]? = w.heap[q]?)
    (hblk : oi'.cap ≠ 0 → (oi'.blk = oi.blk ∧ oi.cap ≠ 0) ∨ (w.heap.size ≤ oi'.blk ∧ oi'.blk < w'.heap.size))
    (hver : oi.ver ≤ oi'.ver ∧ (oi'.ver = oi.ver → oi' = oi)) (hro' : k'.ro = false)
    (hBR : Ext base w c w' (c.addO b oi') → BR P w' (c.addO b oi') k' oi') : EOut P base w c hp w' (c.addO b oi') (hp.setB b k') := by
  have hnp : oi.cap ≠ 0 → ¬ c.p oi.blk := fun hc hp' => by
    obtain ⟨k2, hk2, hr2⟩ := ro.b b oi hO hc hp'
    rw [hk] at hk2; cases hk2; rw [hro] at hr2; cases hr2
  have hB0 := h.blk b k oi hk hO
  have hkeep : ∀ q, c.p q → w'.heap[q]? = w.heap[q]? := fun q hq => hw q (h.st q hq) (by
    by_cases hc : oi.cap = 0
    · exact .inr hc
    · exact .inl fun e => hnp hc (e ▸ hq))
  have hcase : ∀ b2 o2, (c.addO b oi').O b2 = some o2 → (b2 = b ∧ o2 = oi') ∨ (b2 ≠ b ∧ c.O b2 = some o2) := fun b2 o2 hb => by
    simp only [Cx.addO] at hb
    by_cases hbn : b2 = b
    · rw [if_pos hbn] at hb; exact .inl ⟨hbn, (Option.some.inj hb).symm⟩
    · rw [if_neg hbn] at hb; exact .inr ⟨hbn, hb⟩
  have hbel : Below base w w' := ⟨hos, htape, hout, hsz, fun q hq => hw q (by omega) (by
    by_cases hc : oi.cap = 0
    · exact .inr hc
    · exact .inl (by have := h.own b oi hO hc; omega))⟩
  have e : Ext base w c w' (c.addO b oi') := ⟨hbel, fun _ h => h, hkeep, fun b2 o2 hb => by
    by_cases hbn : b2 = b
    · subst hbn
      rw [hO] at hb; cases hb
      exact ⟨oi', addO_self _ _ _, hver.1, hver.2⟩
    · exact ⟨o2, by simp only [Cx.addO]; rw [if_neg hbn]; exact hb, Nat.le_refl _, fun _ => rfl⟩, fun _ _ h => h, fun _ _ h => h⟩
  have hother : ∀ b2 o2, b2 ≠ b → c.O b2 = some o2 → o2.cap ≠ 0 → w'.heap[o2.blk]? = w.heap[o2.blk]? := fun b2 o2 hne hO2 hc2 => hw _ (h.own b2 o2 hO2 hc2).2 (by
    rcases h.sep b2 b o2 oi hO2 hO hne with h1 | h1 | h1
    · exact .inl h1
    · exact absurd h1 hc2
    · exact .inr h1)
  have hmap : ∀ b2 r m, hp.maps[b2]? = some m → c.N b2 = some r → w'.heap[r]? = w.heap[r]? := fun b2 r m hm hN => hw r (h.mown b2 r hN).2 (by
    by_cases hc : oi.cap = 0
    · exact .inr hc
    · refine .inl fun er => ?_
      obtain ⟨cs, t, hrow, _⟩ := hB0.row hc
      obtain ⟨es, clock, hmm, _⟩ := (h.maps b2 m r hm hN).ex
      rw [er, hrow] at hmm; cases hmm)
  refine ⟨⟨fun b2 k2 o2 hk2 hO2 => ?_, fun b2 b3 o2 o3 h2 h3 hne => ?_, fun b2 o2 hO2 hc => ?_, fun q hq => by have := h.st q hq; omega, fun b2 m r hm hN => (h.maps b2 m r hm hN).mono e (hmap b2 r m hm hN), fun b2 r hN => by have := h.mown b2 r hN; omega, h.msep, fun b2 i o2 r hO2 hc hN => ?_⟩, e,
    ⟨fun b2 o2 hO2 hc hpp => ?_, fun b2 r hN hpp => ro.m b2 r hN hpp⟩, by simp [Hp.setB, setNth_eq], rfl, fun b2 o2 hO2 => ?_, fun b2 r hN => ⟨r, hN⟩, fun _ h => h, rfl⟩
  · rcases hcase b2 o2 hO2 with ⟨rfl, rfl⟩ | ⟨hne, hO2'⟩
    · rcases set_get hk2 with ⟨_, rfl⟩ | ⟨hne, _⟩
      · exact hBR e
      · exact absurd rfl hne
    · rcases set_get hk2 with ⟨he, _⟩ | ⟨_, hk2'⟩
      · exact absurd he hne
      · exact (h.blk b2 k2 o2 hk2' hO2').mono e (hother b2 o2 hne hO2')
  · have key : ∀ b4 o4, b4 ≠ b → c.O b4 = some o4 → oi'.blk ≠ o4.blk ∨ oi'.cap = 0 ∨ o4.cap = 0 := fun b4 o4 hne4 hO4 => by
      by_cases hc : oi'.cap = 0
      · exact .inr (.inl hc)
      · by_cases hc4 : o4.cap = 0
        · exact .inr (.inr hc4)
        · rcases hblk hc with ⟨he, hc0⟩ | ⟨hge, _⟩
          · rcases h.sep b b4 oi o4 hO hO4 (fun e => hne4 e.symm) with h1 | h1 | h1
            · exact .inl (by rw [he]; exact h1)
            · exact absurd h1 hc0
            · exact absurd h1 hc4
          · have := h.own b4 o4 hO4 hc4; exact .inl (by omega)
    rcases hcase b2 o2 h2 with ⟨rfl, rfl⟩ | ⟨hne1, hO1⟩ <;> rcases hcase b3 o3 h3 with ⟨rfl, rfl⟩ | ⟨hne2, hO2⟩
    · exact absurd rfl hne
    · exact key b3 o3 hne2 hO2
    · rcases key b2 o2 hne1 hO1 with h | h | h
      · exact .inl (fun e => h e.symm)
      · exact .inr (.inr h)
      · exact .inr (.inl h)
    · exact h.sep b2 b3 o2 o3 hO1 hO2 hne
  · rcases hcase b2 o2 hO2 with ⟨rfl, rfl⟩ | ⟨_, hO2'⟩
    · rcases hblk hc with ⟨he, hc0⟩ | ⟨hge, hlt⟩
      · have := h.own b2 oi hO hc0; rw [he]; omega
      · omega
    · have := h.own b2 o2 hO2' hc; omega
  · rcases hcase b2 o2 hO2 with ⟨rfl, rfl⟩ | ⟨_, hO2'⟩
    · rcases hblk hc with ⟨he, hc0⟩ | ⟨hge, _⟩
      · rw [he]; exact h.bm b2 i oi r hO hc0 hN
      · have := h.mown i r hN; omega
    · exact h.bm b2 i o2 r hO2' hc hN
  · rcases hcase b2 o2 hO2 with ⟨rfl, rfl⟩ | ⟨hne, hO2'⟩
    · rcases hblk hc with ⟨he, hc0⟩ | ⟨hge, _⟩
      · rw [he] at hpp; exact absurd hpp (hnp hc0)
      · have := h.st _ hpp; omega
    · obtain ⟨k2, hk2, hr2⟩ := ro.b b2 o2 hO2' hc hpp
      refine ⟨k2, ?_, hr2⟩
      show (setNth hp.blocks b k')[b2]? = some k2
      rw [setNth_eq, List.getElem?_set_ne (fun e => hne e.symm)]; exact hk2
  · rcases hcase b2 o2 hO2 with ⟨rfl, rfl⟩ | ⟨_, hO2'⟩
    · exact ⟨oi, hO⟩
    · exact ⟨o2, hO2'⟩
end
end Go.Tr
