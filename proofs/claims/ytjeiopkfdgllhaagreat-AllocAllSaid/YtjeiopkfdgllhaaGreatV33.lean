/- One core alone: what AllocAll does besides. -/
import Derived.Test.YtjeiopkfdgllhaaGreatV32
namespace Go.Proofs.YtjeiopkfdgllhaaGreat.V
open Go Go.RowKit Go.Proofs.YtjeiopkfdgllhaaGreat.Hz
set_option maxRecDepth 100000

/-- A node that was got is retired by hand. -/
def byHand (s : Sy) (p : Int) : Sy := withS (turnM s.1 p 2, s.2) 0 ((cAt s.2.1 0).1, (cAt s.2.1 0).2.1, (cAt s.2.1 0).2.2.1, (cAt s.2.1 0).2.2.2.1, snoc (retL s 0) p, ())
theorem Alone.byHand {s : Sy} {S L R : Li} {p : Int} (h : Alone s S L R) (p0 : 1 ≤ p) (p1 : p < s.1.2.1.length) (hg : nI s.1.2.1 p = 1) : Alone (V.byHand s p) S L (snoc R p) := by
  obtain ⟨v, e, x, hc⟩ := h.core
  have hf := h.fl.fits
  have h2 := h.two
  have ht : turnM s.1 p 2 = (s.1.1, List.set (α := Int) s.1.2.1 p.toNat 2, s.1.2.2) := if_pos ⟨p0, p1, by rw [hg]; decide⟩
  have hbs : V.byHand s p = stS s 0 (s.1.1, List.set (α := Int) s.1.2.1 p.toNat 2, s.1.2.2) (([] : List Frm), v, e, x, snoc R p, ()) := by
    unfold V.byHand retL
    rw [ht, hc]
    rfl
  have hgl : (List.set (α := Int) s.1.2.1 p.toNat 2).length = s.1.2.1.length := List.length_set
  have hn : ∀ q : Int, 0 ≤ q → nI (List.set (α := Int) s.1.2.1 p.toNat 2) q = if p = q then 2 else nI s.1.2.1 q := fun q hq => by
    rw [nI_set (by omega) hq]
    by_cases c : p = q
    · rw [if_pos ⟨c, p1⟩, if_pos c]
    · rw [if_neg (fun e => c e.1), if_neg c]
  have hpR : p ∉ R := fun hp => by have := (h.ret p hp).2.2; omega
  rw [hbs]
  refine ⟨⟨⟨by show s.1.1.length = 124 + 4 * (List.set (α := Int) s.1.2.1 p.toNat 2).length; rw [hgl]; exact hf.1, by show (List.set (α := Int) s.1.2.1 p.toNat 2).length ≤ 1000; rw [hgl]; exact hf.2⟩, h.fl.head, h.fl.nodup, fun q => ?_, h.fl.good⟩, stS_len.trans h2, ⟨v, e, x, stS_core (Int.le_refl _) (by omega)⟩, ?_, fun q hq => ?_, h.seen⟩
  · show q ∈ L ↔ 1 ≤ q ∧ q < ((List.set (α := Int) s.1.2.1 p.toNat 2).length : Int) ∧ nI (List.set (α := Int) s.1.2.1 p.toNat 2) q = 0
    rw [h.fl.mem q, hgl]
    by_cases c : 0 ≤ q
    · rw [hn q c]
      by_cases d : p = q
      · subst d
        rw [if_pos rfl]
        constructor
        · intro e; have := e.2.2; omega
        · intro e; exact absurd e.2.2 (by decide)
      · rw [if_neg d]
    · constructor <;> intro e <;> omega
  · exact List.nodup_append.2 ⟨h.nodup, by simp, fun a ha b hb => by rw [List.mem_singleton.1 hb]; exact fun e => hpR (e ▸ ha)⟩
  · show 1 ≤ q ∧ q < ((List.set (α := Int) s.1.2.1 p.toNat 2).length : Int) ∧ nI (List.set (α := Int) s.1.2.1 p.toNat 2) q = 2
    rw [hgl]
    rcases List.mem_append.1 hq with hq | hq
    · obtain ⟨q0, q1, q2⟩ := h.ret q hq
      refine ⟨q0, q1, ?_⟩
      rw [hn q (by omega)]
      split
      · rfl
      · exact q2
    · have hqp : q = p := List.mem_singleton.1 hq
      subst hqp
      exact ⟨p0, p1, by rw [hn q (by omega), if_pos rfl]⟩
/-- A slot's word is written. -/
theorem Alone.slot {s : Sy} {S L R : Li} {a v : Int} (h : Alone s S L R) (a0 : 8 ≤ a) (a1 : a < 124) : Alone (storeM s.1 a v, s.2) (seenL (storeM s.1 a v).1 6) L R := by
  have hf := h.fl.fits
  have hst := store_word (m := s.1) (p := a) (v := v) (by omega) a1 hf
  rw [hst]
  have hw : ∀ q : Int, 0 ≤ q → q ≠ a → nI (List.set (α := Int) s.1.1 a.toNat v) q = nI s.1.1 q := fun q hq hne => by
    rw [nI_set (by omega) hq, if_neg (fun e => hne e.1.symm)]
  refine ⟨⟨⟨by show (List.set (α := Int) s.1.1 a.toNat v).length = _; rw [List.length_set]; exact hf.1, hf.2⟩, ?_, h.fl.nodup, h.fl.mem, h.fl.good⟩, h.two, h.core, h.nodup, h.ret, rfl⟩
  show Chain (List.set (α := Int) s.1.1 a.toNat v) (idxI (nI (List.set (α := Int) s.1.1 a.toNat v) 0)) L
  rw [hw 0 (by decide) (by omega)]
  exact h.fl.head.same fun q hq => by
    have := (h.fl.mem q).1 hq
    have hlq := lk_is q
    exact hw _ (by omega) (by omega)
theorem Alone.short {s : Sy} {S L R : Li} (h : Alone s S L R) : R.length ≤ s.1.2.1.length - 1 ∧ L.length ≤ s.1.2.1.length - 1 := by
  have hlen : ∀ l : List Int, l.Nodup → (∀ p : Int, p ∈ l → 1 ≤ p ∧ p < s.1.2.1.length) → l.length ≤ s.1.2.1.length - 1 := fun l hn hl => by
    have hp : ∀ (n : Nat) (l : List Int), l.Nodup → (∀ p ∈ l, 1 ≤ p ∧ p ≤ n) → l.length ≤ n := by
      intro n
      induction n with
      | zero =>
        intro l _ h
        cases l with
        | nil => exact Nat.le_refl _
        | cons a r => have := h a (List.mem_cons_self ..); omega
      | succ n ih =>
        intro l hn h
        have ih2 := ih (l.erase ((n + 1 : Nat) : Int)) (hn.erase _) fun p hp => by
          have h1 := (hn.mem_erase_iff).1 hp
          have h2 := h p h1.2
          have h3 : p ≠ ((n + 1 : Nat) : Int) := h1.1
          omega
        by_cases c : ((n + 1 : Nat) : Int) ∈ l
        · rw [List.length_erase_of_mem c] at ih2; omega
        · rw [List.erase_of_not_mem c] at ih2; omega
    exact hp _ l hn fun p hp => by have := hl p hp; omega
  exact ⟨hlen R h.nodup fun p hp => ⟨(h.ret p hp).1, (h.ret p hp).2.1⟩, hlen L h.fl.nodup fun p hp => by have := (h.fl.mem p).1 hp; exact ⟨this.1, this.2.1⟩⟩
/-- The nodes that are free are counted. -/
theorem places1_count (g : Li) (x : Int) : ∀ k : Nat, k ≤ g.length → (places1 g x k).length = ((g.take k).drop 1).count x
  | 0, _ => rfl
  | k + 1, hk => by
    have ih := places1_count g x k (by omega)
    have hget : nI g k = g[k]'(by omega) := by
      show List.getD g ((k : Int).toNat) 0 = _
      rw [List.getD_eq_getElem?_getD, Int.toNat_natCast, List.getElem?_eq_getElem (by omega)]
      rfl
    unfold places1
    rw [List.take_succ_eq_append_getElem (show k < g.length by omega)]
    by_cases c0 : k = 0
    · subst c0
      rw [if_neg (fun e => e.1 rfl)]
      rfl
    · rw [List.drop_append_of_le_length (by rw [List.length_take]; omega), List.count_append, ← ih]
      by_cases c : nI g k = x
      · rw [if_pos ⟨c0, c⟩, List.length_append, List.count_singleton, ← hget, c]
        simp
      · rw [if_neg (fun e => c e.2), List.count_singleton, ← hget]
        have : (nI g k == x) = false := by simpa using c
        rw [if_neg (by rw [this]; decide)]
        rfl
end Go.Proofs.YtjeiopkfdgllhaaGreat.V
