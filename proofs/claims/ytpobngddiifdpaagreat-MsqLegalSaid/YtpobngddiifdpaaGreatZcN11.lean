/- Queues: two new ones. -/
import Derived.Test.YtpobngddiifdpaaGreatZcN10
set_option linter.unusedSimpArgs false
set_option linter.unusedVariables false
namespace Go.Proofs.YtpobngddiifdpaaGreat.V
open Go Go.RowKit Go.Proofs.YtpobngddiifdpaaGreat.Hz
set_option maxRecDepth 100000

/-- A new queue's memory. -/
def mkM (m : Me) (q p : Int) : Me := setW (setW (setW (popM m p) (lk p + 1) (nextI (nI m.1 (lk p + 1)) 0 0)) (hdP q) (2 * p)) (tlP q) (2 * p)
section
variable {m : Me} {q p : Int} {l : List Int}
theorem popM_at {a : Int} (h0 : 0 < a) : nI (popM m p).1 a = nI m.1 a := by
  have := nI_set (l := m.1) (i := 0) (j := a) (v := nextI (nI m.1 0) (nI m.1 (lk p)) 0) (by decide) (by omega)
  rw [if_neg (by omega)] at this
  exact this
theorem mkM_is (h : FL m (p :: l)) (hq : IsQ q) (ht : tagI (nI m.1 0) ≤ 1000) : FL (mkM m q p) l ∧ (mkM m q p).2.1 = List.set (α := Int) m.2.1 p.toNat 1 ∧ hdW (mkM m q p) q = 2 * p ∧ tlW (mkM m q p) q = 2 * p ∧ idxI (nx (mkM m q p) p) = 0 ∧ tagI (nI (mkM m q p).1 0) = tagI (nI m.1 0) + 1 ∧
    (∀ a, 0 < a → a ≠ hdP q → a ≠ tlP q → a ≠ lk p + 1 → nI (mkM m q p).1 a = nI m.1 a) := by
  have hpm := (h.mem p).1 (List.mem_cons_self ..)
  have hsp := sp_lt hq
  have hlk := lk_is p
  have hf := h.popped.fits
  have hlen : (popM m p).1.length = m.1.length := List.length_set
  have hf0 := h.fits
  have h1 := hf0.1
  have h2 := hf0.2
  have hlr := Chain.range (n := m.2.1.length) h.head.2 (fun q hq => by have := (h.mem q).1 (List.mem_cons_of_mem _ hq); omega) (by omega)
  have rest : ∀ a, 0 ≤ a → a ≠ hdP q → a ≠ tlP q → a ≠ lk p + 1 → nI (mkM m q p).1 a = nI (popM m p).1 a := fun a h0 h1 h2 h3 => by
    unfold mkM
    rw [setW_ne (by omega) h0 (fun e => h2 e.symm), setW_ne (by omega) h0 (fun e => h1 e.symm), setW_ne (by omega) h0 (fun e => h3 e.symm)]
  have e0 : nI (popM m p).1 0 = nextI (nI m.1 0) (nI m.1 (lk p)) 0 := by
    have := nI_set (l := m.1) (i := 0) (j := 0) (v := nextI (nI m.1 0) (nI m.1 (lk p)) 0) (by decide) (by decide)
    rw [if_pos ⟨rfl, by omega⟩] at this
    exact this
  refine ⟨?_, rfl, ?_, ?_, ?_, ?_, fun a h0 h1 h2 h3 => (rest a (by omega) h1 h2 h3).trans (popM_at h0)⟩
  · unfold mkM
    exact ((h.popped.setW (by omega) fun x hx => by have := lk_is x; omega).setW (by omega) fun x hx => by have := (h.popped.mem x).1 hx; have := lk_is x; omega).setW (by omega) fun x hx => by have := (h.popped.mem x).1 hx; have := lk_is x; omega
  · unfold mkM hdW
    rw [setW_ne (by omega) (by omega) (fun e => hsp.2.2.2.2 e.symm)]
    refine setW_self (by omega) ?_
    show hdP q < ((List.set (α := Int) (popM m p).1 _ _).length : Int)
    rw [List.length_set, hlen]; omega
  · unfold mkM tlW
    refine setW_self (by omega) ?_
    show tlP q < ((List.set (α := Int) (List.set (α := Int) (popM m p).1 _ _) _ _).length : Int)
    rw [List.length_set, List.length_set, hlen]; omega
  · unfold mkM nx
    rw [setW_ne (by omega) (by omega) (by omega), setW_ne (by omega) (by omega) (by omega), setW_self (by omega) (by rw [hlen]; omega)]
    exact idx_next (by decide) (by decide)
  · rw [rest 0 (by decide) (by omega) (by omega) (by omega), e0, tag_next hlr.1 (by omega)]
    have : 0 ≤ tagI (nI m.1 0) := by unfold tagI; omega
    omega
end
/-- Two queues on a new system. -/
def newQ (c n : Int) : Sy := (mkM (mkM (newF c n).1 0 1) 1 2, (newF c n).2)
def ownQ : OM := fun p => if p = 1 ∨ p = 2 then .shared else .free
def nodesQ : NQ := fun q => if q = 0 then [1] else [2]
theorem up_two {n : Nat} (h : 2 ≤ n) : ∃ l, up n 1 = 1 :: 2 :: l := by
  obtain ⟨k, rfl⟩ : ∃ k, n = k + 2 := ⟨n - 2, by omega⟩
  exact ⟨up k 3, rfl⟩
theorem newQ_is {c n : Nat} (h1 : 2 ≤ n) (h2 : n ≤ 200) : ∃ l, up n 1 = 1 :: 2 :: l ∧ FL (newF (c : Int) (n : Int)).1 (1 :: 2 :: l) ∧ FL (mkM (newF (c : Int) (n : Int)).1 0 1) (2 :: l) ∧ FL (newQ (c : Int) (n : Int)).1 l ∧ (newQ (c : Int) (n : Int)).1.2.1.length = n + 1 := by
  obtain ⟨l, hl⟩ := up_two h1
  have hfl : FL (newF (c : Int) (n : Int)).1 (up n 1) := FL.filled (by omega) h2
  rw [hl] at hfl
  have ht0 : tagI (nI (newF (c : Int) (n : Int)).1.1 0) = 0 := by rw [newF_head (by omega) h2]; decide
  obtain ⟨a1, a2, _, _, _, a6, _⟩ := mkM_is (q := 0) hfl (.inl rfl) (by omega)
  obtain ⟨b1, b2, _⟩ := mkM_is (q := 1) a1 (.inr rfl) (by omega)
  refine ⟨l, hl, hfl, a1, b1, ?_⟩
  show (mkM (mkM (newF (c : Int) (n : Int)).1 0 1) 1 2).2.1.length = _
  rw [b2, List.length_set, a2, List.length_set]
  exact newF_glen (by omega) h2
theorem MqI.start {c n : Nat} (h1 : 2 ≤ n) (h2 : n ≤ 200) (c1 : 1 ≤ c) (c8 : c ≤ 8) : MqI 2 ownQ (newQ (c : Int) (n : Int)) nodesQ := by
  obtain ⟨l, hl, hfl, hfl1, hfl2, hglen⟩ := newQ_is (c := c) h1 h2
  have ht0 : tagI (nI (newF (c : Int) (n : Int)).1.1 0) = 0 := by rw [newF_head (by omega) h2]; decide
  obtain ⟨_, a2, a3, a4, a5, a6, a7⟩ := mkM_is (q := 0) hfl (.inl rfl) (by omega)
  obtain ⟨_, b2, b3, b4, b5, b6, b7⟩ := mkM_is (q := 1) hfl1 (.inr rfl) (by omega)
  have hg0 := newF_glen (c := (c : Int)) (n := n) (by omega) h2
  have hlc : (newQ (c : Int) (n : Int)).2.1.length = c := by
    show (List.replicate (c : Int).toNat _).length = c
    rw [List.length_replicate, Int.toNat_natCast]
  have hG : ∀ p, InN (newQ (c : Int) (n : Int)).1 p → nI (newQ (c : Int) (n : Int)).1.2.1 p = if p = 1 ∨ p = 2 then 1 else 0 := fun p hp => by
    have hp1 := hp.1
    have hp2 := hp.2
    rw [hglen] at hp2
    show nI (mkM (mkM (newF (c : Int) (n : Int)).1 0 1) 1 2).2.1 p = _
    rw [b2, nI_set (by decide) (by omega), a2, nI_set (by decide) (by omega), List.length_set, hg0]
    by_cases e2 : p = 2
    · subst e2
      rw [if_pos ⟨rfl, by omega⟩, if_pos (.inr rfl)]
    · rw [if_neg (fun e => e2 e.1.symm)]
      by_cases e1 : p = 1
      · subst e1
        rw [if_pos ⟨rfl, by omega⟩, if_pos (.inl rfl)]
      · rw [if_neg (fun e => e1 e.1.symm), if_neg (fun e => e.elim e1 e2)]
        have := (hfl.mem p).1 (by rw [← hl]; exact (up_mem9 n 1 p).2 ⟨hp1, by omega⟩)
        exact this.2.2
  have hw0 : hdW (newQ (c : Int) (n : Int)).1 0 = 2 ∧ tlW (newQ (c : Int) (n : Int)).1 0 = 2 := by
    constructor
    · exact (b7 (hdP 0) (by decide) (by decide) (by decide) (by decide)).trans a3
    · exact (b7 (tlP 0) (by decide) (by decide) (by decide) (by decide)).trans a4
  have hw1 : hdW (newQ (c : Int) (n : Int)).1 1 = 4 ∧ tlW (newQ (c : Int) (n : Int)).1 1 = 4 := ⟨b3, b4⟩
  have hn1 : idxI (nx (newQ (c : Int) (n : Int)).1 1) = 0 := by
    have : nx (newQ (c : Int) (n : Int)).1 1 = nx (mkM (newF (c : Int) (n : Int)).1 0 1) 1 := b7 _ (by decide) (by decide) (by decide) (by decide)
    rw [this]; exact a5
  have hn2 : idxI (nx (newQ (c : Int) (n : Int)).1 2) = 0 := b5
  have hin : ∀ p : Int, p = 1 ∨ p = 2 → InN (newQ (c : Int) (n : Int)).1 p := fun p hp => by
    unfold InN
    rw [hglen]
    omega
  have hcA : ∀ k : Nat, cAt (newQ (c : Int) (n : Int)).2.1 k = dflt tCore := fun k => newF_cor (c := (c : Int)) (n := (n : Int))
  refine ⟨⟨⟨⟨l, hfl2⟩, by rw [hglen]; omega, by rw [hlc]; omega, ?_, fun p hp => ?_, fun k hk => ?_⟩, ?_, fun q hq => ?_, fun k hk => ?_⟩, fun q hq => ?_⟩
  · show tagI (nI (mkM (mkM (newF (c : Int) (n : Int)).1 0 1) 1 2).1 0) ≤ 2
    rw [b6, a6]; omega
  · rw [hG p hp]
    unfold ownQ
    split <;> rfl
  · rw [hcA k]
    refine ⟨trivial, List.nodup_nil, fun p => ⟨fun h => (nomatch h), fun h => ?_⟩, .inl (Nat.zero_le _), fun p x _ h => ?_⟩
    · have := h.2
      unfold ownQ at this
      split at this <;> cases this
    · unfold ownQ at h
      split at h <;> cases h
  · refine ⟨fun q hq => ?_, fun q p hq hp => ?_, fun p hp e => ?_, fun p hp hp2 => ?_, fun p c hp e => ?_⟩
    · rcases hq with e | e <;> subst e
      · refine ⟨?_, by show [(1 : Int)].Nodup; simp, [], .inl ?_⟩
        · rw [hw0.1]; exact ⟨by decide, hn1⟩
        · rw [hw0.2]; rfl
      · refine ⟨?_, by show [(2 : Int)].Nodup; simp, [], .inl ?_⟩
        · rw [hw1.1]; exact ⟨by decide, hn2⟩
        · rw [hw1.2]; rfl
    · rcases hq with e | e <;> subst e
      · rw [show p = 1 from List.mem_singleton.1 (show p ∈ [(1 : Int)] from hp)]
        exact ⟨hin 1 (.inl rfl), rfl⟩
      · rw [show p = 2 from List.mem_singleton.1 (show p ∈ [(2 : Int)] from hp)]
        exact ⟨hin 2 (.inr rfl), rfl⟩
    · unfold ownQ at e
      split at e
      · rename_i h
        rcases h with h | h <;> rw [h]
        · exact ⟨0, .inl rfl, List.mem_singleton.2 rfl⟩
        · exact ⟨1, .inr rfl, List.mem_singleton.2 rfl⟩
      · cases e
    · rw [show p = 1 from List.mem_singleton.1 (show p ∈ [(1 : Int)] from hp)] at hp2
      exact nope (show (1 : Int) = 2 from List.mem_singleton.1 (show (1 : Int) ∈ [(2 : Int)] from hp2)) rfl
    · unfold ownQ at e
      split at e <;> rcases e with e | e <;> cases e
  · rcases hq with e | e <;> subst e
    · rw [hw0.1, hw0.2]; decide
    · rw [hw1.1, hw1.2]; decide
  · rw [hcA k]
    exact .idle rfl
  · show playI q [] [] = _
    rcases hq with e | e <;> subst e <;> rfl
end Go.Proofs.YtpobngddiifdpaaGreat.V
