/- Free nodes counted; the course of AllocAll. -/
import Derived.Test.YtjeiopkfdgllhaaGreatV33
namespace Go.Proofs.YtjeiopkfdgllhaaGreat.V
open Go Go.RowKit Go.Proofs.YtjeiopkfdgllhaaGreat.Hz
set_option maxRecDepth 100000

theorem places1_iff (g : Li) (x : Int) : ∀ (k : Nat) (p : Int), p ∈ places1 g x k ↔ 1 ≤ p ∧ p < k ∧ nI g p = x
  | 0, p => by
    constructor
    · intro h; cases h
    · intro h; omega
  | k + 1, p => by
    have ih := places1_iff g x k p
    unfold places1
    split
    · rename_i h
      rw [List.mem_append, List.mem_singleton, ih]
      constructor
      · rintro (e | e)
        · exact ⟨e.1, by omega, e.2.2⟩
        · rw [e]; exact ⟨by omega, by omega, h.2⟩
      · intro e
        by_cases c : p = k
        · exact .inr c
        · exact .inl ⟨e.1, by omega, e.2.2⟩
    · rename_i h
      rw [ih]
      constructor
      · intro e; exact ⟨e.1, by omega, e.2.2⟩
      · intro e
        refine ⟨e.1, ?_, e.2.2⟩
        have : p ≠ k := fun c => h ⟨by omega, by rw [← c]; exact e.2.2⟩
        omega
theorem places1_nodup (g : Li) (x : Int) : ∀ k : Nat, (places1 g x k).Nodup
  | 0 => List.nodup_nil
  | k + 1 => by
    have ih := places1_nodup g x k
    unfold places1
    split
    · refine List.nodup_append.2 ⟨ih, by simp, fun a ha b hb => ?_⟩
      rw [List.mem_singleton.1 hb]
      have := (places1_iff g x k a).1 ha
      exact Int.ne_of_lt this.2.1
    · exact ih
theorem FL.count {m : Me} {L : Li} (h : FL m L) : countI m.2.1 0 = L.length := by
  have hp : (places1 m.2.1 0 m.2.1.length).Perm L := (List.perm_ext_iff_of_nodup (places1_nodup _ _ _) h.nodup).2 fun p => by
    rw [places1_iff, h.mem]
  rw [← hp.length_eq, places1_count m.2.1 0 m.2.1.length (Nat.le_refl _), List.take_length]
  rfl
theorem unseen_snoc (S R : Li) (p : Int) : (unseen S (snoc R p)).length = (unseen S R).length + if memB S p = true then 0 else 1 := by
  unfold unseen
  rw [List.filter_append, List.length_append]
  cases hm : memB S p
  · rw [List.filter_cons_of_pos (by rw [hm]; rfl)]; rfl
  · rw [List.filter_cons_of_neg (by rw [hm]; decide)]; rfl
/-! ### The course -/
/-- An allocation, followed by whatever is done with what was got. -/
theorem Alone.got {N : Nat} {s : Sy} {S L R : Li} (h : Alone s S L R) (hf : Fin N s) (hg : s.1.2.1.length ≤ 40) :
    ∃ (J : Nat) (s' : Sy) (L' R' : Li), J ≤ 180 ∧ itS 0 (callS s 0 7 0 0 0) J = s' ∧ Got s s' S L R L' R' ∧ Fin (N + 180) s' := by
  obtain ⟨J, s', L', R', h1, h2, h3⟩ := h.alloc
  have hs := h.short
  exact ⟨J, s', L', R', by omega, h2, h3, by rw [← h2]; exact (itS_fin hf.callS J).more (by omega)⟩
theorem Got.idle {s s' : Sy} {S L R L' R' : Li} (h : Got s s' S L R L' R') : (cAt s'.2.1 0).1.length = 0 := by
  obtain ⟨v, e, x, hc⟩ := h.alone.core
  rw [hc]; rfl
/-- Steps 0 to 400 of an allocation. -/
theorem Alone.far {N : Nat} {s : Sy} {S L R : Li} (h : Alone s S L R) (hf : Fin N s) (hg : s.1.2.1.length ≤ 40) :
    ∃ (s' : Sy) (L' R' : Li), itS 0 (callS s 0 7 0 0 0) 400 = s' ∧ Got s s' S L R L' R' ∧ Fin (N + 180) s' := by
  obtain ⟨J, s', L', R', h1, h2, h3, h4⟩ := h.got hf hg
  exact ⟨s', L', R', by rw [itS_idle (i := J) (by rw [h2]; exact topI_none h3.idle) 400 (by omega)]; exact h2, h3, h4⟩
end Go.Proofs.YtjeiopkfdgllhaaGreat.V
