/- One core alone allocates, scans if it must. -/
import Derived.Test.YtjeiopkfdgllhaaGreatV31
namespace Go.Proofs.YtjeiopkfdgllhaaGreat.V
open Go Go.RowKit Go.Proofs.YtjeiopkfdgllhaaGreat.Hz
set_option maxRecDepth 100000

section
variable {s : Sy} {k : Int} {m : Me} {F : List Frm} {v e : Int} {x : R3} {R : Li}
/-- No node was free, but some are retired: a scan. -/
theorem al_scan (h0 : 0 ≤ k) (h1 : k < s.2.1.length) (hl : F.length < 39) (hR : R.length ≠ 0) : alS (stS s k m (F ++ [alF 1], v, 2, x, R, ())) k = stS s k m (F ++ [alF 2] ++ [frm0 6 0 0 0], v, 2, x, R, ()) := by
  rw [al_at h0 h1]
  show allocS (stS s k m (F ++ [alF 1], v, 2, x, R, ())) k 7 1 _ _ = _
  unfold allocS
  rw [if_neg (by decide), if_pos rfl]
  unfold cE cV retL
  rw [stS_core h0 h1, if_neg (by show ¬ (2 : Int) = 0; decide), if_neg (by show ¬ R.length = 0; exact hR)]
  unfold thenS
  rw [show wrap64 ((1 : Int) + 1) = 2 by decide +kernel, setS_st h0 h1, callP_st h0 h1 (by rw [List.length_append]; show F.length + 1 < 40; omega)]
  rfl
theorem al_2 (h0 : 0 ≤ k) (h1 : k < s.2.1.length) (hl : F.length < 39) : alS (stS s k m (F ++ [alF 2], v, e, x, R, ())) k = stS s k m (F ++ [alF 3] ++ [popF 0 0 0], v, e, x, R, ()) := by
  rw [al_at h0 h1]
  show allocS (stS s k m (F ++ [alF 2], v, e, x, R, ())) k 7 2 _ _ = _
  unfold allocS
  rw [if_pos (.inr rfl)]
  unfold thenS
  rw [show wrap64 ((2 : Int) + 1) = 3 by decide +kernel, setS_st h0 h1, callP_st h0 h1 (by rw [List.length_append]; show F.length + 1 < 40; omega)]
  rfl
theorem al_3 (h0 : 0 ≤ k) (h1 : k < s.2.1.length) : alS (stS s k m (F ++ [alF 3], v, e, x, R, ())) k = stS s k m (F, v, e, x, R, ()) := by
  rw [al_at h0 h1]
  show allocS (stS s k m (F ++ [alF 3], v, e, x, R, ())) k 7 3 (alF 3).2.2.1 ([] : Li) = _
  unfold allocS
  rw [if_neg (by decide), if_neg (by decide), if_pos rfl]
  unfold cE cV
  rw [stS_core h0 h1]
  exact backS_st h0 h1
theorem see_run (h0 : 0 ≤ k) (h1 : k < s.2.1.length) (h8 : s.2.1.length ≤ 8) (hw : 128 ≤ m.1.length) : ∀ i : Nat, i ≤ 3 * s.2.1.length → itS k (stS s k m (F ++ [seeF m.1 (3 * s.2.1.length) 0], v, e, x, R, ())) i = stS s k m (F ++ [seeF m.1 (3 * s.2.1.length) i], v, e, x, R, ())
  | 0, _ => rfl
  | i + 1, hi => by
    show alS (itS k _ i) k = _
    rw [see_run h0 h1 h8 hw i (by omega), alS_scan (topI_st h0 h1) (by show (6 : Int) ≠ 7; decide) (by show (6 : Int) ≠ 8; decide)]
    exact see_step (s := (m, s.2)) (F := F) (r := (v, e, x, R, ())) h0 h1 h8 hw (by show i < 3 * s.2.1.length; omega)
end
theorem popM_words {m : Me} {p q : Int} (q0 : 0 < q) : nI (popM m p).1 q = nI m.1 q := by
  have a := nI_set (l := m.1) (i := 0) (j := q) (v := nextI (nI m.1 0) (nI m.1 (lk p)) 0) (by decide) (by omega)
  rw [if_neg (by omega)] at a
  exact a
theorem seenL_same {W W' : Li} : ∀ {n : Nat}, (∀ i : Nat, i < n → nI W' (8 + i) = nI W (8 + i)) → seenL W' n = seenL W n
  | 0, _ => rfl
  | n + 1, h => by
    unfold seenL
    rw [seenL_same fun i hi => h i (by omega), h n (Nat.lt_succ_self _)]
theorem unseen_seen (S R : Li) : unseen S (seenR S R) = [] := by
  unfold unseen seenR
  rw [List.filter_filter]
  apply List.filter_eq_nil_iff.2
  intro a _ h
  cases hm : memB S a <;> rw [hm] at h <;> cases h
theorem seen_none {S R : Li} (h : unseen S R = []) : seenR S R = R := by
  unfold seenR
  rw [List.filter_eq_self]
  intro a ha
  have := (List.filter_eq_nil_iff.1 h) a ha
  cases hm : memB S a
  · rw [hm] at this; exact absurd rfl this
  · rfl
/-- A system of two cores of which the first one has no frame, a free list, and retired nodes; what slots name. -/
structure Alone (s : Sy) (S L R : Li) : Prop where
  fl : FL s.1 L
  two : s.2.1.length = 2
  core : ∃ v e x, cAt s.2.1 0 = (([] : List Frm), v, e, x, R, ())
  nodup : R.Nodup
  ret : ∀ p : Int, p ∈ R → 1 ≤ p ∧ p < s.1.2.1.length ∧ nI s.1.2.1 p = 2
  seen : seenL s.1.1 6 = S
/-- What is told of a node that was got. -/
structure Got (s s' : Sy) (S L R L' R' : Li) : Prop where
  alone : Alone s' S L' R'
  len : s'.1.2.1.length = s.1.2.1.length
  end_ : (cE s' 0 = 0 ∧ 1 ≤ cV s' 0 ∧ cV s' 0 < s'.1.2.1.length ∧ nI s'.1.2.1 (cV s' 0) = 1 ∧ L'.length + (unseen S R').length + 1 = L.length + (unseen S R).length) ∨ (cE s' 0 = 2 ∧ L.length + (unseen S R).length = 0 ∧ L'.length + (unseen S R').length = 0)
theorem alone_pop {s : Sy} {m : Me} {S L R : Li} {p v e : Int} {x : R3} {s0 : Sy} (h2 : s.2.1.length = 2) (hf : FL m (p :: L)) (hn : R.Nodup) (hr : ∀ q : Int, q ∈ R → 1 ≤ q ∧ q < m.2.1.length ∧ nI m.2.1 q = 2) (hS : seenL m.1 6 = S) :
    Alone (stS s 0 (popM m p) (([] : List Frm), p, e, x, R, ())) S L R ∧ (popM m p).2.1.length = m.2.1.length ∧ 1 ≤ p ∧ p < m.2.1.length ∧ nI (popM m p).2.1 p = 1 := by
  obtain ⟨p0, p1, hg⟩ := (hf.mem p).1 (List.mem_cons_self ..)
  have hgl : (popM m p).2.1.length = m.2.1.length := List.length_set
  refine ⟨⟨hf.popped, stS_len.trans h2, ⟨p, e, x, stS_core (Int.le_refl _) (by omega)⟩, hn, fun q hq => ?_, ?_⟩, hgl, p0, p1, ?_⟩
  · obtain ⟨q0, q1, q2⟩ := hr q hq
    refine ⟨q0, by show q < ((popM m p).2.1.length : Int); rw [hgl]; exact q1, ?_⟩
    show nI (List.set (α := Int) m.2.1 p.toNat 1) q = 2
    rw [nI_set (by omega) (by omega), if_neg (fun e : p = q ∧ _ => by rw [e.1] at hg; omega)]
    exact q2
  · rw [← hS]
    exact seenL_same fun i _ => popM_words (by omega)
  · show nI (List.set (α := Int) m.2.1 p.toNat 1) p = 1
    rw [nI_set (by omega) (by omega), if_pos ⟨rfl, p1⟩]
theorem Alone.alloc {s : Sy} {S L R : Li} (h : Alone s S L R) : ∃ (J : Nat) (s' : Sy) (L' R' : Li), J ≤ 20 + 4 * R.length ∧ itS 0 (callS s 0 7 0 0 0) J = s' ∧ Got s s' S L R L' R' := by
  obtain ⟨v, e, x, hc⟩ := h.core
  have h1 : (0 : Int) < s.2.1.length := by have := h.two; omega
  have h0 : (0 : Int) ≤ 0 := Int.le_refl _
  have hcall := callS_self (s := s) (k := 0) (op := 7) (a := 0) (b := 0) (d := 0) h0 h1 (by rw [hc]; exact (by decide : (0 : Nat) < 40))
  rw [hc] at hcall
  have hcall2 : callS s 0 7 0 0 0 = stS s 0 s.1 (([] : List Frm) ++ [alF 0], v, e, x, R, ()) := hcall
  rw [hcall2]
  cases L with
  | cons p L' =>
    have hr := alloc_run (s := s) (k := 0) (m := s.1) (F := []) (v := v) (e := e) (x := x) (R := R) h0 h1 (by decide) h.fl
    obtain ⟨a1, a2, a3, a4, a5⟩ := alone_pop (s := s) (e := 0) (x := x) (v := v) (s0 := s) h.two h.fl h.nodup h.ret h.seen
    refine ⟨5, _, L', R, by omega, hr, ⟨a1, a2, .inl ?_⟩⟩
    unfold cE cV
    rw [stS_core h0 h1]
    exact ⟨rfl, a3, by show p < ((popM s.1 p).2.1.length : Int); rw [a2]; exact a4, a5, by rw [List.length_cons]; omega⟩
  | nil =>
    by_cases hR : R.length = 0
    · obtain rfl : R = [] := List.length_eq_zero_iff.1 hR
      have h3 := alloc_full (s := s) (k := 0) (m := s.1) (F := []) (v := v) (e := e) (x := x) h0 h1 (by decide) h.fl
      refine ⟨3, _, [], [], by omega, h3, ⟨⟨h.fl, stS_len.trans h.two, ⟨0, 2, x, stS_core (s := fullS s 0) h0 h1⟩, h.nodup, h.ret, h.seen⟩, rfl, .inr ?_⟩⟩
      unfold cE
      rw [stS_core (s := fullS s 0) h0 h1]
      exact ⟨rfl, rfl, rfl⟩
    · have hp : idxI (nI s.1.1 0) = 0 := h.fl.head
      have hw : 128 ≤ s.1.1.length := by
        have := h.fl.fits.1
        obtain ⟨q, hq⟩ : ∃ q, q ∈ R := by
          cases R with
          | nil => exact absurd rfl hR
          | cons q _ => exact ⟨q, List.mem_cons_self ..⟩
        have := h.ret q hq
        omega
      have s1 : itS 0 (stS s 0 s.1 (([] : List Frm) ++ [alF 0], v, e, x, R, ())) 3 = stS (fullS s 0) 0 s.1 (([] : List Frm) ++ [alF 2] ++ [frm0 6 0 0 0], 0, 2, x, R, ()) := by
        show alS (alS (alS (stS s 0 s.1 (([] : List Frm) ++ [alF 0], v, e, x, R, ())) 0) 0) 0 = _
        rw [al_0 h0 h1 (by decide), pop_none h0 h1 h.fl.fits hp]
        exact al_scan (s := fullS s 0) h0 h1 (by decide) hR
      have h2f : (fullS s 0).2.1.length = 2 := h.two
      have hsee : (frm0 6 0 0 0 : Frm) = seeF s.1.1 (3 * (fullS s 0).2.1.length) 0 := by
        unfold seeF
        rw [if_neg (by rw [h2f]; decide)]
        rfl
      have s2 := see_run (s := fullS s 0) (k := 0) (m := s.1) (F := ([] : List Frm) ++ [alF 2]) (v := 0) (e := 2) (x := x) (R := R) h0 h1 (by rw [h2f]; decide) hw 6 (by rw [h2f]; decide)
      have hout : seeF s.1.1 (3 * (fullS s 0).2.1.length) 6 = outF 6 0 S := by
        unfold seeF
        rw [if_pos (by rw [h2f]; decide), h.seen]
        rfl
      rw [hout] at s2
      obtain ⟨j, m', j1, j2, j3, j4⟩ := out_run (s := fullS s 0) (k := 0) (F := ([] : List Frm) ++ [alF 2]) (x := x) (M := 6) (S := S) (P := unseen S R) h0 h1 (by decide) R [] [] s.1 0 2 0 h.fl (Int.le_refl _) h.nodup (fun p hp => ⟨fun hm => List.mem_filter.2 ⟨hp, by rw [hm]; rfl⟩, h.ret p hp⟩) rfl
      rw [List.nil_append] at j4
      rw [List.append_nil] at j3
      have hrun : itS 0 (stS s 0 s.1 (([] : List Frm) ++ [alF 0], v, e, x, R, ())) (3 + 6 + j) = stS (fullS s 0) 0 m' (([] : List Frm) ++ [alF 2], ((seenR S R).length : Int), 0, x, seenR S R, ()) := by
        rw [itS_add, itS_add, s1, hsee, s2]
        exact j4
      have hsub : ∀ p : Int, p ∈ seenR S R → 1 ≤ p ∧ p < m'.2.1.length ∧ nI m'.2.1 p = 2 := fun p hp => by
        have hpR := (List.mem_filter.1 hp)
        obtain ⟨q0, q1, q2⟩ := h.ret p hpR.1
        have hnu : p ∉ unseen S R := fun hu => by
          have h9 := (List.mem_filter.1 hu).2
          rw [show memB S p = true from hpR.2] at h9
          cases h9
        exact ⟨q0, by rw [j2.len]; exact q1, (j2.nodes p hnu (by omega)).trans q2⟩
      have hS' : seenL m'.1 6 = S := by
        rw [← h.seen]
        exact seenL_same fun i hi => j2.words _ (by omega) (by omega)
      have hnd : (seenR S R).Nodup := h.nodup.filter _
      have hlen0 : (unseen S (seenR S R)).length = 0 := by rw [unseen_seen]; rfl
      have hlenU : ((unseen S R).reverse).length = (unseen S R).length := List.length_reverse
      have t1 : itS 0 (stS s 0 s.1 (([] : List Frm) ++ [alF 0], v, e, x, R, ())) (3 + 6 + j + 1) = stS (fullS s 0) 0 m' (([] : List Frm) ++ [alF 3] ++ [popF 0 0 0], ((seenR S R).length : Int), 0, x, seenR S R, ()) := by
        rw [itS_add, hrun]
        exact al_2 (s := fullS s 0) h0 h1 (by decide)
      cases hU : (unseen S R).reverse with
      | cons p L' =>
        rw [hU] at j3 hlenU
        have t2 : itS 0 (stS s 0 s.1 (([] : List Frm) ++ [alF 0], v, e, x, R, ())) (3 + 6 + j + 1 + 3 + 1) = stS (fullS s 0) 0 (popM m' p) (([] : List Frm), p, 0, x, seenR S R, ()) := by
          rw [itS_add, itS_add (j := 3), t1, pop_run (s := fullS s 0) h0 h1 j3]
          exact al_3 (s := fullS s 0) h0 h1
        obtain ⟨a1, a2, a3, a4, a5⟩ := alone_pop (s := fullS s 0) (e := 0) (x := x) (v := v) (s0 := s) h2f j3 hnd hsub hS'
        refine ⟨_, _, L', seenR S R, by omega, t2, ⟨a1, a2.trans j2.len, .inl ?_⟩⟩
        unfold cE cV
        rw [stS_core (s := fullS s 0) h0 h1]
        refine ⟨rfl, a3, by show p < ((popM m' p).2.1.length : Int); rw [a2]; exact a4, a5, ?_⟩
        rw [hlen0, ← hlenU, List.length_cons, List.length_nil]
        omega
      | nil =>
        rw [hU] at j3 hlenU
        have hp' : idxI (nI m'.1 0) = 0 := j3.head
        have t2 : itS 0 (stS s 0 s.1 (([] : List Frm) ++ [alF 0], v, e, x, R, ())) (3 + 6 + j + 1 + 1 + 1) = stS (fullS (fullS s 0) 0) 0 m' (([] : List Frm), 0, 2, x, seenR S R, ()) := by
          show alS (alS (itS 0 (stS s 0 s.1 (([] : List Frm) ++ [alF 0], v, e, x, R, ())) (3 + 6 + j + 1)) 0) 0 = _
          rw [t1]
          show alS (alS (stS (fullS s 0) 0 m' (([] : List Frm) ++ [alF 3] ++ [popF 0 0 0], ((seenR S R).length : Int), 0, x, seenR S R, ())) 0) 0 = _
          rw [pop_none (s := fullS s 0) h0 h1 j3.fits hp']
          exact al_3 (s := fullS (fullS s 0) 0) h0 h1
        refine ⟨_, _, [], seenR S R, by omega, t2, ⟨⟨j3, stS_len.trans h.two, ⟨0, 2, x, stS_core (s := fullS (fullS s 0) 0) h0 h1⟩, hnd, hsub, hS'⟩, j2.len, .inr ?_⟩⟩
        unfold cE
        rw [stS_core (s := fullS (fullS s 0) 0) h0 h1]
        exact ⟨rfl, by rw [← hlenU]; rfl, by rw [hlen0]; rfl⟩
end Go.Proofs.YtjeiopkfdgllhaaGreat.V
