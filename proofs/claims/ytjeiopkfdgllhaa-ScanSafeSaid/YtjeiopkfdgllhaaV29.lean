/- Whole ops of one core alone; a new system's free list. -/
import Derived.Test.YtjeiopkfdgllhaaV28
set_option linter.unusedSimpArgs false
set_option linter.unusedVariables false
namespace Go.Proofs.Ytjeiopkfdgllhaa.V
open Go Go.RowKit Go.Proofs.Ytjeiopkfdgllhaa.Hz
set_option maxRecDepth 100000

theorem itS_idle {k : Int} {s : Sy} {i : Nat} (h : topI (itS k s i) k = none) : ∀ j, i ≤ j → itS k s j = itS k s i
  | j, hj => by
    by_cases c : i = j
    · rw [c]
    · obtain ⟨j', rfl⟩ : ∃ j', j = j' + 1 := ⟨j - 1, by omega⟩
      have ih := itS_idle h j' (by omega)
      show alS (itS k s j') k = _
      rw [ih]
      exact alS_none h
theorem itS_add (k : Int) (s : Sy) (i : Nat) : ∀ j, itS k s (i + j) = itS k (itS k s i) j
  | 0 => rfl
  | j + 1 => by
    show alS (itS k s (i + j)) k = alS (itS k (itS k s i) j) k
    rw [itS_add k s i j]
/-- A line more in the log. -/
def fullS (s : Sy) (k : Int) : Sy := (s.1, s.2.1, List.append (α := Evt) s.2.2.1 [(k, 9, 0, 0, 0, ())], ())
section
variable {s : Sy} {k : Int} {m : Me} {F : List Frm} {v e : Int} {x : R3} {R : Li}
theorem pop_run {r : Rest} {p : Int} {l : List Int} (h0 : 0 ≤ k) (h1 : k < s.2.1.length) (h : FL m (p :: l)) : itS k (stS s k m (F ++ [popF 0 0 0], r)) 3 = stS s k (popM m p) (F, p, 0, r.2.2) := by
  have hp : idxI (nI m.1 0) = p := h.head.1
  obtain ⟨p0, p1, hg⟩ := (h.mem p).1 (List.mem_cons_self ..)
  show alS (alS (alS (stS s k m (F ++ [popF 0 0 0], r)) k) k) k = _
  rw [pop_0 h0 h1 h.fits (by omega), pop_1 h0 h1 h.fits hp p0 p1, pop_2 h0 h1 h.fits hp p0 p1 hg]
theorem alloc_run {p : Int} {l : List Int} (h0 : 0 ≤ k) (h1 : k < s.2.1.length) (hl : F.length < 39) (h : FL m (p :: l)) : itS k (stS s k m (F ++ [alF 0], v, e, x, R, ())) 5 = stS s k (popM m p) (F, p, 0, x, R, ()) := by
  rw [show 5 = 1 + 3 + 1 from rfl, itS_add, itS_add]
  rw [show itS k (stS s k m (F ++ [alF 0], v, e, x, R, ())) 1 = _ from al_0 h0 h1 hl, pop_run h0 h1 h]
  exact al_1 h0 h1
theorem alloc_full (h0 : 0 ≤ k) (h1 : k < s.2.1.length) (hl : F.length < 39) (h : FL m []) : itS k (stS s k m (F ++ [alF 0], v, e, x, ([] : Li), ())) 3 = stS (fullS s k) k m (F, 0, 2, x, ([] : Li), ()) := by
  have hp : idxI (nI m.1 0) = 0 := h.head
  show alS (alS (alS (stS s k m (F ++ [alF 0], v, e, x, ([] : Li), ())) k) k) k = _
  rw [al_0 h0 h1 hl, pop_none h0 h1 h.fits hp]
  exact al_none (s := fullS s k) h0 h1
theorem push_run {r : Rest} {p : Int} {l : List Int} (h0 : 0 ≤ k) (h1 : k < s.2.1.length) (h : FL m l) (p0 : 1 ≤ p) (p1 : p < m.2.1.length) (hg : nI m.2.1 p = 1 ∨ nI m.2.1 p = 2) : itS k (stS s k m (F ++ [pushF 0 p 0], r)) 3 = stS s k (pushM m p) (F, p, 0, r.2.2) := by
  show alS (alS (alS (stS s k m (F ++ [pushF 0 p 0], r)) k) k) k = _
  rw [push_0 h0 h1 h.fits, push_1 h0 h1 h.fits p0 p1, push_2 h0 h1 h.fits p0 p1 hg]
theorem drop_run {p : Int} {l : List Int} (h0 : 0 ≤ k) (h1 : k < s.2.1.length) (hl : F.length < 39) (h : FL m l) (p0 : 1 ≤ p) (p1 : p < m.2.1.length) (hg : nI m.2.1 p = 1) : itS k (stS s k m (F ++ [dropF 0 p], v, e, x, R, ())) 5 = stS s k (pushM m p) (F, p, 0, x, R, ()) := by
  rw [show 5 = 1 + 3 + 1 from rfl, itS_add, itS_add]
  rw [show itS k (stS s k m (F ++ [dropF 0 p], v, e, x, R, ())) 1 = _ from dr_0 h0 h1 hl, push_run h0 h1 h p0 p1 (.inl hg)]
  exact dr_1 h0 h1
end
/-! ### A new system -/
/-- So many numbers from one on. -/
def up : Nat → Int → List Int
  | 0, _ => []
  | j + 1, a => a :: up j (a + 1)
theorem up_mem : ∀ (j : Nat) (a p : Int), p ∈ up j a ↔ a ≤ p ∧ p < a + j
  | 0, a, p => by
    constructor
    · intro h; cases h
    · intro h; omega
  | j + 1, a, p => by
    show p ∈ a :: up j (a + 1) ↔ _
    rw [List.mem_cons, up_mem j (a + 1) p]
    omega
theorem up_nodup : ∀ (j : Nat) (a : Int), (up j a).Nodup
  | 0, _ => List.nodup_nil
  | j + 1, a => List.nodup_cons.2 ⟨fun h => by have := (up_mem j (a + 1) a).1 h; omega, up_nodup j (a + 1)⟩
theorem nI_rep {n : Nat} {i : Int} : nI (List.replicate n (0 : Int)) i = 0 := by
  show List.getD (List.replicate n (0 : Int)) i.toNat 0 = 0
  rw [List.getD_eq_getElem?_getD, List.getElem?_replicate]
  split <;> rfl
theorem fill_at {n : Nat} (h1 : 1 ≤ n) (h2 : n ≤ 200) : ∀ j : Nat, j ≤ n → (fillN (newI n) n j).2 = (newI n).2 ∧ (fillN (newI n) n j).1.length = 128 + 4 * n ∧ ∀ q : Int, 1 ≤ q → q ≤ n → nI (fillN (newI n) n j).1 (lk q) = if q ≤ j then (if q = n then 0 else q + 1) else 0
  | 0, _ => by
    refine ⟨rfl, ?_, fun q h1 h2 => ?_⟩
    · show (List.replicate _ _).length = _
      rw [List.length_replicate]; omega
    · rw [if_neg (by omega)]
      exact nI_rep
  | j + 1, hj => by
    obtain ⟨e1, e2, e3⟩ := fill_at h1 h2 j (by omega)
    have hg : (newI n).2.1.length = n + 1 := by show (List.replicate _ _).length = _; rw [List.length_replicate]; omega
    have hf : Fits (fillN (newI n) n j) := ⟨by rw [e2, e1, hg]; omega, by rw [e1, hg]; omega⟩
    have hlk := lk_is ((j : Int) + 1)
    have hst : fillN (newI n) n (j + 1) = (List.set (α := Int) (fillN (newI n) n j).1 (lk ((j : Int) + 1)).toNat (if (j : Int) + 1 = n then 0 else (j : Int) + 2), (fillN (newI n) n j).2) := by
      show storeM _ (atI ((j : Int) + 1) 0) _ = _
      rw [atI_link (by omega) (by omega)]
      exact store_link (by omega) (by rw [e1, hg]; omega) hf
    rw [hst]
    refine ⟨e1, ?_, fun q q1 q2 => ?_⟩
    · show (List.set (α := Int) _ _ _).length = _
      rw [List.length_set]; exact e2
    · have hlq := lk_is q
      show nI (List.set (α := Int) _ _ _) (lk q) = _
      rw [nI_set (by omega) (by omega)]
      by_cases c : q = (j : Int) + 1
      · subst c
        rw [if_pos ⟨rfl, by rw [e2]; omega⟩, if_pos (show (j : Int) + 1 ≤ ((j + 1 : Nat) : Int) by omega)]
        by_cases d : (j : Int) + 1 = n
        · rw [if_pos d, if_pos d]
        · rw [if_neg d, if_neg d]; omega
      · rw [if_neg (by omega), e3 q q1 q2]
        by_cases d : q ≤ j
        · rw [if_pos d, if_pos (show q ≤ ((j + 1 : Nat) : Int) by omega)]
        · rw [if_neg d, if_neg (show ¬ q ≤ ((j + 1 : Nat) : Int) by omega)]
theorem chain_up {W : Li} {n : Nat} (hW : ∀ q : Int, 1 ≤ q → q ≤ n → nI W (lk q) = if q = n then 0 else q + 1) : ∀ (j : Nat) (a : Int), 1 ≤ a → a + j = n + 1 → Chain W (if a ≤ n then a else 0) (up j a)
  | 0, a, _, h => by rw [if_neg (by omega)]; rfl
  | j + 1, a, h1, h => by
    rw [if_pos (by omega)]
    refine ⟨rfl, ?_⟩
    have ih := chain_up hW j (a + 1) (by omega) (by omega)
    rw [hW a h1 (by omega)]
    by_cases c : a = n
    · rw [if_pos c]; rw [if_neg (by omega)] at ih; exact ih
    · rw [if_neg c]; rw [if_pos (by omega)] at ih; exact ih
theorem FL.filled {n : Nat} (h1 : 1 ≤ n) (h2 : n ≤ 200) : FL (fillM (newI n)) (up n 1) := by
  have hg : (newI n).2.1.length = n + 1 := by show (List.replicate _ _).length = _; rw [List.length_replicate]; omega
  obtain ⟨e1, e2, e3⟩ := fill_at h1 h2 n (Nat.le_refl _)
  have hf : Fits (fillN (newI n) n n) := ⟨by rw [e2, e1, hg]; omega, by rw [e1, hg]; omega⟩
  have hM : fillM (newI n) = (List.set (α := Int) (fillN (newI n) n n).1 (0 : Int).toNat 2, (fillN (newI n) n n).2) := by
    unfold fillM
    rw [hg, show ((n + 1 : Nat) : Int) - 1 = n by omega, show n + 1 - 1 = n from rfl]
    exact store_word (by decide) (by decide) hf
  have hlen : (List.set (α := Int) (fillN (newI n) n n).1 (0 : Int).toNat 2).length = 128 + 4 * n := by rw [List.length_set]; exact e2
  rw [hM, e1]
  refine ⟨⟨by show (List.set (α := Int) _ _ _).length = _; rw [hlen, hg]; omega, by rw [hg]; omega⟩, ?_, up_nodup _ _, fun p => ?_, rfl⟩
  · have e0 : nI (List.set (α := Int) (fillN (newI n) n n).1 (0 : Int).toNat 2) 0 = 2 := by
      rw [nI_set (by decide) (by decide), if_pos ⟨rfl, by rw [e2]; omega⟩]
    show Chain (List.set (α := Int) (fillN (newI n) n n).1 (0 : Int).toNat 2) (idxI (nI (List.set (α := Int) (fillN (newI n) n n).1 (0 : Int).toNat 2) 0)) _
    rw [e0]
    have h := chain_up (W := List.set (α := Int) (fillN (newI n) n n).1 (0 : Int).toNat 2) (n := n) (fun q q1 q2 => by
      have hlq := lk_is q
      rw [nI_set (by decide) (by omega), if_neg (by omega), e3 q q1 q2, if_pos q2]) n 1 (by decide) (by omega)
    rw [if_pos (by omega)] at h
    exact h
  · rw [up_mem, hg]
    show _ ↔ 1 ≤ p ∧ p < ((n + 1 : Nat) : Int) ∧ nI (List.replicate _ (0 : Int)) p = 0
    rw [nI_rep]
    omega
end Go.Proofs.Ytjeiopkfdgllhaa.V
