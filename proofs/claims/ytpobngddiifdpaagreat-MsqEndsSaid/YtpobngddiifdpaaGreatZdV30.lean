/- The free list, and what one core alone does with it. -/
import Derived.Test.YtpobngddiifdpaaGreatZdV23
set_option linter.unusedSimpArgs false
set_option linter.unusedVariables false
namespace Go.Proofs.YtpobngddiifdpaaGreat.V
open Go Go.RowKit Go.Proofs.YtpobngddiifdpaaGreat.Hz
set_option maxRecDepth 100000

/-! ### Addresses -/
/-- The place of a node's link. -/
def lk (p : Int) : Int := 128 + 4 * (p - 1)
theorem lk_is (p : Int) : lk p = 128 + 4 * (p - 1) := rfl
theorem atI_link {p : Int} (h0 : 1 ≤ p) (h1 : p ≤ 1000) : atI p 0 = lk p := by
  rw [atI_is (by omega) (by omega) (by omega) (by omega), lk_is]
  omega
theorem badB_link {m : Me} {p : Int} (h0 : 1 ≤ p) (h1 : p < m.2.1.length) (hf : Fits m) : badB m (lk p) = m.2.2.1 := by
  have hlk := lk_is p
  have hn : nodeI m.2.1.length (lk p) = 0 := if_neg (by omega)
  have := hf.1
  unfold badB
  rw [hn, decide_eq_false (by show ¬ (lk p < 0 ∨ (m.1.length : Int) ≤ lk p); omega)]
  simp
theorem badB_word {m : Me} {p : Int} (h0 : 0 ≤ p) (h1 : p < 124) (hf : Fits m) : badB m p = m.2.2.1 := by
  have hn : nodeI m.2.1.length p = 0 := if_neg (by omega)
  have := hf.1
  unfold badB
  rw [hn, decide_eq_false (by omega)]
  simp
theorem load_link {m : Me} {p : Int} (h0 : 1 ≤ p) (h1 : p < m.2.1.length) (hf : Fits m) : loadM m (lk p) = m ∧ loadI m (lk p) = nI m.1 (lk p) := by
  have hlk := lk_is p
  have := hf.1
  exact ⟨by unfold loadM; rw [badB_link h0 h1 hf], if_neg (by omega)⟩
theorem load_word {m : Me} {p : Int} (h0 : 0 ≤ p) (h1 : p < 124) (hf : Fits m) : loadM m p = m ∧ loadI m p = nI m.1 p := by
  have := hf.1
  exact ⟨by unfold loadM; rw [badB_word h0 h1 hf], if_neg (by omega)⟩
theorem store_link {m : Me} {p v : Int} (h0 : 1 ≤ p) (h1 : p < m.2.1.length) (hf : Fits m) : storeM m (lk p) v = (List.set (α := Int) m.1 (lk p).toNat v, m.2) := by
  have hlk := lk_is p
  have := hf.1
  show (if lk p < 0 ∨ (m.1.length : Int) ≤ lk p then _ else _) = _
  rw [if_neg (by omega), badB_link h0 h1 hf]
theorem store_word {m : Me} {p v : Int} (h0 : 0 ≤ p) (h1 : p < 124) (hf : Fits m) : storeM m p v = (List.set (α := Int) m.1 p.toNat v, m.2) := by
  have := hf.1
  show (if p < 0 ∨ (m.1.length : Int) ≤ p then _ else _) = _
  rw [if_neg (by omega), badB_word h0 h1 hf]
theorem nI_set {l : Li} {i j v : Int} (hi : 0 ≤ i) (hj : 0 ≤ j) : nI (List.set (α := Int) l i.toNat v) j = if i = j ∧ i < l.length then v else nI l j := by
  show List.getD (List.set (α := Int) l i.toNat v) j.toNat 0 = _
  rw [List.getD_eq_getElem?_getD]
  by_cases c : i = j
  · subst c
    by_cases d : i < l.length
    · rw [if_pos ⟨rfl, d⟩, List.getElem?_set_self (by omega)]; rfl
    · rw [if_neg (fun e => d e.2)]
      show ((List.set (α := Int) l i.toNat v)[i.toNat]?).getD 0 = l.getD i.toNat 0
      rw [List.getD_eq_getElem?_getD, List.getElem?_eq_none (by rw [List.length_set]; omega), List.getElem?_eq_none (by omega)]
  · rw [if_neg (fun e => c e.1), List.getElem?_set_ne (by omega)]
    show _ = l.getD j.toNat 0
    rw [List.getD_eq_getElem?_getD]
theorem idx_next {w i : Int} (h0 : 0 ≤ i) (h1 : i < 1048576) : idxI (nextI w i 0) = i := by
  unfold idxI nextI
  omega
theorem tag_next {w i : Int} (h0 : 0 ≤ i) (h1 : i < 1048576) : tagI (nextI w i 0) = (tagI w + 1) % 1099511627776 := by
  unfold nextI
  generalize tagI w = t
  unfold tagI
  omega

/-! ### The list -/
/-- From a node on, the links lead through these. -/
def Chain (W : Li) : Int → List Int → Prop
  | p, [] => p = 0
  | p, q :: l => p = q ∧ Chain W (nI W (lk q)) l
theorem Chain.same {W W' : Li} : ∀ {l : List Int} {p : Int}, Chain W p l → (∀ q ∈ l, nI W' (lk q) = nI W (lk q)) → Chain W' p l
  | [], _, h, _ => h
  | q :: l, p, h, hs => ⟨h.1, by rw [hs q (List.mem_cons_self ..)]; exact Chain.same h.2 fun x hx => hs x (List.mem_cons_of_mem _ hx)⟩
/-- The nodes that are free are just those of this list, in order. -/
structure FL (m : Me) (l : List Int) : Prop where
  fits : Fits m
  head : Chain m.1 (idxI (nI m.1 0)) l
  nodup : l.Nodup
  mem : ∀ p : Int, p ∈ l ↔ 1 ≤ p ∧ p < m.2.1.length ∧ nI m.2.1 p = 0
  good : m.2.2.1 = false
/-- A node is taken out of the list. -/
def popM (m : Me) (p : Int) : Me := (List.set (α := Int) m.1 0 (nextI (nI m.1 0) (nI m.1 (lk p)) 0), List.set (α := Int) m.2.1 p.toNat 1, m.2.2)
theorem Chain.range {W : Li} {n : Int} : ∀ {l : List Int} {p : Int}, Chain W p l → (∀ q ∈ l, 1 ≤ q ∧ q < n) → 0 < n → 0 ≤ p ∧ p < n
  | [], p, h, _, hn => by have h : p = 0 := h; omega
  | q :: l, p, h, hs, _ => by have := hs q (List.mem_cons_self ..); have := h.1; omega
theorem FL.popped {m : Me} {p : Int} {l : List Int} (h : FL m (p :: l)) : FL (popM m p) l := by
  have hf := h.fits
  have hm := (h.mem p).1 (List.mem_cons_self ..)
  have h1 : m.1.length = 124 + 4 * m.2.1.length := hf.1
  have hr := Chain.range (n := m.2.1.length) h.head.2 (fun q hq => by have := (h.mem q).1 (List.mem_cons_of_mem _ hq); omega) (by omega)
  have hlt := hf.2
  have hnd := List.nodup_cons.1 h.nodup
  refine ⟨⟨by show (List.set (α := Int) m.1 0 _).length = 124 + 4 * (List.set (α := Int) m.2.1 _ _).length; rw [List.length_set, List.length_set]; exact h1, by show (List.set (α := Int) m.2.1 _ _).length ≤ 1000; rw [List.length_set]; exact hlt⟩, ?_, hnd.2, fun q => ?_, h.good⟩
  · have e0 : nI (popM m p).1 0 = nextI (nI m.1 0) (nI m.1 (lk p)) 0 := by
      have := nI_set (l := m.1) (i := 0) (j := 0) (v := nextI (nI m.1 0) (nI m.1 (lk p)) 0) (by decide) (by decide)
      rw [if_pos ⟨rfl, by omega⟩] at this
      exact this
    rw [e0, idx_next hr.1 (by omega)]
    refine h.head.2.same fun q hq => ?_
    have := (h.mem q).1 (List.mem_cons_of_mem _ hq)
    have hlq := lk_is q
    have := nI_set (l := m.1) (i := 0) (j := lk q) (v := nextI (nI m.1 0) (nI m.1 (lk p)) 0) (by decide) (by omega)
    rw [if_neg (by omega)] at this
    exact this
  · show q ∈ l ↔ 1 ≤ q ∧ q < (List.set (α := Int) m.2.1 p.toNat 1).length ∧ nI (List.set (α := Int) m.2.1 p.toNat 1) q = 0
    rw [List.length_set]
    have hq := h.mem q
    rw [List.mem_cons] at hq
    by_cases c : 0 ≤ q
    · rw [nI_set (by omega) c]
      by_cases d : p = q
      · subst d
        rw [if_pos ⟨rfl, by omega⟩]
        exact ⟨fun e => absurd e hnd.1, fun e => absurd e.2.2 (by decide)⟩
      · rw [if_neg (fun e => d e.1)]
        constructor
        · intro e; exact hq.1 (.inr e)
        · intro e
          rcases hq.2 e with e | e
          · exact absurd e.symm d
          · exact e
    · constructor
      · intro e; have := hq.1 (.inr e); omega
      · intro e; omega
/-- A node is laid in front. -/
def pushM (m : Me) (p : Int) : Me := (List.set (α := Int) (List.set (α := Int) m.1 (lk p).toNat (idxI (nI m.1 0))) 0 (nextI (nI m.1 0) p 0), List.set (α := Int) m.2.1 p.toNat 0, m.2.2)
theorem FL.pushed {m : Me} {p : Int} {l : List Int} (h : FL m l) (h0 : 1 ≤ p) (h1 : p < m.2.1.length) (hg : nI m.2.1 p ≠ 0) : FL (pushM m p) (p :: l) := by
  have hf := h.fits
  have h2 : m.1.length = 124 + 4 * m.2.1.length := hf.1
  have hlt := hf.2
  have hni : p ∉ l := fun e => hg ((h.mem p).1 e).2.2
  refine ⟨⟨by show (List.set (α := Int) (List.set (α := Int) m.1 _ _) 0 _).length = 124 + 4 * (List.set (α := Int) m.2.1 _ _).length; rw [List.length_set, List.length_set, List.length_set]; exact h2, by show (List.set (α := Int) m.2.1 _ _).length ≤ 1000; rw [List.length_set]; exact hlt⟩, ?_, List.nodup_cons.2 ⟨hni, h.nodup⟩, fun q => ?_, h.good⟩
  · have e0 : nI (pushM m p).1 0 = nextI (nI m.1 0) p 0 := by
      have := nI_set (l := List.set (α := Int) m.1 (lk p).toNat (idxI (nI m.1 0))) (i := 0) (j := 0) (v := nextI (nI m.1 0) p 0) (by decide) (by decide)
      rw [if_pos ⟨rfl, by rw [List.length_set]; omega⟩] at this
      exact this
    have e1 : ∀ q : Int, 1 ≤ q → nI (pushM m p).1 (lk q) = if q = p then idxI (nI m.1 0) else nI m.1 (lk q) := fun q hq => by
      have hlq := lk_is q
      have hlp := lk_is p
      have a := nI_set (l := List.set (α := Int) m.1 (lk p).toNat (idxI (nI m.1 0))) (i := 0) (j := lk q) (v := nextI (nI m.1 0) p 0) (by decide) (by omega)
      rw [if_neg (by omega)] at a
      have b := nI_set (l := m.1) (i := lk p) (j := lk q) (v := idxI (nI m.1 0)) (by omega) (by omega)
      by_cases c : q = p
      · subst c
        rw [if_pos ⟨rfl, by omega⟩] at b
        rw [if_pos rfl]
        exact a.trans b
      · rw [if_neg (by omega)] at b
        rw [if_neg c]
        exact a.trans b
    rw [e0, idx_next (by omega) (by omega)]
    refine ⟨rfl, ?_⟩
    rw [e1 p h0, if_pos rfl]
    refine h.head.same fun q hq => ?_
    have hq1 := (h.mem q).1 hq
    rw [e1 q hq1.1, if_neg (fun e : q = p => hni (by rw [← e]; exact hq))]
  · show q ∈ p :: l ↔ 1 ≤ q ∧ q < (List.set (α := Int) m.2.1 p.toNat 0).length ∧ nI (List.set (α := Int) m.2.1 p.toNat 0) q = 0
    rw [List.length_set, List.mem_cons]
    have hq := h.mem q
    by_cases c : 0 ≤ q
    · rw [nI_set (by omega) c]
      by_cases d : p = q
      · subst d
        rw [if_pos ⟨rfl, by omega⟩]
        exact ⟨fun _ => ⟨h0, h1, rfl⟩, fun _ => .inl rfl⟩
      · rw [if_neg (fun e => d e.1)]
        constructor
        · rintro (e | e)
          · exact absurd e.symm d
          · exact hq.1 e
        · intro e; exact .inr (hq.2 e)
    · constructor
      · rintro (e | e)
        · omega
        · have := hq.1 e; omega
      · intro e; omega
end Go.Proofs.YtpobngddiifdpaaGreat.V

set_option linter.unusedSimpArgs false
set_option linter.unusedVariables false
namespace Go.Proofs.YtpobngddiifdpaaGreat.V
open Go Go.RowKit Go.Proofs.YtpobngddiifdpaaGreat.Hz
set_option maxRecDepth 100000

abbrev Rest := Den (.cons tI (.cons tI (.cons tR3 (.cons tL .nil))))
section
variable {s : Sy} {k : Int} {m : Me} {F : List Frm} {r : Rest}
theorem al_at {f : Frm} (h0 : 0 ≤ k) (h1 : k < s.2.1.length) : alS (stS s k m (F ++ [f], r)) k = allocF (stS s k m (F ++ [f], r)) k f.1 f.2.1 f.2.2.1 f.2.2.2.1 := by
  obtain ⟨op, pc, q, l, u⟩ := f
  obtain rfl : u = () := rfl
  exact alS_some (topI_st h0 h1)
end
end Go.Proofs.YtpobngddiifdpaaGreat.V

set_option linter.unusedSimpArgs false
set_option linter.unusedVariables false
namespace Go.Proofs.YtpobngddiifdpaaGreat.V
open Go Go.RowKit Go.Proofs.YtpobngddiifdpaaGreat.Hz
set_option maxRecDepth 100000

/-! ### A new system -/
/-- So many numbers from one on. -/
def up : Nat → Int → List Int
  | 0, _ => []
  | j + 1, a => a :: up j (a + 1)
theorem up_mem : ∀ (j : Nat) (a p : Int), p ∈ up j a ↔ a ≤ p ∧ p < a + j
  | 0, a, p => by
    constructor
    · intro h; cases h
    · intro h; omega
  | j + 1, a, p => by
    show p ∈ a :: up j (a + 1) ↔ _
    rw [List.mem_cons, up_mem j (a + 1) p]
    omega
theorem up_nodup : ∀ (j : Nat) (a : Int), (up j a).Nodup
  | 0, _ => List.nodup_nil
  | j + 1, a => List.nodup_cons.2 ⟨fun h => by have := (up_mem j (a + 1) a).1 h; omega, up_nodup j (a + 1)⟩
theorem nI_rep {n : Nat} {i : Int} : nI (List.replicate n (0 : Int)) i = 0 := by
  show List.getD (List.replicate n (0 : Int)) i.toNat 0 = 0
  rw [List.getD_eq_getElem?_getD, List.getElem?_replicate]
  split <;> rfl
theorem fill_at {n : Nat} (h1 : 1 ≤ n) (h2 : n ≤ 200) : ∀ j : Nat, j ≤ n → (fillN (newI n) n j).2 = (newI n).2 ∧ (fillN (newI n) n j).1.length = 128 + 4 * n ∧ ∀ q : Int, 1 ≤ q → q ≤ n → nI (fillN (newI n) n j).1 (lk q) = if q ≤ j then (if q = n then 0 else q + 1) else 0
  | 0, _ => by
    refine ⟨rfl, ?_, fun q h1 h2 => ?_⟩
    · show (List.replicate _ _).length = _
      rw [List.length_replicate]; omega
    · rw [if_neg (by omega)]
      exact nI_rep
  | j + 1, hj => by
    obtain ⟨e1, e2, e3⟩ := fill_at h1 h2 j (by omega)
    have hg : (newI n).2.1.length = n + 1 := by show (List.replicate _ _).length = _; rw [List.length_replicate]; omega
    have hf : Fits (fillN (newI n) n j) := ⟨by rw [e2, e1, hg]; omega, by rw [e1, hg]; omega⟩
    have hlk := lk_is ((j : Int) + 1)
    have hst : fillN (newI n) n (j + 1) = (List.set (α := Int) (fillN (newI n) n j).1 (lk ((j : Int) + 1)).toNat (if (j : Int) + 1 = n then 0 else (j : Int) + 2), (fillN (newI n) n j).2) := by
      show storeM _ (atI ((j : Int) + 1) 0) _ = _
      rw [atI_link (by omega) (by omega)]
      exact store_link (by omega) (by rw [e1, hg]; omega) hf
    rw [hst]
    refine ⟨e1, ?_, fun q q1 q2 => ?_⟩
    · show (List.set (α := Int) _ _ _).length = _
      rw [List.length_set]; exact e2
    · have hlq := lk_is q
      show nI (List.set (α := Int) _ _ _) (lk q) = _
      rw [nI_set (by omega) (by omega)]
      by_cases c : q = (j : Int) + 1
      · subst c
        rw [if_pos ⟨rfl, by rw [e2]; omega⟩, if_pos (show (j : Int) + 1 ≤ ((j + 1 : Nat) : Int) by omega)]
        by_cases d : (j : Int) + 1 = n
        · rw [if_pos d, if_pos d]
        · rw [if_neg d, if_neg d]; omega
      · rw [if_neg (by omega), e3 q q1 q2]
        by_cases d : q ≤ j
        · rw [if_pos d, if_pos (show q ≤ ((j + 1 : Nat) : Int) by omega)]
        · rw [if_neg d, if_neg (show ¬ q ≤ ((j + 1 : Nat) : Int) by omega)]
theorem chain_up {W : Li} {n : Nat} (hW : ∀ q : Int, 1 ≤ q → q ≤ n → nI W (lk q) = if q = n then 0 else q + 1) : ∀ (j : Nat) (a : Int), 1 ≤ a → a + j = n + 1 → Chain W (if a ≤ n then a else 0) (up j a)
  | 0, a, _, h => by rw [if_neg (by omega)]; rfl
  | j + 1, a, h1, h => by
    rw [if_pos (by omega)]
    refine ⟨rfl, ?_⟩
    have ih := chain_up hW j (a + 1) (by omega) (by omega)
    rw [hW a h1 (by omega)]
    by_cases c : a = n
    · rw [if_pos c]; rw [if_neg (by omega)] at ih; exact ih
    · rw [if_neg c]; rw [if_pos (by omega)] at ih; exact ih
theorem FL.filled {n : Nat} (h1 : 1 ≤ n) (h2 : n ≤ 200) : FL (fillM (newI n)) (up n 1) := by
  have hg : (newI n).2.1.length = n + 1 := by show (List.replicate _ _).length = _; rw [List.length_replicate]; omega
  obtain ⟨e1, e2, e3⟩ := fill_at h1 h2 n (Nat.le_refl _)
  have hf : Fits (fillN (newI n) n n) := ⟨by rw [e2, e1, hg]; omega, by rw [e1, hg]; omega⟩
  have hM : fillM (newI n) = (List.set (α := Int) (fillN (newI n) n n).1 (0 : Int).toNat 2, (fillN (newI n) n n).2) := by
    unfold fillM
    rw [hg, show ((n + 1 : Nat) : Int) - 1 = n by omega, show n + 1 - 1 = n from rfl]
    exact store_word (by decide) (by decide) hf
  have hlen : (List.set (α := Int) (fillN (newI n) n n).1 (0 : Int).toNat 2).length = 128 + 4 * n := by rw [List.length_set]; exact e2
  rw [hM, e1]
  refine ⟨⟨by show (List.set (α := Int) _ _ _).length = _; rw [hlen, hg]; omega, by rw [hg]; omega⟩, ?_, up_nodup _ _, fun p => ?_, rfl⟩
  · have e0 : nI (List.set (α := Int) (fillN (newI n) n n).1 (0 : Int).toNat 2) 0 = 2 := by
      rw [nI_set (by decide) (by decide), if_pos ⟨rfl, by rw [e2]; omega⟩]
    show Chain (List.set (α := Int) (fillN (newI n) n n).1 (0 : Int).toNat 2) (idxI (nI (List.set (α := Int) (fillN (newI n) n n).1 (0 : Int).toNat 2) 0)) _
    rw [e0]
    have h := chain_up (W := List.set (α := Int) (fillN (newI n) n n).1 (0 : Int).toNat 2) (n := n) (fun q q1 q2 => by
      have hlq := lk_is q
      rw [nI_set (by decide) (by omega), if_neg (by omega), e3 q q1 q2, if_pos q2]) n 1 (by decide) (by omega)
    rw [if_pos (by omega)] at h
    exact h
  · rw [up_mem, hg]
    show _ ↔ 1 ≤ p ∧ p < ((n + 1 : Nat) : Int) ∧ nI (List.replicate _ (0 : Int)) p = 0
    rw [nI_rep]
    omega
end Go.Proofs.YtpobngddiifdpaaGreat.V

set_option linter.unusedSimpArgs false
set_option linter.unusedVariables false
namespace Go.Proofs.YtpobngddiifdpaaGreat.V
open Go Go.RowKit Go.Proofs.YtpobngddiifdpaaGreat.Hz
set_option maxRecDepth 100000

abbrev nC (s : Sy) : Nat := s.2.1.length
theorem withS_n {s : Sy} {k : Int} {c : Cor} : nC (withS s k c) = nC s := List.length_set
theorem setS_n {s : Sy} {k : Int} {f : Frm} : nC (setS s k f) = nC s := by unfold setS; split <;> first | exact withS_n | rfl
end Go.Proofs.YtpobngddiifdpaaGreat.V
