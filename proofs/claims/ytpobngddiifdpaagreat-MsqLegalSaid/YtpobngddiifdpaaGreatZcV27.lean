/- The document's: is it the same? parts, new systems. -/
import Derived.Test.YtpobngddiifdpaaGreatZcPlanW
import Derived.Test.YtpobngddiifdpaaGreatZcV21
set_option linter.unusedSimpArgs false
set_option linter.unusedVariables false
namespace Go.Proofs.YtpobngddiifdpaaGreat.V
open Go Go.RowKit Go.Proofs.YtpobngddiifdpaaGreat.Hz
set_option maxRecDepth 100000

theorem s_refIntsSame (a : Li) (ha : a.length ≤ 1000000) : Spec Tryz.prog 26 [vL a, vL a] (vB true) := by
  have h := s_refInts a a (by omega)
  rw [sameB_yes rfl] at h
  exact h
/-! ### New systems, of arguments that may not be, too -/
end Go.Proofs.YtpobngddiifdpaaGreat.V

set_option linter.unusedSimpArgs false
set_option linter.unusedVariables false
namespace Go.Proofs.YtpobngddiifdpaaGreat.V
open Go Go.RowKit Go.Proofs.YtpobngddiifdpaaGreat.Hz
set_option maxRecDepth 100000

/-- A system whose memory is m, and whose core k is c. -/
def stS (s : Sy) (k : Int) (m : Me) (c : Cor) : Sy := (m, List.set (α := Cor) s.2.1 k.toNat c, s.2.2.1, ())
section
variable {s : Sy} {k : Int} {m : Me} {c : Cor} {F : List Frm} {f g : Frm} {r : Den (.cons tI (.cons tI (.cons tR3 (.cons tL .nil))))}
theorem stS_len : (stS s k m c).2.1.length = s.2.1.length := List.length_set
theorem stS_core (h0 : 0 ≤ k) (h1 : k < s.2.1.length) : cAt (stS s k m c).2.1 k = c := getD_set (by omega)
theorem stS_self (h0 : 0 ≤ k) (h1 : k < s.2.1.length) : stS s k s.1 (cAt s.2.1 k) = s := by
  have e : List.set (α := Cor) s.2.1 k.toNat (cAt s.2.1 k) = s.2.1 := by
    apply List.ext_getElem?
    intro j
    by_cases hj : k.toNat = j
    · subst hj
      rw [List.getElem?_set_self (by omega)]
      unfold cAt
      rw [List.getD_eq_getElem?_getD, List.getElem?_eq_getElem (by omega)]
      rfl
    · rw [List.getElem?_set_ne hj]
  unfold stS
  rw [e]
theorem topI_is (h0 : 0 ≤ k) (h1 : k < s.2.1.length) : topI s k = (cAt s.2.1 k).1.getLast? := by
  unfold topI
  rw [if_pos h0]
  unfold cAt
  rw [List.getD_eq_getElem?_getD, List.getElem?_eq_getElem (by omega)]
  rfl
theorem topI_st (h0 : 0 ≤ k) (h1 : k < s.2.1.length) : topI (stS s k m (F ++ [f], r)) k = some f := by
  rw [topI_is h0 (by rw [stS_len]; exact h1), stS_core h0 h1]
  exact List.getLast?_concat
theorem withS_st {c' : Cor} : withS (stS s k m c) k c' = stS s k m c' := by
  unfold withS stS
  show (m, List.set (List.set (α := Cor) s.2.1 k.toNat c) k.toNat c', s.2.2.1, ()) = _
  rw [List.set_set]
theorem setS_st (h0 : 0 ≤ k) (h1 : k < s.2.1.length) : setS (stS s k m (F ++ [f], r)) k g = stS s k m (F ++ [g], r) := by
  unfold setS
  rw [topI_st h0 h1, if_pos (show (some f).isSome = true from rfl), stS_core h0 h1, withS_st]
  show stS s k m (List.set (F ++ [f]) (((F ++ [f]).length : Int) - 1).toNat g, r) = _
  have e : (((F ++ [f]).length : Int) - 1).toNat = F.length := by rw [List.length_append, List.length_singleton]; omega
  rw [e, List.set_append_right _ _ (Nat.le_refl _), Nat.sub_self]
  rfl
theorem backS_st {v e : Int} (h0 : 0 ≤ k) (h1 : k < s.2.1.length) : backS (stS s k m (F ++ [f], r)) k v e = stS s k m (F, v, e, r.2.2) := by
  unfold backS
  rw [topI_st h0 h1, if_pos (show (some f).isSome = true from rfl), stS_core h0 h1, withS_st]
  show stS s k m (List.take (((F ++ [f]).length : Int) - 1).toNat (F ++ [f]), v, e, r.2.2) = _
  have e : (((F ++ [f]).length : Int) - 1).toNat = F.length := by rw [List.length_append, List.length_singleton]; omega
  rw [e, List.take_left]
theorem callS_st {op a b d : Int} (h0 : 0 ≤ k) (h1 : k < s.2.1.length) (hl : F.length < 40) : callS (stS s k m (F, r)) k op a b d = stS s k m (F ++ [frm0 op a b d], r) := by
  unfold callS pushS
  rw [stS_core h0 h1, stS_len, if_pos ⟨h0, h1, hl⟩, withS_st]
theorem callP_st {op a : Int} (h0 : 0 ≤ k) (h1 : k < s.2.1.length) (hl : F.length < 40) : callP (stS s k m (F, r)) k op a = stS s k m (F ++ [frm0 op a 0 0], r) := by
  unfold callP pushS
  rw [stS_core h0 h1, if_pos ⟨by unfold isCoreB; rw [stS_len, decide_eq_true h0, decide_eq_true h1]; rfl, hl⟩, withS_st]
theorem keptS_st {l : Li} (h0 : 0 ≤ k) (h1 : k < s.2.1.length) : keptS (stS s k m c) k l = stS s k m (c.1, c.2.1, c.2.2.1, c.2.2.2.1, l, ()) := by
  unfold keptS
  rw [stS_core h0 h1, withS_st]
theorem callS_self {op a b d : Int} (h0 : 0 ≤ k) (h1 : k < s.2.1.length) (hl : (cAt s.2.1 k).1.length < 40) : callS s k op a b d = stS s k s.1 ((cAt s.2.1 k).1 ++ [frm0 op a b d], (cAt s.2.1 k).2) := by
  have h := callS_st (s := s) (k := k) (m := s.1) (F := (cAt s.2.1 k).1) (r := (cAt s.2.1 k).2) (op := op) (a := a) (b := b) (d := d) h0 h1 hl
  rw [show stS s k s.1 ((cAt s.2.1 k).1, (cAt s.2.1 k).2) = s from stS_self h0 h1] at h
  exact h
end
/-! ### Retired nodes, counted -/
end Go.Proofs.YtpobngddiifdpaaGreat.V

set_option linter.unusedSimpArgs false
set_option linter.unusedVariables false
namespace Go.Proofs.YtpobngddiifdpaaGreat.V
open Go Go.RowKit Go.Proofs.YtpobngddiifdpaaGreat.Hz
set_option maxRecDepth 100000

/-! ### Addresses -/
/-- The place of a node's link. -/
def lk (p : Int) : Int := 128 + 4 * (p - 1)
theorem lk_is (p : Int) : lk p = 128 + 4 * (p - 1) := rfl
theorem atI_link {p : Int} (h0 : 1 ≤ p) (h1 : p ≤ 1000) : atI p 0 = lk p := by
  rw [atI_is (by omega) (by omega) (by omega) (by omega), lk_is]
  omega
theorem badB_link {m : Me} {p : Int} (h0 : 1 ≤ p) (h1 : p < m.2.1.length) (hf : Fits m) : badB m (lk p) = m.2.2.1 := by
  have hlk := lk_is p
  have hn : nodeI m.2.1.length (lk p) = 0 := if_neg (by omega)
  have := hf.1
  unfold badB
  rw [hn, decide_eq_false (by show ¬ (lk p < 0 ∨ (m.1.length : Int) ≤ lk p); omega)]
  simp
theorem badB_word {m : Me} {p : Int} (h0 : 0 ≤ p) (h1 : p < 124) (hf : Fits m) : badB m p = m.2.2.1 := by
  have hn : nodeI m.2.1.length p = 0 := if_neg (by omega)
  have := hf.1
  unfold badB
  rw [hn, decide_eq_false (by omega)]
  simp
theorem load_link {m : Me} {p : Int} (h0 : 1 ≤ p) (h1 : p < m.2.1.length) (hf : Fits m) : loadM m (lk p) = m ∧ loadI m (lk p) = nI m.1 (lk p) := by
  have hlk := lk_is p
  have := hf.1
  exact ⟨by unfold loadM; rw [badB_link h0 h1 hf], if_neg (by omega)⟩
theorem load_word {m : Me} {p : Int} (h0 : 0 ≤ p) (h1 : p < 124) (hf : Fits m) : loadM m p = m ∧ loadI m p = nI m.1 p := by
  have := hf.1
  exact ⟨by unfold loadM; rw [badB_word h0 h1 hf], if_neg (by omega)⟩
theorem store_link {m : Me} {p v : Int} (h0 : 1 ≤ p) (h1 : p < m.2.1.length) (hf : Fits m) : storeM m (lk p) v = (List.set (α := Int) m.1 (lk p).toNat v, m.2) := by
  have hlk := lk_is p
  have := hf.1
  show (if lk p < 0 ∨ (m.1.length : Int) ≤ lk p then _ else _) = _
  rw [if_neg (by omega), badB_link h0 h1 hf]
theorem store_word {m : Me} {p v : Int} (h0 : 0 ≤ p) (h1 : p < 124) (hf : Fits m) : storeM m p v = (List.set (α := Int) m.1 p.toNat v, m.2) := by
  have := hf.1
  show (if p < 0 ∨ (m.1.length : Int) ≤ p then _ else _) = _
  rw [if_neg (by omega), badB_word h0 h1 hf]
theorem nI_set {l : Li} {i j v : Int} (hi : 0 ≤ i) (hj : 0 ≤ j) : nI (List.set (α := Int) l i.toNat v) j = if i = j ∧ i < l.length then v else nI l j := by
  show List.getD (List.set (α := Int) l i.toNat v) j.toNat 0 = _
  rw [List.getD_eq_getElem?_getD]
  by_cases c : i = j
  · subst c
    by_cases d : i < l.length
    · rw [if_pos ⟨rfl, d⟩, List.getElem?_set_self (by omega)]; rfl
    · rw [if_neg (fun e => d e.2)]
      show ((List.set (α := Int) l i.toNat v)[i.toNat]?).getD 0 = l.getD i.toNat 0
      rw [List.getD_eq_getElem?_getD, List.getElem?_eq_none (by rw [List.length_set]; omega), List.getElem?_eq_none (by omega)]
  · rw [if_neg (fun e => c e.1), List.getElem?_set_ne (by omega)]
    show _ = l.getD j.toNat 0
    rw [List.getD_eq_getElem?_getD]
theorem idx_next {w i : Int} (h0 : 0 ≤ i) (h1 : i < 1048576) : idxI (nextI w i 0) = i := by
  unfold idxI nextI
  omega
theorem tag_next {w i : Int} (h0 : 0 ≤ i) (h1 : i < 1048576) : tagI (nextI w i 0) = (tagI w + 1) % 1099511627776 := by
  unfold nextI
  generalize tagI w = t
  unfold tagI
  omega

/-! ### The list -/
/-- From a node on, the links lead through these. -/
def Chain (W : Li) : Int → List Int → Prop
  | p, [] => p = 0
  | p, q :: l => p = q ∧ Chain W (nI W (lk q)) l
theorem Chain.same {W W' : Li} : ∀ {l : List Int} {p : Int}, Chain W p l → (∀ q ∈ l, nI W' (lk q) = nI W (lk q)) → Chain W' p l
  | [], _, h, _ => h
  | q :: l, p, h, hs => ⟨h.1, by rw [hs q (List.mem_cons_self ..)]; exact Chain.same h.2 fun x hx => hs x (List.mem_cons_of_mem _ hx)⟩
/-- The nodes that are free are just those of this list, in order. -/
structure FL (m : Me) (l : List Int) : Prop where
  fits : Fits m
  head : Chain m.1 (idxI (nI m.1 0)) l
  nodup : l.Nodup
  mem : ∀ p : Int, p ∈ l ↔ 1 ≤ p ∧ p < m.2.1.length ∧ nI m.2.1 p = 0
  good : m.2.2.1 = false
/-- A node is taken out of the list. -/
def popM (m : Me) (p : Int) : Me := (List.set (α := Int) m.1 0 (nextI (nI m.1 0) (nI m.1 (lk p)) 0), List.set (α := Int) m.2.1 p.toNat 1, m.2.2)
theorem Chain.range {W : Li} {n : Int} : ∀ {l : List Int} {p : Int}, Chain W p l → (∀ q ∈ l, 1 ≤ q ∧ q < n) → 0 < n → 0 ≤ p ∧ p < n
  | [], p, h, _, hn => by have h : p = 0 := h; omega
  | q :: l, p, h, hs, _ => by have := hs q (List.mem_cons_self ..); have := h.1; omega
theorem FL.popped {m : Me} {p : Int} {l : List Int} (h : FL m (p :: l)) : FL (popM m p) l := by
  have hf := h.fits
  have hm := (h.mem p).1 (List.mem_cons_self ..)
  have h1 : m.1.length = 124 + 4 * m.2.1.length := hf.1
  have hr := Chain.range (n := m.2.1.length) h.head.2 (fun q hq => by have := (h.mem q).1 (List.mem_cons_of_mem _ hq); omega) (by omega)
  have hlt := hf.2
  have hnd := List.nodup_cons.1 h.nodup
  refine ⟨⟨by show (List.set (α := Int) m.1 0 _).length = 124 + 4 * (List.set (α := Int) m.2.1 _ _).length; rw [List.length_set, List.length_set]; exact h1, by show (List.set (α := Int) m.2.1 _ _).length ≤ 1000; rw [List.length_set]; exact hlt⟩, ?_, hnd.2, fun q => ?_, h.good⟩
  · have e0 : nI (popM m p).1 0 = nextI (nI m.1 0) (nI m.1 (lk p)) 0 := by
      have := nI_set (l := m.1) (i := 0) (j := 0) (v := nextI (nI m.1 0) (nI m.1 (lk p)) 0) (by decide) (by decide)
      rw [if_pos ⟨rfl, by omega⟩] at this
      exact this
    rw [e0, idx_next hr.1 (by omega)]
    refine h.head.2.same fun q hq => ?_
    have := (h.mem q).1 (List.mem_cons_of_mem _ hq)
    have hlq := lk_is q
    have := nI_set (l := m.1) (i := 0) (j := lk q) (v := nextI (nI m.1 0) (nI m.1 (lk p)) 0) (by decide) (by omega)
    rw [if_neg (by omega)] at this
    exact this
  · show q ∈ l ↔ 1 ≤ q ∧ q < (List.set (α := Int) m.2.1 p.toNat 1).length ∧ nI (List.set (α := Int) m.2.1 p.toNat 1) q = 0
    rw [List.length_set]
    have hq := h.mem q
    rw [List.mem_cons] at hq
    by_cases c : 0 ≤ q
    · rw [nI_set (by omega) c]
      by_cases d : p = q
      · subst d
        rw [if_pos ⟨rfl, by omega⟩]
        exact ⟨fun e => absurd e hnd.1, fun e => absurd e.2.2 (by decide)⟩
      · rw [if_neg (fun e => d e.1)]
        constructor
        · intro e; exact hq.1 (.inr e)
        · intro e
          rcases hq.2 e with e | e
          · exact absurd e.symm d
          · exact e
    · constructor
      · intro e; have := hq.1 (.inr e); omega
      · intro e; omega
/-- A node is laid in front. -/
def pushM (m : Me) (p : Int) : Me := (List.set (α := Int) (List.set (α := Int) m.1 (lk p).toNat (idxI (nI m.1 0))) 0 (nextI (nI m.1 0) p 0), List.set (α := Int) m.2.1 p.toNat 0, m.2.2)
theorem FL.pushed {m : Me} {p : Int} {l : List Int} (h : FL m l) (h0 : 1 ≤ p) (h1 : p < m.2.1.length) (hg : nI m.2.1 p ≠ 0) : FL (pushM m p) (p :: l) := by
  have hf := h.fits
  have h2 : m.1.length = 124 + 4 * m.2.1.length := hf.1
  have hlt := hf.2
  have hni : p ∉ l := fun e => hg ((h.mem p).1 e).2.2
  refine ⟨⟨by show (List.set (α := Int) (List.set (α := Int) m.1 _ _) 0 _).length = 124 + 4 * (List.set (α := Int) m.2.1 _ _).length; rw [List.length_set, List.length_set, List.length_set]; exact h2, by show (List.set (α := Int) m.2.1 _ _).length ≤ 1000; rw [List.length_set]; exact hlt⟩, ?_, List.nodup_cons.2 ⟨hni, h.nodup⟩, fun q => ?_, h.good⟩
  · have e0 : nI (pushM m p).1 0 = nextI (nI m.1 0) p 0 := by
      have := nI_set (l := List.set (α := Int) m.1 (lk p).toNat (idxI (nI m.1 0))) (i := 0) (j := 0) (v := nextI (nI m.1 0) p 0) (by decide) (by decide)
      rw [if_pos ⟨rfl, by rw [List.length_set]; omega⟩] at this
      exact this
    have e1 : ∀ q : Int, 1 ≤ q → nI (pushM m p).1 (lk q) = if q = p then idxI (nI m.1 0) else nI m.1 (lk q) := fun q hq => by
      have hlq := lk_is q
      have hlp := lk_is p
      have a := nI_set (l := List.set (α := Int) m.1 (lk p).toNat (idxI (nI m.1 0))) (i := 0) (j := lk q) (v := nextI (nI m.1 0) p 0) (by decide) (by omega)
      rw [if_neg (by omega)] at a
      have b := nI_set (l := m.1) (i := lk p) (j := lk q) (v := idxI (nI m.1 0)) (by omega) (by omega)
      by_cases c : q = p
      · subst c
        rw [if_pos ⟨rfl, by omega⟩] at b
        rw [if_pos rfl]
        exact a.trans b
      · rw [if_neg (by omega)] at b
        rw [if_neg c]
        exact a.trans b
    rw [e0, idx_next (by omega) (by omega)]
    refine ⟨rfl, ?_⟩
    rw [e1 p h0, if_pos rfl]
    refine h.head.same fun q hq => ?_
    have hq1 := (h.mem q).1 hq
    rw [e1 q hq1.1, if_neg (fun e : q = p => hni (by rw [← e]; exact hq))]
  · show q ∈ p :: l ↔ 1 ≤ q ∧ q < (List.set (α := Int) m.2.1 p.toNat 0).length ∧ nI (List.set (α := Int) m.2.1 p.toNat 0) q = 0
    rw [List.length_set, List.mem_cons]
    have hq := h.mem q
    by_cases c : 0 ≤ q
    · rw [nI_set (by omega) c]
      by_cases d : p = q
      · subst d
        rw [if_pos ⟨rfl, by omega⟩]
        exact ⟨fun _ => ⟨h0, h1, rfl⟩, fun _ => .inl rfl⟩
      · rw [if_neg (fun e => d e.1)]
        constructor
        · rintro (e | e)
          · exact absurd e.symm d
          · exact hq.1 e
        · intro e; exact .inr (hq.2 e)
    · constructor
      · rintro (e | e)
        · omega
        · have := hq.1 e; omega
      · intro e; omega
end Go.Proofs.YtpobngddiifdpaaGreat.V
