/- One core alone allocates and drops. -/
import Derived.Test.YtjeiopkfdgllhaaV27
set_option linter.unusedSimpArgs false
set_option linter.unusedVariables false
namespace Go.Proofs.Ytjeiopkfdgllhaa.V
open Go Go.RowKit Go.Proofs.Ytjeiopkfdgllhaa.Hz
set_option maxRecDepth 100000

abbrev Rest := Den (.cons tI (.cons tI (.cons tR3 (.cons tL .nil))))
section
variable {s : Sy} {k : Int} {m : Me} {F : List Frm} {r : Rest}
theorem al_at {f : Frm} (h0 : 0 ≤ k) (h1 : k < s.2.1.length) : alS (stS s k m (F ++ [f], r)) k = allocF (stS s k m (F ++ [f], r)) k f.1 f.2.1 f.2.2.1 f.2.2.2.1 := by
  obtain ⟨op, pc, q, l, u⟩ := f
  obtain rfl : u = () := rfl
  exact alS_some (topI_st h0 h1)
/-- Frames of a pop. -/
def popF (pc a b : Int) : Frm := ((1 : Int), pc, (a, b, (0 : Int), (0 : Int), (0 : Int), (0 : Int), (0 : Int), (0 : Int), ()), ([] : List Int), ())
theorem pop_0 {a b : Int} (h0 : 0 ≤ k) (h1 : k < s.2.1.length) (hf : Fits m) (hi : idxI (nI m.1 0) ≠ 0) : alS (stS s k m (F ++ [popF 0 a b], r)) k = stS s k m (F ++ [popF 1 (nI m.1 0) b], r) := by
  rw [al_at h0 h1]
  show pop0 (stS s k m (F ++ [popF 0 a b], r)) k 1 _ _ = _
  obtain ⟨e1, e2⟩ := load_word (m := m) (p := 0) (by decide) (by decide) hf
  unfold pop0
  show (if idxI (loadI m 0) = 0 then _ else setS (loadM m 0, (stS s k m (F ++ [popF 0 a b], r)).2) k ((1 : Int), (1 : Int), (loadI m 0, b, _), _, ())) = _
  rw [e1, e2, if_neg hi]
  exact setS_st h0 h1
theorem pop_1 {p b : Int} (h0 : 0 ≤ k) (h1 : k < s.2.1.length) (hf : Fits m) (hp : idxI (nI m.1 0) = p) (hp0 : 1 ≤ p) (hp1 : p < m.2.1.length) : alS (stS s k m (F ++ [popF 1 (nI m.1 0) b], r)) k = stS s k m (F ++ [popF 2 (nI m.1 0) (nI m.1 (lk p))], r) := by
  rw [al_at h0 h1]
  show setS (loadM m (atI (idxI (nI m.1 0)) 0), _) k ((1 : Int), (2 : Int), (nI m.1 0, loadI m (atI (idxI (nI m.1 0)) 0), _), _, ()) = _
  have := hf.2
  rw [hp, atI_link hp0 (by omega)]
  obtain ⟨e1, e2⟩ := load_link hp0 hp1 hf
  rw [e1, e2]
  exact setS_st h0 h1
theorem pop_2 {p : Int} (h0 : 0 ≤ k) (h1 : k < s.2.1.length) (hf : Fits m) (hp : idxI (nI m.1 0) = p) (hp0 : 1 ≤ p) (hp1 : p < m.2.1.length) (hg : nI m.2.1 p = 0) : alS (stS s k m (F ++ [popF 2 (nI m.1 0) (nI m.1 (lk p))], r)) k = stS s k (popM m p) (F, p, 0, r.2.2) := by
  rw [al_at h0 h1]
  have hl := hf.1
  show pop2 (stS s k m (F ++ [popF 2 (nI m.1 0) (nI m.1 (lk p))], r)) k 1 _ _ = _
  unfold pop2
  have hc : casB m 0 (nI m.1 0) = true := decide_eq_true ⟨by decide, by omega, rfl⟩
  show (bif casB m 0 (nI m.1 0) then backS (turnM (casM m 0 (nI m.1 0) (nextI (nI m.1 0) (nI m.1 (lk p)) 0)) (idxI (nI m.1 0)) 1, _) k (idxI (nI m.1 0)) 0 else _) = _
  rw [hc, cond_true, hp]
  have hcm : casM m 0 (nI m.1 0) (nextI (nI m.1 0) (nI m.1 (lk p)) 0) = (List.set (α := Int) m.1 0 (nextI (nI m.1 0) (nI m.1 (lk p)) 0), m.2) := by
    rw [show casM m 0 (nI m.1 0) (nextI (nI m.1 0) (nI m.1 (lk p)) 0) = storeM m 0 _ from if_pos ⟨by decide, by omega, rfl⟩]
    exact store_word (by decide) (by decide) hf
  rw [hcm]
  have ht : turnM (List.set (α := Int) m.1 0 (nextI (nI m.1 0) (nI m.1 (lk p)) 0), m.2) p 1 = popM m p := if_pos ⟨hp0, hp1, by show turnB (nI m.2.1 p) 1 = true; rw [hg]; decide⟩
  rw [ht]
  exact backS_st h0 h1
/-- No node is free. -/
theorem pop_none {a b : Int} (h0 : 0 ≤ k) (h1 : k < s.2.1.length) (hf : Fits m) (hi : idxI (nI m.1 0) = 0) : alS (stS s k m (F ++ [popF 0 a b], r)) k = ((stS s k m (F, 0, 2, r.2.2)).1, (stS s k m (F, 0, 2, r.2.2)).2.1, List.append (α := Evt) s.2.2.1 [(k, 9, 0, 0, 0, ())], ()) := by
  rw [al_at h0 h1]
  show pop0 (stS s k m (F ++ [popF 0 a b], r)) k 1 _ _ = _
  obtain ⟨e1, e2⟩ := load_word (m := m) (p := 0) (by decide) (by decide) hf
  unfold pop0
  show (if idxI (loadI m 0) = 0 then backS (logS (loadM m 0, (stS s k m (F ++ [popF 0 a b], r)).2) k 9 0 0 0) k 0 2 else _) = _
  rw [e1, e2, if_pos hi]
  have hc : isCoreB (stS s k m (F ++ [popF 0 a b], r)) k = true := by unfold isCoreB; rw [stS_len, decide_eq_true h0, decide_eq_true h1]; rfl
  show backS (logS (stS s k m (F ++ [popF 0 a b], r)) k 9 0 0 0) k 0 2 = _
  rw [show logS (stS s k m (F ++ [popF 0 a b], r)) k 9 0 0 0 = stS (s.1, s.2.1, List.append (α := Evt) s.2.2.1 [(k, 9, 0, 0, 0, ())], ()) k m (F ++ [popF 0 a b], r) from if_pos hc]
  exact backS_st (s := (s.1, s.2.1, List.append (α := Evt) s.2.2.1 [(k, 9, 0, 0, 0, ())], ())) h0 h1
/-- Frames of an allocation. -/
def alF (pc : Int) : Frm := ((7 : Int), pc, ((0 : Int), (0 : Int), (0 : Int), (0 : Int), (0 : Int), (0 : Int), (0 : Int), (0 : Int), ()), ([] : List Int), ())
theorem al_0 (h0 : 0 ≤ k) (h1 : k < s.2.1.length) (hl : F.length < 39) : alS (stS s k m (F ++ [alF 0], r)) k = stS s k m (F ++ [alF 1] ++ [popF 0 0 0], r) := by
  rw [al_at h0 h1]
  show thenS (stS s k m (F ++ [alF 0], r)) k 7 0 _ _ 1 0 = _
  unfold thenS
  rw [show wrap64 ((0 : Int) + 1) = 1 by decide +kernel, setS_st h0 h1, callP_st h0 h1 (by rw [List.length_append]; show F.length + 1 < 40; omega)]
  rfl
theorem al_1 {v : Int} {x : R3} {R : Li} (h0 : 0 ≤ k) (h1 : k < s.2.1.length) : alS (stS s k m (F ++ [alF 1], v, 0, x, R, ())) k = stS s k m (F, v, 0, x, R, ()) := by
  rw [al_at h0 h1]
  show allocS (stS s k m (F ++ [alF 1], v, 0, x, R, ())) k 7 1 _ _ = _
  unfold allocS
  rw [if_neg (by decide), if_pos rfl]
  unfold cE cV
  rw [stS_core h0 h1, if_pos rfl]
  exact backS_st h0 h1
theorem al_none {v : Int} {x : R3} (h0 : 0 ≤ k) (h1 : k < s.2.1.length) : alS (stS s k m (F ++ [alF 1], v, 2, x, ([] : Li), ())) k = stS s k m (F, 0, 2, x, ([] : Li), ()) := by
  rw [al_at h0 h1]
  show allocS (stS s k m (F ++ [alF 1], v, 2, x, ([] : Li), ())) k 7 1 _ _ = _
  unfold allocS
  rw [if_neg (by decide), if_pos rfl]
  unfold cE cV retL
  rw [stS_core h0 h1, if_neg (by show ¬ (2 : Int) = 0; decide), if_pos (show List.length ([] : Li) = 0 from rfl)]
  exact backS_st h0 h1
/-- Frames of a drop. -/
def dropF (pc p : Int) : Frm := ((8 : Int), pc, (p, (0 : Int), (0 : Int), (0 : Int), (0 : Int), (0 : Int), (0 : Int), (0 : Int), ()), ([] : List Int), ())
def pushF (pc p b : Int) : Frm := ((2 : Int), pc, (p, b, (0 : Int), (0 : Int), (0 : Int), (0 : Int), (0 : Int), (0 : Int), ()), ([] : List Int), ())
theorem dr_0 {p : Int} (h0 : 0 ≤ k) (h1 : k < s.2.1.length) (hl : F.length < 39) : alS (stS s k m (F ++ [dropF 0 p], r)) k = stS s k m (F ++ [dropF 1 p] ++ [pushF 0 p 0], r) := by
  rw [al_at h0 h1]
  show thenS (stS s k m (F ++ [dropF 0 p], r)) k 8 0 _ _ 2 p = _
  unfold thenS
  rw [show wrap64 ((0 : Int) + 1) = 1 by decide +kernel, setS_st h0 h1, callP_st h0 h1 (by rw [List.length_append]; show F.length + 1 < 40; omega)]
  rfl
theorem dr_1 {p : Int} (h0 : 0 ≤ k) (h1 : k < s.2.1.length) : alS (stS s k m (F ++ [dropF 1 p], r)) k = stS s k m (F, p, 0, r.2.2) := by
  rw [al_at h0 h1]
  show dropS (stS s k m (F ++ [dropF 1 p], r)) k 1 (dropF 1 p).2.2.1 ([] : Li) = _
  unfold dropS
  rw [if_neg (by decide), if_pos rfl]
  exact backS_st h0 h1
theorem push_0 {p b : Int} (h0 : 0 ≤ k) (h1 : k < s.2.1.length) (hf : Fits m) : alS (stS s k m (F ++ [pushF 0 p b], r)) k = stS s k m (F ++ [pushF 1 p (nI m.1 0)], r) := by
  rw [al_at h0 h1]
  show setS (loadM m 0, _) k ((2 : Int), (1 : Int), (p, loadI m 0, _), _, ()) = _
  obtain ⟨e1, e2⟩ := load_word (m := m) (p := 0) (by decide) (by decide) hf
  rw [e1, e2]
  exact setS_st h0 h1
theorem push_1 {p b : Int} (h0 : 0 ≤ k) (h1 : k < s.2.1.length) (hf : Fits m) (hp0 : 1 ≤ p) (hp1 : p < m.2.1.length) : alS (stS s k m (F ++ [pushF 1 p b], r)) k = stS s k (List.set (α := Int) m.1 (lk p).toNat (idxI b), m.2) (F ++ [pushF 2 p b], r) := by
  rw [al_at h0 h1]
  have := hf.2
  show setS (storeM m (atI p 0) (idxI b), _) k ((2 : Int), (2 : Int), _, _, ()) = _
  rw [atI_link hp0 (by omega), store_link hp0 hp1 hf]
  exact setS_st h0 h1
theorem push_2 {p : Int} (h0 : 0 ≤ k) (h1 : k < s.2.1.length) (hf : Fits m) (hp0 : 1 ≤ p) (hp1 : p < m.2.1.length) (hg : nI m.2.1 p = 1 ∨ nI m.2.1 p = 2) : alS (stS s k (List.set (α := Int) m.1 (lk p).toNat (idxI (nI m.1 0)), m.2) (F ++ [pushF 2 p (nI m.1 0)], r)) k = stS s k (pushM m p) (F, p, 0, r.2.2) := by
  rw [al_at h0 h1]
  have hl := hf.1
  have hlk := lk_is p
  obtain ⟨m', hm'⟩ : ∃ m' : Me, m' = (List.set (α := Int) m.1 (lk p).toNat (idxI (nI m.1 0)), m.2) := ⟨_, rfl⟩
  have hf' : Fits m' := by
    rw [hm']
    exact ⟨by show (List.set (α := Int) m.1 _ _).length = _; rw [List.length_set]; exact hl, hf.2⟩
  have h00 : nI m'.1 0 = nI m.1 0 := by
    rw [hm']
    have := nI_set (l := m.1) (i := lk p) (j := 0) (v := idxI (nI m.1 0)) (by omega) (by decide)
    rw [if_neg (by omega)] at this
    exact this
  have hl' : m'.1.length = 124 + 4 * m'.2.1.length := hf'.1
  rw [← hm']
  show push2 (stS s k m' (F ++ [pushF 2 p (nI m.1 0)], r)) k 2 _ _ = _
  unfold push2
  have hc : casB m' 0 (nI m.1 0) = true := decide_eq_true ⟨by decide, by omega, h00⟩
  show (bif casB m' 0 (nI m.1 0) then backS (turnM (casM m' 0 (nI m.1 0) (nextI (nI m.1 0) p 0)) p 0, _) k p 0 else _) = _
  rw [hc, cond_true]
  have hcm : casM m' 0 (nI m.1 0) (nextI (nI m.1 0) p 0) = (List.set (α := Int) m'.1 0 (nextI (nI m.1 0) p 0), m'.2) := by
    rw [show casM m' 0 (nI m.1 0) (nextI (nI m.1 0) p 0) = storeM m' 0 _ from if_pos ⟨by decide, by omega, h00⟩]
    exact store_word (by decide) (by decide) hf'
  rw [hcm, hm']
  have ht : turnM (List.set (α := Int) (List.set (α := Int) m.1 (lk p).toNat (idxI (nI m.1 0))) 0 (nextI (nI m.1 0) p 0), m.2) p 0 = pushM m p := if_pos ⟨hp0, hp1, by show turnB (nI m.2.1 p) 0 = true; rcases hg with e | e <;> rw [e] <;> decide⟩
  show backS (turnM (List.set (α := Int) (List.set (α := Int) m.1 (lk p).toNat (idxI (nI m.1 0))) 0 (nextI (nI m.1 0) p 0), m.2) p 0, _) k p 0 = _
  rw [ht]
  exact backS_st h0 h1
end
end Go.Proofs.Ytjeiopkfdgllhaa.V
