/- A core alone: each step of putting in or taking out brings it nearer to its end. -/
import Derived.Test.YtpobngddiifdpaaGreatZdU1
import Derived.Test.YtpobngddiifdpaaGreatZdN10
set_option linter.unusedSimpArgs false
set_option linter.unusedVariables false
namespace Go.Proofs.YtpobngddiifdpaaGreat.V
open Go Go.RowKit Go.Proofs.YtpobngddiifdpaaGreat.Hz
set_option maxRecDepth 100000

/-- Does the tail lag behind? -/
def lagN (m : Me) (q : Int) : Nat := if idxI (nx m (idxI (tlW m q))) = 0 then 0 else 1
theorem lagN_le {m : Me} {q : Int} : lagN m q ≤ 1 := by unfold lagN; split <;> decide
/-- OEnq's steps: of its last frame. -/
def costP (C : Nat) (m : Me) (n : Nat) (v : Int) (pc q t w : Int) : Nat :=
  if pc = 0 then 3 * C + 4 * n + 25 + 7 * lagN m q
  else if pc = 1 then 13 + 7 * lagN m q
  else if pc = 2 then 12 + 7 * lagN m q
  else if pc = 3 then 11 + 7 * lagN m q
  else if pc = 4 then 10 + 7 * lagN m q
  else if pc = 5 then 9 + 7 * lagN m q
  else if pc = 6 then (if v = tlW m q then 5 + 7 * lagN m q else 12 + 7 * lagN m q)
  else if pc = 7 then (if t = tlW m q then 4 + 7 * lagN m q else 11 + 7 * lagN m q)
  else if pc = 8 then (if t = tlW m q then 10 else 10 + 7 * lagN m q)
  else if pc = 9 then (if nx m (idxI t) = w then 3 else 10 + 7 * lagN m q)
  else if pc = 10 then 2 else 1
/-- ODeq's steps: of its last frame. -/
def costT (C : Nat) (m : Me) (n : Nat) (v : Int) (pc q h t : Int) : Nat :=
  if pc = 0 then 3 * C + 4 * n + 21 + 8 * lagN m q
  else if pc = 1 then (if v = hdW m q then 3 * C + 4 * n + 17 + 8 * lagN m q else 3 * C + 4 * n + 26 + 8 * lagN m q)
  else if pc = 2 then (if hdW m q = h then 3 * C + 4 * n + 16 + 8 * lagN m q else 3 * C + 4 * n + 25 + 8 * lagN m q)
  else if pc = 3 then (if hdW m q = h ∧ tlW m q = t then 3 * C + 4 * n + 15 + 8 * lagN m q else 3 * C + 4 * n + 24 + 8 * lagN m q)
  else if pc = 4 then (if tlW m q = t then 3 * C + 4 * n + 22 else 3 * C + 4 * n + 22 + 8 * lagN m q)
  else if pc = 5 then (if hdW m q = h then 3 * C + 4 * n + 14 else 3 * C + 4 * n + 23 + 8 * lagN m q)
  else if pc = 6 then (if hdW m q = h then 3 * C + 4 * n + 13 else 3 * C + 4 * n + 22 + 8 * lagN m q)
  else if pc = 7 then (if hdW m q = h then 3 * C + 4 * n + 12 else 3 * C + 4 * n + 23 + 8 * lagN m q)
  else if pc = 8 then (if hdW m q = h then 3 * C + 4 * n + 11 else 3 * C + 4 * n + 22 + 8 * lagN m q)
  else if pc = 9 then 2 else 1
/-- The first frame: the last one, too, or one that waits. -/
def costTop (C : Nat) (m : Me) (r : Rest) (f : Frm) : Nat :=
  if f.1 = 9 then costP C m (rtL r).length r.1 f.2.1 f.2.2.1.1 f.2.2.1.2.2.2.1 f.2.2.1.2.2.2.2.1
  else costT C m (rtL r).length r.1 f.2.1 f.2.2.1.1 f.2.2.1.2.2.1 f.2.2.1.2.2.2.1
def costWait (C : Nat) (m : Me) (n : Nat) (f : Frm) : Nat :=
  if f.1 = 9 then (if f.2.1 = 1 then 13 + 7 * lagN m f.2.2.1.1 else 5 + 7 * lagN m f.2.2.1.1)
  else (if f.2.1 = 1 then 3 * C + 4 * n + 17 + 8 * lagN m f.2.2.1.1 else 2)
/-- How many steps a core takes at most, alone. -/
def costC (C : Nat) (m : Me) (cr : Cor) : Nat := match cr.1 with
  | [] => 0
  | [f] => costTop C m cr.2 f
  | f :: g :: U => costWait C m (rtL cr.2).length f + costs C m (rtL cr.2).length (g :: U)
theorem costC_more {C : Nat} {m : Me} {f : Frm} {U : List Frm} {r : Rest} (h : U ≠ []) : costC C m (f :: U, r) = costWait C m (rtL r).length f + costs C m (rtL r).length U := by
  cases U with
  | nil => exact absurd rfl h
  | cons g U => rfl
section
variable {T : Int} {o : OM} {s : Sy} {N : NQ} {k : Nat} {r : Rest} {m : Me} {q a x : Int}
theorem lag_setW (ha : 0 ≤ a) (hq : IsQ q) (h1 : a ≠ tlP q) (h2 : a ≠ lk (idxI (tlW m q)) + 1) (hp : 1 ≤ idxI (tlW m q)) : lagN (setW m a x) q = lagN m q ∧ tlW (setW m a x) q = tlW m q := by
  have hsp := sp_lt hq
  have hlk := lk_is (idxI (tlW m q))
  have e1 : tlW (setW m a x) q = tlW m q := setW_ne ha (by omega) h1
  refine ⟨?_, e1⟩
  unfold lagN
  rw [e1, show nx (setW m a x) (idxI (tlW m q)) = nx m (idxI (tlW m q)) from setW_ne ha (by omega) h2]
/-- The node that the tail is moved on to is the last one. -/
theorem MsI.moved (h : MsI T o s N) (hq : IsQ q) {t n : Int} (ht : t = tlW s.1 q) (hn : idxI (nx s.1 (idxI t)) = n) (hn0 : n ≠ 0) (hn1 : 0 ≤ n ∧ n < 1048576) (hlen : 128 ≤ s.1.1.length) : lagN (setW s.1 (tlP q) (nextI t n 0)) q = 0 := by
  have hsp := sp_lt hq
  have hQ := h.qs.q q hq
  obtain ⟨A, hA⟩ := hQ.tail
  have htl : tlW (setW s.1 (tlP q) (nextI t n 0)) q = nextI t n 0 := setW_self (by omega) (by omega)
  unfold lagN
  rw [htl, idx_next hn1.1 hn1.2]
  have hch := hQ.head
  rcases hA with e | ⟨y, e⟩
  · rw [e] at hch
    have := hch.last
    rw [← ht, hn] at this
    exact absurd this hn0
  · rw [e] at hch
    have h1 : idxI (nx s.1 (idxI (tlW s.1 q))) = y := Chn.next (B := []) hch
    rw [← ht, hn] at h1
    subst h1
    have h2 : idxI (nx s.1 n) = 0 := Chn.last (A := A ++ [idxI (tlW s.1 q)]) (by rw [List.append_assoc]; exact hch)
    have hin := (h.qs.inn q n hq (by rw [e]; simp)).1
    have hlk := lk_is n
    have := hin.1
    rw [show nx (setW s.1 (tlP q) (nextI t n 0)) n = nx s.1 n from setW_ne (by omega) (by omega) (by omega), h2, if_pos rfl]
/-- Its steps get fewer. -/
theorem MsI.lessP {pc q v n t w : Int} {r3 : R3'} {l : Li} (h : MsI T o s N) (hk : k < s.2.1.length) (hc : cAt s.2.1 k = ([((9 : Int), pc, (q, v, n, t, w, r3), l, ())], r)) :
    costC s.2.1.length (lPut k s.1 pc q v n t w r3 l r).m ((lPut k s.1 pc q v n t w r3 l r).fs, (lPut k s.1 pc q v n t w r3 l r).r) < costP s.2.1.length s.1 (rtL r).length r.1 pc q t w := by
  obtain ⟨fl, hfl⟩ := h.mm.list
  have hfit := hfl.fits
  have hgood := hfl.good
  have hlen : 128 ≤ s.1.1.length := by have := hfit.1; have := h.mm.more; omega
  have hll := hfit.1
  have hll2 := hfit.2
  have hC := h.mm.cores
  have hco := h.core k hk
  rw [hc] at hco
  cases hco with
  | idle e => cases e
  | deq e' _ _ _ => exact nope (show (9 : Int) = 10 from (Prod.mk.inj (List.cons.inj e').1).1) rfl
  | enq e hq hU hI =>
  have e := List.cons.inj e
  obtain ⟨e1, rfl⟩ := e
  cases e1
  have hsp := sp_lt hq
  have htlP : 33 + 2 * q = tlP q := rfl
  have htS := h.qs.tailS hq
  have ht1 := htS.1.1
  have htk := lk_is (idxI (tlW s.1 q))
  have lag1 := lagN_le (m := s.1) (q := q)
  unfold lPut
  cases hI with
  | p1a _ u => obtain ⟨g, rest, u, _⟩ := u; cases u
  | p6a _ u => obtain ⟨g, u, _⟩ := u; cases u
  | p0 h1 _ =>
    subst h1
    rw [if_pos rfl, costC_more (by simp), costs_one]
    show 13 + 7 * lagN s.1 q + costM _ _ _ (frm0 7 0 0 0) < _
    rw [show costM s.2.1.length s.1 (rtL r).length (frm0 7 0 0 0) = 3 * s.2.1.length + 4 * (rtL r).length + 11 from cost7.trans (if_pos rfl)]
    show _ < 3 * s.2.1.length + 4 * (rtL r).length + 25 + 7 * lagN s.1 q
    omega
  | p1 h1 _ ht =>
    subst h1
    rw [if_neg (by decide), if_pos rfl]
    split
    · show 0 < 13 + 7 * lagN s.1 q; omega
    · show 12 + 7 * lagN s.1 q < 13 + 7 * lagN s.1 q; omega
  | p25 hp _ hn =>
    have hlive := live_of h.mm hn.inn hn.own
    have hlk := lk_is n
    have hn1 := hn.inn.1
    have hn2 := hn.inn.2
    have hne : n ≠ idxI (tlW s.1 q) := fun e => by
      have := htS.2
      rw [← e, hn.own] at this; cases this
    have hp4 : pc = 2 ∨ pc = 3 ∨ pc = 4 ∨ pc = 5 := by
      have key : ∀ x : Int, 2 ≤ x ∧ x ≤ 5 → x = 2 ∨ x = 3 ∨ x = 4 ∨ x = 5 := fun x hx => by omega
      exact key pc hp
    rcases hp4 with h1 | h1 | h1 | h1 <;> subst h1
    · rw [if_neg (by decide), if_neg (by decide), if_pos rfl, store_cell (by decide) hn.inn hlive hfit hgood]
      show 11 + 7 * lagN (setW s.1 (lk n + 3) v) q < 12 + 7 * lagN s.1 q
      rw [(lag_setW (m := s.1) (by omega) hq (by omega) (by omega) ht1).1]; omega
    · rw [if_neg (by decide), if_neg (by decide), if_neg (by decide), if_pos rfl]
      show 10 + 7 * lagN s.1 q < 11 + 7 * lagN s.1 q; omega
    · rw [if_neg (by decide), if_neg (by decide), if_neg (by decide), if_neg (by decide), if_pos rfl, store_cell (by decide) hn.inn hlive hfit hgood]
      show 9 + 7 * lagN (setW s.1 (lk n + 1) _) q < 10 + 7 * lagN s.1 q
      rw [(lag_setW (m := s.1) (by omega) hq (by omega) (by omega) ht1).1]; omega
    · rw [if_neg (by decide), if_neg (by decide), if_neg (by decide), if_neg (by decide), if_neg (by decide), if_pos rfl, costC_more (by simp), costs_one]
      show 5 + 7 * lagN s.1 q + costM _ _ _ (frm0 3 (33 + 2 * q) 0 0) < _
      rw [show costM s.2.1.length s.1 (rtL r).length (frm0 3 (33 + 2 * q) 0 0) = 3 from cost3.trans (if_pos rfl)]
      show _ < 9 + 7 * lagN s.1 q
      omega
  | p6 h1 _ hn ht =>
    subst h1
    rw [if_neg (by decide), if_neg (by decide), if_neg (by decide), if_neg (by decide), if_neg (by decide), if_neg (by decide), if_pos rfl]
    show (if r.1 = tlW s.1 q then 4 + 7 * lagN s.1 q else 11 + 7 * lagN s.1 q) < (if r.1 = tlW s.1 q then 5 + 7 * lagN s.1 q else 12 + 7 * lagN s.1 q)
    split <;> omega
  | p7 h1 _ hn ht =>
    subst h1
    obtain ⟨e1, e2⟩ := load_cell (j := 1) (by decide) ht.guard.inn (ht.guard.notFree h.mm.stat) hfit hgood
    rw [if_neg (by decide), if_neg (by decide), if_neg (by decide), if_neg (by decide), if_neg (by decide), if_neg (by decide), if_neg (by decide), if_pos rfl, e1, e2]
    show costP _ s.1 _ _ (if idxI (nI s.1.1 (lk (idxI t) + 1)) = 0 then 9 else 8) q t (nI s.1.1 (lk (idxI t) + 1)) < (if t = tlW s.1 q then 4 + 7 * lagN s.1 q else 11 + 7 * lagN s.1 q)
    by_cases c : idxI (nI s.1.1 (lk (idxI t) + 1)) = 0
    · rw [if_pos c]
      show (if nx s.1 (idxI t) = nI s.1.1 (lk (idxI t) + 1) then 3 else _) < _
      rw [if_pos (show nx s.1 (idxI t) = nI s.1.1 (lk (idxI t) + 1) from rfl)]
      split <;> omega
    · rw [if_neg c]
      show (if t = tlW s.1 q then 10 else 10 + 7 * lagN s.1 q) < _
      by_cases c2 : t = tlW s.1 q
      · rw [if_pos c2, if_pos c2]
        have : lagN s.1 q = 1 := by unfold lagN; rw [← c2]; exact if_neg c
        omega
      · rw [if_neg c2, if_neg c2]; omega
  | p8 h1 _ hn ht =>
    subst h1
    rw [if_neg (by decide), if_neg (by decide), if_neg (by decide), if_neg (by decide), if_neg (by decide), if_neg (by decide), if_neg (by decide), if_neg (by decide), if_pos rfl]
    show 9 + 7 * lagN (casM s.1 (tlP q) t (nextI t (idxI w) 0)) q < (if t = tlW s.1 q then 10 else 10 + 7 * lagN s.1 q)
    have hi : 0 ≤ idxI w ∧ idxI w < 1048576 := by unfold idxI; omega
    rcases cas_word (m := s.1) (a := tlP q) (w := t) (v := nextI t (idxI w) 0) (by omega) (by omega) hfit with ⟨c, _, e⟩ | ⟨c, _, e⟩
    · have c' : t = tlW s.1 q := c.symm
      rw [e, if_pos c', h.moved hq c' (ht.2.2 c) ht.2.1 hi hlen]; decide
    · rw [e, if_neg (fun e => c e.symm)]; omega
  | p9 h1 _ hn ht hw =>
    subst h1
    rw [if_neg (by decide), if_neg (by decide), if_neg (by decide), if_neg (by decide), if_neg (by decide), if_neg (by decide), if_neg (by decide), if_neg (by decide), if_neg (by decide), if_pos rfl]
    show _ < (if nx s.1 (idxI t) = w then 3 else 10 + 7 * lagN s.1 q)
    rcases cas_cell (j := 1) (v := nextI w n 0) (by decide) ht.guard.inn (ht.guard.notFree h.mm.stat) hfit hgood w with ⟨c, cb, cm⟩ | ⟨c, cb, cm⟩
    · rw [if_pos cb, if_pos (show nx s.1 (idxI t) = w from c)]
      show 2 < 3; decide
    · rw [if_neg (by rw [cb]; decide), if_neg (show ¬ nx s.1 (idxI t) = w from c), cm]
      show 9 + 7 * lagN s.1 q < 10 + 7 * lagN s.1 q; omega
  | p10 h1 _ hn ht =>
    subst h1
    rw [if_neg (by decide), if_neg (by decide), if_neg (by decide), if_neg (by decide), if_neg (by decide), if_neg (by decide), if_neg (by decide), if_neg (by decide), if_neg (by decide), if_neg (by decide), if_pos rfl]
    show 1 < 2; decide
  | p11 h1 _ =>
    subst h1
    rw [if_neg (by decide), if_neg (by decide), if_neg (by decide), if_neg (by decide), if_neg (by decide), if_neg (by decide), if_neg (by decide), if_neg (by decide), if_neg (by decide), if_neg (by decide), if_neg (by decide), if_pos rfl]
    show 0 < 1; decide
/-- Its steps get fewer. -/
theorem MsI.lessT {pc q v hh t w x e y : Int} {l : Li} (h : MsI T o s N) (hk : k < s.2.1.length) (hc : cAt s.2.1 k = ([((10 : Int), pc, (q, v, hh, t, w, x, e, y, ()), l, ())], r)) :
    costC s.2.1.length (lTake k s.1 pc q v hh t w x e y l r).m ((lTake k s.1 pc q v hh t w x e y l r).fs, (lTake k s.1 pc q v hh t w x e y l r).r) < costT s.2.1.length s.1 (rtL r).length r.1 pc q hh t := by
  obtain ⟨fl, hfl⟩ := h.mm.list
  have hfit := hfl.fits
  have hgood := hfl.good
  have hlen : 128 ≤ s.1.1.length := by have := hfit.1; have := h.mm.more; omega
  have hll := hfit.1
  have hll2 := hfit.2
  have hC := h.mm.cores
  have hco := h.core k hk
  rw [hc] at hco
  cases hco with
  | idle e => cases e
  | enq e' _ _ _ => exact nope (show (10 : Int) = 9 from (Prod.mk.inj (List.cons.inj e').1).1) rfl
  | deq e' hq hU hI =>
  have e' := List.cons.inj e'
  obtain ⟨e1, rfl⟩ := e'
  cases e1
  have hsp := sp_lt hq
  have hk8 : k < 8 := by omega
  have htS := h.qs.tailS hq
  have ht1 := htS.1.1
  have htk := lk_is (idxI (tlW s.1 q))
  have lag1 := lagN_le (m := s.1) (q := q)
  obtain ⟨n, hn⟩ : ∃ n, (rtL r).length = n := ⟨_, rfl⟩
  obtain ⟨C, hCC⟩ : ∃ C, s.2.1.length = C := ⟨_, rfl⟩
  rw [hn, hCC]
  unfold lTake
  cases hI with
  | p1a _ u => obtain ⟨g, u, _⟩ := u; cases u
  | p9a _ u => obtain ⟨g, rest, u, _⟩ := u; cases u
  | p0 h1 _ =>
    subst h1
    rw [if_pos rfl, costC_more (by simp), costs_one]
    show 3 * C + 4 * (rtL r).length + 17 + 8 * lagN s.1 q + costM _ _ _ (frm0 3 (32 + 2 * q) 0 0) < 3 * C + 4 * n + 21 + 8 * lagN s.1 q
    rw [show costM C s.1 (rtL r).length (frm0 3 (32 + 2 * q) 0 0) = 3 from cost3.trans (if_pos rfl), hn]
    omega
  | p1 h1 _ ht =>
    subst h1
    rw [if_neg (by decide), if_pos rfl]
    show (if hdW s.1 q = r.1 then 3 * C + 4 * (rtL r).length + 16 + 8 * lagN s.1 q else 3 * C + 4 * (rtL r).length + 25 + 8 * lagN s.1 q) < (if r.1 = hdW s.1 q then 3 * C + 4 * n + 17 + 8 * lagN s.1 q else 3 * C + 4 * n + 26 + 8 * lagN s.1 q)
    rw [hn]
    by_cases c : hdW s.1 q = r.1
    · rw [if_pos c, if_pos c.symm]; omega
    · rw [if_neg c, if_neg (fun e => c e.symm)]; omega
  | p2 h1 _ ht =>
    subst h1
    obtain ⟨l1, l2⟩ := load_word (m := s.1) (p := tlP q) (by omega) (by omega) hfit
    rw [if_neg (by decide), if_neg (by decide), if_pos rfl, show 33 + 2 * q = tlP q from rfl, l1, l2]
    show (if hdW s.1 q = hh ∧ tlW s.1 q = nI s.1.1 (tlP q) then 3 * C + 4 * (rtL r).length + 15 + 8 * lagN s.1 q else 3 * C + 4 * (rtL r).length + 24 + 8 * lagN s.1 q) < (if hdW s.1 q = hh then 3 * C + 4 * n + 16 + 8 * lagN s.1 q else 3 * C + 4 * n + 25 + 8 * lagN s.1 q)
    rw [hn]
    by_cases c : hdW s.1 q = hh
    · rw [if_pos ⟨c, rfl⟩, if_pos c]; omega
    · rw [if_neg (fun e => c e.1), if_neg c]; omega
  | p3 h1 _ ht hs ha =>
    subst h1
    obtain ⟨e1, e2⟩ := load_cell (j := 1) (by decide) ht.guard.inn (ht.guard.notFree h.mm.stat) hfit hgood
    rw [if_neg (by decide), if_neg (by decide), if_neg (by decide), if_pos rfl, e1, e2]
    show _ < (if hdW s.1 q = hh ∧ tlW s.1 q = t then 3 * C + 4 * n + 15 + 8 * lagN s.1 q else 3 * C + 4 * n + 24 + 8 * lagN s.1 q)
    by_cases c : idxI (nI s.1.1 (lk (idxI hh) + 1)) = 0
    · rw [if_pos c]
      show 2 < _
      split <;> omega
    rw [if_neg c]
    by_cases d : idxI hh = idxI t
    · rw [if_pos d]
      show (if tlW s.1 q = t then 3 * C + 4 * (rtL r).length + 22 else 3 * C + 4 * (rtL r).length + 22 + 8 * lagN s.1 q) < _
      rw [hn]
      by_cases e : hdW s.1 q = hh ∧ tlW s.1 q = t
      · rw [if_pos e, if_pos e.2]
        have : lagN s.1 q = 1 := by unfold lagN; rw [e.2, ← d]; exact if_neg c
        omega
      · rw [if_neg e]; split <;> omega
    · rw [if_neg d]
      show (if hdW s.1 q = hh then 3 * C + 4 * (rtL r).length + 14 else 3 * C + 4 * (rtL r).length + 23 + 8 * lagN s.1 q) < _
      rw [hn]
      by_cases e : hdW s.1 q = hh ∧ tlW s.1 q = t
      · rw [if_pos e, if_pos e.1]; omega
      · rw [if_neg e]; split <;> omega
  | p4 h1 _ ht =>
    subst h1
    rw [if_neg (by decide), if_neg (by decide), if_neg (by decide), if_neg (by decide), if_pos rfl]
    show 3 * C + 4 * (rtL r).length + 21 + 8 * lagN (casM s.1 (tlP q) t (nextI t (idxI w) 0)) q < (if tlW s.1 q = t then 3 * C + 4 * n + 22 else 3 * C + 4 * n + 22 + 8 * lagN s.1 q)
    rw [hn]
    have hi : 0 ≤ idxI w ∧ idxI w < 1048576 := by unfold idxI; omega
    rcases cas_word (m := s.1) (a := tlP q) (w := t) (v := nextI t (idxI w) 0) (by omega) (by omega) hfit with ⟨c, _, e⟩ | ⟨c, _, e⟩
    · rw [e, if_pos (show tlW s.1 q = t from c), h.moved hq (show t = tlW s.1 q from c.symm) (ht.2.2 c) ht.2.1 hi hlen]; omega
    · rw [e, if_neg (show ¬ tlW s.1 q = t from c)]; omega
  | p58 hp _ ht =>
    have hp4 : pc = 5 ∨ pc = 6 ∨ pc = 7 ∨ pc = 8 := by
      have key : ∀ x : Int, 5 ≤ x ∧ x ≤ 8 → x = 5 ∨ x = 6 ∨ x = 7 ∨ x = 8 := fun x hx => by omega
      exact key pc hp
    rcases hp4 with h1 | h1 | h1 | h1 <;> subst h1
    · have hsl := slotP_is k 1
      rw [if_neg (by decide), if_neg (by decide), if_neg (by decide), if_neg (by decide), if_neg (by decide), if_pos rfl, slotP_place hk8 (by decide) (by decide), store_word (by omega) (by omega) hfit]
      obtain ⟨g1, g2⟩ := lag_setW (m := s.1) (a := slotP k 1) (x := idxI w) (by omega) hq (by omega) (by omega) ht1
      have g3 : hdW (setW s.1 (slotP k 1) (idxI w)) q = hdW s.1 q := setW_ne (by omega) (by omega) (by omega)
      show (if hdW (setW s.1 (slotP k 1) (idxI w)) q = hh then 3 * C + 4 * (rtL r).length + 13 else 3 * C + 4 * (rtL r).length + 22 + 8 * lagN (setW s.1 (slotP k 1) (idxI w)) q) < (if hdW s.1 q = hh then 3 * C + 4 * n + 14 else 3 * C + 4 * n + 23 + 8 * lagN s.1 q)
      rw [g1, g3, hn]
      split <;> omega
    · obtain ⟨l1, l2⟩ := load_word (m := s.1) (p := hdP q) (by omega) (by omega) hfit
      rw [if_neg (by decide), if_neg (by decide), if_neg (by decide), if_neg (by decide), if_neg (by decide), if_neg (by decide), if_pos rfl, show 32 + 2 * q = hdP q from rfl, l1, l2]
      show _ < (if hdW s.1 q = hh then 3 * C + 4 * n + 13 else 3 * C + 4 * n + 22 + 8 * lagN s.1 q)
      by_cases c : nI s.1.1 (hdP q) ≠ hh
      · rw [if_pos c, if_neg (show ¬ hdW s.1 q = hh from c)]
        show 3 * C + 4 * (rtL r).length + 21 + 8 * lagN s.1 q < _
        rw [hn]; omega
      · rw [if_neg c, if_pos (show hdW s.1 q = hh from Classical.not_not.1 c)]
        show (if hdW s.1 q = hh then 3 * C + 4 * (rtL r).length + 12 else _) < _
        rw [if_pos (show hdW s.1 q = hh from Classical.not_not.1 c), hn]; omega
    · rw [if_neg (by decide), if_neg (by decide), if_neg (by decide), if_neg (by decide), if_neg (by decide), if_neg (by decide), if_neg (by decide), if_pos rfl]
      show (if hdW s.1 q = hh then 3 * C + 4 * (rtL r).length + 11 else 3 * C + 4 * (rtL r).length + 22 + 8 * lagN s.1 q) < (if hdW s.1 q = hh then 3 * C + 4 * n + 12 else 3 * C + 4 * n + 23 + 8 * lagN s.1 q)
      rw [hn]
      split <;> omega
    · rw [if_neg (by decide), if_neg (by decide), if_neg (by decide), if_neg (by decide), if_neg (by decide), if_neg (by decide), if_neg (by decide), if_neg (by decide), if_pos rfl, show 32 + 2 * q = hdP q from rfl]
      show _ < (if hdW s.1 q = hh then 3 * C + 4 * n + 11 else 3 * C + 4 * n + 22 + 8 * lagN s.1 q)
      rcases cas_word (m := s.1) (a := hdP q) (w := hh) (v := nextI hh (idxI w) 0) (by omega) (by omega) hfit with ⟨c, cb, e⟩ | ⟨c, cb, e⟩
      · rw [if_pos cb, if_pos (show hdW s.1 q = hh from c), costC_more (by simp), costs_one]
        show 2 + costM C _ (rtL r).length (frm0 5 (idxI hh) 0 0) < _
        rw [show ∀ m', costM C m' (rtL r).length (frm0 5 (idxI hh) 0 0) = 3 * C + 4 * (rtL r).length + 8 from fun m' => cost5.trans (if_neg (by decide)), hn]
        omega
      · rw [if_neg (by rw [cb]; decide), if_neg (show ¬ hdW s.1 q = hh from c), e]
        show 3 * C + 4 * (rtL r).length + 21 + 8 * lagN s.1 q < _
        rw [hn]; omega
  | p9 h1 _ =>
    subst h1
    rw [if_neg (by decide), if_neg (by decide), if_neg (by decide), if_neg (by decide), if_neg (by decide), if_neg (by decide), if_neg (by decide), if_neg (by decide), if_neg (by decide), if_pos rfl]
    show 1 < 2; decide
  | p10 h1 _ =>
    subst h1
    rw [if_neg (by decide), if_neg (by decide), if_neg (by decide), if_neg (by decide), if_neg (by decide), if_neg (by decide), if_neg (by decide), if_neg (by decide), if_neg (by decide), if_neg (by decide), if_pos rfl]
    show 0 < 1; decide
end
end Go.Proofs.YtpobngddiifdpaaGreat.V
