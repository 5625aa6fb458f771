/- Layer 12: what a step of an event's op changes. -/
import Derived.Test.YtlcjkogdbleboaaGreatE4
set_option linter.unusedSimpArgs false
set_option linter.unusedVariables false
namespace Go.Proofs.YtlcjkogdbleboaaGreat.V
open Go Go.RowKit Go.Proofs.YtlcjkogdbleboaaGreat.Hz
set_option maxRecDepth 100000

def lEv (k : Int) (m : Me) (f : Frm) (r : Rest) : Loc :=
  if f.2.1 = 0 then
    (if f.1 = 21 ∧ idxI (nI m.1 (80 + f.2.2.1.1)) = 0 then ⟨m, [], (0, 0, r.2.2), [(k, 12, f.2.2.1.1, 0, 0, ())]⟩
    else if f.1 = 21 ∧ nI m.1 (80 + f.2.2.1.1) % 2 = 0 then ⟨m, [], (1, 0, r.2.2), [(k, 12, f.2.2.1.1, 0, 1, ())]⟩
    else ⟨m, [(f.1, (1 : Int), (f.2.2.1.1, nI m.1 (80 + f.2.2.1.1), f.2.2.1.2.2), f.2.2.2.1, ())], r, []⟩)
  else if nI m.1 (80 + f.2.2.1.1) = f.2.2.1.2.1 then ⟨setW m (80 + f.2.2.1.1) (evN f.1 f.2.2.1.2.1), [], (evV f.1, 0, r.2.2), [(k, evK f.1, f.2.2.1.1, 0, evV f.1, ())]⟩
  else ⟨m, [(f.1, (0 : Int), f.2.2.1, f.2.2.2.1, ())], r, []⟩
theorem into_end {s : Sy} {k : Int} {m : Me} {F : List Frm} {f : Frm} {r : Rest} {kind e v : Int} (h0 : 0 ≤ k) (h1 : k < s.2.1.length) {m' : Me} : endE (m', (stS s k m (F ++ [f], r)).2) k kind e v = (Loc.mk m' [] (v, 0, r.2.2) [(k, kind, e, 0, v, ())]).into s k F := by
  have hc : isCoreB (m', (stS s k m (F ++ [f], r)).2) k = true := by
    unfold isCoreB
    show (decide (0 ≤ k) && decide (k < ((stS s k m (F ++ [f], r)).2.1.length : Int))) = true
    rw [stS_len, decide_eq_true h0, decide_eq_true h1]; rfl
  unfold endE
  have e1 : logS (m', (stS s k m (F ++ [f], r)).2) k kind e 0 v = stS (s.1, s.2.1, List.append (α := Evt) s.2.2.1 [(k, kind, e, 0, v, ())], ()) k m' (F ++ [f], r) := if_pos hc
  rw [e1, backS_st (s := (s.1, s.2.1, List.append (α := Evt) s.2.2.1 [(k, kind, e, 0, v, ())], ())) h0 h1]
  unfold Loc.into stS
  rw [List.append_nil]
theorem ev_loc {s : Sy} {k : Int} {F : List Frm} {f : Frm} {r : Rest} (h0 : 0 ≤ k) (h1 : k < s.2.1.length) (hf : Fits s.1) (hc : cAt s.2.1 k = (F ++ [f], r)) (he : EvFr f) : evS s k = (lEv k s.1 f r).into s k F := by
  have hs := stS_self (s := s) h0 h1
  rw [hc] at hs
  obtain ⟨m, s2⟩ := s
  have hs2 : stS (m, s2) k m (F ++ [f], r) = (m, s2) := hs
  obtain ⟨⟨a1, a2⟩, ⟨b1, b2⟩, hp⟩ := he
  obtain ⟨op, pc, g, l, u⟩ := f
  obtain rfl : u = () := rfl
  replace b1 : @LE.le Int _ 0 g.1 := b1
  replace b2 : @LE.le Int _ g.1 15 := b2
  obtain ⟨q, hq⟩ : ∃ q : Int, 80 + g.1 = q := ⟨_, rfl⟩
  have q0 : 80 ≤ q ∧ q ≤ 95 := by subst hq; exact ⟨Int.le_add_of_nonneg_right b1, Int.add_le_add_left b2 80⟩
  obtain ⟨l1, l2⟩ := load_word (m := m) (p := q) (by omega) (by omega) hf
  have key : evS (stS (m, s2) k m (F ++ [(op, pc, g, l, ())], r)) k = (lEv k m (op, pc, g, l, ()) r).into (m, s2) k F := by
    unfold evS
    rw [topI_st h0 h1]
    show evF _ k op pc g l = _
    unfold evF
    rw [if_pos ⟨b1, b2⟩]
    unfold lEv
    rcases hp with hp | hp
    · have hp : pc = 0 := hp
      subst hp
      rw [if_pos rfl, if_pos rfl]
      unfold ev0
      show (if op = 21 ∧ idxI (loadI m (80 + g.1)) = 0 then endE (loadM m (80 + g.1), _) k 12 g.1 0 else if op = 21 ∧ loadI m (80 + g.1) % 2 = 0 then endE (loadM m (80 + g.1), _) k 12 g.1 1 else setS (loadM m (80 + g.1), _) k (op, (1 : Int), (g.1, loadI m (80 + g.1), g.2.2), l, ())) = _
      show _ = Loc.into (if op = 21 ∧ idxI (nI m.1 (80 + g.1)) = 0 then _ else if op = 21 ∧ nI m.1 (80 + g.1) % 2 = 0 then _ else ⟨m, [(op, (1 : Int), (g.1, nI m.1 (80 + g.1), g.2.2), l, ())], r, []⟩) (m, s2) k F
      rw [hq, l1, l2]
      by_cases c1 : op = 21 ∧ idxI (nI m.1 q) = 0
      · rw [if_pos c1, if_pos c1]
        exact into_end (s := (m, s2)) (m := m) h0 h1
      rw [if_neg c1, if_neg c1]
      by_cases c2 : op = 21 ∧ nI m.1 q % 2 = 0
      · rw [if_pos c2, if_pos c2]
        exact into_end (s := (m, s2)) (m := m) h0 h1
      · rw [if_neg c2, if_neg c2]
        exact into_set (s := (m, s2)) (m := m) h0 h1
    · have hp : pc = 1 := hp
      subst hp
      rw [if_neg (by decide), if_pos rfl, if_neg (fun e => nope (show (1 : Int) = 0 from e) rfl)]
      unfold ev1
      show (if casB m (80 + g.1) g.2.1 = true then endE (casM m (80 + g.1) g.2.1 (evN op g.2.1), _) k (evK op) g.1 (evV op) else setS (casM m (80 + g.1) g.2.1 (evN op g.2.1), _) k (op, (0 : Int), g, l, ())) = _
      show _ = Loc.into (if nI m.1 (80 + g.1) = g.2.1 then ⟨setW m (80 + g.1) (evN op g.2.1), _, _, _⟩ else _) (m, s2) k F
      rw [hq]
      have hlen := hf.1
      by_cases c : nI m.1 q = g.2.1
      · have hb : casB m q g.2.1 = true := decide_eq_true ⟨by omega, by show q < (m.1.length : Int); have h1 : m.1.length = 124 + 4 * m.2.1.length := hlen; omega, c⟩
        rw [if_pos hb, if_pos c]
        have hcm : casM m q g.2.1 (evN op g.2.1) = setW m q (evN op g.2.1) := by
          rw [show casM m q g.2.1 (evN op g.2.1) = storeM m q _ from if_pos (of_decide_eq_true hb)]
          exact store_word (by omega) (by omega) hf
        rw [hcm]
        exact into_end (s := (m, s2)) (m := m) h0 h1
      · have hb : ¬ casB m q g.2.1 = true := fun e => c (of_decide_eq_true e).2.2
        rw [if_neg hb, if_neg c]
        have hcm : casM m q g.2.1 (evN op g.2.1) = m := by
          rw [show casM m q g.2.1 (evN op g.2.1) = loadM m q from if_neg (fun e => hb (decide_eq_true e)), l1]
        rw [hcm]
        exact into_set (s := (m, s2)) (m := m) h0 h1
  rw [hs2] at key
  exact key
/-! ### Systems whose cores are at events alone -/
structure EvI (c : Nat) (Q : Frm → Prop) (s : Sy) : Prop where
  fits : Fits s.1
  good : s.1.2.2.1 = false
  two : 2 ≤ s.1.2.1.length
  cores : s.2.1.length = c
  one : ∀ k : Nat, k < c → (cAt s.2.1 k).1 = [] ∨ ∃ f, (cAt s.2.1 k).1 = [f] ∧ EvFr f ∧ Q f
/-- A core that is at nothing begins an op. -/
def begE (s : Sy) (k op e : Int) : Sy := if (cAt s.2.1 k).1.length = 0 then callS s k op e 0 0 else s
section
variable {c k : Nat} {Q : Frm → Prop} {s : Sy} {op e : Int}
theorem into_core {L : Loc} {F : List Frm} (hk : k < s.2.1.length) : cAt (L.into s k F).2.1 k = (F ++ L.fs, L.r) := getD_set (by omega)
theorem into_other {L : Loc} {F : List Frm} {j : Nat} (h : j ≠ k) : cAt (L.into s k F).2.1 j = cAt s.2.1 j := by
  show List.getD (List.set (α := Cor) s.2.1 (k : Int).toNat _) (j : Int).toNat _ = List.getD s.2.1 (j : Int).toNat _
  rw [List.getD_eq_getElem?_getD, List.getD_eq_getElem?_getD, List.getElem?_set_ne (by omega)]
theorem into_len {L : Loc} {F : List Frm} : (L.into s k F).2.1.length = s.2.1.length := List.length_set
/-- The last frame, with what else the core has. -/
theorem EvI.beg (h : EvI c Q s) (hk : k < c) (hop : 19 ≤ op ∧ op ≤ 21) (he : 0 ≤ e ∧ e ≤ 15) (hQ : Q (frm0 op e 0 0)) :
    EvI c Q (begE s k op e) ∧ (begE s k op e).1 = s.1 ∧ (begE s k op e).2.2.1 = s.2.2.1 ∧ ∃ f r, cAt (begE s k op e).2.1 k = ([f], r) ∧ EvFr f ∧ Q f ∧ ((cAt s.2.1 k).1 = [] → f = frm0 op e 0 0) ∧ ((cAt s.2.1 k).1 ≠ [] → begE s k op e = s) := by
  have hkc : k < s.2.1.length := by rw [h.cores]; exact hk
  unfold begE
  rcases h.one k hk with h1 | ⟨f, h1, h2, h3⟩
  · rw [if_pos (by rw [h1]; rfl)]
    have e1 := callS_self (s := s) (k := (k : Int)) (op := op) (a := e) (b := 0) (d := 0) (by omega) (by omega) (by rw [h1]; show 0 < 40; decide)
    rw [h1] at e1
    rw [e1]
    have hcore : cAt (stS s k s.1 ([] ++ [frm0 op e 0 0], (cAt s.2.1 k).2)).2.1 k = ([frm0 op e 0 0], (cAt s.2.1 k).2) := stS_core (by omega) (by omega)
    refine ⟨⟨h.fits, h.good, h.two, stS_len.trans h.cores, fun j hj => ?_⟩, rfl, rfl, _, _, hcore, ⟨hop, he, .inl rfl⟩, hQ, fun _ => rfl, fun hne => absurd h1 hne⟩
    by_cases hjk : j = k
    · subst hjk
      rw [hcore]
      exact .inr ⟨_, rfl, ⟨hop, he, .inl rfl⟩, hQ⟩
    · rw [stS_other (by omega)]
      exact h.one j hj
  · rw [if_neg (by rw [h1]; show ¬ 1 = 0; decide)]
    refine ⟨h, rfl, rfl, f, (cAt s.2.1 k).2, ?_, h2, h3, fun e => absurd (h1.symm.trans e) (by simp), fun _ => rfl⟩
    rw [← h1]
theorem lEv_len {f : Frm} {r : Rest} {m : Me} : (lEv k m f r).m.1.length = m.1.length ∧ (lEv k m f r).m.2 = m.2 := by
  unfold lEv
  split
  · split
    · exact ⟨rfl, rfl⟩
    split <;> exact ⟨rfl, rfl⟩
  split
  · exact ⟨List.length_set, rfl⟩
  · exact ⟨rfl, rfl⟩
theorem EvI.step {f : Frm} {r : Rest} (h : EvI c Q s) (hk : k < c) (hc : cAt s.2.1 k = ([f], r)) (he : EvFr f) (hQ : ∀ f', (lEv k s.1 f r).fs = [f'] → Q f') : evS s k = (lEv k s.1 f r).into s k [] ∧ EvI c Q (evS s k) := by
  have hkc : k < s.2.1.length := by rw [h.cores]; exact hk
  have hl := ev_loc (F := []) (by omega) (by omega) h.fits hc he
  refine ⟨hl, ?_⟩
  rw [hl]
  obtain ⟨n1, n2⟩ := lEv_len (k := k) (f := f) (r := r) (m := s.1)
  have hfs : (lEv k s.1 f r).fs = [] ∨ ∃ f', (lEv k s.1 f r).fs = [f'] ∧ EvFr f' := by
    unfold lEv
    split
    · split
      · exact .inl rfl
      split
      · exact .inl rfl
      · exact .inr ⟨_, rfl, he.1, he.2.1, .inr rfl⟩
    split
    · exact .inl rfl
    · exact .inr ⟨_, rfl, he.1, he.2.1, .inl rfl⟩
  refine ⟨⟨?_, ?_⟩, ?_, ?_, into_len.trans h.cores, fun j hj => ?_⟩
  · show (lEv k s.1 f r).m.1.length = 124 + 4 * (lEv k s.1 f r).m.2.1.length
    rw [n1, n2]; exact h.fits.1
  · show (lEv k s.1 f r).m.2.1.length ≤ 1000
    rw [n2]; exact h.fits.2
  · show (lEv k s.1 f r).m.2.2.1 = false
    rw [n2]; exact h.good
  · show 2 ≤ (lEv k s.1 f r).m.2.1.length
    rw [n2]; exact h.two
  · by_cases hjk : j = k
    · subst hjk
      rw [into_core hkc]
      show [] ++ _ = [] ∨ _
      rw [List.nil_append]
      rcases hfs with e | ⟨f', e, h2⟩
      · exact .inl e
      · exact .inr ⟨f', e, h2, hQ f' e⟩
    · rw [into_other hjk]
      exact h.one j hj
theorem evTop (h : EvI c Q s) (hk : k < c) : (topI s k = none ∧ (cAt s.2.1 k).1 = []) ∨ ∃ f, topI s k = some f ∧ (cAt s.2.1 k).1 = [f] ∧ EvFr f ∧ Q f := by
  have hkc : k < s.2.1.length := by rw [h.cores]; exact hk
  rw [topI_is (by omega) (by omega)]
  rcases h.one k hk with h1 | ⟨f, h1, h2, h3⟩
  · rw [h1]; exact .inl ⟨rfl, rfl⟩
  · rw [h1]; exact .inr ⟨f, rfl, rfl, h2, h3⟩
end
end Go.Proofs.YtlcjkogdbleboaaGreat.V
