/- Layer 12: what a step of an event's op changes. EventTags: the law. EventTags: the law, walked. -/
import Derived.Test.YtlcjkogdbleboaaGreatE4
set_option linter.unusedSimpArgs false
set_option linter.unusedVariables false
namespace Go.Proofs.YtlcjkogdbleboaaGreat.V
open Go Go.RowKit Go.Proofs.YtlcjkogdbleboaaGreat.Hz
set_option maxRecDepth 100000

def lEv (k : Int) (m : Me) (f : Frm) (r : Rest) : Loc :=
  if f.2.1 = 0 then
    (if f.1 = 21 ∧ idxI (nI m.1 (80 + f.2.2.1.1)) = 0 then ⟨m, [], (0, 0, r.2.2), [(k, 12, f.2.2.1.1, 0, 0, ())]⟩
    else if f.1 = 21 ∧ nI m.1 (80 + f.2.2.1.1) % 2 = 0 then ⟨m, [], (1, 0, r.2.2), [(k, 12, f.2.2.1.1, 0, 1, ())]⟩
    else ⟨m, [(f.1, (1 : Int), (f.2.2.1.1, nI m.1 (80 + f.2.2.1.1), f.2.2.1.2.2), f.2.2.2.1, ())], r, []⟩)
  else if nI m.1 (80 + f.2.2.1.1) = f.2.2.1.2.1 then ⟨setW m (80 + f.2.2.1.1) (evN f.1 f.2.2.1.2.1), [], (evV f.1, 0, r.2.2), [(k, evK f.1, f.2.2.1.1, 0, evV f.1, ())]⟩
  else ⟨m, [(f.1, (0 : Int), f.2.2.1, f.2.2.2.1, ())], r, []⟩
theorem into_end {s : Sy} {k : Int} {m : Me} {F : List Frm} {f : Frm} {r : Rest} {kind e v : Int} (h0 : 0 ≤ k) (h1 : k < s.2.1.length) {m' : Me} : endE (m', (stS s k m (F ++ [f], r)).2) k kind e v = (Loc.mk m' [] (v, 0, r.2.2) [(k, kind, e, 0, v, ())]).into s k F := by
  have hc : isCoreB (m', (stS s k m (F ++ [f], r)).2) k = true := by
    unfold isCoreB
    show (decide (0 ≤ k) && decide (k < ((stS s k m (F ++ [f], r)).2.1.length : Int))) = true
    rw [stS_len, decide_eq_true h0, decide_eq_true h1]; rfl
  unfold endE
  have e1 : logS (m', (stS s k m (F ++ [f], r)).2) k kind e 0 v = stS (s.1, s.2.1, List.append (α := Evt) s.2.2.1 [(k, kind, e, 0, v, ())], ()) k m' (F ++ [f], r) := if_pos hc
  rw [e1, backS_st (s := (s.1, s.2.1, List.append (α := Evt) s.2.2.1 [(k, kind, e, 0, v, ())], ())) h0 h1]
  unfold Loc.into stS
  rw [List.append_nil]
theorem ev_loc {s : Sy} {k : Int} {F : List Frm} {f : Frm} {r : Rest} (h0 : 0 ≤ k) (h1 : k < s.2.1.length) (hf : Fits s.1) (hc : cAt s.2.1 k = (F ++ [f], r)) (he : EvFr f) : evS s k = (lEv k s.1 f r).into s k F := by
  have hs := stS_self (s := s) h0 h1
  rw [hc] at hs
  obtain ⟨m, s2⟩ := s
  have hs2 : stS (m, s2) k m (F ++ [f], r) = (m, s2) := hs
  obtain ⟨⟨a1, a2⟩, ⟨b1, b2⟩, hp⟩ := he
  obtain ⟨op, pc, g, l, u⟩ := f
  obtain rfl : u = () := rfl
  replace b1 : @LE.le Int _ 0 g.1 := b1
  replace b2 : @LE.le Int _ g.1 15 := b2
  obtain ⟨q, hq⟩ : ∃ q : Int, 80 + g.1 = q := ⟨_, rfl⟩
  have q0 : 80 ≤ q ∧ q ≤ 95 := by subst hq; exact ⟨Int.le_add_of_nonneg_right b1, Int.add_le_add_left b2 80⟩
  obtain ⟨l1, l2⟩ := load_word (m := m) (p := q) (by omega) (by omega) hf
  have key : evS (stS (m, s2) k m (F ++ [(op, pc, g, l, ())], r)) k = (lEv k m (op, pc, g, l, ()) r).into (m, s2) k F := by
    unfold evS
    rw [topI_st h0 h1]
    show evF _ k op pc g l = _
    unfold evF
    rw [if_pos ⟨b1, b2⟩]
    unfold lEv
    rcases hp with hp | hp
    · have hp : pc = 0 := hp
      subst hp
      rw [if_pos rfl, if_pos rfl]
      unfold ev0
      show (if op = 21 ∧ idxI (loadI m (80 + g.1)) = 0 then endE (loadM m (80 + g.1), _) k 12 g.1 0 else if op = 21 ∧ loadI m (80 + g.1) % 2 = 0 then endE (loadM m (80 + g.1), _) k 12 g.1 1 else setS (loadM m (80 + g.1), _) k (op, (1 : Int), (g.1, loadI m (80 + g.1), g.2.2), l, ())) = _
      show _ = Loc.into (if op = 21 ∧ idxI (nI m.1 (80 + g.1)) = 0 then _ else if op = 21 ∧ nI m.1 (80 + g.1) % 2 = 0 then _ else ⟨m, [(op, (1 : Int), (g.1, nI m.1 (80 + g.1), g.2.2), l, ())], r, []⟩) (m, s2) k F
      rw [hq, l1, l2]
      by_cases c1 : op = 21 ∧ idxI (nI m.1 q) = 0
      · rw [if_pos c1, if_pos c1]
        exact into_end (s := (m, s2)) (m := m) h0 h1
      rw [if_neg c1, if_neg c1]
      by_cases c2 : op = 21 ∧ nI m.1 q % 2 = 0
      · rw [if_pos c2, if_pos c2]
        exact into_end (s := (m, s2)) (m := m) h0 h1
      · rw [if_neg c2, if_neg c2]
        exact into_set (s := (m, s2)) (m := m) h0 h1
    · have hp : pc = 1 := hp
      subst hp
      rw [if_neg (by decide), if_pos rfl, if_neg (fun e => nope (show (1 : Int) = 0 from e) rfl)]
      unfold ev1
      show (if casB m (80 + g.1) g.2.1 = true then endE (casM m (80 + g.1) g.2.1 (evN op g.2.1), _) k (evK op) g.1 (evV op) else setS (casM m (80 + g.1) g.2.1 (evN op g.2.1), _) k (op, (0 : Int), g, l, ())) = _
      show _ = Loc.into (if nI m.1 (80 + g.1) = g.2.1 then ⟨setW m (80 + g.1) (evN op g.2.1), _, _, _⟩ else _) (m, s2) k F
      rw [hq]
      have hlen := hf.1
      by_cases c : nI m.1 q = g.2.1
      · have hb : casB m q g.2.1 = true := decide_eq_true ⟨by omega, by show q < (m.1.length : Int); have h1 : m.1.length = 124 + 4 * m.2.1.length := hlen; omega, c⟩
        rw [if_pos hb, if_pos c]
        have hcm : casM m q g.2.1 (evN op g.2.1) = setW m q (evN op g.2.1) := by
          rw [show casM m q g.2.1 (evN op g.2.1) = storeM m q _ from if_pos (of_decide_eq_true hb)]
          exact store_word (by omega) (by omega) hf
        rw [hcm]
        exact into_end (s := (m, s2)) (m := m) h0 h1
      · have hb : ¬ casB m q g.2.1 = true := fun e => c (of_decide_eq_true e).2.2
        rw [if_neg hb, if_neg c]
        have hcm : casM m q g.2.1 (evN op g.2.1) = m := by
          rw [show casM m q g.2.1 (evN op g.2.1) = loadM m q from if_neg (fun e => hb (decide_eq_true e)), l1]
        rw [hcm]
        exact into_set (s := (m, s2)) (m := m) h0 h1
  rw [hs2] at key
  exact key
/-! ### Systems whose cores are at events alone -/
structure EvI (c : Nat) (Q : Frm → Prop) (s : Sy) : Prop where
  fits : Fits s.1
  good : s.1.2.2.1 = false
  two : 2 ≤ s.1.2.1.length
  cores : s.2.1.length = c
  one : ∀ k : Nat, k < c → (cAt s.2.1 k).1 = [] ∨ ∃ f, (cAt s.2.1 k).1 = [f] ∧ EvFr f ∧ Q f
/-- A core that is at nothing begins an op. -/
def begE (s : Sy) (k op e : Int) : Sy := if (cAt s.2.1 k).1.length = 0 then callS s k op e 0 0 else s
section
variable {c k : Nat} {Q : Frm → Prop} {s : Sy} {op e : Int}
theorem into_core {L : Loc} {F : List Frm} (hk : k < s.2.1.length) : cAt (L.into s k F).2.1 k = (F ++ L.fs, L.r) := getD_set (by omega)
theorem into_other {L : Loc} {F : List Frm} {j : Nat} (h : j ≠ k) : cAt (L.into s k F).2.1 j = cAt s.2.1 j := by
  show List.getD (List.set (α := Cor) s.2.1 (k : Int).toNat _) (j : Int).toNat _ = List.getD s.2.1 (j : Int).toNat _
  rw [List.getD_eq_getElem?_getD, List.getD_eq_getElem?_getD, List.getElem?_set_ne (by omega)]
theorem into_len {L : Loc} {F : List Frm} : (L.into s k F).2.1.length = s.2.1.length := List.length_set
/-- The last frame, with what else the core has. -/
theorem EvI.beg (h : EvI c Q s) (hk : k < c) (hop : 19 ≤ op ∧ op ≤ 21) (he : 0 ≤ e ∧ e ≤ 15) (hQ : Q (frm0 op e 0 0)) :
    EvI c Q (begE s k op e) ∧ (begE s k op e).1 = s.1 ∧ (begE s k op e).2.2.1 = s.2.2.1 ∧ ∃ f r, cAt (begE s k op e).2.1 k = ([f], r) ∧ EvFr f ∧ Q f ∧ ((cAt s.2.1 k).1 = [] → f = frm0 op e 0 0) ∧ ((cAt s.2.1 k).1 ≠ [] → begE s k op e = s) := by
  have hkc : k < s.2.1.length := by rw [h.cores]; exact hk
  unfold begE
  rcases h.one k hk with h1 | ⟨f, h1, h2, h3⟩
  · rw [if_pos (by rw [h1]; rfl)]
    have e1 := callS_self (s := s) (k := (k : Int)) (op := op) (a := e) (b := 0) (d := 0) (by omega) (by omega) (by rw [h1]; show 0 < 40; decide)
    rw [h1] at e1
    rw [e1]
    have hcore : cAt (stS s k s.1 ([] ++ [frm0 op e 0 0], (cAt s.2.1 k).2)).2.1 k = ([frm0 op e 0 0], (cAt s.2.1 k).2) := stS_core (by omega) (by omega)
    refine ⟨⟨h.fits, h.good, h.two, stS_len.trans h.cores, fun j hj => ?_⟩, rfl, rfl, _, _, hcore, ⟨hop, he, .inl rfl⟩, hQ, fun _ => rfl, fun hne => absurd h1 hne⟩
    by_cases hjk : j = k
    · subst hjk
      rw [hcore]
      exact .inr ⟨_, rfl, ⟨hop, he, .inl rfl⟩, hQ⟩
    · rw [stS_other (by omega)]
      exact h.one j hj
  · rw [if_neg (by rw [h1]; show ¬ 1 = 0; decide)]
    refine ⟨h, rfl, rfl, f, (cAt s.2.1 k).2, ?_, h2, h3, fun e => absurd (h1.symm.trans e) (by simp), fun _ => rfl⟩
    rw [← h1]
theorem lEv_len {f : Frm} {r : Rest} {m : Me} : (lEv k m f r).m.1.length = m.1.length ∧ (lEv k m f r).m.2 = m.2 := by
  unfold lEv
  split
  · split
    · exact ⟨rfl, rfl⟩
    split <;> exact ⟨rfl, rfl⟩
  split
  · exact ⟨List.length_set, rfl⟩
  · exact ⟨rfl, rfl⟩
theorem EvI.step {f : Frm} {r : Rest} (h : EvI c Q s) (hk : k < c) (hc : cAt s.2.1 k = ([f], r)) (he : EvFr f) (hQ : ∀ f', (lEv k s.1 f r).fs = [f'] → Q f') : evS s k = (lEv k s.1 f r).into s k [] ∧ EvI c Q (evS s k) := by
  have hkc : k < s.2.1.length := by rw [h.cores]; exact hk
  have hl := ev_loc (F := []) (by omega) (by omega) h.fits hc he
  refine ⟨hl, ?_⟩
  rw [hl]
  obtain ⟨n1, n2⟩ := lEv_len (k := k) (f := f) (r := r) (m := s.1)
  have hfs : (lEv k s.1 f r).fs = [] ∨ ∃ f', (lEv k s.1 f r).fs = [f'] ∧ EvFr f' := by
    unfold lEv
    split
    · split
      · exact .inl rfl
      split
      · exact .inl rfl
      · exact .inr ⟨_, rfl, he.1, he.2.1, .inr rfl⟩
    split
    · exact .inl rfl
    · exact .inr ⟨_, rfl, he.1, he.2.1, .inl rfl⟩
  refine ⟨⟨?_, ?_⟩, ?_, ?_, into_len.trans h.cores, fun j hj => ?_⟩
  · show (lEv k s.1 f r).m.1.length = 124 + 4 * (lEv k s.1 f r).m.2.1.length
    rw [n1, n2]; exact h.fits.1
  · show (lEv k s.1 f r).m.2.1.length ≤ 1000
    rw [n2]; exact h.fits.2
  · show (lEv k s.1 f r).m.2.2.1 = false
    rw [n2]; exact h.good
  · show 2 ≤ (lEv k s.1 f r).m.2.1.length
    rw [n2]; exact h.two
  · by_cases hjk : j = k
    · subst hjk
      rw [into_core hkc]
      show [] ++ _ = [] ∨ _
      rw [List.nil_append]
      rcases hfs with e | ⟨f', e, h2⟩
      · exact .inl e
      · exact .inr ⟨f', e, h2, hQ f' e⟩
    · rw [into_other hjk]
      exact h.one j hj
theorem evTop (h : EvI c Q s) (hk : k < c) : (topI s k = none ∧ (cAt s.2.1 k).1 = []) ∨ ∃ f, topI s k = some f ∧ (cAt s.2.1 k).1 = [f] ∧ EvFr f ∧ Q f := by
  have hkc : k < s.2.1.length := by rw [h.cores]; exact hk
  rw [topI_is (by omega) (by omega)]
  rcases h.one k hk with h1 | ⟨f, h1, h2, h3⟩
  · rw [h1]; exact .inl ⟨rfl, rfl⟩
  · rw [h1]; exact .inr ⟨f, rfl, rfl, h2, h3⟩
end

/-- Of an event e; a test that is to take it has seen that it resets itself. -/
def EvQ (e : Int) (f : Frm) : Prop := f.2.2.1.1 = e ∧ (f.2.1 = 1 → f.1 = 21 → f.2.2.1.2.1 % 2 = 1 ∧ idxI f.2.2.1.2.1 ≠ 0)
theorem evQ0 (op e : Int) : EvQ e (frm0 op e 0 0) := ⟨rfl, fun h => nope (show (0 : Int) = 1 from h) rfl⟩
theorem evQ_step {k : Int} {m : Me} {f f' : Frm} {r : Rest} {e : Int} (h : EvQ e f) (hs : (lEv k m f r).fs = [f']) : EvQ e f' := by
  unfold lEv at hs
  split at hs
  · split at hs
    · cases hs
    rename_i c1
    split at hs
    · cases hs
    rename_i c2
    have hs := (List.cons.inj hs).1
    subst hs
    refine ⟨h.1, fun _ h21 => ?_⟩
    have h21 : f.1 = 21 := h21
    have e2 : ¬ nI m.1 (80 + f.2.2.1.1) % 2 = 0 := fun e => c2 ⟨h21, e⟩
    refine ⟨?_, fun e => c1 ⟨h21, e⟩⟩
    show nI m.1 (80 + f.2.2.1.1) % 2 = 1
    omega
  split at hs
  · cases hs
  · have hs := (List.cons.inj hs).1
    subst hs
    exact ⟨h.1, fun hp => nope (show (0 : Int) = 1 from hp) rfl⟩
/-- A word that was swapped so often at most. -/
structure Tagd (w T : Int) : Prop where
  low : 0 ≤ w
  tag : w / 2097152 ≤ T
theorem tagI_small {w T : Int} (h : Tagd w T) (hT : T ≤ 1000000) : tagI w = w / 2097152 := by
  have := h.1
  have := h.2
  unfold tagI
  have e : w % 2305843009213693952 = w := Int.emod_eq_of_lt h.1 (by omega)
  rw [e]
theorem evN_is {w op T : Int} (h : Tagd w T) (hT : T ≤ 1000000) : evN op w / 2097152 = w / 2097152 + 1 ∧ Tagd (evN op w) (T + 1) ∧ idxI (evN op w) = evI op ∧ evN op w % 2 = evMk op w % 2 := by
  have h1 := h.1
  have h2 := h.2
  have hi : evI op = 0 ∨ evI op = 1 := by unfold evI; split <;> simp
  have e : evN op w = (w / 2097152 + 1) * 2097152 + evI op * 2 + evMk op w % 2 := by
    unfold evN nextI
    rw [tagI_small h hT, Int.emod_eq_of_lt (by omega) (by omega), Int.emod_eq_of_lt (by omega) (by omega)]
  have hm : 0 ≤ evMk op w % 2 ∧ evMk op w % 2 < 2 := by omega
  generalize evMk op w % 2 = b at *
  rw [e]
  refine ⟨by omega, ⟨by omega, by omega⟩, ?_, by omega⟩
  unfold idxI
  omega
/-- What a step does to an event's word and to the log. -/
theorem ev_wordQ {c k : Nat} {Q : Frm → Prop} {e T : Int} {s : Sy} {f : Frm} {r : Rest} (h : EvI c Q s) (hk : k < c) (he : 0 ≤ e ∧ e ≤ 15) (hc : cAt s.2.1 k = ([f], r)) (hf : EvFr f) (hq : EvQ e f) (hQ : ∀ f', (lEv k s.1 f r).fs = [f'] → Q f') (hw : Tagd (nI s.1.1 (80 + e)) T) (hT : T ≤ 1000000) :
    EvI c Q (evS s k) ∧ (evS s k).1.1.length = s.1.1.length ∧ (∀ j : Int, 0 ≤ j → j ≠ 80 + e → nI (evS s k).1.1 j = nI s.1.1 j) ∧ (evS s k).1.2 = s.1.2 ∧
    ((nI (evS s k).1.1 (80 + e) = nI s.1.1 (80 + e) ∧ ((evS s k).2.2.1 = s.2.2.1 ∧ (cAt (evS s k).2.1 k).1 ≠ [] ∨ (cAt (evS s k).2.1 k).1 = [] ∧ (cAt (evS s k).2.1 k).2.2.1 = 0 ∧ f.1 = 21 ∧ ∃ v, (cAt (evS s k).2.1 k).2.1 = v ∧ (evS s k).2.2.1 = List.append (α := Evt) s.2.2.1 [((k : Int), 12, e, 0, v, ())] ∧ (v = 0 ∧ idxI (nI s.1.1 (80 + e)) = 0 ∨ v = 1 ∧ idxI (nI s.1.1 (80 + e)) ≠ 0 ∧ nI s.1.1 (80 + e) % 2 = 0))) ∨
     (nI (evS s k).1.1 (80 + e) = evN f.1 (nI s.1.1 (80 + e)) ∧ (cAt (evS s k).2.1 k).1 = [] ∧ (cAt (evS s k).2.1 k).2.1 = evV f.1 ∧ (cAt (evS s k).2.1 k).2.2.1 = 0 ∧ (evS s k).2.2.1 = List.append (α := Evt) s.2.2.1 [((k : Int), evK f.1, e, 0, evV f.1, ())] ∧ (f.1 = 21 → nI s.1.1 (80 + e) % 2 = 1 ∧ idxI (nI s.1.1 (80 + e)) ≠ 0))) := by
  obtain ⟨hl, hI⟩ := h.step hk hc hf hQ
  obtain ⟨n1, n2⟩ := lEv_len (k := k) (f := f) (r := r) (m := s.1)
  have hkc : k < s.2.1.length := by rw [h.cores]; exact hk
  have hlen : s.1.1.length = 124 + 4 * s.1.2.1.length := h.fits.1
  have htwo := h.two
  refine ⟨hI, by rw [hl]; exact n1, fun j hj hne => ?_, by rw [hl]; exact n2, ?_⟩
  · rw [hl]
    show nI (lEv k s.1 f r).m.1 j = _
    unfold lEv
    rw [hq.1]
    split
    · split
      · rfl
      split <;> rfl
    split
    · exact setW_ne (by omega) hj (fun e => hne e.symm)
    · rfl
  · have hcore := into_core (L := lEv k s.1 f r) (F := []) hkc
    rw [← hl] at hcore
    rw [hcore]
    have hm : (evS s k).1 = (lEv k s.1 f r).m := by rw [hl]; rfl
    have hlog : (evS s k).2.2.1 = List.append (α := Evt) s.2.2.1 (lEv k s.1 f r).ev := by rw [hl]; rfl
    rw [hm, hlog]
    clear hm hlog hcore hl hI n1 n2
    have e1 := hq.1
    have e2 := hq.2
    obtain ⟨_, _, hp⟩ := hf
    clear hq
    unfold lEv
    rw [e1]
    by_cases c0 : f.2.1 = 0
    · rw [if_pos c0]
      left
      by_cases c1 : f.1 = 21 ∧ idxI (nI s.1.1 (80 + e)) = 0
      · rw [if_pos c1]
        exact ⟨rfl, .inr ⟨rfl, rfl, c1.1, 0, rfl, rfl, .inl ⟨rfl, c1.2⟩⟩⟩
      rw [if_neg c1]
      by_cases c2 : f.1 = 21 ∧ nI s.1.1 (80 + e) % 2 = 0
      · rw [if_pos c2]
        exact ⟨rfl, .inr ⟨rfl, rfl, c2.1, 1, rfl, rfl, .inr ⟨rfl, fun e => c1 ⟨c2.1, e⟩, c2.2⟩⟩⟩
      · rw [if_neg c2]
        exact ⟨rfl, .inl ⟨List.append_nil _, by simp⟩⟩
    · rw [if_neg c0]
      have hp1 : f.2.1 = 1 := hp.resolve_left c0
      by_cases c3 : nI s.1.1 (80 + e) = f.2.2.1.2.1
      · rw [if_pos c3]
        right
        rw [← c3] at e2 ⊢
        exact ⟨setW_self (by omega) (by omega), rfl, rfl, rfl, rfl, fun h21 => e2 hp1 h21⟩
      · rw [if_neg c3]
        left
        exact ⟨rfl, .inl ⟨List.append_nil _, by simp⟩⟩

/-- As such, of an event alone. -/
theorem ev_word {c k : Nat} {e T : Int} {s : Sy} {f : Frm} {r : Rest} (h : EvI c (EvQ e) s) (hk : k < c) (he : 0 ≤ e ∧ e ≤ 15) (hc : cAt s.2.1 k = ([f], r)) (hf : EvFr f) (hq : EvQ e f) (hw : Tagd (nI s.1.1 (80 + e)) T) (hT : T ≤ 1000000) :
    EvI c (EvQ e) (evS s k) ∧ (evS s k).1.1.length = s.1.1.length ∧ (∀ j : Int, 0 ≤ j → j ≠ 80 + e → nI (evS s k).1.1 j = nI s.1.1 j) ∧ (evS s k).1.2 = s.1.2 ∧
    ((nI (evS s k).1.1 (80 + e) = nI s.1.1 (80 + e) ∧ ((evS s k).2.2.1 = s.2.2.1 ∧ (cAt (evS s k).2.1 k).1 ≠ [] ∨ (cAt (evS s k).2.1 k).1 = [] ∧ (cAt (evS s k).2.1 k).2.2.1 = 0 ∧ f.1 = 21 ∧ ∃ v, (cAt (evS s k).2.1 k).2.1 = v ∧ (evS s k).2.2.1 = List.append (α := Evt) s.2.2.1 [((k : Int), 12, e, 0, v, ())] ∧ (v = 0 ∧ idxI (nI s.1.1 (80 + e)) = 0 ∨ v = 1 ∧ idxI (nI s.1.1 (80 + e)) ≠ 0 ∧ nI s.1.1 (80 + e) % 2 = 0))) ∨
     (nI (evS s k).1.1 (80 + e) = evN f.1 (nI s.1.1 (80 + e)) ∧ (cAt (evS s k).2.1 k).1 = [] ∧ (cAt (evS s k).2.1 k).2.1 = evV f.1 ∧ (cAt (evS s k).2.1 k).2.2.1 = 0 ∧ (evS s k).2.2.1 = List.append (α := Evt) s.2.2.1 [((k : Int), evK f.1, e, 0, evV f.1, ())] ∧ (f.1 = 21 → nI s.1.1 (80 + e) % 2 = 1 ∧ idxI (nI s.1.1 (80 + e)) ≠ 0))) :=
  ev_wordQ h hk he hc hf hq (fun _ hf' => evQ_step hq hf') hw hT
theorem lEv_op {k : Int} {m : Me} {f f' : Frm} {r : Rest} (hs : (lEv k m f r).fs = [f']) : f'.1 = f.1 ∧ f'.2.2.1.1 = f.2.2.1.1 := by
  unfold lEv at hs
  split at hs
  · split at hs
    · cases hs
    split at hs
    · cases hs
    · rw [← (List.cons.inj hs).1]; exact ⟨rfl, rfl⟩
  split at hs
  · cases hs
  · rw [← (List.cons.inj hs).1]; exact ⟨rfl, rfl⟩
abbrev Lp := List (Den (.int .u16))
abbrev vP (l : Lp) : SV := .one (.sl (.int .u16) l false)
/-- A pick. -/
def pick (l : Lp) (i : Nat) : Int := l.getD i (0 : Int)
theorem pick_in {l : Lp} (hw : ∀ x ∈ l, WFd (.int .u16) x) {i : Nat} (hi : i < l.length) : 0 ≤ pick l i ∧ pick l i ≤ 65535 := by
  unfold pick
  rw [List.getD_eq_getElem?_getD, List.getElem?_eq_getElem hi]
  exact wf_u16 (hw _ (List.getElem_mem hi))
theorem vU16_q {x : Int} (h0 : 0 ≤ x) (h1 : x ≤ 65535) (d : Int) (hd : 0 < d) : IntKind.u16.wrap (x.tdiv d) = x / d := by
  rw [Int.tdiv_eq_ediv_of_nonneg h0]
  have h2 : 0 ≤ x / d := Int.ediv_nonneg h0 (by omega)
  have h3 : x / d ≤ x := Int.ediv_le_self _ h0
  simp only [IntKind.wrap, IntKind.bits, IntKind.signed]
  simp
  omega
theorem Fin.begE {N : Nat} {s : Sy} {k op e : Int} (h : Fin N s) : Fin N (V.begE s k op e) := by
  unfold V.begE
  split
  · exact h.callS
  · exact h
/-- The op that a pick begins. -/
def opOf (x : Int) : Int := 19 + x / 8 % 3
theorem fill_word {n : Nat} (h1 : 1 ≤ n) (h2 : n ≤ 200) : ∀ j : Nat, j ≤ n → ∀ p : Int, 0 ≤ p → p < 128 → nI (fillN (newI n) n j).1 p = 0
  | 0, _, p, _, _ => nI_rep
  | j + 1, hj, p, p0, p1 => by
    obtain ⟨e1, e2, _⟩ := fill_at h1 h2 j (by omega)
    have ih := fill_word h1 h2 j (by omega) p p0 p1
    have hg : (newI n).2.1.length = n + 1 := by show (List.replicate _ _).length = _; rw [List.length_replicate]; omega
    have hf : Fits (fillN (newI n) n j) := ⟨by rw [e2, e1, hg]; omega, by rw [e1, hg]; omega⟩
    have hlk := lk_is ((j : Int) + 1)
    have hst : fillN (newI n) n (j + 1) = (List.set (α := Int) (fillN (newI n) n j).1 (lk ((j : Int) + 1)).toNat (if (j : Int) + 1 = n then 0 else (j : Int) + 2), (fillN (newI n) n j).2) := by
      show storeM _ (atI ((j : Int) + 1) 0) _ = _
      rw [atI_link (by omega) (by omega)]
      exact store_link (by omega) (by rw [e1, hg]; omega) hf
    rw [hst]
    show nI (List.set (α := Int) _ _ _) p = _
    rw [nI_set (by omega) p0, if_neg (by omega)]
    exact ih
/-- A new system's words. -/
theorem newF_mem {c : Int} {n : Nat} (h1 : 1 ≤ n) (h2 : n ≤ 200) : (newF c n).1.2.1.length = n + 1 ∧ (newF c n).1.1.length = 128 + 4 * n ∧ (newF c n).1.2.2.1 = false ∧ (∀ p : Int, 0 < p → p < 128 → nI (newF c n).1.1 p = 0) ∧ nI (newF c n).1.1 0 = 2 := by
  have hg : (newI n).2.1.length = n + 1 := by show (List.replicate _ _).length = _; rw [List.length_replicate]; omega
  obtain ⟨e1, e2, e3⟩ := fill_at h1 h2 n (Nat.le_refl _)
  have hf : Fits (fillN (newI n) n n) := ⟨by rw [e2, e1, hg]; omega, by rw [e1, hg]; omega⟩
  have hM : (newF c n).1 = (List.set (α := Int) (fillN (newI n) n n).1 (0 : Int).toNat 2, (fillN (newI n) n n).2) := by
    show fillM (newI n) = _
    unfold fillM
    rw [hg, show ((n + 1 : Nat) : Int) - 1 = n by omega, show n + 1 - 1 = n from rfl]
    exact store_word (by decide) (by decide) hf
  rw [hM, e1]
  refine ⟨hg, by show (List.set (α := Int) _ _ _).length = _; rw [List.length_set]; exact e2, rfl, fun p p0 p1 => ?_, ?_⟩
  · show nI (List.set (α := Int) _ _ _) p = 0
    rw [nI_set (by decide) (by omega), if_neg (by omega)]
    exact fill_word h1 h2 n (Nat.le_refl _) p (by omega) p1
  · show nI (List.set (α := Int) _ _ _) 0 = 2
    rw [nI_set (by decide) (by decide), if_pos ⟨rfl, by rw [e2]; omega⟩]
theorem newF_core {c : Int} {n : Int} {k : Int} : cAt (newF c n).2.1 k = dflt tCore := by
  unfold cAt
  show (List.replicate c.toNat (dflt tCore)).getD _ _ = _
  rw [List.getD_eq_getElem?_getD, List.getElem?_replicate]
  split <;> rfl
theorem newF_evI {c n : Nat} {Q : Frm → Prop} (h1 : 1 ≤ n) (h2 : n ≤ 200) (hc : 1 ≤ c) (hc8 : c ≤ 8) : EvI c Q (newF c n) where
  fits := (newF_fin (by omega) (by omega) (by omega)).fits
  good := (newF_mem h1 h2).2.2.1
  two := by rw [(newF_mem h1 h2).1]; omega
  cores := List.length_replicate
  one k hk := .inl (by rw [newF_core]; rfl)
theorem EvI.make {c : Nat} {Q : Frm → Prop} {s : Sy} {e : Int} {b : Bool} (h : EvI c Q s) (h0 : 0 ≤ e) (h1 : e ≤ 15) : EvI c Q (mkE s e b) := by
  rw [mkE_is h0 h1 h.fits]
  exact ⟨setW_fits h.fits, h.good, h.two, h.cores, h.one⟩
/-- How many cores. -/
theorem cores_of {a : Int} (h0 : 0 ≤ a) (h1 : a ≤ 255) : ∃ c : Nat, 1 ≤ c ∧ c ≤ 8 ∧ wrap64 (1 + a.tmod 8) = c := by
  have e : a.tmod 8 = a % 8 := Int.tmod_eq_emod_of_nonneg h0
  rw [e]
  refine ⟨(1 + a % 8).toNat, by omega, by omega, ?_⟩
  rw [IntWalk.wrap64_in _ (by omega)]
  omega
end Go.Proofs.YtlcjkogdbleboaaGreat.V
