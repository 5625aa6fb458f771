/- The memory's management: a node that a slot names is not freed. The memory's management: what a client does whose core is at nothing. ScanSafe: what a core does that is at nothing. -/
import Derived.Test.YtjeiopkfdgllhaaM13
set_option linter.unusedSimpArgs false
set_option linter.unusedVariables false
namespace Go.Proofs.Ytjeiopkfdgllhaa.V
open Go Go.RowKit Go.Proofs.Ytjeiopkfdgllhaa.Hz
set_option maxRecDepth 100000

section
variable {T : Int} {k C : Nat} {m m' : Me} {o o' : OM} {F : List Frm} {f f' g : Frm} {r : Rest} {l : List Int}
theorem Wt.noSc {R : Li} : ∀ {op : Int} {l : List Frm}, op ≠ 2 → Wt C R op l → ∀ g ∈ l, g.1 ≠ 6
  | _, [], _, _, g, hg => (nomatch hg)
  | op, x :: rest, h2, h, g, hg => by
    have n2 : x.1 ≠ 2 := fun e => h.1.low (.inr (.inl e))
    rcases List.mem_cons.1 hg with e | e
    · rw [e]; exact fun e6 => h2 (h.1.scan e6).1
    · exact Wt.noSc n2 h.2.2 g e
/-- What is put to a core's retired nodes. -/
theorem ret_new {p : Int} (hop : 1 ≤ f.1 ∧ f.1 ≤ 8) (h : p ∈ rtL (lMM C k m f r).r) : p ∈ rtL r ∨ f.1 = 5 := by
  by_cases c5 : f.1 = 5
  · exact .inr c5
  left
  unfold lMM at h
  split at h
  · unfold lPop at h
    repeat' split at h
    all_goals exact h
  split at h
  · unfold lPush at h
    repeat' split at h
    all_goals exact h
  split at h
  · unfold lProt at h
    repeat' split at h
    all_goals exact h
  split at h
  · unfold lClear at h
    repeat' split at h
    all_goals exact h
  split at h
  · unfold lScan at h
    split at h
    · exact h
    split at h
    · split at h
      · exact h
      · rcases List.mem_append.1 (show p ∈ _ ++ _ from h) with h | h
        · exact List.mem_of_mem_take h
        · exact List.mem_of_mem_drop h
    · exact h
  split at h
  · unfold lAlloc at h
    repeat' split at h
    all_goals exact h
  · unfold lDrop at h
    repeat' split at h
    all_goals exact h
theorem lMM5 (h : f.1 = 5) : lMM C k m f r = lRetire C m f.2.1 f.2.2.1 f.2.2.2.1 r := by unfold lMM; rw [h]; rfl
theorem lMM6 (h : f.1 = 6) : lMM C k m f r = lScan C m f.2.1 f.2.2.1 f.2.2.2.1 r := by unfold lMM; rw [h]; rfl
theorem mem_snoc_of {l : Li} {p q : Int} (h : p ∈ l) : p ∈ snoc l q := List.mem_append_left _ h
/-- What is taken out of them. -/
theorem ret_out {p : Int} (hop : 1 ≤ f.1 ∧ f.1 ≤ 8) (h : p ∈ rtL r) (h2 : p ∉ rtL (lMM C k m f r).r) : f.1 = 6 ∧ f.2.1 = 1 ∧ p ∉ f.2.2.2.1 := by
  by_cases c6 : f.1 = 6
  · refine ⟨c6, ?_⟩
    rw [lMM6 c6] at h2
    unfold lScan at h2
    split at h2
    · exact absurd h h2
    rename_i c0
    split at h2
    · rename_i c1
      refine ⟨c1, ?_⟩
      split at h2
      · exact absurd h h2
      · rename_i hn
        obtain ⟨n, hnn⟩ : ∃ n, nextOut f.2.2.2.1 (rtL r) (Int.toNat f.2.2.1.2.1) = n := ⟨_, rfl⟩
        rw [hnn] at hn
        have hlt : n < (rtL r).length := by have := not_or.1 hn; omega
        have hhit := nextOut_hit (S := f.2.2.2.1) (l := rtL r) (i := Int.toNat f.2.2.1.2.1) (by rw [hnn]; exact hlt)
        rw [hnn] at hhit
        have h2 : p ∉ (rtL r).take (nextOut f.2.2.2.1 (rtL r) (Int.toNat f.2.2.1.2.1)) ++ (rtL r).drop (nextOut f.2.2.2.1 (rtL r) (Int.toNat f.2.2.1.2.1) + 1) := h2
        rw [hnn] at h2
        have hpg : (rtL r)[n] = nI (rtL r) (n : Int) := by
          show _ = List.getD (rtL r) ((n : Nat) : Int).toNat 0
          rw [Int.toNat_natCast, List.getD_eq_getElem?_getD, List.getElem?_eq_getElem hlt]; rfl
        have hsplit : rtL r = (rtL r).take n ++ (rtL r)[n] :: (rtL r).drop (n + 1) := by
          rw [List.getElem_cons_drop, List.take_append_drop]
        rw [hsplit, List.mem_append, List.mem_cons] at h
        rcases h with h | h | h
        · exact absurd (List.mem_append_left _ h) h2
        · rw [h, hpg]; exact hhit
        · exact absurd (List.mem_append_right _ h) h2
    · exact absurd h h2
  exfalso
  apply h2
  unfold lMM
  split
  · unfold lPop
    repeat' split
    all_goals exact h
  split
  · unfold lPush
    repeat' split
    all_goals exact h
  split
  · unfold lProt
    repeat' split
    all_goals exact h
  split
  · unfold lClear
    repeat' split
    all_goals exact h
  split
  · unfold lRetire
    repeat' split
    all_goals first | exact h | exact mem_snoc_of h
  split
  · unfold lAlloc
    repeat' split
    all_goals exact h
  · unfold lDrop
    repeat' split
    all_goals exact h

/-- A scan's frame has not yet looked at a place, or has seen the node. -/
def Unsc (j p : Int) (f : Frm) : Prop := (f.2.1 = 0 ∧ f.2.2.1.1 ≤ j) ∨ p ∈ f.2.2.2.1
/-- A slot names a node that was shared then. -/
structure Guard (m : Me) (o : OM) (cs : List Cor) (k : Nat) (i p : Int) : Prop where
  slot : nI m.1 (slotP k i) = p
  inn : InN m p
  own : o p = .shared ∨ (∃ c, o p = .gone c) ∨ ∃ c : Nat, c < cs.length ∧ o p = .ret c ∧ ∀ f ∈ (cAt cs c).1, f.1 = 6 → Unsc (3 * k + i) p f
theorem cAt_setN {cs : List Cor} {k : Nat} {x : Cor} (h : k < cs.length) : cAt (List.set (α := Cor) cs ((k : Nat) : Int).toNat x) k = x := getD_set (by omega)
theorem cAt_neN {cs : List Cor} {k c : Nat} {x : Cor} (h : c ≠ k) : cAt (List.set (α := Cor) cs ((k : Nat) : Int).toNat x) c = cAt cs c := by
  show List.getD (List.set (α := Cor) cs (k : Int).toNat _) (c : Int).toNat _ = List.getD cs (c : Int).toNat _
  rw [List.getD_eq_getElem?_getD, List.getD_eq_getElem?_getD, List.getElem?_set_ne (by omega)]
/-- Scans' frames behind a step. -/
theorem scan_next {p j : Int} (hl : FL m l) (hC : C ≤ 8) (hop : 1 ≤ f.1 ∧ f.1 ≤ 8) (hc : CoreI m o C k (F ++ [f], r)) (hg : Good T k C m o F f r (lMM C k m f r) o') (hj : 0 ≤ j) (hj2 : j < 3 * C) (hs : nI m.1 (8 + j) = p) (hp : p ≠ 0) (h : ∀ x ∈ F ++ [f], x.1 = 6 → Unsc j p x) : ∀ x ∈ F ++ (lMM C k m f r).fs, x.1 = 6 → Unsc j p x := by
  intro x hx h6
  rcases List.mem_append.1 hx with hx | hx
  · exact h x (List.mem_append_left _ hx) h6
  rcases hg.out with ⟨f', q1, q2, _⟩ | ⟨f', g', q1, q2, _⟩ | ⟨q1, _⟩
  · rw [q1, List.mem_singleton] at hx
    subst hx
    have c6 : f.1 = 6 := q2.1.symm.trans h6
    have hu := h f (by simp) c6
    rw [lMM6 c6] at q1
    have ht := (Stk.topOf hc).scan c6
    unfold lScan at q1
    rcases ht with ⟨hp0, a0, a1, a2, a3⟩ | ⟨hp1, _⟩
    · rw [if_pos hp0] at q1
      obtain ⟨q, hq⟩ : ∃ q : Int, q = f.2.2.1.1 := ⟨_, rfl⟩
      obtain ⟨S, hS⟩ : ∃ S : Li, S = f.2.2.2.1 := ⟨_, rfl⟩
      replace a0 : 0 ≤ q := by rw [hq]; exact a0
      replace a1 : q < 3 * C := by rw [hq]; exact a1
      replace a2 : (S.length : Int) ≤ q := by rw [hq, hS]; exact a2
      rw [← hq, ← hS] at q1
      have e8 : wrap64 (8 + q) = 8 + q := IntWalk.wrap64_in _ (by omega)
      have e1 : wrap64 (q + 1) = q + 1 := IntWalk.wrap64_in _ (by omega)
      have e3 : wrap64 (3 * (C : Int)) = 3 * C := IntWalk.wrap64_in _ (by omega)
      obtain ⟨l1, l2⟩ := load_word (m := m) (p := 8 + q) (by omega) (by omega) hl.fits
      rw [e8, e1, e3, l2] at q1
      have q1 : [((6 : Int), (if 3 * (C : Int) ≤ q + 1 then 1 else 0 : Int), (q + 1, f.2.2.1.2), (if nI m.1 (8 + q) ≠ 0 ∧ S.length < 24 then snoc S (nI m.1 (8 + q)) else S), ())] = [x] := q1
      rw [List.cons.injEq] at q1
      have hmem : p ∈ S → p ∈ (if nI m.1 (8 + q) ≠ 0 ∧ S.length < 24 then snoc S (nI m.1 (8 + q)) else S) := fun h => by
        split
        · exact mem_snoc_of h
        · exact h
      rw [← q1.1]
      rcases hu with ⟨_, hu⟩ | hu
      · replace hu : q ≤ j := by rw [hq]; exact hu
        by_cases e : q = j
        · right
          show p ∈ (if nI m.1 (8 + q) ≠ 0 ∧ S.length < 24 then snoc S (nI m.1 (8 + q)) else S)
          rw [e, hs, if_pos ⟨hp, by omega⟩]
          exact List.mem_append_right _ (List.mem_singleton.2 rfl)
        · left
          refine ⟨?_, ?_⟩
          · show (if 3 * (C : Int) ≤ q + 1 then 1 else 0 : Int) = 0
            rw [if_neg (by omega)]
          · show q + 1 ≤ j
            omega
      · rw [← hS] at hu
        exact .inr (hmem hu)
    · rw [if_neg (by rw [hp1]; decide), if_pos hp1] at q1
      split at q1
      · cases q1
      · exact absurd (congrArg List.length q1) (by show ¬ 2 = 1; decide)
  · rw [q1] at hx
    rcases List.mem_cons.1 hx with hx | hx
    · subst hx
      have c6 : f.1 = 6 := q2.1.symm.trans h6
      have hu := h f (by simp) c6
      rw [lMM6 c6] at q1
      unfold lScan at q1
      split at q1
      · exact absurd (congrArg List.length q1) (by show ¬ 1 = 2; decide)
      split at q1
      · rename_i c0 c1
        split at q1
        · cases q1
        · have q1 := (List.cons.inj q1).1
          rw [← q1]
          rcases hu with ⟨hu, _⟩ | hu
          · exact absurd hu c0
          · exact .inr hu
      · exact absurd (congrArg List.length q1) (by show ¬ 1 = 2; decide)
    · rw [List.mem_singleton] at hx
      subst hx
      have hst2 : Stk (lMM C k m f r).m o' C k (lMM C k m f r).r (F ++ (lMM C k m f r).fs).reverse := hg.core.st
      rw [q1, rev_two] at hst2
      have hw : WaitI C _ f' x.1 := hst2.2.2.1
      rw [h6] at hw
      have key : ∀ y : Int, 1 ≤ y ∧ y ≤ 8 → (y = 1 ∨ y = 2 ∨ y = 3 ∨ y = 4) ∨ y = 5 ∨ y = 6 ∨ y = 7 ∨ y = 8 := fun y hy => by omega
      rcases key f.1 hop with h1 | h1 | h1 | h1 | h1
      · exact (hw.low (by rw [q2.1]; exact h1)).elim
      · rw [lMM5 h1] at q1
        unfold lRetire at q1
        split at q1
        · cases q1
        split at q1
        · split at q1
          · cases q1
          · split at q1
            · cases q1
            · have q1 := (List.cons.inj (List.cons.inj q1).2).1
              rw [← q1]
              exact .inl ⟨rfl, hj⟩
        · exact absurd (congrArg List.length q1) (by show ¬ 1 = 2; decide)
      · exact absurd (hw.scan (q2.1.trans h1)).1 (by decide)
      · rw [lMM7 h1] at q1
        unfold lAlloc at q1
        split at q1
        · have q1 := (List.cons.inj (List.cons.inj q1).2).1
          rw [← q1] at h6
          exact nope (show (1 : Int) = 6 from h6) rfl
        split at q1
        · split at q1
          · cases q1
          · split at q1
            · cases q1
            · have q1 := (List.cons.inj (List.cons.inj q1).2).1
              rw [← q1]
              exact .inl ⟨rfl, hj⟩
        split at q1
        · cases q1
        · exact absurd (congrArg List.length q1) (by show ¬ 1 = 2; decide)
      · exact absurd (hw.drop (q2.1.trans h1)).2 (by decide)
  · rw [q1] at hx; cases hx
/-- Another core's step leaves it. -/
theorem Guard.step {cs : List Cor} {c : Nat} {i p : Int} (h : Guard m o cs c i p) (hC : cs.length ≤ 8) (hl : FL m l) (hk : k < cs.length) (hck : c ≠ k) (hcl : c < cs.length) (hi : 0 ≤ i ∧ i ≤ 2) (hop : 1 ≤ f.1 ∧ f.1 ≤ 8) (hat : cAt cs k = (F ++ [f], r)) (hc : CoreI m o cs.length k (F ++ [f], r)) (hg : Good T k cs.length m o F f r (lMM cs.length k m f r) o') :
    Guard (lMM cs.length k m f r).m o' (List.set (α := Cor) cs ((k : Nat) : Int).toNat (F ++ (lMM cs.length k m f r).fs, (lMM cs.length k m f r).r)) c i p := by
  have hp := h.inn
  have hslot : slotP c i = 8 + (3 * (c : Int) + i) := by rw [slotP_is]; omega
  refine ⟨(hg.chg.slots c i hck (by omega) hi.1 hi.2).trans h.slot, hg.chg.inN.2 hp, ?_⟩
  rw [List.length_set]
  have hscan : (∀ x ∈ F ++ [f], x.1 = 6 → Unsc (3 * c + i) p x) → ∀ x ∈ F ++ (lMM cs.length k m f r).fs, x.1 = 6 → Unsc (3 * c + i) p x := fun hu =>
    scan_next hl hC hop hc hg (by omega) (by omega) (by rw [← hslot]; exact h.slot) (by have := hp.1; omega) hu
  rcases hg.own p hp with e | ⟨e, _⟩ | ⟨e, e'⟩ | ⟨e, e'⟩ | ⟨e, _⟩ | ⟨⟨x, e⟩, _⟩
  · rw [e]
    rcases h.own with h1 | h1 | ⟨d, h1, h2, h3⟩
    · exact .inl h1
    · exact .inr (.inl h1)
    · refine .inr (.inr ⟨d, h1, h2, ?_⟩)
      by_cases hdk : d = k
      · subst hdk
        rw [cAt_setN hk]
        rw [hat] at h3
        exact hscan h3
      · rw [cAt_neN hdk]; exact h3
  · exfalso
    rcases h.own with h1 | ⟨d, h1⟩ | ⟨d, _, h1, _⟩ <;> rw [e] at h1 <;> cases h1
  · refine .inr (.inr ⟨k, hk, e', ?_⟩)
    rw [cAt_setN hk]
    have hin : p ∈ rtL (lMM cs.length k m f r).r := (hg.core.ret p).2 ⟨hg.chg.inN.2 hp, e'⟩
    have hnot : p ∉ rtL r := fun hm => by
      have := ((hc.ret p).1 hm).2
      rw [e] at this; cases this
    have h5 : f.1 = 5 := (ret_new hop hin).resolve_left hnot
    refine hscan fun x hx h6 => ?_
    rcases List.mem_append.1 hx with hx | hx
    · have hW := Stk.waits hc
      exact absurd h6 (Wt.noSc (by rw [h5]; decide) hW x (List.mem_reverse.2 hx))
    · rw [List.mem_singleton.1 hx, h5] at h6
      exact nope h6 rfl
  · exfalso
    have hin : p ∈ rtL r := (hc.ret p).2 ⟨hp, e⟩
    have hnot : p ∉ rtL (lMM cs.length k m f r).r := fun hm => by
      have := ((hg.core.ret p).1 hm).2
      rw [e'] at this; cases this
    obtain ⟨q1, q2, q3⟩ := ret_out hop hin hnot
    rcases h.own with h1 | ⟨d, h1⟩ | ⟨d, _, h1, h2⟩
    · rw [e] at h1; cases h1
    · rw [e] at h1; cases h1
    · rw [e] at h1
      obtain rfl := Own.ret.inj h1
      rw [hat] at h2
      rcases h2 f (List.mem_append_right _ (List.mem_singleton.2 rfl)) q1 with ⟨h3, _⟩ | h3
      · rw [q2] at h3; exact nope h3 rfl
      · exact q3 h3
  · exfalso
    rcases h.own with h1 | ⟨d, h1⟩ | ⟨d, _, h1, _⟩ <;> rw [e] at h1 <;> cases h1
  · exfalso
    rcases h.own with h1 | ⟨d, h1⟩ | ⟨d, _, h1, _⟩ <;> rw [e] at h1 <;> cases h1
theorem Guard.notFree {cs : List Cor} {c : Nat} {i p : Int} (h : Guard m o cs c i p) (hs : ∀ p, InN m p → statO (o p) (nI m.2.1 p)) : nI m.2.1 p ≠ 0 := by
  have := hs p h.inn
  rcases h.own with h1 | ⟨d, h1⟩ | ⟨d, _, h1, _⟩ <;> rw [h1] at this
  · have : nI m.2.1 p = 1 := this; omega
  · have : nI m.2.1 p = 1 := this; omega
  · have : nI m.2.1 p = 2 := this; omega
end

/-- The place of a node's key. -/
def ky (p : Int) : Int := lk p + 2
theorem ky_is (p : Int) : ky p = 130 + 4 * (p - 1) := by unfold ky lk; omega
section
variable {T : Int} {o o' : OM} {s : Sy} {k : Nat} {m m' : Me} {p : Int} {l : List Int}
theorem badB_key (hp : InN m p) (hg : nI m.2.1 p ≠ 0) (hf : Fits m) (hgood : m.2.2.1 = false) : badB m (ky p) = m.2.2.1 := by
  have hk := ky_is p
  have h1 := hp.1
  have h2 := hp.2
  have hlen := hf.1
  have hn : nodeI m.2.1.length (ky p) = p := by unfold nodeI; rw [if_pos (by omega)]; omega
  rw [badB_in (by omega) hgood, hn, decide_eq_false hg, Bool.and_false, hgood]
theorem atI_key (hp : InN m p) (hf : Fits m) : atI p 2 = ky p := by
  have h1 := hp.1
  have h2 := hp.2
  have hlen := hf.2
  rw [atI_is (by omega) (by omega) (by omega) (by omega), ky_is]
  omega
theorem load_key (hp : InN m p) (hg : nI m.2.1 p ≠ 0) (hf : Fits m) (hgood : m.2.2.1 = false) : loadM m (ky p) = m ∧ loadI m (ky p) = nI m.1 (ky p) := by
  have hk := ky_is p
  have h1 := hp.1
  have h2 := hp.2
  have hlen := hf.1
  exact ⟨by unfold loadM; rw [badB_key hp hg hf hgood], if_neg (by omega)⟩
theorem store_key {v : Int} (hp : InN m p) (hg : nI m.2.1 p ≠ 0) (hf : Fits m) (hgood : m.2.2.1 = false) : storeM m (ky p) v = setW m (ky p) v := by
  have hk := ky_is p
  have h1 := hp.1
  have h2 := hp.2
  have hlen := hf.1
  show (if ky p < 0 ∨ (m.1.length : Int) ≤ ky p then _ else _) = _
  rw [if_neg (by omega), badB_key hp hg hf hgood]
  rfl
theorem set_self {cs : List Cor} (h : k < cs.length) : List.set (α := Cor) cs ((k : Nat) : Int).toNat (cAt cs k) = cs := by
  apply List.ext_getElem?
  intro j
  by_cases hj : ((k : Nat) : Int).toNat = j
  · subst hj
    rw [List.getElem?_set_self (by omega)]
    unfold cAt
    rw [List.getD_eq_getElem?_getD, List.getElem?_eq_getElem (by omega)]
    rfl
  · rw [List.getElem?_set_ne hj]
theorem MM.mono {T' : Int} (h : MM T o s) (hT : T ≤ T') : MM T' o s := ⟨h.list, h.more, h.cores, by have := h.tag; omega, h.stat, h.core⟩
/-- Another memory, of which the core that is at nothing has changed what is its own. -/
theorem MM.mem (h : MM T o s) (hk : k < s.2.1.length) (hidle : (cAt s.2.1 k).1 = []) (hc : Chg k s.1 o m' o') (hl : ∃ l, FL m' l) (ht : tagI (nI m'.1 0) ≤ T) (hst : ∀ p, InN s.1 p → statO (o' p) (nI m'.2.1 p))
    (hret : ∀ p, InN s.1 p → (o' p = .ret k ↔ o p = .ret k)) (hpush : ∀ p x, InN s.1 p → o' p = .push k x → o p = .push k x) : MM T o' (m', s.2) := by
  have hcore := h.core k hk
  have key : (Loc.mk m' [] (cAt s.2.1 k).2 []).into s k [] = (m', s.2) := by
    show (m', List.set (α := Cor) s.2.1 _ ([] ++ [], (cAt s.2.1 k).2), List.append (α := Evt) s.2.2.1 [], ()) = (m', s.2)
    have e : (([] ++ [], (cAt s.2.1 k).2) : Cor) = cAt s.2.1 k := by
      show (([], (cAt s.2.1 k).2) : Cor) = _
      rw [← hidle]
    have e2 : List.append (α := Evt) s.2.2.1 [] = s.2.2.1 := List.append_nil _
    rw [e, set_self hk, e2]
  have hcore' : CoreI m' o' s.2.1.length k ([] ++ [], (cAt s.2.1 k).2) := by
    refine ⟨trivial, hcore.nodup, fun p => ?_, ?_, fun p x hp hx => ?_⟩
    · rw [show rtL (([] ++ [], (cAt s.2.1 k).2) : Cor).2 = rtL (cAt s.2.1 k).2 from rfl, hcore.ret p, hc.inN]
      exact ⟨fun ⟨a, b⟩ => ⟨a, (hret p a).2 b⟩, fun ⟨a, b⟩ => ⟨a, (hret p a).1 b⟩⟩
    · rcases hcore.few with h | ⟨_, f, hf, _⟩
      · exact .inl h
      · rw [hidle] at hf; cases hf
    · obtain ⟨F, f, e, _⟩ := hcore.push p x (hc.inN.1 hp) (hpush p x (hc.inN.1 hp) hx)
      rw [hidle] at e
      exact absurd e (by simp)
  have := h.into (L := ⟨m', [], (cAt s.2.1 k).2, []⟩) (F := []) hk hc hl ht hst hcore'
  rw [key] at this
  exact this
theorem room_le {x : Int} : room x ≤ 2 := by unfold room; split <;> first | omega | (split <;> omega)
/-- It calls an op. -/
theorem MM.calls {op a : Int} (h : MM T o s) (hk : k < s.2.1.length) (hidle : (cAt s.2.1 k).1 = []) (htop : TopI s.1 o s.2.1.length k (cAt s.2.1 k).2 (frm0 op a 0 0)) : MM T o (callS s k op a 0 0) := by
  rw [callS_into hk hidle]
  have hcore := h.core k hk
  refine h.into hk Chg.same9 h.list h.tag h.stat ⟨?_, hcore.nodup, hcore.ret, ?_, fun p x hp hx => ?_⟩
  · refine ⟨htop, ?_, trivial⟩
    have := room_le (x := op)
    show 0 + 1 + room op ≤ 39
    omega
  · rcases hcore.few with h | ⟨_, f, hf, _⟩
    · exact .inl h
    · rw [hidle] at hf; cases hf
  · obtain ⟨F, f, e, _⟩ := hcore.push p x hp hx
    rw [hidle] at e
    exact absurd e (by simp)
end

/-! ### ScanSafe: what is known of a core -/
/-- A core's step, a node, a word. -/
abbrev Pl := Int × Int × Int × Unit
def KeyI (m : Me) (p : Int) : Prop := nI m.1 (ky p) = p
/-- What a core is at, besides its ops. -/
inductive PlI (m : Me) (o : OM) (cs : List Cor) (k : Nat) (cr : Cor) : Pl → Prop
  | any {x} (h : x.1 = 0) : PlI m o cs k cr x
  | pops {x} {f : Frm} (h : x.1 = 1) (e : cr.1 = [f]) (hf : f.1 = 1) : PlI m o cs k cr x
  | popped {x} (h : x.1 = 1) (e : cr.1 = []) (ht : Told m o k cr.2) : PlI m o cs k cr x
  | has {x} (h : x.1 = 2 ∨ x.1 = 3 ∨ x.1 = 4) (e : cr.1 = []) (hp : InN m x.2.1) (ho : o x.2.1 = .fresh k) (hk : x.1 ≠ 2 → KeyI m x.2.1) : PlI m o cs k cr x
  | prots {x} {f : Frm} (h : x.1 = 5) (e : cr.1 = [f]) (hf : f.1 = 3 ∧ f.2.2.1.1 = 100 ∧ f.2.2.1.2.1 = 0) : PlI m o cs k cr x
  | protd {x} (h : x.1 = 5) (e : cr.1 = []) (hg : idxI cr.2.1 = 0 ∨ Guard m o cs k 0 (idxI cr.2.1) ∧ KeyI m (idxI cr.2.1)) : PlI m o cs k cr x
  | reads {x} (h : x.1 = 6) (e : cr.1 = []) (hg : Guard m o cs k 0 x.2.1) (hk : KeyI m x.2.1) : PlI m o cs k cr x
  | ends {x} (h : x.1 = 7) (e : cr.1 = []) : PlI m o cs k cr x
/-- What the shared word tells. -/
def ShI (m : Me) (o : OM) : Prop := idxI (nI m.1 100) = 0 ∨ InN m (idxI (nI m.1 100)) ∧ o (idxI (nI m.1 100)) = .shared ∧ KeyI m (idxI (nI m.1 100))
structure SafeI (T : Int) (o : OM) (s : Sy) (L : Nat → Pl) : Prop where
  mm : MM T o s
  sh : ShI s.1 o
  nodrop : ∀ p c, InN s.1 p → o p ≠ .push c 1
  who : ∀ p c, InN s.1 p → (o p = .ret c ∨ ∃ x, o p = .push c x) → c < s.2.1.length
  ops : ∀ k : Nat, k < s.2.1.length → ∀ f ∈ (cAt s.2.1 k).1, 1 ≤ f.1 ∧ f.1 ≤ 6
  pl : ∀ k : Nat, k < s.2.1.length → PlI s.1 o s.2.1 k (cAt s.2.1 k) (L k)
section
variable {T : Int} {k C : Nat} {m m' : Me} {o o' : OM} {F : List Frm} {f f' g : Frm} {r : Rest} {l : List Int}
theorem le68 {x : Int} (h : 1 ≤ x ∧ x ≤ 6) : 1 ≤ x ∧ x ≤ 8 := by omega
theorem le67 {x : Int} (h : 1 ≤ x ∧ x ≤ 6) : ¬ x = 7 ∧ ¬ x = 8 := by omega
theorem le6_last {x : Int} (h : 1 ≤ x ∧ x ≤ 6) (h1 : ¬ x = 1) (h2 : ¬ x = 2) (h3 : ¬ x = 3) (h4 : ¬ x = 4) (h5 : ¬ x = 5) (h6 : ¬ x = 6) : False := by omega
/-- Of ops up to 6 only such are called. -/
theorem ops_next (h : ∀ x ∈ F ++ [f], 1 ≤ x.1 ∧ x.1 ≤ 6) : ∀ x ∈ F ++ (lMM C k m f r).fs, 1 ≤ x.1 ∧ x.1 ≤ 6 := by
  intro x hx
  rcases List.mem_append.1 hx with hx | hx
  · exact h x (List.mem_append_left _ hx)
  have hf := h f (by simp)
  have c7 : ¬ f.1 = 7 := (le67 hf).1
  have hone : ∀ y : Frm, y.1 = f.1 → x ∈ [y] → 1 ≤ x.1 ∧ x.1 ≤ 6 := fun y hy hm => by rw [List.mem_singleton.1 hm, hy]; exact hf
  have htwo : ∀ y g : Frm, y.1 = f.1 → (1 ≤ g.1 ∧ g.1 ≤ 6) → x ∈ [y, g] → 1 ≤ x.1 ∧ x.1 ≤ 6 := fun y g hy hg hm => by
    rcases List.mem_cons.1 hm with e | e
    · rw [e, hy]; exact hf
    · rw [List.mem_singleton.1 e]; exact hg
  unfold lMM at hx
  split at hx
  · rename_i e
    unfold lPop at hx
    repeat' split at hx
    all_goals first | (exact hone _ e.symm hx) | cases hx
  split at hx
  · rename_i e
    unfold lPush at hx
    repeat' split at hx
    all_goals first | (exact hone _ e.symm hx) | cases hx
  split at hx
  · rename_i e
    unfold lProt at hx
    repeat' split at hx
    all_goals first | (exact hone _ e.symm hx) | cases hx
  split at hx
  · rename_i e
    unfold lClear at hx
    repeat' split at hx
    all_goals first | (exact hone _ e.symm hx) | cases hx
  split at hx
  · rename_i e
    unfold lRetire at hx
    repeat' split at hx
    all_goals first | (exact hone _ e.symm hx) | (exact htwo _ _ e.symm (show 1 ≤ (6 : Int) ∧ (6 : Int) ≤ 6 by decide) hx) | cases hx
  split at hx
  · rename_i e
    unfold lScan at hx
    repeat' split at hx
    all_goals first | (exact hone _ e.symm hx) | (exact htwo _ _ e.symm (show 1 ≤ (2 : Int) ∧ (2 : Int) ≤ 6 by decide) hx) | cases hx
  rename_i a1 a2 a3 a4 a5 a6
  exact (le6_last hf a1 a2 a3 a4 a5 a6).elim
theorem ky_cell (p : Int) : ky p = lk p + 2 := rfl
theorem KeyI.good {p : Int} {L : Loc} (h : KeyI m p) (hp : InN m p) (hg : Good T k C m o F f r L o') : KeyI L.m p := (hg.cells p 2 hp (by decide) (by decide)).trans h
/-- Others' steps leave it. -/
theorem PlI.stays {cs : List Cor} {c : Nat} {x : Pl} (h : PlI m o cs c (cAt cs c) x) (hC : cs.length ≤ 8) (hl : FL m l) (hk : k < cs.length) (hck : c ≠ k) (hcl : c < cs.length) (hop : 1 ≤ f.1 ∧ f.1 ≤ 8) (hat : cAt cs k = (F ++ [f], r)) (hc : CoreI m o cs.length k (F ++ [f], r)) (hg : Good T k cs.length m o F f r (lMM cs.length k m f r) o') :
    PlI (lMM cs.length k m f r).m o' (List.set (α := Cor) cs ((k : Nat) : Int).toNat (F ++ (lMM cs.length k m f r).fs, (lMM cs.length k m f r).r)) c (cAt cs c) x := by
  cases h with
  | any h => exact .any h
  | pops h e hf => exact .pops h e hf
  | popped h e ht => exact .popped h e (ht.imp (fun ⟨a, b, d⟩ => ⟨a, hg.chg.inN.2 b, ((hg.chg.owns c _ hck b).1).2 d⟩) id)
  | has h e hp ho hk => exact .has h e (hg.chg.inN.2 hp) (((hg.chg.owns c _ hck hp).1).2 ho) fun h2 => (hk h2).good hp hg
  | prots h e hf => exact .prots h e hf
  | protd h e hgd => exact .protd h e (hgd.imp id fun ⟨a, b⟩ => ⟨a.step hC hl hk hck hcl (by decide) hop hat hc hg, b.good a.inn hg⟩)
  | reads h e hgd hk2 => exact .reads h e (hgd.step hC hl hk hck hcl (by decide) hop hat hc hg) (hk2.good hgd.inn hg)
  | ends h e => exact .ends h e
theorem one_of {x : Frm} (h : F ++ [f] = [x]) : F = [] ∧ f = x := by
  cases F with
  | nil => exact ⟨rfl, (List.cons.inj h).1⟩
  | cons a l =>
    have := congrArg List.length h
    rw [List.length_append] at this
    exact absurd this (by show ¬ l.length + 1 + 1 = 1; omega)
/-- Its own step. -/
theorem PlI.own {cs cs' : List Cor} {x : Pl} (h : PlI m o cs k (F ++ [f], r) x) (hsh : ShI m o) (hcs : cs'.length = cs.length) (hg : Good T k cs.length m o F f r (lMM cs.length k m f r) o') : PlI (lMM cs.length k m f r).m o' cs' k (F ++ (lMM cs.length k m f r).fs, (lMM cs.length k m f r).r) x := by
  have no : ∀ {P : Prop}, F ++ [f] = [] → P := fun h => absurd h (by simp)
  have nocall : ∀ f' g', (f.1 = 1 ∨ f.1 = 3) → (lMM cs.length k m f r).fs = [f', g'] → Like f f' → False := fun f' g' hf q1 q2 => by
    have hst2 : Stk (lMM cs.length k m f r).m o' cs.length k (lMM cs.length k m f r).r (F ++ (lMM cs.length k m f r).fs).reverse := hg.core.st
    rw [q1, rev_two] at hst2
    have hw : WaitI cs.length _ f' g'.1 := hst2.2.2.1
    refine hw.low ?_
    rw [q2.1]
    rcases hf with e | e
    · exact .inl e
    · exact .inr (.inr (.inl e))
  cases h with
  | any h => exact .any h
  | pops h e hf =>
    obtain ⟨rfl, rfl⟩ := one_of e
    rcases hg.out with ⟨f', q1, q2, _⟩ | ⟨f', g', q1, q2, _⟩ | ⟨q1, q2⟩
    · exact .pops (f := f') h (by show [] ++ _ = _; rw [q1]; rfl) (q2.1.trans hf)
    · exact (nocall f' g' (.inl hf) q1 q2).elim
    · exact .popped h (by show [] ++ _ = _; rw [q1]; rfl) (q2.told (.inl hf))
  | popped h e ht => exact no e
  | has h e hp ho hk => exact no e
  | prots h e hf =>
    obtain ⟨rfl, rfl⟩ := one_of e
    rcases hg.out with ⟨f', q1, q2, _⟩ | ⟨f', g', q1, q2, _⟩ | ⟨q1, q2⟩
    · refine .prots (f := f') h (by show [] ++ _ = _; rw [q1]; rfl) ⟨q2.1.trans hf.1, ?_, ?_⟩
      · rcases q2.2.1 (by rw [hf.1]; decide) with e3 | e3
        · rw [e3]; exact hf.2.1
        · rw [hf.1] at e3; exact nope e3 rfl
      · rw [q2.2.2 hf.1]; exact hf.2.2
    · exact (nocall f' g' (.inr hf.1) q1 q2).elim
    · refine .protd h (by show [] ++ _ = _; rw [q1]; rfl) ?_
      obtain ⟨p1, p2⟩ := q2.prot hf.1
      rw [hf.2.1] at p1
      rw [hf.2.2] at p2
      show idxI (lMM cs.length k m f r).r.1 = 0 ∨ Guard _ _ _ _ _ (idxI (lMM cs.length k m f r).r.1) ∧ KeyI _ (idxI (lMM cs.length k m f r).r.1)
      rcases p2 with p2 | p2
      · exact .inl p2
      rcases hsh with h0 | ⟨h1, h2, h3⟩
      · rw [← p1] at h0; exact .inl h0
      rw [← p1] at h1 h2 h3
      refine .inr ⟨⟨p2, hg.chg.inN.2 h1, .inl ?_⟩, h3.good h1 hg⟩
      rcases hg.own _ h1 with e | ⟨e, _⟩ | ⟨e, _⟩ | ⟨e, _⟩ | ⟨e, _⟩ | ⟨⟨x, e⟩, _⟩ <;> first | exact e.trans h2 | (rw [h2] at e; cases e)
  | protd h e hgd => exact no e
  | reads h e hgd hk => exact no e
  | ends h e => exact no e
end
section
variable {T : Int} {o : OM} {s : Sy} {L : Nat → Pl} {k : Nat}
theorem ShI.good {C : Nat} {m : Me} {o' : OM} {F : List Frm} {f : Frm} {r : Rest} {L : Loc} (h : ShI m o) (hg : Good T k C m o F f r L o') (hk : k < 8) : ShI L.m o' := by
  have e : nI L.m.1 100 = nI m.1 100 := hg.words 100 (by decide) (by decide) fun i h0 h1 => by have := slotP_is k i; omega
  unfold ShI
  rw [e]
  refine h.imp id fun ⟨h1, h2, h3⟩ => ⟨hg.chg.inN.2 h1, ?_, h3.good h1 hg⟩
  rcases hg.own _ h1 with e | ⟨e, _⟩ | ⟨e, _⟩ | ⟨e, _⟩ | ⟨e, _⟩ | ⟨⟨x, e⟩, _⟩ <;> first | exact e.trans h2 | (rw [h2] at e; cases e)
/-- A step of an op. -/
theorem SafeI.step {F : List Frm} {f : Frm} {r : Rest} (h : SafeI T o s L) (hT : T < 1000000000) (hk : k < s.2.1.length) (hc : cAt s.2.1 k = (F ++ [f], r)) :
    ∃ o', alS s k = (lMM s.2.1.length k s.1 f r).into s k F ∧ SafeI (T + 1) o' (alS s k) L := by
  have hops := h.ops k hk
  rw [hc] at hops
  have hop := hops f (by simp)
  obtain ⟨o', e, hg, hm⟩ := h.mm.step hT hk hc (le68 hop)
  obtain ⟨l, hl⟩ := h.mm.list
  have hcore := h.mm.core k hk
  rw [hc] at hcore
  have hC := h.mm.cores
  refine ⟨o', e, hm, ?_, fun p c hp hx => ?_, fun p c hp hx => ?_, fun c hcc => ?_, fun c hcc => ?_⟩
  · rw [e]; exact h.sh.good hg (by omega)
  · rw [e] at hp
    replace hp : InN s.1 p := hg.chg.inN.1 hp
    by_cases hck : c = k
    · subst hck
      rcases hg.own p hp with q | ⟨_, q⟩ | ⟨_, q⟩ | ⟨_, q⟩ | ⟨q, _⟩ | ⟨_, q⟩
      · rw [q] at hx; exact h.nodrop p c hp hx
      · rw [q] at hx; cases hx
      · rw [q] at hx; cases hx
      · rw [q] at hx; cases hx
      · rcases fresh_stays hcore hg (le68 hop) hp q with q2 | ⟨q2, _⟩
        · rw [q2] at hx; cases hx
        · exact absurd q2 (le67 hop).2
      · rw [q] at hx; cases hx
    · exact h.nodrop p c hp (((hg.chg.owns c p hck hp).2.2.2 1).1 hx)
  · rw [e] at hp ⊢
    replace hp : InN s.1 p := hg.chg.inN.1 hp
    rw [show ((lMM s.2.1.length k s.1 f r).into s k F).2.1.length = s.2.1.length from List.length_set]
    by_cases hck : c = k
    · rw [hck]; exact hk
    · have := hg.chg.owns c p hck hp
      exact h.who p c hp (hx.imp this.2.2.1.1 fun ⟨x, hx⟩ => ⟨x, (this.2.2.2 x).1 hx⟩)
  · rw [e] at hcc ⊢
    have hcc : c < s.2.1.length := by rw [show ((lMM s.2.1.length k s.1 f r).into s k F).2.1.length = s.2.1.length from List.length_set] at hcc; exact hcc
    by_cases ck : c = k
    · subst ck
      rw [show cAt ((lMM s.2.1.length c s.1 f r).into s c F).2.1 c = (F ++ (lMM s.2.1.length c s.1 f r).fs, (lMM s.2.1.length c s.1 f r).r) from cAt_setN hk]
      exact ops_next hops
    · rw [show cAt ((lMM s.2.1.length k s.1 f r).into s k F).2.1 c = cAt s.2.1 c from cAt_neN ck]
      exact h.ops c hcc
  · rw [e] at hcc ⊢
    have hcc : c < s.2.1.length := by rw [show ((lMM s.2.1.length k s.1 f r).into s k F).2.1.length = s.2.1.length from List.length_set] at hcc; exact hcc
    by_cases ck : c = k
    · subst ck
      have hpl := h.pl c hk
      rw [hc] at hpl
      rw [show cAt ((lMM s.2.1.length c s.1 f r).into s c F).2.1 c = (F ++ (lMM s.2.1.length c s.1 f r).fs, (lMM s.2.1.length c s.1 f r).r) from cAt_setN hk]
      exact hpl.own h.sh List.length_set hg
    · rw [show cAt ((lMM s.2.1.length k s.1 f r).into s k F).2.1 c = cAt s.2.1 c from cAt_neN ck]
      exact (h.pl c hcc).stays hC.2 hl hk ck hcc (le68 hop) hc hcore hg
end

section
variable {k : Nat} {m m' : Me} {o o' : OM} {cs cs' : List Cor}
/-- What a core that is at nothing may change. -/
structure Cli (k : Nat) (m : Me) (o : OM) (m' : Me) (o' : OM) : Prop where
  chg : Chg k m o m' o'
  cell : ∀ p, InN m p → o p ≠ .fresh k → nI m'.1 (ky p) = nI m.1 (ky p)
  own : ∀ p, InN m p → o' p = o p ∨ (o p = .fresh k ∧ o' p = .shared) ∨ (o p = .shared ∧ o' p = .gone k)
theorem Cli.refl : Cli k m o m o := ⟨Chg.same9, fun _ _ _ => rfl, fun _ _ => .inl rfl⟩
theorem Guard.cli {c : Nat} {i p : Int} (h : Guard m o cs c i p) (hc : Cli k m o m' o') (hck : c ≠ k) (hc8 : c < 8) (hi : 0 ≤ i ∧ i ≤ 2) (hlen : cs'.length = cs.length) (hot : ∀ d : Nat, d ≠ k → cAt cs' d = cAt cs d) (hno : ∀ f ∈ (cAt cs' k).1, f.1 ≠ 6) : Guard m' o' cs' c i p := by
  refine ⟨(hc.chg.slots c i hck hc8 hi.1 hi.2).trans h.slot, hc.chg.inN.2 h.inn, ?_⟩
  rcases hc.own p h.inn with e | ⟨e, e'⟩ | ⟨e, e'⟩
  · rw [e]
    rcases h.own with h1 | h1 | ⟨d, h1, h2, h3⟩
    · exact .inl h1
    · exact .inr (.inl h1)
    · refine .inr (.inr ⟨d, by rw [hlen]; exact h1, h2, fun f hf h6 => ?_⟩)
      by_cases hdk : d = k
      · subst hdk; exact absurd h6 (hno f hf)
      · rw [hot d hdk] at hf; exact h3 f hf h6
  · exact .inl e'
  · exact .inr (.inl ⟨k, e'⟩)
theorem Guard.notFresh {c : Nat} {i p : Int} (h : Guard m o cs c i p) : o p ≠ .fresh k := fun e => by
  rcases h.own with h1 | ⟨d, h1⟩ | ⟨d, _, h1, _⟩ <;> rw [e] at h1 <;> cases h1
theorem PlI.cli {c : Nat} {x : Pl} (h : PlI m o cs c (cAt cs c) x) (hc : Cli k m o m' o') (hck : c ≠ k) (hc8 : c < 8) (hlen : cs'.length = cs.length) (hot : ∀ d : Nat, d ≠ k → cAt cs' d = cAt cs d) (hno : ∀ f ∈ (cAt cs' k).1, f.1 ≠ 6) : PlI m' o' cs' c (cAt cs' c) x := by
  rw [hot c hck]
  cases h with
  | any h => exact .any h
  | pops h e hf => exact .pops h e hf
  | popped h e ht => exact .popped h e (ht.imp (fun ⟨a, b, d⟩ => ⟨a, hc.chg.inN.2 b, ((hc.chg.owns c _ hck b).1).2 d⟩) id)
  | has h e hp ho hk => exact .has h e (hc.chg.inN.2 hp) (((hc.chg.owns c _ hck hp).1).2 ho) fun h2 => (hc.cell _ hp (fun e => by rw [ho] at e; exact hck (Own.fresh.inj e))).trans (hk h2)
  | prots h e hf => exact .prots h e hf
  | protd h e hgd => exact .protd h e (hgd.imp id fun ⟨a, b⟩ => ⟨a.cli hc hck hc8 (by decide) hlen hot hno, (hc.cell _ a.inn a.notFresh).trans b⟩)
  | reads h e hgd hk2 => exact .reads h e (hgd.cli hc hck hc8 (by decide) hlen hot hno) ((hc.cell _ hgd.inn hgd.notFresh).trans hk2)
  | ends h e => exact .ends h e
end
section
variable {T : Int} {o o' : OM} {s s' : Sy} {L : Nat → Pl} {k : Nat} {m' : Me} {x : Pl} {p : Int}
theorem SafeI.cli (h : SafeI T o s L) (hk : k < s.2.1.length) (hmm : MM T o' s') (hlen : s'.2.1.length = s.2.1.length) (hot : ∀ d : Nat, d ≠ k → cAt s'.2.1 d = cAt s.2.1 d) (hf : ∀ f ∈ (cAt s'.2.1 k).1, 1 ≤ f.1 ∧ f.1 ≤ 5) (hc : Cli k s.1 o s'.1 o') (hsh : ShI s'.1 o') (hx : PlI s'.1 o' s'.2.1 k (cAt s'.2.1 k) x) : SafeI T o' s' (updN L k x) := by
  have h8 := h.mm.cores
  refine ⟨hmm, hsh, fun p c hp hx => ?_, fun p c hp hx => ?_, fun c hcc => ?_, fun c hcc => ?_⟩
  · have hp := hc.chg.inN.1 hp
    rcases hc.own p hp with e | ⟨_, e⟩ | ⟨_, e⟩
    · rw [e] at hx; exact h.nodrop p c hp hx
    · rw [e] at hx; cases hx
    · rw [e] at hx; cases hx
  · have hp := hc.chg.inN.1 hp
    rw [hlen]
    rcases hc.own p hp with e | ⟨_, e⟩ | ⟨_, e⟩
    · rw [e] at hx; exact h.who p c hp hx
    · rw [e] at hx; rcases hx with hx | ⟨x, hx⟩ <;> cases hx
    · rw [e] at hx; rcases hx with hx | ⟨x, hx⟩ <;> cases hx
  · by_cases ck : c = k
    · subst ck
      exact fun f hff => ⟨(hf f hff).1, Int.le_trans (hf f hff).2 (by decide)⟩
    · rw [hot c ck]; exact h.ops c (by omega)
  · by_cases ck : c = k
    · subst ck; rw [updN_self]; exact hx
    · rw [updN_ne ck]
      exact (h.pl c (by omega)).cli hc ck (by omega) hlen hot fun f hff e => by
        have := (hf f hff).2
        rw [e] at this
        exact absurd this (by decide)
/-- It is at another step. -/
theorem SafeI.put (h : SafeI T o s L) (hk : k < s.2.1.length) (hidle : (cAt s.2.1 k).1 = []) (hx : PlI s.1 o s.2.1 k (cAt s.2.1 k) x) : SafeI T o s (updN L k x) :=
  h.cli hk h.mm rfl (fun _ _ => rfl) (fun f hf => by rw [hidle] at hf; cases hf) Cli.refl h.sh hx
/-- It calls an op. -/
theorem SafeI.calls {op a : Int} (h : SafeI T o s L) (hk : k < s.2.1.length) (hidle : (cAt s.2.1 k).1 = []) (hop : 1 ≤ op ∧ op ≤ 5) (htop : TopI s.1 o s.2.1.length k (cAt s.2.1 k).2 (frm0 op a 0 0)) (hx : ∀ cs, PlI s.1 o cs k ([frm0 op a 0 0], (cAt s.2.1 k).2) x) : SafeI T o (callS s k op a 0 0) (updN L k x) := by
  obtain ⟨e1, e2, e3, e4⟩ := callS_cor (op := op) (a := a) hk hidle
  refine h.cli hk (h.mm.calls hk hidle htop) e2 e4 (fun f hf => ?_) (by rw [e1]; exact Cli.refl) (by rw [e1]; exact h.sh) (by rw [e1, e3]; exact hx _)
  rw [e3] at hf
  rw [show f = frm0 op a 0 0 from List.mem_singleton.1 hf]
  exact hop
theorem keys_apart {p q : Int} (h : p ≠ q) : ky p ≠ ky q := by
  have := ky_is p
  have := ky_is q
  omega
theorem ShI.notFresh {m : Me} {o : OM} (h : ShI m o) (h0 : idxI (nI m.1 100) ≠ 0) : o (idxI (nI m.1 100)) ≠ .fresh k := fun e => by
  rcases h with h | ⟨_, h, _⟩
  · exact h0 h
  · rw [e] at h; cases h
/-- It writes the key of its new node. -/
theorem SafeI.key (h : SafeI T o s L) (hk : k < s.2.1.length) (hidle : (cAt s.2.1 k).1 = []) (hp : InN s.1 p) (ho : o p = .fresh k) : SafeI T o (setW s.1 (ky p) p, s.2) (updN L k (3, p, 0, ())) := by
  have hky := ky_is p
  have h1 := hp.1
  have h2 := hp.2
  obtain ⟨l, hl⟩ := h.mm.list
  have hlen := hl.fits.1
  have hc : Cli k s.1 o (setW s.1 (ky p) p) o := by
    refine ⟨⟨rfl, .inl ⟨setW_ne (by omega) (by omega) (by omega), fun q hq _ => ?_⟩, fun c i _ h8 h0 h2 => ?_, fun c q x _ hq _ => ?_, fun _ q _ _ => same_owns q⟩, fun q hq hne => ?_, fun _ _ => .inl rfl⟩
    · have := lk_is q; have := hq.1; exact setW_ne (by omega) (by omega) (by omega)
    · have := slotP_is c i; exact setW_ne (by omega) (by omega) (by omega)
    · have := lk_is q; have := hq.1; exact setW_ne (by omega) (by omega) (by omega)
    · have := ky_is q; have := hq.1
      exact setW_ne (by omega) (by omega) (keys_apart fun e => by subst e; exact hne ho)
  have e100 : nI (setW s.1 (ky p) p).1 100 = nI s.1.1 100 := setW_ne (by omega) (by omega) (by omega)
  refine h.cli (s' := (setW s.1 (ky p) p, s.2)) hk (h.mm.mem hk hidle hc.chg ⟨l, hl.setW (by omega) fun q hq => ?_⟩ ?_ h.mm.stat (fun _ _ => Iff.rfl) (fun _ _ _ h => h)) rfl (fun _ _ => rfl) (fun f hf => by rw [hidle] at hf; cases hf) hc ?_ ?_
  · have := lk_is q; have := (hl.mem q).1 hq; omega
  · have : nI (setW s.1 (ky p) p).1 0 = nI s.1.1 0 := setW_ne (by omega) (by omega) (by omega)
    rw [this]; exact h.mm.tag
  · unfold ShI
    rw [e100]
    rcases h.sh with h0 | ⟨h3, h4, h5⟩
    · exact .inl h0
    · exact .inr ⟨h3, h4, (hc.cell _ h3 fun e => by rw [e] at h4; cases h4).trans h5⟩
  · exact .has (.inr (.inl rfl)) hidle hp ho fun _ => setW_self (by omega) (by omega)
/-- It lays its node where all look. -/
theorem SafeI.lay (h : SafeI T o s L) (hk : k < s.2.1.length) (hidle : (cAt s.2.1 k).1 = []) (hp : InN s.1 p) (ho : o p = .fresh k) (hkey : KeyI s.1 p) :
    ∃ o', SafeI T o' (setW s.1 100 (nextI (nI s.1.1 100) p 0), s.2) (updN L k (0, 0, 0, ())) ∧ (idxI (nI s.1.1 100) ≠ 0 → InN s.1 (idxI (nI s.1.1 100)) ∧ o' (idxI (nI s.1.1 100)) = .gone k) := by
  have h1 := hp.1
  have h2 := hp.2
  obtain ⟨l, hl⟩ := h.mm.list
  have hlen := hl.fits.1
  have hlen2 := hl.fits.2
  obtain ⟨q, hq⟩ : ∃ q, idxI (nI s.1.1 100) = q := ⟨_, rfl⟩
  obtain ⟨o1, ho1⟩ : ∃ o1, o1 = upd o p .shared := ⟨_, rfl⟩
  obtain ⟨o', ho'⟩ : ∃ o', o' = if q = 0 then o1 else upd o1 q (.gone k) := ⟨_, rfl⟩
  have hsh : q ≠ 0 → InN s.1 q ∧ o q = .shared ∧ KeyI s.1 q := fun h0 => by
    rcases h.sh with e | e
    · exact absurd (hq.symm.trans e) h0
    · rw [hq] at e; exact e
  have hpq : q ≠ 0 → q ≠ p := fun h0 e => by
    have := (hsh h0).2.1
    rw [e, ho] at this; cases this
  have a1 : ∀ y, y ≠ p → (q ≠ 0 → y ≠ q) → o' y = o y := fun y hy hyq => by
    rw [ho', ho1]
    split
    · exact upd_ne hy
    · rename_i h0
      rw [upd_ne (hyq h0), upd_ne hy]
  have a2 : o' p = .shared := by
    rw [ho', ho1]
    split
    · exact upd_self
    · rename_i h0
      rw [upd_ne (fun e => hpq h0 e.symm), upd_self]
  have a3 : q ≠ 0 → o' q = .gone k := fun h0 => by rw [ho', if_neg h0, upd_self]
  have hown : ∀ y, InN s.1 y → o' y = o y ∨ (o y = .fresh k ∧ o' y = .shared) ∨ (o y = .shared ∧ o' y = .gone k) := fun y _ => by
    by_cases e : y = p
    · rw [e]; exact .inr (.inl ⟨ho, a2⟩)
    by_cases e2 : q ≠ 0 ∧ y = q
    · rw [e2.2]; exact .inr (.inr ⟨(hsh e2.1).2.1, a3 e2.1⟩)
    · exact .inl (a1 y e fun h0 e3 => e2 ⟨h0, e3⟩)
  have howns : ∀ (c : Nat) (y : Int), c ≠ k → InN s.1 y → (o' y = .fresh c ↔ o y = .fresh c) ∧ (o' y = .gone c ↔ o y = .gone c) ∧ (o' y = .ret c ↔ o y = .ret c) ∧ ∀ x, (o' y = .push c x ↔ o y = .push c x) := fun c y hck hy => by
    have hkc : k ≠ c := fun e => hck e.symm
    rcases hown y hy with e | ⟨e, e'⟩ | ⟨e, e'⟩
    · rw [e]; exact ⟨Iff.rfl, Iff.rfl, Iff.rfl, fun _ => Iff.rfl⟩
    · rw [e, e']
      exact ⟨⟨fun h => (nomatch h), fun h => absurd (Own.fresh.inj h) hkc⟩, ⟨fun h => (nomatch h), fun h => (nomatch h)⟩, ⟨fun h => (nomatch h), fun h => (nomatch h)⟩, fun _ => ⟨fun h => (nomatch h), fun h => (nomatch h)⟩⟩
    · rw [e, e']
      exact ⟨⟨fun h => (nomatch h), fun h => (nomatch h)⟩, ⟨fun h => absurd (Own.gone.inj h) hkc, fun h => (nomatch h)⟩, ⟨fun h => (nomatch h), fun h => (nomatch h)⟩, fun _ => ⟨fun h => (nomatch h), fun h => (nomatch h)⟩⟩
  have hc : Cli k s.1 o (setW s.1 100 (nextI (nI s.1.1 100) p 0)) o' := by
    refine ⟨⟨rfl, .inl ⟨setW_ne (by omega) (by omega) (by omega), fun y hy _ => ?_⟩, fun c i _ h8 h0 h2 => ?_, fun c y x _ hy _ => ?_, howns⟩, fun y hy hne => ?_, hown⟩
    · have := lk_is y; have := hy.1; exact setW_ne (by omega) (by omega) (by omega)
    · have := slotP_is c i; exact setW_ne (by omega) (by omega) (by omega)
    · have := lk_is y; have := hy.1; exact setW_ne (by omega) (by omega) (by omega)
    · have := ky_is y; have := hy.1; exact setW_ne (by omega) (by omega) (by omega)
  refine ⟨o', h.cli (s' := (setW s.1 100 (nextI (nI s.1.1 100) p 0), s.2)) hk (h.mm.mem hk hidle hc.chg ⟨l, hl.setW (by omega) fun y hy => ?_⟩ ?_ (fun y hy => ?_) (fun y hy => ?_) (fun y x hy hx => ?_)) rfl (fun _ _ => rfl) (fun f hf => by rw [hidle] at hf; cases hf) hc ?_ (.any rfl), ?_⟩
  · have := lk_is y; have := (hl.mem y).1 hy; omega
  · have : nI (setW s.1 100 (nextI (nI s.1.1 100) p 0)).1 0 = nI s.1.1 0 := setW_ne (by omega) (by omega) (by omega)
    rw [this]; exact h.mm.tag
  · have hs := h.mm.stat y hy
    show statO (o' y) (nI s.1.2.1 y)
    rcases hown y hy with e | ⟨e, e'⟩ | ⟨e, e'⟩
    · rw [e]; exact hs
    · rw [e] at hs; rw [e']; exact hs
    · rw [e] at hs; rw [e']; exact hs
  · rcases hown y hy with e | ⟨e, e'⟩ | ⟨e, e'⟩
    · rw [e]
    · rw [e, e']; exact ⟨fun h => (nomatch h), fun h => (nomatch h)⟩
    · rw [e, e']; exact ⟨fun h => (nomatch h), fun h => (nomatch h)⟩
  · rcases hown y hy with e | ⟨e, e'⟩ | ⟨e, e'⟩
    · rw [← e]; exact hx
    · rw [e'] at hx; cases hx
    · rw [e'] at hx; cases hx
  · have e : nI (setW s.1 100 (nextI (nI s.1.1 100) p 0)).1 100 = nextI (nI s.1.1 100) p 0 := setW_self (by omega) (by omega)
    unfold ShI
    show idxI (nI (setW s.1 100 (nextI (nI s.1.1 100) p 0)).1 100) = 0 ∨ _
    rw [e, idx_next (by omega) (by omega)]
    refine .inr ⟨hp, a2, ?_⟩
    have := ky_is p
    exact (setW_ne (by omega) (by omega) (by omega)).trans hkey
  · rw [hq]
    exact fun h0 => ⟨(hsh h0).1, a3 h0⟩
end
end Go.Proofs.Ytjeiopkfdgllhaa.V
