/- The memory's management: a node that a core has stays with it. The memory's management: what a pop gives was free; one that gives none saw that none is free. AllocSafe: what is known of a core that allocates, drops and retires. AllocSafe: all cores. -/
import Derived.Test.YtpobngddiifdpaaGreatZdM9
set_option linter.unusedSimpArgs false
set_option linter.unusedVariables false
namespace Go.Proofs.YtpobngddiifdpaaGreat.V
open Go Go.RowKit Go.Proofs.YtpobngddiifdpaaGreat.Hz
set_option maxRecDepth 100000

theorem fresh_stays {T : Int} {k C : Nat} {m : Me} {o o' : OM} {F : List Frm} {f : Frm} {r : Rest} (hc : CoreI m o C k (F ++ [f], r)) (hg : Good T k C m o F f r (lMM C k m f r) o') {p : Int} (hop : 1 ≤ f.1 ∧ f.1 ≤ 8) (hp : InN m p) (ho : o p = .fresh k) :
    o' p = .fresh k ∨ (f.1 = 8 ∧ f.2.1 = 0 ∧ f.2.2.1.1 = p ∧ o' p = .push k 1) := by
  rcases hg.own p hp with h | ⟨h, _⟩ | ⟨h, _⟩ | ⟨h, _⟩ | ⟨_, h⟩ | ⟨⟨x, h⟩, _⟩
  · exact .inl (h.trans ho)
  · rw [ho] at h; cases h
  · rw [ho] at h; cases h
  · rw [ho] at h; cases h
  rotate_left
  · rw [ho] at h; cases h
  right
  obtain ⟨F', g, e, e1, e2⟩ := hg.core.push p 1 (hg.chg.inN.2 hp) h
  have e : F ++ (lMM C k m f r).fs = F' ++ [g] := e
  have hst := hc.st
  rw [rev_one] at hst
  have hst2 := hg.core.st
  have hst2 : Stk (lMM C k m f r).m o' C k (lMM C k m f r).r (F ++ (lMM C k m f r).fs).reverse := hst2
  rcases hg.out with ⟨f', q1, q2, _⟩ | ⟨f', g', q1, q2, _⟩ | ⟨q1, _⟩
  · rw [q1] at e
    have := (List.append_inj' e rfl).2
    rw [List.cons.injEq] at this
    obtain ⟨rfl, _⟩ := this
    have hf2 : f.1 = 2 := q2.1.symm.trans e1
    obtain ⟨_, ⟨x, hx⟩, _⟩ := hst.1.push hf2
    rcases q2.2.1 (by rw [hf2]; decide) with e3 | e3
    · rw [← e3, e2, ho] at hx; cases hx
    · exact absurd (hf2.symm.trans e3) (by decide)
  · rw [q1] at e hst2
    have e' : (F ++ [f']) ++ [g'] = F' ++ [g] := by rw [← e]; simp
    have := (List.append_inj' e' rfl).2
    rw [List.cons.injEq] at this
    obtain ⟨rfl, _⟩ := this
    rw [rev_two] at hst2
    have hw : WaitI C _ f' g'.1 := hst2.2.2.1
    rw [e1] at hw
    by_cases c8 : f.1 = 8
    · have hL : (lMM C k m f r) = lDrop m f.2.1 f.2.2.1 f.2.2.2.1 r := by unfold lMM; rw [c8]; rfl
      rw [hL] at q1
      unfold lDrop at q1
      split at q1
      · rename_i h0
        have q1 : [((8 : Int), (1 : Int), f.2.2.1, f.2.2.2.1, ()), frm0 2 f.2.2.1.1 0 0] = [f', g'] := q1
        rw [List.cons.injEq, List.cons.injEq] at q1
        refine ⟨c8, h0, ?_, h⟩
        rw [← q1.2.1] at e2
        exact e2
      · split at q1
        · cases q1
        · exact absurd (congrArg List.length q1) (by show ¬ 1 = 2; decide)
    by_cases c6 : f.1 = 6
    · exfalso
      have hL : (lMM C k m f r) = lScan C m f.2.1 f.2.2.1 f.2.2.2.1 r := by unfold lMM; rw [c6]; rfl
      rw [hL] at q1
      unfold lScan at q1
      split at q1
      · exact absurd (congrArg List.length q1) (by show ¬ 1 = 2; decide)
      split at q1
      · split at q1
        · cases q1
        · rename_i hn
          obtain ⟨n, hnn⟩ : ∃ n, nextOut f.2.2.2.1 (rtL r) (Int.toNat f.2.2.1.2.1) = n := ⟨_, rfl⟩
          have q1 : [((6 : Int), (1 : Int), (f.2.2.1.1, ((nextOut f.2.2.2.1 (rtL r) (Int.toNat f.2.2.1.2.1) : Nat) : Int), f.2.2.1.2.2), f.2.2.2.1, ()), frm0 2 (nI (rtL r) (nextOut f.2.2.2.1 (rtL r) (Int.toNat f.2.2.1.2.1))) 0 0] = [f', g'] := q1
          rw [hnn] at q1 hn
          rw [List.cons.injEq, List.cons.injEq] at q1
          rw [← q1.2.1] at e2
          have e2 : nI (rtL r) (n : Int) = p := e2
          have hlt : n < (rtL r).length := by
            have := not_or.1 hn
            omega
          have hmem : p ∈ rtL r := by
            rw [← e2]
            show List.getD (rtL r) ((n : Int)).toNat 0 ∈ _
            rw [Int.toNat_natCast, List.getD_eq_getElem?_getD, List.getElem?_eq_getElem hlt]
            exact List.getElem_mem hlt
          have := ((hc.ret p).1 hmem).2
          rw [ho] at this; cases this
      · exact absurd (congrArg List.length q1) (by show ¬ 1 = 2; decide)
    exfalso
    have key : ∀ x : Int, 1 ≤ x ∧ x ≤ 8 → ¬ x = 8 → ¬ x = 6 → (x = 1 ∨ x = 2 ∨ x = 3 ∨ x = 4) ∨ x = 5 ∨ x = 7 := fun x h1 h2 h3 => by omega
    rcases key f.1 hop c8 c6 with h1 | h1 | h1
    · exact hw.low (by rw [q2.1]; exact h1)
    · exact absurd (hw.retire (q2.1.trans h1)).2 (by decide)
    · rcases hw.alloc (q2.1.trans h1) with h2 | h2
      · exact absurd h2.2 (by decide)
      · exact absurd h2.2 (by decide)
  · exfalso
    rw [q1, List.append_nil] at e
    rw [e, List.reverse_append] at hst
    exact (hst.2.2.1).low (.inr (.inl e1))

theorem lMM7 {k C : Nat} {m : Me} {f : Frm} {r : Rest} (h : f.1 = 7) : lMM C k m f r = lAlloc m f.2.1 f.2.2.1 f.2.2.2.1 r := by unfold lMM; rw [h]; rfl
end Go.Proofs.YtpobngddiifdpaaGreat.V

set_option linter.unusedSimpArgs false
set_option linter.unusedVariables false
namespace Go.Proofs.YtpobngddiifdpaaGreat.V
open Go Go.RowKit Go.Proofs.YtpobngddiifdpaaGreat.Hz
set_option maxRecDepth 100000

section
variable {T : Int} {k C : Nat} {m m' : Me} {o o' : OM} {F : List Frm} {f f' g : Frm} {r : Rest} {l : List Int}
theorem Wt.noSc {R : Li} : ∀ {op : Int} {l : List Frm}, op ≠ 2 → Wt C R op l → ∀ g ∈ l, g.1 ≠ 6
  | _, [], _, _, g, hg => (nomatch hg)
  | op, x :: rest, h2, h, g, hg => by
    have n2 : x.1 ≠ 2 := fun e => h.1.low (.inr (.inl e))
    rcases List.mem_cons.1 hg with e | e
    · rw [e]; exact fun e6 => h2 (h.1.scan e6).1
    · exact Wt.noSc n2 h.2.2 g e
/-- What is put to a core's retired nodes. -/
theorem ret_new {p : Int} (hop : 1 ≤ f.1 ∧ f.1 ≤ 8) (h : p ∈ rtL (lMM C k m f r).r) : p ∈ rtL r ∨ f.1 = 5 := by
  by_cases c5 : f.1 = 5
  · exact .inr c5
  left
  unfold lMM at h
  split at h
  · unfold lPop at h
    repeat' split at h
    all_goals exact h
  split at h
  · unfold lPush at h
    repeat' split at h
    all_goals exact h
  split at h
  · unfold lProt at h
    repeat' split at h
    all_goals exact h
  split at h
  · unfold lClear at h
    repeat' split at h
    all_goals exact h
  split at h
  · unfold lScan at h
    split at h
    · exact h
    split at h
    · split at h
      · exact h
      · rcases List.mem_append.1 (show p ∈ _ ++ _ from h) with h | h
        · exact List.mem_of_mem_take h
        · exact List.mem_of_mem_drop h
    · exact h
  split at h
  · unfold lAlloc at h
    repeat' split at h
    all_goals exact h
  · unfold lDrop at h
    repeat' split at h
    all_goals exact h
theorem lMM5 (h : f.1 = 5) : lMM C k m f r = lRetire C m f.2.1 f.2.2.1 f.2.2.2.1 r := by unfold lMM; rw [h]; rfl
theorem lMM6 (h : f.1 = 6) : lMM C k m f r = lScan C m f.2.1 f.2.2.1 f.2.2.2.1 r := by unfold lMM; rw [h]; rfl
theorem mem_snoc_of {l : Li} {p q : Int} (h : p ∈ l) : p ∈ snoc l q := List.mem_append_left _ h
/-- What is taken out of them. -/
theorem ret_out {p : Int} (hop : 1 ≤ f.1 ∧ f.1 ≤ 8) (h : p ∈ rtL r) (h2 : p ∉ rtL (lMM C k m f r).r) : f.1 = 6 ∧ f.2.1 = 1 ∧ p ∉ f.2.2.2.1 := by
  by_cases c6 : f.1 = 6
  · refine ⟨c6, ?_⟩
    rw [lMM6 c6] at h2
    unfold lScan at h2
    split at h2
    · exact absurd h h2
    rename_i c0
    split at h2
    · rename_i c1
      refine ⟨c1, ?_⟩
      split at h2
      · exact absurd h h2
      · rename_i hn
        obtain ⟨n, hnn⟩ : ∃ n, nextOut f.2.2.2.1 (rtL r) (Int.toNat f.2.2.1.2.1) = n := ⟨_, rfl⟩
        rw [hnn] at hn
        have hlt : n < (rtL r).length := by have := not_or.1 hn; omega
        have hhit := nextOut_hit (S := f.2.2.2.1) (l := rtL r) (i := Int.toNat f.2.2.1.2.1) (by rw [hnn]; exact hlt)
        rw [hnn] at hhit
        have h2 : p ∉ (rtL r).take (nextOut f.2.2.2.1 (rtL r) (Int.toNat f.2.2.1.2.1)) ++ (rtL r).drop (nextOut f.2.2.2.1 (rtL r) (Int.toNat f.2.2.1.2.1) + 1) := h2
        rw [hnn] at h2
        have hpg : (rtL r)[n] = nI (rtL r) (n : Int) := by
          show _ = List.getD (rtL r) ((n : Nat) : Int).toNat 0
          rw [Int.toNat_natCast, List.getD_eq_getElem?_getD, List.getElem?_eq_getElem hlt]; rfl
        have hsplit : rtL r = (rtL r).take n ++ (rtL r)[n] :: (rtL r).drop (n + 1) := by
          rw [List.getElem_cons_drop, List.take_append_drop]
        rw [hsplit, List.mem_append, List.mem_cons] at h
        rcases h with h | h | h
        · exact absurd (List.mem_append_left _ h) h2
        · rw [h, hpg]; exact hhit
        · exact absurd (List.mem_append_right _ h) h2
    · exact absurd h h2
  exfalso
  apply h2
  unfold lMM
  split
  · unfold lPop
    repeat' split
    all_goals exact h
  split
  · unfold lPush
    repeat' split
    all_goals exact h
  split
  · unfold lProt
    repeat' split
    all_goals exact h
  split
  · unfold lClear
    repeat' split
    all_goals exact h
  split
  · unfold lRetire
    repeat' split
    all_goals first | exact h | exact mem_snoc_of h
  split
  · unfold lAlloc
    repeat' split
    all_goals exact h
  · unfold lDrop
    repeat' split
    all_goals exact h

/-- A scan's frame has not yet looked at a place, or has seen the node. -/
def Unsc (j p : Int) (f : Frm) : Prop := (f.2.1 = 0 ∧ f.2.2.1.1 ≤ j) ∨ p ∈ f.2.2.2.1
/-- A slot names a node that was shared then. -/
structure Guard (m : Me) (o : OM) (cs : List Cor) (k : Nat) (i p : Int) : Prop where
  slot : nI m.1 (slotP k i) = p
  inn : InN m p
  own : o p = .shared ∨ (∃ c, o p = .gone c) ∨ ∃ c : Nat, c < cs.length ∧ o p = .ret c ∧ ∀ f ∈ (cAt cs c).1, f.1 = 6 → Unsc (3 * k + i) p f
theorem cAt_setN {cs : List Cor} {k : Nat} {x : Cor} (h : k < cs.length) : cAt (List.set (α := Cor) cs ((k : Nat) : Int).toNat x) k = x := getD_set (by omega)
theorem cAt_neN {cs : List Cor} {k c : Nat} {x : Cor} (h : c ≠ k) : cAt (List.set (α := Cor) cs ((k : Nat) : Int).toNat x) c = cAt cs c := by
  show List.getD (List.set (α := Cor) cs (k : Int).toNat _) (c : Int).toNat _ = List.getD cs (c : Int).toNat _
  rw [List.getD_eq_getElem?_getD, List.getD_eq_getElem?_getD, List.getElem?_set_ne (by omega)]
/-- Scans' frames behind a step. -/
theorem scan_next {p j : Int} (hl : FL m l) (hC : C ≤ 8) (hop : 1 ≤ f.1 ∧ f.1 ≤ 8) (hc : CoreI m o C k (F ++ [f], r)) (hg : Good T k C m o F f r (lMM C k m f r) o') (hj : 0 ≤ j) (hj2 : j < 3 * C) (hs : nI m.1 (8 + j) = p) (hp : p ≠ 0) (h : ∀ x ∈ F ++ [f], x.1 = 6 → Unsc j p x) : ∀ x ∈ F ++ (lMM C k m f r).fs, x.1 = 6 → Unsc j p x := by
  intro x hx h6
  rcases List.mem_append.1 hx with hx | hx
  · exact h x (List.mem_append_left _ hx) h6
  rcases hg.out with ⟨f', q1, q2, _⟩ | ⟨f', g', q1, q2, _⟩ | ⟨q1, _⟩
  · rw [q1, List.mem_singleton] at hx
    subst hx
    have c6 : f.1 = 6 := q2.1.symm.trans h6
    have hu := h f (by simp) c6
    rw [lMM6 c6] at q1
    have ht := (Stk.topOf hc).scan c6
    unfold lScan at q1
    rcases ht with ⟨hp0, a0, a1, a2, a3⟩ | ⟨hp1, _⟩
    · rw [if_pos hp0] at q1
      obtain ⟨q, hq⟩ : ∃ q : Int, q = f.2.2.1.1 := ⟨_, rfl⟩
      obtain ⟨S, hS⟩ : ∃ S : Li, S = f.2.2.2.1 := ⟨_, rfl⟩
      replace a0 : 0 ≤ q := by rw [hq]; exact a0
      replace a1 : q < 3 * C := by rw [hq]; exact a1
      replace a2 : (S.length : Int) ≤ q := by rw [hq, hS]; exact a2
      rw [← hq, ← hS] at q1
      have e8 : wrap64 (8 + q) = 8 + q := IntWalk.wrap64_in _ (by omega)
      have e1 : wrap64 (q + 1) = q + 1 := IntWalk.wrap64_in _ (by omega)
      have e3 : wrap64 (3 * (C : Int)) = 3 * C := IntWalk.wrap64_in _ (by omega)
      obtain ⟨l1, l2⟩ := load_word (m := m) (p := 8 + q) (by omega) (by omega) hl.fits
      rw [e8, e1, e3, l2] at q1
      have q1 : [((6 : Int), (if 3 * (C : Int) ≤ q + 1 then 1 else 0 : Int), (q + 1, f.2.2.1.2), (if nI m.1 (8 + q) ≠ 0 ∧ S.length < 24 then snoc S (nI m.1 (8 + q)) else S), ())] = [x] := q1
      rw [List.cons.injEq] at q1
      have hmem : p ∈ S → p ∈ (if nI m.1 (8 + q) ≠ 0 ∧ S.length < 24 then snoc S (nI m.1 (8 + q)) else S) := fun h => by
        split
        · exact mem_snoc_of h
        · exact h
      rw [← q1.1]
      rcases hu with ⟨_, hu⟩ | hu
      · replace hu : q ≤ j := by rw [hq]; exact hu
        by_cases e : q = j
        · right
          show p ∈ (if nI m.1 (8 + q) ≠ 0 ∧ S.length < 24 then snoc S (nI m.1 (8 + q)) else S)
          rw [e, hs, if_pos ⟨hp, by omega⟩]
          exact List.mem_append_right _ (List.mem_singleton.2 rfl)
        · left
          refine ⟨?_, ?_⟩
          · show (if 3 * (C : Int) ≤ q + 1 then 1 else 0 : Int) = 0
            rw [if_neg (by omega)]
          · show q + 1 ≤ j
            omega
      · rw [← hS] at hu
        exact .inr (hmem hu)
    · rw [if_neg (by rw [hp1]; decide), if_pos hp1] at q1
      split at q1
      · cases q1
      · exact absurd (congrArg List.length q1) (by show ¬ 2 = 1; decide)
  · rw [q1] at hx
    rcases List.mem_cons.1 hx with hx | hx
    · subst hx
      have c6 : f.1 = 6 := q2.1.symm.trans h6
      have hu := h f (by simp) c6
      rw [lMM6 c6] at q1
      unfold lScan at q1
      split at q1
      · exact absurd (congrArg List.length q1) (by show ¬ 1 = 2; decide)
      split at q1
      · rename_i c0 c1
        split at q1
        · cases q1
        · have q1 := (List.cons.inj q1).1
          rw [← q1]
          rcases hu with ⟨hu, _⟩ | hu
          · exact absurd hu c0
          · exact .inr hu
      · exact absurd (congrArg List.length q1) (by show ¬ 1 = 2; decide)
    · rw [List.mem_singleton] at hx
      subst hx
      have hst2 : Stk (lMM C k m f r).m o' C k (lMM C k m f r).r (F ++ (lMM C k m f r).fs).reverse := hg.core.st
      rw [q1, rev_two] at hst2
      have hw : WaitI C _ f' x.1 := hst2.2.2.1
      rw [h6] at hw
      have key : ∀ y : Int, 1 ≤ y ∧ y ≤ 8 → (y = 1 ∨ y = 2 ∨ y = 3 ∨ y = 4) ∨ y = 5 ∨ y = 6 ∨ y = 7 ∨ y = 8 := fun y hy => by omega
      rcases key f.1 hop with h1 | h1 | h1 | h1 | h1
      · exact (hw.low (by rw [q2.1]; exact h1)).elim
      · rw [lMM5 h1] at q1
        unfold lRetire at q1
        split at q1
        · cases q1
        split at q1
        · split at q1
          · cases q1
          · split at q1
            · cases q1
            · have q1 := (List.cons.inj (List.cons.inj q1).2).1
              rw [← q1]
              exact .inl ⟨rfl, hj⟩
        · exact absurd (congrArg List.length q1) (by show ¬ 1 = 2; decide)
      · exact absurd (hw.scan (q2.1.trans h1)).1 (by decide)
      · rw [lMM7 h1] at q1
        unfold lAlloc at q1
        split at q1
        · have q1 := (List.cons.inj (List.cons.inj q1).2).1
          rw [← q1] at h6
          exact nope (show (1 : Int) = 6 from h6) rfl
        split at q1
        · split at q1
          · cases q1
          · split at q1
            · cases q1
            · have q1 := (List.cons.inj (List.cons.inj q1).2).1
              rw [← q1]
              exact .inl ⟨rfl, hj⟩
        split at q1
        · cases q1
        · exact absurd (congrArg List.length q1) (by show ¬ 1 = 2; decide)
      · exact absurd (hw.drop (q2.1.trans h1)).2 (by decide)
  · rw [q1] at hx; cases hx
/-- Another core's step leaves it. -/
theorem Guard.step {cs : List Cor} {c : Nat} {i p : Int} (h : Guard m o cs c i p) (hC : cs.length ≤ 8) (hl : FL m l) (hk : k < cs.length) (hck : c ≠ k) (hcl : c < cs.length) (hi : 0 ≤ i ∧ i ≤ 2) (hop : 1 ≤ f.1 ∧ f.1 ≤ 8) (hat : cAt cs k = (F ++ [f], r)) (hc : CoreI m o cs.length k (F ++ [f], r)) (hg : Good T k cs.length m o F f r (lMM cs.length k m f r) o') :
    Guard (lMM cs.length k m f r).m o' (List.set (α := Cor) cs ((k : Nat) : Int).toNat (F ++ (lMM cs.length k m f r).fs, (lMM cs.length k m f r).r)) c i p := by
  have hp := h.inn
  have hslot : slotP c i = 8 + (3 * (c : Int) + i) := by rw [slotP_is]; omega
  refine ⟨(hg.chg.slots c i hck (by omega) hi.1 hi.2).trans h.slot, hg.chg.inN.2 hp, ?_⟩
  rw [List.length_set]
  have hscan : (∀ x ∈ F ++ [f], x.1 = 6 → Unsc (3 * c + i) p x) → ∀ x ∈ F ++ (lMM cs.length k m f r).fs, x.1 = 6 → Unsc (3 * c + i) p x := fun hu =>
    scan_next hl hC hop hc hg (by omega) (by omega) (by rw [← hslot]; exact h.slot) (by have := hp.1; omega) hu
  rcases hg.own p hp with e | ⟨e, _⟩ | ⟨e, e'⟩ | ⟨e, e'⟩ | ⟨e, _⟩ | ⟨⟨x, e⟩, _⟩
  · rw [e]
    rcases h.own with h1 | h1 | ⟨d, h1, h2, h3⟩
    · exact .inl h1
    · exact .inr (.inl h1)
    · refine .inr (.inr ⟨d, h1, h2, ?_⟩)
      by_cases hdk : d = k
      · subst hdk
        rw [cAt_setN hk]
        rw [hat] at h3
        exact hscan h3
      · rw [cAt_neN hdk]; exact h3
  · exfalso
    rcases h.own with h1 | ⟨d, h1⟩ | ⟨d, _, h1, _⟩ <;> rw [e] at h1 <;> cases h1
  · refine .inr (.inr ⟨k, hk, e', ?_⟩)
    rw [cAt_setN hk]
    have hin : p ∈ rtL (lMM cs.length k m f r).r := (hg.core.ret p).2 ⟨hg.chg.inN.2 hp, e'⟩
    have hnot : p ∉ rtL r := fun hm => by
      have := ((hc.ret p).1 hm).2
      rw [e] at this; cases this
    have h5 : f.1 = 5 := (ret_new hop hin).resolve_left hnot
    refine hscan fun x hx h6 => ?_
    rcases List.mem_append.1 hx with hx | hx
    · have hW := Stk.waits hc
      exact absurd h6 (Wt.noSc (by rw [h5]; decide) hW x (List.mem_reverse.2 hx))
    · rw [List.mem_singleton.1 hx, h5] at h6
      exact nope h6 rfl
  · exfalso
    have hin : p ∈ rtL r := (hc.ret p).2 ⟨hp, e⟩
    have hnot : p ∉ rtL (lMM cs.length k m f r).r := fun hm => by
      have := ((hg.core.ret p).1 hm).2
      rw [e'] at this; cases this
    obtain ⟨q1, q2, q3⟩ := ret_out hop hin hnot
    rcases h.own with h1 | ⟨d, h1⟩ | ⟨d, _, h1, h2⟩
    · rw [e] at h1; cases h1
    · rw [e] at h1; cases h1
    · rw [e] at h1
      obtain rfl := Own.ret.inj h1
      rw [hat] at h2
      rcases h2 f (List.mem_append_right _ (List.mem_singleton.2 rfl)) q1 with ⟨h3, _⟩ | h3
      · rw [q2] at h3; exact nope h3 rfl
      · exact q3 h3
  · exfalso
    rcases h.own with h1 | ⟨d, h1⟩ | ⟨d, _, h1, _⟩ <;> rw [e] at h1 <;> cases h1
  · exfalso
    rcases h.own with h1 | ⟨d, h1⟩ | ⟨d, _, h1, _⟩ <;> rw [e] at h1 <;> cases h1
theorem Guard.notFree {cs : List Cor} {c : Nat} {i p : Int} (h : Guard m o cs c i p) (hs : ∀ p, InN m p → statO (o p) (nI m.2.1 p)) : nI m.2.1 p ≠ 0 := by
  have := hs p h.inn
  rcases h.own with h1 | ⟨d, h1⟩ | ⟨d, _, h1, _⟩ <;> rw [h1] at this
  · have : nI m.2.1 p = 1 := this; omega
  · have : nI m.2.1 p = 1 := this; omega
  · have : nI m.2.1 p = 2 := this; omega
end

/-- The place of a node's key. -/
def ky (p : Int) : Int := lk p + 2
theorem ky_is (p : Int) : ky p = 130 + 4 * (p - 1) := by unfold ky lk; omega
section
variable {T : Int} {o o' : OM} {s : Sy} {k : Nat} {m m' : Me} {p : Int} {l : List Int}
theorem MM.mono {T' : Int} (h : MM T o s) (hT : T ≤ T') : MM T' o s := ⟨h.list, h.more, h.cores, by have := h.tag; omega, h.stat, h.core⟩
theorem room_le {x : Int} : room x ≤ 2 := by unfold room; split <;> first | omega | (split <;> omega)
end

/-! ### ScanSafe: what is known of a core -/
/-- A core's step, a node, a word. -/
abbrev Pl := Int × Int × Int × Unit
section
variable {T : Int} {k C : Nat} {m m' : Me} {o o' : OM} {F : List Frm} {f f' g : Frm} {r : Rest} {l : List Int}
theorem ky_cell (p : Int) : ky p = lk p + 2 := rfl
theorem one_of {x : Frm} (h : F ++ [f] = [x]) : F = [] ∧ f = x := by
  cases F with
  | nil => exact ⟨rfl, (List.cons.inj h).1⟩
  | cons a l =>
    have := congrArg List.length h
    rw [List.length_append] at this
    exact absurd this (by show ¬ l.length + 1 + 1 = 1; omega)
end
section
variable {k : Nat} {m m' : Me} {o o' : OM} {cs cs' : List Cor}
/-- What a core that is at nothing may change. -/
structure Cli (k : Nat) (m : Me) (o : OM) (m' : Me) (o' : OM) : Prop where
  chg : Chg k m o m' o'
  cell : ∀ p, InN m p → o p ≠ .fresh k → nI m'.1 (ky p) = nI m.1 (ky p)
  own : ∀ p, InN m p → o' p = o p ∨ (o p = .fresh k ∧ o' p = .shared) ∨ (o p = .shared ∧ o' p = .gone k)
theorem Cli.refl : Cli k m o m o := ⟨Chg.same9, fun _ _ _ => rfl, fun _ _ => .inl rfl⟩
theorem Guard.cli {c : Nat} {i p : Int} (h : Guard m o cs c i p) (hc : Cli k m o m' o') (hck : c ≠ k) (hc8 : c < 8) (hi : 0 ≤ i ∧ i ≤ 2) (hlen : cs'.length = cs.length) (hot : ∀ d : Nat, d ≠ k → cAt cs' d = cAt cs d) (hno : ∀ f ∈ (cAt cs' k).1, f.1 ≠ 6) : Guard m' o' cs' c i p := by
  refine ⟨(hc.chg.slots c i hck hc8 hi.1 hi.2).trans h.slot, hc.chg.inN.2 h.inn, ?_⟩
  rcases hc.own p h.inn with e | ⟨e, e'⟩ | ⟨e, e'⟩
  · rw [e]
    rcases h.own with h1 | h1 | ⟨d, h1, h2, h3⟩
    · exact .inl h1
    · exact .inr (.inl h1)
    · refine .inr (.inr ⟨d, by rw [hlen]; exact h1, h2, fun f hf h6 => ?_⟩)
      by_cases hdk : d = k
      · subst hdk; exact absurd h6 (hno f hf)
      · rw [hot d hdk] at hf; exact h3 f hf h6
  · exact .inl e'
  · exact .inr (.inl ⟨k, e'⟩)
theorem Guard.notFresh {c : Nat} {i p : Int} (h : Guard m o cs c i p) : o p ≠ .fresh k := fun e => by
  rcases h.own with h1 | ⟨d, h1⟩ | ⟨d, _, h1, _⟩ <;> rw [e] at h1 <;> cases h1
end
end Go.Proofs.YtpobngddiifdpaaGreat.V
