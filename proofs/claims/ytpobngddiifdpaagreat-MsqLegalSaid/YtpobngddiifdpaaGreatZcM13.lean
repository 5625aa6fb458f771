/- The memory's management: a node that a core has stays with it. The memory's management: what a pop gives was free; one that gives none saw that none is free. AllocSafe: what is known of a core that allocates, drops and retires. AllocSafe: all cores. -/
import Derived.Test.YtpobngddiifdpaaGreatZcM9
set_option linter.unusedSimpArgs false
set_option linter.unusedVariables false
namespace Go.Proofs.YtpobngddiifdpaaGreat.V
open Go Go.RowKit Go.Proofs.YtpobngddiifdpaaGreat.Hz
set_option maxRecDepth 100000

theorem fresh_stays {T : Int} {k C : Nat} {m : Me} {o o' : OM} {F : List Frm} {f : Frm} {r : Rest} (hc : CoreI m o C k (F ++ [f], r)) (hg : Good T k C m o F f r (lMM C k m f r) o') {p : Int} (hop : 1 ≤ f.1 ∧ f.1 ≤ 8) (hp : InN m p) (ho : o p = .fresh k) :
    o' p = .fresh k ∨ (f.1 = 8 ∧ f.2.1 = 0 ∧ f.2.2.1.1 = p ∧ o' p = .push k 1) := by
  rcases hg.own p hp with h | ⟨h, _⟩ | ⟨h, _⟩ | ⟨h, _⟩ | ⟨_, h⟩ | ⟨⟨x, h⟩, _⟩
  · exact .inl (h.trans ho)
  · rw [ho] at h; cases h
  · rw [ho] at h; cases h
  · rw [ho] at h; cases h
  rotate_left
  · rw [ho] at h; cases h
  right
  obtain ⟨F', g, e, e1, e2⟩ := hg.core.push p 1 (hg.chg.inN.2 hp) h
  have e : F ++ (lMM C k m f r).fs = F' ++ [g] := e
  have hst := hc.st
  rw [rev_one] at hst
  have hst2 := hg.core.st
  have hst2 : Stk (lMM C k m f r).m o' C k (lMM C k m f r).r (F ++ (lMM C k m f r).fs).reverse := hst2
  rcases hg.out with ⟨f', q1, q2, _⟩ | ⟨f', g', q1, q2, _⟩ | ⟨q1, _⟩
  · rw [q1] at e
    have := (List.append_inj' e rfl).2
    rw [List.cons.injEq] at this
    obtain ⟨rfl, _⟩ := this
    have hf2 : f.1 = 2 := q2.1.symm.trans e1
    obtain ⟨_, ⟨x, hx⟩, _⟩ := hst.1.push hf2
    rcases q2.2.1 (by rw [hf2]; decide) with e3 | e3
    · rw [← e3, e2, ho] at hx; cases hx
    · exact absurd (hf2.symm.trans e3) (by decide)
  · rw [q1] at e hst2
    have e' : (F ++ [f']) ++ [g'] = F' ++ [g] := by rw [← e]; simp
    have := (List.append_inj' e' rfl).2
    rw [List.cons.injEq] at this
    obtain ⟨rfl, _⟩ := this
    rw [rev_two] at hst2
    have hw : WaitI C _ f' g'.1 := hst2.2.2.1
    rw [e1] at hw
    by_cases c8 : f.1 = 8
    · have hL : (lMM C k m f r) = lDrop m f.2.1 f.2.2.1 f.2.2.2.1 r := by unfold lMM; rw [c8]; rfl
      rw [hL] at q1
      unfold lDrop at q1
      split at q1
      · rename_i h0
        have q1 : [((8 : Int), (1 : Int), f.2.2.1, f.2.2.2.1, ()), frm0 2 f.2.2.1.1 0 0] = [f', g'] := q1
        rw [List.cons.injEq, List.cons.injEq] at q1
        refine ⟨c8, h0, ?_, h⟩
        rw [← q1.2.1] at e2
        exact e2
      · split at q1
        · cases q1
        · exact absurd (congrArg List.length q1) (by show ¬ 1 = 2; decide)
    by_cases c6 : f.1 = 6
    · exfalso
      have hL : (lMM C k m f r) = lScan C m f.2.1 f.2.2.1 f.2.2.2.1 r := by unfold lMM; rw [c6]; rfl
      rw [hL] at q1
      unfold lScan at q1
      split at q1
      · exact absurd (congrArg List.length q1) (by show ¬ 1 = 2; decide)
      split at q1
      · split at q1
        · cases q1
        · rename_i hn
          obtain ⟨n, hnn⟩ : ∃ n, nextOut f.2.2.2.1 (rtL r) (Int.toNat f.2.2.1.2.1) = n := ⟨_, rfl⟩
          have q1 : [((6 : Int), (1 : Int), (f.2.2.1.1, ((nextOut f.2.2.2.1 (rtL r) (Int.toNat f.2.2.1.2.1) : Nat) : Int), f.2.2.1.2.2), f.2.2.2.1, ()), frm0 2 (nI (rtL r) (nextOut f.2.2.2.1 (rtL r) (Int.toNat f.2.2.1.2.1))) 0 0] = [f', g'] := q1
          rw [hnn] at q1 hn
          rw [List.cons.injEq, List.cons.injEq] at q1
          rw [← q1.2.1] at e2
          have e2 : nI (rtL r) (n : Int) = p := e2
          have hlt : n < (rtL r).length := by
            have := not_or.1 hn
            omega
          have hmem : p ∈ rtL r := by
            rw [← e2]
            show List.getD (rtL r) ((n : Int)).toNat 0 ∈ _
            rw [Int.toNat_natCast, List.getD_eq_getElem?_getD, List.getElem?_eq_getElem hlt]
            exact List.getElem_mem hlt
          have := ((hc.ret p).1 hmem).2
          rw [ho] at this; cases this
      · exact absurd (congrArg List.length q1) (by show ¬ 1 = 2; decide)
    exfalso
    have key : ∀ x : Int, 1 ≤ x ∧ x ≤ 8 → ¬ x = 8 → ¬ x = 6 → (x = 1 ∨ x = 2 ∨ x = 3 ∨ x = 4) ∨ x = 5 ∨ x = 7 := fun x h1 h2 h3 => by omega
    rcases key f.1 hop c8 c6 with h1 | h1 | h1
    · exact hw.low (by rw [q2.1]; exact h1)
    · exact absurd (hw.retire (q2.1.trans h1)).2 (by decide)
    · rcases hw.alloc (q2.1.trans h1) with h2 | h2
      · exact absurd h2.2 (by decide)
      · exact absurd h2.2 (by decide)
  · exfalso
    rw [q1, List.append_nil] at e
    rw [e, List.reverse_append] at hst
    exact (hst.2.2.1).low (.inr (.inl e1))

theorem lMM7 {k C : Nat} {m : Me} {f : Frm} {r : Rest} (h : f.1 = 7) : lMM C k m f r = lAlloc m f.2.1 f.2.2.1 f.2.2.2.1 r := by unfold lMM; rw [h]; rfl
end Go.Proofs.YtpobngddiifdpaaGreat.V
