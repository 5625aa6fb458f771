/- The document's: what is named. -/
import Derived.Test.YtjeiopkfdgllhaaGreatR11
import Derived.Test.YtjeiopkfdgllhaaGreatV32
namespace Go.Proofs.YtjeiopkfdgllhaaGreat.V
open Go Go.RowKit Go.Proofs.YtjeiopkfdgllhaaGreat.Hz
set_option maxRecDepth 100000

abbrev vBs (l : List (Den .bool)) : SV := .one (.sl .bool l false)
/-- Which nodes the first words of slots name. -/
def namedL (W : Li) (g : Nat) : Nat → List (Den .bool)
  | 0 => List.replicate g false
  | i + 1 => if 0 < nI W (8 + i) ∧ nI W (8 + i) < g then List.set (namedL W g i) (nI W (8 + i)).toNat true else namedL W g i
theorem namedL_len (W : Li) (g : Nat) : ∀ i, (namedL W g i).length = g
  | 0 => List.length_replicate
  | i + 1 => by
    unfold namedL
    split
    · rw [List.length_set]; exact namedL_len W g i
    · exact namedL_len W g i
/-- A node is named just if a slot's word that isn't 0 is it. -/
theorem namedL_is (W : Li) (g : Nat) (p : Int) (p0 : 0 < p) (p1 : p < g) : ∀ i, (namedL W g i).getD p.toNat false = memB (seenL W i) p
  | 0 => by
    show List.getD (List.replicate g false) p.toNat false = _
    rw [List.getD_eq_getElem?_getD, List.getElem?_replicate, if_pos (by omega)]
    rfl
  | i + 1 => by
    have ih := namedL_is W g p p0 p1 i
    have hl := namedL_len W g i
    unfold namedL seenL
    by_cases c : nI W (8 + i) = p
    · rw [if_pos (by omega), if_pos (by omega), c, List.getD_eq_getElem?_getD, List.getElem?_set_self (by omega)]
      exact (memB_yes (List.mem_append_right _ (List.mem_singleton.2 rfl))).symm
    · have e2 : memB (if nI W (8 + i) ≠ 0 then snoc (seenL W i) (nI W (8 + i)) else seenL W i) p = memB (seenL W i) p := by
        split
        · unfold memB
          rw [decide_eq_decide]
          constructor
          · intro h
            rcases List.mem_append.1 h with h | h
            · exact h
            · exact absurd (List.mem_singleton.1 h).symm c
          · exact List.mem_append_left _
        · rfl
      rw [e2, ← ih]
      split
      · rename_i h
        rw [List.getD_eq_getElem?_getD, List.getElem?_set_ne (by omega), List.getD_eq_getElem?_getD]
      · rfl
theorem s_refNamed (s : Sy) (hw : 8 + 3 * s.2.1.length ≤ s.1.1.length) (hc : s.2.1.length ≤ 1000) (hg : s.1.2.1.length ≤ 1000000) : Spec Tryz.prog 35 [vS s] (vBs (namedL s.1.1 s.1.2.1.length (3 * s.2.1.length))) := by
  refine spec_introF true tab_ok 0 Tryz.func35 rfl (by kernel_rfl) rfl ?_
  conv => whnf
  refine ⟨⟨by omega, by omega, rfl⟩, ?_⟩
  conv => whnf
  refine ⟨[], [1, 2, 3, 4], [1, 10], ?_⟩
  apply Exists.intro
  conv => whnf
  refine loopK (fun i : Nat => 3 * s.2.1.length - i) (fun i => i ≤ 3 * s.2.1.length) (fun i => ⟨lay 38 0 [(1, pB 1), (2, .one (.emp .bool)), (3, .one (.row 10)), (4, vI (i : Int))], [(1, .cells ySys (cS s)), (10, .row 4 .bool (namedL s.1.1 s.1.2.1.length i))], []⟩) ?_ 0 rfl rfl (Nat.zero_le _)
  intro i ih hi hih
  have hlen := namedL_len s.1.1 s.1.2.1.length i
  have hnx : namedL s.1.1 s.1.2.1.length (i + 1) = if 0 < nI s.1.1 (8 + i) ∧ nI s.1.1 (8 + i) < s.1.2.1.length then List.set (namedL s.1.1 s.1.2.1.length i) (nI s.1.1 (8 + i)).toNat true else namedL s.1.1 s.1.2.1.length i := rfl
  conv => whnf
  intro w hw'
  replace hw' : w = ((3 * s.2.1.length : Nat) : Int) := by rw [IntWalk.wrap64_in _ (by omega)] at hw'; omega
  subst hw'
  conv => whnf
  refine dcase (fun h3 => ?_) (fun h3 => ?_)
  · replace h3 : (i : Int) < ((3 * s.2.1.length : Nat) : Int) := h3
    conv => whnf
    intro q hq
    replace hq : q = 8 + (i : Int) := by rw [IntWalk.wrap64_in _ (by omega)] at hq; exact hq
    conv => whnf
    refine ⟨⟨by omega, by omega⟩, ?_⟩
    obtain ⟨p, hp⟩ : ∃ p, nI s.1.1 q = p := ⟨_, rfl⟩
    rw [← hq, hp] at hnx
    have hp2 : List.getD s.1.1 q.toNat (dflt tI) = p := hp
    conv => whnf
    rw [hp2]
    refine dcase (fun h4 => ?_) (fun h4 => ?_)
    · conv => whnf
      refine dcase (fun h5 => ?_) (fun h5 => ?_)
      · replace h5 : p < (namedL s.1.1 s.1.2.1.length i).length := h5
        rw [if_pos ⟨h4, by rw [hlen] at h5; exact h5⟩] at hnx
        conv => whnf
        refine ⟨⟨by omega, h5⟩, ?_⟩
        conv => whnf
        refine ⟨by omega, ?_⟩
        conv => whnf
        intro w hw2
        replace hw2 : w = ((i + 1 : Nat) : Int) := by rw [IntWalk.wrap64_in _ (by omega)] at hw2; omega
        subst hw2
        have h6 := hih (i + 1) (by omega) (by omega)
        rw [hnx] at h6
        conv => whnf
        exact h6
      · replace h5 : ¬ p < (namedL s.1.1 s.1.2.1.length i).length := h5
        rw [if_neg (fun e => h5 (by rw [hlen]; exact e.2))] at hnx
        conv => whnf
        intro w hw2
        replace hw2 : w = ((i + 1 : Nat) : Int) := by rw [IntWalk.wrap64_in _ (by omega)] at hw2; omega
        subst hw2
        have h6 := hih (i + 1) (by omega) (by omega)
        rw [hnx] at h6
        conv => whnf
        exact h6
    · rw [if_neg (fun e => h4 e.1)] at hnx
      conv => whnf
      intro w hw2
      replace hw2 : w = ((i + 1 : Nat) : Int) := by rw [IntWalk.wrap64_in _ (by omega)] at hw2; omega
      subst hw2
      have h6 := hih (i + 1) (by omega) (by omega)
      rw [hnx] at h6
      conv => whnf
      exact h6
  · have hi2 : 3 * s.2.1.length = i := by omega
    rw [hi2]
    conv => whnf
    first | exact .inl rfl | exact .inr rfl
end Go.Proofs.YtjeiopkfdgllhaaGreat.V
