/- New systems, of the program. -/
import Derived.Test.YtpobngddiifdpaaGreatZdV11
set_option linter.unusedSimpArgs false
set_option linter.unusedVariables false
namespace Go.Proofs.YtpobngddiifdpaaGreat.V
open Go Go.RowKit Go.Proofs.YtpobngddiifdpaaGreat.Hz
set_option maxRecDepth 100000

/-- A memory of so many nodes, none of them in use. -/
def newI (n : Int) : Me := (List.replicate (128 + 4 * n).toNat (0 : Int), List.replicate (n + 1).toNat (0 : Int), false, ())
theorem s_refNewM (n : Int) (h1 : 1 ≤ n) (h2 : n ≤ 200) : Spec Tryz.prog 165 [vI n] (vMI (newI n) 0) := by
  have e1 : wrap64 (128 + wrap64 (4 * n)) = 128 + 4 * n := by rw [IntWalk.wrap64_in (4 * n) (by omega), IntWalk.wrap64_in _ (by omega)]
  have e2 : wrap64 (n + 1) = n + 1 := IntWalk.wrap64_in _ (by omega)
  refine spec_introF false tab_ok 0 Tryz.func165 rfl (by kernel_rfl) rfl ?_
  conv => whnf
  refine dcase (fun h => absurd h1 (Int.not_le.2 h)) (fun _ => ?_)
  conv => whnf
  refine dcase (fun h => absurd h2 (Int.not_le.2 h)) (fun _ => ?_)
  conv => whnf
  refine ⟨p_hazelref02_New_3, g_hazelref02_New_3, by kernel_rfl, ?st2, ?_, ?_⟩
  rotate_left
  · conv => whnf
    refine ⟨?_, ?_⟩
    · conv => whnf
      repeat (refine ⟨by first | omega | (simp only [Option.getD_none, Option.getD_some]; omega) | (simp; done) | (simp; omega), ?_⟩; conv => whnf)
    · conv => whnf
      repeat (refine ⟨by first | omega | (simp only [Option.getD_none, Option.getD_some]; omega) | (simp; done) | (simp; omega), ?_⟩; conv => whnf)
  conv => whnf
  erw [e1, e2]
  first | exact .inl rfl | exact .inr rfl

def newS (c n : Int) : Sy := (newI n, List.replicate c.toNat (dflt tCore), ([] : List Evt), ())
abbrev vSI (s : Sy) (v : Int) : SV := .tup [(true, cS s), (false, [.int .i64 v])]
theorem s_refNewS (c n : Int) (h1 : 1 ≤ n) (h2 : n ≤ 200) (c1 : 1 ≤ c) (c2 : c ≤ 8) : Spec Tryz.prog 93 [vI c, vI n] (vSI (newS c n) 0) := by
  refine spec_introF false tab_ok 0 Tryz.func93 rfl (by kernel_rfl) rfl ?_
  conv => whnf
  first | refine .inr (.inl ⟨_, s_refNewM n h1 h2, ?_⟩) | refine .inl (.inr (.inl ⟨_, s_refNewM n h1 h2, ?_⟩))
  conv => whnf
  refine dcase (fun h => absurd c1 (Int.not_le.2 h)) (fun _ => ?_)
  conv => whnf
  refine dcase (fun h => absurd c2 (Int.not_le.2 h)) (fun _ => ?_)
  conv => whnf
  refine ⟨p_hazelref03_New_4, g_hazelref03_New_4, by kernel_rfl, ?st4, ?_, ?_⟩
  rotate_left
  · conv => whnf
    repeat' (first | (refine ⟨by first | omega | (simp only [Option.getD_none, Option.getD_some]; omega) | (simp; done) | (simp; omega), ?_⟩; conv => whnf) | (refine And.intro ?_ ?_ <;> conv => whnf) | exact rfl)
  conv => whnf
  first | exact .inl rfl | exact .inr rfl
end Go.Proofs.YtpobngddiifdpaaGreat.V

set_option linter.unusedSimpArgs false
set_option linter.unusedVariables false
namespace Go.Proofs.YtpobngddiifdpaaGreat.V
open Go Go.RowKit Go.Proofs.YtpobngddiifdpaaGreat.Hz
set_option maxRecDepth 100000

def fillN (m : Me) (n : Int) : Nat → Me
  | 0 => m
  | j + 1 => storeM (fillN m n j) (atI ((j : Int) + 1) 0) (if (j : Int) + 1 = n then 0 else (j : Int) + 2)
def fillM (m : Me) : Me := storeM (fillN m ((m.2.1.length : Int) - 1) (m.2.1.length - 1)) 0 2
theorem fillN_len (m : Me) (n : Int) : ∀ j : Nat, (fillN m n j).2.1.length = m.2.1.length ∧ (fillN m n j).1.length = m.1.length
  | 0 => ⟨rfl, rfl⟩
  | j + 1 => by
    have h1 := storeM_len (fillN m n j) (atI ((j : Int) + 1) 0) (if (j : Int) + 1 = n then 0 else (j : Int) + 2)
    have h2 := fillN_len m n j
    exact ⟨h1.1.trans h2.1, h1.2.trans h2.2⟩
theorem s_refFill (m : Me) (hf : Fits m) (hg : 1 ≤ m.2.1.length) : Spec Tryz.prog 94 [vM m] (vM (fillM m)) := by
  obtain ⟨hf1, hf2⟩ := hf
  refine spec_introF false tab_ok 0 Tryz.func94 rfl (by kernel_rfl) rfl ?_
  conv => whnf
  rw [IntWalk.wrap64_in ((m.2.1.length : Int) - 1) (by omega)]
  refine ⟨[], [1, 2, 3, 4], [1, 2], ?_⟩
  apply Exists.intro
  conv => whnf
  refine loopK (fun j : Nat => m.2.1.length - j) (fun j => j ≤ m.2.1.length - 1) (fun j => ⟨lay 27 0 [(1, pB 1), (2, pB 2), (3, vI ((m.2.1.length : Int) - 1)), (4, vI ((j : Int) + 1))], [(1, .cells yMem (cM (fillN m ((m.2.1.length : Int) - 1) j))), (2, .cells yMem (zeroC tMem))], []⟩) ?_ 0 rfl rfl (by omega)
  intro j ih hj hih
  have hl := fillN_len m ((m.2.1.length : Int) - 1) j
  have e2 : wrap64 ((j : Int) + 1 + 1) = ((j + 1 : Nat) : Int) + 1 := by rw [IntWalk.wrap64_in _ (by omega)]; omega
  have e3 : wrap64 ((j : Int) + 1 + 1) = (j : Int) + 2 := by rw [IntWalk.wrap64_in _ (by omega)]; omega
  conv => whnf
  refine dcase (fun h => ?_) (fun h => ?_)
  · have h9 : (j : Int) + 1 ≤ (m.2.1.length : Int) - 1 := h
    conv => whnf
    refine dcase (fun h2 => ?_) (fun h2 => ?_)
    · conv => whnf
      refine ⟨p_hazelref04_Fill_8, g_hazelref04_Fill_8, by kernel_rfl, ?st1, ?_, ?_⟩
      rotate_left
      · conv => whnf
        repeat' (first | (refine ⟨by first | omega | (simp only [Option.getD_none, Option.getD_some]; omega) | (simp; done) | (simp; omega), ?_⟩; conv => whnf) | (refine .inl ⟨_, s_refAt _ _, ?_⟩; conv => whnf) | (refine .inl (.inl ⟨_, s_refAt _ _, ?_⟩); conv => whnf) | (refine .inr (.inl ⟨_, s_refStore (fillN m ((m.2.1.length : Int) - 1) j) _ _ (by omega) (by omega), ?_⟩); conv => whnf) | (refine .inl (.inr (.inl ⟨_, s_refStore (fillN m ((m.2.1.length : Int) - 1) j) _ _ (by omega) (by omega), ?_⟩)); conv => whnf) | (refine And.intro ?_ ?_ <;> conv => whnf) | exact rfl)
      conv => whnf
      erw [e2]
      have h6 := hih (j + 1) (by omega) (by omega)
      rw [show fillN m ((m.2.1.length : Int) - 1) (j + 1) = storeM (fillN m ((m.2.1.length : Int) - 1) j) (atI ((j : Int) + 1) 0) 0 by show storeM _ _ _ = _; rw [if_pos h2]] at h6
      exact h6
    · conv => whnf
      refine ⟨p_hazelref04_Fill_8, g_hazelref04_Fill_8, by kernel_rfl, ?st2, ?_, ?_⟩
      rotate_left
      · conv => whnf
        repeat' (first | (refine ⟨by first | omega | (simp only [Option.getD_none, Option.getD_some]; omega) | (simp; done) | (simp; omega), ?_⟩; conv => whnf) | (refine .inl ⟨_, s_refAt _ _, ?_⟩; conv => whnf) | (refine .inl (.inl ⟨_, s_refAt _ _, ?_⟩); conv => whnf) | (refine .inr (.inl ⟨_, s_refStore (fillN m ((m.2.1.length : Int) - 1) j) _ _ (by omega) (by omega), ?_⟩); conv => whnf) | (refine .inl (.inr (.inl ⟨_, s_refStore (fillN m ((m.2.1.length : Int) - 1) j) _ _ (by omega) (by omega), ?_⟩)); conv => whnf) | (refine And.intro ?_ ?_ <;> conv => whnf) | exact rfl)
      conv => whnf
      have h6 := hih (j + 1) (by omega) (by omega)
      rw [show fillN m ((m.2.1.length : Int) - 1) (j + 1) = storeM (fillN m ((m.2.1.length : Int) - 1) j) (atI ((j : Int) + 1) 0) ((j : Int) + 2) by show storeM _ _ _ = _; rw [if_neg h2]] at h6
      rw [← e3] at h6
      rw [← e2] at h6
      exact h6
  · have h9 : ¬ (j : Int) + 1 ≤ (m.2.1.length : Int) - 1 := h
    have e : j = m.2.1.length - 1 := by omega
    subst e
    conv => whnf
    first | refine .inr (.inl ⟨_, s_refStore (fillN m ((m.2.1.length : Int) - 1) (m.2.1.length - 1)) 0 2 (by omega) (by omega), ?_⟩) | refine .inl (.inr (.inl ⟨_, s_refStore (fillN m ((m.2.1.length : Int) - 1) (m.2.1.length - 1)) 0 2 (by omega) (by omega), ?_⟩))
    conv => whnf
    first | exact .inl rfl | exact .inr rfl

/-- A system on a filled arena. -/
def newF (c n : Int) : Sy := (fillM (newI n), (newS c n).2)
theorem newI_fits {n : Int} (h1 : 1 ≤ n) (h2 : n ≤ 200) : Fits (newI n) ∧ 1 ≤ (newI n).2.1.length := by
  have e1 : (newI n).1.length = (128 + 4 * n).toNat := List.length_replicate
  have e2 : (newI n).2.1.length = (n + 1).toNat := List.length_replicate
  exact ⟨⟨by omega, by omega⟩, by omega⟩
theorem s_refNewF (c n : Int) (h1 : 1 ≤ n) (h2 : n ≤ 200) (c1 : 1 ≤ c) (c2 : c ≤ 8) : Spec Tryz.prog 44 [vI c, vI n] (vS (newF c n)) := by
  refine spec_introF false tab_ok 0 Tryz.func44 rfl (by kernel_rfl) rfl ?_
  conv => whnf
  first | refine .inr (.inl ⟨_, s_refNewS c n h1 h2 c1 c2, ?_⟩) | refine .inl (.inr (.inl ⟨_, s_refNewS c n h1 h2 c1 c2, ?_⟩))
  conv => whnf
  refine ⟨p_hazelref04_New_4, g_hazelref04_New_4, by kernel_rfl, ?st3, ?_, ?_⟩
  rotate_left
  · conv => whnf
    repeat' (first | (refine ⟨by first | omega | (simp only [Option.getD_none, Option.getD_some]; omega) | (simp; done) | (simp; omega), ?_⟩; conv => whnf) | (refine .inr (.inl ⟨_, s_refFill (newI n) (newI_fits h1 h2).1 (newI_fits h1 h2).2, ?_⟩); conv => whnf) | (refine .inl (.inr (.inl ⟨_, s_refFill (newI n) (newI_fits h1 h2).1 (newI_fits h1 h2).2, ?_⟩)); conv => whnf) | (refine .inr (.inl ⟨_, s_refMem (newS c n) (fillM (newI n)), ?_⟩); conv => whnf) | (refine .inl (.inr (.inl ⟨_, s_refMem (newS c n) (fillM (newI n)), ?_⟩)); conv => whnf) | (refine And.intro ?_ ?_ <;> conv => whnf) | exact rfl)
  conv => whnf
  first | exact .inl rfl | exact .inr rfl
end Go.Proofs.YtpobngddiifdpaaGreat.V
