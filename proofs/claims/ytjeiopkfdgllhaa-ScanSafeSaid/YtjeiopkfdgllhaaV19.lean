/- Layer 7 of the program: new systems. -/
import Derived.Test.YtjeiopkfdgllhaaV18
set_option linter.unusedSimpArgs false
set_option linter.unusedVariables false
namespace Go.Proofs.Ytjeiopkfdgllhaa.V
open Go Go.RowKit Go.Proofs.Ytjeiopkfdgllhaa.Hz
set_option maxRecDepth 100000

theorem s_cut0 (w : Int) : Spec Try.prog 111 [vI w, vI 0] (vI (w % 2)) := by
  have e : wrap64 (((BitVec.ofInt 64 (w.fdiv (2 ^ 0)) &&& BitVec.ofInt 64 (wrap64 (wrap64 (1 * 2 ^ 1) - 1))).toNat : Nat) : Int) = w % 2 := by
    rw [show wrap64 (wrap64 (1 * 2 ^ 1) - 1) = 2 ^ 1 - 1 by rw [IntWalk.wrap64_in (1 * 2 ^ 1) (by omega), IntWalk.wrap64_in _ (by omega)]; rfl, and_low _ 1 (by omega), fdiv_pow]
    have h : (w / 2 ^ 0) % 2 ^ 1 = w % 2 := by omega
    rw [h, IntWalk.wrap64_in _ (by omega)]
  refine spec_introF false tab_ok 0 Try.func111 rfl (by kernel_rfl) rfl ?_
  conv => whnf
  refine ⟨p_pack_cut_1, g_pack_cut_1, by kernel_rfl, ?st1, ?_, ?_⟩
  rotate_left
  · conv => whnf
    first | refine .inl ⟨_, s_from0, ?_⟩ | refine .inl (.inl ⟨_, s_from0, ?_⟩)
    conv => whnf
    repeat (refine ⟨by first | omega | (simp only [Option.getD_none, Option.getD_some]; omega) | (simp; done) | (simp; omega), ?_⟩; conv => whnf)
    first | refine .inl ⟨_, s_wide, ?_⟩ | refine .inl (.inl ⟨_, s_wide, ?_⟩)
    conv => whnf
    repeat (refine ⟨by first | omega | (simp only [Option.getD_none, Option.getD_some]; omega) | (simp; done) | (simp; omega), ?_⟩; conv => whnf)
  conv => whnf
  exact .inl (congrArg vI e)
theorem s_Mark (w : Int) : Spec Try.prog 96 [vI w] (vI (w % 2)) := by
  refine spec_introF false tab_ok 0 Try.func96 rfl (by kernel_rfl) rfl ?_
  conv => whnf
  first | refine .inl ⟨_, s_cut0 w, ?_⟩ | refine .inl (.inl ⟨_, s_cut0 w, ?_⟩)
  conv => whnf
  first | exact .inl rfl | exact .inr rfl
theorem s_Of010 : Spec Try.prog 75 [vI 0, vI 1, vI 0] (.tup [(false, [.int .i64 2]), (false, [.int .i64 0])]) := by
  refine spec_introF false tab_ok 0 Try.func75 rfl (by kernel_rfl) rfl ?_
  conv => whnf
  first | refine .inr (.inl ⟨_, s_joined 0 1 0, ?_⟩) | refine .inl (.inr (.inl ⟨_, s_joined 0 1 0, ?_⟩))
  conv => whnf
  rw [show accI 0 1 0 3 = 2 from rfl]
  first | refine .inl ⟨_, s_Mark 2, ?_⟩ | refine .inl (.inl ⟨_, s_Mark 2, ?_⟩)
  conv => whnf
  first | refine .inl ⟨_, s_Index 2, ?_⟩ | refine .inl (.inl ⟨_, s_Index 2, ?_⟩)
  conv => whnf
  first | refine .inl ⟨_, s_Tag 2, ?_⟩ | refine .inl (.inl ⟨_, s_Tag 2, ?_⟩)
  conv => whnf
  first | exact .inl rfl | exact .inr rfl
theorem s_stackFill (m : Me) (hf : Fits m) (hg : 1 ≤ m.2.1.length) : Spec Try.prog 51 [vM m] (vM (fillM m)) := by
  have hfj : ∀ j, Fits (fillN m ((m.2.1.length : Int) - 1) j) := fun j => by
    have := fillN_len m ((m.2.1.length : Int) - 1) j
    unfold Fits at hf ⊢
    omega
  obtain ⟨hf1, hf2⟩ := hf
  refine spec_introF false tab_ok 0 Try.func51 rfl (by kernel_rfl) rfl ?_
  conv => whnf
  obtain ⟨n, hn⟩ : ∃ n : Int, n = (m.2.1.length : Int) - 1 := ⟨_, rfl⟩
  rw [IntWalk.wrap64_in ((m.2.1.length : Int) - 1) (by omega), ← hn]
  rw [← hn] at hfj
  refine ⟨[], [1, 2, 3, 4], [1, 2], ?_⟩
  apply Exists.intro
  conv => whnf
  refine loopK (fun x : Int => (n + 1 - x).toNat) (fun x => 1 ≤ x ∧ x ≤ n + 1) (fun x => ⟨lay 32 0 [(1, pB 1), (2, pB 2), (3, vI n), (4, vI x)], [(1, .cells yMem (cM (fillN m n (x - 1).toNat))), (2, .cells yMem (zeroC tMem))], []⟩) ?_ 1 rfl rfl (by omega)
  intro x ih ⟨hx1, hx2⟩ hih
  have e2 : wrap64 (x + 1) = x + 1 := IntWalk.wrap64_in _ (by omega)
  have e3 : wrap64 (n + 1) = n + 1 := IntWalk.wrap64_in _ (by omega)
  conv => whnf
  refine dcase (fun h => ?_) (fun h => ?_)
  · have hst : fillN m n (x + 1 - 1).toNat = storeM (fillN m n (x - 1).toNat) (atI x 0) ((x + 1).tmod (n + 1)) := by
      rw [show (x + 1 - 1).toNat = (x - 1).toNat + 1 by omega]
      show storeM _ (atI ((((x - 1).toNat : Nat) : Int) + 1) 0) (if (((x - 1).toNat : Nat) : Int) + 1 = n then 0 else (((x - 1).toNat : Nat) : Int) + 2) = _
      rw [show (((x - 1).toNat : Nat) : Int) + 1 = x by omega, show (((x - 1).toNat : Nat) : Int) + 2 = x + 1 by omega]
      congr 1
      by_cases c : x = n
      · rw [if_pos c, c]
        exact (Int.tmod_self).symm
      · rw [if_neg c, Int.tmod_eq_of_lt (by omega) (by omega)]
    conv => whnf
    refine ⟨p_stack_Fill_5, g_stack_Fill_5, by kernel_rfl, ?st2, ?_, ?_⟩
    rotate_left
    · conv => whnf
      repeat' (first | (refine ⟨by first | omega | (simp only [Option.getD_none, Option.getD_some]; omega) | (simp; done) | (simp; omega), ?_⟩; conv => whnf) | (refine .inl ⟨_, s_mAt _ _, ?_⟩; conv => whnf) | (refine .inl (.inl ⟨_, s_mAt _ _, ?_⟩); conv => whnf) | (refine ⟨(by rw [e3]; omega), ?_⟩; conv => whnf) | (refine .inr (.inl ⟨_, s_mStore (fillN m n (x - 1).toNat) _ _ (hfj _), ?_⟩); conv => whnf) | (refine .inl (.inr (.inl ⟨_, s_mStore (fillN m n (x - 1).toNat) _ _ (hfj _), ?_⟩)); conv => whnf) | (refine And.intro ?_ ?_ <;> conv => whnf) | exact rfl)
    conv => whnf
    have h6 := hih (x + 1) (by omega) (by omega)
    rw [hst] at h6
    erw [e2, e3]
    exact h6
  · have e : (x - 1).toNat = m.2.1.length - 1 := by omega
    rw [e]
    conv => whnf
    first | refine .inr (.inl ⟨_, s_Of010, ?_⟩) | refine .inl (.inr (.inl ⟨_, s_Of010, ?_⟩))
    conv => whnf
    first | refine .inr (.inl ⟨_, s_mStore (fillN m n (m.2.1.length - 1)) 0 2 (hfj _), ?_⟩) | refine .inl (.inr (.inl ⟨_, s_mStore (fillN m n (m.2.1.length - 1)) 0 2 (hfj _), ?_⟩))
    conv => whnf
    rw [show fillM m = storeM (fillN m n (m.2.1.length - 1)) 0 2 by rw [hn]; rfl]
    first | exact .inl rfl | exact .inr rfl
theorem s_Start (c n : Int) (h1 : 1 ≤ n) (h2 : n ≤ 200) (c1 : 1 ≤ c) (c2 : c ≤ 8) : Spec Try.prog 27 [vI c, vI n] (vSI (newF c n) 0) := by
  refine spec_introF false tab_ok 0 Try.func27 rfl (by kernel_rfl) rfl ?_
  conv => whnf
  first | refine .inr (.inl ⟨_, s_cNew c n h1 h2 c1 c2, ?_⟩) | refine .inl (.inr (.inl ⟨_, s_cNew c n h1 h2 c1 c2, ?_⟩))
  conv => whnf
  first | refine .inr (.inl ⟨_, s_stackFill (newI n) (newI_fits h1 h2).1 (newI_fits h1 h2).2, ?_⟩) | refine .inl (.inr (.inl ⟨_, s_stackFill (newI n) (newI_fits h1 h2).1 (newI_fits h1 h2).2, ?_⟩))
  conv => whnf
  first | exact .inl rfl | exact .inr rfl
end Go.Proofs.Ytjeiopkfdgllhaa.V
