/- The document's: is it the same? parts, new systems. -/
import Derived.Test.YtjeiopkfdgllhaaR5
set_option linter.unusedSimpArgs false
set_option linter.unusedVariables false
namespace Go.Proofs.Ytjeiopkfdgllhaa.V
open Go Go.RowKit Go.Proofs.Ytjeiopkfdgllhaa.Hz
set_option maxRecDepth 100000

theorem s_refIntsSame (a : Li) (ha : a.length ≤ 1000000) : Spec Try.prog 20 [vL a, vL a] (vB true) := by
  have h := s_refInts a a (by omega)
  rw [sameB_yes rfl] at h
  exact h
theorem places1_len (g : Li) (x : Int) : ∀ i, (places1 g x i).length ≤ i
  | 0 => Nat.le_refl _
  | i + 1 => by
    have h := places1_len g x i
    unfold places1
    split
    · rw [List.length_append]
      have : List.length [(i : Int)] = 1 := rfl
      omega
    · omega
theorem placesN_one {g : Li} {x : Int} (h0 : nI g 0 ≠ x) : ∀ k : Nat, placesN g x k = places1 g x k
  | 0 => rfl
  | k + 1 => by
    have h := placesN_one h0 k
    unfold placesN places1
    rw [h]
    by_cases c : nI g k = x
    · have hk : 1 ≤ k := by
        rcases Nat.eq_zero_or_pos k with e | e
        · subst e; exact absurd c h0
        · exact e
      rw [if_pos c, if_pos ⟨by omega, c⟩]
    · rw [if_neg c, if_neg (fun e => c e.2)]
/-! ### New systems, of arguments that may not be, too -/
def goodA (c n : Int) : Bool := decide (1 ≤ n ∧ n ≤ 200 ∧ 1 ≤ c ∧ c ≤ 8)
theorem s_mNewBad (n : Int) (h : ¬ (1 ≤ n ∧ n ≤ 200)) : Spec Try.prog 72 [vI n] (vMI (dflt tMem) 1) := by
  refine spec_introF false tab_ok 0 Try.func72 rfl (by kernel_rfl) rfl ?_
  conv => whnf
  refine dcase (fun h1 => ?_) (fun h1 => ?_)
  · skip
    conv => whnf
    repeat (refine ⟨by first | omega | (simp only [Option.getD_none, Option.getD_some]; omega) | (simp; done) | (simp; omega), ?_⟩; conv => whnf)
    first | exact .inl rfl | exact .inr rfl
  conv => whnf
  repeat (refine ⟨by first | omega | (simp only [Option.getD_none, Option.getD_some]; omega) | (simp; done) | (simp; omega), ?_⟩; conv => whnf)
  refine dcase (fun h2 => ?_) (fun h2 => absurd ⟨Int.not_lt.1 h1, Int.not_lt.1 h2⟩ h)
  conv => whnf
  repeat (refine ⟨by first | omega | (simp only [Option.getD_none, Option.getD_some]; omega) | (simp; done) | (simp; omega), ?_⟩; conv => whnf)
  first | exact .inl rfl | exact .inr rfl
theorem s_refNewMBad (n : Int) (h : ¬ (1 ≤ n ∧ n ≤ 200)) : Spec Try.prog 52 [vI n] (vMI (dflt tMem) 1) := by
  refine spec_introF false tab_ok 0 Try.func52 rfl (by kernel_rfl) rfl ?_
  conv => whnf
  refine dcase (fun h1 => ?_) (fun h1 => ?_)
  · skip
    conv => whnf
    repeat (refine ⟨by first | omega | (simp only [Option.getD_none, Option.getD_some]; omega) | (simp; done) | (simp; omega), ?_⟩; conv => whnf)
    first | exact .inl rfl | exact .inr rfl
  conv => whnf
  repeat (refine ⟨by first | omega | (simp only [Option.getD_none, Option.getD_some]; omega) | (simp; done) | (simp; omega), ?_⟩; conv => whnf)
  refine dcase (fun h2 => ?_) (fun h2 => absurd ⟨Int.not_lt.1 h1, Int.not_lt.1 h2⟩ h)
  conv => whnf
  repeat (refine ⟨by first | omega | (simp only [Option.getD_none, Option.getD_some]; omega) | (simp; done) | (simp; omega), ?_⟩; conv => whnf)
  first | exact .inl rfl | exact .inr rfl
theorem s_cNewBad (c n : Int) (h : ¬ (1 ≤ n ∧ n ≤ 200 ∧ 1 ≤ c ∧ c ≤ 8)) : Spec Try.prog 50 [vI c, vI n] (vSI (dflt tSys) 1) := by
  by_cases hn : 1 ≤ n ∧ n ≤ 200
  · skip
    refine spec_introF false tab_ok 0 Try.func50 rfl (by kernel_rfl) rfl ?_
    conv => whnf
    first | refine .inr (.inl ⟨_, s_mNew n hn.1 hn.2, ?_⟩) | refine .inl (.inr (.inl ⟨_, s_mNew n hn.1 hn.2, ?_⟩))
    conv => whnf
    repeat (refine ⟨by first | omega | (simp only [Option.getD_none, Option.getD_some]; omega) | (simp; done) | (simp; omega), ?_⟩; conv => whnf)
    refine dcase (fun h1 => ?_) (fun h1 => ?_)
    · skip
      conv => whnf
      repeat (refine ⟨by first | omega | (simp only [Option.getD_none, Option.getD_some]; omega) | (simp; done) | (simp; omega), ?_⟩; conv => whnf)
      first | exact .inl rfl | exact .inr rfl
    conv => whnf
    repeat (refine ⟨by first | omega | (simp only [Option.getD_none, Option.getD_some]; omega) | (simp; done) | (simp; omega), ?_⟩; conv => whnf)
    refine dcase (fun h2 => ?_) (fun h2 => absurd ⟨hn.1, hn.2, Int.not_lt.1 h1, Int.not_lt.1 h2⟩ h)
    conv => whnf
    repeat (refine ⟨by first | omega | (simp only [Option.getD_none, Option.getD_some]; omega) | (simp; done) | (simp; omega), ?_⟩; conv => whnf)
    first | exact .inl rfl | exact .inr rfl
  · skip
    refine spec_introF false tab_ok 0 Try.func50 rfl (by kernel_rfl) rfl ?_
    conv => whnf
    first | refine .inr (.inl ⟨_, s_mNewBad n hn, ?_⟩) | refine .inl (.inr (.inl ⟨_, s_mNewBad n hn, ?_⟩))
    conv => whnf
    repeat (refine ⟨by first | omega | (simp only [Option.getD_none, Option.getD_some]; omega) | (simp; done) | (simp; omega), ?_⟩; conv => whnf)
    first | exact .inl rfl | exact .inr rfl
theorem s_refNewSBad (c n : Int) (h : ¬ (1 ≤ n ∧ n ≤ 200 ∧ 1 ≤ c ∧ c ≤ 8)) : Spec Try.prog 29 [vI c, vI n] (vSI (dflt tSys) 1) := by
  by_cases hn : 1 ≤ n ∧ n ≤ 200
  · skip
    refine spec_introF false tab_ok 0 Try.func29 rfl (by kernel_rfl) rfl ?_
    conv => whnf
    first | refine .inr (.inl ⟨_, s_refNewM n hn.1 hn.2, ?_⟩) | refine .inl (.inr (.inl ⟨_, s_refNewM n hn.1 hn.2, ?_⟩))
    conv => whnf
    repeat (refine ⟨by first | omega | (simp only [Option.getD_none, Option.getD_some]; omega) | (simp; done) | (simp; omega), ?_⟩; conv => whnf)
    refine dcase (fun h1 => ?_) (fun h1 => ?_)
    · skip
      conv => whnf
      repeat (refine ⟨by first | omega | (simp only [Option.getD_none, Option.getD_some]; omega) | (simp; done) | (simp; omega), ?_⟩; conv => whnf)
      first | exact .inl rfl | exact .inr rfl
    conv => whnf
    repeat (refine ⟨by first | omega | (simp only [Option.getD_none, Option.getD_some]; omega) | (simp; done) | (simp; omega), ?_⟩; conv => whnf)
    refine dcase (fun h2 => ?_) (fun h2 => absurd ⟨hn.1, hn.2, Int.not_lt.1 h1, Int.not_lt.1 h2⟩ h)
    conv => whnf
    repeat (refine ⟨by first | omega | (simp only [Option.getD_none, Option.getD_some]; omega) | (simp; done) | (simp; omega), ?_⟩; conv => whnf)
    first | exact .inl rfl | exact .inr rfl
  · skip
    refine spec_introF false tab_ok 0 Try.func29 rfl (by kernel_rfl) rfl ?_
    conv => whnf
    first | refine .inr (.inl ⟨_, s_refNewMBad n hn, ?_⟩) | refine .inl (.inr (.inl ⟨_, s_refNewMBad n hn, ?_⟩))
    conv => whnf
    repeat (refine ⟨by first | omega | (simp only [Option.getD_none, Option.getD_some]; omega) | (simp; done) | (simp; omega), ?_⟩; conv => whnf)
    first | exact .inl rfl | exact .inr rfl
theorem s_StartBad (c n : Int) (h : ¬ (1 ≤ n ∧ n ≤ 200 ∧ 1 ≤ c ∧ c ≤ 8)) : Spec Try.prog 27 [vI c, vI n] (vSI (dflt tSys) 1) := by
  refine spec_introF false tab_ok 0 Try.func27 rfl (by kernel_rfl) rfl ?_
  conv => whnf
  first | refine .inr (.inl ⟨_, s_cNewBad c n h, ?_⟩) | refine .inl (.inr (.inl ⟨_, s_cNewBad c n h, ?_⟩))
  conv => whnf
  repeat (refine ⟨by first | omega | (simp only [Option.getD_none, Option.getD_some]; omega) | (simp; done) | (simp; omega), ?_⟩; conv => whnf)
  first | exact .inl rfl | exact .inr rfl
end Go.Proofs.Ytjeiopkfdgllhaa.V
