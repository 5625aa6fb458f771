/- Layer 3 of the document: cores. -/
import Derived.Test.YtpobngddiifdpaaGreatZbV2
set_option linter.unusedSimpArgs false
set_option linter.unusedVariables false
namespace Go.Proofs.YtpobngddiifdpaaGreat.V
open Go Go.RowKit Go.Proofs.YtpobngddiifdpaaGreat.Hz
set_option maxRecDepth 100000

def nearP (n : Int) : Prop := -2305843009213693952 ≤ n ∧ n ≤ 2305843009213693952
instance (n : Int) : Decidable (nearP n) := inferInstanceAs (Decidable (_ ∧ _))
theorem s_refNear (n : Int) : Spec Tryz.prog 166 [vI n] (vB (decide (nearP n))) := by
  refine spec_introF false tab_ok 0 Tryz.func166 rfl (by kernel_rfl) rfl ?_
  conv => whnf
  refine dcase (fun h => ?_) (fun h => ?_)
  · conv => whnf
    rw [show decide (nearP n) = decide (n ≤ 2305843009213693952) from decide_eq_decide.2 ⟨fun e => e.2, fun e => ⟨h, e⟩⟩]
    first | exact .inl rfl | exact .inr rfl
  · conv => whnf
    rw [show decide (nearP n) = false from decide_eq_false fun e => h e.1]
    first | exact .inl rfl | exact .inr rfl
/-- A register. -/
def rAt (r : R8) : Nat → Int
  | 0 => r.1 | 1 => r.2.1 | 2 => r.2.2.1 | 3 => r.2.2.2.1 | 4 => r.2.2.2.2.1 | 5 => r.2.2.2.2.2.1 | 6 => r.2.2.2.2.2.2.1 | _ => r.2.2.2.2.2.2.2.1
def nearR (r : R8) : Prop := ∀ j : Nat, j < 8 → nearP (rAt r j)
abbrev fAt (l : List Frm) (i : Int) : Frm := l.getD i.toNat (dflt tFrame)
abbrev cAt (l : List Cor) (i : Int) : Cor := l.getD i.toNat (dflt tCore)
def CoreOk (c : Cor) : Prop := nearP c.2.1 ∧ nearP c.2.2.2.1.1 ∧ nearP c.2.2.2.1.2.1 ∧ nearP c.2.2.2.1.2.2.1 ∧ ∀ j : Nat, j < c.1.length → nearR (fAt c.1 j).2.2.1
noncomputable def coreB (c : Cor) : Bool := @decide (CoreOk c) (Classical.propDecidable _)
theorem coreB_yes {c : Cor} (h : CoreOk c) : coreB c = true := @decide_eq_true _ (Classical.propDecidable _) h
theorem coreB_no {c : Cor} (h : ¬ CoreOk c) : coreB c = false := @decide_eq_false _ (Classical.propDecidable _) h
theorem coreB_is {c : Cor} (h : coreB c = true) : CoreOk c := @of_decide_eq_true _ (Classical.propDecidable _) h
theorem s_refCore (c : Cor) (hl : c.1.length ≤ 1000000000) : Spec Tryz.prog 98 [vC c] (vB (coreB c)) := by
  refine spec_introF false tab_ok 0 Tryz.func98 rfl (by kernel_rfl) rfl ?_
  conv => whnf
  first | refine .inl ⟨_, s_refNear _, ?_⟩ | refine .inl (.inl ⟨_, s_refNear _, ?_⟩)
  conv => whnf
  refine ncase (fun h1 => ?_) (fun h1 => ?_)
  · conv => whnf
    rw [coreB_no fun h => h1 h.1]
    first | exact .inl rfl | exact .inr rfl
  conv => whnf
  repeat (refine ⟨by first | omega | (simp only [Option.getD_none, Option.getD_some]; omega) | (simp; done) | (simp; omega), ?_⟩; conv => whnf)
  first | refine .inl ⟨_, s_refNear _, ?_⟩ | refine .inl (.inl ⟨_, s_refNear _, ?_⟩)
  conv => whnf
  refine ncase (fun h2 => ?_) (fun h2 => ?_)
  · conv => whnf
    rw [coreB_no fun h => h2 h.2.1]
    first | exact .inl rfl | exact .inr rfl
  conv => whnf
  repeat (refine ⟨by first | omega | (simp only [Option.getD_none, Option.getD_some]; omega) | (simp; done) | (simp; omega), ?_⟩; conv => whnf)
  first | refine .inl ⟨_, s_refNear _, ?_⟩ | refine .inl (.inl ⟨_, s_refNear _, ?_⟩)
  conv => whnf
  refine ncase (fun h3 => ?_) (fun h3 => ?_)
  · conv => whnf
    rw [coreB_no fun h => h3 h.2.2.1]
    first | exact .inl rfl | exact .inr rfl
  conv => whnf
  repeat (refine ⟨by first | omega | (simp only [Option.getD_none, Option.getD_some]; omega) | (simp; done) | (simp; omega), ?_⟩; conv => whnf)
  first | refine .inl ⟨_, s_refNear _, ?_⟩ | refine .inl (.inl ⟨_, s_refNear _, ?_⟩)
  conv => whnf
  refine ncase (fun h4 => ?_) (fun h4 => ?_)
  · conv => whnf
    rw [coreB_no fun h => h4 h.2.2.2.1]
    first | exact .inl rfl | exact .inr rfl
  conv => whnf
  refine ⟨[], [1, 2, 3], [1], ?_⟩
  apply Exists.intro
  conv => whnf
  refine loopK (fun i : Int => ((c.1.length : Int) - i).toNat) (fun i => 0 ≤ i ∧ i ≤ c.1.length ∧ ∀ j : Nat, (j : Int) < i → nearR (fAt c.1 j).2.2.1) (fun i => ⟨lay 53 0 [(1, pB 1), (2, vB false), (3, vI i)], [(1, .cells yCore (cC c))], []⟩) ?_ 0 rfl rfl ⟨by omega, by omega, fun j hj => by omega⟩
  intro i ih ⟨hi1, hi2, hi3⟩ hih
  conv => whnf
  refine dcase (fun h5 => ?_) (fun h5 => ?_)
  · conv => whnf
    have e : ((i.toNat : Nat) : Int) = i := by omega
    refine ⟨[], [1, 2, 3, 4], [1], ?_⟩
    apply Exists.intro
    conv => whnf
    refine loopK (fun k : Int => (8 - k).toNat) (fun k => 0 ≤ k ∧ k ≤ 8 ∧ ∀ j : Nat, (j : Int) < k → nearP (rAt (fAt c.1 i).2.2.1 j)) (fun k => ⟨lay 53 0 [(1, pB 1), (2, vB false), (3, vI i), (4, vI k)], [(1, .cells yCore (cC c))], []⟩) ?_ 0 rfl rfl ⟨by omega, by omega, fun j hj => by omega⟩
    intro k ih2 ⟨hk1, hk2, hk3⟩ hih2
    by_cases hk8 : k = 8
    · subst hk8
      conv => whnf
      rw [IntWalk.wrap64_in (i + 1) (by omega)]
      refine hih (i + 1) ⟨by omega, by omega, fun j hj => ?_⟩ (by omega)
      by_cases d : (j : Int) < i
      · exact hi3 j d
      · have e2 : (j : Int) = i := by omega
        rw [e2]
        exact fun q hq => hk3 q (by omega)
    have go : ∀ n : Nat, k = n → n < 8 → nearP (rAt (fAt c.1 i).2.2.1 n) → ∀ j : Nat, (j : Int) < (n : Int) + 1 → nearP (rAt (fAt c.1 i).2.2.1 j) := fun n e1 e2 hn j hj => by
      by_cases d : (j : Int) < n
      · exact hk3 j (by omega)
      · rw [show j = n by omega]
        exact hn
    have no : ∀ n : Nat, n < 8 → ¬ nearP (rAt (fAt c.1 i).2.2.1 n) → coreB c = false := fun n hn h => coreB_no fun h2 => h (by
      have := h2.2.2.2.2 i.toNat (by omega) n hn
      rw [e] at this
      exact this)
    have hk9 : k = 0 ∨ k = 1 ∨ k = 2 ∨ k = 3 ∨ k = 4 ∨ k = 5 ∨ k = 6 ∨ k = 7 := by omega
    rcases hk9 with rfl | rfl | rfl | rfl | rfl | rfl | rfl | rfl
    · conv => whnf
      repeat (refine ⟨by first | omega | (simp only [Option.getD_none, Option.getD_some]; omega) | (simp; done) | (simp; omega), ?_⟩; conv => whnf)
      first | refine .inl ⟨_, s_refNear _, ?_⟩ | refine .inl (.inl ⟨_, s_refNear _, ?_⟩)
      conv => whnf
      refine ncase (fun h6 => ?_) (fun h6 => ?_)
      · conv => whnf
        rw [no 0 (by decide) h6]
        first | exact .inl rfl | exact .inr rfl
      · conv => whnf
        rw [IntWalk.wrap64_in ((0 : Int) + 1) (by omega)]
        exact hih2 (0 + 1) ⟨by omega, by omega, go 0 rfl (by decide) h6⟩ (by omega)
    · conv => whnf
      repeat (refine ⟨by first | omega | (simp only [Option.getD_none, Option.getD_some]; omega) | (simp; done) | (simp; omega), ?_⟩; conv => whnf)
      first | refine .inl ⟨_, s_refNear _, ?_⟩ | refine .inl (.inl ⟨_, s_refNear _, ?_⟩)
      conv => whnf
      refine ncase (fun h6 => ?_) (fun h6 => ?_)
      · conv => whnf
        rw [no 1 (by decide) h6]
        first | exact .inl rfl | exact .inr rfl
      · conv => whnf
        rw [IntWalk.wrap64_in ((1 : Int) + 1) (by omega)]
        exact hih2 (1 + 1) ⟨by omega, by omega, go 1 rfl (by decide) h6⟩ (by omega)
    · conv => whnf
      repeat (refine ⟨by first | omega | (simp only [Option.getD_none, Option.getD_some]; omega) | (simp; done) | (simp; omega), ?_⟩; conv => whnf)
      first | refine .inl ⟨_, s_refNear _, ?_⟩ | refine .inl (.inl ⟨_, s_refNear _, ?_⟩)
      conv => whnf
      refine ncase (fun h6 => ?_) (fun h6 => ?_)
      · conv => whnf
        rw [no 2 (by decide) h6]
        first | exact .inl rfl | exact .inr rfl
      · conv => whnf
        rw [IntWalk.wrap64_in ((2 : Int) + 1) (by omega)]
        exact hih2 (2 + 1) ⟨by omega, by omega, go 2 rfl (by decide) h6⟩ (by omega)
    · conv => whnf
      repeat (refine ⟨by first | omega | (simp only [Option.getD_none, Option.getD_some]; omega) | (simp; done) | (simp; omega), ?_⟩; conv => whnf)
      first | refine .inl ⟨_, s_refNear _, ?_⟩ | refine .inl (.inl ⟨_, s_refNear _, ?_⟩)
      conv => whnf
      refine ncase (fun h6 => ?_) (fun h6 => ?_)
      · conv => whnf
        rw [no 3 (by decide) h6]
        first | exact .inl rfl | exact .inr rfl
      · conv => whnf
        rw [IntWalk.wrap64_in ((3 : Int) + 1) (by omega)]
        exact hih2 (3 + 1) ⟨by omega, by omega, go 3 rfl (by decide) h6⟩ (by omega)
    · conv => whnf
      repeat (refine ⟨by first | omega | (simp only [Option.getD_none, Option.getD_some]; omega) | (simp; done) | (simp; omega), ?_⟩; conv => whnf)
      first | refine .inl ⟨_, s_refNear _, ?_⟩ | refine .inl (.inl ⟨_, s_refNear _, ?_⟩)
      conv => whnf
      refine ncase (fun h6 => ?_) (fun h6 => ?_)
      · conv => whnf
        rw [no 4 (by decide) h6]
        first | exact .inl rfl | exact .inr rfl
      · conv => whnf
        rw [IntWalk.wrap64_in ((4 : Int) + 1) (by omega)]
        exact hih2 (4 + 1) ⟨by omega, by omega, go 4 rfl (by decide) h6⟩ (by omega)
    · conv => whnf
      repeat (refine ⟨by first | omega | (simp only [Option.getD_none, Option.getD_some]; omega) | (simp; done) | (simp; omega), ?_⟩; conv => whnf)
      first | refine .inl ⟨_, s_refNear _, ?_⟩ | refine .inl (.inl ⟨_, s_refNear _, ?_⟩)
      conv => whnf
      refine ncase (fun h6 => ?_) (fun h6 => ?_)
      · conv => whnf
        rw [no 5 (by decide) h6]
        first | exact .inl rfl | exact .inr rfl
      · conv => whnf
        rw [IntWalk.wrap64_in ((5 : Int) + 1) (by omega)]
        exact hih2 (5 + 1) ⟨by omega, by omega, go 5 rfl (by decide) h6⟩ (by omega)
    · conv => whnf
      repeat (refine ⟨by first | omega | (simp only [Option.getD_none, Option.getD_some]; omega) | (simp; done) | (simp; omega), ?_⟩; conv => whnf)
      first | refine .inl ⟨_, s_refNear _, ?_⟩ | refine .inl (.inl ⟨_, s_refNear _, ?_⟩)
      conv => whnf
      refine ncase (fun h6 => ?_) (fun h6 => ?_)
      · conv => whnf
        rw [no 6 (by decide) h6]
        first | exact .inl rfl | exact .inr rfl
      · conv => whnf
        rw [IntWalk.wrap64_in ((6 : Int) + 1) (by omega)]
        exact hih2 (6 + 1) ⟨by omega, by omega, go 6 rfl (by decide) h6⟩ (by omega)
    · conv => whnf
      repeat (refine ⟨by first | omega | (simp only [Option.getD_none, Option.getD_some]; omega) | (simp; done) | (simp; omega), ?_⟩; conv => whnf)
      first | refine .inl ⟨_, s_refNear _, ?_⟩ | refine .inl (.inl ⟨_, s_refNear _, ?_⟩)
      conv => whnf
      refine ncase (fun h6 => ?_) (fun h6 => ?_)
      · conv => whnf
        rw [no 7 (by decide) h6]
        first | exact .inl rfl | exact .inr rfl
      · conv => whnf
        rw [IntWalk.wrap64_in ((7 : Int) + 1) (by omega)]
        exact hih2 (7 + 1) ⟨by omega, by omega, go 7 rfl (by decide) h6⟩ (by omega)
  · conv => whnf
    rw [coreB_yes ⟨h1, h2, h3, h4, fun j hj => hi3 j (by omega)⟩]
    first | exact .inl rfl | exact .inr rfl

def SmallS (s : Sy) (k : Int) : Prop := smallM s.1 k = true ∧ s.2.1.length ≤ 9 ∧ s.2.2.1.length ≤ 200 ∧ ∀ j : Nat, j < s.2.1.length → ((cAt s.2.1 j).1.length ≤ 45 ∧ (cAt s.2.1 j).2.2.2.2.1.length ≤ 210 ∧ ∀ i : Nat, i < (cAt s.2.1 j).1.length → (fAt (cAt s.2.1 j).1 i).2.2.2.1.length ≤ 30)
noncomputable def smallS (s : Sy) (k : Int) : Bool := @decide (SmallS s k) (Classical.propDecidable _)
theorem smallS_yes {s : Sy} {k : Int} (h : SmallS s k) : smallS s k = true := @decide_eq_true _ (Classical.propDecidable _) h
theorem smallS_no {s : Sy} {k : Int} (h : ¬ SmallS s k) : smallS s k = false := @decide_eq_false _ (Classical.propDecidable _) h
theorem smallS_is {s : Sy} {k : Int} (h : smallS s k = true) : SmallS s k := @of_decide_eq_true _ (Classical.propDecidable _) h
theorem s_refSmallS (s : Sy) (k : Int) : Spec Tryz.prog 52 [vS s, vI k] (vB (smallS s k)) := by
  refine spec_introF false tab_ok 0 Tryz.func52 rfl (by kernel_rfl) rfl ?_
  conv => whnf
  first | refine .inl ⟨_, s_refSmallM _ _, ?_⟩ | refine .inl (.inl ⟨_, s_refSmallM _ _, ?_⟩)
  conv => whnf
  refine ncaseb (fun h1 => ?_) (fun h1 => ?_)
  · conv => whnf
    rw [smallS_no fun h => by
      have := h.1
      rw [show smallM s.1 k = false from h1] at this
      cases this]
    first | exact .inl rfl | exact .inr rfl
  conv => whnf
  refine dcase (fun h2 => ?_) (fun h2 => ?_)
  · conv => whnf
    rw [smallS_no fun h => by have := h.2.1; omega]
    first | exact .inl rfl | exact .inr rfl
  conv => whnf
  refine dcase (fun h3 => ?_) (fun h3 => ?_)
  · conv => whnf
    rw [smallS_no fun h => by have := h.2.2.1; omega]
    first | exact .inl rfl | exact .inr rfl
  conv => whnf
  refine ⟨[], [1, 2, 4, 6], [2], ?_⟩
  apply Exists.intro
  conv => whnf
  refine loopK (fun i : Int => ((s.2.1.length : Int) - i).toNat) (fun i => 0 ≤ i ∧ i ≤ s.2.1.length ∧ ∀ j : Nat, (j : Int) < i → ((cAt s.2.1 j).1.length ≤ 45 ∧ (cAt s.2.1 j).2.2.2.2.1.length ≤ 210 ∧ ∀ i : Nat, i < (cAt s.2.1 j).1.length → (fAt (cAt s.2.1 j).1 i).2.2.2.1.length ≤ 30)) (fun i => ⟨lay 74 0 [(1, vI k), (2, pB 2), (4, vB false), (6, vI i)], [(2, .cells ySys (cS s))], []⟩) ?_ 0 rfl rfl ⟨by omega, by omega, fun j hj => by omega⟩
  intro i ih ⟨hi1, hi2, hi3⟩ hih
  conv => whnf
  have e : ((i.toNat : Nat) : Int) = i := by omega
  refine dcase (fun h4 => ?_) (fun h4 => ?_)
  · conv => whnf
    repeat (refine ⟨by first | omega | (simp only [Option.getD_none, Option.getD_some]; omega) | (simp; done) | (simp; omega), ?_⟩; conv => whnf)
    refine dcase (fun h5 => ?_) (fun h5 => ?_)
    · conv => whnf
      rw [smallS_no fun h => by
        have := (h.2.2.2 i.toNat (by omega)).1
        rw [e] at this
        exact absurd h5 (Int.not_lt.2 (Int.ofNat_le.2 this))]
      first | exact .inl rfl | exact .inr rfl
    conv => whnf
    repeat (refine ⟨by first | omega | (simp only [Option.getD_none, Option.getD_some]; omega) | (simp; done) | (simp; omega), ?_⟩; conv => whnf)
    refine dcase (fun h6 => ?_) (fun h6 => ?_)
    · conv => whnf
      rw [smallS_no fun h => by
        have := (h.2.2.2 i.toNat (by omega)).2.1
        rw [e] at this
        exact absurd h6 (Int.not_lt.2 (Int.ofNat_le.2 this))]
      first | exact .inl rfl | exact .inr rfl
    conv => whnf
    refine ⟨[], [1, 2, 4, 6, 7], [2], ?_⟩
    apply Exists.intro
    conv => whnf
    refine loopK (fun k : Int => (((cAt s.2.1 i).1.length : Int) - k).toNat) (fun k => 0 ≤ k ∧ k ≤ (cAt s.2.1 i).1.length ∧ ∀ j : Nat, (j : Int) < k → (fAt (cAt s.2.1 i).1 j).2.2.2.1.length ≤ 30) (fun n => ⟨lay 74 0 [(1, vI k), (2, pB 2), (4, vB false), (6, vI i), (7, vI n)], [(2, .cells ySys (cS s))], []⟩) ?_ 0 rfl rfl ⟨by omega, by omega, fun j hj => by omega⟩
    intro n ih2 ⟨hk1, hk2, hk3⟩ hih2
    conv => whnf
    repeat (refine ⟨by first | omega | (simp only [Option.getD_none, Option.getD_some]; omega) | (simp; done) | (simp; omega), ?_⟩; conv => whnf)
    have hl : (cAt s.2.1 i).1.length ≤ 45 := Int.ofNat_le.1 (Int.not_lt.1 h5)
    refine dcase (fun h7 => ?_) (fun h7 => ?_)
    · have h8 : n < (cAt s.2.1 i).1.length := h7
      conv => whnf
      repeat (refine ⟨by first | omega | (simp only [Option.getD_none, Option.getD_some]; omega) | (simp; done) | (simp; omega), ?_⟩; conv => whnf)
      refine dcase (fun h9 => ?_) (fun h9 => ?_)
      · conv => whnf
        rw [smallS_no fun h => by
          have := (h.2.2.2 i.toNat (by omega)).2.2 n.toNat (by rw [e]; omega)
          rw [e, show ((n.toNat : Nat) : Int) = n by omega] at this
          exact absurd h9 (Int.not_lt.2 (Int.ofNat_le.2 this))]
        first | exact .inl rfl | exact .inr rfl
      · conv => whnf
        rw [IntWalk.wrap64_in (n + 1) (by omega)]
        refine hih2 (n + 1) ⟨by omega, by omega, fun j hj => ?_⟩ (by omega)
        by_cases d : (j : Int) < n
        · exact hk3 j d
        · have e2 : (j : Int) = n := by omega
          rw [e2]
          exact Int.ofNat_le.1 (Int.not_lt.1 h9)
    · conv => whnf
      rw [IntWalk.wrap64_in (i + 1) (by omega)]
      refine hih (i + 1) ⟨by omega, by omega, fun j hj => ?_⟩ (by omega)
      by_cases d : (j : Int) < i
      · exact hi3 j d
      · have e2 : (j : Int) = i := by omega
        rw [e2]
        exact ⟨hl, Int.ofNat_le.1 (Int.not_lt.1 h6), fun q hq => hk3 q (by have := Int.not_lt.1 h7; have h9 : ((cAt s.2.1 i).1.length : Int) ≤ n := this; omega)⟩
  · conv => whnf
    rw [smallS_yes ⟨h1, by omega, by omega, fun j hj => hi3 j (by omega)⟩]
    first | exact .inl rfl | exact .inr rfl

def RightS (s : Sy) : Prop := RightM s.1 ∧ 1 ≤ s.2.1.length ∧ s.2.1.length ≤ 8 ∧ ∀ j : Nat, j < s.2.1.length → (CoreOk (cAt s.2.1 j) ∧ (cAt s.2.1 j).1.length ≤ 40 ∧ (cAt s.2.1 j).2.2.2.2.1.length ≤ 200 ∧ ∀ i : Nat, i < (cAt s.2.1 j).1.length → (fAt (cAt s.2.1 j).1 i).2.2.2.1.length ≤ 24)
noncomputable def rightS (s : Sy) : Bool := @decide (RightS s) (Classical.propDecidable _)
theorem rightS_yes {s : Sy} (h : RightS s) : rightS s = true := @decide_eq_true _ (Classical.propDecidable _) h
theorem rightS_no {s : Sy} (h : ¬ RightS s) : rightS s = false := @decide_eq_false _ (Classical.propDecidable _) h
theorem rightS_is {s : Sy} (h : rightS s = true) : RightS s := @of_decide_eq_true _ (Classical.propDecidable _) h
theorem s_refRightS (s : Sy) (hg : s.1.2.1.length ≤ 1000000) (hw : s.1.1.length ≤ 1000000000) (hc : ∀ j : Nat, j < s.2.1.length → (cAt s.2.1 j).1.length ≤ 1000000) : Spec Tryz.prog 53 [vS s] (vB (rightS s)) := by
  refine spec_introF false tab_ok 0 Tryz.func53 rfl (by kernel_rfl) rfl ?_
  conv => whnf
  first | refine .inl ⟨_, s_refRightM s.1 hg hw, ?_⟩ | refine .inl (.inl ⟨_, s_refRightM s.1 hg hw, ?_⟩)
  conv => whnf
  refine ncaseb (fun h1 => ?_) (fun h1 => ?_)
  · conv => whnf
    rw [rightS_no fun h => by
      have := rightM_yes h.1
      rw [h1] at this
      cases this]
    first | exact .inl rfl | exact .inr rfl
  conv => whnf
  refine dcase (fun h2 => ?_) (fun h2 => ?_)
  · conv => whnf
    rw [rightS_no fun h => by have := h.2.1; omega]
    first | exact .inl rfl | exact .inr rfl
  conv => whnf
  refine dcase (fun h3 => ?_) (fun h3 => ?_)
  · conv => whnf
    rw [rightS_no fun h => by have := h.2.2.1; omega]
    first | exact .inl rfl | exact .inr rfl
  conv => whnf
  refine ⟨[], [1, 2, 4], [1], ?_⟩
  apply Exists.intro
  conv => whnf
  refine loopK (fun i : Int => ((s.2.1.length : Int) - i).toNat) (fun i => 0 ≤ i ∧ i ≤ s.2.1.length ∧ ∀ j : Nat, (j : Int) < i → (CoreOk (cAt s.2.1 j) ∧ (cAt s.2.1 j).1.length ≤ 40 ∧ (cAt s.2.1 j).2.2.2.2.1.length ≤ 200 ∧ ∀ i : Nat, i < (cAt s.2.1 j).1.length → (fAt (cAt s.2.1 j).1 i).2.2.2.1.length ≤ 24)) (fun i => ⟨lay 82 0 [(1, pB 1), (2, vB false), (4, vI i)], [(1, .cells ySys (cS s))], []⟩) ?_ 0 rfl rfl ⟨by omega, by omega, fun j hj => by omega⟩
  intro i ih ⟨hi1, hi2, hi3⟩ hih
  conv => whnf
  have e : ((i.toNat : Nat) : Int) = i := by omega
  refine dcase (fun h4 => ?_) (fun h4 => ?_)
  · have hci := hc i.toNat (by omega)
    rw [e] at hci
    conv => whnf
    repeat (refine ⟨by first | omega | (simp only [Option.getD_none, Option.getD_some]; omega) | (simp; done) | (simp; omega), ?_⟩; conv => whnf)
    first | refine .inl ⟨_, s_refCore (cAt s.2.1 i) (Nat.le_trans hci (by decide)), ?_⟩ | refine .inl (.inl ⟨_, s_refCore (cAt s.2.1 i) (Nat.le_trans hci (by decide)), ?_⟩)
    conv => whnf
    refine ncaseb (fun hb => ?_) (fun hb => ?_)
    · conv => whnf
      rw [rightS_no fun h => by
        have := coreB_yes (h.2.2.2 i.toNat (by omega)).1
        rw [e, hb] at this
        cases this]
      first | exact .inl rfl | exact .inr rfl
    conv => whnf
    repeat (refine ⟨by first | omega | (simp only [Option.getD_none, Option.getD_some]; omega) | (simp; done) | (simp; omega), ?_⟩; conv => whnf)
    refine dcase (fun h5 => ?_) (fun h5 => ?_)
    · conv => whnf
      rw [rightS_no fun h => by
        have := (h.2.2.2 i.toNat (by omega)).2.1
        rw [e] at this
        exact absurd h5 (Int.not_lt.2 (Int.ofNat_le.2 this))]
      first | exact .inl rfl | exact .inr rfl
    conv => whnf
    repeat (refine ⟨by first | omega | (simp only [Option.getD_none, Option.getD_some]; omega) | (simp; done) | (simp; omega), ?_⟩; conv => whnf)
    refine dcase (fun h6 => ?_) (fun h6 => ?_)
    · conv => whnf
      rw [rightS_no fun h => by
        have := (h.2.2.2 i.toNat (by omega)).2.2.1
        rw [e] at this
        exact absurd h6 (Int.not_lt.2 (Int.ofNat_le.2 this))]
      first | exact .inl rfl | exact .inr rfl
    conv => whnf
    refine ⟨[], [1, 2, 4, 6], [1], ?_⟩
    apply Exists.intro
    conv => whnf
    refine loopK (fun k : Int => (((cAt s.2.1 i).1.length : Int) - k).toNat) (fun k => 0 ≤ k ∧ k ≤ (cAt s.2.1 i).1.length ∧ ∀ j : Nat, (j : Int) < k → (fAt (cAt s.2.1 i).1 j).2.2.2.1.length ≤ 24) (fun n => ⟨lay 82 0 [(1, pB 1), (2, vB false), (4, vI i), (6, vI n)], [(1, .cells ySys (cS s))], []⟩) ?_ 0 rfl rfl ⟨by omega, by omega, fun j hj => by omega⟩
    intro n ih2 ⟨hk1, hk2, hk3⟩ hih2
    conv => whnf
    repeat (refine ⟨by first | omega | (simp only [Option.getD_none, Option.getD_some]; omega) | (simp; done) | (simp; omega), ?_⟩; conv => whnf)
    have hl : (cAt s.2.1 i).1.length ≤ 40 := Int.ofNat_le.1 (Int.not_lt.1 h5)
    refine dcase (fun h7 => ?_) (fun h7 => ?_)
    · have h8 : n < (cAt s.2.1 i).1.length := h7
      conv => whnf
      repeat (refine ⟨by first | omega | (simp only [Option.getD_none, Option.getD_some]; omega) | (simp; done) | (simp; omega), ?_⟩; conv => whnf)
      refine dcase (fun h9 => ?_) (fun h9 => ?_)
      · conv => whnf
        rw [rightS_no fun h => by
          have := (h.2.2.2 i.toNat (by omega)).2.2.2 n.toNat (by rw [e]; omega)
          rw [e, show ((n.toNat : Nat) : Int) = n by omega] at this
          exact absurd h9 (Int.not_lt.2 (Int.ofNat_le.2 this))]
        first | exact .inl rfl | exact .inr rfl
      · conv => whnf
        rw [IntWalk.wrap64_in (n + 1) (by omega)]
        refine hih2 (n + 1) ⟨by omega, by omega, fun j hj => ?_⟩ (by omega)
        by_cases d : (j : Int) < n
        · exact hk3 j d
        · have e2 : (j : Int) = n := by omega
          rw [e2]
          exact Int.ofNat_le.1 (Int.not_lt.1 h9)
    · conv => whnf
      rw [IntWalk.wrap64_in (i + 1) (by omega)]
      refine hih (i + 1) ⟨by omega, by omega, fun j hj => ?_⟩ (by omega)
      by_cases d : (j : Int) < i
      · exact hi3 j d
      · have e2 : (j : Int) = i := by omega
        rw [e2]
        exact ⟨coreB_is hb, hl, Int.ofNat_le.1 (Int.not_lt.1 h6), fun q hq => hk3 q (by have := Int.not_lt.1 h7; have h9 : ((cAt s.2.1 i).1.length : Int) ≤ n := this; omega)⟩
  · conv => whnf
    rw [rightS_yes ⟨rightM_is h1, by omega, by omega, fun j hj => hi3 j (by omega)⟩]
    first | exact .inl rfl | exact .inr rfl
/-- Small and right. -/
noncomputable def mayS (s : Sy) (k : Int) : Bool := smallS s k && rightS s
theorem smallM_is {m : Me} {k : Int} (h : smallM m k = true) (h1 : 0 ≤ k) (h2 : k ≤ 1000) : m.2.1.length ≤ k + 1 ∧ m.1.length ≤ 128 + 4 * k := by
  unfold smallM at h
  rw [Bool.and_eq_true, decide_eq_true_iff, decide_eq_true_iff, IntWalk.wrap64_in (k + 1) (by omega), IntWalk.wrap64_in (4 * k) (by omega), IntWalk.wrap64_in (128 + _) (by omega)] at h
  exact h
theorem s_refMay (s : Sy) (k : Int) (h1 : 0 ≤ k) (h2 : k ≤ 1000) : Spec Tryz.prog 16 [vS s, vI k] (vB (mayS s k)) := by
  unfold mayS
  refine spec_introF false tab_ok 0 Tryz.func16 rfl (by kernel_rfl) rfl ?_
  conv => whnf
  first | refine .inl ⟨_, s_refSmallS s k, ?_⟩ | refine .inl (.inl ⟨_, s_refSmallS s k, ?_⟩)
  conv => whnf
  refine bcase (fun h => ?_) (fun h => ?_)
  · have hs := smallS_is h
    have hm := smallM_is hs.1 h1 h2
    rw [h]
    conv => whnf
    first | refine .inl ⟨_, s_refRightS s (by omega) (by omega) (fun j hj => Nat.le_trans (hs.2.2.2 j hj).1 (by decide)), ?_⟩ | refine .inl (.inl ⟨_, s_refRightS s (by omega) (by omega) (fun j hj => Nat.le_trans (hs.2.2.2 j hj).1 (by decide)), ?_⟩)
    conv => whnf
    first | exact .inl rfl | exact .inr rfl
  · rw [h]
    conv => whnf
    first | exact .inl rfl | exact .inr rfl
def cF (f : Frm) : List C := [.int .i64 f.1, .int .i64 f.2.1, .int .i64 f.2.2.1.1, .int .i64 f.2.2.1.2.1, .int .i64 f.2.2.1.2.2.1, .int .i64 f.2.2.1.2.2.2.1, .int .i64 f.2.2.1.2.2.2.2.1, .int .i64 f.2.2.1.2.2.2.2.2.1, .int .i64 f.2.2.1.2.2.2.2.2.2.1, .int .i64 f.2.2.1.2.2.2.2.2.2.2.1, .sl tI f.2.2.2.1 false]
abbrev vFB (f : Frm) (b : Bool) : SV := .tup [(true, cF f), (false, [.bool b])]
/-- The last frame of a core. -/
def topI (s : Sy) (k : Int) : Option Frm := if 0 ≤ k then (s.2.1[k.toNat]?).bind fun c => c.1.getLast? else none
theorem s_refTop (s : Sy) (k : Int) (hl : s.2.1.length ≤ 1000000000000) (hl2 : ∀ c ∈ s.2.1, c.1.length ≤ 1000000000000) : Spec Tryz.prog 30 [vS s, vI k] (vFB ((topI s k).getD (dflt tFrame)) (topI s k).isSome) := by
  refine spec_introF false tab_ok 0 Tryz.func30 rfl (by kernel_rfl) rfl ?_
  conv => whnf
  refine dcase (fun h => ?_) (fun h => ?_)
  · have e : topI s k = none := if_neg (by omega)
    rw [e]
    conv => whnf
    exact .inr rfl
  conv => whnf
  refine dcase (fun h1 => ?_) (fun h1 => ?_)
  · have e : topI s k = none := by
      unfold topI
      rw [if_pos (by omega), List.getElem?_eq_none (by omega)]; rfl
    rw [e]
    conv => whnf
    exact .inr rfl
  have hk : k.toNat < s.2.1.length := by omega
  have hget : s.2.1.getD k.toNat (dflt tCore) = s.2.1[k.toNat] := by simp [List.getD, hk]
  have ht : topI s k = s.2.1[k.toNat].1.getLast? := by
    unfold topI
    rw [if_pos (by omega), List.getElem?_eq_getElem hk]; rfl
  conv => whnf
  refine ⟨by omega, ?_⟩
  conv => whnf
  rw [hget]
  refine dcase (fun h2 => ?_) (fun h2 => ?_)
  · have e : topI s k = none := by rw [ht, List.getLast?_eq_none_iff]; exact List.eq_nil_of_length_eq_zero (by omega)
    rw [e]
    conv => whnf
    exact .inr rfl
  have hlen := hl2 _ (List.getElem_mem hk)
  conv => whnf
  refine ⟨p_hazelref03_Top_3, g_hazelref03_Top_3, by kernel_rfl, ?_⟩
  refine ⟨?st, ?_, ?_⟩
  rotate_left
  · conv => whnf
    repeat (refine ⟨by omega, ?_⟩; conv => whnf)
    rw [hget, IntWalk.wrap64_in _ (by omega)]
    repeat (refine ⟨by omega, ?_⟩; conv => whnf)
  have e : topI s k = some (s.2.1[k.toNat].1.getD (((s.2.1[k.toNat].1.length : Nat) : Int) - 1).toNat (dflt tFrame)) := by
    rw [ht, List.getLast?_eq_getElem?, show (((s.2.1[k.toNat].1.length : Nat) : Int) - 1).toNat = s.2.1[k.toNat].1.length - 1 by omega]
    rw [List.getD, List.getElem?_eq_getElem (by omega)]; rfl
  rw [e]
  conv => whnf
  exact .inl rfl

/-! ### Changes -/
theorem s_refMem (s : Sy) (m : Me) : Spec Tryz.prog 65 [vS s, vM m] (vS (m, s.2)) := by
  refine spec_introF false tab_ok 0 Tryz.func65 rfl (by kernel_rfl) rfl ?_
  conv => whnf
  first | exact .inl rfl | exact .inr rfl
/-- Another core. -/
def withS (s : Sy) (k : Int) (c : Cor) : Sy := (s.1, s.2.1.set k.toNat c, s.2.2.1, ())
theorem s_refWith (s : Sy) (k : Int) (c : Cor) (h1 : 0 ≤ k) (h2 : k < s.2.1.length) (hl : s.2.1.length ≤ 1000000) : Spec Tryz.prog 95 [vS s, vI k, vC c] (vS (withS s k c)) := by
  refine spec_introF false tab_ok 0 Tryz.func95 rfl (by kernel_rfl) rfl ?_
  conv => whnf
  refine ⟨le_most (by omega), ?_⟩
  conv => whnf
  repeat (refine ⟨by first | omega | (simp only [Option.getD_none, Option.getD_some]; omega) | (simp; done) | (simp; omega), ?_⟩; conv => whnf)
  first | exact .inl rfl | exact .inr rfl
/-- A new frame. -/
def frm0 (op a b c : Int) : Frm := (op, (0 : Int), (a, b, c, (0 : Int), (0 : Int), (0 : Int), (0 : Int), (0 : Int), ()), ([] : List Int), ())
def pushS (s : Sy) (k : Int) (f : Frm) : Sy := withS s k ((cAt s.2.1 k).1 ++ [f], (cAt s.2.1 k).2)
def callS (s : Sy) (k op a b c : Int) : Sy := if 0 ≤ k ∧ k < s.2.1.length ∧ (cAt s.2.1 k).1.length < 40 then pushS s k (frm0 op a b c) else s
theorem s_refCall (s : Sy) (k op a b c : Int) (hl : s.2.1.length ≤ 1000000) : Spec Tryz.prog 51 [vS s, vI k, vI op, vI a, vI b, vI c] (vS (callS s k op a b c)) := by
  refine spec_introF false tab_ok 0 Tryz.func51 rfl (by kernel_rfl) rfl ?_
  conv => whnf
  refine dcase (fun h1 => ?_) (fun h1 => ?_)
  · conv => whnf
    rw [show callS s k op a b c = s from if_neg (by omega)]
    first | exact .inl rfl | exact .inr rfl
  conv => whnf
  refine dcase (fun h2 => ?_) (fun h2 => ?_)
  · conv => whnf
    rw [show callS s k op a b c = s from if_neg (by omega)]
    first | exact .inl rfl | exact .inr rfl
  conv => whnf
  repeat (refine ⟨by first | omega | (simp only [Option.getD_none, Option.getD_some]; omega) | (simp; done) | (simp; omega), ?_⟩; conv => whnf)
  refine dcase (fun h3 => ?_) (fun h3 => ?_)
  · conv => whnf
    rw [show callS s k op a b c = s from if_neg (fun h => by have := h.2.2; exact absurd h3 (Int.not_le.2 (Int.ofNat_lt.2 this)))]
    first | exact .inl rfl | exact .inr rfl
  conv => whnf
  have h4 : (cAt s.2.1 k).1.length < 40 := Int.ofNat_lt.1 (Int.not_le.1 h3)
  rw [show callS s k op a b c = pushS s k (frm0 op a b c) from if_pos ⟨by omega, by omega, h4⟩]
  repeat (refine ⟨by first | omega | (simp only [Option.getD_none, Option.getD_some]; omega) | (simp; done) | (simp; omega), ?_⟩; conv => whnf)
  refine ⟨Nat.le_trans (Nat.le_of_lt h4) (le_most (by decide)), ?_⟩
  conv => whnf
  refine ⟨Nat.le_trans (Nat.succ_le_succ (Nat.le_of_lt h4)) (le_most (by decide)), ?_⟩
  conv => whnf
  first | refine .inr (.inl ⟨_, s_refWith s k ((cAt s.2.1 k).1 ++ [frm0 op a b c], (cAt s.2.1 k).2) (by omega) (by omega) hl, ?_⟩) | refine .inl (.inr (.inl ⟨_, s_refWith s k ((cAt s.2.1 k).1 ++ [frm0 op a b c], (cAt s.2.1 k).2) (by omega) (by omega) hl, ?_⟩))
  conv => whnf
  first | exact .inl rfl | exact .inr rfl
end Go.Proofs.YtpobngddiifdpaaGreat.V
