/- Queues: the example; what begins. -/
import Derived.Test.YtpobngddiifdpaaGreatZcQ6
import Derived.Test.YtpobngddiifdpaaGreatZcQ7
import Derived.Test.YtpobngddiifdpaaGreatZcT0
set_option linter.unusedSimpArgs false
set_option linter.unusedVariables false
namespace Go.Proofs.YtpobngddiifdpaaGreat.V
open Go Go.RowKit Go.Proofs.YtpobngddiifdpaaGreat.Hz
set_option maxRecDepth 100000

/-- So many steps of core k. -/
def it8 (k : Int) (s : Sy) : Nat → Sy
  | 0 => s
  | j + 1 => msqS (it8 k s j) k
theorem it8_fin {N : Nat} {k : Int} {s : Sy} (h : Fin N s) : ∀ j, Fin (N + j) (it8 k s j)
  | 0 => h
  | j + 1 => msqS_fin (it8_fin h j)
def sh8 : Nat → Sy
  | 0 => (mkM (newF 1 9).1 2 1, (newF 1 9).2)
  | i + 1 => it8 0 (callS (sh8 i) 0 9 2 ((i + 1 : Nat) : Int) 0) 30
def end8 (j : Nat) : Sy := it8 0 (callS (sh8 2) 0 10 2 0 0) j
theorem mkM_fits {m : Me} {q p : Int} (h : Fits m) : Fits (mkM m q p) := by
  unfold mkM
  refine setW_fits (setW_fits (setW_fits ?_))
  have e1 : (popM m p).1.length = m.1.length := List.length_set
  have e2 : (popM m p).2.1.length = m.2.1.length := List.length_set
  unfold Fits at h ⊢
  rw [e1, e2]
  exact h
theorem sh8_fin : ∀ i, Fin (30 * i) (sh8 i)
  | 0 => (newF_fin (c := 1) (n := 9) (by decide) (by decide) (by decide)).mem (mkM_fits (newF_fin (c := 1) (n := 9) (by decide) (by decide) (by decide)).fits)
  | i + 1 => it8_fin (sh8_fin i).callS 30
theorem end8_is : (end8 30).2.1.length = 1 ∧ (cAt (end8 30).2.1 0).1.length = 0 ∧ itemsI (end8 30).1 2 = some [2] ∧ cV (end8 30) 0 = 1 ∧ cE (end8 30) 0 = 0 ∧ (end8 30).2.2.1.length = 3 ∧ (end8 30).1.2.2.1 = false ∧ (end8 30).1.2.1.length = 10 ∧ (end8 30).1.1.length = 164 := by decide +kernel
theorem s_msqOwn8 (op : Int) : Spec Tryz.prog 23 [vI op] (vB (ownB 1 10 op)) := by
  have h := s_allocOwn op
  refine spec_introF true tab_ok 0 Tryz.func23 rfl (by kernel_rfl) rfl ?_
  conv => whnf
  refine dcase (fun h1 => ?_) (fun h1 => ?_)
  · rw [show ownB 1 10 op = true from decide_eq_true (by omega)]
    conv => whnf
    repeat (refine ⟨by first | omega | (simp only [Option.getD_none, Option.getD_some]; omega) | (simp; done) | (simp; omega), ?_⟩; conv => whnf)
    first | exact .inl rfl | exact .inr rfl
  conv => whnf
  repeat (refine ⟨by first | omega | (simp only [Option.getD_none, Option.getD_some]; omega) | (simp; done) | (simp; omega), ?_⟩; conv => whnf)
  refine dcase (fun h2 => ?_) (fun h2 => ?_)
  · rw [show ownB 1 10 op = true from decide_eq_true (by omega)]
    conv => whnf
    repeat (refine ⟨by first | omega | (simp only [Option.getD_none, Option.getD_some]; omega) | (simp; done) | (simp; omega), ?_⟩; conv => whnf)
    first | exact .inl rfl | exact .inr rfl
  conv => whnf
  repeat (refine ⟨by first | omega | (simp only [Option.getD_none, Option.getD_some]; omega) | (simp; done) | (simp; omega), ?_⟩; conv => whnf)
  first | refine .inl ⟨_, h, ?_⟩ | refine .inl (.inl ⟨_, h, ?_⟩)
  conv => whnf
  repeat (refine ⟨by first | omega | (simp only [Option.getD_none, Option.getD_some]; omega) | (simp; done) | (simp; omega), ?_⟩; conv => whnf)
  rw [show ownB 1 10 op = ownB 1 8 op from decide_eq_decide.2 (by omega)]
  first | exact .inl rfl | exact .inr rfl
theorem s_shown08 : Spec Tryz.prog 15 [] (vB true) := by
  have hfl : FL (newF 1 9).1 (1 :: up 8 2) := by
    have h : FL (newF ((1 : Nat) : Int) ((9 : Nat) : Int)).1 (up 9 1) := FL.filled (by decide) (by decide)
    exact h
  have hnew := s_refNewF 1 9 (by decide) (by decide) (by decide) (by decide)
  have hmk := s_mMakeFL (newF 1 9) 2 1 (up 8 2) hfl (by decide) (by decide)
  rw [show (mkM (newF 1 9).1 2 1, (newF 1 9).2) = sh8 0 from rfl] at hmk
  obtain ⟨N0, hN0⟩ : ∃ N0, newF 1 9 = N0 := ⟨_, rfl⟩
  rw [hN0] at hnew hmk
  have hfin := sh8_fin
  obtain ⟨F, hF⟩ : ∃ F : Nat → Sy, ∀ i, F i = sh8 i := ⟨_, fun _ => rfl⟩
  obtain ⟨G, hG⟩ : ∃ G : Nat → Nat → Sy, ∀ i k, G i k = it8 0 (callS (F i) 0 9 2 ((i + 1 : Nat) : Int) 0) k := ⟨_, fun _ _ => rfl⟩
  obtain ⟨X, hX⟩ : ∃ X : Nat → Sy, ∀ k, X k = it8 0 (callS (F 2) 0 10 2 0 0) k := ⟨_, fun _ => rfl⟩
  rw [← hF 0] at hmk
  have hFf : ∀ i, i ≤ 2 → Fin 1000 (F i) := fun i hi => by rw [hF]; exact (sh8_fin i).more (by omega)
  have hG0 : ∀ i : Nat, G i 0 = callS (F i) 0 9 2 ((i + 1 : Nat) : Int) 0 := fun i => hG i 0
  have hGs : ∀ i k, G i (k + 1) = msqS (G i k) 0 := fun i k => by rw [hG, hG]; rfl
  have hG30 : ∀ i, G i 30 = F (i + 1) := fun i => by rw [hG, hF, hF]; rfl
  have hGf : ∀ i k, i ≤ 2 → k ≤ 30 → Fin 2000 (G i k) := fun i k hi hk => by rw [hG]; exact (it8_fin (hFf i hi).callS k).more (by omega)
  have hX0 : X 0 = callS (F 2) 0 10 2 0 0 := hX 0
  have hXs : ∀ k, X (k + 1) = msqS (X k) 0 := fun k => by rw [hX, hX]; rfl
  have hXf : ∀ k, k ≤ 30 → Fin 2000 (X k) := fun k hk => by rw [hX]; exact (it8_fin (hFf 2 (Nat.le_refl _)).callS k).more (by omega)
  have hend := end8_is
  rw [show end8 30 = X 30 from by rw [hX, hF]; rfl] at hend
  obtain ⟨e1, e2, e3, e4, e5, e6, e7, e8, e9⟩ := hend
  clear hX hG hF hfin hfl hN0
  refine spec_introF true tab_ok 0 Tryz.func15 rfl (by kernel_rfl) rfl ?_
  conv => whnf
  first | refine .inr (.inl ⟨_, hnew, ?_⟩) | refine .inl (.inr (.inl ⟨_, hnew, ?_⟩))
  conv => whnf
  repeat (refine ⟨by first | omega | (simp only [Option.getD_none, Option.getD_some]; omega) | (simp; done) | (simp; omega), ?_⟩; conv => whnf)
  first | refine .inr (.inl ⟨_, hmk, ?_⟩) | refine .inl (.inr (.inl ⟨_, hmk, ?_⟩))
  conv => whnf
  repeat (refine ⟨by first | omega | (simp only [Option.getD_none, Option.getD_some]; omega) | (simp; done) | (simp; omega), ?_⟩; conv => whnf)
  refine ⟨[], [0, 1, 2, 3], [1], ?_⟩
  apply Exists.intro
  conv => whnf
  refine loopK (fun i : Nat => 2 - i) (fun i => i ≤ 2) (fun i => ⟨lay 102 0 [(0, vB false), (1, pB 1), (2, vI 0), (3, vI ((i + 1 : Nat) : Int))], [(1, .cells ySys (cS (F i)))], []⟩) ?_ 0 rfl rfl (by decide)
  intro i ih hi hih
  conv => whnf
  refine dcase (fun h => ?_) (fun h => ?_)
  · have hi2 : i ≤ 1 := by
      replace h : ((i + 1 : Nat) : Int) ≤ 2 := h
      omega
    have h6 := hih (i + 1) (by omega) (by omega)
    rw [← hG30] at h6
    conv => whnf
    first | refine .inr (.inl ⟨_, s_refCall (F i) 0 9 2 ((i + 1 : Nat) : Int) 0 (Nat.le_trans (hFf i hi).cores (by decide)), ?_⟩) | refine .inl (.inr (.inl ⟨_, s_refCall (F i) 0 9 2 ((i + 1 : Nat) : Int) 0 (Nat.le_trans (hFf i hi).cores (by decide)), ?_⟩))
    conv => whnf
    repeat (refine ⟨by first | omega | (simp only [Option.getD_none, Option.getD_some]; omega) | (simp; done) | (simp; omega), ?_⟩; conv => whnf)
    rw [← hG0 i]
    conv => whnf
    refine ⟨[], [0, 1, 2, 3, 4], [1], ?_⟩
    apply Exists.intro
    conv => whnf
    refine loopK (fun k : Nat => 30 - k) (fun k => k ≤ 30) (fun k => ⟨lay 102 0 [(0, vB false), (1, pB 1), (2, vI 0), (3, vI ((i + 1 : Nat) : Int)), (4, vI k)], [(1, .cells ySys (cS (G i k)))], []⟩) ?_ 0 rfl rfl (by decide)
    intro k ih2 hk hih2
    conv => whnf
    refine dcase (fun h => ?_) (fun h => ?_)
    · have hk2 : k < 30 := by
        replace h : (k : Int) < 30 := h
        omega
      have h7 := hih2 (k + 1) (by omega) (by omega)
      rw [hGs i k] at h7
      conv => whnf
      first | refine .inr (.inl ⟨_, s_mStep8 (G i k) 0 (hGf i k hi hk) (by decide), ?_⟩) | refine .inl (.inr (.inl ⟨_, s_mStep8 (G i k) 0 (hGf i k hi hk) (by decide), ?_⟩))
      conv => whnf
      repeat (refine ⟨by first | omega | (simp only [Option.getD_none, Option.getD_some]; omega) | (simp; done) | (simp; omega), ?_⟩; conv => whnf)
      intro z hz
      replace hz : z = ((k + 1 : Nat) : Int) := by rw [IntWalk.wrap64_in _ (by omega)] at hz; omega
      subst hz
      conv => whnf
      exact h7
    · have hk2 : k = 30 := by
        replace h : ¬ (k : Int) < 30 := h
        omega
      subst hk2
      conv => whnf
      intro z hz
      replace hz : z = ((i + 1 + 1 : Nat) : Int) := by rw [IntWalk.wrap64_in _ (by omega)] at hz; omega
      subst hz
      conv => whnf
      exact h6
  have hi2 : i = 2 := by
    replace h : ¬ ((i + 1 : Nat) : Int) ≤ 2 := h
    omega
  subst hi2
  conv => whnf
  first | refine .inr (.inl ⟨_, s_refCall (F 2) 0 10 2 0 0 (Nat.le_trans (hFf 2 hi).cores (by decide)), ?_⟩) | refine .inl (.inr (.inl ⟨_, s_refCall (F 2) 0 10 2 0 0 (Nat.le_trans (hFf 2 hi).cores (by decide)), ?_⟩))
  conv => whnf
  repeat (refine ⟨by first | omega | (simp only [Option.getD_none, Option.getD_some]; omega) | (simp; done) | (simp; omega), ?_⟩; conv => whnf)
  rw [← hX0]
  conv => whnf
  refine ⟨[], [0, 1, 2, 5], [1], ?_⟩
  apply Exists.intro
  conv => whnf
  refine loopK (fun k : Nat => 30 - k) (fun k => k ≤ 30) (fun k => ⟨lay 102 0 [(0, vB false), (1, pB 1), (2, vI 0), (5, vI k)], [(1, .cells ySys (cS (X k)))], []⟩) ?_ 0 rfl rfl (by decide)
  intro k ih2 hk hih2
  conv => whnf
  refine dcase (fun h => ?_) (fun h => ?_)
  · have hk2 : k < 30 := by
      replace h : (k : Int) < 30 := h
      omega
    have h7 := hih2 (k + 1) (by omega) (by omega)
    rw [hXs k] at h7
    conv => whnf
    first | refine .inr (.inl ⟨_, s_mStep8 (X k) 0 (hXf k hk) (by decide), ?_⟩) | refine .inl (.inr (.inl ⟨_, s_mStep8 (X k) 0 (hXf k hk) (by decide), ?_⟩))
    conv => whnf
    repeat (refine ⟨by first | omega | (simp only [Option.getD_none, Option.getD_some]; omega) | (simp; done) | (simp; omega), ?_⟩; conv => whnf)
    intro z hz
    replace hz : z = ((k + 1 : Nat) : Int) := by rw [IntWalk.wrap64_in _ (by omega)] at hz; omega
    subst hz
    conv => whnf
    exact h7
  have hk2 : k = 30 := by
    replace h : ¬ (k : Int) < 30 := h
    omega
  subst hk2
  have hit := s_mItems (X 30) 2 (by decide) (by decide) (by rw [e8]; decide) (by rw [e8]; decide) (by rw [e8, e9])
  rw [e3] at hit
  conv => whnf
  first | refine .inr (.inl ⟨_, hit, ?_⟩) | refine .inl (.inr (.inl ⟨_, hit, ?_⟩))
  conv => whnf
  repeat (refine ⟨by first | omega | (simp only [Option.getD_none, Option.getD_some]; omega) | (simp; done) | (simp; omega), ?_⟩; conv => whnf)
  have hlt : (0 : Int) ≤ 0 ∧ (0 : Int) < ((X 30).2.1.length : Int) := by rw [e1]; decide
  have g1 : ((X 30).2.1.length : Int) = 1 := by rw [e1]; rfl
  have g2 : ((cAt (X 30).2.1 0).1.length : Int) = 0 := by rw [e2]; rfl
  rw [g1]
  conv => whnf
  refine ⟨hlt, ?_⟩
  conv => whnf
  refine dcase (fun h => absurd (show (0 : Int) < ((cAt (X 30).2.1 0).1.length : Int) from h) (by rw [g2]; decide)) (fun _ => ?_)
  conv => whnf
  repeat (refine ⟨by first | omega | (simp only [Option.getD_none, Option.getD_some]; omega) | (simp; done) | (simp; omega), ?_⟩; conv => whnf)
  have hin := s_refInts [2] [2] (by decide)
  rw [show sameB ([2] : Li) [2] = true from by decide] at hin
  first | refine .inr (.inl ⟨_, hin, ?_⟩) | refine .inl (.inr (.inl ⟨_, hin, ?_⟩))
  conv => whnf
  repeat (refine ⟨by first | omega | (simp only [Option.getD_none, Option.getD_some]; omega) | (simp; done) | (simp; omega), ?_⟩; conv => whnf)
  refine dcase (fun _ => ?_) (fun h => absurd (show cV (X 30) 0 = 1 from e4) h)
  conv => whnf
  repeat (refine ⟨by first | omega | (simp only [Option.getD_none, Option.getD_some]; omega) | (simp; done) | (simp; omega), ?_⟩; conv => whnf)
  refine dcase (fun _ => ?_) (fun h => absurd (show cE (X 30) 0 = 0 from e5) h)
  conv => whnf
  repeat (refine ⟨by first | omega | (simp only [Option.getD_none, Option.getD_some]; omega) | (simp; done) | (simp; omega), ?_⟩; conv => whnf)
  refine dcase (fun _ => ?_) (fun h => absurd (show ((X 30).2.2.1.length : Int) = 3 by rw [e6]; rfl) h)
  conv => whnf
  repeat (refine ⟨by first | omega | (simp only [Option.getD_none, Option.getD_some]; omega) | (simp; done) | (simp; omega), ?_⟩; conv => whnf)
  first | refine .inl ⟨_, s_mSpot8 2 (by decide) (by decide), ?_⟩ | refine .inl (.inl ⟨_, s_mSpot8 2 (by decide) (by decide), ?_⟩)
  conv => whnf
  repeat (refine ⟨by first | omega | (simp only [Option.getD_none, Option.getD_some]; omega) | (simp; done) | (simp; omega), ?_⟩; conv => whnf)
  first | refine .inl ⟨_, s_msqOwn8 10, ?_⟩ | refine .inl (.inl ⟨_, s_msqOwn8 10, ?_⟩)
  conv => whnf
  repeat (refine ⟨by first | omega | (simp only [Option.getD_none, Option.getD_some]; omega) | (simp; done) | (simp; omega), ?_⟩; conv => whnf)
  first | refine .inl ⟨_, s_msqOwn8 11, ?_⟩ | refine .inl (.inl ⟨_, s_msqOwn8 11, ?_⟩)
  conv => whnf
  repeat (refine ⟨by first | omega | (simp only [Option.getD_none, Option.getD_some]; omega) | (simp; done) | (simp; omega), ?_⟩; conv => whnf)
  rw [e7]
  conv => whnf
  repeat (refine ⟨by first | omega | (simp only [Option.getD_none, Option.getD_some]; omega) | (simp; done) | (simp; omega), ?_⟩; conv => whnf)
  first | exact .inl rfl | exact .inr rfl
end Go.Proofs.YtpobngddiifdpaaGreat.V
