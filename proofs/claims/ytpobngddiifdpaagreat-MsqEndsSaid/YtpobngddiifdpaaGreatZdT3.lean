/- Queues: the example; what begins. -/
import Derived.Test.YtpobngddiifdpaaGreatZdQ6
import Derived.Test.YtpobngddiifdpaaGreatZdQ7
import Derived.Test.YtpobngddiifdpaaGreatZdT0
set_option linter.unusedSimpArgs false
set_option linter.unusedVariables false
namespace Go.Proofs.YtpobngddiifdpaaGreat.V
open Go Go.RowKit Go.Proofs.YtpobngddiifdpaaGreat.Hz
set_option maxRecDepth 100000

/-- So many steps of core k. -/
def it8 (k : Int) (s : Sy) : Nat → Sy
  | 0 => s
  | j + 1 => msqS (it8 k s j) k
theorem it8_fin {N : Nat} {k : Int} {s : Sy} (h : Fin N s) : ∀ j, Fin (N + j) (it8 k s j)
  | 0 => h
  | j + 1 => msqS_fin (it8_fin h j)
def sh8 : Nat → Sy
  | 0 => (mkM (newF 1 9).1 2 1, (newF 1 9).2)
  | i + 1 => it8 0 (callS (sh8 i) 0 9 2 ((i + 1 : Nat) : Int) 0) 30
def end8 (j : Nat) : Sy := it8 0 (callS (sh8 2) 0 10 2 0 0) j
theorem mkM_fits {m : Me} {q p : Int} (h : Fits m) : Fits (mkM m q p) := by
  unfold mkM
  refine setW_fits (setW_fits (setW_fits ?_))
  have e1 : (popM m p).1.length = m.1.length := List.length_set
  have e2 : (popM m p).2.1.length = m.2.1.length := List.length_set
  unfold Fits at h ⊢
  rw [e1, e2]
  exact h
theorem sh8_fin : ∀ i, Fin (30 * i) (sh8 i)
  | 0 => (newF_fin (c := 1) (n := 9) (by decide) (by decide) (by decide)).mem (mkM_fits (newF_fin (c := 1) (n := 9) (by decide) (by decide) (by decide)).fits)
  | i + 1 => it8_fin (sh8_fin i).callS 30
theorem end8_is : (end8 30).2.1.length = 1 ∧ (cAt (end8 30).2.1 0).1.length = 0 ∧ itemsI (end8 30).1 2 = some [2] ∧ cV (end8 30) 0 = 1 ∧ cE (end8 30) 0 = 0 ∧ (end8 30).2.2.1.length = 3 ∧ (end8 30).1.2.2.1 = false ∧ (end8 30).1.2.1.length = 10 ∧ (end8 30).1.1.length = 164 := by decide +kernel
theorem s_msqOwn8 (op : Int) : Spec Tryz.prog 23 [vI op] (vB (ownB 1 10 op)) := by
  have h := s_allocOwn op
  refine spec_introF true tab_ok 0 Tryz.func23 rfl (by kernel_rfl) rfl ?_
  conv => whnf
  refine dcase (fun h1 => ?_) (fun h1 => ?_)
  · rw [show ownB 1 10 op = true from decide_eq_true (by omega)]
    conv => whnf
    repeat (refine ⟨by first | omega | (simp only [Option.getD_none, Option.getD_some]; omega) | (simp; done) | (simp; omega), ?_⟩; conv => whnf)
    first | exact .inl rfl | exact .inr rfl
  conv => whnf
  repeat (refine ⟨by first | omega | (simp only [Option.getD_none, Option.getD_some]; omega) | (simp; done) | (simp; omega), ?_⟩; conv => whnf)
  refine dcase (fun h2 => ?_) (fun h2 => ?_)
  · rw [show ownB 1 10 op = true from decide_eq_true (by omega)]
    conv => whnf
    repeat (refine ⟨by first | omega | (simp only [Option.getD_none, Option.getD_some]; omega) | (simp; done) | (simp; omega), ?_⟩; conv => whnf)
    first | exact .inl rfl | exact .inr rfl
  conv => whnf
  repeat (refine ⟨by first | omega | (simp only [Option.getD_none, Option.getD_some]; omega) | (simp; done) | (simp; omega), ?_⟩; conv => whnf)
  first | refine .inl ⟨_, h, ?_⟩ | refine .inl (.inl ⟨_, h, ?_⟩)
  conv => whnf
  repeat (refine ⟨by first | omega | (simp only [Option.getD_none, Option.getD_some]; omega) | (simp; done) | (simp; omega), ?_⟩; conv => whnf)
  rw [show ownB 1 10 op = ownB 1 8 op from decide_eq_decide.2 (by omega)]
  first | exact .inl rfl | exact .inr rfl
theorem s_shown08 : Spec Tryz.prog 15 [] (vB true) := by
  have hfl : FL (newF 1 9).1 (1 :: up 8 2) := by
    have h : FL (newF ((1 : Nat) : Int) ((9 : Nat) : Int)).1 (up 9 1) := FL.filled (by decide) (by decide)
    exact h
  have hnew := s_refNewF 1 9 (by decide) (by decide) (by decide) (by decide)
  have hmk := s_mMakeFL (newF 1 9) 2 1 (up 8 2) hfl (by decide) (by decide)
  rw [show (mkM (newF 1 9).1 2 1, (newF 1 9).2) = sh8 0 from rfl] at hmk
  obtain ⟨N0, hN0⟩ : ∃ N0, newF 1 9 = N0 := ⟨_, rfl⟩
  rw [hN0] at hnew hmk
  have hfin := sh8_fin
  obtain ⟨F, hF⟩ : ∃ F : Nat → Sy, ∀ i, F i = sh8 i := ⟨_, fun _ => rfl⟩
  obtain ⟨G, hG⟩ : ∃ G : Nat → Nat → Sy, ∀ i k, G i k = it8 0 (callS (F i) 0 9 2 ((i + 1 : Nat) : Int) 0) k := ⟨_, fun _ _ => rfl⟩
  obtain ⟨X, hX⟩ : ∃ X : Nat → Sy, ∀ k, X k = it8 0 (callS (F 2) 0 10 2 0 0) k := ⟨_, fun _ => rfl⟩
  rw [← hF 0] at hmk
  have hFf : ∀ i, i ≤ 2 → Fin 1000 (F i) := fun i hi => by rw [hF]; exact (sh8_fin i).more (by omega)
  have hG0 : ∀ i : Nat, G i 0 = callS (F i) 0 9 2 ((i + 1 : Nat) : Int) 0 := fun i => hG i 0
  have hGs : ∀ i k, G i (k + 1) = msqS (G i k) 0 := fun i k => by rw [hG, hG]; rfl
  have hG30 : ∀ i, G i 30 = F (i + 1) := fun i => by rw [hG, hF, hF]; rfl
  have hGf : ∀ i k, i ≤ 2 → k ≤ 30 → Fin 2000 (G i k) := fun i k hi hk => by rw [hG]; exact (it8_fin (hFf i hi).callS k).more (by omega)
  have hX0 : X 0 = callS (F 2) 0 10 2 0 0 := hX 0
  have hXs : ∀ k, X (k + 1) = msqS (X k) 0 := fun k => by rw [hX, hX]; rfl
  have hXf : ∀ k, k ≤ 30 → Fin 2000 (X k) := fun k hk => by rw [hX]; exact (it8_fin (hFf 2 (Nat.le_refl _)).callS k).more (by omega)
  have hend := end8_is
  rw [show end8 30 = X 30 from by rw [hX, hF]; rfl] at hend
  obtain ⟨e1, e2, e3, e4, e5, e6, e7, e8, e9⟩ := hend
  clear hX hG hF hfin hfl hN0
  refine spec_introF true tab_ok 0 Tryz.func15 rfl (by kernel_rfl) rfl ?_
  conv => whnf
  first | refine .inr (.inl ⟨_, hnew, ?_⟩) | refine .inl (.inr (.inl ⟨_, hnew, ?_⟩))
  conv => whnf
  repeat (refine ⟨by first | omega | (simp only [Option.getD_none, Option.getD_some]; omega) | (simp; done) | (simp; omega), ?_⟩; conv => whnf)
  first | refine .inr (.inl ⟨_, hmk, ?_⟩) | refine .inl (.inr (.inl ⟨_, hmk, ?_⟩))
  conv => whnf
  repeat (refine ⟨by first | omega | (simp only [Option.getD_none, Option.getD_some]; omega) | (simp; done) | (simp; omega), ?_⟩; conv => whnf)
  refine ⟨[], [0, 1, 2, 3], [1], ?_⟩
  apply Exists.intro
  conv => whnf
  refine loopK (fun i : Nat => 2 - i) (fun i => i ≤ 2) (fun i => ⟨lay 102 0 [(0, vB false), (1, pB 1), (2, vI 0), (3, vI ((i + 1 : Nat) : Int))], [(1, .cells ySys (cS (F i)))], []⟩) ?_ 0 rfl rfl (by decide)
  intro i ih hi hih
  conv => whnf
  refine dcase (fun h => ?_) (fun h => ?_)
  · have hi2 : i ≤ 1 := by
      replace h : ((i + 1 : Nat) : Int) ≤ 2 := h
      omega
    have h6 := hih (i + 1) (by omega) (by omega)
    rw [← hG30] at h6
    conv => whnf
    first | refine .inr (.inl ⟨_, s_refCall (F i) 0 9 2 ((i + 1 : Nat) : Int) 0 (Nat.le_trans (hFf i hi).cores (by decide)), ?_⟩) | refine .inl (.inr (.inl ⟨_, s_refCall (F i) 0 9 2 ((i + 1 : Nat) : Int) 0 (Nat.le_trans (hFf i hi).cores (by decide)), ?_⟩))
    conv => whnf
    repeat (refine ⟨by first | omega | (simp only [Option.getD_none, Option.getD_some]; omega) | (simp; done) | (simp; omega), ?_⟩; conv => whnf)
    rw [← hG0 i]
    conv => whnf
    refine ⟨[], [0, 1, 2, 3, 4], [1], ?_⟩
    apply Exists.intro
    conv => whnf
    refine loopK (fun k : Nat => 30 - k) (fun k => k ≤ 30) (fun k => ⟨lay 102 0 [(0, vB false), (1, pB 1), (2, vI 0), (3, vI ((i + 1 : Nat) : Int)), (4, vI k)], [(1, .cells ySys (cS (G i k)))], []⟩) ?_ 0 rfl rfl (by decide)
    intro k ih2 hk hih2
    conv => whnf
    refine dcase (fun h => ?_) (fun h => ?_)
    · have hk2 : k < 30 := by
        replace h : (k : Int) < 30 := h
        omega
      have h7 := hih2 (k + 1) (by omega) (by omega)
      rw [hGs i k] at h7
      conv => whnf
      first | refine .inr (.inl ⟨_, s_mStep8 (G i k) 0 (hGf i k hi hk) (by decide), ?_⟩) | refine .inl (.inr (.inl ⟨_, s_mStep8 (G i k) 0 (hGf i k hi hk) (by decide), ?_⟩))
      conv => whnf
      repeat (refine ⟨by first | omega | (simp only [Option.getD_none, Option.getD_some]; omega) | (simp; done) | (simp; omega), ?_⟩; conv => whnf)
      intro z hz
      replace hz : z = ((k + 1 : Nat) : Int) := by rw [IntWalk.wrap64_in _ (by omega)] at hz; omega
      subst hz
      conv => whnf
      exact h7
    · have hk2 : k = 30 := by
        replace h : ¬ (k : Int) < 30 := h
        omega
      subst hk2
      conv => whnf
      intro z hz
      replace hz : z = ((i + 1 + 1 : Nat) : Int) := by rw [IntWalk.wrap64_in _ (by omega)] at hz; omega
      subst hz
      conv => whnf
      exact h6
  have hi2 : i = 2 := by
    replace h : ¬ ((i + 1 : Nat) : Int) ≤ 2 := h
    omega
  subst hi2
  conv => whnf
  first | refine .inr (.inl ⟨_, s_refCall (F 2) 0 10 2 0 0 (Nat.le_trans (hFf 2 hi).cores (by decide)), ?_⟩) | refine .inl (.inr (.inl ⟨_, s_refCall (F 2) 0 10 2 0 0 (Nat.le_trans (hFf 2 hi).cores (by decide)), ?_⟩))
  conv => whnf
  repeat (refine ⟨by first | omega | (simp only [Option.getD_none, Option.getD_some]; omega) | (simp; done) | (simp; omega), ?_⟩; conv => whnf)
  rw [← hX0]
  conv => whnf
  refine ⟨[], [0, 1, 2, 5], [1], ?_⟩
  apply Exists.intro
  conv => whnf
  refine loopK (fun k : Nat => 30 - k) (fun k => k ≤ 30) (fun k => ⟨lay 102 0 [(0, vB false), (1, pB 1), (2, vI 0), (5, vI k)], [(1, .cells ySys (cS (X k)))], []⟩) ?_ 0 rfl rfl (by decide)
  intro k ih2 hk hih2
  conv => whnf
  refine dcase (fun h => ?_) (fun h => ?_)
  · have hk2 : k < 30 := by
      replace h : (k : Int) < 30 := h
      omega
    have h7 := hih2 (k + 1) (by omega) (by omega)
    rw [hXs k] at h7
    conv => whnf
    first | refine .inr (.inl ⟨_, s_mStep8 (X k) 0 (hXf k hk) (by decide), ?_⟩) | refine .inl (.inr (.inl ⟨_, s_mStep8 (X k) 0 (hXf k hk) (by decide), ?_⟩))
    conv => whnf
    repeat (refine ⟨by first | omega | (simp only [Option.getD_none, Option.getD_some]; omega) | (simp; done) | (simp; omega), ?_⟩; conv => whnf)
    intro z hz
    replace hz : z = ((k + 1 : Nat) : Int) := by rw [IntWalk.wrap64_in _ (by omega)] at hz; omega
    subst hz
    conv => whnf
    exact h7
  have hk2 : k = 30 := by
    replace h : ¬ (k : Int) < 30 := h
    omega
  subst hk2
  have hit := s_mItems (X 30) 2 (by decide) (by decide) (by rw [e8]; decide) (by rw [e8]; decide) (by rw [e8, e9])
  rw [e3] at hit
  conv => whnf
  first | refine .inr (.inl ⟨_, hit, ?_⟩) | refine .inl (.inr (.inl ⟨_, hit, ?_⟩))
  conv => whnf
  repeat (refine ⟨by first | omega | (simp only [Option.getD_none, Option.getD_some]; omega) | (simp; done) | (simp; omega), ?_⟩; conv => whnf)
  have hlt : (0 : Int) ≤ 0 ∧ (0 : Int) < ((X 30).2.1.length : Int) := by rw [e1]; decide
  have g1 : ((X 30).2.1.length : Int) = 1 := by rw [e1]; rfl
  have g2 : ((cAt (X 30).2.1 0).1.length : Int) = 0 := by rw [e2]; rfl
  rw [g1]
  conv => whnf
  refine ⟨hlt, ?_⟩
  conv => whnf
  refine dcase (fun h => absurd (show (0 : Int) < ((cAt (X 30).2.1 0).1.length : Int) from h) (by rw [g2]; decide)) (fun _ => ?_)
  conv => whnf
  repeat (refine ⟨by first | omega | (simp only [Option.getD_none, Option.getD_some]; omega) | (simp; done) | (simp; omega), ?_⟩; conv => whnf)
  have hin := s_refInts [2] [2] (by decide)
  rw [show sameB ([2] : Li) [2] = true from by decide] at hin
  first | refine .inr (.inl ⟨_, hin, ?_⟩) | refine .inl (.inr (.inl ⟨_, hin, ?_⟩))
  conv => whnf
  repeat (refine ⟨by first | omega | (simp only [Option.getD_none, Option.getD_some]; omega) | (simp; done) | (simp; omega), ?_⟩; conv => whnf)
  refine dcase (fun _ => ?_) (fun h => absurd (show cV (X 30) 0 = 1 from e4) h)
  conv => whnf
  repeat (refine ⟨by first | omega | (simp only [Option.getD_none, Option.getD_some]; omega) | (simp; done) | (simp; omega), ?_⟩; conv => whnf)
  refine dcase (fun _ => ?_) (fun h => absurd (show cE (X 30) 0 = 0 from e5) h)
  conv => whnf
  repeat (refine ⟨by first | omega | (simp only [Option.getD_none, Option.getD_some]; omega) | (simp; done) | (simp; omega), ?_⟩; conv => whnf)
  refine dcase (fun _ => ?_) (fun h => absurd (show ((X 30).2.2.1.length : Int) = 3 by rw [e6]; rfl) h)
  conv => whnf
  repeat (refine ⟨by first | omega | (simp only [Option.getD_none, Option.getD_some]; omega) | (simp; done) | (simp; omega), ?_⟩; conv => whnf)
  first | refine .inl ⟨_, s_mSpot8 2 (by decide) (by decide), ?_⟩ | refine .inl (.inl ⟨_, s_mSpot8 2 (by decide) (by decide), ?_⟩)
  conv => whnf
  repeat (refine ⟨by first | omega | (simp only [Option.getD_none, Option.getD_some]; omega) | (simp; done) | (simp; omega), ?_⟩; conv => whnf)
  first | refine .inl ⟨_, s_msqOwn8 10, ?_⟩ | refine .inl (.inl ⟨_, s_msqOwn8 10, ?_⟩)
  conv => whnf
  repeat (refine ⟨by first | omega | (simp only [Option.getD_none, Option.getD_some]; omega) | (simp; done) | (simp; omega), ?_⟩; conv => whnf)
  first | refine .inl ⟨_, s_msqOwn8 11, ?_⟩ | refine .inl (.inl ⟨_, s_msqOwn8 11, ?_⟩)
  conv => whnf
  repeat (refine ⟨by first | omega | (simp only [Option.getD_none, Option.getD_some]; omega) | (simp; done) | (simp; omega), ?_⟩; conv => whnf)
  rw [e7]
  conv => whnf
  repeat (refine ⟨by first | omega | (simp only [Option.getD_none, Option.getD_some]; omega) | (simp; done) | (simp; omega), ?_⟩; conv => whnf)
  first | exact .inl rfl | exact .inr rfl
end Go.Proofs.YtpobngddiifdpaaGreat.V

set_option linter.unusedSimpArgs false
set_option linter.unusedVariables false
namespace Go.Proofs.YtpobngddiifdpaaGreat.V
open Go Go.RowKit Go.Proofs.YtpobngddiifdpaaGreat.Hz
set_option maxRecDepth 100000

theorem newQ_lens {c n : Nat} (h1 : 2 ≤ n) (h2 : n ≤ 200) : (newQ (c : Int) (n : Int)).2.1.length = c ∧ (newQ (c : Int) (n : Int)).1.2.1.length = n + 1 ∧ (newQ (c : Int) (n : Int)).1.1.length = 128 + 4 * n := by
  obtain ⟨l, _, _, _, h3, h4⟩ := newQ_is (c := c) h1 h2
  have h5 := h3.fits.1
  refine ⟨?_, h4, by omega⟩
  show (List.replicate (c : Int).toNat _).length = c
  rw [List.length_replicate, Int.toNat_natCast]
theorem newQ_fin {c n : Nat} (h1 : 2 ≤ n) (h2 : n ≤ 200) (hc : c ≤ 8) : Fin 0 (newQ (c : Int) (n : Int)) := by
  obtain ⟨l, _, _, _, h3, _⟩ := newQ_is (c := c) h1 h2
  exact (newF_fin (c := (c : Int)) (n := (n : Int)) (by omega) (by omega) (by omega)).mem h3.fits
theorem s_start8 (c n : Nat) (h1 : 2 ≤ n) (h2 : n ≤ 200) (c1 : 1 ≤ c) (c8 : c ≤ 8) : Spec Tryz.prog 29 [vI c, vI n] (.tup [(true, cS (newQ (c : Int) (n : Int))), (false, [.bool true])]) := by
  obtain ⟨l, hl, hfl0, hfl1, _, _⟩ := newQ_is (c := c) h1 h2
  obtain ⟨hC, hG, hW⟩ := newQ_lens (c := c) h1 h2
  have hnew := s_refNewF c n (by omega) (by omega) (by omega) (by omega)
  have hm1 := s_mMakeFL (newF (c : Int) (n : Int)) 0 1 (2 :: l) hfl0 (by decide) (by decide)
  have hm2 := s_mMakeFL (mkM (newF (c : Int) (n : Int)).1 0 1, (newF (c : Int) (n : Int)).2) 1 2 l hfl1 (by decide) (by decide)
  rw [show (mkM (mkM (newF (c : Int) (n : Int)).1 0 1, (newF (c : Int) (n : Int)).2).1 1 2, (mkM (newF (c : Int) (n : Int)).1 0 1, (newF (c : Int) (n : Int)).2).2) = newQ (c : Int) (n : Int) from rfl] at hm2
  obtain ⟨S2, hS2⟩ : ∃ S2, newQ (c : Int) (n : Int) = S2 := ⟨_, rfl⟩
  obtain ⟨S1, hS1⟩ : ∃ S1, (mkM (newF (c : Int) (n : Int)).1 0 1, (newF (c : Int) (n : Int)).2) = S1 := ⟨_, rfl⟩
  obtain ⟨S0, hS0⟩ : ∃ S0, newF (c : Int) (n : Int) = S0 := ⟨_, rfl⟩
  rw [hS1] at hm1 hm2
  rw [hS0] at hnew hm1
  rw [hS2] at hm2 hC hG hW ⊢
  clear hS0 hS1 hS2 hfl0 hfl1 hl
  have e1 : (S2.2.1.length : Int) = (c : Int) := by omega
  have e2 : (S2.1.2.1.length : Int) = (n : Int) + 1 := by omega
  have e3 : (S2.1.1.length : Int) = 128 + 4 * (n : Int) := by omega
  refine spec_introF true tab_ok 0 Tryz.func29 rfl (by kernel_rfl) rfl ?_
  conv => whnf
  first | refine .inr (.inl ⟨_, hnew, ?_⟩) | refine .inl (.inr (.inl ⟨_, hnew, ?_⟩))
  conv => whnf
  repeat (refine ⟨by first | omega | (simp only [Option.getD_none, Option.getD_some]; omega) | (simp; done) | (simp; omega), ?_⟩; conv => whnf)
  first | refine .inr (.inl ⟨_, hm1, ?_⟩) | refine .inl (.inr (.inl ⟨_, hm1, ?_⟩))
  conv => whnf
  repeat (refine ⟨by first | omega | (simp only [Option.getD_none, Option.getD_some]; omega) | (simp; done) | (simp; omega), ?_⟩; conv => whnf)
  first | refine .inr (.inl ⟨_, hm2, ?_⟩) | refine .inl (.inr (.inl ⟨_, hm2, ?_⟩))
  conv => whnf
  repeat (refine ⟨by first | omega | (simp only [Option.getD_none, Option.getD_some]; omega) | (simp; done) | (simp; omega), ?_⟩; conv => whnf)
  refine ⟨p_hazellaw08_start_4, g_hazellaw08_start_4, by kernel_rfl, ?st1, ?_, ?_⟩
  rotate_left
  · conv => whnf
    rw [decide_eq_true e1]
    conv => whnf
    intro z hz
    replace hz : z = (n : Int) + 1 := by rw [IntWalk.wrap64_in _ (by omega)] at hz; omega
    subst hz
    conv => whnf
    intro z hz
    replace hz : z = (n : Int) + 1 := by rw [IntWalk.wrap64_in _ (by omega)] at hz; omega
    subst hz
    conv => whnf
    rw [decide_eq_true e2]
    conv => whnf
    intro z hz
    replace hz : z = 4 * (n : Int) := by rw [IntWalk.wrap64_in _ (by omega)] at hz; omega
    subst hz
    conv => whnf
    intro z hz
    replace hz : z = 4 * (n : Int) := by rw [IntWalk.wrap64_in _ (by omega)] at hz; omega
    subst hz
    conv => whnf
    intro z hz
    replace hz : z = 128 + 4 * (n : Int) := by rw [IntWalk.wrap64_in _ (by omega)] at hz; omega
    subst hz
    conv => whnf
    intro z hz
    replace hz : z = 128 + 4 * (n : Int) := by rw [IntWalk.wrap64_in _ (by omega)] at hz; omega
    subst hz
    conv => whnf
  rw [decide_eq_true e3]
  conv => whnf
  first | exact .inl rfl | exact .inr rfl
theorem vU16_d {x : Int} (h0 : 0 ≤ x) (h1 : x ≤ 65535) (d : Int) (hd : 0 < d) : IntKind.u16.wrap (x.tdiv d) = x / d := by
  rw [Int.tdiv_eq_ediv_of_nonneg h0]
  have h2 : 0 ≤ x / d := Int.ediv_nonneg h0 (by omega)
  have h3 : x / d ≤ x := Int.ediv_le_self _ h0
  simp only [IntKind.wrap, IntKind.bits, IntKind.signed]
  simp
  omega
/-- What a core begins by a pick. -/
def begS (s : Sy) (k x : Int) : Sy := if x / 16 % 2 = 1 then callS s k 9 (x / 8 % 2) (x / 32) 0 else callS s k 10 (x / 8 % 2) 0 0
theorem s_begin8 (s : Sy) (k x : Int) (x0 : 0 ≤ x) (x1 : x ≤ 65535) (hl : s.2.1.length ≤ 1000) : Spec Tryz.prog 31 [vS s, vI k, .one (.int .u16 x)] (vS (begS s k x)) := by
  obtain ⟨q, hq⟩ : ∃ q, x / 8 % 2 = q := ⟨_, rfl⟩
  obtain ⟨v, hv⟩ : ∃ v, x / 32 = v := ⟨_, rfl⟩
  have e8 : IntKind.u16.wrap (x.tdiv 8) = x / 8 := vU16_d x0 x1 8 (by decide)
  have e16 : IntKind.u16.wrap (x.tdiv 16) = x / 16 := vU16_d x0 x1 16 (by decide)
  have e32 : IntKind.u16.wrap (x.tdiv 32) = v := by rw [vU16_d x0 x1 32 (by decide)]; exact hv
  have hv2 : wrap64 v = v := IntWalk.wrap64_in _ (by omega)
  have h9 := s_refCall s k 9 q v 0 (Nat.le_trans hl (by decide))
  have h10 := s_refCall s k 10 q 0 0 (Nat.le_trans hl (by decide))
  rw [show begS s k x = (if x / 16 % 2 = 1 then callS s k 9 q v 0 else callS s k 10 q 0 0) from by unfold begS; rw [hq, hv]]
  refine spec_introF true tab_ok 0 Tryz.func31 rfl (by kernel_rfl) rfl ?_
  conv => whnf
  repeat (refine ⟨by first | omega | (simp only [Option.getD_none, Option.getD_some]; omega) | (simp; done) | (simp; omega), ?_⟩; conv => whnf)
  intro z hz
  replace hz : z = x / 8 := hz.trans e8
  conv => whnf
  repeat (refine ⟨by first | omega | (simp only [Option.getD_none, Option.getD_some]; omega) | (simp; done) | (simp; omega), ?_⟩; conv => whnf)
  intro z1 hz1
  replace hz1 : z1 = x / 8 := by rw [hz, IntWalk.wrap64_in _ (by omega)] at hz1; exact hz1
  subst hz hz1
  conv => whnf
  repeat (refine ⟨by first | omega | (simp only [Option.getD_none, Option.getD_some]; omega) | (simp; done) | (simp; omega), ?_⟩; conv => whnf)
  rw [show (x / 8).tmod 2 = q from (Int.tmod_eq_emod_of_nonneg (by omega)).trans hq]
  intro z2 hz2
  replace hz2 : z2 = x / 16 := hz2.trans e16
  subst hz2
  conv => whnf
  repeat (refine ⟨by first | omega | (simp only [Option.getD_none, Option.getD_some]; omega) | (simp; done) | (simp; omega), ?_⟩; conv => whnf)
  rw [show (x / 16).tmod 2 = x / 16 % 2 from Int.tmod_eq_emod_of_nonneg (by omega)]
  refine dcase (fun h => ?_) (fun h => ?_)
  · replace h : x / 16 % 2 = 1 := h
    rw [if_pos h]
    conv => whnf
    repeat (refine ⟨by first | omega | (simp only [Option.getD_none, Option.getD_some]; omega) | (simp; done) | (simp; omega), ?_⟩; conv => whnf)
    intro z hz
    replace hz : z = v := hz.trans e32
    subst hz
    conv => whnf
    repeat (refine ⟨by first | omega | (simp only [Option.getD_none, Option.getD_some]; omega) | (simp; done) | (simp; omega), ?_⟩; conv => whnf)
    intro z2 hz2
    replace hz2 : z2 = z := hz2.trans hv2
    subst hz2
    conv => whnf
    repeat (refine ⟨by first | omega | (simp only [Option.getD_none, Option.getD_some]; omega) | (simp; done) | (simp; omega), ?_⟩; conv => whnf)
    first | refine .inr (.inl ⟨_, h9, ?_⟩) | refine .inl (.inr (.inl ⟨_, h9, ?_⟩))
    conv => whnf
    repeat (refine ⟨by first | omega | (simp only [Option.getD_none, Option.getD_some]; omega) | (simp; done) | (simp; omega), ?_⟩; conv => whnf)
    first | exact .inl rfl | exact .inr rfl
  · replace h : ¬ x / 16 % 2 = 1 := h
    rw [if_neg h]
    conv => whnf
    repeat (refine ⟨by first | omega | (simp only [Option.getD_none, Option.getD_some]; omega) | (simp; done) | (simp; omega), ?_⟩; conv => whnf)
    first | refine .inr (.inl ⟨_, h10, ?_⟩) | refine .inl (.inr (.inl ⟨_, h10, ?_⟩))
    conv => whnf
    repeat (refine ⟨by first | omega | (simp only [Option.getD_none, Option.getD_some]; omega) | (simp; done) | (simp; omega), ?_⟩; conv => whnf)
    first | exact .inl rfl | exact .inr rfl
end Go.Proofs.YtpobngddiifdpaaGreat.V

set_option linter.unusedSimpArgs false
set_option linter.unusedVariables false
namespace Go.Proofs.YtpobngddiifdpaaGreat.V
open Go Go.RowKit Go.Proofs.YtpobngddiifdpaaGreat.Hz
set_option maxRecDepth 100000

/-- What a pick makes of a system: a core that is at nothing begins. -/
def goS (s : Sy) (k x : Int) : Sy := if topI s k = none then begS s k x else s
theorem begS_fin {N : Nat} {s : Sy} {k x : Int} (h : Fin N s) : Fin N (begS s k x) := by
  unfold begS
  split <;> exact h.callS
theorem goS_fin {N : Nat} {s : Sy} {k x : Int} (h : Fin N s) : Fin N (goS s k x) := by
  unfold goS
  split
  · exact begS_fin h
  · exact h
theorem MqI.go {T : Int} {o : OM} {s : Sy} {N : NQ} {k : Nat} (h : MqI T o s N) (hk : k < s.2.1.length) (x : Int) : MqI T o (goS s k x) N ∧ (cAt (goS s k x).2.1 k).1 ≠ [] ∧ (goS s k x).2.1.length = s.2.1.length ∧ (goS s k x).1 = s.1 ∧ (goS s k x).2.2 = s.2.2 := by
  have hC := h.mm.cores
  have htI := topI_is (s := s) (k := (k : Int)) (by omega) (by omega)
  unfold goS
  split
  · rename_i ht
    have hidle : (cAt s.2.1 k).1 = [] := by
      rw [ht] at htI
      exact List.getLast?_eq_none_iff.1 htI.symm
    have hq : IsQ (x / 8 % 2) := by unfold IsQ; omega
    unfold begS
    split
    · obtain ⟨a, b, c, d, e⟩ := h.begin (op := 9) (q := x / 8 % 2) (v := x / 32) hk hidle (.inl rfl) hq
      exact ⟨a, by rw [b]; simp, c, d, e⟩
    · obtain ⟨a, b, c, d, e⟩ := h.begin (op := 10) (q := x / 8 % 2) (v := 0) hk hidle (.inr rfl) hq
      exact ⟨a, by rw [b]; simp, c, d, e⟩
  · rename_i ht
    refine ⟨h, fun e => ht ?_, rfl, rfl, rfl⟩
    rw [htI]
    exact (congrArg List.getLast? e).trans rfl
end Go.Proofs.YtpobngddiifdpaaGreat.V
