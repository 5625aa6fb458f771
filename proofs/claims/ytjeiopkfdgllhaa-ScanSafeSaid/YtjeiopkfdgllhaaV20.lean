/- The example of layer 7's statements. -/
import Derived.Test.YtjeiopkfdgllhaaV19
set_option linter.unusedSimpArgs false
set_option linter.unusedVariables false
namespace Go.Proofs.Ytjeiopkfdgllhaa.V
open Go Go.RowKit Go.Proofs.Ytjeiopkfdgllhaa.Hz
set_option maxRecDepth 100000

/-- So many steps of core k. -/
def itS (k : Int) (s : Sy) : Nat → Sy
  | 0 => s
  | j + 1 => alS (itS k s j) k
theorem itS_fin {N : Nat} {k : Int} {s : Sy} (h : Fin N s) : ∀ j, Fin (N + j) (itS k s j)
  | 0 => h
  | j + 1 => alS_fin (itS_fin h j)
def sh7 : Nat → Sy
  | 0 => newF 1 2
  | i + 1 => itS 0 (callS (sh7 i) 0 7 0 0 0) 9
theorem dfl_fin (c : Int) (m : Me) (hm : Fits m) (hc : c.toNat ≤ 1000) : Fin 0 (m, List.replicate c.toNat (dflt tCore), ([] : List Evt), ()) := by
  refine ⟨hm, ?_, fun d hd => ?_, Nat.le_refl _⟩
  · show List.length (List.replicate _ _) ≤ 1000
    rw [List.length_replicate]; exact hc
  · rw [(List.mem_replicate.1 (show d ∈ List.replicate _ _ from hd)).2]
    exact dflt_finC
theorem fillM_fits {m : Me} (h : Fits m) : Fits (fillM m) := by
  unfold fillM
  refine storeM_fits ?_
  have := fillN_len m ((m.2.1.length : Int) - 1) (m.2.1.length - 1)
  unfold Fits at h ⊢
  omega
theorem newF_fin {c n : Int} (h1 : 1 ≤ n) (h2 : n ≤ 200) (hc : c ≤ 8) : Fin 0 (newF c n) := dfl_fin c _ (fillM_fits (newI_fits h1 h2).1) (by omega)
theorem sh7_fin : ∀ i, Fin (9 * i) (sh7 i)
  | 0 => newF_fin (by decide) (by decide) (by decide)
  | i + 1 => itS_fin (sh7_fin i).callS 9
theorem sh7_is : (∀ i : Nat, i < 3 → (sh7 (i + 1)).2.1.length = 1 ∧ (cAt (sh7 (i + 1)).2.1 0).1.length = 0 ∧ (cE (sh7 (i + 1)) 0 = 0 ↔ (i : Int) < 2) ∧ (cE (sh7 (i + 1)) 0 = 0 → cV (sh7 (i + 1)) 0 = i + 1)) ∧ cE (sh7 3) 0 = 2 ∧ (sh7 3).1.2.1 = [0, 1, 1] := by decide +kernel
theorem s_shown07 : Spec Try.prog 24 [] (vB true) := by
  obtain ⟨F, hF⟩ : ∃ F : Nat → Sy, ∀ i, F i = sh7 i := ⟨_, fun _ => rfl⟩
  obtain ⟨G, hG⟩ : ∃ G : Nat → Nat → Sy, ∀ i k, G i k = itS 0 (callS (F i) 0 7 0 0 0) k := ⟨_, fun _ _ => rfl⟩
  have hF0 : F 0 = newF 1 2 := hF 0
  have hFf : ∀ i, i ≤ 3 → Fin 1000 (F i) := fun i hi => by rw [hF]; exact (sh7_fin i).more (by omega)
  have hG0 : ∀ i, G i 0 = callS (F i) 0 7 0 0 0 := fun i => hG i 0
  have hGs : ∀ i k, G i (k + 1) = alS (G i k) 0 := fun i k => by rw [hG, hG]; rfl
  have hG9 : ∀ i, G i 9 = F (i + 1) := fun i => by rw [hG, hF, hF]; rfl
  have hGf : ∀ i k, i ≤ 3 → k ≤ 9 → Fin 2000 (G i k) := fun i k hi hk => by rw [hG]; exact (itS_fin (hFf i hi).callS k).more (by omega)
  have hf := sh7_is
  rw [← hF 3] at hf
  have hf1 : ∀ i : Nat, i < 3 → (F (i + 1)).2.1.length = 1 ∧ (cAt (F (i + 1)).2.1 0).1.length = 0 ∧ (cE (F (i + 1)) 0 = 0 ↔ (i : Int) < 2) ∧ (cE (F (i + 1)) 0 = 0 → cV (F (i + 1)) 0 = i + 1) := fun i hi => by rw [hF]; exact hf.1 i hi
  obtain ⟨_, hf2, hf3⟩ := hf
  refine spec_introF false tab_ok 0 Try.func24 rfl (by kernel_rfl) rfl ?_
  conv => whnf
  first | refine .inr (.inl ⟨_, s_Start 1 2 (by decide) (by decide) (by decide) (by decide), ?_⟩) | refine .inl (.inr (.inl ⟨_, s_Start 1 2 (by decide) (by decide) (by decide) (by decide), ?_⟩))
  rw [← hF0]
  conv => whnf
  refine dcase (fun h => absurd h ?_) (fun _ => ?_)
  · rw [hF0]; decide +kernel
  conv => whnf
  refine ⟨[], [0, 1, 2, 3], [1], ?_⟩
  apply Exists.intro
  conv => whnf
  refine loopK (fun i : Nat => 3 - i) (fun i => i ≤ 3) (fun i => ⟨lay 106 0 [(0, vB false), (1, pB 1), (2, vI 0), (3, vI i)], [(1, .cells ySys (cS (F i)))], []⟩) ?_ 0 rfl rfl (by decide)
  intro i ih hi hih
  have h5 : i = 0 ∨ i = 1 ∨ i = 2 ∨ i = 3 := by omega
  rcases h5 with rfl | rfl | rfl | rfl
  · obtain ⟨g1, g2, g3, g4⟩ := hf1 0 (by decide)
    conv => whnf
    first | refine .inr (.inl ⟨_, s_refCall (F 0) 0 7 0 0 0 (Nat.le_trans (hFf 0 (by decide)).cores (by decide)), ?_⟩) | refine .inl (.inr (.inl ⟨_, s_refCall (F 0) 0 7 0 0 0 (Nat.le_trans (hFf 0 (by decide)).cores (by decide)), ?_⟩))
    rw [← hG0 0]
    conv => whnf
    refine ⟨[], [0, 1, 2, 3, 4], [1], ?_⟩
    apply Exists.intro
    conv => whnf
    refine loopK (fun k : Nat => 9 - k) (fun k => k ≤ 9) (fun k => ⟨lay 106 0 [(0, vB false), (1, pB 1), (2, vI 0), (3, vI ((0 : Nat) : Int)), (4, vI k)], [(1, .cells ySys (cS (G 0 k)))], []⟩) ?_ 0 rfl rfl (by decide)
    intro k ih2 hk hih2
    conv => whnf
    refine dcase (fun h => ?_) (fun h => ?_)
    · have h9 : (k : Int) < 9 := h
      have e2 : wrap64 ((k : Int) + 1) = ((k + 1 : Nat) : Int) := by rw [IntWalk.wrap64_in _ (by omega)]; omega
      have h6 := hih2 (k + 1) (by omega) (by omega)
      rw [hGs 0 k] at h6
      conv => whnf
      first | refine .inr (.inl ⟨_, s_alStep (G 0 k) 0 (hGf 0 k (by decide) (by omega)) (by decide), ?_⟩) | refine .inl (.inr (.inl ⟨_, s_alStep (G 0 k) 0 (hGf 0 k (by decide) (by omega)) (by decide), ?_⟩))
      conv => whnf
      erw [e2]
      exact h6
    · have h9 : ¬ (k : Int) < 9 := h
      have e : k = 9 := by omega
      subst e
      rw [hG9 0]
      conv => whnf
      refine dcase (fun hc => absurd hc (by rw [g1]; decide)) (fun _ => ?_)
      conv => whnf
      refine ⟨⟨by decide, by rw [g1]; decide⟩, ?_⟩
      conv => whnf
      refine dcase (fun hc => absurd hc (by
        have g5 : (cAt (F (0 + 1)).2.1 0).1.length = 0 := g2
        exact fun hc => absurd (show (0 : Int) < ((cAt (F (0 + 1)).2.1 0).1.length : Int) from hc) (by rw [g5]; decide))) (fun _ => ?_)
      conv => whnf
      have hE : cE (F (0 + 1)) 0 = 0 := g3.2 (by decide)
      have hd : decide (cE (F (0 + 1)) 0 = 0) = true := decide_eq_true hE
      refine ⟨⟨by decide, by rw [g1]; decide⟩, ?_⟩
      conv => whnf
      erw [hd]
      conv => whnf
      refine ⟨⟨by decide, by rw [g1]; decide⟩, ?_⟩
      conv => whnf
      erw [hd]
      conv => whnf
      have hV : cV (F (0 + 1)) 0 = wrap64 (((0 : Nat) : Int) + 1) := (g4 hE).trans (IntWalk.wrap64_in _ (by decide)).symm
      refine ⟨⟨by decide, by rw [g1]; decide⟩, ?_⟩
      conv => whnf
      refine dcase (fun hc => absurd hV hc) (fun _ => ?_)
      conv => whnf
      erw [show wrap64 (((0 : Nat) : Int) + 1) = ((0 + 1 : Nat) : Int) from IntWalk.wrap64_in _ (by decide)]
      exact hih (0 + 1) (by decide) (by decide)
  · obtain ⟨g1, g2, g3, g4⟩ := hf1 1 (by decide)
    conv => whnf
    first | refine .inr (.inl ⟨_, s_refCall (F 1) 0 7 0 0 0 (Nat.le_trans (hFf 1 (by decide)).cores (by decide)), ?_⟩) | refine .inl (.inr (.inl ⟨_, s_refCall (F 1) 0 7 0 0 0 (Nat.le_trans (hFf 1 (by decide)).cores (by decide)), ?_⟩))
    rw [← hG0 1]
    conv => whnf
    refine ⟨[], [0, 1, 2, 3, 4], [1], ?_⟩
    apply Exists.intro
    conv => whnf
    refine loopK (fun k : Nat => 9 - k) (fun k => k ≤ 9) (fun k => ⟨lay 106 0 [(0, vB false), (1, pB 1), (2, vI 0), (3, vI ((1 : Nat) : Int)), (4, vI k)], [(1, .cells ySys (cS (G 1 k)))], []⟩) ?_ 0 rfl rfl (by decide)
    intro k ih2 hk hih2
    conv => whnf
    refine dcase (fun h => ?_) (fun h => ?_)
    · have h9 : (k : Int) < 9 := h
      have e2 : wrap64 ((k : Int) + 1) = ((k + 1 : Nat) : Int) := by rw [IntWalk.wrap64_in _ (by omega)]; omega
      have h6 := hih2 (k + 1) (by omega) (by omega)
      rw [hGs 1 k] at h6
      conv => whnf
      first | refine .inr (.inl ⟨_, s_alStep (G 1 k) 0 (hGf 1 k (by decide) (by omega)) (by decide), ?_⟩) | refine .inl (.inr (.inl ⟨_, s_alStep (G 1 k) 0 (hGf 1 k (by decide) (by omega)) (by decide), ?_⟩))
      conv => whnf
      erw [e2]
      exact h6
    · have h9 : ¬ (k : Int) < 9 := h
      have e : k = 9 := by omega
      subst e
      rw [hG9 1]
      conv => whnf
      refine dcase (fun hc => absurd hc (by rw [g1]; decide)) (fun _ => ?_)
      conv => whnf
      refine ⟨⟨by decide, by rw [g1]; decide⟩, ?_⟩
      conv => whnf
      refine dcase (fun hc => absurd hc (by
        have g5 : (cAt (F (1 + 1)).2.1 0).1.length = 0 := g2
        exact fun hc => absurd (show (0 : Int) < ((cAt (F (1 + 1)).2.1 0).1.length : Int) from hc) (by rw [g5]; decide))) (fun _ => ?_)
      conv => whnf
      have hE : cE (F (1 + 1)) 0 = 0 := g3.2 (by decide)
      have hd : decide (cE (F (1 + 1)) 0 = 0) = true := decide_eq_true hE
      refine ⟨⟨by decide, by rw [g1]; decide⟩, ?_⟩
      conv => whnf
      erw [hd]
      conv => whnf
      refine ⟨⟨by decide, by rw [g1]; decide⟩, ?_⟩
      conv => whnf
      erw [hd]
      conv => whnf
      have hV : cV (F (1 + 1)) 0 = wrap64 (((1 : Nat) : Int) + 1) := (g4 hE).trans (IntWalk.wrap64_in _ (by decide)).symm
      refine ⟨⟨by decide, by rw [g1]; decide⟩, ?_⟩
      conv => whnf
      refine dcase (fun hc => absurd hV hc) (fun _ => ?_)
      conv => whnf
      erw [show wrap64 (((1 : Nat) : Int) + 1) = ((1 + 1 : Nat) : Int) from IntWalk.wrap64_in _ (by decide)]
      exact hih (1 + 1) (by decide) (by decide)
  · obtain ⟨g1, g2, g3, g4⟩ := hf1 2 (by decide)
    conv => whnf
    first | refine .inr (.inl ⟨_, s_refCall (F 2) 0 7 0 0 0 (Nat.le_trans (hFf 2 (by decide)).cores (by decide)), ?_⟩) | refine .inl (.inr (.inl ⟨_, s_refCall (F 2) 0 7 0 0 0 (Nat.le_trans (hFf 2 (by decide)).cores (by decide)), ?_⟩))
    rw [← hG0 2]
    conv => whnf
    refine ⟨[], [0, 1, 2, 3, 4], [1], ?_⟩
    apply Exists.intro
    conv => whnf
    refine loopK (fun k : Nat => 9 - k) (fun k => k ≤ 9) (fun k => ⟨lay 106 0 [(0, vB false), (1, pB 1), (2, vI 0), (3, vI ((2 : Nat) : Int)), (4, vI k)], [(1, .cells ySys (cS (G 2 k)))], []⟩) ?_ 0 rfl rfl (by decide)
    intro k ih2 hk hih2
    conv => whnf
    refine dcase (fun h => ?_) (fun h => ?_)
    · have h9 : (k : Int) < 9 := h
      have e2 : wrap64 ((k : Int) + 1) = ((k + 1 : Nat) : Int) := by rw [IntWalk.wrap64_in _ (by omega)]; omega
      have h6 := hih2 (k + 1) (by omega) (by omega)
      rw [hGs 2 k] at h6
      conv => whnf
      first | refine .inr (.inl ⟨_, s_alStep (G 2 k) 0 (hGf 2 k (by decide) (by omega)) (by decide), ?_⟩) | refine .inl (.inr (.inl ⟨_, s_alStep (G 2 k) 0 (hGf 2 k (by decide) (by omega)) (by decide), ?_⟩))
      conv => whnf
      erw [e2]
      exact h6
    · have h9 : ¬ (k : Int) < 9 := h
      have e : k = 9 := by omega
      subst e
      rw [hG9 2]
      conv => whnf
      refine dcase (fun hc => absurd hc (by rw [g1]; decide)) (fun _ => ?_)
      conv => whnf
      refine ⟨⟨by decide, by rw [g1]; decide⟩, ?_⟩
      conv => whnf
      refine dcase (fun hc => absurd hc (by
        have g5 : (cAt (F (2 + 1)).2.1 0).1.length = 0 := g2
        exact fun hc => absurd (show (0 : Int) < ((cAt (F (2 + 1)).2.1 0).1.length : Int) from hc) (by rw [g5]; decide))) (fun _ => ?_)
      conv => whnf
      have hE : ¬ cE (F (2 + 1)) 0 = 0 := fun e => absurd (g3.1 e) (by decide)
      have hd : decide (cE (F (2 + 1)) 0 = 0) = false := decide_eq_false hE
      refine ⟨⟨by decide, by rw [g1]; decide⟩, ?_⟩
      conv => whnf
      erw [hd]
      conv => whnf
      refine ⟨⟨by decide, by rw [g1]; decide⟩, ?_⟩
      conv => whnf
      erw [hd]
      conv => whnf
      erw [show wrap64 (((2 : Nat) : Int) + 1) = ((2 + 1 : Nat) : Int) from IntWalk.wrap64_in _ (by decide)]
      exact hih (2 + 1) (by decide) (by decide)
  · have hp : ∀ x, placesN (F 3).1.2.1 x (F 3).1.2.1.length = placesN [0, 1, 1] x 3 := fun x => by rw [hf3]; rfl
    have hpp := s_Parts (F 3) (by rw [hf3]; decide) (by rw [hp]; decide +kernel)
    rw [hp, hp, hp, show List.drop 1 (placesN [0, 1, 1] 0 3) = [] from rfl, show placesN [0, 1, 1] 1 3 = [1, 2] from rfl, show placesN [0, 1, 1] 2 3 = [] from rfl] at hpp
    conv => whnf
    first | refine .inr (.inl ⟨_, hpp, ?_⟩) | refine .inl (.inr (.inl ⟨_, hpp, ?_⟩))
    conv => whnf
    have g1 : (F 3).2.1.length = 1 := (hf1 2 (by decide)).1
    refine ⟨⟨by decide, by rw [g1]; decide⟩, ?_⟩
    conv => whnf
    erw [show decide (cE (F 3) 0 = 2) = true from decide_eq_true hf2]
    with_unfolding_all (conv => whnf)
    first | refine .inl ⟨_, s_refInts [1, 2] [1, 2] (by decide), ?_⟩ | refine .inl (.inl ⟨_, s_refInts [1, 2] [1, 2] (by decide), ?_⟩)
    conv => whnf
    first | refine .inl ⟨_, s_allocOwn 8, ?_⟩ | refine .inl (.inl ⟨_, s_allocOwn 8, ?_⟩)
    conv => whnf
    first | refine .inl ⟨_, s_allocOwn 9, ?_⟩ | refine .inl (.inl ⟨_, s_allocOwn 9, ?_⟩)
    conv => whnf
    first | exact .inl rfl | exact .inr rfl
end Go.Proofs.Ytjeiopkfdgllhaa.V
