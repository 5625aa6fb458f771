/- ScanSees: the law. -/
import Derived.Test.YtjeiopkfdgllhaaV24
namespace Go.Proofs.Ytjeiopkfdgllhaa.V
open Go Go.RowKit Go.Proofs.Ytjeiopkfdgllhaa.Hz
set_option maxRecDepth 100000

abbrev vU8 (n : Int) : SV := .one (.int .u8 n)
theorem s_ScanSees (s : Sy) (a : Int) (ha0 : 0 ≤ a) (ha1 : a ≤ 255) (b : Int) (hb0 : 0 ≤ b) (hb1 : b ≤ 255) : Spec Try.prog 5 [vS s, vU8 a, vU8 b] (vB true) := by
  refine spec_introF true tab_ok 0 Try.func5 rfl (by kernel_rfl) rfl ?_
  conv => whnf
  first | refine .inl ⟨_, s_shown06, ?_⟩ | refine .inl (.inl ⟨_, s_shown06, ?_⟩)
  conv => whnf
  repeat (refine ⟨by first | omega | (simp only [Option.getD_none, Option.getD_some]; omega) | (simp; done) | (simp; omega), ?_⟩; conv => whnf)
  first | refine .inl ⟨_, s_refMay s 40 (by decide) (by decide), ?_⟩ | refine .inl (.inl ⟨_, s_refMay s 40 (by decide) (by decide), ?_⟩)
  conv => whnf
  repeat (refine ⟨by first | omega | (simp only [Option.getD_none, Option.getD_some]; omega) | (simp; done) | (simp; omega), ?_⟩; conv => whnf)
  refine ncaseb (fun h => ?_) (fun h => ?_)
  · skip
    conv => whnf
    repeat (refine ⟨by first | omega | (simp only [Option.getD_none, Option.getD_some]; omega) | (simp; done) | (simp; omega), ?_⟩; conv => whnf)
    first | exact .inl rfl | exact .inr rfl
  have hf := may_fin h
  obtain ⟨_, ⟨⟨m1, m2, m3, m4, m5⟩, c1, c8, _⟩⟩ := may_is h
  conv => whnf
  intro z hz
  replace hz : z = a := hz.trans (IntWalk.wrap64_in _ (by omega))
  subst hz
  conv => whnf
  refine ⟨by omega, ?_⟩
  obtain ⟨k, hk, h0, h1⟩ : ∃ k, z.tmod (s.2.1.length : Int) = k ∧ 0 ≤ k ∧ k < s.2.1.length := ⟨_, rfl, Int.tmod_nonneg _ ha0, Int.tmod_lt_of_pos _ (by omega)⟩
  rw [hk]
  conv => whnf
  refine ⟨⟨h0, h1⟩, ?_⟩
  conv => whnf
  refine dcase (fun h38 => ?_) (fun h38 => ?_)
  · skip
    conv => whnf
    repeat (refine ⟨by first | omega | (simp only [Option.getD_none, Option.getD_some]; omega) | (simp; done) | (simp; omega), ?_⟩; conv => whnf)
    first | exact .inl rfl | exact .inr rfl
  have h38 : (cAt s.2.1 k).1.length < 38 := Int.ofNat_lt.1 (Int.not_le.1 h38)
  conv => whnf
  intro y hy
  replace hy : y = b := hy.trans (IntWalk.wrap64_in _ (by omega))
  subst hy
  conv => whnf
  intro n hn
  replace hn : n = 3 * (s.2.1.length : Int) := hn.trans (IntWalk.wrap64_in _ (by omega))
  conv => whnf
  intro q hq
  replace hq : q = 3 * (s.2.1.length : Int) + 1 := by rw [← hn]; exact hq.trans (IntWalk.wrap64_in _ (by omega))
  conv => whnf
  refine ⟨by omega, ?_⟩
  obtain ⟨M, hM, hM1⟩ : ∃ M : Nat, y.tmod q = (M : Int) ∧ M ≤ 3 * s.2.1.length := ⟨(y.tmod q).toNat, by
    have h1 := Int.tmod_nonneg q hb0
    omega, by
    have h2 := Int.tmod_lt_of_pos y (show 0 < q by omega)
    omega⟩
  rw [hM]
  conv => whnf
  obtain ⟨F, r, hc⟩ : ∃ F r, cAt s.2.1 k = (F, r) := ⟨_, _, rfl⟩
  have hlow : 128 ≤ s.1.1.length := by omega
  have hF : F.length < 38 := by have h := h38; rw [hc] at h; exact h
  have hcall : callS s k 6 0 0 0 = stS s k s.1 (F ++ [seeF s.1.1 (3 * s.2.1.length) 0], r) := by
    have e := callS_self (s := s) (op := 6) (a := 0) (b := 0) (d := 0) h0 h1 (by omega)
    rw [hc] at e
    rw [e]
    unfold seeF
    rw [if_neg (by omega)]
    rfl
  have hc1 := s_refCall s k 6 0 0 0 (by omega)
  have hf1 : Fin 200 (callS s k 6 0 0 0) := hf.callS
  have hsteps : ∀ i : Nat, i ≤ 3 * s.2.1.length → itScan k (callS s k 6 0 0 0) i = stS s k s.1 (F ++ [seeF s.1.1 (3 * s.2.1.length) i], r) := fun i hi => by rw [hcall]; exact see_steps h0 h1 c8 hlow i hi
  first | refine .inr (.inl ⟨_, hc1, ?_⟩) | refine .inl (.inr (.inl ⟨_, hc1, ?_⟩))
  conv => whnf
  repeat (refine ⟨by first | omega | (simp only [Option.getD_none, Option.getD_some]; omega) | (simp; done) | (simp; omega), ?_⟩; conv => whnf)
  obtain ⟨W, hW⟩ : ∃ W, W = s.1.1 := ⟨_, rfl⟩
  obtain ⟨L3, hL3⟩ : ∃ L3, L3 = 3 * s.2.1.length := ⟨_, rfl⟩
  rw [← hW, ← hL3] at hsteps
  have htop : Spec Try.prog 14 [vS (itScan k (callS s k 6 0 0 0) M), vI k] (vFB (seeF W L3 M) true) := by
    have hfM := itScan_fin hf1 M (k := k)
    have h := s_refTop (itScan k (callS s k 6 0 0 0) M) k (Nat.le_trans hfM.cores (by decide)) (fun c hc => Nat.le_trans (hfM.core c hc).frames (by decide))
    rw [show topI (itScan k (callS s k 6 0 0 0) M) k = some (seeF W L3 M) by rw [hsteps M (by omega)]; exact topI_st h0 h1] at h
    exact h
  have hsame : Spec Try.prog 23 [vM (itScan k (callS s k 6 0 0 0) M).1, vM s.1] (vB true) := by
    rw [hsteps M (by omega)]
    show Spec Try.prog 23 [vM s.1, vM s.1] (vB true)
    have h := s_refSameM s.1 s.1 (by omega) (by omega)
    rw [show sameM s.1 s.1 = true by unfold sameM; rw [sameB_yes rfl, sameB_yes rfl]; simp] at h
    exact h
  have hstep : ∀ i : Nat, i < M → Spec Try.prog 18 [vS (itScan k (callS s k 6 0 0 0) i), vI k] (vS (itScan k (callS s k 6 0 0 0) (i + 1))) := fun i hi => s_scanStep _ k (itScan_fin hf1 i) (by omega)
  have hseen : Spec Try.prog 20 [vL (seenL W M), vL (seenL W M)] (vB true) := by
    have h := s_refInts (seenL W M) (seenL W M) (by have := seenL_len W M; omega)
    rw [sameB_yes rfl] at h
    exact h
  obtain ⟨it, hit0, hstep, htop, hsame⟩ : ∃ it : Nat → Sy, it 0 = callS s k 6 0 0 0 ∧ (∀ i : Nat, i < M → Spec Try.prog 18 [vS (it i), vI k] (vS (it (i + 1)))) ∧ Spec Try.prog 14 [vS (it M), vI k] (vFB (seeF W L3 M) true) ∧ Spec Try.prog 23 [vM (it M).1, vM s.1] (vB true) := ⟨itScan k (callS s k 6 0 0 0), rfl, hstep, htop, hsame⟩
  rw [← hit0]
  clear hsteps hcall hc1 hf1 hit0
  refine ⟨[], [3, 6, 7, 8, 9, 10, 11], [3, 10], ?_⟩
  apply Exists.intro
  conv => whnf
  refine loopK (fun i : Nat => M - i) (fun i => i ≤ M) (fun i => ⟨lay 125 0 [(3, pB 3), (6, vB false), (7, vB true), (8, vI k), (9, vI (M : Int)), (10, pB 10), (11, vI (i : Int))], [(3, .cells ySys (cS s)), (10, .cells ySys (cS (it i)))], []⟩) ?_ 0 rfl rfl (Nat.zero_le _)
  intro i ih hi hih
  conv => whnf
  refine dcase (fun h3 => ?_) (fun h3 => ?_)
  · replace h3 : (i : Int) < M := h3
    conv => whnf
    first | refine .inr (.inl ⟨_, hstep i (by omega), ?_⟩) | refine .inl (.inr (.inl ⟨_, hstep i (by omega), ?_⟩))
    conv => whnf
    repeat (refine ⟨by first | omega | (simp only [Option.getD_none, Option.getD_some]; omega) | (simp; done) | (simp; omega), ?_⟩; conv => whnf)
    intro w hw
    replace hw : w = ((i + 1 : Nat) : Int) := by rw [IntWalk.wrap64_in _ (by omega)] at hw; omega
    subst hw
    conv => whnf
    exact hih (i + 1) (by omega) (by omega)
  replace h3 : ¬ (i : Int) < M := h3
  have hiM : M = i := by omega
  subst hiM
  conv => whnf
  first | refine .inr (.inl ⟨_, htop, ?_⟩) | refine .inl (.inr (.inl ⟨_, htop, ?_⟩))
  conv => whnf
  repeat (refine ⟨by first | omega | (simp only [Option.getD_none, Option.getD_some]; omega) | (simp; done) | (simp; omega), ?_⟩; conv => whnf)
  clear hih h3 hstep htop ih hi
  refine ⟨[(14, 83, yInt, tI)], [3, 6, 7, 9, 10, 12, 13, 14, 15], [3, 10, 12, 83], ?_⟩
  apply Exists.intro
  conv => whnf
  refine loopK (fun i : Nat => M - i) (fun i => i ≤ M) (fun i => ⟨lay 125 0 [(3, pB 3), (6, vB false), (7, vB true), (9, vI (M : Int)), (10, pB 10), (12, pB 12), (13, vB true), (14, .one (.row 83)), (15, vI (i : Int))], [(3, .cells ySys (cS s)), (10, .cells ySys (cS (it M))), (12, .cells yFrame (cF (seeF W L3 M))), (83, .row yInt tI (seenL W i))], []⟩) ?_ 0 rfl rfl (Nat.zero_le _)
  intro i ih hi hih
  have hsl := seenL_len W i
  conv => whnf
  refine dcase (fun h3 => ?_) (fun h3 => ?_)
  · replace h3 : (i : Int) < M := h3
    obtain ⟨p, hp, hP⟩ : ∃ p : Int, p = 8 + i ∧ ∀ z : Int, z = wrap64 ((i : Int).tdiv 3) → Spec Try.prog 22 [vI z, vI ((i : Int).tmod 3)] (vI p) := ⟨8 + i, rfl, fun z hz => by
      have e1 : (i : Int).tdiv 3 = i / 3 := Int.tdiv_eq_ediv_of_nonneg (by omega)
      have e2 : (i : Int).tmod 3 = i % 3 := Int.tmod_eq_emod_of_nonneg (by omega)
      rw [e1, IntWalk.wrap64_in _ (by omega)] at hz
      have e3 : placeI z ((i : Int).tmod 3) = 8 + i := by
        rw [e2, hz]
        unfold placeI
        rw [IntWalk.wrap64_in (3 * ((i : Int) / 3)) (by omega), IntWalk.wrap64_in (8 + 3 * ((i : Int) / 3)) (by omega), IntWalk.wrap64_in _ (by omega)]
        omega
      rw [← e3]
      exact s_refPlace _ _⟩
    conv => whnf
    refine ⟨p_hazellaw06_ScanSees_18, g_hazellaw06_ScanSees_18, by kernel_rfl, ?st1, ?_, ?_⟩
    rotate_left
    · conv => whnf
      refine ⟨by decide, ?_⟩
      conv => whnf
      intro z hz
      subst hz
      conv => whnf
      refine ⟨by decide, ?_⟩
      conv => whnf
      intro z hz
      subst hz
      conv => whnf
      refine ⟨by decide, ?_⟩
      conv => whnf
      refine ⟨by decide, ?_⟩
      conv => whnf
      first | refine .inl ⟨_, hP _ rfl, ?_⟩ | refine .inl (.inl ⟨_, hP _ rfl, ?_⟩)
      conv => whnf
      refine ⟨⟨by omega, by omega⟩, ?_⟩
      conv => whnf
    have hn : nI s.1.1 p = nI W (8 + i) := by rw [hp, hW]
    have hnx : seenL W (i + 1) = if nI W (8 + i) ≠ 0 then snoc (seenL W i) (nI W (8 + i)) else seenL W i := rfl
    obtain ⟨x, hx⟩ : ∃ x, nI s.1.1 p = x := ⟨_, rfl⟩
    rw [← hn, hx] at hnx
    have hx2 : List.getD s.1.1 p.toNat (dflt tI) = x := hx
    rw [hx2]
    conv => whnf
    refine dcase (fun h4 => ?_) (fun h4 => ?_)
    · rw [if_pos h4] at hnx
      conv => whnf
      refine ⟨Nat.le_trans (Nat.succ_le_succ hsl) (le_most (by omega)), ?_⟩
      conv => whnf
      intro w hw
      replace hw : w = ((i + 1 : Nat) : Int) := by rw [IntWalk.wrap64_in _ (by omega)] at hw; omega
      subst hw
      have h5 := hih (i + 1) (by omega) (by omega)
      rw [hnx] at h5
      conv => whnf
      exact h5
    · rw [if_neg h4] at hnx
      conv => whnf
      intro w hw
      replace hw : w = ((i + 1 : Nat) : Int) := by rw [IntWalk.wrap64_in _ (by omega)] at hw; omega
      subst hw
      have h5 := hih (i + 1) (by omega) (by omega)
      rw [hnx] at h5
      conv => whnf
      exact h5
  replace h3 : ¬ (i : Int) < M := h3
  have hiM : M = i := by omega
  subst hiM
  conv => whnf
  first | refine .inl ⟨_, hseen, ?_⟩ | refine .inl (.inl ⟨_, hseen, ?_⟩)
  conv => whnf
  repeat (refine ⟨by first | omega | (simp only [Option.getD_none, Option.getD_some]; omega) | (simp; done) | (simp; omega), ?_⟩; conv => whnf)
  refine dcase (fun _ => ?_) (fun h => absurd rfl h)
  conv => whnf
  intro w hw
  replace hw : w = ((L3 : Nat) : Int) := by rw [IntWalk.wrap64_in _ (by omega)] at hw; omega
  subst hw
  have hb : (decide ((seeF W L3 M).2.1 = 1) == decide ((M : Int) = (L3 : Int))) = true := by
    show (decide ((if L3 ≤ M then (1 : Int) else 0) = 1) == _) = true
    by_cases c : L3 ≤ M
    · rw [if_pos c, decide_eq_true (show (M : Int) = L3 by omega)]; rfl
    · rw [if_neg c, decide_eq_false (show ¬ (M : Int) = L3 by omega)]; rfl
  conv => whnf
  refine bcase (fun _ => ?_) (fun h => absurd (hb.symm.trans h) (by decide))
  conv => whnf
  first | refine .inl ⟨_, hsame, ?_⟩ | refine .inl (.inl ⟨_, hsame, ?_⟩)
  conv => whnf
  repeat (refine ⟨by first | omega | (simp only [Option.getD_none, Option.getD_some]; omega) | (simp; done) | (simp; omega), ?_⟩; conv => whnf)
  first | exact .inl rfl | exact .inr rfl
end Go.Proofs.Ytjeiopkfdgllhaa.V
