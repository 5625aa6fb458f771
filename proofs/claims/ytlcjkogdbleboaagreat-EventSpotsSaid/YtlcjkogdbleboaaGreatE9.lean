/- EventSpots: the law, walked. -/
import Derived.Test.YtlcjkogdbleboaaGreatE7
set_option linter.unusedSimpArgs false
set_option linter.unusedVariables false
namespace Go.Proofs.YtlcjkogdbleboaaGreat.V
open Go Go.RowKit Go.Proofs.YtlcjkogdbleboaaGreat.Hz
set_option maxRecDepth 100000

set_option maxHeartbeats 4000000 in
theorem s_EventSpots (a : Int) (ha0 : 0 ≤ a) (ha1 : a ≤ 255) (b : Int) (hb0 : 0 ≤ b) (hb1 : b ≤ 255) (l : Lp) (hw : ∀ x ∈ l, WFd (.int .u16) x) : Spec Tryz.prog 8 [.one (.int .u8 a), .one (.int .u8 b), vP l] (vB true) := by
  obtain ⟨c, c1, c8, hc⟩ := cores_of ha0 ha1
  have hnew := s_refNewF c 3 (by decide) (by decide) (by omega) (by omega)
  obtain ⟨e, he, e0, e1⟩ : ∃ e, b.tmod 16 = e ∧ 0 ≤ e ∧ e ≤ 15 := by
    have e1 : b.tmod 16 = b % 16 := Int.tmod_eq_emod_of_nonneg hb0
    exact ⟨_, rfl, by omega, by omega⟩
  have hF0 : Fin 0 (newF (c : Int) 3) := newF_fin (by decide) (by decide) (by omega)
  have hI0 : EvI c (EvQ e) (newF (c : Int) ((3 : Nat) : Int)) := newF_evI (by decide) (by decide) c1 c8
  replace hI0 : EvI c (EvQ e) (newF (c : Int) 3) := hI0
  have hw0 : nI (newF (c : Int) 3).1.1 (80 + e) = 0 := (newF_mem (c := (c : Int)) (n := 3) (by decide) (by decide)).2.2.2.1 _ (by omega) (by omega)
  generalize newF (c : Int) 3 = s0 at *
  refine spec_introF true tab_ok 0 Tryz.func8 rfl (by kernel_rfl) rfl ?_
  conv => whnf
  first | refine .inl ⟨_, s_shown12, ?_⟩ | refine .inl (.inl ⟨_, s_shown12, ?_⟩)
  conv => whnf
  repeat (refine ⟨by first | omega | (simp only [Option.getD_none, Option.getD_some]; omega) | (simp; done) | (simp; omega), ?_⟩; conv => whnf)
  refine dcase (fun h => ?_) (fun hl => ?_)
  · skip
    conv => whnf
    repeat (refine ⟨by first | omega | (simp only [Option.getD_none, Option.getD_some]; omega) | (simp; done) | (simp; omega), ?_⟩; conv => whnf)
    first | exact .inl rfl | exact .inr rfl
  replace hl : l.length ≤ 60 := Int.ofNat_le.1 (Int.not_lt.1 hl)
  conv => whnf
  repeat (refine ⟨by first | omega | (simp only [Option.getD_none, Option.getD_some]; omega) | (simp; done) | (simp; omega), ?_⟩; conv => whnf)
  intro z hz
  replace hz : z = a := hz.trans (IntWalk.wrap64_in _ (by omega))
  subst hz
  conv => whnf
  repeat (refine ⟨by first | omega | (simp only [Option.getD_none, Option.getD_some]; omega) | (simp; done) | (simp; omega), ?_⟩; conv => whnf)
  intro n hn
  replace hn : n = (c : Int) := hn.trans hc
  subst hn
  conv => whnf
  repeat (refine ⟨by first | omega | (simp only [Option.getD_none, Option.getD_some]; omega) | (simp; done) | (simp; omega), ?_⟩; conv => whnf)
  intro z2 hz2
  replace hz2 : z2 = b := hz2.trans (IntWalk.wrap64_in _ (by omega))
  subst hz2
  conv => whnf
  repeat (refine ⟨by first | omega | (simp only [Option.getD_none, Option.getD_some]; omega) | (simp; done) | (simp; omega), ?_⟩; conv => whnf)
  rw [he]
  first | refine .inr (.inl ⟨_, hnew, ?_⟩) | refine .inl (.inr (.inl ⟨_, hnew, ?_⟩))
  conv => whnf
  repeat (refine ⟨by first | omega | (simp only [Option.getD_none, Option.getD_some]; omega) | (simp; done) | (simp; omega), ?_⟩; conv => whnf)
  refine ⟨[], [2, 6, 7, 8, 9, 10, 11, 12], [10, 11], ?_⟩
  apply Exists.intro
  conv => whnf
  refine loopK (fun y : Nat × Sy => l.length - y.1) (fun y => y.1 ≤ l.length ∧ EvI c (EvQ e) y.2 ∧ Fin y.1 y.2 ∧ Tagd (nI y.2.1.1 (80 + e)) y.1 ∧ y.2.1.1.length = s0.1.1.length ∧ (∀ j : Int, 0 ≤ j → j ≠ 80 + e → nI y.2.1.1 j = nI s0.1.1 j) ∧ y.2.1.2 = s0.1.2) (fun y => ⟨lay 134 0 [(2, vP l), (6, vB false), (7, vB true), (8, vI (c : Int)), (9, vI e), (10, pB 10), (11, pB 11), (12, vI (y.1 : Int))], [(10, .cells ySys (cS s0)), (11, .cells ySys (cS y.2))], []⟩) ?_ (0, s0) rfl rfl ⟨Nat.zero_le _, hI0, hF0, by rw [hw0]; exact ⟨by decide, by show _ ≤ (0 : Int); decide⟩, rfl, fun _ _ _ => rfl, rfl⟩
  have hfit0 : s0.1.1.length = 124 + 4 * s0.1.2.1.length := hI0.fits.1
  have hgood0 := hI0.good
  clear hnew hI0 hw0 hc he
  intro ⟨i, s⟩ ih ⟨hi, hI, hF, hT, hsl, hsw, hsg⟩ hih
  simp only at hi hI hF hT hih hsl hsw hsg
  conv => whnf
  refine dcase (fun h3 => ?_) (fun h3 => ?_)
  · replace h3 : (i : Int) < l.length := h3
    obtain ⟨x, hx⟩ : ∃ x, pick l i = x := ⟨_, rfl⟩
    obtain ⟨x0, x1⟩ := pick_in hw (show i < l.length by omega)
    rw [hx] at x0 x1
    have hx2 : List.getD l ((i : Int)).toNat (dflt (.int .u16)) = x := hx
    obtain ⟨k, hk, hkx⟩ : ∃ k : Nat, k < c ∧ x.tmod (c : Int) = (k : Int) := by
      rw [Int.tmod_eq_emod_of_nonneg x0]
      have h1 := Int.emod_nonneg x (show (c : Int) ≠ 0 by omega)
      have h2 := Int.emod_lt_of_pos x (show (0 : Int) < c by omega)
      exact ⟨(x % c).toNat, by omega, by omega⟩
    conv => whnf
    refine ⟨⟨by omega, h3⟩, ?_⟩
    conv => whnf
    rw [hx2]
    intro y hy
    replace hy : y = x := hy.trans (IntWalk.wrap64_in _ (by omega))
    subst hy
    conv => whnf
    refine ⟨by omega, ?_⟩
    conv => whnf
    rw [hkx]
    obtain ⟨op, hop, op1⟩ : ∃ op : Int, 19 + y / 8 % 3 = op ∧ (19 ≤ op ∧ op ≤ 21) := ⟨_, rfl, by omega⟩
    obtain ⟨hI2, hm2, hl2, f, r, hcr, hf, hq, hfn, hfs⟩ := hI.beg hk op1 ⟨e0, e1⟩ (evQ0 op e)
    have hF2 : Fin i (begE s k op e) := hF.begE
    obtain ⟨u, hu⟩ : ∃ u, begE s k op e = u := ⟨_, rfl⟩
    rw [hu] at hI2 hm2 hl2 hcr hF2 hfs
    have hu1 : (cAt s.2.1 k).1 = [] → callS s k op e 0 0 = u := fun e => by rw [← hu]; exact (if_pos (by rw [e]; rfl)).symm
    have hev := s_evS u k (hF2.fine (by omega)) (fun g hg => by
      rw [topI_is (by omega) (by rw [hI2.cores]; omega), hcr] at hg
      rw [← Option.some.inj hg]; exact hf)
    have hFt : Fin (i + 1) (evS u k) := evS_fin hF2
    rw [← hm2] at hT hsl hsw hsg
    obtain ⟨hIt, hlt, hwo, hm3, hcase⟩ := ev_word hI2 hk ⟨e0, e1⟩ hcr hf hq hT (by omega)
    obtain ⟨t, ht⟩ : ∃ t, evS u k = t := ⟨_, rfl⟩
    rw [ht] at hev hFt hIt hlt hwo hm3 hcase
    have hTt : Tagd (nI t.1.1 (80 + e)) (i + 1) := by
      rcases hcase with ⟨e, _⟩ | ⟨e, _⟩
      · rw [e]; exact ⟨hT.1, by have := hT.2; omega⟩
      · rw [e]; exact (evN_is hT (by omega)).2.1
    have hnext := hih (i + 1, t) ⟨by show i + 1 ≤ _; omega, hIt, hFt, hTt, hlt.trans hsl, fun j j0 j1 => (hwo j j0 j1).trans (hsw j j0 j1), hm3.trans hsg⟩ (by show l.length - (i + 1) < _; omega)
    have hcl : (t.2.1.length : Int) = (c : Int) := by rw [hIt.cores]
    have hwl : (t.1.1.length : Int) = (s0.1.1.length : Int) := by rw [hlt, hsl]
    have e8 : IntKind.u16.wrap ((List.getD l ((i : Int)).toNat (dflt (.int .u16))).tdiv 8) = y / 8 := by rw [hx2]; exact vU16_q x0 x1 8 (by decide)
    have e64 : wrap64 (y / 8) = y / 8 := IntWalk.wrap64_in _ (by omega)
    have e19 : wrap64 (19 + (y / 8).tmod 3) = op := by rw [Int.tmod_eq_emod_of_nonneg (by omega), hop]; exact IntWalk.wrap64_in _ (by omega)
    rcases evTop hI hk with ⟨htn, hidle⟩ | ⟨g, htg, hg, _, _⟩
    · have hcall := s_refCall s k op e 0 0 (Nat.le_trans hF.cores (by decide))
      rw [hu1 hidle] at hcall
      first | refine .inr (.inl ⟨_, s_refTopNo htn (hF.fine (by omega)), ?_⟩) | refine .inl (.inr (.inl ⟨_, s_refTopNo htn (hF.fine (by omega)), ?_⟩))
      conv => whnf
      repeat (refine ⟨by first | omega | (simp only [Option.getD_none, Option.getD_some]; omega) | (simp; done) | (simp; omega), ?_⟩; conv => whnf)
      refine ⟨p_hazellaw12_EventSpots_14, g_hazellaw12_EventSpots_14, by kernel_rfl, ?st1, ?_, ?_⟩
      rotate_left
      · conv => whnf
        repeat' (first | (refine ⟨⟨by omega, h3⟩, ?_⟩; conv => whnf) | (refine ⟨(by decide), ?_⟩; conv => whnf) | ((intro z hz; replace hz : z = y / 8 := hz.trans e8; subst hz; conv => whnf)) | ((intro z hz; replace hz : z = y / 8 := hz.trans e64; subst hz; conv => whnf)) | ((intro z hz; replace hz : op = z := (hz.trans e19).symm; subst hz; conv => whnf)) | (refine .inr (.inl ⟨_, hcall, ?_⟩); conv => whnf) | (refine .inl (.inr (.inl ⟨_, hcall, ?_⟩)); conv => whnf) | (refine And.intro ?_ ?_ <;> conv => whnf) | exact rfl)
      conv => whnf
      repeat (refine ⟨by first | omega | (simp only [Option.getD_none, Option.getD_some]; omega) | (simp; done) | (simp; omega), ?_⟩; conv => whnf)
      first | refine .inr (.inl ⟨_, hev, ?_⟩) | refine .inl (.inr (.inl ⟨_, hev, ?_⟩))
      conv => whnf
      repeat (refine ⟨by first | omega | (simp only [Option.getD_none, Option.getD_some]; omega) | (simp; done) | (simp; omega), ?_⟩; conv => whnf)
      refine dcase (fun h => absurd hcl h) (fun _ => ?_)
      conv => whnf
      repeat (refine ⟨by first | omega | (simp only [Option.getD_none, Option.getD_some]; omega) | (simp; done) | (simp; omega), ?_⟩; conv => whnf)
      refine dcase (fun h => absurd hwl h) (fun _ => ?_)
      conv => whnf
      repeat (refine ⟨by first | omega | (simp only [Option.getD_none, Option.getD_some]; omega) | (simp; done) | (simp; omega), ?_⟩; conv => whnf)
      intro w1 hw1
      replace hw1 : w1 = ((i + 1 : Nat) : Int) := by rw [IntWalk.wrap64_in _ (by omega)] at hw1; omega
      subst hw1
      conv => whnf
      exact hnext
    · obtain rfl := hfs (by rw [hg]; exact fun e => nomatch e)
      first | refine .inr (.inl ⟨_, s_refTopOf htg (hF.fine (by omega)), ?_⟩) | refine .inl (.inr (.inl ⟨_, s_refTopOf htg (hF.fine (by omega)), ?_⟩))
      conv => whnf
      repeat (refine ⟨by first | omega | (simp only [Option.getD_none, Option.getD_some]; omega) | (simp; done) | (simp; omega), ?_⟩; conv => whnf)
      first | refine .inr (.inl ⟨_, hev, ?_⟩) | refine .inl (.inr (.inl ⟨_, hev, ?_⟩))
      conv => whnf
      repeat (refine ⟨by first | omega | (simp only [Option.getD_none, Option.getD_some]; omega) | (simp; done) | (simp; omega), ?_⟩; conv => whnf)
      refine dcase (fun h => absurd hcl h) (fun _ => ?_)
      conv => whnf
      repeat (refine ⟨by first | omega | (simp only [Option.getD_none, Option.getD_some]; omega) | (simp; done) | (simp; omega), ?_⟩; conv => whnf)
      refine dcase (fun h => absurd hwl h) (fun _ => ?_)
      conv => whnf
      repeat (refine ⟨by first | omega | (simp only [Option.getD_none, Option.getD_some]; omega) | (simp; done) | (simp; omega), ?_⟩; conv => whnf)
      intro w1 hw1
      replace hw1 : w1 = ((i + 1 : Nat) : Int) := by rw [IntWalk.wrap64_in _ (by omega)] at hw1; omega
      subst hw1
      conv => whnf
      exact hnext
  clear hih h3
  conv => whnf
  have hsp := s_refSpot12 e e0 e1
  have hsp2 := s_Spot12 e e0 e1
  have hglen := hF0.fits.2
  have hsG : s.1.2.1 = s0.1.2.1 := by rw [hsg]
  have hin := s_refIntsSame s0.1.2.1 (by omega)
  have hin2 : Spec Tryz.prog 24 [vL s.1.2.1, vL s0.1.2.1] (vB true) := by rw [hsG]; exact hin
  have hgood : s.1.2.2.1 = false := by rw [hsg]; exact hgood0
  refine ⟨[], [6, 7, 9, 10, 11, 16], [10, 11], ?_⟩
  apply Exists.intro
  conv => whnf
  refine loopK (fun j : Nat => s0.1.1.length - j) (fun j => j ≤ s0.1.1.length) (fun j => ⟨lay 134 0 [(6, vB false), (7, vB true), (9, vI e), (10, pB 10), (11, pB 11), (16, vI (j : Int))], [(10, .cells ySys (cS s0)), (11, .cells ySys (cS s))], []⟩) ?_ 0 rfl rfl (Nat.zero_le _)
  intro j ih hj hih
  conv => whnf
  refine dcase (fun h3 => ?_) (fun h3 => ?_)
  · replace h3 : (j : Int) < s0.1.1.length := h3
    have hjs : (j : Int) < s.1.1.length := by rw [hsl]; exact h3
    have hnx := hih (j + 1) (by omega) (by omega)
    by_cases hje : (j : Int) = 80 + e
    · conv => whnf
      refine ⟨p_hazellaw12_EventSpots_21, g_hazellaw12_EventSpots_21, by kernel_rfl, ?st2, ?_, ?_⟩
      rotate_left
      · conv => whnf
        repeat' (first | (refine .inl ⟨_, hsp, ?_⟩; conv => whnf) | (refine .inl (.inl ⟨_, hsp, ?_⟩); conv => whnf) | ((refine dcase (fun h => absurd hje h) (fun _ => ?_); conv => whnf)) | (refine And.intro ?_ ?_ <;> conv => whnf) | exact rfl)
      conv => whnf
      repeat (refine ⟨by first | omega | (simp only [Option.getD_none, Option.getD_some]; omega) | (simp; done) | (simp; omega), ?_⟩; conv => whnf)
      intro w1 hw1
      replace hw1 : w1 = ((j + 1 : Nat) : Int) := by rw [IntWalk.wrap64_in _ (by omega)] at hw1; omega
      subst hw1
      conv => whnf
      exact hnx
    · have heq : nI s.1.1 (j : Int) = nI s0.1.1 (j : Int) := hsw _ (by omega) hje
      have hi1 : (0 : Int) ≤ (j : Int) ∧ (j : Int) < (s.1.1.length : Int) := ⟨by omega, hjs⟩
      have hi2 : (0 : Int) ≤ (j : Int) ∧ (j : Int) < (s0.1.1.length : Int) := ⟨by omega, h3⟩
      conv => whnf
      refine ⟨p_hazellaw12_EventSpots_21, g_hazellaw12_EventSpots_21, by kernel_rfl, ?st3, ?_, ?_⟩
      rotate_left
      · conv => whnf
        repeat' (first | (refine .inl ⟨_, hsp, ?_⟩; conv => whnf) | (refine .inl (.inl ⟨_, hsp, ?_⟩); conv => whnf) | ((refine dcase (fun _ => ?_) (fun h => absurd hje h); conv => whnf)) | (refine ⟨hi1, ?_⟩; conv => whnf) | (refine ⟨hi2, ?_⟩; conv => whnf) | (refine And.intro ?_ ?_ <;> conv => whnf) | exact rfl)
      conv => whnf
      repeat (refine ⟨by first | omega | (simp only [Option.getD_none, Option.getD_some]; omega) | (simp; done) | (simp; omega), ?_⟩; conv => whnf)
      refine dcase (fun h => absurd heq h) (fun _ => ?_)
      conv => whnf
      repeat (refine ⟨by first | omega | (simp only [Option.getD_none, Option.getD_some]; omega) | (simp; done) | (simp; omega), ?_⟩; conv => whnf)
      intro w1 hw1
      replace hw1 : w1 = ((j + 1 : Nat) : Int) := by rw [IntWalk.wrap64_in _ (by omega)] at hw1; omega
      subst hw1
      conv => whnf
      exact hnx
  conv => whnf
  repeat (refine ⟨by first | omega | (simp only [Option.getD_none, Option.getD_some]; omega) | (simp; done) | (simp; omega), ?_⟩; conv => whnf)
  refine ncaseb (fun _ => ?_) (fun h => Bool.noConfusion (hgood.symm.trans h))
  conv => whnf
  repeat (refine ⟨by first | omega | (simp only [Option.getD_none, Option.getD_some]; omega) | (simp; done) | (simp; omega), ?_⟩; conv => whnf)
  first | refine .inl ⟨_, hsp2, ?_⟩ | refine .inl (.inl ⟨_, hsp2, ?_⟩)
  conv => whnf
  repeat (refine ⟨by first | omega | (simp only [Option.getD_none, Option.getD_some]; omega) | (simp; done) | (simp; omega), ?_⟩; conv => whnf)
  intro w1 hw1
  replace hw1 : w1 = 80 + e := hw1.trans (IntWalk.wrap64_in _ (by omega))
  subst hw1
  conv => whnf
  repeat (refine ⟨by first | omega | (simp only [Option.getD_none, Option.getD_some]; omega) | (simp; done) | (simp; omega), ?_⟩; conv => whnf)
  refine dcase (fun _ => ?_) (fun h => absurd rfl h)
  conv => whnf
  repeat (refine ⟨by first | omega | (simp only [Option.getD_none, Option.getD_some]; omega) | (simp; done) | (simp; omega), ?_⟩; conv => whnf)
  first | refine .inl ⟨_, hin2, ?_⟩ | refine .inl (.inl ⟨_, hin2, ?_⟩)
  conv => whnf
  repeat (refine ⟨by first | omega | (simp only [Option.getD_none, Option.getD_some]; omega) | (simp; done) | (simp; omega), ?_⟩; conv => whnf)
  first | exact .inl rfl | exact .inr rfl
end Go.Proofs.YtlcjkogdbleboaaGreat.V
