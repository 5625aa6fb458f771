/- EventOnce: the law, walked. -/
import Derived.Test.YtlcjkogdbleboaaGreatE10
set_option linter.unusedSimpArgs false
set_option linter.unusedVariables false
namespace Go.Proofs.YtlcjkogdbleboaaGreat.V
open Go Go.RowKit Go.Proofs.YtlcjkogdbleboaaGreat.Hz
set_option maxRecDepth 100000

set_option maxHeartbeats 8000000 in
theorem s_EventOnce (a : Int) (ha0 : 0 ≤ a) (ha1 : a ≤ 255) (l : Lp) (hw : ∀ x ∈ l, WFd (.int .u16) x) (b : Bool) : Spec Tryz.prog 7 [.one (.int .u8 a), vP l, vB b] (vB true) := by
  obtain ⟨c, c1, c8, hc⟩ := cores_of ha0 ha1
  have hnew := s_refNewF c 1 (by decide) (by decide) (by omega) (by omega)
  have hfin : Fin 0 (newF (c : Int) 1) := newF_fin (by decide) (by decide) (by omega)
  have hmk := s_evMake (newF (c : Int) 1) 0 b (by decide) (by decide) hfin.fits
  have hI0 : EvI c QO (mkE (newF (c : Int) ((1 : Nat) : Int)) 0 b) := (newF_evI (by decide) (by decide) c1 c8).make (by decide) (by decide)
  replace hI0 : EvI c QO (mkE (newF (c : Int) 1) 0 b) := hI0
  have hF0 : Fin 0 (mkE (newF (c : Int) 1) 0 b) := mkE_fin hfin
  have hw0 : nI (mkE (newF (c : Int) 1) 0 b).1.1 80 = selfI b := by
    rw [mkE_is (by decide) (by decide) hfin.fits]
    exact setW_self (by decide) (by have := (newF_mem (c := (c : Int)) (n := 1) (by decide) (by decide)).2.1; show 80 < ((newF (c : Int) ((1 : Nat) : Int)).1.1.length : Int); omega)
  have hL0 : (mkE (newF (c : Int) 1) 0 b).2.2.1 = [] := rfl
  generalize mkE (newF (c : Int) 1) 0 b = s0 at *
  generalize newF (c : Int) 1 = t0 at *
  have hself : selfI b = 0 ∨ selfI b = 1 := by cases b <;> simp [selfI]
  have hO0 : OnceI b (nI s0.1.1 80) s0.2.2.1 := by
    have hi : idxI (nI s0.1.1 80) = 0 := by rw [hw0]; rcases hself with e | e <;> rw [e] <;> rfl
    rw [hL0]
    exact ⟨fun i h => absurd h (Nat.not_lt_zero i), fun _ => by rw [if_pos hi]; exact Nat.le_refl _, fun _ => ⟨fun h => absurd hi h, fun h => absurd h (by show ¬ 0 < 0; decide)⟩⟩
  refine spec_introF true tab_ok 0 Tryz.func7 rfl (by kernel_rfl) rfl ?_
  conv => whnf
  first | refine .inl ⟨_, s_shown12, ?_⟩ | refine .inl (.inl ⟨_, s_shown12, ?_⟩)
  conv => whnf
  repeat (refine ⟨by first | omega | (simp only [Option.getD_none, Option.getD_some]; omega) | (simp; done) | (simp; omega), ?_⟩; conv => whnf)
  refine dcase (fun h => ?_) (fun hl => ?_)
  · skip
    conv => whnf
    repeat (refine ⟨by first | omega | (simp only [Option.getD_none, Option.getD_some]; omega) | (simp; done) | (simp; omega), ?_⟩; conv => whnf)
    first | exact .inl rfl | exact .inr rfl
  replace hl : l.length ≤ 200 := Int.ofNat_le.1 (Int.not_lt.1 hl)
  conv => whnf
  repeat (refine ⟨by first | omega | (simp only [Option.getD_none, Option.getD_some]; omega) | (simp; done) | (simp; omega), ?_⟩; conv => whnf)
  intro z hz
  replace hz : z = a := hz.trans (IntWalk.wrap64_in _ (by omega))
  subst hz
  conv => whnf
  repeat (refine ⟨by first | omega | (simp only [Option.getD_none, Option.getD_some]; omega) | (simp; done) | (simp; omega), ?_⟩; conv => whnf)
  intro n hn
  replace hn : n = (c : Int) := hn.trans hc
  subst hn
  conv => whnf
  repeat (refine ⟨by first | omega | (simp only [Option.getD_none, Option.getD_some]; omega) | (simp; done) | (simp; omega), ?_⟩; conv => whnf)
  first | refine .inr (.inl ⟨_, hnew, ?_⟩) | refine .inl (.inr (.inl ⟨_, hnew, ?_⟩))
  conv => whnf
  repeat (refine ⟨by first | omega | (simp only [Option.getD_none, Option.getD_some]; omega) | (simp; done) | (simp; omega), ?_⟩; conv => whnf)
  first | refine .inr (.inl ⟨_, hmk, ?_⟩) | refine .inl (.inr (.inl ⟨_, hmk, ?_⟩))
  conv => whnf
  repeat (refine ⟨by first | omega | (simp only [Option.getD_none, Option.getD_some]; omega) | (simp; done) | (simp; omega), ?_⟩; conv => whnf)
  refine ⟨[], [1, 2, 6, 7, 8, 9, 11], [9], ?_⟩
  apply Exists.intro
  conv => whnf
  refine loopK (fun y : Nat × Sy => l.length - y.1) (fun y => y.1 ≤ l.length ∧ EvI c QO y.2 ∧ Fin y.1 y.2 ∧ Tagd (nI y.2.1.1 80) y.1 ∧ nI y.2.1.1 80 % 2 = selfI b ∧ OnceI b (nI y.2.1.1 80) y.2.2.2.1) (fun y => ⟨lay 143 0 [(1, vP l), (2, vB b), (6, vB false), (7, vB true), (8, vI (c : Int)), (9, pB 9), (11, vI (y.1 : Int))], [(9, .cells ySys (cS y.2))], []⟩) ?_ (0, s0) rfl rfl ⟨Nat.zero_le _, hI0, hF0, by rw [hw0]; rcases hself with e | e <;> rw [e] <;> exact ⟨by decide, by show _ ≤ (0 : Int); decide⟩, by rw [hw0]; rcases hself with e | e <;> rw [e] <;> rfl, hO0⟩
  clear hnew hmk hI0 hF0 hw0 hc hfin hL0 hO0
  intro ⟨i, s⟩ ih ⟨hi, hI, hF, hT, hb, hO⟩ hih
  simp only at hi hI hF hT hb hO hih
  conv => whnf
  refine dcase (fun h3 => ?_) (fun h3 => ?_)
  · replace h3 : (i : Int) < l.length := h3
    obtain ⟨x, hx⟩ : ∃ x, pick l i = x := ⟨_, rfl⟩
    obtain ⟨x0, x1⟩ := pick_in hw (show i < l.length by omega)
    rw [hx] at x0 x1
    have hx2 : List.getD l ((i : Int)).toNat (dflt (.int .u16)) = x := hx
    obtain ⟨k, hk, hkx⟩ : ∃ k : Nat, k < c ∧ x.tmod (c : Int) = (k : Int) := by
      rw [Int.tmod_eq_emod_of_nonneg x0]
      have h1 := Int.emod_nonneg x (show (c : Int) ≠ 0 by omega)
      have h2 := Int.emod_lt_of_pos x (show (0 : Int) < c by omega)
      exact ⟨(x % c).toNat, by omega, by omega⟩
    conv => whnf
    refine ⟨⟨by omega, h3⟩, ?_⟩
    conv => whnf
    rw [hx2]
    intro y hy
    replace hy : y = x := hy.trans (IntWalk.wrap64_in _ (by omega))
    subst hy
    conv => whnf
    refine ⟨by omega, ?_⟩
    conv => whnf
    rw [hkx]
    obtain ⟨op, hop, op1, op2⟩ : ∃ op : Int, op = (if (y / 8).tmod 2 = 0 then 19 else 21) ∧ (19 ≤ op ∧ op ≤ 21) ∧ op ≠ 20 := ⟨_, rfl, by split <;> omega, by split <;> omega⟩
    obtain ⟨hI2, hm2, hl2, f, r, hcr, hf, hq, hfn, hfs⟩ := hI.beg hk op1 ⟨by decide, by decide⟩ ⟨evQ0 op 0, op2⟩
    have hF2 : Fin i (begE s k op 0) := hF.begE
    obtain ⟨u, hu⟩ : ∃ u, begE s k op 0 = u := ⟨_, rfl⟩
    rw [hu] at hI2 hm2 hl2 hcr hF2 hfs
    have hu1 : (cAt s.2.1 k).1 = [] → callS s k op 0 0 0 = u := fun e => by rw [← hu]; exact (if_pos (by rw [e]; rfl)).symm
    have hev := s_evS u k (hF2.fine (by omega)) (fun g hg => by
      rw [topI_is (by omega) (by rw [hI2.cores]; omega), hcr] at hg
      rw [← Option.some.inj hg]; exact hf)
    have hFt : Fin (i + 1) (evS u k) := evS_fin hF2
    rw [← hm2] at hT hb hO
    rw [← hl2] at hO
    obtain ⟨hIt, hTt, hbt, hOt⟩ := once_step hI2 hk hcr hf hq hT (by omega) hb hO
    obtain ⟨t, ht⟩ : ∃ t, evS u k = t := ⟨_, rfl⟩
    rw [ht] at hev hFt hIt hTt hbt hOt
    have hnext := hih (i + 1, t) ⟨by show i + 1 ≤ _; omega, hIt, hFt, hTt, hbt, hOt⟩ (by show l.length - (i + 1) < _; omega)
    have hcl : (t.2.1.length : Int) = (c : Int) := by rw [hIt.cores]
    have e8 : IntKind.u16.wrap ((List.getD l ((i : Int)).toNat (dflt (.int .u16))).tdiv 8) = y / 8 := by rw [hx2]; exact vU16_q x0 x1 8 (by decide)
    rcases evTop hI hk with ⟨htn, hidle⟩ | ⟨g, htg, hg, _, _⟩
    · have hcall := s_refCall s k op 0 0 0 (Nat.le_trans hF.cores (by decide))
      rw [hu1 hidle] at hcall
      first | refine .inr (.inl ⟨_, s_refTopNo htn (hF.fine (by omega)), ?_⟩) | refine .inl (.inr (.inl ⟨_, s_refTopNo htn (hF.fine (by omega)), ?_⟩))
      conv => whnf
      repeat (refine ⟨by first | omega | (simp only [Option.getD_none, Option.getD_some]; omega) | (simp; done) | (simp; omega), ?_⟩; conv => whnf)
      intro q hq8
      replace hq8 : q = y / 8 := hq8.trans e8
      subst hq8
      conv => whnf
      repeat (refine ⟨by first | omega | (simp only [Option.getD_none, Option.getD_some]; omega) | (simp; done) | (simp; omega), ?_⟩; conv => whnf)
      refine dcase (fun hp => ?_) (fun hp => ?_)
      · rw [if_pos hp] at hop
        rw [hop] at hcall
        conv => whnf
        repeat (refine ⟨by first | omega | (simp only [Option.getD_none, Option.getD_some]; omega) | (simp; done) | (simp; omega), ?_⟩; conv => whnf)
        first | refine .inr (.inl ⟨_, hcall, ?_⟩) | refine .inl (.inr (.inl ⟨_, hcall, ?_⟩))
        conv => whnf
        repeat (refine ⟨by first | omega | (simp only [Option.getD_none, Option.getD_some]; omega) | (simp; done) | (simp; omega), ?_⟩; conv => whnf)
        first | refine .inr (.inl ⟨_, hev, ?_⟩) | refine .inl (.inr (.inl ⟨_, hev, ?_⟩))
        conv => whnf
        repeat (refine ⟨by first | omega | (simp only [Option.getD_none, Option.getD_some]; omega) | (simp; done) | (simp; omega), ?_⟩; conv => whnf)
        refine dcase (fun h => absurd hcl h) (fun _ => ?_)
        conv => whnf
        repeat (refine ⟨by first | omega | (simp only [Option.getD_none, Option.getD_some]; omega) | (simp; done) | (simp; omega), ?_⟩; conv => whnf)
        intro w1 hw1
        replace hw1 : w1 = ((i + 1 : Nat) : Int) := by rw [IntWalk.wrap64_in _ (by omega)] at hw1; omega
        subst hw1
        conv => whnf
        exact hnext
      · rw [if_neg hp] at hop
        rw [hop] at hcall
        conv => whnf
        repeat (refine ⟨by first | omega | (simp only [Option.getD_none, Option.getD_some]; omega) | (simp; done) | (simp; omega), ?_⟩; conv => whnf)
        first | refine .inr (.inl ⟨_, hcall, ?_⟩) | refine .inl (.inr (.inl ⟨_, hcall, ?_⟩))
        conv => whnf
        repeat (refine ⟨by first | omega | (simp only [Option.getD_none, Option.getD_some]; omega) | (simp; done) | (simp; omega), ?_⟩; conv => whnf)
        first | refine .inr (.inl ⟨_, hev, ?_⟩) | refine .inl (.inr (.inl ⟨_, hev, ?_⟩))
        conv => whnf
        repeat (refine ⟨by first | omega | (simp only [Option.getD_none, Option.getD_some]; omega) | (simp; done) | (simp; omega), ?_⟩; conv => whnf)
        refine dcase (fun h => absurd hcl h) (fun _ => ?_)
        conv => whnf
        repeat (refine ⟨by first | omega | (simp only [Option.getD_none, Option.getD_some]; omega) | (simp; done) | (simp; omega), ?_⟩; conv => whnf)
        intro w1 hw1
        replace hw1 : w1 = ((i + 1 : Nat) : Int) := by rw [IntWalk.wrap64_in _ (by omega)] at hw1; omega
        subst hw1
        conv => whnf
        exact hnext
    · obtain rfl := hfs (by rw [hg]; exact fun e => nomatch e)
      first | refine .inr (.inl ⟨_, s_refTopOf htg (hF.fine (by omega)), ?_⟩) | refine .inl (.inr (.inl ⟨_, s_refTopOf htg (hF.fine (by omega)), ?_⟩))
      conv => whnf
      repeat (refine ⟨by first | omega | (simp only [Option.getD_none, Option.getD_some]; omega) | (simp; done) | (simp; omega), ?_⟩; conv => whnf)
      first | refine .inr (.inl ⟨_, hev, ?_⟩) | refine .inl (.inr (.inl ⟨_, hev, ?_⟩))
      conv => whnf
      repeat (refine ⟨by first | omega | (simp only [Option.getD_none, Option.getD_some]; omega) | (simp; done) | (simp; omega), ?_⟩; conv => whnf)
      refine dcase (fun h => absurd hcl h) (fun _ => ?_)
      conv => whnf
      repeat (refine ⟨by first | omega | (simp only [Option.getD_none, Option.getD_some]; omega) | (simp; done) | (simp; omega), ?_⟩; conv => whnf)
      intro w1 hw1
      replace hw1 : w1 = ((i + 1 : Nat) : Int) := by rw [IntWalk.wrap64_in _ (by omega)] at hw1; omega
      subst hw1
      conv => whnf
      exact hnext
  have hll : s.2.2.1.length ≤ 200 := by have := hF.log; omega
  have hlines := hO.lines
  clear hih h3 hI hF hT hO
  conv => whnf
  refine ⟨[], [2, 6, 7, 9, 16, 17, 18], [9], ?_⟩
  apply Exists.intro
  conv => whnf
  refine loopK (fun j : Nat => s.2.2.1.length - j) (fun j => j ≤ s.2.2.1.length) (fun j => ⟨lay 143 0 [(2, vB b), (6, vB false), (7, vB true), (9, pB 9), (16, vI ((setsN (s.2.2.1.take j) : Nat) : Int)), (17, vI ((toldN (s.2.2.1.take j) : Nat) : Int)), (18, vI (j : Int))], [(9, .cells ySys (cS s))], []⟩) ?_ 0 rfl rfl (Nat.zero_le _)
  intro j ih hj hih
  conv => whnf
  refine dcase (fun h3 => ?_) (fun h3 => ?_)
  · replace h3 : (j : Int) < s.2.2.1.length := h3
    have hjl : j < s.2.2.1.length := by omega
    obtain ⟨x, hx⟩ : ∃ x : Evt, List.getD s.2.2.1 ((j : Int)).toNat (dflt tEv) = x := ⟨_, rfl⟩
    have hxg : s.2.2.1[j] = x := by rw [← hx, Int.toNat_natCast, List.getD_eq_getElem?_getD, List.getElem?_eq_getElem hjl]; rfl
    have htk : s.2.2.1.take (j + 1) = s.2.2.1.take j ++ [x] := by rw [List.take_succ_eq_append_getElem hjl, hxg]
    have hat := hlines j hjl
    rw [hxg] at hat
    have hsn : setsN (s.2.2.1.take (j + 1)) = setsN (s.2.2.1.take j) + (if evKind x = 10 then 1 else 0) := by rw [htk, setsN_append]; rfl
    have htn : toldN (s.2.2.1.take (j + 1)) = toldN (s.2.2.1.take j) + (if evKind x = 12 ∧ evVal x = 1 then 1 else 0) := by rw [htk, toldN_append]; rfl
    have hnx := hih (j + 1) (by omega) (by omega)
    conv => whnf
    refine ⟨⟨by omega, h3⟩, ?_⟩
    conv => whnf
    have hlt : setsN (s.2.2.1.take j) ≤ 200 ∧ toldN (s.2.2.1.take j) ≤ 200 := by
      have h1 := setsN_le (s.2.2.1.take j)
      have h2 := toldN_le (s.2.2.1.take j)
      rw [List.length_take] at h1 h2
      omega
    cases b with
    | true =>
      refine dcase (fun hk10 => ?_) (fun hk10 => ?_)
      · have hxk : evKind x = 10 := by rw [← hx]; exact hk10
        have hk12 : ¬ (List.getD s.2.2.1 ((j : Int)).toNat (dflt tEv)).2.1 = 12 := fun h => absurd (hxk.symm.trans (show evKind x = 12 by rw [← hx]; exact h)) (by decide)
        rw [if_pos hxk] at hsn
        rw [if_neg (by rw [hxk]; exact fun h => absurd h.1 (by decide))] at htn
        have hle : ¬ ((setsN (s.2.2.1.take (j + 1)) : Nat) : Int) < ((toldN (s.2.2.1.take j) : Nat) : Int) := by have := hat.2 rfl; omega
        rw [htn] at hnx
        conv => whnf
        repeat (refine ⟨by first | omega | (simp only [Option.getD_none, Option.getD_some]; omega) | (simp; done) | (simp; omega), ?_⟩; conv => whnf)
        intro w1 hw1
        replace hw1 : w1 = ((setsN (s.2.2.1.take (j + 1)) : Nat) : Int) := by rw [IntWalk.wrap64_in _ (by omega)] at hw1; omega
        subst hw1
        conv => whnf
        repeat (refine ⟨by first | omega | (simp only [Option.getD_none, Option.getD_some]; omega) | (simp; done) | (simp; omega), ?_⟩; conv => whnf)
        refine dcase (fun h => absurd h hk12) (fun _ => ?_)
        conv => whnf
        repeat (refine ⟨by first | omega | (simp only [Option.getD_none, Option.getD_some]; omega) | (simp; done) | (simp; omega), ?_⟩; conv => whnf)
        refine dcase (fun h => absurd h hk12) (fun _ => ?_)
        conv => whnf
        repeat (refine ⟨by first | omega | (simp only [Option.getD_none, Option.getD_some]; omega) | (simp; done) | (simp; omega), ?_⟩; conv => whnf)
        refine dcase (fun h => absurd h hle) (fun _ => ?_)
        conv => whnf
        repeat (refine ⟨by first | omega | (simp only [Option.getD_none, Option.getD_some]; omega) | (simp; done) | (simp; omega), ?_⟩; conv => whnf)
        intro w9 hw9
        replace hw9 : w9 = ((j + 1 : Nat) : Int) := by rw [IntWalk.wrap64_in _ (by omega)] at hw9; omega
        subst hw9
        conv => whnf
        exact hnx
      have hxk : ¬ evKind x = 10 := fun h => hk10 (by rw [← hx] at h; exact h)
      rw [if_neg hxk] at hsn
      rw [hsn] at hnx
      conv => whnf
      repeat (refine ⟨by first | omega | (simp only [Option.getD_none, Option.getD_some]; omega) | (simp; done) | (simp; omega), ?_⟩; conv => whnf)
      refine dcase (fun hk12 => ?_) (fun hk12 => ?_)
      · have hx12 : evKind x = 12 := by rw [← hx]; exact hk12
        conv => whnf
        repeat (refine ⟨by first | omega | (simp only [Option.getD_none, Option.getD_some]; omega) | (simp; done) | (simp; omega), ?_⟩; conv => whnf)
        refine dcase (fun hv1 => ?_) (fun hv1 => ?_)
        · have hxv : evVal x = 1 := by rw [← hx]; exact hv1
          rw [if_pos ⟨hx12, hxv⟩] at htn
          have hle : ¬ ((setsN (s.2.2.1.take j) : Nat) : Int) < ((toldN (s.2.2.1.take (j + 1)) : Nat) : Int) := by have := hat.2 rfl; omega
          conv => whnf
          repeat (refine ⟨by first | omega | (simp only [Option.getD_none, Option.getD_some]; omega) | (simp; done) | (simp; omega), ?_⟩; conv => whnf)
          intro w1 hw1
          replace hw1 : w1 = ((toldN (s.2.2.1.take (j + 1)) : Nat) : Int) := by rw [IntWalk.wrap64_in _ (by omega)] at hw1; omega
          subst hw1
          conv => whnf
          repeat (refine ⟨by first | omega | (simp only [Option.getD_none, Option.getD_some]; omega) | (simp; done) | (simp; omega), ?_⟩; conv => whnf)
          refine dcase (fun _ => ?_) (fun h => absurd hk12 h)
          conv => whnf
          repeat (refine ⟨by first | omega | (simp only [Option.getD_none, Option.getD_some]; omega) | (simp; done) | (simp; omega), ?_⟩; conv => whnf)
          refine dcase (fun h => absurd h hle) (fun _ => ?_)
          conv => whnf
          repeat (refine ⟨by first | omega | (simp only [Option.getD_none, Option.getD_some]; omega) | (simp; done) | (simp; omega), ?_⟩; conv => whnf)
          intro w9 hw9
          replace hw9 : w9 = ((j + 1 : Nat) : Int) := by rw [IntWalk.wrap64_in _ (by omega)] at hw9; omega
          subst hw9
          conv => whnf
          exact hnx
        · have hxv : ¬ evVal x = 1 := fun h => hv1 (by rw [← hx] at h; exact h)
          rw [if_neg (fun h => hxv h.2)] at htn
          rw [htn] at hnx
          have hle : ¬ ((setsN (s.2.2.1.take j) : Nat) : Int) < ((toldN (s.2.2.1.take j) : Nat) : Int) := by have := hat.2 rfl; omega
          conv => whnf
          repeat (refine ⟨by first | omega | (simp only [Option.getD_none, Option.getD_some]; omega) | (simp; done) | (simp; omega), ?_⟩; conv => whnf)
          refine dcase (fun _ => ?_) (fun h => absurd hk12 h)
          conv => whnf
          repeat (refine ⟨by first | omega | (simp only [Option.getD_none, Option.getD_some]; omega) | (simp; done) | (simp; omega), ?_⟩; conv => whnf)
          refine dcase (fun h => absurd h hle) (fun _ => ?_)
          conv => whnf
          repeat (refine ⟨by first | omega | (simp only [Option.getD_none, Option.getD_some]; omega) | (simp; done) | (simp; omega), ?_⟩; conv => whnf)
          intro w9 hw9
          replace hw9 : w9 = ((j + 1 : Nat) : Int) := by rw [IntWalk.wrap64_in _ (by omega)] at hw9; omega
          subst hw9
          conv => whnf
          exact hnx
      · have hx12 : ¬ evKind x = 12 := fun h => hk12 (by rw [← hx] at h; exact h)
        rw [if_neg (fun h => hx12 h.1)] at htn
        rw [htn] at hnx
        have hle : ¬ ((setsN (s.2.2.1.take j) : Nat) : Int) < ((toldN (s.2.2.1.take j) : Nat) : Int) := by have := hat.2 rfl; omega
        conv => whnf
        repeat (refine ⟨by first | omega | (simp only [Option.getD_none, Option.getD_some]; omega) | (simp; done) | (simp; omega), ?_⟩; conv => whnf)
        refine dcase (fun h => absurd h hk12) (fun _ => ?_)
        conv => whnf
        repeat (refine ⟨by first | omega | (simp only [Option.getD_none, Option.getD_some]; omega) | (simp; done) | (simp; omega), ?_⟩; conv => whnf)
        refine dcase (fun h => absurd h hle) (fun _ => ?_)
        conv => whnf
        repeat (refine ⟨by first | omega | (simp only [Option.getD_none, Option.getD_some]; omega) | (simp; done) | (simp; omega), ?_⟩; conv => whnf)
        intro w9 hw9
        replace hw9 : w9 = ((j + 1 : Nat) : Int) := by rw [IntWalk.wrap64_in _ (by omega)] at hw9; omega
        subst hw9
        conv => whnf
        exact hnx
    | false =>
      refine dcase (fun hk10 => ?_) (fun hk10 => ?_)
      · have hxk : evKind x = 10 := by rw [← hx]; exact hk10
        have hk12 : ¬ (List.getD s.2.2.1 ((j : Int)).toNat (dflt tEv)).2.1 = 12 := fun h => absurd (hxk.symm.trans (show evKind x = 12 by rw [← hx]; exact h)) (by decide)
        rw [if_pos hxk] at hsn
        rw [if_neg (by rw [hxk]; exact fun h => absurd h.1 (by decide))] at htn
        rw [htn] at hnx
        conv => whnf
        repeat (refine ⟨by first | omega | (simp only [Option.getD_none, Option.getD_some]; omega) | (simp; done) | (simp; omega), ?_⟩; conv => whnf)
        intro w1 hw1
        replace hw1 : w1 = ((setsN (s.2.2.1.take (j + 1)) : Nat) : Int) := by rw [IntWalk.wrap64_in _ (by omega)] at hw1; omega
        subst hw1
        conv => whnf
        repeat (refine ⟨by first | omega | (simp only [Option.getD_none, Option.getD_some]; omega) | (simp; done) | (simp; omega), ?_⟩; conv => whnf)
        refine dcase (fun h => absurd h hk12) (fun _ => ?_)
        conv => whnf
        repeat (refine ⟨by first | omega | (simp only [Option.getD_none, Option.getD_some]; omega) | (simp; done) | (simp; omega), ?_⟩; conv => whnf)
        refine dcase (fun h => absurd h hk12) (fun _ => ?_)
        conv => whnf
        repeat (refine ⟨by first | omega | (simp only [Option.getD_none, Option.getD_some]; omega) | (simp; done) | (simp; omega), ?_⟩; conv => whnf)
        intro w9 hw9
        replace hw9 : w9 = ((j + 1 : Nat) : Int) := by rw [IntWalk.wrap64_in _ (by omega)] at hw9; omega
        subst hw9
        conv => whnf
        exact hnx
      have hxk : ¬ evKind x = 10 := fun h => hk10 (by rw [← hx] at h; exact h)
      rw [if_neg hxk] at hsn
      rw [hsn] at hnx
      conv => whnf
      repeat (refine ⟨by first | omega | (simp only [Option.getD_none, Option.getD_some]; omega) | (simp; done) | (simp; omega), ?_⟩; conv => whnf)
      refine dcase (fun hk12 => ?_) (fun hk12 => ?_)
      · have hx12 : evKind x = 12 := by rw [← hx]; exact hk12
        conv => whnf
        repeat (refine ⟨by first | omega | (simp only [Option.getD_none, Option.getD_some]; omega) | (simp; done) | (simp; omega), ?_⟩; conv => whnf)
        refine dcase (fun hv1 => ?_) (fun hv1 => ?_)
        · have hxv : evVal x = 1 := by rw [← hx]; exact hv1
          rw [if_pos ⟨hx12, hxv⟩] at htn
          have hbq : (decide ((List.getD s.2.2.1 ((j : Int)).toNat (dflt tEv)).2.2.2.2.1 = 1) == decide ((0 : Int) < ((setsN (s.2.2.1.take j) : Nat) : Int))) = true := by
            have h1 := (hat.1 rfl hx12).1 hxv
            rw [decide_eq_true hv1, decide_eq_true (show (0 : Int) < ((setsN (s.2.2.1.take j) : Nat) : Int) by omega)]
            rfl
          conv => whnf
          repeat (refine ⟨by first | omega | (simp only [Option.getD_none, Option.getD_some]; omega) | (simp; done) | (simp; omega), ?_⟩; conv => whnf)
          intro w1 hw1
          replace hw1 : w1 = ((toldN (s.2.2.1.take (j + 1)) : Nat) : Int) := by rw [IntWalk.wrap64_in _ (by omega)] at hw1; omega
          subst hw1
          conv => whnf
          repeat (refine ⟨by first | omega | (simp only [Option.getD_none, Option.getD_some]; omega) | (simp; done) | (simp; omega), ?_⟩; conv => whnf)
          refine dcase (fun _ => ?_) (fun h => absurd hk12 h)
          conv => whnf
          repeat (refine ⟨by first | omega | (simp only [Option.getD_none, Option.getD_some]; omega) | (simp; done) | (simp; omega), ?_⟩; conv => whnf)
          refine ncaseb (fun h => Bool.noConfusion (h.symm.trans hbq)) (fun _ => ?_)
          conv => whnf
          repeat (refine ⟨by first | omega | (simp only [Option.getD_none, Option.getD_some]; omega) | (simp; done) | (simp; omega), ?_⟩; conv => whnf)
          intro w9 hw9
          replace hw9 : w9 = ((j + 1 : Nat) : Int) := by rw [IntWalk.wrap64_in _ (by omega)] at hw9; omega
          subst hw9
          conv => whnf
          exact hnx
        · have hxv : ¬ evVal x = 1 := fun h => hv1 (by rw [← hx] at h; exact h)
          rw [if_neg (fun h => hxv h.2)] at htn
          rw [htn] at hnx
          have hbq : (decide ((List.getD s.2.2.1 ((j : Int)).toNat (dflt tEv)).2.2.2.2.1 = 1) == decide ((0 : Int) < ((setsN (s.2.2.1.take j) : Nat) : Int))) = true := by
            have h1 : ¬ (0 : Int) < ((setsN (s.2.2.1.take j) : Nat) : Int) := fun h => hxv ((hat.1 rfl hx12).2 (by omega))
            rw [decide_eq_false hv1, decide_eq_false h1]
            rfl
          conv => whnf
          repeat (refine ⟨by first | omega | (simp only [Option.getD_none, Option.getD_some]; omega) | (simp; done) | (simp; omega), ?_⟩; conv => whnf)
          refine dcase (fun _ => ?_) (fun h => absurd hk12 h)
          conv => whnf
          repeat (refine ⟨by first | omega | (simp only [Option.getD_none, Option.getD_some]; omega) | (simp; done) | (simp; omega), ?_⟩; conv => whnf)
          refine ncaseb (fun h => Bool.noConfusion (h.symm.trans hbq)) (fun _ => ?_)
          conv => whnf
          repeat (refine ⟨by first | omega | (simp only [Option.getD_none, Option.getD_some]; omega) | (simp; done) | (simp; omega), ?_⟩; conv => whnf)
          intro w9 hw9
          replace hw9 : w9 = ((j + 1 : Nat) : Int) := by rw [IntWalk.wrap64_in _ (by omega)] at hw9; omega
          subst hw9
          conv => whnf
          exact hnx
      · have hx12 : ¬ evKind x = 12 := fun h => hk12 (by rw [← hx] at h; exact h)
        rw [if_neg (fun h => hx12 h.1)] at htn
        rw [htn] at hnx
        conv => whnf
        repeat (refine ⟨by first | omega | (simp only [Option.getD_none, Option.getD_some]; omega) | (simp; done) | (simp; omega), ?_⟩; conv => whnf)
        refine dcase (fun h => absurd h hk12) (fun _ => ?_)
        conv => whnf
        repeat (refine ⟨by first | omega | (simp only [Option.getD_none, Option.getD_some]; omega) | (simp; done) | (simp; omega), ?_⟩; conv => whnf)
        intro w9 hw9
        replace hw9 : w9 = ((j + 1 : Nat) : Int) := by rw [IntWalk.wrap64_in _ (by omega)] at hw9; omega
        subst hw9
        conv => whnf
        exact hnx
  · skip
    conv => whnf
    repeat (refine ⟨by first | omega | (simp only [Option.getD_none, Option.getD_some]; omega) | (simp; done) | (simp; omega), ?_⟩; conv => whnf)
    first | exact .inl rfl | exact .inr rfl
end Go.Proofs.YtlcjkogdbleboaaGreat.V
