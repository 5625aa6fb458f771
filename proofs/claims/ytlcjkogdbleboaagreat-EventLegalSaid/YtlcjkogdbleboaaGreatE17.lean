/- EventLegal: the law, walked. -/
import Derived.Test.YtlcjkogdbleboaaGreatE16
set_option linter.unusedSimpArgs false
set_option linter.unusedVariables false
namespace Go.Proofs.YtlcjkogdbleboaaGreat.V
open Go Go.RowKit Go.Proofs.YtlcjkogdbleboaaGreat.Hz
set_option maxRecDepth 100000

theorem odd_tmod {e : Int} (h : 0 ≤ e) : decide (e.tmod 2 = 1) = oddB e := by rw [Int.tmod_eq_emod_of_nonneg h]; rfl
set_option maxHeartbeats 8000000 in
theorem s_EventLegal (a : Int) (ha0 : 0 ≤ a) (ha1 : a ≤ 255) (l : Lp) (hw : ∀ x ∈ l, WFd (.int .u16) x) : Spec Tryz.prog 6 [.one (.int .u8 a), vP l] (vB true) := by
  obtain ⟨c, c1, c8, hc⟩ := cores_of ha0 ha1
  have hnew := s_refNewF c 1 (by decide) (by decide) (by omega) (by omega)
  have hFn : Fin 0 (newF (c : Int) 1) := newF_fin (by decide) (by decide) (by omega)
  have hIn : EvI c QL (newF (c : Int) ((1 : Nat) : Int)) := newF_evI (by decide) (by decide) c1 c8
  replace hIn : EvI c QL (newF (c : Int) 1) := hIn
  have hln : 128 ≤ (newF (c : Int) 1).1.1.length := by have := (newF_mem (c := (c : Int)) (n := 1) (by decide) (by decide)).2.1; show 128 ≤ (newF (c : Int) ((1 : Nat) : Int)).1.1.length; omega
  have hLn : (newF (c : Int) 1).2.2.1 = [] := rfl
  have hCn : ∀ k : Nat, (cAt (newF (c : Int) 1).2.1 k).1 = [] := fun k => by
    have h := newF_core (c := (c : Int)) (n := 1) (k := (k : Int))
    rw [h]; rfl
  generalize newF (c : Int) 1 = t0 at *
  have hsys := sysE_is hFn hIn hln
  refine spec_introF true tab_ok 0 Tryz.func6 rfl (by kernel_rfl) rfl ?_
  conv => whnf
  first | refine .inl ⟨_, s_shown12, ?_⟩ | refine .inl (.inl ⟨_, s_shown12, ?_⟩)
  conv => whnf
  repeat (refine ⟨by first | omega | (simp only [Option.getD_none, Option.getD_some]; omega) | (simp; done) | (simp; omega), ?_⟩; conv => whnf)
  refine dcase (fun h => ?_) (fun hl => ?_)
  · skip
    conv => whnf
    repeat (refine ⟨by first | omega | (simp only [Option.getD_none, Option.getD_some]; omega) | (simp; done) | (simp; omega), ?_⟩; conv => whnf)
    first | exact .inl rfl | exact .inr rfl
  replace hl : l.length ≤ 300 := Int.ofNat_le.1 (Int.not_lt.1 hl)
  conv => whnf
  repeat (refine ⟨by first | omega | (simp only [Option.getD_none, Option.getD_some]; omega) | (simp; done) | (simp; omega), ?_⟩; conv => whnf)
  intro z hz
  replace hz : z = a := hz.trans (IntWalk.wrap64_in _ (by omega))
  subst hz
  conv => whnf
  repeat (refine ⟨by first | omega | (simp only [Option.getD_none, Option.getD_some]; omega) | (simp; done) | (simp; omega), ?_⟩; conv => whnf)
  intro n hn
  replace hn : n = (c : Int) := hn.trans hc
  subst hn
  conv => whnf
  repeat (refine ⟨by first | omega | (simp only [Option.getD_none, Option.getD_some]; omega) | (simp; done) | (simp; omega), ?_⟩; conv => whnf)
  first | refine .inr (.inl ⟨_, hnew, ?_⟩) | refine .inl (.inr (.inl ⟨_, hnew, ?_⟩))
  conv => whnf
  repeat (refine ⟨by first | omega | (simp only [Option.getD_none, Option.getD_some]; omega) | (simp; done) | (simp; omega), ?_⟩; conv => whnf)
  refine ⟨[], [1, 4, 5, 6, 7, 8], [7], ?_⟩
  apply Exists.intro
  conv => whnf
  refine loopK (fun j : Nat => 4 - j) (fun j => j ≤ 4) (fun j => ⟨lay 256 0 [(1, vP l), (4, vB false), (5, vB true), (6, vI (c : Int)), (7, pB 7), (8, vI (j : Int))], [(7, .cells ySys (cS (sysE t0 j)))], []⟩) ?_ 0 rfl rfl (Nat.zero_le _)
  intro j ih hj hih
  obtain ⟨q1, q2, q3, _, _⟩ := hsys j hj
  conv => whnf
  refine dcase (fun h4 => ?_) (fun h4 => ?_)
  · replace h4 : (j : Int) < 4 := h4
    have hmk := s_evMake (sysE t0 j) (j : Int) (oddB (j : Int)) (by omega) (by omega) q1.fits
    rw [← odd_tmod (show (0 : Int) ≤ (j : Int) by omega)] at hmk
    have hcl : (((sysE t0 (j + 1)).2.1.length : Nat) : Int) = (c : Int) := by rw [(hsys (j + 1) (by omega)).2.1.cores]
    obtain ⟨t, ht⟩ : ∃ t, sysE t0 (j + 1) = t := ⟨_, rfl⟩
    have hnx := hih (j + 1) (by omega) (by omega)
    rw [show mkE (sysE t0 j) (j : Int) (decide ((j : Int).tmod 2 = 1)) = t by rw [← ht, odd_tmod (by omega)]; rfl] at hmk
    rw [ht] at hnx hcl
    conv => whnf
    repeat (refine ⟨by first | omega | (simp only [Option.getD_none, Option.getD_some]; omega) | (simp; done) | (simp; omega), ?_⟩; conv => whnf)
    first | refine .inr (.inl ⟨_, hmk, ?_⟩) | refine .inl (.inr (.inl ⟨_, hmk, ?_⟩))
    conv => whnf
    repeat (refine ⟨by first | omega | (simp only [Option.getD_none, Option.getD_some]; omega) | (simp; done) | (simp; omega), ?_⟩; conv => whnf)
    refine dcase (fun h => absurd hcl h) (fun _ => ?_)
    conv => whnf
    repeat (refine ⟨by first | omega | (simp only [Option.getD_none, Option.getD_some]; omega) | (simp; done) | (simp; omega), ?_⟩; conv => whnf)
    intro w1 hw1
    replace hw1 : w1 = ((j + 1 : Nat) : Int) := by rw [IntWalk.wrap64_in _ (by omega)] at hw1; omega
    subst hw1
    conv => whnf
    exact hnx
  replace h4 : ¬ (j : Int) < 4 := h4
  have hj4 : j = 4 := by omega
  subst hj4
  obtain ⟨_, _, _, _, q5⟩ := hsys 4 hj
  have hsL : (sysE t0 4).2.2.1 = [] := by rw [show (sysE t0 4).2 = t0.2 from q3, hLn]
  have hsC : ∀ k : Nat, (cAt (sysE t0 4).2.1 k).1 = [] := fun k => by rw [show (sysE t0 4).2 = t0.2 from q3]; exact hCn k
  obtain ⟨s0, hs0⟩ : ∃ s0, sysE t0 4 = s0 := ⟨_, rfl⟩
  rw [hs0] at q1 q2 q5 hsL hsC ⊢
  have hLe : LegI 0 s0.1.1 s0.2.2.1 := by
    have key : ∀ e : Int, 0 ≤ e → e ≤ 3 → nI s0.1.1 (80 + e) = selfI (oddB e) := fun e h0 h1 => q5 e h0 (by show e < 4; omega)
    refine ⟨fun e h0 h1 => ?_, fun e h0 h1 => ?_, fun e h0 h1 => ?_⟩
    · rw [key e h0 h1]; cases oddB e <;> exact ⟨by decide, by show _ ≤ (0 : Int); decide⟩
    · rw [key e h0 h1]; cases oddB e <;> rfl
    · rw [key e h0 h1, hsL]; cases oddB e <;> rfl
  have hFr : FromI c (List.replicate c 0) s0 := ⟨List.length_replicate, fun k _ hne => absurd (hsC k) hne⟩
  clear hnew hFn hIn hln hLn hCn hsys hih h4 q3 q5 hs0 hsL hsC hc
  conv => whnf
  refine ⟨⟨by omega, by omega, rfl⟩, ?_⟩
  conv => whnf
  repeat (refine ⟨by first | omega | (simp only [Option.getD_none, Option.getD_some]; omega) | (simp; done) | (simp; omega), ?_⟩; conv => whnf)
  refine ⟨[(11, 60, yInt, tI)], [1, 4, 5, 6, 7, 11, 12], [7, 60], ?_⟩
  apply Exists.intro
  conv => whnf
  refine loopK (fun y : Nat × Sy × Li => l.length - y.1) (fun y => y.1 ≤ l.length ∧ EvI c QL y.2.1 ∧ Fin y.1 y.2.1 ∧ LegI (y.1 : Int) y.2.1.1.1 y.2.1.2.2.1 ∧ FromI c y.2.2 y.2.1) (fun y => ⟨lay 256 0 [(1, vP l), (4, vB false), (5, vB true), (6, vI (c : Int)), (7, pB 7), (11, .one (.row 60)), (12, vI (y.1 : Int))], [(7, .cells ySys (cS y.2.1)), (60, .row yInt tI y.2.2)], []⟩) ?_ (0, s0, List.replicate c 0) rfl rfl ⟨Nat.zero_le _, q2, q1, hLe, hFr⟩
  clear hLe hFr q1 q2 ih hj
  intro ⟨i, s, F⟩ ih ⟨hi, hI, hF, hL, hFm⟩ hih
  simp only at hi hI hF hL hFm hih
  conv => whnf
  refine dcase (fun h3 => ?_) (fun h3 => ?_)
  · replace h3 : (i : Int) < l.length := h3
    obtain ⟨x, hx⟩ : ∃ x, pick l i = x := ⟨_, rfl⟩
    obtain ⟨x0, x1⟩ := pick_in hw (show i < l.length by omega)
    rw [hx] at x0 x1
    have hx2 : List.getD l ((i : Int)).toNat (dflt (.int .u16)) = x := hx
    obtain ⟨k, hk, hkx⟩ : ∃ k : Nat, k < c ∧ x.tmod (c : Int) = (k : Int) := by
      rw [Int.tmod_eq_emod_of_nonneg x0]
      have h1 := Int.emod_nonneg x (show (c : Int) ≠ 0 by omega)
      have h2 := Int.emod_lt_of_pos x (show (0 : Int) < c by omega)
      exact ⟨(x % c).toNat, by omega, by omega⟩
    conv => whnf
    refine ⟨⟨by omega, h3⟩, ?_⟩
    conv => whnf
    rw [hx2]
    intro y hy
    replace hy : y = x := hy.trans (IntWalk.wrap64_in _ (by omega))
    subst hy
    conv => whnf
    refine ⟨by omega, ?_⟩
    conv => whnf
    rw [hkx]
    obtain ⟨op, hop, op1⟩ : ∃ op : Int, 19 + y / 8 % 3 = op ∧ (19 ≤ op ∧ op ≤ 21) := ⟨_, rfl, by omega⟩
    obtain ⟨e, he, e0, e3⟩ : ∃ e : Int, (y / 32).tmod 4 = e ∧ 0 ≤ e ∧ e ≤ 3 := ⟨_, rfl, by rw [Int.tmod_eq_emod_of_nonneg (by omega)]; omega, by rw [Int.tmod_eq_emod_of_nonneg (by omega)]; omega⟩
    obtain ⟨hI2, hm2, hl2, f, r, hcr, hf, hq, hfn, hfs⟩ := hI.beg hk op1 ⟨e0, by omega⟩ ⟨e, e0, e3, evQ0 op e⟩
    have hF2 : Fin i (begE s k op e) := hF.begE
    obtain ⟨F2, hF2i, hF2b, hFm2, hSi⟩ := FromI.beg hI hFm hk hl2
    obtain ⟨u, hu⟩ : ∃ u, begE s k op e = u := ⟨_, rfl⟩
    rw [hu] at hI2 hm2 hl2 hcr hF2 hfs hFm2 hSi
    have hu1 : (cAt s.2.1 k).1 = [] → callS s k op e 0 0 = u := fun e => by rw [← hu]; exact (if_pos (by rw [e]; rfl)).symm
    have hev := s_evS u k (hF2.fine (by omega)) (fun g hg => by
      rw [topI_is (by omega) (by rw [hI2.cores]; omega), hcr] at hg
      rw [← Option.some.inj hg]; exact hf)
    have hFt : Fin (i + 1) (evS u k) := evS_fin hF2
    rw [← hm2, ← hl2] at hL
    obtain ⟨hIt, hLt, hcase⟩ := leg_step hI2 hk hcr hf hq (show (i : Int) ≤ 1000000 by omega) hL
    obtain ⟨hFmt, hends, hlines⟩ := FromI.step hI2 hFm2 hk hcr hf hSi hcase
    have hkF1 : (0 : Int) ≤ (k : Int) ∧ (k : Int) < (F.length : Int) := ⟨by omega, by rw [hFm.1]; omega⟩
    have hkN : ((k : Int)).toNat < F.length := by rw [Int.toNat_natCast, hFm.1]; exact hk
    clear hcase hFm hL hu
    obtain ⟨t, ht⟩ : ∃ t, evS u k = t := ⟨_, rfl⟩
    rw [ht] at hev hFt hIt hLt hFmt hends hlines
    have hnext := hih (i + 1, t, F2) ⟨by show i + 1 ≤ _; omega, hIt, hFt, hLt, hFmt⟩ (by show l.length - (i + 1) < _; omega)
    have hcl : (t.2.1.length : Int) = (c : Int) := by rw [hIt.cores]
    have hul : k < u.2.1.length := by rw [hI2.cores]; exact hk
    have htl : k < t.2.1.length := by rw [hIt.cores]; exact hk
    have e8 : IntKind.u16.wrap ((List.getD l ((i : Int)).toNat (dflt (.int .u16))).tdiv 8) = y / 8 := by rw [hx2]; exact vU16_q x0 x1 8 (by decide)
    have e64 : wrap64 (y / 8) = y / 8 := IntWalk.wrap64_in _ (by omega)
    have e32 : IntKind.u16.wrap ((List.getD l ((i : Int)).toNat (dflt (.int .u16))).tdiv 32) = y / 32 := by rw [hx2]; exact vU16_q x0 x1 32 (by decide)
    have e65 : wrap64 (y / 32) = y / 32 := IntWalk.wrap64_in _ (by omega)
    have e19 : wrap64 (19 + (y / 8).tmod 3) = op := by rw [Int.tmod_eq_emod_of_nonneg (by omega), hop]; exact IntWalk.wrap64_in _ (by omega)
    have hkF : (0 : Int) ≤ (k : Int) ∧ (k : Int) < (F2.length : Int) := ⟨by omega, by rw [hFmt.1]; omega⟩
    have hkN2 : ((k : Int)).toNat < F2.length := by rw [Int.toNat_natCast, hFmt.1]; exact hk
    have hgood : t.1.2.2.1 = false := hIt.good
    obtain ⟨f0, hf0⟩ : ∃ f0, nI F2 k = f0 := ⟨_, rfl⟩
    obtain ⟨f00, f01, _⟩ := hSi
    rw [hf0] at f00 f01 hlines
    have hlt : (t.2.2.1.length : Int) = (u.2.2.1.length : Int) ∨ (t.2.2.1.length : Int) = (u.2.2.1.length : Int) + 1 := by rcases hends with h | h <;> omega
    have hkU : (0 : Int) ≤ (k : Int) ∧ (k : Int) < (u.2.1.length : Int) := ⟨by omega, by omega⟩
    have hcr2 : List.getD u.2.1 ((k : Int)).toNat (dflt tCore) = ([f], r) := hcr
    have hf1 : (0 : Int) ≤ 0 ∧ (0 : Int) < ((List.getD u.2.1 ((k : Int)).toNat (dflt tCore)).1.length : Int) := ⟨by decide, by rw [hcr2]; show (0 : Int) < ((1 : Nat) : Int); decide⟩
    have hfe : List.getD (List.getD u.2.1 ((k : Int)).toNat (dflt tCore)).1 (0 : Int).toNat (dflt tFrame) = f := by rw [hcr2]; rfl
    have hf0' : List.getD F2 ((k : Int)).toNat (dflt tI) = f0 := hf0
    have hn1 : ¬ (t.2.2.1.length : Int) < f0 := by omega
    have hlL : t.2.2.1.length ≤ 400 := by have := hFt.log; omega
    obtain ⟨q0, hq0⟩ : ∃ q0 : Nat, f0 = (q0 : Int) := ⟨f0.toNat, by omega⟩
    rw [hq0] at hf0' hlines f00 f01 hn1
    have hn2 : ¬ (t.2.2.1.length : Int) < List.getD F2 ((k : Int)).toNat (dflt tI) := by rw [hf0']; exact hn1
    obtain ⟨O, hO0, hO1⟩ : ∃ O : Nat → Int, (∀ q, q ≤ u.2.2.1.length → O q = 0) ∧ (∀ q, u.2.2.1.length < q → O q = 1) := ⟨fun q => if q ≤ u.2.2.1.length then 0 else 1, fun q h => if_pos h, fun q h => if_neg (by omega)⟩
    have hkT : (0 : Int) ≤ (k : Int) ∧ (k : Int) < (t.2.1.length : Int) := ⟨by omega, by omega⟩
    rcases evTop hI hk with ⟨htn, hidle⟩ | ⟨g, htg, hg, _, _⟩
    · have hcall := s_refCall s k op e 0 0 (Nat.le_trans hF.cores (by decide))
      rw [hu1 hidle, ← he] at hcall
      have hFF2 : List.set F ((k : Int)).toNat ((u.2.2.1.length : Nat) : Int) = F2 := by rw [Int.toNat_natCast, hl2]; exact (hF2i hidle).symm
      first | refine .inr (.inl ⟨_, s_refTopNo htn (hF.fine (by omega)), ?_⟩) | refine .inl (.inr (.inl ⟨_, s_refTopNo htn (hF.fine (by omega)), ?_⟩))
      conv => whnf
      repeat (refine ⟨by first | omega | (simp only [Option.getD_none, Option.getD_some]; omega) | (simp; done) | (simp; omega), ?_⟩; conv => whnf)
      refine ⟨p_hazellaw12_EventLegal_20, g_hazellaw12_EventLegal_20, by kernel_rfl, ?st1, ?_, ?_⟩
      rotate_left
      · conv => whnf
        repeat' (first | (refine ⟨⟨by omega, h3⟩, ?_⟩; conv => whnf) | (refine ⟨(by decide), ?_⟩; conv => whnf) | ((intro z hz; replace hz : z = y / 8 := hz.trans e8; subst hz; conv => whnf)) | ((intro z hz; replace hz : z = y / 8 := hz.trans e64; subst hz; conv => whnf)) | ((intro z hz; replace hz : op = z := (hz.trans e19).symm; subst hz; conv => whnf)) | (refine ⟨⟨by omega, h3⟩, ?_⟩; conv => whnf) | (refine ⟨(by decide), ?_⟩; conv => whnf) | ((intro z hz; replace hz : z = y / 32 := hz.trans e32; subst hz; conv => whnf)) | ((intro z hz; replace hz : z = y / 32 := hz.trans e65; subst hz; conv => whnf)) | (refine .inr (.inl ⟨_, hcall, ?_⟩); conv => whnf) | (refine .inl (.inr (.inl ⟨_, hcall, ?_⟩)); conv => whnf) | (refine And.intro ?_ ?_ <;> conv => whnf) | exact rfl)
      conv => whnf
      refine ⟨hkF1, ?_⟩
      conv => whnf
      refine ⟨hkN, ?_⟩
      conv => whnf
      rw [hFF2]
      conv => whnf
      refine ⟨hkU, ?_⟩
      conv => whnf
      refine ⟨hf1, ?_⟩
      conv => whnf
      rw [hfe]
      conv => whnf
      repeat (refine ⟨by first | omega | (simp only [Option.getD_none, Option.getD_some]; omega) | (simp; done) | (simp; omega), ?_⟩; conv => whnf)
      first | refine .inr (.inl ⟨_, hev, ?_⟩) | refine .inl (.inr (.inl ⟨_, hev, ?_⟩))
      conv => whnf
      repeat (refine ⟨by first | omega | (simp only [Option.getD_none, Option.getD_some]; omega) | (simp; done) | (simp; omega), ?_⟩; conv => whnf)
      refine ⟨p_hazellaw12_EventLegal_24, g_hazellaw12_EventLegal_24, by kernel_rfl, ?st2, ?_, ?_⟩
      rotate_left
      · conv => whnf
        repeat' (first | ((refine dcase (fun h => absurd hcl h) (fun _ => ?_); conv => whnf)) | ((refine bcase (fun h => Bool.noConfusion (h.symm.trans hgood)) (fun _ => ?_); conv => whnf)) | (refine ⟨hkF, ?_⟩; conv => whnf) | (refine ⟨hkN2, ?_⟩; conv => whnf) | (refine And.intro ?_ ?_ <;> conv => whnf) | exact rfl)
      conv => whnf
      repeat (refine ⟨by first | omega | (simp only [Option.getD_none, Option.getD_some]; omega) | (simp; done) | (simp; omega), ?_⟩; conv => whnf)
      refine dcase (fun h => absurd h hn2) (fun _ => ?_)
      conv => whnf
      refine ⟨hkF, ?_⟩
      conv => whnf
      refine ⟨hkN2, ?_⟩
      conv => whnf
      rw [hf0']
      conv => whnf
      refine ⟨[], [1, 4, 5, 6, 7, 11, 12, 13, 16, 17, 18], [7, 16, 60], ?_⟩
      apply Exists.intro
      conv => whnf
      refine loopK (fun q : Nat => t.2.2.1.length - q) (fun q => q0 ≤ q ∧ q ≤ t.2.2.1.length) (fun q => ⟨lay 256 0 [(1, vP l), (4, vB false), (5, vB true), (6, vI (c : Int)), (7, pB 7), (11, .one (.row 60)), (12, vI (i : Int)), (13, vI (k : Int)), (16, pB 16), (17, vI (O q)), (18, vI (q : Int))], [(7, .cells ySys (cS t)), (16, .cells yFrame (cF f)), (60, .row yInt tI F2)], []⟩) ?_ q0 rfl (by show _ = (⟨lay 256 0 [(1, vP l), (4, vB false), (5, vB true), (6, vI (c : Int)), (7, pB 7), (11, .one (.row 60)), (12, vI (i : Int)), (13, vI (k : Int)), (16, pB 16), (17, vI (O q0)), (18, vI (q0 : Int))], [(7, .cells ySys (cS t)), (16, .cells yFrame (cF f)), (60, .row yInt tI F2)], []⟩ : St); rw [hO0 q0 (by omega)]; rfl) ⟨Nat.le_refl _, by omega⟩
      intro q ih2 ⟨hq1, hq2⟩ hih2
      conv => whnf
      refine dcase (fun hq3 => ?_) (fun hq3 => ?_)
      · replace hq3 : (q : Int) < t.2.2.1.length := hq3
        have hnx2 := hih2 (q + 1) ⟨by omega, by omega⟩ (by omega)
        have hin : (0 : Int) ≤ (q : Int) ∧ (q : Int) < (t.2.2.1.length : Int) := ⟨by omega, hq3⟩
        conv => whnf
        refine ⟨hin, ?_⟩
        conv => whnf
        rcases hlines q (by omega) (by omega) with ⟨hA, hA2⟩ | ⟨hA, hA2, hA3, hA4⟩
        · refine dcase (fun h => absurd h hA2) (fun _ => ?_)
          rw [show O (q + 1) = O q by rw [hO0 (q + 1) (by omega), hO0 q (by omega)]] at hnx2
          conv => whnf
          intro w1 hw1
          replace hw1 : w1 = ((q + 1 : Nat) : Int) := by rw [IntWalk.wrap64_in _ (by omega)] at hw1; omega
          subst hw1
          conv => whnf
          exact hnx2
        · refine dcase (fun _ => ?_) (fun h => absurd hA2 h)
          conv => whnf
          intro w2 hw2
          replace hw2 : w2 = O (q + 1) := by rw [hO0 q (by omega)] at hw2; rw [hO1 (q + 1) (by omega)]; exact hw2.trans (IntWalk.wrap64_in _ (by decide))
          subst hw2
          conv => whnf
          have hT0 : (cAt t.2.1 k).1 = [] := hends.elim (fun h => absurd h.1 (by omega)) (fun h => h.2.1)
          have hk0 : ((List.getD t.2.1 ((k : Int)).toNat (dflt tCore)).1.length : Int) = 0 := by rw [show (List.getD t.2.1 ((k : Int)).toNat (dflt tCore)).1 = [] from hT0]; rfl
          refine ⟨p_hazellaw12_EventLegal_32, g_hazellaw12_EventLegal_32, by kernel_rfl, ?st3, ?_, ?_⟩
          rotate_left
          · conv => whnf
            repeat' (first | (refine ⟨hin, ?_⟩; conv => whnf) | (refine ⟨hkT, ?_⟩; conv => whnf) | (refine ⟨(by decide), ?_⟩; conv => whnf) | ((refine dcase (fun h => absurd hA3 h) (fun _ => ?_); conv => whnf)) | ((refine dcase (fun _ => ?_) (fun h => absurd hk0 h); conv => whnf)) | (refine And.intro ?_ ?_ <;> conv => whnf) | exact rfl)
          conv => whnf
          repeat (refine ⟨by first | omega | (simp only [Option.getD_none, Option.getD_some]; omega) | (simp; done) | (simp; omega), ?_⟩; conv => whnf)
          refine dcase (fun h => absurd hA4 h) (fun _ => ?_)
          conv => whnf
          intro w1 hw1
          replace hw1 : w1 = ((q + 1 : Nat) : Int) := by rw [IntWalk.wrap64_in _ (by omega)] at hw1; omega
          subst hw1
          conv => whnf
          exact hnx2
      · replace hq3 : ¬ (q : Int) < t.2.2.1.length := hq3
        have hqe : q = t.2.2.1.length := by omega
        subst hqe
        conv => whnf
        refine ⟨hkT, ?_⟩
        conv => whnf
        rcases hends with ⟨g1, g2⟩ | ⟨g1, g2, g3⟩
        · have hk0 : ¬ ((List.getD t.2.1 ((k : Int)).toNat (dflt tCore)).1.length : Int) = 0 := fun h => g2 (List.eq_nil_of_length_eq_zero (Int.ofNat.inj h))
          have hO : O t.2.2.1.length = 0 := hO0 _ (by omega)
          have hbq : (decide (((List.getD t.2.1 ((k : Int)).toNat (dflt tCore)).1.length : Int) = 0) == decide (O t.2.2.1.length = 1)) = true := by rw [decide_eq_false hk0, hO]; rfl
          have ho1 : ¬ 1 < O t.2.2.1.length := by rw [hO]; decide
          refine ncaseb (fun h => Bool.noConfusion (h.symm.trans hbq)) (fun _ => ?_)
          conv => whnf
          refine dcase (fun h => absurd h ho1) (fun _ => ?_)
          conv => whnf
          refine dcase (fun h => absurd h hk0) (fun _ => ?_)
          conv => whnf
          intro w1 hw1
          replace hw1 : w1 = ((i + 1 : Nat) : Int) := by rw [IntWalk.wrap64_in _ (by omega)] at hw1; omega
          subst hw1
          conv => whnf
          exact hnext
        · have hk0 : ((List.getD t.2.1 ((k : Int)).toNat (dflt tCore)).1.length : Int) = 0 := by rw [show (List.getD t.2.1 ((k : Int)).toNat (dflt tCore)).1 = [] from g2]; rfl
          have hO : O t.2.2.1.length = 1 := hO1 _ (by omega)
          have hbq : (decide (((List.getD t.2.1 ((k : Int)).toNat (dflt tCore)).1.length : Int) = 0) == decide (O t.2.2.1.length = 1)) = true := by rw [decide_eq_true hk0, hO]; rfl
          have ho1 : ¬ 1 < O t.2.2.1.length := by rw [hO]; decide
          refine ncaseb (fun h => Bool.noConfusion (h.symm.trans hbq)) (fun _ => ?_)
          conv => whnf
          refine dcase (fun h => absurd h ho1) (fun _ => ?_)
          conv => whnf
          refine dcase (fun _ => ?_) (fun h => absurd hk0 h)
          conv => whnf
          refine ⟨hkT, ?_⟩
          conv => whnf
          refine dcase (fun h => absurd g3 h) (fun _ => ?_)
          conv => whnf
          intro w1 hw1
          replace hw1 : w1 = ((i + 1 : Nat) : Int) := by rw [IntWalk.wrap64_in _ (by omega)] at hw1; omega
          subst hw1
          conv => whnf
          exact hnext
    · have hne : (cAt s.2.1 k).1 ≠ [] := by rw [hg]; exact fun e => nomatch e
      obtain rfl := hfs hne
      obtain rfl := hF2b hne
      first | refine .inr (.inl ⟨_, s_refTopOf htg (hF.fine (by omega)), ?_⟩) | refine .inl (.inr (.inl ⟨_, s_refTopOf htg (hF.fine (by omega)), ?_⟩))
      conv => whnf
      refine ⟨hkU, ?_⟩
      conv => whnf
      refine ⟨hf1, ?_⟩
      conv => whnf
      rw [hfe]
      conv => whnf
      repeat (refine ⟨by first | omega | (simp only [Option.getD_none, Option.getD_some]; omega) | (simp; done) | (simp; omega), ?_⟩; conv => whnf)
      first | refine .inr (.inl ⟨_, hev, ?_⟩) | refine .inl (.inr (.inl ⟨_, hev, ?_⟩))
      conv => whnf
      repeat (refine ⟨by first | omega | (simp only [Option.getD_none, Option.getD_some]; omega) | (simp; done) | (simp; omega), ?_⟩; conv => whnf)
      refine ⟨p_hazellaw12_EventLegal_24, g_hazellaw12_EventLegal_24, by kernel_rfl, ?st4, ?_, ?_⟩
      rotate_left
      · conv => whnf
        repeat' (first | ((refine dcase (fun h => absurd hcl h) (fun _ => ?_); conv => whnf)) | ((refine bcase (fun h => Bool.noConfusion (h.symm.trans hgood)) (fun _ => ?_); conv => whnf)) | (refine ⟨hkF, ?_⟩; conv => whnf) | (refine ⟨hkN2, ?_⟩; conv => whnf) | (refine And.intro ?_ ?_ <;> conv => whnf) | exact rfl)
      conv => whnf
      repeat (refine ⟨by first | omega | (simp only [Option.getD_none, Option.getD_some]; omega) | (simp; done) | (simp; omega), ?_⟩; conv => whnf)
      refine dcase (fun h => absurd h hn2) (fun _ => ?_)
      conv => whnf
      refine ⟨hkF, ?_⟩
      conv => whnf
      refine ⟨hkN2, ?_⟩
      conv => whnf
      rw [hf0']
      conv => whnf
      refine ⟨[], [1, 4, 5, 6, 7, 11, 12, 13, 16, 17, 18], [7, 16, 60], ?_⟩
      apply Exists.intro
      conv => whnf
      refine loopK (fun q : Nat => t.2.2.1.length - q) (fun q => q0 ≤ q ∧ q ≤ t.2.2.1.length) (fun q => ⟨lay 256 0 [(1, vP l), (4, vB false), (5, vB true), (6, vI (c : Int)), (7, pB 7), (11, .one (.row 60)), (12, vI (i : Int)), (13, vI (k : Int)), (16, pB 16), (17, vI (O q)), (18, vI (q : Int))], [(7, .cells ySys (cS t)), (16, .cells yFrame (cF f)), (60, .row yInt tI F2)], []⟩) ?_ q0 rfl (by show _ = (⟨lay 256 0 [(1, vP l), (4, vB false), (5, vB true), (6, vI (c : Int)), (7, pB 7), (11, .one (.row 60)), (12, vI (i : Int)), (13, vI (k : Int)), (16, pB 16), (17, vI (O q0)), (18, vI (q0 : Int))], [(7, .cells ySys (cS t)), (16, .cells yFrame (cF f)), (60, .row yInt tI F2)], []⟩ : St); rw [hO0 q0 (by omega)]; rfl) ⟨Nat.le_refl _, by omega⟩
      intro q ih2 ⟨hq1, hq2⟩ hih2
      conv => whnf
      refine dcase (fun hq3 => ?_) (fun hq3 => ?_)
      · replace hq3 : (q : Int) < t.2.2.1.length := hq3
        have hnx2 := hih2 (q + 1) ⟨by omega, by omega⟩ (by omega)
        have hin : (0 : Int) ≤ (q : Int) ∧ (q : Int) < (t.2.2.1.length : Int) := ⟨by omega, hq3⟩
        conv => whnf
        refine ⟨hin, ?_⟩
        conv => whnf
        rcases hlines q (by omega) (by omega) with ⟨hA, hA2⟩ | ⟨hA, hA2, hA3, hA4⟩
        · refine dcase (fun h => absurd h hA2) (fun _ => ?_)
          rw [show O (q + 1) = O q by rw [hO0 (q + 1) (by omega), hO0 q (by omega)]] at hnx2
          conv => whnf
          intro w1 hw1
          replace hw1 : w1 = ((q + 1 : Nat) : Int) := by rw [IntWalk.wrap64_in _ (by omega)] at hw1; omega
          subst hw1
          conv => whnf
          exact hnx2
        · refine dcase (fun _ => ?_) (fun h => absurd hA2 h)
          conv => whnf
          intro w2 hw2
          replace hw2 : w2 = O (q + 1) := by rw [hO0 q (by omega)] at hw2; rw [hO1 (q + 1) (by omega)]; exact hw2.trans (IntWalk.wrap64_in _ (by decide))
          subst hw2
          conv => whnf
          have hT0 : (cAt t.2.1 k).1 = [] := hends.elim (fun h => absurd h.1 (by omega)) (fun h => h.2.1)
          have hk0 : ((List.getD t.2.1 ((k : Int)).toNat (dflt tCore)).1.length : Int) = 0 := by rw [show (List.getD t.2.1 ((k : Int)).toNat (dflt tCore)).1 = [] from hT0]; rfl
          refine ⟨p_hazellaw12_EventLegal_32, g_hazellaw12_EventLegal_32, by kernel_rfl, ?st5, ?_, ?_⟩
          rotate_left
          · conv => whnf
            repeat' (first | (refine ⟨hin, ?_⟩; conv => whnf) | (refine ⟨hkT, ?_⟩; conv => whnf) | (refine ⟨(by decide), ?_⟩; conv => whnf) | ((refine dcase (fun h => absurd hA3 h) (fun _ => ?_); conv => whnf)) | ((refine dcase (fun _ => ?_) (fun h => absurd hk0 h); conv => whnf)) | (refine And.intro ?_ ?_ <;> conv => whnf) | exact rfl)
          conv => whnf
          repeat (refine ⟨by first | omega | (simp only [Option.getD_none, Option.getD_some]; omega) | (simp; done) | (simp; omega), ?_⟩; conv => whnf)
          refine dcase (fun h => absurd hA4 h) (fun _ => ?_)
          conv => whnf
          intro w1 hw1
          replace hw1 : w1 = ((q + 1 : Nat) : Int) := by rw [IntWalk.wrap64_in _ (by omega)] at hw1; omega
          subst hw1
          conv => whnf
          exact hnx2
      · replace hq3 : ¬ (q : Int) < t.2.2.1.length := hq3
        have hqe : q = t.2.2.1.length := by omega
        subst hqe
        conv => whnf
        refine ⟨hkT, ?_⟩
        conv => whnf
        rcases hends with ⟨g1, g2⟩ | ⟨g1, g2, g3⟩
        · have hk0 : ¬ ((List.getD t.2.1 ((k : Int)).toNat (dflt tCore)).1.length : Int) = 0 := fun h => g2 (List.eq_nil_of_length_eq_zero (Int.ofNat.inj h))
          have hO : O t.2.2.1.length = 0 := hO0 _ (by omega)
          have hbq : (decide (((List.getD t.2.1 ((k : Int)).toNat (dflt tCore)).1.length : Int) = 0) == decide (O t.2.2.1.length = 1)) = true := by rw [decide_eq_false hk0, hO]; rfl
          have ho1 : ¬ 1 < O t.2.2.1.length := by rw [hO]; decide
          refine ncaseb (fun h => Bool.noConfusion (h.symm.trans hbq)) (fun _ => ?_)
          conv => whnf
          refine dcase (fun h => absurd h ho1) (fun _ => ?_)
          conv => whnf
          refine dcase (fun h => absurd h hk0) (fun _ => ?_)
          conv => whnf
          intro w1 hw1
          replace hw1 : w1 = ((i + 1 : Nat) : Int) := by rw [IntWalk.wrap64_in _ (by omega)] at hw1; omega
          subst hw1
          conv => whnf
          exact hnext
        · have hk0 : ((List.getD t.2.1 ((k : Int)).toNat (dflt tCore)).1.length : Int) = 0 := by rw [show (List.getD t.2.1 ((k : Int)).toNat (dflt tCore)).1 = [] from g2]; rfl
          have hO : O t.2.2.1.length = 1 := hO1 _ (by omega)
          have hbq : (decide (((List.getD t.2.1 ((k : Int)).toNat (dflt tCore)).1.length : Int) = 0) == decide (O t.2.2.1.length = 1)) = true := by rw [decide_eq_true hk0, hO]; rfl
          have ho1 : ¬ 1 < O t.2.2.1.length := by rw [hO]; decide
          refine ncaseb (fun h => Bool.noConfusion (h.symm.trans hbq)) (fun _ => ?_)
          conv => whnf
          refine dcase (fun h => absurd h ho1) (fun _ => ?_)
          conv => whnf
          refine dcase (fun _ => ?_) (fun h => absurd hk0 h)
          conv => whnf
          refine ⟨hkT, ?_⟩
          conv => whnf
          refine dcase (fun h => absurd g3 h) (fun _ => ?_)
          conv => whnf
          intro w1 hw1
          replace hw1 : w1 = ((i + 1 : Nat) : Int) := by rw [IntWalk.wrap64_in _ (by omega)] at hw1; omega
          subst hw1
          conv => whnf
          exact hnext
  replace h3 : ¬ (i : Int) < l.length := h3
  have hll : s.2.2.1.length ≤ 300 := by have := hF.log; omega
  have hfit : s.1.1.length = 124 + 4 * s.1.2.1.length := hI.fits.1
  have htwo := hI.two
  clear hih h3 hI hF hFm
  conv => whnf
  refine ⟨[], [4, 5, 7, 20], [7], ?_⟩
  apply Exists.intro
  conv => whnf
  refine loopK (fun j : Nat => 4 - j) (fun j => j ≤ 4) (fun j => ⟨lay 256 0 [(4, vB false), (5, vB true), (7, pB 7), (20, vI (j : Int))], [(7, .cells ySys (cS s))], []⟩) ?_ 0 rfl rfl (Nat.zero_le _)
  intro j ih hj hih
  conv => whnf
  refine dcase (fun h4 => ?_) (fun h4 => ?_)
  · replace h4 : (j : Int) < 4 := h4
    have hpl := hL.play (j : Int) (by omega) (by omega)
    have hmk := hL.mark (j : Int) (by omega) (by omega)
    have hsp := s_Play12 s.2.2.1 (j : Int) (oddB (j : Int)) _ hpl (by omega)
    have his := s_evIs s (j : Int) (by omega) (by omega) (by omega)
    rw [← odd_tmod (show (0 : Int) ≤ (j : Int) by omega)] at hsp
    have hmb : decide (nI s.1.1 (80 + (j : Int)) % 2 = 1) = decide ((j : Int).tmod 2 = 1) := by rw [odd_tmod (by omega), hmk]; cases oddB (j : Int) <;> rfl
    rw [hmb] at his
    obtain ⟨b1, hb1⟩ : ∃ b1, decide (idxI (nI s.1.1 (80 + (j : Int))) ≠ 0) = b1 := ⟨_, rfl⟩
    rw [hb1] at hsp his
    have hnx := hih (j + 1) (by omega) (by omega)
    conv => whnf
    repeat (refine ⟨by first | omega | (simp only [Option.getD_none, Option.getD_some]; omega) | (simp; done) | (simp; omega), ?_⟩; conv => whnf)
    first | refine .inl ⟨_, hsp, ?_⟩ | refine .inl (.inl ⟨_, hsp, ?_⟩)
    conv => whnf
    repeat (refine ⟨by first | omega | (simp only [Option.getD_none, Option.getD_some]; omega) | (simp; done) | (simp; omega), ?_⟩; conv => whnf)
    first | refine .inl ⟨_, his, ?_⟩ | refine .inl (.inl ⟨_, his, ?_⟩)
    conv => whnf
    repeat (refine ⟨by first | omega | (simp only [Option.getD_none, Option.getD_some]; omega) | (simp; done) | (simp; omega), ?_⟩; conv => whnf)
    rw [beq_self_b]
    conv => whnf
    refine ⟨by decide, ?_⟩
    conv => whnf
    rw [beq_self_b]
    conv => whnf
    intro w1 hw1
    replace hw1 : w1 = ((j + 1 : Nat) : Int) := by rw [IntWalk.wrap64_in _ (by omega)] at hw1; omega
    subst hw1
    conv => whnf
    exact hnx
  · skip
    conv => whnf
    repeat (refine ⟨by first | omega | (simp only [Option.getD_none, Option.getD_some]; omega) | (simp; done) | (simp; omega), ?_⟩; conv => whnf)
    first | exact .inl rfl | exact .inr rfl
end Go.Proofs.YtlcjkogdbleboaaGreat.V
