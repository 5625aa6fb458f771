/- EventTags: the law, walked. -/
import Derived.Test.YtlcjkogdbleboaaGreatE7
set_option linter.unusedSimpArgs false
set_option linter.unusedVariables false
namespace Go.Proofs.YtlcjkogdbleboaaGreat.V
open Go Go.RowKit Go.Proofs.YtlcjkogdbleboaaGreat.Hz
set_option maxRecDepth 100000

set_option maxHeartbeats 4000000 in
theorem s_EventTags (a : Int) (ha0 : 0 ≤ a) (ha1 : a ≤ 255) (b : Bool) (l : Lp) (hw : ∀ x ∈ l, WFd (.int .u16) x) : Spec Tryz.prog 10 [.one (.int .u8 a), vB b, vP l] (vB true) := by
  obtain ⟨c, c1, c8, hc⟩ := cores_of ha0 ha1
  have hnew := s_refNewF c 1 (by decide) (by decide) (by omega) (by omega)
  have hfin : Fin 0 (newF (c : Int) 1) := newF_fin (by decide) (by decide) (by omega)
  have hmk := s_refMake12 (newF (c : Int) 1) 2 b (by decide) (by decide) hfin.fits
  have hI0 : EvI c (EvQ 2) (mkE (newF (c : Int) ((1 : Nat) : Int)) 2 b) := (newF_evI (by decide) (by decide) c1 c8).make (by decide) (by decide)
  replace hI0 : EvI c (EvQ 2) (mkE (newF (c : Int) 1) 2 b) := hI0
  have hF0 : Fin 0 (mkE (newF (c : Int) 1) 2 b) := mkE_fin hfin
  have hw0 : nI (mkE (newF (c : Int) 1) 2 b).1.1 82 = selfI b := by
    rw [mkE_is (by decide) (by decide) hfin.fits]
    exact setW_self (by decide) (by have := (newF_mem (c := (c : Int)) (n := 1) (by decide) (by decide)).2.1; show 82 < ((newF (c : Int) ((1 : Nat) : Int)).1.1.length : Int); omega)
  generalize mkE (newF (c : Int) 1) 2 b = s0 at *
  generalize newF (c : Int) 1 = t0 at *
  have hself : selfI b = 0 ∨ selfI b = 1 := by cases b <;> simp [selfI]
  refine spec_introF true tab_ok 0 Tryz.func10 rfl (by kernel_rfl) rfl ?_
  conv => whnf
  first | refine .inl ⟨_, s_shown12, ?_⟩ | refine .inl (.inl ⟨_, s_shown12, ?_⟩)
  conv => whnf
  repeat (refine ⟨by first | omega | (simp only [Option.getD_none, Option.getD_some]; omega) | (simp; done) | (simp; omega), ?_⟩; conv => whnf)
  refine dcase (fun h => ?_) (fun hl => ?_)
  · skip
    conv => whnf
    repeat (refine ⟨by first | omega | (simp only [Option.getD_none, Option.getD_some]; omega) | (simp; done) | (simp; omega), ?_⟩; conv => whnf)
    first | exact .inl rfl | exact .inr rfl
  replace hl : l.length ≤ 100 := Int.ofNat_le.1 (Int.not_lt.1 hl)
  conv => whnf
  repeat (refine ⟨by first | omega | (simp only [Option.getD_none, Option.getD_some]; omega) | (simp; done) | (simp; omega), ?_⟩; conv => whnf)
  intro z hz
  replace hz : z = a := hz.trans (IntWalk.wrap64_in _ (by omega))
  subst hz
  conv => whnf
  repeat (refine ⟨by first | omega | (simp only [Option.getD_none, Option.getD_some]; omega) | (simp; done) | (simp; omega), ?_⟩; conv => whnf)
  intro n hn
  replace hn : n = (c : Int) := hn.trans hc
  subst hn
  conv => whnf
  repeat (refine ⟨by first | omega | (simp only [Option.getD_none, Option.getD_some]; omega) | (simp; done) | (simp; omega), ?_⟩; conv => whnf)
  first | refine .inr (.inl ⟨_, hnew, ?_⟩) | refine .inl (.inr (.inl ⟨_, hnew, ?_⟩))
  conv => whnf
  repeat (refine ⟨by first | omega | (simp only [Option.getD_none, Option.getD_some]; omega) | (simp; done) | (simp; omega), ?_⟩; conv => whnf)
  first | refine .inr (.inl ⟨_, hmk, ?_⟩) | refine .inl (.inr (.inl ⟨_, hmk, ?_⟩))
  conv => whnf
  repeat (refine ⟨by first | omega | (simp only [Option.getD_none, Option.getD_some]; omega) | (simp; done) | (simp; omega), ?_⟩; conv => whnf)
  refine ⟨[], [1, 2, 6, 7, 8, 9, 11], [9], ?_⟩
  apply Exists.intro
  conv => whnf
  refine loopK (fun y : Nat × Sy => l.length - y.1) (fun y => y.1 ≤ l.length ∧ EvI c (EvQ 2) y.2 ∧ Fin y.1 y.2 ∧ Tagd (nI y.2.1.1 82) y.1 ∧ nI y.2.1.1 82 % 2 = selfI b) (fun y => ⟨lay 157 0 [(1, vB b), (2, vP l), (6, vB false), (7, vB true), (8, vI (c : Int)), (9, pB 9), (11, vI (y.1 : Int))], [(9, .cells ySys (cS y.2))], []⟩) ?_ (0, s0) rfl rfl ⟨Nat.zero_le _, hI0, hF0, by rw [hw0]; rcases hself with e | e <;> rw [e] <;> exact ⟨by decide, by show _ ≤ (0 : Int); decide⟩, by rw [hw0]; rcases hself with e | e <;> rw [e] <;> rfl⟩
  clear hnew hmk hI0 hF0 hw0 hc hfin
  intro ⟨i, s⟩ ih ⟨hi, hI, hF, hT, hb⟩ hih
  simp only at hi hI hF hT hb hih
  conv => whnf
  refine dcase (fun h3 => ?_) (fun h3 => ?_)
  · replace h3 : (i : Int) < l.length := h3
    obtain ⟨x, hx⟩ : ∃ x, pick l i = x := ⟨_, rfl⟩
    obtain ⟨x0, x1⟩ := pick_in hw (show i < l.length by omega)
    rw [hx] at x0 x1
    have hx2 : List.getD l ((i : Int)).toNat (dflt (.int .u16)) = x := hx
    obtain ⟨k, hk, hkx⟩ : ∃ k : Nat, k < c ∧ x.tmod (c : Int) = (k : Int) := by
      rw [Int.tmod_eq_emod_of_nonneg x0]
      have h1 := Int.emod_nonneg x (show (c : Int) ≠ 0 by omega)
      have h2 := Int.emod_lt_of_pos x (show (0 : Int) < c by omega)
      exact ⟨(x % c).toNat, by omega, by omega⟩
    conv => whnf
    refine ⟨⟨by omega, h3⟩, ?_⟩
    conv => whnf
    rw [hx2]
    intro y hy
    replace hy : y = x := hy.trans (IntWalk.wrap64_in _ (by omega))
    subst hy
    conv => whnf
    refine ⟨by omega, ?_⟩
    conv => whnf
    rw [hkx]
    obtain ⟨op, hop, op1⟩ : ∃ op : Int, 19 + y / 8 % 3 = op ∧ (19 ≤ op ∧ op ≤ 21) := ⟨_, rfl, by omega⟩
    obtain ⟨hI2, hm2, hl2, f, r, hcr, hf, hq, hfn, hfs⟩ := hI.beg hk op1 ⟨by decide, by decide⟩ (evQ0 op 2)
    have hF2 : Fin i (begE s k op 2) := hF.begE
    obtain ⟨u, hu⟩ : ∃ u, begE s k op 2 = u := ⟨_, rfl⟩
    rw [hu] at hI2 hm2 hl2 hcr hF2 hfs
    have hu1 : (cAt s.2.1 k).1 = [] → callS s k op 2 0 0 = u := fun e => by rw [← hu]; exact (if_pos (by rw [e]; rfl)).symm
    have hev := s_evS u k (hF2.fine (by omega)) (fun g hg => by
      rw [topI_is (by omega) (by rw [hI2.cores]; omega), hcr] at hg
      rw [← Option.some.inj hg]; exact hf)
    have hFt : Fin (i + 1) (evS u k) := evS_fin hF2
    rw [← hm2] at hT hb
    obtain ⟨hIt, hlt, hwo, hm3, hcase⟩ := ev_word hI2 hk ⟨by decide, by decide⟩ hcr hf hq hT (by omega)
    obtain ⟨t, ht⟩ : ∃ t, evS u k = t := ⟨_, rfl⟩
    rw [ht] at hev hFt hIt hlt hwo hm3 hcase
    clear hfn hwo hm3
    have hTt : Tagd (nI t.1.1 82) (i + 1) ∧ nI t.1.1 82 % 2 = selfI b := by
      rcases hcase with ⟨e, _⟩ | ⟨e, _, _, _, _, e21⟩
      · rw [show (80 : Int) + 2 = 82 from rfl] at e
        rw [e]; exact ⟨⟨hT.1, by have := hT.2; omega⟩, hb⟩
      · rw [show (80 : Int) + 2 = 82 from rfl] at e e21
        obtain ⟨_, q2, _, q4⟩ := evN_is (op := f.1) hT (by omega)
        rw [e]
        refine ⟨q2, q4.trans ?_⟩
        unfold evMk
        by_cases h21 : f.1 = 21
        · rw [if_pos h21]
          rw [← hb]; exact (e21 h21).1.symm
        · rw [if_neg h21]
          omega
    have hnext := hih (i + 1, t) ⟨by show i + 1 ≤ _; omega, hIt, hFt, hTt.1, hTt.2⟩ (by show l.length - (i + 1) < _; omega)
    have hthree : (nI u.1.1 82 = nI t.1.1 82 ∧ t.2.2.1 = u.2.2.1) ∨ (nI u.1.1 82 = nI t.1.1 82 ∧ ∃ v, t.2.2.1 = List.append (α := Evt) u.2.2.1 [((k : Int), 12, 2, 0, v, ())]) ∨ (nI u.1.1 82 ≠ nI t.1.1 82 ∧ nI t.1.1 82 / 2097152 = nI u.1.1 82 / 2097152 + 1 ∧ ∃ ev, t.2.2.1 = List.append (α := Evt) u.2.2.1 [ev]) := by
      rcases hcase with ⟨e, ⟨e2, _⟩ | ⟨_, _, _, v, _, e2, _⟩⟩ | ⟨e, _, _, _, e2, _⟩
      · exact .inl ⟨e.symm, e2⟩
      · exact .inr (.inl ⟨e.symm, v, e2⟩)
      · have := (evN_is (op := f.1) hT (by omega)).1
        rw [show (80 : Int) + 2 = 82 from rfl] at e
        rw [← e] at this
        exact .inr (.inr ⟨fun h => by rw [← h] at this; omega, this, _, e2⟩)
    have hcl : (t.2.1.length : Int) = (c : Int) := by rw [hIt.cores]
    have hwl : (t.1.1.length : Int) = (u.1.1.length : Int) := by rw [hlt]
    have hlen : 132 ≤ u.1.1.length := by have h1 : u.1.1.length = 124 + 4 * u.1.2.1.length := hI2.fits.1; have := hI2.two; omega
    have hll : ¬ (t.2.2.1.length : Int) < (u.2.2.1.length : Int) := by
      rcases hcase with ⟨_, ⟨e, _⟩ | ⟨_, _, _, _, _, e, _⟩⟩ | ⟨_, _, _, _, e, _⟩
      · rw [e]; omega
      · rw [e]; show ¬ ((List.length (u.2.2.1 ++ [_]) : Nat) : Int) < _; rw [List.length_append]; omega
      · rw [e]; show ¬ ((List.length (u.2.2.1 ++ [_]) : Nat) : Int) < _; rw [List.length_append]; omega
    have hbit : (decide (Int.tmod (nI t.1.1 82) 2 = 1) == b) = true := by
      rw [Int.tmod_eq_emod_of_nonneg hTt.1.1, hTt.2]
      cases b <;> rfl
    have hd1 : wrap64 (Int.tdiv (nI t.1.1 82) 2097152) = nI t.1.1 82 / 2097152 := by
      rw [Int.tdiv_eq_ediv_of_nonneg hTt.1.1]
      have h1 := hTt.1.1
      have h2 := hTt.1.2
      exact IntWalk.wrap64_in _ (by omega)
    have hd2 : wrap64 (Int.tdiv (nI u.1.1 82) 2097152) = nI u.1.1 82 / 2097152 := by
      rw [Int.tdiv_eq_ediv_of_nonneg hT.1]
      have h1 := hT.1
      have h2 := hT.2
      exact IntWalk.wrap64_in _ (by omega)
    have hd3 : nI t.1.1 82 / 2097152 = nI u.1.1 82 / 2097152 + 1 → wrap64 (nI u.1.1 82 / 2097152 + 1) = nI t.1.1 82 / 2097152 := fun e => by
      have h1 := hT.1
      have h2 := hT.2
      rw [e]
      exact IntWalk.wrap64_in _ (by omega)
    have e8 : IntKind.u16.wrap ((List.getD l ((i : Int)).toNat (dflt (.int .u16))).tdiv 8) = y / 8 := by rw [hx2]; exact vU16_q x0 x1 8 (by decide)
    have e64 : wrap64 (y / 8) = y / 8 := IntWalk.wrap64_in _ (by omega)
    have e19 : wrap64 (19 + (y / 8).tmod 3) = op := by rw [Int.tmod_eq_emod_of_nonneg (by omega), hop]; exact IntWalk.wrap64_in _ (by omega)
    rcases evTop hI hk with ⟨htn, hidle⟩ | ⟨g, htg, hg, _, _⟩
    · have hcall := s_refCall s k op 2 0 0 (Nat.le_trans hF.cores (by decide))
      rw [hu1 hidle] at hcall
      first | refine .inr (.inl ⟨_, s_refTopNo htn (hF.fine (by omega)), ?_⟩) | refine .inl (.inr (.inl ⟨_, s_refTopNo htn (hF.fine (by omega)), ?_⟩))
      conv => whnf
      repeat (refine ⟨by first | omega | (simp only [Option.getD_none, Option.getD_some]; omega) | (simp; done) | (simp; omega), ?_⟩; conv => whnf)
      refine ⟨p_hazellaw12_EventTags_14, g_hazellaw12_EventTags_14, by kernel_rfl, ?st1, ?_, ?_⟩
      rotate_left
      · conv => whnf
        repeat' (first | (refine ⟨⟨by omega, h3⟩, ?_⟩; conv => whnf) | (refine ⟨(by decide), ?_⟩; conv => whnf) | ((intro z hz; replace hz : z = y / 8 := hz.trans e8; subst hz; conv => whnf)) | ((intro z hz; replace hz : z = y / 8 := hz.trans e64; subst hz; conv => whnf)) | ((intro z hz; replace hz : op = z := (hz.trans e19).symm; subst hz; conv => whnf)) | (refine .inr (.inl ⟨_, hcall, ?_⟩); conv => whnf) | (refine .inl (.inr (.inl ⟨_, hcall, ?_⟩)); conv => whnf) | (refine And.intro ?_ ?_ <;> conv => whnf) | exact rfl)
      conv => whnf
      repeat (refine ⟨by first | omega | (simp only [Option.getD_none, Option.getD_some]; omega) | (simp; done) | (simp; omega), ?_⟩; conv => whnf)
      first | refine .inr (.inl ⟨_, hev, ?_⟩) | refine .inl (.inr (.inl ⟨_, hev, ?_⟩))
      conv => whnf
      repeat (refine ⟨by first | omega | (simp only [Option.getD_none, Option.getD_some]; omega) | (simp; done) | (simp; omega), ?_⟩; conv => whnf)
      refine dcase (fun h => absurd hcl h) (fun _ => ?_)
      conv => whnf
      repeat (refine ⟨by first | omega | (simp only [Option.getD_none, Option.getD_some]; omega) | (simp; done) | (simp; omega), ?_⟩; conv => whnf)
      refine dcase (fun h => absurd hwl h) (fun _ => ?_)
      conv => whnf
      repeat (refine ⟨by first | omega | (simp only [Option.getD_none, Option.getD_some]; omega) | (simp; done) | (simp; omega), ?_⟩; conv => whnf)
      refine dcase (fun h => absurd h hll) (fun _ => ?_)
      conv => whnf
      repeat (refine ⟨by first | omega | (simp only [Option.getD_none, Option.getD_some]; omega) | (simp; done) | (simp; omega), ?_⟩; conv => whnf)
      rcases hthree with ⟨hab, hlog⟩ | ⟨hab, hlog⟩ | ⟨hab, hdiv, hlog⟩
      · have hln : ¬ (u.2.2.1.length : Int) < (t.2.2.1.length : Int) := by rw [hlog]; omega
        refine dcase (fun h => absurd hab h) (fun _ => ?_)
        conv => whnf
        repeat (refine ⟨by first | omega | (simp only [Option.getD_none, Option.getD_some]; omega) | (simp; done) | (simp; omega), ?_⟩; conv => whnf)
        refine ncaseb (fun h => Bool.noConfusion (h.symm.trans hbit)) (fun _ => ?_)
        conv => whnf
        repeat (refine ⟨by first | omega | (simp only [Option.getD_none, Option.getD_some]; omega) | (simp; done) | (simp; omega), ?_⟩; conv => whnf)
        refine dcase (fun _ => ?_) (fun h => absurd hab h)
        conv => whnf
        repeat (refine ⟨by first | omega | (simp only [Option.getD_none, Option.getD_some]; omega) | (simp; done) | (simp; omega), ?_⟩; conv => whnf)
        refine dcase (fun h => absurd h hln) (fun _ => ?_)
        conv => whnf
        repeat (refine ⟨by first | omega | (simp only [Option.getD_none, Option.getD_some]; omega) | (simp; done) | (simp; omega), ?_⟩; conv => whnf)
        intro w1 hw1
        replace hw1 : w1 = ((i + 1 : Nat) : Int) := by rw [IntWalk.wrap64_in _ (by omega)] at hw1; omega
        subst hw1
        conv => whnf
        exact hnext
      · obtain ⟨v, hlog⟩ := hlog
        have hl1 : t.2.2.1.length = u.2.2.1.length + 1 := by rw [hlog]; exact List.length_append
        have hln : (u.2.2.1.length : Int) < (t.2.2.1.length : Int) := by omega
        have hk12 : (List.getD t.2.2.1 ((u.2.2.1.length : Int)).toNat (dflt tEv)).2.1 = 12 := by
          rw [hlog, Int.toNat_natCast, List.getD_eq_getElem?_getD]
          show (Option.getD ((u.2.2.1 ++ [((k : Int), (12 : Int), (2 : Int), (0 : Int), v, ())])[u.2.2.1.length]?) (dflt tEv)).2.1 = 12
          rw [List.getElem?_append_right (Nat.le_refl _), Nat.sub_self]
          rfl
        refine dcase (fun h => absurd hab h) (fun _ => ?_)
        conv => whnf
        repeat (refine ⟨by first | omega | (simp only [Option.getD_none, Option.getD_some]; omega) | (simp; done) | (simp; omega), ?_⟩; conv => whnf)
        refine ncaseb (fun h => Bool.noConfusion (h.symm.trans hbit)) (fun _ => ?_)
        conv => whnf
        repeat (refine ⟨by first | omega | (simp only [Option.getD_none, Option.getD_some]; omega) | (simp; done) | (simp; omega), ?_⟩; conv => whnf)
        refine dcase (fun _ => ?_) (fun h => absurd hab h)
        conv => whnf
        repeat (refine ⟨by first | omega | (simp only [Option.getD_none, Option.getD_some]; omega) | (simp; done) | (simp; omega), ?_⟩; conv => whnf)
        refine dcase (fun _ => ?_) (fun h => absurd hln h)
        conv => whnf
        repeat (refine ⟨by first | omega | (simp only [Option.getD_none, Option.getD_some]; omega) | (simp; done) | (simp; omega), ?_⟩; conv => whnf)
        refine dcase (fun h => absurd hk12 h) (fun _ => ?_)
        conv => whnf
        repeat (refine ⟨by first | omega | (simp only [Option.getD_none, Option.getD_some]; omega) | (simp; done) | (simp; omega), ?_⟩; conv => whnf)
        intro w1 hw1
        replace hw1 : w1 = ((i + 1 : Nat) : Int) := by rw [IntWalk.wrap64_in _ (by omega)] at hw1; omega
        subst hw1
        conv => whnf
        exact hnext
      · obtain ⟨ev, hlog⟩ := hlog
        have hl1 : t.2.2.1.length = u.2.2.1.length + 1 := by rw [hlog]; exact List.length_append
        have hln : (u.2.2.1.length : Int) < (t.2.2.1.length : Int) := by omega
        refine dcase (fun _ => ?_) (fun h => absurd hab h)
        conv => whnf
        repeat (refine ⟨by first | omega | (simp only [Option.getD_none, Option.getD_some]; omega) | (simp; done) | (simp; omega), ?_⟩; conv => whnf)
        intro w1 hw1
        replace hw1 := hw1.trans hd1
        subst hw1
        conv => whnf
        repeat (refine ⟨by first | omega | (simp only [Option.getD_none, Option.getD_some]; omega) | (simp; done) | (simp; omega), ?_⟩; conv => whnf)
        intro w2 hw2
        replace hw2 := hw2.trans hd2
        subst hw2
        conv => whnf
        repeat (refine ⟨by first | omega | (simp only [Option.getD_none, Option.getD_some]; omega) | (simp; done) | (simp; omega), ?_⟩; conv => whnf)
        intro w3 hw3
        replace hw3 := hw3.trans (hd3 hdiv)
        subst hw3
        conv => whnf
        repeat (refine ⟨by first | omega | (simp only [Option.getD_none, Option.getD_some]; omega) | (simp; done) | (simp; omega), ?_⟩; conv => whnf)
        refine dcase (fun h => absurd rfl h) (fun _ => ?_)
        conv => whnf
        repeat (refine ⟨by first | omega | (simp only [Option.getD_none, Option.getD_some]; omega) | (simp; done) | (simp; omega), ?_⟩; conv => whnf)
        refine ncase (fun h => absurd hln h) (fun _ => ?_)
        conv => whnf
        repeat (refine ⟨by first | omega | (simp only [Option.getD_none, Option.getD_some]; omega) | (simp; done) | (simp; omega), ?_⟩; conv => whnf)
        refine ncaseb (fun h => Bool.noConfusion (h.symm.trans hbit)) (fun _ => ?_)
        conv => whnf
        repeat (refine ⟨by first | omega | (simp only [Option.getD_none, Option.getD_some]; omega) | (simp; done) | (simp; omega), ?_⟩; conv => whnf)
        refine dcase (fun h => absurd h hab) (fun _ => ?_)
        conv => whnf
        repeat (refine ⟨by first | omega | (simp only [Option.getD_none, Option.getD_some]; omega) | (simp; done) | (simp; omega), ?_⟩; conv => whnf)
        intro w4 hw4
        replace hw4 : w4 = ((i + 1 : Nat) : Int) := by rw [IntWalk.wrap64_in _ (by omega)] at hw4; omega
        subst hw4
        conv => whnf
        exact hnext
    · obtain rfl := hfs (by rw [hg]; exact fun e => nomatch e)
      first | refine .inr (.inl ⟨_, s_refTopOf htg (hF.fine (by omega)), ?_⟩) | refine .inl (.inr (.inl ⟨_, s_refTopOf htg (hF.fine (by omega)), ?_⟩))
      conv => whnf
      repeat (refine ⟨by first | omega | (simp only [Option.getD_none, Option.getD_some]; omega) | (simp; done) | (simp; omega), ?_⟩; conv => whnf)
      first | refine .inr (.inl ⟨_, hev, ?_⟩) | refine .inl (.inr (.inl ⟨_, hev, ?_⟩))
      conv => whnf
      repeat (refine ⟨by first | omega | (simp only [Option.getD_none, Option.getD_some]; omega) | (simp; done) | (simp; omega), ?_⟩; conv => whnf)
      refine dcase (fun h => absurd hcl h) (fun _ => ?_)
      conv => whnf
      repeat (refine ⟨by first | omega | (simp only [Option.getD_none, Option.getD_some]; omega) | (simp; done) | (simp; omega), ?_⟩; conv => whnf)
      refine dcase (fun h => absurd hwl h) (fun _ => ?_)
      conv => whnf
      repeat (refine ⟨by first | omega | (simp only [Option.getD_none, Option.getD_some]; omega) | (simp; done) | (simp; omega), ?_⟩; conv => whnf)
      refine dcase (fun h => absurd h hll) (fun _ => ?_)
      conv => whnf
      repeat (refine ⟨by first | omega | (simp only [Option.getD_none, Option.getD_some]; omega) | (simp; done) | (simp; omega), ?_⟩; conv => whnf)
      rcases hthree with ⟨hab, hlog⟩ | ⟨hab, hlog⟩ | ⟨hab, hdiv, hlog⟩
      · have hln : ¬ (u.2.2.1.length : Int) < (t.2.2.1.length : Int) := by rw [hlog]; omega
        refine dcase (fun h => absurd hab h) (fun _ => ?_)
        conv => whnf
        repeat (refine ⟨by first | omega | (simp only [Option.getD_none, Option.getD_some]; omega) | (simp; done) | (simp; omega), ?_⟩; conv => whnf)
        refine ncaseb (fun h => Bool.noConfusion (h.symm.trans hbit)) (fun _ => ?_)
        conv => whnf
        repeat (refine ⟨by first | omega | (simp only [Option.getD_none, Option.getD_some]; omega) | (simp; done) | (simp; omega), ?_⟩; conv => whnf)
        refine dcase (fun _ => ?_) (fun h => absurd hab h)
        conv => whnf
        repeat (refine ⟨by first | omega | (simp only [Option.getD_none, Option.getD_some]; omega) | (simp; done) | (simp; omega), ?_⟩; conv => whnf)
        refine dcase (fun h => absurd h hln) (fun _ => ?_)
        conv => whnf
        repeat (refine ⟨by first | omega | (simp only [Option.getD_none, Option.getD_some]; omega) | (simp; done) | (simp; omega), ?_⟩; conv => whnf)
        intro w1 hw1
        replace hw1 : w1 = ((i + 1 : Nat) : Int) := by rw [IntWalk.wrap64_in _ (by omega)] at hw1; omega
        subst hw1
        conv => whnf
        exact hnext
      · obtain ⟨v, hlog⟩ := hlog
        have hl1 : t.2.2.1.length = u.2.2.1.length + 1 := by rw [hlog]; exact List.length_append
        have hln : (u.2.2.1.length : Int) < (t.2.2.1.length : Int) := by omega
        have hk12 : (List.getD t.2.2.1 ((u.2.2.1.length : Int)).toNat (dflt tEv)).2.1 = 12 := by
          rw [hlog, Int.toNat_natCast, List.getD_eq_getElem?_getD]
          show (Option.getD ((u.2.2.1 ++ [((k : Int), (12 : Int), (2 : Int), (0 : Int), v, ())])[u.2.2.1.length]?) (dflt tEv)).2.1 = 12
          rw [List.getElem?_append_right (Nat.le_refl _), Nat.sub_self]
          rfl
        refine dcase (fun h => absurd hab h) (fun _ => ?_)
        conv => whnf
        repeat (refine ⟨by first | omega | (simp only [Option.getD_none, Option.getD_some]; omega) | (simp; done) | (simp; omega), ?_⟩; conv => whnf)
        refine ncaseb (fun h => Bool.noConfusion (h.symm.trans hbit)) (fun _ => ?_)
        conv => whnf
        repeat (refine ⟨by first | omega | (simp only [Option.getD_none, Option.getD_some]; omega) | (simp; done) | (simp; omega), ?_⟩; conv => whnf)
        refine dcase (fun _ => ?_) (fun h => absurd hab h)
        conv => whnf
        repeat (refine ⟨by first | omega | (simp only [Option.getD_none, Option.getD_some]; omega) | (simp; done) | (simp; omega), ?_⟩; conv => whnf)
        refine dcase (fun _ => ?_) (fun h => absurd hln h)
        conv => whnf
        repeat (refine ⟨by first | omega | (simp only [Option.getD_none, Option.getD_some]; omega) | (simp; done) | (simp; omega), ?_⟩; conv => whnf)
        refine dcase (fun h => absurd hk12 h) (fun _ => ?_)
        conv => whnf
        repeat (refine ⟨by first | omega | (simp only [Option.getD_none, Option.getD_some]; omega) | (simp; done) | (simp; omega), ?_⟩; conv => whnf)
        intro w1 hw1
        replace hw1 : w1 = ((i + 1 : Nat) : Int) := by rw [IntWalk.wrap64_in _ (by omega)] at hw1; omega
        subst hw1
        conv => whnf
        exact hnext
      · obtain ⟨ev, hlog⟩ := hlog
        have hl1 : t.2.2.1.length = u.2.2.1.length + 1 := by rw [hlog]; exact List.length_append
        have hln : (u.2.2.1.length : Int) < (t.2.2.1.length : Int) := by omega
        refine dcase (fun _ => ?_) (fun h => absurd hab h)
        conv => whnf
        repeat (refine ⟨by first | omega | (simp only [Option.getD_none, Option.getD_some]; omega) | (simp; done) | (simp; omega), ?_⟩; conv => whnf)
        intro w1 hw1
        replace hw1 := hw1.trans hd1
        subst hw1
        conv => whnf
        repeat (refine ⟨by first | omega | (simp only [Option.getD_none, Option.getD_some]; omega) | (simp; done) | (simp; omega), ?_⟩; conv => whnf)
        intro w2 hw2
        replace hw2 := hw2.trans hd2
        subst hw2
        conv => whnf
        repeat (refine ⟨by first | omega | (simp only [Option.getD_none, Option.getD_some]; omega) | (simp; done) | (simp; omega), ?_⟩; conv => whnf)
        intro w3 hw3
        replace hw3 := hw3.trans (hd3 hdiv)
        subst hw3
        conv => whnf
        repeat (refine ⟨by first | omega | (simp only [Option.getD_none, Option.getD_some]; omega) | (simp; done) | (simp; omega), ?_⟩; conv => whnf)
        refine dcase (fun h => absurd rfl h) (fun _ => ?_)
        conv => whnf
        repeat (refine ⟨by first | omega | (simp only [Option.getD_none, Option.getD_some]; omega) | (simp; done) | (simp; omega), ?_⟩; conv => whnf)
        refine ncase (fun h => absurd hln h) (fun _ => ?_)
        conv => whnf
        repeat (refine ⟨by first | omega | (simp only [Option.getD_none, Option.getD_some]; omega) | (simp; done) | (simp; omega), ?_⟩; conv => whnf)
        refine ncaseb (fun h => Bool.noConfusion (h.symm.trans hbit)) (fun _ => ?_)
        conv => whnf
        repeat (refine ⟨by first | omega | (simp only [Option.getD_none, Option.getD_some]; omega) | (simp; done) | (simp; omega), ?_⟩; conv => whnf)
        refine dcase (fun h => absurd h hab) (fun _ => ?_)
        conv => whnf
        repeat (refine ⟨by first | omega | (simp only [Option.getD_none, Option.getD_some]; omega) | (simp; done) | (simp; omega), ?_⟩; conv => whnf)
        intro w4 hw4
        replace hw4 : w4 = ((i + 1 : Nat) : Int) := by rw [IntWalk.wrap64_in _ (by omega)] at hw4; omega
        subst hw4
        conv => whnf
        exact hnext
  · conv => whnf
    first | exact .inl rfl | exact .inr rfl
end Go.Proofs.YtlcjkogdbleboaaGreat.V
