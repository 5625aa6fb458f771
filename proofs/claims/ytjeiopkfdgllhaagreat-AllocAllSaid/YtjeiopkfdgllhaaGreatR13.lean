/- AllocAll: the law, walked. -/
import Derived.Test.YtjeiopkfdgllhaaGreatR12
import Derived.Test.YtjeiopkfdgllhaaGreatV34
namespace Go.Proofs.YtjeiopkfdgllhaaGreat.V
open Go Go.RowKit Go.Proofs.YtjeiopkfdgllhaaGreat.Hz
set_option maxRecDepth 100000

abbrev vUs (l : List (Den (.int .u8))) : SV := .one (.sl (.int .u8) l false)
set_option maxHeartbeats 4000000 in
theorem s_AllocAll (a : Int) (ha0 : 0 ≤ a) (ha1 : a ≤ 255) (l ns : List (Den (.int .u8))) : Spec Tryz.prog 5 [vU8 a, vUs l, vUs ns] (vB true) := by
  refine spec_introF true tab_ok 0 Tryz.func5 rfl (by kernel_rfl) rfl ?_
  conv => whnf
  first | refine .inl ⟨_, s_shown07, ?_⟩ | refine .inl (.inl ⟨_, s_shown07, ?_⟩)
  conv => whnf
  refine dcase (fun h => ?_) (fun hl30 => ?_)
  · conv => whnf
    first | exact .inl rfl | exact .inr rfl
  conv => whnf
  refine dcase (fun h => ?_) (fun hn24 => ?_)
  · conv => whnf
    first | exact .inl rfl | exact .inr rfl
  conv => whnf
  intro z hz
  replace hz : z = a := hz.trans (IntWalk.wrap64_in _ (by omega))
  subst hz
  conv => whnf
  refine ⟨by decide, ?_⟩
  conv => whnf
  intro n hn
  obtain ⟨N0, hN, hN1, hN3⟩ : ∃ N0 : Nat, n = (N0 : Int) ∧ 1 ≤ N0 ∧ N0 ≤ 30 := by
    have e1 : z.tmod 30 = z % 30 := Int.tmod_eq_emod_of_nonneg ha0
    rw [e1, IntWalk.wrap64_in _ (by omega)] at hn
    exact ⟨n.toNat, by omega, by omega, by omega⟩
  clear hn
  subst hN
  have hl30 : l.length ≤ 30 := Int.ofNat_le.1 (Int.not_lt.1 hl30)
  have hn24 : ns.length ≤ 24 := Int.ofNat_le.1 (Int.not_lt.1 hn24)
  obtain ⟨s0, S0, hst, hA0, hF0, hL0⟩ : ∃ s0 S0, Spec Tryz.prog 24 [vI 2, vI (N0 : Int)] (vSI s0 0) ∧ (∃ L R, Alone s0 S0 L R) ∧ Fin 0 s0 ∧ s0.1.2.1.length = N0 + 1 := by
    refine ⟨newF 2 N0, _, s_refStart _ _ (by omega) (by omega) (by decide) (by decide), ⟨up N0 1, [], FL.filled hN1 (by omega), rfl, ⟨0, 0, (0, 0, 0, ()), rfl⟩, List.nodup_nil, (fun p hp => by cases hp), rfl⟩, newF_fin (by omega) (by omega) (by decide), ?_⟩
    have := (fillN_len (newI N0) (((newI (N0 : Int)).2.1.length : Int) - 1) ((newI (N0 : Int)).2.1.length - 1)).1
    show (fillM (newI N0)).2.1.length = _
    unfold fillM
    rw [(storeM_len _ _ _).1, this]
    show (List.replicate _ _).length = _
    rw [List.length_replicate]
    omega
  conv => whnf
  first | refine .inr (.inl ⟨_, hst, ?_⟩) | refine .inl (.inr (.inl ⟨_, hst, ?_⟩))
  conv => whnf
  repeat (refine ⟨by first | omega | (simp only [Option.getD_none, Option.getD_some]; omega) | (simp; done) | (simp; omega), ?_⟩; conv => whnf)
  refine ⟨[], [1, 2, 6, 7, 8, 9, 11], [9], ?_⟩
  apply Exists.intro
  conv => whnf
  refine loopK (fun y : Nat × Sy => l.length - y.1) (fun y => y.1 ≤ l.length ∧ (∃ L R, Alone y.2 S0 L R) ∧ Fin (180 * y.1) y.2 ∧ y.2.1.2.1.length = N0 + 1) (fun y => ⟨lay 190 0 [(1, vUs l), (2, vUs ns), (6, vB false), (7, vB true), (8, vI (N0 : Int)), (9, pB 9), (11, vI (y.1 : Int))], [(9, .cells ySys (cS y.2))], []⟩) ?_ (0, s0) rfl rfl ⟨Nat.zero_le _, hA0, hF0, hL0⟩
  clear hst hA0 hF0 hL0
  intro ⟨i, s⟩ ih ⟨hi, ⟨L, R, hA⟩, hF, hL⟩ hih
  simp only at hi hA hF hL hih
  conv => whnf
  refine dcase (fun h3 => ?_) (fun h3 => ?_)
  · replace h3 : (i : Int) < l.length := h3
    obtain ⟨q, t, L', R', hq1, hq2, hg, hFt⟩ : ∃ q t L' R', Spec Tryz.prog 30 [vS s, vI 0, vI 7, vI 0, vI 0, vI 0] (vS q) ∧ Spec Tryz.prog 29 [vS q, vI 0, vI 0] (vS t) ∧ Got s t S0 L R L' R' ∧ Fin (180 * i + 180) t := by
      obtain ⟨J, t, L', R', j1, j2, j3, j4⟩ := hA.got hF (by omega)
      have hd := s_refDoneTo (callS s 0 7 0 0 0) 0 J hF.callS (by omega) (by omega) (Int.le_refl _) (by have e : (callS s 0 7 0 0 0).2.1.length = _ := callS_n; rw [e]; show (0 : Int) < (s.2.1.length : Int); rw [hA.two]; decide) (by rw [j2]; exact j3.idle)
      rw [j2] at hd
      exact ⟨_, t, L', R', s_refCall s 0 7 0 0 0 (Nat.le_trans hF.cores (by decide)), hd, j3, j4⟩
    have h2 := hg.alone.two
    have hz0 : (0 : Int) ≤ 0 ∧ (0 : Int) < (t.2.1.length : Int) := ⟨Int.le_refl _, by omega⟩
    have htl : t.1.2.1.length = N0 + 1 := hg.len.trans hL
    have e1 : 180 * i + 180 = 180 * (i + 1) := by omega
    rw [e1] at hFt
    conv => whnf
    first | refine .inr (.inl ⟨_, hq1, ?_⟩) | refine .inl (.inr (.inl ⟨_, hq1, ?_⟩))
    conv => whnf
    repeat (refine ⟨by first | omega | (simp only [Option.getD_none, Option.getD_some]; omega) | (simp; done) | (simp; omega), ?_⟩; conv => whnf)
    first | refine .inr (.inl ⟨_, hq2, ?_⟩) | refine .inl (.inr (.inl ⟨_, hq2, ?_⟩))
    conv => whnf
    repeat (refine ⟨by first | omega | (simp only [Option.getD_none, Option.getD_some]; omega) | (simp; done) | (simp; omega), ?_⟩; conv => whnf)
    have hnext : ∀ u : Sy, (∃ L R, Alone u S0 L R) → Fin (180 * (i + 1)) u → u.1.2.1.length = N0 + 1 → ih ⟨lay 190 0 [(1, vUs l), (2, vUs ns), (6, vB false), (7, vB true), (8, vI (N0 : Int)), (9, pB 9), (11, vI ((i + 1 : Nat) : Int))], [(9, .cells ySys (cS u))], []⟩ := fun u hu1 hu2 hu3 => hih (i + 1, u) ⟨by show i + 1 ≤ _; omega, hu1, hu2, hu3⟩ (by show l.length - (i + 1) < _; omega)
    refine dcase (fun hE => ?_) (fun hE => ?_)
    · rcases hg.end_ with ⟨_, p0, p1, pg, _⟩ | ⟨e2, _⟩
      case inr => exact absurd (show cE t 0 = 0 from hE) (by rw [e2]; decide)
      conv => whnf
      refine ⟨⟨by omega, h3⟩, ?_⟩
      conv => whnf
      refine ⟨by decide, ?_⟩
      conv => whnf
      refine dcase (fun hodd => ?_) (fun hodd => ?_)
      · have hbh := hg.alone.byHand p0 p1 pg
        obtain ⟨vv, ee, xx, hcc⟩ := hg.alone.core
        have hR' := hg.alone.short.1
        have htn := s_refTurn t.1 (cV t 0) 2 (Nat.le_trans hg.alone.fl.fits.2 (by decide))
        have hwi := s_refWith (turnM t.1 (cV t 0) 2, t.2) 0 ((cAt t.2.1 0).1, (cAt t.2.1 0).2.1, (cAt t.2.1 0).2.2.1, (cAt t.2.1 0).2.2.2.1, snoc (retL t 0) (cV t 0), ()) (Int.le_refl _) (by show (0 : Int) < (t.2.1.length : Int); omega) (by show t.2.1.length ≤ _; omega)
        have hrl : (retL t 0).length ≤ 100 := by unfold retL; rw [hcc]; show R'.length ≤ _; omega
        have happ0 : (retL t 0).length ≤ mostElems := le_most (by omega)
        have happ1 : (retL t 0).length + 1 ≤ mostElems := le_most (by omega)
        conv => whnf
        refine ⟨p_hazellaw07_AllocAll_11, g_hazellaw07_AllocAll_11, by kernel_rfl, ?st1, ?_, ?_⟩
        rotate_left
        · conv => whnf
          repeat' (first | (refine ⟨hz0, ?_⟩; conv => whnf) | (refine .inr (.inl ⟨_, htn, ?_⟩); conv => whnf) | (refine .inl (.inr (.inl ⟨_, htn, ?_⟩)); conv => whnf) | (refine And.intro ?_ ?_ <;> conv => whnf) | exact rfl)
        conv => whnf
        refine ⟨hz0, ?_⟩
        conv => whnf
        refine ⟨p_hazellaw07_AllocAll_13, g_hazellaw07_AllocAll_13, by kernel_rfl, ?st2, ?_, ?_⟩
        rotate_left
        · conv => whnf
          repeat' (first | (refine ⟨happ0, ?_⟩; conv => whnf) | (refine ⟨happ1, ?_⟩; conv => whnf) | (refine And.intro ?_ ?_ <;> conv => whnf) | exact rfl)
        conv => whnf
        first | refine .inr (.inl ⟨_, hwi, ?_⟩) | refine .inl (.inr (.inl ⟨_, hwi, ?_⟩))
        conv => whnf
        repeat (refine ⟨by first | omega | (simp only [Option.getD_none, Option.getD_some]; omega) | (simp; done) | (simp; omega), ?_⟩; conv => whnf)
        intro w hw
        replace hw : w = ((i + 1 : Nat) : Int) := by rw [IntWalk.wrap64_in _ (by omega)] at hw; omega
        subst hw
        have hfin := hnext (V.byHand t (cV t 0)) ⟨_, _, hbh⟩ (by
          refine Fin.withS (hFt.mem (turnM_fits hFt.fits)) ⟨?_, ?_, ?_⟩
          · exact (hFt.cAt 0).frames
          · show (snoc (retL t 0) (cV t 0)).length ≤ 1000
            rw [List.length_append]
            show (retL t 0).length + 1 ≤ _
            omega
          · exact (hFt.cAt 0).seen) (by
          show (turnM t.1 (cV t 0) 2).2.1.length = _
          rw [oneSet_len (turnM_one t.1 (cV t 0) 2)]
          exact htl)
        conv => whnf
        exact hfin
      · conv => whnf
        intro w hw
        replace hw : w = ((i + 1 : Nat) : Int) := by rw [IntWalk.wrap64_in _ (by omega)] at hw; omega
        subst hw
        conv => whnf
        exact hnext t ⟨_, _, hg.alone⟩ hFt htl
    · conv => whnf
      intro w hw
      replace hw : w = ((i + 1 : Nat) : Int) := by rw [IntWalk.wrap64_in _ (by omega)] at hw; omega
      subst hw
      conv => whnf
      exact hnext t ⟨_, _, hg.alone⟩ hFt htl
  have hF1 : Fin 5400 s := hF.more (by omega)
  clear hih h3 hF hi
  conv => whnf
  refine ⟨[], [2, 6, 7, 8, 9, 13], [9], ?_⟩
  apply Exists.intro
  conv => whnf
  refine loopK (fun y : Nat × Sy => ns.length - y.1) (fun y => y.1 ≤ ns.length ∧ (∃ S L R, Alone y.2 S L R) ∧ Fin 5400 y.2 ∧ y.2.1.2.1.length = N0 + 1) (fun y => ⟨lay 190 0 [(2, vUs ns), (6, vB false), (7, vB true), (8, vI (N0 : Int)), (9, pB 9), (13, vI (y.1 : Int))], [(9, .cells ySys (cS y.2))], []⟩) ?_ (0, s) rfl rfl ⟨Nat.zero_le _, ⟨_, _, _, hA⟩, hF1, hL⟩
  clear hA hF1 hL
  intro ⟨i, s⟩ ih ⟨hi, ⟨S, L, R, hA⟩, hF, hL⟩ hih
  simp only at hi hA hF hL hih
  conv => whnf
  refine dcase (fun h3 => ?_) (fun h3 => ?_)
  · replace h3 : (i : Int) < ns.length := h3
    have e1 : (i : Int).tmod 3 = i % 3 := Int.tmod_eq_emod_of_nonneg (by omega)
    obtain ⟨p, hp0, hp1, hP⟩ : ∃ p : Int, 8 ≤ p ∧ p < 124 ∧ Spec Tryz.prog 34 [vI 1, vI ((i : Int).tmod 3)] (vI p) := by
      refine ⟨placeI 1 ((i : Int).tmod 3), ?_, ?_, s_refPlace _ _⟩ <;>
      · rw [e1]
        unfold placeI
        rw [IntWalk.wrap64_in (3 * 1) (by omega), IntWalk.wrap64_in (8 + 3 * 1) (by omega), IntWalk.wrap64_in _ (by omega)]
        omega
    have hst : ∀ v, Spec Tryz.prog 33 [vM s.1, vI p, vI v] (vM (storeM s.1 p v)) := fun v => s_refStore s.1 p v (Nat.le_trans hA.fl.fits.2 (by decide)) (by have := hA.fl.fits.1; omega)
    have hidx : (0 : Int) ≤ (i : Int) ∧ (i : Int) < ns.length := ⟨by omega, h3⟩
    have hne : (N0 : Int) + 1 ≠ 0 := by omega
    have hw1 : VHold (wrap64 ((N0 : Int) + 1) = (N0 : Int) + 1) := ⟨IntWalk.wrap64_in _ (by omega)⟩
    conv => whnf
    refine ⟨p_hazellaw07_AllocAll_18, g_hazellaw07_AllocAll_18, by kernel_rfl, ?st3, ?_, ?_⟩
    rotate_left
    · conv => whnf
      repeat' (first | (refine ⟨hidx, ?_⟩; conv => whnf) | (refine ⟨hne, ?_⟩; conv => whnf) | (refine ⟨(by decide : (3 : Int) ≠ 0), ?_⟩; conv => whnf) | ((intro z hz; rw [hw1.out] at hz; subst hz; conv => whnf)) | ((intro z hz; subst hz; conv => whnf)) | (refine .inl ⟨_, hP, ?_⟩; conv => whnf) | (refine .inl (.inl ⟨_, hP, ?_⟩); conv => whnf) | (refine .inr (.inl ⟨_, hst _, ?_⟩); conv => whnf) | (refine .inl (.inr (.inl ⟨_, hst _, ?_⟩)); conv => whnf) | (refine And.intro ?_ ?_ <;> conv => whnf) | exact rfl)
    conv => whnf
    intro w hw
    replace hw : w = ((i + 1 : Nat) : Int) := by rw [IntWalk.wrap64_in _ (by omega)] at hw; omega
    subst hw
    conv => whnf
    refine hih (i + 1, _) ⟨by show i + 1 ≤ _; omega, ⟨_, _, _, hA.slot hp0 hp1⟩, hF.mem (storeM_fits hF.fits), ?_⟩ (by show ns.length - (i + 1) < _; omega)
    exact (storeM_len _ _ _).1.trans hL
  clear hih h3 hi
  have h2 := hA.two
  have hz0 : (0 : Int) ≤ 0 ∧ (0 : Int) < (s.2.1.length : Int) := ⟨Int.le_refl _, by omega⟩
  obtain ⟨vv, ee, xx, hcc⟩ := hA.core
  have hsh := hA.short
  obtain ⟨NL, hNL, hNLs, hNLl⟩ : ∃ NL : List (Den .bool), (∀ p : Int, 0 < p → p < s.1.2.1.length → NL.getD p.toNat false = memB S p) ∧ Spec Tryz.prog 35 [vS s] (vBs NL) ∧ NL.length = s.1.2.1.length := by
    have h := s_refNamed s (by have := hA.fl.fits.1; omega) (by omega) (Nat.le_trans hA.fl.fits.2 (by decide))
    rw [h2] at h
    exact ⟨_, fun p p0 p1 => by rw [← hA.seen]; exact namedL_is s.1.1 s.1.2.1.length p p0 p1 6, h, namedL_len _ _ _⟩
  have hcnt := s_refCount s.1 0 hA.fl.fits
  rw [hA.fl.count] at hcnt
  have hRl : retL s 0 = R := by unfold retL; rw [hcc]
  have hRl2 : (List.getD s.2.1 (0 : Int).toNat (dflt tCore)).2.2.2.2.1 = R := hRl
  have hUl : (unseen S R).length ≤ R.length := List.length_filter_le _ _
  conv => whnf
  first | refine .inr (.inl ⟨_, hNLs, ?_⟩) | refine .inl (.inr (.inl ⟨_, hNLs, ?_⟩))
  conv => whnf
  repeat (refine ⟨by first | omega | (simp only [Option.getD_none, Option.getD_some]; omega) | (simp; done) | (simp; omega), ?_⟩; conv => whnf)
  first | refine .inl ⟨_, hcnt, ?_⟩ | refine .inl (.inl ⟨_, hcnt, ?_⟩)
  conv => whnf
  repeat (refine ⟨by first | omega | (simp only [Option.getD_none, Option.getD_some]; omega) | (simp; done) | (simp; omega), ?_⟩; conv => whnf)
  refine ⟨[], [6, 7, 9, 14, 15, 16], [9], ?_⟩
  apply Exists.intro
  conv => whnf
  refine loopK (fun i : Nat => R.length - i) (fun i => i ≤ R.length) (fun i => ⟨lay 190 0 [(6, vB false), (7, vB true), (9, pB 9), (14, vBs NL), (15, vI ((L.length + (unseen S (R.take i)).length : Nat) : Int)), (16, vI (i : Int))], [(9, .cells ySys (cS s))], []⟩) ?_ 0 rfl rfl (Nat.zero_le _)
  intro i ih hi hih
  conv => whnf
  refine ⟨hz0, ?_⟩
  conv => whnf
  rw [hRl2]
  refine dcase (fun h3 => ?_) (fun h3 => ?_)
  · replace h3 : (i : Int) < R.length := h3
    obtain ⟨p, hp, hpR, htk⟩ : ∃ p : Int, List.getD R ((i : Int)).toNat (dflt tI) = p ∧ p ∈ R ∧ R.take (i + 1) = snoc (R.take i) p := by
      have hi2 : i < R.length := by omega
      refine ⟨R[i], ?_, List.getElem_mem _, List.take_succ_eq_append_getElem hi2⟩
      rw [Int.toNat_natCast, List.getD_eq_getElem?_getD, List.getElem?_eq_getElem hi2]
      rfl
    obtain ⟨q0, q1, _⟩ := hA.ret p hpR
    have hNp := hNL p (by omega) q1
    have hus := unseen_snoc S (R.take i) p
    rw [← htk] at hus
    have hpi : 0 ≤ p ∧ p < (NL.length : Int) := ⟨by omega, by rw [hNLl]; exact q1⟩
    have hii : (0 : Int) ≤ (i : Int) ∧ (i : Int) < (R.length : Int) := ⟨by omega, h3⟩
    conv => whnf
    refine ⟨hz0, ?_⟩
    conv => whnf
    rw [hRl2]
    conv => whnf
    refine ⟨hii, ?_⟩
    conv => whnf
    rw [hp]
    conv => whnf
    refine ⟨hpi, ?_⟩
    conv => whnf
    have hNp2 : List.getD NL p.toNat (dflt .bool) = memB S p := hNp
    rw [hNp2]
    have hwd : VHold (wrap64 (((L.length + (unseen S (R.take i)).length : Nat) : Int) + 1) = ((L.length + (unseen S (R.take i)).length : Nat) : Int) + 1) := ⟨IntWalk.wrap64_in _ (by
      have : (unseen S (R.take i)).length ≤ (R.take i).length := List.length_filter_le _ _
      rw [List.length_take] at this
      omega)⟩
    refine ncaseb (fun hm => ?_) (fun hm => ?_)
    · rw [if_neg (by rw [hm]; decide)] at hus
      conv => whnf
      intro w hw
      rw [hwd.out] at hw
      replace hw : w = ((L.length + (unseen S (R.take (i + 1))).length : Nat) : Int) := by omega
      subst hw
      conv => whnf
      intro w hw
      replace hw : w = ((i + 1 : Nat) : Int) := by rw [IntWalk.wrap64_in _ (by omega)] at hw; omega
      subst hw
      conv => whnf
      exact hih (i + 1) (by omega) (by omega)
    · rw [if_pos hm] at hus
      have he : L.length + (unseen S (R.take i)).length = L.length + (unseen S (R.take (i + 1))).length := by omega
      rw [he]
      conv => whnf
      intro w hw
      replace hw : w = ((i + 1 : Nat) : Int) := by rw [IntWalk.wrap64_in _ (by omega)] at hw; omega
      subst hw
      conv => whnf
      exact hih (i + 1) (by omega) (by omega)
  have hiR : i = R.length := by omega
  rw [hiR, List.take_length]
  clear hih h3 hi
  have hF5 : Fin 5400 s := hF
  have hL5 := hL
  have hA5 := hA
  clear hNLs hcnt hcc hz0 h2 hRl hRl2
  obtain ⟨want, hwant⟩ : ∃ want, want = L.length + (unseen S R).length := ⟨_, rfl⟩
  have hw80 : want ≤ 80 := by omega
  rw [← hwant]
  conv => whnf
  refine ⟨[], [6, 7, 9, 15, 17, 18], [9], ?_⟩
  apply Exists.intro
  conv => whnf
  refine loopK (fun y : Nat × Sy => want + 1 - y.1) (fun y => y.1 ≤ want + 1 ∧ (y.1 ≤ want → ∃ L R, Alone y.2 S L R ∧ L.length + (unseen S R).length + y.1 = want) ∧ (y.1 = want + 1 → cE y.2 0 = 2 ∧ y.2.2.1.length = 2) ∧ Fin (5400 + 180 * y.1) y.2 ∧ y.2.1.2.1.length = N0 + 1) (fun y => ⟨lay 190 0 [(6, vB false), (7, vB true), (9, pB 9), (15, vI (want : Int)), (17, vI ((min y.1 want : Nat) : Int)), (18, vI (y.1 : Int))], [(9, .cells ySys (cS y.2))], []⟩) ?_ (0, s) rfl (by show _ = (⟨lay 190 0 [(6, vB false), (7, vB true), (9, pB 9), (15, vI (want : Int)), (17, vI ((min 0 want : Nat) : Int)), (18, vI ((0 : Nat) : Int))], _, _⟩ : St); rw [Nat.zero_min]; rfl) ⟨Nat.zero_le _, fun _ => ⟨L, R, hA5, hwant.symm⟩, fun h => absurd h (by show ¬ 0 = want + 1; omega), hF5, hL5⟩
  clear hA5 hF5 hL5 hwant hA hF hL hsh hUl hNL hNLl
  intro ⟨i, s⟩ ih ⟨hi, hA, hE, hF, hL⟩ hih
  simp only at hi hA hE hF hL hih
  by_cases hiw : i ≤ want
  · obtain ⟨L, R, hA, hsum⟩ := hA hiw
    have hmin : min i want = i := by omega
    obtain ⟨q, X, t, L', R', hq, hT0, hT4, hTs, hg, hFt⟩ : ∃ (q : Sy) (X : Nat → Sy) (t : Sy) (L' R' : Li), Spec Tryz.prog 30 [vS s, vI 0, vI 7, vI 0, vI 0, vI 0] (vS q) ∧ X 0 = q ∧ X 400 = t ∧ (∀ k : Nat, k < 400 → Spec Tryz.prog 27 [vS (X k), vI 0] (vS (X (k + 1)))) ∧ Got s t S L R L' R' ∧ Fin (5400 + 180 * (i + 1)) t := by
      obtain ⟨t, L', R', j2, j3, j4⟩ := hA.far hF (by omega)
      exact ⟨callS s 0 7 0 0 0, fun k => itS 0 (callS s 0 7 0 0 0) k, t, L', R', s_refCall s 0 7 0 0 0 (Nat.le_trans hF.cores (by decide)), rfl, j2, fun k hk => s_alStep _ 0 (itS_fin hF.callS k) (by omega), j3, j4.more (by omega)⟩
    have h2 : ((t.2.1.length : Nat) : Int) = 2 := by rw [hg.alone.two]; rfl
    have hz0 : (0 : Int) ≤ 0 ∧ (0 : Int) < (t.2.1.length : Int) := ⟨Int.le_refl _, by rw [h2]; decide⟩
    have hid : ¬ (0 : Int) < (((cAt t.2.1 0).1.length : Nat) : Int) := by rw [hg.idle]; decide
    have hbad : t.1.2.2.1 = false := hg.alone.fl.good
    have htl : t.1.2.1.length = N0 + 1 := hg.len.trans hL
    have hone : cE t 0 = 0 → i + 1 ≤ want ∧ ∃ L R, Alone t S L R ∧ L.length + (unseen S R).length + (i + 1) = want := fun e => by
      rcases hg.end_ with ⟨_, _, _, _, hm⟩ | ⟨e2, _⟩
      · exact ⟨by omega, L', R', hg.alone, by omega⟩
      · rw [e2] at e; cases e
    have hnone : ¬ cE t 0 = 0 → i = want ∧ cE t 0 = 2 := fun e => by
      rcases hg.end_ with ⟨e2, _⟩ | ⟨e2, hm, _⟩
      · exact absurd e2 e
      · exact ⟨by omega, e2⟩
    have hnc : t.2.1.length = 2 := hg.alone.two
    rw [hmin]
    clear hg hA hF hL hE hsum
    conv => whnf
    refine dcase (fun _ => ?_) (fun h => absurd (show (i : Int) ≤ want by omega) h)
    conv => whnf
    first | refine .inr (.inl ⟨_, hq, ?_⟩) | refine .inl (.inr (.inl ⟨_, hq, ?_⟩))
    conv => whnf
    repeat (refine ⟨by first | omega | (simp only [Option.getD_none, Option.getD_some]; omega) | (simp; done) | (simp; omega), ?_⟩; conv => whnf)
    rw [← hT0]
    refine ⟨[], [6, 7, 9, 15, 17, 18, 19], [9], ?_⟩
    apply Exists.intro
    conv => whnf
    refine loopK (fun k : Nat => 400 - k) (fun k => k ≤ 400) (fun k => ⟨lay 190 0 [(6, vB false), (7, vB true), (9, pB 9), (15, vI (want : Int)), (17, vI (i : Int)), (18, vI (i : Int)), (19, vI (k : Int))], [(9, .cells ySys (cS (X k)))], []⟩) ?_ 0 rfl rfl (Nat.zero_le _)
    intro k ih2 hk hih2
    conv => whnf
    refine dcase (fun h3 => ?_) (fun h3 => ?_)
    · replace h3 : (k : Int) < 400 := h3
      conv => whnf
      first | refine .inr (.inl ⟨_, hTs k (by omega), ?_⟩) | refine .inl (.inr (.inl ⟨_, hTs k (by omega), ?_⟩))
      conv => whnf
      repeat (refine ⟨by first | omega | (simp only [Option.getD_none, Option.getD_some]; omega) | (simp; done) | (simp; omega), ?_⟩; conv => whnf)
      intro w hw
      replace hw : w = ((k + 1 : Nat) : Int) := by rw [IntWalk.wrap64_in _ (by omega)] at hw; omega
      subst hw
      conv => whnf
      exact hih2 (k + 1) (by omega) (by omega)
    replace h3 : ¬ (k : Int) < 400 := h3
    have hk4 : k = 400 := by omega
    subst hk4
    clear hih2 h3 hk
    rw [hT4]
    conv => whnf
    refine dcase (fun h => absurd h2 h) (fun _ => ?_)
    conv => whnf
    refine ⟨hz0, ?_⟩
    conv => whnf
    refine dcase (fun h => absurd h hid) (fun _ => ?_)
    conv => whnf
    refine bcase (fun h => absurd (hbad.symm.trans h) (by decide)) (fun _ => ?_)
    conv => whnf
    refine ⟨hz0, ?_⟩
    conv => whnf
    refine dcase (fun hE => ?_) (fun hE => ?_)
    · obtain ⟨o1, o2⟩ := hone hE
      conv => whnf
      intro w hw
      replace hw : w = ((min (i + 1) want : Nat) : Int) := by rw [IntWalk.wrap64_in _ (by omega)] at hw; omega
      subst hw
      conv => whnf
      intro w hw
      replace hw : w = ((i + 1 : Nat) : Int) := by rw [IntWalk.wrap64_in _ (by omega)] at hw; omega
      subst hw
      conv => whnf
      exact hih (i + 1, t) ⟨by show i + 1 ≤ _; omega, fun _ => o2, fun h => absurd h (by show ¬ i + 1 = want + 1; omega), hFt, htl⟩ (by show want + 1 - (i + 1) < _; omega)
    · obtain ⟨o1, o2⟩ := hnone hE
      conv => whnf
      intro w hw
      replace hw : w = ((i + 1 : Nat) : Int) := by rw [IntWalk.wrap64_in _ (by omega)] at hw; omega
      subst hw
      have hlast := hih (i + 1, t) ⟨by show i + 1 ≤ _; omega, fun h => absurd h (by show ¬ i + 1 ≤ want; omega), fun _ => ⟨o2, hnc⟩, hFt, htl⟩ (by show want + 1 - (i + 1) < _; omega)
      rw [show min (i + 1) want = i by omega] at hlast
      conv => whnf
      exact hlast
  · have hlast : i = want + 1 := by omega
    obtain ⟨e2, n2⟩ := hE hlast
    have hz0 : (0 : Int) ≤ 0 ∧ (0 : Int) < (s.2.1.length : Int) := ⟨Int.le_refl _, by rw [n2]; decide⟩
    have hmin : min i want = want := by omega
    rw [hmin]
    conv => whnf
    refine dcase (fun h => absurd h (by show ¬ (i : Int) ≤ want; omega)) (fun _ => ?_)
    conv => whnf
    refine dcase (fun _ => ?_) (fun h => absurd rfl h)
    conv => whnf
    refine ⟨hz0, ?_⟩
    conv => whnf
    exact .inl (congrArg vB (decide_eq_true e2))
end Go.Proofs.YtjeiopkfdgllhaaGreat.V
