/- MsqMoves: the law. -/
import Derived.Test.YtpobngddiifdpaaGreatZaP0
import Derived.Test.YtpobngddiifdpaaGreatZaT3
set_option linter.unusedSimpArgs false
set_option linter.unusedVariables false
namespace Go.Proofs.YtpobngddiifdpaaGreat.V
open Go Go.RowKit Go.Proofs.YtpobngddiifdpaaGreat.Hz
set_option maxRecDepth 100000

theorem spot_of {a : Int} (h0 : 32 ≤ a) (h1 : a < 36) : ∃ q, IsQ q ∧ (a = hdP q ∨ a = tlP q) := by
  have : a = 32 ∨ a = 33 ∨ a = 34 ∨ a = 35 := by omega
  rcases this with e | e | e | e <;> subst e
  · exact ⟨0, .inl rfl, .inl rfl⟩
  · exact ⟨0, .inl rfl, .inr rfl⟩
  · exact ⟨1, .inr rfl, .inl rfl⟩
  · exact ⟨1, .inr rfl, .inr rfl⟩
/-- Where the words of the queues lead to. -/
theorem Did.word {T : Int} {o : OM} {s t : Sy} {N : NQ} {k : Nat} (hI : MqI T o s N) (h : Did s k t) {a : Int} (h0 : 32 ≤ a) (h1 : a < 36) : (idxI (nI t.1.1 a) = idxI (nI s.1.1 a) ∨ idxI (nI t.1.1 a) = idxI (nI s.1.1 (atI (idxI (nI s.1.1 a)) 1))) ∧ 0 ≤ atI (idxI (nI s.1.1 a)) 1 ∧ atI (idxI (nI s.1.1 a)) 1 < (s.1.1.length : Int) := by
  obtain ⟨l, hl⟩ := hI.mm.list
  have hfit := hl.fits
  obtain ⟨q, hq, e⟩ := spot_of h0 h1
  have key : ∀ p, InN s.1 p → atI p 1 = lk p + 1 ∧ 0 ≤ lk p + 1 ∧ lk p + 1 < (s.1.1.length : Int) := fun p hp => by
    have h1 := lk_is p
    have h2 := hp.1
    have h3 := hp.2
    have h4 := hfit.1
    exact ⟨atI_cell (by decide) hp hfit, by omega, by omega⟩
  obtain ⟨w1, w2⟩ := h.words q hq
  rcases e with e | e <;> subst e
  · obtain ⟨e1, e2, e3⟩ := key _ (hI.qs.headS hq).1
    unfold hdW at e1 e2 e3
    rw [e1]
    exact ⟨w1, e2, e3⟩
  · obtain ⟨e1, e2, e3⟩ := key _ (hI.qs.tailS hq).1
    unfold tlW at e1 e2 e3
    rw [e1]
    exact ⟨w2, e2, e3⟩
set_option maxHeartbeats 8000000 in
theorem s_MsqMoves (a : Int) (ha0 : 0 ≤ a) (ha1 : a ≤ 255) (b : Int) (hb0 : 0 ≤ b) (hb1 : b ≤ 255) (l : Lp) (hw : ∀ x ∈ l, WFd (.int .u16) x) : Spec Tryz.prog 6 [.one (.int .u8 a), .one (.int .u8 b), vP l] (vB true) := by
  obtain ⟨c, c1, c8, hc⟩ := cores_of ha0 ha1
  obtain ⟨n, n1, n40, hn⟩ := nodes2_of hb0 hb1 (show (0 : Int) < 40 by decide) (by decide)
  have hst := s_start8 c n n1 (by omega) c1 c8
  have hFn := newQ_fin (c := c) (n := n) n1 (by omega) c8
  have hIn := MqI.start (c := c) (n := n) n1 (by omega) c1 c8
  obtain ⟨hCn, hGn, hWn⟩ := newQ_lens (c := c) (n := n) n1 (by omega)
  generalize newQ (c : Int) (n : Int) = t0 at *
  refine spec_introF true tab_ok 0 Tryz.func6 rfl (by kernel_rfl) rfl ?_
  conv => whnf
  first | refine .inl ⟨_, s_shown08, ?_⟩ | refine .inl (.inl ⟨_, s_shown08, ?_⟩)
  conv => whnf
  repeat (refine ⟨by first | omega | (simp only [Option.getD_none, Option.getD_some]; omega) | (simp; done) | (simp; omega), ?_⟩; conv => whnf)
  refine dcase (fun h => ?_) (fun hl => ?_)
  · skip
    conv => whnf
    repeat (refine ⟨by first | omega | (simp only [Option.getD_none, Option.getD_some]; omega) | (simp; done) | (simp; omega), ?_⟩; conv => whnf)
    first | exact .inl rfl | exact .inr rfl
  replace hl : l.length ≤ 300 := Int.ofNat_le.1 (Int.not_lt.1 hl)
  conv => whnf
  repeat (refine ⟨by first | omega | (simp only [Option.getD_none, Option.getD_some]; omega) | (simp; done) | (simp; omega), ?_⟩; conv => whnf)
  intro z hz
  replace hz : z = a := hz.trans (IntWalk.wrap64_in _ (by omega))
  subst hz
  conv => whnf
  repeat (refine ⟨by first | omega | (simp only [Option.getD_none, Option.getD_some]; omega) | (simp; done) | (simp; omega), ?_⟩; conv => whnf)
  intro n' hn'
  replace hn' : n' = (c : Int) := hn'.trans hc
  subst hn'
  conv => whnf
  repeat (refine ⟨by first | omega | (simp only [Option.getD_none, Option.getD_some]; omega) | (simp; done) | (simp; omega), ?_⟩; conv => whnf)
  intro z2 hz2
  replace hz2 : z2 = b := hz2.trans (IntWalk.wrap64_in _ (by omega))
  subst hz2
  conv => whnf
  repeat (refine ⟨by first | omega | (simp only [Option.getD_none, Option.getD_some]; omega) | (simp; done) | (simp; omega), ?_⟩; conv => whnf)
  intro n2 hn2
  replace hn2 : n2 = (n : Int) := hn2.trans hn
  subst hn2
  conv => whnf
  repeat (refine ⟨by first | omega | (simp only [Option.getD_none, Option.getD_some]; omega) | (simp; done) | (simp; omega), ?_⟩; conv => whnf)
  first | refine .inr (.inl ⟨_, hst, ?_⟩) | refine .inl (.inr (.inl ⟨_, hst, ?_⟩))
  conv => whnf
  repeat (refine ⟨by first | omega | (simp only [Option.getD_none, Option.getD_some]; omega) | (simp; done) | (simp; omega), ?_⟩; conv => whnf)
  refine ⟨[], [2, 6, 7, 8, 9, 11], [9], ?_⟩
  apply Exists.intro
  conv => whnf
  refine loopK (fun y : Nat × Sy => l.length - y.1) (fun y => y.1 ≤ l.length ∧ Fin y.1 y.2 ∧ y.2.2.1.length = c ∧ ∃ o N, MqI ((y.1 + 2 : Nat) : Int) o y.2 N) (fun y => ⟨lay 159 0 [(2, vP l), (6, vB false), (7, vB true), (8, vI (c : Int)), (9, pB 9), (11, vI (y.1 : Int))], [(9, .cells ySys (cS y.2))], []⟩) ?_ (0, t0) rfl rfl ⟨Nat.zero_le _, hFn, hCn, _, _, hIn⟩
  clear hFn hIn hCn hGn hWn hst hc hn
  intro ⟨i, s⟩ ih ⟨hi, hF, hC, o, N, hI⟩ hih
  simp only at hi hF hC hI hih
  conv => whnf
  refine dcase (fun h3 => ?_) (fun h3 => ?_)
  · replace h3 : (i : Int) < l.length := h3
    obtain ⟨x, hx⟩ : ∃ x, pick l i = x := ⟨_, rfl⟩
    obtain ⟨x0, x1⟩ := pick_in hw (show i < l.length by omega)
    rw [hx] at x0 x1
    have hx2 : List.getD l ((i : Int)).toNat (dflt (.int .u16)) = x := hx
    obtain ⟨k, hk, hkx⟩ := core_of x0 c1
    have hks : k < s.2.1.length := by omega
    obtain ⟨hI1, hb1, hC1, hm1, hl1⟩ := hI.go hks x
    obtain ⟨o2, N2, hI2, hdid⟩ := hI1.turn (by omega) (by omega) hb1
    have hF1 : Fin i (goS s (k : Int) x) := goS_fin hF
    have hF2 := msqS_fin (k := (k : Int)) hF1
    have hstep := s_mStep8 (goS s (k : Int) x) (k : Int) hF1 (by omega)
    have hin : (0 : Int) ≤ (i : Int) ∧ (i : Int) < (l.length : Int) := ⟨by omega, h3⟩
    have hbeg := s_begin8 s (k : Int) x x0 x1 hF.cores
    obtain ⟨s1, hs1⟩ : ∃ s1, goS s (k : Int) x = s1 := ⟨_, rfl⟩
    rw [hs1] at hI1 hb1 hC1 hm1 hl1 hI2 hdid hF1 hF2 hstep
    obtain ⟨t, ht⟩ : ∃ t, msqS s1 (k : Int) = t := ⟨_, rfl⟩
    rw [ht] at hI2 hdid hF2 hstep
    have hCt : t.2.1.length = c := by have := hdid.cores; omega
    have hnx := hih (i + 1, t) ⟨by show i + 1 ≤ _; omega, hF2, hCt, o2, N2, by
      show MqI ((i + 1 + 2 : Nat) : Int) o2 t N2
      rw [show ((i + 1 + 2 : Nat) : Int) = ((i + 2 : Nat) : Int) + 1 by omega]
      exact hI2⟩ (by show l.length - (i + 1) < _; omega)
    have hone := hdid.one
    have hGl := hdid.glen
    have hWl : t.1.1.length = s1.1.1.length := by
      have a1 := hF1.fits.1
      have a2 := hF2.fits.1
      omega
    have hwd := fun a h0 h1 => Did.word hI1 hdid (a := a) h0 h1
    obtain ⟨G, hG⟩ : ∃ G, s1.1.2.1 = G := ⟨_, rfl⟩
    have hdf := diffN_le hone
    rw [hG] at hdf hGl
    have hGs : (s1.1.2.1.length : Int) = G.length := by rw [hG]
    have hGb : G.length ≤ 100000 := by have := hF1.fits.2; rw [hG] at this; omega
    have hWn : 128 ≤ s1.1.1.length := by have := hF1.fits.1; have := hI1.mm.more; omega
    clear hI1 hI2 hdid hF2 hI
    conv => whnf
    refine ⟨hin, ?_⟩
    conv => whnf
    rw [hx2]
    intro w hw1
    replace hw1 : w = x := hw1.trans (IntWalk.wrap64_in _ (by omega))
    subst hw1
    conv => whnf
    refine ⟨by omega, ?_⟩
    conv => whnf
    rw [hkx]
    conv => whnf
    cases ht : topI s (k : Int) with
    | none =>
      have hs2 : begS s (k : Int) w = s1 := by rw [← hs1]; unfold goS; rw [if_pos ht]
      rw [hs2] at hbeg
      first | refine .inr (.inl ⟨_, s_refTopNo ht (hF.fine (by omega)), ?_⟩) | refine .inl (.inr (.inl ⟨_, s_refTopNo ht (hF.fine (by omega)), ?_⟩))
      conv => whnf
      repeat (refine ⟨by first | omega | (simp only [Option.getD_none, Option.getD_some]; omega) | (simp; done) | (simp; omega), ?_⟩; conv => whnf)
      refine ⟨p_hazellaw08_MsqMoves_14, g_hazellaw08_MsqMoves_14, by kernel_rfl, ?st1, ?_, ?_⟩
      rotate_left
      · conv => whnf
        repeat' (first | (refine ⟨hin, ?_⟩; conv => whnf) | ((rw [hx2]; conv => whnf)) | (refine .inr (.inl ⟨_, hbeg, ?_⟩); conv => whnf) | (refine .inl (.inr (.inl ⟨_, hbeg, ?_⟩)); conv => whnf) | (refine And.intro ?_ ?_ <;> conv => whnf) | exact rfl)
      conv => whnf
      first | refine .inr (.inl ⟨_, hstep, ?_⟩) | refine .inl (.inr (.inl ⟨_, hstep, ?_⟩))
      conv => whnf
      repeat (refine ⟨by first | omega | (simp only [Option.getD_none, Option.getD_some]; omega) | (simp; done) | (simp; omega), ?_⟩; conv => whnf)
      refine dcase (fun h => absurd (show (t.2.1.length : Int) = (c : Int) by omega) h) (fun _ => ?_)
      conv => whnf
      refine dcase (fun h => absurd (show (t.1.1.length : Int) = (s1.1.1.length : Int) by omega) h) (fun _ => ?_)
      conv => whnf
      refine dcase (fun h => absurd (show (t.1.2.1.length : Int) = (s1.1.2.1.length : Int) by omega) h) (fun _ => ?_)
      conv => whnf
      refine ⟨[], [2, 6, 7, 8, 9, 11, 15, 16, 17], [9, 15], ?_⟩
      apply Exists.intro
      conv => whnf
      refine loopK (fun p : Nat => G.length - p) (fun p => p ≤ G.length) (fun p => ⟨lay 159 0 [(2, vP l), (6, vB false), (7, vB true), (8, vI (c : Int)), (9, pB 9), (11, vI (i : Int)), (15, pB 15), (16, vI (diffN G t.1.2.1 p : Nat)), (17, vI (p : Int))], [(9, .cells ySys (cS s1)), (15, .cells ySys (cS t))], []⟩) ?_ 0 rfl rfl (Nat.zero_le _)
      clear hih
      intro p ih2 hp hih2
      conv => whnf
      refine dcase (fun h4 => ?_) (fun h4 => ?_)
      · replace h4 : (p : Int) < (s1.1.2.1.length : Int) := h4
        have hle := hdf (p + 1)
        have hle2 := hdf p
        have b1 : (0 : Int) ≤ (p : Int) ∧ (p : Int) < (s1.1.2.1.length : Int) := ⟨by omega, h4⟩
        have b2 : (0 : Int) ≤ (p : Int) ∧ (p : Int) < (t.1.2.1.length : Int) := ⟨by omega, by omega⟩
        conv => whnf
        refine ⟨p_hazellaw08_MsqMoves_22, g_hazellaw08_MsqMoves_22, by kernel_rfl, ?st2, ?_, ?_⟩
        rotate_left
        · conv => whnf
          repeat' (first | (refine ⟨b1, ?_⟩; conv => whnf) | (refine ⟨b2, ?_⟩; conv => whnf) | (refine And.intro ?_ ?_ <;> conv => whnf) | exact rfl)
        conv => whnf
        refine dcase (fun hc => ?_) (fun hc => ?_)
        · have hd : diffN G t.1.2.1 (p + 1) = diffN G t.1.2.1 p + 1 := if_pos (by rw [← hG]; exact hc)
          have hnx2 := hih2 (p + 1) (by omega) (by omega)
          conv => whnf
          intro z' hz'
          replace hz' : z' = ((diffN G t.1.2.1 (p + 1) : Nat) : Int) := by rw [hz', IntWalk.wrap64_in _ (by omega)]; omega
          subst hz'
          conv => whnf
          intro q' hq'
          replace hq' : q' = ((p + 1 : Nat) : Int) := by rw [hq', IntWalk.wrap64_in _ (by omega)]; omega
          subst hq'
          conv => whnf
          exact hnx2
        · have hd : diffN G t.1.2.1 (p + 1) = diffN G t.1.2.1 p := if_neg (by rw [← hG]; exact hc)
          have hnx2 := hih2 (p + 1) (by omega) (by omega)
          rw [hd] at hnx2
          conv => whnf
          intro q' hq'
          replace hq' : q' = ((p + 1 : Nat) : Int) := by rw [hq', IntWalk.wrap64_in _ (by omega)]; omega
          subst hq'
          conv => whnf
          exact hnx2
      obtain ⟨d, hd⟩ : ∃ d : Int, ((diffN G t.1.2.1 p : Nat) : Int) = d := ⟨_, rfl⟩
      have hd1 : d ≤ 1 := by have := hdf p; omega
      rw [hd]
      clear hih2 h4
      conv => whnf
      refine ⟨[], [2, 6, 7, 8, 9, 11, 15, 16, 18], [9, 15], ?_⟩
      apply Exists.intro
      conv => whnf
      refine loopK (fun a : Nat => 36 - a) (fun a => 32 ≤ a ∧ a ≤ 36) (fun a => ⟨lay 159 0 [(2, vP l), (6, vB false), (7, vB true), (8, vI (c : Int)), (9, pB 9), (11, vI (i : Int)), (15, pB 15), (16, vI d), (18, vI (a : Int))], [(9, .cells ySys (cS s1)), (15, .cells ySys (cS t))], []⟩) ?_ 32 rfl rfl (by decide)
      intro a ih2 ⟨a1, a2⟩ hih2
      conv => whnf
      refine dcase (fun h4 => ?_) (fun h4 => ?_)
      · replace h4 : (a : Int) < 36 := h4
        obtain ⟨hwd1, hwd2⟩ := hwd (a : Int) (by omega) (by omega)
        have b1 : (0 : Int) ≤ (a : Int) ∧ (a : Int) < (s1.1.1.length : Int) := ⟨by omega, by omega⟩
        have b2 : (0 : Int) ≤ (a : Int) ∧ (a : Int) < (t.1.1.length : Int) := ⟨by omega, by omega⟩
        have hnx2 := hih2 (a + 1) (by omega) (by omega)
        obtain ⟨old, hold⟩ : ∃ old, idxI (nI s1.1.1 (a : Int)) = old := ⟨_, rfl⟩
        obtain ⟨now, hnow⟩ : ∃ now, idxI (nI t.1.1 (a : Int)) = now := ⟨_, rfl⟩
        obtain ⟨pl, hpl⟩ : ∃ pl, atI old 1 = pl := ⟨_, rfl⟩
        have hi1 := s_refIndex (nI s1.1.1 (a : Int))
        have hi2 := s_refIndex (nI t.1.1 (a : Int))
        have hi3 := s_refIndex (nI s1.1.1 pl)
        have hat := s_refAt old 1
        rw [hold, hpl] at hwd1 hwd2
        rw [hnow] at hwd1 hi2
        rw [hold] at hi1
        rw [hpl] at hat
        conv => whnf
        refine ⟨b1, ?_⟩
        conv => whnf
        first | refine .inl ⟨_, hi1, ?_⟩ | refine .inl (.inl ⟨_, hi1, ?_⟩)
        conv => whnf
        repeat (refine ⟨by first | omega | (simp only [Option.getD_none, Option.getD_some]; omega) | (simp; done) | (simp; omega), ?_⟩; conv => whnf)
        first | refine .inl ⟨_, hi2, ?_⟩ | refine .inl (.inl ⟨_, hi2, ?_⟩)
        conv => whnf
        repeat (refine ⟨by first | omega | (simp only [Option.getD_none, Option.getD_some]; omega) | (simp; done) | (simp; omega), ?_⟩; conv => whnf)
        by_cases hne : now = old
        · skip
          refine ⟨p_hazellaw08_MsqMoves_29, g_hazellaw08_MsqMoves_29, by kernel_rfl, ?st3, ?_, ?_⟩
          rotate_left
          · conv => whnf
            repeat' (first | ((refine dcase (fun h => absurd hne h) (fun _ => ?_); conv => whnf)) | (refine And.intro ?_ ?_ <;> conv => whnf) | exact rfl)
          conv => whnf
          intro q' hq'
          replace hq' : q' = ((a + 1 : Nat) : Int) := by rw [hq', IntWalk.wrap64_in _ (by omega)]; omega
          subst hq'
          conv => whnf
          exact hnx2
        · have hw3 := hwd1.resolve_left hne
          rw [← hw3] at hi3
          refine ⟨p_hazellaw08_MsqMoves_29, g_hazellaw08_MsqMoves_29, by kernel_rfl, ?st4, ?_, ?_⟩
          rotate_left
          · conv => whnf
            repeat' (first | ((refine dcase (fun _ => ?_) (fun h => absurd hne h); conv => whnf)) | (refine .inl ⟨_, hat, ?_⟩; conv => whnf) | (refine .inl (.inl ⟨_, hat, ?_⟩); conv => whnf) | (refine ⟨hwd2, ?_⟩; conv => whnf) | (refine .inl ⟨_, hi3, ?_⟩; conv => whnf) | (refine .inl (.inl ⟨_, hi3, ?_⟩); conv => whnf) | (refine And.intro ?_ ?_ <;> conv => whnf) | exact rfl)
          conv => whnf
          refine dcase (fun h => absurd rfl h) (fun _ => ?_)
          conv => whnf
          intro q' hq'
          replace hq' : q' = ((a + 1 : Nat) : Int) := by rw [hq', IntWalk.wrap64_in _ (by omega)]; omega
          subst hq'
          conv => whnf
          exact hnx2
      clear hih2
      conv => whnf
      refine dcase (fun h => absurd (show (1 : Int) < d from h) (by omega)) (fun _ => ?_)
      conv => whnf
      intro q' hq'
      replace hq' : q' = ((i + 1 : Nat) : Int) := by rw [hq', IntWalk.wrap64_in _ (by omega)]; omega
      subst hq'
      conv => whnf
      exact hnx
    | some f =>
      have hs2 : s = s1 := by rw [← hs1]; unfold goS; rw [if_neg (by rw [ht]; exact fun e => nomatch e)]
      first | refine .inr (.inl ⟨_, s_refTopOf ht (hF.fine (by omega)), ?_⟩) | refine .inl (.inr (.inl ⟨_, s_refTopOf ht (hF.fine (by omega)), ?_⟩))
      conv => whnf
      repeat (refine ⟨by first | omega | (simp only [Option.getD_none, Option.getD_some]; omega) | (simp; done) | (simp; omega), ?_⟩; conv => whnf)
      rw [hs2]
      conv => whnf
      first | refine .inr (.inl ⟨_, hstep, ?_⟩) | refine .inl (.inr (.inl ⟨_, hstep, ?_⟩))
      conv => whnf
      repeat (refine ⟨by first | omega | (simp only [Option.getD_none, Option.getD_some]; omega) | (simp; done) | (simp; omega), ?_⟩; conv => whnf)
      refine dcase (fun h => absurd (show (t.2.1.length : Int) = (c : Int) by omega) h) (fun _ => ?_)
      conv => whnf
      refine dcase (fun h => absurd (show (t.1.1.length : Int) = (s1.1.1.length : Int) by omega) h) (fun _ => ?_)
      conv => whnf
      refine dcase (fun h => absurd (show (t.1.2.1.length : Int) = (s1.1.2.1.length : Int) by omega) h) (fun _ => ?_)
      conv => whnf
      refine ⟨[], [2, 6, 7, 8, 9, 11, 15, 16, 17], [9, 15], ?_⟩
      apply Exists.intro
      conv => whnf
      refine loopK (fun p : Nat => G.length - p) (fun p => p ≤ G.length) (fun p => ⟨lay 159 0 [(2, vP l), (6, vB false), (7, vB true), (8, vI (c : Int)), (9, pB 9), (11, vI (i : Int)), (15, pB 15), (16, vI (diffN G t.1.2.1 p : Nat)), (17, vI (p : Int))], [(9, .cells ySys (cS s1)), (15, .cells ySys (cS t))], []⟩) ?_ 0 rfl rfl (Nat.zero_le _)
      clear hih
      intro p ih2 hp hih2
      conv => whnf
      refine dcase (fun h4 => ?_) (fun h4 => ?_)
      · replace h4 : (p : Int) < (s1.1.2.1.length : Int) := h4
        have hle := hdf (p + 1)
        have hle2 := hdf p
        have b1 : (0 : Int) ≤ (p : Int) ∧ (p : Int) < (s1.1.2.1.length : Int) := ⟨by omega, h4⟩
        have b2 : (0 : Int) ≤ (p : Int) ∧ (p : Int) < (t.1.2.1.length : Int) := ⟨by omega, by omega⟩
        conv => whnf
        refine ⟨p_hazellaw08_MsqMoves_22, g_hazellaw08_MsqMoves_22, by kernel_rfl, ?st5, ?_, ?_⟩
        rotate_left
        · conv => whnf
          repeat' (first | (refine ⟨b1, ?_⟩; conv => whnf) | (refine ⟨b2, ?_⟩; conv => whnf) | (refine And.intro ?_ ?_ <;> conv => whnf) | exact rfl)
        conv => whnf
        refine dcase (fun hc => ?_) (fun hc => ?_)
        · have hd : diffN G t.1.2.1 (p + 1) = diffN G t.1.2.1 p + 1 := if_pos (by rw [← hG]; exact hc)
          have hnx2 := hih2 (p + 1) (by omega) (by omega)
          conv => whnf
          intro z' hz'
          replace hz' : z' = ((diffN G t.1.2.1 (p + 1) : Nat) : Int) := by rw [hz', IntWalk.wrap64_in _ (by omega)]; omega
          subst hz'
          conv => whnf
          intro q' hq'
          replace hq' : q' = ((p + 1 : Nat) : Int) := by rw [hq', IntWalk.wrap64_in _ (by omega)]; omega
          subst hq'
          conv => whnf
          exact hnx2
        · have hd : diffN G t.1.2.1 (p + 1) = diffN G t.1.2.1 p := if_neg (by rw [← hG]; exact hc)
          have hnx2 := hih2 (p + 1) (by omega) (by omega)
          rw [hd] at hnx2
          conv => whnf
          intro q' hq'
          replace hq' : q' = ((p + 1 : Nat) : Int) := by rw [hq', IntWalk.wrap64_in _ (by omega)]; omega
          subst hq'
          conv => whnf
          exact hnx2
      obtain ⟨d, hd⟩ : ∃ d : Int, ((diffN G t.1.2.1 p : Nat) : Int) = d := ⟨_, rfl⟩
      have hd1 : d ≤ 1 := by have := hdf p; omega
      rw [hd]
      clear hih2 h4
      conv => whnf
      refine ⟨[], [2, 6, 7, 8, 9, 11, 15, 16, 18], [9, 15], ?_⟩
      apply Exists.intro
      conv => whnf
      refine loopK (fun a : Nat => 36 - a) (fun a => 32 ≤ a ∧ a ≤ 36) (fun a => ⟨lay 159 0 [(2, vP l), (6, vB false), (7, vB true), (8, vI (c : Int)), (9, pB 9), (11, vI (i : Int)), (15, pB 15), (16, vI d), (18, vI (a : Int))], [(9, .cells ySys (cS s1)), (15, .cells ySys (cS t))], []⟩) ?_ 32 rfl rfl (by decide)
      intro a ih2 ⟨a1, a2⟩ hih2
      conv => whnf
      refine dcase (fun h4 => ?_) (fun h4 => ?_)
      · replace h4 : (a : Int) < 36 := h4
        obtain ⟨hwd1, hwd2⟩ := hwd (a : Int) (by omega) (by omega)
        have b1 : (0 : Int) ≤ (a : Int) ∧ (a : Int) < (s1.1.1.length : Int) := ⟨by omega, by omega⟩
        have b2 : (0 : Int) ≤ (a : Int) ∧ (a : Int) < (t.1.1.length : Int) := ⟨by omega, by omega⟩
        have hnx2 := hih2 (a + 1) (by omega) (by omega)
        obtain ⟨old, hold⟩ : ∃ old, idxI (nI s1.1.1 (a : Int)) = old := ⟨_, rfl⟩
        obtain ⟨now, hnow⟩ : ∃ now, idxI (nI t.1.1 (a : Int)) = now := ⟨_, rfl⟩
        obtain ⟨pl, hpl⟩ : ∃ pl, atI old 1 = pl := ⟨_, rfl⟩
        have hi1 := s_refIndex (nI s1.1.1 (a : Int))
        have hi2 := s_refIndex (nI t.1.1 (a : Int))
        have hi3 := s_refIndex (nI s1.1.1 pl)
        have hat := s_refAt old 1
        rw [hold, hpl] at hwd1 hwd2
        rw [hnow] at hwd1 hi2
        rw [hold] at hi1
        rw [hpl] at hat
        conv => whnf
        refine ⟨b1, ?_⟩
        conv => whnf
        first | refine .inl ⟨_, hi1, ?_⟩ | refine .inl (.inl ⟨_, hi1, ?_⟩)
        conv => whnf
        repeat (refine ⟨by first | omega | (simp only [Option.getD_none, Option.getD_some]; omega) | (simp; done) | (simp; omega), ?_⟩; conv => whnf)
        first | refine .inl ⟨_, hi2, ?_⟩ | refine .inl (.inl ⟨_, hi2, ?_⟩)
        conv => whnf
        repeat (refine ⟨by first | omega | (simp only [Option.getD_none, Option.getD_some]; omega) | (simp; done) | (simp; omega), ?_⟩; conv => whnf)
        by_cases hne : now = old
        · skip
          refine ⟨p_hazellaw08_MsqMoves_29, g_hazellaw08_MsqMoves_29, by kernel_rfl, ?st6, ?_, ?_⟩
          rotate_left
          · conv => whnf
            repeat' (first | ((refine dcase (fun h => absurd hne h) (fun _ => ?_); conv => whnf)) | (refine And.intro ?_ ?_ <;> conv => whnf) | exact rfl)
          conv => whnf
          intro q' hq'
          replace hq' : q' = ((a + 1 : Nat) : Int) := by rw [hq', IntWalk.wrap64_in _ (by omega)]; omega
          subst hq'
          conv => whnf
          exact hnx2
        · have hw3 := hwd1.resolve_left hne
          rw [← hw3] at hi3
          refine ⟨p_hazellaw08_MsqMoves_29, g_hazellaw08_MsqMoves_29, by kernel_rfl, ?st7, ?_, ?_⟩
          rotate_left
          · conv => whnf
            repeat' (first | ((refine dcase (fun _ => ?_) (fun h => absurd hne h); conv => whnf)) | (refine .inl ⟨_, hat, ?_⟩; conv => whnf) | (refine .inl (.inl ⟨_, hat, ?_⟩); conv => whnf) | (refine ⟨hwd2, ?_⟩; conv => whnf) | (refine .inl ⟨_, hi3, ?_⟩; conv => whnf) | (refine .inl (.inl ⟨_, hi3, ?_⟩); conv => whnf) | (refine And.intro ?_ ?_ <;> conv => whnf) | exact rfl)
          conv => whnf
          refine dcase (fun h => absurd rfl h) (fun _ => ?_)
          conv => whnf
          intro q' hq'
          replace hq' : q' = ((a + 1 : Nat) : Int) := by rw [hq', IntWalk.wrap64_in _ (by omega)]; omega
          subst hq'
          conv => whnf
          exact hnx2
      clear hih2
      conv => whnf
      refine dcase (fun h => absurd (show (1 : Int) < d from h) (by omega)) (fun _ => ?_)
      conv => whnf
      intro q' hq'
      replace hq' : q' = ((i + 1 : Nat) : Int) := by rw [hq', IntWalk.wrap64_in _ (by omega)]; omega
      subst hq'
      conv => whnf
      exact hnx
  conv => whnf
  first | exact .inl rfl | exact .inr rfl
end Go.Proofs.YtpobngddiifdpaaGreat.V
