/- ScanRetires: the law. -/
import Derived.Test.YtjeiopkfdgllhaaV25
namespace Go.Proofs.Ytjeiopkfdgllhaa.V
open Go Go.RowKit Go.Proofs.Ytjeiopkfdgllhaa.Hz
set_option maxRecDepth 100000

/-- What the law asks of the system t behind the step. -/
structure RetAsk (s t : Sy) (k p : Int) (R : Li) (b : Bool) : Prop where
  fin : Fin 201 t
  cores : t.2.1.length = s.2.1.length
  nodes : t.1.2.1.length = s.1.2.1.length
  ret : (cAt t.2.1 k).2.2.2.2.1 = snoc R p
  begins : b = decide (3 * (s.2.1.length : Int) + 1 ≤ R.length + 1)
  top : b = true → topI t k = some (frm0 6 0 0 0) ∧ (cAt t.2.1 k).1.length = (cAt s.2.1 k).1.length + 2
  low : b = false → (cAt t.2.1 k).1.length = (cAt s.2.1 k).1.length ∧ (cAt t.2.1 k).2.1 = p
  live : nI s.1.2.1 p = 1 → nI t.1.2.1 p = 2
  bad : nI s.1.2.1 p ≠ 1 → t.1.2.2.1 = true
  retd : (retI t.2.1).length = (retI s.2.1).length + 1
theorem turnM_glen (m : Me) (p to : Int) : (turnM m p to).2.1.length = m.2.1.length := oneSet_len (turnM_one m p to)
theorem ret_ask {s : Sy} {k p : Int} (hf : Fin 200 s) (h0 : 0 ≤ k) (h1 : k < s.2.1.length) (hF : (cAt s.2.1 k).1.length < 38) (hR : (retL s k).length < 200) (hp0 : 1 ≤ p) (hp1 : p < s.1.2.1.length) :
    ∃ b, RetAsk s (scanS (callS s k 5 p 0 0) k) k p (retL s k) b := by
  have hfin : Fin 201 (scanS (callS s k 5 p 0 0) k) := scanS_fin hf.callS
  obtain ⟨F, v, e, x, R, u, hc⟩ : ∃ F v e x R u, cAt s.2.1 k = (F, v, e, x, R, u) := ⟨_, _, _, _, _, _, rfl⟩
  obtain rfl : u = () := rfl
  have hcall := callS_self (s := s) (op := 5) (a := p) (b := 0) (d := 0) h0 h1 (by omega)
  unfold retL at hR ⊢
  rw [hc] at hcall hF hR ⊢
  have hst := retires_is (s := s) (k := k) (p := p) (F := F) (v := v) (e := e) (x := x) (R := R) h0 h1 hR hF
  have hFc : (cAt s.2.1 k).1.length = F.length := by rw [hc]
  have hset : ∀ c : Cor, (retI (List.set (α := Cor) s.2.1 k.toNat c)).length + R.length = (retI s.2.1).length + c.2.2.2.2.1.length := fun c => by
    have h := retI_set c s.2.1 k.toNat (by omega)
    rw [show (s.2.1.getD k.toNat (dflt tCore)).2.2.2.2.1 = R from congrArg (fun c : Cor => c.2.2.2.2.1) hc] at h
    exact h
  have hsn : (snoc R p).length = R.length + 1 := by rw [List.length_append]; rfl
  have hlive : nI s.1.2.1 p = 1 → nI (turnM s.1 p 2).2.1 p = 2 := fun h => by
    rw [show turnM s.1 p 2 = (s.1.1, List.set (α := Int) s.1.2.1 p.toNat 2, s.1.2.2) from if_pos ⟨hp0, hp1, by rw [h]; decide⟩]
    exact getD_set (by omega)
  have hbad : nI s.1.2.1 p ≠ 1 → (turnM s.1 p 2).2.2.1 = true := fun h => by
    have hn : ¬ (1 ≤ p ∧ p < s.1.2.1.length ∧ turnB (nI s.1.2.1 p) 2 = true) := fun e => by
      have e3 := e.2.2
      unfold turnB eq2 at e3
      simp at e3
      exact h e3
    rw [show turnM s.1 p 2 = (s.1.1, s.1.2.1, true, ()) from if_neg hn]
  rw [hcall] at hfin ⊢
  rw [hst] at hfin ⊢
  by_cases c : (R.length : Int) + 1 < 3 * s.2.1.length + 1
  · rw [if_pos c] at hfin ⊢
    refine ⟨false, hfin, stS_len, turnM_glen _ _ _, by rw [stS_core h0 h1], (decide_eq_false (by show ¬ 3 * (s.2.1.length : Int) + 1 ≤ R.length + 1; omega)).symm, (fun h => by cases h), fun _ => by rw [stS_core h0 h1, hFc]; exact ⟨rfl, rfl⟩, hlive, hbad, ?_⟩
    have h := hset (F, p, 0, x, snoc R p, ())
    show (retI (List.set (α := Cor) s.2.1 k.toNat _)).length = _
    have h2 : ((F, p, (0 : Int), x, snoc R p, ()) : Cor).2.2.2.2.1.length = R.length + 1 := hsn
    omega
  · rw [if_neg c] at hfin ⊢
    refine ⟨true, hfin, stS_len, turnM_glen _ _ _, by rw [stS_core h0 h1], (decide_eq_true (by show 3 * (s.2.1.length : Int) + 1 ≤ R.length + 1; omega)).symm, fun _ => ⟨topI_st h0 h1, by rw [stS_core h0 h1, hFc, List.length_append, List.length_append]; rfl⟩, (fun h => by cases h), hlive, hbad, ?_⟩
    have h := hset (F ++ [((5 : Int), (1 : Int), (frm0 5 p 0 0).2.2.1, ([] : List Int), ())] ++ [frm0 6 0 0 0], v, e, x, snoc R p, ())
    show (retI (List.set (α := Cor) s.2.1 k.toNat _)).length = _
    have h2 : ((F ++ [((5 : Int), (1 : Int), (frm0 5 p 0 0).2.2.1, ([] : List Int), ())] ++ [frm0 6 0 0 0], v, e, x, snoc R p, ()) : Cor).2.2.2.2.1.length = R.length + 1 := hsn
    omega
set_option maxHeartbeats 4000000 in
theorem s_ScanRetires (s : Sy) (a : Int) (ha0 : 0 ≤ a) (ha1 : a ≤ 255) (b : Int) (hb0 : 0 ≤ b) (hb1 : b ≤ 255) : Spec Try.prog 4 [vS s, vU8 a, vU8 b] (vB true) := by
  refine spec_introF true tab_ok 0 Try.func4 rfl (by kernel_rfl) rfl ?_
  conv => whnf
  first | refine .inl ⟨_, s_shown06, ?_⟩ | refine .inl (.inl ⟨_, s_shown06, ?_⟩)
  conv => whnf
  repeat (refine ⟨by first | omega | (simp only [Option.getD_none, Option.getD_some]; omega) | (simp; done) | (simp; omega), ?_⟩; conv => whnf)
  first | refine .inl ⟨_, s_refMay s 40 (by decide) (by decide), ?_⟩ | refine .inl (.inl ⟨_, s_refMay s 40 (by decide) (by decide), ?_⟩)
  conv => whnf
  repeat (refine ⟨by first | omega | (simp only [Option.getD_none, Option.getD_some]; omega) | (simp; done) | (simp; omega), ?_⟩; conv => whnf)
  refine ncaseb (fun h => ?_) (fun h => ?_)
  · skip
    conv => whnf
    repeat (refine ⟨by first | omega | (simp only [Option.getD_none, Option.getD_some]; omega) | (simp; done) | (simp; omega), ?_⟩; conv => whnf)
    first | exact .inl rfl | exact .inr rfl
  have hf := may_fin h
  obtain ⟨_, ⟨⟨m1, m2, m3, m4, m5⟩, c1, c8, _⟩⟩ := may_is h
  conv => whnf
  intro z hz
  replace hz : z = a := hz.trans (IntWalk.wrap64_in _ (by omega))
  subst hz
  conv => whnf
  refine ⟨by omega, ?_⟩
  obtain ⟨k, hk, h0, h1⟩ : ∃ k, z.tmod (s.2.1.length : Int) = k ∧ 0 ≤ k ∧ k < s.2.1.length := ⟨_, rfl, Int.tmod_nonneg _ ha0, Int.tmod_lt_of_pos _ (by omega)⟩
  rw [hk]
  conv => whnf
  refine ⟨⟨h0, h1⟩, ?_⟩
  conv => whnf
  refine dcase (fun h38 => ?_) (fun h38 => ?_)
  · skip
    conv => whnf
    repeat (refine ⟨by first | omega | (simp only [Option.getD_none, Option.getD_some]; omega) | (simp; done) | (simp; omega), ?_⟩; conv => whnf)
    first | exact .inl rfl | exact .inr rfl
  have h38 : (cAt s.2.1 k).1.length < 38 := Int.ofNat_lt.1 (Int.not_le.1 h38)
  conv => whnf
  refine ⟨⟨h0, h1⟩, ?_⟩
  conv => whnf
  refine dcase (fun h200 => ?_) (fun h200 => ?_)
  · skip
    conv => whnf
    repeat (refine ⟨by first | omega | (simp only [Option.getD_none, Option.getD_some]; omega) | (simp; done) | (simp; omega), ?_⟩; conv => whnf)
    first | exact .inl rfl | exact .inr rfl
  have h200 : (retL s k).length < 200 := Int.ofNat_lt.1 (Int.not_le.1 h200)
  conv => whnf
  intro y hy
  replace hy : y = b := hy.trans (IntWalk.wrap64_in _ (by omega))
  subst hy
  conv => whnf
  intro n hn
  replace hn : n = (s.1.2.1.length : Int) - 1 := hn.trans (IntWalk.wrap64_in _ (by omega))
  conv => whnf
  refine ⟨by omega, ?_⟩
  have hM0 := Int.tmod_nonneg n hb0
  have hM1 := Int.tmod_lt_of_pos y (show 0 < n by omega)
  obtain ⟨M, hM⟩ : ∃ M, y.tmod n = M := ⟨_, rfl⟩
  rw [hM] at hM0 hM1 ⊢
  conv => whnf
  intro p hp
  replace hp : p = 1 + M := hp.trans (IntWalk.wrap64_in _ (by omega))
  have hp0 : 1 ≤ p := by omega
  have hp0' : 0 ≤ p := by omega
  have hp1 : p < s.1.2.1.length := by omega
  clear hM0 hM1 hM hp hn
  conv => whnf
  obtain ⟨q, t, B, hc1, hst, hq⟩ : ∃ q t B, Spec Try.prog 19 [vS s, vI k, vI 5, vI p, vI 0, vI 0] (vS q) ∧ Spec Try.prog 18 [vS q, vI k] (vS t) ∧ RetAsk s t k p (retL s k) B := by
    obtain ⟨B, hB⟩ := ret_ask hf h0 h1 h38 h200 hp0 hp1
    exact ⟨_, _, B, s_refCall s k 5 p 0 0 (by omega), s_scanStep _ k hf.callS (by decide), hB⟩
  have hp1' : p < t.1.2.1.length := by rw [hq.nodes]; exact hp1
  have ht1 : k < t.2.1.length := by rw [hq.cores]; exact h1
  have happ0 : (retL s k).length ≤ mostElems := le_most (by omega)
  have happ1 : (retL s k).length + 1 ≤ mostElems := le_most (by omega)
  obtain ⟨L, hL, hLs⟩ : ∃ L : Int, L = 3 * (s.2.1.length : Int) + 1 ∧ Spec Try.prog 15 [vI (s.2.1.length : Int)] (vI L) := ⟨_, rfl, s_Limit _ (by omega) (by omega)⟩
  have hI : Spec Try.prog 20 [vL (cAt t.2.1 k).2.2.2.2.1, vL (snoc (retL s k) p)] (vB true) := by
    rw [hq.ret]
    have h := s_refInts (snoc (retL s k) p) (snoc (retL s k) p) (by rw [List.length_append]; show (retL s k).length + 1 ≤ _; omega)
    rw [sameB_yes rfl] at h
    exact h
  obtain ⟨r1, r2, hr1, hr2, hr3, hr4⟩ : ∃ r1 r2, Spec Try.prog 11 [vS t] (vL r1) ∧ Spec Try.prog 21 [vS s] (vL r2) ∧ r1.length = r2.length + 1 ∧ r2.length ≤ 1000000 := ⟨retI t.2.1, retI s.2.1, s_Retired t hq.fin.cores (ret_fin hq.fin), s_refRetired s hf.cores (ret_fin hf), hq.retd, by have := ret_fin hf s.2.1.length (Nat.le_refl _); rw [List.take_length] at this; exact this⟩
  have hr1b : ∀ bd, t.1.2.2.1 = bd → Spec Try.prog 11 [.agg [.sl tI t.1.1 false, .sl tI t.1.2.1 false, .bool bd, .sl tCore t.2.1 false, .sl tEv t.2.2.1 false]] (vL r1) := fun bd e => by subst e; exact hr1
  have hrr : (r1.length : Int) = (r2.length : Int) + 1 := by omega
  have hadd : VHold (wrap64 ((r2.length : Int) + 1) = (r2.length : Int) + 1) := ⟨IntWalk.wrap64_in _ (by omega)⟩
  have hBd : decide (L ≤ (((retL s k ++ [p]).length : Nat) : Int)) = B := by
    rw [hq.begins, hL]
    have : ((retL s k ++ [p]).length : Int) = (retL s k).length + 1 := by rw [List.length_append]; rfl
    rw [this]
  first | refine .inr (.inl ⟨_, hc1, ?_⟩) | refine .inl (.inr (.inl ⟨_, hc1, ?_⟩))
  conv => whnf
  repeat (refine ⟨by first | omega | (simp only [Option.getD_none, Option.getD_some]; omega) | (simp; done) | (simp; omega), ?_⟩; conv => whnf)
  first | refine .inr (.inl ⟨_, hst, ?_⟩) | refine .inl (.inr (.inl ⟨_, hst, ?_⟩))
  conv => whnf
  repeat (refine ⟨by first | omega | (simp only [Option.getD_none, Option.getD_some]; omega) | (simp; done) | (simp; omega), ?_⟩; conv => whnf)
  refine dcase (fun h => absurd (by rw [hq.cores]) h) (fun _ => ?_)
  conv => whnf
  refine dcase (fun h => absurd (by rw [hq.nodes]) h) (fun _ => ?_)
  conv => whnf
  refine ⟨⟨h0, h1⟩, ?_⟩
  conv => whnf
  refine ⟨happ0, ?_⟩
  conv => whnf
  refine ⟨happ1, ?_⟩
  conv => whnf
  first | refine .inl ⟨_, hLs, ?_⟩ | refine .inl (.inl ⟨_, hLs, ?_⟩)
  conv => whnf
  rw [hBd]
  cases B with
  | true =>
    obtain ⟨ht, hlen⟩ := hq.top rfl
    have htop : Spec Try.prog 14 [vS t, vI k] (vFB (frm0 6 0 0 0) true) := by
      have h := s_refTop t k (Nat.le_trans hq.fin.cores (by decide)) (fun c hc => Nat.le_trans (hq.fin.core c hc).frames (by decide))
      rw [ht] at h
      exact h
    have hlen2 : (((cAt t.2.1 k).1.length : Nat) : Int) = ((cAt s.2.1 k).1.length : Int) + 2 := by omega
    have h2 : VHold (wrap64 (((cAt s.2.1 k).1.length : Int) + 2) = ((cAt s.2.1 k).1.length : Int) + 2) := ⟨IntWalk.wrap64_in _ (by omega)⟩
    first | refine .inr (.inl ⟨_, htop, ?_⟩) | refine .inl (.inr (.inl ⟨_, htop, ?_⟩))
    conv => whnf
    refine ⟨p_hazellaw06_ScanRetires_14, g_hazellaw06_ScanRetires_14, by kernel_rfl, ?_⟩
    apply Exists.intro
    refine ⟨?_, ?_⟩
    · conv => whnf
      repeat' (first | (refine ⟨⟨h0, ht1⟩, ?_⟩; conv => whnf) | (refine ⟨⟨h0, h1⟩, ?_⟩; conv => whnf) | ((intro z hz; rw [h2.out] at hz; subst hz; conv => whnf)) | (refine And.intro ?_ ?_ <;> conv => whnf) | exact rfl)
    have hd : decide ((((cAt t.2.1 k).1.length : Nat) : Int) = ((cAt s.2.1 k).1.length : Int) + 2) = true := decide_eq_true hlen2
    rw [hd]
    conv => whnf
    refine ⟨p_hazellaw06_ScanRetires_15, g_hazellaw06_ScanRetires_15, by kernel_rfl, ?_⟩
    apply Exists.intro
    refine ⟨?_, ?_⟩
    · conv => whnf
      repeat' (first | (refine ⟨⟨h0, ht1⟩, ?_⟩; conv => whnf) | (refine ⟨⟨h0, h1⟩, ?_⟩; conv => whnf) | (refine .inl ⟨_, hI, ?_⟩; conv => whnf) | (refine .inl (.inl ⟨_, hI, ?_⟩); conv => whnf) | (refine And.intro ?_ ?_ <;> conv => whnf) | exact rfl)
    conv => whnf
    by_cases g1 : nI s.1.2.1 p = 1
    · have g2 := hq.live g1
      have g1' : List.getD s.1.2.1 p.toNat (dflt tI) = 1 := g1
      have g2' : List.getD t.1.2.1 p.toNat (dflt tI) = 2 := g2
      obtain ⟨bd, hbd⟩ : ∃ bd, t.1.2.2.1 = bd := ⟨_, rfl⟩
      rw [hbd]
      cases bd with
      | true =>
        refine ⟨p_hazellaw06_ScanRetires_17, g_hazellaw06_ScanRetires_17, by kernel_rfl, ?_⟩
        apply Exists.intro
        refine ⟨?_, ?_⟩
        · conv => whnf
          repeat' (first | (refine ⟨⟨hp0', hp1⟩, ?_⟩; conv => whnf) | (refine ⟨⟨hp0', hp1'⟩, ?_⟩; conv => whnf) | ((refine dcase (fun h => absurd g1 h) (fun _ => ?_); conv => whnf)) | ((refine dcase (fun _ => ?_) (fun h => absurd g2 h); conv => whnf)) | ((intro z hz; rw [hadd.out] at hz; subst hz; conv => whnf)) | (refine .inr (.inl ⟨_, hr1b _ hbd, ?_⟩); conv => whnf) | (refine .inl (.inr (.inl ⟨_, hr1b _ hbd, ?_⟩)); conv => whnf) | (refine .inr (.inl ⟨_, hr2, ?_⟩); conv => whnf) | (refine .inl (.inr (.inl ⟨_, hr2, ?_⟩)); conv => whnf) | (refine And.intro ?_ ?_ <;> conv => whnf) | exact rfl)
        conv => whnf
        exact .inl (congrArg vB (decide_eq_true hrr))
      | false =>
        refine ⟨p_hazellaw06_ScanRetires_17, g_hazellaw06_ScanRetires_17, by kernel_rfl, ?_⟩
        apply Exists.intro
        refine ⟨?_, ?_⟩
        · conv => whnf
          repeat' (first | (refine ⟨⟨hp0', hp1⟩, ?_⟩; conv => whnf) | (refine ⟨⟨hp0', hp1'⟩, ?_⟩; conv => whnf) | ((refine dcase (fun h => absurd g1 h) (fun _ => ?_); conv => whnf)) | ((refine dcase (fun _ => ?_) (fun h => absurd g2 h); conv => whnf)) | ((refine dcase (fun _ => ?_) (fun h => absurd g1 h); conv => whnf)) | ((intro z hz; rw [hadd.out] at hz; subst hz; conv => whnf)) | (refine .inr (.inl ⟨_, hr1b _ hbd, ?_⟩); conv => whnf) | (refine .inl (.inr (.inl ⟨_, hr1b _ hbd, ?_⟩)); conv => whnf) | (refine .inr (.inl ⟨_, hr2, ?_⟩); conv => whnf) | (refine .inl (.inr (.inl ⟨_, hr2, ?_⟩)); conv => whnf) | (refine And.intro ?_ ?_ <;> conv => whnf) | exact rfl)
        conv => whnf
        exact .inl (congrArg vB (decide_eq_true hrr))
    · have hbd := hq.bad g1
      rw [hbd]
      refine ⟨p_hazellaw06_ScanRetires_17, g_hazellaw06_ScanRetires_17, by kernel_rfl, ?_⟩
      apply Exists.intro
      refine ⟨?_, ?_⟩
      · conv => whnf
        repeat' (first | (refine ⟨⟨hp0', hp1⟩, ?_⟩; conv => whnf) | ((refine dcase (fun _ => ?_) (fun h => absurd g1 h); conv => whnf)) | ((intro z hz; rw [hadd.out] at hz; subst hz; conv => whnf)) | (refine .inr (.inl ⟨_, hr1b _ hbd, ?_⟩); conv => whnf) | (refine .inl (.inr (.inl ⟨_, hr1b _ hbd, ?_⟩)); conv => whnf) | (refine .inr (.inl ⟨_, hr2, ?_⟩); conv => whnf) | (refine .inl (.inr (.inl ⟨_, hr2, ?_⟩)); conv => whnf) | (refine And.intro ?_ ?_ <;> conv => whnf) | exact rfl)
      conv => whnf
      exact .inl (congrArg vB (decide_eq_true hrr))
  | false =>
    obtain ⟨hl1, hl2⟩ := hq.low rfl
    have hlF : (((cAt t.2.1 k).1.length : Nat) : Int) = ((cAt s.2.1 k).1.length : Int) := by rw [hl1]
    have hlV : (cAt t.2.1 k).2.1 = p := hl2
    have h2 : VHold (wrap64 (((cAt s.2.1 k).1.length : Int) + 2) = ((cAt s.2.1 k).1.length : Int) + 2) := ⟨IntWalk.wrap64_in _ (by omega)⟩
    obtain ⟨f, is, htop⟩ : ∃ f is, Spec Try.prog 14 [vS t, vI k] (vFB f is) := ⟨_, _, s_refTop t k (Nat.le_trans hq.fin.cores (by decide)) (fun c hc => Nat.le_trans (hq.fin.core c hc).frames (by decide))⟩
    first | refine .inr (.inl ⟨_, htop, ?_⟩) | refine .inl (.inr (.inl ⟨_, htop, ?_⟩))
    conv => whnf
    cases is with
    | false =>
      refine ⟨p_hazellaw06_ScanRetires_14, g_hazellaw06_ScanRetires_14, by kernel_rfl, ?_⟩
      apply Exists.intro
      refine ⟨?_, ?_⟩
      · conv => whnf
      conv => whnf
      refine ⟨p_hazellaw06_ScanRetires_15, g_hazellaw06_ScanRetires_15, by kernel_rfl, ?_⟩
      apply Exists.intro
      refine ⟨?_, ?_⟩
      · conv => whnf
        repeat' (first | (refine ⟨⟨h0, ht1⟩, ?_⟩; conv => whnf) | (refine ⟨⟨h0, h1⟩, ?_⟩; conv => whnf) | (refine .inl ⟨_, hI, ?_⟩; conv => whnf) | (refine .inl (.inl ⟨_, hI, ?_⟩); conv => whnf) | ((refine dcase (fun h => absurd hlF h) (fun _ => ?_); conv => whnf)) | (refine And.intro ?_ ?_ <;> conv => whnf) | exact rfl)
      conv => whnf
      refine dcase (fun h => absurd hlV h) (fun _ => ?_)
      conv => whnf
      by_cases g1 : nI s.1.2.1 p = 1
      · have g2 := hq.live g1
        have g1' : List.getD s.1.2.1 p.toNat (dflt tI) = 1 := g1
        have g2' : List.getD t.1.2.1 p.toNat (dflt tI) = 2 := g2
        obtain ⟨bd, hbd⟩ : ∃ bd, t.1.2.2.1 = bd := ⟨_, rfl⟩
        rw [hbd]
        cases bd with
        | true =>
          refine ⟨p_hazellaw06_ScanRetires_17, g_hazellaw06_ScanRetires_17, by kernel_rfl, ?_⟩
          apply Exists.intro
          refine ⟨?_, ?_⟩
          · conv => whnf
            repeat' (first | (refine ⟨⟨hp0', hp1⟩, ?_⟩; conv => whnf) | (refine ⟨⟨hp0', hp1'⟩, ?_⟩; conv => whnf) | ((refine dcase (fun h => absurd g1 h) (fun _ => ?_); conv => whnf)) | ((refine dcase (fun _ => ?_) (fun h => absurd g2 h); conv => whnf)) | ((intro z hz; rw [hadd.out] at hz; subst hz; conv => whnf)) | (refine .inr (.inl ⟨_, hr1b _ hbd, ?_⟩); conv => whnf) | (refine .inl (.inr (.inl ⟨_, hr1b _ hbd, ?_⟩)); conv => whnf) | (refine .inr (.inl ⟨_, hr2, ?_⟩); conv => whnf) | (refine .inl (.inr (.inl ⟨_, hr2, ?_⟩)); conv => whnf) | (refine And.intro ?_ ?_ <;> conv => whnf) | exact rfl)
          conv => whnf
          exact .inl (congrArg vB (decide_eq_true hrr))
        | false =>
          refine ⟨p_hazellaw06_ScanRetires_17, g_hazellaw06_ScanRetires_17, by kernel_rfl, ?_⟩
          apply Exists.intro
          refine ⟨?_, ?_⟩
          · conv => whnf
            repeat' (first | (refine ⟨⟨hp0', hp1⟩, ?_⟩; conv => whnf) | (refine ⟨⟨hp0', hp1'⟩, ?_⟩; conv => whnf) | ((refine dcase (fun h => absurd g1 h) (fun _ => ?_); conv => whnf)) | ((refine dcase (fun _ => ?_) (fun h => absurd g2 h); conv => whnf)) | ((refine dcase (fun _ => ?_) (fun h => absurd g1 h); conv => whnf)) | ((intro z hz; rw [hadd.out] at hz; subst hz; conv => whnf)) | (refine .inr (.inl ⟨_, hr1b _ hbd, ?_⟩); conv => whnf) | (refine .inl (.inr (.inl ⟨_, hr1b _ hbd, ?_⟩)); conv => whnf) | (refine .inr (.inl ⟨_, hr2, ?_⟩); conv => whnf) | (refine .inl (.inr (.inl ⟨_, hr2, ?_⟩)); conv => whnf) | (refine And.intro ?_ ?_ <;> conv => whnf) | exact rfl)
          conv => whnf
          exact .inl (congrArg vB (decide_eq_true hrr))
      · have hbd := hq.bad g1
        rw [hbd]
        refine ⟨p_hazellaw06_ScanRetires_17, g_hazellaw06_ScanRetires_17, by kernel_rfl, ?_⟩
        apply Exists.intro
        refine ⟨?_, ?_⟩
        · conv => whnf
          repeat' (first | (refine ⟨⟨hp0', hp1⟩, ?_⟩; conv => whnf) | ((refine dcase (fun _ => ?_) (fun h => absurd g1 h); conv => whnf)) | ((intro z hz; rw [hadd.out] at hz; subst hz; conv => whnf)) | (refine .inr (.inl ⟨_, hr1b _ hbd, ?_⟩); conv => whnf) | (refine .inl (.inr (.inl ⟨_, hr1b _ hbd, ?_⟩)); conv => whnf) | (refine .inr (.inl ⟨_, hr2, ?_⟩); conv => whnf) | (refine .inl (.inr (.inl ⟨_, hr2, ?_⟩)); conv => whnf) | (refine And.intro ?_ ?_ <;> conv => whnf) | exact rfl)
        conv => whnf
        exact .inl (congrArg vB (decide_eq_true hrr))
    | true =>
      by_cases h6 : f.1 = 6
      · skip
        refine ⟨p_hazellaw06_ScanRetires_14, g_hazellaw06_ScanRetires_14, by kernel_rfl, ?_⟩
        apply Exists.intro
        refine ⟨?_, ?_⟩
        · conv => whnf
          repeat' (first | (refine ⟨⟨h0, ht1⟩, ?_⟩; conv => whnf) | (refine ⟨⟨h0, h1⟩, ?_⟩; conv => whnf) | ((refine dcase (fun _ => ?_) (fun h => absurd h6 h); conv => whnf)) | ((intro z hz; rw [h2.out] at hz; subst hz; conv => whnf)) | (refine And.intro ?_ ?_ <;> conv => whnf) | exact rfl)
        have hd : decide ((((cAt t.2.1 k).1.length : Nat) : Int) = ((cAt s.2.1 k).1.length : Int) + 2) = false := decide_eq_false (by omega)
        rw [hd]
        conv => whnf
        refine ⟨p_hazellaw06_ScanRetires_15, g_hazellaw06_ScanRetires_15, by kernel_rfl, ?_⟩
        apply Exists.intro
        refine ⟨?_, ?_⟩
        · conv => whnf
          repeat' (first | (refine ⟨⟨h0, ht1⟩, ?_⟩; conv => whnf) | (refine ⟨⟨h0, h1⟩, ?_⟩; conv => whnf) | (refine .inl ⟨_, hI, ?_⟩; conv => whnf) | (refine .inl (.inl ⟨_, hI, ?_⟩); conv => whnf) | ((refine dcase (fun h => absurd hlF h) (fun _ => ?_); conv => whnf)) | (refine And.intro ?_ ?_ <;> conv => whnf) | exact rfl)
        conv => whnf
        refine dcase (fun h => absurd hlV h) (fun _ => ?_)
        conv => whnf
        by_cases g1 : nI s.1.2.1 p = 1
        · have g2 := hq.live g1
          have g1' : List.getD s.1.2.1 p.toNat (dflt tI) = 1 := g1
          have g2' : List.getD t.1.2.1 p.toNat (dflt tI) = 2 := g2
          obtain ⟨bd, hbd⟩ : ∃ bd, t.1.2.2.1 = bd := ⟨_, rfl⟩
          rw [hbd]
          cases bd with
          | true =>
            refine ⟨p_hazellaw06_ScanRetires_17, g_hazellaw06_ScanRetires_17, by kernel_rfl, ?_⟩
            apply Exists.intro
            refine ⟨?_, ?_⟩
            · conv => whnf
              repeat' (first | (refine ⟨⟨hp0', hp1⟩, ?_⟩; conv => whnf) | (refine ⟨⟨hp0', hp1'⟩, ?_⟩; conv => whnf) | ((refine dcase (fun h => absurd g1 h) (fun _ => ?_); conv => whnf)) | ((refine dcase (fun _ => ?_) (fun h => absurd g2 h); conv => whnf)) | ((intro z hz; rw [hadd.out] at hz; subst hz; conv => whnf)) | (refine .inr (.inl ⟨_, hr1b _ hbd, ?_⟩); conv => whnf) | (refine .inl (.inr (.inl ⟨_, hr1b _ hbd, ?_⟩)); conv => whnf) | (refine .inr (.inl ⟨_, hr2, ?_⟩); conv => whnf) | (refine .inl (.inr (.inl ⟨_, hr2, ?_⟩)); conv => whnf) | (refine And.intro ?_ ?_ <;> conv => whnf) | exact rfl)
            conv => whnf
            exact .inl (congrArg vB (decide_eq_true hrr))
          | false =>
            refine ⟨p_hazellaw06_ScanRetires_17, g_hazellaw06_ScanRetires_17, by kernel_rfl, ?_⟩
            apply Exists.intro
            refine ⟨?_, ?_⟩
            · conv => whnf
              repeat' (first | (refine ⟨⟨hp0', hp1⟩, ?_⟩; conv => whnf) | (refine ⟨⟨hp0', hp1'⟩, ?_⟩; conv => whnf) | ((refine dcase (fun h => absurd g1 h) (fun _ => ?_); conv => whnf)) | ((refine dcase (fun _ => ?_) (fun h => absurd g2 h); conv => whnf)) | ((refine dcase (fun _ => ?_) (fun h => absurd g1 h); conv => whnf)) | ((intro z hz; rw [hadd.out] at hz; subst hz; conv => whnf)) | (refine .inr (.inl ⟨_, hr1b _ hbd, ?_⟩); conv => whnf) | (refine .inl (.inr (.inl ⟨_, hr1b _ hbd, ?_⟩)); conv => whnf) | (refine .inr (.inl ⟨_, hr2, ?_⟩); conv => whnf) | (refine .inl (.inr (.inl ⟨_, hr2, ?_⟩)); conv => whnf) | (refine And.intro ?_ ?_ <;> conv => whnf) | exact rfl)
            conv => whnf
            exact .inl (congrArg vB (decide_eq_true hrr))
        · have hbd := hq.bad g1
          rw [hbd]
          refine ⟨p_hazellaw06_ScanRetires_17, g_hazellaw06_ScanRetires_17, by kernel_rfl, ?_⟩
          apply Exists.intro
          refine ⟨?_, ?_⟩
          · conv => whnf
            repeat' (first | (refine ⟨⟨hp0', hp1⟩, ?_⟩; conv => whnf) | ((refine dcase (fun _ => ?_) (fun h => absurd g1 h); conv => whnf)) | ((intro z hz; rw [hadd.out] at hz; subst hz; conv => whnf)) | (refine .inr (.inl ⟨_, hr1b _ hbd, ?_⟩); conv => whnf) | (refine .inl (.inr (.inl ⟨_, hr1b _ hbd, ?_⟩)); conv => whnf) | (refine .inr (.inl ⟨_, hr2, ?_⟩); conv => whnf) | (refine .inl (.inr (.inl ⟨_, hr2, ?_⟩)); conv => whnf) | (refine And.intro ?_ ?_ <;> conv => whnf) | exact rfl)
          conv => whnf
          exact .inl (congrArg vB (decide_eq_true hrr))
      · skip
        refine ⟨p_hazellaw06_ScanRetires_14, g_hazellaw06_ScanRetires_14, by kernel_rfl, ?_⟩
        apply Exists.intro
        refine ⟨?_, ?_⟩
        · conv => whnf
          repeat' (first | ((refine dcase (fun h => absurd h h6) (fun _ => ?_); conv => whnf)) | (refine And.intro ?_ ?_ <;> conv => whnf) | exact rfl)
        conv => whnf
        refine ⟨p_hazellaw06_ScanRetires_15, g_hazellaw06_ScanRetires_15, by kernel_rfl, ?_⟩
        apply Exists.intro
        refine ⟨?_, ?_⟩
        · conv => whnf
          repeat' (first | (refine ⟨⟨h0, ht1⟩, ?_⟩; conv => whnf) | (refine ⟨⟨h0, h1⟩, ?_⟩; conv => whnf) | (refine .inl ⟨_, hI, ?_⟩; conv => whnf) | (refine .inl (.inl ⟨_, hI, ?_⟩); conv => whnf) | ((refine dcase (fun h => absurd hlF h) (fun _ => ?_); conv => whnf)) | (refine And.intro ?_ ?_ <;> conv => whnf) | exact rfl)
        conv => whnf
        refine dcase (fun h => absurd hlV h) (fun _ => ?_)
        conv => whnf
        by_cases g1 : nI s.1.2.1 p = 1
        · have g2 := hq.live g1
          have g1' : List.getD s.1.2.1 p.toNat (dflt tI) = 1 := g1
          have g2' : List.getD t.1.2.1 p.toNat (dflt tI) = 2 := g2
          obtain ⟨bd, hbd⟩ : ∃ bd, t.1.2.2.1 = bd := ⟨_, rfl⟩
          rw [hbd]
          cases bd with
          | true =>
            refine ⟨p_hazellaw06_ScanRetires_17, g_hazellaw06_ScanRetires_17, by kernel_rfl, ?_⟩
            apply Exists.intro
            refine ⟨?_, ?_⟩
            · conv => whnf
              repeat' (first | (refine ⟨⟨hp0', hp1⟩, ?_⟩; conv => whnf) | (refine ⟨⟨hp0', hp1'⟩, ?_⟩; conv => whnf) | ((refine dcase (fun h => absurd g1 h) (fun _ => ?_); conv => whnf)) | ((refine dcase (fun _ => ?_) (fun h => absurd g2 h); conv => whnf)) | ((intro z hz; rw [hadd.out] at hz; subst hz; conv => whnf)) | (refine .inr (.inl ⟨_, hr1b _ hbd, ?_⟩); conv => whnf) | (refine .inl (.inr (.inl ⟨_, hr1b _ hbd, ?_⟩)); conv => whnf) | (refine .inr (.inl ⟨_, hr2, ?_⟩); conv => whnf) | (refine .inl (.inr (.inl ⟨_, hr2, ?_⟩)); conv => whnf) | (refine And.intro ?_ ?_ <;> conv => whnf) | exact rfl)
            conv => whnf
            exact .inl (congrArg vB (decide_eq_true hrr))
          | false =>
            refine ⟨p_hazellaw06_ScanRetires_17, g_hazellaw06_ScanRetires_17, by kernel_rfl, ?_⟩
            apply Exists.intro
            refine ⟨?_, ?_⟩
            · conv => whnf
              repeat' (first | (refine ⟨⟨hp0', hp1⟩, ?_⟩; conv => whnf) | (refine ⟨⟨hp0', hp1'⟩, ?_⟩; conv => whnf) | ((refine dcase (fun h => absurd g1 h) (fun _ => ?_); conv => whnf)) | ((refine dcase (fun _ => ?_) (fun h => absurd g2 h); conv => whnf)) | ((refine dcase (fun _ => ?_) (fun h => absurd g1 h); conv => whnf)) | ((intro z hz; rw [hadd.out] at hz; subst hz; conv => whnf)) | (refine .inr (.inl ⟨_, hr1b _ hbd, ?_⟩); conv => whnf) | (refine .inl (.inr (.inl ⟨_, hr1b _ hbd, ?_⟩)); conv => whnf) | (refine .inr (.inl ⟨_, hr2, ?_⟩); conv => whnf) | (refine .inl (.inr (.inl ⟨_, hr2, ?_⟩)); conv => whnf) | (refine And.intro ?_ ?_ <;> conv => whnf) | exact rfl)
            conv => whnf
            exact .inl (congrArg vB (decide_eq_true hrr))
        · have hbd := hq.bad g1
          rw [hbd]
          refine ⟨p_hazellaw06_ScanRetires_17, g_hazellaw06_ScanRetires_17, by kernel_rfl, ?_⟩
          apply Exists.intro
          refine ⟨?_, ?_⟩
          · conv => whnf
            repeat' (first | (refine ⟨⟨hp0', hp1⟩, ?_⟩; conv => whnf) | ((refine dcase (fun _ => ?_) (fun h => absurd g1 h); conv => whnf)) | ((intro z hz; rw [hadd.out] at hz; subst hz; conv => whnf)) | (refine .inr (.inl ⟨_, hr1b _ hbd, ?_⟩); conv => whnf) | (refine .inl (.inr (.inl ⟨_, hr1b _ hbd, ?_⟩)); conv => whnf) | (refine .inr (.inl ⟨_, hr2, ?_⟩); conv => whnf) | (refine .inl (.inr (.inl ⟨_, hr2, ?_⟩)); conv => whnf) | (refine And.intro ?_ ?_ <;> conv => whnf) | exact rfl)
          conv => whnf
          exact .inl (congrArg vB (decide_eq_true hrr))
end Go.Proofs.Ytjeiopkfdgllhaa.V
