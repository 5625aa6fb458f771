/- EventWaits: the law, walked. -/
import Derived.Test.YtlcjkogdbleboaaGreatE12
set_option linter.unusedSimpArgs false
set_option linter.unusedVariables false
namespace Go.Proofs.YtlcjkogdbleboaaGreat.V
open Go Go.RowKit Go.Proofs.YtlcjkogdbleboaaGreat.Hz
set_option maxRecDepth 100000

def bitU (p : Int) : Bool := decide ((p / 3).tmod 2 = 1)
/-- A new event, set if it is said. -/
def addE (s : Sy) (e : Int) (b q : Bool) : Sy := if q = true then (storeM (mkE s e b).1 (80 + e) (nI (mkE s e b).1.1 (80 + e) + 2), (mkE s e b).2) else mkE s e b
theorem mkE_at {s : Sy} {e : Int} {b : Bool} (h0 : 0 ≤ e) (h1 : e ≤ 15) (hf : Fits s.1) (h2 : 2 ≤ s.1.2.1.length) : nI (mkE s e b).1.1 (80 + e) = selfI b := by
  have hlen : s.1.1.length = 124 + 4 * s.1.2.1.length := hf.1
  rw [mkE_is h0 h1 hf]
  exact setW_self (by omega) (by omega)
theorem addE_all {s : Sy} {e : Int} {b q : Bool} (hf : Fin 0 s) : Fin 0 (addE s e b q) ∧ (addE s e b q).2 = s.2 ∧ (addE s e b q).1.2.1.length = s.1.2.1.length := by
  have hm := mkE_fin (e := e) (b := b) hf
  have hg : (mkE s e b).1.2.1.length = s.1.2.1.length := (storeM_len _ _ _).1
  unfold addE
  split
  · exact ⟨hm.mem (storeM_fits hm.fits), rfl, (storeM_len _ _ _).1.trans hg⟩
  · exact ⟨hm, rfl, hg⟩
theorem u8_q {x : Int} (h0 : 0 ≤ x) (h1 : x ≤ 255) : IntKind.u8.wrap (x.tdiv 3) = x / 3 := by
  rw [Int.tdiv_eq_ediv_of_nonneg h0]
  simp only [IntKind.wrap, IntKind.bits, IntKind.signed]
  simp
  omega
/-- Two cores begin. -/
theorem call_two {s : Sy} {o0 x o1 y : Int} (h2 : s.2.1.length = 2) (h0 : (cAt s.2.1 0).1 = []) (h1 : (cAt s.2.1 1).1 = []) :
    (callS (callS s 0 o0 x 0 0) 1 o1 y 0 0).1 = s.1 ∧ (callS (callS s 0 o0 x 0 0) 1 o1 y 0 0).2.1.length = 2 ∧ (callS (callS s 0 o0 x 0 0) 1 o1 y 0 0).2.2.1 = s.2.2.1 ∧ (callS s 0 o0 x 0 0).2.1.length = 2 ∧ ∃ r0 r1, cAt (callS (callS s 0 o0 x 0 0) 1 o1 y 0 0).2.1 0 = ([frm0 o0 x 0 0], r0) ∧ cAt (callS (callS s 0 o0 x 0 0) 1 o1 y 0 0).2.1 1 = ([frm0 o1 y 0 0], r1) := by
  have e1 := callS_self (s := s) (k := 0) (op := o0) (a := x) (b := 0) (d := 0) (by decide) (by omega) (by rw [h0]; show 0 < 40; decide)
  rw [h0] at e1
  obtain ⟨t, ht⟩ : ∃ t, callS s 0 o0 x 0 0 = t := ⟨_, rfl⟩
  rw [ht] at e1 ⊢
  have t2 : t.2.1.length = 2 := by rw [e1, stS_len]; exact h2
  have t0 : cAt t.2.1 0 = ([] ++ [frm0 o0 x 0 0], (cAt s.2.1 0).2) := by rw [e1]; exact stS_core (by decide) (by omega)
  have t1 : cAt t.2.1 1 = cAt s.2.1 1 := by rw [e1]; exact stS_other (by decide)
  have t3 : t.1 = s.1 ∧ t.2.2.1 = s.2.2.1 := by rw [e1]; exact ⟨rfl, rfl⟩
  have e2 := callS_self (s := t) (k := 1) (op := o1) (a := y) (b := 0) (d := 0) (by decide) (by omega) (by rw [t1, h1]; show 0 < 40; decide)
  rw [t1, h1] at e2
  rw [e2]
  exact ⟨t3.1, by rw [stS_len]; exact t2, t3.2, t2, _, _, by rw [stS_other (by decide)]; exact t0, stS_core (by decide) (by omega)⟩
abbrev vEW (a b p0 p1 : Int) (q0 q1 : Bool) : SV := .agg [.int .u8 a, .int .u8 b, .int .u8 p0, .int .u8 p1, .bool q0, .bool q1]
set_option maxHeartbeats 8000000 in
theorem s_EventWaits (a b p0 p1 : Int) (q0 q1 : Bool) (ha0 : 0 ≤ a) (ha1 : a ≤ 255) (hb0 : 0 ≤ b) (hb1 : b ≤ 255) (hp0 : 0 ≤ p0) (hp1 : p0 ≤ 255) (hr0 : 0 ≤ p1) (hr1 : p1 ≤ 255) : Spec Tryz.prog 11 [vEW a b p0 p1 q0 q1] (vB true) := by
  obtain ⟨x, hx, x0, x1⟩ : ∃ e, a.tmod 16 = e ∧ 0 ≤ e ∧ e ≤ 15 := by
    have e1 : a.tmod 16 = a % 16 := Int.tmod_eq_emod_of_nonneg ha0
    exact ⟨_, rfl, by omega, by omega⟩
  obtain ⟨y, hy, y0, y1⟩ : ∃ e, b.tmod 16 = e ∧ 0 ≤ e ∧ e ≤ 15 := by
    have e1 : b.tmod 16 = b % 16 := Int.tmod_eq_emod_of_nonneg hb0
    exact ⟨_, rfl, by omega, by omega⟩
  have hnew := s_refNewF 2 1 (by decide) (by decide) (by decide) (by decide)
  have hf0 : Fin 0 (newF 2 1) := newF_fin (by decide) (by decide) (by decide)
  have hm0 := newF_mem (c := 2) (n := 1) (by decide) (by decide)
  replace hm0 : (newF 2 1).1.2.1.length = 2 := hm0.1
  have hs0 : (newF 2 1).2 = (List.replicate 2 (dflt tCore), ([] : List Evt), ()) := rfl
  generalize newF 2 1 = X0 at *
  refine spec_introF true tab_ok 0 Tryz.func11 rfl (by kernel_rfl) rfl ?_
  conv => whnf
  repeat (refine ⟨by first | omega | (simp only [Option.getD_none, Option.getD_some]; omega) | (simp; done) | (simp; omega), ?_⟩; conv => whnf)
  first | refine .inl ⟨_, s_shown12, ?_⟩ | refine .inl (.inl ⟨_, s_shown12, ?_⟩)
  conv => whnf
  repeat (refine ⟨by first | omega | (simp only [Option.getD_none, Option.getD_some]; omega) | (simp; done) | (simp; omega), ?_⟩; conv => whnf)
  intro z hz
  replace hz : z = a := hz.trans (IntWalk.wrap64_in _ (by omega))
  subst hz
  conv => whnf
  repeat (refine ⟨by first | omega | (simp only [Option.getD_none, Option.getD_some]; omega) | (simp; done) | (simp; omega), ?_⟩; conv => whnf)
  intro z2 hz2
  replace hz2 : z2 = b := hz2.trans (IntWalk.wrap64_in _ (by omega))
  subst hz2
  conv => whnf
  repeat (refine ⟨by first | omega | (simp only [Option.getD_none, Option.getD_some]; omega) | (simp; done) | (simp; omega), ?_⟩; conv => whnf)
  rw [hx, hy]
  refine dcase (fun h => ?_) (fun hxy => ?_)
  · skip
    conv => whnf
    repeat (refine ⟨by first | omega | (simp only [Option.getD_none, Option.getD_some]; omega) | (simp; done) | (simp; omega), ?_⟩; conv => whnf)
    first | exact .inl rfl | exact .inr rfl
  replace hxy : x ≠ y := hxy
  conv => whnf
  repeat (refine ⟨by first | omega | (simp only [Option.getD_none, Option.getD_some]; omega) | (simp; done) | (simp; omega), ?_⟩; conv => whnf)
  first | refine .inr (.inl ⟨_, hnew, ?_⟩) | refine .inl (.inr (.inl ⟨_, hnew, ?_⟩))
  conv => whnf
  repeat (refine ⟨by first | omega | (simp only [Option.getD_none, Option.getD_some]; omega) | (simp; done) | (simp; omega), ?_⟩; conv => whnf)
  obtain ⟨X1, hX1⟩ : ∃ X1, addE X0 x (bitU p0) q0 = X1 := ⟨_, rfl⟩
  obtain ⟨X2, hX2⟩ : ∃ X2, addE X1 y (bitU p1) q1 = X2 := ⟨_, rfl⟩
  have hA1 := addE_all (e := x) (b := bitU p0) (q := q0) hf0
  rw [hX1] at hA1
  have hA2 := addE_all (e := y) (b := bitU p1) (q := q1) hA1.1
  rw [hX2] at hA2
  have one : ∀ (s : Sy) (e : Int) (v q : Bool), Fin 0 s → s.1.2.1.length = 2 → 0 ≤ e → e ≤ 15 → Spec Tryz.prog 36 [vS s, vI e, vB v] (vSI (mkE s e v) 0) ∧ Spec Tryz.prog 42 [vI e] (vI (80 + e)) ∧ Spec Tryz.prog 49 [vM (mkE s e v).1, vI (80 + e), vI (nI (mkE s e v).1.1 (80 + e) + 2)] (vM (storeM (mkE s e v).1 (80 + e) (nI (mkE s e v).1.1 (80 + e) + 2))) ∧ ((0 : Int) ≤ 80 + e ∧ 80 + e < ((mkE s e v).1.1.length : Int)) ∧ wrap64 (nI (mkE s e v).1.1 (80 + e) + 2) = nI (mkE s e v).1.1 (80 + e) + 2 := fun s e v q hf hg h0 h1 => by
    have hm := mkE_fin (e := e) (b := v) hf
    have h2 : (mkE s e v).1.1.length = 124 + 4 * (mkE s e v).1.2.1.length := hm.fits.1
    have h3 : (mkE s e v).1.2.1.length = s.1.2.1.length := (storeM_len _ _ _).1
    have h4 := mkE_at (b := v) h0 h1 hf.fits (by omega)
    refine ⟨s_refMake12 s e v h0 h1 hf.fits, s_refSpot12 e h0 h1, s_refStore _ _ _ (by have := hm.fits.2; omega) (by omega), ⟨by omega, by omega⟩, ?_⟩
    rw [h4]
    cases v <;> decide +kernel
  obtain ⟨m1, sp1, st1, in1, ad1⟩ := one X0 x (bitU p0) q0 hf0 hm0 x0 x1
  obtain ⟨m2, sp2, st2, in2, ad2⟩ := one X1 y (bitU p1) q1 hA1.1 (hA1.2.2.trans hm0) y0 y1
  clear one hnew
  have hb0 : p0.tdiv 3 = p0 / 3 := Int.tdiv_eq_ediv_of_nonneg hp0
  have e30 := u8_q hp0 hp1
  have e31 := u8_q hr0 hr1
  refine ⟨[], [2, 5, 6, 7, 8, 9, 10, 11], [5, 6, 10, 1], ?_⟩
  apply Exists.intro
  conv => whnf
  refine loopK (fun i : Nat => 2 - i) (fun i => i ≤ 2) (fun i => ⟨lay 187 0 [(2, vB false), (5, pB 5), (6, pB 6), (7, vB true), (8, vI x), (9, vI y), (10, pB 10), (11, vI (i : Int))], [(1, .cells 84 [.int .u8 z, .int .u8 z2, .int .u8 p0, .int .u8 p1, .bool q0, .bool q1]), (5, .cells 81 [.int .u8 p0, .int .u8 p1]), (6, .cells 82 [.bool q0, .bool q1]), (10, .cells ySys (cS (if i = 0 then X0 else if i = 1 then X1 else X2)))], []⟩) ?_ 0 rfl rfl (by decide)
  intro i ih hi hih
  have h5 : i = 0 ∨ i = 1 ∨ i = 2 := by omega
  rcases h5 with rfl | rfl | rfl
  · have hn := hih 1 (by decide) (by decide)
    conv => whnf
    refine ⟨p_hazellaw12_EventWaits_17, g_hazellaw12_EventWaits_17, by kernel_rfl, ?st1, ?_, ?_⟩
    rotate_left
    · conv => whnf
      repeat' (first | (refine ⟨(by decide), ?_⟩; conv => whnf) | ((intro w hw; replace hw := hw.trans e30; subst hw; conv => whnf)) | (refine .inr (.inl ⟨_, m1, ?_⟩); conv => whnf) | (refine .inl (.inr (.inl ⟨_, m1, ?_⟩)); conv => whnf) | (refine And.intro ?_ ?_ <;> conv => whnf) | exact rfl)
    conv => whnf
    repeat (refine ⟨by first | omega | (simp only [Option.getD_none, Option.getD_some]; omega) | (simp; done) | (simp; omega), ?_⟩; conv => whnf)
    refine bcase (fun hq => ?_) (fun hq => ?_)
    · rw [show addE X0 x (bitU p0) q0 = _ from if_pos hq] at hX1
      conv => whnf
      refine ⟨p_hazellaw12_EventWaits_20, g_hazellaw12_EventWaits_20, by kernel_rfl, ?st2, ?_, ?_⟩
      rotate_left
      · conv => whnf
        repeat' (first | (refine .inl ⟨_, sp1, ?_⟩; conv => whnf) | (refine .inl (.inl ⟨_, sp1, ?_⟩); conv => whnf) | (refine ⟨in1, ?_⟩; conv => whnf) | ((intro w hw; replace hw := hw.trans ad1; subst hw; conv => whnf)) | (refine .inr (.inl ⟨_, st1, ?_⟩); conv => whnf) | (refine .inl (.inr (.inl ⟨_, st1, ?_⟩)); conv => whnf) | (refine And.intro ?_ ?_ <;> conv => whnf) | exact rfl)
      conv => whnf
      repeat (refine ⟨by first | omega | (simp only [Option.getD_none, Option.getD_some]; omega) | (simp; done) | (simp; omega), ?_⟩; conv => whnf)
      intro w hw
      replace hw : w = ((1 : Nat) : Int) := hw.trans (by decide +kernel)
      subst hw
      rw [← hX1] at hn
      conv => whnf
      exact hn
    · rw [show addE X0 x (bitU p0) q0 = _ from if_neg (by rw [hq]; decide)] at hX1
      conv => whnf
      repeat (refine ⟨by first | omega | (simp only [Option.getD_none, Option.getD_some]; omega) | (simp; done) | (simp; omega), ?_⟩; conv => whnf)
      intro w hw
      replace hw : w = ((1 : Nat) : Int) := hw.trans (by decide +kernel)
      subst hw
      rw [← hX1] at hn
      conv => whnf
      exact hn
  · have hn := hih 2 (by decide) (by decide)
    conv => whnf
    refine ⟨p_hazellaw12_EventWaits_17, g_hazellaw12_EventWaits_17, by kernel_rfl, ?st3, ?_, ?_⟩
    rotate_left
    · conv => whnf
      repeat' (first | (refine ⟨(by decide), ?_⟩; conv => whnf) | ((intro w hw; replace hw := hw.trans e31; subst hw; conv => whnf)) | (refine .inr (.inl ⟨_, m2, ?_⟩); conv => whnf) | (refine .inl (.inr (.inl ⟨_, m2, ?_⟩)); conv => whnf) | (refine And.intro ?_ ?_ <;> conv => whnf) | exact rfl)
    conv => whnf
    repeat (refine ⟨by first | omega | (simp only [Option.getD_none, Option.getD_some]; omega) | (simp; done) | (simp; omega), ?_⟩; conv => whnf)
    refine bcase (fun hq => ?_) (fun hq => ?_)
    · rw [show addE X1 y (bitU p1) q1 = _ from if_pos hq] at hX2
      conv => whnf
      refine ⟨p_hazellaw12_EventWaits_20, g_hazellaw12_EventWaits_20, by kernel_rfl, ?st4, ?_, ?_⟩
      rotate_left
      · conv => whnf
        repeat' (first | (refine .inl ⟨_, sp2, ?_⟩; conv => whnf) | (refine .inl (.inl ⟨_, sp2, ?_⟩); conv => whnf) | (refine ⟨in2, ?_⟩; conv => whnf) | ((intro w hw; replace hw := hw.trans ad2; subst hw; conv => whnf)) | (refine .inr (.inl ⟨_, st2, ?_⟩); conv => whnf) | (refine .inl (.inr (.inl ⟨_, st2, ?_⟩)); conv => whnf) | (refine And.intro ?_ ?_ <;> conv => whnf) | exact rfl)
      conv => whnf
      repeat (refine ⟨by first | omega | (simp only [Option.getD_none, Option.getD_some]; omega) | (simp; done) | (simp; omega), ?_⟩; conv => whnf)
      intro w hw
      replace hw : w = ((2 : Nat) : Int) := hw.trans (by decide +kernel)
      subst hw
      rw [← hX2] at hn
      conv => whnf
      exact hn
    · rw [show addE X1 y (bitU p1) q1 = _ from if_neg (by rw [hq]; decide)] at hX2
      conv => whnf
      repeat (refine ⟨by first | omega | (simp only [Option.getD_none, Option.getD_some]; omega) | (simp; done) | (simp; omega), ?_⟩; conv => whnf)
      intro w hw
      replace hw : w = ((2 : Nat) : Int) := hw.trans (by decide +kernel)
      subst hw
      rw [← hX2] at hn
      conv => whnf
      exact hn
  · clear hih
    obtain ⟨o0, ho0, ho1, ho2⟩ : ∃ o : Int, wrap64 (19 + p0.tmod 3) = o ∧ 19 ≤ o ∧ o ≤ 21 := by
      have e := Int.tmod_eq_emod_of_nonneg (b := 3) hp0
      refine ⟨19 + p0 % 3, by rw [e]; exact IntWalk.wrap64_in _ (by omega), by omega, by omega⟩
    obtain ⟨o1, hu0, hu1, hu2⟩ : ∃ o : Int, wrap64 (19 + p1.tmod 3) = o ∧ 19 ≤ o ∧ o ≤ 21 := by
      have e := Int.tmod_eq_emod_of_nonneg (b := 3) hr0
      refine ⟨19 + p1 % 3, by rw [e]; exact IntWalk.wrap64_in _ (by omega), by omega, by omega⟩
    have hX22 : X2.2 = (List.replicate 2 (dflt tCore), ([] : List Evt), ()) := by rw [hA2.2.1, hA1.2.1]; exact hs0
    have hn2 : X2.2.1.length = 2 := by rw [hX22]; rfl
    have hg2 : X2.1.2.1.length = 2 := hA2.2.2.trans (hA1.2.2.trans hm0)
    have hd0 : (cAt X2.2.1 0).1 = [] := by rw [hX22]; rfl
    have hd1 : (cAt X2.2.1 1).1 = [] := by rw [hX22]; rfl
    have hlg : X2.2.2.1 = [] := by rw [hX22]
    obtain ⟨c1, c2, c3, c4, r0, r1, c5, c6⟩ := call_two (o0 := o0) (x := x) (o1 := o1) (y := y) hn2 hd0 hd1
    have hF3 : Fin 0 (callS X2 0 o0 x 0 0) := hA2.1.callS
    have hcall0 := s_refCall X2 0 o0 x 0 0 (by rw [hn2]; decide)
    have hcall1 := s_refCall (callS X2 0 o0 x 0 0) 1 o1 y 0 0 (by rw [c4]; decide)
    have hF4 : Fin 0 (callS (callS X2 0 o0 x 0 0) 1 o1 y 0 0) := hF3.callS
    generalize callS X2 0 o0 x 0 0 = s3 at *
    generalize callS s3 1 o1 y 0 0 = s at *
    have hsf : Fits s.1 := hF4.fits
    have hsg : 2 ≤ s.1.2.1.length := by rw [c1]; omega
    obtain ⟨pa, pb, pc, p, hpa, hpb, hpc, hpp, ha, hb, hc, hd, pm, pn, pi0, pi1, pv0, pv1, pl⟩ := both_one (j := 0) (k := 1) (by decide) (by decide) (by decide) c2 hsf hsg ⟨x0, x1⟩ ⟨y0, y1⟩ hxy ⟨ho1, ho2⟩ ⟨hu1, hu2⟩ c5 c6 (c3.trans hlg)
    obtain ⟨qa, qb, qc, q, hqa, hqb, hqc, hqq, ja, jb, jc, jd, qm, qn, qi1, qi0, qv1, qv0, ql⟩ := both_one (j := 1) (k := 0) (by decide) (by decide) (by decide) c2 hsf hsg ⟨y0, y1⟩ ⟨x0, x1⟩ (fun h => hxy h.symm) ⟨hu1, hu2⟩ ⟨ho1, ho2⟩ c6 c5 (c3.trans hlg)
    replace pi0 : (cAt p.2.1 0).1 = [] := pi0
    replace pi1 : (cAt p.2.1 1).1 = [] := pi1
    replace qi0 : (cAt q.2.1 0).1 = [] := qi0
    replace qi1 : (cAt q.2.1 1).1 = [] := qi1
    have fpa : Fin 1 pa := by rw [hpa]; exact evS_fin hF4
    have fpb : Fin 2 pb := by rw [hpb]; exact evS_fin fpa
    have fpc : Fin 3 pc := by rw [hpc]; exact evS_fin fpb
    have fqa : Fin 1 qa := by rw [hqa]; exact evS_fin hF4
    have fqb : Fin 2 qb := by rw [hqb]; exact evS_fin fqa
    have fqc : Fin 3 qc := by rw [hqc]; exact evS_fin fqb
    have sa := s_evS s 0 (hF4.fine (by decide)) ha
    have sb := s_evS pa 0 (fpa.fine (by decide)) hb
    have sc := s_evS pb 1 (fpb.fine (by decide)) hc
    have sd := s_evS pc 1 (fpc.fine (by decide)) hd
    have ta := s_evS s 1 (hF4.fine (by decide)) ja
    have tb := s_evS qa 1 (fqa.fine (by decide)) jb
    have tc := s_evS qb 0 (fqb.fine (by decide)) jc
    have td := s_evS qc 0 (fqc.fine (by decide)) jd
    rw [show evS s 0 = pa from hpa.symm] at sa
    rw [show evS pa 0 = pb from hpb.symm] at sb
    rw [show evS pb 1 = pc from hpc.symm] at sc
    rw [show evS pc 1 = p from hpp.symm] at sd
    rw [show evS s 1 = qa from hqa.symm] at ta
    rw [show evS qa 1 = qb from hqb.symm] at tb
    rw [show evS qb 0 = qc from hqc.symm] at tc
    rw [show evS qc 0 = q from hqq.symm] at td
    have hpq : q.1 = p.1 := by rw [qm, pm, setW_comm (by omega) (by omega) (by omega)]
    have hpl : p.1.1.length ≤ 1000 ∧ p.1.2.1.length ≤ 1000 := by
      have hl : s.1.1.length = 124 + 4 * s.1.2.1.length := hsf.1
      rw [pm]
      unfold setW
      show (List.set (α := Int) (List.set (α := Int) _ _ _) _ _).length ≤ 1000 ∧ _
      rw [List.length_set, List.length_set]
      refine ⟨by rw [c1] at hl ⊢; omega, by show s.1.2.1.length ≤ 1000; rw [c1]; omega⟩
    have hsame : Spec Tryz.prog 50 [vM p.1, vM q.1] (vB true) := by
      have h := s_refSameM p.1 p.1 (by omega) (by omega)
      have e : sameM p.1 p.1 = true := by unfold sameM; rw [sameB_yes rfl, sameB_yes rfl]; simp
      rw [e] at h
      rw [hpq]
      exact h
    clear hpa hpb hpc hpp hqa hqb hqc hqq fpa fpb fpc fqa fqb fqc ha hb hc hd ja jb jc jd hF4 hF3 hsf
    clear pm qm
    conv => whnf
    repeat (refine ⟨by first | omega | (simp only [Option.getD_none, Option.getD_some]; omega) | (simp; done) | (simp; omega), ?_⟩; conv => whnf)
    intro w1 hw1
    replace hw1 : w1 = p0 := hw1.trans (IntWalk.wrap64_in _ (by omega))
    subst hw1
    conv => whnf
    repeat (refine ⟨by first | omega | (simp only [Option.getD_none, Option.getD_some]; omega) | (simp; done) | (simp; omega), ?_⟩; conv => whnf)
    intro w2 hw2
    replace hw2 : w2 = o0 := hw2.trans ho0
    subst hw2
    conv => whnf
    repeat (refine ⟨by first | omega | (simp only [Option.getD_none, Option.getD_some]; omega) | (simp; done) | (simp; omega), ?_⟩; conv => whnf)
    first | refine .inr (.inl ⟨_, hcall0, ?_⟩) | refine .inl (.inr (.inl ⟨_, hcall0, ?_⟩))
    conv => whnf
    repeat (refine ⟨by first | omega | (simp only [Option.getD_none, Option.getD_some]; omega) | (simp; done) | (simp; omega), ?_⟩; conv => whnf)
    intro w3 hw3
    replace hw3 : w3 = p1 := hw3.trans (IntWalk.wrap64_in _ (by omega))
    subst hw3
    conv => whnf
    repeat (refine ⟨by first | omega | (simp only [Option.getD_none, Option.getD_some]; omega) | (simp; done) | (simp; omega), ?_⟩; conv => whnf)
    intro w4 hw4
    replace hw4 : w4 = o1 := hw4.trans hu0
    subst hw4
    conv => whnf
    repeat (refine ⟨by first | omega | (simp only [Option.getD_none, Option.getD_some]; omega) | (simp; done) | (simp; omega), ?_⟩; conv => whnf)
    first | refine .inr (.inl ⟨_, hcall1, ?_⟩) | refine .inl (.inr (.inl ⟨_, hcall1, ?_⟩))
    conv => whnf
    repeat (refine ⟨by first | omega | (simp only [Option.getD_none, Option.getD_some]; omega) | (simp; done) | (simp; omega), ?_⟩; conv => whnf)
    first | refine .inr (.inl ⟨_, sa, ?_⟩) | refine .inl (.inr (.inl ⟨_, sa, ?_⟩))
    conv => whnf
    repeat (refine ⟨by first | omega | (simp only [Option.getD_none, Option.getD_some]; omega) | (simp; done) | (simp; omega), ?_⟩; conv => whnf)
    first | refine .inr (.inl ⟨_, sb, ?_⟩) | refine .inl (.inr (.inl ⟨_, sb, ?_⟩))
    conv => whnf
    repeat (refine ⟨by first | omega | (simp only [Option.getD_none, Option.getD_some]; omega) | (simp; done) | (simp; omega), ?_⟩; conv => whnf)
    first | refine .inr (.inl ⟨_, sc, ?_⟩) | refine .inl (.inr (.inl ⟨_, sc, ?_⟩))
    conv => whnf
    repeat (refine ⟨by first | omega | (simp only [Option.getD_none, Option.getD_some]; omega) | (simp; done) | (simp; omega), ?_⟩; conv => whnf)
    first | refine .inr (.inl ⟨_, sd, ?_⟩) | refine .inl (.inr (.inl ⟨_, sd, ?_⟩))
    conv => whnf
    repeat (refine ⟨by first | omega | (simp only [Option.getD_none, Option.getD_some]; omega) | (simp; done) | (simp; omega), ?_⟩; conv => whnf)
    first | refine .inr (.inl ⟨_, ta, ?_⟩) | refine .inl (.inr (.inl ⟨_, ta, ?_⟩))
    conv => whnf
    repeat (refine ⟨by first | omega | (simp only [Option.getD_none, Option.getD_some]; omega) | (simp; done) | (simp; omega), ?_⟩; conv => whnf)
    first | refine .inr (.inl ⟨_, tb, ?_⟩) | refine .inl (.inr (.inl ⟨_, tb, ?_⟩))
    conv => whnf
    repeat (refine ⟨by first | omega | (simp only [Option.getD_none, Option.getD_some]; omega) | (simp; done) | (simp; omega), ?_⟩; conv => whnf)
    first | refine .inr (.inl ⟨_, tc, ?_⟩) | refine .inl (.inr (.inl ⟨_, tc, ?_⟩))
    conv => whnf
    repeat (refine ⟨by first | omega | (simp only [Option.getD_none, Option.getD_some]; omega) | (simp; done) | (simp; omega), ?_⟩; conv => whnf)
    first | refine .inr (.inl ⟨_, td, ?_⟩) | refine .inl (.inr (.inl ⟨_, td, ?_⟩))
    conv => whnf
    repeat (refine ⟨by first | omega | (simp only [Option.getD_none, Option.getD_some]; omega) | (simp; done) | (simp; omega), ?_⟩; conv => whnf)
    have n1 : ¬ (p.2.1.length : Int) ≠ 2 := by rw [pn]; decide
    have n2 : ¬ (q.2.1.length : Int) ≠ 2 := by rw [qn]; decide
    have g0 : (0 : Int) ≤ 0 ∧ (0 : Int) < (p.2.1.length : Int) := ⟨by decide, by rw [pn]; decide⟩
    have g1 : (0 : Int) ≤ 1 ∧ (1 : Int) < (p.2.1.length : Int) := ⟨by decide, by rw [pn]; decide⟩
    have g2 : (0 : Int) ≤ 0 ∧ (0 : Int) < (q.2.1.length : Int) := ⟨by decide, by rw [qn]; decide⟩
    have g3 : (0 : Int) ≤ 1 ∧ (1 : Int) < (q.2.1.length : Int) := ⟨by decide, by rw [qn]; decide⟩
    have l0 : (((List.getD p.2.1 (0 : Int).toNat (dflt tCore)).1.length : Nat) : Int) = 0 := by show (((cAt p.2.1 0).1.length : Nat) : Int) = 0; rw [pi0]; rfl
    have l1 : (((List.getD p.2.1 (1 : Int).toNat (dflt tCore)).1.length : Nat) : Int) = 0 := by show (((cAt p.2.1 1).1.length : Nat) : Int) = 0; rw [pi1]; rfl
    have l2 : (((List.getD q.2.1 (0 : Int).toNat (dflt tCore)).1.length : Nat) : Int) = 0 := by show (((cAt q.2.1 0).1.length : Nat) : Int) = 0; rw [qi0]; rfl
    have l3 : (((List.getD q.2.1 (1 : Int).toNat (dflt tCore)).1.length : Nat) : Int) = 0 := by show (((cAt q.2.1 1).1.length : Nat) : Int) = 0; rw [qi1]; rfl
    have v0 : (List.getD p.2.1 (0 : Int).toNat (dflt tCore)).2.1 = (List.getD q.2.1 (0 : Int).toNat (dflt tCore)).2.1 := pv0.trans qv0.symm
    have v1 : (List.getD p.2.1 (1 : Int).toNat (dflt tCore)).2.1 = (List.getD q.2.1 (1 : Int).toNat (dflt tCore)).2.1 := pv1.trans qv1.symm
    have y2 : ((p.2.2.1.length : Nat) : Int) = 2 := by rw [pl]; rfl
    have y3 : ((q.2.2.1.length : Nat) : Int) = 2 := by rw [ql]; rfl
    have z0 : wrap64 ((0 : Int) + 0) = 0 := IntWalk.wrap64_in _ (by decide)
    refine ⟨p_hazellaw12_EventWaits_25, g_hazellaw12_EventWaits_25, by kernel_rfl, ?st5, ?_, ?_⟩
    rotate_left
    · conv => whnf
      repeat' (first | ((refine dcase (fun h => absurd h n1) (fun _ => ?_); conv => whnf)) | ((refine dcase (fun h => absurd h n2) (fun _ => ?_); conv => whnf)) | (refine ⟨g0, ?_⟩; conv => whnf) | (refine ⟨g1, ?_⟩; conv => whnf) | (refine ⟨g2, ?_⟩; conv => whnf) | (refine ⟨g3, ?_⟩; conv => whnf) | ((intro w hw; rw [l0, l1] at hw; replace hw : w = 0 := hw.trans z0; subst hw; conv => whnf)) | ((intro w hw; rw [l2] at hw; replace hw : w = 0 := hw.trans z0; subst hw; conv => whnf)) | ((intro w hw; rw [l3] at hw; replace hw : w = 0 := hw.trans z0; subst hw; conv => whnf)) | (refine And.intro ?_ ?_ <;> conv => whnf) | exact rfl)
    conv => whnf
    repeat (refine ⟨by first | omega | (simp only [Option.getD_none, Option.getD_some]; omega) | (simp; done) | (simp; omega), ?_⟩; conv => whnf)
    refine ⟨p_hazellaw12_EventWaits_27, g_hazellaw12_EventWaits_27, by kernel_rfl, ?st6, ?_, ?_⟩
    rotate_left
    · conv => whnf
      repeat' (first | (refine .inl ⟨_, hsame, ?_⟩; conv => whnf) | (refine .inl (.inl ⟨_, hsame, ?_⟩); conv => whnf) | (refine ⟨g0, ?_⟩; conv => whnf) | (refine ⟨g1, ?_⟩; conv => whnf) | (refine ⟨g2, ?_⟩; conv => whnf) | (refine ⟨g3, ?_⟩; conv => whnf) | ((refine dcase (fun _ => ?_) (fun h => absurd v0 h); conv => whnf)) | ((refine dcase (fun _ => ?_) (fun h => absurd v1 h); conv => whnf)) | ((refine dcase (fun _ => ?_) (fun h => absurd y2 h); conv => whnf)) | ((refine dcase (fun _ => ?_) (fun h => absurd y3 h); conv => whnf)) | (refine And.intro ?_ ?_ <;> conv => whnf) | exact rfl)
    conv => whnf
    repeat (refine ⟨by first | omega | (simp only [Option.getD_none, Option.getD_some]; omega) | (simp; done) | (simp; omega), ?_⟩; conv => whnf)
    rw [decide_eq_true y3]
    first | exact .inl rfl | exact .inr rfl
abbrev tyEW : Ty := .cons (.int .u8) (.cons (.int .u8) (.cons (.cons (.int .u8) (.cons (.int .u8) .nil)) (.cons (.cons .bool (.cons .bool .nil)) .nil)))
theorem s_EventWaitsA (y : Den tyEW) (hw : WFd tyEW y) : Spec Tryz.prog 11 [.agg (flat tyEW y)] (vB true) :=
  s_EventWaits y.1 y.2.1 y.2.2.1.1 y.2.2.1.2.1 y.2.2.2.1.1 y.2.2.2.1.2.1 (wf_u8 hw.1).1 (wf_u8 hw.1).2 (wf_u8 hw.2.1).1 (wf_u8 hw.2.1).2 (wf_u8 hw.2.2.1.1).1 (wf_u8 hw.2.2.1.1).2 (wf_u8 hw.2.2.1.2.1).1 (wf_u8 hw.2.2.1.2.1).2
end Go.Proofs.YtlcjkogdbleboaaGreat.V
