/- AllocDrops: the law, walked. -/
import Derived.Test.YtjeiopkfdgllhaaGreatR10
namespace Go.Proofs.YtjeiopkfdgllhaaGreat.V
open Go Go.RowKit Go.Proofs.YtjeiopkfdgllhaaGreat.Hz
set_option maxRecDepth 100000

abbrev vU8 (n : Int) : SV := .one (.int .u8 n)
/-- What the law asks of the system s behind the allocations, whose list is l, and of those behind it. -/
structure DropAsk (s : Sy) (p : Int) (l' : Li) (c1 t1 c2 t2 : Sy) (T U : Nat → Sy) : Prop where
  call1 : Spec Tryz.prog 30 [vS s, vI 0, vI 7, vI 0, vI 0, vI 0] (vS c1)
  t0 : T 0 = c1
  t9 : T 9 = t1
  step1 : ∀ i, i < 9 → Spec Tryz.prog 27 [vS (T i), vI 0] (vS (T (i + 1)))
  call2 : Spec Tryz.prog 30 [vS t1, vI 0, vI 8, vI p, vI 0, vI 0] (vS c2)
  u0 : U 0 = c2
  u9 : U 9 = t2
  step2 : ∀ i, i < 9 → Spec Tryz.prog 27 [vS (U i), vI 0] (vS (U (i + 1)))
  n1 : t1.2.1.length = s.2.1.length
  n2 : t2.2.1.length = s.2.1.length
  f1 : (cAt t1.2.1 0).1.length = 0
  v1 : (cAt t1.2.1 0).2.1 = p
  p0 : 0 ≤ p
  p1 : p < t1.1.2.1.length
  g1 : nI t1.1.2.1 p = 1
  f2 : (cAt t2.2.1 0).1.length = 0
  walk : Spec Tryz.prog 37 [vM t2.1] (vLB (p :: l') true)
  gs : t2.1.2.1 = s.1.2.1
  good : t2.1.2.2.1 = false
theorem drop_ask {s : Sy} {p : Int} {l' : Li} (hf : Fin 200 s) (h : Idle s (p :: l')) (h1 : 0 < s.2.1.length) : ∃ c1 t1 c2 t2 T U, DropAsk s p l' c1 t1 c2 t2 T U := by
  obtain ⟨t, u, ht, hu, a1, a2, a3, a4, a5, a6, a7, a8⟩ := h.drop (k := 0) (Int.le_refl _) (by omega)
  have hf1 : Fin 200 (callS s 0 7 0 0 0) := hf.callS
  have hft : Fin 209 t := by rw [ht]; exact itS_fin hf1 9
  have hf2 : Fin 209 (callS t 0 8 p 0 0) := hft.callS
  have hn : t.2.1.length = s.2.1.length := by rw [ht]; exact (itS_n 0 _ 9).trans callS_n
  have hn2 : u.2.1.length = s.2.1.length := by rw [hu]; exact (itS_n 0 _ 9).trans (callS_n.trans hn)
  have hp := (h.fl.mem p).1 (List.mem_cons_self ..)
  exact ⟨callS s 0 7 0 0 0, t, callS t 0 8 p 0 0, u, itS 0 (callS s 0 7 0 0 0), itS 0 (callS t 0 8 p 0 0),
    s_refCall s 0 7 0 0 0 (Nat.le_trans hf.cores (by decide)), rfl, ht.symm, fun i _ => s_alStep _ 0 (itS_fin hf1 i) (by omega),
    s_refCall t 0 8 p 0 0 (Nat.le_trans hft.cores (by decide)), rfl, hu.symm, fun i _ => s_alStep _ 0 (itS_fin hf2 i) (by omega),
    hn, hn2, a1, a2, by omega, a3, a4, a5, s_refWalk _ _ a6, a7, a8⟩
set_option maxHeartbeats 4000000 in
theorem s_AllocDrops (a : Int) (ha0 : 0 ≤ a) (ha1 : a ≤ 255) (b : Int) (hb0 : 0 ≤ b) (hb1 : b ≤ 255) (d : Int) (hd0 : 0 ≤ d) (hd1 : d ≤ 255) : Spec Tryz.prog 6 [vU8 a, vU8 b, vU8 d] (vB true) := by
  refine spec_introF true tab_ok 0 Tryz.func6 rfl (by kernel_rfl) rfl ?_
  conv => whnf
  first | refine .inl ⟨_, s_shown07, ?_⟩ | refine .inl (.inl ⟨_, s_shown07, ?_⟩)
  conv => whnf
  intro z hz
  replace hz : z = a := hz.trans (IntWalk.wrap64_in _ (by omega))
  subst hz
  conv => whnf
  refine ⟨by decide, ?_⟩
  conv => whnf
  intro c hc
  obtain ⟨C0, hC, hC1, hC8⟩ : ∃ C0 : Nat, c = (C0 : Int) ∧ 1 ≤ C0 ∧ C0 ≤ 8 := by
    have e1 : z.tmod 8 = z % 8 := Int.tmod_eq_emod_of_nonneg ha0
    rw [e1, IntWalk.wrap64_in _ (by omega)] at hc
    exact ⟨c.toNat, by omega, by omega, by omega⟩
  clear hc
  subst hC
  conv => whnf
  intro y hy
  replace hy : y = b := hy.trans (IntWalk.wrap64_in _ (by omega))
  subst hy
  conv => whnf
  refine ⟨by decide, ?_⟩
  conv => whnf
  intro n hn
  obtain ⟨N0, hN, hN1, hN4⟩ : ∃ N0 : Nat, n = (N0 : Int) ∧ 1 ≤ N0 ∧ N0 ≤ 40 := by
    have e1 : y.tmod 40 = y % 40 := Int.tmod_eq_emod_of_nonneg hb0
    rw [e1, IntWalk.wrap64_in _ (by omega)] at hn
    exact ⟨n.toNat, by omega, by omega, by omega⟩
  clear hn
  subst hN
  obtain ⟨M, hM, hM4⟩ : ∃ M : Nat, d.tmod 40 = (M : Int) ∧ M < 40 := by
    have e1 : d.tmod 40 = d % 40 := Int.tmod_eq_emod_of_nonneg hd0
    exact ⟨(d % 40).toNat, by rw [e1]; omega, by omega⟩
  obtain ⟨S, hS0, hSs, hSf, hSi, hSn⟩ : ∃ S : Nat → Sy, Spec Tryz.prog 24 [vI (C0 : Int), vI (N0 : Int)] (vSI (S 0) 0) ∧ (∀ i, i < M → ∃ q, Spec Tryz.prog 30 [vS (S i), vI ((C0 : Int) - 1), vI 7, vI 0, vI 0, vI 0] (vS q) ∧ Spec Tryz.prog 29 [vS q, vI ((C0 : Int) - 1), vI 0] (vS (S (i + 1)))) ∧ Fin 200 (S M) ∧ (∃ l, Idle (S M) l) ∧ (S M).2.1.length = C0 := by
    have hF : Fin 0 (newF C0 N0) := newF_fin (by omega) (by omega) (by omega)
    have hI := newF_idle (c := C0) (n := N0) hN1 (by omega)
    have hlen : (newF C0 N0).2.1.length = C0 := by show (List.replicate _ _).length = _; rw [List.length_replicate]; omega
    have hk0 : 0 ≤ (C0 : Int) - 1 := by omega
    have hk1 : (C0 : Int) - 1 < (newF C0 N0).2.1.length := by rw [hlen]; omega
    refine ⟨allocs (newF C0 N0) ((C0 : Int) - 1), s_refStart _ _ (by omega) (by omega) (by omega) (by omega), fun i hi => ?_, (allocs_fin hF M).more (by omega), allocs_idle hI hk0 hk1 M, (allocs_n _ _ M).trans hlen⟩
    have hfi := allocs_fin (k := (C0 : Int) - 1) hF i
    obtain ⟨l', hl'⟩ := allocs_idle hI hk0 hk1 i
    have hki : (C0 : Int) - 1 < (allocs (newF C0 N0) ((C0 : Int) - 1) i).2.1.length := by rw [allocs_n]; exact hk1
    have hal := hl'.alloc hk0 hki
    exact ⟨_, s_refCall _ _ 7 0 0 0 (Nat.le_trans hfi.cores (by decide)), s_refDoneTo _ _ 5 hfi.callS (by omega) (by decide) hk0 (by have e : (callS (allocs (newF C0 N0) ((C0 : Int) - 1) i) ((C0 : Int) - 1) 7 0 0 0).2.1.length = _ := callS_n; rw [e]; exact hki) hal.2⟩
  obtain ⟨κ, hκ⟩ : ∃ κ, (C0 : Int) - 1 = κ := ⟨_, rfl⟩
  rw [hκ] at hSs
  conv => whnf
  first | refine .inr (.inl ⟨_, hS0, ?_⟩) | refine .inl (.inr (.inl ⟨_, hS0, ?_⟩))
  conv => whnf
  repeat (refine ⟨by first | omega | (simp only [Option.getD_none, Option.getD_some]; omega) | (simp; done) | (simp; omega), ?_⟩; conv => whnf)
  refine ⟨[], [2, 6, 7, 8, 9, 11], [9], ?_⟩
  apply Exists.intro
  conv => whnf
  refine loopK (fun i : Nat => M - i) (fun i => i ≤ M) (fun i => ⟨lay 158 0 [(2, vU8 d), (6, vB false), (7, vB true), (8, vI (C0 : Int)), (9, pB 9), (11, vI (i : Int))], [(9, .cells ySys (cS (S i)))], []⟩) ?_ 0 rfl rfl (Nat.zero_le _)
  intro i ih hi hih
  conv => whnf
  refine ⟨by decide, ?_⟩
  rw [hM]
  conv => whnf
  intro w hw
  replace hw : w = (M : Int) := hw.trans (IntWalk.wrap64_in _ (by omega))
  subst hw
  conv => whnf
  refine dcase (fun h3 => ?_) (fun h3 => ?_)
  · replace h3 : (i : Int) < M := h3
    obtain ⟨q, hq1, hq2⟩ := hSs i (by omega)
    conv => whnf
    intro w hw
    replace hw : w = κ := by rw [← hκ]; exact hw.trans (IntWalk.wrap64_in _ (by omega))
    subst hw
    first | refine .inr (.inl ⟨_, hq1, ?_⟩) | refine .inl (.inr (.inl ⟨_, hq1, ?_⟩))
    conv => whnf
    repeat (refine ⟨by first | omega | (simp only [Option.getD_none, Option.getD_some]; omega) | (simp; done) | (simp; omega), ?_⟩; conv => whnf)
    intro w2 hw
    replace hw : w2 = w := by rw [← hκ]; exact hw.trans (IntWalk.wrap64_in _ (by omega))
    subst hw
    first | refine .inr (.inl ⟨_, hq2, ?_⟩) | refine .inl (.inr (.inl ⟨_, hq2, ?_⟩))
    conv => whnf
    repeat (refine ⟨by first | omega | (simp only [Option.getD_none, Option.getD_some]; omega) | (simp; done) | (simp; omega), ?_⟩; conv => whnf)
    intro w hw
    replace hw : w = ((i + 1 : Nat) : Int) := by rw [IntWalk.wrap64_in _ (by omega)] at hw; omega
    subst hw
    conv => whnf
    exact hih (i + 1) (by omega) (by omega)
  replace h3 : ¬ (i : Int) < M := h3
  have hiM : M = i := by omega
  subst hiM
  obtain ⟨l, hl⟩ := hSi
  have hwk := s_refWalk (S M).1 l hl.fl
  clear hih h3 hi hSs hS0
  obtain ⟨s, hs⟩ : ∃ s, S M = s := ⟨_, rfl⟩
  rw [hs] at hwk hSf hl hSn ⊢
  conv => whnf
  first | refine .inr (.inl ⟨_, hwk, ?_⟩) | refine .inl (.inr (.inl ⟨_, hwk, ?_⟩))
  conv => whnf
  repeat (refine ⟨by first | omega | (simp only [Option.getD_none, Option.getD_some]; omega) | (simp; done) | (simp; omega), ?_⟩; conv => whnf)
  refine dcase (fun h => ?_) (fun h => ?_)
  · conv => whnf
    first | exact .inl rfl | exact .inr rfl
  obtain ⟨p, l', rfl⟩ : ∃ p l', l = p :: l' := by
    cases l with
    | nil => exact absurd rfl h
    | cons p l' => exact ⟨p, l', rfl⟩
  obtain ⟨c1, t1, c2, t2, T, U, hq⟩ := drop_ask hSf hl (by rw [hSn]; omega)
  have hn1 : ((t1.2.1.length : Nat) : Int) = C0 := by rw [hq.n1, hSn]
  have hn2 : ((t2.2.1.length : Nat) : Int) = C0 := by rw [hq.n2, hSn]
  have hz1 : (0 : Int) ≤ 0 ∧ (0 : Int) < (t1.2.1.length : Int) := ⟨Int.le_refl _, by rw [hn1]; omega⟩
  have hz2 : (0 : Int) ≤ 0 ∧ (0 : Int) < (t2.2.1.length : Int) := ⟨Int.le_refl _, by rw [hn2]; omega⟩
  have hzl : (0 : Int) ≤ 0 ∧ (0 : Int) < (((p :: l').length : Nat) : Int) := ⟨Int.le_refl _, Int.ofNat_lt.2 (Nat.succ_pos _)⟩
  have hf1 : ¬ (0 : Int) < (((cAt t1.2.1 0).1.length : Nat) : Int) := by rw [hq.f1]; decide
  have hf2 : (((cAt t2.2.1 0).1.length : Nat) : Int) = 0 := by rw [hq.f2]; rfl
  have hpp : 0 ≤ p ∧ p < (t1.1.2.1.length : Int) := ⟨hq.p0, hq.p1⟩
  conv => whnf
  first | refine .inr (.inl ⟨_, hq.call1, ?_⟩) | refine .inl (.inr (.inl ⟨_, hq.call1, ?_⟩))
  conv => whnf
  repeat (refine ⟨by first | omega | (simp only [Option.getD_none, Option.getD_some]; omega) | (simp; done) | (simp; omega), ?_⟩; conv => whnf)
  rw [← hq.t0]
  refine ⟨[], [6, 7, 8, 9, 12, 14, 15], [9, 14], ?_⟩
  apply Exists.intro
  conv => whnf
  refine loopK (fun i : Nat => 9 - i) (fun i => i ≤ 9) (fun i => ⟨lay 158 0 [(6, vB false), (7, vB true), (8, vI (C0 : Int)), (9, pB 9), (12, vL (p :: l')), (14, pB 14), (15, vI (i : Int))], [(9, .cells ySys (cS s)), (14, .cells ySys (cS (T i)))], []⟩) ?_ 0 rfl rfl (Nat.zero_le _)
  intro i ih hi hih
  conv => whnf
  refine dcase (fun h3 => ?_) (fun h3 => ?_)
  · replace h3 : (i : Int) < 9 := h3
    conv => whnf
    first | refine .inr (.inl ⟨_, hq.step1 i (by omega), ?_⟩) | refine .inl (.inr (.inl ⟨_, hq.step1 i (by omega), ?_⟩))
    conv => whnf
    repeat (refine ⟨by first | omega | (simp only [Option.getD_none, Option.getD_some]; omega) | (simp; done) | (simp; omega), ?_⟩; conv => whnf)
    intro w hw
    replace hw : w = ((i + 1 : Nat) : Int) := by rw [IntWalk.wrap64_in _ (by omega)] at hw; omega
    subst hw
    conv => whnf
    exact hih (i + 1) (by omega) (by omega)
  replace h3 : ¬ (i : Int) < 9 := h3
  have hi9 : i = 9 := by omega
  subst hi9
  clear hih h3 hi
  rw [hq.t9]
  conv => whnf
  refine ⟨p_hazellaw07_AllocDrops_16, g_hazellaw07_AllocDrops_16, by kernel_rfl, ?st1, ?_, ?_⟩
  rotate_left
  · conv => whnf
    repeat' (first | (refine ⟨hz1, ?_⟩; conv => whnf) | (refine ⟨hzl, ?_⟩; conv => whnf) | (refine ⟨hpp, ?_⟩; conv => whnf) | ((refine dcase (fun h => absurd hn1 h) (fun _ => ?_); conv => whnf)) | ((refine dcase (fun h => absurd h hf1) (fun _ => ?_); conv => whnf)) | ((refine dcase (fun h => absurd hq.v1 h) (fun _ => ?_); conv => whnf)) | (refine And.intro ?_ ?_ <;> conv => whnf) | exact rfl)
  conv => whnf
  refine dcase (fun h => absurd hq.g1 h) (fun _ => ?_)
  conv => whnf
  refine ⟨p_hazellaw07_AllocDrops_18, g_hazellaw07_AllocDrops_18, by kernel_rfl, ?st2, ?_, ?_⟩
  rotate_left
  · conv => whnf
    repeat' (first | (refine ⟨hzl, ?_⟩; conv => whnf) | (refine .inr (.inl ⟨_, hq.call2, ?_⟩); conv => whnf) | (refine .inl (.inr (.inl ⟨_, hq.call2, ?_⟩)); conv => whnf) | (refine And.intro ?_ ?_ <;> conv => whnf) | exact rfl)
  rw [← hq.u0]
  conv => whnf
  refine ⟨[], [6, 7, 8, 9, 12, 14, 16], [9, 14], ?_⟩
  apply Exists.intro
  conv => whnf
  refine loopK (fun i : Nat => 9 - i) (fun i => i ≤ 9) (fun i => ⟨lay 158 0 [(6, vB false), (7, vB true), (8, vI (C0 : Int)), (9, pB 9), (12, vL (p :: l')), (14, pB 14), (16, vI (i : Int))], [(9, .cells ySys (cS s)), (14, .cells ySys (cS (U i)))], []⟩) ?_ 0 rfl rfl (Nat.zero_le _)
  intro i ih hi hih
  conv => whnf
  refine dcase (fun h3 => ?_) (fun h3 => ?_)
  · replace h3 : (i : Int) < 9 := h3
    conv => whnf
    first | refine .inr (.inl ⟨_, hq.step2 i (by omega), ?_⟩) | refine .inl (.inr (.inl ⟨_, hq.step2 i (by omega), ?_⟩))
    conv => whnf
    repeat (refine ⟨by first | omega | (simp only [Option.getD_none, Option.getD_some]; omega) | (simp; done) | (simp; omega), ?_⟩; conv => whnf)
    intro w hw
    replace hw : w = ((i + 1 : Nat) : Int) := by rw [IntWalk.wrap64_in _ (by omega)] at hw; omega
    subst hw
    conv => whnf
    exact hih (i + 1) (by omega) (by omega)
  replace h3 : ¬ (i : Int) < 9 := h3
  have hi9 : i = 9 := by omega
  subst hi9
  clear hih h3 hi
  rw [hq.u9]
  have hll : (p :: l').length ≤ 1000 := nodup_len 1000 (p :: l') hl.fl.nodup fun x hx => by
    have := (hl.fl.mem x).1 hx
    have := hl.fl.fits.2
    omega
  have i1 := s_refIntsSame (p :: l') (by omega)
  have i2 := s_refIntsSame s.1.2.1 (Nat.le_trans hl.fl.fits.2 (by decide))
  conv => whnf
  first | refine .inr (.inl ⟨_, hq.walk, ?_⟩) | refine .inl (.inr (.inl ⟨_, hq.walk, ?_⟩))
  conv => whnf
  repeat (refine ⟨by first | omega | (simp only [Option.getD_none, Option.getD_some]; omega) | (simp; done) | (simp; omega), ?_⟩; conv => whnf)
  refine dcase (fun _ => ?_) (fun h => absurd hn2 h)
  conv => whnf
  refine ⟨hz2, ?_⟩
  conv => whnf
  refine dcase (fun _ => ?_) (fun h => absurd hf2 h)
  conv => whnf
  first | refine .inl ⟨_, i1, ?_⟩ | refine .inl (.inl ⟨_, i1, ?_⟩)
  conv => whnf
  repeat (refine ⟨by first | omega | (simp only [Option.getD_none, Option.getD_some]; omega) | (simp; done) | (simp; omega), ?_⟩; conv => whnf)
  rw [hq.gs]
  first | refine .inl ⟨_, i2, ?_⟩ | refine .inl (.inl ⟨_, i2, ?_⟩)
  conv => whnf
  repeat (refine ⟨by first | omega | (simp only [Option.getD_none, Option.getD_some]; omega) | (simp; done) | (simp; omega), ?_⟩; conv => whnf)
  exact .inl (congrArg vB (by rw [hq.good]; rfl))
end Go.Proofs.YtjeiopkfdgllhaaGreat.V
