/- Queues: a system of two queues; what a core begins by a pick. -/
import Derived.Test.YtpobngddiifdpaaGreatZcQ6
import Derived.Test.YtpobngddiifdpaaGreatZcT0
import Derived.Test.YtpobngddiifdpaaGreatZcT1
set_option linter.unusedSimpArgs false
set_option linter.unusedVariables false
namespace Go.Proofs.YtpobngddiifdpaaGreat.V
open Go Go.RowKit Go.Proofs.YtpobngddiifdpaaGreat.Hz
set_option maxRecDepth 100000

theorem newQ_lens {c n : Nat} (h1 : 2 ≤ n) (h2 : n ≤ 200) : (newQ (c : Int) (n : Int)).2.1.length = c ∧ (newQ (c : Int) (n : Int)).1.2.1.length = n + 1 ∧ (newQ (c : Int) (n : Int)).1.1.length = 128 + 4 * n := by
  obtain ⟨l, _, _, _, h3, h4⟩ := newQ_is (c := c) h1 h2
  have h5 := h3.fits.1
  refine ⟨?_, h4, by omega⟩
  show (List.replicate (c : Int).toNat _).length = c
  rw [List.length_replicate, Int.toNat_natCast]
theorem newQ_fin {c n : Nat} (h1 : 2 ≤ n) (h2 : n ≤ 200) (hc : c ≤ 8) : Fin 0 (newQ (c : Int) (n : Int)) := by
  obtain ⟨l, _, _, _, h3, _⟩ := newQ_is (c := c) h1 h2
  exact (newF_fin (c := (c : Int)) (n := (n : Int)) (by omega) (by omega) (by omega)).mem h3.fits
theorem s_start8 (c n : Nat) (h1 : 2 ≤ n) (h2 : n ≤ 200) (c1 : 1 ≤ c) (c8 : c ≤ 8) : Spec Tryz.prog 29 [vI c, vI n] (.tup [(true, cS (newQ (c : Int) (n : Int))), (false, [.bool true])]) := by
  obtain ⟨l, hl, hfl0, hfl1, _, _⟩ := newQ_is (c := c) h1 h2
  obtain ⟨hC, hG, hW⟩ := newQ_lens (c := c) h1 h2
  have hnew := s_refNewF c n (by omega) (by omega) (by omega) (by omega)
  have hm1 := s_mMakeFL (newF (c : Int) (n : Int)) 0 1 (2 :: l) hfl0 (by decide) (by decide)
  have hm2 := s_mMakeFL (mkM (newF (c : Int) (n : Int)).1 0 1, (newF (c : Int) (n : Int)).2) 1 2 l hfl1 (by decide) (by decide)
  rw [show (mkM (mkM (newF (c : Int) (n : Int)).1 0 1, (newF (c : Int) (n : Int)).2).1 1 2, (mkM (newF (c : Int) (n : Int)).1 0 1, (newF (c : Int) (n : Int)).2).2) = newQ (c : Int) (n : Int) from rfl] at hm2
  obtain ⟨S2, hS2⟩ : ∃ S2, newQ (c : Int) (n : Int) = S2 := ⟨_, rfl⟩
  obtain ⟨S1, hS1⟩ : ∃ S1, (mkM (newF (c : Int) (n : Int)).1 0 1, (newF (c : Int) (n : Int)).2) = S1 := ⟨_, rfl⟩
  obtain ⟨S0, hS0⟩ : ∃ S0, newF (c : Int) (n : Int) = S0 := ⟨_, rfl⟩
  rw [hS1] at hm1 hm2
  rw [hS0] at hnew hm1
  rw [hS2] at hm2 hC hG hW ⊢
  clear hS0 hS1 hS2 hfl0 hfl1 hl
  have e1 : (S2.2.1.length : Int) = (c : Int) := by omega
  have e2 : (S2.1.2.1.length : Int) = (n : Int) + 1 := by omega
  have e3 : (S2.1.1.length : Int) = 128 + 4 * (n : Int) := by omega
  refine spec_introF true tab_ok 0 Tryz.func29 rfl (by kernel_rfl) rfl ?_
  conv => whnf
  first | refine .inr (.inl ⟨_, hnew, ?_⟩) | refine .inl (.inr (.inl ⟨_, hnew, ?_⟩))
  conv => whnf
  repeat (refine ⟨by first | omega | (simp only [Option.getD_none, Option.getD_some]; omega) | (simp; done) | (simp; omega), ?_⟩; conv => whnf)
  first | refine .inr (.inl ⟨_, hm1, ?_⟩) | refine .inl (.inr (.inl ⟨_, hm1, ?_⟩))
  conv => whnf
  repeat (refine ⟨by first | omega | (simp only [Option.getD_none, Option.getD_some]; omega) | (simp; done) | (simp; omega), ?_⟩; conv => whnf)
  first | refine .inr (.inl ⟨_, hm2, ?_⟩) | refine .inl (.inr (.inl ⟨_, hm2, ?_⟩))
  conv => whnf
  repeat (refine ⟨by first | omega | (simp only [Option.getD_none, Option.getD_some]; omega) | (simp; done) | (simp; omega), ?_⟩; conv => whnf)
  refine ⟨p_hazellaw08_start_4, g_hazellaw08_start_4, by kernel_rfl, ?st1, ?_, ?_⟩
  rotate_left
  · conv => whnf
    rw [decide_eq_true e1]
    conv => whnf
    intro z hz
    replace hz : z = (n : Int) + 1 := by rw [IntWalk.wrap64_in _ (by omega)] at hz; omega
    subst hz
    conv => whnf
    intro z hz
    replace hz : z = (n : Int) + 1 := by rw [IntWalk.wrap64_in _ (by omega)] at hz; omega
    subst hz
    conv => whnf
    rw [decide_eq_true e2]
    conv => whnf
    intro z hz
    replace hz : z = 4 * (n : Int) := by rw [IntWalk.wrap64_in _ (by omega)] at hz; omega
    subst hz
    conv => whnf
    intro z hz
    replace hz : z = 4 * (n : Int) := by rw [IntWalk.wrap64_in _ (by omega)] at hz; omega
    subst hz
    conv => whnf
    intro z hz
    replace hz : z = 128 + 4 * (n : Int) := by rw [IntWalk.wrap64_in _ (by omega)] at hz; omega
    subst hz
    conv => whnf
    intro z hz
    replace hz : z = 128 + 4 * (n : Int) := by rw [IntWalk.wrap64_in _ (by omega)] at hz; omega
    subst hz
    conv => whnf
  rw [decide_eq_true e3]
  conv => whnf
  first | exact .inl rfl | exact .inr rfl
theorem vU16_d {x : Int} (h0 : 0 ≤ x) (h1 : x ≤ 65535) (d : Int) (hd : 0 < d) : IntKind.u16.wrap (x.tdiv d) = x / d := by
  rw [Int.tdiv_eq_ediv_of_nonneg h0]
  have h2 : 0 ≤ x / d := Int.ediv_nonneg h0 (by omega)
  have h3 : x / d ≤ x := Int.ediv_le_self _ h0
  simp only [IntKind.wrap, IntKind.bits, IntKind.signed]
  simp
  omega
/-- What a core begins by a pick. -/
def begS (s : Sy) (k x : Int) : Sy := if x / 16 % 2 = 1 then callS s k 9 (x / 8 % 2) (x / 32) 0 else callS s k 10 (x / 8 % 2) 0 0
theorem s_begin8 (s : Sy) (k x : Int) (x0 : 0 ≤ x) (x1 : x ≤ 65535) (hl : s.2.1.length ≤ 1000) : Spec Tryz.prog 31 [vS s, vI k, .one (.int .u16 x)] (vS (begS s k x)) := by
  obtain ⟨q, hq⟩ : ∃ q, x / 8 % 2 = q := ⟨_, rfl⟩
  obtain ⟨v, hv⟩ : ∃ v, x / 32 = v := ⟨_, rfl⟩
  have e8 : IntKind.u16.wrap (x.tdiv 8) = x / 8 := vU16_d x0 x1 8 (by decide)
  have e16 : IntKind.u16.wrap (x.tdiv 16) = x / 16 := vU16_d x0 x1 16 (by decide)
  have e32 : IntKind.u16.wrap (x.tdiv 32) = v := by rw [vU16_d x0 x1 32 (by decide)]; exact hv
  have hv2 : wrap64 v = v := IntWalk.wrap64_in _ (by omega)
  have h9 := s_refCall s k 9 q v 0 (Nat.le_trans hl (by decide))
  have h10 := s_refCall s k 10 q 0 0 (Nat.le_trans hl (by decide))
  rw [show begS s k x = (if x / 16 % 2 = 1 then callS s k 9 q v 0 else callS s k 10 q 0 0) from by unfold begS; rw [hq, hv]]
  refine spec_introF true tab_ok 0 Tryz.func31 rfl (by kernel_rfl) rfl ?_
  conv => whnf
  repeat (refine ⟨by first | omega | (simp only [Option.getD_none, Option.getD_some]; omega) | (simp; done) | (simp; omega), ?_⟩; conv => whnf)
  intro z hz
  replace hz : z = x / 8 := hz.trans e8
  conv => whnf
  repeat (refine ⟨by first | omega | (simp only [Option.getD_none, Option.getD_some]; omega) | (simp; done) | (simp; omega), ?_⟩; conv => whnf)
  intro z1 hz1
  replace hz1 : z1 = x / 8 := by rw [hz, IntWalk.wrap64_in _ (by omega)] at hz1; exact hz1
  subst hz hz1
  conv => whnf
  repeat (refine ⟨by first | omega | (simp only [Option.getD_none, Option.getD_some]; omega) | (simp; done) | (simp; omega), ?_⟩; conv => whnf)
  rw [show (x / 8).tmod 2 = q from (Int.tmod_eq_emod_of_nonneg (by omega)).trans hq]
  intro z2 hz2
  replace hz2 : z2 = x / 16 := hz2.trans e16
  subst hz2
  conv => whnf
  repeat (refine ⟨by first | omega | (simp only [Option.getD_none, Option.getD_some]; omega) | (simp; done) | (simp; omega), ?_⟩; conv => whnf)
  rw [show (x / 16).tmod 2 = x / 16 % 2 from Int.tmod_eq_emod_of_nonneg (by omega)]
  refine dcase (fun h => ?_) (fun h => ?_)
  · replace h : x / 16 % 2 = 1 := h
    rw [if_pos h]
    conv => whnf
    repeat (refine ⟨by first | omega | (simp only [Option.getD_none, Option.getD_some]; omega) | (simp; done) | (simp; omega), ?_⟩; conv => whnf)
    intro z hz
    replace hz : z = v := hz.trans e32
    subst hz
    conv => whnf
    repeat (refine ⟨by first | omega | (simp only [Option.getD_none, Option.getD_some]; omega) | (simp; done) | (simp; omega), ?_⟩; conv => whnf)
    intro z2 hz2
    replace hz2 : z2 = z := hz2.trans hv2
    subst hz2
    conv => whnf
    repeat (refine ⟨by first | omega | (simp only [Option.getD_none, Option.getD_some]; omega) | (simp; done) | (simp; omega), ?_⟩; conv => whnf)
    first | refine .inr (.inl ⟨_, h9, ?_⟩) | refine .inl (.inr (.inl ⟨_, h9, ?_⟩))
    conv => whnf
    repeat (refine ⟨by first | omega | (simp only [Option.getD_none, Option.getD_some]; omega) | (simp; done) | (simp; omega), ?_⟩; conv => whnf)
    first | exact .inl rfl | exact .inr rfl
  · replace h : ¬ x / 16 % 2 = 1 := h
    rw [if_neg h]
    conv => whnf
    repeat (refine ⟨by first | omega | (simp only [Option.getD_none, Option.getD_some]; omega) | (simp; done) | (simp; omega), ?_⟩; conv => whnf)
    first | refine .inr (.inl ⟨_, h10, ?_⟩) | refine .inl (.inr (.inl ⟨_, h10, ?_⟩))
    conv => whnf
    repeat (refine ⟨by first | omega | (simp only [Option.getD_none, Option.getD_some]; omega) | (simp; done) | (simp; omega), ?_⟩; conv => whnf)
    first | exact .inl rfl | exact .inr rfl
end Go.Proofs.YtpobngddiifdpaaGreat.V

set_option linter.unusedSimpArgs false
set_option linter.unusedVariables false
namespace Go.Proofs.YtpobngddiifdpaaGreat.V
open Go Go.RowKit Go.Proofs.YtpobngddiifdpaaGreat.Hz
set_option maxRecDepth 100000

/-- What a pick makes of a system: a core that is at nothing begins. -/
def goS (s : Sy) (k x : Int) : Sy := if topI s k = none then begS s k x else s
theorem begS_fin {N : Nat} {s : Sy} {k x : Int} (h : Fin N s) : Fin N (begS s k x) := by
  unfold begS
  split <;> exact h.callS
theorem goS_fin {N : Nat} {s : Sy} {k x : Int} (h : Fin N s) : Fin N (goS s k x) := by
  unfold goS
  split
  · exact begS_fin h
  · exact h
theorem MqI.go {T : Int} {o : OM} {s : Sy} {N : NQ} {k : Nat} (h : MqI T o s N) (hk : k < s.2.1.length) (x : Int) : MqI T o (goS s k x) N ∧ (cAt (goS s k x).2.1 k).1 ≠ [] ∧ (goS s k x).2.1.length = s.2.1.length ∧ (goS s k x).1 = s.1 ∧ (goS s k x).2.2 = s.2.2 := by
  have hC := h.mm.cores
  have htI := topI_is (s := s) (k := (k : Int)) (by omega) (by omega)
  unfold goS
  split
  · rename_i ht
    have hidle : (cAt s.2.1 k).1 = [] := by
      rw [ht] at htI
      exact List.getLast?_eq_none_iff.1 htI.symm
    have hq : IsQ (x / 8 % 2) := by unfold IsQ; omega
    unfold begS
    split
    · obtain ⟨a, b, c, d, e⟩ := h.begin (op := 9) (q := x / 8 % 2) (v := x / 32) hk hidle (.inl rfl) hq
      exact ⟨a, by rw [b]; simp, c, d, e⟩
    · obtain ⟨a, b, c, d, e⟩ := h.begin (op := 10) (q := x / 8 % 2) (v := 0) hk hidle (.inr rfl) hq
      exact ⟨a, by rw [b]; simp, c, d, e⟩
  · rename_i ht
    refine ⟨h, fun e => ht ?_, rfl, rfl, rfl⟩
    rw [htI]
    exact (congrArg List.getLast? e).trans rfl
end Go.Proofs.YtpobngddiifdpaaGreat.V
