/- EventMakes: the law. -/
import Derived.Test.YtlcjkogdbleboaaGreatE3
import Derived.Test.YtlcjkogdbleboaaGreatR6
import Derived.Test.YtlcjkogdbleboaaGreatM1
import Derived.Test.YtlcjkogdbleboaaGreatVOpen
set_option linter.unusedSimpArgs false
set_option linter.unusedVariables false
namespace Go.Proofs.YtlcjkogdbleboaaGreat.V
open Go Go.RowKit Go.Proofs.YtlcjkogdbleboaaGreat.Hz
set_option maxRecDepth 100000

theorem mkE_is {s : Sy} {e : Int} {b : Bool} (h0 : 0 ≤ e) (h1 : e ≤ 15) (hf : Fits s.1) : mkE s e b = (setW s.1 (80 + e) (selfI b), s.2) := by
  unfold mkE
  rw [store_word (by omega) (by omega) hf]
  rfl
abbrev vEM (s : Sy) (a b : Int) (f : Bool) : SV := .agg [.sl tI s.1.1 false, .sl tI s.1.2.1 false, .bool s.1.2.2.1, .sl tCore s.2.1 false, .sl tEv s.2.2.1 false, .int .u8 a, .int .u8 b, .bool f]
theorem beq_self_b (b : Bool) : (b == b) = true := by cases b <;> rfl
theorem s_EventMakes (s : Sy) (a b : Int) (f : Bool) (ha0 : 0 ≤ a) (ha1 : a ≤ 255) (hb0 : 0 ≤ b) (hb1 : b ≤ 255) : Spec Tryz.prog 9 [vEM s a b f] (vB true) := by
  refine spec_introF true tab_ok 0 Tryz.func9 rfl (by kernel_rfl) rfl ?_
  conv => whnf
  repeat (refine ⟨by first | omega | (simp only [Option.getD_none, Option.getD_some]; omega) | (simp; done) | (simp; omega), ?_⟩; conv => whnf)
  first | refine .inl ⟨_, s_shown12, ?_⟩ | refine .inl (.inl ⟨_, s_shown12, ?_⟩)
  conv => whnf
  repeat (refine ⟨by first | omega | (simp only [Option.getD_none, Option.getD_some]; omega) | (simp; done) | (simp; omega), ?_⟩; conv => whnf)
  first | refine .inl ⟨_, s_refMay s 60 (by decide) (by decide), ?_⟩ | refine .inl (.inl ⟨_, s_refMay s 60 (by decide) (by decide), ?_⟩)
  conv => whnf
  repeat (refine ⟨by first | omega | (simp only [Option.getD_none, Option.getD_some]; omega) | (simp; done) | (simp; omega), ?_⟩; conv => whnf)
  refine ncaseb (fun h => ?_) (fun h => ?_)
  · skip
    conv => whnf
    repeat (refine ⟨by first | omega | (simp only [Option.getD_none, Option.getD_some]; omega) | (simp; done) | (simp; omega), ?_⟩; conv => whnf)
    first | exact .inl rfl | exact .inr rfl
  have hf := may_fin h
  obtain ⟨_, ⟨⟨m1, m2, m3, m4, m5⟩, _⟩⟩ := may_is h
  have hlen := hf.fits.1
  conv => whnf
  repeat (refine ⟨by first | omega | (simp only [Option.getD_none, Option.getD_some]; omega) | (simp; done) | (simp; omega), ?_⟩; conv => whnf)
  intro z hz
  replace hz : z = a := hz.trans (IntWalk.wrap64_in _ (by omega))
  subst hz
  conv => whnf
  repeat (refine ⟨by first | omega | (simp only [Option.getD_none, Option.getD_some]; omega) | (simp; done) | (simp; omega), ?_⟩; conv => whnf)
  intro y hy
  replace hy : y = b := hy.trans (IntWalk.wrap64_in _ (by omega))
  subst hy
  conv => whnf
  repeat (refine ⟨by first | omega | (simp only [Option.getD_none, Option.getD_some]; omega) | (simp; done) | (simp; omega), ?_⟩; conv => whnf)
  have e1 : z.tmod 16 = z % 16 := Int.tmod_eq_emod_of_nonneg ha0
  have e2 : y.tmod 16 = y % 16 := Int.tmod_eq_emod_of_nonneg hb0
  obtain ⟨p, hp, p0, p1⟩ : ∃ p, z.tmod 16 = p ∧ 0 ≤ p ∧ p ≤ 15 := ⟨_, rfl, by omega, by omega⟩
  obtain ⟨q, hq, q0, q1⟩ : ∃ q, y.tmod 16 = q ∧ 0 ≤ q ∧ q ≤ 15 := ⟨_, rfl, by omega, by omega⟩
  rw [hp, hq]
  clear e1 e2 hp hq
  obtain ⟨t, ht⟩ : ∃ t, mkE s p f = t := ⟨_, rfl⟩
  have hmk := s_evMake s p f p0 p1 hf.fits
  have htf : Fin 200 t := ht ▸ mkE_fin hf
  have hti := mkE_is (b := f) p0 p1 hf.fits
  rw [ht] at hmk hti
  have htl : t.1.1.length = s.1.1.length := by rw [hti]; exact List.length_set
  have hself : selfI f = 0 ∨ selfI f = 1 := by cases f <;> simp [selfI]
  have hidx : idxI (selfI f) = 0 := by rcases hself with e | e <;> rw [e] <;> rfl
  have hbit : decide (selfI f % 2 = 1) = f := by cases f <;> rfl
  have hat : nI t.1.1 (80 + p) = selfI f := by rw [hti]; exact setW_self (by omega) (by omega)
  have hoth : q ≠ p → nI t.1.1 (80 + q) = nI s.1.1 (80 + q) := fun hne => by rw [hti]; exact setW_ne (by omega) (by omega) (by omega)
  have hmk2 := s_evMake t p f p0 p1 htf.fits
  have htt : mkE t p f = t := by
    rw [mkE_is p0 p1 htf.fits, setW_same (by omega) (by omega) hat]
  rw [htt] at hmk2
  have hi1 := s_evIs t p p0 p1 (by omega)
  rw [hat, hidx, hbit, decide_eq_false (fun h => h rfl)] at hi1
  have hi2 := s_evIs s q q0 q1 (by omega)
  have hi3 := s_evIs t q q0 q1 (by omega)
  have hsame := s_refSame t htf (by decide)
  clear hti htt ht
  first | refine .inr (.inl ⟨_, hmk, ?_⟩) | refine .inl (.inr (.inl ⟨_, hmk, ?_⟩))
  conv => whnf
  repeat (refine ⟨by first | omega | (simp only [Option.getD_none, Option.getD_some]; omega) | (simp; done) | (simp; omega), ?_⟩; conv => whnf)
  first | refine .inl ⟨_, hi1, ?_⟩ | refine .inl (.inl ⟨_, hi1, ?_⟩)
  conv => whnf
  repeat (refine ⟨by first | omega | (simp only [Option.getD_none, Option.getD_some]; omega) | (simp; done) | (simp; omega), ?_⟩; conv => whnf)
  first | refine .inr (.inl ⟨_, hmk2, ?_⟩) | refine .inl (.inr (.inl ⟨_, hmk2, ?_⟩))
  conv => whnf
  repeat (refine ⟨by first | omega | (simp only [Option.getD_none, Option.getD_some]; omega) | (simp; done) | (simp; omega), ?_⟩; conv => whnf)
  first | refine .inl ⟨_, hi2, ?_⟩ | refine .inl (.inl ⟨_, hi2, ?_⟩)
  conv => whnf
  repeat (refine ⟨by first | omega | (simp only [Option.getD_none, Option.getD_some]; omega) | (simp; done) | (simp; omega), ?_⟩; conv => whnf)
  first | refine .inl ⟨_, hi3, ?_⟩ | refine .inl (.inl ⟨_, hi3, ?_⟩)
  conv => whnf
  repeat (refine ⟨by first | omega | (simp only [Option.getD_none, Option.getD_some]; omega) | (simp; done) | (simp; omega), ?_⟩; conv => whnf)
  rw [beq_self_b]
  conv => whnf
  repeat (refine ⟨by first | omega | (simp only [Option.getD_none, Option.getD_some]; omega) | (simp; done) | (simp; omega), ?_⟩; conv => whnf)
  first | refine .inl ⟨_, hsame, ?_⟩ | refine .inl (.inl ⟨_, hsame, ?_⟩)
  conv => whnf
  repeat (refine ⟨by first | omega | (simp only [Option.getD_none, Option.getD_some]; omega) | (simp; done) | (simp; omega), ?_⟩; conv => whnf)
  refine dcase (fun hpq => ?_) (fun hpq => ?_)
  · skip
    conv => whnf
    repeat (refine ⟨by first | omega | (simp only [Option.getD_none, Option.getD_some]; omega) | (simp; done) | (simp; omega), ?_⟩; conv => whnf)
    first | exact .inl rfl | exact .inr rfl
  have hne : q ≠ p := fun e => hpq e.symm
  rw [hoth hne]
  conv => whnf
  repeat (refine ⟨by first | omega | (simp only [Option.getD_none, Option.getD_some]; omega) | (simp; done) | (simp; omega), ?_⟩; conv => whnf)
  rw [beq_self_b]
  conv => whnf
  repeat (refine ⟨by first | omega | (simp only [Option.getD_none, Option.getD_some]; omega) | (simp; done) | (simp; omega), ?_⟩; conv => whnf)
  rw [beq_self_b]
  conv => whnf
  repeat (refine ⟨by first | omega | (simp only [Option.getD_none, Option.getD_some]; omega) | (simp; done) | (simp; omega), ?_⟩; conv => whnf)
  first | exact .inl rfl | exact .inr rfl
abbrev tyEM : Ty := .cons tSys (.cons (.int .u8) (.cons (.int .u8) (.cons .bool .nil)))
theorem s_EventMakesA (y : Den tyEM) (hw : WFd tyEM y) : Spec Tryz.prog 9 [.agg (flat tyEM y)] (vB true) :=
  s_EventMakes y.1 y.2.1 y.2.2.1 y.2.2.2.1 (wf_u8 hw.2.1).1 (wf_u8 hw.2.1).2 (wf_u8 hw.2.2.1).1 (wf_u8 hw.2.2.1).2
end Go.Proofs.YtlcjkogdbleboaaGreat.V
