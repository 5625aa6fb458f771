/- The document's: is it the same? parts, new systems. -/
import Derived.Test.YtpobngddiifdpaaGreatZbR5
set_option linter.unusedSimpArgs false
set_option linter.unusedVariables false
namespace Go.Proofs.YtpobngddiifdpaaGreat.V
open Go Go.RowKit Go.Proofs.YtpobngddiifdpaaGreat.Hz
set_option maxRecDepth 100000

theorem s_refIntsSame (a : Li) (ha : a.length ≤ 1000000) : Spec Tryz.prog 26 [vL a, vL a] (vB true) := by
  have h := s_refInts a a (by omega)
  rw [sameB_yes rfl] at h
  exact h
theorem s_refFrameSame (f : Frm) (hl : f.2.2.2.1.length ≤ 1000) : Spec Tryz.prog 109 [vF f, vF f] (vB true) := by
  have hi := s_refIntsSame f.2.2.2.1 (by omega)
  refine spec_introF false tab_ok 0 Tryz.func109 rfl (by kernel_rfl) rfl ?_
  conv => whnf
  repeat (refine ⟨by first | omega | (simp only [Option.getD_none, Option.getD_some]; omega) | (simp; done) | (simp; omega), ?_⟩; conv => whnf)
  first | refine .inl ⟨_, hi, ?_⟩ | refine .inl (.inl ⟨_, hi, ?_⟩)
  conv => whnf
  repeat (refine ⟨by first | omega | (simp only [Option.getD_none, Option.getD_some]; omega) | (simp; done) | (simp; omega), ?_⟩; conv => whnf)
  refine dcase (fun _ => ?_) (fun h => absurd rfl h)
  conv => whnf
  repeat (refine ⟨by first | omega | (simp only [Option.getD_none, Option.getD_some]; omega) | (simp; done) | (simp; omega), ?_⟩; conv => whnf)
  refine dcase (fun _ => ?_) (fun h => absurd rfl h)
  conv => whnf
  repeat (refine ⟨by first | omega | (simp only [Option.getD_none, Option.getD_some]; omega) | (simp; done) | (simp; omega), ?_⟩; conv => whnf)
  refine .inl (congrArg vB ?_)
  simp
theorem s_refOneSame (c : Cor) (hc : FinC c) : Spec Tryz.prog 71 [vC c, vC c] (vB true) := by
  have hi := s_refIntsSame c.2.2.2.2.1 (Nat.le_trans hc.ret (by decide))
  have hfl : c.1.length ≤ 1000 := hc.frames
  refine spec_introF true tab_ok 0 Tryz.func71 rfl (by kernel_rfl) rfl ?_
  conv => whnf
  repeat (refine ⟨by first | omega | (simp only [Option.getD_none, Option.getD_some]; omega) | (simp; done) | (simp; omega), ?_⟩; conv => whnf)
  first | refine .inl ⟨_, hi, ?_⟩ | refine .inl (.inl ⟨_, hi, ?_⟩)
  conv => whnf
  repeat (refine ⟨by first | omega | (simp only [Option.getD_none, Option.getD_some]; omega) | (simp; done) | (simp; omega), ?_⟩; conv => whnf)
  refine dcase (fun h => absurd rfl h) (fun _ => ?_)
  conv => whnf
  repeat (refine ⟨by first | omega | (simp only [Option.getD_none, Option.getD_some]; omega) | (simp; done) | (simp; omega), ?_⟩; conv => whnf)
  refine dcase (fun h => absurd rfl h) (fun _ => ?_)
  conv => whnf
  repeat (refine ⟨by first | omega | (simp only [Option.getD_none, Option.getD_some]; omega) | (simp; done) | (simp; omega), ?_⟩; conv => whnf)
  refine ncaseb (fun h => absurd h (by simp)) (fun _ => ?_)
  conv => whnf
  repeat (refine ⟨by first | omega | (simp only [Option.getD_none, Option.getD_some]; omega) | (simp; done) | (simp; omega), ?_⟩; conv => whnf)
  refine dcase (fun h => absurd rfl h) (fun _ => ?_)
  conv => whnf
  repeat (refine ⟨by first | omega | (simp only [Option.getD_none, Option.getD_some]; omega) | (simp; done) | (simp; omega), ?_⟩; conv => whnf)
  refine ⟨[], [2, 3, 4, 6], [2, 3], ?_⟩
  apply Exists.intro
  conv => whnf
  refine loopK (fun i : Int => ((c.1.length : Int) - i).toNat) (fun i => 0 ≤ i ∧ i ≤ c.1.length) (fun i => ⟨lay 65 0 [(2, pB 2), (3, pB 3), (4, vB false), (6, vI i)], [(2, .cells yCore (cC c)), (3, .cells yCore (cC c))], []⟩) ?_ 0 rfl rfl ⟨Int.le_refl _, by omega⟩
  intro i ih ⟨hi1, hi2⟩ hih
  conv => whnf
  repeat (refine ⟨by first | omega | (simp only [Option.getD_none, Option.getD_some]; omega) | (simp; done) | (simp; omega), ?_⟩; conv => whnf)
  refine dcase (fun h3 => ?_) (fun h3 => ?_)
  · have h3 : i < c.1.length := h3
    have hf : (c.1.getD i.toNat (dflt tFrame)).2.2.2.1.length ≤ 1000 := by
      rw [List.getD_eq_getElem?_getD, List.getElem?_eq_getElem (by omega)]
      exact hc.seen _ (List.getElem_mem _)
    conv => whnf
    repeat (refine ⟨by first | omega | (simp only [Option.getD_none, Option.getD_some]; omega) | (simp; done) | (simp; omega), ?_⟩; conv => whnf)
    refine ⟨p_hazelref03_one_7, g_hazelref03_one_7, by kernel_rfl, ?st1, ?_, ?_⟩
    rotate_left
    · skip
      conv => whnf
      repeat (refine ⟨by first | omega | (simp only [Option.getD_none, Option.getD_some]; omega) | (simp; done) | (simp; omega), ?_⟩; conv => whnf)
      repeat' (first | (refine ⟨by first | omega | (simp only [Option.getD_none, Option.getD_some]; omega) | (simp; done) | (simp; omega), ?_⟩; conv => whnf) | (refine ⟨⟨hi1, h3⟩, ?_⟩; conv => whnf) | (refine .inl ⟨_, s_refFrameSame _ hf, ?_⟩; conv => whnf) | (refine .inl (.inl ⟨_, s_refFrameSame _ hf, ?_⟩); conv => whnf) | (refine And.intro ?_ ?_ <;> conv => whnf) | exact rfl)
    conv => whnf
    repeat (refine ⟨by first | omega | (simp only [Option.getD_none, Option.getD_some]; omega) | (simp; done) | (simp; omega), ?_⟩; conv => whnf)
    intro z hz
    rw [IntWalk.wrap64_in _ (by omega)] at hz
    conv => whnf
    repeat (refine ⟨by first | omega | (simp only [Option.getD_none, Option.getD_some]; omega) | (simp; done) | (simp; omega), ?_⟩; conv => whnf)
    exact hih z ⟨by omega, by omega⟩ (by omega)
  · skip
    conv => whnf
    repeat (refine ⟨by first | omega | (simp only [Option.getD_none, Option.getD_some]; omega) | (simp; done) | (simp; omega), ?_⟩; conv => whnf)
    first | exact .inl rfl | exact .inr rfl
theorem s_refEvsSame (l : List Evt) (hl : l.length ≤ 1000000) : Spec Tryz.prog 70 [.one (.sl tEv l false), .one (.sl tEv l false)] (vB true) := by
  refine spec_introF true tab_ok 0 Tryz.func70 rfl (by kernel_rfl) rfl ?_
  conv => whnf
  repeat (refine ⟨by first | omega | (simp only [Option.getD_none, Option.getD_some]; omega) | (simp; done) | (simp; omega), ?_⟩; conv => whnf)
  refine dcase (fun h => absurd rfl h) (fun _ => ?_)
  conv => whnf
  repeat (refine ⟨by first | omega | (simp only [Option.getD_none, Option.getD_some]; omega) | (simp; done) | (simp; omega), ?_⟩; conv => whnf)
  refine ⟨[], [0, 1, 4, 5], [], ?_⟩
  apply Exists.intro
  conv => whnf
  refine loopK (fun i : Int => ((l.length : Int) - i).toNat) (fun i => 0 ≤ i ∧ i ≤ l.length) (fun i => ⟨lay 26 0 [(0, .one (.sl tEv l false)), (1, .one (.sl tEv l false)), (4, vB false), (5, vI i)], [], []⟩) ?_ 0 rfl rfl ⟨Int.le_refl _, by omega⟩
  intro i ih ⟨hi1, hi2⟩ hih
  conv => whnf
  repeat (refine ⟨by first | omega | (simp only [Option.getD_none, Option.getD_some]; omega) | (simp; done) | (simp; omega), ?_⟩; conv => whnf)
  refine dcase (fun h3 => ?_) (fun h3 => ?_)
  · have h3 : i < l.length := h3
    conv => whnf
    repeat (refine ⟨by first | omega | (simp only [Option.getD_none, Option.getD_some]; omega) | (simp; done) | (simp; omega), ?_⟩; conv => whnf)
    refine ⟨p_hazelref03_Evs_6, g_hazelref03_Evs_6, by kernel_rfl, ?st2, ?_, ?_⟩
    rotate_left
    · skip
      conv => whnf
      repeat (refine ⟨by first | omega | (simp only [Option.getD_none, Option.getD_some]; omega) | (simp; done) | (simp; omega), ?_⟩; conv => whnf)
      repeat' (first | (refine ⟨by first | omega | (simp only [Option.getD_none, Option.getD_some]; omega) | (simp; done) | (simp; omega), ?_⟩; conv => whnf) | (refine ⟨⟨hi1, h3⟩, ?_⟩; conv => whnf) | (refine And.intro ?_ ?_ <;> conv => whnf) | exact rfl)
    conv => whnf
    repeat (refine ⟨by first | omega | (simp only [Option.getD_none, Option.getD_some]; omega) | (simp; done) | (simp; omega), ?_⟩; conv => whnf)
    refine ncaseb (fun h => absurd h (by simp)) (fun _ => ?_)
    conv => whnf
    repeat (refine ⟨by first | omega | (simp only [Option.getD_none, Option.getD_some]; omega) | (simp; done) | (simp; omega), ?_⟩; conv => whnf)
    intro z hz
    rw [IntWalk.wrap64_in _ (by omega)] at hz
    conv => whnf
    repeat (refine ⟨by first | omega | (simp only [Option.getD_none, Option.getD_some]; omega) | (simp; done) | (simp; omega), ?_⟩; conv => whnf)
    exact hih z ⟨by omega, by omega⟩ (by omega)
  · skip
    conv => whnf
    repeat (refine ⟨by first | omega | (simp only [Option.getD_none, Option.getD_some]; omega) | (simp; done) | (simp; omega), ?_⟩; conv => whnf)
    first | exact .inl rfl | exact .inr rfl
theorem s_refSameB (s : Sy) (hw : s.1.1.length ≤ 1000000) (hg : s.1.2.1.length ≤ 1000000) (hcl : s.2.1.length ≤ 1000) (hcore : ∀ c ∈ s.2.1, FinC c) (hl : s.2.2.1.length ≤ 1000000) : Spec Tryz.prog 25 [vS s, vS s] (vB true) := by
  have hm : Spec Tryz.prog 69 [vM s.1, vM s.1] (vB true) := by
    have h := s_refSameM s.1 s.1 (by omega) (by omega)
    have e : sameM s.1 s.1 = true := by unfold sameM; rw [sameB_yes rfl, sameB_yes rfl]; simp
    rw [e] at h
    exact h
  have hcAt : ∀ i, FinC (cAt s.2.1 i) := fun i => by
    rcases cAt_mem (l := s.2.1) (k := i) with e | e
    · exact hcore _ e
    · rw [e]; exact dflt_finC
  refine spec_introF true tab_ok 0 Tryz.func25 rfl (by kernel_rfl) rfl ?_
  conv => whnf
  repeat (refine ⟨by first | omega | (simp only [Option.getD_none, Option.getD_some]; omega) | (simp; done) | (simp; omega), ?_⟩; conv => whnf)
  first | refine .inl ⟨_, hm, ?_⟩ | refine .inl (.inl ⟨_, hm, ?_⟩)
  conv => whnf
  repeat (refine ⟨by first | omega | (simp only [Option.getD_none, Option.getD_some]; omega) | (simp; done) | (simp; omega), ?_⟩; conv => whnf)
  first | refine .inl ⟨_, s_refEvsSame s.2.2.1 hl, ?_⟩ | refine .inl (.inl ⟨_, s_refEvsSame s.2.2.1 hl, ?_⟩)
  conv => whnf
  repeat (refine ⟨by first | omega | (simp only [Option.getD_none, Option.getD_some]; omega) | (simp; done) | (simp; omega), ?_⟩; conv => whnf)
  refine dcase (fun h => absurd rfl h) (fun _ => ?_)
  conv => whnf
  repeat (refine ⟨by first | omega | (simp only [Option.getD_none, Option.getD_some]; omega) | (simp; done) | (simp; omega), ?_⟩; conv => whnf)
  refine ⟨[], [2, 3, 4, 7], [2, 3], ?_⟩
  apply Exists.intro
  conv => whnf
  refine loopK (fun i : Int => ((s.2.1.length : Int) - i).toNat) (fun i => 0 ≤ i ∧ i ≤ s.2.1.length) (fun i => ⟨lay 54 0 [(2, pB 2), (3, pB 3), (4, vB false), (7, vI i)], [(2, .cells ySys (cS s)), (3, .cells ySys (cS s))], []⟩) ?_ 0 rfl rfl ⟨Int.le_refl _, by omega⟩
  intro i ih ⟨hi1, hi2⟩ hih
  conv => whnf
  repeat (refine ⟨by first | omega | (simp only [Option.getD_none, Option.getD_some]; omega) | (simp; done) | (simp; omega), ?_⟩; conv => whnf)
  refine dcase (fun h3 => ?_) (fun h3 => ?_)
  · have h3 : i < s.2.1.length := h3
    conv => whnf
    repeat (refine ⟨by first | omega | (simp only [Option.getD_none, Option.getD_some]; omega) | (simp; done) | (simp; omega), ?_⟩; conv => whnf)
    refine ⟨p_hazelref03_Same_8, g_hazelref03_Same_8, by kernel_rfl, ?st3, ?_, ?_⟩
    rotate_left
    · skip
      conv => whnf
      repeat (refine ⟨by first | omega | (simp only [Option.getD_none, Option.getD_some]; omega) | (simp; done) | (simp; omega), ?_⟩; conv => whnf)
      repeat' (first | (refine ⟨by first | omega | (simp only [Option.getD_none, Option.getD_some]; omega) | (simp; done) | (simp; omega), ?_⟩; conv => whnf) | (refine ⟨⟨hi1, h3⟩, ?_⟩; conv => whnf) | (refine .inl ⟨_, s_refOneSame _ (hcAt i), ?_⟩; conv => whnf) | (refine .inl (.inl ⟨_, s_refOneSame _ (hcAt i), ?_⟩); conv => whnf) | (refine And.intro ?_ ?_ <;> conv => whnf) | exact rfl)
    conv => whnf
    repeat (refine ⟨by first | omega | (simp only [Option.getD_none, Option.getD_some]; omega) | (simp; done) | (simp; omega), ?_⟩; conv => whnf)
    intro z hz
    rw [IntWalk.wrap64_in _ (by omega)] at hz
    conv => whnf
    repeat (refine ⟨by first | omega | (simp only [Option.getD_none, Option.getD_some]; omega) | (simp; done) | (simp; omega), ?_⟩; conv => whnf)
    exact hih z ⟨by omega, by omega⟩ (by omega)
  · skip
    conv => whnf
    repeat (refine ⟨by first | omega | (simp only [Option.getD_none, Option.getD_some]; omega) | (simp; done) | (simp; omega), ?_⟩; conv => whnf)
    first | exact .inl rfl | exact .inr rfl
theorem s_refSame {N : Nat} (s : Sy) (hf : Fin N s) (hN : N ≤ 900000) : Spec Tryz.prog 25 [vS s, vS s] (vB true) :=
  s_refSameB s (by have := hf.fits.1; have := hf.fits.2; omega) (by have := hf.fits.2; omega) hf.cores hf.core (Nat.le_trans hf.log (Nat.le_trans hN (by decide)))
/-! ### New systems, of arguments that may not be, too -/
end Go.Proofs.YtpobngddiifdpaaGreat.V
