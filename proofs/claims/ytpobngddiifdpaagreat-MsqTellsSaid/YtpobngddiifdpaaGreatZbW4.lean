/- MsqTells: the law. -/
import Derived.Test.YtpobngddiifdpaaGreatZbW3
import Derived.Test.YtpobngddiifdpaaGreatZbR6
import Derived.Test.YtpobngddiifdpaaGreatZbT3
set_option linter.unusedSimpArgs false
set_option linter.unusedVariables false
namespace Go.Proofs.YtpobngddiifdpaaGreat.V
open Go Go.RowKit Go.Proofs.YtpobngddiifdpaaGreat.Hz
set_option maxRecDepth 100000

theorem itemsF_len {m : Me} : ∀ {f : Nat} {p : Int} {had out l : Li}, itemsF m f p had out = some l → l.length ≤ out.length + f
  | 0, _, _, _, _, h => nomatch h
  | f + 1, p, had, out, l, h => by
    unfold itemsF at h
    have hl : (if had = [] then out else out ++ [nI m.1 (atI p 3)]).length ≤ out.length + 1 := by
      split
      · omega
      · rw [List.length_append]; exact Nat.le_refl _
    by_cases c : 1 ≤ p ∧ p < m.2.1.length ∧ p ∉ had
    · rw [if_pos c] at h
      by_cases c2 : idxI (nI m.1 (atI p 1)) = 0
      · rw [if_pos c2] at h
        rw [← Option.some.inj h]; omega
      · rw [if_neg c2] at h
        have := itemsF_len h
        omega
    · rw [if_neg c] at h; cases h
def itemsT (m : Me) (q : Int) : Option Li := if q < 0 ∨ 7 < q then none else itemsI m q
theorem itemsT_len {m : Me} {q : Int} : ((itemsT m q).getD []).length ≤ m.2.1.length + 1 := by
  unfold itemsT
  split
  · exact Nat.zero_le _
  · cases h : itemsI m q with
    | none => exact Nat.zero_le _
    | some l =>
      have := itemsF_len h
      rw [show (([] : Li).length) = 0 from rfl, Nat.zero_add] at this
      exact this
theorem s_mItemsT (s : Sy) (q : Int) (hg : 1 ≤ s.1.2.1.length) (hf : Fits s.1) : Spec Tryz.prog 19 [vS s, vI q] (vItems (itemsT s.1 q)) := by
  have h1 := hf.1
  have h2 := hf.2
  by_cases hqq : q < 0 ∨ 7 < q
  · rw [show itemsT s.1 q = none from if_pos hqq]
    have hq := s_isQueue q
    rw [show (decide (0 ≤ q) && decide (q < 8)) = false from by
      rcases hqq with h | h
      · rw [decide_eq_false (show ¬ 0 ≤ q by omega), Bool.false_and]
      · rw [decide_eq_false (show ¬ q < 8 by omega), Bool.and_false]] at hq
    refine spec_introF true tab_ok 0 Tryz.func19 rfl (by kernel_rfl) rfl ?_
    conv => whnf
    repeat (refine ⟨by first | omega | (simp only [Option.getD_none, Option.getD_some]; omega) | (simp; done) | (simp; omega), ?_⟩; conv => whnf)
    first | refine .inl ⟨_, hq, ?_⟩ | refine .inl (.inl ⟨_, hq, ?_⟩)
    conv => whnf
    repeat (refine ⟨by first | omega | (simp only [Option.getD_none, Option.getD_some]; omega) | (simp; done) | (simp; omega), ?_⟩; conv => whnf)
    first | exact .inl rfl | exact .inr rfl
  · rw [show itemsT s.1 q = itemsI s.1 q from if_neg hqq]
    exact s_mItems s q (by omega) (by omega) hg h2 (by omega)
theorem s_refItemsT (s : Sy) (q : Int) (hg : 1 ≤ s.1.2.1.length) (hf : Fits s.1) : Spec Tryz.prog 20 [vS s, vI q] (vItems (itemsT s.1 q)) := by
  have h1 := hf.1
  have h2 := hf.2
  by_cases hqq : q < 0 ∨ 7 < q
  · rw [show itemsT s.1 q = none from if_pos hqq]
    refine spec_introF true tab_ok 0 Tryz.func20 rfl (by kernel_rfl) rfl ?_
    conv => whnf
    repeat (refine ⟨by first | omega | (simp only [Option.getD_none, Option.getD_some]; omega) | (simp; done) | (simp; omega), ?_⟩; conv => whnf)
    refine dcase (fun h => ?_) (fun h => ?_)
    · skip
      conv => whnf
      repeat (refine ⟨by first | omega | (simp only [Option.getD_none, Option.getD_some]; omega) | (simp; done) | (simp; omega), ?_⟩; conv => whnf)
      first | exact .inl rfl | exact .inr rfl
    replace h : ¬ q < 0 := h
    conv => whnf
    repeat (refine ⟨by first | omega | (simp only [Option.getD_none, Option.getD_some]; omega) | (simp; done) | (simp; omega), ?_⟩; conv => whnf)
    refine dcase (fun h2 => ?_) (fun h2 => ?_)
    · skip
      conv => whnf
      repeat (refine ⟨by first | omega | (simp only [Option.getD_none, Option.getD_some]; omega) | (simp; done) | (simp; omega), ?_⟩; conv => whnf)
      first | exact .inl rfl | exact .inr rfl
    exact absurd (hqq.resolve_left h) h2
  · rw [show itemsT s.1 q = itemsI s.1 q from if_neg hqq]
    exact s_refItems s q (by omega) (by omega) hg h2 (by omega)
/-- What MsqTells is asked of. -/
abbrev vMT (s : Sy) (id q op : Int) : SV := .agg [.sl tI s.1.1 false, .sl tI s.1.2.1 false, .bool s.1.2.2.1, .sl tCore s.2.1 false, .sl tEv s.2.2.1 false, .int .i64 id, .int .i64 q, .int .i64 op]
theorem makeI_fin {N : Nat} {s : Sy} {q : Int} (h : Fin N s) : Fin N (makeI s q).1 := by
  unfold makeI
  split
  · exact h
  · cases hR : walkI s.1 with
    | none => exact h
    | some l =>
      cases l with
      | nil => exact h
      | cons p l =>
        obtain ⟨p1, p2⟩ := walkI_mem hR p (List.mem_cons_self ..)
        exact h.mem (storeM_fits (mk_ok h.fits p1 p2).f4)
theorem s_MsqTells (s : Sy) (id q op : Int) : Spec Tryz.prog 3 [vMT s id q op] (vB true) := by
  obtain ⟨b, hb⟩ : ∃ b, ownB 1 10 op = b := ⟨_, rfl⟩
  have ho1 := s_msqOwn8 op
  have ho2 := s_refOwn8 op
  rw [hb] at ho1 ho2
  clear hb
  refine spec_introF true tab_ok 0 Tryz.func3 rfl (by kernel_rfl) rfl ?_
  conv => whnf
  repeat (refine ⟨by first | omega | (simp only [Option.getD_none, Option.getD_some]; omega) | (simp; done) | (simp; omega), ?_⟩; conv => whnf)
  first | refine .inl ⟨_, s_shown08, ?_⟩ | refine .inl (.inl ⟨_, s_shown08, ?_⟩)
  conv => whnf
  repeat (refine ⟨by first | omega | (simp only [Option.getD_none, Option.getD_some]; omega) | (simp; done) | (simp; omega), ?_⟩; conv => whnf)
  first | refine .inl ⟨_, s_refMay s 60 (by decide) (by decide), ?_⟩ | refine .inl (.inl ⟨_, s_refMay s 60 (by decide) (by decide), ?_⟩)
  conv => whnf
  repeat (refine ⟨by first | omega | (simp only [Option.getD_none, Option.getD_some]; omega) | (simp; done) | (simp; omega), ?_⟩; conv => whnf)
  refine ncaseb (fun h => ?_) (fun h => ?_)
  · skip
    conv => whnf
    repeat (refine ⟨by first | omega | (simp only [Option.getD_none, Option.getD_some]; omega) | (simp; done) | (simp; omega), ?_⟩; conv => whnf)
    first | exact .inl rfl | exact .inr rfl
  have hf := may_fin h
  have hft : Fin 201 (msqS s id) := msqS_fin hf
  have hst := s_mStep8 s id hf (by decide)
  have hst8 := s_refStep8 s id hf (by decide)
  have hsame := s_refSame (msqS s id) hft (by decide)
  obtain ⟨_, ⟨⟨m1, m2, m3, m4, m5⟩, _⟩⟩ := may_is h
  have hM1 := s_mMakeI s q hf.fits
  have hM2 := s_refMakeI s q hf.fits
  have hsame2 := s_refSame _ (makeI_fin (q := q) hf) (by decide)
  have hI1 := s_mItemsT s q (by omega) hf.fits
  have hI2 := s_refItemsT s q (by omega) hf.fits
  have hIn := s_refIntsSame ((itemsT s.1 q).getD []) (Nat.le_trans itemsT_len (by omega))
  obtain ⟨A, hA⟩ : ∃ A, makeI s q = A := ⟨_, rfl⟩
  obtain ⟨R, hR⟩ : ∃ R, itemsT s.1 q = R := ⟨_, rfl⟩
  rw [hA] at hM1 hM2 hsame2
  rw [hR] at hI1 hI2 hIn
  obtain ⟨t, ht⟩ : ∃ t, msqS s id = t := ⟨_, rfl⟩
  rw [ht] at hst hst8 hsame
  conv => whnf
  repeat (refine ⟨by first | omega | (simp only [Option.getD_none, Option.getD_some]; omega) | (simp; done) | (simp; omega), ?_⟩; conv => whnf)
  first | refine .inr (.inl ⟨_, hM1, ?_⟩) | refine .inl (.inr (.inl ⟨_, hM1, ?_⟩))
  conv => whnf
  repeat (refine ⟨by first | omega | (simp only [Option.getD_none, Option.getD_some]; omega) | (simp; done) | (simp; omega), ?_⟩; conv => whnf)
  first | refine .inr (.inl ⟨_, hM2, ?_⟩) | refine .inl (.inr (.inl ⟨_, hM2, ?_⟩))
  conv => whnf
  repeat (refine ⟨by first | omega | (simp only [Option.getD_none, Option.getD_some]; omega) | (simp; done) | (simp; omega), ?_⟩; conv => whnf)
  first | refine .inr (.inl ⟨_, hI1, ?_⟩) | refine .inl (.inr (.inl ⟨_, hI1, ?_⟩))
  conv => whnf
  repeat (refine ⟨by first | omega | (simp only [Option.getD_none, Option.getD_some]; omega) | (simp; done) | (simp; omega), ?_⟩; conv => whnf)
  first | refine .inr (.inl ⟨_, hI2, ?_⟩) | refine .inl (.inr (.inl ⟨_, hI2, ?_⟩))
  conv => whnf
  repeat (refine ⟨by first | omega | (simp only [Option.getD_none, Option.getD_some]; omega) | (simp; done) | (simp; omega), ?_⟩; conv => whnf)
  refine dcase (fun q0 => ?_) (fun q0 => ?_)
  · replace q0 : 0 ≤ q := q0
    conv => whnf
    repeat (refine ⟨by first | omega | (simp only [Option.getD_none, Option.getD_some]; omega) | (simp; done) | (simp; omega), ?_⟩; conv => whnf)
    refine dcase (fun q7 => ?_) (fun q7 => ?_)
    · replace q7 : q < 8 := q7
      have hS1 := s_mSpot8 q q0 (by omega)
      have hS2 := s_Spot8 q q0 (by omega)
      conv => whnf
      repeat (refine ⟨by first | omega | (simp only [Option.getD_none, Option.getD_some]; omega) | (simp; done) | (simp; omega), ?_⟩; conv => whnf)
      first | refine .inl ⟨_, hS1, ?_⟩ | refine .inl (.inl ⟨_, hS1, ?_⟩)
      conv => whnf
      repeat (refine ⟨by first | omega | (simp only [Option.getD_none, Option.getD_some]; omega) | (simp; done) | (simp; omega), ?_⟩; conv => whnf)
      first | refine .inl ⟨_, hS2, ?_⟩ | refine .inl (.inl ⟨_, hS2, ?_⟩)
      conv => whnf
      repeat (refine ⟨by first | omega | (simp only [Option.getD_none, Option.getD_some]; omega) | (simp; done) | (simp; omega), ?_⟩; conv => whnf)
      refine dcase (fun h => absurd rfl h) (fun _ => ?_)
      conv => whnf
      repeat (refine ⟨by first | omega | (simp only [Option.getD_none, Option.getD_some]; omega) | (simp; done) | (simp; omega), ?_⟩; conv => whnf)
      first | refine .inl ⟨_, ho1, ?_⟩ | refine .inl (.inl ⟨_, ho1, ?_⟩)
      conv => whnf
      repeat (refine ⟨by first | omega | (simp only [Option.getD_none, Option.getD_some]; omega) | (simp; done) | (simp; omega), ?_⟩; conv => whnf)
      first | refine .inl ⟨_, ho2, ?_⟩ | refine .inl (.inl ⟨_, ho2, ?_⟩)
      conv => whnf
      repeat (refine ⟨by first | omega | (simp only [Option.getD_none, Option.getD_some]; omega) | (simp; done) | (simp; omega), ?_⟩; conv => whnf)
      refine ncaseb (fun h => absurd h (by simp)) (fun _ => ?_)
      conv => whnf
      repeat (refine ⟨by first | omega | (simp only [Option.getD_none, Option.getD_some]; omega) | (simp; done) | (simp; omega), ?_⟩; conv => whnf)
      first | refine .inl ⟨_, hsame2, ?_⟩ | refine .inl (.inl ⟨_, hsame2, ?_⟩)
      conv => whnf
      repeat (refine ⟨by first | omega | (simp only [Option.getD_none, Option.getD_some]; omega) | (simp; done) | (simp; omega), ?_⟩; conv => whnf)
      refine dcase (fun h => absurd rfl h) (fun _ => ?_)
      conv => whnf
      repeat (refine ⟨by first | omega | (simp only [Option.getD_none, Option.getD_some]; omega) | (simp; done) | (simp; omega), ?_⟩; conv => whnf)
      first | refine .inl ⟨_, hIn, ?_⟩ | refine .inl (.inl ⟨_, hIn, ?_⟩)
      conv => whnf
      repeat (refine ⟨by first | omega | (simp only [Option.getD_none, Option.getD_some]; omega) | (simp; done) | (simp; omega), ?_⟩; conv => whnf)
      refine ncaseb (fun h => absurd h (by simp)) (fun _ => ?_)
      conv => whnf
      repeat (refine ⟨by first | omega | (simp only [Option.getD_none, Option.getD_some]; omega) | (simp; done) | (simp; omega), ?_⟩; conv => whnf)
      refine ⟨p_hazellaw08_MsqTells_14, g_hazellaw08_MsqTells_14, by kernel_rfl, ?st1, ?_, ?_⟩
      rotate_left
      · skip
        conv => whnf
        repeat (refine ⟨by first | omega | (simp only [Option.getD_none, Option.getD_some]; omega) | (simp; done) | (simp; omega), ?_⟩; conv => whnf)
        repeat' (first | (refine ⟨by first | omega | (simp only [Option.getD_none, Option.getD_some]; omega) | (simp; done) | (simp; omega), ?_⟩; conv => whnf) | (refine .inr (.inl ⟨_, hst, ?_⟩); conv => whnf) | (refine .inl (.inr (.inl ⟨_, hst, ?_⟩)); conv => whnf) | (refine .inr (.inl ⟨_, hst8, ?_⟩); conv => whnf) | (refine .inl (.inr (.inl ⟨_, hst8, ?_⟩)); conv => whnf) | (refine .inl ⟨_, hsame, ?_⟩; conv => whnf) | (refine .inl (.inl ⟨_, hsame, ?_⟩); conv => whnf) | (refine And.intro ?_ ?_ <;> conv => whnf) | exact rfl)
      conv => whnf
      repeat (refine ⟨by first | omega | (simp only [Option.getD_none, Option.getD_some]; omega) | (simp; done) | (simp; omega), ?_⟩; conv => whnf)
      first | exact .inl rfl | exact .inr rfl
    · skip
      conv => whnf
      repeat (refine ⟨by first | omega | (simp only [Option.getD_none, Option.getD_some]; omega) | (simp; done) | (simp; omega), ?_⟩; conv => whnf)
      first | refine .inl ⟨_, ho1, ?_⟩ | refine .inl (.inl ⟨_, ho1, ?_⟩)
      conv => whnf
      repeat (refine ⟨by first | omega | (simp only [Option.getD_none, Option.getD_some]; omega) | (simp; done) | (simp; omega), ?_⟩; conv => whnf)
      first | refine .inl ⟨_, ho2, ?_⟩ | refine .inl (.inl ⟨_, ho2, ?_⟩)
      conv => whnf
      repeat (refine ⟨by first | omega | (simp only [Option.getD_none, Option.getD_some]; omega) | (simp; done) | (simp; omega), ?_⟩; conv => whnf)
      refine ncaseb (fun h => absurd h (by simp)) (fun _ => ?_)
      conv => whnf
      repeat (refine ⟨by first | omega | (simp only [Option.getD_none, Option.getD_some]; omega) | (simp; done) | (simp; omega), ?_⟩; conv => whnf)
      first | refine .inl ⟨_, hsame2, ?_⟩ | refine .inl (.inl ⟨_, hsame2, ?_⟩)
      conv => whnf
      repeat (refine ⟨by first | omega | (simp only [Option.getD_none, Option.getD_some]; omega) | (simp; done) | (simp; omega), ?_⟩; conv => whnf)
      refine dcase (fun h => absurd rfl h) (fun _ => ?_)
      conv => whnf
      repeat (refine ⟨by first | omega | (simp only [Option.getD_none, Option.getD_some]; omega) | (simp; done) | (simp; omega), ?_⟩; conv => whnf)
      first | refine .inl ⟨_, hIn, ?_⟩ | refine .inl (.inl ⟨_, hIn, ?_⟩)
      conv => whnf
      repeat (refine ⟨by first | omega | (simp only [Option.getD_none, Option.getD_some]; omega) | (simp; done) | (simp; omega), ?_⟩; conv => whnf)
      refine ncaseb (fun h => absurd h (by simp)) (fun _ => ?_)
      conv => whnf
      repeat (refine ⟨by first | omega | (simp only [Option.getD_none, Option.getD_some]; omega) | (simp; done) | (simp; omega), ?_⟩; conv => whnf)
      refine ⟨p_hazellaw08_MsqTells_14, g_hazellaw08_MsqTells_14, by kernel_rfl, ?st2, ?_, ?_⟩
      rotate_left
      · skip
        conv => whnf
        repeat (refine ⟨by first | omega | (simp only [Option.getD_none, Option.getD_some]; omega) | (simp; done) | (simp; omega), ?_⟩; conv => whnf)
        repeat' (first | (refine ⟨by first | omega | (simp only [Option.getD_none, Option.getD_some]; omega) | (simp; done) | (simp; omega), ?_⟩; conv => whnf) | (refine .inr (.inl ⟨_, hst, ?_⟩); conv => whnf) | (refine .inl (.inr (.inl ⟨_, hst, ?_⟩)); conv => whnf) | (refine .inr (.inl ⟨_, hst8, ?_⟩); conv => whnf) | (refine .inl (.inr (.inl ⟨_, hst8, ?_⟩)); conv => whnf) | (refine .inl ⟨_, hsame, ?_⟩; conv => whnf) | (refine .inl (.inl ⟨_, hsame, ?_⟩); conv => whnf) | (refine And.intro ?_ ?_ <;> conv => whnf) | exact rfl)
      conv => whnf
      repeat (refine ⟨by first | omega | (simp only [Option.getD_none, Option.getD_some]; omega) | (simp; done) | (simp; omega), ?_⟩; conv => whnf)
      first | exact .inl rfl | exact .inr rfl
  · skip
    conv => whnf
    repeat (refine ⟨by first | omega | (simp only [Option.getD_none, Option.getD_some]; omega) | (simp; done) | (simp; omega), ?_⟩; conv => whnf)
    first | refine .inl ⟨_, ho1, ?_⟩ | refine .inl (.inl ⟨_, ho1, ?_⟩)
    conv => whnf
    repeat (refine ⟨by first | omega | (simp only [Option.getD_none, Option.getD_some]; omega) | (simp; done) | (simp; omega), ?_⟩; conv => whnf)
    first | refine .inl ⟨_, ho2, ?_⟩ | refine .inl (.inl ⟨_, ho2, ?_⟩)
    conv => whnf
    repeat (refine ⟨by first | omega | (simp only [Option.getD_none, Option.getD_some]; omega) | (simp; done) | (simp; omega), ?_⟩; conv => whnf)
    refine ncaseb (fun h => absurd h (by simp)) (fun _ => ?_)
    conv => whnf
    repeat (refine ⟨by first | omega | (simp only [Option.getD_none, Option.getD_some]; omega) | (simp; done) | (simp; omega), ?_⟩; conv => whnf)
    first | refine .inl ⟨_, hsame2, ?_⟩ | refine .inl (.inl ⟨_, hsame2, ?_⟩)
    conv => whnf
    repeat (refine ⟨by first | omega | (simp only [Option.getD_none, Option.getD_some]; omega) | (simp; done) | (simp; omega), ?_⟩; conv => whnf)
    refine dcase (fun h => absurd rfl h) (fun _ => ?_)
    conv => whnf
    repeat (refine ⟨by first | omega | (simp only [Option.getD_none, Option.getD_some]; omega) | (simp; done) | (simp; omega), ?_⟩; conv => whnf)
    first | refine .inl ⟨_, hIn, ?_⟩ | refine .inl (.inl ⟨_, hIn, ?_⟩)
    conv => whnf
    repeat (refine ⟨by first | omega | (simp only [Option.getD_none, Option.getD_some]; omega) | (simp; done) | (simp; omega), ?_⟩; conv => whnf)
    refine ncaseb (fun h => absurd h (by simp)) (fun _ => ?_)
    conv => whnf
    repeat (refine ⟨by first | omega | (simp only [Option.getD_none, Option.getD_some]; omega) | (simp; done) | (simp; omega), ?_⟩; conv => whnf)
    refine ⟨p_hazellaw08_MsqTells_14, g_hazellaw08_MsqTells_14, by kernel_rfl, ?st3, ?_, ?_⟩
    rotate_left
    · skip
      conv => whnf
      repeat (refine ⟨by first | omega | (simp only [Option.getD_none, Option.getD_some]; omega) | (simp; done) | (simp; omega), ?_⟩; conv => whnf)
      repeat' (first | (refine ⟨by first | omega | (simp only [Option.getD_none, Option.getD_some]; omega) | (simp; done) | (simp; omega), ?_⟩; conv => whnf) | (refine .inr (.inl ⟨_, hst, ?_⟩); conv => whnf) | (refine .inl (.inr (.inl ⟨_, hst, ?_⟩)); conv => whnf) | (refine .inr (.inl ⟨_, hst8, ?_⟩); conv => whnf) | (refine .inl (.inr (.inl ⟨_, hst8, ?_⟩)); conv => whnf) | (refine .inl ⟨_, hsame, ?_⟩; conv => whnf) | (refine .inl (.inl ⟨_, hsame, ?_⟩); conv => whnf) | (refine And.intro ?_ ?_ <;> conv => whnf) | exact rfl)
    conv => whnf
    repeat (refine ⟨by first | omega | (simp only [Option.getD_none, Option.getD_some]; omega) | (simp; done) | (simp; omega), ?_⟩; conv => whnf)
    first | exact .inl rfl | exact .inr rfl
theorem s_MsqTellsA (y : Den (.cons tSys tR3)) : Spec Tryz.prog 3 [.agg (flat (.cons tSys tR3) y)] (vB true) := s_MsqTells y.1 y.2.1 y.2.2.1 y.2.2.2.1
end Go.Proofs.YtpobngddiifdpaaGreat.V
