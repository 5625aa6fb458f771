/- AllocLower and AllocTells: the laws. -/
import Derived.Test.YtjeiopkfdgllhaaGreatR6
namespace Go.Proofs.YtjeiopkfdgllhaaGreat.V
open Go Go.RowKit Go.Proofs.YtjeiopkfdgllhaaGreat.Hz
set_option maxRecDepth 100000

theorem withS_L (s : Sy) (k : Int) (c : Cor) : (withS s k c).1 = s.1 ∧ (withS s k c).2.2.1 = s.2.2.1 := ⟨rfl, rfl⟩
theorem setS_L (s : Sy) (k : Int) (f : Frm) : (setS s k f).1 = s.1 ∧ (setS s k f).2.2.1 = s.2.2.1 := by unfold setS; split <;> exact ⟨rfl, rfl⟩
theorem backS_L (s : Sy) (k v e : Int) : (backS s k v e).1 = s.1 ∧ (backS s k v e).2.2.1 = s.2.2.1 := by unfold backS; split <;> exact ⟨rfl, rfl⟩
theorem callP_L (s : Sy) (k op a : Int) : (callP s k op a).1 = s.1 ∧ (callP s k op a).2.2.1 = s.2.2.1 := by unfold callP; split <;> exact ⟨rfl, rfl⟩
theorem thenS_L (s : Sy) (k op pc : Int) (r : R8) (l : Li) (o a : Int) : (thenS s k op pc r l o a).1 = s.1 ∧ (thenS s k op pc r l o a).2.2.1 = s.2.2.1 := by
  unfold thenS
  have h1 := callP_L (setS s k (op, wrap64 (pc + 1), r, l, ())) k o a
  have h2 := setS_L s k (op, wrap64 (pc + 1), r, l, ())
  exact ⟨h1.1.trans h2.1, h1.2.trans h2.2⟩
/-- The ops of layer 7 leave the memory and the log. -/
theorem al_L {s : Sy} {k op pc : Int} {r : R8} {l : Li} (h : op = 7 ∨ op = 8) : (allocF s k op pc r l).1 = s.1 ∧ (allocF s k op pc r l).2.2.1 = s.2.2.1 := by
  rcases h with h | h <;> subst h
  · show (allocS s k 7 pc r l).1 = s.1 ∧ (allocS s k 7 pc r l).2.2.1 = s.2.2.1
    unfold allocS
    split
    · exact thenS_L ..
    split
    · split
      · exact backS_L ..
      split
      · exact backS_L ..
      · exact thenS_L ..
    split
    · exact backS_L ..
    · exact ⟨rfl, rfl⟩
  · show (dropS s k pc r l).1 = s.1 ∧ (dropS s k pc r l).2.2.1 = s.2.2.1
    unfold dropS
    split
    · exact thenS_L ..
    split
    · exact backS_L ..
    · exact ⟨rfl, rfl⟩
theorem al_out {s : Sy} {k op pc : Int} {r : R8} {l : Li} (h : op < 1 ∨ 8 < op) : allocF s k op pc r l = s := by
  have n1 : ¬ op = 1 := by omega
  have n2 : ¬ op = 2 := by omega
  have n3 : ¬ op = 3 := by omega
  have n4 : ¬ op = 4 := by omega
  have n5 : ¬ op = 5 := by omega
  have n6 : ¬ op = 6 := by omega
  have n7 : ¬ op = 7 := by omega
  have n8 : ¬ op = 8 := by omega
  unfold allocF scanF
  rw [if_neg n7, if_neg n8, if_neg n1, if_neg n2, if_neg n3, if_neg n4, if_neg n5, if_neg n6]
theorem s_AllocLower (s : Sy) (id : Int) : Spec Tryz.prog 7 [vS s, vI id] (vB true) := by
  refine spec_introF true tab_ok 0 Tryz.func7 rfl (by kernel_rfl) rfl ?_
  conv => whnf
  first | refine .inl ⟨_, s_shown07, ?_⟩ | refine .inl (.inl ⟨_, s_shown07, ?_⟩)
  conv => whnf
  repeat (refine ⟨by first | omega | (simp only [Option.getD_none, Option.getD_some]; omega) | (simp; done) | (simp; omega), ?_⟩; conv => whnf)
  first | refine .inl ⟨_, s_refMay s 60 (by decide) (by decide), ?_⟩ | refine .inl (.inl ⟨_, s_refMay s 60 (by decide) (by decide), ?_⟩)
  conv => whnf
  repeat (refine ⟨by first | omega | (simp only [Option.getD_none, Option.getD_some]; omega) | (simp; done) | (simp; omega), ?_⟩; conv => whnf)
  refine ncaseb (fun h => ?_) (fun h => ?_)
  · skip
    conv => whnf
    repeat (refine ⟨by first | omega | (simp only [Option.getD_none, Option.getD_some]; omega) | (simp; done) | (simp; omega), ?_⟩; conv => whnf)
    first | exact .inl rfl | exact .inr rfl
  have hf := may_fin h
  have hft : Fin 201 (alS s id) := alS_fin hf
  have hst := s_alStep s id hf (by decide)
  have hst7 := s_refStep7 s id hf (by decide)
  cases ht : topI s id with
  | none =>
    rw [alS_none ht] at hst
    conv => whnf
    repeat (refine ⟨by first | omega | (simp only [Option.getD_none, Option.getD_some]; omega) | (simp; done) | (simp; omega), ?_⟩; conv => whnf)
    first | refine .inr (.inl ⟨_, s_refTopNo ht (hf.fine (by decide)), ?_⟩) | refine .inl (.inr (.inl ⟨_, s_refTopNo ht (hf.fine (by decide)), ?_⟩))
    conv => whnf
    repeat (refine ⟨by first | omega | (simp only [Option.getD_none, Option.getD_some]; omega) | (simp; done) | (simp; omega), ?_⟩; conv => whnf)
    first | refine .inr (.inl ⟨_, hst, ?_⟩) | refine .inl (.inr (.inl ⟨_, hst, ?_⟩))
    conv => whnf
    repeat (refine ⟨by first | omega | (simp only [Option.getD_none, Option.getD_some]; omega) | (simp; done) | (simp; omega), ?_⟩; conv => whnf)
    first | refine .inl ⟨_, s_refSame s hf (by decide), ?_⟩ | refine .inl (.inl ⟨_, s_refSame s hf (by decide), ?_⟩)
    conv => whnf
    repeat (refine ⟨by first | omega | (simp only [Option.getD_none, Option.getD_some]; omega) | (simp; done) | (simp; omega), ?_⟩; conv => whnf)
    first | exact .inl rfl | exact .inr rfl
  | some f =>
    obtain ⟨op, pc, r, l, u⟩ := f
    obtain rfl : u = () := rfl
    have hsame := s_refSame (alS s id) hft (by decide)
    rw [alS_some ht] at hst hst7 hsame
    conv => whnf
    repeat (refine ⟨by first | omega | (simp only [Option.getD_none, Option.getD_some]; omega) | (simp; done) | (simp; omega), ?_⟩; conv => whnf)
    first | refine .inr (.inl ⟨_, s_refTopOf ht (hf.fine (by decide)), ?_⟩) | refine .inl (.inr (.inl ⟨_, s_refTopOf ht (hf.fine (by decide)), ?_⟩))
    conv => whnf
    repeat (refine ⟨by first | omega | (simp only [Option.getD_none, Option.getD_some]; omega) | (simp; done) | (simp; omega), ?_⟩; conv => whnf)
    have out : op < 1 ∨ 8 < op → Spec Tryz.prog 17 [vS (allocF s id op pc r l), vS s] (vB true) := fun e => by
      rw [al_out e]
      exact s_refSame s hf (by decide)
    have hin : op = 7 ∨ op = 8 → (allocF s id op pc r l).1 = s.1 ∧ (allocF s id op pc r l).2.2.1 = s.2.2.1 := al_L
    have hm : Spec Tryz.prog 39 [vM s.1, vM s.1] (vB true) := by
      have h := s_refSameM s.1 s.1 (by have := hf.fits.1; have := hf.fits.2; omega) (by have := hf.fits.2; omega)
      have e : sameM s.1 s.1 = true := by unfold sameM; rw [sameB_yes rfl, sameB_yes rfl]; simp
      rw [e] at h
      exact h
    generalize allocF s id op pc r l = t at *
    first | refine .inr (.inl ⟨_, hst, ?_⟩) | refine .inl (.inr (.inl ⟨_, hst, ?_⟩))
    conv => whnf
    repeat (refine ⟨by first | omega | (simp only [Option.getD_none, Option.getD_some]; omega) | (simp; done) | (simp; omega), ?_⟩; conv => whnf)
    refine dcase (fun h1 => ?_) (fun h1 => ?_)
    · skip
      conv => whnf
      repeat (refine ⟨by first | omega | (simp only [Option.getD_none, Option.getD_some]; omega) | (simp; done) | (simp; omega), ?_⟩; conv => whnf)
      first | refine .inl ⟨_, out (.inl h1), ?_⟩ | refine .inl (.inl ⟨_, out (.inl h1), ?_⟩)
      conv => whnf
      repeat (refine ⟨by first | omega | (simp only [Option.getD_none, Option.getD_some]; omega) | (simp; done) | (simp; omega), ?_⟩; conv => whnf)
      first | exact .inl rfl | exact .inr rfl
    conv => whnf
    repeat (refine ⟨by first | omega | (simp only [Option.getD_none, Option.getD_some]; omega) | (simp; done) | (simp; omega), ?_⟩; conv => whnf)
    refine dcase (fun h2 => ?_) (fun h2 => ?_)
    · skip
      conv => whnf
      repeat (refine ⟨by first | omega | (simp only [Option.getD_none, Option.getD_some]; omega) | (simp; done) | (simp; omega), ?_⟩; conv => whnf)
      first | refine .inl ⟨_, out (.inr h2), ?_⟩ | refine .inl (.inl ⟨_, out (.inr h2), ?_⟩)
      conv => whnf
      repeat (refine ⟨by first | omega | (simp only [Option.getD_none, Option.getD_some]; omega) | (simp; done) | (simp; omega), ?_⟩; conv => whnf)
      first | exact .inl rfl | exact .inr rfl
    have two : op = 7 ∨ op = 8 → Spec Tryz.prog 39 [vM t.1, vM s.1] (vB true) ∧ t.2.2.1 = s.2.2.1 := fun e => by
      obtain ⟨e1, e2⟩ := hin e
      rw [e1]
      exact ⟨hm, e2⟩
    conv => whnf
    repeat (refine ⟨by first | omega | (simp only [Option.getD_none, Option.getD_some]; omega) | (simp; done) | (simp; omega), ?_⟩; conv => whnf)
    refine dcase (fun h3 => ?_) (fun h3 => ?_)
    · obtain ⟨k1, k2⟩ := two (.inl h3)
      conv => whnf
      repeat (refine ⟨by first | omega | (simp only [Option.getD_none, Option.getD_some]; omega) | (simp; done) | (simp; omega), ?_⟩; conv => whnf)
      first | refine .inl ⟨_, k1, ?_⟩ | refine .inl (.inl ⟨_, k1, ?_⟩)
      conv => whnf
      repeat (refine ⟨by first | omega | (simp only [Option.getD_none, Option.getD_some]; omega) | (simp; done) | (simp; omega), ?_⟩; conv => whnf)
      refine .inl (congrArg vB (decide_eq_true ?_))
      rw [k2]
    conv => whnf
    repeat (refine ⟨by first | omega | (simp only [Option.getD_none, Option.getD_some]; omega) | (simp; done) | (simp; omega), ?_⟩; conv => whnf)
    refine dcase (fun h4 => ?_) (fun h4 => ?_)
    · obtain ⟨k1, k2⟩ := two (.inr h4)
      conv => whnf
      repeat (refine ⟨by first | omega | (simp only [Option.getD_none, Option.getD_some]; omega) | (simp; done) | (simp; omega), ?_⟩; conv => whnf)
      first | refine .inl ⟨_, k1, ?_⟩ | refine .inl (.inl ⟨_, k1, ?_⟩)
      conv => whnf
      repeat (refine ⟨by first | omega | (simp only [Option.getD_none, Option.getD_some]; omega) | (simp; done) | (simp; omega), ?_⟩; conv => whnf)
      refine .inl (congrArg vB (decide_eq_true ?_))
      rw [k2]
    conv => whnf
    repeat (refine ⟨by first | omega | (simp only [Option.getD_none, Option.getD_some]; omega) | (simp; done) | (simp; omega), ?_⟩; conv => whnf)
    refine ⟨p_hazellaw07_AllocLower_10, g_hazellaw07_AllocLower_10, by kernel_rfl, ?st1, ?_, ?_⟩
    rotate_left
    · skip
      conv => whnf
      repeat (refine ⟨by first | omega | (simp only [Option.getD_none, Option.getD_some]; omega) | (simp; done) | (simp; omega), ?_⟩; conv => whnf)
      repeat' (first | (refine ⟨by first | omega | (simp only [Option.getD_none, Option.getD_some]; omega) | (simp; done) | (simp; omega), ?_⟩; conv => whnf) | (refine .inr (.inl ⟨_, hst7, ?_⟩); conv => whnf) | (refine .inl (.inr (.inl ⟨_, hst7, ?_⟩)); conv => whnf) | (refine .inl ⟨_, hsame, ?_⟩; conv => whnf) | (refine .inl (.inl ⟨_, hsame, ?_⟩); conv => whnf) | (refine And.intro ?_ ?_ <;> conv => whnf) | exact rfl)
    conv => whnf
    repeat (refine ⟨by first | omega | (simp only [Option.getD_none, Option.getD_some]; omega) | (simp; done) | (simp; omega), ?_⟩; conv => whnf)
    first | exact .inl rfl | exact .inr rfl
/-- What AllocTells is asked of. -/
abbrev vAT (s : Sy) (id op c n : Int) : SV := .agg [.sl tI s.1.1 false, .sl tI s.1.2.1 false, .bool s.1.2.2.1, .sl tCore s.2.1 false, .sl tEv s.2.2.1 false, .int .i64 id, .int .i64 op, .int .i64 c, .int .i64 n]
theorem s_AllocTells (s : Sy) (id op c n : Int) : Spec Tryz.prog 4 [vAT s id op c n] (vB true) := by
  obtain ⟨b, hb⟩ : ∃ b, ownB 1 8 op = b := ⟨_, rfl⟩
  have ho1 := s_allocOwn op
  have ho2 := s_refOwn7 op
  rw [hb] at ho1 ho2
  clear hb
  obtain ⟨p, e, hp1, hp2, hpp, he⟩ : ∃ (p : Sy) (e : Int), Spec Tryz.prog 23 [vI c, vI n] (vSI p e) ∧ Spec Tryz.prog 24 [vI c, vI n] (vSI p e) ∧ Spec Tryz.prog 17 [vS p, vS p] (vB true) ∧ (e = 0 ∨ e = 1) := by
    by_cases h : 1 ≤ n ∧ n ≤ 200 ∧ 1 ≤ c ∧ c ≤ 8
    · obtain ⟨h1, h2, c1, c2⟩ := h
      exact ⟨newF c n, 0, s_Start c n h1 h2 c1 c2, s_refStart c n h1 h2 c1 c2, s_refSame _ (newF_fin h1 h2 c2) (by decide), .inl rfl⟩
    · exact ⟨dflt tSys, 1, s_StartBad c n h, s_refStartBad c n h, s_refSameB (dflt tSys) (by decide) (by decide) (by decide) (fun c hc => nomatch hc) (by decide), .inr rfl⟩
  refine spec_introF false tab_ok 0 Tryz.func4 rfl (by kernel_rfl) rfl ?_
  conv => whnf
  repeat (refine ⟨by first | omega | (simp only [Option.getD_none, Option.getD_some]; omega) | (simp; done) | (simp; omega), ?_⟩; conv => whnf)
  first | refine .inl ⟨_, s_shown07, ?_⟩ | refine .inl (.inl ⟨_, s_shown07, ?_⟩)
  conv => whnf
  repeat (refine ⟨by first | omega | (simp only [Option.getD_none, Option.getD_some]; omega) | (simp; done) | (simp; omega), ?_⟩; conv => whnf)
  first | refine .inl ⟨_, s_refMay s 60 (by decide) (by decide), ?_⟩ | refine .inl (.inl ⟨_, s_refMay s 60 (by decide) (by decide), ?_⟩)
  conv => whnf
  repeat (refine ⟨by first | omega | (simp only [Option.getD_none, Option.getD_some]; omega) | (simp; done) | (simp; omega), ?_⟩; conv => whnf)
  refine ncaseb (fun h => ?_) (fun h => ?_)
  · skip
    conv => whnf
    repeat (refine ⟨by first | omega | (simp only [Option.getD_none, Option.getD_some]; omega) | (simp; done) | (simp; omega), ?_⟩; conv => whnf)
    first | exact .inl rfl | exact .inr rfl
  have hf := may_fin h
  have hft : Fin 201 (alS s id) := alS_fin hf
  have hst := s_alStep s id hf (by decide)
  have hst7 := s_refStep7 s id hf (by decide)
  have hsame := s_refSame (alS s id) hft (by decide)
  obtain ⟨_, ⟨⟨m1, m2, m3, m4, m5⟩, _⟩⟩ := may_is h
  have hg : s.1.2.1.length ≤ 1000000 := by omega
  have hz := placesN_zero m4 s.1.2.1.length (by omega)
  have hP := s_Parts s hg (by rw [hz]; exact Nat.succ_le_succ (Nat.zero_le _))
  have hQ := s_refParts s hg (by omega)
  rw [hz, placesN_one (x := 1) (by rw [m4]; decide), placesN_one (x := 2) (by rw [m4]; decide)] at hP
  rw [show List.drop 1 (0 :: places1 s.1.2.1 0 s.1.2.1.length) = places1 s.1.2.1 0 s.1.2.1.length from rfl] at hP
  have i0 := s_refIntsSame _ (Nat.le_trans (places1_len s.1.2.1 0 s.1.2.1.length) hg)
  have i1 := s_refIntsSame _ (Nat.le_trans (places1_len s.1.2.1 1 s.1.2.1.length) hg)
  have i2 := s_refIntsSame _ (Nat.le_trans (places1_len s.1.2.1 2 s.1.2.1.length) hg)
  generalize places1 s.1.2.1 0 s.1.2.1.length = A at *
  generalize places1 s.1.2.1 1 s.1.2.1.length = B at *
  generalize places1 s.1.2.1 2 s.1.2.1.length = D at *
  generalize alS s id = t at *
  conv => whnf
  repeat (refine ⟨by first | omega | (simp only [Option.getD_none, Option.getD_some]; omega) | (simp; done) | (simp; omega), ?_⟩; conv => whnf)
  first | refine .inr (.inl ⟨_, hP, ?_⟩) | refine .inl (.inr (.inl ⟨_, hP, ?_⟩))
  conv => whnf
  repeat (refine ⟨by first | omega | (simp only [Option.getD_none, Option.getD_some]; omega) | (simp; done) | (simp; omega), ?_⟩; conv => whnf)
  first | refine .inr (.inl ⟨_, hQ, ?_⟩) | refine .inl (.inr (.inl ⟨_, hQ, ?_⟩))
  conv => whnf
  repeat (refine ⟨by first | omega | (simp only [Option.getD_none, Option.getD_some]; omega) | (simp; done) | (simp; omega), ?_⟩; conv => whnf)
  first | refine .inr (.inl ⟨_, hp1, ?_⟩) | refine .inl (.inr (.inl ⟨_, hp1, ?_⟩))
  conv => whnf
  repeat (refine ⟨by first | omega | (simp only [Option.getD_none, Option.getD_some]; omega) | (simp; done) | (simp; omega), ?_⟩; conv => whnf)
  first | refine .inr (.inl ⟨_, hp2, ?_⟩) | refine .inl (.inr (.inl ⟨_, hp2, ?_⟩))
  conv => whnf
  repeat (refine ⟨by first | omega | (simp only [Option.getD_none, Option.getD_some]; omega) | (simp; done) | (simp; omega), ?_⟩; conv => whnf)
  first | refine .inl ⟨_, ho1, ?_⟩ | refine .inl (.inl ⟨_, ho1, ?_⟩)
  conv => whnf
  repeat (refine ⟨by first | omega | (simp only [Option.getD_none, Option.getD_some]; omega) | (simp; done) | (simp; omega), ?_⟩; conv => whnf)
  first | refine .inl ⟨_, ho2, ?_⟩ | refine .inl (.inl ⟨_, ho2, ?_⟩)
  conv => whnf
  repeat (refine ⟨by first | omega | (simp only [Option.getD_none, Option.getD_some]; omega) | (simp; done) | (simp; omega), ?_⟩; conv => whnf)
  refine ncaseb (fun h => absurd h (by simp)) (fun _ => ?_)
  conv => whnf
  repeat (refine ⟨by first | omega | (simp only [Option.getD_none, Option.getD_some]; omega) | (simp; done) | (simp; omega), ?_⟩; conv => whnf)
  first | refine .inl ⟨_, i0, ?_⟩ | refine .inl (.inl ⟨_, i0, ?_⟩)
  conv => whnf
  repeat (refine ⟨by first | omega | (simp only [Option.getD_none, Option.getD_some]; omega) | (simp; done) | (simp; omega), ?_⟩; conv => whnf)
  first | refine .inl ⟨_, i1, ?_⟩ | refine .inl (.inl ⟨_, i1, ?_⟩)
  conv => whnf
  repeat (refine ⟨by first | omega | (simp only [Option.getD_none, Option.getD_some]; omega) | (simp; done) | (simp; omega), ?_⟩; conv => whnf)
  first | refine .inl ⟨_, i2, ?_⟩ | refine .inl (.inl ⟨_, i2, ?_⟩)
  conv => whnf
  repeat (refine ⟨by first | omega | (simp only [Option.getD_none, Option.getD_some]; omega) | (simp; done) | (simp; omega), ?_⟩; conv => whnf)
  first | refine .inl ⟨_, hpp, ?_⟩ | refine .inl (.inl ⟨_, hpp, ?_⟩)
  conv => whnf
  repeat (refine ⟨by first | omega | (simp only [Option.getD_none, Option.getD_some]; omega) | (simp; done) | (simp; omega), ?_⟩; conv => whnf)
  rcases he with he | he
  · subst he
    conv => whnf
    repeat (refine ⟨by first | omega | (simp only [Option.getD_none, Option.getD_some]; omega) | (simp; done) | (simp; omega), ?_⟩; conv => whnf)
    refine ⟨p_hazellaw07_AllocTells_15, g_hazellaw07_AllocTells_15, by kernel_rfl, ?st2, ?_, ?_⟩
    rotate_left
    · skip
      conv => whnf
      repeat (refine ⟨by first | omega | (simp only [Option.getD_none, Option.getD_some]; omega) | (simp; done) | (simp; omega), ?_⟩; conv => whnf)
      repeat' (first | (refine ⟨by first | omega | (simp only [Option.getD_none, Option.getD_some]; omega) | (simp; done) | (simp; omega), ?_⟩; conv => whnf) | (refine .inr (.inl ⟨_, hst, ?_⟩); conv => whnf) | (refine .inl (.inr (.inl ⟨_, hst, ?_⟩)); conv => whnf) | (refine .inr (.inl ⟨_, hst7, ?_⟩); conv => whnf) | (refine .inl (.inr (.inl ⟨_, hst7, ?_⟩)); conv => whnf) | (refine .inl ⟨_, hsame, ?_⟩; conv => whnf) | (refine .inl (.inl ⟨_, hsame, ?_⟩); conv => whnf) | (refine And.intro ?_ ?_ <;> conv => whnf) | exact rfl)
    conv => whnf
    repeat (refine ⟨by first | omega | (simp only [Option.getD_none, Option.getD_some]; omega) | (simp; done) | (simp; omega), ?_⟩; conv => whnf)
    first | exact .inl rfl | exact .inr rfl
  · subst he
    conv => whnf
    repeat (refine ⟨by first | omega | (simp only [Option.getD_none, Option.getD_some]; omega) | (simp; done) | (simp; omega), ?_⟩; conv => whnf)
    refine ⟨p_hazellaw07_AllocTells_15, g_hazellaw07_AllocTells_15, by kernel_rfl, ?st3, ?_, ?_⟩
    rotate_left
    · skip
      conv => whnf
      repeat (refine ⟨by first | omega | (simp only [Option.getD_none, Option.getD_some]; omega) | (simp; done) | (simp; omega), ?_⟩; conv => whnf)
      repeat' (first | (refine ⟨by first | omega | (simp only [Option.getD_none, Option.getD_some]; omega) | (simp; done) | (simp; omega), ?_⟩; conv => whnf) | (refine .inr (.inl ⟨_, hst, ?_⟩); conv => whnf) | (refine .inl (.inr (.inl ⟨_, hst, ?_⟩)); conv => whnf) | (refine .inr (.inl ⟨_, hst7, ?_⟩); conv => whnf) | (refine .inl (.inr (.inl ⟨_, hst7, ?_⟩)); conv => whnf) | (refine .inl ⟨_, hsame, ?_⟩; conv => whnf) | (refine .inl (.inl ⟨_, hsame, ?_⟩); conv => whnf) | (refine And.intro ?_ ?_ <;> conv => whnf) | exact rfl)
    conv => whnf
    repeat (refine ⟨by first | omega | (simp only [Option.getD_none, Option.getD_some]; omega) | (simp; done) | (simp; omega), ?_⟩; conv => whnf)
    first | exact .inl rfl | exact .inr rfl
theorem s_AllocTellsA (y : Den (.cons tSys (.cons tI tR3))) : Spec Tryz.prog 4 [.agg (flat (.cons tSys (.cons tI tR3)) y)] (vB true) := s_AllocTells y.1 y.2.1 y.2.2.1 y.2.2.2.1 y.2.2.2.2.1
end Go.Proofs.YtjeiopkfdgllhaaGreat.V
