/- Queues: a step, the program. -/
import Derived.Test.YtpobngddiifdpaaGreatZdQ5
import Derived.Test.YtpobngddiifdpaaGreatZdQ4c
set_option linter.unusedSimpArgs false
set_option linter.unusedVariables false
namespace Go.Proofs.YtpobngddiifdpaaGreat.V
open Go Go.RowKit Go.Proofs.YtpobngddiifdpaaGreat.Hz
set_option maxRecDepth 100000

section
variable (s : Sy) (k pc q v n t w x e y : Int) (r : Den (.cons tI (.cons tI (.cons tI .nil)))) (l : Li) (h0 : 0 ≤ q) (h1 : q ≤ 7) (hf : Fine s) (hk0 : 0 ≤ k) (hk1 : k < s.2.1.length)
include h0 h1 hf hk0 hk1
theorem s_mPut (ht : topI s k = some (9, pc, (q, v, n, t, w, r), l, ())) : Spec Tryz.prog 27 [vS s, vI k] (vS (putS s k pc q v n t w r l)) := by
  by_cases c0 : pc = 0
  · subst c0
    exact s_mPut_0 s k q v n t w r l ht h0 h1 hf
  by_cases c1 : pc = 1
  · subst c1
    by_cases hE : coE s k ≠ 0
    · exact s_mPut_1a s k q v n t w r l ht h0 h1 hf hk0 hk1 hE
    · exact s_mPut_1b s k q v n t w r l ht h0 h1 hf hk0 hk1 hE
  by_cases c2 : pc = 2
  · subst c2
    exact s_mPut_2 s k q v n t w r l ht h0 h1 hf
  by_cases c3 : pc = 3
  · subst c3
    exact s_mPut_3 s k q v n t w r l ht h0 h1 hf
  by_cases c4 : pc = 4
  · subst c4
    exact s_mPut_4 s k q v n t w r l ht h0 h1 hf
  by_cases c5 : pc = 5
  · subst c5
    exact s_mPut_5 s k q v n t w r l ht h0 h1 hf
  by_cases c6 : pc = 6
  · subst c6
    exact s_mPut_6 s k q v n t w r l ht h0 h1 hf hk0 hk1
  by_cases c7 : pc = 7
  · subst c7
    by_cases hE : idxI (loadI s.1 (atI (idxI t) 1)) = 0
    · exact s_mPut_7a s k q v n t w r l ht h0 h1 hf hE
    · exact s_mPut_7b s k q v n t w r l ht h0 h1 hf hE
  by_cases c8 : pc = 8
  · subst c8
    exact s_mPut_8 s k q v n t w r l ht h0 h1 hf
  by_cases c9 : pc = 9
  · subst c9
    cases hE : casB s.1 (atI (idxI t) 1) w with
    | true => exact s_mPut_9a s k q v n t w r l ht h0 h1 hf hE
    | false => exact s_mPut_9b s k q v n t w r l ht h0 h1 hf hE
  by_cases c10 : pc = 10
  · subst c10
    exact s_mPut_10 s k q v n t w r l ht h0 h1 hf
  by_cases c11 : pc = 11
  · subst c11
    exact s_mPut_11 s k q v n t w r l ht h0 h1 hf
  rw [show putS s k pc q v n t w r l = s from ((if_neg c0).trans ((if_neg c1).trans ((if_neg c2).trans ((if_neg c3).trans ((if_neg c4).trans ((if_neg c5).trans ((if_neg c6).trans ((if_neg c7).trans ((if_neg c8).trans ((if_neg c9).trans ((if_neg c10).trans ((if_neg c11).trans (rfl)))))))))))))]
  have hq := s_isQueue q
  rw [decide_eq_true h0, decide_eq_true (Int.lt_of_le_of_lt h1 (by decide))] at hq
  refine spec_introF true tab_ok 5 Tryz.func27 rfl (by kernel_rfl) rfl ?_
  conv => whnf
  first | refine .inr (.inl ⟨_, s_topOf ht hf, ?_⟩) | refine .inl (.inr (.inl ⟨_, s_topOf ht hf, ?_⟩))
  conv => whnf
  repeat (refine ⟨by first | omega | (simp only [Option.getD_none, Option.getD_some]; omega) | (simp; done) | (simp; omega), ?_⟩; conv => whnf)
  refine .inr ⟨_, _, 300, Tryz.func74, ⟨by kernel_rfl, rfl⟩, ?_⟩
  conv => whnf
  repeat (refine ⟨by first | omega | (simp only [Option.getD_none, Option.getD_some]; omega) | (simp; done) | (simp; omega), ?_⟩; conv => whnf)
  refine .inr ⟨_, _, 400, Tryz.func75, ⟨by kernel_rfl, rfl⟩, ?_⟩
  conv => whnf
  repeat (refine ⟨by first | omega | (simp only [Option.getD_none, Option.getD_some]; omega) | (simp; done) | (simp; omega), ?_⟩; conv => whnf)
  refine .inl (.inl ⟨_, hq, ?_⟩)
  conv => whnf
  repeat (refine ⟨by first | omega | (simp only [Option.getD_none, Option.getD_some]; omega) | (simp; done) | (simp; omega), ?_⟩; conv => whnf)
  refine dcase (fun _ => ?_) (fun hlo => ?_)
  · skip
    conv => whnf
    repeat (refine ⟨by first | omega | (simp only [Option.getD_none, Option.getD_some]; omega) | (simp; done) | (simp; omega), ?_⟩; conv => whnf)
    first | exact .inl rfl | exact .inr rfl
  conv => whnf
  repeat (refine ⟨by first | omega | (simp only [Option.getD_none, Option.getD_some]; omega) | (simp; done) | (simp; omega), ?_⟩; conv => whnf)
  refine dcase (fun _ => ?_) (fun hhi => ?_)
  · skip
    conv => whnf
    repeat (refine ⟨by first | omega | (simp only [Option.getD_none, Option.getD_some]; omega) | (simp; done) | (simp; omega), ?_⟩; conv => whnf)
    first | exact .inl rfl | exact .inr rfl
  exfalso
  replace hlo : ¬ pc < 0 := hlo
  replace hhi : ¬ (12 : Int) ≤ pc := hhi
  omega
theorem s_mTake (ht : topI s k = some (10, pc, (q, v, n, t, w, x, e, y, ()), l, ())) : Spec Tryz.prog 27 [vS s, vI k] (vS (takeS s k pc q v n t w x e y l)) := by
  by_cases c0 : pc = 0
  · subst c0
    exact s_mTake_0 s k q v n t w x e y l ht h0 h1 hf
  by_cases c1 : pc = 1
  · subst c1
    exact s_mTake_1 s k q v n t w x e y l ht h0 h1 hf hk0 hk1
  by_cases c2 : pc = 2
  · subst c2
    exact s_mTake_2 s k q v n t w x e y l ht h0 h1 hf
  by_cases c3 : pc = 3
  · subst c3
    by_cases hE : idxI (loadI s.1 (atI (idxI n) 1)) = 0
    · exact s_mTake_3a s k q v n t w x e y l ht h0 h1 hf hE
    · by_cases hT : idxI n = idxI t
      · exact s_mTake_3b s k q v n t w x e y l ht h0 h1 hf hE hT
      · exact s_mTake_3c s k q v n t w x e y l ht h0 h1 hf hE hT
  by_cases c4 : pc = 4
  · subst c4
    exact s_mTake_4 s k q v n t w x e y l ht h0 h1 hf
  by_cases c5 : pc = 5
  · subst c5
    exact s_mTake_5 s k q v n t w x e y l ht h0 h1 hf
  by_cases c6 : pc = 6
  · subst c6
    by_cases hE : loadI s.1 (32 + 2 * q) = n
    · exact s_mTake_6b s k q v n t w x e y l ht h0 h1 hf hE
    · exact s_mTake_6a s k q v n t w x e y l ht h0 h1 hf hE
  by_cases c7 : pc = 7
  · subst c7
    exact s_mTake_7 s k q v n t w x e y l ht h0 h1 hf
  by_cases c8 : pc = 8
  · subst c8
    cases hE : casB s.1 (32 + 2 * q) n with
    | true => exact s_mTake_8a s k q v n t w x e y l ht h0 h1 hf hE
    | false => exact s_mTake_8b s k q v n t w x e y l ht h0 h1 hf hE
  by_cases c9 : pc = 9
  · subst c9
    exact s_mTake_9 s k q v n t w x e y l ht h0 h1 hf
  by_cases c10 : pc = 10
  · subst c10
    exact s_mTake_10 s k q v n t w x e y l ht h0 h1 hf
  rw [show takeS s k pc q v n t w x e y l = s from ((if_neg c0).trans ((if_neg c1).trans ((if_neg c2).trans ((if_neg c3).trans ((if_neg c4).trans ((if_neg c5).trans ((if_neg c6).trans ((if_neg c7).trans ((if_neg c8).trans ((if_neg c9).trans ((if_neg c10).trans (rfl))))))))))))]
  have hq := s_isQueue q
  rw [decide_eq_true h0, decide_eq_true (Int.lt_of_le_of_lt h1 (by decide))] at hq
  refine spec_introF true tab_ok 5 Tryz.func27 rfl (by kernel_rfl) rfl ?_
  conv => whnf
  first | refine .inr (.inl ⟨_, s_topOf ht hf, ?_⟩) | refine .inl (.inr (.inl ⟨_, s_topOf ht hf, ?_⟩))
  conv => whnf
  repeat (refine ⟨by first | omega | (simp only [Option.getD_none, Option.getD_some]; omega) | (simp; done) | (simp; omega), ?_⟩; conv => whnf)
  refine .inr ⟨_, _, 300, Tryz.func74, ⟨by kernel_rfl, rfl⟩, ?_⟩
  conv => whnf
  repeat (refine ⟨by first | omega | (simp only [Option.getD_none, Option.getD_some]; omega) | (simp; done) | (simp; omega), ?_⟩; conv => whnf)
  refine .inr ⟨_, _, 400, Tryz.func75, ⟨by kernel_rfl, rfl⟩, ?_⟩
  conv => whnf
  repeat (refine ⟨by first | omega | (simp only [Option.getD_none, Option.getD_some]; omega) | (simp; done) | (simp; omega), ?_⟩; conv => whnf)
  refine .inl (.inl ⟨_, hq, ?_⟩)
  conv => whnf
  repeat (refine ⟨by first | omega | (simp only [Option.getD_none, Option.getD_some]; omega) | (simp; done) | (simp; omega), ?_⟩; conv => whnf)
  refine dcase (fun _ => ?_) (fun hlo => ?_)
  · skip
    conv => whnf
    repeat (refine ⟨by first | omega | (simp only [Option.getD_none, Option.getD_some]; omega) | (simp; done) | (simp; omega), ?_⟩; conv => whnf)
    first | exact .inl rfl | exact .inr rfl
  conv => whnf
  repeat (refine ⟨by first | omega | (simp only [Option.getD_none, Option.getD_some]; omega) | (simp; done) | (simp; omega), ?_⟩; conv => whnf)
  refine dcase (fun _ => ?_) (fun hhi => ?_)
  · skip
    conv => whnf
    repeat (refine ⟨by first | omega | (simp only [Option.getD_none, Option.getD_some]; omega) | (simp; done) | (simp; omega), ?_⟩; conv => whnf)
    first | exact .inl rfl | exact .inr rfl
  exfalso
  replace hlo : ¬ pc < 0 := hlo
  replace hhi : ¬ (11 : Int) ≤ pc := hhi
  omega
end
/-- A step of a core, of layers 1 to 8. -/
theorem s_mStep8 {N : Nat} (s : Sy) (k : Int) (hf : Fin N s) (hN : N ≤ 900000) : Spec Tryz.prog 27 [vS s, vI k] (vS (msqS s k)) := by
  have h7 := s_alStep s k hf hN
  have hfi := hf.fine hN
  cases ht : topI s k with
  | none =>
    rw [msqS_none ht]
    have hT := s_cTop s k (fun c hc => Nat.le_trans (hfi.frames c hc) (by decide))
    rw [ht] at hT
    refine spec_introF true tab_ok 0 Tryz.func27 rfl (by kernel_rfl) rfl ?_
    conv => whnf
    first | refine .inr (.inl ⟨_, hT, ?_⟩) | refine .inl (.inr (.inl ⟨_, hT, ?_⟩))
    conv => whnf
    repeat (refine ⟨by first | omega | (simp only [Option.getD_none, Option.getD_some]; omega) | (simp; done) | (simp; omega), ?_⟩; conv => whnf)
    first | refine .inr (.inl ⟨_, h7, ?_⟩) | refine .inl (.inr (.inl ⟨_, h7, ?_⟩))
    conv => whnf
    repeat (refine ⟨by first | omega | (simp only [Option.getD_none, Option.getD_some]; omega) | (simp; done) | (simp; omega), ?_⟩; conv => whnf)
    first | exact .inl rfl | exact .inr rfl
  | some f =>
    obtain ⟨op, pc, ⟨q, v, n, t, w, x, e, y, u1⟩, l, u2⟩ := f
    obtain rfl : u2 = () := rfl
    obtain rfl : u1 = () := rfl
    have hi := topI_some ht
    rw [msqS_some ht]
    show Spec Tryz.prog 27 [vS s, vI k] (vS (msqF s k op pc (q, v, n, t, w, x, e, y, ()) l))
    by_cases hop : op = 9 ∨ op = 10
    · by_cases hq : q < 0 ∨ 7 < q
      · rw [show msqF s k op pc (q, v, n, t, w, x, e, y, ()) l = s from (if_pos hop).trans (if_pos hq)]
        have hqq := s_isQueue q
        have hqf : (decide (0 ≤ q) && decide (q < 8)) = false := by
          rcases hq with h | h
          · rw [decide_eq_false (show ¬ 0 ≤ q from Int.not_le.2 h)]; rfl
          · rw [decide_eq_false (show ¬ q < 8 from Int.not_lt.2 h), Bool.and_false]
        rw [hqf] at hqq
        rcases hop with h | h <;> subst h
        · skip
          refine spec_introF true tab_ok 5 Tryz.func27 rfl (by kernel_rfl) rfl ?_
          conv => whnf
          first | refine .inr (.inl ⟨_, s_topOf ht hfi, ?_⟩) | refine .inl (.inr (.inl ⟨_, s_topOf ht hfi, ?_⟩))
          conv => whnf
          repeat (refine ⟨by first | omega | (simp only [Option.getD_none, Option.getD_some]; omega) | (simp; done) | (simp; omega), ?_⟩; conv => whnf)
          refine .inr ⟨_, _, 300, Tryz.func74, ⟨by kernel_rfl, rfl⟩, ?_⟩
          conv => whnf
          repeat (refine ⟨by first | omega | (simp only [Option.getD_none, Option.getD_some]; omega) | (simp; done) | (simp; omega), ?_⟩; conv => whnf)
          refine .inr ⟨_, _, 400, Tryz.func75, ⟨by kernel_rfl, rfl⟩, ?_⟩
          conv => whnf
          repeat (refine ⟨by first | omega | (simp only [Option.getD_none, Option.getD_some]; omega) | (simp; done) | (simp; omega), ?_⟩; conv => whnf)
          refine .inl (.inl ⟨_, hqq, ?_⟩)
          conv => whnf
          repeat (refine ⟨by first | omega | (simp only [Option.getD_none, Option.getD_some]; omega) | (simp; done) | (simp; omega), ?_⟩; conv => whnf)
          first | exact .inl rfl | exact .inr rfl
        · skip
          refine spec_introF true tab_ok 5 Tryz.func27 rfl (by kernel_rfl) rfl ?_
          conv => whnf
          first | refine .inr (.inl ⟨_, s_topOf ht hfi, ?_⟩) | refine .inl (.inr (.inl ⟨_, s_topOf ht hfi, ?_⟩))
          conv => whnf
          repeat (refine ⟨by first | omega | (simp only [Option.getD_none, Option.getD_some]; omega) | (simp; done) | (simp; omega), ?_⟩; conv => whnf)
          refine .inr ⟨_, _, 300, Tryz.func74, ⟨by kernel_rfl, rfl⟩, ?_⟩
          conv => whnf
          repeat (refine ⟨by first | omega | (simp only [Option.getD_none, Option.getD_some]; omega) | (simp; done) | (simp; omega), ?_⟩; conv => whnf)
          refine .inr ⟨_, _, 400, Tryz.func75, ⟨by kernel_rfl, rfl⟩, ?_⟩
          conv => whnf
          repeat (refine ⟨by first | omega | (simp only [Option.getD_none, Option.getD_some]; omega) | (simp; done) | (simp; omega), ?_⟩; conv => whnf)
          refine .inl (.inl ⟨_, hqq, ?_⟩)
          conv => whnf
          repeat (refine ⟨by first | omega | (simp only [Option.getD_none, Option.getD_some]; omega) | (simp; done) | (simp; omega), ?_⟩; conv => whnf)
          first | exact .inl rfl | exact .inr rfl
      · have hq0 : 0 ≤ q := Int.not_lt.1 fun h => hq (.inl h)
        have hq7 : q ≤ 7 := Int.not_lt.1 fun h => hq (.inr h)
        rcases hop with h | h <;> subst h
        · rw [show msqF s k 9 pc (q, v, n, t, w, x, e, y, ()) l = putS s k pc q v n t w (x, e, y, ()) l from (if_pos (.inl rfl)).trans ((if_neg hq).trans (if_pos rfl))]
          exact s_mPut s k pc q v n t w (x, e, y, ()) l hq0 hq7 hfi hi.1 hi.2.1 ht
        · rw [show msqF s k 10 pc (q, v, n, t, w, x, e, y, ()) l = takeS s k pc q v n t w x e y l from (if_pos (.inr rfl)).trans ((if_neg hq).trans (if_neg (by decide)))]
          exact s_mTake s k pc q v n t w x e y l hq0 hq7 hfi hi.1 hi.2.1 ht
    · rw [show msqF s k op pc (q, v, n, t, w, x, e, y, ()) l = alS s k from if_neg hop]
      have h9 : ¬ op = 9 := fun h => hop (.inl h)
      have h10 : ¬ op = 10 := fun h => hop (.inr h)
      refine spec_introF true tab_ok 0 Tryz.func27 rfl (by kernel_rfl) rfl ?_
      conv => whnf
      first | refine .inr (.inl ⟨_, s_topOf ht hfi, ?_⟩) | refine .inl (.inr (.inl ⟨_, s_topOf ht hfi, ?_⟩))
      conv => whnf
      repeat (refine ⟨by first | omega | (simp only [Option.getD_none, Option.getD_some]; omega) | (simp; done) | (simp; omega), ?_⟩; conv => whnf)
      refine dcase (fun _ => ?_) (fun h => absurd h9 h)
      conv => whnf
      repeat (refine ⟨by first | omega | (simp only [Option.getD_none, Option.getD_some]; omega) | (simp; done) | (simp; omega), ?_⟩; conv => whnf)
      refine dcase (fun _ => ?_) (fun h => absurd h10 h)
      conv => whnf
      repeat (refine ⟨by first | omega | (simp only [Option.getD_none, Option.getD_some]; omega) | (simp; done) | (simp; omega), ?_⟩; conv => whnf)
      first | refine .inr (.inl ⟨_, h7, ?_⟩) | refine .inl (.inr (.inl ⟨_, h7, ?_⟩))
      conv => whnf
      repeat (refine ⟨by first | omega | (simp only [Option.getD_none, Option.getD_some]; omega) | (simp; done) | (simp; omega), ?_⟩; conv => whnf)
      first | exact .inl rfl | exact .inr rfl
end Go.Proofs.YtpobngddiifdpaaGreat.V
