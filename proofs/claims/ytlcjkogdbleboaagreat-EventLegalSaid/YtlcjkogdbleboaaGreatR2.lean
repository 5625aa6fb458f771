/- The document's log and free list. -/
import Derived.Test.YtlcjkogdbleboaaGreatR1
set_option linter.unusedSimpArgs false
set_option linter.unusedVariables false
namespace Go.Proofs.YtlcjkogdbleboaaGreat.V
open Go Go.RowKit Go.Proofs.YtlcjkogdbleboaaGreat.Hz
set_option maxRecDepth 100000

theorem s_refLog (s : Sy) (k c kind a b v : Int) (hl : s.2.2.1.length ≤ 900000) : Spec Tryz.prog 179 [vS s, vI k, vE (c, kind, a, b, v, ())] (vS (logS s k kind a b v)) := by
  have no : ¬ (0 ≤ k ∧ k < s.2.1.length) → logS s k kind a b v = s := fun h => if_neg (by unfold isCoreB; rw [Bool.and_eq_true, decide_eq_true_eq, decide_eq_true_eq]; exact h)
  have yes : 0 ≤ k ∧ k < s.2.1.length → logS s k kind a b v = (s.1, s.2.1, List.append (α := Evt) s.2.2.1 [(k, kind, a, b, v, ())], ()) := fun h => if_pos (by unfold isCoreB; rw [Bool.and_eq_true, decide_eq_true_eq, decide_eq_true_eq]; exact h)
  refine spec_introF true tab_ok 0 Tryz.func179 rfl (by kernel_rfl) rfl ?_
  conv => whnf
  refine dcase (fun h => ?_) (fun h => ?_)
  · rw [no (by omega)]
    conv => whnf
    first | exact .inl rfl | exact .inr rfl
  conv => whnf
  refine dcase (fun h1 => ?_) (fun h1 => ?_)
  · rw [no (by omega)]
    conv => whnf
    first | exact .inl rfl | exact .inr rfl
  rw [yes (by omega)]
  conv => whnf
  repeat (refine ⟨by first | omega | (simp only [Option.getD_none, Option.getD_some]; omega) | (simp; done) | (simp; omega), ?_⟩; conv => whnf)
  refine ⟨p_hazelref03_Log_4, g_hazelref03_Log_4, by kernel_rfl, ?st1, ?_, ?_⟩
  rotate_left
  · conv => whnf
    repeat' (first | (refine ⟨by first | omega | (simp only [Option.getD_none, Option.getD_some]; omega) | (simp; done) | (simp; omega), ?_⟩; conv => whnf) | (refine ⟨Nat.le_trans (Nat.succ_le_succ hl) (le_most (by decide)), ?_⟩; conv => whnf) | (refine ⟨List.cons_ne_nil _ _, ?_⟩; conv => whnf) | (refine ⟨le_most (by omega), ?_⟩; conv => whnf) | (refine And.intro ?_ ?_ <;> conv => whnf) | exact rfl)
  conv => whnf
  first | exact .inl rfl | exact .inr rfl
theorem s_refPop0 (s : Sy) (k op : Int) (r : R8) (l : Li) (hf : Fine s) : Spec Tryz.prog 263 [vS s, vI k, vF (op, (0 : Int), r, l, ())] (vS (pop0 s k op r l)) := by
  have hb : ∀ v e, Spec Tryz.prog 175 [vS (logS (loadM s.1 0, s.2) k 9 0 0 0), vI k, vI v, vI e] (vS (backS (logS (loadM s.1 0, s.2) k 9 0 0 0) k v e)) := fun v e => s_refBack _ k v e (by erw [(logS_cores _ _ _ _ _ _).1]; exact hf.cores) (by erw [(logS_cores _ _ _ _ _ _).1]; exact hf.frames)
  have hg : s.1.2.1.length ≤ 1000000 := Nat.le_trans hf.fits.2 (by decide)
  obtain ⟨w, hw⟩ : ∃ w, loadI s.1 0 = w := ⟨_, rfl⟩
  have hL := s_refLoad s.1 0 hg
  have hp : pop0 s k op r l = if idxI w = 0 then backS (logS (loadM s.1 0, s.2) k 9 0 0 0) k 0 2 else setS (loadM s.1 0, s.2) k (op, (1 : Int), (w, r.2), l, ()) := by rw [← hw]; rfl
  rw [hw] at hL
  rw [hp]
  clear hp hw
  obtain ⟨i, hi⟩ : ∃ i, idxI w = i := ⟨_, rfl⟩
  have hI := s_refIndex w
  rw [hi] at hI
  rw [hi]
  clear hi
  refine spec_introF true tab_ok 0 Tryz.func263 rfl (by kernel_rfl) rfl ?_
  conv => whnf
  first | refine .inr (.inl ⟨_, hL, ?_⟩) | refine .inl (.inr (.inl ⟨_, hL, ?_⟩))
  conv => whnf
  repeat (refine ⟨by first | omega | (simp only [Option.getD_none, Option.getD_some]; omega) | (simp; done) | (simp; omega), ?_⟩; conv => whnf)
  first | refine .inl ⟨_, hI, ?_⟩ | refine .inl (.inl ⟨_, hI, ?_⟩)
  conv => whnf
  refine dcase (fun h => ?_) (fun h => ?_)
  · rw [if_pos h]
    conv => whnf
    first | refine .inr (.inl ⟨_, s_refMem s (loadM s.1 0), ?_⟩) | refine .inl (.inr (.inl ⟨_, s_refMem s (loadM s.1 0), ?_⟩))
    conv => whnf
    repeat (refine ⟨by first | omega | (simp only [Option.getD_none, Option.getD_some]; omega) | (simp; done) | (simp; omega), ?_⟩; conv => whnf)
    first | refine .inr (.inl ⟨_, s_refLog (loadM s.1 0, s.2) k 0 9 0 0 0 hf.log, ?_⟩) | refine .inl (.inr (.inl ⟨_, s_refLog (loadM s.1 0, s.2) k 0 9 0 0 0 hf.log, ?_⟩))
    conv => whnf
    repeat (refine ⟨by first | omega | (simp only [Option.getD_none, Option.getD_some]; omega) | (simp; done) | (simp; omega), ?_⟩; conv => whnf)
    first | refine .inr (.inl ⟨_, hb 0 2, ?_⟩) | refine .inl (.inr (.inl ⟨_, hb 0 2, ?_⟩))
    conv => whnf
    repeat (refine ⟨by first | omega | (simp only [Option.getD_none, Option.getD_some]; omega) | (simp; done) | (simp; omega), ?_⟩; conv => whnf)
    first | exact .inl rfl | exact .inr rfl
  · rw [if_neg h]
    conv => whnf
    repeat (refine ⟨by first | omega | (simp only [Option.getD_none, Option.getD_some]; omega) | (simp; done) | (simp; omega), ?_⟩; conv => whnf)
    first | refine .inr (.inl ⟨_, s_refOn s k op 0 1 (loadM s.1 0) (w, r.2) l hf.cores hf.frames, ?_⟩) | refine .inl (.inr (.inl ⟨_, s_refOn s k op 0 1 (loadM s.1 0) (w, r.2) l hf.cores hf.frames, ?_⟩))
    conv => whnf
    repeat (refine ⟨by first | omega | (simp only [Option.getD_none, Option.getD_some]; omega) | (simp; done) | (simp; omega), ?_⟩; conv => whnf)
    first | exact .inl rfl | exact .inr rfl
theorem s_refPop1 (s : Sy) (k op : Int) (r : R8) (l : Li) (hf : Fine s) : Spec Tryz.prog 263 [vS s, vI k, vF (op, (1 : Int), r, l, ())] (vS (popS s k op 1 r l)) := by
  have hg : s.1.2.1.length ≤ 1000000 := Nat.le_trans hf.fits.2 (by decide)
  rw [show popS s k op 1 r l = (setS (loadM s.1 (atI (idxI r.1) 0), s.2) k (op, (2 : Int), (r.1, loadI s.1 (atI (idxI r.1) 0), r.2.2), l, ())) from rfl]
  refine spec_introF true tab_ok 0 Tryz.func263 rfl (by kernel_rfl) rfl ?_
  conv => whnf
  repeat (refine ⟨by first | omega | (simp only [Option.getD_none, Option.getD_some]; omega) | (simp; done) | (simp; omega), ?_⟩; conv => whnf)
  first | refine .inl ⟨_, s_refIndex _, ?_⟩ | refine .inl (.inl ⟨_, s_refIndex _, ?_⟩)
  conv => whnf
  repeat (refine ⟨by first | omega | (simp only [Option.getD_none, Option.getD_some]; omega) | (simp; done) | (simp; omega), ?_⟩; conv => whnf)
  refine ⟨p_hazelref04_pop_10, g_hazelref04_pop_10, by kernel_rfl, ?st2, ?_, ?_⟩
  rotate_left
  · conv => whnf
    repeat' (first | (refine ⟨by first | omega | (simp only [Option.getD_none, Option.getD_some]; omega) | (simp; done) | (simp; omega), ?_⟩; conv => whnf) | (refine .inl ⟨_, s_refIndex _, ?_⟩; conv => whnf) | (refine .inl (.inl ⟨_, s_refIndex _, ?_⟩); conv => whnf) | (refine .inl ⟨_, s_refAt _ _, ?_⟩; conv => whnf) | (refine .inl (.inl ⟨_, s_refAt _ _, ?_⟩); conv => whnf) | (refine .inr (.inl ⟨_, s_refLoad s.1 _ hg, ?_⟩); conv => whnf) | (refine .inl (.inr (.inl ⟨_, s_refLoad s.1 _ hg, ?_⟩)); conv => whnf) | (refine .inr (.inl ⟨_, s_refOn s k op 1 2 (loadM s.1 (atI (idxI r.1) 0)) (r.1, loadI s.1 (atI (idxI r.1) 0), r.2.2) l hf.cores hf.frames, ?_⟩); conv => whnf) | (refine .inl (.inr (.inl ⟨_, s_refOn s k op 1 2 (loadM s.1 (atI (idxI r.1) 0)) (r.1, loadI s.1 (atI (idxI r.1) 0), r.2.2) l hf.cores hf.frames, ?_⟩)); conv => whnf) | (refine And.intro ?_ ?_ <;> conv => whnf) | exact rfl)
  conv => whnf
  repeat (refine ⟨by first | omega | (simp only [Option.getD_none, Option.getD_some]; omega) | (simp; done) | (simp; omega), ?_⟩; conv => whnf)
  first | refine .inr (.inl ⟨_, s_refOn s k op 1 2 (loadM s.1 (atI (idxI r.1) 0)) (r.1, loadI s.1 (atI (idxI r.1) 0), r.2.2) l hf.cores hf.frames, ?_⟩) | refine .inl (.inr (.inl ⟨_, s_refOn s k op 1 2 (loadM s.1 (atI (idxI r.1) 0)) (r.1, loadI s.1 (atI (idxI r.1) 0), r.2.2) l hf.cores hf.frames, ?_⟩))
  conv => whnf
  repeat (refine ⟨by first | omega | (simp only [Option.getD_none, Option.getD_some]; omega) | (simp; done) | (simp; omega), ?_⟩; conv => whnf)
  first | exact .inl rfl | exact .inr rfl
theorem s_refPop2 (s : Sy) (k op : Int) (r : R8) (l : Li) (hf : Fine s) : Spec Tryz.prog 263 [vS s, vI k, vF (op, (2 : Int), r, l, ())] (vS (pop2 s k op r l)) := by
  unfold pop2
  refine spec_introF true tab_ok 0 Tryz.func263 rfl (by kernel_rfl) rfl ?_
  conv => whnf
  repeat (refine ⟨by first | omega | (simp only [Option.getD_none, Option.getD_some]; omega) | (simp; done) | (simp; omega), ?_⟩; conv => whnf)
  first | refine .inl ⟨_, s_refIndex _, ?_⟩ | refine .inl (.inl ⟨_, s_refIndex _, ?_⟩)
  conv => whnf
  repeat (refine ⟨by first | omega | (simp only [Option.getD_none, Option.getD_some]; omega) | (simp; done) | (simp; omega), ?_⟩; conv => whnf)
  refine ⟨p_hazelref04_pop_15, g_hazelref04_pop_15, by kernel_rfl, ?st3, ?_, ?_⟩
  rotate_left
  · conv => whnf
    repeat' (first | (refine ⟨by first | omega | (simp only [Option.getD_none, Option.getD_some]; omega) | (simp; done) | (simp; omega), ?_⟩; conv => whnf) | (refine .inl ⟨_, s_refNext _ _ _, ?_⟩; conv => whnf) | (refine .inl (.inl ⟨_, s_refNext _ _ _, ?_⟩); conv => whnf) | (refine .inr (.inl ⟨_, s_refCas s.1 0 r.1 (popN r) hf.fits, ?_⟩); conv => whnf) | (refine .inl (.inr (.inl ⟨_, s_refCas s.1 0 r.1 (popN r) hf.fits, ?_⟩)); conv => whnf) | (refine And.intro ?_ ?_ <;> conv => whnf) | exact rfl)
  conv => whnf
  refine ncaseb (fun h => ?_) (fun h => ?_)
  · rw [h]
    conv => whnf
    first | refine .inr (.inl ⟨_, s_refOn s k op 2 0 (casM s.1 0 r.1 (popN r)) r l hf.cores hf.frames, ?_⟩) | refine .inl (.inr (.inl ⟨_, s_refOn s k op 2 0 (casM s.1 0 r.1 (popN r)) r l hf.cores hf.frames, ?_⟩))
    conv => whnf
    repeat (refine ⟨by first | omega | (simp only [Option.getD_none, Option.getD_some]; omega) | (simp; done) | (simp; omega), ?_⟩; conv => whnf)
    first | exact .inl rfl | exact .inr rfl
  · rw [h]
    conv => whnf
    repeat (refine ⟨by first | omega | (simp only [Option.getD_none, Option.getD_some]; omega) | (simp; done) | (simp; omega), ?_⟩; conv => whnf)
    refine ⟨p_hazelref04_pop_18, g_hazelref04_pop_18, by kernel_rfl, ?st4, ?_, ?_⟩
    rotate_left
    · conv => whnf
      repeat' (first | (refine ⟨by first | omega | (simp only [Option.getD_none, Option.getD_some]; omega) | (simp; done) | (simp; omega), ?_⟩; conv => whnf) | (refine .inr (.inl ⟨_, s_refTurn (casM s.1 0 r.1 (popN r)) (idxI r.1) 1 (casM_most hf _ _ _), ?_⟩); conv => whnf) | (refine .inl (.inr (.inl ⟨_, s_refTurn (casM s.1 0 r.1 (popN r)) (idxI r.1) 1 (casM_most hf _ _ _), ?_⟩)); conv => whnf) | (refine .inr (.inl ⟨_, s_refMem s (turnM (casM s.1 0 r.1 (popN r)) (idxI r.1) 1), ?_⟩); conv => whnf) | (refine .inl (.inr (.inl ⟨_, s_refMem s (turnM (casM s.1 0 r.1 (popN r)) (idxI r.1) 1), ?_⟩)); conv => whnf) | (refine .inr (.inl ⟨_, s_refBack (turnM (casM s.1 0 r.1 (popN r)) (idxI r.1) 1, s.2) k (idxI r.1) 0 hf.cores hf.frames, ?_⟩); conv => whnf) | (refine .inl (.inr (.inl ⟨_, s_refBack (turnM (casM s.1 0 r.1 (popN r)) (idxI r.1) 1, s.2) k (idxI r.1) 0 hf.cores hf.frames, ?_⟩)); conv => whnf) | (refine And.intro ?_ ?_ <;> conv => whnf) | exact rfl)
    conv => whnf
    first | exact .inl rfl | exact .inr rfl
end Go.Proofs.YtlcjkogdbleboaaGreat.V
