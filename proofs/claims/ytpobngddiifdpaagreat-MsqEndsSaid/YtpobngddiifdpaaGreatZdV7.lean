/- Layer 4 of the program: the free list. -/
import Derived.Test.YtpobngddiifdpaaGreatZdV6
import Derived.Test.YtpobngddiifdpaaGreatZdV1
set_option linter.unusedSimpArgs false
set_option linter.unusedVariables false
namespace Go.Proofs.YtpobngddiifdpaaGreat.V
open Go Go.RowKit Go.Proofs.YtpobngddiifdpaaGreat.Hz
set_option maxRecDepth 100000

/-- What all steps ask of a system. -/
structure Fine (s : Sy) : Prop where
  fits : Fits s.1
  cores : s.2.1.length ≤ 1000
  frames : ∀ c ∈ s.2.1, c.1.length ≤ 1000
  log : s.2.2.1.length ≤ 900000
/-- A line of the log. -/
def logS (s : Sy) (k kind a b v : Int) : Sy := if isCoreB s k = true then (s.1, s.2.1, List.append (α := Evt) s.2.2.1 [(k, kind, a, b, v, ())], ()) else s
theorem s_cLog (s : Sy) (k kind a b v : Int) (hl : s.2.2.1.length ≤ 900000) : Spec Tryz.prog 183 [vS s, vI k, vI kind, vI a, vI b, vI v] (vS (logS s k kind a b v)) := by
  refine spec_introF false tab_ok 0 Tryz.func183 rfl (by kernel_rfl) rfl ?_
  conv => whnf
  first | refine .inl ⟨_, s_isCore s k, ?_⟩ | refine .inl (.inl ⟨_, s_isCore s k, ?_⟩)
  conv => whnf
  refine bcase (fun h => ?_) (fun h => ?_)
  · rw [show logS s k kind a b v = _ from if_pos h]
    conv => whnf
    first | refine .inr (.inl ⟨_, s_clipE _, ?_⟩) | refine .inl (.inr (.inl ⟨_, s_clipE _, ?_⟩))
    conv => whnf
    refine ⟨⟨Nat.le_trans (Nat.succ_le_succ hl) (le_most (by decide)), List.cons_ne_nil _ _⟩, ?_⟩
    conv => whnf
    repeat (refine ⟨by first | omega | (simp only [Option.getD_none, Option.getD_some]; omega) | (simp; done) | (simp; omega), ?_⟩; conv => whnf)
    first | exact .inl rfl | exact .inr rfl
  · rw [show logS s k kind a b v = s from if_neg (by rw [h]; decide)]
    conv => whnf
    first | exact .inl rfl | exact .inr rfl
theorem s_stackOn (s : Sy) (k pc op pc0 : Int) (r : R8) (l : Li) (hl : s.2.1.length ≤ 1000) (hl2 : ∀ c ∈ s.2.1, c.1.length ≤ 1000) : Spec Tryz.prog 222 [vS s, vI k, vF (op, pc0, r, l, ()), vI pc] (vS (setS s k (op, pc, r, l, ()))) := by
  refine spec_introF false tab_ok 0 Tryz.func222 rfl (by kernel_rfl) rfl ?_
  conv => whnf
  first | refine .inr (.inl ⟨_, s_cSet s k (op, pc, r, l, ()) hl hl2, ?_⟩) | refine .inl (.inr (.inl ⟨_, s_cSet s k (op, pc, r, l, ()) hl hl2, ?_⟩))
  conv => whnf
  first | exact .inl rfl | exact .inr rfl
theorem s_pop1 (s : Sy) (k op : Int) (r : R8) (l : Li) (hf : Fine s) : Spec Tryz.prog 216 [vS s, vI k, vF (op, (1 : Int), r, l, ())] (vS (setS (loadM s.1 (atI (idxI r.1) 0), s.2) k (op, (2 : Int), (r.1, loadI s.1 (atI (idxI r.1) 0), r.2.2), l, ()))) := by
  refine spec_introF false tab_ok 0 Tryz.func216 rfl (by kernel_rfl) rfl ?_
  conv => whnf
  refine ⟨p_stack_pop_8, g_stack_pop_8, by kernel_rfl, ?st1, ?_, ?_⟩
  rotate_left
  · conv => whnf
    repeat' (first | (refine ⟨by first | omega | (simp only [Option.getD_none, Option.getD_some]; omega) | (simp; done) | (simp; omega), ?_⟩; conv => whnf) | (refine .inl ⟨_, s_Index _, ?_⟩; conv => whnf) | (refine .inl (.inl ⟨_, s_Index _, ?_⟩); conv => whnf) | (refine .inl ⟨_, s_mAt _ _, ?_⟩; conv => whnf) | (refine .inl (.inl ⟨_, s_mAt _ _, ?_⟩); conv => whnf) | (refine .inr (.inl ⟨_, s_mLoad s.1 _ hf.fits, ?_⟩); conv => whnf) | (refine .inl (.inr (.inl ⟨_, s_mLoad s.1 _ hf.fits, ?_⟩)); conv => whnf) | (refine And.intro ?_ ?_ <;> conv => whnf) | exact rfl)
  conv => whnf
  first | refine .inr (.inl ⟨_, s_stackOn (loadM s.1 (atI (idxI r.1) 0), s.2) k 2 op 1 (r.1, loadI s.1 (atI (idxI r.1) 0), r.2.2) l hf.cores hf.frames, ?_⟩) | refine .inl (.inr (.inl ⟨_, s_stackOn (loadM s.1 (atI (idxI r.1) 0), s.2) k 2 op 1 (r.1, loadI s.1 (atI (idxI r.1) 0), r.2.2) l hf.cores hf.frames, ?_⟩))
  conv => whnf
  first | exact .inl rfl | exact .inr rfl

theorem logS_cores (s : Sy) (k kind a b v : Int) : (logS s k kind a b v).2.1 = s.2.1 ∧ (logS s k kind a b v).1 = s.1 := by
  by_cases h : isCoreB s k = true
  · rw [show logS s k kind a b v = _ from if_pos h]; exact ⟨rfl, rfl⟩
  · rw [show logS s k kind a b v = _ from if_neg h]; exact ⟨rfl, rfl⟩
theorem storeM_len (m : Me) (p v : Int) : (storeM m p v).2.1.length = m.2.1.length ∧ (storeM m p v).1.length = m.1.length := by
  by_cases h : p < 0 ∨ (m.1.length : Int) ≤ p
  · rw [show storeM m p v = _ from if_pos h]; exact ⟨rfl, rfl⟩
  · rw [show storeM m p v = _ from if_neg h]; exact ⟨rfl, List.length_set⟩
theorem casM_len (m : Me) (p a b : Int) : (casM m p a b).2.1.length = m.2.1.length ∧ (casM m p a b).1.length = m.1.length := by
  by_cases h : 0 ≤ p ∧ p < m.1.length ∧ nI m.1 p = a
  · rw [show casM m p a b = _ from if_pos h]; exact storeM_len m p b
  · rw [show casM m p a b = _ from if_neg h]; exact ⟨rfl, rfl⟩
theorem casM_most {s : Sy} (hf : Fine s) (p a b : Int) : (casM s.1 p a b).2.1.length ≤ 1000000 := by
  have := (casM_len s.1 p a b).1
  have := hf.fits.2
  omega
def pop0 (s : Sy) (k op : Int) (r : R8) (l : Li) : Sy := if idxI (loadI s.1 0) = 0 then backS (logS (loadM s.1 0, s.2) k 9 0 0 0) k 0 2 else setS (loadM s.1 0, s.2) k (op, (1 : Int), (loadI s.1 0, r.2), l, ())
theorem s_pop0 (s : Sy) (k op : Int) (r : R8) (l : Li) (hf : Fine s) : Spec Tryz.prog 216 [vS s, vI k, vF (op, (0 : Int), r, l, ())] (vS (pop0 s k op r l)) := by
  have hb : ∀ v e, Spec Tryz.prog 113 [vS (logS (loadM s.1 0, s.2) k 9 0 0 0), vI k, vI v, vI e] (vS (backS (logS (loadM s.1 0, s.2) k 9 0 0 0) k v e)) := fun v e => s_cBack _ k v e (by erw [(logS_cores _ _ _ _ _ _).1]; exact hf.cores) (by erw [(logS_cores _ _ _ _ _ _).1]; exact hf.frames)
  refine spec_introF false tab_ok 0 Tryz.func216 rfl (by kernel_rfl) rfl ?_
  conv => whnf
  first | refine .inr (.inl ⟨_, s_mLoad s.1 0 hf.fits, ?_⟩) | refine .inl (.inr (.inl ⟨_, s_mLoad s.1 0 hf.fits, ?_⟩))
  conv => whnf
  repeat (refine ⟨by first | omega | (simp only [Option.getD_none, Option.getD_some]; omega) | (simp; done) | (simp; omega), ?_⟩; conv => whnf)
  first | refine .inl ⟨_, s_Index _, ?_⟩ | refine .inl (.inl ⟨_, s_Index _, ?_⟩)
  conv => whnf
  refine dcase (fun h => ?_) (fun h => ?_)
  · rw [show pop0 s k op r l = _ from if_pos h]
    conv => whnf
    first | refine .inr (.inl ⟨_, s_cLog (loadM s.1 0, s.2) k 9 0 0 0 hf.log, ?_⟩) | refine .inl (.inr (.inl ⟨_, s_cLog (loadM s.1 0, s.2) k 9 0 0 0 hf.log, ?_⟩))
    conv => whnf
    first | refine .inr (.inl ⟨_, hb 0 2, ?_⟩) | refine .inl (.inr (.inl ⟨_, hb 0 2, ?_⟩))
    conv => whnf
    first | exact .inl rfl | exact .inr rfl
  · rw [show pop0 s k op r l = _ from if_neg h]
    conv => whnf
    first | refine .inr (.inl ⟨_, s_stackOn (loadM s.1 0, s.2) k 1 op 0 (loadI s.1 0, r.2) l hf.cores hf.frames, ?_⟩) | refine .inl (.inr (.inl ⟨_, s_stackOn (loadM s.1 0, s.2) k 1 op 0 (loadI s.1 0, r.2) l hf.cores hf.frames, ?_⟩))
    conv => whnf
    first | exact .inl rfl | exact .inr rfl
def popN (r : R8) : Int := nextI r.1 r.2.1 0
def pop2 (s : Sy) (k op : Int) (r : R8) (l : Li) : Sy := bif casB s.1 0 r.1 then backS (turnM (casM s.1 0 r.1 (popN r)) (idxI r.1) 1, s.2) k (idxI r.1) 0 else setS (casM s.1 0 r.1 (popN r), s.2) k (op, (0 : Int), r, l, ())
theorem s_pop2 (s : Sy) (k op : Int) (r : R8) (l : Li) (hf : Fine s) : Spec Tryz.prog 216 [vS s, vI k, vF (op, (2 : Int), r, l, ())] (vS (pop2 s k op r l)) := by
  unfold pop2
  refine spec_introF false tab_ok 0 Tryz.func216 rfl (by kernel_rfl) rfl ?_
  conv => whnf
  refine ⟨p_stack_pop_11, g_stack_pop_11, by kernel_rfl, ?st2, ?_, ?_⟩
  rotate_left
  · conv => whnf
    repeat' (first | (refine ⟨by first | omega | (simp only [Option.getD_none, Option.getD_some]; omega) | (simp; done) | (simp; omega), ?_⟩; conv => whnf) | (refine .inl ⟨_, s_Next _ _ _, ?_⟩; conv => whnf) | (refine .inl (.inl ⟨_, s_Next _ _ _, ?_⟩); conv => whnf) | (refine .inr (.inl ⟨_, s_mCas s.1 0 r.1 (popN r) hf.fits, ?_⟩); conv => whnf) | (refine .inl (.inr (.inl ⟨_, s_mCas s.1 0 r.1 (popN r) hf.fits, ?_⟩)); conv => whnf) | (refine And.intro ?_ ?_ <;> conv => whnf) | exact rfl)
  conv => whnf
  refine ncaseb (fun h => ?_) (fun h => ?_)
  · rw [h]
    conv => whnf
    first | refine .inr (.inl ⟨_, s_stackOn (casM s.1 0 r.1 (popN r), s.2) k 0 op 2 r l hf.cores hf.frames, ?_⟩) | refine .inl (.inr (.inl ⟨_, s_stackOn (casM s.1 0 r.1 (popN r), s.2) k 0 op 2 r l hf.cores hf.frames, ?_⟩))
    conv => whnf
    first | exact .inl rfl | exact .inr rfl
  · rw [h]
    conv => whnf
    repeat (refine ⟨by first | omega | (simp only [Option.getD_none, Option.getD_some]; omega) | (simp; done) | (simp; omega), ?_⟩; conv => whnf)
    first | refine .inl ⟨_, s_Index _, ?_⟩ | refine .inl (.inl ⟨_, s_Index _, ?_⟩)
    conv => whnf
    first | refine .inr (.inl ⟨_, s_mTurn (casM s.1 0 r.1 (popN r)) (idxI r.1) 1 (casM_most hf _ _ _), ?_⟩) | refine .inl (.inr (.inl ⟨_, s_mTurn (casM s.1 0 r.1 (popN r)) (idxI r.1) 1 (casM_most hf _ _ _), ?_⟩))
    conv => whnf
    first | refine .inr (.inl ⟨_, s_cBack (turnM (casM s.1 0 r.1 (popN r)) (idxI r.1) 1, s.2) k (idxI r.1) 0 hf.cores hf.frames, ?_⟩) | refine .inl (.inr (.inl ⟨_, s_cBack (turnM (casM s.1 0 r.1 (popN r)) (idxI r.1) 1, s.2) k (idxI r.1) 0 hf.cores hf.frames, ?_⟩))
    conv => whnf
    first | exact .inl rfl | exact .inr rfl

theorem s_push0 (s : Sy) (k op : Int) (r : R8) (l : Li) (hf : Fine s) : Spec Tryz.prog 217 [vS s, vI k, vF (op, (0 : Int), r, l, ())] (vS (setS (loadM s.1 0, s.2) k (op, (1 : Int), (r.1, loadI s.1 0, r.2.2), l, ()))) := by
  refine spec_introF false tab_ok 0 Tryz.func217 rfl (by kernel_rfl) rfl ?_
  conv => whnf
  first | refine .inr (.inl ⟨_, s_mLoad s.1 0 hf.fits, ?_⟩) | refine .inl (.inr (.inl ⟨_, s_mLoad s.1 0 hf.fits, ?_⟩))
  conv => whnf
  repeat (refine ⟨by first | omega | (simp only [Option.getD_none, Option.getD_some]; omega) | (simp; done) | (simp; omega), ?_⟩; conv => whnf)
  first | refine .inr (.inl ⟨_, s_stackOn (loadM s.1 0, s.2) k 1 op 0 (r.1, loadI s.1 0, r.2.2) l hf.cores hf.frames, ?_⟩) | refine .inl (.inr (.inl ⟨_, s_stackOn (loadM s.1 0, s.2) k 1 op 0 (r.1, loadI s.1 0, r.2.2) l hf.cores hf.frames, ?_⟩))
  conv => whnf
  first | exact .inl rfl | exact .inr rfl
theorem s_push1 (s : Sy) (k op : Int) (r : R8) (l : Li) (hf : Fine s) : Spec Tryz.prog 217 [vS s, vI k, vF (op, (1 : Int), r, l, ())] (vS (setS (storeM s.1 (atI r.1 0) (idxI r.2.1), s.2) k (op, (2 : Int), r, l, ()))) := by
  refine spec_introF false tab_ok 0 Tryz.func217 rfl (by kernel_rfl) rfl ?_
  conv => whnf
  refine ⟨p_stack_push_6, g_stack_push_6, by kernel_rfl, ?st3, ?_, ?_⟩
  rotate_left
  · conv => whnf
    repeat' (first | (refine ⟨by first | omega | (simp only [Option.getD_none, Option.getD_some]; omega) | (simp; done) | (simp; omega), ?_⟩; conv => whnf) | (refine .inl ⟨_, s_Index _, ?_⟩; conv => whnf) | (refine .inl (.inl ⟨_, s_Index _, ?_⟩); conv => whnf) | (refine .inl ⟨_, s_mAt _ _, ?_⟩; conv => whnf) | (refine .inl (.inl ⟨_, s_mAt _ _, ?_⟩); conv => whnf) | (refine .inr (.inl ⟨_, s_mStore s.1 (atI r.1 0) (idxI r.2.1) hf.fits, ?_⟩); conv => whnf) | (refine .inl (.inr (.inl ⟨_, s_mStore s.1 (atI r.1 0) (idxI r.2.1) hf.fits, ?_⟩)); conv => whnf) | (refine And.intro ?_ ?_ <;> conv => whnf) | exact rfl)
  conv => whnf
  first | refine .inr (.inl ⟨_, s_stackOn (storeM s.1 (atI r.1 0) (idxI r.2.1), s.2) k 2 op 1 r l hf.cores hf.frames, ?_⟩) | refine .inl (.inr (.inl ⟨_, s_stackOn (storeM s.1 (atI r.1 0) (idxI r.2.1), s.2) k 2 op 1 r l hf.cores hf.frames, ?_⟩))
  conv => whnf
  first | exact .inl rfl | exact .inr rfl
def pushN (r : R8) : Int := nextI r.2.1 r.1 0
def push2 (s : Sy) (k op : Int) (r : R8) (l : Li) : Sy := bif casB s.1 0 r.2.1 then backS (turnM (casM s.1 0 r.2.1 (pushN r)) r.1 0, s.2) k r.1 0 else setS (casM s.1 0 r.2.1 (pushN r), s.2) k (op, (0 : Int), r, l, ())
theorem s_push2 (s : Sy) (k op : Int) (r : R8) (l : Li) (hf : Fine s) : Spec Tryz.prog 217 [vS s, vI k, vF (op, (2 : Int), r, l, ())] (vS (push2 s k op r l)) := by
  unfold push2
  refine spec_introF false tab_ok 0 Tryz.func217 rfl (by kernel_rfl) rfl ?_
  conv => whnf
  refine ⟨p_stack_push_9, g_stack_push_9, by kernel_rfl, ?st4, ?_, ?_⟩
  rotate_left
  · conv => whnf
    repeat' (first | (refine ⟨by first | omega | (simp only [Option.getD_none, Option.getD_some]; omega) | (simp; done) | (simp; omega), ?_⟩; conv => whnf) | (refine .inl ⟨_, s_Next _ _ _, ?_⟩; conv => whnf) | (refine .inl (.inl ⟨_, s_Next _ _ _, ?_⟩); conv => whnf) | (refine .inr (.inl ⟨_, s_mCas s.1 0 r.2.1 (pushN r) hf.fits, ?_⟩); conv => whnf) | (refine .inl (.inr (.inl ⟨_, s_mCas s.1 0 r.2.1 (pushN r) hf.fits, ?_⟩)); conv => whnf) | (refine And.intro ?_ ?_ <;> conv => whnf) | exact rfl)
  conv => whnf
  refine ncaseb (fun h => ?_) (fun h => ?_)
  · rw [h]
    conv => whnf
    first | refine .inr (.inl ⟨_, s_stackOn (casM s.1 0 r.2.1 (pushN r), s.2) k 0 op 2 r l hf.cores hf.frames, ?_⟩) | refine .inl (.inr (.inl ⟨_, s_stackOn (casM s.1 0 r.2.1 (pushN r), s.2) k 0 op 2 r l hf.cores hf.frames, ?_⟩))
    conv => whnf
    first | exact .inl rfl | exact .inr rfl
  · rw [h]
    conv => whnf
    repeat (refine ⟨by first | omega | (simp only [Option.getD_none, Option.getD_some]; omega) | (simp; done) | (simp; omega), ?_⟩; conv => whnf)
    first | refine .inr (.inl ⟨_, s_mTurn (casM s.1 0 r.2.1 (pushN r)) r.1 0 (casM_most hf _ _ _), ?_⟩) | refine .inl (.inr (.inl ⟨_, s_mTurn (casM s.1 0 r.2.1 (pushN r)) r.1 0 (casM_most hf _ _ _), ?_⟩))
    conv => whnf
    repeat (refine ⟨by first | omega | (simp only [Option.getD_none, Option.getD_some]; omega) | (simp; done) | (simp; omega), ?_⟩; conv => whnf)
    first | refine .inr (.inl ⟨_, s_cBack (turnM (casM s.1 0 r.2.1 (pushN r)) r.1 0, s.2) k r.1 0 hf.cores hf.frames, ?_⟩) | refine .inl (.inr (.inl ⟨_, s_cBack (turnM (casM s.1 0 r.2.1 (pushN r)) r.1 0, s.2) k r.1 0 hf.cores hf.frames, ?_⟩))
    conv => whnf
    first | exact .inl rfl | exact .inr rfl
/-- A step of a frame of the free list. -/
def popS (s : Sy) (k op pc : Int) (r : R8) (l : Li) : Sy :=
  if pc = 0 then pop0 s k op r l else if pc = 1 then setS (loadM s.1 (atI (idxI r.1) 0), s.2) k (op, (2 : Int), (r.1, loadI s.1 (atI (idxI r.1) 0), r.2.2), l, ()) else if pc = 2 then pop2 s k op r l else s
def pushSt (s : Sy) (k op pc : Int) (r : R8) (l : Li) : Sy :=
  if pc = 0 then setS (loadM s.1 0, s.2) k (op, (1 : Int), (r.1, loadI s.1 0, r.2.2), l, ()) else if pc = 1 then setS (storeM s.1 (atI r.1 0) (idxI r.2.1), s.2) k (op, (2 : Int), r, l, ()) else if pc = 2 then push2 s k op r l else s
theorem s_pop (s : Sy) (k op pc : Int) (r : R8) (l : Li) (hf : Fine s) : Spec Tryz.prog 216 [vS s, vI k, vF (op, pc, r, l, ())] (vS (popS s k op pc r l)) := by
  by_cases h0 : pc = 0
  · subst h0
    exact s_pop0 s k op r l hf
  by_cases h1 : pc = 1
  · subst h1
    exact s_pop1 s k op r l hf
  by_cases h2 : pc = 2
  · subst h2
    exact s_pop2 s k op r l hf
  rw [show popS s k op pc r l = s by unfold popS; rw [if_neg h0, if_neg h1, if_neg h2]]
  refine spec_introF false tab_ok 0 Tryz.func216 rfl (by kernel_rfl) rfl ?_
  conv => whnf
  refine dcase (fun h => absurd h h0) (fun _ => ?_)
  conv => whnf
  refine dcase (fun h => absurd h h1) (fun _ => ?_)
  conv => whnf
  refine dcase (fun h => absurd h h2) (fun _ => ?_)
  conv => whnf
  first | exact .inl rfl | exact .inr rfl
theorem s_push (s : Sy) (k op pc : Int) (r : R8) (l : Li) (hf : Fine s) : Spec Tryz.prog 217 [vS s, vI k, vF (op, pc, r, l, ())] (vS (pushSt s k op pc r l)) := by
  by_cases h0 : pc = 0
  · subst h0
    exact s_push0 s k op r l hf
  by_cases h1 : pc = 1
  · subst h1
    exact s_push1 s k op r l hf
  by_cases h2 : pc = 2
  · subst h2
    exact s_push2 s k op r l hf
  rw [show pushSt s k op pc r l = s by unfold pushSt; rw [if_neg h0, if_neg h1, if_neg h2]]
  refine spec_introF false tab_ok 0 Tryz.func217 rfl (by kernel_rfl) rfl ?_
  conv => whnf
  refine dcase (fun h => absurd h h0) (fun _ => ?_)
  conv => whnf
  refine dcase (fun h => absurd h h1) (fun _ => ?_)
  conv => whnf
  refine dcase (fun h => absurd h h2) (fun _ => ?_)
  conv => whnf
  first | exact .inl rfl | exact .inr rfl
end Go.Proofs.YtpobngddiifdpaaGreat.V
