/- The document's free list, hazard slots. -/
import Derived.Test.YtpobngddiifdpaaGreatZbR2
set_option linter.unusedSimpArgs false
set_option linter.unusedVariables false
namespace Go.Proofs.YtpobngddiifdpaaGreat.V
open Go Go.RowKit Go.Proofs.YtpobngddiifdpaaGreat.Hz
set_option maxRecDepth 100000

theorem s_refPop (s : Sy) (k op pc : Int) (r : R8) (l : Li) (hf : Fine s) : Spec Tryz.prog 209 [vS s, vI k, vF (op, pc, r, l, ())] (vS (popS s k op pc r l)) := by
  by_cases h0 : pc = 0
  · subst h0
    exact s_refPop0 s k op r l hf
  by_cases h1 : pc = 1
  · subst h1
    exact s_refPop1 s k op r l hf
  by_cases h2 : pc = 2
  · subst h2
    exact s_refPop2 s k op r l hf
  rw [show popS s k op pc r l = s by unfold popS; rw [if_neg h0, if_neg h1, if_neg h2]]
  refine spec_introF false tab_ok 0 Tryz.func209 rfl (by kernel_rfl) rfl ?_
  conv => whnf
  repeat (refine ⟨by first | omega | (simp only [Option.getD_none, Option.getD_some]; omega) | (simp; done) | (simp; omega), ?_⟩; conv => whnf)
  refine dcase (fun h => absurd h h0) (fun _ => ?_)
  conv => whnf
  repeat (refine ⟨by first | omega | (simp only [Option.getD_none, Option.getD_some]; omega) | (simp; done) | (simp; omega), ?_⟩; conv => whnf)
  first | refine .inl ⟨_, s_refIndex _, ?_⟩ | refine .inl (.inl ⟨_, s_refIndex _, ?_⟩)
  conv => whnf
  repeat (refine ⟨by first | omega | (simp only [Option.getD_none, Option.getD_some]; omega) | (simp; done) | (simp; omega), ?_⟩; conv => whnf)
  refine dcase (fun h => absurd h h1) (fun _ => ?_)
  conv => whnf
  repeat (refine ⟨by first | omega | (simp only [Option.getD_none, Option.getD_some]; omega) | (simp; done) | (simp; omega), ?_⟩; conv => whnf)
  refine dcase (fun _ => ?_) (fun h => absurd h2 h)
  conv => whnf
  repeat (refine ⟨by first | omega | (simp only [Option.getD_none, Option.getD_some]; omega) | (simp; done) | (simp; omega), ?_⟩; conv => whnf)
  first | exact .inl rfl | exact .inr rfl
theorem s_refPush0 (s : Sy) (k op : Int) (r : R8) (l : Li) (hf : Fine s) : Spec Tryz.prog 210 [vS s, vI k, vF (op, (0 : Int), r, l, ())] (vS (pushSt s k op 0 r l)) := by
  have hg : s.1.2.1.length ≤ 1000000 := Nat.le_trans hf.fits.2 (by decide)
  refine spec_introF false tab_ok 0 Tryz.func210 rfl (by kernel_rfl) rfl ?_
  conv => whnf
  repeat (refine ⟨by first | omega | (simp only [Option.getD_none, Option.getD_some]; omega) | (simp; done) | (simp; omega), ?_⟩; conv => whnf)
  first | refine .inr (.inl ⟨_, s_refLoad s.1 0 hg, ?_⟩) | refine .inl (.inr (.inl ⟨_, s_refLoad s.1 0 hg, ?_⟩))
  conv => whnf
  repeat (refine ⟨by first | omega | (simp only [Option.getD_none, Option.getD_some]; omega) | (simp; done) | (simp; omega), ?_⟩; conv => whnf)
  first | refine .inr (.inl ⟨_, s_refOn s k op 0 1 (loadM s.1 0) (r.1, loadI s.1 0, r.2.2) l hf.cores hf.frames, ?_⟩) | refine .inl (.inr (.inl ⟨_, s_refOn s k op 0 1 (loadM s.1 0) (r.1, loadI s.1 0, r.2.2) l hf.cores hf.frames, ?_⟩))
  conv => whnf
  repeat (refine ⟨by first | omega | (simp only [Option.getD_none, Option.getD_some]; omega) | (simp; done) | (simp; omega), ?_⟩; conv => whnf)
  first | exact .inl rfl | exact .inr rfl
theorem s_refPush1 (s : Sy) (k op : Int) (r : R8) (l : Li) (hf : Fine s) : Spec Tryz.prog 210 [vS s, vI k, vF (op, (1 : Int), r, l, ())] (vS (pushSt s k op 1 r l)) := by
  have hg : s.1.2.1.length ≤ 1000000 := Nat.le_trans hf.fits.2 (by decide)
  have hw : s.1.1.length ≤ 1000000 := by have := hf.fits.1; have := hf.fits.2; omega
  refine spec_introF false tab_ok 0 Tryz.func210 rfl (by kernel_rfl) rfl ?_
  conv => whnf
  repeat (refine ⟨by first | omega | (simp only [Option.getD_none, Option.getD_some]; omega) | (simp; done) | (simp; omega), ?_⟩; conv => whnf)
  refine ⟨p_hazelref04_push_6, g_hazelref04_push_6, by kernel_rfl, ?st1, ?_, ?_⟩
  rotate_left
  · conv => whnf
    repeat' (first | (refine ⟨by first | omega | (simp only [Option.getD_none, Option.getD_some]; omega) | (simp; done) | (simp; omega), ?_⟩; conv => whnf) | (refine .inl ⟨_, s_refIndex _, ?_⟩; conv => whnf) | (refine .inl (.inl ⟨_, s_refIndex _, ?_⟩); conv => whnf) | (refine .inl ⟨_, s_refAt _ _, ?_⟩; conv => whnf) | (refine .inl (.inl ⟨_, s_refAt _ _, ?_⟩); conv => whnf) | (refine .inr (.inl ⟨_, s_refStore s.1 (atI r.1 0) (idxI r.2.1) hg hw, ?_⟩); conv => whnf) | (refine .inl (.inr (.inl ⟨_, s_refStore s.1 (atI r.1 0) (idxI r.2.1) hg hw, ?_⟩)); conv => whnf) | (refine And.intro ?_ ?_ <;> conv => whnf) | exact rfl)
  conv => whnf
  repeat (refine ⟨by first | omega | (simp only [Option.getD_none, Option.getD_some]; omega) | (simp; done) | (simp; omega), ?_⟩; conv => whnf)
  first | refine .inr (.inl ⟨_, s_refOn s k op 1 2 (storeM s.1 (atI r.1 0) (idxI r.2.1)) r l hf.cores hf.frames, ?_⟩) | refine .inl (.inr (.inl ⟨_, s_refOn s k op 1 2 (storeM s.1 (atI r.1 0) (idxI r.2.1)) r l hf.cores hf.frames, ?_⟩))
  conv => whnf
  repeat (refine ⟨by first | omega | (simp only [Option.getD_none, Option.getD_some]; omega) | (simp; done) | (simp; omega), ?_⟩; conv => whnf)
  first | exact .inl rfl | exact .inr rfl
theorem s_refPush2 (s : Sy) (k op : Int) (r : R8) (l : Li) (hf : Fine s) : Spec Tryz.prog 210 [vS s, vI k, vF (op, (2 : Int), r, l, ())] (vS (push2 s k op r l)) := by
  unfold push2
  refine spec_introF false tab_ok 0 Tryz.func210 rfl (by kernel_rfl) rfl ?_
  conv => whnf
  repeat (refine ⟨by first | omega | (simp only [Option.getD_none, Option.getD_some]; omega) | (simp; done) | (simp; omega), ?_⟩; conv => whnf)
  refine ⟨p_hazelref04_push_10, g_hazelref04_push_10, by kernel_rfl, ?st2, ?_, ?_⟩
  rotate_left
  · conv => whnf
    repeat' (first | (refine ⟨by first | omega | (simp only [Option.getD_none, Option.getD_some]; omega) | (simp; done) | (simp; omega), ?_⟩; conv => whnf) | (refine .inl ⟨_, s_refNext _ _ _, ?_⟩; conv => whnf) | (refine .inl (.inl ⟨_, s_refNext _ _ _, ?_⟩); conv => whnf) | (refine .inr (.inl ⟨_, s_refCas s.1 0 r.2.1 (pushN r) hf.fits, ?_⟩); conv => whnf) | (refine .inl (.inr (.inl ⟨_, s_refCas s.1 0 r.2.1 (pushN r) hf.fits, ?_⟩)); conv => whnf) | (refine And.intro ?_ ?_ <;> conv => whnf) | exact rfl)
  conv => whnf
  repeat (refine ⟨by first | omega | (simp only [Option.getD_none, Option.getD_some]; omega) | (simp; done) | (simp; omega), ?_⟩; conv => whnf)
  refine ncaseb (fun h => ?_) (fun h => ?_)
  · rw [h]
    conv => whnf
    repeat (refine ⟨by first | omega | (simp only [Option.getD_none, Option.getD_some]; omega) | (simp; done) | (simp; omega), ?_⟩; conv => whnf)
    first | refine .inr (.inl ⟨_, s_refOn s k op 2 0 (casM s.1 0 r.2.1 (pushN r)) r l hf.cores hf.frames, ?_⟩) | refine .inl (.inr (.inl ⟨_, s_refOn s k op 2 0 (casM s.1 0 r.2.1 (pushN r)) r l hf.cores hf.frames, ?_⟩))
    conv => whnf
    repeat (refine ⟨by first | omega | (simp only [Option.getD_none, Option.getD_some]; omega) | (simp; done) | (simp; omega), ?_⟩; conv => whnf)
    first | exact .inl rfl | exact .inr rfl
  · rw [h]
    conv => whnf
    repeat (refine ⟨by first | omega | (simp only [Option.getD_none, Option.getD_some]; omega) | (simp; done) | (simp; omega), ?_⟩; conv => whnf)
    refine ⟨p_hazelref04_push_13, g_hazelref04_push_13, by kernel_rfl, ?st3, ?_, ?_⟩
    rotate_left
    · conv => whnf
      repeat' (first | (refine ⟨by first | omega | (simp only [Option.getD_none, Option.getD_some]; omega) | (simp; done) | (simp; omega), ?_⟩; conv => whnf) | (refine .inr (.inl ⟨_, s_refTurn (casM s.1 0 r.2.1 (pushN r)) r.1 0 (casM_most hf _ _ _), ?_⟩); conv => whnf) | (refine .inl (.inr (.inl ⟨_, s_refTurn (casM s.1 0 r.2.1 (pushN r)) r.1 0 (casM_most hf _ _ _), ?_⟩)); conv => whnf) | (refine .inr (.inl ⟨_, s_refMem s (turnM (casM s.1 0 r.2.1 (pushN r)) r.1 0), ?_⟩); conv => whnf) | (refine .inl (.inr (.inl ⟨_, s_refMem s (turnM (casM s.1 0 r.2.1 (pushN r)) r.1 0), ?_⟩)); conv => whnf) | (refine .inr (.inl ⟨_, s_refBack (turnM (casM s.1 0 r.2.1 (pushN r)) r.1 0, s.2) k r.1 0 hf.cores hf.frames, ?_⟩); conv => whnf) | (refine .inl (.inr (.inl ⟨_, s_refBack (turnM (casM s.1 0 r.2.1 (pushN r)) r.1 0, s.2) k r.1 0 hf.cores hf.frames, ?_⟩)); conv => whnf) | (refine And.intro ?_ ?_ <;> conv => whnf) | exact rfl)
    conv => whnf
    repeat (refine ⟨by first | omega | (simp only [Option.getD_none, Option.getD_some]; omega) | (simp; done) | (simp; omega), ?_⟩; conv => whnf)
    first | exact .inl rfl | exact .inr rfl
theorem s_refPush (s : Sy) (k op pc : Int) (r : R8) (l : Li) (hf : Fine s) : Spec Tryz.prog 210 [vS s, vI k, vF (op, pc, r, l, ())] (vS (pushSt s k op pc r l)) := by
  by_cases h0 : pc = 0
  · subst h0
    exact s_refPush0 s k op r l hf
  by_cases h1 : pc = 1
  · subst h1
    exact s_refPush1 s k op r l hf
  by_cases h2 : pc = 2
  · subst h2
    exact s_refPush2 s k op r l hf
  rw [show pushSt s k op pc r l = s by unfold pushSt; rw [if_neg h0, if_neg h1, if_neg h2]]
  refine spec_introF false tab_ok 0 Tryz.func210 rfl (by kernel_rfl) rfl ?_
  conv => whnf
  repeat (refine ⟨by first | omega | (simp only [Option.getD_none, Option.getD_some]; omega) | (simp; done) | (simp; omega), ?_⟩; conv => whnf)
  refine dcase (fun h => absurd h h0) (fun _ => ?_)
  conv => whnf
  repeat (refine ⟨by first | omega | (simp only [Option.getD_none, Option.getD_some]; omega) | (simp; done) | (simp; omega), ?_⟩; conv => whnf)
  refine dcase (fun h => absurd h h1) (fun _ => ?_)
  conv => whnf
  repeat (refine ⟨by first | omega | (simp only [Option.getD_none, Option.getD_some]; omega) | (simp; done) | (simp; omega), ?_⟩; conv => whnf)
  refine dcase (fun _ => ?_) (fun h => absurd h2 h)
  conv => whnf
  repeat (refine ⟨by first | omega | (simp only [Option.getD_none, Option.getD_some]; omega) | (simp; done) | (simp; omega), ?_⟩; conv => whnf)
  first | exact .inl rfl | exact .inr rfl
theorem Fine.top {s : Sy} {k : Int} (hf : Fine s) : Spec Tryz.prog 30 [vS s, vI k] (vFB ((topI s k).getD (dflt tFrame)) (topI s k).isSome) := s_refTop s k (Nat.le_trans hf.cores (by decide)) (fun c hc => Nat.le_trans (hf.frames c hc) (by decide))
theorem s_refTopOf {s : Sy} {k : Int} {f : Frm} (ht : topI s k = some f) (hf : Fine s) : Spec Tryz.prog 30 [vS s, vI k] (vFB f true) := by
  have h := hf.top (k := k)
  rw [ht] at h
  exact h
theorem s_refTopNo {s : Sy} {k : Int} (ht : topI s k = none) (hf : Fine s) : Spec Tryz.prog 30 [vS s, vI k] (vFB (dflt tFrame) false) := by
  have h := hf.top (k := k)
  rw [ht] at h
  exact h
/-- What a step of the free list's ops does. -/
def stackF (s : Sy) (k op pc : Int) (r : R8) (l : Li) : Sy := if op = 1 then popS s k 1 pc r l else if op = 2 then pushSt s k 2 pc r l else s
theorem s_refStack (s : Sy) (k op pc : Int) (r : R8) (l : Li) (ht : topI s k = some (op, pc, r, l, ())) (hf : Fine s) : Spec Tryz.prog 189 [vS s, vI k] (vS (stackF s k op pc r l)) := by
  refine spec_introF false tab_ok 0 Tryz.func189 rfl (by kernel_rfl) rfl ?_
  conv => whnf
  repeat (refine ⟨by first | omega | (simp only [Option.getD_none, Option.getD_some]; omega) | (simp; done) | (simp; omega), ?_⟩; conv => whnf)
  first | refine .inr (.inl ⟨_, s_refTopOf ht hf, ?_⟩) | refine .inl (.inr (.inl ⟨_, s_refTopOf ht hf, ?_⟩))
  conv => whnf
  repeat (refine ⟨by first | omega | (simp only [Option.getD_none, Option.getD_some]; omega) | (simp; done) | (simp; omega), ?_⟩; conv => whnf)
  refine dcase (fun h => ?_) (fun h => ?_)
  · have h : op = 1 := h
    subst h
    rw [show stackF s k 1 pc r l = _ from if_pos rfl]
    conv => whnf
    repeat (refine ⟨by first | omega | (simp only [Option.getD_none, Option.getD_some]; omega) | (simp; done) | (simp; omega), ?_⟩; conv => whnf)
    first | refine .inr (.inl ⟨_, s_refPop s k 1 pc r l hf, ?_⟩) | refine .inl (.inr (.inl ⟨_, s_refPop s k 1 pc r l hf, ?_⟩))
    conv => whnf
    repeat (refine ⟨by first | omega | (simp only [Option.getD_none, Option.getD_some]; omega) | (simp; done) | (simp; omega), ?_⟩; conv => whnf)
    first | exact .inl rfl | exact .inr rfl
  conv => whnf
  repeat (refine ⟨by first | omega | (simp only [Option.getD_none, Option.getD_some]; omega) | (simp; done) | (simp; omega), ?_⟩; conv => whnf)
  refine dcase (fun h2 => ?_) (fun h2 => ?_)
  · have h2 : op = 2 := h2
    subst h2
    rw [show stackF s k 2 pc r l = _ from (if_neg (by decide)).trans (if_pos rfl)]
    conv => whnf
    repeat (refine ⟨by first | omega | (simp only [Option.getD_none, Option.getD_some]; omega) | (simp; done) | (simp; omega), ?_⟩; conv => whnf)
    first | refine .inr (.inl ⟨_, s_refPush s k 2 pc r l hf, ?_⟩) | refine .inl (.inr (.inl ⟨_, s_refPush s k 2 pc r l hf, ?_⟩))
    conv => whnf
    repeat (refine ⟨by first | omega | (simp only [Option.getD_none, Option.getD_some]; omega) | (simp; done) | (simp; omega), ?_⟩; conv => whnf)
    first | exact .inl rfl | exact .inr rfl
  rw [show stackF s k op pc r l = s from (if_neg h).trans (if_neg h2)]
  conv => whnf
  repeat (refine ⟨by first | omega | (simp only [Option.getD_none, Option.getD_some]; omega) | (simp; done) | (simp; omega), ?_⟩; conv => whnf)
  first | exact .inl rfl | exact .inr rfl
theorem s_refProt1 (s : Sy) (k op : Int) (r : R8) (l : Li) (hf : Fine s) : Spec Tryz.prog 208 [vS s, vI k, vF (op, (1 : Int), r, l, ())] (vS (protS s k op 1 r l)) := by
  have hg : s.1.2.1.length ≤ 1000000 := Nat.le_trans hf.fits.2 (by decide)
  have hw : s.1.1.length ≤ 1000000 := by have := hf.fits.1; have := hf.fits.2; omega
  refine spec_introF false tab_ok 0 Tryz.func208 rfl (by kernel_rfl) rfl ?_
  conv => whnf
  repeat (refine ⟨by first | omega | (simp only [Option.getD_none, Option.getD_some]; omega) | (simp; done) | (simp; omega), ?_⟩; conv => whnf)
  refine ⟨p_hazelref05_prot_2, g_hazelref05_prot_2, by kernel_rfl, ?st4, ?_, ?_⟩
  rotate_left
  · conv => whnf
    repeat' (first | (refine ⟨by first | omega | (simp only [Option.getD_none, Option.getD_some]; omega) | (simp; done) | (simp; omega), ?_⟩; conv => whnf) | (refine .inl ⟨_, s_refIndex _, ?_⟩; conv => whnf) | (refine .inl (.inl ⟨_, s_refIndex _, ?_⟩); conv => whnf) | (refine .inl ⟨_, s_refPlace _ _, ?_⟩; conv => whnf) | (refine .inl (.inl ⟨_, s_refPlace _ _, ?_⟩); conv => whnf) | (refine .inr (.inl ⟨_, s_refStore s.1 (placeI k r.2.1) (idxI r.2.2.1) hg hw, ?_⟩); conv => whnf) | (refine .inl (.inr (.inl ⟨_, s_refStore s.1 (placeI k r.2.1) (idxI r.2.2.1) hg hw, ?_⟩)); conv => whnf) | (refine And.intro ?_ ?_ <;> conv => whnf) | exact rfl)
  conv => whnf
  repeat (refine ⟨by first | omega | (simp only [Option.getD_none, Option.getD_some]; omega) | (simp; done) | (simp; omega), ?_⟩; conv => whnf)
  first | refine .inr (.inl ⟨_, s_refOn s k op 1 2 (storeM s.1 (placeI k r.2.1) (idxI r.2.2.1)) r l hf.cores hf.frames, ?_⟩) | refine .inl (.inr (.inl ⟨_, s_refOn s k op 1 2 (storeM s.1 (placeI k r.2.1) (idxI r.2.2.1)) r l hf.cores hf.frames, ?_⟩))
  conv => whnf
  repeat (refine ⟨by first | omega | (simp only [Option.getD_none, Option.getD_some]; omega) | (simp; done) | (simp; omega), ?_⟩; conv => whnf)
  first | exact .inl rfl | exact .inr rfl
theorem s_refProt0 (s : Sy) (k op : Int) (r : R8) (l : Li) (hf : Fine s) : Spec Tryz.prog 208 [vS s, vI k, vF (op, (0 : Int), r, l, ())] (vS (protS s k op 0 r l)) := by
  have hg : s.1.2.1.length ≤ 1000000 := Nat.le_trans hf.fits.2 (by decide)
  rw [show protS s k op 0 r l = prot0 s k op r l from rfl]
  refine spec_introF false tab_ok 0 Tryz.func208 rfl (by kernel_rfl) rfl ?_
  conv => whnf
  repeat (refine ⟨by first | omega | (simp only [Option.getD_none, Option.getD_some]; omega) | (simp; done) | (simp; omega), ?_⟩; conv => whnf)
  first | refine .inr (.inl ⟨_, s_refLoad s.1 r.1 hg, ?_⟩) | refine .inl (.inr (.inl ⟨_, s_refLoad s.1 r.1 hg, ?_⟩))
  conv => whnf
  repeat (refine ⟨by first | omega | (simp only [Option.getD_none, Option.getD_some]; omega) | (simp; done) | (simp; omega), ?_⟩; conv => whnf)
  first | refine .inl ⟨_, s_refIndex _, ?_⟩ | refine .inl (.inl ⟨_, s_refIndex _, ?_⟩)
  conv => whnf
  repeat (refine ⟨by first | omega | (simp only [Option.getD_none, Option.getD_some]; omega) | (simp; done) | (simp; omega), ?_⟩; conv => whnf)
  refine dcase (fun h => ?_) (fun h => ?_)
  · rw [show prot0 s k op r l = _ from if_pos h]
    conv => whnf
    repeat (refine ⟨by first | omega | (simp only [Option.getD_none, Option.getD_some]; omega) | (simp; done) | (simp; omega), ?_⟩; conv => whnf)
    first | refine .inr (.inl ⟨_, s_refMem s (loadM s.1 r.1), ?_⟩) | refine .inl (.inr (.inl ⟨_, s_refMem s (loadM s.1 r.1), ?_⟩))
    conv => whnf
    repeat (refine ⟨by first | omega | (simp only [Option.getD_none, Option.getD_some]; omega) | (simp; done) | (simp; omega), ?_⟩; conv => whnf)
    first | refine .inr (.inl ⟨_, s_refBack (loadM s.1 r.1, s.2) k (loadI s.1 r.1) 0 hf.cores hf.frames, ?_⟩) | refine .inl (.inr (.inl ⟨_, s_refBack (loadM s.1 r.1, s.2) k (loadI s.1 r.1) 0 hf.cores hf.frames, ?_⟩))
    conv => whnf
    repeat (refine ⟨by first | omega | (simp only [Option.getD_none, Option.getD_some]; omega) | (simp; done) | (simp; omega), ?_⟩; conv => whnf)
    first | exact .inl rfl | exact .inr rfl
  · rw [show prot0 s k op r l = _ from if_neg h]
    conv => whnf
    repeat (refine ⟨by first | omega | (simp only [Option.getD_none, Option.getD_some]; omega) | (simp; done) | (simp; omega), ?_⟩; conv => whnf)
    first | refine .inr (.inl ⟨_, s_refOn s k op 0 1 (loadM s.1 r.1) (r2S r (loadI s.1 r.1)) l hf.cores hf.frames, ?_⟩) | refine .inl (.inr (.inl ⟨_, s_refOn s k op 0 1 (loadM s.1 r.1) (r2S r (loadI s.1 r.1)) l hf.cores hf.frames, ?_⟩))
    conv => whnf
    repeat (refine ⟨by first | omega | (simp only [Option.getD_none, Option.getD_some]; omega) | (simp; done) | (simp; omega), ?_⟩; conv => whnf)
    first | exact .inl rfl | exact .inr rfl
theorem s_refProt2 (s : Sy) (k op : Int) (r : R8) (l : Li) (hf : Fine s) : Spec Tryz.prog 208 [vS s, vI k, vF (op, (2 : Int), r, l, ())] (vS (protS s k op 2 r l)) := by
  have hg : s.1.2.1.length ≤ 1000000 := Nat.le_trans hf.fits.2 (by decide)
  rw [show protS s k op 2 r l = prot2 s k op r l from rfl]
  refine spec_introF false tab_ok 0 Tryz.func208 rfl (by kernel_rfl) rfl ?_
  conv => whnf
  repeat (refine ⟨by first | omega | (simp only [Option.getD_none, Option.getD_some]; omega) | (simp; done) | (simp; omega), ?_⟩; conv => whnf)
  first | refine .inr (.inl ⟨_, s_refLoad s.1 r.1 hg, ?_⟩) | refine .inl (.inr (.inl ⟨_, s_refLoad s.1 r.1 hg, ?_⟩))
  conv => whnf
  repeat (refine ⟨by first | omega | (simp only [Option.getD_none, Option.getD_some]; omega) | (simp; done) | (simp; omega), ?_⟩; conv => whnf)
  first | refine .inl ⟨_, s_refIndex _, ?_⟩ | refine .inl (.inl ⟨_, s_refIndex _, ?_⟩)
  conv => whnf
  repeat (refine ⟨by first | omega | (simp only [Option.getD_none, Option.getD_some]; omega) | (simp; done) | (simp; omega), ?_⟩; conv => whnf)
  refine dcase (fun h => ?_) (fun h => ?_)
  · rw [show prot2 s k op r l = _ from if_pos (.inr h)]
    conv => whnf
    repeat (refine ⟨by first | omega | (simp only [Option.getD_none, Option.getD_some]; omega) | (simp; done) | (simp; omega), ?_⟩; conv => whnf)
    first | refine .inr (.inl ⟨_, s_refMem s (loadM s.1 r.1), ?_⟩) | refine .inl (.inr (.inl ⟨_, s_refMem s (loadM s.1 r.1), ?_⟩))
    conv => whnf
    repeat (refine ⟨by first | omega | (simp only [Option.getD_none, Option.getD_some]; omega) | (simp; done) | (simp; omega), ?_⟩; conv => whnf)
    first | refine .inr (.inl ⟨_, s_refBack (loadM s.1 r.1, s.2) k (loadI s.1 r.1) 0 hf.cores hf.frames, ?_⟩) | refine .inl (.inr (.inl ⟨_, s_refBack (loadM s.1 r.1, s.2) k (loadI s.1 r.1) 0 hf.cores hf.frames, ?_⟩))
    conv => whnf
    repeat (refine ⟨by first | omega | (simp only [Option.getD_none, Option.getD_some]; omega) | (simp; done) | (simp; omega), ?_⟩; conv => whnf)
    first | exact .inl rfl | exact .inr rfl
  conv => whnf
  repeat (refine ⟨by first | omega | (simp only [Option.getD_none, Option.getD_some]; omega) | (simp; done) | (simp; omega), ?_⟩; conv => whnf)
  refine dcase (fun h2 => ?_) (fun h2 => ?_)
  · rw [show prot2 s k op r l = _ from if_pos (.inl h2)]
    conv => whnf
    repeat (refine ⟨by first | omega | (simp only [Option.getD_none, Option.getD_some]; omega) | (simp; done) | (simp; omega), ?_⟩; conv => whnf)
    first | refine .inr (.inl ⟨_, s_refMem s (loadM s.1 r.1), ?_⟩) | refine .inl (.inr (.inl ⟨_, s_refMem s (loadM s.1 r.1), ?_⟩))
    conv => whnf
    repeat (refine ⟨by first | omega | (simp only [Option.getD_none, Option.getD_some]; omega) | (simp; done) | (simp; omega), ?_⟩; conv => whnf)
    first | refine .inr (.inl ⟨_, s_refBack (loadM s.1 r.1, s.2) k (loadI s.1 r.1) 0 hf.cores hf.frames, ?_⟩) | refine .inl (.inr (.inl ⟨_, s_refBack (loadM s.1 r.1, s.2) k (loadI s.1 r.1) 0 hf.cores hf.frames, ?_⟩))
    conv => whnf
    repeat (refine ⟨by first | omega | (simp only [Option.getD_none, Option.getD_some]; omega) | (simp; done) | (simp; omega), ?_⟩; conv => whnf)
    first | exact .inl rfl | exact .inr rfl
  · rw [show prot2 s k op r l = _ from if_neg (fun e => e.elim h2 h)]
    conv => whnf
    repeat (refine ⟨by first | omega | (simp only [Option.getD_none, Option.getD_some]; omega) | (simp; done) | (simp; omega), ?_⟩; conv => whnf)
    first | refine .inr (.inl ⟨_, s_refOn s k op 2 1 (loadM s.1 r.1) (r23S r (loadI s.1 r.1)) l hf.cores hf.frames, ?_⟩) | refine .inl (.inr (.inl ⟨_, s_refOn s k op 2 1 (loadM s.1 r.1) (r23S r (loadI s.1 r.1)) l hf.cores hf.frames, ?_⟩))
    conv => whnf
    repeat (refine ⟨by first | omega | (simp only [Option.getD_none, Option.getD_some]; omega) | (simp; done) | (simp; omega), ?_⟩; conv => whnf)
    first | exact .inl rfl | exact .inr rfl
theorem s_refProt (s : Sy) (k op pc : Int) (r : R8) (l : Li) (hf : Fine s) : Spec Tryz.prog 208 [vS s, vI k, vF (op, pc, r, l, ())] (vS (protS s k op pc r l)) := by
  by_cases h0 : pc = 0
  · subst h0
    exact s_refProt0 s k op r l hf
  by_cases h1 : pc = 1
  · subst h1
    exact s_refProt1 s k op r l hf
  by_cases h2 : pc = 2
  · subst h2
    exact s_refProt2 s k op r l hf
  rw [show protS s k op pc r l = s by unfold protS; rw [if_neg h0, if_neg h1, if_neg h2]]
  refine spec_introF false tab_ok 0 Tryz.func208 rfl (by kernel_rfl) rfl ?_
  conv => whnf
  repeat (refine ⟨by first | omega | (simp only [Option.getD_none, Option.getD_some]; omega) | (simp; done) | (simp; omega), ?_⟩; conv => whnf)
  refine dcase (fun h => absurd h h1) (fun _ => ?_)
  conv => whnf
  repeat (refine ⟨by first | omega | (simp only [Option.getD_none, Option.getD_some]; omega) | (simp; done) | (simp; omega), ?_⟩; conv => whnf)
  refine dcase (fun _ => ?_) (fun h => absurd h0 h)
  conv => whnf
  repeat (refine ⟨by first | omega | (simp only [Option.getD_none, Option.getD_some]; omega) | (simp; done) | (simp; omega), ?_⟩; conv => whnf)
  refine dcase (fun _ => ?_) (fun h => absurd h2 h)
  conv => whnf
  repeat (refine ⟨by first | omega | (simp only [Option.getD_none, Option.getD_some]; omega) | (simp; done) | (simp; omega), ?_⟩; conv => whnf)
  first | exact .inl rfl | exact .inr rfl
end Go.Proofs.YtpobngddiifdpaaGreat.V
