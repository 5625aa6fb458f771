/- The document's cores: Set, Back, Turn, On. -/
import Derived.Test.YtpobngddiifdpaaGreatZbV21
set_option linter.unusedSimpArgs false
set_option linter.unusedVariables false
namespace Go.Proofs.YtpobngddiifdpaaGreat.V
open Go Go.RowKit Go.Proofs.YtpobngddiifdpaaGreat.Hz
set_option maxRecDepth 100000

theorem cAt_frames {s : Sy} {k : Int} (hl2 : ∀ c ∈ s.2.1, c.1.length ≤ 1000) : (cAt s.2.1 k).1.length ≤ 1000 := by
  rcases cAt_mem (l := s.2.1) (k := k) with e | e
  · exact hl2 _ e
  · rw [e]; exact Nat.zero_le _
theorem s_refSet (s : Sy) (k : Int) (f : Frm) (hl : s.2.1.length ≤ 1000) (hl2 : ∀ c ∈ s.2.1, c.1.length ≤ 1000) : Spec Tryz.prog 190 [vS s, vI k, vF f] (vS (setS s k f)) := by
  refine spec_introF true tab_ok 0 Tryz.func190 rfl (by kernel_rfl) rfl ?_
  conv => whnf
  first | refine .inr (.inl ⟨_, s_refTop s k (by omega) (fun c hc => Nat.le_trans (hl2 c hc) (by decide)), ?_⟩) | refine .inl (.inr (.inl ⟨_, s_refTop s k (by omega) (fun c hc => Nat.le_trans (hl2 c hc) (by decide)), ?_⟩))
  conv => whnf
  refine ncaseb (fun h => ?_) (fun h => ?_)
  · rw [show setS s k f = s from if_neg (by rw [h]; decide)]
    conv => whnf
    first | exact .inl rfl | exact .inr rfl
  rw [show setS s k f = _ from if_pos h]
  obtain ⟨g, hg⟩ := Option.isSome_iff_exists.1 h
  obtain ⟨h0, h1, h2, h3⟩ := topI_some hg
  have hlen := cAt_frames (k := k) hl2
  unfold cAt at h2 h3 hlen
  conv => whnf
  repeat (refine ⟨by first | omega | (simp only [Option.getD_none, Option.getD_some]; omega) | (simp; done) | (simp; omega), ?_⟩; conv => whnf)
  refine ⟨le_most (by show (List.getD s.2.1 k.toNat (dflt tCore)).1.length ≤ _; omega), ?_⟩
  conv => whnf
  intro z hz
  have hz : z = ((List.getD s.2.1 k.toNat (dflt tCore)).1.length : Int) - 1 := hz.trans (IntWalk.wrap64_in _ (by omega))
  conv => whnf
  refine ⟨⟨by omega, by show z < ((List.getD s.2.1 k.toNat (dflt tCore)).1.length : Int); omega⟩, ?_⟩
  conv => whnf
  refine ⟨by show z.toNat < (List.getD s.2.1 k.toNat (dflt tCore)).1.length; omega, ?_⟩
  conv => whnf
  first | refine .inr (.inl ⟨_, s_refWith s k ((cAt s.2.1 k).1.set z.toNat f, (cAt s.2.1 k).2) h0 h1 (by omega), ?_⟩) | refine .inl (.inr (.inl ⟨_, s_refWith s k ((cAt s.2.1 k).1.set z.toNat f, (cAt s.2.1 k).2) h0 h1 (by omega), ?_⟩))
  conv => whnf
  rw [hz]
  first | exact .inl rfl | exact .inr rfl
theorem s_refBack (s : Sy) (k v e : Int) (hl : s.2.1.length ≤ 1000) (hl2 : ∀ c ∈ s.2.1, c.1.length ≤ 1000) : Spec Tryz.prog 141 [vS s, vI k, vI v, vI e] (vS (backS s k v e)) := by
  refine spec_introF true tab_ok 0 Tryz.func141 rfl (by kernel_rfl) rfl ?_
  conv => whnf
  first | refine .inr (.inl ⟨_, s_refTop s k (by omega) (fun c hc => Nat.le_trans (hl2 c hc) (by decide)), ?_⟩) | refine .inl (.inr (.inl ⟨_, s_refTop s k (by omega) (fun c hc => Nat.le_trans (hl2 c hc) (by decide)), ?_⟩))
  conv => whnf
  refine ncaseb (fun h => ?_) (fun h => ?_)
  · rw [show backS s k v e = s from if_neg (by rw [h]; decide)]
    conv => whnf
    first | exact .inl rfl | exact .inr rfl
  rw [show backS s k v e = _ from if_pos h]
  obtain ⟨g, hg⟩ := Option.isSome_iff_exists.1 h
  obtain ⟨h0, h1, h2, h3⟩ := topI_some hg
  have hlen := cAt_frames (k := k) hl2
  unfold cAt at h2 h3 hlen
  conv => whnf
  repeat (refine ⟨by first | omega | (simp only [Option.getD_none, Option.getD_some]; omega) | (simp; done) | (simp; omega), ?_⟩; conv => whnf)
  intro z hz
  have hz : z = ((List.getD s.2.1 k.toNat (dflt tCore)).1.length : Int) - 1 := hz.trans (IntWalk.wrap64_in _ (by omega))
  conv => whnf
  refine ⟨⟨by decide, by show 0 ≤ z; omega, by show z ≤ ((List.getD s.2.1 k.toNat (dflt tCore)).1.length : Int); omega⟩, ?_⟩
  conv => whnf
  first | refine .inr (.inl ⟨_, s_refWith s k ((cAt s.2.1 k).1.take z.toNat, v, e, (cAt s.2.1 k).2.2.2) h0 h1 (by omega), ?_⟩) | refine .inl (.inr (.inl ⟨_, s_refWith s k ((cAt s.2.1 k).1.take z.toNat, v, e, (cAt s.2.1 k).2.2.2) h0 h1 (by omega), ?_⟩))
  conv => whnf
  rw [hz]
  first | exact .inl rfl | exact .inr rfl
theorem s_refTurn (m : Me) (p to : Int) (hg : m.2.1.length ≤ 1000000) : Spec Tryz.prog 64 [vM m, vI p, vI to] (vM (turnM m p to)) := by
  have no : ¬ (1 ≤ p ∧ p < m.2.1.length ∧ turnB (nI m.2.1 p) to = true) → turnM m p to = (m.1, m.2.1, true, ()) := fun h => if_neg h
  have yes : 1 ≤ p ∧ p < m.2.1.length ∧ turnB (nI m.2.1 p) to = true → turnM m p to = (m.1, List.set (α := Int) m.2.1 p.toNat to, m.2.2) := fun h => if_pos h
  have tb : turnB (nI m.2.1 p) to = decide (nI m.2.1 p = 0 ∧ to = 1 ∨ nI m.2.1 p = 1 ∧ to = 2 ∨ nI m.2.1 p = 1 ∧ to = 0 ∨ nI m.2.1 p = 2 ∧ to = 0) := by
    unfold turnB eq2
    simp only [Bool.and_true, ← Bool.decide_and, ← Bool.decide_or]
  refine spec_introF true tab_ok 0 Tryz.func64 rfl (by kernel_rfl) rfl ?_
  conv => whnf
  refine dcase (fun h => ?_) (fun h => ?_)
  · rw [no (by omega)]
    conv => whnf
    first | exact .inl rfl | exact .inr rfl
  conv => whnf
  refine dcase (fun h1 => ?_) (fun h1 => ?_)
  · rw [no (by omega)]
    conv => whnf
    first | exact .inl rfl | exact .inr rfl
  conv => whnf
  refine ⟨⟨by omega, by omega⟩, ?_⟩
  conv => whnf
  obtain ⟨x, hx⟩ : ∃ x, nI m.2.1 p = x := ⟨_, rfl⟩
  have hx2 : List.getD m.2.1 p.toNat (dflt tI) = x := hx
  rw [hx] at tb no yes
  rw [tb] at no yes
  rw [decide_eq_true_eq] at no yes
  erw [hx2]
  repeat' (first | (refine ⟨by first | omega | (simp only [Option.getD_none, Option.getD_some]; omega) | (simp; done) | (simp; omega), ?_⟩; conv => whnf) | (rw [no (by omega)]) | (rw [yes (by omega)]) | (refine ⟨le_most (by omega), ?_⟩; conv => whnf) | (refine dcase (fun hc => ?_) (fun hc => ?_) <;> first | (exfalso; omega) | (exfalso; simp_all; done) | (conv => whnf)) | (refine ncase (fun hc => ?_) (fun hc => ?_) <;> first | (exfalso; omega) | (exfalso; simp_all; done) | (conv => whnf)) | (refine bcase (fun hc => ?_) (fun hc => ?_) <;> first | (exfalso; omega) | (exfalso; simp_all; done) | (conv => whnf)) | (refine ncaseb (fun hc => ?_) (fun hc => ?_) <;> first | (exfalso; omega) | (exfalso; simp_all; done) | (conv => whnf)) | (refine And.intro (fun hc => ?_) (fun hc => ?_) <;> first | (exfalso; omega) | (exfalso; simp_all; done) | (conv => whnf)) | (refine And.intro ?_ ?_ <;> conv => whnf) | exact .inl rfl | exact .inr rfl | exact rfl)
theorem s_refOn (s : Sy) (k op pc0 pc : Int) (m : Me) (r : R8) (l : Li) (hl : s.2.1.length ≤ 1000) (hl2 : ∀ c ∈ s.2.1, c.1.length ≤ 1000) : Spec Tryz.prog 142 [vS s, vI k, vM m, vF (op, pc0, r, l, ()), vI pc] (vS (setS (m, s.2) k (op, pc, r, l, ()))) := by
  refine spec_introF true tab_ok 0 Tryz.func142 rfl (by kernel_rfl) rfl ?_
  conv => whnf
  refine ⟨p_hazelref04_On_2, g_hazelref04_On_2, by kernel_rfl, ?st1, ?_, ?_⟩
  rotate_left
  · conv => whnf
    repeat' (first | (refine ⟨by first | omega | (simp only [Option.getD_none, Option.getD_some]; omega) | (simp; done) | (simp; omega), ?_⟩; conv => whnf) | (refine .inr (.inl ⟨_, s_refMem s m, ?_⟩); conv => whnf) | (refine .inl (.inr (.inl ⟨_, s_refMem s m, ?_⟩)); conv => whnf) | (refine .inr (.inl ⟨_, s_refSet (m, s.2) k (op, pc, r, l, ()) hl hl2, ?_⟩); conv => whnf) | (refine .inl (.inr (.inl ⟨_, s_refSet (m, s.2) k (op, pc, r, l, ()) hl hl2, ?_⟩)); conv => whnf) | (refine And.intro ?_ ?_ <;> conv => whnf) | exact rfl)
  conv => whnf
  first | exact .inl rfl | exact .inr rfl
theorem s_refThen (s : Sy) (k op pc0 pc o a b c : Int) (r : R8) (l : Li) (hl : s.2.1.length ≤ 1000) (hl2 : ∀ c ∈ s.2.1, c.1.length ≤ 1000) : Spec Tryz.prog 140 [vS s, vI k, vF (op, pc0, r, l, ()), vI pc, vI o, vI a, vI b, vI c] (vS (callS (setS s k (op, pc, r, l, ())) k o a b c)) := by
  have hs : (setS s k (op, pc, r, l, ())).2.1.length ≤ 1000000 := by
    unfold setS
    split
    · show (List.set _ _ _).length ≤ _
      rw [List.length_set]; omega
    · omega
  refine spec_introF true tab_ok 0 Tryz.func140 rfl (by kernel_rfl) rfl ?_
  conv => whnf
  first | refine .inr (.inl ⟨_, s_refSet s k (op, pc, r, l, ()) hl hl2, ?_⟩) | refine .inl (.inr (.inl ⟨_, s_refSet s k (op, pc, r, l, ()) hl hl2, ?_⟩))
  conv => whnf
  first | refine .inr (.inl ⟨_, s_refCall (setS s k (op, pc, r, l, ())) k o a b c hs, ?_⟩) | refine .inl (.inr (.inl ⟨_, s_refCall (setS s k (op, pc, r, l, ())) k o a b c hs, ?_⟩))
  conv => whnf
  first | exact .inl rfl | exact .inr rfl
end Go.Proofs.YtpobngddiifdpaaGreat.V

set_option linter.unusedSimpArgs false
set_option linter.unusedVariables false
namespace Go.Proofs.YtpobngddiifdpaaGreat.V
open Go Go.RowKit Go.Proofs.YtpobngddiifdpaaGreat.Hz
set_option maxRecDepth 100000

theorem s_refLog (s : Sy) (k c kind a b v : Int) (hl : s.2.2.1.length ≤ 900000) : Spec Tryz.prog 146 [vS s, vI k, vE (c, kind, a, b, v, ())] (vS (logS s k kind a b v)) := by
  have no : ¬ (0 ≤ k ∧ k < s.2.1.length) → logS s k kind a b v = s := fun h => if_neg (by unfold isCoreB; rw [Bool.and_eq_true, decide_eq_true_eq, decide_eq_true_eq]; exact h)
  have yes : 0 ≤ k ∧ k < s.2.1.length → logS s k kind a b v = (s.1, s.2.1, List.append (α := Evt) s.2.2.1 [(k, kind, a, b, v, ())], ()) := fun h => if_pos (by unfold isCoreB; rw [Bool.and_eq_true, decide_eq_true_eq, decide_eq_true_eq]; exact h)
  refine spec_introF true tab_ok 0 Tryz.func146 rfl (by kernel_rfl) rfl ?_
  conv => whnf
  refine dcase (fun h => ?_) (fun h => ?_)
  · rw [no (by omega)]
    conv => whnf
    first | exact .inl rfl | exact .inr rfl
  conv => whnf
  refine dcase (fun h1 => ?_) (fun h1 => ?_)
  · rw [no (by omega)]
    conv => whnf
    first | exact .inl rfl | exact .inr rfl
  rw [yes (by omega)]
  conv => whnf
  repeat (refine ⟨by first | omega | (simp only [Option.getD_none, Option.getD_some]; omega) | (simp; done) | (simp; omega), ?_⟩; conv => whnf)
  refine ⟨p_hazelref03_Log_4, g_hazelref03_Log_4, by kernel_rfl, ?st1, ?_, ?_⟩
  rotate_left
  · conv => whnf
    repeat' (first | (refine ⟨by first | omega | (simp only [Option.getD_none, Option.getD_some]; omega) | (simp; done) | (simp; omega), ?_⟩; conv => whnf) | (refine ⟨Nat.le_trans (Nat.succ_le_succ hl) (le_most (by decide)), ?_⟩; conv => whnf) | (refine ⟨List.cons_ne_nil _ _, ?_⟩; conv => whnf) | (refine ⟨le_most (by omega), ?_⟩; conv => whnf) | (refine And.intro ?_ ?_ <;> conv => whnf) | exact rfl)
  conv => whnf
  first | exact .inl rfl | exact .inr rfl
theorem s_refPop0 (s : Sy) (k op : Int) (r : R8) (l : Li) (hf : Fine s) : Spec Tryz.prog 209 [vS s, vI k, vF (op, (0 : Int), r, l, ())] (vS (pop0 s k op r l)) := by
  have hb : ∀ v e, Spec Tryz.prog 141 [vS (logS (loadM s.1 0, s.2) k 9 0 0 0), vI k, vI v, vI e] (vS (backS (logS (loadM s.1 0, s.2) k 9 0 0 0) k v e)) := fun v e => s_refBack _ k v e (by erw [(logS_cores _ _ _ _ _ _).1]; exact hf.cores) (by erw [(logS_cores _ _ _ _ _ _).1]; exact hf.frames)
  have hg : s.1.2.1.length ≤ 1000000 := Nat.le_trans hf.fits.2 (by decide)
  obtain ⟨w, hw⟩ : ∃ w, loadI s.1 0 = w := ⟨_, rfl⟩
  have hL := s_refLoad s.1 0 hg
  have hp : pop0 s k op r l = if idxI w = 0 then backS (logS (loadM s.1 0, s.2) k 9 0 0 0) k 0 2 else setS (loadM s.1 0, s.2) k (op, (1 : Int), (w, r.2), l, ()) := by rw [← hw]; rfl
  rw [hw] at hL
  rw [hp]
  clear hp hw
  obtain ⟨i, hi⟩ : ∃ i, idxI w = i := ⟨_, rfl⟩
  have hI := s_refIndex w
  rw [hi] at hI
  rw [hi]
  clear hi
  refine spec_introF true tab_ok 0 Tryz.func209 rfl (by kernel_rfl) rfl ?_
  conv => whnf
  first | refine .inr (.inl ⟨_, hL, ?_⟩) | refine .inl (.inr (.inl ⟨_, hL, ?_⟩))
  conv => whnf
  repeat (refine ⟨by first | omega | (simp only [Option.getD_none, Option.getD_some]; omega) | (simp; done) | (simp; omega), ?_⟩; conv => whnf)
  first | refine .inl ⟨_, hI, ?_⟩ | refine .inl (.inl ⟨_, hI, ?_⟩)
  conv => whnf
  refine dcase (fun h => ?_) (fun h => ?_)
  · rw [if_pos h]
    conv => whnf
    first | refine .inr (.inl ⟨_, s_refMem s (loadM s.1 0), ?_⟩) | refine .inl (.inr (.inl ⟨_, s_refMem s (loadM s.1 0), ?_⟩))
    conv => whnf
    repeat (refine ⟨by first | omega | (simp only [Option.getD_none, Option.getD_some]; omega) | (simp; done) | (simp; omega), ?_⟩; conv => whnf)
    first | refine .inr (.inl ⟨_, s_refLog (loadM s.1 0, s.2) k 0 9 0 0 0 hf.log, ?_⟩) | refine .inl (.inr (.inl ⟨_, s_refLog (loadM s.1 0, s.2) k 0 9 0 0 0 hf.log, ?_⟩))
    conv => whnf
    repeat (refine ⟨by first | omega | (simp only [Option.getD_none, Option.getD_some]; omega) | (simp; done) | (simp; omega), ?_⟩; conv => whnf)
    first | refine .inr (.inl ⟨_, hb 0 2, ?_⟩) | refine .inl (.inr (.inl ⟨_, hb 0 2, ?_⟩))
    conv => whnf
    repeat (refine ⟨by first | omega | (simp only [Option.getD_none, Option.getD_some]; omega) | (simp; done) | (simp; omega), ?_⟩; conv => whnf)
    first | exact .inl rfl | exact .inr rfl
  · rw [if_neg h]
    conv => whnf
    repeat (refine ⟨by first | omega | (simp only [Option.getD_none, Option.getD_some]; omega) | (simp; done) | (simp; omega), ?_⟩; conv => whnf)
    first | refine .inr (.inl ⟨_, s_refOn s k op 0 1 (loadM s.1 0) (w, r.2) l hf.cores hf.frames, ?_⟩) | refine .inl (.inr (.inl ⟨_, s_refOn s k op 0 1 (loadM s.1 0) (w, r.2) l hf.cores hf.frames, ?_⟩))
    conv => whnf
    repeat (refine ⟨by first | omega | (simp only [Option.getD_none, Option.getD_some]; omega) | (simp; done) | (simp; omega), ?_⟩; conv => whnf)
    first | exact .inl rfl | exact .inr rfl
theorem s_refPop1 (s : Sy) (k op : Int) (r : R8) (l : Li) (hf : Fine s) : Spec Tryz.prog 209 [vS s, vI k, vF (op, (1 : Int), r, l, ())] (vS (popS s k op 1 r l)) := by
  have hg : s.1.2.1.length ≤ 1000000 := Nat.le_trans hf.fits.2 (by decide)
  rw [show popS s k op 1 r l = (setS (loadM s.1 (atI (idxI r.1) 0), s.2) k (op, (2 : Int), (r.1, loadI s.1 (atI (idxI r.1) 0), r.2.2), l, ())) from rfl]
  refine spec_introF true tab_ok 0 Tryz.func209 rfl (by kernel_rfl) rfl ?_
  conv => whnf
  repeat (refine ⟨by first | omega | (simp only [Option.getD_none, Option.getD_some]; omega) | (simp; done) | (simp; omega), ?_⟩; conv => whnf)
  first | refine .inl ⟨_, s_refIndex _, ?_⟩ | refine .inl (.inl ⟨_, s_refIndex _, ?_⟩)
  conv => whnf
  repeat (refine ⟨by first | omega | (simp only [Option.getD_none, Option.getD_some]; omega) | (simp; done) | (simp; omega), ?_⟩; conv => whnf)
  refine ⟨p_hazelref04_pop_10, g_hazelref04_pop_10, by kernel_rfl, ?st2, ?_, ?_⟩
  rotate_left
  · conv => whnf
    repeat' (first | (refine ⟨by first | omega | (simp only [Option.getD_none, Option.getD_some]; omega) | (simp; done) | (simp; omega), ?_⟩; conv => whnf) | (refine .inl ⟨_, s_refIndex _, ?_⟩; conv => whnf) | (refine .inl (.inl ⟨_, s_refIndex _, ?_⟩); conv => whnf) | (refine .inl ⟨_, s_refAt _ _, ?_⟩; conv => whnf) | (refine .inl (.inl ⟨_, s_refAt _ _, ?_⟩); conv => whnf) | (refine .inr (.inl ⟨_, s_refLoad s.1 _ hg, ?_⟩); conv => whnf) | (refine .inl (.inr (.inl ⟨_, s_refLoad s.1 _ hg, ?_⟩)); conv => whnf) | (refine .inr (.inl ⟨_, s_refOn s k op 1 2 (loadM s.1 (atI (idxI r.1) 0)) (r.1, loadI s.1 (atI (idxI r.1) 0), r.2.2) l hf.cores hf.frames, ?_⟩); conv => whnf) | (refine .inl (.inr (.inl ⟨_, s_refOn s k op 1 2 (loadM s.1 (atI (idxI r.1) 0)) (r.1, loadI s.1 (atI (idxI r.1) 0), r.2.2) l hf.cores hf.frames, ?_⟩)); conv => whnf) | (refine And.intro ?_ ?_ <;> conv => whnf) | exact rfl)
  conv => whnf
  repeat (refine ⟨by first | omega | (simp only [Option.getD_none, Option.getD_some]; omega) | (simp; done) | (simp; omega), ?_⟩; conv => whnf)
  first | refine .inr (.inl ⟨_, s_refOn s k op 1 2 (loadM s.1 (atI (idxI r.1) 0)) (r.1, loadI s.1 (atI (idxI r.1) 0), r.2.2) l hf.cores hf.frames, ?_⟩) | refine .inl (.inr (.inl ⟨_, s_refOn s k op 1 2 (loadM s.1 (atI (idxI r.1) 0)) (r.1, loadI s.1 (atI (idxI r.1) 0), r.2.2) l hf.cores hf.frames, ?_⟩))
  conv => whnf
  repeat (refine ⟨by first | omega | (simp only [Option.getD_none, Option.getD_some]; omega) | (simp; done) | (simp; omega), ?_⟩; conv => whnf)
  first | exact .inl rfl | exact .inr rfl
theorem s_refPop2 (s : Sy) (k op : Int) (r : R8) (l : Li) (hf : Fine s) : Spec Tryz.prog 209 [vS s, vI k, vF (op, (2 : Int), r, l, ())] (vS (pop2 s k op r l)) := by
  unfold pop2
  refine spec_introF true tab_ok 0 Tryz.func209 rfl (by kernel_rfl) rfl ?_
  conv => whnf
  repeat (refine ⟨by first | omega | (simp only [Option.getD_none, Option.getD_some]; omega) | (simp; done) | (simp; omega), ?_⟩; conv => whnf)
  first | refine .inl ⟨_, s_refIndex _, ?_⟩ | refine .inl (.inl ⟨_, s_refIndex _, ?_⟩)
  conv => whnf
  repeat (refine ⟨by first | omega | (simp only [Option.getD_none, Option.getD_some]; omega) | (simp; done) | (simp; omega), ?_⟩; conv => whnf)
  refine ⟨p_hazelref04_pop_15, g_hazelref04_pop_15, by kernel_rfl, ?st3, ?_, ?_⟩
  rotate_left
  · conv => whnf
    repeat' (first | (refine ⟨by first | omega | (simp only [Option.getD_none, Option.getD_some]; omega) | (simp; done) | (simp; omega), ?_⟩; conv => whnf) | (refine .inl ⟨_, s_refNext _ _ _, ?_⟩; conv => whnf) | (refine .inl (.inl ⟨_, s_refNext _ _ _, ?_⟩); conv => whnf) | (refine .inr (.inl ⟨_, s_refCas s.1 0 r.1 (popN r) hf.fits, ?_⟩); conv => whnf) | (refine .inl (.inr (.inl ⟨_, s_refCas s.1 0 r.1 (popN r) hf.fits, ?_⟩)); conv => whnf) | (refine And.intro ?_ ?_ <;> conv => whnf) | exact rfl)
  conv => whnf
  refine ncaseb (fun h => ?_) (fun h => ?_)
  · rw [h]
    conv => whnf
    first | refine .inr (.inl ⟨_, s_refOn s k op 2 0 (casM s.1 0 r.1 (popN r)) r l hf.cores hf.frames, ?_⟩) | refine .inl (.inr (.inl ⟨_, s_refOn s k op 2 0 (casM s.1 0 r.1 (popN r)) r l hf.cores hf.frames, ?_⟩))
    conv => whnf
    repeat (refine ⟨by first | omega | (simp only [Option.getD_none, Option.getD_some]; omega) | (simp; done) | (simp; omega), ?_⟩; conv => whnf)
    first | exact .inl rfl | exact .inr rfl
  · rw [h]
    conv => whnf
    repeat (refine ⟨by first | omega | (simp only [Option.getD_none, Option.getD_some]; omega) | (simp; done) | (simp; omega), ?_⟩; conv => whnf)
    refine ⟨p_hazelref04_pop_18, g_hazelref04_pop_18, by kernel_rfl, ?st4, ?_, ?_⟩
    rotate_left
    · conv => whnf
      repeat' (first | (refine ⟨by first | omega | (simp only [Option.getD_none, Option.getD_some]; omega) | (simp; done) | (simp; omega), ?_⟩; conv => whnf) | (refine .inr (.inl ⟨_, s_refTurn (casM s.1 0 r.1 (popN r)) (idxI r.1) 1 (casM_most hf _ _ _), ?_⟩); conv => whnf) | (refine .inl (.inr (.inl ⟨_, s_refTurn (casM s.1 0 r.1 (popN r)) (idxI r.1) 1 (casM_most hf _ _ _), ?_⟩)); conv => whnf) | (refine .inr (.inl ⟨_, s_refMem s (turnM (casM s.1 0 r.1 (popN r)) (idxI r.1) 1), ?_⟩); conv => whnf) | (refine .inl (.inr (.inl ⟨_, s_refMem s (turnM (casM s.1 0 r.1 (popN r)) (idxI r.1) 1), ?_⟩)); conv => whnf) | (refine .inr (.inl ⟨_, s_refBack (turnM (casM s.1 0 r.1 (popN r)) (idxI r.1) 1, s.2) k (idxI r.1) 0 hf.cores hf.frames, ?_⟩); conv => whnf) | (refine .inl (.inr (.inl ⟨_, s_refBack (turnM (casM s.1 0 r.1 (popN r)) (idxI r.1) 1, s.2) k (idxI r.1) 0 hf.cores hf.frames, ?_⟩)); conv => whnf) | (refine And.intro ?_ ?_ <;> conv => whnf) | exact rfl)
    conv => whnf
    first | exact .inl rfl | exact .inr rfl
end Go.Proofs.YtpobngddiifdpaaGreat.V
