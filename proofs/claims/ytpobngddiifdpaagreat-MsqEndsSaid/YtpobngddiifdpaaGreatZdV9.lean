/- Layer 6 of the program: nodes are retired. -/
import Derived.Test.YtpobngddiifdpaaGreatZdV8
set_option linter.unusedSimpArgs false
set_option linter.unusedVariables false
namespace Go.Proofs.YtpobngddiifdpaaGreat.V
open Go Go.RowKit Go.Proofs.YtpobngddiifdpaaGreat.Hz
set_option maxRecDepth 100000

theorem withS_fine {s : Sy} {k : Int} {c : Cor} (hf : Fine s) (hc : c.1.length ≤ 1000) : Fine (withS s k c) where
  fits := hf.fits
  cores := by
    have : (withS s k c).2.1.length = s.2.1.length := List.length_set
    have := hf.cores
    omega
  frames := fun d hd => by
    rcases List.mem_or_eq_of_mem_set (show d ∈ s.2.1.set k.toNat c from hd) with h | h
    · exact hf.frames d h
    · rw [h]; exact hc
  log := hf.log
theorem cAt_fine {s : Sy} {k : Int} (hf : Fine s) : (cAt s.2.1 k).1.length ≤ 1000 := by
  unfold cAt
  rw [List.getD_eq_getElem?_getD]
  cases h : s.2.1[k.toNat]? with
  | none => exact Nat.zero_le _
  | some c => exact hf.frames c (List.mem_of_getElem? h)
theorem keptS_fine {s : Sy} {k : Int} {l : Li} (hf : Fine s) : Fine (keptS s k l) := withS_fine hf (cAt_fine hf)
theorem setS_fine {s : Sy} {k : Int} {f : Frm} (hf : Fine s) : Fine (setS s k f) := by
  by_cases h : (topI s k).isSome
  · rw [show setS s k f = _ from if_pos h]
    exact withS_fine hf (by
      have e : List.length (List.set (cAt s.2.1 k).1 (((cAt s.2.1 k).1.length : Int) - 1).toNat f) = (cAt s.2.1 k).1.length := List.length_set
      have := cAt_fine (k := k) hf
      exact Nat.le_trans (Nat.le_of_eq e) this)
  · rw [show setS s k f = s from if_neg h]; exact hf
theorem mem_fine {s : Sy} {m : Me} (hf : Fine s) (h : Fits m) : Fine (m, s.2) := ⟨h, hf.cores, hf.frames, hf.log⟩
theorem turnM_fits {m : Me} {p to : Int} (h : Fits m) : Fits (turnM m p to) := by
  by_cases c : 1 ≤ p ∧ p < m.2.1.length ∧ turnB (nI m.2.1 p) to = true
  · rw [show turnM m p to = _ from if_pos c]
    have e : List.length (List.set (α := Int) m.2.1 p.toNat to) = m.2.1.length := List.length_set
    exact ⟨by show m.1.length = 124 + 4 * List.length (List.set (α := Int) m.2.1 p.toNat to); rw [e]; exact h.1, by show List.length (List.set (α := Int) m.2.1 p.toNat to) ≤ 1000; rw [e]; exact h.2⟩
  · rw [show turnM m p to = _ from if_neg c]; exact h
/-- The system when a node is retired. -/
abbrev retL (s : Sy) (k : Int) : List Int := (cAt s.2.1 k).2.2.2.2.1
def retM (s : Sy) (k p : Int) : Sy := (turnM s.1 p 2, (keptS s k (snoc (retL s k) p)).2)
def retire0 (s : Sy) (k op : Int) (r : R8) (l : Li) : Sy :=
  if 200 ≤ (retL s k).length then backS s k 0 2 else
  if ((retL s k).length : Int) + 1 < 3 * s.2.1.length + 1 then backS (retM s k r.1) k r.1 0 else callP (setS (retM s k r.1) k (op, (1 : Int), r, l, ())) k 6 0
theorem s_retire0 (s : Sy) (k op : Int) (r : R8) (l : Li) (h0 : 0 ≤ k) (h1 : k < s.2.1.length) (hf : Fine s) : Spec Tryz.prog 193 [vS s, vI k, vF (op, (0 : Int), r, l, ())] (vS (retire0 s k op r l)) := by
  have hk := keptS_fine (k := k) (l := snoc (retL s k) (hd8 r)) hf
  have hm : Fine (retM s k r.1) := mem_fine hk (turnM_fits hf.fits)
  have hcl : (retM s k r.1).2.1.length = s.2.1.length := List.length_set
  refine spec_introF false tab_ok 0 Tryz.func193 rfl (by kernel_rfl) rfl ?_
  conv => whnf
  repeat (refine ⟨by first | omega | (simp only [Option.getD_none, Option.getD_some]; omega) | (simp; done) | (simp; omega), ?_⟩; conv => whnf)
  refine dcase (fun h => ?_) (fun h => ?_)
  · rw [show retire0 s k op r l = _ from if_pos (Int.ofNat_le.1 h)]
    conv => whnf
    first | refine .inr (.inl ⟨_, s_cBack s k 0 2 hf.cores hf.frames, ?_⟩) | refine .inl (.inr (.inl ⟨_, s_cBack s k 0 2 hf.cores hf.frames, ?_⟩))
    conv => whnf
    first | exact .inl rfl | exact .inr rfl
  rw [show retire0 s k op r l = _ from if_neg (fun e => h (Int.ofNat_le.2 e))]
  conv => whnf
  have hr : (retL s k).length < 200 := Int.ofNat_lt.1 (Int.not_le.1 h)
  have happ : (retL s k).length + 1 ≤ mostElems := Nat.le_trans hr (le_most (by decide))
  refine ⟨p_scan_retire_8, g_scan_retire_8, by kernel_rfl, ?st1, ?_, ?_⟩
  rotate_left
  · conv => whnf
    repeat' (first | (refine ⟨by first | omega | (simp only [Option.getD_none, Option.getD_some]; omega) | (simp; done) | (simp; omega), ?_⟩; conv => whnf) | (refine ⟨⟨happ, List.cons_ne_nil _ _⟩, ?_⟩; conv => whnf) | (refine .inr (.inl ⟨_, s_clipI _, ?_⟩); conv => whnf) | (refine .inl (.inr (.inl ⟨_, s_clipI _, ?_⟩)); conv => whnf) | (refine .inr (.inl ⟨_, s_kept s k (snoc (retL s k) (hd8 r)) h0 h1 hf.cores, ?_⟩); conv => whnf) | (refine .inl (.inr (.inl ⟨_, s_kept s k (snoc (retL s k) (hd8 r)) h0 h1 hf.cores, ?_⟩)); conv => whnf) | (refine And.intro ?_ ?_ <;> conv => whnf) | exact rfl)
  have e5 : wrap64 (((retL s k).length : Int) + 1) = ((retL s k).length : Int) + 1 := IntWalk.wrap64_in _ (by omega)
  have hkl : (keptS s k (snoc (retL s k) (hd8 r))).2.1.length = s.2.1.length := hcl
  conv => whnf
  repeat (refine ⟨by first | omega | (simp only [Option.getD_none, Option.getD_some]; omega) | (simp; done) | (simp; omega), ?_⟩; conv => whnf)
  first | refine .inr (.inl ⟨_, s_mTurn s.1 (hd8 r) 2 (by have := hf.fits.2; omega), ?_⟩) | refine .inl (.inr (.inl ⟨_, s_mTurn s.1 (hd8 r) 2 (by have := hf.fits.2; omega), ?_⟩))
  conv => whnf
  erw [e5]
  first | refine .inl ⟨_, s_Limit (((keptS s k (snoc (retL s k) (hd8 r))).2.1.length : Nat) : Int) (by omega) (by have := hk.cores; omega), ?_⟩ | refine .inl (.inl ⟨_, s_Limit (((keptS s k (snoc (retL s k) (hd8 r))).2.1.length : Nat) : Int) (by omega) (by have := hk.cores; omega), ?_⟩)
  conv => whnf
  refine dcase (fun h3 => ?_) (fun h3 => ?_)
  · have h4 : ((retL s k).length : Int) + 1 < 3 * s.2.1.length + 1 := by
      have h5 : ((retL s k).length : Int) + 1 < 3 * (((keptS s k (snoc (retL s k) (hd8 r))).2.1.length : Nat) : Int) + 1 := h3
      rw [hkl] at h5
      exact h5
    rw [show (if ((retL s k).length : Int) + 1 < 3 * s.2.1.length + 1 then backS (retM s k r.1) k r.1 0 else callP (setS (retM s k r.1) k (op, (1 : Int), r, l, ())) k 6 0) = _ from if_pos h4]
    conv => whnf
    repeat (refine ⟨by first | omega | (simp only [Option.getD_none, Option.getD_some]; omega) | (simp; done) | (simp; omega), ?_⟩; conv => whnf)
    first | refine .inr (.inl ⟨_, s_cBack (retM s k (hd8 r)) k (hd8 r) 0 hm.cores hm.frames, ?_⟩) | refine .inl (.inr (.inl ⟨_, s_cBack (retM s k (hd8 r)) k (hd8 r) 0 hm.cores hm.frames, ?_⟩))
    conv => whnf
    first | exact .inl rfl | exact .inr rfl
  · have h4 : ¬ ((retL s k).length : Int) + 1 < 3 * s.2.1.length + 1 := fun e => h3 (by
      have h5 : ((retL s k).length : Int) + 1 < 3 * (((keptS s k (snoc (retL s k) (hd8 r))).2.1.length : Nat) : Int) + 1 := by rw [hkl]; exact e
      exact h5)
    rw [show (if ((retL s k).length : Int) + 1 < 3 * s.2.1.length + 1 then backS (retM s k r.1) k r.1 0 else callP (setS (retM s k r.1) k (op, (1 : Int), r, l, ())) k 6 0) = _ from if_neg h4]
    conv => whnf
    first | refine .inr (.inl ⟨_, s_cSet (retM s k (hd8 r)) k (op, (1 : Int), r, l, ()) hm.cores hm.frames, ?_⟩) | refine .inl (.inr (.inl ⟨_, s_cSet (retM s k (hd8 r)) k (op, (1 : Int), r, l, ()) hm.cores hm.frames, ?_⟩))
    conv => whnf
    first | refine .inr (.inl ⟨_, s_cCall0 (setS (retM s k (hd8 r)) k (op, (1 : Int), r, l, ())) k 6 (setS_fine hm).cores, ?_⟩) | refine .inl (.inr (.inl ⟨_, s_cCall0 (setS (retM s k (hd8 r)) k (op, (1 : Int), r, l, ())) k 6 (setS_fine hm).cores, ?_⟩))
    conv => whnf
    first | exact .inl rfl | exact .inr rfl

def retireS (s : Sy) (k op pc : Int) (r : R8) (l : Li) : Sy := if pc = 1 then backS s k r.1 0 else if pc = 0 then retire0 s k op r l else s
theorem s_retire (s : Sy) (k op pc : Int) (r : R8) (l : Li) (h0 : 0 ≤ k) (h1 : k < s.2.1.length) (hf : Fine s) : Spec Tryz.prog 193 [vS s, vI k, vF (op, pc, r, l, ())] (vS (retireS s k op pc r l)) := by
  by_cases c1 : pc = 1
  · subst c1
    rw [show retireS s k op 1 r l = backS s k r.1 0 from if_pos rfl]
    refine spec_introF false tab_ok 0 Tryz.func193 rfl (by kernel_rfl) rfl ?_
    conv => whnf
    repeat (refine ⟨by first | omega | (simp only [Option.getD_none, Option.getD_some]; omega) | (simp; done) | (simp; omega), ?_⟩; conv => whnf)
    first | refine .inr (.inl ⟨_, s_cBack s k (hd8 r) 0 hf.cores hf.frames, ?_⟩) | refine .inl (.inr (.inl ⟨_, s_cBack s k (hd8 r) 0 hf.cores hf.frames, ?_⟩))
    conv => whnf
    first | exact .inl rfl | exact .inr rfl
  by_cases c0 : pc = 0
  · subst c0
    exact s_retire0 s k op r l h0 h1 hf
  rw [show retireS s k op pc r l = s from (if_neg c1).trans (if_neg c0)]
  refine spec_introF false tab_ok 0 Tryz.func193 rfl (by kernel_rfl) rfl ?_
  conv => whnf
  repeat (refine ⟨by first | omega | (simp only [Option.getD_none, Option.getD_some]; omega) | (simp; done) | (simp; omega), ?_⟩; conv => whnf)
  refine dcase (fun h => absurd h c1) (fun _ => ?_)
  conv => whnf
  refine dcase (fun _ => ?_) (fun h => absurd c0 h)
  conv => whnf
  first | exact .inl rfl | exact .inr rfl
theorem s_do1 (s : Sy) (k pc : Int) (r : R8) (l : Li) (ht : topI s k = some ((1 : Int), pc, r, l, ())) (hf : Fine s) (f : Frm) : Spec Tryz.prog 196 [vS s, vI k, vF f] (vS (popS s k 1 pc r l)) := by
  refine spec_introF false tab_ok 0 Tryz.func196 rfl (by kernel_rfl) rfl ?_
  conv => whnf
  first | refine .inr (.inl ⟨_, s_stackStep1 s k pc r l ht hf, ?_⟩) | refine .inl (.inr (.inl ⟨_, s_stackStep1 s k pc r l ht hf, ?_⟩))
  conv => whnf
  first | exact .inl rfl | exact .inr rfl
theorem s_do2 (s : Sy) (k pc : Int) (r : R8) (l : Li) (ht : topI s k = some ((2 : Int), pc, r, l, ())) (hf : Fine s) (f : Frm) : Spec Tryz.prog 196 [vS s, vI k, vF f] (vS (pushSt s k 2 pc r l)) := by
  refine spec_introF false tab_ok 0 Tryz.func196 rfl (by kernel_rfl) rfl ?_
  conv => whnf
  first | refine .inr (.inl ⟨_, s_stackStep2 s k pc r l ht hf, ?_⟩) | refine .inl (.inr (.inl ⟨_, s_stackStep2 s k pc r l ht hf, ?_⟩))
  conv => whnf
  first | exact .inl rfl | exact .inr rfl
theorem s_do3 (s : Sy) (k pc : Int) (r : R8) (l : Li) (ht : topI s k = some ((3 : Int), pc, r, l, ())) (hf : Fine s) (f : Frm) : Spec Tryz.prog 199 [vS s, vI k, vF f] (vS (protS s k 3 pc r l)) := by
  refine spec_introF false tab_ok 0 Tryz.func199 rfl (by kernel_rfl) rfl ?_
  conv => whnf
  first | refine .inr (.inl ⟨_, s_hazStep3 s k pc r l ht hf, ?_⟩) | refine .inl (.inr (.inl ⟨_, s_hazStep3 s k pc r l ht hf, ?_⟩))
  conv => whnf
  first | exact .inl rfl | exact .inr rfl
theorem s_do4 (s : Sy) (k pc : Int) (r : R8) (l : Li) (ht : topI s k = some ((4 : Int), pc, r, l, ())) (hf : Fine s) (f : Frm) : Spec Tryz.prog 199 [vS s, vI k, vF f] (vS (clearS s k pc r l)) := by
  refine spec_introF false tab_ok 0 Tryz.func199 rfl (by kernel_rfl) rfl ?_
  conv => whnf
  first | refine .inr (.inl ⟨_, s_hazStep4 s k pc r l ht hf, ?_⟩) | refine .inl (.inr (.inl ⟨_, s_hazStep4 s k pc r l ht hf, ?_⟩))
  conv => whnf
  first | exact .inl rfl | exact .inr rfl
theorem s_scanStep1 (s : Sy) (k pc : Int) (r : R8) (l : Li) (ht : topI s k = some ((1 : Int), pc, r, l, ())) (hf : Fine s) : Spec Tryz.prog 114 [vS s, vI k] (vS (popS s k 1 pc r l)) := by
  refine spec_introF false tab_ok 0 Tryz.func114 rfl (by kernel_rfl) rfl ?_
  conv => whnf
  first | refine .inr (.inl ⟨_, s_topOf ht hf, ?_⟩) | refine .inl (.inr (.inl ⟨_, s_topOf ht hf, ?_⟩))
  conv => whnf
  refine ⟨p_scan_Step_2, g_scan_Step_2, by kernel_rfl, ?st2, ?_, ?_⟩
  rotate_left
  · conv => whnf
    refine .inr (.inr ⟨500, _, s_steps, ?_⟩)
    conv => whnf
    refine ⟨fun h => absurd (show (1 : Int) = 5 from h) (by decide), fun _ => ⟨fun h => absurd (show (1 : Int) = 6 from h) (by decide), fun _ => ⟨fun _ => ?_, fun h => absurd rfl h⟩⟩⟩
    conv => whnf
  conv => whnf
  first | refine .inr (.inl ⟨_, s_do1 s k pc r l ht hf ((1 : Int), pc, r, l, ()), ?_⟩) | refine .inl (.inr (.inl ⟨_, s_do1 s k pc r l ht hf ((1 : Int), pc, r, l, ()), ?_⟩))
  conv => whnf
  first | exact .inl rfl | exact .inr rfl
theorem s_scanStep2 (s : Sy) (k pc : Int) (r : R8) (l : Li) (ht : topI s k = some ((2 : Int), pc, r, l, ())) (hf : Fine s) : Spec Tryz.prog 114 [vS s, vI k] (vS (pushSt s k 2 pc r l)) := by
  refine spec_introF false tab_ok 0 Tryz.func114 rfl (by kernel_rfl) rfl ?_
  conv => whnf
  first | refine .inr (.inl ⟨_, s_topOf ht hf, ?_⟩) | refine .inl (.inr (.inl ⟨_, s_topOf ht hf, ?_⟩))
  conv => whnf
  refine ⟨p_scan_Step_2, g_scan_Step_2, by kernel_rfl, ?st3, ?_, ?_⟩
  rotate_left
  · conv => whnf
    refine .inr (.inr ⟨500, _, s_steps, ?_⟩)
    conv => whnf
    refine ⟨fun h => absurd (show (2 : Int) = 5 from h) (by decide), fun _ => ⟨fun h => absurd (show (2 : Int) = 6 from h) (by decide), fun _ => ⟨fun h => absurd (show (2 : Int) = 1 from h) (by decide), fun _ => ⟨fun _ => ?_, fun h => absurd rfl h⟩⟩⟩⟩
    conv => whnf
  conv => whnf
  first | refine .inr (.inl ⟨_, s_do2 s k pc r l ht hf ((2 : Int), pc, r, l, ()), ?_⟩) | refine .inl (.inr (.inl ⟨_, s_do2 s k pc r l ht hf ((2 : Int), pc, r, l, ()), ?_⟩))
  conv => whnf
  first | exact .inl rfl | exact .inr rfl
theorem s_scanStep3 (s : Sy) (k pc : Int) (r : R8) (l : Li) (ht : topI s k = some ((3 : Int), pc, r, l, ())) (hf : Fine s) : Spec Tryz.prog 114 [vS s, vI k] (vS (protS s k 3 pc r l)) := by
  refine spec_introF false tab_ok 0 Tryz.func114 rfl (by kernel_rfl) rfl ?_
  conv => whnf
  first | refine .inr (.inl ⟨_, s_topOf ht hf, ?_⟩) | refine .inl (.inr (.inl ⟨_, s_topOf ht hf, ?_⟩))
  conv => whnf
  refine ⟨p_scan_Step_2, g_scan_Step_2, by kernel_rfl, ?st4, ?_, ?_⟩
  rotate_left
  · conv => whnf
    refine .inr (.inr ⟨500, _, s_steps, ?_⟩)
    conv => whnf
    refine ⟨fun h => absurd (show (3 : Int) = 5 from h) (by decide), fun _ => ⟨fun h => absurd (show (3 : Int) = 6 from h) (by decide), fun _ => ⟨fun h => absurd (show (3 : Int) = 1 from h) (by decide), fun _ => ⟨fun h => absurd (show (3 : Int) = 2 from h) (by decide), fun _ => ⟨fun _ => ?_, fun h => absurd rfl h⟩⟩⟩⟩⟩
    conv => whnf
  conv => whnf
  first | refine .inr (.inl ⟨_, s_do3 s k pc r l ht hf ((3 : Int), pc, r, l, ()), ?_⟩) | refine .inl (.inr (.inl ⟨_, s_do3 s k pc r l ht hf ((3 : Int), pc, r, l, ()), ?_⟩))
  conv => whnf
  first | exact .inl rfl | exact .inr rfl
theorem s_scanStep4 (s : Sy) (k pc : Int) (r : R8) (l : Li) (ht : topI s k = some ((4 : Int), pc, r, l, ())) (hf : Fine s) : Spec Tryz.prog 114 [vS s, vI k] (vS (clearS s k pc r l)) := by
  refine spec_introF false tab_ok 0 Tryz.func114 rfl (by kernel_rfl) rfl ?_
  conv => whnf
  first | refine .inr (.inl ⟨_, s_topOf ht hf, ?_⟩) | refine .inl (.inr (.inl ⟨_, s_topOf ht hf, ?_⟩))
  conv => whnf
  refine ⟨p_scan_Step_2, g_scan_Step_2, by kernel_rfl, ?st5, ?_, ?_⟩
  rotate_left
  · conv => whnf
    refine .inr (.inr ⟨500, _, s_steps, ?_⟩)
    conv => whnf
    refine ⟨fun h => absurd (show (4 : Int) = 5 from h) (by decide), fun _ => ⟨fun h => absurd (show (4 : Int) = 6 from h) (by decide), fun _ => ⟨fun h => absurd (show (4 : Int) = 1 from h) (by decide), fun _ => ⟨fun h => absurd (show (4 : Int) = 2 from h) (by decide), fun _ => ⟨fun h => absurd (show (4 : Int) = 3 from h) (by decide), fun _ => ⟨fun _ => ?_, fun h => absurd rfl h⟩⟩⟩⟩⟩⟩
    conv => whnf
  conv => whnf
  first | refine .inr (.inl ⟨_, s_do4 s k pc r l ht hf ((4 : Int), pc, r, l, ()), ?_⟩) | refine .inl (.inr (.inl ⟨_, s_do4 s k pc r l ht hf ((4 : Int), pc, r, l, ()), ?_⟩))
  conv => whnf
  first | exact .inl rfl | exact .inr rfl
theorem s_scanStep5 (s : Sy) (k pc : Int) (r : R8) (l : Li) (ht : topI s k = some ((5 : Int), pc, r, l, ())) (hf : Fine s) : Spec Tryz.prog 114 [vS s, vI k] (vS (retireS s k 5 pc r l)) := by
  refine spec_introF false tab_ok 0 Tryz.func114 rfl (by kernel_rfl) rfl ?_
  conv => whnf
  first | refine .inr (.inl ⟨_, s_topOf ht hf, ?_⟩) | refine .inl (.inr (.inl ⟨_, s_topOf ht hf, ?_⟩))
  conv => whnf
  refine ⟨p_scan_Step_2, g_scan_Step_2, by kernel_rfl, ?st6, ?_, ?_⟩
  rotate_left
  · conv => whnf
    refine .inr (.inr ⟨500, _, s_steps, ?_⟩)
    conv => whnf
    refine ⟨fun _ => ?_, fun h => absurd rfl h⟩
    conv => whnf
  conv => whnf
  first | refine .inr (.inl ⟨_, s_retire s k 5 pc r l (topI_some ht).1 (topI_some ht).2.1 hf, ?_⟩) | refine .inl (.inr (.inl ⟨_, s_retire s k 5 pc r l (topI_some ht).1 (topI_some ht).2.1 hf, ?_⟩))
  conv => whnf
  first | exact .inl rfl | exact .inr rfl
end Go.Proofs.YtpobngddiifdpaaGreat.V
