/- Layer 7 of the program: nodes for the asking. -/
import Derived.Test.YtjeiopkfdgllhaaV10
set_option linter.unusedSimpArgs false
set_option linter.unusedVariables false
namespace Go.Proofs.Ytjeiopkfdgllhaa.V
open Go Go.RowKit Go.Proofs.Ytjeiopkfdgllhaa.Hz
set_option maxRecDepth 100000

theorem s_cCallE (s : Sy) (k op : Int) (hl : s.2.1.length ≤ 1000) : Spec Try.prog 68 [vS s, vI k, vI op, vL []] (vS (callP s k op 0)) := by
  refine spec_introF false tab_ok 3 Try.func68 rfl (by kernel_rfl) rfl ?_
  conv => whnf
  refine .inl (.inl ⟨_, s_isCore s k, ?_⟩)
  conv => whnf
  refine ncaseb (fun h => ?_) (fun h => ?_)
  · rw [show callP s k op 0 = s from if_neg (by rw [h]; exact fun h => nomatch h.1)]
    conv => whnf
    first | exact .inl rfl | exact .inr rfl
  obtain ⟨h0, h1⟩ := isCore_yes h
  conv => whnf
  repeat (refine ⟨by first | omega | (simp only [Option.getD_none, Option.getD_some]; omega) | (simp; done) | (simp; omega), ?_⟩; conv => whnf)
  refine dcase (fun h3 => ?_) (fun h3 => ?_)
  · rw [show callP s k op 0 = s from if_neg (fun h => by have := h.2; exact absurd h3 (Int.not_le.2 (Int.ofNat_lt.2 this)))]
    conv => whnf
    first | exact .inl rfl | exact .inr rfl
  have h4 : (cAt s.2.1 k).1.length < 40 := Int.ofNat_lt.1 (Int.not_le.1 h3)
  rw [show callP s k op 0 = _ from if_pos ⟨h, h4⟩]
  unfold cAt at h4
  have hk : k.toNat < s.2.1.length := by omega
  conv => whnf
  refine ⟨Nat.le_of_ble_eq_true rfl, ?_⟩
  conv => whnf
  refine .inr ⟨_, _, 1000, Try.func70, ⟨by kernel_rfl, rfl⟩, ?_⟩
  conv => whnf
  repeat (refine ⟨by first | omega | (simp only [Option.getD_none, Option.getD_some]; omega) | (simp; done) | (simp; omega), ?_⟩; conv => whnf)
  erw [copy_all]
  repeat (refine ⟨by first | omega | (simp only [Option.getD_none, Option.getD_some]; omega) | (simp; done) | (simp; omega), ?_⟩; conv => whnf)
  refine .inr ⟨_, _, 2000, Try.func89, ⟨by kernel_rfl, rfl⟩, ?_⟩
  conv => whnf
  refine ⟨p_core_Call_1_0, [9], by kernel_rfl, ?st1, ?_, ?_⟩
  rotate_left
  · conv => whnf
    refine ⟨?_, ?_⟩
    · conv => whnf
      repeat (refine ⟨by first | omega | (simp only [Option.getD_none, Option.getD_some]; omega) | (simp; done) | (simp; omega), ?_⟩; conv => whnf)
      refine ⟨?_, ?_⟩
      · conv => whnf
        first | refine .inr (.inl ⟨_, s_clipF _, ?_⟩) | refine .inl (.inr (.inl ⟨_, s_clipF _, ?_⟩))
        conv => whnf
        refine ⟨⟨Nat.le_trans (Nat.succ_le_succ (Nat.le_of_lt h4)) (le_most (by decide)), List.cons_ne_nil _ _⟩, ?_⟩
        conv => whnf
        repeat (refine ⟨by first | omega | (simp only [Option.getD_none, Option.getD_some]; omega) | (simp; done) | (simp; omega), ?_⟩; conv => whnf)
      · conv => whnf
        first | refine .inr (.inl ⟨_, s_clipF _, ?_⟩) | refine .inl (.inr (.inl ⟨_, s_clipF _, ?_⟩))
        conv => whnf
        refine ⟨⟨Nat.le_trans (Nat.succ_le_succ (Nat.le_of_lt h4)) (le_most (by decide)), List.cons_ne_nil _ _⟩, ?_⟩
        conv => whnf
        repeat (refine ⟨by first | omega | (simp only [Option.getD_none, Option.getD_some]; omega) | (simp; done) | (simp; omega), ?_⟩; conv => whnf)
    · conv => whnf
      repeat (refine ⟨by first | omega | (simp only [Option.getD_none, Option.getD_some]; omega) | (simp; done) | (simp; omega), ?_⟩; conv => whnf)
      first | refine .inr (.inl ⟨_, s_clipF _, ?_⟩) | refine .inl (.inr (.inl ⟨_, s_clipF _, ?_⟩))
      conv => whnf
      refine ⟨⟨Nat.le_trans (Nat.succ_le_succ (Nat.le_of_lt h4)) (le_most (by decide)), List.cons_ne_nil _ _⟩, ?_⟩
      conv => whnf
      repeat (refine ⟨by first | omega | (simp only [Option.getD_none, Option.getD_some]; omega) | (simp; done) | (simp; omega), ?_⟩; conv => whnf)
  conv => whnf
  first | exact .inl rfl | exact .inr rfl
/-- Call an op, and go on behind it. -/
def thenS (s : Sy) (k op pc : Int) (r : R8) (l : Li) (o a : Int) : Sy := callP (setS s k (op, wrap64 (pc + 1), r, l, ())) k o a
theorem s_then0 (s : Sy) (k op pc o : Int) (r : R8) (l : Li) (hf : Fine s) : Spec Try.prog 48 [vS s, vI k, vF (op, pc, r, l, ()), vI o, .one .nilsl] (vS (thenS s k op pc r l o 0)) := by
  refine spec_introF false tab_ok 0 Try.func48 rfl (by kernel_rfl) rfl ?_
  conv => whnf
  first | refine .inr (.inl ⟨_, s_cSet s k (op, wrap64 (pc + 1), r, l, ()) hf.cores hf.frames, ?_⟩) | refine .inl (.inr (.inl ⟨_, s_cSet s k (op, wrap64 (pc + 1), r, l, ()) hf.cores hf.frames, ?_⟩))
  conv => whnf
  first | refine .inr (.inl ⟨_, s_cCallE (setS s k (op, wrap64 (pc + 1), r, l, ())) k o (setS_fine hf).cores, ?_⟩) | refine .inl (.inr (.inl ⟨_, s_cCallE (setS s k (op, wrap64 (pc + 1), r, l, ())) k o (setS_fine hf).cores, ?_⟩))
  conv => whnf
  first | exact .inl rfl | exact .inr rfl
theorem s_then1 (s : Sy) (k op pc o a : Int) (r : R8) (l : Li) (hf : Fine s) : Spec Try.prog 48 [vS s, vI k, vF (op, pc, r, l, ()), vI o, vL [a]] (vS (thenS s k op pc r l o a)) := by
  refine spec_introF false tab_ok 0 Try.func48 rfl (by kernel_rfl) rfl ?_
  conv => whnf
  first | refine .inr (.inl ⟨_, s_cSet s k (op, wrap64 (pc + 1), r, l, ()) hf.cores hf.frames, ?_⟩) | refine .inl (.inr (.inl ⟨_, s_cSet s k (op, wrap64 (pc + 1), r, l, ()) hf.cores hf.frames, ?_⟩))
  conv => whnf
  first | refine .inr (.inl ⟨_, s_cCall1 (setS s k (op, wrap64 (pc + 1), r, l, ())) k o a (setS_fine hf).cores, ?_⟩) | refine .inl (.inr (.inl ⟨_, s_cCall1 (setS s k (op, wrap64 (pc + 1), r, l, ())) k o a (setS_fine hf).cores, ?_⟩))
  conv => whnf
  first | exact .inl rfl | exact .inr rfl
abbrev cV (s : Sy) (k : Int) : Int := (cAt s.2.1 k).2.1
abbrev cE (s : Sy) (k : Int) : Int := (cAt s.2.1 k).2.2.1
/-- A step of OAlloc. -/
def allocS (s : Sy) (k op pc : Int) (r : R8) (l : Li) : Sy :=
  if pc = 0 ∨ pc = 2 then thenS s k op pc r l 1 0
  else if pc = 1 then (if cE s k = 0 then backS s k (cV s k) 0 else if (retL s k).length = 0 then backS s k 0 2 else thenS s k op pc r l 6 0)
  else if pc = 3 then backS s k (cV s k) (cE s k) else s
theorem s_alloc (s : Sy) (k op pc : Int) (r : R8) (l : Li) (h0 : 0 ≤ k) (h1 : k < s.2.1.length) (hf : Fine s) : Spec Try.prog 47 [vS s, vI k, vF (op, pc, r, l, ())] (vS (allocS s k op pc r l)) := by
  refine spec_introF false tab_ok 0 Try.func47 rfl (by kernel_rfl) rfl ?_
  conv => whnf
  repeat (refine ⟨by first | omega | (simp only [Option.getD_none, Option.getD_some]; omega) | (simp; done) | (simp; omega), ?_⟩; conv => whnf)
  refine dcase (fun c0 => ?_) (fun c0 => ?_)
  · rw [show allocS s k op pc r l = _ from if_pos (.inl c0)]
    conv => whnf
    first | refine .inr (.inl ⟨_, s_then0 s k op pc 1 r l hf, ?_⟩) | refine .inl (.inr (.inl ⟨_, s_then0 s k op pc 1 r l hf, ?_⟩))
    conv => whnf
    first | exact .inl rfl | exact .inr rfl
  conv => whnf
  refine dcase (fun c2 => ?_) (fun c2 => ?_)
  · rw [show allocS s k op pc r l = _ from if_pos (.inr c2)]
    conv => whnf
    first | refine .inr (.inl ⟨_, s_then0 s k op pc 1 r l hf, ?_⟩) | refine .inl (.inr (.inl ⟨_, s_then0 s k op pc 1 r l hf, ?_⟩))
    conv => whnf
    first | exact .inl rfl | exact .inr rfl
  have n02 : ¬ (pc = 0 ∨ pc = 2) := fun e => e.elim c0 c2
  conv => whnf
  refine dcase (fun c1 => ?_) (fun c1 => ?_)
  · conv => whnf
    refine dcase (fun e0 => ?_) (fun e0 => ?_)
    · rw [show allocS s k op pc r l = _ from (if_neg n02).trans ((if_pos c1).trans (if_pos e0))]
      conv => whnf
      first | refine .inr (.inl ⟨_, s_cBack s k (cV s k) 0 hf.cores hf.frames, ?_⟩) | refine .inl (.inr (.inl ⟨_, s_cBack s k (cV s k) 0 hf.cores hf.frames, ?_⟩))
      conv => whnf
      first | exact .inl rfl | exact .inr rfl
    conv => whnf
    refine dcase (fun l0 => ?_) (fun l0 => ?_)
    · rw [show allocS s k op pc r l = _ from (if_neg n02).trans ((if_pos c1).trans ((if_neg e0).trans (if_pos (Int.ofNat.inj l0))))]
      conv => whnf
      first | refine .inr (.inl ⟨_, s_cBack s k 0 2 hf.cores hf.frames, ?_⟩) | refine .inl (.inr (.inl ⟨_, s_cBack s k 0 2 hf.cores hf.frames, ?_⟩))
      conv => whnf
      first | exact .inl rfl | exact .inr rfl
    · rw [show allocS s k op pc r l = _ from (if_neg n02).trans ((if_pos c1).trans ((if_neg e0).trans (if_neg (fun e => l0 (congrArg Int.ofNat e)))))]
      conv => whnf
      first | refine .inr (.inl ⟨_, s_then0 s k op pc 6 r l hf, ?_⟩) | refine .inl (.inr (.inl ⟨_, s_then0 s k op pc 6 r l hf, ?_⟩))
      conv => whnf
      first | exact .inl rfl | exact .inr rfl
  conv => whnf
  refine dcase (fun c3 => ?_) (fun c3 => ?_)
  · rw [show allocS s k op pc r l = _ from (if_neg n02).trans ((if_neg c1).trans (if_pos c3))]
    conv => whnf
    first | refine .inr (.inl ⟨_, s_cBack s k (cV s k) (cE s k) hf.cores hf.frames, ?_⟩) | refine .inl (.inr (.inl ⟨_, s_cBack s k (cV s k) (cE s k) hf.cores hf.frames, ?_⟩))
    conv => whnf
    first | exact .inl rfl | exact .inr rfl
  · rw [show allocS s k op pc r l = s from (if_neg n02).trans ((if_neg c1).trans (if_neg c3))]
    conv => whnf
    first | exact .inl rfl | exact .inr rfl

theorem s_scanStepX (s : Sy) (k op pc : Int) (r : R8) (l : Li) (ho : op < 1 ∨ 6 < op) (ht : topI s k = some (op, pc, r, l, ())) (hf : Fine s) : Spec Try.prog 18 [vS s, vI k] (vS s) := by
  refine spec_introF false tab_ok 0 Try.func18 rfl (by kernel_rfl) rfl ?_
  conv => whnf
  first | refine .inr (.inl ⟨_, s_topOf ht hf, ?_⟩) | refine .inl (.inr (.inl ⟨_, s_topOf ht hf, ?_⟩))
  conv => whnf
  refine ⟨p_scan_Step_2, g_scan_Step_2, by kernel_rfl, ?st1, ?_, ?_⟩
  rotate_left
  · conv => whnf
    refine .inr (.inr ⟨500, _, s_steps, ?_⟩)
    conv => whnf
    refine ⟨fun h => absurd (show op = 5 from h) (by omega), fun _ => ⟨fun h => absurd (show op = 6 from h) (by omega), fun _ => ⟨fun h => absurd (show op = 1 from h) (by omega), fun _ => ⟨fun h => absurd (show op = 2 from h) (by omega), fun _ => ⟨fun h => absurd (show op = 3 from h) (by omega), fun _ => ⟨fun h => absurd (show op = 4 from h) (by omega), fun _ => ?_⟩⟩⟩⟩⟩⟩
    conv => whnf
  conv => whnf
  first | exact .inl rfl | exact .inr rfl
/-- No frame: nothing is done. -/
theorem s_topNo {s : Sy} {k : Int} (ht : topI s k = none) (hf : Fine s) : Spec Try.prog 40 [vS s, vI k] (vFB (dflt tFrame) false) := by
  have := s_cTop s k (fun c hc => Nat.le_trans (hf.frames c hc) (by decide))
  rw [ht] at this
  exact this
theorem s_allocStep7 (s : Sy) (k pc : Int) (r : R8) (l : Li) (ht : topI s k = some ((7 : Int), pc, r, l, ())) (hf : Fine s) : Spec Try.prog 26 [vS s, vI k] (vS (allocS s k 7 pc r l)) := by
  refine spec_introF false tab_ok 0 Try.func26 rfl (by kernel_rfl) rfl ?_
  conv => whnf
  first | refine .inr (.inl ⟨_, s_topOf ht hf, ?_⟩) | refine .inl (.inr (.inl ⟨_, s_topOf ht hf, ?_⟩))
  conv => whnf
  first | refine .inr (.inl ⟨_, s_alloc s k 7 pc r l (topI_some ht).1 (topI_some ht).2.1 hf, ?_⟩) | refine .inl (.inr (.inl ⟨_, s_alloc s k 7 pc r l (topI_some ht).1 (topI_some ht).2.1 hf, ?_⟩))
  conv => whnf
  first | exact .inl rfl | exact .inr rfl
/-- A step of ODrop. -/
def dropS (s : Sy) (k pc : Int) (r : R8) (l : Li) : Sy := if pc = 0 then thenS s k 8 pc r l 2 r.1 else if pc = 1 then backS s k r.1 0 else s
theorem s_allocStep8 (s : Sy) (k pc : Int) (r : R8) (l : Li) (ht : topI s k = some ((8 : Int), pc, r, l, ())) (hf : Fine s) : Spec Try.prog 26 [vS s, vI k] (vS (dropS s k pc r l)) := by
  refine spec_introF false tab_ok 0 Try.func26 rfl (by kernel_rfl) rfl ?_
  conv => whnf
  first | refine .inr (.inl ⟨_, s_topOf ht hf, ?_⟩) | refine .inl (.inr (.inl ⟨_, s_topOf ht hf, ?_⟩))
  conv => whnf
  refine dcase (fun c0 => ?_) (fun c0 => ?_)
  · rw [show dropS s k pc r l = _ from if_pos c0]
    conv => whnf
    repeat (refine ⟨by first | omega | (simp only [Option.getD_none, Option.getD_some]; omega) | (simp; done) | (simp; omega), ?_⟩; conv => whnf)
    first | refine .inr (.inl ⟨_, s_then1 s k 8 pc 2 (hd8 r) r l hf, ?_⟩) | refine .inl (.inr (.inl ⟨_, s_then1 s k 8 pc 2 (hd8 r) r l hf, ?_⟩))
    conv => whnf
    first | exact .inl rfl | exact .inr rfl
  conv => whnf
  refine dcase (fun c1 => ?_) (fun c1 => ?_)
  · rw [show dropS s k pc r l = _ from (if_neg c0).trans (if_pos c1)]
    conv => whnf
    repeat (refine ⟨by first | omega | (simp only [Option.getD_none, Option.getD_some]; omega) | (simp; done) | (simp; omega), ?_⟩; conv => whnf)
    first | refine .inr (.inl ⟨_, s_cBack s k (hd8 r) 0 hf.cores hf.frames, ?_⟩) | refine .inl (.inr (.inl ⟨_, s_cBack s k (hd8 r) 0 hf.cores hf.frames, ?_⟩))
    conv => whnf
    first | exact .inl rfl | exact .inr rfl
  · rw [show dropS s k pc r l = s from (if_neg c0).trans (if_neg c1)]
    conv => whnf
    first | refine .inr (.inl ⟨_, s_scanStepX s k 8 pc r l (by decide) ht hf, ?_⟩) | refine .inl (.inr (.inl ⟨_, s_scanStepX s k 8 pc r l (by decide) ht hf, ?_⟩))
    conv => whnf
    first | exact .inl rfl | exact .inr rfl
theorem s_scanStepNo (s : Sy) (k : Int) (ht : topI s k = none) (hf : Fine s) : Spec Try.prog 18 [vS s, vI k] (vS s) := by
  refine spec_introF false tab_ok 0 Try.func18 rfl (by kernel_rfl) rfl ?_
  conv => whnf
  first | refine .inr (.inl ⟨_, s_topNo ht hf, ?_⟩) | refine .inl (.inr (.inl ⟨_, s_topNo ht hf, ?_⟩))
  conv => whnf
  refine ⟨p_scan_Step_2, g_scan_Step_2, by kernel_rfl, ?st2, ?_, ?_⟩
  rotate_left
  · conv => whnf
    refine .inr (.inr ⟨500, _, s_steps, ?_⟩)
    conv => whnf
    refine ⟨fun h => absurd (show (0 : Int) = 5 from h) (by decide), fun _ => ⟨fun h => absurd (show (0 : Int) = 6 from h) (by decide), fun _ => ⟨fun h => absurd (show (0 : Int) = 1 from h) (by decide), fun _ => ⟨fun h => absurd (show (0 : Int) = 2 from h) (by decide), fun _ => ⟨fun h => absurd (show (0 : Int) = 3 from h) (by decide), fun _ => ⟨fun h => absurd (show (0 : Int) = 4 from h) (by decide), fun _ => ?_⟩⟩⟩⟩⟩⟩
    conv => whnf
  conv => whnf
  first | exact .inl rfl | exact .inr rfl
theorem s_allocStepNo (s : Sy) (k : Int) (ht : topI s k = none) (hf : Fine s) : Spec Try.prog 26 [vS s, vI k] (vS s) := by
  refine spec_introF false tab_ok 0 Try.func26 rfl (by kernel_rfl) rfl ?_
  conv => whnf
  first | refine .inr (.inl ⟨_, s_topNo ht hf, ?_⟩) | refine .inl (.inr (.inl ⟨_, s_topNo ht hf, ?_⟩))
  conv => whnf
  first | refine .inr (.inl ⟨_, s_scanStepNo s k ht hf, ?_⟩) | refine .inl (.inr (.inl ⟨_, s_scanStepNo s k ht hf, ?_⟩))
  conv => whnf
  first | exact .inl rfl | exact .inr rfl
theorem s_allocStepX (s t : Sy) (k op pc : Int) (r : R8) (l : Li) (h7 : ¬ op = 7) (h8 : ¬ op = 8) (ht : topI s k = some (op, pc, r, l, ())) (hf : Fine s) (hs : Spec Try.prog 18 [vS s, vI k] (vS t)) : Spec Try.prog 26 [vS s, vI k] (vS t) := by
  refine spec_introF false tab_ok 0 Try.func26 rfl (by kernel_rfl) rfl ?_
  conv => whnf
  first | refine .inr (.inl ⟨_, s_topOf ht hf, ?_⟩) | refine .inl (.inr (.inl ⟨_, s_topOf ht hf, ?_⟩))
  conv => whnf
  refine dcase (fun h => absurd h h7) (fun _ => ?_)
  conv => whnf
  refine dcase (fun h => absurd h h8) (fun _ => ?_)
  conv => whnf
  refine dcase (fun h => absurd h h8) (fun _ => ?_)
  conv => whnf
  first | refine .inr (.inl ⟨_, hs, ?_⟩) | refine .inl (.inr (.inl ⟨_, hs, ?_⟩))
  conv => whnf
  first | exact .inl rfl | exact .inr rfl
end Go.Proofs.Ytjeiopkfdgllhaa.V
