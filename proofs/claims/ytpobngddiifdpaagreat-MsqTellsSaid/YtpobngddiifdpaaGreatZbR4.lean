/- The document's slots' steps, and retired nodes. -/
import Derived.Test.YtpobngddiifdpaaGreatZbR3
set_option linter.unusedSimpArgs false
set_option linter.unusedVariables false
namespace Go.Proofs.YtpobngddiifdpaaGreat.V
open Go Go.RowKit Go.Proofs.YtpobngddiifdpaaGreat.Hz
set_option maxRecDepth 100000

theorem callS_P (s : Sy) (k op a : Int) : callS s k op a 0 0 = callP s k op a := by
  have e : isCoreB s k = true ↔ 0 ≤ k ∧ k < s.2.1.length := by unfold isCoreB; rw [Bool.and_eq_true, decide_eq_true_eq, decide_eq_true_eq]
  by_cases c : 0 ≤ k ∧ k < s.2.1.length ∧ (cAt s.2.1 k).1.length < 40
  · exact (if_pos c).trans (if_pos (⟨e.2 ⟨c.1, c.2.1⟩, c.2.2⟩ : isCoreB s k = true ∧ (cAt s.2.1 k).1.length < 40)).symm
  · exact (if_neg c).trans (if_neg (fun h : isCoreB s k = true ∧ (cAt s.2.1 k).1.length < 40 => c ⟨(e.1 h.1).1, (e.1 h.1).2, h.2⟩)).symm
def hazF (s : Sy) (k op pc : Int) (r : R8) (l : Li) : Sy := if op = 3 then protS s k 3 pc r l else if op = 4 then clearS s k pc r l else s
theorem s_refHaz (s : Sy) (k op pc : Int) (r : R8) (l : Li) (ht : topI s k = some (op, pc, r, l, ())) (hf : Fine s) : Spec Tryz.prog 188 [vS s, vI k] (vS (hazF s k op pc r l)) := by
  have hg : s.1.2.1.length ≤ 1000000 := Nat.le_trans hf.fits.2 (by decide)
  have hw : s.1.1.length ≤ 1000000 := by have := hf.fits.1; have := hf.fits.2; omega
  refine spec_introF false tab_ok 0 Tryz.func188 rfl (by kernel_rfl) rfl ?_
  conv => whnf
  first | refine .inr (.inl ⟨_, s_refTopOf ht hf, ?_⟩) | refine .inl (.inr (.inl ⟨_, s_refTopOf ht hf, ?_⟩))
  conv => whnf
  repeat (refine ⟨by first | omega | (simp only [Option.getD_none, Option.getD_some]; omega) | (simp; done) | (simp; omega), ?_⟩; conv => whnf)
  refine dcase (fun h => ?_) (fun h => ?_)
  · have h : op = 3 := h
    subst h
    rw [show hazF s k 3 pc r l = _ from if_pos rfl]
    conv => whnf
    repeat (refine ⟨by first | omega | (simp only [Option.getD_none, Option.getD_some]; omega) | (simp; done) | (simp; omega), ?_⟩; conv => whnf)
    first | refine .inr (.inl ⟨_, s_refProt s k 3 pc r l hf, ?_⟩) | refine .inl (.inr (.inl ⟨_, s_refProt s k 3 pc r l hf, ?_⟩))
    conv => whnf
    repeat (refine ⟨by first | omega | (simp only [Option.getD_none, Option.getD_some]; omega) | (simp; done) | (simp; omega), ?_⟩; conv => whnf)
    first | exact .inl rfl | exact .inr rfl
  conv => whnf
  repeat (refine ⟨by first | omega | (simp only [Option.getD_none, Option.getD_some]; omega) | (simp; done) | (simp; omega), ?_⟩; conv => whnf)
  refine dcase (fun h4 => ?_) (fun h4 => ?_)
  · rw [show hazF s k op pc r l = s from (if_neg h).trans (if_neg h4)]
    conv => whnf
    repeat (refine ⟨by first | omega | (simp only [Option.getD_none, Option.getD_some]; omega) | (simp; done) | (simp; omega), ?_⟩; conv => whnf)
    first | exact .inl rfl | exact .inr rfl
  have h4 : op = 4 := Decidable.not_not.1 h4
  subst h4
  rw [show hazF s k 4 pc r l = _ from (if_neg (by decide)).trans (if_pos rfl)]
  conv => whnf
  repeat (refine ⟨by first | omega | (simp only [Option.getD_none, Option.getD_some]; omega) | (simp; done) | (simp; omega), ?_⟩; conv => whnf)
  refine dcase (fun h5 => ?_) (fun h5 => ?_) <;> simp only at h5
  · rw [show clearS s k pc r l = s from if_neg (by omega)]
    conv => whnf
    repeat (refine ⟨by first | omega | (simp only [Option.getD_none, Option.getD_some]; omega) | (simp; done) | (simp; omega), ?_⟩; conv => whnf)
    first | exact .inl rfl | exact .inr rfl
  conv => whnf
  repeat (refine ⟨by first | omega | (simp only [Option.getD_none, Option.getD_some]; omega) | (simp; done) | (simp; omega), ?_⟩; conv => whnf)
  refine dcase (fun h6 => ?_) (fun h6 => ?_) <;> simp only at h6
  · rw [show clearS s k pc r l = s from if_neg (by omega)]
    conv => whnf
    repeat (refine ⟨by first | omega | (simp only [Option.getD_none, Option.getD_some]; omega) | (simp; done) | (simp; omega), ?_⟩; conv => whnf)
    first | exact .inl rfl | exact .inr rfl
  conv => whnf
  repeat (refine ⟨by first | omega | (simp only [Option.getD_none, Option.getD_some]; omega) | (simp; done) | (simp; omega), ?_⟩; conv => whnf)
  refine ⟨p_hazelref05_Step_6, g_hazelref05_Step_6, by kernel_rfl, ?st1, ?_, ?_⟩
  rotate_left
  · skip
    conv => whnf
    repeat (refine ⟨by first | omega | (simp only [Option.getD_none, Option.getD_some]; omega) | (simp; done) | (simp; omega), ?_⟩; conv => whnf)
    repeat' (first | (refine ⟨by first | omega | (simp only [Option.getD_none, Option.getD_some]; omega) | (simp; done) | (simp; omega), ?_⟩; conv => whnf) | (refine .inl ⟨_, s_refPlace _ _, ?_⟩; conv => whnf) | (refine .inl (.inl ⟨_, s_refPlace _ _, ?_⟩); conv => whnf) | (refine .inr (.inl ⟨_, s_refStore s.1 (placeI k pc) 0 hg hw, ?_⟩); conv => whnf) | (refine .inl (.inr (.inl ⟨_, s_refStore s.1 (placeI k pc) 0 hg hw, ?_⟩)); conv => whnf) | (refine And.intro ?_ ?_ <;> conv => whnf) | exact rfl)
  conv => whnf
  repeat (refine ⟨by first | omega | (simp only [Option.getD_none, Option.getD_some]; omega) | (simp; done) | (simp; omega), ?_⟩; conv => whnf)
  refine dcase (fun h3 => ?_) (fun h3 => ?_) <;> simp only at h3
  · rw [show clearS s k pc r l = _ from (if_pos (by omega)).trans (if_pos h3)]
    conv => whnf
    repeat (refine ⟨by first | omega | (simp only [Option.getD_none, Option.getD_some]; omega) | (simp; done) | (simp; omega), ?_⟩; conv => whnf)
    first | refine .inr (.inl ⟨_, s_refMem s (storeM s.1 (placeI k pc) 0), ?_⟩) | refine .inl (.inr (.inl ⟨_, s_refMem s (storeM s.1 (placeI k pc) 0), ?_⟩))
    conv => whnf
    repeat (refine ⟨by first | omega | (simp only [Option.getD_none, Option.getD_some]; omega) | (simp; done) | (simp; omega), ?_⟩; conv => whnf)
    first | refine .inr (.inl ⟨_, s_refBack (storeM s.1 (placeI k pc) 0, s.2) k 0 0 hf.cores hf.frames, ?_⟩) | refine .inl (.inr (.inl ⟨_, s_refBack (storeM s.1 (placeI k pc) 0, s.2) k 0 0 hf.cores hf.frames, ?_⟩))
    conv => whnf
    repeat (refine ⟨by first | omega | (simp only [Option.getD_none, Option.getD_some]; omega) | (simp; done) | (simp; omega), ?_⟩; conv => whnf)
    first | exact .inl rfl | exact .inr rfl
  · rw [show clearS s k pc r l = _ from (if_pos (by omega)).trans (if_neg h3)]
    conv => whnf
    repeat (refine ⟨by first | omega | (simp only [Option.getD_none, Option.getD_some]; omega) | (simp; done) | (simp; omega), ?_⟩; conv => whnf)
    have e : wrap64 (pc + 1) = pc + 1 := IntWalk.wrap64_in _ (by omega)
    erw [e]
    first | refine .inr (.inl ⟨_, s_refOn s k 4 pc (pc + 1) (storeM s.1 (placeI k pc) 0) r l hf.cores hf.frames, ?_⟩) | refine .inl (.inr (.inl ⟨_, s_refOn s k 4 pc (pc + 1) (storeM s.1 (placeI k pc) 0) r l hf.cores hf.frames, ?_⟩))
    conv => whnf
    repeat (refine ⟨by first | omega | (simp only [Option.getD_none, Option.getD_some]; omega) | (simp; done) | (simp; omega), ?_⟩; conv => whnf)
    first | exact .inl rfl | exact .inr rfl
theorem s_refKept (s : Sy) (k : Int) (l : Li) (h0 : 0 ≤ k) (h1 : k < s.2.1.length) (hl : s.2.1.length ≤ 1000) : Spec Tryz.prog 206 [vS s, vI k, vL l] (vS (keptS s k l)) := by
  refine spec_introF false tab_ok 0 Tryz.func206 rfl (by kernel_rfl) rfl ?_
  conv => whnf
  repeat (refine ⟨by first | omega | (simp only [Option.getD_none, Option.getD_some]; omega) | (simp; done) | (simp; omega), ?_⟩; conv => whnf)
  first | refine .inr (.inl ⟨_, s_refWith s k ((cAt s.2.1 k).1, (cAt s.2.1 k).2.1, (cAt s.2.1 k).2.2.1, (cAt s.2.1 k).2.2.2.1, l, ()) h0 h1 (by omega), ?_⟩) | refine .inl (.inr (.inl ⟨_, s_refWith s k ((cAt s.2.1 k).1, (cAt s.2.1 k).2.1, (cAt s.2.1 k).2.2.1, (cAt s.2.1 k).2.2.2.1, l, ()) h0 h1 (by omega), ?_⟩))
  conv => whnf
  repeat (refine ⟨by first | omega | (simp only [Option.getD_none, Option.getD_some]; omega) | (simp; done) | (simp; omega), ?_⟩; conv => whnf)
  first | exact .inl rfl | exact .inr rfl
theorem s_refLimit (n : Int) (h0 : 0 ≤ n) (h1 : n ≤ 1000000) : Spec Tryz.prog 207 [vI n] (vI (3 * n + 1)) := by
  refine spec_introF true tab_ok 0 Tryz.func207 rfl (by kernel_rfl) rfl ?_
  conv => whnf
  intro a ha
  rw [IntWalk.wrap64_in _ (by omega)] at ha
  conv => whnf
  intro b hb
  rw [IntWalk.wrap64_in _ (by omega)] at hb
  conv => whnf
  rw [hb, ha]
  first | exact .inl rfl | exact .inr rfl
theorem s_refOwn5 (op : Int) : Spec Tryz.prog 187 [vI op] (vB (or2 op 3 4)) := by
  refine spec_introF false tab_ok 0 Tryz.func187 rfl (by kernel_rfl) rfl ?_
  conv => whnf
  refine dcase (fun h => ?_) (fun h => ?_)
  · skip
    conv => whnf
    repeat (refine ⟨by first | omega | (simp only [Option.getD_none, Option.getD_some]; omega) | (simp; done) | (simp; omega), ?_⟩; conv => whnf)
    rw [show or2 op 3 4 = true from by unfold or2; rw [decide_eq_true h]; rfl]
    first | exact .inl rfl | exact .inr rfl
  · skip
    conv => whnf
    repeat (refine ⟨by first | omega | (simp only [Option.getD_none, Option.getD_some]; omega) | (simp; done) | (simp; omega), ?_⟩; conv => whnf)
    rw [show or2 op 3 4 = decide (op = 4) from by unfold or2; rw [decide_eq_false h]; rfl]
    first | exact .inl rfl | exact .inr rfl
theorem s_refRetire0 (s : Sy) (k op : Int) (r : R8) (l : Li) (h0 : 0 ≤ k) (h1 : k < s.2.1.length) (hf : Fine s) : Spec Tryz.prog 185 [vS s, vI k, vF (op, (0 : Int), r, l, ())] (vS (retire0 s k op r l)) := by
  have hk := keptS_fine (k := k) (l := snoc (retL s k) (hd8 r)) hf
  have hm : Fine (retM s k r.1) := mem_fine hk (turnM_fits hf.fits)
  have hcl : (retM s k r.1).2.1.length = s.2.1.length := List.length_set
  refine spec_introF true tab_ok 0 Tryz.func185 rfl (by kernel_rfl) rfl ?_
  conv => whnf
  repeat (refine ⟨by first | omega | (simp only [Option.getD_none, Option.getD_some]; omega) | (simp; done) | (simp; omega), ?_⟩; conv => whnf)
  refine dcase (fun h => ?_) (fun h => ?_)
  · rw [show retire0 s k op r l = _ from if_pos (Int.ofNat_le.1 h)]
    conv => whnf
    repeat (refine ⟨by first | omega | (simp only [Option.getD_none, Option.getD_some]; omega) | (simp; done) | (simp; omega), ?_⟩; conv => whnf)
    first | refine .inr (.inl ⟨_, s_refBack s k 0 2 hf.cores hf.frames, ?_⟩) | refine .inl (.inr (.inl ⟨_, s_refBack s k 0 2 hf.cores hf.frames, ?_⟩))
    conv => whnf
    repeat (refine ⟨by first | omega | (simp only [Option.getD_none, Option.getD_some]; omega) | (simp; done) | (simp; omega), ?_⟩; conv => whnf)
    first | exact .inl rfl | exact .inr rfl
  rw [show retire0 s k op r l = _ from if_neg (fun e => h (Int.ofNat_le.2 e))]
  conv => whnf
  repeat (refine ⟨by first | omega | (simp only [Option.getD_none, Option.getD_some]; omega) | (simp; done) | (simp; omega), ?_⟩; conv => whnf)
  have hr : (retL s k).length < 200 := Int.ofNat_lt.1 (Int.not_le.1 h)
  have happ : (retL s k).length + 1 ≤ mostElems := Nat.le_trans hr (le_most (by decide))
  have happ0 : (retL s k).length ≤ mostElems := Nat.le_trans (Nat.le_succ _) happ
  obtain ⟨q, hq⟩ : ∃ q : Int, q = 3 * (((keptS s k (snoc (retL s k) (hd8 r))).2.1.length : Nat) : Int) + 1 := ⟨_, rfl⟩
  have hL : Spec Tryz.prog 207 [vI (((keptS s k (snoc (retL s k) (hd8 r))).2.1.length : Nat) : Int)] (vI q) := hq ▸ s_refLimit _ (by omega) (by have := hk.cores; omega)
  have hkl : (keptS s k (snoc (retL s k) (hd8 r))).2.1.length = s.2.1.length := hcl
  have ht6 : s.1.2.1.length ≤ 1000000 := Nat.le_trans hf.fits.2 (by decide)
  refine ⟨p_hazelref06_retire_8, g_hazelref06_retire_8, by kernel_rfl, ?st2, ?_, ?_⟩
  rotate_left
  · skip
    conv => whnf
    repeat (refine ⟨by first | omega | (simp only [Option.getD_none, Option.getD_some]; omega) | (simp; done) | (simp; omega), ?_⟩; conv => whnf)
    repeat' (first | (refine ⟨by first | omega | (simp only [Option.getD_none, Option.getD_some]; omega) | (simp; done) | (simp; omega), ?_⟩; conv => whnf) | (refine ⟨happ0, ?_⟩; conv => whnf) | (refine ⟨happ, ?_⟩; conv => whnf) | (refine .inr (.inl ⟨_, s_refKept s k (snoc (retL s k) (hd8 r)) h0 h1 hf.cores, ?_⟩); conv => whnf) | (refine .inl (.inr (.inl ⟨_, s_refKept s k (snoc (retL s k) (hd8 r)) h0 h1 hf.cores, ?_⟩)); conv => whnf) | (refine And.intro ?_ ?_ <;> conv => whnf) | exact rfl)
  conv => whnf
  repeat (refine ⟨by first | omega | (simp only [Option.getD_none, Option.getD_some]; omega) | (simp; done) | (simp; omega), ?_⟩; conv => whnf)
  refine ⟨p_hazelref06_retire_9, g_hazelref06_retire_9, by kernel_rfl, ?st3, ?_, ?_⟩
  rotate_left
  · skip
    conv => whnf
    repeat (refine ⟨by first | omega | (simp only [Option.getD_none, Option.getD_some]; omega) | (simp; done) | (simp; omega), ?_⟩; conv => whnf)
    repeat' (first | (refine ⟨by first | omega | (simp only [Option.getD_none, Option.getD_some]; omega) | (simp; done) | (simp; omega), ?_⟩; conv => whnf) | (refine .inr (.inl ⟨_, s_refTurn s.1 (hd8 r) 2 ht6, ?_⟩); conv => whnf) | (refine .inl (.inr (.inl ⟨_, s_refTurn s.1 (hd8 r) 2 ht6, ?_⟩)); conv => whnf) | (refine .inr (.inl ⟨_, s_refMem (keptS s k (snoc (retL s k) (hd8 r))) (turnM s.1 (hd8 r) 2), ?_⟩); conv => whnf) | (refine .inl (.inr (.inl ⟨_, s_refMem (keptS s k (snoc (retL s k) (hd8 r))) (turnM s.1 (hd8 r) 2), ?_⟩)); conv => whnf) | (refine And.intro ?_ ?_ <;> conv => whnf) | exact rfl)
  conv => whnf
  repeat (refine ⟨by first | omega | (simp only [Option.getD_none, Option.getD_some]; omega) | (simp; done) | (simp; omega), ?_⟩; conv => whnf)
  intro z hz
  have hz : z = ((retL s k).length : Int) + 1 := hz.trans (IntWalk.wrap64_in _ (by omega))
  conv => whnf
  repeat (refine ⟨by first | omega | (simp only [Option.getD_none, Option.getD_some]; omega) | (simp; done) | (simp; omega), ?_⟩; conv => whnf)
  first | refine .inl ⟨_, hL, ?_⟩ | refine .inl (.inl ⟨_, hL, ?_⟩)
  conv => whnf
  repeat (refine ⟨by first | omega | (simp only [Option.getD_none, Option.getD_some]; omega) | (simp; done) | (simp; omega), ?_⟩; conv => whnf)
  refine dcase (fun h3 => ?_) (fun h3 => ?_)
  · have h4 : ((retL s k).length : Int) + 1 < 3 * s.2.1.length + 1 := by rw [hkl] at hq; rw [← hz, ← hq]; exact h3
    rw [show (if ((retL s k).length : Int) + 1 < 3 * s.2.1.length + 1 then backS (retM s k r.1) k r.1 0 else callP (setS (retM s k r.1) k (op, (1 : Int), r, l, ())) k 6 0) = _ from if_pos h4]
    conv => whnf
    repeat (refine ⟨by first | omega | (simp only [Option.getD_none, Option.getD_some]; omega) | (simp; done) | (simp; omega), ?_⟩; conv => whnf)
    first | refine .inr (.inl ⟨_, s_refBack (retM s k (hd8 r)) k (hd8 r) 0 hm.cores hm.frames, ?_⟩) | refine .inl (.inr (.inl ⟨_, s_refBack (retM s k (hd8 r)) k (hd8 r) 0 hm.cores hm.frames, ?_⟩))
    conv => whnf
    repeat (refine ⟨by first | omega | (simp only [Option.getD_none, Option.getD_some]; omega) | (simp; done) | (simp; omega), ?_⟩; conv => whnf)
    first | exact .inl rfl | exact .inr rfl
  · have h4 : ¬ ((retL s k).length : Int) + 1 < 3 * s.2.1.length + 1 := by rw [hkl] at hq; rw [← hz, ← hq]; exact h3
    rw [show (if ((retL s k).length : Int) + 1 < 3 * s.2.1.length + 1 then backS (retM s k r.1) k r.1 0 else callP (setS (retM s k r.1) k (op, (1 : Int), r, l, ())) k 6 0) = _ from if_neg h4]
    conv => whnf
    repeat (refine ⟨by first | omega | (simp only [Option.getD_none, Option.getD_some]; omega) | (simp; done) | (simp; omega), ?_⟩; conv => whnf)
    first | refine .inr (.inl ⟨_, s_refSet (retM s k (hd8 r)) k (op, (1 : Int), r, l, ()) hm.cores hm.frames, ?_⟩) | refine .inl (.inr (.inl ⟨_, s_refSet (retM s k (hd8 r)) k (op, (1 : Int), r, l, ()) hm.cores hm.frames, ?_⟩))
    conv => whnf
    repeat (refine ⟨by first | omega | (simp only [Option.getD_none, Option.getD_some]; omega) | (simp; done) | (simp; omega), ?_⟩; conv => whnf)
    first | refine .inr (.inl ⟨_, s_refCall (setS (retM s k (hd8 r)) k (op, (1 : Int), r, l, ())) k 6 0 0 0 (Nat.le_trans (setS_fine hm).cores (by decide)), ?_⟩) | refine .inl (.inr (.inl ⟨_, s_refCall (setS (retM s k (hd8 r)) k (op, (1 : Int), r, l, ())) k 6 0 0 0 (Nat.le_trans (setS_fine hm).cores (by decide)), ?_⟩))
    conv => whnf
    repeat (refine ⟨by first | omega | (simp only [Option.getD_none, Option.getD_some]; omega) | (simp; done) | (simp; omega), ?_⟩; conv => whnf)
    rw [callS_P]
    first | exact .inl rfl | exact .inr rfl
theorem s_refRetire (s : Sy) (k op pc : Int) (r : R8) (l : Li) (h0 : 0 ≤ k) (h1 : k < s.2.1.length) (hf : Fine s) : Spec Tryz.prog 185 [vS s, vI k, vF (op, pc, r, l, ())] (vS (retireS s k op pc r l)) := by
  by_cases c1 : pc = 1
  · subst c1
    rw [show retireS s k op 1 r l = backS s k r.1 0 from if_pos rfl]
    refine spec_introF false tab_ok 0 Tryz.func185 rfl (by kernel_rfl) rfl ?_
    conv => whnf
    repeat (refine ⟨by first | omega | (simp only [Option.getD_none, Option.getD_some]; omega) | (simp; done) | (simp; omega), ?_⟩; conv => whnf)
    first | refine .inr (.inl ⟨_, s_refBack s k (hd8 r) 0 hf.cores hf.frames, ?_⟩) | refine .inl (.inr (.inl ⟨_, s_refBack s k (hd8 r) 0 hf.cores hf.frames, ?_⟩))
    conv => whnf
    repeat (refine ⟨by first | omega | (simp only [Option.getD_none, Option.getD_some]; omega) | (simp; done) | (simp; omega), ?_⟩; conv => whnf)
    first | exact .inl rfl | exact .inr rfl
  by_cases c0 : pc = 0
  · subst c0
    exact s_refRetire0 s k op r l h0 h1 hf
  rw [show retireS s k op pc r l = s from (if_neg c1).trans (if_neg c0)]
  refine spec_introF false tab_ok 0 Tryz.func185 rfl (by kernel_rfl) rfl ?_
  conv => whnf
  repeat (refine ⟨by first | omega | (simp only [Option.getD_none, Option.getD_some]; omega) | (simp; done) | (simp; omega), ?_⟩; conv => whnf)
  refine dcase (fun h => absurd h c1) (fun _ => ?_)
  conv => whnf
  repeat (refine ⟨by first | omega | (simp only [Option.getD_none, Option.getD_some]; omega) | (simp; done) | (simp; omega), ?_⟩; conv => whnf)
  refine dcase (fun _ => ?_) (fun h => absurd c0 h)
  conv => whnf
  repeat (refine ⟨by first | omega | (simp only [Option.getD_none, Option.getD_some]; omega) | (simp; done) | (simp; omega), ?_⟩; conv => whnf)
  first | exact .inl rfl | exact .inr rfl
theorem s_refLook0 (s : Sy) (k op : Int) (r : R8) (l : Li) (hf : Fine s) (hll : l.length ≤ 1000) : Spec Tryz.prog 186 [vS s, vI k, vF (op, (0 : Int), r, l, ())] (vS (look0 s k op r l)) := by
  have hg : s.1.2.1.length ≤ 1000000 := Nat.le_trans hf.fits.2 (by decide)
  refine spec_introF false tab_ok 0 Tryz.func186 rfl (by kernel_rfl) rfl ?_
  conv => whnf
  repeat (refine ⟨by first | omega | (simp only [Option.getD_none, Option.getD_some]; omega) | (simp; done) | (simp; omega), ?_⟩; conv => whnf)
  first | refine .inr (.inl ⟨_, s_refLoad s.1 (lookP s r) hg, ?_⟩) | refine .inl (.inr (.inl ⟨_, s_refLoad s.1 (lookP s r) hg, ?_⟩))
  conv => whnf
  have hset : ∀ g : Frm, Spec Tryz.prog 190 [vS (loadM s.1 (lookP s r), s.2), vI k, vF g] (vS (setS (loadM s.1 (lookP s r), s.2) k g)) := fun g => s_refSet (loadM s.1 (lookP s r), s.2) k g hf.cores hf.frames
  unfold look0
  refine dcase (fun h => ?_) (fun h => ?_)
  · conv => whnf
    refine dcase (fun h2 => ?_) (fun h2 => ?_)
    · conv => whnf
      refine ⟨Nat.le_trans hll (le_most (by decide)), ?_⟩
      conv => whnf
      refine ⟨Nat.le_trans (Nat.succ_le_succ hll) (le_most (by decide)), ?_⟩
      conv => whnf
      repeat (refine ⟨by first | omega | (simp only [Option.getD_none, Option.getD_some]; omega) | (simp; done) | (simp; omega), ?_⟩; conv => whnf)
      refine dcase (fun h3 => ?_) (fun h3 => ?_)
      · have e : lookF s op r l = (op, (1 : Int), (wrap64 (hd8 r + 1), r.2), snoc l (loadI s.1 (lookP s r)), ()) := by
          have e1 : lookC s r = 1 := if_pos (show wrap64 (3 * s.2.1.length) ≤ wrap64 (hd8 r + 1) from h3)
          have e2 : lookL s r l = _ := if_pos ⟨h, Int.ofNat_lt.1 h2⟩
          unfold lookF
          rw [e1, e2]
          try rfl
        rw [e]
        conv => whnf
        repeat (refine ⟨by first | omega | (simp only [Option.getD_none, Option.getD_some]; omega) | (simp; done) | (simp; omega), ?_⟩; conv => whnf)
        refine ⟨p_hazelref06_scan_8, g_hazelref06_scan_8, by kernel_rfl, ?st4, ?_, ?_⟩
        rotate_left
        · skip
          conv => whnf
          repeat (refine ⟨by first | omega | (simp only [Option.getD_none, Option.getD_some]; omega) | (simp; done) | (simp; omega), ?_⟩; conv => whnf)
          repeat' (first | (refine ⟨by first | omega | (simp only [Option.getD_none, Option.getD_some]; omega) | (simp; done) | (simp; omega), ?_⟩; conv => whnf) | (refine .inr (.inl ⟨_, s_refMem s (loadM s.1 (lookP s r)), ?_⟩); conv => whnf) | (refine .inl (.inr (.inl ⟨_, s_refMem s (loadM s.1 (lookP s r)), ?_⟩)); conv => whnf) | (refine .inr (.inl ⟨_, hset (op, (1 : Int), (wrap64 (hd8 r + 1), r.2), snoc l (loadI s.1 (lookP s r)), ()), ?_⟩); conv => whnf) | (refine .inl (.inr (.inl ⟨_, hset (op, (1 : Int), (wrap64 (hd8 r + 1), r.2), snoc l (loadI s.1 (lookP s r)), ()), ?_⟩)); conv => whnf) | (refine And.intro ?_ ?_ <;> conv => whnf) | exact rfl)
        conv => whnf
        repeat (refine ⟨by first | omega | (simp only [Option.getD_none, Option.getD_some]; omega) | (simp; done) | (simp; omega), ?_⟩; conv => whnf)
        first | exact .inl rfl | exact .inr rfl
      · have e : lookF s op r l = (op, (0 : Int), (wrap64 (hd8 r + 1), r.2), snoc l (loadI s.1 (lookP s r)), ()) := by
          have e1 : lookC s r = 0 := if_neg (show ¬ wrap64 (3 * s.2.1.length) ≤ wrap64 (hd8 r + 1) from h3)
          have e2 : lookL s r l = _ := if_pos ⟨h, Int.ofNat_lt.1 h2⟩
          unfold lookF
          rw [e1, e2]
          try rfl
        rw [e]
        conv => whnf
        repeat (refine ⟨by first | omega | (simp only [Option.getD_none, Option.getD_some]; omega) | (simp; done) | (simp; omega), ?_⟩; conv => whnf)
        refine ⟨p_hazelref06_scan_8, g_hazelref06_scan_8, by kernel_rfl, ?st5, ?_, ?_⟩
        rotate_left
        · skip
          conv => whnf
          repeat (refine ⟨by first | omega | (simp only [Option.getD_none, Option.getD_some]; omega) | (simp; done) | (simp; omega), ?_⟩; conv => whnf)
          repeat' (first | (refine ⟨by first | omega | (simp only [Option.getD_none, Option.getD_some]; omega) | (simp; done) | (simp; omega), ?_⟩; conv => whnf) | (refine .inr (.inl ⟨_, s_refMem s (loadM s.1 (lookP s r)), ?_⟩); conv => whnf) | (refine .inl (.inr (.inl ⟨_, s_refMem s (loadM s.1 (lookP s r)), ?_⟩)); conv => whnf) | (refine .inr (.inl ⟨_, hset (op, (0 : Int), (wrap64 (hd8 r + 1), r.2), snoc l (loadI s.1 (lookP s r)), ()), ?_⟩); conv => whnf) | (refine .inl (.inr (.inl ⟨_, hset (op, (0 : Int), (wrap64 (hd8 r + 1), r.2), snoc l (loadI s.1 (lookP s r)), ()), ?_⟩)); conv => whnf) | (refine And.intro ?_ ?_ <;> conv => whnf) | exact rfl)
        conv => whnf
        repeat (refine ⟨by first | omega | (simp only [Option.getD_none, Option.getD_some]; omega) | (simp; done) | (simp; omega), ?_⟩; conv => whnf)
        first | exact .inl rfl | exact .inr rfl
    · conv => whnf
      repeat (refine ⟨by first | omega | (simp only [Option.getD_none, Option.getD_some]; omega) | (simp; done) | (simp; omega), ?_⟩; conv => whnf)
      refine dcase (fun h3 => ?_) (fun h3 => ?_)
      · have e : lookF s op r l = (op, (1 : Int), (wrap64 (hd8 r + 1), r.2), l, ()) := by
          have e1 : lookC s r = 1 := if_pos (show wrap64 (3 * s.2.1.length) ≤ wrap64 (hd8 r + 1) from h3)
          have e2 : lookL s r l = _ := if_neg (fun e => h2 (Int.ofNat_lt.2 e.2))
          unfold lookF
          rw [e1, e2]
          try rfl
        rw [e]
        conv => whnf
        repeat (refine ⟨by first | omega | (simp only [Option.getD_none, Option.getD_some]; omega) | (simp; done) | (simp; omega), ?_⟩; conv => whnf)
        refine ⟨p_hazelref06_scan_8, g_hazelref06_scan_8, by kernel_rfl, ?st6, ?_, ?_⟩
        rotate_left
        · skip
          conv => whnf
          repeat (refine ⟨by first | omega | (simp only [Option.getD_none, Option.getD_some]; omega) | (simp; done) | (simp; omega), ?_⟩; conv => whnf)
          repeat' (first | (refine ⟨by first | omega | (simp only [Option.getD_none, Option.getD_some]; omega) | (simp; done) | (simp; omega), ?_⟩; conv => whnf) | (refine .inr (.inl ⟨_, s_refMem s (loadM s.1 (lookP s r)), ?_⟩); conv => whnf) | (refine .inl (.inr (.inl ⟨_, s_refMem s (loadM s.1 (lookP s r)), ?_⟩)); conv => whnf) | (refine .inr (.inl ⟨_, hset (op, (1 : Int), (wrap64 (hd8 r + 1), r.2), l, ()), ?_⟩); conv => whnf) | (refine .inl (.inr (.inl ⟨_, hset (op, (1 : Int), (wrap64 (hd8 r + 1), r.2), l, ()), ?_⟩)); conv => whnf) | (refine And.intro ?_ ?_ <;> conv => whnf) | exact rfl)
        conv => whnf
        repeat (refine ⟨by first | omega | (simp only [Option.getD_none, Option.getD_some]; omega) | (simp; done) | (simp; omega), ?_⟩; conv => whnf)
        first | exact .inl rfl | exact .inr rfl
      · have e : lookF s op r l = (op, (0 : Int), (wrap64 (hd8 r + 1), r.2), l, ()) := by
          have e1 : lookC s r = 0 := if_neg (show ¬ wrap64 (3 * s.2.1.length) ≤ wrap64 (hd8 r + 1) from h3)
          have e2 : lookL s r l = _ := if_neg (fun e => h2 (Int.ofNat_lt.2 e.2))
          unfold lookF
          rw [e1, e2]
          try rfl
        rw [e]
        conv => whnf
        repeat (refine ⟨by first | omega | (simp only [Option.getD_none, Option.getD_some]; omega) | (simp; done) | (simp; omega), ?_⟩; conv => whnf)
        refine ⟨p_hazelref06_scan_8, g_hazelref06_scan_8, by kernel_rfl, ?st7, ?_, ?_⟩
        rotate_left
        · skip
          conv => whnf
          repeat (refine ⟨by first | omega | (simp only [Option.getD_none, Option.getD_some]; omega) | (simp; done) | (simp; omega), ?_⟩; conv => whnf)
          repeat' (first | (refine ⟨by first | omega | (simp only [Option.getD_none, Option.getD_some]; omega) | (simp; done) | (simp; omega), ?_⟩; conv => whnf) | (refine .inr (.inl ⟨_, s_refMem s (loadM s.1 (lookP s r)), ?_⟩); conv => whnf) | (refine .inl (.inr (.inl ⟨_, s_refMem s (loadM s.1 (lookP s r)), ?_⟩)); conv => whnf) | (refine .inr (.inl ⟨_, hset (op, (0 : Int), (wrap64 (hd8 r + 1), r.2), l, ()), ?_⟩); conv => whnf) | (refine .inl (.inr (.inl ⟨_, hset (op, (0 : Int), (wrap64 (hd8 r + 1), r.2), l, ()), ?_⟩)); conv => whnf) | (refine And.intro ?_ ?_ <;> conv => whnf) | exact rfl)
        conv => whnf
        repeat (refine ⟨by first | omega | (simp only [Option.getD_none, Option.getD_some]; omega) | (simp; done) | (simp; omega), ?_⟩; conv => whnf)
        first | exact .inl rfl | exact .inr rfl
  · conv => whnf
    repeat (refine ⟨by first | omega | (simp only [Option.getD_none, Option.getD_some]; omega) | (simp; done) | (simp; omega), ?_⟩; conv => whnf)
    refine dcase (fun h3 => ?_) (fun h3 => ?_)
    · have e : lookF s op r l = (op, (1 : Int), (wrap64 (hd8 r + 1), r.2), l, ()) := by
        have e1 : lookC s r = 1 := if_pos (show wrap64 (3 * s.2.1.length) ≤ wrap64 (hd8 r + 1) from h3)
        have e2 : lookL s r l = _ := if_neg (fun e => h e.1)
        unfold lookF
        rw [e1, e2]
        try rfl
      rw [e]
      conv => whnf
      repeat (refine ⟨by first | omega | (simp only [Option.getD_none, Option.getD_some]; omega) | (simp; done) | (simp; omega), ?_⟩; conv => whnf)
      refine ⟨p_hazelref06_scan_8, g_hazelref06_scan_8, by kernel_rfl, ?st8, ?_, ?_⟩
      rotate_left
      · skip
        conv => whnf
        repeat (refine ⟨by first | omega | (simp only [Option.getD_none, Option.getD_some]; omega) | (simp; done) | (simp; omega), ?_⟩; conv => whnf)
        repeat' (first | (refine ⟨by first | omega | (simp only [Option.getD_none, Option.getD_some]; omega) | (simp; done) | (simp; omega), ?_⟩; conv => whnf) | (refine .inr (.inl ⟨_, s_refMem s (loadM s.1 (lookP s r)), ?_⟩); conv => whnf) | (refine .inl (.inr (.inl ⟨_, s_refMem s (loadM s.1 (lookP s r)), ?_⟩)); conv => whnf) | (refine .inr (.inl ⟨_, hset (op, (1 : Int), (wrap64 (hd8 r + 1), r.2), l, ()), ?_⟩); conv => whnf) | (refine .inl (.inr (.inl ⟨_, hset (op, (1 : Int), (wrap64 (hd8 r + 1), r.2), l, ()), ?_⟩)); conv => whnf) | (refine And.intro ?_ ?_ <;> conv => whnf) | exact rfl)
      conv => whnf
      repeat (refine ⟨by first | omega | (simp only [Option.getD_none, Option.getD_some]; omega) | (simp; done) | (simp; omega), ?_⟩; conv => whnf)
      first | exact .inl rfl | exact .inr rfl
    · have e : lookF s op r l = (op, (0 : Int), (wrap64 (hd8 r + 1), r.2), l, ()) := by
        have e1 : lookC s r = 0 := if_neg (show ¬ wrap64 (3 * s.2.1.length) ≤ wrap64 (hd8 r + 1) from h3)
        have e2 : lookL s r l = _ := if_neg (fun e => h e.1)
        unfold lookF
        rw [e1, e2]
        try rfl
      rw [e]
      conv => whnf
      repeat (refine ⟨by first | omega | (simp only [Option.getD_none, Option.getD_some]; omega) | (simp; done) | (simp; omega), ?_⟩; conv => whnf)
      refine ⟨p_hazelref06_scan_8, g_hazelref06_scan_8, by kernel_rfl, ?st9, ?_, ?_⟩
      rotate_left
      · skip
        conv => whnf
        repeat (refine ⟨by first | omega | (simp only [Option.getD_none, Option.getD_some]; omega) | (simp; done) | (simp; omega), ?_⟩; conv => whnf)
        repeat' (first | (refine ⟨by first | omega | (simp only [Option.getD_none, Option.getD_some]; omega) | (simp; done) | (simp; omega), ?_⟩; conv => whnf) | (refine .inr (.inl ⟨_, s_refMem s (loadM s.1 (lookP s r)), ?_⟩); conv => whnf) | (refine .inl (.inr (.inl ⟨_, s_refMem s (loadM s.1 (lookP s r)), ?_⟩)); conv => whnf) | (refine .inr (.inl ⟨_, hset (op, (0 : Int), (wrap64 (hd8 r + 1), r.2), l, ()), ?_⟩); conv => whnf) | (refine .inl (.inr (.inl ⟨_, hset (op, (0 : Int), (wrap64 (hd8 r + 1), r.2), l, ()), ?_⟩)); conv => whnf) | (refine And.intro ?_ ?_ <;> conv => whnf) | exact rfl)
      conv => whnf
      repeat (refine ⟨by first | omega | (simp only [Option.getD_none, Option.getD_some]; omega) | (simp; done) | (simp; omega), ?_⟩; conv => whnf)
      first | exact .inl rfl | exact .inr rfl

theorem s_refLook1 (s : Sy) (k op : Int) (r : R8) (S : Li) (h0 : 0 ≤ k) (h1 : k < s.2.1.length) (hf : Fine s) (hS : S.length ≤ 1000) (hL : (retL s k).length ≤ 1000) : Spec Tryz.prog 186 [vS s, vI k, vF (op, (1 : Int), r, S, ())] (vS (look1 s k op r S)) := by
  have hb := s_refBack s k (retL s k).length 0 hf.cores hf.frames
  refine spec_introF false tab_ok 0 Tryz.func186 rfl (by kernel_rfl) rfl ?_
  conv => whnf
  repeat (refine ⟨by first | omega | (simp only [Option.getD_none, Option.getD_some]; omega) | (simp; done) | (simp; omega), ?_⟩; conv => whnf)
  refine ⟨[], [1, 3, 5, 6, 9, 10], [3, 5, 6], ?_⟩
  apply Exists.intro
  conv => whnf
  refine loopK (fun i : Int => (((retL s k).length : Int) - i).toNat) (fun i => (rg1 r < 0 ∧ i < 0) ∨ (0 ≤ rg1 r ∧ rg1 r ≤ i ∧ nextOut S (retL s k) i.toNat = nextOut S (retL s k) (rg1 r).toNat)) (fun i => ⟨lay 133 0 [(1, vI k), (3, pB 3), (5, pB 5), (6, pB 6), (9, vL (retL s k)), (10, vI i)], [(3, .cells ySys (cS s)), (5, .cells yFrame (cF (op, (1 : Int), r, S, ()))), (6, .cells ySys (zeroC tSys))], []⟩) ?_ (rg1 r) rfl rfl ?_
  rotate_left
  · by_cases h : rg1 r < 0
    · exact .inl ⟨h, h⟩
    · exact .inr ⟨by omega, Int.le_refl _, rfl⟩
  intro i ih hi hih
  by_cases a0 : 0 ≤ i
  · obtain ⟨h3, h5, h6⟩ : 0 ≤ rg1 r ∧ rg1 r ≤ i ∧ nextOut S (retL s k) i.toNat = nextOut S (retL s k) (rg1 r).toNat := hi.resolve_left (by omega)
    by_cases a1 : i < (retL s k).length
    · have h4 : i.toNat < (retL s k).length := by omega
      have e2 : wrap64 (i + 1) = i + 1 := IntWalk.wrap64_in _ (by omega)
      by_cases a2 : memB S (nI (retL s k) i) = true
      · have hin : Spec Tryz.prog 67 [vL S, vI (nI (retL s k) i)] (vB true) := a2 ▸ s_refIn S (nI (retL s k) i) (by omega)
        conv => whnf
        repeat (refine ⟨by first | omega | (simp only [Option.getD_none, Option.getD_some]; omega) | (simp; done) | (simp; omega), ?_⟩; conv => whnf)
        refine ⟨p_hazelref06_scan_13, g_hazelref06_scan_13, by kernel_rfl, ?st10, ?_, ?_⟩
        rotate_left
        · skip
          conv => whnf
          repeat (refine ⟨by first | omega | (simp only [Option.getD_none, Option.getD_some]; omega) | (simp; done) | (simp; omega), ?_⟩; conv => whnf)
          repeat' (first | (refine ⟨by first | omega | (simp only [Option.getD_none, Option.getD_some]; omega) | (simp; done) | (simp; omega), ?_⟩; conv => whnf) | ((refine dcase (fun _ => ?_) (fun h => absurd a0 h); conv => whnf)) | ((refine dcase (fun _ => ?_) (fun h => absurd a1 h); conv => whnf)) | (refine ⟨⟨a0, a1⟩, ?_⟩; conv => whnf) | (refine .inl ⟨_, hin, ?_⟩; conv => whnf) | (refine .inl (.inl ⟨_, hin, ?_⟩); conv => whnf) | (refine And.intro ?_ ?_ <;> conv => whnf) | exact rfl)
        conv => whnf
        repeat (refine ⟨by first | omega | (simp only [Option.getD_none, Option.getD_some]; omega) | (simp; done) | (simp; omega), ?_⟩; conv => whnf)
        erw [e2]
        refine hih (i + 1) (.inr ⟨h3, by omega, ?_⟩) (by omega)
        rw [← h6, show (i + 1).toNat = i.toNat + 1 by omega]
        exact nextOut_in h4 a2
      · have a3 : memB S (nI (retL s k) i) = false := by rw [Bool.not_eq_true] at a2; exact a2
        have hin : Spec Tryz.prog 67 [vL S, vI (nI (retL s k) i)] (vB false) := a3 ▸ s_refIn S (nI (retL s k) i) (by omega)
        conv => whnf
        repeat (refine ⟨by first | omega | (simp only [Option.getD_none, Option.getD_some]; omega) | (simp; done) | (simp; omega), ?_⟩; conv => whnf)
        refine ⟨p_hazelref06_scan_13, g_hazelref06_scan_13, by kernel_rfl, ?st11, ?_, ?_⟩
        rotate_left
        · skip
          conv => whnf
          repeat (refine ⟨by first | omega | (simp only [Option.getD_none, Option.getD_some]; omega) | (simp; done) | (simp; omega), ?_⟩; conv => whnf)
          repeat' (first | (refine ⟨by first | omega | (simp only [Option.getD_none, Option.getD_some]; omega) | (simp; done) | (simp; omega), ?_⟩; conv => whnf) | ((refine dcase (fun _ => ?_) (fun h => absurd a0 h); conv => whnf)) | ((refine dcase (fun _ => ?_) (fun h => absurd a1 h); conv => whnf)) | (refine ⟨⟨a0, a1⟩, ?_⟩; conv => whnf) | (refine .inl ⟨_, hin, ?_⟩; conv => whnf) | (refine .inl (.inl ⟨_, hin, ?_⟩); conv => whnf) | (refine And.intro ?_ ?_ <;> conv => whnf) | exact rfl)
        have h8 := nextOut_out h4 a3
        rw [look1_at (by omega) (h6.symm.trans h8) h4]
        have ei : ((i.toNat : Nat) : Int) = i := by omega
        have hl1 : look1a s k op r S i.toNat = callP (setS (keptS s k ((retL s k).take i.toNat ++ (retL s k).drop (i.toNat + 1))) k (op, (1 : Int), (r.1, i, r.2.2), S, ())) k 2 (nI (retL s k) i) := by
          unfold look1a
          rw [ei]
        rw [hl1]
        have e3 : (i + 1).toNat = i.toNat + 1 := by omega
        have hk := keptS_fine (k := k) (l := (retL s k).take i.toNat ++ (retL s k).drop (i.toNat + 1)) hf
        have d4 : ((some (wrap64 (i + 1))).getD 0).toNat = i.toNat + 1 := by rw [e2]; exact e3
        have hcat : List.drop ((none : Option Int).getD 0).toNat ((retL s k).take i.toNat) ++ List.drop ((some (wrap64 (i + 1))).getD 0).toNat (retL s k) = (retL s k).take i.toNat ++ (retL s k).drop (i.toNat + 1) := by rw [d4]; rfl
        have happ0 : (List.drop ((none : Option Int).getD 0).toNat ((retL s k).take i.toNat)).length ≤ mostElems := by show ((retL s k).take i.toNat).length ≤ _; rw [List.length_take]; exact le_most (by omega)
        have happ : (List.drop ((none : Option Int).getD 0).toNat ((retL s k).take i.toNat)).length + (List.drop ((some (wrap64 (i + 1))).getD 0).toNat (retL s k)).length ≤ mostElems := by rw [d4]; show ((retL s k).take i.toNat).length + _ ≤ _; rw [List.length_take, List.length_drop]; exact le_most (by omega)
        have hwl : 0 ≤ wrap64 (i + 1) ∧ wrap64 (i + 1) ≤ (retL s k).length := by rw [e2]; exact ⟨by omega, by omega⟩
        have hkp : Spec Tryz.prog 206 [vS s, vI k, vL (List.drop ((none : Option Int).getD 0).toNat ((retL s k).take i.toNat) ++ List.drop ((some (wrap64 (i + 1))).getD 0).toNat (retL s k))] (vS (keptS s k ((retL s k).take i.toNat ++ (retL s k).drop (i.toNat + 1)))) := by rw [hcat]; exact s_refKept s k _ h0 h1 hf.cores
        have hset := s_refSet (keptS s k ((retL s k).take i.toNat ++ (retL s k).drop (i.toNat + 1))) k (op, (1 : Int), (r.1, i, r.2.2), S, ()) hk.cores hk.frames
        have hcall := s_refCall (setS (keptS s k ((retL s k).take i.toNat ++ (retL s k).drop (i.toNat + 1))) k (op, (1 : Int), (r.1, i, r.2.2), S, ())) k 2 (nI (retL s k) i) 0 0 (Nat.le_trans (setS_fine hk).cores (by decide))
        rw [callS_P] at hcall
        conv => whnf
        repeat (refine ⟨by first | omega | (simp only [Option.getD_none, Option.getD_some]; omega) | (simp; done) | (simp; omega), ?_⟩; conv => whnf)
        refine dcase (fun h => absurd a0 (by omega)) (fun _ => ?_)
        conv => whnf
        repeat (refine ⟨by first | omega | (simp only [Option.getD_none, Option.getD_some]; omega) | (simp; done) | (simp; omega), ?_⟩; conv => whnf)
        refine dcase (fun h => absurd a1 (by omega)) (fun _ => ?_)
        conv => whnf
        repeat (refine ⟨by first | omega | (simp only [Option.getD_none, Option.getD_some]; omega) | (simp; done) | (simp; omega), ?_⟩; conv => whnf)
        refine ⟨p_hazelref06_scan_18, g_hazelref06_scan_18, by kernel_rfl, ?st12, ?_, ?_⟩
        rotate_left
        · skip
          conv => whnf
          repeat (refine ⟨by first | omega | (simp only [Option.getD_none, Option.getD_some]; omega) | (simp; done) | (simp; omega), ?_⟩; conv => whnf)
          repeat' (first | (refine ⟨by first | omega | (simp only [Option.getD_none, Option.getD_some]; omega) | (simp; done) | (simp; omega), ?_⟩; conv => whnf) | (refine ⟨⟨Int.le_refl _, a0, Int.le_of_lt a1⟩, ?_⟩; conv => whnf) | (refine ⟨happ0, ?_⟩; conv => whnf) | (refine ⟨hwl, ?_⟩; conv => whnf) | (refine ⟨happ, ?_⟩; conv => whnf) | (refine And.intro ?_ ?_ <;> conv => whnf) | exact rfl)
        conv => whnf
        repeat (refine ⟨by first | omega | (simp only [Option.getD_none, Option.getD_some]; omega) | (simp; done) | (simp; omega), ?_⟩; conv => whnf)
        refine ⟨p_hazelref06_scan_19, g_hazelref06_scan_19, by kernel_rfl, ?st13, ?_, ?_⟩
        rotate_left
        · skip
          conv => whnf
          repeat (refine ⟨by first | omega | (simp only [Option.getD_none, Option.getD_some]; omega) | (simp; done) | (simp; omega), ?_⟩; conv => whnf)
          repeat' (first | (refine ⟨by first | omega | (simp only [Option.getD_none, Option.getD_some]; omega) | (simp; done) | (simp; omega), ?_⟩; conv => whnf) | (refine ⟨⟨a0, a1⟩, ?_⟩; conv => whnf) | (refine .inr (.inl ⟨_, hkp, ?_⟩); conv => whnf) | (refine .inl (.inr (.inl ⟨_, hkp, ?_⟩)); conv => whnf) | (refine .inr (.inl ⟨_, hset, ?_⟩); conv => whnf) | (refine .inl (.inr (.inl ⟨_, hset, ?_⟩)); conv => whnf) | (refine .inr (.inl ⟨_, hcall, ?_⟩); conv => whnf) | (refine .inl (.inr (.inl ⟨_, hcall, ?_⟩)); conv => whnf) | (refine And.intro ?_ ?_ <;> conv => whnf) | exact rfl)
        conv => whnf
        repeat (refine ⟨by first | omega | (simp only [Option.getD_none, Option.getD_some]; omega) | (simp; done) | (simp; omega), ?_⟩; conv => whnf)
        first | exact .inl rfl | exact .inr rfl
    · have a1' : ¬ i < (retL s k).length := a1
      rw [look1_end (.inr (by rw [← h6, nextOut_end (by omega)]; omega))]
      conv => whnf
      repeat (refine ⟨by first | omega | (simp only [Option.getD_none, Option.getD_some]; omega) | (simp; done) | (simp; omega), ?_⟩; conv => whnf)
      refine ⟨p_hazelref06_scan_13, g_hazelref06_scan_13, by kernel_rfl, ?st14, ?_, ?_⟩
      rotate_left
      · skip
        conv => whnf
        repeat (refine ⟨by first | omega | (simp only [Option.getD_none, Option.getD_some]; omega) | (simp; done) | (simp; omega), ?_⟩; conv => whnf)
        repeat' (first | (refine ⟨by first | omega | (simp only [Option.getD_none, Option.getD_some]; omega) | (simp; done) | (simp; omega), ?_⟩; conv => whnf) | ((refine dcase (fun _ => ?_) (fun h => absurd a0 h); conv => whnf)) | ((refine dcase (fun h => absurd h a1') (fun _ => ?_); conv => whnf)) | (refine And.intro ?_ ?_ <;> conv => whnf) | exact rfl)
      conv => whnf
      repeat (refine ⟨by first | omega | (simp only [Option.getD_none, Option.getD_some]; omega) | (simp; done) | (simp; omega), ?_⟩; conv => whnf)
      refine dcase (fun h => absurd a0 (by omega)) (fun _ => ?_)
      conv => whnf
      repeat (refine ⟨by first | omega | (simp only [Option.getD_none, Option.getD_some]; omega) | (simp; done) | (simp; omega), ?_⟩; conv => whnf)
      refine dcase (fun _ => ?_) (fun h => absurd h (by omega))
      conv => whnf
      repeat (refine ⟨by first | omega | (simp only [Option.getD_none, Option.getD_some]; omega) | (simp; done) | (simp; omega), ?_⟩; conv => whnf)
      first | refine .inr (.inl ⟨_, hb, ?_⟩) | refine .inl (.inr (.inl ⟨_, hb, ?_⟩))
      conv => whnf
      repeat (refine ⟨by first | omega | (simp only [Option.getD_none, Option.getD_some]; omega) | (simp; done) | (simp; omega), ?_⟩; conv => whnf)
      first | exact .inl rfl | exact .inr rfl
  · rw [look1_end (.inl (by omega))]
    conv => whnf
    repeat (refine ⟨by first | omega | (simp only [Option.getD_none, Option.getD_some]; omega) | (simp; done) | (simp; omega), ?_⟩; conv => whnf)
    refine ⟨p_hazelref06_scan_13, g_hazelref06_scan_13, by kernel_rfl, ?st15, ?_, ?_⟩
    rotate_left
    · skip
      conv => whnf
      repeat (refine ⟨by first | omega | (simp only [Option.getD_none, Option.getD_some]; omega) | (simp; done) | (simp; omega), ?_⟩; conv => whnf)
      repeat' (first | (refine ⟨by first | omega | (simp only [Option.getD_none, Option.getD_some]; omega) | (simp; done) | (simp; omega), ?_⟩; conv => whnf) | ((refine dcase (fun h => absurd h a0) (fun _ => ?_); conv => whnf)) | (refine And.intro ?_ ?_ <;> conv => whnf) | exact rfl)
    conv => whnf
    repeat (refine ⟨by first | omega | (simp only [Option.getD_none, Option.getD_some]; omega) | (simp; done) | (simp; omega), ?_⟩; conv => whnf)
    refine dcase (fun _ => ?_) (fun h => absurd (Int.not_le.1 a0) h)
    conv => whnf
    repeat (refine ⟨by first | omega | (simp only [Option.getD_none, Option.getD_some]; omega) | (simp; done) | (simp; omega), ?_⟩; conv => whnf)
    first | refine .inr (.inl ⟨_, hb, ?_⟩) | refine .inl (.inr (.inl ⟨_, hb, ?_⟩))
    conv => whnf
    repeat (refine ⟨by first | omega | (simp only [Option.getD_none, Option.getD_some]; omega) | (simp; done) | (simp; omega), ?_⟩; conv => whnf)
    first | exact .inl rfl | exact .inr rfl
end Go.Proofs.YtpobngddiifdpaaGreat.V
