/- Layers 4 and 5 of the program: their steps. -/
import Derived.Test.YtpobngddiifdpaaGreatZdV7
set_option linter.unusedSimpArgs false
set_option linter.unusedVariables false
namespace Go.Proofs.YtpobngddiifdpaaGreat.V
open Go Go.RowKit Go.Proofs.YtpobngddiifdpaaGreat.Hz
set_option maxRecDepth 100000

theorem s_topOf {s : Sy} {k op pc : Int} {r : R8} {l : Li} (ht : topI s k = some (op, pc, r, l, ())) (hf : Fine s) : Spec Tryz.prog 72 [vS s, vI k] (vFB (op, pc, r, l, ()) true) := by
  have := s_cTop s k (fun c hc => Nat.le_trans (hf.frames c hc) (by decide))
  rw [ht] at this
  exact this
theorem s_stackStep1 (s : Sy) (k pc : Int) (r : R8) (l : Li) (ht : topI s k = some ((1 : Int), pc, r, l, ())) (hf : Fine s) : Spec Tryz.prog 197 [vS s, vI k] (vS (popS s k 1 pc r l)) := by
  refine spec_introF false tab_ok 0 Tryz.func197 rfl (by kernel_rfl) rfl ?_
  conv => whnf
  first | refine .inr (.inl ⟨_, s_topOf ht hf, ?_⟩) | refine .inl (.inr (.inl ⟨_, s_topOf ht hf, ?_⟩))
  conv => whnf
  first | refine .inr (.inl ⟨_, s_pop s k 1 pc r l hf, ?_⟩) | refine .inl (.inr (.inl ⟨_, s_pop s k 1 pc r l hf, ?_⟩))
  conv => whnf
  first | exact .inl rfl | exact .inr rfl
theorem s_stackStep2 (s : Sy) (k pc : Int) (r : R8) (l : Li) (ht : topI s k = some ((2 : Int), pc, r, l, ())) (hf : Fine s) : Spec Tryz.prog 197 [vS s, vI k] (vS (pushSt s k 2 pc r l)) := by
  refine spec_introF false tab_ok 0 Tryz.func197 rfl (by kernel_rfl) rfl ?_
  conv => whnf
  first | refine .inr (.inl ⟨_, s_topOf ht hf, ?_⟩) | refine .inl (.inr (.inl ⟨_, s_topOf ht hf, ?_⟩))
  conv => whnf
  first | refine .inr (.inl ⟨_, s_push s k 2 pc r l hf, ?_⟩) | refine .inl (.inr (.inl ⟨_, s_push s k 2 pc r l hf, ?_⟩))
  conv => whnf
  first | exact .inl rfl | exact .inr rfl
/-! ### Slots -/
def placeI (k i : Int) : Int := wrap64 (wrap64 (8 + wrap64 (3 * k)) + i)
theorem s_hPlace (k i : Int) : Spec Tryz.prog 184 [vI k, vI i] (vI (placeI k i)) := by
  refine spec_introF false tab_ok 0 Tryz.func184 rfl (by kernel_rfl) rfl ?_
  conv => whnf
  first | exact .inl rfl | exact .inr rfl
theorem s_hazOn (s : Sy) (k pc op pc0 : Int) (r : R8) (l : Li) (hl : s.2.1.length ≤ 1000) (hl2 : ∀ c ∈ s.2.1, c.1.length ≤ 1000) : Spec Tryz.prog 219 [vS s, vI k, vF (op, pc0, r, l, ()), vI pc] (vS (setS s k (op, pc, r, l, ()))) := by
  refine spec_introF false tab_ok 0 Tryz.func219 rfl (by kernel_rfl) rfl ?_
  conv => whnf
  first | refine .inr (.inl ⟨_, s_cSet s k (op, pc, r, l, ()) hl hl2, ?_⟩) | refine .inl (.inr (.inl ⟨_, s_cSet s k (op, pc, r, l, ()) hl hl2, ?_⟩))
  conv => whnf
  first | exact .inl rfl | exact .inr rfl
/-- Registers. -/
def r2S (r : R8) (x : Int) : R8 := (r.1, r.2.1, x, r.2.2.2)
def r23S (r : R8) (x : Int) : R8 := (r.1, r.2.1, x, x, r.2.2.2.2)
def prot0 (s : Sy) (k op : Int) (r : R8) (l : Li) : Sy := if idxI (loadI s.1 r.1) = 0 then backS (loadM s.1 r.1, s.2) k (loadI s.1 r.1) 0 else setS (loadM s.1 r.1, s.2) k (op, (1 : Int), r2S r (loadI s.1 r.1), l, ())
theorem s_prot0 (s : Sy) (k op : Int) (r : R8) (l : Li) (hf : Fine s) : Spec Tryz.prog 218 [vS s, vI k, vF (op, (0 : Int), r, l, ())] (vS (prot0 s k op r l)) := by
  refine spec_introF false tab_ok 0 Tryz.func218 rfl (by kernel_rfl) rfl ?_
  conv => whnf
  repeat (refine ⟨by first | omega | (simp only [Option.getD_none, Option.getD_some]; omega) | (simp; done) | (simp; omega), ?_⟩; conv => whnf)
  first | refine .inr (.inl ⟨_, s_mLoad s.1 r.1 hf.fits, ?_⟩) | refine .inl (.inr (.inl ⟨_, s_mLoad s.1 r.1 hf.fits, ?_⟩))
  conv => whnf
  repeat (refine ⟨by first | omega | (simp only [Option.getD_none, Option.getD_some]; omega) | (simp; done) | (simp; omega), ?_⟩; conv => whnf)
  first | refine .inl ⟨_, s_Index _, ?_⟩ | refine .inl (.inl ⟨_, s_Index _, ?_⟩)
  conv => whnf
  refine dcase (fun h => ?_) (fun h => ?_)
  · rw [show prot0 s k op r l = _ from if_pos h]
    conv => whnf
    repeat (refine ⟨by first | omega | (simp only [Option.getD_none, Option.getD_some]; omega) | (simp; done) | (simp; omega), ?_⟩; conv => whnf)
    first | refine .inr (.inl ⟨_, s_cBack (loadM s.1 r.1, s.2) k (loadI s.1 r.1) 0 hf.cores hf.frames, ?_⟩) | refine .inl (.inr (.inl ⟨_, s_cBack (loadM s.1 r.1, s.2) k (loadI s.1 r.1) 0 hf.cores hf.frames, ?_⟩))
    conv => whnf
    first | exact .inl rfl | exact .inr rfl
  · rw [show prot0 s k op r l = _ from if_neg h]
    conv => whnf
    first | refine .inr (.inl ⟨_, s_hazOn (loadM s.1 r.1, s.2) k 1 op 0 (r2S r (loadI s.1 r.1)) l hf.cores hf.frames, ?_⟩) | refine .inl (.inr (.inl ⟨_, s_hazOn (loadM s.1 r.1, s.2) k 1 op 0 (r2S r (loadI s.1 r.1)) l hf.cores hf.frames, ?_⟩))
    conv => whnf
    first | exact .inl rfl | exact .inr rfl
theorem s_prot1 (s : Sy) (k op : Int) (r : R8) (l : Li) (hf : Fine s) : Spec Tryz.prog 218 [vS s, vI k, vF (op, (1 : Int), r, l, ())] (vS (setS (storeM s.1 (placeI k r.2.1) (idxI r.2.2.1), s.2) k (op, (2 : Int), r, l, ()))) := by
  refine spec_introF false tab_ok 0 Tryz.func218 rfl (by kernel_rfl) rfl ?_
  conv => whnf
  refine ⟨p_haz_prot_8, g_haz_prot_8, by kernel_rfl, ?st1, ?_, ?_⟩
  rotate_left
  · conv => whnf
    repeat' (first | (refine ⟨by first | omega | (simp only [Option.getD_none, Option.getD_some]; omega) | (simp; done) | (simp; omega), ?_⟩; conv => whnf) | (refine .inl ⟨_, s_Index _, ?_⟩; conv => whnf) | (refine .inl (.inl ⟨_, s_Index _, ?_⟩); conv => whnf) | (refine .inl ⟨_, s_hPlace _ _, ?_⟩; conv => whnf) | (refine .inl (.inl ⟨_, s_hPlace _ _, ?_⟩); conv => whnf) | (refine .inr (.inl ⟨_, s_mStore s.1 (placeI k r.2.1) (idxI r.2.2.1) hf.fits, ?_⟩); conv => whnf) | (refine .inl (.inr (.inl ⟨_, s_mStore s.1 (placeI k r.2.1) (idxI r.2.2.1) hf.fits, ?_⟩)); conv => whnf) | (refine And.intro ?_ ?_ <;> conv => whnf) | exact rfl)
  conv => whnf
  first | refine .inr (.inl ⟨_, s_hazOn (storeM s.1 (placeI k r.2.1) (idxI r.2.2.1), s.2) k 2 op 1 r l hf.cores hf.frames, ?_⟩) | refine .inl (.inr (.inl ⟨_, s_hazOn (storeM s.1 (placeI k r.2.1) (idxI r.2.2.1), s.2) k 2 op 1 r l hf.cores hf.frames, ?_⟩))
  conv => whnf
  first | exact .inl rfl | exact .inr rfl
abbrev c8 (r : R8) : Int := r.2.2.1
def prot2 (s : Sy) (k op : Int) (r : R8) (l : Li) : Sy := if loadI s.1 r.1 = c8 r ∨ idxI (loadI s.1 r.1) = 0 then backS (loadM s.1 r.1, s.2) k (loadI s.1 r.1) 0 else setS (loadM s.1 r.1, s.2) k (op, (1 : Int), r23S r (loadI s.1 r.1), l, ())
theorem s_prot2 (s : Sy) (k op : Int) (r : R8) (l : Li) (hf : Fine s) : Spec Tryz.prog 218 [vS s, vI k, vF (op, (2 : Int), r, l, ())] (vS (prot2 s k op r l)) := by
  refine spec_introF false tab_ok 0 Tryz.func218 rfl (by kernel_rfl) rfl ?_
  conv => whnf
  repeat (refine ⟨by first | omega | (simp only [Option.getD_none, Option.getD_some]; omega) | (simp; done) | (simp; omega), ?_⟩; conv => whnf)
  first | refine .inr (.inl ⟨_, s_mLoad s.1 r.1 hf.fits, ?_⟩) | refine .inl (.inr (.inl ⟨_, s_mLoad s.1 r.1 hf.fits, ?_⟩))
  conv => whnf
  repeat (refine ⟨by first | omega | (simp only [Option.getD_none, Option.getD_some]; omega) | (simp; done) | (simp; omega), ?_⟩; conv => whnf)
  refine dcase (fun h => ?_) (fun h => ?_)
  · rw [show prot2 s k op r l = _ from if_pos (.inl h)]
    conv => whnf
    repeat (refine ⟨by first | omega | (simp only [Option.getD_none, Option.getD_some]; omega) | (simp; done) | (simp; omega), ?_⟩; conv => whnf)
    first | refine .inr (.inl ⟨_, s_cBack (loadM s.1 r.1, s.2) k (loadI s.1 r.1) 0 hf.cores hf.frames, ?_⟩) | refine .inl (.inr (.inl ⟨_, s_cBack (loadM s.1 r.1, s.2) k (loadI s.1 r.1) 0 hf.cores hf.frames, ?_⟩))
    conv => whnf
    first | exact .inl rfl | exact .inr rfl
  conv => whnf
  repeat (refine ⟨by first | omega | (simp only [Option.getD_none, Option.getD_some]; omega) | (simp; done) | (simp; omega), ?_⟩; conv => whnf)
  first | refine .inl ⟨_, s_Index _, ?_⟩ | refine .inl (.inl ⟨_, s_Index _, ?_⟩)
  conv => whnf
  refine dcase (fun h2 => ?_) (fun h2 => ?_)
  · rw [show prot2 s k op r l = _ from if_pos (.inr h2)]
    conv => whnf
    repeat (refine ⟨by first | omega | (simp only [Option.getD_none, Option.getD_some]; omega) | (simp; done) | (simp; omega), ?_⟩; conv => whnf)
    first | refine .inr (.inl ⟨_, s_cBack (loadM s.1 r.1, s.2) k (loadI s.1 r.1) 0 hf.cores hf.frames, ?_⟩) | refine .inl (.inr (.inl ⟨_, s_cBack (loadM s.1 r.1, s.2) k (loadI s.1 r.1) 0 hf.cores hf.frames, ?_⟩))
    conv => whnf
    first | exact .inl rfl | exact .inr rfl
  · rw [show prot2 s k op r l = _ from if_neg (fun e => e.elim h h2)]
    conv => whnf
    repeat (refine ⟨by first | omega | (simp only [Option.getD_none, Option.getD_some]; omega) | (simp; done) | (simp; omega), ?_⟩; conv => whnf)
    first | refine .inr (.inl ⟨_, s_hazOn (loadM s.1 r.1, s.2) k 1 op 2 (r23S r (loadI s.1 r.1)) l hf.cores hf.frames, ?_⟩) | refine .inl (.inr (.inl ⟨_, s_hazOn (loadM s.1 r.1, s.2) k 1 op 2 (r23S r (loadI s.1 r.1)) l hf.cores hf.frames, ?_⟩))
    conv => whnf
    first | exact .inl rfl | exact .inr rfl

def protS (s : Sy) (k op pc : Int) (r : R8) (l : Li) : Sy :=
  if pc = 0 then prot0 s k op r l else if pc = 1 then setS (storeM s.1 (placeI k r.2.1) (idxI r.2.2.1), s.2) k (op, (2 : Int), r, l, ()) else if pc = 2 then prot2 s k op r l else s
theorem s_prot (s : Sy) (k op pc : Int) (r : R8) (l : Li) (hf : Fine s) : Spec Tryz.prog 218 [vS s, vI k, vF (op, pc, r, l, ())] (vS (protS s k op pc r l)) := by
  by_cases h0 : pc = 0
  · subst h0
    exact s_prot0 s k op r l hf
  by_cases h1 : pc = 1
  · subst h1
    exact s_prot1 s k op r l hf
  by_cases h2 : pc = 2
  · subst h2
    exact s_prot2 s k op r l hf
  rw [show protS s k op pc r l = s by unfold protS; rw [if_neg h0, if_neg h1, if_neg h2]]
  refine spec_introF false tab_ok 0 Tryz.func218 rfl (by kernel_rfl) rfl ?_
  conv => whnf
  refine dcase (fun h => absurd h h0) (fun _ => ?_)
  conv => whnf
  refine dcase (fun h => absurd h h1) (fun _ => ?_)
  conv => whnf
  refine dcase (fun h => absurd h h2) (fun _ => ?_)
  conv => whnf
  first | exact .inl rfl | exact .inr rfl
theorem s_hazStep3 (s : Sy) (k pc : Int) (r : R8) (l : Li) (ht : topI s k = some ((3 : Int), pc, r, l, ())) (hf : Fine s) : Spec Tryz.prog 200 [vS s, vI k] (vS (protS s k 3 pc r l)) := by
  refine spec_introF false tab_ok 0 Tryz.func200 rfl (by kernel_rfl) rfl ?_
  conv => whnf
  first | refine .inr (.inl ⟨_, s_topOf ht hf, ?_⟩) | refine .inl (.inr (.inl ⟨_, s_topOf ht hf, ?_⟩))
  conv => whnf
  first | refine .inr (.inl ⟨_, s_prot s k 3 pc r l hf, ?_⟩) | refine .inl (.inr (.inl ⟨_, s_prot s k 3 pc r l hf, ?_⟩))
  conv => whnf
  first | exact .inl rfl | exact .inr rfl
/-- A step of OClear. -/
def clearS (s : Sy) (k pc : Int) (r : R8) (l : Li) : Sy :=
  if 0 ≤ pc ∧ pc < 3 then (if pc = 2 then backS (storeM s.1 (placeI k pc) 0, s.2) k 0 0 else setS (storeM s.1 (placeI k pc) 0, s.2) k ((4 : Int), pc + 1, r, l, ())) else s
theorem s_hazStep4 (s : Sy) (k pc : Int) (r : R8) (l : Li) (ht : topI s k = some ((4 : Int), pc, r, l, ())) (hf : Fine s) : Spec Tryz.prog 200 [vS s, vI k] (vS (clearS s k pc r l)) := by
  refine spec_introF false tab_ok 0 Tryz.func200 rfl (by kernel_rfl) rfl ?_
  conv => whnf
  first | refine .inr (.inl ⟨_, s_topOf ht hf, ?_⟩) | refine .inl (.inr (.inl ⟨_, s_topOf ht hf, ?_⟩))
  conv => whnf
  refine dcase (fun h => ?_) (fun h => ?_)
  · conv => whnf
    refine dcase (fun h2 => ?_) (fun h2 => ?_)
    · conv => whnf
      refine ⟨p_haz_Step_5, g_haz_Step_5, by kernel_rfl, ?st2, ?_, ?_⟩
      rotate_left
      · conv => whnf
        repeat' (first | (refine ⟨by first | omega | (simp only [Option.getD_none, Option.getD_some]; omega) | (simp; done) | (simp; omega), ?_⟩; conv => whnf) | (refine .inl ⟨_, s_hPlace _ _, ?_⟩; conv => whnf) | (refine .inl (.inl ⟨_, s_hPlace _ _, ?_⟩); conv => whnf) | (refine .inr (.inl ⟨_, s_mStore s.1 (placeI k pc) 0 hf.fits, ?_⟩); conv => whnf) | (refine .inl (.inr (.inl ⟨_, s_mStore s.1 (placeI k pc) 0 hf.fits, ?_⟩)); conv => whnf) | (refine And.intro ?_ ?_ <;> conv => whnf) | exact rfl)
      conv => whnf
      refine dcase (fun h3 => ?_) (fun h3 => ?_)
      · rw [show clearS s k pc r l = _ from (if_pos ⟨h, h2⟩).trans (if_pos h3)]
        conv => whnf
        first | refine .inr (.inl ⟨_, s_cBack (storeM s.1 (placeI k pc) 0, s.2) k 0 0 hf.cores hf.frames, ?_⟩) | refine .inl (.inr (.inl ⟨_, s_cBack (storeM s.1 (placeI k pc) 0, s.2) k 0 0 hf.cores hf.frames, ?_⟩))
        conv => whnf
        first | exact .inl rfl | exact .inr rfl
      · rw [show clearS s k pc r l = _ from (if_pos ⟨h, h2⟩).trans (if_neg h3)]
        conv => whnf
        have e : wrap64 (pc + 1) = pc + 1 := IntWalk.wrap64_in _ (by have : pc < 3 := h2; have : 0 ≤ pc := h; omega)
        erw [e]
        first | refine .inr (.inl ⟨_, s_hazOn (storeM s.1 (placeI k pc) 0, s.2) k (pc + 1) 4 pc r l hf.cores hf.frames, ?_⟩) | refine .inl (.inr (.inl ⟨_, s_hazOn (storeM s.1 (placeI k pc) 0, s.2) k (pc + 1) 4 pc r l hf.cores hf.frames, ?_⟩))
        conv => whnf
        first | exact .inl rfl | exact .inr rfl
    · rw [show clearS s k pc r l = s from if_neg (fun e => h2 e.2)]
      conv => whnf
      first | exact .inl rfl | exact .inr rfl
  · rw [show clearS s k pc r l = s from if_neg (fun e => h e.1)]
    conv => whnf
    first | exact .inl rfl | exact .inr rfl
end Go.Proofs.YtpobngddiifdpaaGreat.V
