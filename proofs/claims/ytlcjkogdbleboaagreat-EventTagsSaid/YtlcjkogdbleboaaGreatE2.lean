/- Layer 12: new events, and whether they are set. -/
import Derived.Test.YtlcjkogdbleboaaGreatE1
set_option linter.unusedSimpArgs false
set_option linter.unusedVariables false
namespace Go.Proofs.YtlcjkogdbleboaaGreat.V
open Go Go.RowKit Go.Proofs.YtlcjkogdbleboaaGreat.Hz
set_option maxRecDepth 100000

theorem s_Of001 : Spec Tryz.prog 71 [vI 0, vI 0, vI 1] (.tup [(false, [.int .i64 1]), (false, [.int .i64 0])]) := by
  refine spec_introF false tab_ok 0 Tryz.func71 rfl (by kernel_rfl) rfl ?_
  conv => whnf
  first | refine .inl ⟨_, s_joined 1 0 0, ?_⟩ | refine .inl (.inl ⟨_, s_joined 1 0 0, ?_⟩)
  conv => whnf
  rw [show accI 1 0 0 3 = 1 from rfl]
  first | refine .inl ⟨_, s_Mark 1, ?_⟩ | refine .inl (.inl ⟨_, s_Mark 1, ?_⟩)
  conv => whnf
  rw [show (1 : Int) % 2 = 1 from rfl]
  conv => whnf
  first | refine .inl ⟨_, s_Index 1, ?_⟩ | refine .inl (.inl ⟨_, s_Index 1, ?_⟩)
  conv => whnf
  rw [show idxI 1 = 0 from rfl]
  conv => whnf
  first | refine .inl ⟨_, s_Tag 1, ?_⟩ | refine .inl (.inl ⟨_, s_Tag 1, ?_⟩)
  conv => whnf
  first | exact .inl rfl | exact .inr rfl
def selfI (b : Bool) : Int := if b = true then 1 else 0
/-- A system with a new event. -/
def mkE (s : Sy) (e : Int) (b : Bool) : Sy := (storeM s.1 (80 + e) (selfI b), s.2)
theorem s_evMake (s : Sy) (e : Int) (b : Bool) (h0 : 0 ≤ e) (h1 : e ≤ 15) (hf : Fits s.1) : Spec Tryz.prog 35 [vS s, vI e, vB b] (vSI (mkE s e b) 0) := by
  have hie := s_isEvent e
  rw [decide_eq_true h0, decide_eq_true (Int.lt_of_le_of_lt h1 (by decide))] at hie
  have hsp := s_Spot12 e h0 h1
  have hst := s_mStore s.1 (80 + e) (selfI b) hf
  unfold mkE
  cases b with
  | true =>
    have hst : Spec Tryz.prog 68 [vM s.1, vI (80 + e), vI 1] (vM (storeM s.1 (80 + e) 1)) := hst
    refine spec_introF true tab_ok 0 Tryz.func35 rfl (by kernel_rfl) rfl ?_
    conv => whnf
    first | refine .inl ⟨_, hie, ?_⟩ | refine .inl (.inl ⟨_, hie, ?_⟩)
    conv => whnf
    repeat (refine ⟨by first | omega | (simp only [Option.getD_none, Option.getD_some]; omega) | (simp; done) | (simp; omega), ?_⟩; conv => whnf)
    first | refine .inl ⟨_, s_Of001, ?_⟩ | refine .inl (.inl ⟨_, s_Of001, ?_⟩)
    conv => whnf
    repeat (refine ⟨by first | omega | (simp only [Option.getD_none, Option.getD_some]; omega) | (simp; done) | (simp; omega), ?_⟩; conv => whnf)
    refine ⟨p_event_Make_6, g_event_Make_6, by kernel_rfl, ?st1, ?_, ?_⟩
    rotate_left
    · conv => whnf
      repeat' (first | (refine ⟨by first | omega | (simp only [Option.getD_none, Option.getD_some]; omega) | (simp; done) | (simp; omega), ?_⟩; conv => whnf) | (refine .inl ⟨_, hsp, ?_⟩; conv => whnf) | (refine .inl (.inl ⟨_, hsp, ?_⟩); conv => whnf) | (refine .inr (.inl ⟨_, hst, ?_⟩); conv => whnf) | (refine .inl (.inr (.inl ⟨_, hst, ?_⟩)); conv => whnf) | (refine And.intro ?_ ?_ <;> conv => whnf) | exact rfl)
    conv => whnf
    repeat (refine ⟨by first | omega | (simp only [Option.getD_none, Option.getD_some]; omega) | (simp; done) | (simp; omega), ?_⟩; conv => whnf)
    first | exact .inl rfl | exact .inr rfl
  | false =>
    have hst : Spec Tryz.prog 68 [vM s.1, vI (80 + e), vI 0] (vM (storeM s.1 (80 + e) 0)) := hst
    refine spec_introF true tab_ok 0 Tryz.func35 rfl (by kernel_rfl) rfl ?_
    conv => whnf
    first | refine .inl ⟨_, hie, ?_⟩ | refine .inl (.inl ⟨_, hie, ?_⟩)
    conv => whnf
    repeat (refine ⟨by first | omega | (simp only [Option.getD_none, Option.getD_some]; omega) | (simp; done) | (simp; omega), ?_⟩; conv => whnf)
    refine ⟨p_event_Make_6, g_event_Make_6, by kernel_rfl, ?st2, ?_, ?_⟩
    rotate_left
    · conv => whnf
      repeat' (first | (refine ⟨by first | omega | (simp only [Option.getD_none, Option.getD_some]; omega) | (simp; done) | (simp; omega), ?_⟩; conv => whnf) | (refine .inl ⟨_, hsp, ?_⟩; conv => whnf) | (refine .inl (.inl ⟨_, hsp, ?_⟩); conv => whnf) | (refine .inr (.inl ⟨_, hst, ?_⟩); conv => whnf) | (refine .inl (.inr (.inl ⟨_, hst, ?_⟩)); conv => whnf) | (refine And.intro ?_ ?_ <;> conv => whnf) | exact rfl)
    conv => whnf
    repeat (refine ⟨by first | omega | (simp only [Option.getD_none, Option.getD_some]; omega) | (simp; done) | (simp; omega), ?_⟩; conv => whnf)
    first | exact .inl rfl | exact .inr rfl
theorem s_refMake12 (s : Sy) (e : Int) (b : Bool) (h0 : 0 ≤ e) (h1 : e ≤ 15) (hf : Fits s.1) : Spec Tryz.prog 36 [vS s, vI e, vB b] (vSI (mkE s e b) 0) := by
  have hsp := s_refSpot12 e h0 h1
  have hst := s_refStore s.1 (80 + e) (selfI b) (by have := hf.2; omega) (by have := hf.1; have := hf.2; omega)
  unfold mkE
  cases b with
  | true =>
    have hst : Spec Tryz.prog 49 [vM s.1, vI (80 + e), vI 1] (vM (storeM s.1 (80 + e) 1)) := hst
    refine spec_introF true tab_ok 0 Tryz.func36 rfl (by kernel_rfl) rfl ?_
    conv => whnf
    refine dcase (fun h => absurd h (by omega)) (fun _ => ?_)
    conv => whnf
    repeat (refine ⟨by first | omega | (simp only [Option.getD_none, Option.getD_some]; omega) | (simp; done) | (simp; omega), ?_⟩; conv => whnf)
    refine dcase (fun h => absurd h (by omega)) (fun _ => ?_)
    conv => whnf
    repeat (refine ⟨by first | omega | (simp only [Option.getD_none, Option.getD_some]; omega) | (simp; done) | (simp; omega), ?_⟩; conv => whnf)
    refine ⟨p_hazelref12_Make_4, g_hazelref12_Make_4, by kernel_rfl, ?st3, ?_, ?_⟩
    rotate_left
    · conv => whnf
      repeat' (first | (refine ⟨by first | omega | (simp only [Option.getD_none, Option.getD_some]; omega) | (simp; done) | (simp; omega), ?_⟩; conv => whnf) | (refine .inl ⟨_, hsp, ?_⟩; conv => whnf) | (refine .inl (.inl ⟨_, hsp, ?_⟩); conv => whnf) | (refine .inr (.inl ⟨_, hst, ?_⟩); conv => whnf) | (refine .inl (.inr (.inl ⟨_, hst, ?_⟩)); conv => whnf) | (refine .inr (.inl ⟨_, s_refMem s _, ?_⟩); conv => whnf) | (refine .inl (.inr (.inl ⟨_, s_refMem s _, ?_⟩)); conv => whnf) | (refine And.intro ?_ ?_ <;> conv => whnf) | exact rfl)
    conv => whnf
    repeat (refine ⟨by first | omega | (simp only [Option.getD_none, Option.getD_some]; omega) | (simp; done) | (simp; omega), ?_⟩; conv => whnf)
    first | exact .inl rfl | exact .inr rfl
  | false =>
    have hst : Spec Tryz.prog 49 [vM s.1, vI (80 + e), vI 0] (vM (storeM s.1 (80 + e) 0)) := hst
    refine spec_introF true tab_ok 0 Tryz.func36 rfl (by kernel_rfl) rfl ?_
    conv => whnf
    refine dcase (fun h => absurd h (by omega)) (fun _ => ?_)
    conv => whnf
    repeat (refine ⟨by first | omega | (simp only [Option.getD_none, Option.getD_some]; omega) | (simp; done) | (simp; omega), ?_⟩; conv => whnf)
    refine dcase (fun h => absurd h (by omega)) (fun _ => ?_)
    conv => whnf
    repeat (refine ⟨by first | omega | (simp only [Option.getD_none, Option.getD_some]; omega) | (simp; done) | (simp; omega), ?_⟩; conv => whnf)
    refine ⟨p_hazelref12_Make_5, g_hazelref12_Make_5, by kernel_rfl, ?st4, ?_, ?_⟩
    rotate_left
    · conv => whnf
      repeat' (first | (refine ⟨by first | omega | (simp only [Option.getD_none, Option.getD_some]; omega) | (simp; done) | (simp; omega), ?_⟩; conv => whnf) | (refine .inl ⟨_, hsp, ?_⟩; conv => whnf) | (refine .inl (.inl ⟨_, hsp, ?_⟩); conv => whnf) | (refine .inr (.inl ⟨_, hst, ?_⟩); conv => whnf) | (refine .inl (.inr (.inl ⟨_, hst, ?_⟩)); conv => whnf) | (refine .inr (.inl ⟨_, s_refMem s _, ?_⟩); conv => whnf) | (refine .inl (.inr (.inl ⟨_, s_refMem s _, ?_⟩)); conv => whnf) | (refine And.intro ?_ ?_ <;> conv => whnf) | exact rfl)
    conv => whnf
    repeat (refine ⟨by first | omega | (simp only [Option.getD_none, Option.getD_some]; omega) | (simp; done) | (simp; omega), ?_⟩; conv => whnf)
    first | exact .inl rfl | exact .inr rfl
abbrev vBB (a b : Bool) : SV := .tup [(false, [.bool a]), (false, [.bool b])]
theorem s_evIs (s : Sy) (e : Int) (h0 : 0 ≤ e) (h1 : e ≤ 15) (hl : 96 ≤ s.1.1.length) : Spec Tryz.prog 37 [vS s, vI e] (vBB (decide (idxI (nI s.1.1 (80 + e)) ≠ 0)) (decide (nI s.1.1 (80 + e) % 2 = 1))) := by
  have hie := s_isEvent e
  rw [decide_eq_true h0, decide_eq_true (Int.lt_of_le_of_lt h1 (by decide))] at hie
  have hsp := s_Spot12 e h0 h1
  refine spec_introF true tab_ok 0 Tryz.func37 rfl (by kernel_rfl) rfl ?_
  conv => whnf
  first | refine .inl ⟨_, hie, ?_⟩ | refine .inl (.inl ⟨_, hie, ?_⟩)
  conv => whnf
  repeat (refine ⟨by first | omega | (simp only [Option.getD_none, Option.getD_some]; omega) | (simp; done) | (simp; omega), ?_⟩; conv => whnf)
  refine ⟨p_event_Is_3, g_event_Is_3, by kernel_rfl, ?st5, ?_, ?_⟩
  rotate_left
  · conv => whnf
    repeat' (first | (refine ⟨by first | omega | (simp only [Option.getD_none, Option.getD_some]; omega) | (simp; done) | (simp; omega), ?_⟩; conv => whnf) | (refine .inl ⟨_, hsp, ?_⟩; conv => whnf) | (refine .inl (.inl ⟨_, hsp, ?_⟩); conv => whnf) | (refine And.intro ?_ ?_ <;> conv => whnf) | exact rfl)
  conv => whnf
  repeat (refine ⟨by first | omega | (simp only [Option.getD_none, Option.getD_some]; omega) | (simp; done) | (simp; omega), ?_⟩; conv => whnf)
  first | refine .inl ⟨_, s_Index _, ?_⟩ | refine .inl (.inl ⟨_, s_Index _, ?_⟩)
  conv => whnf
  repeat (refine ⟨by first | omega | (simp only [Option.getD_none, Option.getD_some]; omega) | (simp; done) | (simp; omega), ?_⟩; conv => whnf)
  first | refine .inl ⟨_, s_Mark _, ?_⟩ | refine .inl (.inl ⟨_, s_Mark _, ?_⟩)
  conv => whnf
  repeat (refine ⟨by first | omega | (simp only [Option.getD_none, Option.getD_some]; omega) | (simp; done) | (simp; omega), ?_⟩; conv => whnf)
  first | exact .inl rfl | exact .inr rfl
theorem s_refIs12 (s : Sy) (e : Int) (h0 : 0 ≤ e) (h1 : e ≤ 15) (hl : 96 ≤ s.1.1.length) : Spec Tryz.prog 38 [vS s, vI e] (vBB (decide (idxI (nI s.1.1 (80 + e)) ≠ 0)) (decide (nI s.1.1 (80 + e) % 2 = 1))) := by
  have hsp := s_refSpot12 e h0 h1
  refine spec_introF true tab_ok 0 Tryz.func38 rfl (by kernel_rfl) rfl ?_
  conv => whnf
  refine dcase (fun h => absurd h (by omega)) (fun _ => ?_)
  conv => whnf
  repeat (refine ⟨by first | omega | (simp only [Option.getD_none, Option.getD_some]; omega) | (simp; done) | (simp; omega), ?_⟩; conv => whnf)
  refine dcase (fun h => absurd h (by omega)) (fun _ => ?_)
  conv => whnf
  repeat (refine ⟨by first | omega | (simp only [Option.getD_none, Option.getD_some]; omega) | (simp; done) | (simp; omega), ?_⟩; conv => whnf)
  refine ⟨p_hazelref12_Is_3, g_hazelref12_Is_3, by kernel_rfl, ?st6, ?_, ?_⟩
  rotate_left
  · conv => whnf
    repeat' (first | (refine ⟨by first | omega | (simp only [Option.getD_none, Option.getD_some]; omega) | (simp; done) | (simp; omega), ?_⟩; conv => whnf) | (refine .inl ⟨_, hsp, ?_⟩; conv => whnf) | (refine .inl (.inl ⟨_, hsp, ?_⟩); conv => whnf) | (refine And.intro ?_ ?_ <;> conv => whnf) | exact rfl)
  conv => whnf
  repeat (refine ⟨by first | omega | (simp only [Option.getD_none, Option.getD_some]; omega) | (simp; done) | (simp; omega), ?_⟩; conv => whnf)
  first | refine .inl ⟨_, s_refIndex _, ?_⟩ | refine .inl (.inl ⟨_, s_refIndex _, ?_⟩)
  conv => whnf
  repeat (refine ⟨by first | omega | (simp only [Option.getD_none, Option.getD_some]; omega) | (simp; done) | (simp; omega), ?_⟩; conv => whnf)
  first | refine .inl ⟨_, s_refMark _, ?_⟩ | refine .inl (.inl ⟨_, s_refMark _, ?_⟩)
  conv => whnf
  repeat (refine ⟨by first | omega | (simp only [Option.getD_none, Option.getD_some]; omega) | (simp; done) | (simp; omega), ?_⟩; conv => whnf)
  first | exact .inl rfl | exact .inr rfl
/-! ### A core without a frame stands still -/
theorem s_msqStepNo (s : Sy) (k : Int) (ht : topI s k = none) (hf : Fine s) : Spec Tryz.prog 25 [vS s, vI k] (vS s) := by
  refine spec_introF true tab_ok 0 Tryz.func25 rfl (by kernel_rfl) rfl ?_
  conv => whnf
  first | refine .inr (.inl ⟨_, s_topNo ht hf, ?_⟩) | refine .inl (.inr (.inl ⟨_, s_topNo ht hf, ?_⟩))
  conv => whnf
  repeat (refine ⟨by first | omega | (simp only [Option.getD_none, Option.getD_some]; omega) | (simp; done) | (simp; omega), ?_⟩; conv => whnf)
  first | refine .inr (.inl ⟨_, s_allocStepNo s k ht hf, ?_⟩) | refine .inl (.inr (.inl ⟨_, s_allocStepNo s k ht hf, ?_⟩))
  conv => whnf
  repeat (refine ⟨by first | omega | (simp only [Option.getD_none, Option.getD_some]; omega) | (simp; done) | (simp; omega), ?_⟩; conv => whnf)
  first | exact .inl rfl | exact .inr rfl
theorem s_listStepNo (s : Sy) (k : Int) (ht : topI s k = none) (hf : Fine s) : Spec Tryz.prog 32 [vS s, vI k] (vS s) := by
  refine spec_introF true tab_ok 0 Tryz.func32 rfl (by kernel_rfl) rfl ?_
  conv => whnf
  first | refine .inr (.inl ⟨_, s_topNo ht hf, ?_⟩) | refine .inl (.inr (.inl ⟨_, s_topNo ht hf, ?_⟩))
  conv => whnf
  repeat (refine ⟨by first | omega | (simp only [Option.getD_none, Option.getD_some]; omega) | (simp; done) | (simp; omega), ?_⟩; conv => whnf)
  first | refine .inr (.inl ⟨_, s_msqStepNo s k ht hf, ?_⟩) | refine .inl (.inr (.inl ⟨_, s_msqStepNo s k ht hf, ?_⟩))
  conv => whnf
  repeat (refine ⟨by first | omega | (simp only [Option.getD_none, Option.getD_some]; omega) | (simp; done) | (simp; omega), ?_⟩; conv => whnf)
  first | exact .inl rfl | exact .inr rfl
theorem s_tableStepNo (s : Sy) (k : Int) (ht : topI s k = none) (hf : Fine s) : Spec Tryz.prog 60 [vS s, vI k] (vS s) := by
  refine spec_introF true tab_ok 0 Tryz.func60 rfl (by kernel_rfl) rfl ?_
  conv => whnf
  first | refine .inr (.inl ⟨_, s_topNo ht hf, ?_⟩) | refine .inl (.inr (.inl ⟨_, s_topNo ht hf, ?_⟩))
  conv => whnf
  repeat (refine ⟨by first | omega | (simp only [Option.getD_none, Option.getD_some]; omega) | (simp; done) | (simp; omega), ?_⟩; conv => whnf)
  first | refine .inr (.inl ⟨_, s_listStepNo s k ht hf, ?_⟩) | refine .inl (.inr (.inl ⟨_, s_listStepNo s k ht hf, ?_⟩))
  conv => whnf
  repeat (refine ⟨by first | omega | (simp only [Option.getD_none, Option.getD_some]; omega) | (simp; done) | (simp; omega), ?_⟩; conv => whnf)
  first | exact .inl rfl | exact .inr rfl
theorem s_evStepNo (s : Sy) (k : Int) (ht : topI s k = none) (hf : Fine s) : Spec Tryz.prog 43 [vS s, vI k] (vS s) := by
  refine spec_introF true tab_ok 0 Tryz.func43 rfl (by kernel_rfl) rfl ?_
  conv => whnf
  first | refine .inr (.inl ⟨_, s_topNo ht hf, ?_⟩) | refine .inl (.inr (.inl ⟨_, s_topNo ht hf, ?_⟩))
  conv => whnf
  repeat (refine ⟨by first | omega | (simp only [Option.getD_none, Option.getD_some]; omega) | (simp; done) | (simp; omega), ?_⟩; conv => whnf)
  first | refine .inr (.inl ⟨_, s_tableStepNo s k ht hf, ?_⟩) | refine .inl (.inr (.inl ⟨_, s_tableStepNo s k ht hf, ?_⟩))
  conv => whnf
  repeat (refine ⟨by first | omega | (simp only [Option.getD_none, Option.getD_some]; omega) | (simp; done) | (simp; omega), ?_⟩; conv => whnf)
  first | exact .inl rfl | exact .inr rfl
end Go.Proofs.YtlcjkogdbleboaaGreat.V
