/- Layer 6 of the program: a scan that frees. -/
import Derived.Test.YtpobngddiifdpaaGreatZdV9
set_option linter.unusedSimpArgs false
set_option linter.unusedVariables false
namespace Go.Proofs.YtpobngddiifdpaaGreat.V
open Go Go.RowKit Go.Proofs.YtpobngddiifdpaaGreat.Hz
set_option maxRecDepth 100000

def memB (l : List Int) (n : Int) : Bool := decide (n ∈ l)
theorem memB_yes {l : List Int} {n : Int} (h : n ∈ l) : memB l n = true := decide_eq_true h
theorem memB_no {l : List Int} {n : Int} (h : ¬ n ∈ l) : memB l n = false := decide_eq_false h
theorem getD_mem {l : List Int} {i : Nat} (h : i < l.length) : l.getD i 0 ∈ l := by
  rw [List.getD_eq_getElem?_getD, List.getElem?_eq_getElem h]
  exact List.getElem_mem _
theorem mem_getD {l : List Int} {n : Int} (h : n ∈ l) : ∃ j, j < l.length ∧ l.getD j 0 = n := by
  obtain ⟨j, hj, he⟩ := List.getElem_of_mem h
  exact ⟨j, hj, by rw [List.getD_eq_getElem?_getD, List.getElem?_eq_getElem hj]; exact he⟩
theorem s_Contains (l : Li) (n : Int) (hl : l.length ≤ 1000000) : Spec Tryz.prog 214 [vL l, vI n] (vB (memB l n)) := by
  refine spec_introF false tab_ok 1 Tryz.func214 rfl (by kernel_rfl) rfl ?_
  conv => whnf
  refine .inr ⟨_, _, 1000, Tryz.func220, ⟨by kernel_rfl, rfl⟩, ?_⟩
  conv => whnf
  refine ⟨[], [0, 1, 6, 7, 8], [], ?_⟩
  apply Exists.intro
  conv => whnf
  refine loopK (fun i : Int => ((l.length : Int) - i).toNat) (fun i => 0 ≤ i ∧ i ≤ l.length ∧ ∀ j : Nat, (j : Int) < i → ¬ nI l j = n) (fun i => ⟨lay 19 0 [(0, vL l), (1, vI n), (6, vL l), (7, vI l.length), (8, vI i)], [], [lay 9 0 [(0, vL l), (1, vI n), (4, vB false), (5, vL l), (6, vI n)]]⟩) ?_ 0 rfl rfl ⟨by omega, by omega, fun j hj => by omega⟩
  intro i ih ⟨hi1, hi2, hi3⟩ hih
  conv => whnf
  have e : ((i.toNat : Nat) : Int) = i := by omega
  refine dcase (fun h => ?_) (fun h => ?_)
  · conv => whnf
    repeat (refine ⟨by first | omega | (simp only [Option.getD_none, Option.getD_some]; omega) | (simp; done) | (simp; omega), ?_⟩; conv => whnf)
    refine dcase (fun h2 => ?_) (fun h2 => ?_)
    · have hm : n ∈ (l : List Int) := by
        have h3 := getD_mem (l := l) (i := i.toNat) (by have h4 : i < ((List.length (α := Int) l : Nat) : Int) := h; omega)
        exact (show n = List.getD (α := Int) l i.toNat 0 from h2) ▸ h3
      rw [memB_yes hm]
      conv => whnf
      exact .inl (congrArg vB (decide_eq_true hi1))
    · conv => whnf
      have e2 : wrap64 (i + 1) = i + 1 := IntWalk.wrap64_in _ (by omega)
      erw [e2]
      refine hih (i + 1) ⟨by omega, by omega, fun j hj => ?_⟩ (by omega)
      by_cases d : (j : Int) < i
      · exact hi3 j d
      · have e3 : (j : Int) = i := by omega
        rw [e3]
        exact fun e4 => h2 e4.symm
  · have hm : ¬ n ∈ (l : List Int) := fun hm => by
      obtain ⟨j, hj, he⟩ := mem_getD hm
      exact hi3 j (by have h5 : j < List.length (α := Int) l := hj; have h6 : ¬ i < ((List.length (α := Int) l : Nat) : Int) := h; omega) he
    rw [memB_no hm]
    conv => whnf
    first | exact .inl rfl | exact .inr rfl

end Go.Proofs.YtpobngddiifdpaaGreat.V

set_option linter.unusedSimpArgs false
set_option linter.unusedVariables false
namespace Go.Proofs.YtpobngddiifdpaaGreat.V
open Go Go.RowKit Go.Proofs.YtpobngddiifdpaaGreat.Hz
set_option maxRecDepth 100000

theorem s_cCallE (s : Sy) (k op : Int) (hl : s.2.1.length ≤ 1000) : Spec Tryz.prog 172 [vS s, vI k, vI op, vL []] (vS (callP s k op 0)) := by
  refine spec_introF false tab_ok 3 Tryz.func172 rfl (by kernel_rfl) rfl ?_
  conv => whnf
  refine .inl (.inl ⟨_, s_isCore s k, ?_⟩)
  conv => whnf
  refine ncaseb (fun h => ?_) (fun h => ?_)
  · rw [show callP s k op 0 = s from if_neg (by rw [h]; exact fun h => nomatch h.1)]
    conv => whnf
    first | exact .inl rfl | exact .inr rfl
  obtain ⟨h0, h1⟩ := isCore_yes h
  conv => whnf
  repeat (refine ⟨by first | omega | (simp only [Option.getD_none, Option.getD_some]; omega) | (simp; done) | (simp; omega), ?_⟩; conv => whnf)
  refine dcase (fun h3 => ?_) (fun h3 => ?_)
  · rw [show callP s k op 0 = s from if_neg (fun h => by have := h.2; exact absurd h3 (Int.not_le.2 (Int.ofNat_lt.2 this)))]
    conv => whnf
    first | exact .inl rfl | exact .inr rfl
  have h4 : (cAt s.2.1 k).1.length < 40 := Int.ofNat_lt.1 (Int.not_le.1 h3)
  rw [show callP s k op 0 = _ from if_pos ⟨h, h4⟩]
  unfold cAt at h4
  have hk : k.toNat < s.2.1.length := by omega
  conv => whnf
  refine ⟨Nat.le_of_ble_eq_true rfl, ?_⟩
  conv => whnf
  refine .inr ⟨_, _, 1000, Tryz.func174, ⟨by kernel_rfl, rfl⟩, ?_⟩
  conv => whnf
  repeat (refine ⟨by first | omega | (simp only [Option.getD_none, Option.getD_some]; omega) | (simp; done) | (simp; omega), ?_⟩; conv => whnf)
  erw [copy_all]
  repeat (refine ⟨by first | omega | (simp only [Option.getD_none, Option.getD_some]; omega) | (simp; done) | (simp; omega), ?_⟩; conv => whnf)
  refine .inr ⟨_, _, 2000, Tryz.func201, ⟨by kernel_rfl, rfl⟩, ?_⟩
  conv => whnf
  refine ⟨p_core_Call_1_0, [9], by kernel_rfl, ?st1, ?_, ?_⟩
  rotate_left
  · conv => whnf
    refine ⟨?_, ?_⟩
    · conv => whnf
      repeat (refine ⟨by first | omega | (simp only [Option.getD_none, Option.getD_some]; omega) | (simp; done) | (simp; omega), ?_⟩; conv => whnf)
      refine ⟨?_, ?_⟩
      · conv => whnf
        first | refine .inr (.inl ⟨_, s_clipF _, ?_⟩) | refine .inl (.inr (.inl ⟨_, s_clipF _, ?_⟩))
        conv => whnf
        refine ⟨⟨Nat.le_trans (Nat.succ_le_succ (Nat.le_of_lt h4)) (le_most (by decide)), List.cons_ne_nil _ _⟩, ?_⟩
        conv => whnf
        repeat (refine ⟨by first | omega | (simp only [Option.getD_none, Option.getD_some]; omega) | (simp; done) | (simp; omega), ?_⟩; conv => whnf)
      · conv => whnf
        first | refine .inr (.inl ⟨_, s_clipF _, ?_⟩) | refine .inl (.inr (.inl ⟨_, s_clipF _, ?_⟩))
        conv => whnf
        refine ⟨⟨Nat.le_trans (Nat.succ_le_succ (Nat.le_of_lt h4)) (le_most (by decide)), List.cons_ne_nil _ _⟩, ?_⟩
        conv => whnf
        repeat (refine ⟨by first | omega | (simp only [Option.getD_none, Option.getD_some]; omega) | (simp; done) | (simp; omega), ?_⟩; conv => whnf)
    · conv => whnf
      repeat (refine ⟨by first | omega | (simp only [Option.getD_none, Option.getD_some]; omega) | (simp; done) | (simp; omega), ?_⟩; conv => whnf)
      first | refine .inr (.inl ⟨_, s_clipF _, ?_⟩) | refine .inl (.inr (.inl ⟨_, s_clipF _, ?_⟩))
      conv => whnf
      refine ⟨⟨Nat.le_trans (Nat.succ_le_succ (Nat.le_of_lt h4)) (le_most (by decide)), List.cons_ne_nil _ _⟩, ?_⟩
      conv => whnf
      repeat (refine ⟨by first | omega | (simp only [Option.getD_none, Option.getD_some]; omega) | (simp; done) | (simp; omega), ?_⟩; conv => whnf)
  conv => whnf
  first | exact .inl rfl | exact .inr rfl
/-- Call an op, and go on behind it. -/
def thenS (s : Sy) (k op pc : Int) (r : R8) (l : Li) (o a : Int) : Sy := callP (setS s k (op, wrap64 (pc + 1), r, l, ())) k o a
theorem s_then0 (s : Sy) (k op pc o : Int) (r : R8) (l : Li) (hf : Fine s) : Spec Tryz.prog 112 [vS s, vI k, vF (op, pc, r, l, ()), vI o, .one .nilsl] (vS (thenS s k op pc r l o 0)) := by
  refine spec_introF false tab_ok 0 Tryz.func112 rfl (by kernel_rfl) rfl ?_
  conv => whnf
  first | refine .inr (.inl ⟨_, s_cSet s k (op, wrap64 (pc + 1), r, l, ()) hf.cores hf.frames, ?_⟩) | refine .inl (.inr (.inl ⟨_, s_cSet s k (op, wrap64 (pc + 1), r, l, ()) hf.cores hf.frames, ?_⟩))
  conv => whnf
  first | refine .inr (.inl ⟨_, s_cCallE (setS s k (op, wrap64 (pc + 1), r, l, ())) k o (setS_fine hf).cores, ?_⟩) | refine .inl (.inr (.inl ⟨_, s_cCallE (setS s k (op, wrap64 (pc + 1), r, l, ())) k o (setS_fine hf).cores, ?_⟩))
  conv => whnf
  first | exact .inl rfl | exact .inr rfl
theorem s_then1 (s : Sy) (k op pc o a : Int) (r : R8) (l : Li) (hf : Fine s) : Spec Tryz.prog 112 [vS s, vI k, vF (op, pc, r, l, ()), vI o, vL [a]] (vS (thenS s k op pc r l o a)) := by
  refine spec_introF false tab_ok 0 Tryz.func112 rfl (by kernel_rfl) rfl ?_
  conv => whnf
  first | refine .inr (.inl ⟨_, s_cSet s k (op, wrap64 (pc + 1), r, l, ()) hf.cores hf.frames, ?_⟩) | refine .inl (.inr (.inl ⟨_, s_cSet s k (op, wrap64 (pc + 1), r, l, ()) hf.cores hf.frames, ?_⟩))
  conv => whnf
  first | refine .inr (.inl ⟨_, s_cCall1 (setS s k (op, wrap64 (pc + 1), r, l, ())) k o a (setS_fine hf).cores, ?_⟩) | refine .inl (.inr (.inl ⟨_, s_cCall1 (setS s k (op, wrap64 (pc + 1), r, l, ())) k o a (setS_fine hf).cores, ?_⟩))
  conv => whnf
  first | exact .inl rfl | exact .inr rfl
abbrev cV (s : Sy) (k : Int) : Int := (cAt s.2.1 k).2.1
abbrev cE (s : Sy) (k : Int) : Int := (cAt s.2.1 k).2.2.1
/-- A step of OAlloc. -/
def allocS (s : Sy) (k op pc : Int) (r : R8) (l : Li) : Sy :=
  if pc = 0 ∨ pc = 2 then thenS s k op pc r l 1 0
  else if pc = 1 then (if cE s k = 0 then backS s k (cV s k) 0 else if (retL s k).length = 0 then backS s k 0 2 else thenS s k op pc r l 6 0)
  else if pc = 3 then backS s k (cV s k) (cE s k) else s
theorem s_alloc (s : Sy) (k op pc : Int) (r : R8) (l : Li) (h0 : 0 ≤ k) (h1 : k < s.2.1.length) (hf : Fine s) : Spec Tryz.prog 111 [vS s, vI k, vF (op, pc, r, l, ())] (vS (allocS s k op pc r l)) := by
  refine spec_introF false tab_ok 0 Tryz.func111 rfl (by kernel_rfl) rfl ?_
  conv => whnf
  repeat (refine ⟨by first | omega | (simp only [Option.getD_none, Option.getD_some]; omega) | (simp; done) | (simp; omega), ?_⟩; conv => whnf)
  refine dcase (fun c0 => ?_) (fun c0 => ?_)
  · rw [show allocS s k op pc r l = _ from if_pos (.inl c0)]
    conv => whnf
    first | refine .inr (.inl ⟨_, s_then0 s k op pc 1 r l hf, ?_⟩) | refine .inl (.inr (.inl ⟨_, s_then0 s k op pc 1 r l hf, ?_⟩))
    conv => whnf
    first | exact .inl rfl | exact .inr rfl
  conv => whnf
  refine dcase (fun c2 => ?_) (fun c2 => ?_)
  · rw [show allocS s k op pc r l = _ from if_pos (.inr c2)]
    conv => whnf
    first | refine .inr (.inl ⟨_, s_then0 s k op pc 1 r l hf, ?_⟩) | refine .inl (.inr (.inl ⟨_, s_then0 s k op pc 1 r l hf, ?_⟩))
    conv => whnf
    first | exact .inl rfl | exact .inr rfl
  have n02 : ¬ (pc = 0 ∨ pc = 2) := fun e => e.elim c0 c2
  conv => whnf
  refine dcase (fun c1 => ?_) (fun c1 => ?_)
  · conv => whnf
    refine dcase (fun e0 => ?_) (fun e0 => ?_)
    · rw [show allocS s k op pc r l = _ from (if_neg n02).trans ((if_pos c1).trans (if_pos e0))]
      conv => whnf
      first | refine .inr (.inl ⟨_, s_cBack s k (cV s k) 0 hf.cores hf.frames, ?_⟩) | refine .inl (.inr (.inl ⟨_, s_cBack s k (cV s k) 0 hf.cores hf.frames, ?_⟩))
      conv => whnf
      first | exact .inl rfl | exact .inr rfl
    conv => whnf
    refine dcase (fun l0 => ?_) (fun l0 => ?_)
    · rw [show allocS s k op pc r l = _ from (if_neg n02).trans ((if_pos c1).trans ((if_neg e0).trans (if_pos (Int.ofNat.inj l0))))]
      conv => whnf
      first | refine .inr (.inl ⟨_, s_cBack s k 0 2 hf.cores hf.frames, ?_⟩) | refine .inl (.inr (.inl ⟨_, s_cBack s k 0 2 hf.cores hf.frames, ?_⟩))
      conv => whnf
      first | exact .inl rfl | exact .inr rfl
    · rw [show allocS s k op pc r l = _ from (if_neg n02).trans ((if_pos c1).trans ((if_neg e0).trans (if_neg (fun e => l0 (congrArg Int.ofNat e)))))]
      conv => whnf
      first | refine .inr (.inl ⟨_, s_then0 s k op pc 6 r l hf, ?_⟩) | refine .inl (.inr (.inl ⟨_, s_then0 s k op pc 6 r l hf, ?_⟩))
      conv => whnf
      first | exact .inl rfl | exact .inr rfl
  conv => whnf
  refine dcase (fun c3 => ?_) (fun c3 => ?_)
  · rw [show allocS s k op pc r l = _ from (if_neg n02).trans ((if_neg c1).trans (if_pos c3))]
    conv => whnf
    first | refine .inr (.inl ⟨_, s_cBack s k (cV s k) (cE s k) hf.cores hf.frames, ?_⟩) | refine .inl (.inr (.inl ⟨_, s_cBack s k (cV s k) (cE s k) hf.cores hf.frames, ?_⟩))
    conv => whnf
    first | exact .inl rfl | exact .inr rfl
  · rw [show allocS s k op pc r l = s from (if_neg n02).trans ((if_neg c1).trans (if_neg c3))]
    conv => whnf
    first | exact .inl rfl | exact .inr rfl

theorem s_scanStepX (s : Sy) (k op pc : Int) (r : R8) (l : Li) (ho : op < 1 ∨ 6 < op) (ht : topI s k = some (op, pc, r, l, ())) (hf : Fine s) : Spec Tryz.prog 114 [vS s, vI k] (vS s) := by
  refine spec_introF false tab_ok 0 Tryz.func114 rfl (by kernel_rfl) rfl ?_
  conv => whnf
  first | refine .inr (.inl ⟨_, s_topOf ht hf, ?_⟩) | refine .inl (.inr (.inl ⟨_, s_topOf ht hf, ?_⟩))
  conv => whnf
  refine ⟨p_scan_Step_2, g_scan_Step_2, by kernel_rfl, ?st1, ?_, ?_⟩
  rotate_left
  · conv => whnf
    refine .inr (.inr ⟨500, _, s_steps, ?_⟩)
    conv => whnf
    refine ⟨fun h => absurd (show op = 5 from h) (by omega), fun _ => ⟨fun h => absurd (show op = 6 from h) (by omega), fun _ => ⟨fun h => absurd (show op = 1 from h) (by omega), fun _ => ⟨fun h => absurd (show op = 2 from h) (by omega), fun _ => ⟨fun h => absurd (show op = 3 from h) (by omega), fun _ => ⟨fun h => absurd (show op = 4 from h) (by omega), fun _ => ?_⟩⟩⟩⟩⟩⟩
    conv => whnf
  conv => whnf
  first | exact .inl rfl | exact .inr rfl
/-- No frame: nothing is done. -/
theorem s_topNo {s : Sy} {k : Int} (ht : topI s k = none) (hf : Fine s) : Spec Tryz.prog 72 [vS s, vI k] (vFB (dflt tFrame) false) := by
  have := s_cTop s k (fun c hc => Nat.le_trans (hf.frames c hc) (by decide))
  rw [ht] at this
  exact this
theorem s_allocStep7 (s : Sy) (k pc : Int) (r : R8) (l : Li) (ht : topI s k = some ((7 : Int), pc, r, l, ())) (hf : Fine s) : Spec Tryz.prog 73 [vS s, vI k] (vS (allocS s k 7 pc r l)) := by
  refine spec_introF false tab_ok 0 Tryz.func73 rfl (by kernel_rfl) rfl ?_
  conv => whnf
  first | refine .inr (.inl ⟨_, s_topOf ht hf, ?_⟩) | refine .inl (.inr (.inl ⟨_, s_topOf ht hf, ?_⟩))
  conv => whnf
  first | refine .inr (.inl ⟨_, s_alloc s k 7 pc r l (topI_some ht).1 (topI_some ht).2.1 hf, ?_⟩) | refine .inl (.inr (.inl ⟨_, s_alloc s k 7 pc r l (topI_some ht).1 (topI_some ht).2.1 hf, ?_⟩))
  conv => whnf
  first | exact .inl rfl | exact .inr rfl
/-- A step of ODrop. -/
def dropS (s : Sy) (k pc : Int) (r : R8) (l : Li) : Sy := if pc = 0 then thenS s k 8 pc r l 2 r.1 else if pc = 1 then backS s k r.1 0 else s
theorem s_allocStep8 (s : Sy) (k pc : Int) (r : R8) (l : Li) (ht : topI s k = some ((8 : Int), pc, r, l, ())) (hf : Fine s) : Spec Tryz.prog 73 [vS s, vI k] (vS (dropS s k pc r l)) := by
  refine spec_introF false tab_ok 0 Tryz.func73 rfl (by kernel_rfl) rfl ?_
  conv => whnf
  first | refine .inr (.inl ⟨_, s_topOf ht hf, ?_⟩) | refine .inl (.inr (.inl ⟨_, s_topOf ht hf, ?_⟩))
  conv => whnf
  refine dcase (fun c0 => ?_) (fun c0 => ?_)
  · rw [show dropS s k pc r l = _ from if_pos c0]
    conv => whnf
    repeat (refine ⟨by first | omega | (simp only [Option.getD_none, Option.getD_some]; omega) | (simp; done) | (simp; omega), ?_⟩; conv => whnf)
    first | refine .inr (.inl ⟨_, s_then1 s k 8 pc 2 (hd8 r) r l hf, ?_⟩) | refine .inl (.inr (.inl ⟨_, s_then1 s k 8 pc 2 (hd8 r) r l hf, ?_⟩))
    conv => whnf
    first | exact .inl rfl | exact .inr rfl
  conv => whnf
  refine dcase (fun c1 => ?_) (fun c1 => ?_)
  · rw [show dropS s k pc r l = _ from (if_neg c0).trans (if_pos c1)]
    conv => whnf
    repeat (refine ⟨by first | omega | (simp only [Option.getD_none, Option.getD_some]; omega) | (simp; done) | (simp; omega), ?_⟩; conv => whnf)
    first | refine .inr (.inl ⟨_, s_cBack s k (hd8 r) 0 hf.cores hf.frames, ?_⟩) | refine .inl (.inr (.inl ⟨_, s_cBack s k (hd8 r) 0 hf.cores hf.frames, ?_⟩))
    conv => whnf
    first | exact .inl rfl | exact .inr rfl
  · rw [show dropS s k pc r l = s from (if_neg c0).trans (if_neg c1)]
    conv => whnf
    first | refine .inr (.inl ⟨_, s_scanStepX s k 8 pc r l (by decide) ht hf, ?_⟩) | refine .inl (.inr (.inl ⟨_, s_scanStepX s k 8 pc r l (by decide) ht hf, ?_⟩))
    conv => whnf
    first | exact .inl rfl | exact .inr rfl
theorem s_scanStepNo (s : Sy) (k : Int) (ht : topI s k = none) (hf : Fine s) : Spec Tryz.prog 114 [vS s, vI k] (vS s) := by
  refine spec_introF false tab_ok 0 Tryz.func114 rfl (by kernel_rfl) rfl ?_
  conv => whnf
  first | refine .inr (.inl ⟨_, s_topNo ht hf, ?_⟩) | refine .inl (.inr (.inl ⟨_, s_topNo ht hf, ?_⟩))
  conv => whnf
  refine ⟨p_scan_Step_2, g_scan_Step_2, by kernel_rfl, ?st2, ?_, ?_⟩
  rotate_left
  · conv => whnf
    refine .inr (.inr ⟨500, _, s_steps, ?_⟩)
    conv => whnf
    refine ⟨fun h => absurd (show (0 : Int) = 5 from h) (by decide), fun _ => ⟨fun h => absurd (show (0 : Int) = 6 from h) (by decide), fun _ => ⟨fun h => absurd (show (0 : Int) = 1 from h) (by decide), fun _ => ⟨fun h => absurd (show (0 : Int) = 2 from h) (by decide), fun _ => ⟨fun h => absurd (show (0 : Int) = 3 from h) (by decide), fun _ => ⟨fun h => absurd (show (0 : Int) = 4 from h) (by decide), fun _ => ?_⟩⟩⟩⟩⟩⟩
    conv => whnf
  conv => whnf
  first | exact .inl rfl | exact .inr rfl
theorem s_allocStepNo (s : Sy) (k : Int) (ht : topI s k = none) (hf : Fine s) : Spec Tryz.prog 73 [vS s, vI k] (vS s) := by
  refine spec_introF false tab_ok 0 Tryz.func73 rfl (by kernel_rfl) rfl ?_
  conv => whnf
  first | refine .inr (.inl ⟨_, s_topNo ht hf, ?_⟩) | refine .inl (.inr (.inl ⟨_, s_topNo ht hf, ?_⟩))
  conv => whnf
  first | refine .inr (.inl ⟨_, s_scanStepNo s k ht hf, ?_⟩) | refine .inl (.inr (.inl ⟨_, s_scanStepNo s k ht hf, ?_⟩))
  conv => whnf
  first | exact .inl rfl | exact .inr rfl
theorem s_allocStepX (s t : Sy) (k op pc : Int) (r : R8) (l : Li) (h7 : ¬ op = 7) (h8 : ¬ op = 8) (ht : topI s k = some (op, pc, r, l, ())) (hf : Fine s) (hs : Spec Tryz.prog 114 [vS s, vI k] (vS t)) : Spec Tryz.prog 73 [vS s, vI k] (vS t) := by
  refine spec_introF false tab_ok 0 Tryz.func73 rfl (by kernel_rfl) rfl ?_
  conv => whnf
  first | refine .inr (.inl ⟨_, s_topOf ht hf, ?_⟩) | refine .inl (.inr (.inl ⟨_, s_topOf ht hf, ?_⟩))
  conv => whnf
  refine dcase (fun h => absurd h h7) (fun _ => ?_)
  conv => whnf
  refine dcase (fun h => absurd h h8) (fun _ => ?_)
  conv => whnf
  refine dcase (fun h => absurd h h8) (fun _ => ?_)
  conv => whnf
  first | refine .inr (.inl ⟨_, hs, ?_⟩) | refine .inl (.inr (.inl ⟨_, hs, ?_⟩))
  conv => whnf
  first | exact .inl rfl | exact .inr rfl
end Go.Proofs.YtpobngddiifdpaaGreat.V
