/- Layer 6 of the program: scans. -/
import Derived.Test.YtpobngddiifdpaaGreatZdV5
set_option linter.unusedSimpArgs false
set_option linter.unusedVariables false
namespace Go.Proofs.YtpobngddiifdpaaGreat.V
open Go Go.RowKit Go.Proofs.YtpobngddiifdpaaGreat.Hz
set_option maxRecDepth 100000

def or2 (op a b : Int) : Bool := decide (op = a) || decide (op = b)
theorem s_stackOwn (op : Int) : Spec Tryz.prog 195 [vI op] (vB (or2 op 1 2)) := by
  unfold or2
  refine spec_introF false tab_ok 0 Tryz.func195 rfl (by kernel_rfl) rfl ?_
  conv => whnf
  refine dcase (fun h => ?_) (fun h => ?_)
  · rw [decide_eq_true h]
    conv => whnf
    first | exact .inl rfl | exact .inr rfl
  · rw [decide_eq_false h]
    conv => whnf
    first | exact .inl rfl | exact .inr rfl
theorem s_hazOwn (op : Int) : Spec Tryz.prog 198 [vI op] (vB (or2 op 3 4)) := by
  unfold or2
  refine spec_introF false tab_ok 0 Tryz.func198 rfl (by kernel_rfl) rfl ?_
  conv => whnf
  refine dcase (fun h => ?_) (fun h => ?_)
  · rw [decide_eq_true h]
    conv => whnf
    first | exact .inl rfl | exact .inr rfl
  · rw [decide_eq_false h]
    conv => whnf
    first | exact .inl rfl | exact .inr rfl
def stepsM : List (Int × SV) := [(5, .one (.fn 193 [])), (6, .one (.fn 194 [])), (1, .one (.fn 196 [])), (2, .one (.fn 196 [])), (3, .one (.fn 199 [])), (4, .one (.fn 199 []))]
theorem s_steps : SpecM Tryz.prog 171 [] stepsM := by
  refine specM_introF false tab_ok 0 Tryz.func171 rfl (by kernel_rfl) rfl ?_
  conv => whnf
  refine ⟨[], [1, 2], [3], ?_⟩
  apply Exists.intro
  conv => whnf
  refine loopK (fun j : Nat => 4 - j) (fun j => j ≤ 4) (fun j => ⟨lay 20 0 [(1, .one (.map 3)), (2, vI ((j : Int) + 1))], [(3, .fmap (stepsM.take (2 + j)))], []⟩) ?_ 0 rfl rfl (by decide)
  intro j ih hj hih
  have h5 : j = 0 ∨ j = 1 ∨ j = 2 ∨ j = 3 ∨ j = 4 := by omega
  rcases h5 with rfl | rfl | rfl | rfl | rfl
  · have e : wrap64 (((0 : Nat) : Int) + 1 + 1) = ((1 : Nat) : Int) + 1 := by rw [IntWalk.wrap64_in _ (by omega)]; rfl
    conv => whnf
    first | refine .inl ⟨_, s_stackOwn _, ?_⟩ | refine .inl (.inl ⟨_, s_stackOwn _, ?_⟩)
    conv => whnf
    erw [e]
    exact hih 1 (by decide) (by decide)
  · have e : wrap64 (((1 : Nat) : Int) + 1 + 1) = ((2 : Nat) : Int) + 1 := by rw [IntWalk.wrap64_in _ (by omega)]; rfl
    conv => whnf
    first | refine .inl ⟨_, s_stackOwn _, ?_⟩ | refine .inl (.inl ⟨_, s_stackOwn _, ?_⟩)
    conv => whnf
    erw [e]
    exact hih 2 (by decide) (by decide)
  · have e : wrap64 (((2 : Nat) : Int) + 1 + 1) = ((3 : Nat) : Int) + 1 := by rw [IntWalk.wrap64_in _ (by omega)]; rfl
    conv => whnf
    first | refine .inl ⟨_, s_stackOwn _, ?_⟩ | refine .inl (.inl ⟨_, s_stackOwn _, ?_⟩)
    conv => whnf
    first | refine .inl ⟨_, s_hazOwn _, ?_⟩ | refine .inl (.inl ⟨_, s_hazOwn _, ?_⟩)
    conv => whnf
    erw [e]
    exact hih 3 (by decide) (by decide)
  · have e : wrap64 (((3 : Nat) : Int) + 1 + 1) = ((4 : Nat) : Int) + 1 := by rw [IntWalk.wrap64_in _ (by omega)]; rfl
    conv => whnf
    first | refine .inl ⟨_, s_stackOwn _, ?_⟩ | refine .inl (.inl ⟨_, s_stackOwn _, ?_⟩)
    conv => whnf
    first | refine .inl ⟨_, s_hazOwn _, ?_⟩ | refine .inl (.inl ⟨_, s_hazOwn _, ?_⟩)
    conv => whnf
    erw [e]
    exact hih 4 (by decide) (by decide)
  · conv => whnf
    try rfl

/-- A core's retired nodes are others. -/
def keptS (s : Sy) (k : Int) (l : Li) : Sy := withS s k ((cAt s.2.1 k).1, (cAt s.2.1 k).2.1, (cAt s.2.1 k).2.2.1, (cAt s.2.1 k).2.2.2.1, l, ())
theorem s_kept (s : Sy) (k : Int) (l : Li) (h0 : 0 ≤ k) (h1 : k < s.2.1.length) (hl : s.2.1.length ≤ 1000) : Spec Tryz.prog 211 [vS s, vI k, vL l] (vS (keptS s k l)) := by
  refine spec_introF false tab_ok 1 Tryz.func211 rfl (by kernel_rfl) rfl ?_
  conv => whnf
  refine .inr ⟨_, _, 1000, Tryz.func192, ⟨by kernel_rfl, rfl⟩, ?_⟩
  conv => whnf
  intro b hb
  cases b with
  | true =>
    have := hb rfl
    rw [this] at h1
    simp at h1
    omega
  | false =>
    conv => whnf
    refine ⟨le_most (by omega), ?_⟩
    conv => whnf
    repeat (refine ⟨by first | omega | (simp only [Option.getD_none, Option.getD_some]; omega) | (simp; done) | (simp; omega), ?_⟩; conv => whnf)
    first | exact .inl rfl | exact .inr rfl
/-- A scan looks at a slot. -/
abbrev hd8 (r : R8) : Int := r.1
abbrev snoc (l : List Int) (p : Int) : List Int := l ++ [p]
def lookP (s : Sy) (r : R8) : Int := wrap64 (8 + hd8 r)
def lookC (s : Sy) (r : R8) : Int := if wrap64 (3 * s.2.1.length) ≤ wrap64 (hd8 r + 1) then 1 else 0
def lookL (s : Sy) (r : R8) (l : List Int) : List Int := if loadI s.1 (lookP s r) ≠ 0 ∧ l.length < 24 then snoc l (loadI s.1 (lookP s r)) else l
def lookF (s : Sy) (op : Int) (r : R8) (l : Li) : Frm := (op, lookC s r, (wrap64 (hd8 r + 1), r.2), lookL s r l, ())
def look0 (s : Sy) (k op : Int) (r : R8) (l : Li) : Sy := setS (loadM s.1 (lookP s r), s.2) k (lookF s op r l)
theorem s_look0 (s : Sy) (k op : Int) (r : R8) (l : Li) (hf : Fits s.1) (hl : s.2.1.length ≤ 1000) (hl2 : ∀ c ∈ s.2.1, c.1.length ≤ 1000) : Spec Tryz.prog 194 [vS s, vI k, vF (op, (0 : Int), r, l, ())] (vS (look0 s k op r l)) := by
  refine spec_introF false tab_ok 0 Tryz.func194 rfl (by kernel_rfl) rfl ?_
  conv => whnf
  repeat (refine ⟨by first | omega | (simp only [Option.getD_none, Option.getD_some]; omega) | (simp; done) | (simp; omega), ?_⟩; conv => whnf)
  first | refine .inr (.inl ⟨_, s_mLoad s.1 (lookP s r) hf, ?_⟩) | refine .inl (.inr (.inl ⟨_, s_mLoad s.1 (lookP s r) hf, ?_⟩))
  conv => whnf
  have hset : ∀ g : Frm, Spec Tryz.prog 173 [vS (loadM s.1 (lookP s r), s.2), vI k, vF g] (vS (setS (loadM s.1 (lookP s r), s.2) k g)) := fun g => s_cSet (loadM s.1 (lookP s r), s.2) k g hl hl2
  unfold look0
  refine dcase (fun h => ?_) (fun h => ?_)
  · conv => whnf
    refine dcase (fun h2 => ?_) (fun h2 => ?_)
    · conv => whnf
      first | refine .inr (.inl ⟨_, s_clipI l, ?_⟩) | refine .inl (.inr (.inl ⟨_, s_clipI l, ?_⟩))
      conv => whnf
      refine ⟨⟨Nat.le_trans (Nat.succ_le_of_lt (Int.ofNat_lt.1 h2)) (le_most (by decide)), List.cons_ne_nil _ _⟩, ?_⟩
      conv => whnf
      repeat (refine ⟨by first | omega | (simp only [Option.getD_none, Option.getD_some]; omega) | (simp; done) | (simp; omega), ?_⟩; conv => whnf)
      refine dcase (fun h3 => ?_) (fun h3 => ?_)
      · have e : lookF s op r l = (op, (1 : Int), (wrap64 (hd8 r + 1), r.2), snoc l (loadI s.1 (lookP s r)), ()) := by
          have e1 : lookC s r = 1 := if_pos (show wrap64 (3 * s.2.1.length) ≤ wrap64 (hd8 r + 1) from h3)
          have e2 : lookL s r l = _ := if_pos ⟨h, Int.ofNat_lt.1 h2⟩
          unfold lookF
          rw [e1, e2]
          try rfl
        rw [e]
        conv => whnf
        first | refine .inr (.inl ⟨_, hset (op, (1 : Int), (wrap64 (hd8 r + 1), r.2), snoc l (loadI s.1 (lookP s r)), ()), ?_⟩) | refine .inl (.inr (.inl ⟨_, hset (op, (1 : Int), (wrap64 (hd8 r + 1), r.2), snoc l (loadI s.1 (lookP s r)), ()), ?_⟩))
        conv => whnf
        first | exact .inl rfl | exact .inr rfl
      · have e : lookF s op r l = (op, (0 : Int), (wrap64 (hd8 r + 1), r.2), snoc l (loadI s.1 (lookP s r)), ()) := by
          have e1 : lookC s r = 0 := if_neg (show ¬ wrap64 (3 * s.2.1.length) ≤ wrap64 (hd8 r + 1) from h3)
          have e2 : lookL s r l = _ := if_pos ⟨h, Int.ofNat_lt.1 h2⟩
          unfold lookF
          rw [e1, e2]
          try rfl
        rw [e]
        conv => whnf
        first | refine .inr (.inl ⟨_, hset (op, (0 : Int), (wrap64 (hd8 r + 1), r.2), snoc l (loadI s.1 (lookP s r)), ()), ?_⟩) | refine .inl (.inr (.inl ⟨_, hset (op, (0 : Int), (wrap64 (hd8 r + 1), r.2), snoc l (loadI s.1 (lookP s r)), ()), ?_⟩))
        conv => whnf
        first | exact .inl rfl | exact .inr rfl
    · conv => whnf
      repeat (refine ⟨by first | omega | (simp only [Option.getD_none, Option.getD_some]; omega) | (simp; done) | (simp; omega), ?_⟩; conv => whnf)
      refine dcase (fun h3 => ?_) (fun h3 => ?_)
      · have e : lookF s op r l = (op, (1 : Int), (wrap64 (hd8 r + 1), r.2), l, ()) := by
          have e1 : lookC s r = 1 := if_pos (show wrap64 (3 * s.2.1.length) ≤ wrap64 (hd8 r + 1) from h3)
          have e2 : lookL s r l = _ := if_neg (fun e => h2 (Int.ofNat_lt.2 e.2))
          unfold lookF
          rw [e1, e2]
          try rfl
        rw [e]
        conv => whnf
        first | refine .inr (.inl ⟨_, hset (op, (1 : Int), (wrap64 (hd8 r + 1), r.2), l, ()), ?_⟩) | refine .inl (.inr (.inl ⟨_, hset (op, (1 : Int), (wrap64 (hd8 r + 1), r.2), l, ()), ?_⟩))
        conv => whnf
        first | exact .inl rfl | exact .inr rfl
      · have e : lookF s op r l = (op, (0 : Int), (wrap64 (hd8 r + 1), r.2), l, ()) := by
          have e1 : lookC s r = 0 := if_neg (show ¬ wrap64 (3 * s.2.1.length) ≤ wrap64 (hd8 r + 1) from h3)
          have e2 : lookL s r l = _ := if_neg (fun e => h2 (Int.ofNat_lt.2 e.2))
          unfold lookF
          rw [e1, e2]
          try rfl
        rw [e]
        conv => whnf
        first | refine .inr (.inl ⟨_, hset (op, (0 : Int), (wrap64 (hd8 r + 1), r.2), l, ()), ?_⟩) | refine .inl (.inr (.inl ⟨_, hset (op, (0 : Int), (wrap64 (hd8 r + 1), r.2), l, ()), ?_⟩))
        conv => whnf
        first | exact .inl rfl | exact .inr rfl
  · conv => whnf
    repeat (refine ⟨by first | omega | (simp only [Option.getD_none, Option.getD_some]; omega) | (simp; done) | (simp; omega), ?_⟩; conv => whnf)
    refine dcase (fun h3 => ?_) (fun h3 => ?_)
    · have e : lookF s op r l = (op, (1 : Int), (wrap64 (hd8 r + 1), r.2), l, ()) := by
        have e1 : lookC s r = 1 := if_pos (show wrap64 (3 * s.2.1.length) ≤ wrap64 (hd8 r + 1) from h3)
        have e2 : lookL s r l = _ := if_neg (fun e => h e.1)
        unfold lookF
        rw [e1, e2]
        try rfl
      rw [e]
      conv => whnf
      first | refine .inr (.inl ⟨_, hset (op, (1 : Int), (wrap64 (hd8 r + 1), r.2), l, ()), ?_⟩) | refine .inl (.inr (.inl ⟨_, hset (op, (1 : Int), (wrap64 (hd8 r + 1), r.2), l, ()), ?_⟩))
      conv => whnf
      first | exact .inl rfl | exact .inr rfl
    · have e : lookF s op r l = (op, (0 : Int), (wrap64 (hd8 r + 1), r.2), l, ()) := by
        have e1 : lookC s r = 0 := if_neg (show ¬ wrap64 (3 * s.2.1.length) ≤ wrap64 (hd8 r + 1) from h3)
        have e2 : lookL s r l = _ := if_neg (fun e => h e.1)
        unfold lookF
        rw [e1, e2]
        try rfl
      rw [e]
      conv => whnf
      first | refine .inr (.inl ⟨_, hset (op, (0 : Int), (wrap64 (hd8 r + 1), r.2), l, ()), ?_⟩) | refine .inl (.inr (.inl ⟨_, hset (op, (0 : Int), (wrap64 (hd8 r + 1), r.2), l, ()), ?_⟩))
      conv => whnf
      first | exact .inl rfl | exact .inr rfl

end Go.Proofs.YtpobngddiifdpaaGreat.V
