/- Layer 7 of the program, each step; small things of the document. -/
import Derived.Test.YtlcjkogdbleboaaGreatV15
set_option linter.unusedSimpArgs false
set_option linter.unusedVariables false
namespace Go.Proofs.YtlcjkogdbleboaaGreat.V
open Go Go.RowKit Go.Proofs.YtlcjkogdbleboaaGreat.Hz
set_option maxRecDepth 100000

/-- A step of layer 7. -/
def allocF (s : Sy) (k op pc : Int) (r : R8) (l : Li) : Sy := if op = 7 then allocS s k 7 pc r l else if op = 8 then dropS s k pc r l else scanF s k op pc r l
def alS (s : Sy) (k : Int) : Sy := match topI s k with
  | none => s
  | some f => allocF s k f.1 f.2.1 f.2.2.1 f.2.2.2.1
theorem alS_some {s : Sy} {k op pc : Int} {r : R8} {l : Li} (ht : topI s k = some (op, pc, r, l, ())) : alS s k = allocF s k op pc r l := by unfold alS; rw [ht]
theorem alS_none {s : Sy} {k : Int} (ht : topI s k = none) : alS s k = s := by unfold alS; rw [ht]
theorem thenS_fin {N : Nat} {s : Sy} {k op pc o a : Int} {r : R8} {l : Li} (h : Fin N s) (hl : l.length ≤ 1000) : Fin N (thenS s k op pc r l o a) := (h.setS (f := (op, wrap64 (pc + 1), r, l, ())) hl).callP
theorem allocF_fin {N : Nat} {s : Sy} {k op pc : Int} {r : R8} {l : Li} (h : Fin N s) (hl : l.length ≤ 1000) : Fin (N + 1) (allocF s k op pc r l) := by
  have h1 := h.more (Nat.le_succ N)
  unfold allocF
  split
  · unfold allocS
    split
    · exact thenS_fin h1 hl
    split
    · split
      · exact h1.backS
      split
      · exact h1.backS
      · exact thenS_fin h1 hl
    split
    · exact h1.backS
    · exact h1
  split
  · unfold dropS
    split
    · exact thenS_fin h1 hl
    split
    · exact h1.backS
    · exact h1
  exact scanF_fin h hl
theorem alS_fin {N : Nat} {s : Sy} {k : Int} (h : Fin N s) : Fin (N + 1) (alS s k) := by
  unfold alS
  split
  · exact h.more (Nat.le_succ N)
  · rename_i f hf
    exact allocF_fin h (h.top hf)
theorem s_alStep {N : Nat} (s : Sy) (k : Int) (hf : Fin N s) (hN : N ≤ 900000) : Spec Tryz.prog 84 [vS s, vI k] (vS (alS s k)) := by
  cases ht : topI s k with
  | none => rw [alS_none ht]; exact s_allocStepNo s k ht (hf.fine hN)
  | some f =>
    obtain ⟨op, pc, r, l, u⟩ := f
    obtain rfl : u = () := rfl
    rw [alS_some ht]
    unfold allocF
    split
    · rename_i h; subst h; exact s_allocStep7 s k pc r l ht (hf.fine hN)
    split
    · rename_i h; subst h; exact s_allocStep8 s k pc r l ht (hf.fine hN)
    · rename_i h7 h8
      have := s_scanStep s k hf hN
      rw [scanS_some ht] at this
      exact s_allocStepX s _ k op pc r l h7 h8 ht (hf.fine hN) this

/-! ### Which ops -/
def ownB (lo hi op : Int) : Bool := decide (lo ≤ op ∧ op ≤ hi)
theorem s_scanOwn (op : Int) : Spec Tryz.prog 143 [vI op] (vB (ownB 1 6 op)) := by
  have yes : 1 ≤ op ∧ op ≤ 6 → ownB 1 6 op = true := decide_eq_true
  have no : ¬ (1 ≤ op ∧ op ≤ 6) → ownB 1 6 op = false := decide_eq_false
  refine spec_introF false tab_ok 0 Tryz.func143 rfl (by kernel_rfl) rfl ?_
  conv => whnf
  refine .inr (.inr ⟨500, _, s_steps, ?_⟩)
  conv => whnf
  refine ⟨fun h => ?_, fun h5 => ⟨fun h => ?_, fun h6 => ⟨fun h => ?_, fun h1 => ⟨fun h => ?_, fun h2 => ⟨fun h => ?_, fun h3 => ⟨fun h => ?_, fun h4 => ?_⟩⟩⟩⟩⟩⟩
  · have h : op = 5 := h
    rw [yes (by omega)]; conv => whnf
    first | exact .inl rfl | exact .inr rfl
  · have h : op = 6 := h
    rw [yes (by omega)]; conv => whnf
    first | exact .inl rfl | exact .inr rfl
  · have h : op = 1 := h
    rw [yes (by omega)]; conv => whnf
    first | exact .inl rfl | exact .inr rfl
  · have h : op = 2 := h
    rw [yes (by omega)]; conv => whnf
    first | exact .inl rfl | exact .inr rfl
  · have h : op = 3 := h
    rw [yes (by omega)]; conv => whnf
    first | exact .inl rfl | exact .inr rfl
  · have h : op = 4 := h
    rw [yes (by omega)]; conv => whnf
    first | exact .inl rfl | exact .inr rfl
  · have h1 : ¬ op = 1 := h1
    have h2 : ¬ op = 2 := h2
    have h3 : ¬ op = 3 := h3
    have h4 : ¬ op = 4 := h4
    have h5 : ¬ op = 5 := h5
    have h6 : ¬ op = 6 := h6
    rw [no (by omega)]; conv => whnf
    first | exact .inl rfl | exact .inr rfl
theorem s_allocOwn (op : Int) : Spec Tryz.prog 80 [vI op] (vB (ownB 1 8 op)) := by
  have yes : 1 ≤ op ∧ op ≤ 8 → ownB 1 8 op = true := decide_eq_true
  refine spec_introF false tab_ok 0 Tryz.func80 rfl (by kernel_rfl) rfl ?_
  conv => whnf
  refine dcase (fun h => ?_) (fun h => ?_)
  · rw [yes (by omega)]
    conv => whnf
    first | exact .inl rfl | exact .inr rfl
  conv => whnf
  refine dcase (fun h8 => ?_) (fun h8 => ?_)
  · rw [yes (by omega)]
    conv => whnf
    first | exact .inl rfl | exact .inr rfl
  rw [show ownB 1 8 op = ownB 1 6 op from decide_eq_decide.2 (by omega)]
  conv => whnf
  first | refine .inl ⟨_, s_scanOwn op, ?_⟩ | refine .inl (.inl ⟨_, s_scanOwn op, ?_⟩)
  conv => whnf
  first | exact .inl rfl | exact .inr rfl

/-! ### The document's -/
theorem s_refPlace (k i : Int) : Spec Tryz.prog 180 [vI k, vI i] (vI (placeI k i)) := by
  refine spec_introF false tab_ok 0 Tryz.func180 rfl (by kernel_rfl) rfl ?_
  conv => whnf
  first | exact .inl rfl | exact .inr rfl
theorem s_refCas (m : Me) (p old now : Int) (hf : Fits m) : Spec Tryz.prog 178 [vM m, vI p, vI old, vI now] (vMB (casM m p old now) (casB m p old)) := by
  have hm := hf.1
  have hg := hf.2
  have yes : 0 ≤ p ∧ p < m.1.length ∧ nI m.1 p = old → casM m p old now = storeM m p now ∧ casB m p old = true := fun h => ⟨if_pos h, decide_eq_true h⟩
  have no : ¬ (0 ≤ p ∧ p < m.1.length ∧ nI m.1 p = old) → casM m p old now = loadM m p ∧ casB m p old = false := fun h => ⟨if_neg h, decide_eq_false h⟩
  refine spec_introF false tab_ok 0 Tryz.func178 rfl (by kernel_rfl) rfl ?_
  conv => whnf
  first | refine .inr (.inl ⟨_, s_refLoad m p (by omega), ?_⟩) | refine .inl (.inr (.inl ⟨_, s_refLoad m p (by omega), ?_⟩))
  conv => whnf
  refine dcase (fun h => ?_) (fun h => ?_)
  · rw [(no (by omega)).1, (no (by omega)).2]
    conv => whnf
    first | exact .inl rfl | exact .inr rfl
  conv => whnf
  refine dcase (fun h1 => ?_) (fun h1 => ?_)
  · rw [(no (by omega)).1, (no (by omega)).2]
    conv => whnf
    first | exact .inl rfl | exact .inr rfl
  have e : loadI m p = nI m.1 p := if_neg (by omega)
  conv => whnf
  refine dcase (fun h2 => ?_) (fun h2 => ?_)
  · rw [(no (by rw [← e]; exact fun q => h2 q.2.2)).1, (no (by rw [← e]; exact fun q => h2 q.2.2)).2]
    conv => whnf
    first | exact .inl rfl | exact .inr rfl
  · have hy := yes ⟨by omega, by omega, by rw [← e]; exact Classical.not_not.1 h2⟩
    rw [hy.1, hy.2]
    conv => whnf
    first | refine .inr (.inl ⟨_, s_refStore m p now (by omega) (by omega), ?_⟩) | refine .inl (.inr (.inl ⟨_, s_refStore m p now (by omega) (by omega), ?_⟩))
    conv => whnf
    first | exact .inl rfl | exact .inr rfl
/-- How many nodes are something: from place i on. -/
def countI (g : Li) (x : Int) : Nat := (g.drop 1).count x
end Go.Proofs.YtlcjkogdbleboaaGreat.V
