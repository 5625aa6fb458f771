/- Layer 7 of the program, each step; small things of the document. -/
import Derived.Test.YtjeiopkfdgllhaaV15
set_option linter.unusedSimpArgs false
set_option linter.unusedVariables false
namespace Go.Proofs.Ytjeiopkfdgllhaa.V
open Go Go.RowKit Go.Proofs.Ytjeiopkfdgllhaa.Hz
set_option maxRecDepth 100000

/-- A step of layer 7. -/
def allocF (s : Sy) (k op pc : Int) (r : R8) (l : Li) : Sy := if op = 7 then allocS s k 7 pc r l else if op = 8 then dropS s k pc r l else scanF s k op pc r l
def alS (s : Sy) (k : Int) : Sy := match topI s k with
  | none => s
  | some f => allocF s k f.1 f.2.1 f.2.2.1 f.2.2.2.1
theorem alS_some {s : Sy} {k op pc : Int} {r : R8} {l : Li} (ht : topI s k = some (op, pc, r, l, ())) : alS s k = allocF s k op pc r l := by unfold alS; rw [ht]
theorem alS_none {s : Sy} {k : Int} (ht : topI s k = none) : alS s k = s := by unfold alS; rw [ht]
theorem thenS_fin {N : Nat} {s : Sy} {k op pc o a : Int} {r : R8} {l : Li} (h : Fin N s) (hl : l.length ≤ 1000) : Fin N (thenS s k op pc r l o a) := (h.setS (f := (op, wrap64 (pc + 1), r, l, ())) hl).callP
theorem allocF_fin {N : Nat} {s : Sy} {k op pc : Int} {r : R8} {l : Li} (h : Fin N s) (hl : l.length ≤ 1000) : Fin (N + 1) (allocF s k op pc r l) := by
  have h1 := h.more (Nat.le_succ N)
  unfold allocF
  split
  · unfold allocS
    split
    · exact thenS_fin h1 hl
    split
    · split
      · exact h1.backS
      split
      · exact h1.backS
      · exact thenS_fin h1 hl
    split
    · exact h1.backS
    · exact h1
  split
  · unfold dropS
    split
    · exact thenS_fin h1 hl
    split
    · exact h1.backS
    · exact h1
  exact scanF_fin h hl
theorem alS_fin {N : Nat} {s : Sy} {k : Int} (h : Fin N s) : Fin (N + 1) (alS s k) := by
  unfold alS
  split
  · exact h.more (Nat.le_succ N)
  · rename_i f hf
    exact allocF_fin h (h.top hf)
theorem s_alStep {N : Nat} (s : Sy) (k : Int) (hf : Fin N s) (hN : N ≤ 900000) : Spec Try.prog 26 [vS s, vI k] (vS (alS s k)) := by
  cases ht : topI s k with
  | none => rw [alS_none ht]; exact s_allocStepNo s k ht (hf.fine hN)
  | some f =>
    obtain ⟨op, pc, r, l, u⟩ := f
    obtain rfl : u = () := rfl
    rw [alS_some ht]
    unfold allocF
    split
    · rename_i h; subst h; exact s_allocStep7 s k pc r l ht (hf.fine hN)
    split
    · rename_i h; subst h; exact s_allocStep8 s k pc r l ht (hf.fine hN)
    · rename_i h7 h8
      have := s_scanStep s k hf hN
      rw [scanS_some ht] at this
      exact s_allocStepX s _ k op pc r l h7 h8 ht (hf.fine hN) this

/-! ### Which ops -/
def ownB (lo hi op : Int) : Bool := decide (lo ≤ op ∧ op ≤ hi)
theorem s_scanOwn (op : Int) : Spec Try.prog 28 [vI op] (vB (ownB 1 6 op)) := by
  have yes : 1 ≤ op ∧ op ≤ 6 → ownB 1 6 op = true := decide_eq_true
  have no : ¬ (1 ≤ op ∧ op ≤ 6) → ownB 1 6 op = false := decide_eq_false
  refine spec_introF false tab_ok 0 Try.func28 rfl (by kernel_rfl) rfl ?_
  conv => whnf
  refine .inr (.inr ⟨500, _, s_steps, ?_⟩)
  conv => whnf
  refine ⟨fun h => ?_, fun h5 => ⟨fun h => ?_, fun h6 => ⟨fun h => ?_, fun h1 => ⟨fun h => ?_, fun h2 => ⟨fun h => ?_, fun h3 => ⟨fun h => ?_, fun h4 => ?_⟩⟩⟩⟩⟩⟩
  · have h : op = 5 := h
    rw [yes (by omega)]; conv => whnf
    first | exact .inl rfl | exact .inr rfl
  · have h : op = 6 := h
    rw [yes (by omega)]; conv => whnf
    first | exact .inl rfl | exact .inr rfl
  · have h : op = 1 := h
    rw [yes (by omega)]; conv => whnf
    first | exact .inl rfl | exact .inr rfl
  · have h : op = 2 := h
    rw [yes (by omega)]; conv => whnf
    first | exact .inl rfl | exact .inr rfl
  · have h : op = 3 := h
    rw [yes (by omega)]; conv => whnf
    first | exact .inl rfl | exact .inr rfl
  · have h : op = 4 := h
    rw [yes (by omega)]; conv => whnf
    first | exact .inl rfl | exact .inr rfl
  · have h1 : ¬ op = 1 := h1
    have h2 : ¬ op = 2 := h2
    have h3 : ¬ op = 3 := h3
    have h4 : ¬ op = 4 := h4
    have h5 : ¬ op = 5 := h5
    have h6 : ¬ op = 6 := h6
    rw [no (by omega)]; conv => whnf
    first | exact .inl rfl | exact .inr rfl
theorem s_allocOwn (op : Int) : Spec Try.prog 43 [vI op] (vB (ownB 1 8 op)) := by
  have yes : 1 ≤ op ∧ op ≤ 8 → ownB 1 8 op = true := decide_eq_true
  refine spec_introF false tab_ok 0 Try.func43 rfl (by kernel_rfl) rfl ?_
  conv => whnf
  refine dcase (fun h => ?_) (fun h => ?_)
  · rw [yes (by omega)]
    conv => whnf
    first | exact .inl rfl | exact .inr rfl
  conv => whnf
  refine dcase (fun h8 => ?_) (fun h8 => ?_)
  · rw [yes (by omega)]
    conv => whnf
    first | exact .inl rfl | exact .inr rfl
  rw [show ownB 1 8 op = ownB 1 6 op from decide_eq_decide.2 (by omega)]
  conv => whnf
  first | refine .inl ⟨_, s_scanOwn op, ?_⟩ | refine .inl (.inl ⟨_, s_scanOwn op, ?_⟩)
  conv => whnf
  first | exact .inl rfl | exact .inr rfl

/-! ### The document's -/
theorem s_refPlace (k i : Int) : Spec Try.prog 22 [vI k, vI i] (vI (placeI k i)) := by
  refine spec_introF false tab_ok 0 Try.func22 rfl (by kernel_rfl) rfl ?_
  conv => whnf
  first | exact .inl rfl | exact .inr rfl
theorem s_refCas (m : Me) (p old now : Int) (hf : Fits m) : Spec Try.prog 35 [vM m, vI p, vI old, vI now] (vMB (casM m p old now) (casB m p old)) := by
  have hm := hf.1
  have hg := hf.2
  have yes : 0 ≤ p ∧ p < m.1.length ∧ nI m.1 p = old → casM m p old now = storeM m p now ∧ casB m p old = true := fun h => ⟨if_pos h, decide_eq_true h⟩
  have no : ¬ (0 ≤ p ∧ p < m.1.length ∧ nI m.1 p = old) → casM m p old now = loadM m p ∧ casB m p old = false := fun h => ⟨if_neg h, decide_eq_false h⟩
  refine spec_introF false tab_ok 0 Try.func35 rfl (by kernel_rfl) rfl ?_
  conv => whnf
  first | refine .inr (.inl ⟨_, s_refLoad m p (by omega), ?_⟩) | refine .inl (.inr (.inl ⟨_, s_refLoad m p (by omega), ?_⟩))
  conv => whnf
  refine dcase (fun h => ?_) (fun h => ?_)
  · rw [(no (by omega)).1, (no (by omega)).2]
    conv => whnf
    first | exact .inl rfl | exact .inr rfl
  conv => whnf
  refine dcase (fun h1 => ?_) (fun h1 => ?_)
  · rw [(no (by omega)).1, (no (by omega)).2]
    conv => whnf
    first | exact .inl rfl | exact .inr rfl
  have e : loadI m p = nI m.1 p := if_neg (by omega)
  conv => whnf
  refine dcase (fun h2 => ?_) (fun h2 => ?_)
  · rw [(no (by rw [← e]; exact fun q => h2 q.2.2)).1, (no (by rw [← e]; exact fun q => h2 q.2.2)).2]
    conv => whnf
    first | exact .inl rfl | exact .inr rfl
  · have hy := yes ⟨by omega, by omega, by rw [← e]; exact Classical.not_not.1 h2⟩
    rw [hy.1, hy.2]
    conv => whnf
    first | refine .inr (.inl ⟨_, s_refStore m p now (by omega) (by omega), ?_⟩) | refine .inl (.inr (.inl ⟨_, s_refStore m p now (by omega) (by omega), ?_⟩))
    conv => whnf
    first | exact .inl rfl | exact .inr rfl
/-- How many nodes are something: from place i on. -/
def countI (g : Li) (x : Int) : Nat := (g.drop 1).count x
theorem s_refCount (m : Me) (x : Int) (hf : Fits m) : Spec Try.prog 16 [vM m, vI x] (vI (countI m.2.1 x)) := by
  have hg := hf.2
  have key : ∀ i : Nat, 1 ≤ i → i < m.2.1.length → (((m.2.1.take (i + 1)).drop 1).count x : Int) = (((m.2.1.take i).drop 1).count x : Int) + (if nI m.2.1 i = x then 1 else 0) := fun i h1 h2 => by
    have e : (m.2.1.take (i + 1)).drop 1 = (m.2.1.take i).drop 1 ++ [nI m.2.1 i] := by
      rw [List.take_add_one, List.drop_append_of_le_length (by rw [List.length_take]; omega), List.getElem?_eq_getElem h2]
      congr 1
      show [_] = [_]
      rw [nI, Int.toNat_natCast, List.getD_eq_getElem?_getD, List.getElem?_eq_getElem h2]
      rfl
    rw [e, List.count_append]
    by_cases c : nI m.2.1 i = x
    · rw [if_pos c, c, List.count_singleton_self]; rfl
    · have e9 : List.count x [nI m.2.1 i] = 0 := List.count_eq_zero.2 (by rw [List.mem_singleton]; exact fun q => c q.symm)
      rw [if_neg c, e9]
      rfl
  refine spec_introF false tab_ok 0 Try.func16 rfl (by kernel_rfl) rfl ?_
  conv => whnf
  refine ⟨[], [1, 2, 4, 5, 6], [2], ?_⟩
  apply Exists.intro
  conv => whnf
  refine loopK (fun i : Int × Int => ((m.2.1.length : Int) + 1 - i.1).toNat) (fun i => 1 ≤ i.1 ∧ i.2 = ((m.2.1.take i.1.toNat).drop 1).count x) (fun i => ⟨lay 24 0 [(1, vI x), (2, pB 2), (4, vI 0), (5, vI i.2), (6, vI i.1)], [(2, .cells yMem (cM m))], []⟩) ?_ (1, 0) rfl rfl ⟨by decide, ?_⟩
  rotate_left
  · show (0 : Int) = ((m.2.1.take 1).drop 1).count x
    have : (m.2.1.take 1).drop 1 = [] := List.drop_eq_nil_of_le (List.length_take_le ..)
    rw [this]
    rfl
  intro ⟨i, z⟩ ih ⟨hi1, hi2⟩ hih
  simp only at hi1 hi2 hih
  conv => whnf
  refine dcase (fun h => ?_) (fun h => ?_)
  · have h : i < m.2.1.length := h
    have e2 : wrap64 (i + 1) = i + 1 := IntWalk.wrap64_in _ (by omega)
    have hk := key i.toNat (by omega) (by omega)
    have ei : ((i.toNat : Nat) : Int) = i := by omega
    rw [ei] at hk
    have hz : z ≤ 1000 := by
      have h5 : List.count x ((m.2.1.take i.toNat).drop 1) ≤ ((m.2.1.take i.toNat).drop 1).length := List.count_le_length
      have h6 : ((m.2.1.take i.toNat).drop 1).length ≤ m.2.1.length := by rw [List.length_drop, List.length_take]; omega
      omega
    have e3 : wrap64 (z + 1) = z + 1 := IntWalk.wrap64_in _ (by omega)
    have e4 : (i + 1).toNat = i.toNat + 1 := by omega
    conv => whnf
    repeat (refine ⟨by first | omega | (simp only [Option.getD_none, Option.getD_some]; omega) | (simp; done) | (simp; omega), ?_⟩; conv => whnf)
    refine dcase (fun h2 => ?_) (fun h2 => ?_)
    · have h2 : nI m.2.1 i = x := h2
      rw [if_pos h2] at hk
      conv => whnf
      erw [e2, e3]
      exact hih (i + 1, z + 1) ⟨by show 1 ≤ i + 1; omega, by show z + 1 = _; rw [e4, hk, hi2]⟩ (by show (_ - (i + 1)).toNat < _; omega)
    · have h2 : ¬ nI m.2.1 i = x := h2
      rw [if_neg h2] at hk
      conv => whnf
      erw [e2]
      exact hih (i + 1, z) ⟨by show 1 ≤ i + 1; omega, by show z = _; rw [e4, hk, hi2, Int.add_zero]⟩ (by show (_ - (i + 1)).toNat < _; omega)
  · have h : ¬ i < m.2.1.length := h
    rw [List.take_of_length_le (by omega)] at hi2
    rw [show ((countI m.2.1 x : Nat) : Int) = z from hi2.symm]
    conv => whnf
    first | exact .inl rfl | exact .inr rfl
theorem s_refRetired (s : Sy) (hl : s.2.1.length ≤ 1000) (hr : ∀ i : Nat, i ≤ s.2.1.length → (retI (s.2.1.take i)).length ≤ 1000000) : Spec Try.prog 21 [vS s] (vL (retI s.2.1)) := by
  refine spec_introF false tab_ok 0 Try.func21 rfl (by kernel_rfl) rfl ?_
  conv => whnf
  refine ⟨[(3, 19, yInt, tI)], [1, 3, 4], [1, 19], ?_⟩
  apply Exists.intro
  conv => whnf
  refine loopK (fun i : Int => ((s.2.1.length : Int) - i).toNat) (fun i => 0 ≤ i ∧ i ≤ s.2.1.length) (fun i => ⟨lay 21 0 [(1, pB 1), (3, .one (.row 19)), (4, vI i)], [(1, .cells ySys (cS s)), (19, .row yInt tI (retI (s.2.1.take i.toNat)))], []⟩) ?_ 0 rfl rfl ⟨by omega, by omega⟩
  intro i ih ⟨hi1, hi2⟩ hih
  conv => whnf
  refine dcase (fun h => ?_) (fun h => ?_)
  · have h3 : i < s.2.1.length := h
    have hlt : i.toNat < s.2.1.length := by omega
    have e := retI_take s.2.1 i.toNat hlt
    have e2 : wrap64 (i + 1) = i + 1 := IntWalk.wrap64_in _ (by omega)
    have hr2 := hr (i.toNat + 1) (by omega)
    conv => whnf
    repeat (refine ⟨by first | omega | (simp only [Option.getD_none, Option.getD_some]; omega) | (simp; done) | (simp; omega), ?_⟩; conv => whnf)
    refine ⟨Nat.le_trans (Nat.le_of_eq (List.length_append (α := Den tI)).symm) (by have h5 := le_most hr2; rw [e] at h5; exact h5), ?_⟩
    conv => whnf
    erw [e2]
    have h6 := hih (i + 1) ⟨by omega, by omega⟩ (by omega)
    rw [show (i + 1).toNat = i.toNat + 1 by omega, e] at h6
    exact h6
  · have h3 : ¬ i < s.2.1.length := h
    have e : s.2.1.take i.toNat = s.2.1 := List.take_of_length_le (by omega)
    rw [e]
    conv => whnf
    first | exact .inl rfl | exact .inr rfl
end Go.Proofs.Ytjeiopkfdgllhaa.V
