/- Layer 6 of the program: a scan that frees. -/
import Derived.Test.YtjeiopkfdgllhaaV9
set_option linter.unusedSimpArgs false
set_option linter.unusedVariables false
namespace Go.Proofs.Ytjeiopkfdgllhaa.V
open Go Go.RowKit Go.Proofs.Ytjeiopkfdgllhaa.Hz
set_option maxRecDepth 100000

def memB (l : List Int) (n : Int) : Bool := decide (n ∈ l)
theorem memB_yes {l : List Int} {n : Int} (h : n ∈ l) : memB l n = true := decide_eq_true h
theorem memB_no {l : List Int} {n : Int} (h : ¬ n ∈ l) : memB l n = false := decide_eq_false h
theorem getD_mem {l : List Int} {i : Nat} (h : i < l.length) : l.getD i 0 ∈ l := by
  rw [List.getD_eq_getElem?_getD, List.getElem?_eq_getElem h]
  exact List.getElem_mem _
theorem mem_getD {l : List Int} {n : Int} (h : n ∈ l) : ∃ j, j < l.length ∧ l.getD j 0 = n := by
  obtain ⟨j, hj, he⟩ := List.getElem_of_mem h
  exact ⟨j, hj, by rw [List.getD_eq_getElem?_getD, List.getElem?_eq_getElem hj]; exact he⟩
theorem s_Contains (l : Li) (n : Int) (hl : l.length ≤ 1000000) : Spec Try.prog 82 [vL l, vI n] (vB (memB l n)) := by
  refine spec_introF false tab_ok 1 Try.func82 rfl (by kernel_rfl) rfl ?_
  conv => whnf
  refine .inr ⟨_, _, 1000, Try.func102, ⟨by kernel_rfl, rfl⟩, ?_⟩
  conv => whnf
  refine ⟨[], [0, 1, 6, 7, 8], [], ?_⟩
  apply Exists.intro
  conv => whnf
  refine loopK (fun i : Int => ((l.length : Int) - i).toNat) (fun i => 0 ≤ i ∧ i ≤ l.length ∧ ∀ j : Nat, (j : Int) < i → ¬ nI l j = n) (fun i => ⟨lay 19 0 [(0, vL l), (1, vI n), (6, vL l), (7, vI l.length), (8, vI i)], [], [lay 9 0 [(0, vL l), (1, vI n), (4, vB false), (5, vL l), (6, vI n)]]⟩) ?_ 0 rfl rfl ⟨by omega, by omega, fun j hj => by omega⟩
  intro i ih ⟨hi1, hi2, hi3⟩ hih
  conv => whnf
  have e : ((i.toNat : Nat) : Int) = i := by omega
  refine dcase (fun h => ?_) (fun h => ?_)
  · conv => whnf
    repeat (refine ⟨by first | omega | (simp only [Option.getD_none, Option.getD_some]; omega) | (simp; done) | (simp; omega), ?_⟩; conv => whnf)
    refine dcase (fun h2 => ?_) (fun h2 => ?_)
    · have hm : n ∈ (l : List Int) := by
        have h3 := getD_mem (l := l) (i := i.toNat) (by have h4 : i < ((List.length (α := Int) l : Nat) : Int) := h; omega)
        exact (show n = List.getD (α := Int) l i.toNat 0 from h2) ▸ h3
      rw [memB_yes hm]
      conv => whnf
      exact .inl (congrArg vB (decide_eq_true hi1))
    · conv => whnf
      have e2 : wrap64 (i + 1) = i + 1 := IntWalk.wrap64_in _ (by omega)
      erw [e2]
      refine hih (i + 1) ⟨by omega, by omega, fun j hj => ?_⟩ (by omega)
      by_cases d : (j : Int) < i
      · exact hi3 j d
      · have e3 : (j : Int) = i := by omega
        rw [e3]
        exact fun e4 => h2 e4.symm
  · have hm : ¬ n ∈ (l : List Int) := fun hm => by
      obtain ⟨j, hj, he⟩ := mem_getD hm
      exact hi3 j (by have h5 : j < List.length (α := Int) l := hj; have h6 : ¬ i < ((List.length (α := Int) l : Nat) : Int) := h; omega) he
    rw [memB_no hm]
    conv => whnf
    first | exact .inl rfl | exact .inr rfl

/-- All retired nodes, core by core. -/
def retI : List Cor → Li
  | [] => []
  | c :: r => List.append (α := Den tI) c.2.2.2.2.1 (retI r)
theorem retI_take (l : List Cor) : ∀ i : Nat, i < l.length → retI (l.take (i + 1)) = List.append (α := Den tI) (retI (l.take i)) (l.getD i (dflt tCore)).2.2.2.2.1 := by
  induction l with
  | nil => intro i h; cases h
  | cons c r ih =>
    intro i h
    cases i with
    | zero => exact List.append_nil (α := Den tI) _
    | succ i =>
      show List.append (α := Den tI) c.2.2.2.2.1 (retI (r.take (i + 1))) = List.append (α := Den tI) (List.append (α := Den tI) c.2.2.2.2.1 (retI (r.take i))) (r.getD i (dflt tCore)).2.2.2.2.1
      rw [ih i (by simpa using h)]
      exact (List.append_assoc (α := Den tI) _ _ _).symm
theorem s_Retired (s : Sy) (hl : s.2.1.length ≤ 1000) (hr : ∀ i : Nat, i ≤ s.2.1.length → (retI (s.2.1.take i)).length ≤ 1000000) : Spec Try.prog 11 [vS s] (vL (retI s.2.1)) := by
  refine spec_introF false tab_ok 0 Try.func11 rfl (by kernel_rfl) rfl ?_
  conv => whnf
  refine ⟨[(3, 16, yInt, tI)], [1, 3, 7, 8, 9], [1, 16], ?_⟩
  apply Exists.intro
  conv => whnf
  refine loopK (fun i : Int => ((s.2.1.length : Int) - i).toNat) (fun i => 0 ≤ i ∧ i ≤ s.2.1.length) (fun i => ⟨lay 19 0 [(1, pB 1), (3, .one (.row 16)), (7, .one (.sl tCore s.2.1 false)), (8, vI s.2.1.length), (9, vI i)], [(1, .cells ySys (cS s)), (16, .row yInt tI (retI (s.2.1.take i.toNat)))], []⟩) ?_ 0 rfl rfl ⟨by omega, by omega⟩
  intro i ih ⟨hi1, hi2⟩ hih
  conv => whnf
  refine dcase (fun h => ?_) (fun h => ?_)
  · have h3 : i < s.2.1.length := h
    have hlt : i.toNat < s.2.1.length := by omega
    have e := retI_take s.2.1 i.toNat hlt
    have e2 : wrap64 (i + 1) = i + 1 := IntWalk.wrap64_in _ (by omega)
    have hr2 := hr (i.toNat + 1) (by omega)
    conv => whnf
    repeat (refine ⟨by first | omega | (simp only [Option.getD_none, Option.getD_some]; omega) | (simp; done) | (simp; omega), ?_⟩; conv => whnf)
    refine ⟨Nat.le_trans (Nat.le_of_eq (List.length_append (α := Den tI)).symm) (by have h5 := le_most hr2; rw [e] at h5; exact h5), ?_⟩
    conv => whnf
    erw [e2]
    have h6 := hih (i + 1) ⟨by omega, by omega⟩ (by omega)
    rw [show (i + 1).toNat = i.toNat + 1 by omega, e] at h6
    exact h6
  · have h3 : ¬ i < s.2.1.length := h
    have e : s.2.1.take i.toNat = s.2.1 := List.take_of_length_le (by omega)
    rw [e]
    conv => whnf
    first | exact .inl rfl | exact .inr rfl
end Go.Proofs.Ytjeiopkfdgllhaa.V
