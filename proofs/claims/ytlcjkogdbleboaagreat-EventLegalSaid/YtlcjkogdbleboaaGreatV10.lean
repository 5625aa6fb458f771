/- Layer 6 of the program: a scan that frees. -/
import Derived.Test.YtlcjkogdbleboaaGreatV9
set_option linter.unusedSimpArgs false
set_option linter.unusedVariables false
namespace Go.Proofs.YtlcjkogdbleboaaGreat.V
open Go Go.RowKit Go.Proofs.YtlcjkogdbleboaaGreat.Hz
set_option maxRecDepth 100000

def memB (l : List Int) (n : Int) : Bool := decide (n ∈ l)
theorem memB_yes {l : List Int} {n : Int} (h : n ∈ l) : memB l n = true := decide_eq_true h
theorem memB_no {l : List Int} {n : Int} (h : ¬ n ∈ l) : memB l n = false := decide_eq_false h
theorem getD_mem {l : List Int} {i : Nat} (h : i < l.length) : l.getD i 0 ∈ l := by
  rw [List.getD_eq_getElem?_getD, List.getElem?_eq_getElem h]
  exact List.getElem_mem _
theorem mem_getD {l : List Int} {n : Int} (h : n ∈ l) : ∃ j, j < l.length ∧ l.getD j 0 = n := by
  obtain ⟨j, hj, he⟩ := List.getElem_of_mem h
  exact ⟨j, hj, by rw [List.getD_eq_getElem?_getD, List.getElem?_eq_getElem hj]; exact he⟩
theorem s_Contains (l : Li) (n : Int) (hl : l.length ≤ 1000000) : Spec Tryz.prog 268 [vL l, vI n] (vB (memB l n)) := by
  refine spec_introF false tab_ok 1 Tryz.func268 rfl (by kernel_rfl) rfl ?_
  conv => whnf
  refine .inr ⟨_, _, 1000, Tryz.func274, ⟨by kernel_rfl, rfl⟩, ?_⟩
  conv => whnf
  refine ⟨[], [0, 1, 6, 7, 8], [], ?_⟩
  apply Exists.intro
  conv => whnf
  refine loopK (fun i : Int => ((l.length : Int) - i).toNat) (fun i => 0 ≤ i ∧ i ≤ l.length ∧ ∀ j : Nat, (j : Int) < i → ¬ nI l j = n) (fun i => ⟨lay 19 0 [(0, vL l), (1, vI n), (6, vL l), (7, vI l.length), (8, vI i)], [], [lay 9 0 [(0, vL l), (1, vI n), (4, vB false), (5, vL l), (6, vI n)]]⟩) ?_ 0 rfl rfl ⟨by omega, by omega, fun j hj => by omega⟩
  intro i ih ⟨hi1, hi2, hi3⟩ hih
  conv => whnf
  have e : ((i.toNat : Nat) : Int) = i := by omega
  refine dcase (fun h => ?_) (fun h => ?_)
  · conv => whnf
    repeat (refine ⟨by first | omega | (simp only [Option.getD_none, Option.getD_some]; omega) | (simp; done) | (simp; omega), ?_⟩; conv => whnf)
    refine dcase (fun h2 => ?_) (fun h2 => ?_)
    · have hm : n ∈ (l : List Int) := by
        have h3 := getD_mem (l := l) (i := i.toNat) (by have h4 : i < ((List.length (α := Int) l : Nat) : Int) := h; omega)
        exact (show n = List.getD (α := Int) l i.toNat 0 from h2) ▸ h3
      rw [memB_yes hm]
      conv => whnf
      exact .inl (congrArg vB (decide_eq_true hi1))
    · conv => whnf
      have e2 : wrap64 (i + 1) = i + 1 := IntWalk.wrap64_in _ (by omega)
      erw [e2]
      refine hih (i + 1) ⟨by omega, by omega, fun j hj => ?_⟩ (by omega)
      by_cases d : (j : Int) < i
      · exact hi3 j d
      · have e3 : (j : Int) = i := by omega
        rw [e3]
        exact fun e4 => h2 e4.symm
  · have hm : ¬ n ∈ (l : List Int) := fun hm => by
      obtain ⟨j, hj, he⟩ := mem_getD hm
      exact hi3 j (by have h5 : j < List.length (α := Int) l := hj; have h6 : ¬ i < ((List.length (α := Int) l : Nat) : Int) := h; omega) he
    rw [memB_no hm]
    conv => whnf
    first | exact .inl rfl | exact .inr rfl

/-- All retired nodes, core by core. -/
def retI : List Cor → Li
  | [] => []
  | c :: r => List.append (α := Den tI) c.2.2.2.2.1 (retI r)
theorem retI_take (l : List Cor) : ∀ i : Nat, i < l.length → retI (l.take (i + 1)) = List.append (α := Den tI) (retI (l.take i)) (l.getD i (dflt tCore)).2.2.2.2.1 := by
  induction l with
  | nil => intro i h; cases h
  | cons c r ih =>
    intro i h
    cases i with
    | zero => exact List.append_nil (α := Den tI) _
    | succ i =>
      show List.append (α := Den tI) c.2.2.2.2.1 (retI (r.take (i + 1))) = List.append (α := Den tI) (List.append (α := Den tI) c.2.2.2.2.1 (retI (r.take i))) (r.getD i (dflt tCore)).2.2.2.2.1
      rw [ih i (by simpa using h)]
      exact (List.append_assoc (α := Den tI) _ _ _).symm
end Go.Proofs.YtlcjkogdbleboaaGreat.V
