/- How many cores there are does not change. -/
import Derived.Test.YtjeiopkfdgllhaaV29
set_option linter.unusedSimpArgs false
set_option linter.unusedVariables false
namespace Go.Proofs.Ytjeiopkfdgllhaa.V
open Go Go.RowKit Go.Proofs.Ytjeiopkfdgllhaa.Hz
set_option maxRecDepth 100000

abbrev nC (s : Sy) : Nat := s.2.1.length
theorem withS_n {s : Sy} {k : Int} {c : Cor} : nC (withS s k c) = nC s := List.length_set
theorem setS_n {s : Sy} {k : Int} {f : Frm} : nC (setS s k f) = nC s := by unfold setS; split <;> first | exact withS_n | rfl
theorem backS_n {s : Sy} {k v e : Int} : nC (backS s k v e) = nC s := by unfold backS; split <;> first | exact withS_n | rfl
theorem callP_n {s : Sy} {k op a : Int} : nC (callP s k op a) = nC s := by unfold callP pushS; split <;> first | exact withS_n | rfl
theorem callS_n {s : Sy} {k op a b c : Int} : nC (callS s k op a b c) = nC s := by unfold callS pushS; split <;> first | exact withS_n | rfl
theorem keptS_n {s : Sy} {k : Int} {l : Li} : nC (keptS s k l) = nC s := withS_n
theorem logS_n {s : Sy} {k a b c v : Int} : nC (logS s k a b c v) = nC s := congrArg List.length (logS_cores s k a b c v).1
theorem thenS_n {s : Sy} {k op pc o a : Int} {r : R8} {l : Li} : nC (thenS s k op pc r l o a) = nC s := by unfold thenS; exact callP_n.trans setS_n
theorem scanF_n (s : Sy) (k op pc : Int) (r : R8) (l : Li) : nC (scanF s k op pc r l) = nC s := by
  unfold scanF
  split
  · unfold popS
    split
    · unfold pop0; split
      · exact backS_n.trans logS_n
      · exact setS_n
    split
    · exact setS_n
    split
    · unfold pop2; cases casB s.1 0 r.1
      · exact setS_n
      · exact backS_n
    · rfl
  split
  · unfold pushSt
    split
    · exact setS_n
    split
    · exact setS_n
    split
    · unfold push2; cases casB s.1 0 r.2.1
      · exact setS_n
      · exact backS_n
    · rfl
  split
  · unfold protS
    split
    · unfold prot0; split
      · exact backS_n
      · exact setS_n
    split
    · exact setS_n
    split
    · unfold prot2; split
      · exact backS_n
      · exact setS_n
    · rfl
  split
  · unfold clearS
    split
    · split
      · exact backS_n
      · exact setS_n
    · rfl
  split
  · unfold retireS
    split
    · exact backS_n
    split
    · unfold retire0
      split
      · exact backS_n
      have hm : nC (retM s k r.1) = nC s := keptS_n
      split
      · exact backS_n.trans hm
      · exact callP_n.trans (setS_n.trans hm)
    · rfl
  split
  · unfold lookS
    split
    · exact setS_n
    split
    · unfold look1
      split
      · exact backS_n
      · unfold look1a; exact callP_n.trans (setS_n.trans keptS_n)
    · rfl
  · rfl
theorem scanS_n (s : Sy) (k : Int) : nC (scanS s k) = nC s := by
  unfold scanS
  split
  · rfl
  · exact scanF_n ..
theorem alS_n (s : Sy) (k : Int) : nC (alS s k) = nC s := by
  unfold alS
  split
  · rfl
  unfold allocF
  split
  · unfold allocS
    split
    · exact thenS_n
    split
    · split
      · exact backS_n
      split
      · exact backS_n
      · exact thenS_n
    split
    · exact backS_n
    · rfl
  split
  · unfold dropS
    split
    · exact thenS_n
    split
    · exact backS_n
    · rfl
  exact scanF_n ..
theorem itS_n (k : Int) (s : Sy) : ∀ j, nC (itS k s j) = nC s
  | 0 => rfl
  | j + 1 => (alS_n _ k).trans (itS_n k s j)
/-- A core without frames stands still. -/
theorem topI_none {s : Sy} {k : Int} (h : (cAt s.2.1 k).1.length = 0) : topI s k = none := by
  by_cases h0 : 0 ≤ k ∧ k < s.2.1.length
  · rw [topI_is h0.1 h0.2, List.length_eq_zero_iff.1 h]
    rfl
  · unfold topI
    by_cases c : 0 ≤ k
    · rw [if_pos c, List.getElem?_eq_none (by omega)]; rfl
    · rw [if_neg c]
theorem itS_still {k : Int} {s : Sy} {J : Nat} (he : (cAt (itS k s J).2.1 k).1.length = 0) : ∃ J', J' ≤ J ∧ itS k s J' = itS k s J ∧ ∀ i, i < J' → 0 < (cAt (itS k s i).2.1 k).1.length := by
  induction J with
  | zero => exact ⟨0, Nat.le_refl _, rfl, fun i hi => absurd hi (Nat.not_lt_zero _)⟩
  | succ J ih =>
    by_cases c : (cAt (itS k s J).2.1 k).1.length = 0
    · obtain ⟨J', h1, h2, h3⟩ := ih c
      refine ⟨J', Nat.le_succ_of_le h1, ?_, h3⟩
      rw [h2]
      exact (itS_idle (i := J) (topI_none c) (J + 1) (Nat.le_succ _)).symm
    · by_cases d : ∃ i, i < J + 1 ∧ (cAt (itS k s i).2.1 k).1.length = 0
      · obtain ⟨i, hi, hz⟩ := d
        exfalso
        apply c
        rw [itS_idle (topI_none hz) J (by omega)]
        exact hz
      · exact ⟨J + 1, Nat.le_refl _, rfl, fun i hi => Nat.pos_of_ne_zero fun hz => d ⟨i, hi, hz⟩⟩
end Go.Proofs.Ytjeiopkfdgllhaa.V
