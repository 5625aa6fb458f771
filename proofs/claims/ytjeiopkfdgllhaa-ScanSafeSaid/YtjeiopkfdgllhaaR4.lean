/- The document's slots' steps, and retired nodes. -/
import Derived.Test.YtjeiopkfdgllhaaR3
set_option linter.unusedSimpArgs false
set_option linter.unusedVariables false
namespace Go.Proofs.Ytjeiopkfdgllhaa.V
open Go Go.RowKit Go.Proofs.Ytjeiopkfdgllhaa.Hz
set_option maxRecDepth 100000

theorem callS_P (s : Sy) (k op a : Int) : callS s k op a 0 0 = callP s k op a := by
  have e : isCoreB s k = true ↔ 0 ≤ k ∧ k < s.2.1.length := by unfold isCoreB; rw [Bool.and_eq_true, decide_eq_true_eq, decide_eq_true_eq]
  by_cases c : 0 ≤ k ∧ k < s.2.1.length ∧ (cAt s.2.1 k).1.length < 40
  · exact (if_pos c).trans (if_pos (⟨e.2 ⟨c.1, c.2.1⟩, c.2.2⟩ : isCoreB s k = true ∧ (cAt s.2.1 k).1.length < 40)).symm
  · exact (if_neg c).trans (if_neg (fun h : isCoreB s k = true ∧ (cAt s.2.1 k).1.length < 40 => c ⟨(e.1 h.1).1, (e.1 h.1).2, h.2⟩)).symm
def hazF (s : Sy) (k op pc : Int) (r : R8) (l : Li) : Sy := if op = 3 then protS s k 3 pc r l else if op = 4 then clearS s k pc r l else s
end Go.Proofs.Ytjeiopkfdgllhaa.V
