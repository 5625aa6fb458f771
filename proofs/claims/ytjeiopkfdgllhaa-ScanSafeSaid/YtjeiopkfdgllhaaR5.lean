/- The document's steps of layers 6 and 7, parts, new systems. -/
import Derived.Test.YtjeiopkfdgllhaaR4
set_option linter.unusedSimpArgs false
set_option linter.unusedVariables false
namespace Go.Proofs.Ytjeiopkfdgllhaa.V
open Go Go.RowKit Go.Proofs.Ytjeiopkfdgllhaa.Hz
set_option maxRecDepth 100000

theorem scanF_haz {s : Sy} {k op pc : Int} {r : R8} {l : Li} (h : or2 op 3 4 = true) : scanF s k op pc r l = hazF s k op pc r l := by
  have h : op = 3 ∨ op = 4 := by
    unfold or2 at h
    rw [Bool.or_eq_true, decide_eq_true_eq, decide_eq_true_eq] at h
    exact h
  rcases h with h | h <;> subst h <;> rfl
theorem scanF_stack {s : Sy} {k op pc : Int} {r : R8} {l : Li} (h5 : ¬ op = 5) (h6 : ¬ op = 6) (h : or2 op 3 4 = false) : scanF s k op pc r l = stackF s k op pc r l := by
  have h : ¬ op = 3 ∧ ¬ op = 4 := by
    unfold or2 at h
    rw [Bool.or_eq_false_iff, decide_eq_false_iff_not, decide_eq_false_iff_not] at h
    exact h
  unfold scanF stackF
  rw [if_neg h.1, if_neg h.2, if_neg h5, if_neg h6]
theorem thenS_is {s : Sy} {k op pc q o a : Int} {r : R8} {l : Li} (h : wrap64 (pc + 1) = q) : thenS s k op pc r l o a = callS (setS s k (op, q, r, l, ())) k o a 0 0 := by
  unfold thenS
  rw [callS_P, h]
end Go.Proofs.Ytjeiopkfdgllhaa.V
