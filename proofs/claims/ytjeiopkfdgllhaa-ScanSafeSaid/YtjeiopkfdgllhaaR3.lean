/- The document's free list, hazard slots. -/
import Derived.Test.YtjeiopkfdgllhaaR2
set_option linter.unusedSimpArgs false
set_option linter.unusedVariables false
namespace Go.Proofs.Ytjeiopkfdgllhaa.V
open Go Go.RowKit Go.Proofs.Ytjeiopkfdgllhaa.Hz
set_option maxRecDepth 100000

theorem Fine.top {s : Sy} {k : Int} (hf : Fine s) : Spec Try.prog 14 [vS s, vI k] (vFB ((topI s k).getD (dflt tFrame)) (topI s k).isSome) := s_refTop s k (Nat.le_trans hf.cores (by decide)) (fun c hc => Nat.le_trans (hf.frames c hc) (by decide))
theorem s_refTopOf {s : Sy} {k : Int} {f : Frm} (ht : topI s k = some f) (hf : Fine s) : Spec Try.prog 14 [vS s, vI k] (vFB f true) := by
  have h := hf.top (k := k)
  rw [ht] at h
  exact h
theorem s_refTopNo {s : Sy} {k : Int} (ht : topI s k = none) (hf : Fine s) : Spec Try.prog 14 [vS s, vI k] (vFB (dflt tFrame) false) := by
  have h := hf.top (k := k)
  rw [ht] at h
  exact h
/-- What a step of the free list's ops does. -/
def stackF (s : Sy) (k op pc : Int) (r : R8) (l : Li) : Sy := if op = 1 then popS s k 1 pc r l else if op = 2 then pushSt s k 2 pc r l else s
end Go.Proofs.Ytjeiopkfdgllhaa.V
