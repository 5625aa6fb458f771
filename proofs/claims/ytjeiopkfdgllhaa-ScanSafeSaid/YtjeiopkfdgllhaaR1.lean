/- The document's cores: Set, Back, Turn, On. -/
import Derived.Test.YtjeiopkfdgllhaaV21
set_option linter.unusedSimpArgs false
set_option linter.unusedVariables false
namespace Go.Proofs.Ytjeiopkfdgllhaa.V
open Go Go.RowKit Go.Proofs.Ytjeiopkfdgllhaa.Hz
set_option maxRecDepth 100000

theorem cAt_frames {s : Sy} {k : Int} (hl2 : ∀ c ∈ s.2.1, c.1.length ≤ 1000) : (cAt s.2.1 k).1.length ≤ 1000 := by
  rcases cAt_mem (l := s.2.1) (k := k) with e | e
  · exact hl2 _ e
  · rw [e]; exact Nat.zero_le _
end Go.Proofs.Ytjeiopkfdgllhaa.V
