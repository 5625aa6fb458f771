/- The document's log and free list. -/
import Derived.Test.YtjeiopkfdgllhaaR1
set_option linter.unusedSimpArgs false
set_option linter.unusedVariables false
namespace Go.Proofs.Ytjeiopkfdgllhaa.V
open Go Go.RowKit Go.Proofs.Ytjeiopkfdgllhaa.Hz
set_option maxRecDepth 100000

end Go.Proofs.Ytjeiopkfdgllhaa.V
