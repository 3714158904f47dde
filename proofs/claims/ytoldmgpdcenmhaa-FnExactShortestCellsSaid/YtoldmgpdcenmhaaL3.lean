/- The walk of the law FnExactValidWay. -/
import Derived.Test.YtoldmgpdcenmhaaC10
import Derived.Deep.RegionHeld3
import Derived.Deep.CutRange
import Derived.StillTailTactics
namespace Go.Proofs.Ytoldmgpdcenmhaa
open Go.RowKit
set_option linter.unusedVariables false
set_option linter.unusedSimpArgs false
set_option maxHeartbeats 400000
set_option maxRecDepth 100000
theorem ext_s {w w' : World} (h : Below w.heap.size w w') : Below w.heap.size w w' ∧ ∀ b o, b < w.heap.size → w'.cell? ⟨b, o, none⟩ = w.cell? ⟨b, o, none⟩ := ⟨h, (bcell h).1⟩
end Go.Proofs.Ytoldmgpdcenmhaa
