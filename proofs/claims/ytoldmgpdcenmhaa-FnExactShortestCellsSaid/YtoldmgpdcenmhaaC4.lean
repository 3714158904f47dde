/- Contracts for CornersIn and SlowLine. -/
import Derived.Test.YtoldmgpdcenmhaaC3
import Derived.Lib.SliceRun
namespace Go.Proofs.Ytoldmgpdcenmhaa
open Go.RowKit
set_option linter.unusedVariables false
set_option linter.unusedSimpArgs false
set_option maxHeartbeats 400000
set_option maxRecDepth 100000

def isCorner (p : Pc) : Int := if p.k = 1 then 1 else 0
theorem isCorner_bd (p : Pc) : -128 ≤ isCorner p ∧ isCorner p ≤ 127 := by unfold isCorner; split <;> omega


end Go.Proofs.Ytoldmgpdcenmhaa
