/-
  No cell of these rows narrows 'for every input' (looked for: loops, veiled, ifaces, maps, wideKeys, modest, calm, conditions, laid).
  DERIVED. THE GIVEN ROWS OF THIS SEAT. 13 by the template 'for every input the law returns true; each argument reads behind the call as it read before'; 0 by the template 'total and deterministic' (their statements: YtdhjhnbmecbaaaaGreatTotals.lean).
  GIVEN WITH THE SEED: the statements are not yours to turn. If you find one false, say at which input.
  Laid BY PROGRAM, IN A SANDBOX (cutbox-rows.mjs): the forced cells as the released guide's own fill.sh prints them over the translation 321ac72467afb532… (all of the seat's roots in one cut). By AI agents, Wed Nov 11 2026. No macro, syntax, notation, axiom, sorry.
-/
import Derived.Test.YtdhjhnbmecbaaaaGreatChecked
import GoSem.Claim
import GoSem.ClaimJoined
import GoSem.ClaimMapViews
import Derived.JoinedTies
import Derived.KernelRfl
namespace Go.Proofs.YtdhjhnbmecbaaaaGreat
/- THE CELL 'sum', in the pinned program and in every row, IS THE sha256 OF THE DUMP (.gsa) THAT YtdhjhnbmecbaaaaGreatProg.lean LOADS. Nothing in Lean hashes anything: it is a label: what it is worth is what the hold of that sum in a sandbox is worth. -/
noncomputable def Tryz.pinned : Pinned := { name := "ytdhjhnbmecbaaaagreat", sum := "321ac72467afb5322a59e61ca90f732a84e03869a4ef077d1cb17c0a72ad9fc0", checked := Tryz.checked }
namespace Rows
def none {H : Type} : Left H := { results := [], args := [] }

/-- 'laws.FnExactOutputsIn': WHATEVER THE INPUT: true; the input reads as it did. -/
def fnExactOutputsInSpec : ChangeSpec := { name := "fnExactOutputsIn", fn := fun _ => fun
  | [d1, d2, d3] => { results := [.lit (.bool true)], args := [d1, d2, d3] }
  | _ => none }
def fnExactOutputsInRow : OpenClaim := { program := "ytdhjhnbmecbaaaagreat", sum := "321ac72467afb5322a59e61ca90f732a84e03869a4ef077d1cb17c0a72ad9fc0", func := "loop.example/g01274/laws.FnExactOutputsIn", spec := "fnExactOutputsIn", inPlace := ["slices.overlaps[int]"], unfollowed := true, recurses := true, plainKeys := false, apart := false }
def FnExactOutputsInSaid : Prop := fnExactOutputsInRow.holds Tryz.pinned (OpenSpec.ofChange fnExactOutputsInSpec)

/-- ITS FALSE NEIGHBOUR: 'it returns false'. Refute it at one input. -/
def fnExactOutputsInWrong : ChangeSpec := { name := "fnExactOutputsIn", fn := fun _ => fun
  | [d1, d2, d3] => { results := [.lit (.bool false)], args := [d1, d2, d3] }
  | _ => none }
def FnExactOutputsInWrongFalsely : Prop := fnExactOutputsInRow.holds Tryz.pinned (OpenSpec.ofChange fnExactOutputsInWrong)

/-- 'laws.FnExactTicksIn': WHATEVER THE INPUT: true; the input reads as it did. -/
def fnExactTicksInSpec : ChangeSpec := { name := "fnExactTicksIn", fn := fun _ => fun
  | [d1, d2, d3] => { results := [.lit (.bool true)], args := [d1, d2, d3] }
  | _ => none }
def fnExactTicksInRow : OpenClaim := { program := "ytdhjhnbmecbaaaagreat", sum := "321ac72467afb5322a59e61ca90f732a84e03869a4ef077d1cb17c0a72ad9fc0", func := "loop.example/g01274/laws.FnExactTicksIn", spec := "fnExactTicksIn", inPlace := ["slices.overlaps[int]"], unfollowed := true, recurses := true, plainKeys := false, apart := false }
def FnExactTicksInSaid : Prop := fnExactTicksInRow.holds Tryz.pinned (OpenSpec.ofChange fnExactTicksInSpec)

/-- ITS FALSE NEIGHBOUR: 'it returns false'. Refute it at one input. -/
def fnExactTicksInWrong : ChangeSpec := { name := "fnExactTicksIn", fn := fun _ => fun
  | [d1, d2, d3] => { results := [.lit (.bool false)], args := [d1, d2, d3] }
  | _ => none }
def FnExactTicksInWrongFalsely : Prop := fnExactTicksInRow.holds Tryz.pinned (OpenSpec.ofChange fnExactTicksInWrong)

/-- 'laws.FnExactMachineTables': WHATEVER THE INPUT: true; the input reads as it did. -/
def fnExactMachineTablesSpec : ChangeSpec := { name := "fnExactMachineTables", fn := fun _ => fun
  | [d] => { results := [.lit (.bool true)], args := [d] }
  | _ => none }
def fnExactMachineTablesRow : OpenClaim := { program := "ytdhjhnbmecbaaaagreat", sum := "321ac72467afb5322a59e61ca90f732a84e03869a4ef077d1cb17c0a72ad9fc0", func := "loop.example/g01274/laws.FnExactMachineTables", spec := "fnExactMachineTables", inPlace := ["slices.overlaps[int]"], unfollowed := true, recurses := true, plainKeys := false, apart := false }
def FnExactMachineTablesSaid : Prop := fnExactMachineTablesRow.holds Tryz.pinned (OpenSpec.ofChange fnExactMachineTablesSpec)

/-- ITS FALSE NEIGHBOUR: 'it returns false'. Refute it at one input. -/
def fnExactMachineTablesWrong : ChangeSpec := { name := "fnExactMachineTables", fn := fun _ => fun
  | [d] => { results := [.lit (.bool false)], args := [d] }
  | _ => none }
def FnExactMachineTablesWrongFalsely : Prop := fnExactMachineTablesRow.holds Tryz.pinned (OpenSpec.ofChange fnExactMachineTablesWrong)

/-- 'laws.FnExactSlowestRow': WHATEVER THE INPUT: true; the input reads as it did. -/
def fnExactSlowestRowSpec : ChangeSpec := { name := "fnExactSlowestRow", fn := fun _ => fun
  | [d] => { results := [.lit (.bool true)], args := [d] }
  | _ => none }
def fnExactSlowestRowRow : OpenClaim := { program := "ytdhjhnbmecbaaaagreat", sum := "321ac72467afb5322a59e61ca90f732a84e03869a4ef077d1cb17c0a72ad9fc0", func := "loop.example/g01274/laws.FnExactSlowestRow", spec := "fnExactSlowestRow", inPlace := ["slices.overlaps[int]"], unfollowed := true, recurses := true, plainKeys := false, apart := false }
def FnExactSlowestRowSaid : Prop := fnExactSlowestRowRow.holds Tryz.pinned (OpenSpec.ofChange fnExactSlowestRowSpec)

/-- ITS FALSE NEIGHBOUR: 'it returns false'. Refute it at one input. -/
def fnExactSlowestRowWrong : ChangeSpec := { name := "fnExactSlowestRow", fn := fun _ => fun
  | [d] => { results := [.lit (.bool false)], args := [d] }
  | _ => none }
def FnExactSlowestRowWrongFalsely : Prop := fnExactSlowestRowRow.holds Tryz.pinned (OpenSpec.ofChange fnExactSlowestRowWrong)

/-- 'laws.FnExactRowWith': WHATEVER THE INPUT: true; the input reads as it did. -/
def fnExactRowWithSpec : ChangeSpec := { name := "fnExactRowWith", fn := fun _ => fun
  | [d1, d2] => { results := [.lit (.bool true)], args := [d1, d2] }
  | _ => none }
def fnExactRowWithRow : OpenClaim := { program := "ytdhjhnbmecbaaaagreat", sum := "321ac72467afb5322a59e61ca90f732a84e03869a4ef077d1cb17c0a72ad9fc0", func := "loop.example/g01274/laws.FnExactRowWith", spec := "fnExactRowWith", inPlace := ["slices.overlaps[int]"], unfollowed := true, recurses := true, plainKeys := false, apart := false }
def FnExactRowWithSaid : Prop := fnExactRowWithRow.holds Tryz.pinned (OpenSpec.ofChange fnExactRowWithSpec)

/-- ITS FALSE NEIGHBOUR: 'it returns false'. Refute it at one input. -/
def fnExactRowWithWrong : ChangeSpec := { name := "fnExactRowWith", fn := fun _ => fun
  | [d1, d2] => { results := [.lit (.bool false)], args := [d1, d2] }
  | _ => none }
def FnExactRowWithWrongFalsely : Prop := fnExactRowWithRow.holds Tryz.pinned (OpenSpec.ofChange fnExactRowWithWrong)

/-- 'laws.FnExactDifferAt': WHATEVER THE INPUT: true; the input reads as it did. -/
def fnExactDifferAtSpec : ChangeSpec := { name := "fnExactDifferAt", fn := fun _ => fun
  | [d1, d2] => { results := [.lit (.bool true)], args := [d1, d2] }
  | _ => none }
def fnExactDifferAtRow : OpenClaim := { program := "ytdhjhnbmecbaaaagreat", sum := "321ac72467afb5322a59e61ca90f732a84e03869a4ef077d1cb17c0a72ad9fc0", func := "loop.example/g01274/laws.FnExactDifferAt", spec := "fnExactDifferAt", inPlace := ["slices.overlaps[int]"], unfollowed := true, recurses := true, plainKeys := false, apart := false }
def FnExactDifferAtSaid : Prop := fnExactDifferAtRow.holds Tryz.pinned (OpenSpec.ofChange fnExactDifferAtSpec)

/-- ITS FALSE NEIGHBOUR: 'it returns false'. Refute it at one input. -/
def fnExactDifferAtWrong : ChangeSpec := { name := "fnExactDifferAt", fn := fun _ => fun
  | [d1, d2] => { results := [.lit (.bool false)], args := [d1, d2] }
  | _ => none }
def FnExactDifferAtWrongFalsely : Prop := fnExactDifferAtRow.holds Tryz.pinned (OpenSpec.ofChange fnExactDifferAtWrong)

/-- 'laws.FnExactLoadedParts': WHATEVER THE INPUT: true; the input reads as it did. -/
def fnExactLoadedPartsSpec : ChangeSpec := { name := "fnExactLoadedParts", fn := fun _ => fun
  | [d] => { results := [.lit (.bool true)], args := [d] }
  | _ => none }
def fnExactLoadedPartsRow : OpenClaim := { program := "ytdhjhnbmecbaaaagreat", sum := "321ac72467afb5322a59e61ca90f732a84e03869a4ef077d1cb17c0a72ad9fc0", func := "loop.example/g01274/laws.FnExactLoadedParts", spec := "fnExactLoadedParts", inPlace := ["slices.overlaps[int]"], unfollowed := true, recurses := true, plainKeys := false, apart := false }
def FnExactLoadedPartsSaid : Prop := fnExactLoadedPartsRow.holds Tryz.pinned (OpenSpec.ofChange fnExactLoadedPartsSpec)

/-- ITS FALSE NEIGHBOUR: 'it returns false'. Refute it at one input. -/
def fnExactLoadedPartsWrong : ChangeSpec := { name := "fnExactLoadedParts", fn := fun _ => fun
  | [d] => { results := [.lit (.bool false)], args := [d] }
  | _ => none }
def FnExactLoadedPartsWrongFalsely : Prop := fnExactLoadedPartsRow.holds Tryz.pinned (OpenSpec.ofChange fnExactLoadedPartsWrong)

/-- 'laws.FnExactMachineNeeds': WHATEVER THE INPUT: true; the input reads as it did. -/
def fnExactMachineNeedsSpec : ChangeSpec := { name := "fnExactMachineNeeds", fn := fun _ => fun
  | [d] => { results := [.lit (.bool true)], args := [d] }
  | _ => none }
def fnExactMachineNeedsRow : OpenClaim := { program := "ytdhjhnbmecbaaaagreat", sum := "321ac72467afb5322a59e61ca90f732a84e03869a4ef077d1cb17c0a72ad9fc0", func := "loop.example/g01274/laws.FnExactMachineNeeds", spec := "fnExactMachineNeeds", inPlace := ["slices.overlaps[int]"], unfollowed := true, recurses := true, plainKeys := false, apart := false }
def FnExactMachineNeedsSaid : Prop := fnExactMachineNeedsRow.holds Tryz.pinned (OpenSpec.ofChange fnExactMachineNeedsSpec)

/-- ITS FALSE NEIGHBOUR: 'it returns false'. Refute it at one input. -/
def fnExactMachineNeedsWrong : ChangeSpec := { name := "fnExactMachineNeeds", fn := fun _ => fun
  | [d] => { results := [.lit (.bool false)], args := [d] }
  | _ => none }
def FnExactMachineNeedsWrongFalsely : Prop := fnExactMachineNeedsRow.holds Tryz.pinned (OpenSpec.ofChange fnExactMachineNeedsWrong)

/-- 'laws.FnExactHazardsIn': WHATEVER THE INPUT: true; the input reads as it did. -/
def fnExactHazardsInSpec : ChangeSpec := { name := "fnExactHazardsIn", fn := fun _ => fun
  | [d1, d2, d3] => { results := [.lit (.bool true)], args := [d1, d2, d3] }
  | _ => none }
def fnExactHazardsInRow : OpenClaim := { program := "ytdhjhnbmecbaaaagreat", sum := "321ac72467afb5322a59e61ca90f732a84e03869a4ef077d1cb17c0a72ad9fc0", func := "loop.example/g01274/laws.FnExactHazardsIn", spec := "fnExactHazardsIn", inPlace := ["slices.overlaps[int]"], unfollowed := true, recurses := true, plainKeys := false, apart := false }
def FnExactHazardsInSaid : Prop := fnExactHazardsInRow.holds Tryz.pinned (OpenSpec.ofChange fnExactHazardsInSpec)

/-- ITS FALSE NEIGHBOUR: 'it returns false'. Refute it at one input. -/
def fnExactHazardsInWrong : ChangeSpec := { name := "fnExactHazardsIn", fn := fun _ => fun
  | [d1, d2, d3] => { results := [.lit (.bool false)], args := [d1, d2, d3] }
  | _ => none }
def FnExactHazardsInWrongFalsely : Prop := fnExactHazardsInRow.holds Tryz.pinned (OpenSpec.ofChange fnExactHazardsInWrong)

/-- 'laws.FnExactFirstUnsteady': WHATEVER THE INPUT: true; the input reads as it did. -/
def fnExactFirstUnsteadySpec : ChangeSpec := { name := "fnExactFirstUnsteady", fn := fun _ => fun
  | [d1, d2] => { results := [.lit (.bool true)], args := [d1, d2] }
  | _ => none }
def fnExactFirstUnsteadyRow : OpenClaim := { program := "ytdhjhnbmecbaaaagreat", sum := "321ac72467afb5322a59e61ca90f732a84e03869a4ef077d1cb17c0a72ad9fc0", func := "loop.example/g01274/laws.FnExactFirstUnsteady", spec := "fnExactFirstUnsteady", inPlace := ["slices.overlaps[int]"], unfollowed := true, recurses := true, plainKeys := false, apart := false }
def FnExactFirstUnsteadySaid : Prop := fnExactFirstUnsteadyRow.holds Tryz.pinned (OpenSpec.ofChange fnExactFirstUnsteadySpec)

/-- ITS FALSE NEIGHBOUR: 'it returns false'. Refute it at one input. -/
def fnExactFirstUnsteadyWrong : ChangeSpec := { name := "fnExactFirstUnsteady", fn := fun _ => fun
  | [d1, d2] => { results := [.lit (.bool false)], args := [d1, d2] }
  | _ => none }
def FnExactFirstUnsteadyWrongFalsely : Prop := fnExactFirstUnsteadyRow.holds Tryz.pinned (OpenSpec.ofChange fnExactFirstUnsteadyWrong)

/-- 'laws.FnExactIsSteady': WHATEVER THE INPUT: true; the input reads as it did. -/
def fnExactIsSteadySpec : ChangeSpec := { name := "fnExactIsSteady", fn := fun _ => fun
  | [d1, d2] => { results := [.lit (.bool true)], args := [d1, d2] }
  | _ => none }
def fnExactIsSteadyRow : OpenClaim := { program := "ytdhjhnbmecbaaaagreat", sum := "321ac72467afb5322a59e61ca90f732a84e03869a4ef077d1cb17c0a72ad9fc0", func := "loop.example/g01274/laws.FnExactIsSteady", spec := "fnExactIsSteady", inPlace := ["slices.overlaps[int]"], unfollowed := true, recurses := true, plainKeys := false, apart := false }
def FnExactIsSteadySaid : Prop := fnExactIsSteadyRow.holds Tryz.pinned (OpenSpec.ofChange fnExactIsSteadySpec)

/-- ITS FALSE NEIGHBOUR: 'it returns false'. Refute it at one input. -/
def fnExactIsSteadyWrong : ChangeSpec := { name := "fnExactIsSteady", fn := fun _ => fun
  | [d1, d2] => { results := [.lit (.bool false)], args := [d1, d2] }
  | _ => none }
def FnExactIsSteadyWrongFalsely : Prop := fnExactIsSteadyRow.holds Tryz.pinned (OpenSpec.ofChange fnExactIsSteadyWrong)

/-- 'laws.FnExactUselessParts': WHATEVER THE INPUT: true; the input reads as it did. -/
def fnExactUselessPartsSpec : ChangeSpec := { name := "fnExactUselessParts", fn := fun _ => fun
  | [d] => { results := [.lit (.bool true)], args := [d] }
  | _ => none }
def fnExactUselessPartsRow : OpenClaim := { program := "ytdhjhnbmecbaaaagreat", sum := "321ac72467afb5322a59e61ca90f732a84e03869a4ef077d1cb17c0a72ad9fc0", func := "loop.example/g01274/laws.FnExactUselessParts", spec := "fnExactUselessParts", inPlace := ["slices.overlaps[int]"], unfollowed := true, recurses := true, plainKeys := false, apart := false }
def FnExactUselessPartsSaid : Prop := fnExactUselessPartsRow.holds Tryz.pinned (OpenSpec.ofChange fnExactUselessPartsSpec)

/-- ITS FALSE NEIGHBOUR: 'it returns false'. Refute it at one input. -/
def fnExactUselessPartsWrong : ChangeSpec := { name := "fnExactUselessParts", fn := fun _ => fun
  | [d] => { results := [.lit (.bool false)], args := [d] }
  | _ => none }
def FnExactUselessPartsWrongFalsely : Prop := fnExactUselessPartsRow.holds Tryz.pinned (OpenSpec.ofChange fnExactUselessPartsWrong)

/-- 'laws.FnExactPruneMachine': WHATEVER THE INPUT: true; the input reads as it did. -/
def fnExactPruneMachineSpec : ChangeSpec := { name := "fnExactPruneMachine", fn := fun _ => fun
  | [d] => { results := [.lit (.bool true)], args := [d] }
  | _ => none }
def fnExactPruneMachineRow : OpenClaim := { program := "ytdhjhnbmecbaaaagreat", sum := "321ac72467afb5322a59e61ca90f732a84e03869a4ef077d1cb17c0a72ad9fc0", func := "loop.example/g01274/laws.FnExactPruneMachine", spec := "fnExactPruneMachine", inPlace := ["slices.overlaps[int]"], unfollowed := true, recurses := true, plainKeys := false, apart := false }
def FnExactPruneMachineSaid : Prop := fnExactPruneMachineRow.holds Tryz.pinned (OpenSpec.ofChange fnExactPruneMachineSpec)

/-- ITS FALSE NEIGHBOUR: 'it returns false'. Refute it at one input. -/
def fnExactPruneMachineWrong : ChangeSpec := { name := "fnExactPruneMachine", fn := fun _ => fun
  | [d] => { results := [.lit (.bool false)], args := [d] }
  | _ => none }
def FnExactPruneMachineWrongFalsely : Prop := fnExactPruneMachineRow.holds Tryz.pinned (OpenSpec.ofChange fnExactPruneMachineWrong)

/- THE SECOND FORM. 'bulk': how many values and letters a reading holds, each counted each time it is reached (what is shared counts as often as it is met; a slice's spare places count too). A statement '..UptoSaid' is the law's where the arguments, and the package variables that the reading takes, are together of bulk at most 1048576: NARROWER than '..Said'. Prove '..Said' where nothing that the law and all that it calls make is longer than what came in: it says more and counts as full. Else prove '..UptoSaid'. A law counts once. -/
mutual
def uptoBulk {H : Type} : DataW H → Nat
  | .lit (.string bytes) => bytes.length + 1
  | .lit _ => 1
  | .nil => 1
  | .ptr d => uptoBulk d + 1
  | .slice elems spare => uptoBulkAll elems + uptoBulkAll spare + 1
  | .agg parts => uptoBulkAll parts + 1
  | .iface _ d => uptoBulk d + 1
  | .map entries => uptoBulkEntries entries + 1
  | .held _ => 1
def uptoBulkAll {H : Type} : List (DataW H) → Nat
  | [] => 0
  | d :: r => uptoBulk d + uptoBulkAll r
def uptoBulkEntries {H : Type} : List (Lit × DataW H) → Nat
  | [] => 0
  | x :: r => uptoBulkEntry x + uptoBulkEntries r
def uptoBulkEntry {H : Type} : Lit × DataW H → Nat
  | (.string bytes, d) => bytes.length + uptoBulk d + 1
  | (_, d) => uptoBulk d + 1
 end
def uptoSmall : (H : Type) → List (DataW H) → Bool := fun _ ds => decide (uptoBulkAll ds ≤ 1048576)
def OpenSpec.upto (s : _root_.Go.ChangeSpec) : _root_.Go.OpenSpec := { _root_.Go.OpenSpec.ofChange s with cond := some uptoSmall }

/-- 'laws.FnExactOutputsIn', WHERE WHAT IT READS IS OF BULK AT MOST 1048576: true; the input reads as it did. -/
def fnExactOutputsInUptoRow : OpenClaim := { program := "ytdhjhnbmecbaaaagreat", sum := "321ac72467afb5322a59e61ca90f732a84e03869a4ef077d1cb17c0a72ad9fc0", func := "loop.example/g01274/laws.FnExactOutputsIn", spec := "fnExactOutputsIn", inPlace := ["slices.overlaps[int]"], unfollowed := true, recurses := true, plainKeys := false, apart := false, narrowed := true }
def FnExactOutputsInUptoSaid : Prop := fnExactOutputsInUptoRow.holds Tryz.pinned (OpenSpec.upto fnExactOutputsInSpec)

/-- 'laws.FnExactTicksIn', WHERE WHAT IT READS IS OF BULK AT MOST 1048576: true; the input reads as it did. -/
def fnExactTicksInUptoRow : OpenClaim := { program := "ytdhjhnbmecbaaaagreat", sum := "321ac72467afb5322a59e61ca90f732a84e03869a4ef077d1cb17c0a72ad9fc0", func := "loop.example/g01274/laws.FnExactTicksIn", spec := "fnExactTicksIn", inPlace := ["slices.overlaps[int]"], unfollowed := true, recurses := true, plainKeys := false, apart := false, narrowed := true }
def FnExactTicksInUptoSaid : Prop := fnExactTicksInUptoRow.holds Tryz.pinned (OpenSpec.upto fnExactTicksInSpec)

/-- 'laws.FnExactMachineTables', WHERE WHAT IT READS IS OF BULK AT MOST 1048576: true; the input reads as it did. -/
def fnExactMachineTablesUptoRow : OpenClaim := { program := "ytdhjhnbmecbaaaagreat", sum := "321ac72467afb5322a59e61ca90f732a84e03869a4ef077d1cb17c0a72ad9fc0", func := "loop.example/g01274/laws.FnExactMachineTables", spec := "fnExactMachineTables", inPlace := ["slices.overlaps[int]"], unfollowed := true, recurses := true, plainKeys := false, apart := false, narrowed := true }
def FnExactMachineTablesUptoSaid : Prop := fnExactMachineTablesUptoRow.holds Tryz.pinned (OpenSpec.upto fnExactMachineTablesSpec)

/-- 'laws.FnExactSlowestRow', WHERE WHAT IT READS IS OF BULK AT MOST 1048576: true; the input reads as it did. -/
def fnExactSlowestRowUptoRow : OpenClaim := { program := "ytdhjhnbmecbaaaagreat", sum := "321ac72467afb5322a59e61ca90f732a84e03869a4ef077d1cb17c0a72ad9fc0", func := "loop.example/g01274/laws.FnExactSlowestRow", spec := "fnExactSlowestRow", inPlace := ["slices.overlaps[int]"], unfollowed := true, recurses := true, plainKeys := false, apart := false, narrowed := true }
def FnExactSlowestRowUptoSaid : Prop := fnExactSlowestRowUptoRow.holds Tryz.pinned (OpenSpec.upto fnExactSlowestRowSpec)

/-- 'laws.FnExactRowWith', WHERE WHAT IT READS IS OF BULK AT MOST 1048576: true; the input reads as it did. -/
def fnExactRowWithUptoRow : OpenClaim := { program := "ytdhjhnbmecbaaaagreat", sum := "321ac72467afb5322a59e61ca90f732a84e03869a4ef077d1cb17c0a72ad9fc0", func := "loop.example/g01274/laws.FnExactRowWith", spec := "fnExactRowWith", inPlace := ["slices.overlaps[int]"], unfollowed := true, recurses := true, plainKeys := false, apart := false, narrowed := true }
def FnExactRowWithUptoSaid : Prop := fnExactRowWithUptoRow.holds Tryz.pinned (OpenSpec.upto fnExactRowWithSpec)

/-- 'laws.FnExactDifferAt', WHERE WHAT IT READS IS OF BULK AT MOST 1048576: true; the input reads as it did. -/
def fnExactDifferAtUptoRow : OpenClaim := { program := "ytdhjhnbmecbaaaagreat", sum := "321ac72467afb5322a59e61ca90f732a84e03869a4ef077d1cb17c0a72ad9fc0", func := "loop.example/g01274/laws.FnExactDifferAt", spec := "fnExactDifferAt", inPlace := ["slices.overlaps[int]"], unfollowed := true, recurses := true, plainKeys := false, apart := false, narrowed := true }
def FnExactDifferAtUptoSaid : Prop := fnExactDifferAtUptoRow.holds Tryz.pinned (OpenSpec.upto fnExactDifferAtSpec)

/-- 'laws.FnExactLoadedParts', WHERE WHAT IT READS IS OF BULK AT MOST 1048576: true; the input reads as it did. -/
def fnExactLoadedPartsUptoRow : OpenClaim := { program := "ytdhjhnbmecbaaaagreat", sum := "321ac72467afb5322a59e61ca90f732a84e03869a4ef077d1cb17c0a72ad9fc0", func := "loop.example/g01274/laws.FnExactLoadedParts", spec := "fnExactLoadedParts", inPlace := ["slices.overlaps[int]"], unfollowed := true, recurses := true, plainKeys := false, apart := false, narrowed := true }
def FnExactLoadedPartsUptoSaid : Prop := fnExactLoadedPartsUptoRow.holds Tryz.pinned (OpenSpec.upto fnExactLoadedPartsSpec)

/-- 'laws.FnExactMachineNeeds', WHERE WHAT IT READS IS OF BULK AT MOST 1048576: true; the input reads as it did. -/
def fnExactMachineNeedsUptoRow : OpenClaim := { program := "ytdhjhnbmecbaaaagreat", sum := "321ac72467afb5322a59e61ca90f732a84e03869a4ef077d1cb17c0a72ad9fc0", func := "loop.example/g01274/laws.FnExactMachineNeeds", spec := "fnExactMachineNeeds", inPlace := ["slices.overlaps[int]"], unfollowed := true, recurses := true, plainKeys := false, apart := false, narrowed := true }
def FnExactMachineNeedsUptoSaid : Prop := fnExactMachineNeedsUptoRow.holds Tryz.pinned (OpenSpec.upto fnExactMachineNeedsSpec)

/-- 'laws.FnExactHazardsIn', WHERE WHAT IT READS IS OF BULK AT MOST 1048576: true; the input reads as it did. -/
def fnExactHazardsInUptoRow : OpenClaim := { program := "ytdhjhnbmecbaaaagreat", sum := "321ac72467afb5322a59e61ca90f732a84e03869a4ef077d1cb17c0a72ad9fc0", func := "loop.example/g01274/laws.FnExactHazardsIn", spec := "fnExactHazardsIn", inPlace := ["slices.overlaps[int]"], unfollowed := true, recurses := true, plainKeys := false, apart := false, narrowed := true }
def FnExactHazardsInUptoSaid : Prop := fnExactHazardsInUptoRow.holds Tryz.pinned (OpenSpec.upto fnExactHazardsInSpec)

/-- 'laws.FnExactFirstUnsteady', WHERE WHAT IT READS IS OF BULK AT MOST 1048576: true; the input reads as it did. -/
def fnExactFirstUnsteadyUptoRow : OpenClaim := { program := "ytdhjhnbmecbaaaagreat", sum := "321ac72467afb5322a59e61ca90f732a84e03869a4ef077d1cb17c0a72ad9fc0", func := "loop.example/g01274/laws.FnExactFirstUnsteady", spec := "fnExactFirstUnsteady", inPlace := ["slices.overlaps[int]"], unfollowed := true, recurses := true, plainKeys := false, apart := false, narrowed := true }
def FnExactFirstUnsteadyUptoSaid : Prop := fnExactFirstUnsteadyUptoRow.holds Tryz.pinned (OpenSpec.upto fnExactFirstUnsteadySpec)

/-- 'laws.FnExactIsSteady', WHERE WHAT IT READS IS OF BULK AT MOST 1048576: true; the input reads as it did. -/
def fnExactIsSteadyUptoRow : OpenClaim := { program := "ytdhjhnbmecbaaaagreat", sum := "321ac72467afb5322a59e61ca90f732a84e03869a4ef077d1cb17c0a72ad9fc0", func := "loop.example/g01274/laws.FnExactIsSteady", spec := "fnExactIsSteady", inPlace := ["slices.overlaps[int]"], unfollowed := true, recurses := true, plainKeys := false, apart := false, narrowed := true }
def FnExactIsSteadyUptoSaid : Prop := fnExactIsSteadyUptoRow.holds Tryz.pinned (OpenSpec.upto fnExactIsSteadySpec)

/-- 'laws.FnExactUselessParts', WHERE WHAT IT READS IS OF BULK AT MOST 1048576: true; the input reads as it did. -/
def fnExactUselessPartsUptoRow : OpenClaim := { program := "ytdhjhnbmecbaaaagreat", sum := "321ac72467afb5322a59e61ca90f732a84e03869a4ef077d1cb17c0a72ad9fc0", func := "loop.example/g01274/laws.FnExactUselessParts", spec := "fnExactUselessParts", inPlace := ["slices.overlaps[int]"], unfollowed := true, recurses := true, plainKeys := false, apart := false, narrowed := true }
def FnExactUselessPartsUptoSaid : Prop := fnExactUselessPartsUptoRow.holds Tryz.pinned (OpenSpec.upto fnExactUselessPartsSpec)

/-- 'laws.FnExactPruneMachine', WHERE WHAT IT READS IS OF BULK AT MOST 1048576: true; the input reads as it did. -/
def fnExactPruneMachineUptoRow : OpenClaim := { program := "ytdhjhnbmecbaaaagreat", sum := "321ac72467afb5322a59e61ca90f732a84e03869a4ef077d1cb17c0a72ad9fc0", func := "loop.example/g01274/laws.FnExactPruneMachine", spec := "fnExactPruneMachine", inPlace := ["slices.overlaps[int]"], unfollowed := true, recurses := true, plainKeys := false, apart := false, narrowed := true }
def FnExactPruneMachineUptoSaid : Prop := fnExactPruneMachineUptoRow.holds Tryz.pinned (OpenSpec.upto fnExactPruneMachineSpec)

end Rows
end Go.Proofs.YtdhjhnbmecbaaaaGreat
