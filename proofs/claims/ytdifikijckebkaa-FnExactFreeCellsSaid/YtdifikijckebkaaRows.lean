/-
  No cell of these rows narrows 'for every input' (looked for: loops, veiled, ifaces, maps, wideKeys, modest, calm, conditions, laid).
  DERIVED. THE GIVEN ROWS OF THIS SEAT. 5 by the template 'for every input the law returns true; each argument reads behind the call as it read before'; 0 by the template 'total and deterministic' (their statements: YtdifikijckebkaaTotals.lean).
  GIVEN WITH THE SEED: the statements are not yours to turn. If you find one false, say at which input.
  Laid BY PROGRAM, IN A SANDBOX (cutbox-rows.mjs): the forced cells as the released guide's own fill.sh prints them over the translation fd530620d4798bc9… (all of the seat's roots in one cut). By AI agents, Wed Nov 11 2026. No macro, syntax, notation, axiom, sorry.
-/
import Derived.Test.YtdifikijckebkaaChecked
import GoSem.Claim
import GoSem.ClaimJoined
import GoSem.ClaimMapViews
import Derived.JoinedTies
import Derived.KernelRfl
namespace Go.Proofs.Ytdifikijckebkaa
/- THE CELL 'sum', in the pinned program and in every row, IS THE sha256 OF THE DUMP (.gsa) THAT YtdifikijckebkaaProg.lean LOADS. Nothing in Lean hashes anything: it is a label: what it is worth is what the hold of that sum in a sandbox is worth. -/
noncomputable def Try.pinned : Pinned := { name := "ytdifikijckebkaa", sum := "fd530620d4798bc9943a441cb13ea0cdf98e0f34b17d1fa310efaf551e97057d", checked := Try.checked }
namespace Rows
def none {H : Type} : Left H := { results := [], args := [] }

/-- 'laws.FnExactDelayOfLine': WHATEVER THE INPUT: true; the input reads as it did. -/
def fnExactDelayOfLineSpec : ChangeSpec := { name := "fnExactDelayOfLine", fn := fun _ => fun
  | [d] => { results := [.lit (.bool true)], args := [d] }
  | _ => none }
def fnExactDelayOfLineRow : OpenClaim := { program := "ytdifikijckebkaa", sum := "fd530620d4798bc9943a441cb13ea0cdf98e0f34b17d1fa310efaf551e97057d", func := "loop.example/g01274/laws.FnExactDelayOfLine", spec := "fnExactDelayOfLine", unfollowed := true, recurses := true, plainKeys := false, apart := false }
def FnExactDelayOfLineSaid : Prop := fnExactDelayOfLineRow.holds Try.pinned (OpenSpec.ofChange fnExactDelayOfLineSpec)

/-- ITS FALSE NEIGHBOUR: 'it returns false'. Refute it at one input. -/
def fnExactDelayOfLineWrong : ChangeSpec := { name := "fnExactDelayOfLine", fn := fun _ => fun
  | [d] => { results := [.lit (.bool false)], args := [d] }
  | _ => none }
def FnExactDelayOfLineWrongFalsely : Prop := fnExactDelayOfLineRow.holds Try.pinned (OpenSpec.ofChange fnExactDelayOfLineWrong)

/-- 'laws.FnExactCornersIn': WHATEVER THE INPUT: true; the input reads as it did. -/
def fnExactCornersInSpec : ChangeSpec := { name := "fnExactCornersIn", fn := fun _ => fun
  | [d] => { results := [.lit (.bool true)], args := [d] }
  | _ => none }
def fnExactCornersInRow : OpenClaim := { program := "ytdifikijckebkaa", sum := "fd530620d4798bc9943a441cb13ea0cdf98e0f34b17d1fa310efaf551e97057d", func := "loop.example/g01274/laws.FnExactCornersIn", spec := "fnExactCornersIn", unfollowed := true, recurses := true, plainKeys := false, apart := false }
def FnExactCornersInSaid : Prop := fnExactCornersInRow.holds Try.pinned (OpenSpec.ofChange fnExactCornersInSpec)

/-- ITS FALSE NEIGHBOUR: 'it returns false'. Refute it at one input. -/
def fnExactCornersInWrong : ChangeSpec := { name := "fnExactCornersIn", fn := fun _ => fun
  | [d] => { results := [.lit (.bool false)], args := [d] }
  | _ => none }
def FnExactCornersInWrongFalsely : Prop := fnExactCornersInRow.holds Try.pinned (OpenSpec.ofChange fnExactCornersInWrong)

/-- 'laws.FnExactValidWay': WHATEVER THE INPUT: true; the input reads as it did. -/
def fnExactValidWaySpec : ChangeSpec := { name := "fnExactValidWay", fn := fun _ => fun
  | [d1, d2] => { results := [.lit (.bool true)], args := [d1, d2] }
  | _ => none }
def fnExactValidWayRow : OpenClaim := { program := "ytdifikijckebkaa", sum := "fd530620d4798bc9943a441cb13ea0cdf98e0f34b17d1fa310efaf551e97057d", func := "loop.example/g01274/laws.FnExactValidWay", spec := "fnExactValidWay", unfollowed := true, recurses := true, plainKeys := false, apart := false }
def FnExactValidWaySaid : Prop := fnExactValidWayRow.holds Try.pinned (OpenSpec.ofChange fnExactValidWaySpec)

/-- ITS FALSE NEIGHBOUR: 'it returns false'. Refute it at one input. -/
def fnExactValidWayWrong : ChangeSpec := { name := "fnExactValidWay", fn := fun _ => fun
  | [d1, d2] => { results := [.lit (.bool false)], args := [d1, d2] }
  | _ => none }
def FnExactValidWayWrongFalsely : Prop := fnExactValidWayRow.holds Try.pinned (OpenSpec.ofChange fnExactValidWayWrong)

/-- 'laws.FnExactSlowLine': WHATEVER THE INPUT: true; the input reads as it did. -/
def fnExactSlowLineSpec : ChangeSpec := { name := "fnExactSlowLine", fn := fun _ => fun
  | [d1, d2] => { results := [.lit (.bool true)], args := [d1, d2] }
  | _ => none }
def fnExactSlowLineRow : OpenClaim := { program := "ytdifikijckebkaa", sum := "fd530620d4798bc9943a441cb13ea0cdf98e0f34b17d1fa310efaf551e97057d", func := "loop.example/g01274/laws.FnExactSlowLine", spec := "fnExactSlowLine", unfollowed := true, recurses := true, plainKeys := false, apart := false }
def FnExactSlowLineSaid : Prop := fnExactSlowLineRow.holds Try.pinned (OpenSpec.ofChange fnExactSlowLineSpec)

/-- ITS FALSE NEIGHBOUR: 'it returns false'. Refute it at one input. -/
def fnExactSlowLineWrong : ChangeSpec := { name := "fnExactSlowLine", fn := fun _ => fun
  | [d1, d2] => { results := [.lit (.bool false)], args := [d1, d2] }
  | _ => none }
def FnExactSlowLineWrongFalsely : Prop := fnExactSlowLineRow.holds Try.pinned (OpenSpec.ofChange fnExactSlowLineWrong)

/-- 'laws.FnExactFreeCells': WHATEVER THE INPUT: true; the input reads as it did. -/
def fnExactFreeCellsSpec : ChangeSpec := { name := "fnExactFreeCells", fn := fun _ => fun
  | [d] => { results := [.lit (.bool true)], args := [d] }
  | _ => none }
def fnExactFreeCellsRow : OpenClaim := { program := "ytdifikijckebkaa", sum := "fd530620d4798bc9943a441cb13ea0cdf98e0f34b17d1fa310efaf551e97057d", func := "loop.example/g01274/laws.FnExactFreeCells", spec := "fnExactFreeCells", unfollowed := true, recurses := true, plainKeys := false, apart := false }
def FnExactFreeCellsSaid : Prop := fnExactFreeCellsRow.holds Try.pinned (OpenSpec.ofChange fnExactFreeCellsSpec)

/-- ITS FALSE NEIGHBOUR: 'it returns false'. Refute it at one input. -/
def fnExactFreeCellsWrong : ChangeSpec := { name := "fnExactFreeCells", fn := fun _ => fun
  | [d] => { results := [.lit (.bool false)], args := [d] }
  | _ => none }
def FnExactFreeCellsWrongFalsely : Prop := fnExactFreeCellsRow.holds Try.pinned (OpenSpec.ofChange fnExactFreeCellsWrong)

/- THE SECOND FORM. 'bulk': how many values and letters a reading holds, each counted each time it is reached (what is shared counts as often as it is met; a slice's spare places count too). A statement '..UptoSaid' is the law's where the arguments, and the package variables that the reading takes, are together of bulk at most 1048576: NARROWER than '..Said'. Prove '..Said' where nothing that the law and all that it calls make is longer than what came in: it says more and counts as full. Else prove '..UptoSaid'. A law counts once. -/
mutual
def uptoBulk {H : Type} : DataW H → Nat
  | .lit (.string bytes) => bytes.length + 1
  | .lit _ => 1
  | .nil => 1
  | .ptr d => uptoBulk d + 1
  | .slice elems spare => uptoBulkAll elems + uptoBulkAll spare + 1
  | .agg parts => uptoBulkAll parts + 1
  | .iface _ d => uptoBulk d + 1
  | .map entries => uptoBulkEntries entries + 1
  | .held _ => 1
def uptoBulkAll {H : Type} : List (DataW H) → Nat
  | [] => 0
  | d :: r => uptoBulk d + uptoBulkAll r
def uptoBulkEntries {H : Type} : List (Lit × DataW H) → Nat
  | [] => 0
  | x :: r => uptoBulkEntry x + uptoBulkEntries r
def uptoBulkEntry {H : Type} : Lit × DataW H → Nat
  | (.string bytes, d) => bytes.length + uptoBulk d + 1
  | (_, d) => uptoBulk d + 1
 end
def uptoSmall : (H : Type) → List (DataW H) → Bool := fun _ ds => decide (uptoBulkAll ds ≤ 1048576)
def OpenSpec.upto (s : _root_.Go.ChangeSpec) : _root_.Go.OpenSpec := { _root_.Go.OpenSpec.ofChange s with cond := some uptoSmall }

/-- 'laws.FnExactDelayOfLine', WHERE WHAT IT READS IS OF BULK AT MOST 1048576: true; the input reads as it did. -/
def fnExactDelayOfLineUptoRow : OpenClaim := { program := "ytdifikijckebkaa", sum := "fd530620d4798bc9943a441cb13ea0cdf98e0f34b17d1fa310efaf551e97057d", func := "loop.example/g01274/laws.FnExactDelayOfLine", spec := "fnExactDelayOfLine", unfollowed := true, recurses := true, plainKeys := false, apart := false, narrowed := true }
def FnExactDelayOfLineUptoSaid : Prop := fnExactDelayOfLineUptoRow.holds Try.pinned (OpenSpec.upto fnExactDelayOfLineSpec)

/-- 'laws.FnExactCornersIn', WHERE WHAT IT READS IS OF BULK AT MOST 1048576: true; the input reads as it did. -/
def fnExactCornersInUptoRow : OpenClaim := { program := "ytdifikijckebkaa", sum := "fd530620d4798bc9943a441cb13ea0cdf98e0f34b17d1fa310efaf551e97057d", func := "loop.example/g01274/laws.FnExactCornersIn", spec := "fnExactCornersIn", unfollowed := true, recurses := true, plainKeys := false, apart := false, narrowed := true }
def FnExactCornersInUptoSaid : Prop := fnExactCornersInUptoRow.holds Try.pinned (OpenSpec.upto fnExactCornersInSpec)

/-- 'laws.FnExactValidWay', WHERE WHAT IT READS IS OF BULK AT MOST 1048576: true; the input reads as it did. -/
def fnExactValidWayUptoRow : OpenClaim := { program := "ytdifikijckebkaa", sum := "fd530620d4798bc9943a441cb13ea0cdf98e0f34b17d1fa310efaf551e97057d", func := "loop.example/g01274/laws.FnExactValidWay", spec := "fnExactValidWay", unfollowed := true, recurses := true, plainKeys := false, apart := false, narrowed := true }
def FnExactValidWayUptoSaid : Prop := fnExactValidWayUptoRow.holds Try.pinned (OpenSpec.upto fnExactValidWaySpec)

/-- 'laws.FnExactSlowLine', WHERE WHAT IT READS IS OF BULK AT MOST 1048576: true; the input reads as it did. -/
def fnExactSlowLineUptoRow : OpenClaim := { program := "ytdifikijckebkaa", sum := "fd530620d4798bc9943a441cb13ea0cdf98e0f34b17d1fa310efaf551e97057d", func := "loop.example/g01274/laws.FnExactSlowLine", spec := "fnExactSlowLine", unfollowed := true, recurses := true, plainKeys := false, apart := false, narrowed := true }
def FnExactSlowLineUptoSaid : Prop := fnExactSlowLineUptoRow.holds Try.pinned (OpenSpec.upto fnExactSlowLineSpec)

/-- 'laws.FnExactFreeCells', WHERE WHAT IT READS IS OF BULK AT MOST 1048576: true; the input reads as it did. -/
def fnExactFreeCellsUptoRow : OpenClaim := { program := "ytdifikijckebkaa", sum := "fd530620d4798bc9943a441cb13ea0cdf98e0f34b17d1fa310efaf551e97057d", func := "loop.example/g01274/laws.FnExactFreeCells", spec := "fnExactFreeCells", unfollowed := true, recurses := true, plainKeys := false, apart := false, narrowed := true }
def FnExactFreeCellsUptoSaid : Prop := fnExactFreeCellsUptoRow.holds Try.pinned (OpenSpec.upto fnExactFreeCellsSpec)

end Rows
end Go.Proofs.Ytdifikijckebkaa
