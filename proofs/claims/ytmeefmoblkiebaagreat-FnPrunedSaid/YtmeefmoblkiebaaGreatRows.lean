/-
  No cell of these rows narrows 'for every input' (looked for: loops, veiled, ifaces, maps, wideKeys, modest, calm, conditions, laid).
  DERIVED. THE GIVEN ROWS OF THIS SEAT. 3 by the template 'for every input the law returns true; each argument reads behind the call as it read before'; 0 by the template 'total and deterministic' (their statements: YtmeefmoblkiebaaGreatTotals.lean).
  GIVEN WITH THE SEED: the statements are not yours to turn. If you find one false, say at which input.
  Laid BY PROGRAM, IN A SANDBOX (cutbox-rows.mjs): the forced cells as the released guide's own fill.sh prints them over the translation dcd48925213878e1… (all of the seat's roots in one cut). By AI agents, Wed Nov 11 2026. No macro, syntax, notation, axiom, sorry.
-/
import Derived.Test.YtmeefmoblkiebaaGreatChecked
import GoSem.Claim
import GoSem.ClaimJoined
import GoSem.ClaimMapViews
import Derived.JoinedTies
import Derived.KernelRfl
namespace Go.Proofs.YtmeefmoblkiebaaGreat
/- THE CELL 'sum', in the pinned program and in every row, IS THE sha256 OF THE DUMP (.gsa) THAT YtmeefmoblkiebaaGreatProg.lean LOADS. Nothing in Lean hashes anything: it is a label: what it is worth is what the hold of that sum in a sandbox is worth. -/
noncomputable def Tryz.pinned : Pinned := { name := "ytmeefmoblkiebaagreat", sum := "dcd48925213878e1102adf3216fe1276c76b4eaad8f7b2210d9bc3304adf3fe3", checked := Tryz.checked }
namespace Rows
def none {H : Type} : Left H := { results := [], args := [] }

/-- 'laws.FnRuns': WHATEVER THE INPUT: true; the input reads as it did. -/
def fnRunsSpec : ChangeSpec := { name := "fnRuns", fn := fun _ => fun
  | [d1, d2] => { results := [.lit (.bool true)], args := [d1, d2] }
  | _ => none }
def fnRunsRow : OpenClaim := { program := "ytmeefmoblkiebaagreat", sum := "dcd48925213878e1102adf3216fe1276c76b4eaad8f7b2210d9bc3304adf3fe3", func := "loop.example/g01274/laws.FnRuns", spec := "fnRuns", inPlace := ["slices.overlaps[int]"], unfollowed := true, recurses := true, plainKeys := false, apart := false }
def FnRunsSaid : Prop := fnRunsRow.holds Tryz.pinned (OpenSpec.ofChange fnRunsSpec)

/-- ITS FALSE NEIGHBOUR: 'it returns false'. Refute it at one input. -/
def fnRunsWrong : ChangeSpec := { name := "fnRuns", fn := fun _ => fun
  | [d1, d2] => { results := [.lit (.bool false)], args := [d1, d2] }
  | _ => none }
def FnRunsWrongFalsely : Prop := fnRunsRow.holds Tryz.pinned (OpenSpec.ofChange fnRunsWrong)

/-- 'laws.FnSteady': WHATEVER THE INPUT: true; the input reads as it did. -/
def fnSteadySpec : ChangeSpec := { name := "fnSteady", fn := fun _ => fun
  | [d1, d2] => { results := [.lit (.bool true)], args := [d1, d2] }
  | _ => none }
def fnSteadyRow : OpenClaim := { program := "ytmeefmoblkiebaagreat", sum := "dcd48925213878e1102adf3216fe1276c76b4eaad8f7b2210d9bc3304adf3fe3", func := "loop.example/g01274/laws.FnSteady", spec := "fnSteady", inPlace := ["slices.overlaps[int]"], unfollowed := true, recurses := true, plainKeys := false, apart := false }
def FnSteadySaid : Prop := fnSteadyRow.holds Tryz.pinned (OpenSpec.ofChange fnSteadySpec)

/-- ITS FALSE NEIGHBOUR: 'it returns false'. Refute it at one input. -/
def fnSteadyWrong : ChangeSpec := { name := "fnSteady", fn := fun _ => fun
  | [d1, d2] => { results := [.lit (.bool false)], args := [d1, d2] }
  | _ => none }
def FnSteadyWrongFalsely : Prop := fnSteadyRow.holds Tryz.pinned (OpenSpec.ofChange fnSteadyWrong)

/-- 'laws.FnPruned': WHATEVER THE INPUT: true; the input reads as it did. -/
def fnPrunedSpec : ChangeSpec := { name := "fnPruned", fn := fun _ => fun
  | [d1, d2] => { results := [.lit (.bool true)], args := [d1, d2] }
  | _ => none }
def fnPrunedRow : OpenClaim := { program := "ytmeefmoblkiebaagreat", sum := "dcd48925213878e1102adf3216fe1276c76b4eaad8f7b2210d9bc3304adf3fe3", func := "loop.example/g01274/laws.FnPruned", spec := "fnPruned", inPlace := ["slices.overlaps[int]"], unfollowed := true, recurses := true, plainKeys := false, apart := false }
def FnPrunedSaid : Prop := fnPrunedRow.holds Tryz.pinned (OpenSpec.ofChange fnPrunedSpec)

/-- ITS FALSE NEIGHBOUR: 'it returns false'. Refute it at one input. -/
def fnPrunedWrong : ChangeSpec := { name := "fnPruned", fn := fun _ => fun
  | [d1, d2] => { results := [.lit (.bool false)], args := [d1, d2] }
  | _ => none }
def FnPrunedWrongFalsely : Prop := fnPrunedRow.holds Tryz.pinned (OpenSpec.ofChange fnPrunedWrong)

/- THE SECOND FORM. 'bulk': how many values and letters a reading holds, each counted each time it is reached (what is shared counts as often as it is met; a slice's spare places count too). A statement '..UptoSaid' is the law's where the arguments, and the package variables that the reading takes, are together of bulk at most 1048576: NARROWER than '..Said'. Prove '..Said' where nothing that the law and all that it calls make is longer than what came in: it says more and counts as full. Else prove '..UptoSaid'. A law counts once. -/
mutual
def uptoBulk {H : Type} : DataW H → Nat
  | .lit (.string bytes) => bytes.length + 1
  | .lit _ => 1
  | .nil => 1
  | .ptr d => uptoBulk d + 1
  | .slice elems spare => uptoBulkAll elems + uptoBulkAll spare + 1
  | .agg parts => uptoBulkAll parts + 1
  | .iface _ d => uptoBulk d + 1
  | .map entries => uptoBulkEntries entries + 1
  | .held _ => 1
def uptoBulkAll {H : Type} : List (DataW H) → Nat
  | [] => 0
  | d :: r => uptoBulk d + uptoBulkAll r
def uptoBulkEntries {H : Type} : List (Lit × DataW H) → Nat
  | [] => 0
  | x :: r => uptoBulkEntry x + uptoBulkEntries r
def uptoBulkEntry {H : Type} : Lit × DataW H → Nat
  | (.string bytes, d) => bytes.length + uptoBulk d + 1
  | (_, d) => uptoBulk d + 1
 end
def uptoSmall : (H : Type) → List (DataW H) → Bool := fun _ ds => decide (uptoBulkAll ds ≤ 1048576)
def OpenSpec.upto (s : _root_.Go.ChangeSpec) : _root_.Go.OpenSpec := { _root_.Go.OpenSpec.ofChange s with cond := some uptoSmall }

/-- 'laws.FnRuns', WHERE WHAT IT READS IS OF BULK AT MOST 1048576: true; the input reads as it did. -/
def fnRunsUptoRow : OpenClaim := { program := "ytmeefmoblkiebaagreat", sum := "dcd48925213878e1102adf3216fe1276c76b4eaad8f7b2210d9bc3304adf3fe3", func := "loop.example/g01274/laws.FnRuns", spec := "fnRuns", inPlace := ["slices.overlaps[int]"], unfollowed := true, recurses := true, plainKeys := false, apart := false, narrowed := true }
def FnRunsUptoSaid : Prop := fnRunsUptoRow.holds Tryz.pinned (OpenSpec.upto fnRunsSpec)

/-- 'laws.FnSteady', WHERE WHAT IT READS IS OF BULK AT MOST 1048576: true; the input reads as it did. -/
def fnSteadyUptoRow : OpenClaim := { program := "ytmeefmoblkiebaagreat", sum := "dcd48925213878e1102adf3216fe1276c76b4eaad8f7b2210d9bc3304adf3fe3", func := "loop.example/g01274/laws.FnSteady", spec := "fnSteady", inPlace := ["slices.overlaps[int]"], unfollowed := true, recurses := true, plainKeys := false, apart := false, narrowed := true }
def FnSteadyUptoSaid : Prop := fnSteadyUptoRow.holds Tryz.pinned (OpenSpec.upto fnSteadySpec)

/-- 'laws.FnPruned', WHERE WHAT IT READS IS OF BULK AT MOST 1048576: true; the input reads as it did. -/
def fnPrunedUptoRow : OpenClaim := { program := "ytmeefmoblkiebaagreat", sum := "dcd48925213878e1102adf3216fe1276c76b4eaad8f7b2210d9bc3304adf3fe3", func := "loop.example/g01274/laws.FnPruned", spec := "fnPruned", inPlace := ["slices.overlaps[int]"], unfollowed := true, recurses := true, plainKeys := false, apart := false, narrowed := true }
def FnPrunedUptoSaid : Prop := fnPrunedUptoRow.holds Tryz.pinned (OpenSpec.upto fnPrunedSpec)

end Rows
end Go.Proofs.YtmeefmoblkiebaaGreat
