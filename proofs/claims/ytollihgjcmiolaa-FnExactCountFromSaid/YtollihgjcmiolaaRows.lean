/-
  No cell of these rows narrows 'for every input' (looked for: loops, veiled, ifaces, maps, wideKeys, modest, calm, conditions, laid).
  DERIVED. THE GIVEN ROWS OF THIS SEAT. 4 by the template 'for every input the law returns true; each argument reads behind the call as it read before'; 0 by the template 'total and deterministic' (their statements: YtollihgjcmiolaaTotals.lean).
  GIVEN WITH THE SEED: the statements are not yours to turn. If you find one false, say at which input.
  Laid BY PROGRAM, IN A SANDBOX (cutbox-rows.mjs): the forced cells as the released guide's own fill.sh prints them over the translation eb5518bed5922647… (all of the seat's roots in one cut). By AI agents, Wed Nov 11 2026. No macro, syntax, notation, axiom, sorry.
-/
import Derived.Test.YtollihgjcmiolaaChecked
import GoSem.Claim
import GoSem.ClaimJoined
import GoSem.ClaimMapViews
import Derived.JoinedTies
import Derived.KernelRfl
namespace Go.Proofs.Ytollihgjcmiolaa
/- THE CELL 'sum', in the pinned program and in every row, IS THE sha256 OF THE DUMP (.gsa) THAT YtollihgjcmiolaaProg.lean LOADS. Nothing in Lean hashes anything: it is a label: what it is worth is what the hold of that sum in a sandbox is worth. -/
noncomputable def Try.pinned : Pinned := { name := "ytollihgjcmiolaa", sum := "eb5518bed5922647707e1dfe44ed9eb8e2859c8ffc1e15cd954357d478642e5b", checked := Try.checked }
namespace Rows
def none {H : Type} : Left H := { results := [], args := [] }

/-- 'laws.FnExactFirstWrong': WHATEVER THE INPUT: true; the input reads as it did. -/
def fnExactFirstWrongSpec : ChangeSpec := { name := "fnExactFirstWrong", fn := fun _ => fun
  | [d1, d2, d3] => { results := [.lit (.bool true)], args := [d1, d2, d3] }
  | _ => none }
def fnExactFirstWrongRow : OpenClaim := { program := "ytollihgjcmiolaa", sum := "eb5518bed5922647707e1dfe44ed9eb8e2859c8ffc1e15cd954357d478642e5b", func := "loop.example/g01274/laws.FnExactFirstWrong", spec := "fnExactFirstWrong", unfollowed := true, recurses := true, plainKeys := false, apart := false }
def FnExactFirstWrongSaid : Prop := fnExactFirstWrongRow.holds Try.pinned (OpenSpec.ofChange fnExactFirstWrongSpec)

/-- ITS FALSE NEIGHBOUR: 'it returns false'. Refute it at one input. -/
def fnExactFirstWrongWrong : ChangeSpec := { name := "fnExactFirstWrong", fn := fun _ => fun
  | [d1, d2, d3] => { results := [.lit (.bool false)], args := [d1, d2, d3] }
  | _ => none }
def FnExactFirstWrongWrongFalsely : Prop := fnExactFirstWrongRow.holds Try.pinned (OpenSpec.ofChange fnExactFirstWrongWrong)

/-- 'laws.FnExactCheckFalls': WHATEVER THE INPUT: true; the input reads as it did. -/
def fnExactCheckFallsSpec : ChangeSpec := { name := "fnExactCheckFalls", fn := fun _ => fun
  | [d1, d2, d3] => { results := [.lit (.bool true)], args := [d1, d2, d3] }
  | _ => none }
def fnExactCheckFallsRow : OpenClaim := { program := "ytollihgjcmiolaa", sum := "eb5518bed5922647707e1dfe44ed9eb8e2859c8ffc1e15cd954357d478642e5b", func := "loop.example/g01274/laws.FnExactCheckFalls", spec := "fnExactCheckFalls", unfollowed := true, recurses := true, plainKeys := false, apart := false }
def FnExactCheckFallsSaid : Prop := fnExactCheckFallsRow.holds Try.pinned (OpenSpec.ofChange fnExactCheckFallsSpec)

/-- ITS FALSE NEIGHBOUR: 'it returns false'. Refute it at one input. -/
def fnExactCheckFallsWrong : ChangeSpec := { name := "fnExactCheckFalls", fn := fun _ => fun
  | [d1, d2, d3] => { results := [.lit (.bool false)], args := [d1, d2, d3] }
  | _ => none }
def FnExactCheckFallsWrongFalsely : Prop := fnExactCheckFallsRow.holds Try.pinned (OpenSpec.ofChange fnExactCheckFallsWrong)

/-- 'laws.FnExactCountFrom': WHATEVER THE INPUT: true; the input reads as it did. -/
def fnExactCountFromSpec : ChangeSpec := { name := "fnExactCountFrom", fn := fun _ => fun
  | [d1, d2, d3] => { results := [.lit (.bool true)], args := [d1, d2, d3] }
  | _ => none }
def fnExactCountFromRow : OpenClaim := { program := "ytollihgjcmiolaa", sum := "eb5518bed5922647707e1dfe44ed9eb8e2859c8ffc1e15cd954357d478642e5b", func := "loop.example/g01274/laws.FnExactCountFrom", spec := "fnExactCountFrom", inPlace := ["slices.overlaps[int]"], unfollowed := true, recurses := true, plainKeys := false, apart := false }
def FnExactCountFromSaid : Prop := fnExactCountFromRow.holds Try.pinned (OpenSpec.ofChange fnExactCountFromSpec)

/-- ITS FALSE NEIGHBOUR: 'it returns false'. Refute it at one input. -/
def fnExactCountFromWrong : ChangeSpec := { name := "fnExactCountFrom", fn := fun _ => fun
  | [d1, d2, d3] => { results := [.lit (.bool false)], args := [d1, d2, d3] }
  | _ => none }
def FnExactCountFromWrongFalsely : Prop := fnExactCountFromRow.holds Try.pinned (OpenSpec.ofChange fnExactCountFromWrong)

/-- 'laws.FnExactPushOne': WHATEVER THE INPUT: true; the input reads as it did. -/
def fnExactPushOneSpec : ChangeSpec := { name := "fnExactPushOne", fn := fun _ => fun
  | [d1, d2, d3] => { results := [.lit (.bool true)], args := [d1, d2, d3] }
  | _ => none }
def fnExactPushOneRow : OpenClaim := { program := "ytollihgjcmiolaa", sum := "eb5518bed5922647707e1dfe44ed9eb8e2859c8ffc1e15cd954357d478642e5b", func := "loop.example/g01274/laws.FnExactPushOne", spec := "fnExactPushOne", inPlace := ["slices.overlaps[int]"], unfollowed := true, recurses := true, plainKeys := false, apart := false }
def FnExactPushOneSaid : Prop := fnExactPushOneRow.holds Try.pinned (OpenSpec.ofChange fnExactPushOneSpec)

/-- ITS FALSE NEIGHBOUR: 'it returns false'. Refute it at one input. -/
def fnExactPushOneWrong : ChangeSpec := { name := "fnExactPushOne", fn := fun _ => fun
  | [d1, d2, d3] => { results := [.lit (.bool false)], args := [d1, d2, d3] }
  | _ => none }
def FnExactPushOneWrongFalsely : Prop := fnExactPushOneRow.holds Try.pinned (OpenSpec.ofChange fnExactPushOneWrong)

/- THE SECOND FORM. 'bulk': how many values and letters a reading holds, each counted each time it is reached (what is shared counts as often as it is met; a slice's spare places count too). A statement '..UptoSaid' is the law's where the arguments, and the package variables that the reading takes, are together of bulk at most 1048576: NARROWER than '..Said'. Prove '..Said' where nothing that the law and all that it calls make is longer than what came in: it says more and counts as full. Else prove '..UptoSaid'. A law counts once. -/
mutual
def uptoBulk {H : Type} : DataW H → Nat
  | .lit (.string bytes) => bytes.length + 1
  | .lit _ => 1
  | .nil => 1
  | .ptr d => uptoBulk d + 1
  | .slice elems spare => uptoBulkAll elems + uptoBulkAll spare + 1
  | .agg parts => uptoBulkAll parts + 1
  | .iface _ d => uptoBulk d + 1
  | .map entries => uptoBulkEntries entries + 1
  | .held _ => 1
def uptoBulkAll {H : Type} : List (DataW H) → Nat
  | [] => 0
  | d :: r => uptoBulk d + uptoBulkAll r
def uptoBulkEntries {H : Type} : List (Lit × DataW H) → Nat
  | [] => 0
  | x :: r => uptoBulkEntry x + uptoBulkEntries r
def uptoBulkEntry {H : Type} : Lit × DataW H → Nat
  | (.string bytes, d) => bytes.length + uptoBulk d + 1
  | (_, d) => uptoBulk d + 1
 end
def uptoSmall : (H : Type) → List (DataW H) → Bool := fun _ ds => decide (uptoBulkAll ds ≤ 1048576)
def OpenSpec.upto (s : _root_.Go.ChangeSpec) : _root_.Go.OpenSpec := { _root_.Go.OpenSpec.ofChange s with cond := some uptoSmall }

/-- 'laws.FnExactFirstWrong', WHERE WHAT IT READS IS OF BULK AT MOST 1048576: true; the input reads as it did. -/
def fnExactFirstWrongUptoRow : OpenClaim := { program := "ytollihgjcmiolaa", sum := "eb5518bed5922647707e1dfe44ed9eb8e2859c8ffc1e15cd954357d478642e5b", func := "loop.example/g01274/laws.FnExactFirstWrong", spec := "fnExactFirstWrong", unfollowed := true, recurses := true, plainKeys := false, apart := false, narrowed := true }
def FnExactFirstWrongUptoSaid : Prop := fnExactFirstWrongUptoRow.holds Try.pinned (OpenSpec.upto fnExactFirstWrongSpec)

/-- 'laws.FnExactCheckFalls', WHERE WHAT IT READS IS OF BULK AT MOST 1048576: true; the input reads as it did. -/
def fnExactCheckFallsUptoRow : OpenClaim := { program := "ytollihgjcmiolaa", sum := "eb5518bed5922647707e1dfe44ed9eb8e2859c8ffc1e15cd954357d478642e5b", func := "loop.example/g01274/laws.FnExactCheckFalls", spec := "fnExactCheckFalls", unfollowed := true, recurses := true, plainKeys := false, apart := false, narrowed := true }
def FnExactCheckFallsUptoSaid : Prop := fnExactCheckFallsUptoRow.holds Try.pinned (OpenSpec.upto fnExactCheckFallsSpec)

/-- 'laws.FnExactCountFrom', WHERE WHAT IT READS IS OF BULK AT MOST 1048576: true; the input reads as it did. -/
def fnExactCountFromUptoRow : OpenClaim := { program := "ytollihgjcmiolaa", sum := "eb5518bed5922647707e1dfe44ed9eb8e2859c8ffc1e15cd954357d478642e5b", func := "loop.example/g01274/laws.FnExactCountFrom", spec := "fnExactCountFrom", inPlace := ["slices.overlaps[int]"], unfollowed := true, recurses := true, plainKeys := false, apart := false, narrowed := true }
def FnExactCountFromUptoSaid : Prop := fnExactCountFromUptoRow.holds Try.pinned (OpenSpec.upto fnExactCountFromSpec)

/-- 'laws.FnExactPushOne', WHERE WHAT IT READS IS OF BULK AT MOST 1048576: true; the input reads as it did. -/
def fnExactPushOneUptoRow : OpenClaim := { program := "ytollihgjcmiolaa", sum := "eb5518bed5922647707e1dfe44ed9eb8e2859c8ffc1e15cd954357d478642e5b", func := "loop.example/g01274/laws.FnExactPushOne", spec := "fnExactPushOne", inPlace := ["slices.overlaps[int]"], unfollowed := true, recurses := true, plainKeys := false, apart := false, narrowed := true }
def FnExactPushOneUptoSaid : Prop := fnExactPushOneUptoRow.holds Try.pinned (OpenSpec.upto fnExactPushOneSpec)

end Rows
end Go.Proofs.Ytollihgjcmiolaa
