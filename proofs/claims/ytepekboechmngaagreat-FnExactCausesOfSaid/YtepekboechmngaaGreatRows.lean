/-
  No cell of these rows narrows 'for every input' (looked for: loops, veiled, ifaces, maps, wideKeys, modest, calm, conditions, laid).
  DERIVED. THE GIVEN ROWS OF THIS SEAT. 6 by the template 'for every input the law returns true; each argument reads behind the call as it read before'; 0 by the template 'total and deterministic' (their statements: YtepekboechmngaaGreatTotals.lean).
  GIVEN WITH THE SEED: the statements are not yours to turn. If you find one false, say at which input.
  Laid BY PROGRAM, IN A SANDBOX (cutbox-rows.mjs): the forced cells as the released guide's own fill.sh prints them over the translation 7bfa62a6be49cd79… (all of the seat's roots in one cut). By AI agents, Wed Nov 11 2026. No macro, syntax, notation, axiom, sorry.
-/
import Derived.Test.YtepekboechmngaaGreatChecked
import GoSem.Claim
import GoSem.ClaimJoined
import GoSem.ClaimMapViews
import Derived.JoinedTies
import Derived.KernelRfl
namespace Go.Proofs.YtepekboechmngaaGreat
/- THE CELL 'sum', in the pinned program and in every row, IS THE sha256 OF THE DUMP (.gsa) THAT YtepekboechmngaaGreatProg.lean LOADS. Nothing in Lean hashes anything: it is a label: what it is worth is what the hold of that sum in a sandbox is worth. -/
noncomputable def Tryz.pinned : Pinned := { name := "ytepekboechmngaagreat", sum := "7bfa62a6be49cd799cc81f30a30d3767cd04d333b2a976f3d0acaf554e5cd992", checked := Tryz.checked }
namespace Rows
def none {H : Type} : Left H := { results := [], args := [] }

/-- 'laws.FnExactRunBoard': WHATEVER THE INPUT: true; the input reads as it did. -/
def fnExactRunBoardSpec : ChangeSpec := { name := "fnExactRunBoard", fn := fun _ => fun
  | [d1, d2] => { results := [.lit (.bool true)], args := [d1, d2] }
  | _ => none }
def fnExactRunBoardRow : OpenClaim := { program := "ytepekboechmngaagreat", sum := "7bfa62a6be49cd799cc81f30a30d3767cd04d333b2a976f3d0acaf554e5cd992", func := "loop.example/g01274/laws.FnExactRunBoard", spec := "fnExactRunBoard", inPlace := ["slices.overlaps[int]"], unfollowed := true, recurses := true, plainKeys := false, apart := false }
def FnExactRunBoardSaid : Prop := fnExactRunBoardRow.holds Tryz.pinned (OpenSpec.ofChange fnExactRunBoardSpec)

/-- ITS FALSE NEIGHBOUR: 'it returns false'. Refute it at one input. -/
def fnExactRunBoardWrong : ChangeSpec := { name := "fnExactRunBoard", fn := fun _ => fun
  | [d1, d2] => { results := [.lit (.bool false)], args := [d1, d2] }
  | _ => none }
def FnExactRunBoardWrongFalsely : Prop := fnExactRunBoardRow.holds Tryz.pinned (OpenSpec.ofChange fnExactRunBoardWrong)

/-- 'laws.FnExactLastTick': WHATEVER THE INPUT: true; the input reads as it did. -/
def fnExactLastTickSpec : ChangeSpec := { name := "fnExactLastTick", fn := fun _ => fun
  | [d1, d2] => { results := [.lit (.bool true)], args := [d1, d2] }
  | _ => none }
def fnExactLastTickRow : OpenClaim := { program := "ytepekboechmngaagreat", sum := "7bfa62a6be49cd799cc81f30a30d3767cd04d333b2a976f3d0acaf554e5cd992", func := "loop.example/g01274/laws.FnExactLastTick", spec := "fnExactLastTick", inPlace := ["slices.overlaps[int]"], unfollowed := true, recurses := true, plainKeys := false, apart := false }
def FnExactLastTickSaid : Prop := fnExactLastTickRow.holds Tryz.pinned (OpenSpec.ofChange fnExactLastTickSpec)

/-- ITS FALSE NEIGHBOUR: 'it returns false'. Refute it at one input. -/
def fnExactLastTickWrong : ChangeSpec := { name := "fnExactLastTick", fn := fun _ => fun
  | [d1, d2] => { results := [.lit (.bool false)], args := [d1, d2] }
  | _ => none }
def FnExactLastTickWrongFalsely : Prop := fnExactLastTickRow.holds Tryz.pinned (OpenSpec.ofChange fnExactLastTickWrong)

/-- 'laws.FnExactFallenUntil': WHATEVER THE INPUT: true; the input reads as it did. -/
def fnExactFallenUntilSpec : ChangeSpec := { name := "fnExactFallenUntil", fn := fun _ => fun
  | [d1, d2, d3] => { results := [.lit (.bool true)], args := [d1, d2, d3] }
  | _ => none }
def fnExactFallenUntilRow : OpenClaim := { program := "ytepekboechmngaagreat", sum := "7bfa62a6be49cd799cc81f30a30d3767cd04d333b2a976f3d0acaf554e5cd992", func := "loop.example/g01274/laws.FnExactFallenUntil", spec := "fnExactFallenUntil", inPlace := ["slices.overlaps[int]"], unfollowed := true, recurses := true, plainKeys := false, apart := false }
def FnExactFallenUntilSaid : Prop := fnExactFallenUntilRow.holds Tryz.pinned (OpenSpec.ofChange fnExactFallenUntilSpec)

/-- ITS FALSE NEIGHBOUR: 'it returns false'. Refute it at one input. -/
def fnExactFallenUntilWrong : ChangeSpec := { name := "fnExactFallenUntil", fn := fun _ => fun
  | [d1, d2, d3] => { results := [.lit (.bool false)], args := [d1, d2, d3] }
  | _ => none }
def FnExactFallenUntilWrongFalsely : Prop := fnExactFallenUntilRow.holds Tryz.pinned (OpenSpec.ofChange fnExactFallenUntilWrong)

/-- 'laws.FnExactStandingAfter': WHATEVER THE INPUT: true; the input reads as it did. -/
def fnExactStandingAfterSpec : ChangeSpec := { name := "fnExactStandingAfter", fn := fun _ => fun
  | [d1, d2] => { results := [.lit (.bool true)], args := [d1, d2] }
  | _ => none }
def fnExactStandingAfterRow : OpenClaim := { program := "ytepekboechmngaagreat", sum := "7bfa62a6be49cd799cc81f30a30d3767cd04d333b2a976f3d0acaf554e5cd992", func := "loop.example/g01274/laws.FnExactStandingAfter", spec := "fnExactStandingAfter", inPlace := ["slices.overlaps[int]"], unfollowed := true, recurses := true, plainKeys := false, apart := false }
def FnExactStandingAfterSaid : Prop := fnExactStandingAfterRow.holds Tryz.pinned (OpenSpec.ofChange fnExactStandingAfterSpec)

/-- ITS FALSE NEIGHBOUR: 'it returns false'. Refute it at one input. -/
def fnExactStandingAfterWrong : ChangeSpec := { name := "fnExactStandingAfter", fn := fun _ => fun
  | [d1, d2] => { results := [.lit (.bool false)], args := [d1, d2] }
  | _ => none }
def FnExactStandingAfterWrongFalsely : Prop := fnExactStandingAfterRow.holds Tryz.pinned (OpenSpec.ofChange fnExactStandingAfterWrong)

/-- 'laws.FnExactFallOrder': WHATEVER THE INPUT: true; the input reads as it did. -/
def fnExactFallOrderSpec : ChangeSpec := { name := "fnExactFallOrder", fn := fun _ => fun
  | [d1, d2] => { results := [.lit (.bool true)], args := [d1, d2] }
  | _ => none }
def fnExactFallOrderRow : OpenClaim := { program := "ytepekboechmngaagreat", sum := "7bfa62a6be49cd799cc81f30a30d3767cd04d333b2a976f3d0acaf554e5cd992", func := "loop.example/g01274/laws.FnExactFallOrder", spec := "fnExactFallOrder", inPlace := ["slices.overlaps[int]"], unfollowed := true, recurses := true, plainKeys := false, apart := false }
def FnExactFallOrderSaid : Prop := fnExactFallOrderRow.holds Tryz.pinned (OpenSpec.ofChange fnExactFallOrderSpec)

/-- ITS FALSE NEIGHBOUR: 'it returns false'. Refute it at one input. -/
def fnExactFallOrderWrong : ChangeSpec := { name := "fnExactFallOrder", fn := fun _ => fun
  | [d1, d2] => { results := [.lit (.bool false)], args := [d1, d2] }
  | _ => none }
def FnExactFallOrderWrongFalsely : Prop := fnExactFallOrderRow.holds Tryz.pinned (OpenSpec.ofChange fnExactFallOrderWrong)

/-- 'laws.FnExactCausesOf': WHATEVER THE INPUT: true; the input reads as it did. -/
def fnExactCausesOfSpec : ChangeSpec := { name := "fnExactCausesOf", fn := fun _ => fun
  | [d1, d2, d3] => { results := [.lit (.bool true)], args := [d1, d2, d3] }
  | _ => none }
def fnExactCausesOfRow : OpenClaim := { program := "ytepekboechmngaagreat", sum := "7bfa62a6be49cd799cc81f30a30d3767cd04d333b2a976f3d0acaf554e5cd992", func := "loop.example/g01274/laws.FnExactCausesOf", spec := "fnExactCausesOf", inPlace := ["slices.overlaps[int]"], unfollowed := true, recurses := true, plainKeys := false, apart := false }
def FnExactCausesOfSaid : Prop := fnExactCausesOfRow.holds Tryz.pinned (OpenSpec.ofChange fnExactCausesOfSpec)

/-- ITS FALSE NEIGHBOUR: 'it returns false'. Refute it at one input. -/
def fnExactCausesOfWrong : ChangeSpec := { name := "fnExactCausesOf", fn := fun _ => fun
  | [d1, d2, d3] => { results := [.lit (.bool false)], args := [d1, d2, d3] }
  | _ => none }
def FnExactCausesOfWrongFalsely : Prop := fnExactCausesOfRow.holds Tryz.pinned (OpenSpec.ofChange fnExactCausesOfWrong)

/- THE SECOND FORM. 'bulk': how many values and letters a reading holds, each counted each time it is reached (what is shared counts as often as it is met; a slice's spare places count too). A statement '..UptoSaid' is the law's where the arguments, and the package variables that the reading takes, are together of bulk at most 1048576: NARROWER than '..Said'. Prove '..Said' where nothing that the law and all that it calls make is longer than what came in: it says more and counts as full. Else prove '..UptoSaid'. A law counts once. -/
mutual
def uptoBulk {H : Type} : DataW H → Nat
  | .lit (.string bytes) => bytes.length + 1
  | .lit _ => 1
  | .nil => 1
  | .ptr d => uptoBulk d + 1
  | .slice elems spare => uptoBulkAll elems + uptoBulkAll spare + 1
  | .agg parts => uptoBulkAll parts + 1
  | .iface _ d => uptoBulk d + 1
  | .map entries => uptoBulkEntries entries + 1
  | .held _ => 1
def uptoBulkAll {H : Type} : List (DataW H) → Nat
  | [] => 0
  | d :: r => uptoBulk d + uptoBulkAll r
def uptoBulkEntries {H : Type} : List (Lit × DataW H) → Nat
  | [] => 0
  | x :: r => uptoBulkEntry x + uptoBulkEntries r
def uptoBulkEntry {H : Type} : Lit × DataW H → Nat
  | (.string bytes, d) => bytes.length + uptoBulk d + 1
  | (_, d) => uptoBulk d + 1
 end
def uptoSmall : (H : Type) → List (DataW H) → Bool := fun _ ds => decide (uptoBulkAll ds ≤ 1048576)
def OpenSpec.upto (s : _root_.Go.ChangeSpec) : _root_.Go.OpenSpec := { _root_.Go.OpenSpec.ofChange s with cond := some uptoSmall }

/-- 'laws.FnExactRunBoard', WHERE WHAT IT READS IS OF BULK AT MOST 1048576: true; the input reads as it did. -/
def fnExactRunBoardUptoRow : OpenClaim := { program := "ytepekboechmngaagreat", sum := "7bfa62a6be49cd799cc81f30a30d3767cd04d333b2a976f3d0acaf554e5cd992", func := "loop.example/g01274/laws.FnExactRunBoard", spec := "fnExactRunBoard", inPlace := ["slices.overlaps[int]"], unfollowed := true, recurses := true, plainKeys := false, apart := false, narrowed := true }
def FnExactRunBoardUptoSaid : Prop := fnExactRunBoardUptoRow.holds Tryz.pinned (OpenSpec.upto fnExactRunBoardSpec)

/-- 'laws.FnExactLastTick', WHERE WHAT IT READS IS OF BULK AT MOST 1048576: true; the input reads as it did. -/
def fnExactLastTickUptoRow : OpenClaim := { program := "ytepekboechmngaagreat", sum := "7bfa62a6be49cd799cc81f30a30d3767cd04d333b2a976f3d0acaf554e5cd992", func := "loop.example/g01274/laws.FnExactLastTick", spec := "fnExactLastTick", inPlace := ["slices.overlaps[int]"], unfollowed := true, recurses := true, plainKeys := false, apart := false, narrowed := true }
def FnExactLastTickUptoSaid : Prop := fnExactLastTickUptoRow.holds Tryz.pinned (OpenSpec.upto fnExactLastTickSpec)

/-- 'laws.FnExactFallenUntil', WHERE WHAT IT READS IS OF BULK AT MOST 1048576: true; the input reads as it did. -/
def fnExactFallenUntilUptoRow : OpenClaim := { program := "ytepekboechmngaagreat", sum := "7bfa62a6be49cd799cc81f30a30d3767cd04d333b2a976f3d0acaf554e5cd992", func := "loop.example/g01274/laws.FnExactFallenUntil", spec := "fnExactFallenUntil", inPlace := ["slices.overlaps[int]"], unfollowed := true, recurses := true, plainKeys := false, apart := false, narrowed := true }
def FnExactFallenUntilUptoSaid : Prop := fnExactFallenUntilUptoRow.holds Tryz.pinned (OpenSpec.upto fnExactFallenUntilSpec)

/-- 'laws.FnExactStandingAfter', WHERE WHAT IT READS IS OF BULK AT MOST 1048576: true; the input reads as it did. -/
def fnExactStandingAfterUptoRow : OpenClaim := { program := "ytepekboechmngaagreat", sum := "7bfa62a6be49cd799cc81f30a30d3767cd04d333b2a976f3d0acaf554e5cd992", func := "loop.example/g01274/laws.FnExactStandingAfter", spec := "fnExactStandingAfter", inPlace := ["slices.overlaps[int]"], unfollowed := true, recurses := true, plainKeys := false, apart := false, narrowed := true }
def FnExactStandingAfterUptoSaid : Prop := fnExactStandingAfterUptoRow.holds Tryz.pinned (OpenSpec.upto fnExactStandingAfterSpec)

/-- 'laws.FnExactFallOrder', WHERE WHAT IT READS IS OF BULK AT MOST 1048576: true; the input reads as it did. -/
def fnExactFallOrderUptoRow : OpenClaim := { program := "ytepekboechmngaagreat", sum := "7bfa62a6be49cd799cc81f30a30d3767cd04d333b2a976f3d0acaf554e5cd992", func := "loop.example/g01274/laws.FnExactFallOrder", spec := "fnExactFallOrder", inPlace := ["slices.overlaps[int]"], unfollowed := true, recurses := true, plainKeys := false, apart := false, narrowed := true }
def FnExactFallOrderUptoSaid : Prop := fnExactFallOrderUptoRow.holds Tryz.pinned (OpenSpec.upto fnExactFallOrderSpec)

/-- 'laws.FnExactCausesOf', WHERE WHAT IT READS IS OF BULK AT MOST 1048576: true; the input reads as it did. -/
def fnExactCausesOfUptoRow : OpenClaim := { program := "ytepekboechmngaagreat", sum := "7bfa62a6be49cd799cc81f30a30d3767cd04d333b2a976f3d0acaf554e5cd992", func := "loop.example/g01274/laws.FnExactCausesOf", spec := "fnExactCausesOf", inPlace := ["slices.overlaps[int]"], unfollowed := true, recurses := true, plainKeys := false, apart := false, narrowed := true }
def FnExactCausesOfUptoSaid : Prop := fnExactCausesOfUptoRow.holds Tryz.pinned (OpenSpec.upto fnExactCausesOfSpec)

end Rows
end Go.Proofs.YtepekboechmngaaGreat
