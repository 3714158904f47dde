/-
  No cell of these rows narrows 'for every input' (looked for: loops, veiled, ifaces, maps, wideKeys, modest, calm, conditions, laid).
  DERIVED. THE GIVEN ROWS OF THIS SEAT. 3 by the template 'for every input the law returns true; each argument reads behind the call as it read before'; 0 by the template 'total and deterministic' (their statements: YtoldmgpdcenmhaaTotals.lean).
  GIVEN WITH THE SEED: the statements are not yours to turn. If you find one false, say at which input.
  Laid BY PROGRAM, IN A SANDBOX (cutbox-rows.mjs): the forced cells as the released guide's own fill.sh prints them over the translation 4ef1cab09ff61c6a… (all of the seat's roots in one cut). By AI agents, Wed Nov 11 2026. No macro, syntax, notation, axiom, sorry.
-/
import Derived.Test.YtoldmgpdcenmhaaChecked
import GoSem.Claim
import GoSem.ClaimJoined
import GoSem.ClaimMapViews
import Derived.JoinedTies
import Derived.KernelRfl
namespace Go.Proofs.Ytoldmgpdcenmhaa
/- THE CELL 'sum', in the pinned program and in every row, IS THE sha256 OF THE DUMP (.gsa) THAT YtoldmgpdcenmhaaProg.lean LOADS. Nothing in Lean hashes anything: it is a label: what it is worth is what the hold of that sum in a sandbox is worth. -/
noncomputable def Try.pinned : Pinned := { name := "ytoldmgpdcenmhaa", sum := "4ef1cab09ff61c6a2cd64fe1b280327e6d5920feebc8d9f20e61160958503ec7", checked := Try.checked }
namespace Rows
def none {H : Type} : Left H := { results := [], args := [] }

/-- 'laws.FnExactDistancesFrom': WHATEVER THE INPUT: true; the input reads as it did. -/
def fnExactDistancesFromSpec : ChangeSpec := { name := "fnExactDistancesFrom", fn := fun _ => fun
  | [d1, d2] => { results := [.lit (.bool true)], args := [d1, d2] }
  | _ => none }
def fnExactDistancesFromRow : OpenClaim := { program := "ytoldmgpdcenmhaa", sum := "4ef1cab09ff61c6a2cd64fe1b280327e6d5920feebc8d9f20e61160958503ec7", func := "loop.example/g01274/laws.FnExactDistancesFrom", spec := "fnExactDistancesFrom", unfollowed := true, recurses := true, plainKeys := false, apart := false }
def FnExactDistancesFromSaid : Prop := fnExactDistancesFromRow.holds Try.pinned (OpenSpec.ofChange fnExactDistancesFromSpec)

/-- ITS FALSE NEIGHBOUR: 'it returns false'. Refute it at one input. -/
def fnExactDistancesFromWrong : ChangeSpec := { name := "fnExactDistancesFrom", fn := fun _ => fun
  | [d1, d2] => { results := [.lit (.bool false)], args := [d1, d2] }
  | _ => none }
def FnExactDistancesFromWrongFalsely : Prop := fnExactDistancesFromRow.holds Try.pinned (OpenSpec.ofChange fnExactDistancesFromWrong)

/-- 'laws.FnExactLinePieces': WHATEVER THE INPUT: true; the input reads as it did. -/
def fnExactLinePiecesSpec : ChangeSpec := { name := "fnExactLinePieces", fn := fun _ => fun
  | [d1, d2, d3] => { results := [.lit (.bool true)], args := [d1, d2, d3] }
  | _ => none }
def fnExactLinePiecesRow : OpenClaim := { program := "ytoldmgpdcenmhaa", sum := "4ef1cab09ff61c6a2cd64fe1b280327e6d5920feebc8d9f20e61160958503ec7", func := "loop.example/g01274/laws.FnExactLinePieces", spec := "fnExactLinePieces", plainKeys := false, apart := false }
def FnExactLinePiecesSaid : Prop := fnExactLinePiecesRow.holds Try.pinned (OpenSpec.ofChange fnExactLinePiecesSpec)

/-- ITS FALSE NEIGHBOUR: 'it returns false'. Refute it at one input. -/
def fnExactLinePiecesWrong : ChangeSpec := { name := "fnExactLinePieces", fn := fun _ => fun
  | [d1, d2, d3] => { results := [.lit (.bool false)], args := [d1, d2, d3] }
  | _ => none }
def FnExactLinePiecesWrongFalsely : Prop := fnExactLinePiecesRow.holds Try.pinned (OpenSpec.ofChange fnExactLinePiecesWrong)

/-- 'laws.FnExactShortestCells': WHATEVER THE INPUT: true; the input reads as it did. -/
def fnExactShortestCellsSpec : ChangeSpec := { name := "fnExactShortestCells", fn := fun _ => fun
  | [d1, d2] => { results := [.lit (.bool true)], args := [d1, d2] }
  | _ => none }
def fnExactShortestCellsRow : OpenClaim := { program := "ytoldmgpdcenmhaa", sum := "4ef1cab09ff61c6a2cd64fe1b280327e6d5920feebc8d9f20e61160958503ec7", func := "loop.example/g01274/laws.FnExactShortestCells", spec := "fnExactShortestCells", unfollowed := true, recurses := true, plainKeys := false, apart := false }
def FnExactShortestCellsSaid : Prop := fnExactShortestCellsRow.holds Try.pinned (OpenSpec.ofChange fnExactShortestCellsSpec)

/-- ITS FALSE NEIGHBOUR: 'it returns false'. Refute it at one input. -/
def fnExactShortestCellsWrong : ChangeSpec := { name := "fnExactShortestCells", fn := fun _ => fun
  | [d1, d2] => { results := [.lit (.bool false)], args := [d1, d2] }
  | _ => none }
def FnExactShortestCellsWrongFalsely : Prop := fnExactShortestCellsRow.holds Try.pinned (OpenSpec.ofChange fnExactShortestCellsWrong)

/- THE SECOND FORM. 'bulk': how many values and letters a reading holds, each counted each time it is reached (what is shared counts as often as it is met; a slice's spare places count too). A statement '..UptoSaid' is the law's where the arguments, and the package variables that the reading takes, are together of bulk at most 1048576: NARROWER than '..Said'. Prove '..Said' where nothing that the law and all that it calls make is longer than what came in: it says more and counts as full. Else prove '..UptoSaid'. A law counts once. -/
mutual
def uptoBulk {H : Type} : DataW H → Nat
  | .lit (.string bytes) => bytes.length + 1
  | .lit _ => 1
  | .nil => 1
  | .ptr d => uptoBulk d + 1
  | .slice elems spare => uptoBulkAll elems + uptoBulkAll spare + 1
  | .agg parts => uptoBulkAll parts + 1
  | .iface _ d => uptoBulk d + 1
  | .map entries => uptoBulkEntries entries + 1
  | .held _ => 1
def uptoBulkAll {H : Type} : List (DataW H) → Nat
  | [] => 0
  | d :: r => uptoBulk d + uptoBulkAll r
def uptoBulkEntries {H : Type} : List (Lit × DataW H) → Nat
  | [] => 0
  | x :: r => uptoBulkEntry x + uptoBulkEntries r
def uptoBulkEntry {H : Type} : Lit × DataW H → Nat
  | (.string bytes, d) => bytes.length + uptoBulk d + 1
  | (_, d) => uptoBulk d + 1
 end
def uptoSmall : (H : Type) → List (DataW H) → Bool := fun _ ds => decide (uptoBulkAll ds ≤ 1048576)
def OpenSpec.upto (s : _root_.Go.ChangeSpec) : _root_.Go.OpenSpec := { _root_.Go.OpenSpec.ofChange s with cond := some uptoSmall }

/-- 'laws.FnExactDistancesFrom', WHERE WHAT IT READS IS OF BULK AT MOST 1048576: true; the input reads as it did. -/
def fnExactDistancesFromUptoRow : OpenClaim := { program := "ytoldmgpdcenmhaa", sum := "4ef1cab09ff61c6a2cd64fe1b280327e6d5920feebc8d9f20e61160958503ec7", func := "loop.example/g01274/laws.FnExactDistancesFrom", spec := "fnExactDistancesFrom", unfollowed := true, recurses := true, plainKeys := false, apart := false, narrowed := true }
def FnExactDistancesFromUptoSaid : Prop := fnExactDistancesFromUptoRow.holds Try.pinned (OpenSpec.upto fnExactDistancesFromSpec)

/-- 'laws.FnExactLinePieces', WHERE WHAT IT READS IS OF BULK AT MOST 1048576: true; the input reads as it did. -/
def fnExactLinePiecesUptoRow : OpenClaim := { program := "ytoldmgpdcenmhaa", sum := "4ef1cab09ff61c6a2cd64fe1b280327e6d5920feebc8d9f20e61160958503ec7", func := "loop.example/g01274/laws.FnExactLinePieces", spec := "fnExactLinePieces", plainKeys := false, apart := false, narrowed := true }
def FnExactLinePiecesUptoSaid : Prop := fnExactLinePiecesUptoRow.holds Try.pinned (OpenSpec.upto fnExactLinePiecesSpec)

/-- 'laws.FnExactShortestCells', WHERE WHAT IT READS IS OF BULK AT MOST 1048576: true; the input reads as it did. -/
def fnExactShortestCellsUptoRow : OpenClaim := { program := "ytoldmgpdcenmhaa", sum := "4ef1cab09ff61c6a2cd64fe1b280327e6d5920feebc8d9f20e61160958503ec7", func := "loop.example/g01274/laws.FnExactShortestCells", spec := "fnExactShortestCells", unfollowed := true, recurses := true, plainKeys := false, apart := false, narrowed := true }
def FnExactShortestCellsUptoSaid : Prop := fnExactShortestCellsUptoRow.holds Try.pinned (OpenSpec.upto fnExactShortestCellsSpec)

end Rows
end Go.Proofs.Ytoldmgpdcenmhaa
