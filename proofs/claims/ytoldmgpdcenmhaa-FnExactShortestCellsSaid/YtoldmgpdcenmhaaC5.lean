/- Contracts for SlowLine. -/
import Derived.Test.YtoldmgpdcenmhaaC4
namespace Go.Proofs.Ytoldmgpdcenmhaa
open Go.RowKit
set_option linter.unusedVariables false
set_option linter.unusedSimpArgs false
set_option maxHeartbeats 400000
set_option maxRecDepth 100000

/-- The delay of the piece k of a line of which so many ticks are left to give. -/
def slowD (left : Int) (k : Nat) : Int := 1 + min (max (left - 8 * k) 0) 8
def slowP (left : Int) (k : Nat) (p : Pc) : Pc := { p with d := slowD left k }
def slowed (left : Int) (ps : List Pc) : List Pc := ps.mapIdx (slowP left)
theorem slowed_length (left : Int) (ps : List Pc) : (slowed left ps).length = ps.length := by simp [slowed]
/-- The line when k pieces have been made slow. -/
def slowTo (left : Int) (ps : List Pc) (k : Nat) : List Pc := (slowed left ps).take k ++ ps.drop k
theorem slowTo_zero (left : Int) (ps : List Pc) : slowTo left ps 0 = ps := by simp [slowTo]
theorem slowTo_all (left : Int) (ps : List Pc) : slowTo left ps ps.length = slowed left ps := by
  rw [slowTo, List.take_of_length_le (by rw [slowed_length]; exact Nat.le_refl _)]; simp
theorem slowTo_cells (left : Int) (ps : List Pc) (k : Nat) (h : k < ps.length) :
    flat Pc.cells (slowTo left ps k) = (flat Pc.cells ((slowed left ps).take k) ++ [.int .i8 ps[k].x, .int .i8 ps[k].y, .int .i8 ps[k].k, .int .i8 ps[k].t]) ++ (.int .i8 ps[k].d :: flat Pc.cells (ps.drop (k + 1))) := by
  rw [slowTo, flat_append, List.drop_eq_getElem_cons h, flat_cons]
  simp [Pc.cells]
theorem slowTo_succ (left : Int) (ps : List Pc) (k : Nat) (h : k < ps.length) :
    flat Pc.cells (slowTo left ps (k + 1)) = ((flat Pc.cells ((slowed left ps).take k) ++ [.int .i8 ps[k].x, .int .i8 ps[k].y, .int .i8 ps[k].k, .int .i8 ps[k].t]) ++ [.int .i8 (slowD left k)]) ++ flat Pc.cells (ps.drop (k + 1)) := by
  rw [slowTo, flat_append, List.take_succ_eq_append_getElem (by rw [slowed_length]; exact h), flat_append, flat_cons, flat_nil]
  simp [slowed, slowP, Pc.cells]

def slowC (n : Nat) (delay : Int) : Int := if inB delay n (9 * n) = true then 0 else 6
def slowL (ps : List Pc) (delay : Int) : List Pc := if inB delay ps.length (9 * ps.length) = true then slowed (delay - ps.length) ps else []
def slowCode (ps : List Pc) (delay : Int) : Int := if given ps = 0 then (if inB delay 0 100000 = true then slowC ps.length delay else 2) else given ps
def slowList (ps : List Pc) (delay : Int) : List Pc := if given ps = 0 then (if inB delay 0 100000 = true then slowL ps delay else []) else []

end Go.Proofs.Ytoldmgpdcenmhaa
