/- Contracts: the cell on a side. -/
import Derived.Test.YtoldmgpdcenmhaaHits4
namespace Go.Proofs.Ytoldmgpdcenmhaa
open Go.RowKit
set_option linter.unusedVariables false
set_option linter.unusedSimpArgs false
set_option maxHeartbeats 400000
set_option maxRecDepth 100000
def nxt (c : Ce) (s : Int) : Ce := if s = 0 then ⟨c.x, w8 (c.y - 1)⟩ else if s = 1 then ⟨w8 (c.x + 1), c.y⟩ else if s = 2 then ⟨c.x, w8 (c.y + 1)⟩ else ⟨w8 (c.x - 1), c.y⟩
theorem l01Next_any (c : Ce) (s : Int) (h5 : 0 ≤ s) (h6 : s ≤ 3) (w : World) :
    Calls Try.prog 61 #[c.val, .int .i64 s] w fun e w' => e = .returned (nxt c s).val ∧ Below w.heap.size w w' := by
  have hs : s = 0 ∨ s = 1 ∨ s = 2 ∨ s = 3 := by omega
  rcases hs with rfl | rfl | rfl | rfl
  all_goals
    go_enter Try.func61, Try.ntmps61
    go_wp2
    exact bodyPost_ret (v := (nxt c _).val) (by simp [results, Try.results61, go_sem, nxt]) rfl ⟨rfl, (by repeat (first | with_reducible exact Below.refl _ _ | with_reducible assumption | with_reducible apply bl_drewN | with_reducible apply bl_drew | with_reducible apply bl_alloc | (with_reducible refine bl_set ?_ (by first | (simp; done) | (simp; omega)) _) | with_reducible refine bl_trans ?_ (by with_reducible assumption)))⟩
theorem next_any (c : Ce) (hc : c.ok) (s : Int) (h5 : 0 ≤ s) (h6 : s ≤ 3) (w : World) :
    Calls Try.prog 52 #[c.val, .int .i64 s] w fun e w' => e = .returned (nxt c s).val ∧ Below w.heap.size w w' := by
  obtain ⟨⟨x1, x2⟩, ⟨y1, y2⟩⟩ := hc
  have hs : s = 0 ∨ s = 1 ∨ s = 2 ∨ s = 3 := by omega
  have i0 : ∀ w, (Instr.index 109 (.agg #[.int .i8 0, .int .i8 (-1), .int .i8 1, .int .i8 0, .int .i8 0, .int .i8 1, .int .i8 (-1), .int .i8 0]) (.int .i64 0)).run Try.prog w = .ok (.agg #[.int .i8 0, .int .i8 (-1)]) w := fun _ => by kernel_rfl
  have i1 : ∀ w, (Instr.index 109 (.agg #[.int .i8 0, .int .i8 (-1), .int .i8 1, .int .i8 0, .int .i8 0, .int .i8 1, .int .i8 (-1), .int .i8 0]) (.int .i64 1)).run Try.prog w = .ok (.agg #[.int .i8 1, .int .i8 0]) w := fun _ => by kernel_rfl
  have i2 : ∀ w, (Instr.index 109 (.agg #[.int .i8 0, .int .i8 (-1), .int .i8 1, .int .i8 0, .int .i8 0, .int .i8 1, .int .i8 (-1), .int .i8 0]) (.int .i64 2)).run Try.prog w = .ok (.agg #[.int .i8 0, .int .i8 1]) w := fun _ => by kernel_rfl
  have i3 : ∀ w, (Instr.index 109 (.agg #[.int .i8 0, .int .i8 (-1), .int .i8 1, .int .i8 0, .int .i8 0, .int .i8 1, .int .i8 (-1), .int .i8 0]) (.int .i64 3)).run Try.prog w = .ok (.agg #[.int .i8 (-1), .int .i8 0]) w := fun _ => by kernel_rfl
  rcases hs with rfl | rfl | rfl | rfl
  all_goals
    go_enter Try.func52, Try.ntmps52
    go_wp2
    exact bodyPost_ret (v := (nxt c _).val) (by simp [results, Try.results52, go_sem, nxt, Int.sub_eq_add_neg]) rfl ⟨rfl, (by repeat (first | with_reducible exact Below.refl _ _ | with_reducible assumption | with_reducible apply bl_drewN | with_reducible apply bl_drew | with_reducible apply bl_alloc | (with_reducible refine bl_set ?_ (by first | (simp; done) | (simp; omega)) _) | with_reducible refine bl_trans ?_ (by with_reducible assumption)))⟩
end Go.Proofs.Ytoldmgpdcenmhaa
