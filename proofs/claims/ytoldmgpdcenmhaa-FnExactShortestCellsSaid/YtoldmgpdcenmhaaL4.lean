/- The walk of the law FnExactFreeCells. -/
import Derived.Test.YtoldmgpdcenmhaaC12
import Derived.Test.YtoldmgpdcenmhaaL3
namespace Go.Proofs.Ytoldmgpdcenmhaa
open Go.RowKit
set_option linter.unusedVariables false
set_option linter.unusedSimpArgs false
set_option maxHeartbeats 400000
set_option maxRecDepth 100000

/-- A block's first cells. -/
abbrev BX3 (w : World) (b : Nat) (v0 v1 v2 : Value) : Prop := b < w.heap.size ∧ w.cell? ⟨b, 0, none⟩ = some v0 ∧ w.cell? ⟨b, 1, none⟩ = some v1 ∧ w.cell? ⟨b, 2, none⟩ = some v2
theorem BX3.step {w w' : World} {b : Nat} {v0 v1 v2 : Value} (h : BX3 w b v0 v1 v2) (hb : Below w.heap.size w w') : BX3 w' b v0 v1 v2 := by
  obtain ⟨h1, h2⟩ := h
  refine ⟨Nat.lt_of_lt_of_le h1 hb.size, ?_⟩
  simp only [hb.cell (p := ⟨b, _, none⟩) h1]
  exact h2
theorem BX3.new (w : World) (v0 v1 v2 : Value) (T : TypeId) : BX3 (w.alloc (.cells #[v0, v1, v2] T)) w.heap.size v0 v1 v2 := by
  have hh := heap_alloc_new w (.cells #[v0, v1, v2] T)
  refine ⟨by simp, ?_, ?_, ?_⟩ <;> (rw [cell_of_row _ _ _ _ _ _ hh]; rfl)

theorem markBoard_any {base n : Nat} {wd hg : Int} {v : Value} {cs : List Value} (k0 : Int) (w : World) (hown : w.ownsRow base 78 5 v n cs) (hn : n ≤ 10000000) (h1 : 0 ≤ k0) (h2 : k0 ≤ 1000000000) :
    Calls Try.prog 13 #[bdv wd hg v, .int .i64 k0] w fun e w' => e = .returned (.int .i64 (k0 + 5 * n)) ∧ w'.ownsRow base 78 5 v n (flat Pc.cells (mkPc k0 n)) ∧ w.grownBy w' v.ownBlock := by
  have g0 : w.grownBy (w.alloc (.cells #[.int .i8 wd, .int .i8 hg, v] 33)) v.ownBlock := ⟨rfl, rfl, rfl, by simp, fun k hk _ => Below.heap_alloc w _ k hk⟩
  have h3 := own_kept hown g0
  have H := Lib.hid (markPieceS_any k0 (w.alloc (.cells #[.int .i8 wd, .int .i8 hg, v] 33)) (own_below hown (bl_alloc (Below.refl _ _)) (Nat.le_refl _)) hn h1 h2)
  clear h3
  go_enter Try.func13, Try.ntmps13
  go_wp2_with fail
  refine H.out.mono ?_
  rintro e w1 ⟨rfl, ho, hg⟩
  go_wp2
  go_ret
  exact ⟨rfl, ho, grown_trans g0 hg⟩
end Go.Proofs.Ytoldmgpdcenmhaa
