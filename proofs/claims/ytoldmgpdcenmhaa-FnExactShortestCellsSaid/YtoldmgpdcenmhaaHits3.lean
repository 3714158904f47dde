/- Contracts: what a piece hits: forks, and all kinds. -/
import Derived.Test.YtoldmgpdcenmhaaHits2
namespace Go.Proofs.Ytoldmgpdcenmhaa
open Go.RowKit
set_option linter.unusedVariables false
set_option linter.unusedSimpArgs false
set_option maxHeartbeats 400000
set_option maxRecDepth 100000
theorem unturned20 (w : World) : Calls Try.prog 79 #[.int .i8 2, .int .i64 0] w (UntP 2 0 w) := by
  go_enter Try.func79, Try.ntmps79
  go_wp2_with fail
  refine (sides3_any _ _).mono ?_
  rintro e w1 ⟨rfl, hw⟩
  have hb : Below w.heap.size w w1 := hw ▸ bl_alloc (Below.refl _ _)
  clear hw
  go_wp2_with fail
  refine (sides1_any _ 0 _ (by decide) (by decide)).mono ?_
  rintro e w' ⟨rfl, rfl⟩
  rw [show orL [0] = 1 from by decide +kernel]
  go_wp2
  go_ret2
  refine ⟨⟨_, ?_, ?_, ?_, rfl⟩, (by repeat (first | with_reducible exact Below.refl _ _ | with_reducible assumption | with_reducible apply bl_drewN | with_reducible apply bl_drew | with_reducible apply bl_alloc | (with_reducible refine bl_set ?_ (by first | (simp; done) | (simp; omega)) _) | with_reducible refine bl_trans ?_ (by with_reducible assumption)))⟩ <;> decide +kernel
theorem unturned21 (w : World) : Calls Try.prog 79 #[.int .i8 2, .int .i64 1] w (UntP 2 1 w) := by
  go_enter Try.func79, Try.ntmps79
  go_wp2_with fail
  refine (sides3_any _ _).mono ?_
  rintro e w1 ⟨rfl, hw⟩
  have hb : Below w.heap.size w w1 := hw ▸ bl_alloc (Below.refl _ _)
  clear hw
  go_wp2_with fail
  refine (sides1_any _ 1 _ (by decide) (by decide)).mono ?_
  rintro e w' ⟨rfl, rfl⟩
  rw [show orL [1] = 2 from by decide +kernel]
  go_wp2
  go_ret2
  refine ⟨⟨_, ?_, ?_, ?_, rfl⟩, (by repeat (first | with_reducible exact Below.refl _ _ | with_reducible assumption | with_reducible apply bl_drewN | with_reducible apply bl_drew | with_reducible apply bl_alloc | (with_reducible refine bl_set ?_ (by first | (simp; done) | (simp; omega)) _) | with_reducible refine bl_trans ?_ (by with_reducible assumption)))⟩ <;> decide +kernel
theorem unturned22 (w : World) : Calls Try.prog 79 #[.int .i8 2, .int .i64 2] w (UntP 2 2 w) := by
  go_enter Try.func79, Try.ntmps79
  go_wp2_with fail
  refine (sides3_any _ _).mono ?_
  rintro e w1 ⟨rfl, hw⟩
  have hb : Below w.heap.size w w1 := hw ▸ bl_alloc (Below.refl _ _)
  clear hw
  go_wp2_with fail
  refine (sides1_any _ 2 _ (by decide) (by decide)).mono ?_
  rintro e w' ⟨rfl, rfl⟩
  rw [show orL [2] = 4 from by decide +kernel]
  go_wp2
  go_ret2
  refine ⟨⟨_, ?_, ?_, ?_, rfl⟩, (by repeat (first | with_reducible exact Below.refl _ _ | with_reducible assumption | with_reducible apply bl_drewN | with_reducible apply bl_drew | with_reducible apply bl_alloc | (with_reducible refine bl_set ?_ (by first | (simp; done) | (simp; omega)) _) | with_reducible refine bl_trans ?_ (by with_reducible assumption)))⟩ <;> decide +kernel
theorem unturned23 (w : World) : Calls Try.prog 79 #[.int .i8 2, .int .i64 3] w (UntP 2 3 w) := by
  go_enter Try.func79, Try.ntmps79
  go_wp2_with fail
  refine (sides3_any _ _).mono ?_
  rintro e w1 ⟨rfl, hw⟩
  have hb : Below w.heap.size w w1 := hw ▸ bl_alloc (Below.refl _ _)
  clear hw
  go_wp2_with fail
  refine (sides1_any _ 3 _ (by decide) (by decide)).mono ?_
  rintro e w' ⟨rfl, rfl⟩
  rw [show orL [3] = 8 from by decide +kernel]
  go_wp2
  go_ret2
  refine ⟨⟨_, ?_, ?_, ?_, rfl⟩, (by repeat (first | with_reducible exact Below.refl _ _ | with_reducible assumption | with_reducible apply bl_drewN | with_reducible apply bl_drew | with_reducible apply bl_alloc | (with_reducible refine bl_set ?_ (by first | (simp; done) | (simp; omega)) _) | with_reducible refine bl_trans ?_ (by with_reducible assumption)))⟩ <;> decide +kernel
theorem unturned2 (r : Int) (h3 : 0 ≤ r) (h4 : r ≤ 3) (w : World) : Calls Try.prog 79 #[.int .i8 2, .int .i64 r] w (UntP 2 r w) := by
  have hr : r = 0 ∨ r = 1 ∨ r = 2 ∨ r = 3 := by omega
  rcases hr with rfl | rfl | rfl | rfl
  · exact unturned20 w
  · exact unturned21 w
  · exact unturned22 w
  · exact unturned23 w
theorem unturned_any (k r : Int) (h1 : 0 ≤ k) (h2 : k ≤ 5) (h3 : 0 ≤ r) (h4 : r ≤ 3) (w : World) : Calls Try.prog 79 #[.int .i8 k, .int .i64 r] w (UntP k r w) := by
  have hk : k = 0 ∨ k = 1 ∨ k = 2 ∨ k = 3 ∨ k = 4 ∨ k = 5 := by omega
  rcases hk with rfl | rfl | rfl | rfl | rfl | rfl
  · exact unturned0 r h3 h4 w
  · exact unturned1 r h3 h4 w
  · exact unturned2 r h3 h4 w
  · exact unturned3 r h3 h4 w
  · exact unturned4 r h3 h4 w
  · exact unturned5 r h3 h4 w
end Go.Proofs.Ytoldmgpdcenmhaa
