/- Contracts: ShortestCells of both. -/
import Derived.Test.YtoldmgpdcenmhaaSh2
import Derived.Test.YtoldmgpdcenmhaaEnds
import Derived.Test.YtoldmgpdcenmhaaSteps
namespace Go.Proofs.Ytoldmgpdcenmhaa
open Go.RowKit
set_option linter.unusedVariables false
set_option linter.unusedSimpArgs false
set_option maxHeartbeats 400000
set_option maxRecDepth 100000
theorem specShort_any (wd hg : Int) (s : Value) (ps : List Pc) (y : Wy) (hyo : y.ok) (w : World) (hps : PV w s ps) (hok : (Bd.mk wd hg ps).ok) (hn : ps.length ≤ 10000000) :
    Calls Try.prog 25 #[bdv wd hg s, y.val] w fun e w' => ∃ v, e = .returned (.tuple #[v, .int .i64 (shCode ⟨wd, hg, ps⟩ y)]) ∧
      w'.ownsRow w.heap.size 35 2 v (shList ⟨wd, hg, ps⟩ y).length (flat Ce.cells (shList ⟨wd, hg, ps⟩ y)) ∧ Below w.heap.size w w' := by
  obtain ⟨a, cap, rfl, hps⟩ := hps
  obtain ⟨b0, hb0⟩ : ∃ b0, b0 = w.heap.size := ⟨_, rfl⟩
  obtain ⟨w0, hw0⟩ : ∃ w0, w0 = (w.alloc (.cells #[.int .i8 wd, .int .i8 hg, .slice a ps.length cap] 33)).alloc (.cells #[.int .i8 y.fx, .int .i8 y.fy, .int .i8 y.sd, .int .i8 y.tx, .int .i8 y.ty, .int .i8 y.out] 58) := ⟨_, rfl⟩
  have HB := Lib.hid (show BP w0 w.heap.size ⟨wd, hg, ps⟩ by rw [hw0]; exact (BP.new (l := ⟨wd, hg, ps⟩) (w := w) ⟨a, cap, rfl, hps⟩ 33).step (bl_alloc (Below.refl _ _)))
  have hy : WyAt w0 (w.heap.size + 1) y := by
    have := WyAt.new (w.alloc (.cells #[.int .i8 wd, .int .i8 hg, .slice a ps.length cap] 33)) y 58
    rw [hw0]; simpa using this
  have HY := Lib.hid hy
  have HBW := Lib.hid (show Below w.heap.size w w0 by rw [hw0]; exact bl_alloc (bl_alloc (Below.refl _ _)))
  have hz0 : w0.heap.size = w.heap.size + 2 := by rw [hw0]; simp
  have HW0 := Lib.hid hw0
  clear hy hw0
  rcases Bool.eq_false_or_eq_true (vBd ⟨wd, hg, ps⟩) with hv | hv
  · obtain ⟨b1, b2, b3, b4, b5⟩ := vBd_bounds _ hv
    simp only at b1 b2 b3 b4 b5
    rcases Bool.eq_false_or_eq_true (vWy ⟨wd, hg, ps⟩ y) with hy | hy
    · have HC := Lib.hid (show shCode ⟨wd, hg, ps⟩ y = shC (bfs ⟨wd, hg, ps⟩ ⟨y.fx, y.fy⟩) y by unfold shCode; rw [if_pos (by rw [hv, hy]; rfl)])
      have HL := Lib.hid (show shList ⟨wd, hg, ps⟩ y = shL (bfs ⟨wd, hg, ps⟩ ⟨y.fx, y.fy⟩) y by unfold shList; rw [if_pos (by rw [hv, hy]; rfl)])
      go_enter Try.func25, Try.ntmps25
      go_upto_region 1 with fail
      rw [← HW0.out]
      go_wp2_with fail
      refine (l01Ok_any w.heap.size ⟨wd, hg, ps⟩ _ HB.out hok hn).mono ?_
      rintro e w1 ⟨rfl, hb1⟩
      rw [hv]
      go_wp2_with fail
      refine (l05Ok_any w.heap.size ⟨wd, hg, ps⟩ (w.heap.size + 1) y _ (HB.out.step hb1) hok hn (HY.out.step hb1 (by omega)) hyo (by have := hb1.size; omega)).mono ?_
      rintro e w2 ⟨rfl, hb2⟩
      rw [hy]
      have hb12 := bl_trans hb1 hb2
      go_wp2_with fail
      refine (l05Shortest_any w.heap.size ⟨wd, hg, ps⟩ (w.heap.size + 1) y _ (HB.out.step hb12) hok hn (HY.out.step hb12 (by omega)) hyo (by have := hb12.size; omega) hy (by simp; omega) (by simp; omega)).mono ?_
      rintro e w3 ⟨v, rfl, ho, hb3⟩
      have HO := Lib.hid ho
      clear ho
      have hz2 := hb12.size
      go_wp2
      go_ret2
      exact ⟨v, by rw [HC.out]; rfl, by rw [HL.out]; exact own_mono HO.out (by omega), bl_trans HBW.out (bl_trans hb12 hb3)⟩
    · have HC := Lib.hid (show shCode ⟨wd, hg, ps⟩ y = 1 by unfold shCode; rw [if_neg (by rw [hv, hy]; decide)])
      have HL := Lib.hid (show shList ⟨wd, hg, ps⟩ y = [] by unfold shList; rw [if_neg (by rw [hv, hy]; decide)])
      go_enter Try.func25, Try.ntmps25
      go_upto_region 1 with fail
      rw [← HW0.out]
      go_wp2_with fail
      refine (l01Ok_any w.heap.size ⟨wd, hg, ps⟩ _ HB.out hok hn).mono ?_
      rintro e w1 ⟨rfl, hb1⟩
      rw [hv]
      go_wp2_with fail
      refine (l05Ok_any w.heap.size ⟨wd, hg, ps⟩ (w.heap.size + 1) y _ (HB.out.step hb1) hok hn (HY.out.step hb1 (by omega)) hyo (by have := hb1.size; omega)).mono ?_
      rintro e w2 ⟨rfl, hb2⟩
      rw [hy]
      have hb12 := bl_trans HBW.out (bl_trans hb1 hb2)
      have hz2 := hb12.size
      go_wp2
      go_ret2
      exact ⟨_, by rw [HC.out]; rfl, by rw [HL.out]; exact World.ownsRow_made _ _ 0 hz2 (by simp [maxLen]) rfl, bl_alloc hb12⟩
  · have HC := Lib.hid (show shCode ⟨wd, hg, ps⟩ y = 1 by unfold shCode; rw [if_neg (by rw [hv]; simp)])
    have HL := Lib.hid (show shList ⟨wd, hg, ps⟩ y = [] by unfold shList; rw [if_neg (by rw [hv]; simp)])
    go_enter Try.func25, Try.ntmps25
    go_upto_region 1 with fail
    rw [← HW0.out]
    go_wp2_with fail
    refine (l01Ok_any w.heap.size ⟨wd, hg, ps⟩ _ HB.out hok hn).mono ?_
    rintro e w1 ⟨rfl, hb1⟩
    rw [hv]
    have hb12 := bl_trans HBW.out hb1
    have hz2 := hb12.size
    go_wp2
    go_ret2
    exact ⟨_, by rw [HC.out]; rfl, by rw [HL.out]; exact World.ownsRow_made _ _ 0 hz2 (by simp [maxLen]) rfl, bl_alloc hb12⟩
end Go.Proofs.Ytoldmgpdcenmhaa
