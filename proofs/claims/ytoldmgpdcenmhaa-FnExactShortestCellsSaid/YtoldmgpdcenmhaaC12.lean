/- Contracts for FreeCells: all cells of a board, its free cells. -/
import Derived.Test.YtoldmgpdcenmhaaC11
namespace Go.Proofs.Ytoldmgpdcenmhaa
open Go.RowKit
set_option linter.unusedVariables false
set_option linter.unusedSimpArgs false
set_option maxHeartbeats 400000
set_option maxRecDepth 100000

/-- The cells of the rows below y, and of row y those left of x. -/
def cellsTo (wd : Nat) (y x : Nat) : List Ce := ((List.range y).flatMap fun (j : Nat) => (List.range wd).map fun (i : Nat) => (⟨(i : Int), (j : Int)⟩ : Ce)) ++ (List.range x).map fun (i : Nat) => (⟨(i : Int), (y : Int)⟩ : Ce)
theorem cellsTo_snoc (wd y x : Nat) : cellsTo wd y (x + 1) = cellsTo wd y x ++ [⟨(x : Int), (y : Int)⟩] := by simp [cellsTo, List.range_succ]
theorem cellsTo_row (wd y : Nat) : cellsTo wd (y + 1) 0 = cellsTo wd y wd := by simp [cellsTo, List.range_succ]
theorem cellsTo_len (wd y x : Nat) : (cellsTo wd y x).length = y * wd + x := by
  induction y with
  | zero => simp [cellsTo]
  | succ y ih =>
    have e : cellsTo wd (y + 1) x = cellsTo wd y wd ++ (List.range x).map fun (i : Nat) => (⟨(i : Int), ((y + 1 : Nat) : Int)⟩ : Ce) := by
      rw [← cellsTo_row]; simp [cellsTo]
    have e2 : (cellsTo wd y wd).length = y * wd + wd := by
      have : (cellsTo wd y wd).length = (cellsTo wd y 0).length + wd := by simp [cellsTo]
      have h3 : (cellsTo wd y x).length = (cellsTo wd y 0).length + x := by simp [cellsTo]
      omega
    rw [e, List.length_append, e2, List.length_map, List.length_range, Nat.succ_mul]
def allC (l : Bd) : List Ce := cellsTo l.wd.toNat l.hg.toNat 0
/-- The free cells, in the order of rows. -/
def freeC (l : Bd) : List Ce := if vBd l = true then (allC l).filter (fun c => decide (fnd c l.ps < 0)) else []
def freeCode (l : Bd) : Int := if vBd l = true then 0 else 1

set_option maxRecDepth 100000 in
theorem cells_any (b : Nat) (l : Bd) (w : World) (h : BP w b l) (h1 : 1 ≤ l.wd) (h2 : l.wd ≤ 24) (h3 : 1 ≤ l.hg) (h4 : l.hg ≤ 24) :
    Calls Try.prog 39 #[.pointer (some ⟨b, 0, none⟩)] w fun e w' => ∃ v, e = .returned v ∧ w'.ownsRow w.heap.size 35 2 v (allC l).length (flat Ce.cells (allC l)) ∧ Below w.heap.size w w' := by
  have h0 := h
  obtain ⟨hbl, s, hbd, -⟩ := h
  unfold BdAt at hbd
  obtain ⟨i0, hi, hz0, hz1, hz2⟩ := info_parts Try.infoCell
  obtain ⟨wn, hwn⟩ : ∃ wn : Nat, (wn : Int) = l.wd := ⟨l.wd.toNat, by omega⟩
  obtain ⟨hn, hhn⟩ : ∃ hn : Nat, (hn : Int) = l.hg := ⟨l.hg.toNat, by omega⟩
  have hL := Lib.hid (show allC l = cellsTo wn hn 0 by unfold allC; congr 1 <;> omega)
  rw [← hwn, ← hhn] at hbd
  have hwn1 : 1 ≤ wn := by omega
  have hwn2 : wn ≤ 24 := by omega
  have hhn1 : 1 ≤ hn := by omega
  have hhn2 : hn ≤ 24 := by omega
  clear hwn hhn h1 h2 h3 h4
  go_enter Try.func39, Try.ntmps39
  go_wp2
  go_loopw [3, 11] (fun o y wr => ∃ k : Nat, k ≤ hn ∧ y = .int .i8 k ∧ wr.ownsRow w.heap.size 35 2 o (cellsTo wn k 0).length (flat Ce.cells (cellsTo wn k 0)) ∧ Below w.heap.size w wr) (fun _ y _ => hn - (intOf y).toNat)
  case atStart => exact ⟨0, by omega, rfl, World.ownsRow_made _ _ 0 (Nat.le_refl _) (by simp [maxLen]) rfl, (by repeat (first | with_reducible exact Below.refl _ _ | with_reducible assumption | with_reducible apply bl_drewN | with_reducible apply bl_drew | with_reducible apply bl_alloc | (with_reducible refine bl_set ?_ (by first | (simp; done) | (simp; omega)) _) | with_reducible refine bl_trans ?_ (by with_reducible assumption)))⟩
  case round =>
    obtain ⟨k, hk, rfl, hown, hb⟩ := hrel
    obtain ⟨hc, hf⟩ := bcell hb
    have hq := hb.size
    by_cases hlt : k < hn
    · go_wp2
      go_loopw [3, 18] (fun o x wr => ∃ j : Nat, j ≤ wn ∧ x = .int .i8 j ∧ wr.ownsRow w.heap.size 35 2 o (cellsTo wn k j).length (flat Ce.cells (cellsTo wn k j)) ∧ Below w.heap.size w wr) (fun _ x _ => wn - (intOf x).toNat)
      case atStart => exact ⟨0, by omega, rfl, hown, hb⟩
      case round =>
        clear hown hb hc hf
        obtain ⟨j, hj, rfl, hown, hb⟩ := hrel
        by_cases hlt2 : j < wn
        · have hkw : k * wn ≤ 24 * 24 := Nat.mul_le_mul (by omega) (by omega)
          have hlen := Lib.hid (cellsTo_len wn k j)
          have hq2 := hb.size
          go_wp2_with (at_builtin; refine wpList_append_sl _ rfl _ _ 46 rfl w.heap.size 35 i0 (.agg #[.int .i8 0, .int .i8 0]) 2 2 Try.underlying46 hi hz0 hz1 hz2 rfl (by decide) _ _ _ rfl (own_below hown (bl_alloc (Below.refl _ _)) (Nat.le_refl _)) (some ⟨_, 0, none⟩) 1 1 [.int .i8 j, .int .i8 k] rfl (sl_new _ #[.int .i8 j, .int .i8 k] _) rfl (Ce.one ⟨j, k⟩) (by rw [hlen.out]; unfold maxLen; omega) (by rw [hlen.out]; omega) (by simp; omega) ?_; intro v1 w1 hown1 hgrow)
          refine ⟨⟨j + 1, by omega, by go_num, ?_, bl_grown (bl_alloc hb) hgrow (fun k hk => (hown.lt k hk).1)⟩, by simp [intOf]; omega⟩
          rw [cellsTo_snoc, List.length_append, flat_append]
          exact hown1
        · go_wp2
          have hjn : j = wn := by omega
          rw [hjn, ← cellsTo_row] at hown
          refine ⟨⟨k + 1, by omega, by go_num, hown, hb⟩, by simp [intOf]; omega⟩
    · go_wp2
      go_ret
      have hkn : k = hn := by omega
      rw [hkn] at hown
      exact ⟨_, rfl, by rw [hL.out]; exact hown, hb⟩
theorem cellsTo_mem (wn y x : Nat) (c : Ce) (h : c ∈ cellsTo wn y x) (hx : x ≤ wn) : 0 ≤ c.x ∧ c.x < wn ∧ 0 ≤ c.y ∧ c.y ≤ y ∧ (c.y < y ∨ 0 < x) := by
  simp only [cellsTo, List.mem_append, List.mem_flatMap, List.mem_map, List.mem_range] at h
  rcases h with ⟨j, hj, i, hi, rfl⟩ | ⟨i, hi, rfl⟩
  · simp; omega
  · simp; omega
theorem allC_in (l : Bd) (c : Ce) (h : c ∈ allC l) : cIn l.wd l.hg c = true := by
  obtain ⟨h1, h2, h3, h4, h5⟩ := cellsTo_mem _ _ _ c h (by omega)
  simp only [cIn, inB, Bool.and_eq_true, decide_eq_true_eq]
  omega
theorem allC_ok (l : Bd) (h1 : l.wd ≤ 24) (h2 : l.hg ≤ 24) : CesOk (allC l) := by
  intro k hk
  obtain ⟨h1, h2, h3, h4, h5⟩ := cellsTo_mem _ _ _ _ (List.getElem_mem hk) (by omega)
  exact ⟨⟨by omega, by omega⟩, ⟨by omega, by omega⟩⟩
theorem vBd_bounds (l : Bd) (h : vBd l = true) : 1 ≤ l.wd ∧ l.wd ≤ 24 ∧ 1 ≤ l.hg ∧ l.hg ≤ 24 ∧ l.ps.length ≤ 200 := by
  simp only [vBd, inB, Bool.and_eq_true, decide_eq_true_eq] at h
  omega
theorem allC_len (l : Bd) (h1 : 1 ≤ l.wd) (h2 : l.wd ≤ 24) (h3 : 1 ≤ l.hg) (h4 : l.hg ≤ 24) : (allC l).length ≤ 576 := by
  unfold allC
  rw [cellsTo_len]
  have : l.hg.toNat * l.wd.toNat ≤ 24 * 24 := Nat.mul_le_mul (by omega) (by omega)
  omega
theorem freeC_len (l : Bd) : (freeC l).length ≤ 576 := by
  unfold freeC
  split
  · rename_i h
    obtain ⟨h1, h2, h3, h4, -⟩ := vBd_bounds l h
    exact Nat.le_trans (List.length_filter_le _ _) (allC_len l h1 h2 h3 h4)
  · simp

end Go.Proofs.Ytoldmgpdcenmhaa
