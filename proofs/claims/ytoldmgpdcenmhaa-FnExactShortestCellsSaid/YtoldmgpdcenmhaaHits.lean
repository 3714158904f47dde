/- Contracts: from which sides a piece falls, and what it hits. -/
import Derived.Test.YtoldmgpdcenmhaaC7
import Derived.Deep.WholeRow
namespace Go.Proofs.Ytoldmgpdcenmhaa
open Go.RowKit
set_option linter.unusedVariables false
set_option linter.unusedSimpArgs false
set_option maxHeartbeats 400000
set_option maxRecDepth 100000

abbrev tblA : Array Value := #[.int .i64 (-1), .int .i64 8, .int .i64 (-1), .int .i64 2, .int .i64 (-1), .int .i64 (-1), .int .i64 8, .int .i64 4, .int .i64 12, .int .i64 (-1), .int .i64 9, .int .i64 5, .int .i64 (-1), .int .i64 (-1), .int .i64 (-1), .int .i64 2, .int .i64 0, .int .i64 8, .int .i64 0, .int .i64 2, .int .i64 4, .int .i64 8, .int .i64 1, .int .i64 2]
theorem one_int (k : IntKind) (n : Int) : (Value.int k n).oneCell' = true := rfl
theorem l01Table_any (w : World) :
    Calls Try.prog 81 #[] w fun e w' => e = .returned (.agg tblA) ∧ Below w.heap.size w w' := by
  obtain ⟨C, hC⟩ : ∃ C, C = tblA := ⟨_, rfl⟩
  have hz : (Try.prog.info? 117).map (·.size) = some C.size := by rw [hC]; kernel_rfl
  have hs : (24 : Nat) = C.size := by rw [hC]; simp
  have ho : C.all (·.oneCell') = true := by rw [hC]; simp [one_int]
  have Hb := Lib.hid hC
  rw [← hC]
  clear hC
  have HZ := Lib.hid hz; clear hz
  have HS := Lib.hid hs; clear hs
  have HO := Lib.hid ho; clear ho
  go_enter Try.func81, Try.ntmps81
  go_wp2_with (refine wpList_build rfl 117 #[(0, .tmp 1), (1, .tmp 2), (2, .tmp 3), (3, .tmp 4), (4, .tmp 5), (5, .tmp 6)] rfl (by kernel_rfl) ?_; rw [show ((Try.prog.built 117 _).getD #[]) = C from by rw [Hb.out]; kernel_rfl]; (refine wpList_store_row rfl 117 (.tmp 0) (.tmp 7) rfl w.heap.size C rfl rfl 117 _ (heap_alloc_last w _) HZ.out (by rw [← HS.out]; simp) HO.out ?_); rw [World.setRow_alloc_new])
  exact bodyPost_ret (v := .agg C) (results_cell_row Try.results81 _ _ w.heap.size 117 C (0, 0) _ rfl (heap_alloc_last w _) Try.underlying117 rfl HZ.out) rfl ⟨rfl, (by repeat (first | with_reducible exact Below.refl _ _ | with_reducible assumption | with_reducible apply bl_drewN | with_reducible apply bl_drew | with_reducible apply bl_alloc | (with_reducible refine bl_set ?_ (by first | (simp; done) | (simp; omega)) _) | with_reducible refine bl_trans ?_ (by with_reducible assumption)))⟩
def tbl (k r : Int) : Int := ([-1, 8, -1, 2, -1, -1, 8, 4, 12, -1, 9, 5, -1, -1, -1, 2, 0, 8, 0, 2, 4, 8, 1, 2] : List Int).getD (k * 4 + r).toNat 0
abbrev tblRow (k : Int) : Array Value := #[.int .i64 (tbl k 0), .int .i64 (tbl k 1), .int .i64 (tbl k 2), .int .i64 (tbl k 3)]
theorem tbl_index1 (k : Int) (h1 : 0 ≤ k) (h2 : k ≤ 5) (w : World) : (Instr.index 117 (.agg tblA) (.int .i8 k)).run Try.prog w = .ok (.agg (tblRow k)) w := by
  have : k = 0 ∨ k = 1 ∨ k = 2 ∨ k = 3 ∨ k = 4 ∨ k = 5 := by omega
  rcases this with rfl | rfl | rfl | rfl | rfl | rfl <;> (show _ = _; kernel_rfl)
theorem tbl_index2 (k r : Int) (h1 : 0 ≤ k) (h2 : k ≤ 5) (h3 : 0 ≤ r) (h4 : r ≤ 3) (w : World) : (Instr.index 116 (.agg (tblRow k)) (.int .i64 r)).run Try.prog w = .ok (.int .i64 (tbl k r)) w := by
  have : r = 0 ∨ r = 1 ∨ r = 2 ∨ r = 3 := by omega
  rcases this with rfl | rfl | rfl | rfl <;> (show _ = _; kernel_rfl)
theorem tbl_bd (k r : Int) (h1 : 0 ≤ k) (h2 : k ≤ 5) (h3 : 0 ≤ r) (h4 : r ≤ 3) : -1 ≤ tbl k r ∧ tbl k r ≤ 15 := by
  have : k = 0 ∨ k = 1 ∨ k = 2 ∨ k = 3 ∨ k = 4 ∨ k = 5 := by omega
  have hr : r = 0 ∨ r = 1 ∨ r = 2 ∨ r = 3 := by omega
  rcases this with rfl | rfl | rfl | rfl | rfl | rfl <;> rcases hr with rfl | rfl | rfl | rfl <;> decide
/-- The bits of the sides of 'bits' below j, turned. -/
def hsum (bits t : Int) : Nat → Int
  | 0 => 0
  | j + 1 => hsum bits t j + (if bits / 2 ^ j % 2 = 1 then 2 ^ (((j : Int) + t) % 4).toNat else 0)
theorem hsum_succ (bits t : Int) (j : Nat) : hsum bits t (j + 1) = hsum bits t j + (if bits / 2 ^ j % 2 = 1 then 2 ^ (((j : Int) + t) % 4).toNat else 0) := rfl
theorem pow_bd (m : Int) (h1 : 0 ≤ m) (h2 : m ≤ 3) : ∃ p : Int, 2 ^ m.toNat = p ∧ 1 ≤ p ∧ p ≤ 8 := by
  have hm : m.toNat = 0 ∨ m.toNat = 1 ∨ m.toNat = 2 ∨ m.toNat = 3 := by omega
  rcases hm with hm | hm | hm | hm <;> (rw [hm]; exact ⟨_, rfl, by decide, by decide⟩)
theorem hsum_bd (bits t : Int) (j : Nat) (h : j ≤ 4) : 0 ≤ hsum bits t j ∧ hsum bits t j ≤ 8 * j := by
  induction j with
  | zero => exact ⟨Int.le_refl _, Int.le_refl _⟩
  | succ j ih =>
    obtain ⟨h1, h2⟩ := ih (by omega)
    obtain ⟨p, hp, u3, u4⟩ := pow_bd (((j : Int) + t) % 4) (by omega) (by omega)
    rw [hsum_succ, hp]
    generalize hsum bits t j = o at h1 h2
    split <;> omega
/-- What a piece of a kind, turned, hits when it is hit from a side, as bits; -1: it does not fall. -/
def hitsV (k t s : Int) : Int := if tbl k ((s + 4 - t) % 4) < 0 then -1 else hsum (tbl k ((s + 4 - t) % 4)) t 4
theorem l01Hits_any (x y k t d : Int) (s : Int) (w : World) (b off : Nat) (h : PcAt w b off ⟨x, y, k, t, d⟩) (hb : b < w.heap.size) (h1 : 0 ≤ k) (h2 : k ≤ 5) (h3 : 0 ≤ t) (h4 : t ≤ 3) (h5 : 0 ≤ s) (h6 : s ≤ 3) :
    Calls Try.prog 78 #[.pointer (some ⟨b, off, none⟩), .int .i64 s] w fun e w' => e = .returned (.int .i64 (hitsV k t s)) ∧ Below w.heap.size w w' := by
  unfold PcAt at h
  simp only at h
  have w3 := wrap_i8 (n := t) (by omega) (by omega)
  have hr1 : 0 ≤ (s + 4 - t) % 4 := by omega
  have hr2 : (s + 4 - t) % 4 ≤ 3 := by omega
  have I1 := tbl_index1 k h1 h2
  have I2 := tbl_index2 k _ h1 h2 hr1 hr2
  have HT := fun (u : Ext w) => l01Table_any u.w
  generalize tblA = C at I1 HT
  generalize tblRow k = R at I1 I2
  obtain ⟨b1, b2⟩ := tbl_bd k ((s + 4 - t) % 4) h1 h2 hr1 hr2
  have V : hitsV k t s = (if tbl k ((s + 4 - t) % 4) < 0 then -1 else hsum (tbl k ((s + 4 - t) % 4)) t 4) := rfl
  generalize tbl k ((s + 4 - t) % 4) = bits at I2 b1 b2 V
  have HT := Lib.hid HT
  rcases dec_cases (bits < 0) with ⟨g, g'⟩ | ⟨g, g'⟩
  · have V := Lib.hid (V.trans (if_pos g'))
    go_enter Try.func78, Try.ntmps78
    go_wp2
    (refine wp_region_ext (by kernel_rfl) (by kernel_rfl) ?_; have hX := @ext_cell; (repeat (go_big_quiet_step (first | (go_at_call 81; exact ext_call (HT.out _))))); refine wpQuiet_nil ?_; clear hX; intro _ hw'; obtain ⟨⟨wx, hbx⟩, rfl⟩ := hw'; obtain ⟨hcx, hfx⟩ := bcell hbx)
    go_wp2
    go_ret
    exact ⟨by rw [V.out]; rfl, (by repeat (first | with_reducible exact Below.refl _ _ | with_reducible assumption | with_reducible apply bl_drewN | with_reducible apply bl_drew | with_reducible apply bl_alloc | (with_reducible refine bl_set ?_ (by first | (simp; done) | (simp; omega)) _) | with_reducible refine bl_trans ?_ (by with_reducible assumption)))⟩
  · have V := Lib.hid (V.trans (if_neg (by omega)))
    go_enter Try.func78, Try.ntmps78
    go_wp2
    (refine wp_region_ext (by kernel_rfl) (by kernel_rfl) ?_; have hX := @ext_cell; (repeat (go_big_quiet_step (first | (go_at_call 81; exact ext_call (HT.out _))))); refine wpQuiet_nil ?_; clear hX; intro _ hw'; obtain ⟨⟨wx, hbx⟩, rfl⟩ := hw'; obtain ⟨hcx, hfx⟩ := bcell hbx)
    go_wp2
    go_loopw [7, 8] (fun o i wr => ∃ j : Nat, j ≤ 4 ∧ i = .int .i64 j ∧ o = .int .i64 (hsum bits t j) ∧ Below w.heap.size w wr) (fun _ i _ => 4 - (intOf i).toNat)
    case atStart => exact ⟨0, by omega, rfl, rfl, (by repeat (first | with_reducible exact Below.refl _ _ | with_reducible assumption | with_reducible apply bl_drewN | with_reducible apply bl_drew | with_reducible apply bl_alloc | (with_reducible refine bl_set ?_ (by first | (simp; done) | (simp; omega)) _) | with_reducible refine bl_trans ?_ (by with_reducible assumption)))⟩
    case round =>
      clear hbx hcx hfx
      obtain ⟨j, hj, rfl, rfl, hb⟩ := hrel
      obtain ⟨u1, u2⟩ := hsum_bd bits t j hj
      obtain ⟨p, hp, u3, u4⟩ := pow_bd ((j + t) % 4) (by omega) (by omega)
      have u5 : wrap64 p = p := by unfold wrap64; omega
      have HS := Lib.hid (hsum_succ bits t j)
      have hgen : ∃ o, o = hsum bits t j := ⟨_, rfl⟩
      obtain ⟨o, ho⟩ := hgen
      rw [← ho] at u1 u2 HS ⊢
      have HO := Lib.hid ho; clear ho
      by_cases hlt : j < 4
      · go_wp2
        · have hg : ((bits / 2 ^ j).tmod 2 == 1) = true := by assumption
          have hg2 : bits / 2 ^ j % 2 = 1 := by
            rw [← Int.tmod_eq_emod_of_nonneg (Int.ediv_nonneg g' (Int.le_of_lt (Int.pow_pos (by decide))))]; simpa using hg
          have HS' := HS.out
          rw [if_pos hg2, hp] at HS'
          go_roundw
          case rel => exact ⟨j + 1, by omega, by go_num, by rw [HS'], hb⟩
          case measure => simp [intOf]; omega
        · have hg : ((bits / 2 ^ j).tmod 2 == 1) = false := by assumption
          have hg2 : ¬ bits / 2 ^ j % 2 = 1 := by
            rw [← Int.tmod_eq_emod_of_nonneg (Int.ediv_nonneg g' (Int.le_of_lt (Int.pow_pos (by decide))))]; simpa using hg
          have HS' := HS.out
          rw [if_neg hg2, Int.add_zero] at HS'
          go_roundw
          case rel => exact ⟨j + 1, by omega, by go_num, by rw [HS'], hb⟩
          case measure => simp [intOf]; omega
      · go_wp2
        go_ret
        have hj4 : j = 4 := by omega
        exact ⟨by rw [V.out, HO.out, hj4]; rfl, hb⟩
end Go.Proofs.Ytoldmgpdcenmhaa
