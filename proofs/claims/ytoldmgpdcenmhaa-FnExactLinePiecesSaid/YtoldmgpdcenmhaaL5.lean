/- The walk of the law FnExactLinePieces. -/
import Derived.Test.YtoldmgpdcenmhaaLp3
import Derived.Test.YtoldmgpdcenmhaaL3
namespace Go.Proofs.Ytoldmgpdcenmhaa
open Go.RowKit
set_option linter.unusedVariables false
set_option linter.unusedSimpArgs false
set_option maxHeartbeats 400000
set_option maxRecDepth 100000
/-- A list of cells in memory, with its room. -/
def CV (w : World) (v : Value) (l : List Ce) : Prop := ∃ a cap, v = .slice a l.length cap ∧ CesAt w.heap.size w a l ∧ l.length ≤ cap
theorem own_cv {w : World} {base e : Nat} {v : Value} {l : List Ce} (h : w.ownsRow base e 2 v l.length (flat Ce.cells l)) : CV w v l := by
  obtain ⟨a, cap, rfl, h, h1, -⟩ := own_at h
  exact ⟨a, cap, rfl, h, h1⟩
theorem specLinePieces_cv {cs : List Ce} (hok : CesOk cs) (side out : Int) {w : World} {v : Value} (h : CV w v cs) (hn : cs.length ≤ 10000000) :
    Calls Try.prog 17 #[v, .int .i64 side, .int .i64 out] w fun e w' => ∃ v, e = .returned (.tuple #[v, .int .i64 (lpCode cs side out)]) ∧
      w'.ownsRow w.heap.size 78 5 v (lpList cs side out).length (flat Pc.cells (lpList cs side out)) ∧ Below w.heap.size w w' := by
  obtain ⟨a, cap, rfl, h1, h2⟩ := h
  exact specLinePieces_any a cap cs side out w h1 hok (Nat.le_refl _) h2 hn
theorem linePieces_cv {cs : List Ce} (hok : CesOk cs) (side out : Int) {w : World} {v : Value} (h : CV w v cs) (hn : cs.length ≤ 10000000) :
    Calls Try.prog 19 #[v, .int .i64 side, .int .i64 out] w fun e w' => ∃ v, e = .returned (.tuple #[v, .int .i64 (lpCode cs side out)]) ∧
      w'.ownsRow w.heap.size 78 5 v (lpList cs side out).length (flat Pc.cells (lpList cs side out)) ∧ Below w.heap.size w w' := by
  obtain ⟨a, cap, rfl, h1, h2⟩ := h
  exact linePieces_any a cap cs side out w h1 hok (Nat.le_refl _) h2 hn
theorem lawLinePieces_any (a : Option Addr) (cap : Nat) (cs : List Ce) (side out : Int) (w : World) (hcs : CesAt w.heap.size w a cs) (hok : CesOk cs) (hl : cs.length ≤ 9223372036854775807) :
    Calls Try.prog 4 #[.slice a cs.length cap, .int .i64 side, .int .i64 out] w fun e w' => e = .returned (.bool true) ∧ Below w.heap.size w w' := by
  by_cases hn : cs.length ≤ 1048576
  · have Hs := Lib.hid (show szv cs.length 1048576 = 1048576 - cs.length by unfold szv; rw [if_neg (by omega)])
    have A0 : RV Ce.cells w (.slice a cs.length cap) cs := ⟨a, cap, rfl, hcs⟩
    have hln := lpList_len cs side out
    obtain ⟨fl, hfl⟩ : ∃ fl, fl = lpList cs side out := ⟨_, rfl⟩
    obtain ⟨fc, hfc⟩ : ∃ fc, fc = lpCode cs side out := ⟨_, rfl⟩
    have CS := fun s w' (h : CV w' s cs) => specLinePieces_cv hok side out h (by omega)
    have CI := fun s w' (h : CV w' s cs) => linePieces_cv hok side out h (by omega)
    rw [← hfl, ← hfc] at CS CI
    rw [← hfl] at hln
    have CS := Lib.hid CS
    have CI := Lib.hid CI
    clear hfl hfc
    go_enter Try.func4, Try.ntmps4
    go_wp2_with fail
    refine (szCellS_any a _ cap _ _ (by omega) (by omega) (by omega)).mono ?_
    rintro e w' ⟨rfl, rfl⟩
    rw [Hs.out]
    go_wp2_with fail
    refine (toCellS_rv A0 (by omega)).mono ?_
    rintro e w1 ⟨vt, rfl, Ot1, b1⟩
    have AP1 := A0.step b1
    have B1 := b1
    go_wp2_with fail
    refine (CS.out _ _ (own_cv Ot1)).mono ?_
    rintro e w2 ⟨vw, rfl, Ow2, b2⟩
    have AP2 := AP1.step b2
    have Ntw := own_apart Ot1 Ow2 (by first | exact Nat.le_refl _ | simp)
    have Nwt := own_apart' Ot1 Ow2 (by first | exact Nat.le_refl _ | simp)
    have Ot2 := own_below Ot1 b2 (Nat.le_refl _)
    have B2 := bl_trans B1 b2
    go_wp2_with fail
    refine (toCellS_rv AP2 (by omega)).mono ?_
    rintro e w3 ⟨vx, rfl, Ox3, b3⟩
    have AP3 := AP2.step b3
    have Nwx := own_apart Ow2 Ox3 (by first | exact Nat.le_refl _ | simp)
    have Nxw := own_apart' Ow2 Ox3 (by first | exact Nat.le_refl _ | simp)
    have Ow3 := own_below Ow2 b3 (Nat.le_refl _)
    have B3 := bl_trans B2 b3
    go_wp2_with fail
    refine (CI.out _ _ (own_cv Ox3)).mono ?_
    rintro e w4 ⟨vg, rfl, Og4, b4⟩
    have AP4 := AP3.step b4
    have Nwg := own_apart Ow3 Og4 (by first | exact Nat.le_refl _ | simp)
    have Ngw := own_apart' Ow3 Og4 (by first | exact Nat.le_refl _ | simp)
    have Nxg := own_apart Ox3 Og4 (by first | exact Nat.le_refl _ | simp)
    have Ngx := own_apart' Ox3 Og4 (by first | exact Nat.le_refl _ | simp)
    have Ow4 := own_below Ow3 b4 (Nat.le_refl _)
    have Ox4 := own_below Ox3 b4 (Nat.le_refl _)
    have B4 := bl_trans B3 b4
    go_wp2_with fail
    refine (eqPieceS_yes (own_pv Og4) (own_pv Ow4) (by omega)).mono ?_
    rintro e w5 ⟨rfl, b5⟩
    have AP5 := AP4.step b5
    have Ow5 := own_below Ow4 b5 (Nat.le_refl _)
    have Ox5 := own_below Ox4 b5 (Nat.le_refl _)
    have Og5 := own_below Og4 b5 (Nat.le_refl _)
    have B5 := bl_trans B4 b5
    go_wp2_with fail
    refine (toCellS_rv AP5 (by omega)).mono ?_
    rintro e w6 ⟨vy, rfl, Oy6, b6⟩
    have AP6 := AP5.step b6
    have Nwy := own_apart Ow5 Oy6 (by first | exact Nat.le_refl _ | simp)
    have Nyw := own_apart' Ow5 Oy6 (by first | exact Nat.le_refl _ | simp)
    have Nxy := own_apart Ox5 Oy6 (by first | exact Nat.le_refl _ | simp)
    have Nyx := own_apart' Ox5 Oy6 (by first | exact Nat.le_refl _ | simp)
    have Ngy := own_apart Og5 Oy6 (by first | exact Nat.le_refl _ | simp)
    have Nyg := own_apart' Og5 Oy6 (by first | exact Nat.le_refl _ | simp)
    have Ow6 := own_below Ow5 b6 (Nat.le_refl _)
    have Ox6 := own_below Ox5 b6 (Nat.le_refl _)
    have Og6 := own_below Og5 b6 (Nat.le_refl _)
    have B6 := bl_trans B5 b6
    go_wp2_with fail
    refine (eqCellS_yes (own_rv Ox6) (own_rv Oy6) (by omega)).mono ?_
    rintro e w7 ⟨rfl, b7⟩
    have AP7 := AP6.step b7
    have Ow7 := own_below Ow6 b7 (Nat.le_refl _)
    have Ox7 := own_below Ox6 b7 (Nat.le_refl _)
    have Og7 := own_below Og6 b7 (Nat.le_refl _)
    have Oy7 := own_below Oy6 b7 (Nat.le_refl _)
    have B7 := bl_trans B6 b7
    go_wp2_with fail
    refine (markCellS_any 1 _ Ox7 (by omega) (by omega) (by omega)).mono ?_
    rintro e w8 ⟨rfl, Mx8, g8⟩
    have Ow8 := own_kept Ow7 g8 Nwx
    have Og8 := own_kept Og7 g8 Ngx
    have B8 := bl_grown B7 g8 (fun k hk => by have h1 := B2.size; have h2 := (Ox7.lt k hk).1; (try simp only [World.size_alloc] at h2); omega)
    have AP8 := A0.step B8
    go_wp2_with fail
    refine (eqPieceS_yes (own_pv Og8) (own_pv Ow8) (by omega)).mono ?_
    rintro e w9 ⟨rfl, b9⟩
    have AP9 := AP8.step b9
    have Ow9 := own_below Ow8 b9 (Nat.le_refl _)
    have Og9 := own_below Og8 b9 (Nat.le_refl _)
    have B9 := bl_trans B8 b9
    go_wp2_with fail
    refine (markPieceS_any 1 _ Og9 (by omega) (by omega) (by omega)).mono ?_
    rintro e w10 ⟨rfl, Mg10, g10⟩
    have Ow10 := own_kept Ow9 g10 Nwg
    have B10 := bl_grown B9 g10 (fun k hk => by have h1 := B3.size; have h2 := (Og9.lt k hk).1; (try simp only [World.size_alloc] at h2); omega)
    have AP10 := A0.step B10
    go_wp2_with fail
    refine (heldPieceS_own 1 Mg10 (by omega) (by omega) (by omega)).mono ?_
    rintro e w' ⟨rfl, rfl⟩
    go_wp2_with fail
    refine (toCellS_rv AP10 (by omega)).mono ?_
    rintro e w11 ⟨vz, rfl, Oz11, b11⟩
    have AP11 := AP10.step b11
    have Nwz := own_apart Ow10 Oz11 (by first | exact Nat.le_refl _ | simp)
    have Nzw := own_apart' Ow10 Oz11 (by first | exact Nat.le_refl _ | simp)
    have Ngz := own_apart Mg10 Oz11 (by first | exact Nat.le_refl _ | simp)
    have Nzg := own_apart' Mg10 Oz11 (by first | exact Nat.le_refl _ | simp)
    have Ow11 := own_below Ow10 b11 (Nat.le_refl _)
    have Og11 := own_below Mg10 b11 (Nat.le_refl _)
    have B11 := bl_trans B10 b11
    go_wp2_with fail
    refine (CI.out _ _ (own_cv Oz11)).mono ?_
    rintro e w12 ⟨vh, rfl, Oh12, b12⟩
    have AP12 := AP11.step b12
    have Nwh := own_apart Ow11 Oh12 (by first | exact Nat.le_refl _ | simp)
    have Nhw := own_apart' Ow11 Oh12 (by first | exact Nat.le_refl _ | simp)
    have Ngh := own_apart Og11 Oh12 (by first | exact Nat.le_refl _ | simp)
    have Nhg := own_apart' Og11 Oh12 (by first | exact Nat.le_refl _ | simp)
    have Nzh := own_apart Oz11 Oh12 (by first | exact Nat.le_refl _ | simp)
    have Nhz := own_apart' Oz11 Oh12 (by first | exact Nat.le_refl _ | simp)
    have Ow12 := own_below Ow11 b12 (Nat.le_refl _)
    have Og12 := own_below Og11 b12 (Nat.le_refl _)
    have Oz12 := own_below Oz11 b12 (Nat.le_refl _)
    have B12 := bl_trans B11 b12
    go_wp2_with fail
    refine (eqPieceS_yes (own_pv Oh12) (own_pv Ow12) (by omega)).mono ?_
    rintro e w13 ⟨rfl, b13⟩
    have AP13 := AP12.step b13
    have Ow13 := own_below Ow12 b13 (Nat.le_refl _)
    have Og13 := own_below Og12 b13 (Nat.le_refl _)
    have Oz13 := own_below Oz12 b13 (Nat.le_refl _)
    have Oh13 := own_below Oh12 b13 (Nat.le_refl _)
    have B13 := bl_trans B12 b13
    go_wp2_with fail
    refine (heldPieceS_own 1 Og13 (by omega) (by omega) (by omega)).mono ?_
    rintro e w' ⟨rfl, rfl⟩
    go_wp2
    go_ret
    exact ⟨rfl, B13⟩
  · have Hs := Lib.hid (show szv cs.length 1048576 = -1 by unfold szv; rw [if_pos (by omega)])
    go_enter Try.func4, Try.ntmps4
    go_wp2_with fail
    refine (szCellS_any a _ cap _ _ (by omega) (by omega) (by omega)).mono ?_
    rintro e w' ⟨rfl, rfl⟩
    rw [Hs.out]
    go_wp2
    go_ret
    exact ⟨rfl, (by repeat (first | with_reducible exact Below.refl _ _ | with_reducible assumption | with_reducible apply bl_drewN | with_reducible apply bl_drew | with_reducible apply bl_alloc | (with_reducible refine bl_set ?_ (by first | (simp; done) | (simp; omega)) _) | with_reducible refine bl_trans ?_ (by with_reducible assumption)))⟩
end Go.Proofs.Ytoldmgpdcenmhaa
