/- The statements CornersIn and SlowLine, walked. -/
import Derived.Test.YtdifikijckebkaaC5
namespace Go.Proofs.Ytdifikijckebkaa
open Go.RowKit
set_option linter.unusedVariables false
set_option linter.unusedSimpArgs false
set_option maxHeartbeats 400000

/-- A value that reads as a list of pieces. -/
def PV (w : World) (v : Value) (l : List Pc) : Prop := ∃ a cap, v = .slice a l.length cap ∧ PcsAt w.heap.size w a l
theorem PV.step {w w' : World} {v : Value} {l : List Pc} (h : PV w v l) (hb : Below w.heap.size w w') : PV w' v l := by
  obtain ⟨a, cap, rfl, h⟩ := h
  exact ⟨a, cap, rfl, (h.below hb (Nat.le_refl _)).mono hb.size⟩
theorem own_pv {w : World} {base e : Nat} {v : Value} {l : List Pc} (h : w.ownsRow base e 5 v l.length (flat Pc.cells l)) : PV w v l := by
  obtain ⟨a, cap, rfl, h, -⟩ := own_at h
  exact ⟨a, cap, rfl, h⟩
/-- Two rows of which one is younger. -/
theorem own_apart {w w' : World} {base base' e e' s s' n n' : Nat} {v v' : Value} {xs xs' : List Value} (h : w.ownsRow base e s v n xs) (h' : w'.ownsRow base' e' s' v' n' xs') (hb : w.heap.size ≤ base') : ∀ k, v.ownBlock = some k → some k ≠ v'.ownBlock := by
  intro k hk e
  have h1 := (h.lt k hk).2
  have h2 := (h'.lt k e.symm).1
  omega
theorem own_apart' {w w' : World} {base base' e e' s s' n n' : Nat} {v v' : Value} {xs xs' : List Value} (h : w.ownsRow base e s v n xs) (h' : w'.ownsRow base' e' s' v' n' xs') (hb : w.heap.size ≤ base') : ∀ k, v'.ownBlock = some k → some k ≠ v.ownBlock := by
  intro k hk e
  have h1 := (h.lt k e.symm).2
  have h2 := (h'.lt k hk).1
  omega

theorem eqPieceS_pv {w : World} {v v' : Value} {ps qs : List Pc} (h : PV w v ps) (h' : PV w v' qs) (hn : ps.length ≤ 10000000) (hn' : qs.length ≤ 10000000) :
    Calls Try.prog 12 #[v, v'] w fun e w' => e = .returned (.bool (decide (ps = qs))) ∧ Below w.heap.size w w' := by
  obtain ⟨a, cap, rfl, h⟩ := h
  obtain ⟨a', cap', rfl, h'⟩ := h'
  exact eqPieceS_any a a' cap cap' ps qs w h h' (Nat.le_refl _) hn hn'
theorem eqPieceS_yes {w : World} {v v' : Value} {ps : List Pc} (h : PV w v ps) (h' : PV w v' ps) (hn : ps.length ≤ 10000000) :
    Calls Try.prog 12 #[v, v'] w fun e w' => e = .returned (.bool true) ∧ Below w.heap.size w w' := by
  have := eqPieceS_pv h h' hn hn
  simpa using this
theorem toPieceS_pv {w : World} {v : Value} {ps : List Pc} (h : PV w v ps) (hn : ps.length ≤ 10000000) :
    Calls Try.prog 10 #[v] w fun e w' => ∃ v', e = .returned v' ∧ w'.ownsRow w.heap.size 60 5 v' ps.length (flat Pc.cells ps) ∧ Below w.heap.size w w' := by
  obtain ⟨a, cap, rfl, h⟩ := h
  exact toPieceS_any a cap ps w h (Nat.le_refl _) hn
theorem heldPieceS_own {w : World} {base n : Nat} {v : Value} (k0 : Int) (h : w.ownsRow base 60 5 v n (flat Pc.cells (mkPc k0 n))) (hn : n ≤ 10000000) (h1 : 0 ≤ k0) (h2 : k0 ≤ 1000000000) :
    Calls Try.prog 24 #[v, .int .i64 k0] w fun e w' => e = .returned (.int .i64 (k0 + 5 * n)) ∧ w = w' := by
  obtain ⟨a, cap, rfl, h, -⟩ := own_at h
  exact heldPieceS_any a n cap k0 w h hn h1 h2

theorem slowList_length (ps : List Pc) (d : Int) : (slowList ps d).length ≤ ps.length := by
  unfold slowList slowL
  repeat' split
  all_goals first | (rw [slowed_length]; exact Nat.le_refl _) | exact Nat.zero_le _
theorem specSlowLine_pv {w : World} {v : Value} {ps : List Pc} (h : PV w v ps) (hok : PcsOk ps) (hn : ps.length ≤ 10000000) (d : Int) :
    Calls Try.prog 21 #[v, .int .i64 d] w fun e w' => ∃ v, e = .returned (.tuple #[v, .int .i64 (slowCode ps d)]) ∧
      w'.ownsRow w.heap.size 60 5 v (slowList ps d).length (flat Pc.cells (slowList ps d)) ∧ Below w.heap.size w w' := by
  obtain ⟨a, cap, rfl, h⟩ := h
  exact specSlowLine_any a cap ps d w h hok (Nat.le_refl _) hn
theorem slowLine_pv {w : World} {v : Value} {ps : List Pc} (h : PV w v ps) (hok : PcsOk ps) (hn : ps.length ≤ 10000000) (d : Int) :
    Calls Try.prog 22 #[v, .int .i64 d] w fun e w' => ∃ v, e = .returned (.tuple #[v, .int .i64 (slowCode ps d)]) ∧
      w'.ownsRow w.heap.size 60 5 v (slowList ps d).length (flat Pc.cells (slowList ps d)) ∧ Below w.heap.size w w' := by
  obtain ⟨a, cap, rfl, h⟩ := h
  exact slowLine_any a cap ps d w h hok (Nat.le_refl _) hn

theorem lawSlowLine_any (a : Option Addr) (cap : Nat) (ps : List Pc) (d : Int) (w : World) (hps : PcsAt w.heap.size w a ps) (hok : PcsOk ps) (hl : ps.length ≤ 9223372036854775807) :
    Calls Try.prog 6 #[.slice a ps.length cap, .int .i64 d] w fun e w' => e = .returned (.bool true) ∧ Below w.heap.size w w' := by
  by_cases hn : ps.length ≤ 1048576
  · have Hs := Lib.hid (show szv ps.length 1048576 = 1048576 - ps.length by unfold szv; rw [if_neg (by omega)])
    have A0 : PV w (.slice a ps.length cap) ps := ⟨a, cap, rfl, hps⟩
    have hL := slowList_length ps d
    go_enter Try.func6, Try.ntmps6
    go_wp2_with fail
    refine (szPieceS_any a _ cap _ _ (by omega) (by omega) (by omega)).mono ?_
    rintro e w' ⟨rfl, rfl⟩
    rw [Hs.out]
    go_wp2_with fail
    refine (toPieceS_pv A0 (by omega)).mono ?_
    rintro e w1 ⟨vt, rfl, Ot1, b1⟩
    have AP1 := A0.step b1
    have B1 := b1
    go_wp2_with fail
    refine (specSlowLine_pv (own_pv Ot1) hok (by omega) d).mono ?_
    rintro e w2 ⟨vw, rfl, Ow2, b2⟩
    have AP2 := AP1.step b2
    have Ntw := own_apart Ot1 Ow2 (Nat.le_refl _)
    have Nwt := own_apart' Ot1 Ow2 (Nat.le_refl _)
    have Ot2 := own_below Ot1 b2 (Nat.le_refl _)
    have B2 := bl_trans B1 b2
    go_wp2_with fail
    refine (toPieceS_pv AP2 (by omega)).mono ?_
    rintro e w3 ⟨vx, rfl, Ox3, b3⟩
    have AP3 := AP2.step b3
    have Nwx := own_apart Ow2 Ox3 (Nat.le_refl _)
    have Nxw := own_apart' Ow2 Ox3 (Nat.le_refl _)
    have Ow3 := own_below Ow2 b3 (Nat.le_refl _)
    have B3 := bl_trans B2 b3
    go_wp2_with fail
    refine (slowLine_pv (own_pv Ox3) hok (by omega) d).mono ?_
    rintro e w4 ⟨vg, rfl, Og4, b4⟩
    have AP4 := AP3.step b4
    have Nwg := own_apart Ow3 Og4 (Nat.le_refl _)
    have Ngw := own_apart' Ow3 Og4 (Nat.le_refl _)
    have Nxg := own_apart Ox3 Og4 (Nat.le_refl _)
    have Ngx := own_apart' Ox3 Og4 (Nat.le_refl _)
    have Ow4 := own_below Ow3 b4 (Nat.le_refl _)
    have Ox4 := own_below Ox3 b4 (Nat.le_refl _)
    have B4 := bl_trans B3 b4
    go_wp2_with fail
    refine (eqPieceS_yes (own_pv Og4) (own_pv Ow4) (by omega)).mono ?_
    rintro e w5 ⟨rfl, b5⟩
    have AP5 := AP4.step b5
    have Ow5 := own_below Ow4 b5 (Nat.le_refl _)
    have Ox5 := own_below Ox4 b5 (Nat.le_refl _)
    have Og5 := own_below Og4 b5 (Nat.le_refl _)
    have B5 := bl_trans B4 b5
    go_wp2_with fail
    refine (toPieceS_pv AP5 (by omega)).mono ?_
    rintro e w6 ⟨vy, rfl, Oy6, b6⟩
    have AP6 := AP5.step b6
    have Nwy := own_apart Ow5 Oy6 (Nat.le_refl _)
    have Nyw := own_apart' Ow5 Oy6 (Nat.le_refl _)
    have Nxy := own_apart Ox5 Oy6 (Nat.le_refl _)
    have Nyx := own_apart' Ox5 Oy6 (Nat.le_refl _)
    have Ngy := own_apart Og5 Oy6 (Nat.le_refl _)
    have Nyg := own_apart' Og5 Oy6 (Nat.le_refl _)
    have Ow6 := own_below Ow5 b6 (Nat.le_refl _)
    have Ox6 := own_below Ox5 b6 (Nat.le_refl _)
    have Og6 := own_below Og5 b6 (Nat.le_refl _)
    have B6 := bl_trans B5 b6
    go_wp2_with fail
    refine (eqPieceS_yes (own_pv Ox6) (own_pv Oy6) (by omega)).mono ?_
    rintro e w7 ⟨rfl, b7⟩
    have AP7 := AP6.step b7
    have Ow7 := own_below Ow6 b7 (Nat.le_refl _)
    have Ox7 := own_below Ox6 b7 (Nat.le_refl _)
    have Og7 := own_below Og6 b7 (Nat.le_refl _)
    have Oy7 := own_below Oy6 b7 (Nat.le_refl _)
    have B7 := bl_trans B6 b7
    go_wp2_with fail
    refine (markPieceS_any 1 _ Ox7 (by omega) (by omega) (by omega)).mono ?_
    rintro e w8 ⟨rfl, Mx8, g8⟩
    have Ow8 := own_kept Ow7 g8 Nwx
    have Og8 := own_kept Og7 g8 Ngx
    have B8 := bl_grown B7 g8 (fun k hk => Nat.le_trans B2.size ((Ox7.lt k hk).1))
    have AP8 := A0.step B8
    go_wp2_with fail
    refine (eqPieceS_yes (own_pv Og8) (own_pv Ow8) (by omega)).mono ?_
    rintro e w9 ⟨rfl, b9⟩
    have AP9 := AP8.step b9
    have Ow9 := own_below Ow8 b9 (Nat.le_refl _)
    have Og9 := own_below Og8 b9 (Nat.le_refl _)
    have B9 := bl_trans B8 b9
    go_wp2_with fail
    refine (markPieceS_any 1 _ Og9 (by omega) (by omega) (by omega)).mono ?_
    rintro e w10 ⟨rfl, Mg10, g10⟩
    have Ow10 := own_kept Ow9 g10 Nwg
    have B10 := bl_grown B9 g10 (fun k hk => Nat.le_trans B3.size ((Og9.lt k hk).1))
    have AP10 := A0.step B10
    go_wp2_with fail
    refine (heldPieceS_own 1 Mg10 (by omega) (by omega) (by omega)).mono ?_
    rintro e w' ⟨rfl, rfl⟩
    go_wp2_with fail
    refine (toPieceS_pv AP10 (by omega)).mono ?_
    rintro e w11 ⟨vz, rfl, Oz11, b11⟩
    have AP11 := AP10.step b11
    have Nwz := own_apart Ow10 Oz11 (Nat.le_refl _)
    have Nzw := own_apart' Ow10 Oz11 (Nat.le_refl _)
    have Ngz := own_apart Mg10 Oz11 (Nat.le_refl _)
    have Nzg := own_apart' Mg10 Oz11 (Nat.le_refl _)
    have Ow11 := own_below Ow10 b11 (Nat.le_refl _)
    have Og11 := own_below Mg10 b11 (Nat.le_refl _)
    have B11 := bl_trans B10 b11
    go_wp2_with fail
    refine (slowLine_pv (own_pv Oz11) hok (by omega) d).mono ?_
    rintro e w12 ⟨vh, rfl, Oh12, b12⟩
    have AP12 := AP11.step b12
    have Nwh := own_apart Ow11 Oh12 (Nat.le_refl _)
    have Nhw := own_apart' Ow11 Oh12 (Nat.le_refl _)
    have Ngh := own_apart Og11 Oh12 (Nat.le_refl _)
    have Nhg := own_apart' Og11 Oh12 (Nat.le_refl _)
    have Nzh := own_apart Oz11 Oh12 (Nat.le_refl _)
    have Nhz := own_apart' Oz11 Oh12 (Nat.le_refl _)
    have Ow12 := own_below Ow11 b12 (Nat.le_refl _)
    have Og12 := own_below Og11 b12 (Nat.le_refl _)
    have Oz12 := own_below Oz11 b12 (Nat.le_refl _)
    have B12 := bl_trans B11 b12
    go_wp2_with fail
    refine (eqPieceS_yes (own_pv Oh12) (own_pv Ow12) (by omega)).mono ?_
    rintro e w13 ⟨rfl, b13⟩
    have AP13 := AP12.step b13
    have Ow13 := own_below Ow12 b13 (Nat.le_refl _)
    have Og13 := own_below Og12 b13 (Nat.le_refl _)
    have Oz13 := own_below Oz12 b13 (Nat.le_refl _)
    have Oh13 := own_below Oh12 b13 (Nat.le_refl _)
    have B13 := bl_trans B12 b13
    go_wp2_with fail
    refine (heldPieceS_own 1 Og13 (by omega) (by omega) (by omega)).mono ?_
    rintro e w' ⟨rfl, rfl⟩
    go_wp2
    go_ret
    exact ⟨rfl, B13⟩
  · have Hs := Lib.hid (show szv ps.length 1048576 = -1 by unfold szv; rw [if_pos (by omega)])
    go_enter Try.func6, Try.ntmps6
    go_wp2_with fail
    refine (szPieceS_any a _ cap _ _ (by omega) (by omega) (by omega)).mono ?_
    rintro e w' ⟨rfl, rfl⟩
    rw [Hs.out]
    go_wp2
    go_ret
    exact ⟨rfl, Below.refl _ _⟩
theorem lawCornersIn_any (a : Option Addr) (cap : Nat) (ps : List Pc) (w : World) (hps : PcsAt w.heap.size w a ps) (hok : PcsOk ps) (hl : ps.length ≤ 9223372036854775807) :
    Calls Try.prog 4 #[.slice a ps.length cap] w fun e w' => e = .returned (.bool true) ∧ Below w.heap.size w w' := by
  by_cases hn : ps.length ≤ 1048576
  · have hs : szv ps.length 1048576 = 1048576 - ps.length := by unfold szv; rw [if_neg (by omega)]
    have Hs := Lib.hid hs; clear hs
    go_enter Try.func4, Try.ntmps4
    go_wp2_with fail
    refine (szPieceS_any a _ cap _ _ (by omega) (by omega) (by omega)).mono ?_
    rintro e w' ⟨rfl, rfl⟩
    rw [Hs.out]
    go_wp2_with fail
    refine (toPieceS_any a cap ps _ hps (Nat.le_refl _) (by omega)).mono ?_
    rintro e w1 ⟨v1, rfl, hown1, hb1⟩
    obtain ⟨a1, cap1, rfl, hsl1, -, -⟩ := own_at hown1
    go_wp2_with fail
    refine (specCornersIn_any a1 cap1 ps _ hsl1 hok (Nat.le_refl _) (by omega)).mono ?_
    rintro e w2 ⟨rfl, hb2⟩
    have B2 := bl_trans hb1 hb2
    go_wp2_with fail
    refine (toPieceS_any a cap ps _ (hps.below B2 (Nat.le_refl _)) B2.size (by omega)).mono ?_
    rintro e w3 ⟨v3, rfl, hown3, hb3⟩
    have B3 := bl_trans B2 hb3
    obtain ⟨a3, cap3, rfl, hsl3, -, -⟩ := own_at hown3
    go_wp2_with fail
    refine (cornersIn_any a3 cap3 ps _ hsl3 hok (Nat.le_refl _) (by omega)).mono ?_
    rintro e w4 ⟨rfl, hb4⟩
    have B4 := bl_trans B3 hb4
    go_wp2_with fail
    refine (toPieceS_any a cap ps _ (hps.below B4 (Nat.le_refl _)) B4.size (by omega)).mono ?_
    rintro e w5 ⟨v5, rfl, hown5, hb5⟩
    have B5 := bl_trans B4 hb5
    obtain ⟨a5, cap5, rfl, hsl5, -, -⟩ := own_at hown5
    have hz4 := hb4.size
    have hz5 := hb5.size
    go_wp2_with fail
    refine (eqPieceS_any a3 a5 cap3 cap5 ps ps _ (((hsl3.below hb4 (Nat.le_refl _)).below hb5 hz4).mono (B' := w5.heap.size) (by omega)) hsl5 (Nat.le_refl _) (by omega) (by omega)).mono ?_
    rintro e w6 ⟨rfl, hb6⟩
    have B6 := bl_trans B5 hb6
    have ht : decide (ps = ps) = true := by simp
    rw [ht]
    go_wp2
    go_ret
    exact ⟨rfl, B6⟩
  · have hs : szv ps.length 1048576 = -1 := by unfold szv; rw [if_pos (by omega)]
    have Hs := Lib.hid hs; clear hs
    go_enter Try.func4, Try.ntmps4
    go_wp2_with fail
    refine (szPieceS_any a _ cap _ _ (by omega) (by omega) (by omega)).mono ?_
    rintro e w' ⟨rfl, rfl⟩
    rw [Hs.out]
    go_wp2
    go_ret
    exact ⟨rfl, Below.refl _ _⟩
end Go.Proofs.Ytdifikijckebkaa
