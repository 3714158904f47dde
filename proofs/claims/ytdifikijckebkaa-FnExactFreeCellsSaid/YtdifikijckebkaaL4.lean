/- The walk of the law FnExactFreeCells. -/
import Derived.Test.YtdifikijckebkaaC12
import Derived.Test.YtdifikijckebkaaL3
namespace Go.Proofs.Ytdifikijckebkaa
open Go.RowKit
set_option linter.unusedVariables false
set_option linter.unusedSimpArgs false
set_option maxHeartbeats 400000

/-- A block's first cells. -/
abbrev BX3 (w : World) (b : Nat) (v0 v1 v2 : Value) : Prop := b < w.heap.size ∧ w.cell? ⟨b, 0, none⟩ = some v0 ∧ w.cell? ⟨b, 1, none⟩ = some v1 ∧ w.cell? ⟨b, 2, none⟩ = some v2
theorem BX3.step {w w' : World} {b : Nat} {v0 v1 v2 : Value} (h : BX3 w b v0 v1 v2) (hb : Below w.heap.size w w') : BX3 w' b v0 v1 v2 := by
  obtain ⟨h1, h2⟩ := h
  refine ⟨Nat.lt_of_lt_of_le h1 hb.size, ?_⟩
  simp only [hb.cell (p := ⟨b, _, none⟩) h1]
  exact h2
theorem BX3.new (w : World) (v0 v1 v2 : Value) (T : TypeId) : BX3 (w.alloc (.cells #[v0, v1, v2] T)) w.heap.size v0 v1 v2 := by
  have hh := heap_alloc_new w (.cells #[v0, v1, v2] T)
  refine ⟨by simp, ?_, ?_, ?_⟩ <;> (rw [cell_of_row _ _ _ _ _ _ hh]; rfl)

theorem markBoard_any {base n : Nat} {wd hg : Int} {v : Value} {cs : List Value} (k0 : Int) (w : World) (hown : w.ownsRow base 60 5 v n cs) (hn : n ≤ 10000000) (h1 : 0 ≤ k0) (h2 : k0 ≤ 1000000000) :
    Calls Try.prog 28 #[bdv wd hg v, .int .i64 k0] w fun e w' => e = .returned (.int .i64 (k0 + 5 * n)) ∧ w'.ownsRow base 60 5 v n (flat Pc.cells (mkPc k0 n)) ∧ w.grownBy w' v.ownBlock := by
  have g0 : w.grownBy (w.alloc (.cells #[.int .i8 wd, .int .i8 hg, v] 39)) v.ownBlock := ⟨rfl, rfl, rfl, by simp, fun k hk _ => Below.heap_alloc w _ k hk⟩
  have h3 := own_kept hown g0
  have H := Lib.hid (markPieceS_any k0 (w.alloc (.cells #[.int .i8 wd, .int .i8 hg, v] 39)) (own_below hown (bl_alloc (Below.refl _ _)) (Nat.le_refl _)) hn h1 h2)
  clear h3
  go_enter Try.func28, Try.ntmps28
  go_wp2_with fail
  refine H.out.mono ?_
  rintro e w1 ⟨rfl, ho, hg⟩
  go_wp2
  go_ret
  exact ⟨rfl, ho, grown_trans g0 hg⟩
set_option maxRecDepth 100000 in
theorem lawFreeCells_any (wd hg : Int) (a : Option Addr) (cap : Nat) (ps : List Pc) (w : World) (hps : PcsAt w.heap.size w a ps) (hok : (Bd.mk wd hg ps).ok) (hl : ps.length ≤ 9223372036854775807) :
    Calls Try.prog 7 #[bdv wd hg (.slice a ps.length cap)] w fun e w' => e = .returned (.bool true) ∧ Below w.heap.size w w' := by
  by_cases hn : ps.length ≤ 1048576
  · have Hs := Lib.hid (show szv ps.length 1048576 = 1048576 - ps.length by unfold szv; rw [if_neg (by omega)])
    have P0 : PV w (.slice a ps.length cap) ps := ⟨a, cap, rfl, hps⟩
    have X0 := BX3.new w (.int .i8 wd) (.int .i8 hg) (.slice a ps.length cap) 32
    have hln := freeC_len ⟨wd, hg, ps⟩
    obtain ⟨fl, hfl⟩ : ∃ fl, fl = freeC ⟨wd, hg, ps⟩ := ⟨_, rfl⟩
    obtain ⟨fc, hfc⟩ : ∃ fc, fc = freeCode ⟨wd, hg, ps⟩ := ⟨_, rfl⟩
    have CS := fun s w' (h : PV w' s ps) => spec_FreeCells_any wd hg s ps w' h hok (by omega)
    have CI := fun s w' (h : PV w' s ps) => impl_FreeCells_any wd hg s ps w' h hok (by omega)
    rw [← hfl, ← hfc] at CS CI
    rw [← hfl] at hln
    have CS := Lib.hid CS
    have CI := Lib.hid CI
    clear hfl hfc
    go_enter Try.func7, Try.ntmps7
    go_wp2_with fail
    refine (szBoard_any wd hg a ps.length cap _ _ (by omega) (by omega) (by omega)).mono ?_
    rintro e u ⟨rfl, bu⟩
    rw [Hs.out]
    have A0 := (P0.step (bl_alloc (Below.refl _ _))).step bu
    have AX := X0.step bu
    have bu0 : Below w.heap.size w u := bl_trans (bl_alloc (Below.refl _ _)) bu
    go_wp2_with fail
    refine (toBoard_pv (b := ⟨wd, hg, ps⟩) ⟨_, rfl, A0⟩ (by simp; omega)).mono ?_
    rintro e w1 ⟨vt, rfl, Ot1, b1⟩
    have AP1 := A0.step b1
    have AX1 := AX.step b1
    have B1 := b1
    go_wp2_with fail
    refine (CS.out _ _ (own_pv Ot1)).mono ?_
    rintro e w2 ⟨vw, rfl, Ow2, b2⟩
    have AP2 := AP1.step b2
    have AX2 := AX1.step b2
    have Ntw := own_apart Ot1 Ow2 (by first | exact Nat.le_refl _ | simp)
    have Nwt := own_apart' Ot1 Ow2 (by first | exact Nat.le_refl _ | simp)
    have Ot2 := own_below Ot1 b2 (Nat.le_refl _)
    have B2 := bl_trans B1 b2
    go_wp2_with fail
    refine (toBoard_pv (b := ⟨wd, hg, ps⟩) ⟨_, rfl, AP2⟩ (by simp; omega)).mono ?_
    rintro e w3 ⟨vx, rfl, Ox3, b3⟩
    have AP3 := AP2.step b3
    have AX3 := AX2.step b3
    have Nwx := own_apart Ow2 Ox3 (by first | exact Nat.le_refl _ | simp)
    have Nxw := own_apart' Ow2 Ox3 (by first | exact Nat.le_refl _ | simp)
    have Ow3 := own_below Ow2 b3 (Nat.le_refl _)
    have B3 := bl_trans B2 b3
    obtain ⟨ax, capx, rfl, -⟩ := own_at Ox3
    go_wp2_with fail
    refine (CI.out _ _ (own_pv (own_below Ox3 (bl_alloc (Below.refl _ _)) (Nat.le_refl _)))).mono ?_
    rintro e w4 ⟨vg, rfl, Og4, c4⟩
    have b4 := bl_trans (bl_alloc (o := .cells #[.int .i8 wd, .int .i8 hg, .slice ax ps.length capx] 39) (Below.refl w3.heap.size w3)) c4
    have AY4 := (BX3.new w3 (.int .i8 wd) (.int .i8 hg) (.slice ax ps.length capx) 39).step c4
    have AP4 := AP3.step b4
    have AX4 := AX3.step b4
    have Nwg := own_apart Ow3 Og4 (by first | exact Nat.le_refl _ | simp)
    have Ngw := own_apart' Ow3 Og4 (by first | exact Nat.le_refl _ | simp)
    have Nxg := own_apart Ox3 Og4 (by first | exact Nat.le_refl _ | simp)
    have Ngx := own_apart' Ox3 Og4 (by first | exact Nat.le_refl _ | simp)
    have Ow4 := own_below Ow3 b4 (Nat.le_refl _)
    have Ox4 := own_below Ox3 b4 (Nat.le_refl _)
    have B4 := bl_trans B3 b4
    go_wp2_with fail
    refine (eqCellS_yes (own_rv Og4) (own_rv Ow4) (by omega)).mono ?_
    rintro e w5 ⟨rfl, b5⟩
    have AP5 := AP4.step b5
    have AX5 := AX4.step b5
    have AY5 := AY4.step b5
    have Ow5 := own_below Ow4 b5 (Nat.le_refl _)
    have Ox5 := own_below Ox4 b5 (Nat.le_refl _)
    have Og5 := own_below Og4 b5 (Nat.le_refl _)
    have B5 := bl_trans B4 b5
    go_upto_region 10 with fail
    have CK := Lib.hid (fun w' (h : Below w5.heap.size w5 w') => toBoard_pv (b := ⟨wd, hg, ps⟩) (w := w') ⟨_, rfl, AP5.step h⟩ (by simp; omega))
    have CL := Lib.hid (fun w' s' (h : Below w5.heap.size w5 w') (h' : PV w' s' ps) => eqBoard_yes (b := ⟨wd, hg, ps⟩) (w := w') ⟨_, rfl, (own_pv Ox5).step h⟩ ⟨s', rfl, h'⟩ (by simp; omega))
    go_region_held3 (fun w' => Below w5.heap.size w5 w' ∧ ∀ b o, b < w5.heap.size → w'.cell? ⟨b, o, none⟩ = w5.cell? ⟨b, o, none⟩) ((refine ext_s ?_; exact (by repeat (first | with_reducible exact Below.refl _ _ | with_reducible assumption | with_reducible apply bl_drewN | with_reducible apply bl_drew | with_reducible apply bl_alloc | (with_reducible refine bl_set ?_ (by first | (simp; done) | (simp; omega)) _) | with_reducible refine bl_trans ?_ (by with_reducible assumption))))) (first | (go_at_call 17; refine (CK.out _ ?_).mono ?_; (exact (by repeat (first | with_reducible exact Below.refl _ _ | with_reducible assumption | with_reducible apply bl_drewN | with_reducible apply bl_drew | with_reducible apply bl_alloc | (with_reducible refine bl_set ?_ (by first | (simp; done) | (simp; omega)) _) | with_reducible refine bl_trans ?_ (by with_reducible assumption)))); rintro e wa ⟨sa, rfl, Oa, ba⟩; obtain ⟨hca, hfa⟩ := bcell ba) | (go_at_call 20; refine (CL.out _ _ ?_ (own_pv Oa)).mono ?_; (exact (by repeat (first | with_reducible exact Below.refl _ _ | with_reducible assumption | with_reducible apply bl_drewN | with_reducible apply bl_drew | with_reducible apply bl_alloc | (with_reducible refine bl_set ?_ (by first | (simp; done) | (simp; omega)) _) | with_reducible refine bl_trans ?_ (by with_reducible assumption)))); rintro e w6 ⟨rfl, be⟩))
    have b6 : Below w5.heap.size w5 w6 := (by repeat (first | with_reducible exact Below.refl _ _ | with_reducible assumption | with_reducible apply bl_drewN | with_reducible apply bl_drew | with_reducible apply bl_alloc | (with_reducible refine bl_set ?_ (by first | (simp; done) | (simp; omega)) _) | with_reducible refine bl_trans ?_ (by with_reducible assumption)))
    have AP6 := AP5.step b6
    have AX6 := AX5.step b6
    have AY6 := AY5.step b6
    have Ow6 := own_below Ow5 b6 (Nat.le_refl _)
    have Ox6 := own_below Ox5 b6 (Nat.le_refl _)
    have Og6 := own_below Og5 b6 (Nat.le_refl _)
    have B6 := bl_trans B5 b6
    go_wp2_with fail
    refine (markBoard_any 1 _ Ox6 (by omega) (by omega) (by omega)).mono ?_
    rintro e w7 ⟨rfl, Mx7, g7⟩
    have Ow7 := own_kept Ow6 g7 Nwx
    have Og7 := own_kept Og6 g7 Ngx
    have B7 := bl_grown B6 g7 (fun k hk => by have h1 := B2.size; have h2 := (Ox6.lt k hk).1; (try simp only [World.size_alloc] at h2); omega)
    have AP7 := A0.step B7
    have AX7 := AX.step B7
    go_wp2_with fail
    refine (eqCellS_yes (own_rv Og7) (own_rv Ow7) (by omega)).mono ?_
    rintro e w8 ⟨rfl, b8⟩
    have AP8 := AP7.step b8
    have AX8 := AX7.step b8
    have Ow8 := own_below Ow7 b8 (Nat.le_refl _)
    have Og8 := own_below Og7 b8 (Nat.le_refl _)
    have B8 := bl_trans B7 b8
    go_wp2_with fail
    refine (markCellS_any 1 _ Og8 (by omega) (by omega) (by omega)).mono ?_
    rintro e w9 ⟨rfl, Mg9, g9⟩
    have Ow9 := own_kept Ow8 g9 Nwg
    have B9 := bl_grown B8 g9 (fun k hk => by have h1 := B3.size; have h2 := (Og8.lt k hk).1; (try simp only [World.size_alloc] at h2); omega)
    have AP9 := A0.step B9
    have AX9 := AX.step B9
    go_wp2_with fail
    refine (heldCellS_own 1 Mg9 (by omega) (by omega) (by omega)).mono ?_
    rintro e w' ⟨rfl, rfl⟩
    go_wp2_with fail
    refine (toBoard_pv (b := ⟨wd, hg, ps⟩) ⟨_, rfl, AP9⟩ (by simp; omega)).mono ?_
    rintro e w10 ⟨vz, rfl, Oz10, b10⟩
    have AP10 := AP9.step b10
    have AX10 := AX9.step b10
    have Nwz := own_apart Ow9 Oz10 (by first | exact Nat.le_refl _ | simp)
    have Nzw := own_apart' Ow9 Oz10 (by first | exact Nat.le_refl _ | simp)
    have Ngz := own_apart Mg9 Oz10 (by first | exact Nat.le_refl _ | simp)
    have Nzg := own_apart' Mg9 Oz10 (by first | exact Nat.le_refl _ | simp)
    have Ow10 := own_below Ow9 b10 (Nat.le_refl _)
    have Og10 := own_below Mg9 b10 (Nat.le_refl _)
    have B10 := bl_trans B9 b10
    go_wp2_with fail
    refine (CI.out _ _ (own_pv Oz10)).mono ?_
    rintro e w11 ⟨vh, rfl, Oh11, b11⟩
    have AP11 := AP10.step b11
    have AX11 := AX10.step b11
    have Nwh := own_apart Ow10 Oh11 (by first | exact Nat.le_refl _ | simp)
    have Nhw := own_apart' Ow10 Oh11 (by first | exact Nat.le_refl _ | simp)
    have Ngh := own_apart Og10 Oh11 (by first | exact Nat.le_refl _ | simp)
    have Nhg := own_apart' Og10 Oh11 (by first | exact Nat.le_refl _ | simp)
    have Nzh := own_apart Oz10 Oh11 (by first | exact Nat.le_refl _ | simp)
    have Nhz := own_apart' Oz10 Oh11 (by first | exact Nat.le_refl _ | simp)
    have Ow11 := own_below Ow10 b11 (Nat.le_refl _)
    have Og11 := own_below Og10 b11 (Nat.le_refl _)
    have Oz11 := own_below Oz10 b11 (Nat.le_refl _)
    have B11 := bl_trans B10 b11
    go_wp2_with fail
    refine (eqCellS_yes (own_rv Oh11) (own_rv Ow11) (by omega)).mono ?_
    rintro e w12 ⟨rfl, b12⟩
    have AP12 := AP11.step b12
    have AX12 := AX11.step b12
    have Ow12 := own_below Ow11 b12 (Nat.le_refl _)
    have Og12 := own_below Og11 b12 (Nat.le_refl _)
    have Oz12 := own_below Oz11 b12 (Nat.le_refl _)
    have Oh12 := own_below Oh11 b12 (Nat.le_refl _)
    have B12 := bl_trans B11 b12
    go_wp2_with fail
    refine (heldCellS_own 1 Og12 (by omega) (by omega) (by omega)).mono ?_
    rintro e w' ⟨rfl, rfl⟩
    go_wp2
    go_ret
    exact ⟨rfl, bl_trans bu0 B12⟩
  · have Hs := Lib.hid (show szv ps.length 1048576 = -1 by unfold szv; rw [if_pos (by omega)])
    go_enter Try.func7, Try.ntmps7
    go_wp2_with fail
    refine (szBoard_any wd hg a ps.length cap _ _ (by omega) (by omega) (by omega)).mono ?_
    rintro e w1 ⟨rfl, b1⟩
    rw [Hs.out]
    go_wp2
    go_ret
    exact ⟨rfl, (by repeat (first | with_reducible exact Below.refl _ _ | with_reducible assumption | with_reducible apply bl_drewN | with_reducible apply bl_drew | with_reducible apply bl_alloc | (with_reducible refine bl_set ?_ (by first | (simp; done) | (simp; omega)) _) | with_reducible refine bl_trans ?_ (by with_reducible assumption)))⟩
end Go.Proofs.Ytdifikijckebkaa
