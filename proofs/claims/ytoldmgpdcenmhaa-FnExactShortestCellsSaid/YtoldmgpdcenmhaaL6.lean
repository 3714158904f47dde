/- The walk of the law FnExactDistancesFrom. -/
import Derived.Test.YtoldmgpdcenmhaaDist
import Derived.Test.YtoldmgpdcenmhaaL4
namespace Go.Proofs.Ytoldmgpdcenmhaa
open Go.RowKit
set_option linter.unusedVariables false
set_option linter.unusedSimpArgs false
set_option maxHeartbeats 400000
set_option maxRecDepth 100000
/-- A block that holds a cell. -/
abbrev BX2 (w : World) (b : Nat) (v0 v1 : Value) : Prop := b < w.heap.size ∧ w.cell? ⟨b, 0, none⟩ = some v0 ∧ w.cell? ⟨b, 1, none⟩ = some v1
theorem BX2.step {w w' : World} {b : Nat} {v0 v1 : Value} (h : BX2 w b v0 v1) (hb : Below w.heap.size w w') : BX2 w' b v0 v1 := by
  obtain ⟨h1, h2⟩ := h
  refine ⟨Nat.lt_of_lt_of_le h1 hb.size, ?_⟩
  simp only [hb.cell (p := ⟨b, _, none⟩) h1]
  exact h2
theorem BX2.newAt (w : World) (v0 v1 : Value) (T : TypeId) (g : Nat) (hg : g = w.heap.size) : BX2 (w.alloc (.cells #[v0, v1] T)) g v0 v1 := by
  subst hg
  have hh := heap_alloc_new w (.cells #[v0, v1] T)
  refine ⟨by simp, ?_, ?_⟩ <;> (rw [cell_of_row _ _ _ _ _ _ hh]; rfl)
set_option maxRecDepth 100000 in
theorem lawDist_any (wd hg : Int) (a : Option Addr) (cap : Nat) (ps : List Pc) (c : Ce) (w : World) (hps : PcsAt w.heap.size w a ps) (hok : (Bd.mk wd hg ps).ok) (hco : c.ok) (hl : ps.length ≤ 9223372036854775807) :
    Calls Try.prog 3 #[bdv wd hg (.slice a ps.length cap), c.val] w fun e w' => e = .returned (.bool true) ∧ Below w.heap.size w w' := by
  by_cases hn : ps.length ≤ 1048576
  · have Hs := Lib.hid (show szv ps.length 1048576 = 1048576 - ps.length by unfold szv; rw [if_neg (by omega)])
    have P0 : PV w (.slice a ps.length cap) ps := ⟨a, cap, rfl, hps⟩
    have X0 := BX3.new w (.int .i8 wd) (.int .i8 hg) (.slice a ps.length cap) 25
    have C0 := BX2.newAt (w.alloc (.cells #[.int .i8 wd, .int .i8 hg, .slice a ps.length cap] 25)) (.int .i8 c.x) (.int .i8 c.y) 26 (w.heap.size + 1) (by simp)
    have hln := farList_len ⟨wd, hg, ps⟩ c
    obtain ⟨fl, hfl⟩ : ∃ fl, fl = farList ⟨wd, hg, ps⟩ c := ⟨_, rfl⟩
    obtain ⟨fc, hfc⟩ : ∃ fc, fc = farCode ⟨wd, hg, ps⟩ c := ⟨_, rfl⟩
    have CS := fun s w' (h : PV w' s ps) => specDist_any wd hg s ps c hco w' h hok (by omega)
    have CI := fun s w' (h : PV w' s ps) => dist_any wd hg s ps c hco w' h hok (by omega)
    rw [← hfl, ← hfc] at CS CI
    rw [← hfl] at hln
    have CS := Lib.hid CS
    have CI := Lib.hid CI
    clear hfl hfc
    go_enter Try.func3, Try.ntmps3
    go_wp2_with fail
    refine (szBoard_any wd hg a ps.length cap _ _ (by omega) (by omega) (by omega)).mono ?_
    rintro e u ⟨rfl, bu⟩
    rw [Hs.out]
    have A0 := (P0.step (bl_alloc (bl_alloc (Below.refl _ _)))).step bu
    have AX := (X0.step (bl_alloc (Below.refl _ _))).step bu
    have AC := C0.step bu
    have bu0 : Below w.heap.size w u := bl_trans (bl_alloc (bl_alloc (Below.refl _ _))) bu
    go_upto_region 5 with fail
    have CK := Lib.hid (fun w' (h : Below u.heap.size u w') => toBoard_pv (b := ⟨wd, hg, ps⟩) (w := w') ⟨_, rfl, A0.step h⟩ (by simp; omega))
    go_region_held3 (fun w' => Below u.heap.size u w' ∧ ∀ b o, b < u.heap.size → w'.cell? ⟨b, o, none⟩ = u.cell? ⟨b, o, none⟩) ((refine ext_s ?_; exact (by repeat (first | with_reducible exact Below.refl _ _ | with_reducible assumption | with_reducible apply bl_drewN | with_reducible apply bl_drew | with_reducible apply bl_alloc | (with_reducible refine bl_set ?_ (by first | (simp; done) | (simp; omega)) _) | with_reducible refine bl_trans ?_ (by with_reducible assumption))))) (first | (go_at_call 8; refine (CK.out _ ?_).mono ?_; (exact (by repeat (first | with_reducible exact Below.refl _ _ | with_reducible assumption | with_reducible apply bl_drewN | with_reducible apply bl_drew | with_reducible apply bl_alloc | (with_reducible refine bl_set ?_ (by first | (simp; done) | (simp; omega)) _) | with_reducible refine bl_trans ?_ (by with_reducible assumption)))); rintro e wa ⟨sa, rfl, Oa, ba⟩; have bwa : Below u.heap.size u wa := (by repeat (first | with_reducible exact Below.refl _ _ | with_reducible assumption | with_reducible apply bl_drewN | with_reducible apply bl_drew | with_reducible apply bl_alloc | (with_reducible refine bl_set ?_ (by first | (simp; done) | (simp; omega)) _) | with_reducible refine bl_trans ?_ (by with_reducible assumption))); obtain ⟨hca, hfa⟩ := bcell bwa) | (go_at_call 9; refine (toCell_any c _).mono ?_; rintro e wb ⟨rfl, bb⟩; have bwb : Below u.heap.size u wb := (by repeat (first | with_reducible exact Below.refl _ _ | with_reducible assumption | with_reducible apply bl_drewN | with_reducible apply bl_drew | with_reducible apply bl_alloc | (with_reducible refine bl_set ?_ (by first | (simp; done) | (simp; omega)) _) | with_reducible refine bl_trans ?_ (by with_reducible assumption))); obtain ⟨hcb, hfb⟩ := bcell bwb) | (go_at_call 7; refine (CS.out _ _ ?_).mono ?_; (exact (own_pv Oa).step bb); rintro e w1 ⟨vw, rfl, Ow0, b0⟩))
    have b1 : Below u.heap.size u w1 := (by repeat (first | with_reducible exact Below.refl _ _ | with_reducible assumption | with_reducible apply bl_drewN | with_reducible apply bl_drew | with_reducible apply bl_alloc | (with_reducible refine bl_set ?_ (by first | (simp; done) | (simp; omega)) _) | with_reducible refine bl_trans ?_ (by with_reducible assumption)))
    have Ow1 := own_mono Ow0 bwb.size
    clear CK
    have AP1 := A0.step b1
    have AX1 := AX.step b1
    have AC1 := AC.step b1
    have B1 := b1
    go_wp2_with fail
    refine (toBoard_pv (b := ⟨wd, hg, ps⟩) ⟨_, rfl, AP1⟩ (by simp; omega)).mono ?_
    rintro e w2 ⟨vx, rfl, Ox2, b2⟩
    have AP2 := AP1.step b2
    have AX2 := AX1.step b2
    have AC2 := AC1.step b2
    have Nwx := own_apart Ow1 Ox2 (by first | exact Nat.le_refl _ | simp)
    have Nxw := own_apart' Ow1 Ox2 (by first | exact Nat.le_refl _ | simp)
    have Ow2 := own_below Ow1 b2 (Nat.le_refl _)
    have B2 := bl_trans B1 b2
    obtain ⟨ax, capx, rfl, -⟩ := own_at Ox2
    go_upto_region 7 with fail
    have b3 : Below w2.heap.size w2 (w2.alloc (.cells #[.int .i8 wd, .int .i8 hg, .slice ax ps.length capx] 33)) := bl_alloc (Below.refl _ _)
    have AY := BX3.new w2 (.int .i8 wd) (.int .i8 hg) (.slice ax ps.length capx) 33
    obtain ⟨w3, hw3⟩ : ∃ w3, w3 = w2.alloc (.cells #[.int .i8 wd, .int .i8 hg, .slice ax ps.length capx] 33) := ⟨_, rfl⟩
    rw [← hw3] at b3 AY ⊢
    clear hw3
    have AP3 := AP2.step b3
    have AX3 := AX2.step b3
    have AC3 := AC2.step b3
    have Ow3 := own_below Ow2 b3 (Nat.le_refl _)
    have Ox3 := own_below Ox2 b3 (Nat.le_refl _)
    have B3 := bl_trans B2 b3
    go_upto_region 7 with fail
    have CK := Lib.hid (fun w' (h : Below w3.heap.size w3 w') => toBoard_pv (b := ⟨wd, hg, ps⟩) (w := w') ⟨_, rfl, AP3.step h⟩ (by simp; omega))
    go_region_held3 (fun w' => Below w3.heap.size w3 w' ∧ ∀ b o, b < w3.heap.size → w'.cell? ⟨b, o, none⟩ = w3.cell? ⟨b, o, none⟩) ((refine ext_s ?_; exact (by repeat (first | with_reducible exact Below.refl _ _ | with_reducible assumption | with_reducible apply bl_drewN | with_reducible apply bl_drew | with_reducible apply bl_alloc | (with_reducible refine bl_set ?_ (by first | (simp; done) | (simp; omega)) _) | with_reducible refine bl_trans ?_ (by with_reducible assumption))))) (first | (go_at_call 9; refine (toCell_any c _).mono ?_; rintro e wb ⟨rfl, bb⟩; have bwb : Below w3.heap.size w3 wb := (by repeat (first | with_reducible exact Below.refl _ _ | with_reducible assumption | with_reducible apply bl_drewN | with_reducible apply bl_drew | with_reducible apply bl_alloc | (with_reducible refine bl_set ?_ (by first | (simp; done) | (simp; omega)) _) | with_reducible refine bl_trans ?_ (by with_reducible assumption))); obtain ⟨hcb, hfb⟩ := bcell bwb) | (go_at_call 10; refine (CI.out _ _ ?_).mono ?_; (exact (own_pv Ox3).step bwb); rintro e w4 ⟨vg, rfl, Og0, b0⟩))
    have b4 : Below w3.heap.size w3 w4 := (by repeat (first | with_reducible exact Below.refl _ _ | with_reducible assumption | with_reducible apply bl_drewN | with_reducible apply bl_drew | with_reducible apply bl_alloc | (with_reducible refine bl_set ?_ (by first | (simp; done) | (simp; omega)) _) | with_reducible refine bl_trans ?_ (by with_reducible assumption)))
    have Og4 := own_mono Og0 bwb.size
    clear CK
    have AP4 := AP3.step b4
    have AX4 := AX3.step b4
    have AC4 := AC3.step b4
    have AY4 := AY.step b4
    have Nwg := own_apart Ow3 Og4 (by first | exact Nat.le_refl _ | simp)
    have Ngw := own_apart' Ow3 Og4 (by first | exact Nat.le_refl _ | simp)
    have Nxg := own_apart Ox3 Og4 (by first | exact Nat.le_refl _ | simp)
    have Ngx := own_apart' Ox3 Og4 (by first | exact Nat.le_refl _ | simp)
    have Ow4 := own_below Ow3 b4 (Nat.le_refl _)
    have Ox4 := own_below Ox3 b4 (Nat.le_refl _)
    have B4 := bl_trans B3 b4
    go_wp2_with fail
    refine (eqInt64S_yes (own_rv Og4) (own_rv Ow4) (by omega)).mono ?_
    rintro e w5 ⟨rfl, b5⟩
    have AP5 := AP4.step b5
    have AX5 := AX4.step b5
    have AC5 := AC4.step b5
    have AY5 := AY4.step b5
    have Ow5 := own_below Ow4 b5 (Nat.le_refl _)
    have Ox5 := own_below Ox4 b5 (Nat.le_refl _)
    have Og5 := own_below Og4 b5 (Nat.le_refl _)
    have B5 := bl_trans B4 b5
    go_upto_region 10 with fail
    have CK := Lib.hid (fun w' (h : Below w5.heap.size w5 w') => toBoard_pv (b := ⟨wd, hg, ps⟩) (w := w') ⟨_, rfl, AP5.step h⟩ (by simp; omega))
    have CL := Lib.hid (fun w' s' (h : Below w5.heap.size w5 w') (h' : PV w' s' ps) => eqBoard_yes (b := ⟨wd, hg, ps⟩) (w := w') ⟨_, rfl, (own_pv Ox5).step h⟩ ⟨s', rfl, h'⟩ (by simp; omega))
    go_region_held3 (fun w' => Below w5.heap.size w5 w' ∧ ∀ b o, b < w5.heap.size → w'.cell? ⟨b, o, none⟩ = w5.cell? ⟨b, o, none⟩) ((refine ext_s ?_; exact (by repeat (first | with_reducible exact Below.refl _ _ | with_reducible assumption | with_reducible apply bl_drewN | with_reducible apply bl_drew | with_reducible apply bl_alloc | (with_reducible refine bl_set ?_ (by first | (simp; done) | (simp; omega)) _) | with_reducible refine bl_trans ?_ (by with_reducible assumption))))) (first | (go_at_call 8; refine (CK.out _ ?_).mono ?_; (exact (by repeat (first | with_reducible exact Below.refl _ _ | with_reducible assumption | with_reducible apply bl_drewN | with_reducible apply bl_drew | with_reducible apply bl_alloc | (with_reducible refine bl_set ?_ (by first | (simp; done) | (simp; omega)) _) | with_reducible refine bl_trans ?_ (by with_reducible assumption)))); rintro e wa ⟨sa, rfl, Oa, ba⟩; obtain ⟨hca, hfa⟩ := bcell ba) | (go_at_call 12; refine (CL.out _ _ ?_ (own_pv Oa)).mono ?_; (exact (by repeat (first | with_reducible exact Below.refl _ _ | with_reducible assumption | with_reducible apply bl_drewN | with_reducible apply bl_drew | with_reducible apply bl_alloc | (with_reducible refine bl_set ?_ (by first | (simp; done) | (simp; omega)) _) | with_reducible refine bl_trans ?_ (by with_reducible assumption)))); rintro e w6 ⟨rfl, be⟩))
    have b6 : Below w5.heap.size w5 w6 := (by repeat (first | with_reducible exact Below.refl _ _ | with_reducible assumption | with_reducible apply bl_drewN | with_reducible apply bl_drew | with_reducible apply bl_alloc | (with_reducible refine bl_set ?_ (by first | (simp; done) | (simp; omega)) _) | with_reducible refine bl_trans ?_ (by with_reducible assumption)))
    clear CK CL
    have AP6 := AP5.step b6
    have AX6 := AX5.step b6
    have AC6 := AC5.step b6
    have AY6 := AY5.step b6
    have Ow6 := own_below Ow5 b6 (Nat.le_refl _)
    have Ox6 := own_below Ox5 b6 (Nat.le_refl _)
    have Og6 := own_below Og5 b6 (Nat.le_refl _)
    have B6 := bl_trans B5 b6
    go_wp2_with fail
    refine (markBoard_any 1 _ Ox6 (by omega) (by omega) (by omega)).mono ?_
    rintro e w7 ⟨rfl, Mx7, g7⟩
    have Ow7 := own_kept Ow6 g7 Nwx
    have Og7 := own_kept Og6 g7 Ngx
    have B7 := bl_grown B6 g7 (fun k hk => by have h1 := B1.size; have h2 := (Ox6.lt k hk).1; (try simp only [World.size_alloc] at h2); omega)
    have AP7 := A0.step B7
    have AX7 := AX.step B7
    have AC7 := AC.step B7
    go_wp2_with fail
    refine (eqInt64S_yes (own_rv Og7) (own_rv Ow7) (by omega)).mono ?_
    rintro e w8 ⟨rfl, b8⟩
    have AP8 := AP7.step b8
    have AX8 := AX7.step b8
    have AC8 := AC7.step b8
    have Ow8 := own_below Ow7 b8 (Nat.le_refl _)
    have Og8 := own_below Og7 b8 (Nat.le_refl _)
    have B8 := bl_trans B7 b8
    go_wp2_with fail
    refine (markInt64S_any 1 _ Og8 (by omega) (by omega) (by omega)).mono ?_
    rintro e w9 ⟨rfl, Mg9, g9⟩
    have Ow9 := own_kept Ow8 g9 Nwg
    have B9 := bl_grown B8 g9 (fun k hk => by have h1 := B3.size; have h2 := (Og8.lt k hk).1; (try simp only [World.size_alloc] at h2); omega)
    have AP9 := A0.step B9
    have AX9 := AX.step B9
    have AC9 := AC.step B9
    go_wp2_with fail
    refine (heldInt64S_own 1 Mg9 (by omega) (by omega) (by omega)).mono ?_
    rintro e w' ⟨rfl, rfl⟩
    go_upto_region 24 with fail
    have CK := Lib.hid (fun w' (h : Below w9.heap.size w9 w') => toBoard_pv (b := ⟨wd, hg, ps⟩) (w := w') ⟨_, rfl, AP9.step h⟩ (by simp; omega))
    go_region_held3 (fun w' => Below w9.heap.size w9 w' ∧ ∀ b o, b < w9.heap.size → w'.cell? ⟨b, o, none⟩ = w9.cell? ⟨b, o, none⟩) ((refine ext_s ?_; exact (by repeat (first | with_reducible exact Below.refl _ _ | with_reducible assumption | with_reducible apply bl_drewN | with_reducible apply bl_drew | with_reducible apply bl_alloc | (with_reducible refine bl_set ?_ (by first | (simp; done) | (simp; omega)) _) | with_reducible refine bl_trans ?_ (by with_reducible assumption))))) (first | (go_at_call 8; refine (CK.out _ ?_).mono ?_; (exact (by repeat (first | with_reducible exact Below.refl _ _ | with_reducible assumption | with_reducible apply bl_drewN | with_reducible apply bl_drew | with_reducible apply bl_alloc | (with_reducible refine bl_set ?_ (by first | (simp; done) | (simp; omega)) _) | with_reducible refine bl_trans ?_ (by with_reducible assumption)))); rintro e wa ⟨sa, rfl, Oa, ba⟩; have bwa : Below w9.heap.size w9 wa := (by repeat (first | with_reducible exact Below.refl _ _ | with_reducible assumption | with_reducible apply bl_drewN | with_reducible apply bl_drew | with_reducible apply bl_alloc | (with_reducible refine bl_set ?_ (by first | (simp; done) | (simp; omega)) _) | with_reducible refine bl_trans ?_ (by with_reducible assumption))); obtain ⟨hca, hfa⟩ := bcell bwa) | (go_at_call 9; refine (toCell_any c _).mono ?_; rintro e wb ⟨rfl, bb⟩; have bwb : Below w9.heap.size w9 wb := (by repeat (first | with_reducible exact Below.refl _ _ | with_reducible assumption | with_reducible apply bl_drewN | with_reducible apply bl_drew | with_reducible apply bl_alloc | (with_reducible refine bl_set ?_ (by first | (simp; done) | (simp; omega)) _) | with_reducible refine bl_trans ?_ (by with_reducible assumption))); obtain ⟨hcb, hfb⟩ := bcell bwb) | (go_at_call 10; refine (CI.out _ _ ?_).mono ?_; (exact (own_pv Oa).step bb); rintro e w10 ⟨vh, rfl, Oh0, b0⟩))
    have b10 : Below w9.heap.size w9 w10 := (by repeat (first | with_reducible exact Below.refl _ _ | with_reducible assumption | with_reducible apply bl_drewN | with_reducible apply bl_drew | with_reducible apply bl_alloc | (with_reducible refine bl_set ?_ (by first | (simp; done) | (simp; omega)) _) | with_reducible refine bl_trans ?_ (by with_reducible assumption)))
    have Oh10 := own_mono Oh0 bwb.size
    clear CK
    have AP10 := AP9.step b10
    have AX10 := AX9.step b10
    have AC10 := AC9.step b10
    have Nwh := own_apart Ow9 Oh10 (by first | exact Nat.le_refl _ | simp)
    have Nhw := own_apart' Ow9 Oh10 (by first | exact Nat.le_refl _ | simp)
    have Ngh := own_apart Mg9 Oh10 (by first | exact Nat.le_refl _ | simp)
    have Nhg := own_apart' Mg9 Oh10 (by first | exact Nat.le_refl _ | simp)
    have Ow10 := own_below Ow9 b10 (Nat.le_refl _)
    have Og10 := own_below Mg9 b10 (Nat.le_refl _)
    have B10 := bl_trans B9 b10
    go_wp2_with fail
    refine (eqInt64S_yes (own_rv Oh10) (own_rv Ow10) (by omega)).mono ?_
    rintro e w11 ⟨rfl, b11⟩
    have AP11 := AP10.step b11
    have AX11 := AX10.step b11
    have AC11 := AC10.step b11
    have Ow11 := own_below Ow10 b11 (Nat.le_refl _)
    have Og11 := own_below Og10 b11 (Nat.le_refl _)
    have Oh11 := own_below Oh10 b11 (Nat.le_refl _)
    have B11 := bl_trans B10 b11
    go_wp2_with fail
    refine (heldInt64S_own 1 Og11 (by omega) (by omega) (by omega)).mono ?_
    rintro e w' ⟨rfl, rfl⟩
    go_wp2
    go_ret
    exact ⟨rfl, bl_trans bu0 B11⟩
  · have Hs := Lib.hid (show szv ps.length 1048576 = -1 by unfold szv; rw [if_pos (by omega)])
    go_enter Try.func3, Try.ntmps3
    go_wp2_with fail
    refine (szBoard_any wd hg a ps.length cap _ _ (by omega) (by omega) (by omega)).mono ?_
    rintro e w1 ⟨rfl, b1⟩
    rw [Hs.out]
    go_wp2
    go_ret
    exact ⟨rfl, (by repeat (first | with_reducible exact Below.refl _ _ | with_reducible assumption | with_reducible apply bl_drewN | with_reducible apply bl_drew | with_reducible apply bl_alloc | (with_reducible refine bl_set ?_ (by first | (simp; done) | (simp; omega)) _) | with_reducible refine bl_trans ?_ (by with_reducible assumption)))⟩
end Go.Proofs.Ytoldmgpdcenmhaa
