import Derived.Test.YtepekboechmngaaGreatK4
import Derived.Deep.Strs
import Derived.Carry
import Derived.Deep.DeepFit
import Derived.Test.YtepekboechmngaaGreatShg
import Derived.BigRegion
/- The walk of the law FnExactFreeCells. -/
namespace Go.Proofs.YtepekboechmngaaGreat
open Go.RowKit
set_option linter.unusedVariables false
set_option linter.unusedSimpArgs false
set_option maxHeartbeats 400000
set_option maxRecDepth 100000

/-- A block's first cells. -/
abbrev BX3 (w : World) (b : Nat) (v0 v1 v2 : Value) : Prop := b < w.heap.size ∧ w.cell? ⟨b, 0, none⟩ = some v0 ∧ w.cell? ⟨b, 1, none⟩ = some v1 ∧ w.cell? ⟨b, 2, none⟩ = some v2
theorem BX3.step {w w' : World} {b : Nat} {v0 v1 v2 : Value} (h : BX3 w b v0 v1 v2) (hb : Below w.heap.size w w') : BX3 w' b v0 v1 v2 := by
  obtain ⟨h1, h2⟩ := h
  refine ⟨Nat.lt_of_lt_of_le h1 hb.size, ?_⟩
  simp only [hb.cell (p := ⟨b, _, none⟩) h1]
  exact h2
theorem BX3.new (w : World) (v0 v1 v2 : Value) (T : TypeId) : BX3 (w.alloc (.cells #[v0, v1, v2] T)) w.heap.size v0 v1 v2 := by
  have hh := heap_alloc_new w (.cells #[v0, v1, v2] T)
  refine ⟨by simp, ?_, ?_, ?_⟩ <;> (rw [cell_of_row _ _ _ _ _ _ hh]; rfl)

theorem markBoard_any {base n : Nat} {wd hg : Int} {v : Value} {cs : List Value} (k0 : Int) (w : World) (hown : w.ownsRow base 92 5 v n cs) (hn : n ≤ 10000000) (h1 : 0 ≤ k0) (h2 : k0 ≤ 1000000000) :
    Calls Tryz.prog 18 #[bdv wd hg v, .int .i64 k0] w fun e w' => e = .returned (.int .i64 (k0 + 5 * n)) ∧ w'.ownsRow base 92 5 v n (flat Pc.cells (mkPc k0 n)) ∧ w.grownBy w' v.ownBlock := by
  have g0 : w.grownBy (w.alloc (.cells #[.int .i8 wd, .int .i8 hg, v] 34)) v.ownBlock := ⟨rfl, rfl, rfl, by simp, fun k hk _ => Below.heap_alloc w _ k hk⟩
  have h3 := own_kept hown g0
  have H := Lib.hid (markPieceS_any k0 (w.alloc (.cells #[.int .i8 wd, .int .i8 hg, v] 34)) (own_below hown (bl_alloc (Below.refl _ _)) (Nat.le_refl _)) hn h1 h2)
  clear h3
  go_enter Tryz.func18, Tryz.ntmps18
  go_wp2_with fail
  refine H.out.mono ?_
  rintro e w1 ⟨rfl, ho, hg⟩
  go_wp2
  go_ret
  exact ⟨rfl, ho, grown_trans g0 hg⟩
end Go.Proofs.YtepekboechmngaaGreat
/- The walk of the law FnExactRunBoard. -/
namespace Go.Proofs.YtepekboechmngaaGreat
open Go.RowKit
set_option linter.unusedVariables false
set_option linter.unusedSimpArgs false
set_option maxHeartbeats 400000
set_option maxRecDepth 100000
set_option maxRecDepth 100000 in
theorem lawRunBoard_any (wd hg : Int) (a : Option Addr) (cap : Nat) (ps : List Pc) (a1 : Option Addr) (cap1 : Nat) (pl : List Pu) (w : World) (hps : PcsAt w.heap.size w a ps) (hok : (Bd.mk wd hg ps).ok) (hl : ps.length ≤ 9223372036854775807)
    (h1 : SlAt w.heap.size w a1 (flat Pu.cells pl)) (ok1 : PusOk pl) (hl1 : pl.length ≤ 9223372036854775807) :
    Calls Tryz.prog 3 #[bdv wd hg (.slice a ps.length cap), .slice a1 pl.length cap1] w fun e w' => e = .returned (.bool true) ∧ Below w.heap.size w w' := by
  by_cases hn : ps.length ≤ 1048576
  · have Hs := Lib.hid (show szv ps.length 1048576 = 1048576 - ps.length by unfold szv; rw [if_neg (by omega)])
    by_cases hn1 : ps.length + pl.length ≤ 1048576
    · have Hs1 := Lib.hid (show szv pl.length (1048576 - ps.length) = 1048576 - ps.length - pl.length by unfold szv; rw [if_neg (by omega)])
      have P0 : PV w (.slice a ps.length cap) ps := ⟨a, cap, rfl, hps⟩
      have Q0 : RV Pu.cells w (.slice a1 pl.length cap1) pl := ⟨a1, cap1, rfl, h1⟩
      have X0 := BX3.new w (.int .i8 wd) (.int .i8 hg) (.slice a ps.length cap) 25
      have hln0 := rbList_len ⟨wd, hg, ps⟩ pl
      have hln : (rbList ⟨wd, hg, ps⟩ pl).length ≤ 1048577 := by first | exact Nat.le_trans hln0 (Nat.le_succ_of_le hn) | exact Nat.le_trans hln0 (Nat.succ_le_succ hn)
      obtain ⟨rv, hrv⟩ : ∃ rv, rv = rbList ⟨wd, hg, ps⟩ pl := ⟨_, rfl⟩
      obtain ⟨rc, hrc⟩ : ∃ rc, rc = rbCode ⟨wd, hg, ps⟩ pl := ⟨_, rfl⟩
      have CS := fun s va w' (h : PV w' s ps) (h1 : SV Pu.cells w' va pl) => specRunBoard_any wd hg s ps va pl w' h hok (by omega) h1 ok1 (by omega)
      have CI := fun s va w' (h : PV w' s ps) (h1 : SV Pu.cells w' va pl) => implRunBoard_any wd hg s ps va pl w' h hok (by omega) h1 ok1 (by omega)
      rw [← hrv, ← hrc] at CS CI
      rw [← hrv] at hln
      clear hln0
      have CS := Lib.hid CS
      have CI := Lib.hid CI
      clear hrv hrc h1 hps
      go_enter Tryz.func3, Tryz.ntmps3
      go_wp2_with fail
      refine (szBoard_any wd hg a ps.length cap _ _ (by omega) (by omega) (by omega)).mono ?_
      rintro e u ⟨rfl, bu⟩
      rw [Hs.out]
      have A0 := (P0.step (bl_alloc (Below.refl _ _))).step bu
      have A1 := (Q0.step (bl_alloc (Below.refl _ _))).step bu
      have AX := X0.step bu
      have bu0 : Below w.heap.size w u := bl_trans (bl_alloc (Below.refl _ _)) bu
      go_wp2_with fail
      refine (szPushS_any a1 pl.length cap1 _ _ (by omega) (by omega) (by omega)).mono ?_
      rintro e w' ⟨rfl, rfl⟩
      rw [Hs1.out]
      go_wp2_with fail
      refine (toBoard_pv (b := ⟨wd, hg, ps⟩) ⟨_, rfl, A0⟩ (by simp; omega)).mono ?_
      rintro e w1 ⟨vm, rfl, Om1, b1⟩
      have AP1 := A0.step b1
      have AQ1 := A1.step b1
      have AX1 := AX.step b1
      have B1 := b1
      obtain ⟨am, capm, rfl, -⟩ := own_at Om1
      go_wp2_with fail
      refine (toPushS_rv AQ1 (by omega)).mono ?_
      rintro e w2 ⟨vmp, rfl, Omp2, b2⟩
      have AP2 := AP1.step b2
      have AQ2 := AQ1.step b2
      have AX2 := AX1.step b2
      have Nmmp := own_apart Om1 Omp2 (by first | exact Nat.le_refl _ | simp)
      have Nmpm := own_apart' Om1 Omp2 (by first | exact Nat.le_refl _ | simp)
      have Om2 := own_below Om1 b2 (Nat.le_refl _)
      have B2 := bl_trans B1 b2
      obtain ⟨amp, capmp, rfl, -⟩ := own_at Omp2
      go_wp2_with fail
      refine (CS.out _ _ _ (own_pv Om2) (own_rv Omp2)).mono ?_
      rintro e w3 ⟨vw, rfl, Ow3, b3⟩
      have AP3 := AP2.step b3
      have AQ3 := AQ2.step b3
      have AX3 := AX2.step b3
      have Nmw := own_apart Om2 Ow3 (by first | exact Nat.le_refl _ | simp)
      have Nwm := own_apart' Om2 Ow3 (by first | exact Nat.le_refl _ | simp)
      have Nmpw := own_apart Omp2 Ow3 (by first | exact Nat.le_refl _ | simp)
      have Nwmp := own_apart' Omp2 Ow3 (by first | exact Nat.le_refl _ | simp)
      have Om3 := own_below Om2 b3 (Nat.le_refl _)
      have Omp3 := own_below Omp2 b3 (Nat.le_refl _)
      have B3 := bl_trans B2 b3
      go_wp2_with fail
      refine (toBoard_pv (b := ⟨wd, hg, ps⟩) ⟨_, rfl, AP3⟩ (by simp; omega)).mono ?_
      rintro e w4 ⟨vx, rfl, Ox4, b4⟩
      have AP4 := AP3.step b4
      have AQ4 := AQ3.step b4
      have AX4 := AX3.step b4
      have Nwx := own_apart Ow3 Ox4 (by first | exact Nat.le_refl _ | simp)
      have Nxw := own_apart' Ow3 Ox4 (by first | exact Nat.le_refl _ | simp)
      have Ow4 := own_below Ow3 b4 (Nat.le_refl _)
      have B4 := bl_trans B3 b4
      obtain ⟨ax, capx, rfl, -⟩ := own_at Ox4
      go_wp2_with fail
      refine (toPushS_rv (AQ4.step (bl_alloc (Below.refl _ _))) (by omega)).mono ?_
      rintro e w5 ⟨vy, rfl, Oy5, c5⟩
      have b5 := bl_trans (bl_alloc (o := .cells #[.int .i8 wd, .int .i8 hg, .slice ax ps.length capx] 34) (Below.refl w4.heap.size w4)) c5
      have AY5 := (BX3.new w4 (.int .i8 wd) (.int .i8 hg) (.slice ax ps.length capx) 34).step c5
      have AP5 := AP4.step b5
      have AQ5 := AQ4.step b5
      have AX5 := AX4.step b5
      have Nwy := own_apart Ow4 Oy5 (by first | exact Nat.le_refl _ | simp)
      have Nyw := own_apart' Ow4 Oy5 (by first | exact Nat.le_refl _ | simp)
      have Nxy := own_apart Ox4 Oy5 (by first | exact Nat.le_refl _ | simp)
      have Nyx := own_apart' Ox4 Oy5 (by first | exact Nat.le_refl _ | simp)
      have Ow5 := own_below Ow4 b5 (Nat.le_refl _)
      have Ox5 := own_below Ox4 b5 (Nat.le_refl _)
      have B5 := bl_trans B4 b5
      obtain ⟨ay, capy, rfl, -⟩ := own_at Oy5
      go_wp2_with fail
      refine (CI.out _ _ _ (own_pv Ox5) (own_rv Oy5)).mono ?_
      rintro e w6 ⟨vg, rfl, Og6, b6⟩
      have AP6 := AP5.step b6
      have AQ6 := AQ5.step b6
      have AX6 := AX5.step b6
      have AY6 := AY5.step b6
      have Nwg := own_apart Ow5 Og6 (by first | exact Nat.le_refl _ | simp)
      have Ngw := own_apart' Ow5 Og6 (by first | exact Nat.le_refl _ | simp)
      have Nxg := own_apart Ox5 Og6 (by first | exact Nat.le_refl _ | simp)
      have Ngx := own_apart' Ox5 Og6 (by first | exact Nat.le_refl _ | simp)
      have Nyg := own_apart Oy5 Og6 (by first | exact Nat.le_refl _ | simp)
      have Ngy := own_apart' Oy5 Og6 (by first | exact Nat.le_refl _ | simp)
      have Ow6 := own_below Ow5 b6 (Nat.le_refl _)
      have Ox6 := own_below Ox5 b6 (Nat.le_refl _)
      have Oy6 := own_below Oy5 b6 (Nat.le_refl _)
      have B6 := bl_trans B5 b6
      go_wp2_with fail
      refine (eqFallS_yes (own_rv Og6) (own_rv Ow6) (by omega)).mono ?_
      rintro e w7 ⟨rfl, b7⟩
      have AP7 := AP6.step b7
      have AQ7 := AQ6.step b7
      have AX7 := AX6.step b7
      have AY7 := AY6.step b7
      have Ow7 := own_below Ow6 b7 (Nat.le_refl _)
      have Ox7 := own_below Ox6 b7 (Nat.le_refl _)
      have Oy7 := own_below Oy6 b7 (Nat.le_refl _)
      have Og7 := own_below Og6 b7 (Nat.le_refl _)
      have B7 := bl_trans B6 b7
      go_upto_region 14 with fail
      have CK := Lib.hid (fun w' (h : Below w7.heap.size w7 w') => toBoard_pv (b := ⟨wd, hg, ps⟩) (w := w') ⟨_, rfl, AP7.step h⟩ (by simp; omega))
      have CL := Lib.hid (fun w' s' (h : Below w7.heap.size w7 w') (h' : PV w' s' ps) => eqBoard_yes (b := ⟨wd, hg, ps⟩) (w := w') ⟨_, rfl, (own_pv Ox7).step h⟩ ⟨s', rfl, h'⟩ (by simp; omega))
      go_region_held3 (fun w' => Below w7.heap.size w7 w' ∧ ∀ b o, b < w7.heap.size → w'.cell? ⟨b, o, none⟩ = w7.cell? ⟨b, o, none⟩) ((refine ext_s ?_; exact (by repeat (first | with_reducible exact Below.refl _ _ | with_reducible assumption | with_reducible apply bl_drewN | with_reducible apply bl_drew | with_reducible apply bl_alloc | (with_reducible refine bl_set ?_ (by first | (simp; done) | (simp; omega)) _) | with_reducible refine bl_trans ?_ (by with_reducible assumption))))) (first | (go_at_call 12; refine (CK.out _ ?_).mono ?_; (exact (by repeat (first | with_reducible exact Below.refl _ _ | with_reducible assumption | with_reducible apply bl_drewN | with_reducible apply bl_drew | with_reducible apply bl_alloc | (with_reducible refine bl_set ?_ (by first | (simp; done) | (simp; omega)) _) | with_reducible refine bl_trans ?_ (by with_reducible assumption)))); rintro e wa ⟨sa, rfl, Oa, ba⟩; obtain ⟨hca, hfa⟩ := bcell ba) | (go_at_call 16; refine (CL.out _ _ ?_ (own_pv Oa)).mono ?_; (exact (by repeat (first | with_reducible exact Below.refl _ _ | with_reducible assumption | with_reducible apply bl_drewN | with_reducible apply bl_drew | with_reducible apply bl_alloc | (with_reducible refine bl_set ?_ (by first | (simp; done) | (simp; omega)) _) | with_reducible refine bl_trans ?_ (by with_reducible assumption)))); rintro e w8 ⟨rfl, be⟩))
      have b8 : Below w7.heap.size w7 w8 := (by repeat (first | with_reducible exact Below.refl _ _ | with_reducible assumption | with_reducible apply bl_drewN | with_reducible apply bl_drew | with_reducible apply bl_alloc | (with_reducible refine bl_set ?_ (by first | (simp; done) | (simp; omega)) _) | with_reducible refine bl_trans ?_ (by with_reducible assumption)))
      clear CK CL
      have AP8 := AP7.step b8
      have AQ8 := AQ7.step b8
      have AX8 := AX7.step b8
      have AY8 := AY7.step b8
      have Ow8 := own_below Ow7 b8 (Nat.le_refl _)
      have Ox8 := own_below Ox7 b8 (Nat.le_refl _)
      have Oy8 := own_below Oy7 b8 (Nat.le_refl _)
      have Og8 := own_below Og7 b8 (Nat.le_refl _)
      have B8 := bl_trans B7 b8
      go_wp2_with fail
      refine (toPushS_rv AQ8 (by omega)).mono ?_
      rintro e w9 ⟨vp, rfl, Op9, b9⟩
      have AP9 := AP8.step b9
      have AQ9 := AQ8.step b9
      have AX9 := AX8.step b9
      have AY9 := AY8.step b9
      have Nwp := own_apart Ow8 Op9 (by first | exact Nat.le_refl _ | simp)
      have Npw := own_apart' Ow8 Op9 (by first | exact Nat.le_refl _ | simp)
      have Nxp := own_apart Ox8 Op9 (by first | exact Nat.le_refl _ | simp)
      have Npx := own_apart' Ox8 Op9 (by first | exact Nat.le_refl _ | simp)
      have Nyp := own_apart Oy8 Op9 (by first | exact Nat.le_refl _ | simp)
      have Npy := own_apart' Oy8 Op9 (by first | exact Nat.le_refl _ | simp)
      have Ngp := own_apart Og8 Op9 (by first | exact Nat.le_refl _ | simp)
      have Npg := own_apart' Og8 Op9 (by first | exact Nat.le_refl _ | simp)
      have Ow9 := own_below Ow8 b9 (Nat.le_refl _)
      have Ox9 := own_below Ox8 b9 (Nat.le_refl _)
      have Oy9 := own_below Oy8 b9 (Nat.le_refl _)
      have Og9 := own_below Og8 b9 (Nat.le_refl _)
      have B9 := bl_trans B8 b9
      obtain ⟨ap, capp, rfl, -⟩ := own_at Op9
      go_wp2_with fail
      refine (eqPushS_yes (own_rv Oy9) (own_rv Op9) (by omega)).mono ?_
      rintro e w10 ⟨rfl, b10⟩
      have AP10 := AP9.step b10
      have AQ10 := AQ9.step b10
      have AX10 := AX9.step b10
      have AY10 := AY9.step b10
      have Ow10 := own_below Ow9 b10 (Nat.le_refl _)
      have Ox10 := own_below Ox9 b10 (Nat.le_refl _)
      have Oy10 := own_below Oy9 b10 (Nat.le_refl _)
      have Og10 := own_below Og9 b10 (Nat.le_refl _)
      have Op10 := own_below Op9 b10 (Nat.le_refl _)
      have B10 := bl_trans B9 b10
      go_wp2_with fail
      refine (markBoard_any 1 _ Ox10 (by omega) (by omega) (by omega)).mono ?_
      rintro e w11 ⟨rfl, Mx11, g11⟩
      have Ow11 := own_kept Ow10 g11 Nwx
      have Oy11 := own_kept Oy10 g11 Nyx
      have Og11 := own_kept Og10 g11 Ngx
      have B11 := bl_grown B10 g11 (fun k hk => by have h1 := B3.size; have h2 := (Ox10.lt k hk).1; (try simp only [World.size_alloc] at h2); omega)
      have AP11 := A0.step B11
      have AQ11 := A1.step B11
      have AX11 := AX.step B11
      go_wp2_with fail
      refine (markPushS_any _ _ Oy11 (by omega) (by omega) (by omega)).mono ?_
      rintro e w12 ⟨rfl, My12, g12⟩
      have Ow12 := own_kept Ow11 g12 Nwy
      have Og12 := own_kept Og11 g12 Ngy
      have B12 := bl_grown B11 g12 (fun k hk => by have h1 := B4.size; have h2 := (Oy11.lt k hk).1; (try simp only [World.size_alloc] at h2); omega)
      have AP12 := A0.step B12
      have AQ12 := A1.step B12
      have AX12 := AX.step B12
      go_wp2_with fail
      refine (eqFallS_yes (own_rv Og12) (own_rv Ow12) (by omega)).mono ?_
      rintro e w13 ⟨rfl, b13⟩
      have AP13 := AP12.step b13
      have AQ13 := AQ12.step b13
      have AX13 := AX12.step b13
      have Ow13 := own_below Ow12 b13 (Nat.le_refl _)
      have Og13 := own_below Og12 b13 (Nat.le_refl _)
      have B13 := bl_trans B12 b13
      go_wp2_with fail
      refine (markFallS_any 1 _ Og13 (by omega) (by omega) (by omega)).mono ?_
      rintro e w14 ⟨rfl, Mg14, g14⟩
      have Ow14 := own_kept Ow13 g14 Nwg
      have B14 := bl_grown B13 g14 (fun k hk => by have h1 := B5.size; have h2 := (Og13.lt k hk).1; (try simp only [World.size_alloc] at h2); omega)
      have AP14 := A0.step B14
      have AQ14 := A1.step B14
      have AX14 := AX.step B14
      go_wp2_with fail
      refine (heldFallS_own 1 Mg14 (by omega) (by omega) (by omega)).mono ?_
      rintro e w' ⟨rfl, rfl⟩
      go_wp2_with fail
      refine (toBoard_pv (b := ⟨wd, hg, ps⟩) ⟨_, rfl, AP14⟩ (by simp; omega)).mono ?_
      rintro e w15 ⟨vz, rfl, Oz15, b15⟩
      have AP15 := AP14.step b15
      have AQ15 := AQ14.step b15
      have AX15 := AX14.step b15
      have Nwz := own_apart Ow14 Oz15 (by first | exact Nat.le_refl _ | simp)
      have Nzw := own_apart' Ow14 Oz15 (by first | exact Nat.le_refl _ | simp)
      have Ngz := own_apart Mg14 Oz15 (by first | exact Nat.le_refl _ | simp)
      have Nzg := own_apart' Mg14 Oz15 (by first | exact Nat.le_refl _ | simp)
      have Ow15 := own_below Ow14 b15 (Nat.le_refl _)
      have Og15 := own_below Mg14 b15 (Nat.le_refl _)
      have B15 := bl_trans B14 b15
      obtain ⟨az, capz, rfl, -⟩ := own_at Oz15
      go_wp2_with fail
      refine (toPushS_rv AQ15 (by omega)).mono ?_
      rintro e w16 ⟨vzp, rfl, Ozp16, b16⟩
      have AP16 := AP15.step b16
      have AQ16 := AQ15.step b16
      have AX16 := AX15.step b16
      have Nwzp := own_apart Ow15 Ozp16 (by first | exact Nat.le_refl _ | simp)
      have Nzpw := own_apart' Ow15 Ozp16 (by first | exact Nat.le_refl _ | simp)
      have Ngzp := own_apart Og15 Ozp16 (by first | exact Nat.le_refl _ | simp)
      have Nzpg := own_apart' Og15 Ozp16 (by first | exact Nat.le_refl _ | simp)
      have Nzzp := own_apart Oz15 Ozp16 (by first | exact Nat.le_refl _ | simp)
      have Nzpz := own_apart' Oz15 Ozp16 (by first | exact Nat.le_refl _ | simp)
      have Ow16 := own_below Ow15 b16 (Nat.le_refl _)
      have Og16 := own_below Og15 b16 (Nat.le_refl _)
      have Oz16 := own_below Oz15 b16 (Nat.le_refl _)
      have B16 := bl_trans B15 b16
      obtain ⟨azp, capzp, rfl, -⟩ := own_at Ozp16
      go_wp2_with fail
      refine (CI.out _ _ _ (own_pv Oz16) (own_rv Ozp16)).mono ?_
      rintro e w17 ⟨vh, rfl, Oh17, b17⟩
      have AP17 := AP16.step b17
      have AQ17 := AQ16.step b17
      have AX17 := AX16.step b17
      have Nwh := own_apart Ow16 Oh17 (by first | exact Nat.le_refl _ | simp)
      have Nhw := own_apart' Ow16 Oh17 (by first | exact Nat.le_refl _ | simp)
      have Ngh := own_apart Og16 Oh17 (by first | exact Nat.le_refl _ | simp)
      have Nhg := own_apart' Og16 Oh17 (by first | exact Nat.le_refl _ | simp)
      have Nzh := own_apart Oz16 Oh17 (by first | exact Nat.le_refl _ | simp)
      have Nhz := own_apart' Oz16 Oh17 (by first | exact Nat.le_refl _ | simp)
      have Nzph := own_apart Ozp16 Oh17 (by first | exact Nat.le_refl _ | simp)
      have Nhzp := own_apart' Ozp16 Oh17 (by first | exact Nat.le_refl _ | simp)
      have Ow17 := own_below Ow16 b17 (Nat.le_refl _)
      have Og17 := own_below Og16 b17 (Nat.le_refl _)
      have Oz17 := own_below Oz16 b17 (Nat.le_refl _)
      have Ozp17 := own_below Ozp16 b17 (Nat.le_refl _)
      have B17 := bl_trans B16 b17
      go_wp2_with fail
      refine (eqFallS_yes (own_rv Oh17) (own_rv Ow17) (by omega)).mono ?_
      rintro e w18 ⟨rfl, b18⟩
      have AP18 := AP17.step b18
      have AQ18 := AQ17.step b18
      have AX18 := AX17.step b18
      have Ow18 := own_below Ow17 b18 (Nat.le_refl _)
      have Og18 := own_below Og17 b18 (Nat.le_refl _)
      have Oz18 := own_below Oz17 b18 (Nat.le_refl _)
      have Ozp18 := own_below Ozp17 b18 (Nat.le_refl _)
      have Oh18 := own_below Oh17 b18 (Nat.le_refl _)
      have B18 := bl_trans B17 b18
      go_wp2_with fail
      refine (heldFallS_own 1 Og18 (by omega) (by omega) (by omega)).mono ?_
      rintro e w' ⟨rfl, rfl⟩
      go_wp2
      go_ret
      exact ⟨rfl, bl_trans bu0 B18⟩
    · have Hs1 := Lib.hid (show szv pl.length (1048576 - ps.length) = -1 by unfold szv; rw [if_pos (by omega)])
      go_enter Tryz.func3, Tryz.ntmps3
      go_wp2_with fail
      refine (szBoard_any wd hg a ps.length cap _ _ (by omega) (by omega) (by omega)).mono ?_
      rintro e u ⟨rfl, bu⟩
      rw [Hs.out]
      have bu0 : Below w.heap.size w u := bl_trans (bl_alloc (Below.refl _ _)) bu
      go_wp2_with fail
      refine (szPushS_any a1 pl.length cap1 _ _ (by omega) (by omega) (by omega)).mono ?_
      rintro e w' ⟨rfl, rfl⟩
      rw [Hs1.out]
      go_wp2
      go_ret
      exact ⟨rfl, bu0⟩
  · have Hs := Lib.hid (show szv ps.length 1048576 = -1 by unfold szv; rw [if_pos (by omega)])
    go_enter Tryz.func3, Tryz.ntmps3
    go_wp2_with fail
    refine (szBoard_any wd hg a ps.length cap _ _ (by omega) (by omega) (by omega)).mono ?_
    rintro e u ⟨rfl, bu⟩
    rw [Hs.out]
    have bu0 : Below w.heap.size w u := bl_trans (bl_alloc (Below.refl _ _)) bu
    go_wp2
    go_ret
    exact ⟨rfl, bu0⟩
end Go.Proofs.YtepekboechmngaaGreat
/- Opening arguments: boards and ways. -/
namespace Go.Proofs.YtepekboechmngaaGreat
open Go.RowKit Go.ChangeShapes Go.WideShapes Go.ChangeAt
set_option linter.unusedVariables false
set_option maxHeartbeats 400000
set_option maxRecDepth 100000
set_option linter.unusedSimpArgs false
theorem open_bd {H : Type} {enc : TypeId × Value → H} {w : World} {base : Nat} {r : Reach} {b0 : Nat} {spare : Nat → Bool} {held : Bool} {v : Value} {d : DataW H} {p : List MemPlace}
    (hv : Value.okWide Tryz.prog w r b0 25 v) (h : DataW.Trod enc Tryz.prog w base spare held 25 v d p) :
    ∃ wd hg a cap ps, v = bdv wd hg (.slice a (ps : List Pc).length cap) ∧ (Bd.mk wd hg ps).ok ∧ PcsAt w.heap.size w a ps ∧ ps.length ≤ maxLen := by
  obtain ⟨cs, rfl, hsz⟩ := okWide_struct Tryz.underlying25 hv
  obtain ⟨fuel, h⟩ := h
  obtain ⟨y0, y1, y2, n, -, hl, h0, h1, h2⟩ := Go.Deep.trod_struct3 Tryz.underlying25 h
  have hsz : cs.size = 3 := hsz
  obtain ⟨c0, c1, c2, rfl⟩ : ∃ c0 c1 c2, cs = #[c0, c1, c2] := by
    obtain ⟨l⟩ := cs
    match l, hsz with
    | [c0, c1, c2], _ => exact ⟨c0, c1, c2, rfl⟩
  have f0 := trod_kinds (P := Tryz.prog) 2 22 [.i8] (by kernel_rfl) _ [c0] _ h0
  have f1 := trod_kinds (P := Tryz.prog) 2 22 [.i8] (by kernel_rfl) _ [c1] _ h1
  obtain ⟨a, cap, ps, e2, ok, sl, ln⟩ := sl_of_trod (s := 5) (cs := [c2]) (ok := Pc.ok) (f := Pc.cells) rfl (by omega) conv_pc Tryz.underlying23 (by kernel_rfl) (by kernel_rfl) h2
  obtain ⟨wd, _, e0, k0, -⟩ := fits_cons f0
  obtain ⟨hg, _, e1, k1, -⟩ := fits_cons f1
  simp only [List.cons.injEq] at e0 e1 e2
  obtain ⟨rfl, -⟩ := e0
  obtain ⟨rfl, -⟩ := e1
  obtain ⟨rfl, -⟩ := e2
  exact ⟨wd, hg, a, cap, ps, rfl, ⟨bounds_i8 k0, bounds_i8 k1, ok⟩, sl, ln⟩
theorem open_ce {H : Type} {enc : TypeId × Value → H} {w : World} {base : Nat} {r : Reach} {b0 : Nat} {spare : Nat → Bool} {held : Bool} {v : Value} {d : DataW H} {p : List MemPlace}
    (hv : Value.okWide Tryz.prog w r b0 59 v) (h : DataW.Trod enc Tryz.prog w base spare held 59 v d p) : ∃ c : Ce, v = c.val ∧ c.ok := by
  simp only [Value.okWide, Tryz.underlying59] at hv
  obtain ⟨cs, rfl, hsz, _⟩ := hv
  have hf : Fits [.i8, .i8] cs.toList := fits_of_trod (P := Tryz.prog) (by kernel_rfl) h
  obtain ⟨l⟩ := cs
  obtain ⟨a, _, e, h0, hf⟩ := fits_cons hf
  obtain ⟨b, _, rfl, h1, hf⟩ := fits_cons hf
  obtain rfl := fits_nil hf
  simp only at e
  subst e
  exact ⟨⟨a, b⟩, rfl, bounds_i8 h0, bounds_i8 h1⟩
end Go.Proofs.YtepekboechmngaaGreat
/- Pushes and falls out of the claim's open values. -/
namespace Go.Proofs.YtepekboechmngaaGreat
open Go.RowKit
theorem conv_pu (cs : List Value) (h : Fits [.i8, .i8, .i8, .i16] cs) : ∃ p : Pu, p.ok ∧ cs = p.cells := by
  obtain ⟨a, _, rfl, h0, h⟩ := fits_cons h
  obtain ⟨b, _, rfl, h1, h⟩ := fits_cons h
  obtain ⟨c, _, rfl, h2, h⟩ := fits_cons h
  obtain ⟨d, _, rfl, h3, h⟩ := fits_cons h
  obtain rfl := fits_nil h
  exact ⟨⟨a, b, c, d⟩, ⟨bounds_i8 h0, bounds_i8 h1, bounds_i8 h2, bounds_i16 h3⟩, rfl⟩
theorem conv_fa (cs : List Value) (h : Fits [.i64, .i8, .i64] cs) : ∃ p : Fa, p.ok ∧ cs = p.cells := by
  obtain ⟨a, _, rfl, h0, h⟩ := fits_cons h
  obtain ⟨b, _, rfl, h1, h⟩ := fits_cons h
  obtain ⟨c, _, rfl, h2, h⟩ := fits_cons h
  obtain rfl := fits_nil h
  exact ⟨⟨a, b, c⟩, ⟨bounds_i64 h0, bounds_i8 h1, bounds_i64 h2⟩, rfl⟩
end Go.Proofs.YtepekboechmngaaGreat
/- Contracts: CountFrom (both). -/
namespace Go.Proofs.YtepekboechmngaaGreat
open Go.RowKit
set_option linter.unusedVariables false
set_option linter.unusedSimpArgs false
set_option maxHeartbeats 400000
set_option maxRecDepth 100000
theorem sl_newC (w : World) (cs : Array Value) (T : TypeId) (g : Nat) (hg : g = w.heap.size) : SlAt (g + 1) (w.alloc (.cells cs T)) (some ⟨g, 0, none⟩) cs.toList := by
  subst hg
  exact sl_new w cs T
/-- How many pieces fall. -/
def cntF (fs : List Fa) : Int := (fs.filter (fun f => decide (0 ≤ f.t))).length
theorem cntF_nil : cntF [] = 0 := rfl
theorem cntF_take (fs : List Fa) (k : Nat) (hk : k < fs.length) : cntF (fs.take (k + 1)) = cntF (fs.take k) + (if 0 ≤ fs[k].t then 1 else 0) := by
  rw [List.take_succ_eq_append_getElem hk]
  unfold cntF
  rw [List.filter_append, List.length_append]
  by_cases h : 0 ≤ fs[k].t
  · rw [if_pos h, List.filter_cons_of_pos (by simpa using h), List.filter_nil]; push_cast; rfl
  · rw [if_neg h, List.filter_cons_of_neg (by simpa using h), List.filter_nil]; push_cast; rfl
theorem cntF_le (fs : List Fa) : 0 ≤ cntF fs ∧ cntF fs ≤ fs.length := by
  unfold cntF
  have := List.length_filter_le (fun f : Fa => decide (0 ≤ f.t)) fs
  omega
/-- A push on a side from which the piece does not fall: nobody falls. -/
theorem runOf_none (ps : List Pc) (G : ∀ pl, (∀ p ∈ pl, 0 ≤ p.t ∧ p.t ≤ 1000) → Good ps pl) (p : Pu) (hp : 0 ≤ p.t ∧ p.t ≤ 1000) (n : Nat) (hn : n < ps.length) (hpn : (⟨p.x, p.y⟩ : Ce) = (ps.getD n default).at_) (hc : canH ps n (p.t, p.s, -1) = false) : runOf ps [p] = List.replicate ps.length (faOf none) := by
  have hG := G [p] (fun q hq => by rw [List.mem_singleton] at hq; subst hq; exact hp)
  refine (runOf_eq ps [p] _ hG ?_).symm
  refine okFa_least ps [p] _ (by simp) (fun i hi => ?_) (fun i hi => ⟨none, rep_get ps i hi, fun m hm => ?_⟩)
  · rw [rep_get ps i hi]; show (-1 : Int) ≤ -1; omega
  · obtain ⟨h1, h2⟩ := (mem_rep ps [p] i m).1 hm
    unfold candP at h2
    rw [List.mem_filterMap] at h2
    obtain ⟨q, hq, h3⟩ := h2
    rw [List.mem_singleton] at hq
    subst hq
    split at h3
    · rename_i e
      simp only [Option.some.injEq] at h3
      have e2 : (ps.getD i default).at_ = (ps.getD n default).at_ := by rw [← e, hpn]
      rw [getD_pc ps i hi, getD_pc ps n hn] at e2
      have e3 := (fnd_iff ps hG.nd (ps[n].at_) i).2 ⟨hi, e2⟩
      have e4 := (fnd_iff ps hG.nd (ps[n].at_) n).2 ⟨hn, rfl⟩
      have : i = n := by omega
      subst this
      rw [← h3, hc] at h1
      cases h1
    · cases h3
theorem cntF_rep (n : Nat) : cntF (List.replicate n (faOf none)) = 0 := by
  unfold cntF
  rw [List.filter_eq_nil_iff.2]
  · rfl
  · intro x hx
    rw [List.eq_of_mem_replicate hx]
    show ¬ decide ((0 : Int) ≤ -1) = true
    decide
noncomputable def cntV (l : Bd) (i s : Int) : Int := cntF (poList l i s)
end Go.Proofs.YtepekboechmngaaGreat
/- Contracts: slices of Int64, element for element. -/
namespace Go.Proofs.YtepekboechmngaaGreat
open Go.RowKit
set_option linter.unusedVariables false
set_option linter.unusedSimpArgs false
set_option maxHeartbeats 400000
set_option maxRecDepth 100000

def N64_ok (p : Int) : Prop := (-9223372036854775808 ≤ p ∧ p ≤ 9223372036854775807)
def N64_cells (p : Int) : List Value := [.int .i64 p]
theorem N64_len (p : Int) : (N64_cells p).length = 1 := rfl
theorem N64_one (p : Int) : ∀ u ∈ N64_cells p, u.oneCell' = true := by
  intro u hu
  simp only [N64_cells, List.mem_cons, List.not_mem_nil, or_false] at hu
  subst hu; rfl
def N64At (w : World) (b off : Nat) (p : Int) : Prop :=
  w.cell? ⟨b, off, none⟩ = some (.int .i64 p)
theorem n64s_get {B : Nat} {w : World} {a : Option Addr} {ps : List Int} (h : SlAt B w a (flat N64_cells ps)) {k : Nat} (hk : k < ps.length) :
    ∃ b off, a = some ⟨b, off, none⟩ ∧ b < B ∧ N64At w b (off + k * 1) ps[k] := by
  obtain ⟨b, off, h1, h2, h3⟩ := SlAt.get N64_len (by omega) h hk
  exact ⟨b, off, h1, h2, h3 0 _ rfl⟩
def mkN641 (k : Int) : Int := k
def mkN64 (k : Int) (n : Nat) : List Int := (List.range n).map fun (i : Nat) => (k + (i : Int))
theorem mkN64_succ (k : Int) (n : Nat) : mkN64 k (n + 1) = mkN64 k n ++ [k + n] := by simp [mkN64, List.range_succ]
theorem mkN64_len (k : Int) (n : Nat) : (mkN64 k n).length = n := by simp [mkN64]
theorem markInt64S_any {base n : Nat} {v : Value} {cs : List Value} (k0 : Int) (w : World) (hown : w.ownsRow base 2 1 v n cs) (hn : n ≤ 10000000) (h1 : 0 ≤ k0) (h2 : k0 ≤ 1000000000) :
    Calls Tryz.prog 27 #[v, .int .i64 k0] w fun e w' => e = .returned (.int .i64 (k0 + n)) ∧ w'.ownsRow base 2 1 v n (flat N64_cells (mkN64 k0 n)) ∧ w.grownBy w' v.ownBlock := by
  have hlen := hown.1
  rcases id hown.2 with ⟨rfl, rfl⟩ | ⟨g, cap, cur, rfl, -⟩
  · go_enter Tryz.func27, Tryz.ntmps27
    go_wp2
    refine wp_loop_rounds 1 ?_
    rw [rounds_succ]; go_wp2
    go_ret
    exact ⟨ret_int (by simp), by simpa [mkN64, flat_nil] using World.ownsRow_nil w base 2 1, World.grownBy.refl _ _⟩
  · go_enter Tryz.func27, Tryz.ntmps27
    go_wp2
    go_loopw [1, 5] (fun kk i wr => ∃ j : Nat, ∃ R : List Value, j ≤ n ∧ i = .int .i64 j ∧ kk = .int .i64 (k0 + j) ∧ R.length = (n - j) * 1 ∧ wr.ownsRow base 2 1 (Value.slice (some { block := g, off := 0 }) n cap) n (flat N64_cells (mkN64 k0 j) ++ R) ∧ w.grownBy wr (some g)) (fun _ i _ => n - (intOf i).toNat)
    case atStart => exact ⟨0, cs, by omega, rfl, by simp, by simpa using hlen, by simpa [mkN64, flat_nil] using hown, World.grownBy.refl _ _⟩
    case round =>
      clear hown hlen
      obtain ⟨j, R, hj, rfl, rfl, hR, hown, hg⟩ := hrel
      by_cases hlt : j < n
      · skip
        obtain ⟨⟨v0, c0⟩, f0⟩ := own_cell hown (j := j * 1) (by omega)
        simp only [Nat.mul_one] at c0 f0
        go_wp2
        have hown3 := own_setCells ([.int .i64 (k0 + (j : Int))]) hown (j := j * 1) (by rw [flat_length N64_len, mkN64_len]) (by rw [hR]; simp; omega)
        have hg3 := grown_trans hg (grown_setCells g ([.int .i64 (k0 + (j : Int))]) wr (j * 1))
        simp only [Nat.mul_one] at hown3 hg3
        clear c0 f0 hown hg
        go_roundw
        case rel => exact ⟨j + 1, R.drop 1, by omega, by go_num, by simp; omega, by simp [hR]; omega, by rw [mkN64_succ, flat_append, flat_cons, flat_nil, List.append_nil]; exact hown3, hg3⟩
        case measure => simp [intOf]; omega
      · go_wp2
        go_ret
        have hjn : j = n := by omega
        have hR0 : R = [] := by apply List.eq_nil_of_length_eq_zero; rw [hR, hjn]; simp
        rw [hR0, List.append_nil, hjn] at hown
        exact ⟨ret_int (by rw [hjn]), hown, hg⟩
theorem heldInt64S_any {B : Nat} (a : Option Addr) (n cap : Nat) (k0 : Int) (w : World) (h : SlAt B w a (flat N64_cells (mkN64 k0 n))) (hn : n ≤ 10000000) (h1 : 0 ≤ k0) (h2 : k0 ≤ 1000000000) :
    Calls Tryz.prog 28 #[.slice a n cap, .int .i64 k0] w fun e w' => e = .returned (.int .i64 (k0 + n)) ∧ w = w' := by
  go_enter Tryz.func28, Tryz.ntmps28
  go_wp2
  go_loopw [1, 5] (fun kk i wr => ∃ j : Nat, j ≤ n ∧ i = .int .i64 j ∧ kk = .int .i64 (k0 + j) ∧ wr = w) (fun _ i _ => n - (intOf i).toNat)
  case atStart => exact ⟨0, by omega, rfl, by simp, rfl⟩
  case round =>
    obtain ⟨j, hj, rfl, rfl, rfl⟩ := hrel
    by_cases hlt : j < n
    · obtain ⟨b, off, rfl, hbl, hat⟩ := n64s_get h (k := j) (by rw [mkN64_len]; exact hlt)
      have hj5 : (mkN64 k0 n)[j]'(by rw [mkN64_len]; exact hlt) = k0 + (j : Int) := by simp [mkN64]
      rw [hj5] at hat
      clear hj5
      unfold N64At at hat
      simp only [Nat.mul_one] at hat
      go_wp2
      go_roundw
      case rel => exact ⟨j + 1, by omega, by go_num, by simp; omega, by trivial⟩
      case measure => simp [intOf]; omega
    · go_wp2
      go_ret
      have hjn : j = n := by omega
      first | exact ⟨ret_int (by rw [hjn]), rfl⟩ | exact ⟨ret_int (by rw [hjn]), trivial⟩
theorem eqInt64S_any {B : Nat} (a a' : Option Addr) (cap cap' : Nat) (ps qs : List Int) (w : World) (hps : SlAt B w a (flat N64_cells ps)) (hqs : SlAt B w a' (flat N64_cells qs)) (hB : B ≤ w.heap.size) (hn : ps.length ≤ 10000000) (hn' : qs.length ≤ 10000000) :
    Calls Tryz.prog 26 #[.slice a ps.length cap, .slice a' qs.length cap'] w fun e w' => e = .returned (.bool (decide (ps = qs))) ∧ Below w.heap.size w w' := by
  by_cases hl : ps.length = qs.length
  · have hl2 : ((ps.length : Int) != (qs.length : Int)) = false := by simp [hl]
    have Hl := Lib.hid hl; clear hl
    go_enter Tryz.func26, Tryz.ntmps26
    go_wp2
    go_loopw [5] (fun i wr => ∃ k : Nat, k ≤ ps.length ∧ i = .int .i64 k ∧ ps.take k = qs.take k ∧ Below w.heap.size w wr) (fun i _ => ps.length - (intOf i).toNat)
    case atStart => exact ⟨0, by omega, rfl, by simp, Below.refl _ _⟩
    case round =>
      obtain ⟨k, hk, rfl, heq, hb⟩ := hrel
      have Heq := Lib.hid heq; clear heq
      by_cases hlt : k < ps.length
      · have hlt' : k < qs.length := by rw [← Hl.out]; exact hlt
        obtain ⟨b, off, rfl, hbl, hat⟩ := n64s_get (hps.below hb hB) hlt
        obtain ⟨b', off', rfl, hbl', hat'⟩ := n64s_get (hqs.below hb hB) hlt'
        unfold N64At at hat hat'
        simp only [Nat.mul_one] at hat hat'
        go_wp2
        go_quiet (fail)
        go_wp2
        · have h1 : (ps[k] != qs[k]) = true := by assumption
          go_ret
          have hne : ps ≠ qs := by rintro rfl; simp at h1
          exact ⟨by simp [hne], (by repeat (first | with_reducible exact Below.refl _ _ | with_reducible assumption | with_reducible apply bl_drewN | with_reducible apply bl_drew | with_reducible apply bl_alloc | (with_reducible refine bl_set ?_ (by first | (simp; done) | (simp; omega)) _) | with_reducible refine bl_trans ?_ (by with_reducible assumption)))⟩
        · have h1 : (ps[k] != qs[k]) = false := by assumption
          have h2 : ps[k] = qs[k] := by simpa using h1
          go_roundw
          case rel => exact ⟨k + 1, by omega, by go_num, by rw [List.take_succ_eq_append_getElem hlt, List.take_succ_eq_append_getElem hlt', Heq.out, h2], (by repeat (first | with_reducible exact Below.refl _ _ | with_reducible assumption | with_reducible apply bl_drewN | with_reducible apply bl_drew | with_reducible apply bl_alloc | (with_reducible refine bl_set ?_ (by first | (simp; done) | (simp; omega)) _) | with_reducible refine bl_trans ?_ (by with_reducible assumption)))⟩
          case measure => simp [intOf]; omega
      · go_wp2
        go_ret
        have hne : ps = qs := by
          have := Heq.out
          rwa [List.take_of_length_le (by omega), List.take_of_length_le (by have := Hl.out; omega)] at this
        exact ⟨by simp [hne], (by repeat (first | with_reducible exact Below.refl _ _ | with_reducible assumption | with_reducible apply bl_drewN | with_reducible apply bl_drew | with_reducible apply bl_alloc | (with_reducible refine bl_set ?_ (by first | (simp; done) | (simp; omega)) _) | with_reducible refine bl_trans ?_ (by with_reducible assumption)))⟩
  · have hl2 : ((ps.length : Int) != (qs.length : Int)) = true := by simp; omega
    have Hl := Lib.hid hl; clear hl
    go_enter Tryz.func26, Tryz.ntmps26
    go_wp2
    go_ret
    have hne : ps ≠ qs := fun h => Hl.out (by rw [h])
    exact ⟨by simp [hne], (by repeat (first | with_reducible exact Below.refl _ _ | with_reducible assumption | with_reducible apply bl_drewN | with_reducible apply bl_drew | with_reducible apply bl_alloc | (with_reducible refine bl_set ?_ (by first | (simp; done) | (simp; omega)) _) | with_reducible refine bl_trans ?_ (by with_reducible assumption)))⟩
theorem Tryz.infoInt64 : (Tryz.prog.info? 2).map (fun i => (i.zero, i.size, i.bytes)) = some (some (.int .i64 0), 1, 8) := by kernel_rfl
theorem eqInt64S_rv {w : World} {v v' : Value} {ps qs : List Int} (h : RV N64_cells w v ps) (h' : RV N64_cells w v' qs) (hn : ps.length ≤ 10000000) (hn' : qs.length ≤ 10000000) :
    Calls Tryz.prog 26 #[v, v'] w fun e w' => e = .returned (.bool (decide (ps = qs))) ∧ Below w.heap.size w w' := by
  obtain ⟨a, cap, rfl, h⟩ := h
  obtain ⟨a', cap', rfl, h'⟩ := h'
  exact eqInt64S_any a a' cap cap' ps qs w h h' (Nat.le_refl _) hn hn'
theorem eqInt64S_yes {w : World} {v v' : Value} {ps : List Int} (h : RV N64_cells w v ps) (h' : RV N64_cells w v' ps) (hn : ps.length ≤ 10000000) :
    Calls Tryz.prog 26 #[v, v'] w fun e w' => e = .returned (.bool true) ∧ Below w.heap.size w w' := by
  have := eqInt64S_rv h h' hn hn
  simpa using this
theorem heldInt64S_own {w : World} {base n : Nat} {v : Value} (k0 : Int) (h : w.ownsRow base 2 1 v n (flat N64_cells (mkN64 k0 n))) (hn : n ≤ 10000000) (h1 : 0 ≤ k0) (h2 : k0 ≤ 1000000000) :
    Calls Tryz.prog 28 #[v, .int .i64 k0] w fun e w' => e = .returned (.int .i64 (k0 + n)) ∧ w = w' := by
  obtain ⟨a, cap, rfl, h, -⟩ := own_at h
  exact heldInt64S_any a n cap k0 w h hn h1 h2
end Go.Proofs.YtepekboechmngaaGreat
/- Contracts: the places of falls of which something is so. -/
namespace Go.Proofs.YtepekboechmngaaGreat
open Go.RowKit
set_option linter.unusedVariables false
set_option linter.unusedSimpArgs false
set_option maxHeartbeats 400000
set_option maxRecDepth 100000
def idxTo (p : Fa → Bool) (fs : List Fa) (k : Nat) : List Int := ((List.range k).filter (fun i => p (fs.getD i default))).map (fun (i : Nat) => (i : Int))
def idxP (p : Fa → Bool) (fs : List Fa) : List Int := idxTo p fs fs.length
theorem idxTo_succ (p : Fa → Bool) (fs : List Fa) (k : Nat) (hk : k < fs.length) : idxTo p fs (k + 1) = idxTo p fs k ++ (if p fs[k] = true then [(k : Int)] else []) := by
  unfold idxTo
  rw [List.range_succ, List.filter_append, List.map_append, ← getD_fa fs k hk]
  by_cases h : p (fs.getD k default) = true
  · rw [if_pos h, List.filter_cons_of_pos (by simpa using h)]; rfl
  · rw [if_neg h, List.filter_cons_of_neg (by simpa using h)]; rfl
theorem idxTo_len (p : Fa → Bool) (fs : List Fa) (k : Nat) : (idxTo p fs k).length ≤ k := by
  unfold idxTo
  rw [List.length_map]
  exact Nat.le_trans (List.length_filter_le _ _) (by simp)
set_option maxHeartbeats 1600000 in
theorem indices_anyP {B : Nat} (K : Nat) (caps : Array Value) (p : Fa → Bool) (a : Option Addr) (cap : Nat) (fs : List Fa) (w : World) (h : SlAt B w a (flat Fa.cells fs)) (hB : B ≤ w.heap.size) (hn : fs.length ≤ 10000)
    (eg : ∀ (args : Array Value) (w : World), (callFunc K args).run Tryz.prog w = .ok (.enter K args) w) (hf : ∀ (F : Fa) (w1 : World), F ∈ fs → Below w.heap.size w w1 → Calls Tryz.prog K (#[F.val] ++ caps) w1 fun e w' => e = .returned (.bool (p F)) ∧ Below w1.heap.size w1 w') :
    Calls Tryz.prog 49 #[.slice a fs.length cap, .func (.func K) #[] caps] w fun e w' => ∃ v, e = .returned v ∧ w'.ownsRow w.heap.size 2 1 v (idxP p fs).length (flat N64_cells (idxP p fs)) ∧ Below w.heap.size w w' := by
  have HCT := Lib.hid (fun k hk => idxTo_succ p fs k hk)
  have HLE := Lib.hid (fun k => idxTo_len p fs k)
  have HF := Lib.hid hf
  clear hf
  obtain ⟨i0, hi0, hiz0, hiz1, hiz2⟩ := info_parts Tryz.infoInt64
  have hown0 := World.ownsRow_made (e := 2) (size := 1) w #[] 0 (Nat.le_refl _) (by simp [maxLen]) rfl
  have hb0 : Below w.heap.size w (w.alloc (.cells #[] 2)) := bl_alloc (Below.refl _ _)
  go_enter Tryz.func49, Tryz.ntmps49
  go_wp2
  go_loopw [5, 11] (fun v ix wr => ∃ k : Nat, k ≤ fs.length ∧ ix = .int .i64 k ∧ wr.ownsRow w.heap.size 2 1 v (idxTo p fs k).length (flat N64_cells (idxTo p fs k)) ∧ Below w.heap.size w wr) (fun _ ix _ => fs.length - (intOf ix).toNat)
  case atStart => exact ⟨0, by omega, rfl, hown0, hb0⟩
  case round =>
    clear hown0 hb0
    obtain ⟨k, hk, rfl, hown, hb⟩ := hrel
    obtain ⟨av, capv, hve, -, -, -⟩ := own_at hown
    subst hve
    have HOWN := Lib.hid hown
    have hzb := hb.size
    have hle := HLE.out k
    clear hown
    by_cases hlt : k < fs.length
    · obtain ⟨b, off, rfl, hbl, hat⟩ := fas_get h hlt
      have hbw : b < w.heap.size := by omega
      unfold FaAt at hat
      obtain ⟨a0, a1, a2⟩ := hat
      have r0 : wr.cell? ⟨b, off + k * 3, none⟩ = some (.int .i64 fs[k].t) := by rw [hb.cell (p := ⟨_, _, none⟩) hbw]; exact a0
      have r1 : wr.cell? ⟨b, off + k * 3 + 1, none⟩ = some (.int .i8 fs[k].f) := by rw [hb.cell (p := ⟨_, _, none⟩) hbw]; exact a1
      have r2 : wr.cell? ⟨b, off + k * 3 + 2, none⟩ = some (.int .i64 fs[k].b) := by rw [hb.cell (p := ⟨_, _, none⟩) hbw]; exact a2
      have HC := Lib.hid (HCT.out k hlt)
      have hmem : fs[k] ∈ fs := List.getElem_mem hlt
      obtain ⟨F, hF⟩ : ∃ F, F = fs[k] := ⟨_, rfl⟩
      rw [← hF] at r0 r1 r2 HC hmem
      have hb1 : Below w.heap.size w (wr.alloc (.cells #[.int .i64 F.t, .int .i8 F.f, .int .i64 F.b] 71)) := bl_alloc hb
      have HCO := Lib.hid (HF.out F _ hmem hb1)
      have HB1 := Lib.hid hb1
      clear a0 a1 a2 hF hmem hb1
      obtain ⟨n, hnn⟩ : ∃ n, n = (idxTo p fs k).length := ⟨_, rfl⟩
      rw [← hnn] at HOWN hle ⊢
      have HNN := Lib.hid hnn
      clear hnn
      cases hp : p F with
      | true =>
        rw [hp] at HCO
        have HC2 : Hid (idxTo p fs (k + 1) = idxTo p fs k ++ [(k : Int)]) := Lib.hid (by rw [HC.out, if_pos hp])
        clear hp
        go_wp2_with fail
        refine HCO.out.mono ?_
        rintro e w2 ⟨rfl, hb2⟩
        have hb02 := bl_trans HB1.out hb2
        have own2 := own_below HOWN.out (bl_trans (bl_alloc (o := .cells #[.int .i64 F.t, .int .i8 F.f, .int .i64 F.b] 71) (Below.refl wr.heap.size wr)) hb2) (Nat.le_refl _)
        have HB2 := Lib.hid hb02
        have HO2 := Lib.hid own2
        have hz2 := hb02.size
        clear hb02 own2 hb2
        go_wp2_with (at_builtin; go_must (refine wpList_append_sl _ rfl _ _ 47 rfl w.heap.size 2 i0 (.int .i64 0) 1 8 Tryz.underlying47 hi0 hiz0 hiz1 hiz2 rfl (by decide) _ _ _ rfl (own_below HO2.out (bl_alloc (Below.refl _ _)) (Nat.le_refl _)) (some ⟨w2.heap.size, 0, none⟩) 1 1 [.int .i64 (k : Int)] rfl (sl_newC w2 #[.int .i64 (k : Int)] 2 _ rfl) rfl (by intro u hu; rw [List.mem_singleton] at hu; subst hu; rfl) (by unfold maxLen; omega) (by omega) (by simp; omega) ?_); intro v3 w3 hown3 hgrow)
        have hb3 : Below w.heap.size w w3 := (bl_alloc (o := .cells #[.int .i64 (k : Int)] 2) HB2.out).grown hgrow (by simp; omega) (fun q hq => (HO2.out.lt q hq).1)
        have hnn2 : n + 1 = (idxTo p fs (k + 1)).length := by rw [HC2.out, List.length_append, ← HNN.out]; rfl
        have hcells : flat N64_cells (idxTo p fs k) ++ [.int .i64 (k : Int)] = flat N64_cells (idxTo p fs (k + 1)) := by rw [HC2.out, flat_append]; rfl
        rw [hcells] at hown3
        go_roundw
        case rel => exact ⟨k + 1, by omega, by go_num, by rw [← hnn2]; exact hown3, hb3⟩
        case measure => simp [intOf]; omega
      | false =>
        rw [hp] at HCO
        have HC2 : Hid (idxTo p fs (k + 1) = idxTo p fs k) := Lib.hid (by rw [HC.out, if_neg (by rw [hp]; exact Bool.false_ne_true), List.append_nil])
        clear hp
        go_wp2_with fail
        refine HCO.out.mono ?_
        rintro e w2 ⟨rfl, hb2⟩
        have hb02 := bl_trans HB1.out hb2
        have own2 := own_below HOWN.out (bl_trans (bl_alloc (o := .cells #[.int .i64 F.t, .int .i8 F.f, .int .i64 F.b] 71) (Below.refl wr.heap.size wr)) hb2) (Nat.le_refl _)
        have HO2 := Lib.hid own2
        clear own2
        go_wp2
        go_roundw
        case rel => exact ⟨k + 1, by omega, by go_num, by rw [HC2.out, ← HNN.out]; exact HO2.out, hb02⟩
        case measure => simp [intOf]; omega
    · have hkn : k = fs.length := by omega
      subst hkn
      have HOWN2 := HOWN.out
      go_wp2
      go_ret
      exact ⟨_, rfl, HOWN2, hb⟩
end Go.Proofs.YtepekboechmngaaGreat
/- Contracts: LastTick, FallenUntil, StandingAfter (both). -/
namespace Go.Proofs.YtepekboechmngaaGreat
open Go.RowKit
set_option linter.unusedVariables false
set_option linter.unusedSimpArgs false
set_option maxHeartbeats 400000
set_option maxRecDepth 100000
theorem runOf_ge (ps : List Pc) (pl : List Pu) (k : Nat) (hk : k < (runOf ps pl).length) : -1 ≤ (runOf ps pl)[k].t := by
  have hkp : k < ps.length := by rw [← runOf_length ps pl]; exact hk
  have key : -1 ≤ ((runOf ps pl).getD k default).t := by
    unfold runOf
    split
    · rename_i h
      exact h.choose_spec.2.1 k hkp
    · rw [rep_get ps k hkp]; exact Int.le_refl _
  rw [getD_fa _ k hk] at key
  exact key
theorem cell_new0 (w : World) (u : Value) (T : TypeId) (g : Nat) (hg : g = w.heap.size) : (w.alloc (.cells #[u] T)).cell? ⟨g, 0, none⟩ = some u := by
  subst hg
  obtain ⟨b, off, h1, h2, h3⟩ := sl_new w #[u] T 0 (by simp)
  simp only [Option.some.injEq, Addr.mk.injEq, and_true] at h1
  obtain ⟨rfl, rfl⟩ := h1
  exact h3
/-- The greatest tick. -/
def lastTo (fs : List Fa) (k : Nat) : Int := (fs.take k).foldl (fun m f => max m f.t) (-1)
def lastF (fs : List Fa) : Int := lastTo fs fs.length
theorem lastTo_succ (fs : List Fa) (k : Nat) (hk : k < fs.length) : lastTo fs (k + 1) = max (lastTo fs k) fs[k].t := by
  unfold lastTo
  rw [List.take_succ_eq_append_getElem hk, List.foldl_append]
  rfl
theorem lastTo_ge (fs : List Fa) (k : Nat) (hk : k ≤ fs.length) : -1 ≤ lastTo fs k := by
  induction k with
  | zero => unfold lastTo; simp
  | succ k ih =>
    rw [lastTo_succ fs k (by omega)]
    have := ih (by omega)
    omega
noncomputable def ltCode (l : Bd) (pl : List Pu) : Int := if (vBd l && vPus l pl) = true then (if lastF (runOf l.ps pl) < 0 then 6 else 0) else 1
noncomputable def ltVal (l : Bd) (pl : List Pu) : Int := if (vBd l && vPus l pl) = true then (if lastF (runOf l.ps pl) < 0 then 0 else lastF (runOf l.ps pl)) else 0
def fuCode (l : Bd) (pl : List Pu) (t : Int) : Int := if (vBd l && vPus l pl) = true then (if inB t 0 1000000 = true then 0 else 2) else 1
noncomputable def fuList (l : Bd) (pl : List Pu) (t : Int) : List Int := if fuCode l pl t = 0 then idxP (fun f => inB f.t 0 t) (runOf l.ps pl) else []
noncomputable def saList (l : Bd) (pl : List Pu) : List Int := if (vBd l && vPus l pl) = true then idxP (fun f => decide (f.t < 0)) (runOf l.ps pl) else []
theorem idxP_len (p : Fa → Bool) (fs : List Fa) : (idxP p fs).length ≤ fs.length := idxTo_len p fs fs.length
theorem fuList_len (l : Bd) (pl : List Pu) (t : Int) : (fuList l pl t).length ≤ l.ps.length := by
  unfold fuList
  split
  · exact Nat.le_trans (idxP_len _ _) (runOf_len _ _)
  · exact Nat.zero_le _
theorem saList_len (l : Bd) (pl : List Pu) : (saList l pl).length ≤ l.ps.length := by
  unfold saList
  split
  · exact Nat.le_trans (idxP_len _ _) (runOf_len _ _)
  · exact Nat.zero_le _
theorem runOf_len200 (l : Bd) (pl : List Pu) (hv : vBd l = true) : (runOf l.ps pl).length ≤ 200 := by
  have c5 : l.ps.length ≤ 200 := (vBd_bounds _ hv).2.2.2.2
  exact Nat.le_trans (runOf_len _ _) c5
theorem l00Max_any (a b : Int) (w : World) : Calls Tryz.prog 46 #[.int .i64 a, .int .i64 b] w fun e w' => e = .returned (.int .i64 (max a b)) ∧ w = w' := by
  rcases dec_cases (a < b) with ⟨g1, g2⟩ | ⟨g1, g2⟩
  all_goals
    rcases dec_cases (b < a) with ⟨g3, g4⟩ | ⟨g3, g4⟩
    all_goals
      rcases dec_cases (a ≤ b) with ⟨g5, g6⟩ | ⟨g5, g6⟩
      all_goals
        rcases dec_cases (b ≤ a) with ⟨g7, g8⟩ | ⟨g7, g8⟩
        all_goals
          first
          | omega
          | (go_enter Tryz.func46, Tryz.ntmps46
             go_wp2
             go_ret
             exact ⟨ret_int (by omega), rfl⟩)
theorem specLastTick_any (wd hg : Int) (s : Value) (ps : List Pc) (v1 : Value) (pl : List Pu) (w : World) (hps : PV w s ps) (hok : (Bd.mk wd hg ps).ok) (hn : ps.length ≤ 9000000) (h1 : SV Pu.cells w v1 pl) (ok1 : PusOk pl) (n1 : pl.length ≤ 9000000) :
    Calls Tryz.prog 22 #[bdv wd hg s, v1] w fun e w' => e = .returned (.tuple #[.int .i64 (ltVal ⟨wd, hg, ps⟩ pl), .int .i64 (ltCode ⟨wd, hg, ps⟩ pl)]) ∧ Below w.heap.size w w' := by
  have HB := Lib.hid (BP.new (l := ⟨wd, hg, ps⟩) (w := w) hps 34)
  have hba : Below w.heap.size w (w.alloc (.cells #[.int .i8 wd, .int .i8 hg, s] 34)) := bl_alloc (Below.refl _ _)
  obtain ⟨a, cap, rfl, -⟩ := hps
  obtain ⟨a1, cap1, rfl, h1⟩ := h1
  have H1 := Lib.hid (l02Asked_any (B := w.heap.size) w.heap.size ⟨wd, hg, ps⟩ a1 cap1 pl _ HB.out hok (show ps.length ≤ 10000000 by omega) (h1.below hba (Nat.le_refl _)) ok1 hba.size (by omega))
  have HBA := Lib.hid hba
  clear hba
  cases g1 : (vBd ⟨wd, hg, ps⟩ && vPus ⟨wd, hg, ps⟩ pl) with
  | true =>
    obtain ⟨hv, hpl, hin, hn20⟩ := ask_ok _ _ g1
    have HA : Hid (askV ⟨wd, hg, ps⟩ pl = 0) := Lib.hid (by unfold askV; rw [g1]; rfl)
    have HC : Hid (ltCode ⟨wd, hg, ps⟩ pl = (if lastF (runOf ps pl) < 0 then 6 else 0)) := Lib.hid (by unfold ltCode; rw [g1]; rfl)
    have HL : Hid (ltVal ⟨wd, hg, ps⟩ pl = (if lastF (runOf ps pl) < 0 then 0 else lastF (runOf ps pl))) := Lib.hid (by unfold ltVal; rw [g1]; rfl)
    have HG := Lib.hid (good_bd ⟨wd, hg, ps⟩ hv pl hpl)
    have HN := Lib.hid (runOf_len200 ⟨wd, hg, ps⟩ pl hv)
    rw [HC.out, HL.out]
    rw [HA.out] at H1
    have HPL := Lib.hid hpl
    have HIN := Lib.hid hin
    obtain ⟨fs, hfs⟩ : ∃ fs, fs = runOf ps pl := ⟨_, rfl⟩
    have hn2 : fs.length ≤ 200 := by rw [hfs]; exact HN.out
    rw [← hfs]
    have HFS := Lib.hid hfs
    clear hfs HN
    obtain ⟨lv, hlv⟩ : ∃ lv, lv = (if lastF fs < 0 then 0 else lastF fs) := ⟨_, rfl⟩
    obtain ⟨lc, hlc⟩ : ∃ lc : Int, lc = (if lastF fs < 0 then 6 else 0) := ⟨_, rfl⟩
    rw [← hlv, ← hlc]
    have HLV : Hid (lv = (if lastTo fs fs.length < 0 then 0 else lastTo fs fs.length)) := Lib.hid hlv
    have HLC : Hid (lc = (if lastTo fs fs.length < 0 then 6 else 0)) := Lib.hid hlc
    clear hlv hlc
    clear g1 HC HL HA hpl hin
    go_enter Tryz.func22, Tryz.ntmps22
    go_wp2_with fail
    refine H1.out.mono ?_
    rintro e w1 ⟨rfl, hb1⟩
    have hb01 := bl_trans HBA.out hb1
    have HF := Lib.hid (l02Run_any (B := w.heap.size) w.heap.size ⟨wd, hg, ps⟩ a1 cap1 pl w1 (HB.out.step hb1) hv (h1.below hb01 (Nat.le_refl _)) ok1 HPL.out HIN.out hn20 hb01.size)
    have HB01 := Lib.hid hb01
    clear hb01 hb1
    go_wp2_with fail
    refine HF.out.mono ?_
    rintro e w2 ⟨v, fs', rfl, hown, hokf, -, hb2⟩
    have he : fs = fs' := by rw [HFS.out]; exact (runOf_eq _ _ _ HG.out hokf).symm
    subst he
    obtain ⟨av, capv, hve, hsl, -, -⟩ := own_at hown
    subst hve
    have HB02 := Lib.hid (bl_trans HB01.out hb2)
    have HCT := Lib.hid (fun k hk => lastTo_succ fs k hk)
    clear hown hb2 hokf HFS HG HF HB01 HB H1 h1
    go_wp2
    go_loopw [8, 9] (fun cx ix wr => ∃ k : Nat, k ≤ fs.length ∧ ix = .int .i64 k ∧ cx = .int .i64 (lastTo fs k) ∧ Below w2.heap.size w2 wr) (fun _ ix _ => fs.length - (intOf ix).toNat)
    case atStart => exact ⟨0, by omega, rfl, rfl, Below.refl _ _⟩
    case round =>
      obtain ⟨k, hk, rfl, rfl, hb⟩ := hrel
      by_cases hlt : k < fs.length
      · obtain ⟨b, off, rfl, hbl, hat⟩ := fas_get hsl hlt
        have r0 : wr.cell? ⟨b, off + k * 3, none⟩ = some (.int .i64 fs[k].t) := by rw [hb.cell (p := ⟨_, _, none⟩) hbl]; exact hat.1
        have HC := Lib.hid (HCT.out k hlt)
        obtain ⟨c, hc⟩ : ∃ c, c = lastTo fs k := ⟨_, rfl⟩
        rw [← hc] at HC ⊢
        obtain ⟨ft, hft⟩ : ∃ ft, ft = fs[k].t := ⟨_, rfl⟩
        rw [← hft] at HC r0
        clear hc hft hat
        go_wp2_with (go_at_call 46; refine (l00Max_any _ _ _).mono ?_; rintro e w' ⟨rfl, rfl⟩)
        go_roundw
        case rel => exact ⟨k + 1, by omega, by go_num, by rw [HC.out], hb⟩
        case measure => simp [intOf]; omega
      · have hkn : k = fs.length := by omega
        subst hkn
        obtain ⟨c, hc⟩ : ∃ c, c = lastTo fs fs.length := ⟨_, rfl⟩
        rw [← hc]
        have HC9 := Lib.hid hc
        clear hc
        rcases dec_cases (c < 0) with ⟨g, g'⟩ | ⟨g, g'⟩
        · go_wp2
          go_ret2
          exact ⟨by rw [HLV.out, HLC.out, ← HC9.out, if_pos g', if_pos g']; rfl, bl_trans HB02.out hb⟩
        · go_wp2
          go_ret2
          exact ⟨by rw [HLV.out, HLC.out, ← HC9.out, if_neg (Int.not_lt.2 g'), if_neg (Int.not_lt.2 g')]; rfl, bl_trans HB02.out hb⟩
  | false =>
    have HA : Hid (askV ⟨wd, hg, ps⟩ pl = 1) := Lib.hid (by unfold askV; rw [g1]; rfl)
    have HC : Hid (ltCode ⟨wd, hg, ps⟩ pl = 1) := Lib.hid (by unfold ltCode; rw [g1]; rfl)
    have HL : Hid (ltVal ⟨wd, hg, ps⟩ pl = 0) := Lib.hid (by unfold ltVal; rw [g1]; rfl)
    rw [HC.out, HL.out]
    rw [HA.out] at H1
    clear g1 HC HL HA
    go_enter Tryz.func22, Tryz.ntmps22
    go_wp2_with fail
    refine H1.out.mono ?_
    rintro e w1 ⟨rfl, hb1⟩
    have hb01 := bl_trans HBA.out hb1
    go_wp2
    go_ret2
    exact ⟨rfl, hb01⟩
theorem lastTick_any (wd hg : Int) (s : Value) (ps : List Pc) (v1 : Value) (pl : List Pu) (w : World) (hps : PV w s ps) (hok : (Bd.mk wd hg ps).ok) (hn : ps.length ≤ 9000000) (h1 : SV Pu.cells w v1 pl) (ok1 : PusOk pl) (n1 : pl.length ≤ 9000000) :
    Calls Tryz.prog 23 #[bdv wd hg s, v1] w fun e w' => e = .returned (.tuple #[.int .i64 (ltVal ⟨wd, hg, ps⟩ pl), .int .i64 (ltCode ⟨wd, hg, ps⟩ pl)]) ∧ Below w.heap.size w w' := by
  have HRB := Lib.hid (fun w1 (hb : Below w.heap.size w w1) => implRunBoard_any wd hg s ps v1 pl w1 (hps.step hb) hok hn (h1.step hb) ok1 n1)
  obtain ⟨a, cap, rfl, -⟩ := hps
  obtain ⟨a1, cap1, rfl, -⟩ := h1
  cases g1 : (vBd ⟨wd, hg, ps⟩ && vPus ⟨wd, hg, ps⟩ pl) with
  | true =>
    obtain ⟨hv, hpl, hin, hn20⟩ := ask_ok _ _ g1
    have HC0 : Hid (rbCode ⟨wd, hg, ps⟩ pl = 0) := Lib.hid (by unfold rbCode; rw [g1]; rfl)
    have HL0 : Hid (rbList ⟨wd, hg, ps⟩ pl = runOf ps pl) := Lib.hid (by unfold rbList; rw [g1]; rfl)
    have HC : Hid (ltCode ⟨wd, hg, ps⟩ pl = (if lastF (runOf ps pl) < 0 then 6 else 0)) := Lib.hid (by unfold ltCode; rw [g1]; rfl)
    have HL : Hid (ltVal ⟨wd, hg, ps⟩ pl = (if lastF (runOf ps pl) < 0 then 0 else lastF (runOf ps pl))) := Lib.hid (by unfold ltVal; rw [g1]; rfl)
    have HN := Lib.hid (runOf_len200 ⟨wd, hg, ps⟩ pl hv)
    rw [HC.out, HL.out]
    rw [HC0.out, HL0.out] at HRB
    obtain ⟨fs, hfs⟩ : ∃ fs, fs = runOf ps pl := ⟨_, rfl⟩
    have hn2 : fs.length ≤ 200 := by rw [hfs]; exact HN.out
    rw [← hfs] at HRB ⊢
    obtain ⟨lv, hlv⟩ : ∃ lv, lv = (if lastF fs < 0 then 0 else lastF fs) := ⟨_, rfl⟩
    obtain ⟨lc, hlc⟩ : ∃ lc : Int, lc = (if lastF fs < 0 then 6 else 0) := ⟨_, rfl⟩
    rw [← hlv, ← hlc]
    have HLV : Hid (lv = (if lastTo fs fs.length < 0 then 0 else lastTo fs fs.length)) := Lib.hid hlv
    have HLC : Hid (lc = (if lastTo fs fs.length < 0 then 6 else 0)) := Lib.hid hlc
    clear hlv hlc
    clear g1 HC HL HC0 HL0 hpl hin hv hfs HN
    go_enter Tryz.func23, Tryz.ntmps23
    go_wp2_with fail
    refine (HRB.out _ (by repeat (first | with_reducible exact Below.refl _ _ | with_reducible assumption | with_reducible apply bl_drewN | with_reducible apply bl_drew | with_reducible apply bl_alloc | (with_reducible refine bl_set ?_ (by first | (simp; done) | (simp; omega)) _) | with_reducible refine bl_trans ?_ (by with_reducible assumption)))).mono ?_
    rintro e w2 ⟨v, rfl, hown, hb2⟩
    obtain ⟨av, capv, hve, hsl, -, -⟩ := own_at hown
    subst hve
    have hb02 : Below w.heap.size w w2 := (by repeat (first | with_reducible exact Below.refl _ _ | with_reducible assumption | with_reducible apply bl_drewN | with_reducible apply bl_drew | with_reducible apply bl_alloc | (with_reducible refine bl_set ?_ (by first | (simp; done) | (simp; omega)) _) | with_reducible refine bl_trans ?_ (by with_reducible assumption)))
    have HCT := Lib.hid (fun k hk => lastTo_succ fs k hk)
    have HGE := Lib.hid (lastTo_ge fs fs.length (Nat.le_refl _))
    clear hown hb2
    go_wp2
    go_loopw [8, 22] (fun cx ix wr => ∃ k : Nat, k ≤ fs.length ∧ ix = .int .i64 k ∧ cx = .int .i64 (lastTo fs k) ∧ Below w2.heap.size w2 wr) (fun _ ix _ => fs.length - (intOf ix).toNat)
    case atStart => exact ⟨0, by omega, rfl, rfl, (by repeat (first | with_reducible exact Below.refl _ _ | with_reducible assumption | with_reducible apply bl_drewN | with_reducible apply bl_drew | with_reducible apply bl_alloc | (with_reducible refine bl_set ?_ (by first | (simp; done) | (simp; omega)) _) | with_reducible refine bl_trans ?_ (by with_reducible assumption)))⟩
    case round =>
      obtain ⟨k, hk, rfl, rfl, hb⟩ := hrel
      by_cases hlt : k < fs.length
      · obtain ⟨b, off, rfl, hbl, hat⟩ := fas_get hsl hlt
        unfold FaAt at hat
        obtain ⟨a0, a1, a2⟩ := hat
        have r0 : wr.cell? ⟨b, off + k * 3, none⟩ = some (.int .i64 fs[k].t) := by rw [hb.cell (p := ⟨_, _, none⟩) hbl]; exact a0
        have r1 : wr.cell? ⟨b, off + k * 3 + 1, none⟩ = some (.int .i8 fs[k].f) := by rw [hb.cell (p := ⟨_, _, none⟩) hbl]; exact a1
        have r2 : wr.cell? ⟨b, off + k * 3 + 2, none⟩ = some (.int .i64 fs[k].b) := by rw [hb.cell (p := ⟨_, _, none⟩) hbl]; exact a2
        have HC := Lib.hid (HCT.out k hlt)
        obtain ⟨c, hc⟩ : ∃ c, c = lastTo fs k := ⟨_, rfl⟩
        rw [← hc] at HC ⊢
        obtain ⟨F, hF⟩ : ∃ F, F = fs[k] := ⟨_, rfl⟩
        rw [← hF] at HC r0 r1 r2
        clear hc hF a0 a1 a2
        go_wp2
        go_roundw
        case rel => exact ⟨k + 1, by omega, by go_num, by rw [HC.out], bl_alloc hb⟩
        case measure => simp [intOf]; omega
      · have hkn : k = fs.length := by omega
        subst hkn
        obtain ⟨c, hc⟩ : ∃ c, c = lastTo fs fs.length := ⟨_, rfl⟩
        have hge := HGE.out
        rw [← hc] at hge ⊢
        have HC9 := Lib.hid hc
        clear hc
        rcases dec_cases (c < 0) with ⟨g, g'⟩ | ⟨g, g'⟩
        · have hce : (c == -1) = true := by simp; omega
          go_wp2
          go_ret2
          exact ⟨by rw [HLV.out, HLC.out, ← HC9.out, if_pos g', if_pos g']; rfl, bl_trans hb02 hb⟩
        · have hce : (c == -1) = false := by simp; omega
          go_wp2
          go_ret2
          exact ⟨by rw [HLV.out, HLC.out, ← HC9.out, if_neg (Int.not_lt.2 g'), if_neg (Int.not_lt.2 g')]; rfl, bl_trans hb02 hb⟩
  | false =>
    have HC0 : Hid (rbCode ⟨wd, hg, ps⟩ pl = 1) := Lib.hid (by unfold rbCode; rw [g1]; rfl)
    have HC : Hid (ltCode ⟨wd, hg, ps⟩ pl = 1) := Lib.hid (by unfold ltCode; rw [g1]; rfl)
    have HL : Hid (ltVal ⟨wd, hg, ps⟩ pl = 0) := Lib.hid (by unfold ltVal; rw [g1]; rfl)
    rw [HC.out, HL.out]
    rw [HC0.out] at HRB
    clear g1 HC HL HC0
    go_enter Tryz.func23, Tryz.ntmps23
    go_wp2_with fail
    refine (HRB.out _ (by repeat (first | with_reducible exact Below.refl _ _ | with_reducible assumption | with_reducible apply bl_drewN | with_reducible apply bl_drew | with_reducible apply bl_alloc | (with_reducible refine bl_set ?_ (by first | (simp; done) | (simp; omega)) _) | with_reducible refine bl_trans ?_ (by with_reducible assumption)))).mono ?_
    rintro e w2 ⟨v, rfl, hown, hb2⟩
    have hb02 : Below w.heap.size w w2 := (by repeat (first | with_reducible exact Below.refl _ _ | with_reducible assumption | with_reducible apply bl_drewN | with_reducible apply bl_drew | with_reducible apply bl_alloc | (with_reducible refine bl_set ?_ (by first | (simp; done) | (simp; omega)) _) | with_reducible refine bl_trans ?_ (by with_reducible assumption)))
    go_wp2
    go_ret2
    exact ⟨rfl, hb02⟩
end Go.Proofs.YtepekboechmngaaGreat
/- Contracts: FallenUntil, StandingAfter (both). -/
namespace Go.Proofs.YtepekboechmngaaGreat
open Go.RowKit
set_option linter.unusedVariables false
set_option linter.unusedSimpArgs false
set_option maxHeartbeats 400000
set_option maxRecDepth 100000
theorem l02Tick_any (t : Int) (w : World) : Calls Tryz.prog 47 #[.int .i64 t] w fun e w' => e = .returned (.bool (inB t 0 1000000)) ∧ w = w' := by
  go_enter Tryz.func47, Tryz.ntmps47
  go_wp2_with (go_at_call 57; refine (l00In_any _ _ _ _).mono ?_; rintro e w' ⟨rfl, rfl⟩)
  go_ret
  exact ⟨rfl, rfl⟩
set_option maxHeartbeats 1600000 in
theorem specFallenUntil_any (wd hg : Int) (s : Value) (ps : List Pc) (v1 : Value) (pl : List Pu) (tk : Int) (w : World) (hps : PV w s ps) (hok : (Bd.mk wd hg ps).ok) (hn : ps.length ≤ 9000000) (h1 : SV Pu.cells w v1 pl) (ok1 : PusOk pl) (n1 : pl.length ≤ 9000000) :
    Calls Tryz.prog 24 #[bdv wd hg s, v1, .int .i64 tk] w fun e w' => ∃ v, e = .returned (.tuple #[v, .int .i64 (fuCode ⟨wd, hg, ps⟩ pl tk)]) ∧ w'.ownsRow w.heap.size 2 1 v (fuList ⟨wd, hg, ps⟩ pl tk).length (flat N64_cells (fuList ⟨wd, hg, ps⟩ pl tk)) ∧ Below w.heap.size w w' := by
  have HB := Lib.hid (BP.new (l := ⟨wd, hg, ps⟩) (w := w) hps 34)
  have hba : Below w.heap.size w (w.alloc (.cells #[.int .i8 wd, .int .i8 hg, s] 34)) := bl_alloc (Below.refl _ _)
  obtain ⟨a, cap, rfl, -⟩ := hps
  obtain ⟨a1, cap1, rfl, h1⟩ := h1
  have H1 := Lib.hid (l02Asked_any (B := w.heap.size) w.heap.size ⟨wd, hg, ps⟩ a1 cap1 pl _ HB.out hok (show ps.length ≤ 10000000 by omega) (h1.below hba (Nat.le_refl _)) ok1 hba.size (by omega))
  have HBA := Lib.hid hba
  clear hba
  cases g1 : (vBd ⟨wd, hg, ps⟩ && vPus ⟨wd, hg, ps⟩ pl) with
  | true =>
    obtain ⟨hv, hpl, hin, hn20⟩ := ask_ok _ _ g1
    have HA : Hid (askV ⟨wd, hg, ps⟩ pl = 0) := Lib.hid (by unfold askV; rw [g1]; rfl)
    have HG := Lib.hid (good_bd ⟨wd, hg, ps⟩ hv pl hpl)
    have HN := Lib.hid (runOf_len200 ⟨wd, hg, ps⟩ pl hv)
    rw [HA.out] at H1
    have HPL := Lib.hid hpl
    have HIN := Lib.hid hin
    clear HA hpl hin
    have HT := Lib.hid (fun w => l02Tick_any tk w)
    cases g2 : inB tk 0 1000000 with
    | false =>
      have HC : Hid (fuCode ⟨wd, hg, ps⟩ pl tk = 2) := Lib.hid (by unfold fuCode; rw [g1, g2]; rfl)
      have HL : Hid (fuList ⟨wd, hg, ps⟩ pl tk = []) := Lib.hid (by unfold fuList; rw [HC.out]; rfl)
      rw [HC.out, HL.out]
      rw [g2] at HT
      clear g1 HC HL g2
      go_enter Tryz.func24, Tryz.ntmps24
      go_wp2_with fail
      refine H1.out.mono ?_
      rintro e w1 ⟨rfl, hb1⟩
      have hb01 := bl_trans HBA.out hb1
      have hown := World.ownsRow_made (e := 2) (size := 1) w1 #[] 0 (Nat.le_refl _) (by simp [maxLen]) rfl
      have hown2 := own_mono (base := w.heap.size) hown hb01.size
      go_wp2_with (go_at_call 47; refine (HT.out _).mono ?_; rintro e w' ⟨rfl, rfl⟩)
      go_ret2
      exact ⟨_, rfl, hown2, bl_alloc hb01⟩
    | true =>
      have HC : Hid (fuCode ⟨wd, hg, ps⟩ pl tk = 0) := Lib.hid (by unfold fuCode; rw [g1, g2]; rfl)
      have HL : Hid (fuList ⟨wd, hg, ps⟩ pl tk = idxP (fun f => inB f.t 0 tk) (runOf ps pl)) := Lib.hid (by unfold fuList; rw [if_pos HC.out])
      rw [HC.out, HL.out]
      rw [g2] at HT
      clear g1 HC HL g2
      obtain ⟨fs, hfs⟩ : ∃ fs, fs = runOf ps pl := ⟨_, rfl⟩
      have hn2 : fs.length ≤ 200 := by rw [hfs]; exact HN.out
      rw [← hfs]
      have HFS := Lib.hid hfs
      clear hfs HN
      obtain ⟨pr, hpr⟩ : ∃ pr : Fa → Bool, pr = (fun f => inB f.t 0 tk) := ⟨_, rfl⟩
      rw [← hpr]
      have HPR := Lib.hid hpr
      clear hpr
      have HCT := Lib.hid (fun k hk => idxTo_succ pr fs k hk)
      have HLE := Lib.hid (fun k => idxTo_len pr fs k)
      go_enter Tryz.func24, Tryz.ntmps24
      go_wp2_with fail
      refine H1.out.mono ?_
      rintro e w1 ⟨rfl, hb1⟩
      have hb01 := bl_trans HBA.out hb1
      have HF := Lib.hid (l02Run_any (B := w.heap.size) w.heap.size ⟨wd, hg, ps⟩ a1 cap1 pl w1 (HB.out.step hb1) hv (h1.below hb01 (Nat.le_refl _)) ok1 HPL.out HIN.out hn20 hb01.size)
      have HB01 := Lib.hid hb01
      clear hb01 hb1
      go_wp2_with (go_at_call 47; refine (HT.out _).mono ?_; rintro e w' ⟨rfl, rfl⟩)
      refine HF.out.mono ?_
      rintro e w2 ⟨v, fs', rfl, hown, hokf, -, hb2⟩
      have he : fs = fs' := by rw [HFS.out]; exact (runOf_eq _ _ _ HG.out hokf).symm
      subst he
      obtain ⟨av, capv, hve, hsl, -, -⟩ := own_at hown
      subst hve
      have HB02 := Lib.hid (bl_trans HB01.out hb2)
      clear hown hb2 hokf HFS HG HF HB01 HB H1 h1 HT
      obtain ⟨i0, hi0, hiz0, hiz1, hiz2⟩ := info_parts Tryz.infoInt64
      have hown0 := World.ownsRow_made (e := 2) (size := 1) w2 #[] 0 (Nat.le_refl _) (by simp [maxLen]) rfl
      have hb0 : Below w2.heap.size w2 (w2.alloc (.cells #[] 2)) := bl_alloc (Below.refl _ _)
      go_wp2
      go_loopw [10, 11] (fun v ix wr => ∃ k : Nat, k ≤ fs.length ∧ ix = .int .i64 k ∧ wr.ownsRow w2.heap.size 2 1 v (idxTo pr fs k).length (flat N64_cells (idxTo pr fs k)) ∧ Below w2.heap.size w2 wr) (fun _ ix _ => fs.length - (intOf ix).toNat)
      case atStart => exact ⟨0, by omega, rfl, hown0, hb0⟩
      case round =>
        clear hown0 hb0
        obtain ⟨k, hk, rfl, hown, hb⟩ := hrel
        obtain ⟨av, capv, hve, -, -, -⟩ := own_at hown
        subst hve
        have HOWN := Lib.hid hown
        have hzb := hb.size
        have hle := HLE.out k
        clear hown
        by_cases hlt : k < fs.length
        · obtain ⟨b, off, rfl, hbl, hat⟩ := fas_get hsl hlt
          have r0 : wr.cell? ⟨b, off + k * 3, none⟩ = some (.int .i64 fs[k].t) := by rw [hb.cell (p := ⟨_, _, none⟩) hbl]; exact hat.1
          have HC := Lib.hid (HCT.out k hlt)
          obtain ⟨F, hF⟩ : ∃ F, F = fs[k] := ⟨_, rfl⟩
          rw [← hF] at r0 HC
          clear hF hat
          obtain ⟨n, hnn⟩ : ∃ n, n = (idxTo pr fs k).length := ⟨_, rfl⟩
          rw [← hnn] at HOWN hle ⊢
          have HNN := Lib.hid hnn
          clear hnn
          rcases dec_cases (0 ≤ F.t) with ⟨g3, k3⟩ | ⟨g3, k3⟩
          · rcases dec_cases (F.t ≤ tk) with ⟨g4, k4⟩ | ⟨g4, k4⟩
            · have hp : pr F = true := by rw [HPR.out]; simp [inB, *]
              have HC2 : Hid (idxTo pr fs (k + 1) = idxTo pr fs k ++ [(k : Int)]) := Lib.hid (by rw [HC.out, if_pos hp])
              clear hp
              have HO2 := HOWN
              have HB2 := Lib.hid hb
              have hz2 := hzb
              go_wp2_with (at_builtin; go_must (refine wpList_append_sl _ rfl _ _ 47 rfl w2.heap.size 2 i0 (.int .i64 0) 1 8 Tryz.underlying47 hi0 hiz0 hiz1 hiz2 rfl (by decide) _ _ _ rfl (own_below HO2.out (bl_alloc (Below.refl _ _)) (Nat.le_refl _)) (some ⟨wr.heap.size, 0, none⟩) 1 1 [.int .i64 (k : Int)] rfl (sl_newC wr #[.int .i64 (k : Int)] 2 _ rfl) rfl (by intro u hu; rw [List.mem_singleton] at hu; subst hu; rfl) (by unfold maxLen; omega) (by omega) (by simp; omega) ?_); intro v3 w3 hown3 hgrow)
              have hb3 : Below w2.heap.size w2 w3 := (bl_alloc (o := .cells #[.int .i64 (k : Int)] 2) HB2.out).grown hgrow (by simp; omega) (fun q hq => (HO2.out.lt q hq).1)
              have hnn2 : n + 1 = (idxTo pr fs (k + 1)).length := by rw [HC2.out, List.length_append, ← HNN.out]; rfl
              have hcells : flat N64_cells (idxTo pr fs k) ++ [.int .i64 (k : Int)] = flat N64_cells (idxTo pr fs (k + 1)) := by rw [HC2.out, flat_append]; rfl
              rw [hcells] at hown3
              go_roundw
              case rel => exact ⟨k + 1, by omega, by go_num, by rw [← hnn2]; exact hown3, hb3⟩
              case measure => simp [intOf]; omega
            · have hp : pr F = false := by rw [HPR.out]; simp [inB, *]
              have HC2 : Hid (idxTo pr fs (k + 1) = idxTo pr fs k) := Lib.hid (by rw [HC.out, if_neg (by rw [hp]; exact Bool.false_ne_true), List.append_nil])
              clear hp
              go_wp2
              go_roundw
              case rel => exact ⟨k + 1, by omega, by go_num, by rw [HC2.out, ← HNN.out]; exact HOWN.out, hb⟩
              case measure => simp [intOf]; omega
          · rcases dec_cases (F.t ≤ tk) with ⟨g4, k4⟩ | ⟨g4, k4⟩
            · have hp : pr F = false := by rw [HPR.out]; simp [inB, *]
              have HC2 : Hid (idxTo pr fs (k + 1) = idxTo pr fs k) := Lib.hid (by rw [HC.out, if_neg (by rw [hp]; exact Bool.false_ne_true), List.append_nil])
              clear hp
              go_wp2
              go_roundw
              case rel => exact ⟨k + 1, by omega, by go_num, by rw [HC2.out, ← HNN.out]; exact HOWN.out, hb⟩
              case measure => simp [intOf]; omega
            · have hp : pr F = false := by rw [HPR.out]; simp [inB, *]
              have HC2 : Hid (idxTo pr fs (k + 1) = idxTo pr fs k) := Lib.hid (by rw [HC.out, if_neg (by rw [hp]; exact Bool.false_ne_true), List.append_nil])
              clear hp
              go_wp2
              go_roundw
              case rel => exact ⟨k + 1, by omega, by go_num, by rw [HC2.out, ← HNN.out]; exact HOWN.out, hb⟩
              case measure => simp [intOf]; omega
        · have hkn : k = fs.length := by omega
          subst hkn
          have HOWN2 := own_mono (base := w.heap.size) HOWN.out HB02.out.size
          go_wp2
          go_ret2
          exact ⟨_, rfl, HOWN2, bl_trans HB02.out hb⟩
  | false =>
    have HA : Hid (askV ⟨wd, hg, ps⟩ pl = 1) := Lib.hid (by unfold askV; rw [g1]; rfl)
    have HC : Hid (fuCode ⟨wd, hg, ps⟩ pl tk = 1) := Lib.hid (by unfold fuCode; rw [g1]; rfl)
    have HL : Hid (fuList ⟨wd, hg, ps⟩ pl tk = []) := Lib.hid (by unfold fuList; rw [HC.out]; rfl)
    rw [HC.out, HL.out]
    rw [HA.out] at H1
    clear g1 HC HL HA
    go_enter Tryz.func24, Tryz.ntmps24
    go_wp2_with fail
    refine H1.out.mono ?_
    rintro e w1 ⟨rfl, hb1⟩
    have hb01 := bl_trans HBA.out hb1
    have hown := World.ownsRow_made (e := 2) (size := 1) w1 #[] 0 (Nat.le_refl _) (by simp [maxLen]) rfl
    have hown2 := own_mono (base := w.heap.size) hown hb01.size
    go_wp2
    go_ret2
    exact ⟨_, rfl, hown2, bl_alloc hb01⟩
set_option maxHeartbeats 1600000 in
theorem specStandingAfter_any (wd hg : Int) (s : Value) (ps : List Pc) (v1 : Value) (pl : List Pu) (w : World) (hps : PV w s ps) (hok : (Bd.mk wd hg ps).ok) (hn : ps.length ≤ 9000000) (h1 : SV Pu.cells w v1 pl) (ok1 : PusOk pl) (n1 : pl.length ≤ 9000000) :
    Calls Tryz.prog 29 #[bdv wd hg s, v1] w fun e w' => ∃ v, e = .returned (.tuple #[v, .int .i64 (rbCode ⟨wd, hg, ps⟩ pl)]) ∧ w'.ownsRow w.heap.size 2 1 v (saList ⟨wd, hg, ps⟩ pl).length (flat N64_cells (saList ⟨wd, hg, ps⟩ pl)) ∧ Below w.heap.size w w' := by
  have HB := Lib.hid (BP.new (l := ⟨wd, hg, ps⟩) (w := w) hps 34)
  have hba : Below w.heap.size w (w.alloc (.cells #[.int .i8 wd, .int .i8 hg, s] 34)) := bl_alloc (Below.refl _ _)
  obtain ⟨a, cap, rfl, -⟩ := hps
  obtain ⟨a1, cap1, rfl, h1⟩ := h1
  have H1 := Lib.hid (l02Asked_any (B := w.heap.size) w.heap.size ⟨wd, hg, ps⟩ a1 cap1 pl _ HB.out hok (show ps.length ≤ 10000000 by omega) (h1.below hba (Nat.le_refl _)) ok1 hba.size (by omega))
  have HBA := Lib.hid hba
  clear hba
  cases g1 : (vBd ⟨wd, hg, ps⟩ && vPus ⟨wd, hg, ps⟩ pl) with
  | true =>
    obtain ⟨hv, hpl, hin, hn20⟩ := ask_ok _ _ g1
    have HA : Hid (askV ⟨wd, hg, ps⟩ pl = 0) := Lib.hid (by unfold askV; rw [g1]; rfl)
    have HG := Lib.hid (good_bd ⟨wd, hg, ps⟩ hv pl hpl)
    have HN := Lib.hid (runOf_len200 ⟨wd, hg, ps⟩ pl hv)
    rw [HA.out] at H1
    have HPL := Lib.hid hpl
    have HIN := Lib.hid hin
    clear HA hpl hin
    have HC : Hid (rbCode ⟨wd, hg, ps⟩ pl = 0) := Lib.hid (by unfold rbCode; rw [g1]; rfl)
    have HL : Hid (saList ⟨wd, hg, ps⟩ pl = idxP (fun f => decide (f.t < 0)) (runOf ps pl)) := Lib.hid (by unfold saList; rw [if_pos g1])
    rw [HC.out, HL.out]
    clear g1 HC HL
    obtain ⟨fs, hfs⟩ : ∃ fs, fs = runOf ps pl := ⟨_, rfl⟩
    have hn2 : fs.length ≤ 200 := by rw [hfs]; exact HN.out
    rw [← hfs]
    have HFS := Lib.hid hfs
    clear hfs HN
    obtain ⟨pr, hpr⟩ : ∃ pr : Fa → Bool, pr = (fun f => decide (f.t < 0)) := ⟨_, rfl⟩
    rw [← hpr]
    have HPR := Lib.hid hpr
    clear hpr
    have HCT := Lib.hid (fun k hk => idxTo_succ pr fs k hk)
    have HLE := Lib.hid (fun k => idxTo_len pr fs k)
    go_enter Tryz.func29, Tryz.ntmps29
    go_wp2_with fail
    refine H1.out.mono ?_
    rintro e w1 ⟨rfl, hb1⟩
    have hb01 := bl_trans HBA.out hb1
    have HF := Lib.hid (l02Run_any (B := w.heap.size) w.heap.size ⟨wd, hg, ps⟩ a1 cap1 pl w1 (HB.out.step hb1) hv (h1.below hb01 (Nat.le_refl _)) ok1 HPL.out HIN.out hn20 hb01.size)
    have HB01 := Lib.hid hb01
    clear hb01 hb1
    go_wp2_with fail
    refine HF.out.mono ?_
    rintro e w2 ⟨v, fs', rfl, hown, hokf, -, hb2⟩
    have he : fs = fs' := by rw [HFS.out]; exact (runOf_eq _ _ _ HG.out hokf).symm
    subst he
    obtain ⟨av, capv, hve, hsl, -, -⟩ := own_at hown
    subst hve
    have HB02 := Lib.hid (bl_trans HB01.out hb2)
    clear hown hb2 hokf HFS HG HF HB01 HB H1 h1
    obtain ⟨i0, hi0, hiz0, hiz1, hiz2⟩ := info_parts Tryz.infoInt64
    have hown0 := World.ownsRow_made (e := 2) (size := 1) w2 #[] 0 (Nat.le_refl _) (by simp [maxLen]) rfl
    have hb0 : Below w2.heap.size w2 (w2.alloc (.cells #[] 2)) := bl_alloc (Below.refl _ _)
    go_wp2
    go_loopw [8, 9] (fun v ix wr => ∃ k : Nat, k ≤ fs.length ∧ ix = .int .i64 k ∧ wr.ownsRow w2.heap.size 2 1 v (idxTo pr fs k).length (flat N64_cells (idxTo pr fs k)) ∧ Below w2.heap.size w2 wr) (fun _ ix _ => fs.length - (intOf ix).toNat)
    case atStart => exact ⟨0, by omega, rfl, hown0, hb0⟩
    case round =>
      clear hown0 hb0
      obtain ⟨k, hk, rfl, hown, hb⟩ := hrel
      obtain ⟨av, capv, hve, -, -, -⟩ := own_at hown
      subst hve
      have HOWN := Lib.hid hown
      have hzb := hb.size
      have hle := HLE.out k
      clear hown
      by_cases hlt : k < fs.length
      · obtain ⟨b, off, rfl, hbl, hat⟩ := fas_get hsl hlt
        have r0 : wr.cell? ⟨b, off + k * 3, none⟩ = some (.int .i64 fs[k].t) := by rw [hb.cell (p := ⟨_, _, none⟩) hbl]; exact hat.1
        have HC := Lib.hid (HCT.out k hlt)
        obtain ⟨F, hF⟩ : ∃ F, F = fs[k] := ⟨_, rfl⟩
        rw [← hF] at r0 HC
        clear hF hat
        obtain ⟨n, hnn⟩ : ∃ n, n = (idxTo pr fs k).length := ⟨_, rfl⟩
        rw [← hnn] at HOWN hle ⊢
        have HNN := Lib.hid hnn
        clear hnn
        rcases dec_cases (F.t < 0) with ⟨g3, k3⟩ | ⟨g3, k3⟩
        · have hp : pr F = true := by rw [HPR.out]; simp [*]
          have HC2 : Hid (idxTo pr fs (k + 1) = idxTo pr fs k ++ [(k : Int)]) := Lib.hid (by rw [HC.out, if_pos hp])
          clear hp
          have HO2 := HOWN
          have HB2 := Lib.hid hb
          have hz2 := hzb
          go_wp2_with (at_builtin; go_must (refine wpList_append_sl _ rfl _ _ 47 rfl w2.heap.size 2 i0 (.int .i64 0) 1 8 Tryz.underlying47 hi0 hiz0 hiz1 hiz2 rfl (by decide) _ _ _ rfl (own_below HO2.out (bl_alloc (Below.refl _ _)) (Nat.le_refl _)) (some ⟨wr.heap.size, 0, none⟩) 1 1 [.int .i64 (k : Int)] rfl (sl_newC wr #[.int .i64 (k : Int)] 2 _ rfl) rfl (by intro u hu; rw [List.mem_singleton] at hu; subst hu; rfl) (by unfold maxLen; omega) (by omega) (by simp; omega) ?_); intro v3 w3 hown3 hgrow)
          have hb3 : Below w2.heap.size w2 w3 := (bl_alloc (o := .cells #[.int .i64 (k : Int)] 2) HB2.out).grown hgrow (by simp; omega) (fun q hq => (HO2.out.lt q hq).1)
          have hnn2 : n + 1 = (idxTo pr fs (k + 1)).length := by rw [HC2.out, List.length_append, ← HNN.out]; rfl
          have hcells : flat N64_cells (idxTo pr fs k) ++ [.int .i64 (k : Int)] = flat N64_cells (idxTo pr fs (k + 1)) := by rw [HC2.out, flat_append]; rfl
          rw [hcells] at hown3
          go_roundw
          case rel => exact ⟨k + 1, by omega, by go_num, by rw [← hnn2]; exact hown3, hb3⟩
          case measure => simp [intOf]; omega
        · have hp : pr F = false := by rw [HPR.out]; simp [*]
          have HC2 : Hid (idxTo pr fs (k + 1) = idxTo pr fs k) := Lib.hid (by rw [HC.out, if_neg (by rw [hp]; exact Bool.false_ne_true), List.append_nil])
          clear hp
          go_wp2
          go_roundw
          case rel => exact ⟨k + 1, by omega, by go_num, by rw [HC2.out, ← HNN.out]; exact HOWN.out, hb⟩
          case measure => simp [intOf]; omega
      · have hkn : k = fs.length := by omega
        subst hkn
        have HOWN2 := own_mono (base := w.heap.size) HOWN.out HB02.out.size
        go_wp2
        go_ret2
        exact ⟨_, rfl, HOWN2, bl_trans HB02.out hb⟩
  | false =>
    have HA : Hid (askV ⟨wd, hg, ps⟩ pl = 1) := Lib.hid (by unfold askV; rw [g1]; rfl)
    have HC : Hid (rbCode ⟨wd, hg, ps⟩ pl = 1) := Lib.hid (by unfold rbCode; rw [g1]; rfl)
    have HL : Hid (saList ⟨wd, hg, ps⟩ pl = []) := Lib.hid (by unfold saList; rw [g1]; rfl)
    rw [HC.out, HL.out]
    rw [HA.out] at H1
    clear g1 HC HL HA
    go_enter Tryz.func29, Tryz.ntmps29
    go_wp2_with fail
    refine H1.out.mono ?_
    rintro e w1 ⟨rfl, hb1⟩
    have hb01 := bl_trans HBA.out hb1
    have hown := World.ownsRow_made (e := 2) (size := 1) w1 #[] 0 (Nat.le_refl _) (by simp [maxLen]) rfl
    have hown2 := own_mono (base := w.heap.size) hown hb01.size
    go_wp2
    go_ret2
    exact ⟨_, rfl, hown2, bl_alloc hb01⟩
theorem eg_fu1 (args : Array Value) (w : World) : (callFunc 50 args).run Tryz.prog w = .ok (.enter 50 args) w := by kernel_rfl
theorem fu1_any (F : Fa) (bo : Nat) (tk : Int) (w : World) (hb : bo < w.heap.size) (hc : w.cell? ⟨bo, 0, none⟩ = some (.int .i64 tk)) :
    Calls Tryz.prog 50 #[F.val, .pointer (some ⟨bo, 0, none⟩)] w fun e w' => e = .returned (.bool (inB F.t 0 tk)) ∧ Below w.heap.size w w' := by
  have hne : bo ≠ w.heap.size := by omega
  go_enter Tryz.func50, Tryz.ntmps50
  go_wp2_with (go_at_call 48; refine (in_any _ _ _ _).mono ?_; rintro e w' ⟨rfl, rfl⟩)
  go_ret
  exact ⟨rfl, (by repeat (first | with_reducible exact Below.refl _ _ | with_reducible assumption | with_reducible apply bl_drewN | with_reducible apply bl_drew | with_reducible apply bl_alloc | (with_reducible refine bl_set ?_ (by first | (simp; done) | (simp; omega)) _) | with_reducible refine bl_trans ?_ (by with_reducible assumption)))⟩
set_option maxHeartbeats 1600000 in
theorem fallenUntil_any (wd hg : Int) (s : Value) (ps : List Pc) (v1 : Value) (pl : List Pu) (tk : Int) (w : World) (hps : PV w s ps) (hok : (Bd.mk wd hg ps).ok) (hn : ps.length ≤ 9000000) (h1 : SV Pu.cells w v1 pl) (ok1 : PusOk pl) (n1 : pl.length ≤ 9000000) :
    Calls Tryz.prog 25 #[bdv wd hg s, v1, .int .i64 tk] w fun e w' => ∃ v, e = .returned (.tuple #[v, .int .i64 (fuCode ⟨wd, hg, ps⟩ pl tk)]) ∧ w'.ownsRow w.heap.size 2 1 v (fuList ⟨wd, hg, ps⟩ pl tk).length (flat N64_cells (fuList ⟨wd, hg, ps⟩ pl tk)) ∧ Below w.heap.size w w' := by
  have HVP := Lib.hid (fun w1 (hb : Below w.heap.size w w1) => validPushes_any wd hg s ps v1 pl w1 (hps.step hb) hok hn (h1.step hb) ok1 n1)
  have HRB := Lib.hid (fun w1 (hb : Below w.heap.size w w1) hva => runBoard_any wd hg s ps v1 pl w1 (hps.step hb) hok (h1.step hb) ok1 hva)
  obtain ⟨a, cap, rfl, -⟩ := hps
  obtain ⟨a1, cap1, rfl, -⟩ := h1
  obtain ⟨W, hW⟩ : ∃ W, W = (w.alloc (.cells #[.int .i8 wd, .int .i8 hg, .slice a ps.length cap] 34)).alloc (.cells #[.int .i64 tk] 2) := ⟨_, rfl⟩
  have hz1 : (w.alloc (.cells #[.int .i8 wd, .int .i8 hg, .slice a ps.length cap] 34)).heap.size = w.heap.size + 1 := by simp
  have hzW : W.heap.size = w.heap.size + 2 := by rw [hW]; simp
  have hbW : Below w.heap.size w W := by rw [hW]; exact bl_alloc (bl_alloc (Below.refl _ _))
  have hx := BX3.new w (.int .i8 wd) (.int .i8 hg) (.slice a ps.length cap) 34
  have hxW : BX3 W w.heap.size (.int .i8 wd) (.int .i8 hg) (.slice a ps.length cap) := by rw [hW]; exact hx.step (bl_alloc (Below.refl _ _))
  have htW : W.cell? ⟨w.heap.size + 1, 0, none⟩ = some (.int .i64 tk) := by rw [hW]; exact cell_new0 _ _ _ _ (by simp)
  have HXW := Lib.hid hxW
  have HTW := Lib.hid htW
  clear hx hxW htW
  cases g1 : (vBd ⟨wd, hg, ps⟩ && vPus ⟨wd, hg, ps⟩ pl) with
  | false =>
    have HC : Hid (fuCode ⟨wd, hg, ps⟩ pl tk = 1) := Lib.hid (by unfold fuCode; rw [g1]; rfl)
    have HL : Hid (fuList ⟨wd, hg, ps⟩ pl tk = []) := Lib.hid (by unfold fuList; rw [HC.out]; rfl)
    rw [HC.out, HL.out]
    rw [g1] at HVP
    clear g1 HC HL HRB
    go_enter Tryz.func25, Tryz.ntmps25
    go_wp2_with fail
    refine (HVP.out _ (by repeat (first | with_reducible exact Below.refl _ _ | with_reducible assumption | with_reducible apply bl_drewN | with_reducible apply bl_drew | with_reducible apply bl_alloc | (with_reducible refine bl_set ?_ (by first | (simp; done) | (simp; omega)) _) | with_reducible refine bl_trans ?_ (by with_reducible assumption)))).mono ?_
    rintro e w1 ⟨rfl, hb1⟩
    have hb01 : Below w.heap.size w w1 := (by repeat (first | with_reducible exact Below.refl _ _ | with_reducible assumption | with_reducible apply bl_drewN | with_reducible apply bl_drew | with_reducible apply bl_alloc | (with_reducible refine bl_set ?_ (by first | (simp; done) | (simp; omega)) _) | with_reducible refine bl_trans ?_ (by with_reducible assumption)))
    go_wp2
    go_ret2
    exact ⟨_, rfl, World.ownsRow_nil _ _ _ _, hb01⟩
  | true =>
    obtain ⟨hv, hpl, hin, hn20⟩ := ask_ok _ _ g1
    have HN := Lib.hid (runOf_len200 ⟨wd, hg, ps⟩ pl hv)
    have HRB2 := Lib.hid (fun w1 hb => HRB.out w1 hb g1)
    clear hpl hin hv HRB
    cases g2 : inB tk 0 1000000 with
    | false =>
      have HC : Hid (fuCode ⟨wd, hg, ps⟩ pl tk = 2) := Lib.hid (by unfold fuCode; rw [g1, g2]; rfl)
      have HL : Hid (fuList ⟨wd, hg, ps⟩ pl tk = []) := Lib.hid (by unfold fuList; rw [HC.out]; rfl)
      rw [HC.out, HL.out]
      rw [g1] at HVP
      have HIN := Lib.hid (fun w => g2 ▸ in_any tk 0 1000000 w)
      clear g1 HC HL HRB2 g2
      go_enter Tryz.func25, Tryz.ntmps25
      go_wp2_with fail
      generalize (w.alloc (.cells #[.int .i8 wd, .int .i8 hg, .slice a ps.length cap] 34)).alloc (.cells #[.int .i64 tk] 2) = W' at hW ⊢
      subst hW
      refine (HVP.out _ hbW).mono ?_
      rintro e w1 ⟨rfl, hb1⟩
      have hb01 := bl_trans hbW hb1
      have ct : w1.cell? ⟨w.heap.size + 1, 0, none⟩ = some (.int .i64 tk) := by rw [hb1.cell (p := ⟨_, _, none⟩) (show w.heap.size + 1 < _ by omega)]; exact HTW.out
      go_wp2_with (go_at_call 48; refine (HIN.out _).mono ?_; rintro e w' ⟨rfl, rfl⟩)
      go_ret2
      exact ⟨_, rfl, World.ownsRow_nil _ _ _ _, hb01⟩
    | true =>
      have HC : Hid (fuCode ⟨wd, hg, ps⟩ pl tk = 0) := Lib.hid (by unfold fuCode; rw [g1, g2]; rfl)
      have HL : Hid (fuList ⟨wd, hg, ps⟩ pl tk = idxP (fun f => inB f.t 0 tk) (runOf ps pl)) := Lib.hid (by unfold fuList; rw [if_pos HC.out])
      rw [HC.out, HL.out]
      rw [g1] at HVP
      have HIN := Lib.hid (fun w => g2 ▸ in_any tk 0 1000000 w)
      obtain ⟨fs, hfs⟩ : ∃ fs, fs = runOf ps pl := ⟨_, rfl⟩
      have hn2 : fs.length ≤ 200 := by rw [hfs]; exact HN.out
      rw [← hfs] at HRB2 ⊢
      clear g1 HC HL g2 hfs HN
      go_enter Tryz.func25, Tryz.ntmps25
      go_wp2_with fail
      generalize (w.alloc (.cells #[.int .i8 wd, .int .i8 hg, .slice a ps.length cap] 34)).alloc (.cells #[.int .i64 tk] 2) = W' at hW ⊢
      subst hW
      refine (HVP.out _ hbW).mono ?_
      rintro e w1 ⟨rfl, hb1⟩
      have hb01 := bl_trans hbW hb1
      have hz01 := hb1.size
      have ct : w1.cell? ⟨w.heap.size + 1, 0, none⟩ = some (.int .i64 tk) := by rw [hb1.cell (p := ⟨_, _, none⟩) (show w.heap.size + 1 < _ by omega)]; exact HTW.out
      obtain ⟨-, cb0, cb1, cb2⟩ := HXW.out.step hb1
      go_wp2_with (go_at_call 48; refine (HIN.out _).mono ?_; rintro e w' ⟨rfl, rfl⟩)
      refine (HRB2.out _ hb01).mono ?_
      rintro e w2 ⟨v, rfl, hown, hb2⟩
      have hb02 := bl_trans hb01 hb2
      have hz2 := hb2.size
      have ct2 : w2.cell? ⟨w.heap.size + 1, 0, none⟩ = some (.int .i64 tk) := by rw [hb2.cell (p := ⟨_, _, none⟩) (show w.heap.size + 1 < _ by omega)]; exact ct
      obtain ⟨av, capv, hve, hsl, -, -⟩ := own_at hown
      subst hve
      have HIX := Lib.hid (indices_anyP (B := w2.heap.size) 50 #[.pointer (some ⟨w.heap.size + 1, 0, none⟩)] (fun f => inB f.t 0 tk) av capv fs w2 hsl (Nat.le_refl _) (by omega) eg_fu1 (fun F wx hF hbx => fu1_any F (w.heap.size + 1) tk wx (by have := hbx.size; omega) (by rw [hbx.cell (p := ⟨_, _, none⟩) (show w.heap.size + 1 < _ by omega)]; exact ct2)))
      have HB02 := Lib.hid hb02
      clear hown hsl hb01 hb1 hb2 hb02 cb0 cb1 cb2 ct ct2 HRB2 HVP
      go_wp2_with fail
      refine HIX.out.mono ?_
      rintro e w3 ⟨v, rfl, hown3, hb3⟩
      have hown4 := own_mono (base := w.heap.size) hown3 HB02.out.size
      have hb03 := bl_trans HB02.out hb3
      go_wp2
      go_ret2
      exact ⟨_, rfl, hown4, hb03⟩
theorem eg_sa1 (args : Array Value) (w : World) : (callFunc 51 args).run Tryz.prog w = .ok (.enter 51 args) w := by kernel_rfl
theorem sa1_any (F : Fa) (w : World) : Calls Tryz.prog 51 #[F.val] w fun e w' => e = .returned (.bool (F.t == -1)) ∧ Below w.heap.size w w' := by
  go_enter Tryz.func51, Tryz.ntmps51
  go_wp2
  go_ret
  exact ⟨rfl, (by repeat (first | with_reducible exact Below.refl _ _ | with_reducible assumption | with_reducible apply bl_drewN | with_reducible apply bl_drew | with_reducible apply bl_alloc | (with_reducible refine bl_set ?_ (by first | (simp; done) | (simp; omega)) _) | with_reducible refine bl_trans ?_ (by with_reducible assumption)))⟩
set_option maxHeartbeats 1600000 in
theorem standingAfter_any (wd hg : Int) (s : Value) (ps : List Pc) (v1 : Value) (pl : List Pu) (w : World) (hps : PV w s ps) (hok : (Bd.mk wd hg ps).ok) (hn : ps.length ≤ 9000000) (h1 : SV Pu.cells w v1 pl) (ok1 : PusOk pl) (n1 : pl.length ≤ 9000000) :
    Calls Tryz.prog 30 #[bdv wd hg s, v1] w fun e w' => ∃ v, e = .returned (.tuple #[v, .int .i64 (rbCode ⟨wd, hg, ps⟩ pl)]) ∧ w'.ownsRow w.heap.size 2 1 v (saList ⟨wd, hg, ps⟩ pl).length (flat N64_cells (saList ⟨wd, hg, ps⟩ pl)) ∧ Below w.heap.size w w' := by
  have HRB := Lib.hid (fun w1 (hb : Below w.heap.size w w1) => implRunBoard_any wd hg s ps v1 pl w1 (hps.step hb) hok hn (h1.step hb) ok1 n1)
  obtain ⟨a, cap, rfl, -⟩ := hps
  obtain ⟨a1, cap1, rfl, -⟩ := h1
  cases g1 : (vBd ⟨wd, hg, ps⟩ && vPus ⟨wd, hg, ps⟩ pl) with
  | true =>
    obtain ⟨hv, hpl, hin, hn20⟩ := ask_ok _ _ g1
    have HC0 : Hid (rbCode ⟨wd, hg, ps⟩ pl = 0) := Lib.hid (by unfold rbCode; rw [g1]; rfl)
    have HL0 : Hid (rbList ⟨wd, hg, ps⟩ pl = runOf ps pl) := Lib.hid (by unfold rbList; rw [g1]; rfl)
    have HL : Hid (saList ⟨wd, hg, ps⟩ pl = idxP (fun f => decide (f.t < 0)) (runOf ps pl)) := Lib.hid (by unfold saList; rw [if_pos g1])
    have HN := Lib.hid (runOf_len200 ⟨wd, hg, ps⟩ pl hv)
    rw [HC0.out, HL.out]
    rw [HC0.out, HL0.out] at HRB
    have HGE := Lib.hid (runOf_ge ps pl)
    obtain ⟨fs, hfs⟩ : ∃ fs, fs = runOf ps pl := ⟨_, rfl⟩
    have hn2 : fs.length ≤ 200 := by rw [hfs]; exact HN.out
    rw [← hfs] at HRB HGE ⊢
    clear g1 HL HC0 HL0 hpl hin hv hfs HN
    go_enter Tryz.func30, Tryz.ntmps30
    go_wp2_with fail
    refine (HRB.out _ (by repeat (first | with_reducible exact Below.refl _ _ | with_reducible assumption | with_reducible apply bl_drewN | with_reducible apply bl_drew | with_reducible apply bl_alloc | (with_reducible refine bl_set ?_ (by first | (simp; done) | (simp; omega)) _) | with_reducible refine bl_trans ?_ (by with_reducible assumption)))).mono ?_
    rintro e w2 ⟨v, rfl, hown, hb2⟩
    obtain ⟨av, capv, hve, hsl, -, -⟩ := own_at hown
    subst hve
    have hb02 : Below w.heap.size w w2 := (by repeat (first | with_reducible exact Below.refl _ _ | with_reducible assumption | with_reducible apply bl_drewN | with_reducible apply bl_drew | with_reducible apply bl_alloc | (with_reducible refine bl_set ?_ (by first | (simp; done) | (simp; omega)) _) | with_reducible refine bl_trans ?_ (by with_reducible assumption)))
    have HIX := Lib.hid (indices_anyP (B := w2.heap.size) 51 #[] (fun f => decide (f.t < 0)) av capv fs w2 hsl (Nat.le_refl _) (by omega) eg_sa1 (fun F wx hF hbx => by
      refine (sa1_any F wx).mono ?_
      rintro e w' ⟨rfl, hb⟩
      refine ⟨?_, hb⟩
      obtain ⟨k, hk, rfl⟩ := List.getElem_of_mem hF
      have := HGE.out k hk
      exact ret_bool (by rw [beq_iff_eq, decide_eq_true_eq]; omega)))
    have HB02 := Lib.hid hb02
    clear hown hsl hb2 hb02 HRB HGE
    go_wp2_with fail
    refine HIX.out.mono ?_
    rintro e w3 ⟨v, rfl, hown3, hb3⟩
    have hown4 := own_mono (base := w.heap.size) hown3 HB02.out.size
    have hb03 := bl_trans HB02.out hb3
    go_wp2
    go_ret2
    exact ⟨_, rfl, hown4, hb03⟩
  | false =>
    have HC0 : Hid (rbCode ⟨wd, hg, ps⟩ pl = 1) := Lib.hid (by unfold rbCode; rw [g1]; rfl)
    have HL : Hid (saList ⟨wd, hg, ps⟩ pl = []) := Lib.hid (by unfold saList; rw [g1]; rfl)
    rw [HC0.out, HL.out]
    rw [HC0.out] at HRB
    clear g1 HC0 HL
    go_enter Tryz.func30, Tryz.ntmps30
    go_wp2_with fail
    refine (HRB.out _ (by repeat (first | with_reducible exact Below.refl _ _ | with_reducible assumption | with_reducible apply bl_drewN | with_reducible apply bl_drew | with_reducible apply bl_alloc | (with_reducible refine bl_set ?_ (by first | (simp; done) | (simp; omega)) _) | with_reducible refine bl_trans ?_ (by with_reducible assumption)))).mono ?_
    rintro e w2 ⟨v, rfl, hown, hb2⟩
    have hb02 : Below w.heap.size w w2 := (by repeat (first | with_reducible exact Below.refl _ _ | with_reducible assumption | with_reducible apply bl_drewN | with_reducible apply bl_drew | with_reducible apply bl_alloc | (with_reducible refine bl_set ?_ (by first | (simp; done) | (simp; omega)) _) | with_reducible refine bl_trans ?_ (by with_reducible assumption)))
    go_wp2
    go_ret2
    exact ⟨_, rfl, World.ownsRow_nil _ _ _ _, hb02⟩
end Go.Proofs.YtepekboechmngaaGreat
/- The walks of the laws FnExactLastTick, FnExactFallenUntil, FnExactStandingAfter. -/
namespace Go.Proofs.YtepekboechmngaaGreat
open Go.RowKit
set_option linter.unusedVariables false
set_option linter.unusedSimpArgs false
set_option maxHeartbeats 400000
set_option maxRecDepth 100000
set_option maxRecDepth 100000 in
theorem lawLastTick_any (wd hg : Int) (a : Option Addr) (cap : Nat) (ps : List Pc) (a1 : Option Addr) (cap1 : Nat) (pl : List Pu) (w : World) (hps : PcsAt w.heap.size w a ps) (hok : (Bd.mk wd hg ps).ok) (hl : ps.length ≤ 9223372036854775807)
    (h1 : SlAt w.heap.size w a1 (flat Pu.cells pl)) (ok1 : PusOk pl) (hl1 : pl.length ≤ 9223372036854775807) :
    Calls Tryz.prog 4 #[bdv wd hg (.slice a ps.length cap), .slice a1 pl.length cap1] w fun e w' => e = .returned (.bool true) ∧ Below w.heap.size w w' := by
  by_cases hn : ps.length ≤ 1048576
  · have Hs := Lib.hid (show szv ps.length 1048576 = 1048576 - ps.length by unfold szv; rw [if_neg (by omega)])
    by_cases hn1 : ps.length + pl.length ≤ 1048576
    · have Hs1 := Lib.hid (show szv pl.length (1048576 - ps.length) = 1048576 - ps.length - pl.length by unfold szv; rw [if_neg (by omega)])
      have P0 : PV w (.slice a ps.length cap) ps := ⟨a, cap, rfl, hps⟩
      have Q0 : RV Pu.cells w (.slice a1 pl.length cap1) pl := ⟨a1, cap1, rfl, h1⟩
      have X0 := BX3.new w (.int .i8 wd) (.int .i8 hg) (.slice a ps.length cap) 25
      obtain ⟨rv, hrv⟩ : ∃ rv, rv = ltVal ⟨wd, hg, ps⟩ pl := ⟨_, rfl⟩
      obtain ⟨rc, hrc⟩ : ∃ rc, rc = ltCode ⟨wd, hg, ps⟩ pl := ⟨_, rfl⟩
      have CS := fun s va w' (h : PV w' s ps) (h1 : SV Pu.cells w' va pl) => specLastTick_any wd hg s ps va pl w' h hok (by omega) h1 ok1 (by omega)
      have CI := fun s va w' (h : PV w' s ps) (h1 : SV Pu.cells w' va pl) => lastTick_any wd hg s ps va pl w' h hok (by omega) h1 ok1 (by omega)
      rw [← hrv, ← hrc] at CS CI
      have CS := Lib.hid CS
      have CI := Lib.hid CI
      clear hrv hrc h1 hps
      go_enter Tryz.func4, Tryz.ntmps4
      go_wp2_with fail
      refine (szBoard_any wd hg a ps.length cap _ _ (by omega) (by omega) (by omega)).mono ?_
      rintro e u ⟨rfl, bu⟩
      rw [Hs.out]
      have A0 := (P0.step (bl_alloc (Below.refl _ _))).step bu
      have A1 := (Q0.step (bl_alloc (Below.refl _ _))).step bu
      have AX := X0.step bu
      have bu0 : Below w.heap.size w u := bl_trans (bl_alloc (Below.refl _ _)) bu
      go_wp2_with fail
      refine (szPushS_any a1 pl.length cap1 _ _ (by omega) (by omega) (by omega)).mono ?_
      rintro e w' ⟨rfl, rfl⟩
      rw [Hs1.out]
      go_wp2_with fail
      refine (toBoard_pv (b := ⟨wd, hg, ps⟩) ⟨_, rfl, A0⟩ (by simp; omega)).mono ?_
      rintro e w1 ⟨vm, rfl, Om1, b1⟩
      have AP1 := A0.step b1
      have AQ1 := A1.step b1
      have AX1 := AX.step b1
      have B1 := b1
      obtain ⟨am, capm, rfl, -⟩ := own_at Om1
      go_wp2_with fail
      refine (toPushS_rv AQ1 (by omega)).mono ?_
      rintro e w2 ⟨vmp, rfl, Omp2, b2⟩
      have AP2 := AP1.step b2
      have AQ2 := AQ1.step b2
      have AX2 := AX1.step b2
      have Nmmp := own_apart Om1 Omp2 (by first | exact Nat.le_refl _ | simp)
      have Nmpm := own_apart' Om1 Omp2 (by first | exact Nat.le_refl _ | simp)
      have Om2 := own_below Om1 b2 (Nat.le_refl _)
      have B2 := bl_trans B1 b2
      obtain ⟨amp, capmp, rfl, -⟩ := own_at Omp2
      go_wp2_with fail
      refine (CS.out _ _ _ (own_pv Om2) (own_rv Omp2)).mono ?_
      rintro e w3 ⟨rfl, b3⟩
      have AP3 := AP2.step b3
      have AQ3 := AQ2.step b3
      have AX3 := AX2.step b3
      have Om3 := own_below Om2 b3 (Nat.le_refl _)
      have Omp3 := own_below Omp2 b3 (Nat.le_refl _)
      have B3 := bl_trans B2 b3
      go_wp2_with fail
      refine (toBoard_pv (b := ⟨wd, hg, ps⟩) ⟨_, rfl, AP3⟩ (by simp; omega)).mono ?_
      rintro e w4 ⟨vx, rfl, Ox4, b4⟩
      have AP4 := AP3.step b4
      have AQ4 := AQ3.step b4
      have AX4 := AX3.step b4
      have B4 := bl_trans B3 b4
      obtain ⟨ax, capx, rfl, -⟩ := own_at Ox4
      go_wp2_with fail
      refine (toPushS_rv (AQ4.step (bl_alloc (Below.refl _ _))) (by omega)).mono ?_
      rintro e w5 ⟨vy, rfl, Oy5, c5⟩
      have b5 := bl_trans (bl_alloc (o := .cells #[.int .i8 wd, .int .i8 hg, .slice ax ps.length capx] 34) (Below.refl w4.heap.size w4)) c5
      have AY5 := (BX3.new w4 (.int .i8 wd) (.int .i8 hg) (.slice ax ps.length capx) 34).step c5
      have AP5 := AP4.step b5
      have AQ5 := AQ4.step b5
      have AX5 := AX4.step b5
      have Nxy := own_apart Ox4 Oy5 (by first | exact Nat.le_refl _ | simp)
      have Nyx := own_apart' Ox4 Oy5 (by first | exact Nat.le_refl _ | simp)
      have Ox5 := own_below Ox4 b5 (Nat.le_refl _)
      have B5 := bl_trans B4 b5
      obtain ⟨ay, capy, rfl, -⟩ := own_at Oy5
      go_wp2_with fail
      refine (CI.out _ _ _ (own_pv Ox5) (own_rv Oy5)).mono ?_
      rintro e w6 ⟨rfl, b6⟩
      have AP6 := AP5.step b6
      have AQ6 := AQ5.step b6
      have AX6 := AX5.step b6
      have AY6 := AY5.step b6
      have Ox6 := own_below Ox5 b6 (Nat.le_refl _)
      have Oy6 := own_below Oy5 b6 (Nat.le_refl _)
      have B6 := bl_trans B5 b6
      go_upto_region 14 with fail
      have CK := Lib.hid (fun w' (h : Below w6.heap.size w6 w') => toBoard_pv (b := ⟨wd, hg, ps⟩) (w := w') ⟨_, rfl, AP6.step h⟩ (by simp; omega))
      have CL := Lib.hid (fun w' s' (h : Below w6.heap.size w6 w') (h' : PV w' s' ps) => eqBoard_yes (b := ⟨wd, hg, ps⟩) (w := w') ⟨_, rfl, (own_pv Ox6).step h⟩ ⟨s', rfl, h'⟩ (by simp; omega))
      go_region_held3 (fun w' => Below w6.heap.size w6 w' ∧ ∀ b o, b < w6.heap.size → w'.cell? ⟨b, o, none⟩ = w6.cell? ⟨b, o, none⟩) ((refine ext_s ?_; exact (by repeat (first | with_reducible exact Below.refl _ _ | with_reducible assumption | with_reducible apply bl_drewN | with_reducible apply bl_drew | with_reducible apply bl_alloc | (with_reducible refine bl_set ?_ (by first | (simp; done) | (simp; omega)) _) | with_reducible refine bl_trans ?_ (by with_reducible assumption))))) (first | (go_at_call 12; refine (CK.out _ ?_).mono ?_; (exact (by repeat (first | with_reducible exact Below.refl _ _ | with_reducible assumption | with_reducible apply bl_drewN | with_reducible apply bl_drew | with_reducible apply bl_alloc | (with_reducible refine bl_set ?_ (by first | (simp; done) | (simp; omega)) _) | with_reducible refine bl_trans ?_ (by with_reducible assumption)))); rintro e wa ⟨sa, rfl, Oa, ba⟩; obtain ⟨hca, hfa⟩ := bcell ba) | (go_at_call 16; refine (CL.out _ _ ?_ (own_pv Oa)).mono ?_; (exact (by repeat (first | with_reducible exact Below.refl _ _ | with_reducible assumption | with_reducible apply bl_drewN | with_reducible apply bl_drew | with_reducible apply bl_alloc | (with_reducible refine bl_set ?_ (by first | (simp; done) | (simp; omega)) _) | with_reducible refine bl_trans ?_ (by with_reducible assumption)))); rintro e w7 ⟨rfl, be⟩))
      have b7 : Below w6.heap.size w6 w7 := (by repeat (first | with_reducible exact Below.refl _ _ | with_reducible assumption | with_reducible apply bl_drewN | with_reducible apply bl_drew | with_reducible apply bl_alloc | (with_reducible refine bl_set ?_ (by first | (simp; done) | (simp; omega)) _) | with_reducible refine bl_trans ?_ (by with_reducible assumption)))
      clear CK CL
      have AP7 := AP6.step b7
      have AQ7 := AQ6.step b7
      have AX7 := AX6.step b7
      have AY7 := AY6.step b7
      have Ox7 := own_below Ox6 b7 (Nat.le_refl _)
      have Oy7 := own_below Oy6 b7 (Nat.le_refl _)
      have B7 := bl_trans B6 b7
      go_wp2_with fail
      refine (toPushS_rv AQ7 (by omega)).mono ?_
      rintro e w8 ⟨vp, rfl, Op8, b8⟩
      have AP8 := AP7.step b8
      have AQ8 := AQ7.step b8
      have AX8 := AX7.step b8
      have AY8 := AY7.step b8
      have Nyp := own_apart Oy7 Op8 (by first | exact Nat.le_refl _ | simp)
      have Npy := own_apart' Oy7 Op8 (by first | exact Nat.le_refl _ | simp)
      have Oy8 := own_below Oy7 b8 (Nat.le_refl _)
      have B8 := bl_trans B7 b8
      obtain ⟨ap, capp, rfl, -⟩ := own_at Op8
      go_wp2_with fail
      refine (eqPushS_yes (own_rv Oy8) (own_rv Op8) (by omega)).mono ?_
      rintro e w9 ⟨rfl, b9⟩
      have AP9 := AP8.step b9
      have AQ9 := AQ8.step b9
      have AX9 := AX8.step b9
      have AY9 := AY8.step b9
      have Oy9 := own_below Oy8 b9 (Nat.le_refl _)
      have Op9 := own_below Op8 b9 (Nat.le_refl _)
      have B9 := bl_trans B8 b9
      go_wp2
      go_ret
      exact ⟨rfl, bl_trans bu0 B9⟩
    · have Hs1 := Lib.hid (show szv pl.length (1048576 - ps.length) = -1 by unfold szv; rw [if_pos (by omega)])
      go_enter Tryz.func4, Tryz.ntmps4
      go_wp2_with fail
      refine (szBoard_any wd hg a ps.length cap _ _ (by omega) (by omega) (by omega)).mono ?_
      rintro e u ⟨rfl, bu⟩
      rw [Hs.out]
      have bu0 : Below w.heap.size w u := bl_trans (bl_alloc (Below.refl _ _)) bu
      go_wp2_with fail
      refine (szPushS_any a1 pl.length cap1 _ _ (by omega) (by omega) (by omega)).mono ?_
      rintro e w' ⟨rfl, rfl⟩
      rw [Hs1.out]
      go_wp2
      go_ret
      exact ⟨rfl, bu0⟩
  · have Hs := Lib.hid (show szv ps.length 1048576 = -1 by unfold szv; rw [if_pos (by omega)])
    go_enter Tryz.func4, Tryz.ntmps4
    go_wp2_with fail
    refine (szBoard_any wd hg a ps.length cap _ _ (by omega) (by omega) (by omega)).mono ?_
    rintro e u ⟨rfl, bu⟩
    rw [Hs.out]
    have bu0 : Below w.heap.size w u := bl_trans (bl_alloc (Below.refl _ _)) bu
    go_wp2
    go_ret
    exact ⟨rfl, bu0⟩
set_option maxRecDepth 100000 in
theorem lawFallenUntil_any (wd hg : Int) (a : Option Addr) (cap : Nat) (ps : List Pc) (a1 : Option Addr) (cap1 : Nat) (pl : List Pu) (tk : Int) (w : World) (hps : PcsAt w.heap.size w a ps) (hok : (Bd.mk wd hg ps).ok) (hl : ps.length ≤ 9223372036854775807)
    (h1 : SlAt w.heap.size w a1 (flat Pu.cells pl)) (ok1 : PusOk pl) (hl1 : pl.length ≤ 9223372036854775807) :
    Calls Tryz.prog 5 #[bdv wd hg (.slice a ps.length cap), .slice a1 pl.length cap1, .int .i64 tk] w fun e w' => e = .returned (.bool true) ∧ Below w.heap.size w w' := by
  by_cases hn : ps.length ≤ 1048576
  · have Hs := Lib.hid (show szv ps.length 1048576 = 1048576 - ps.length by unfold szv; rw [if_neg (by omega)])
    by_cases hn1 : ps.length + pl.length ≤ 1048576
    · have Hs1 := Lib.hid (show szv pl.length (1048576 - ps.length) = 1048576 - ps.length - pl.length by unfold szv; rw [if_neg (by omega)])
      have P0 : PV w (.slice a ps.length cap) ps := ⟨a, cap, rfl, hps⟩
      have Q0 : RV Pu.cells w (.slice a1 pl.length cap1) pl := ⟨a1, cap1, rfl, h1⟩
      have X0 := BX3.new w (.int .i8 wd) (.int .i8 hg) (.slice a ps.length cap) 25
      have hln0 := fuList_len ⟨wd, hg, ps⟩ pl tk
      have hln : (fuList ⟨wd, hg, ps⟩ pl tk).length ≤ 1048577 := by first | exact Nat.le_trans hln0 (Nat.le_succ_of_le hn) | exact Nat.le_trans hln0 (Nat.succ_le_succ hn)
      obtain ⟨rv, hrv⟩ : ∃ rv, rv = fuList ⟨wd, hg, ps⟩ pl tk := ⟨_, rfl⟩
      obtain ⟨rc, hrc⟩ : ∃ rc, rc = fuCode ⟨wd, hg, ps⟩ pl tk := ⟨_, rfl⟩
      have CS := fun s va w' (h : PV w' s ps) (h1 : SV Pu.cells w' va pl) => specFallenUntil_any wd hg s ps va pl tk w' h hok (by omega) h1 ok1 (by omega)
      have CI := fun s va w' (h : PV w' s ps) (h1 : SV Pu.cells w' va pl) => fallenUntil_any wd hg s ps va pl tk w' h hok (by omega) h1 ok1 (by omega)
      rw [← hrv, ← hrc] at CS CI
      rw [← hrv] at hln
      clear hln0
      have CS := Lib.hid CS
      have CI := Lib.hid CI
      clear hrv hrc h1 hps
      go_enter Tryz.func5, Tryz.ntmps5
      go_wp2_with fail
      refine (szBoard_any wd hg a ps.length cap _ _ (by omega) (by omega) (by omega)).mono ?_
      rintro e u ⟨rfl, bu⟩
      rw [Hs.out]
      have A0 := (P0.step (bl_alloc (Below.refl _ _))).step bu
      have A1 := (Q0.step (bl_alloc (Below.refl _ _))).step bu
      have AX := X0.step bu
      have bu0 : Below w.heap.size w u := bl_trans (bl_alloc (Below.refl _ _)) bu
      go_wp2_with fail
      refine (szPushS_any a1 pl.length cap1 _ _ (by omega) (by omega) (by omega)).mono ?_
      rintro e w' ⟨rfl, rfl⟩
      rw [Hs1.out]
      go_wp2_with fail
      refine (toBoard_pv (b := ⟨wd, hg, ps⟩) ⟨_, rfl, A0⟩ (by simp; omega)).mono ?_
      rintro e w1 ⟨vm, rfl, Om1, b1⟩
      have AP1 := A0.step b1
      have AQ1 := A1.step b1
      have AX1 := AX.step b1
      have B1 := b1
      obtain ⟨am, capm, rfl, -⟩ := own_at Om1
      go_wp2_with fail
      refine (toPushS_rv AQ1 (by omega)).mono ?_
      rintro e w2 ⟨vmp, rfl, Omp2, b2⟩
      have AP2 := AP1.step b2
      have AQ2 := AQ1.step b2
      have AX2 := AX1.step b2
      have Nmmp := own_apart Om1 Omp2 (by first | exact Nat.le_refl _ | simp)
      have Nmpm := own_apart' Om1 Omp2 (by first | exact Nat.le_refl _ | simp)
      have Om2 := own_below Om1 b2 (Nat.le_refl _)
      have B2 := bl_trans B1 b2
      obtain ⟨amp, capmp, rfl, -⟩ := own_at Omp2
      go_wp2_with fail
      refine (CS.out _ _ _ (own_pv Om2) (own_rv Omp2)).mono ?_
      rintro e w3 ⟨vw, rfl, Ow3, b3⟩
      have AP3 := AP2.step b3
      have AQ3 := AQ2.step b3
      have AX3 := AX2.step b3
      have Nmw := own_apart Om2 Ow3 (by first | exact Nat.le_refl _ | simp)
      have Nwm := own_apart' Om2 Ow3 (by first | exact Nat.le_refl _ | simp)
      have Nmpw := own_apart Omp2 Ow3 (by first | exact Nat.le_refl _ | simp)
      have Nwmp := own_apart' Omp2 Ow3 (by first | exact Nat.le_refl _ | simp)
      have Om3 := own_below Om2 b3 (Nat.le_refl _)
      have Omp3 := own_below Omp2 b3 (Nat.le_refl _)
      have B3 := bl_trans B2 b3
      go_wp2_with fail
      refine (toBoard_pv (b := ⟨wd, hg, ps⟩) ⟨_, rfl, AP3⟩ (by simp; omega)).mono ?_
      rintro e w4 ⟨vx, rfl, Ox4, b4⟩
      have AP4 := AP3.step b4
      have AQ4 := AQ3.step b4
      have AX4 := AX3.step b4
      have Nwx := own_apart Ow3 Ox4 (by first | exact Nat.le_refl _ | simp)
      have Nxw := own_apart' Ow3 Ox4 (by first | exact Nat.le_refl _ | simp)
      have Ow4 := own_below Ow3 b4 (Nat.le_refl _)
      have B4 := bl_trans B3 b4
      obtain ⟨ax, capx, rfl, -⟩ := own_at Ox4
      go_wp2_with fail
      refine (toPushS_rv (AQ4.step (bl_alloc (Below.refl _ _))) (by omega)).mono ?_
      rintro e w5 ⟨vy, rfl, Oy5, c5⟩
      have b5 := bl_trans (bl_alloc (o := .cells #[.int .i8 wd, .int .i8 hg, .slice ax ps.length capx] 34) (Below.refl w4.heap.size w4)) c5
      have AY5 := (BX3.new w4 (.int .i8 wd) (.int .i8 hg) (.slice ax ps.length capx) 34).step c5
      have AP5 := AP4.step b5
      have AQ5 := AQ4.step b5
      have AX5 := AX4.step b5
      have Nwy := own_apart Ow4 Oy5 (by first | exact Nat.le_refl _ | simp)
      have Nyw := own_apart' Ow4 Oy5 (by first | exact Nat.le_refl _ | simp)
      have Nxy := own_apart Ox4 Oy5 (by first | exact Nat.le_refl _ | simp)
      have Nyx := own_apart' Ox4 Oy5 (by first | exact Nat.le_refl _ | simp)
      have Ow5 := own_below Ow4 b5 (Nat.le_refl _)
      have Ox5 := own_below Ox4 b5 (Nat.le_refl _)
      have B5 := bl_trans B4 b5
      obtain ⟨ay, capy, rfl, -⟩ := own_at Oy5
      go_wp2_with fail
      refine (CI.out _ _ _ (own_pv Ox5) (own_rv Oy5)).mono ?_
      rintro e w6 ⟨vg, rfl, Og6, b6⟩
      have AP6 := AP5.step b6
      have AQ6 := AQ5.step b6
      have AX6 := AX5.step b6
      have AY6 := AY5.step b6
      have Nwg := own_apart Ow5 Og6 (by first | exact Nat.le_refl _ | simp)
      have Ngw := own_apart' Ow5 Og6 (by first | exact Nat.le_refl _ | simp)
      have Nxg := own_apart Ox5 Og6 (by first | exact Nat.le_refl _ | simp)
      have Ngx := own_apart' Ox5 Og6 (by first | exact Nat.le_refl _ | simp)
      have Nyg := own_apart Oy5 Og6 (by first | exact Nat.le_refl _ | simp)
      have Ngy := own_apart' Oy5 Og6 (by first | exact Nat.le_refl _ | simp)
      have Ow6 := own_below Ow5 b6 (Nat.le_refl _)
      have Ox6 := own_below Ox5 b6 (Nat.le_refl _)
      have Oy6 := own_below Oy5 b6 (Nat.le_refl _)
      have B6 := bl_trans B5 b6
      go_wp2_with fail
      refine (eqInt64S_yes (own_rv Og6) (own_rv Ow6) (by omega)).mono ?_
      rintro e w7 ⟨rfl, b7⟩
      have AP7 := AP6.step b7
      have AQ7 := AQ6.step b7
      have AX7 := AX6.step b7
      have AY7 := AY6.step b7
      have Ow7 := own_below Ow6 b7 (Nat.le_refl _)
      have Ox7 := own_below Ox6 b7 (Nat.le_refl _)
      have Oy7 := own_below Oy6 b7 (Nat.le_refl _)
      have Og7 := own_below Og6 b7 (Nat.le_refl _)
      have B7 := bl_trans B6 b7
      go_upto_region 14 with fail
      have CK := Lib.hid (fun w' (h : Below w7.heap.size w7 w') => toBoard_pv (b := ⟨wd, hg, ps⟩) (w := w') ⟨_, rfl, AP7.step h⟩ (by simp; omega))
      have CL := Lib.hid (fun w' s' (h : Below w7.heap.size w7 w') (h' : PV w' s' ps) => eqBoard_yes (b := ⟨wd, hg, ps⟩) (w := w') ⟨_, rfl, (own_pv Ox7).step h⟩ ⟨s', rfl, h'⟩ (by simp; omega))
      go_region_held3 (fun w' => Below w7.heap.size w7 w' ∧ ∀ b o, b < w7.heap.size → w'.cell? ⟨b, o, none⟩ = w7.cell? ⟨b, o, none⟩) ((refine ext_s ?_; exact (by repeat (first | with_reducible exact Below.refl _ _ | with_reducible assumption | with_reducible apply bl_drewN | with_reducible apply bl_drew | with_reducible apply bl_alloc | (with_reducible refine bl_set ?_ (by first | (simp; done) | (simp; omega)) _) | with_reducible refine bl_trans ?_ (by with_reducible assumption))))) (first | (go_at_call 12; refine (CK.out _ ?_).mono ?_; (exact (by repeat (first | with_reducible exact Below.refl _ _ | with_reducible assumption | with_reducible apply bl_drewN | with_reducible apply bl_drew | with_reducible apply bl_alloc | (with_reducible refine bl_set ?_ (by first | (simp; done) | (simp; omega)) _) | with_reducible refine bl_trans ?_ (by with_reducible assumption)))); rintro e wa ⟨sa, rfl, Oa, ba⟩; obtain ⟨hca, hfa⟩ := bcell ba) | (go_at_call 16; refine (CL.out _ _ ?_ (own_pv Oa)).mono ?_; (exact (by repeat (first | with_reducible exact Below.refl _ _ | with_reducible assumption | with_reducible apply bl_drewN | with_reducible apply bl_drew | with_reducible apply bl_alloc | (with_reducible refine bl_set ?_ (by first | (simp; done) | (simp; omega)) _) | with_reducible refine bl_trans ?_ (by with_reducible assumption)))); rintro e w8 ⟨rfl, be⟩))
      have b8 : Below w7.heap.size w7 w8 := (by repeat (first | with_reducible exact Below.refl _ _ | with_reducible assumption | with_reducible apply bl_drewN | with_reducible apply bl_drew | with_reducible apply bl_alloc | (with_reducible refine bl_set ?_ (by first | (simp; done) | (simp; omega)) _) | with_reducible refine bl_trans ?_ (by with_reducible assumption)))
      clear CK CL
      have AP8 := AP7.step b8
      have AQ8 := AQ7.step b8
      have AX8 := AX7.step b8
      have AY8 := AY7.step b8
      have Ow8 := own_below Ow7 b8 (Nat.le_refl _)
      have Ox8 := own_below Ox7 b8 (Nat.le_refl _)
      have Oy8 := own_below Oy7 b8 (Nat.le_refl _)
      have Og8 := own_below Og7 b8 (Nat.le_refl _)
      have B8 := bl_trans B7 b8
      go_wp2_with fail
      refine (toPushS_rv AQ8 (by omega)).mono ?_
      rintro e w9 ⟨vp, rfl, Op9, b9⟩
      have AP9 := AP8.step b9
      have AQ9 := AQ8.step b9
      have AX9 := AX8.step b9
      have AY9 := AY8.step b9
      have Nwp := own_apart Ow8 Op9 (by first | exact Nat.le_refl _ | simp)
      have Npw := own_apart' Ow8 Op9 (by first | exact Nat.le_refl _ | simp)
      have Nxp := own_apart Ox8 Op9 (by first | exact Nat.le_refl _ | simp)
      have Npx := own_apart' Ox8 Op9 (by first | exact Nat.le_refl _ | simp)
      have Nyp := own_apart Oy8 Op9 (by first | exact Nat.le_refl _ | simp)
      have Npy := own_apart' Oy8 Op9 (by first | exact Nat.le_refl _ | simp)
      have Ngp := own_apart Og8 Op9 (by first | exact Nat.le_refl _ | simp)
      have Npg := own_apart' Og8 Op9 (by first | exact Nat.le_refl _ | simp)
      have Ow9 := own_below Ow8 b9 (Nat.le_refl _)
      have Ox9 := own_below Ox8 b9 (Nat.le_refl _)
      have Oy9 := own_below Oy8 b9 (Nat.le_refl _)
      have Og9 := own_below Og8 b9 (Nat.le_refl _)
      have B9 := bl_trans B8 b9
      obtain ⟨ap, capp, rfl, -⟩ := own_at Op9
      go_wp2_with fail
      refine (eqPushS_yes (own_rv Oy9) (own_rv Op9) (by omega)).mono ?_
      rintro e w10 ⟨rfl, b10⟩
      have AP10 := AP9.step b10
      have AQ10 := AQ9.step b10
      have AX10 := AX9.step b10
      have AY10 := AY9.step b10
      have Ow10 := own_below Ow9 b10 (Nat.le_refl _)
      have Ox10 := own_below Ox9 b10 (Nat.le_refl _)
      have Oy10 := own_below Oy9 b10 (Nat.le_refl _)
      have Og10 := own_below Og9 b10 (Nat.le_refl _)
      have Op10 := own_below Op9 b10 (Nat.le_refl _)
      have B10 := bl_trans B9 b10
      go_wp2_with fail
      refine (markBoard_any 1 _ Ox10 (by omega) (by omega) (by omega)).mono ?_
      rintro e w11 ⟨rfl, Mx11, g11⟩
      have Ow11 := own_kept Ow10 g11 Nwx
      have Oy11 := own_kept Oy10 g11 Nyx
      have Og11 := own_kept Og10 g11 Ngx
      have B11 := bl_grown B10 g11 (fun k hk => by have h1 := B3.size; have h2 := (Ox10.lt k hk).1; (try simp only [World.size_alloc] at h2); omega)
      have AP11 := A0.step B11
      have AQ11 := A1.step B11
      have AX11 := AX.step B11
      go_wp2_with fail
      refine (markPushS_any _ _ Oy11 (by omega) (by omega) (by omega)).mono ?_
      rintro e w12 ⟨rfl, My12, g12⟩
      have Ow12 := own_kept Ow11 g12 Nwy
      have Og12 := own_kept Og11 g12 Ngy
      have B12 := bl_grown B11 g12 (fun k hk => by have h1 := B4.size; have h2 := (Oy11.lt k hk).1; (try simp only [World.size_alloc] at h2); omega)
      have AP12 := A0.step B12
      have AQ12 := A1.step B12
      have AX12 := AX.step B12
      go_wp2_with fail
      refine (eqInt64S_yes (own_rv Og12) (own_rv Ow12) (by omega)).mono ?_
      rintro e w13 ⟨rfl, b13⟩
      have AP13 := AP12.step b13
      have AQ13 := AQ12.step b13
      have AX13 := AX12.step b13
      have Ow13 := own_below Ow12 b13 (Nat.le_refl _)
      have Og13 := own_below Og12 b13 (Nat.le_refl _)
      have B13 := bl_trans B12 b13
      go_wp2_with fail
      refine (markInt64S_any 1 _ Og13 (by omega) (by omega) (by omega)).mono ?_
      rintro e w14 ⟨rfl, Mg14, g14⟩
      have Ow14 := own_kept Ow13 g14 Nwg
      have B14 := bl_grown B13 g14 (fun k hk => by have h1 := B5.size; have h2 := (Og13.lt k hk).1; (try simp only [World.size_alloc] at h2); omega)
      have AP14 := A0.step B14
      have AQ14 := A1.step B14
      have AX14 := AX.step B14
      go_wp2_with fail
      refine (heldInt64S_own 1 Mg14 (by omega) (by omega) (by omega)).mono ?_
      rintro e w' ⟨rfl, rfl⟩
      go_wp2_with fail
      refine (toBoard_pv (b := ⟨wd, hg, ps⟩) ⟨_, rfl, AP14⟩ (by simp; omega)).mono ?_
      rintro e w15 ⟨vz, rfl, Oz15, b15⟩
      have AP15 := AP14.step b15
      have AQ15 := AQ14.step b15
      have AX15 := AX14.step b15
      have Nwz := own_apart Ow14 Oz15 (by first | exact Nat.le_refl _ | simp)
      have Nzw := own_apart' Ow14 Oz15 (by first | exact Nat.le_refl _ | simp)
      have Ngz := own_apart Mg14 Oz15 (by first | exact Nat.le_refl _ | simp)
      have Nzg := own_apart' Mg14 Oz15 (by first | exact Nat.le_refl _ | simp)
      have Ow15 := own_below Ow14 b15 (Nat.le_refl _)
      have Og15 := own_below Mg14 b15 (Nat.le_refl _)
      have B15 := bl_trans B14 b15
      obtain ⟨az, capz, rfl, -⟩ := own_at Oz15
      go_wp2_with fail
      refine (toPushS_rv AQ15 (by omega)).mono ?_
      rintro e w16 ⟨vzp, rfl, Ozp16, b16⟩
      have AP16 := AP15.step b16
      have AQ16 := AQ15.step b16
      have AX16 := AX15.step b16
      have Nwzp := own_apart Ow15 Ozp16 (by first | exact Nat.le_refl _ | simp)
      have Nzpw := own_apart' Ow15 Ozp16 (by first | exact Nat.le_refl _ | simp)
      have Ngzp := own_apart Og15 Ozp16 (by first | exact Nat.le_refl _ | simp)
      have Nzpg := own_apart' Og15 Ozp16 (by first | exact Nat.le_refl _ | simp)
      have Nzzp := own_apart Oz15 Ozp16 (by first | exact Nat.le_refl _ | simp)
      have Nzpz := own_apart' Oz15 Ozp16 (by first | exact Nat.le_refl _ | simp)
      have Ow16 := own_below Ow15 b16 (Nat.le_refl _)
      have Og16 := own_below Og15 b16 (Nat.le_refl _)
      have Oz16 := own_below Oz15 b16 (Nat.le_refl _)
      have B16 := bl_trans B15 b16
      obtain ⟨azp, capzp, rfl, -⟩ := own_at Ozp16
      go_wp2_with fail
      refine (CI.out _ _ _ (own_pv Oz16) (own_rv Ozp16)).mono ?_
      rintro e w17 ⟨vh, rfl, Oh17, b17⟩
      have AP17 := AP16.step b17
      have AQ17 := AQ16.step b17
      have AX17 := AX16.step b17
      have Nwh := own_apart Ow16 Oh17 (by first | exact Nat.le_refl _ | simp)
      have Nhw := own_apart' Ow16 Oh17 (by first | exact Nat.le_refl _ | simp)
      have Ngh := own_apart Og16 Oh17 (by first | exact Nat.le_refl _ | simp)
      have Nhg := own_apart' Og16 Oh17 (by first | exact Nat.le_refl _ | simp)
      have Nzh := own_apart Oz16 Oh17 (by first | exact Nat.le_refl _ | simp)
      have Nhz := own_apart' Oz16 Oh17 (by first | exact Nat.le_refl _ | simp)
      have Nzph := own_apart Ozp16 Oh17 (by first | exact Nat.le_refl _ | simp)
      have Nhzp := own_apart' Ozp16 Oh17 (by first | exact Nat.le_refl _ | simp)
      have Ow17 := own_below Ow16 b17 (Nat.le_refl _)
      have Og17 := own_below Og16 b17 (Nat.le_refl _)
      have Oz17 := own_below Oz16 b17 (Nat.le_refl _)
      have Ozp17 := own_below Ozp16 b17 (Nat.le_refl _)
      have B17 := bl_trans B16 b17
      go_wp2_with fail
      refine (eqInt64S_yes (own_rv Oh17) (own_rv Ow17) (by omega)).mono ?_
      rintro e w18 ⟨rfl, b18⟩
      have AP18 := AP17.step b18
      have AQ18 := AQ17.step b18
      have AX18 := AX17.step b18
      have Ow18 := own_below Ow17 b18 (Nat.le_refl _)
      have Og18 := own_below Og17 b18 (Nat.le_refl _)
      have Oz18 := own_below Oz17 b18 (Nat.le_refl _)
      have Ozp18 := own_below Ozp17 b18 (Nat.le_refl _)
      have Oh18 := own_below Oh17 b18 (Nat.le_refl _)
      have B18 := bl_trans B17 b18
      go_wp2_with fail
      refine (heldInt64S_own 1 Og18 (by omega) (by omega) (by omega)).mono ?_
      rintro e w' ⟨rfl, rfl⟩
      go_wp2
      go_ret
      exact ⟨rfl, bl_trans bu0 B18⟩
    · have Hs1 := Lib.hid (show szv pl.length (1048576 - ps.length) = -1 by unfold szv; rw [if_pos (by omega)])
      go_enter Tryz.func5, Tryz.ntmps5
      go_wp2_with fail
      refine (szBoard_any wd hg a ps.length cap _ _ (by omega) (by omega) (by omega)).mono ?_
      rintro e u ⟨rfl, bu⟩
      rw [Hs.out]
      have bu0 : Below w.heap.size w u := bl_trans (bl_alloc (Below.refl _ _)) bu
      go_wp2_with fail
      refine (szPushS_any a1 pl.length cap1 _ _ (by omega) (by omega) (by omega)).mono ?_
      rintro e w' ⟨rfl, rfl⟩
      rw [Hs1.out]
      go_wp2
      go_ret
      exact ⟨rfl, bu0⟩
  · have Hs := Lib.hid (show szv ps.length 1048576 = -1 by unfold szv; rw [if_pos (by omega)])
    go_enter Tryz.func5, Tryz.ntmps5
    go_wp2_with fail
    refine (szBoard_any wd hg a ps.length cap _ _ (by omega) (by omega) (by omega)).mono ?_
    rintro e u ⟨rfl, bu⟩
    rw [Hs.out]
    have bu0 : Below w.heap.size w u := bl_trans (bl_alloc (Below.refl _ _)) bu
    go_wp2
    go_ret
    exact ⟨rfl, bu0⟩
set_option maxRecDepth 100000 in
theorem lawStandingAfter_any (wd hg : Int) (a : Option Addr) (cap : Nat) (ps : List Pc) (a1 : Option Addr) (cap1 : Nat) (pl : List Pu) (w : World) (hps : PcsAt w.heap.size w a ps) (hok : (Bd.mk wd hg ps).ok) (hl : ps.length ≤ 9223372036854775807)
    (h1 : SlAt w.heap.size w a1 (flat Pu.cells pl)) (ok1 : PusOk pl) (hl1 : pl.length ≤ 9223372036854775807) :
    Calls Tryz.prog 6 #[bdv wd hg (.slice a ps.length cap), .slice a1 pl.length cap1] w fun e w' => e = .returned (.bool true) ∧ Below w.heap.size w w' := by
  by_cases hn : ps.length ≤ 1048576
  · have Hs := Lib.hid (show szv ps.length 1048576 = 1048576 - ps.length by unfold szv; rw [if_neg (by omega)])
    by_cases hn1 : ps.length + pl.length ≤ 1048576
    · have Hs1 := Lib.hid (show szv pl.length (1048576 - ps.length) = 1048576 - ps.length - pl.length by unfold szv; rw [if_neg (by omega)])
      have P0 : PV w (.slice a ps.length cap) ps := ⟨a, cap, rfl, hps⟩
      have Q0 : RV Pu.cells w (.slice a1 pl.length cap1) pl := ⟨a1, cap1, rfl, h1⟩
      have X0 := BX3.new w (.int .i8 wd) (.int .i8 hg) (.slice a ps.length cap) 25
      have hln0 := saList_len ⟨wd, hg, ps⟩ pl
      have hln : (saList ⟨wd, hg, ps⟩ pl).length ≤ 1048577 := by first | exact Nat.le_trans hln0 (Nat.le_succ_of_le hn) | exact Nat.le_trans hln0 (Nat.succ_le_succ hn)
      obtain ⟨rv, hrv⟩ : ∃ rv, rv = saList ⟨wd, hg, ps⟩ pl := ⟨_, rfl⟩
      obtain ⟨rc, hrc⟩ : ∃ rc, rc = rbCode ⟨wd, hg, ps⟩ pl := ⟨_, rfl⟩
      have CS := fun s va w' (h : PV w' s ps) (h1 : SV Pu.cells w' va pl) => specStandingAfter_any wd hg s ps va pl w' h hok (by omega) h1 ok1 (by omega)
      have CI := fun s va w' (h : PV w' s ps) (h1 : SV Pu.cells w' va pl) => standingAfter_any wd hg s ps va pl w' h hok (by omega) h1 ok1 (by omega)
      rw [← hrv, ← hrc] at CS CI
      rw [← hrv] at hln
      clear hln0
      have CS := Lib.hid CS
      have CI := Lib.hid CI
      clear hrv hrc h1 hps
      go_enter Tryz.func6, Tryz.ntmps6
      go_wp2_with fail
      refine (szBoard_any wd hg a ps.length cap _ _ (by omega) (by omega) (by omega)).mono ?_
      rintro e u ⟨rfl, bu⟩
      rw [Hs.out]
      have A0 := (P0.step (bl_alloc (Below.refl _ _))).step bu
      have A1 := (Q0.step (bl_alloc (Below.refl _ _))).step bu
      have AX := X0.step bu
      have bu0 : Below w.heap.size w u := bl_trans (bl_alloc (Below.refl _ _)) bu
      go_wp2_with fail
      refine (szPushS_any a1 pl.length cap1 _ _ (by omega) (by omega) (by omega)).mono ?_
      rintro e w' ⟨rfl, rfl⟩
      rw [Hs1.out]
      go_wp2_with fail
      refine (toBoard_pv (b := ⟨wd, hg, ps⟩) ⟨_, rfl, A0⟩ (by simp; omega)).mono ?_
      rintro e w1 ⟨vm, rfl, Om1, b1⟩
      have AP1 := A0.step b1
      have AQ1 := A1.step b1
      have AX1 := AX.step b1
      have B1 := b1
      obtain ⟨am, capm, rfl, -⟩ := own_at Om1
      go_wp2_with fail
      refine (toPushS_rv AQ1 (by omega)).mono ?_
      rintro e w2 ⟨vmp, rfl, Omp2, b2⟩
      have AP2 := AP1.step b2
      have AQ2 := AQ1.step b2
      have AX2 := AX1.step b2
      have Nmmp := own_apart Om1 Omp2 (by first | exact Nat.le_refl _ | simp)
      have Nmpm := own_apart' Om1 Omp2 (by first | exact Nat.le_refl _ | simp)
      have Om2 := own_below Om1 b2 (Nat.le_refl _)
      have B2 := bl_trans B1 b2
      obtain ⟨amp, capmp, rfl, -⟩ := own_at Omp2
      go_wp2_with fail
      refine (CS.out _ _ _ (own_pv Om2) (own_rv Omp2)).mono ?_
      rintro e w3 ⟨vw, rfl, Ow3, b3⟩
      have AP3 := AP2.step b3
      have AQ3 := AQ2.step b3
      have AX3 := AX2.step b3
      have Nmw := own_apart Om2 Ow3 (by first | exact Nat.le_refl _ | simp)
      have Nwm := own_apart' Om2 Ow3 (by first | exact Nat.le_refl _ | simp)
      have Nmpw := own_apart Omp2 Ow3 (by first | exact Nat.le_refl _ | simp)
      have Nwmp := own_apart' Omp2 Ow3 (by first | exact Nat.le_refl _ | simp)
      have Om3 := own_below Om2 b3 (Nat.le_refl _)
      have Omp3 := own_below Omp2 b3 (Nat.le_refl _)
      have B3 := bl_trans B2 b3
      go_wp2_with fail
      refine (toBoard_pv (b := ⟨wd, hg, ps⟩) ⟨_, rfl, AP3⟩ (by simp; omega)).mono ?_
      rintro e w4 ⟨vx, rfl, Ox4, b4⟩
      have AP4 := AP3.step b4
      have AQ4 := AQ3.step b4
      have AX4 := AX3.step b4
      have Nwx := own_apart Ow3 Ox4 (by first | exact Nat.le_refl _ | simp)
      have Nxw := own_apart' Ow3 Ox4 (by first | exact Nat.le_refl _ | simp)
      have Ow4 := own_below Ow3 b4 (Nat.le_refl _)
      have B4 := bl_trans B3 b4
      obtain ⟨ax, capx, rfl, -⟩ := own_at Ox4
      go_wp2_with fail
      refine (toPushS_rv (AQ4.step (bl_alloc (Below.refl _ _))) (by omega)).mono ?_
      rintro e w5 ⟨vy, rfl, Oy5, c5⟩
      have b5 := bl_trans (bl_alloc (o := .cells #[.int .i8 wd, .int .i8 hg, .slice ax ps.length capx] 34) (Below.refl w4.heap.size w4)) c5
      have AY5 := (BX3.new w4 (.int .i8 wd) (.int .i8 hg) (.slice ax ps.length capx) 34).step c5
      have AP5 := AP4.step b5
      have AQ5 := AQ4.step b5
      have AX5 := AX4.step b5
      have Nwy := own_apart Ow4 Oy5 (by first | exact Nat.le_refl _ | simp)
      have Nyw := own_apart' Ow4 Oy5 (by first | exact Nat.le_refl _ | simp)
      have Nxy := own_apart Ox4 Oy5 (by first | exact Nat.le_refl _ | simp)
      have Nyx := own_apart' Ox4 Oy5 (by first | exact Nat.le_refl _ | simp)
      have Ow5 := own_below Ow4 b5 (Nat.le_refl _)
      have Ox5 := own_below Ox4 b5 (Nat.le_refl _)
      have B5 := bl_trans B4 b5
      obtain ⟨ay, capy, rfl, -⟩ := own_at Oy5
      go_wp2_with fail
      refine (CI.out _ _ _ (own_pv Ox5) (own_rv Oy5)).mono ?_
      rintro e w6 ⟨vg, rfl, Og6, b6⟩
      have AP6 := AP5.step b6
      have AQ6 := AQ5.step b6
      have AX6 := AX5.step b6
      have AY6 := AY5.step b6
      have Nwg := own_apart Ow5 Og6 (by first | exact Nat.le_refl _ | simp)
      have Ngw := own_apart' Ow5 Og6 (by first | exact Nat.le_refl _ | simp)
      have Nxg := own_apart Ox5 Og6 (by first | exact Nat.le_refl _ | simp)
      have Ngx := own_apart' Ox5 Og6 (by first | exact Nat.le_refl _ | simp)
      have Nyg := own_apart Oy5 Og6 (by first | exact Nat.le_refl _ | simp)
      have Ngy := own_apart' Oy5 Og6 (by first | exact Nat.le_refl _ | simp)
      have Ow6 := own_below Ow5 b6 (Nat.le_refl _)
      have Ox6 := own_below Ox5 b6 (Nat.le_refl _)
      have Oy6 := own_below Oy5 b6 (Nat.le_refl _)
      have B6 := bl_trans B5 b6
      go_wp2_with fail
      refine (eqInt64S_yes (own_rv Og6) (own_rv Ow6) (by omega)).mono ?_
      rintro e w7 ⟨rfl, b7⟩
      have AP7 := AP6.step b7
      have AQ7 := AQ6.step b7
      have AX7 := AX6.step b7
      have AY7 := AY6.step b7
      have Ow7 := own_below Ow6 b7 (Nat.le_refl _)
      have Ox7 := own_below Ox6 b7 (Nat.le_refl _)
      have Oy7 := own_below Oy6 b7 (Nat.le_refl _)
      have Og7 := own_below Og6 b7 (Nat.le_refl _)
      have B7 := bl_trans B6 b7
      go_upto_region 14 with fail
      have CK := Lib.hid (fun w' (h : Below w7.heap.size w7 w') => toBoard_pv (b := ⟨wd, hg, ps⟩) (w := w') ⟨_, rfl, AP7.step h⟩ (by simp; omega))
      have CL := Lib.hid (fun w' s' (h : Below w7.heap.size w7 w') (h' : PV w' s' ps) => eqBoard_yes (b := ⟨wd, hg, ps⟩) (w := w') ⟨_, rfl, (own_pv Ox7).step h⟩ ⟨s', rfl, h'⟩ (by simp; omega))
      go_region_held3 (fun w' => Below w7.heap.size w7 w' ∧ ∀ b o, b < w7.heap.size → w'.cell? ⟨b, o, none⟩ = w7.cell? ⟨b, o, none⟩) ((refine ext_s ?_; exact (by repeat (first | with_reducible exact Below.refl _ _ | with_reducible assumption | with_reducible apply bl_drewN | with_reducible apply bl_drew | with_reducible apply bl_alloc | (with_reducible refine bl_set ?_ (by first | (simp; done) | (simp; omega)) _) | with_reducible refine bl_trans ?_ (by with_reducible assumption))))) (first | (go_at_call 12; refine (CK.out _ ?_).mono ?_; (exact (by repeat (first | with_reducible exact Below.refl _ _ | with_reducible assumption | with_reducible apply bl_drewN | with_reducible apply bl_drew | with_reducible apply bl_alloc | (with_reducible refine bl_set ?_ (by first | (simp; done) | (simp; omega)) _) | with_reducible refine bl_trans ?_ (by with_reducible assumption)))); rintro e wa ⟨sa, rfl, Oa, ba⟩; obtain ⟨hca, hfa⟩ := bcell ba) | (go_at_call 16; refine (CL.out _ _ ?_ (own_pv Oa)).mono ?_; (exact (by repeat (first | with_reducible exact Below.refl _ _ | with_reducible assumption | with_reducible apply bl_drewN | with_reducible apply bl_drew | with_reducible apply bl_alloc | (with_reducible refine bl_set ?_ (by first | (simp; done) | (simp; omega)) _) | with_reducible refine bl_trans ?_ (by with_reducible assumption)))); rintro e w8 ⟨rfl, be⟩))
      have b8 : Below w7.heap.size w7 w8 := (by repeat (first | with_reducible exact Below.refl _ _ | with_reducible assumption | with_reducible apply bl_drewN | with_reducible apply bl_drew | with_reducible apply bl_alloc | (with_reducible refine bl_set ?_ (by first | (simp; done) | (simp; omega)) _) | with_reducible refine bl_trans ?_ (by with_reducible assumption)))
      clear CK CL
      have AP8 := AP7.step b8
      have AQ8 := AQ7.step b8
      have AX8 := AX7.step b8
      have AY8 := AY7.step b8
      have Ow8 := own_below Ow7 b8 (Nat.le_refl _)
      have Ox8 := own_below Ox7 b8 (Nat.le_refl _)
      have Oy8 := own_below Oy7 b8 (Nat.le_refl _)
      have Og8 := own_below Og7 b8 (Nat.le_refl _)
      have B8 := bl_trans B7 b8
      go_wp2_with fail
      refine (toPushS_rv AQ8 (by omega)).mono ?_
      rintro e w9 ⟨vp, rfl, Op9, b9⟩
      have AP9 := AP8.step b9
      have AQ9 := AQ8.step b9
      have AX9 := AX8.step b9
      have AY9 := AY8.step b9
      have Nwp := own_apart Ow8 Op9 (by first | exact Nat.le_refl _ | simp)
      have Npw := own_apart' Ow8 Op9 (by first | exact Nat.le_refl _ | simp)
      have Nxp := own_apart Ox8 Op9 (by first | exact Nat.le_refl _ | simp)
      have Npx := own_apart' Ox8 Op9 (by first | exact Nat.le_refl _ | simp)
      have Nyp := own_apart Oy8 Op9 (by first | exact Nat.le_refl _ | simp)
      have Npy := own_apart' Oy8 Op9 (by first | exact Nat.le_refl _ | simp)
      have Ngp := own_apart Og8 Op9 (by first | exact Nat.le_refl _ | simp)
      have Npg := own_apart' Og8 Op9 (by first | exact Nat.le_refl _ | simp)
      have Ow9 := own_below Ow8 b9 (Nat.le_refl _)
      have Ox9 := own_below Ox8 b9 (Nat.le_refl _)
      have Oy9 := own_below Oy8 b9 (Nat.le_refl _)
      have Og9 := own_below Og8 b9 (Nat.le_refl _)
      have B9 := bl_trans B8 b9
      obtain ⟨ap, capp, rfl, -⟩ := own_at Op9
      go_wp2_with fail
      refine (eqPushS_yes (own_rv Oy9) (own_rv Op9) (by omega)).mono ?_
      rintro e w10 ⟨rfl, b10⟩
      have AP10 := AP9.step b10
      have AQ10 := AQ9.step b10
      have AX10 := AX9.step b10
      have AY10 := AY9.step b10
      have Ow10 := own_below Ow9 b10 (Nat.le_refl _)
      have Ox10 := own_below Ox9 b10 (Nat.le_refl _)
      have Oy10 := own_below Oy9 b10 (Nat.le_refl _)
      have Og10 := own_below Og9 b10 (Nat.le_refl _)
      have Op10 := own_below Op9 b10 (Nat.le_refl _)
      have B10 := bl_trans B9 b10
      go_wp2_with fail
      refine (markBoard_any 1 _ Ox10 (by omega) (by omega) (by omega)).mono ?_
      rintro e w11 ⟨rfl, Mx11, g11⟩
      have Ow11 := own_kept Ow10 g11 Nwx
      have Oy11 := own_kept Oy10 g11 Nyx
      have Og11 := own_kept Og10 g11 Ngx
      have B11 := bl_grown B10 g11 (fun k hk => by have h1 := B3.size; have h2 := (Ox10.lt k hk).1; (try simp only [World.size_alloc] at h2); omega)
      have AP11 := A0.step B11
      have AQ11 := A1.step B11
      have AX11 := AX.step B11
      go_wp2_with fail
      refine (markPushS_any _ _ Oy11 (by omega) (by omega) (by omega)).mono ?_
      rintro e w12 ⟨rfl, My12, g12⟩
      have Ow12 := own_kept Ow11 g12 Nwy
      have Og12 := own_kept Og11 g12 Ngy
      have B12 := bl_grown B11 g12 (fun k hk => by have h1 := B4.size; have h2 := (Oy11.lt k hk).1; (try simp only [World.size_alloc] at h2); omega)
      have AP12 := A0.step B12
      have AQ12 := A1.step B12
      have AX12 := AX.step B12
      go_wp2_with fail
      refine (eqInt64S_yes (own_rv Og12) (own_rv Ow12) (by omega)).mono ?_
      rintro e w13 ⟨rfl, b13⟩
      have AP13 := AP12.step b13
      have AQ13 := AQ12.step b13
      have AX13 := AX12.step b13
      have Ow13 := own_below Ow12 b13 (Nat.le_refl _)
      have Og13 := own_below Og12 b13 (Nat.le_refl _)
      have B13 := bl_trans B12 b13
      go_wp2_with fail
      refine (markInt64S_any 1 _ Og13 (by omega) (by omega) (by omega)).mono ?_
      rintro e w14 ⟨rfl, Mg14, g14⟩
      have Ow14 := own_kept Ow13 g14 Nwg
      have B14 := bl_grown B13 g14 (fun k hk => by have h1 := B5.size; have h2 := (Og13.lt k hk).1; (try simp only [World.size_alloc] at h2); omega)
      have AP14 := A0.step B14
      have AQ14 := A1.step B14
      have AX14 := AX.step B14
      go_wp2_with fail
      refine (heldInt64S_own 1 Mg14 (by omega) (by omega) (by omega)).mono ?_
      rintro e w' ⟨rfl, rfl⟩
      go_wp2_with fail
      refine (toBoard_pv (b := ⟨wd, hg, ps⟩) ⟨_, rfl, AP14⟩ (by simp; omega)).mono ?_
      rintro e w15 ⟨vz, rfl, Oz15, b15⟩
      have AP15 := AP14.step b15
      have AQ15 := AQ14.step b15
      have AX15 := AX14.step b15
      have Nwz := own_apart Ow14 Oz15 (by first | exact Nat.le_refl _ | simp)
      have Nzw := own_apart' Ow14 Oz15 (by first | exact Nat.le_refl _ | simp)
      have Ngz := own_apart Mg14 Oz15 (by first | exact Nat.le_refl _ | simp)
      have Nzg := own_apart' Mg14 Oz15 (by first | exact Nat.le_refl _ | simp)
      have Ow15 := own_below Ow14 b15 (Nat.le_refl _)
      have Og15 := own_below Mg14 b15 (Nat.le_refl _)
      have B15 := bl_trans B14 b15
      obtain ⟨az, capz, rfl, -⟩ := own_at Oz15
      go_wp2_with fail
      refine (toPushS_rv AQ15 (by omega)).mono ?_
      rintro e w16 ⟨vzp, rfl, Ozp16, b16⟩
      have AP16 := AP15.step b16
      have AQ16 := AQ15.step b16
      have AX16 := AX15.step b16
      have Nwzp := own_apart Ow15 Ozp16 (by first | exact Nat.le_refl _ | simp)
      have Nzpw := own_apart' Ow15 Ozp16 (by first | exact Nat.le_refl _ | simp)
      have Ngzp := own_apart Og15 Ozp16 (by first | exact Nat.le_refl _ | simp)
      have Nzpg := own_apart' Og15 Ozp16 (by first | exact Nat.le_refl _ | simp)
      have Nzzp := own_apart Oz15 Ozp16 (by first | exact Nat.le_refl _ | simp)
      have Nzpz := own_apart' Oz15 Ozp16 (by first | exact Nat.le_refl _ | simp)
      have Ow16 := own_below Ow15 b16 (Nat.le_refl _)
      have Og16 := own_below Og15 b16 (Nat.le_refl _)
      have Oz16 := own_below Oz15 b16 (Nat.le_refl _)
      have B16 := bl_trans B15 b16
      obtain ⟨azp, capzp, rfl, -⟩ := own_at Ozp16
      go_wp2_with fail
      refine (CI.out _ _ _ (own_pv Oz16) (own_rv Ozp16)).mono ?_
      rintro e w17 ⟨vh, rfl, Oh17, b17⟩
      have AP17 := AP16.step b17
      have AQ17 := AQ16.step b17
      have AX17 := AX16.step b17
      have Nwh := own_apart Ow16 Oh17 (by first | exact Nat.le_refl _ | simp)
      have Nhw := own_apart' Ow16 Oh17 (by first | exact Nat.le_refl _ | simp)
      have Ngh := own_apart Og16 Oh17 (by first | exact Nat.le_refl _ | simp)
      have Nhg := own_apart' Og16 Oh17 (by first | exact Nat.le_refl _ | simp)
      have Nzh := own_apart Oz16 Oh17 (by first | exact Nat.le_refl _ | simp)
      have Nhz := own_apart' Oz16 Oh17 (by first | exact Nat.le_refl _ | simp)
      have Nzph := own_apart Ozp16 Oh17 (by first | exact Nat.le_refl _ | simp)
      have Nhzp := own_apart' Ozp16 Oh17 (by first | exact Nat.le_refl _ | simp)
      have Ow17 := own_below Ow16 b17 (Nat.le_refl _)
      have Og17 := own_below Og16 b17 (Nat.le_refl _)
      have Oz17 := own_below Oz16 b17 (Nat.le_refl _)
      have Ozp17 := own_below Ozp16 b17 (Nat.le_refl _)
      have B17 := bl_trans B16 b17
      go_wp2_with fail
      refine (eqInt64S_yes (own_rv Oh17) (own_rv Ow17) (by omega)).mono ?_
      rintro e w18 ⟨rfl, b18⟩
      have AP18 := AP17.step b18
      have AQ18 := AQ17.step b18
      have AX18 := AX17.step b18
      have Ow18 := own_below Ow17 b18 (Nat.le_refl _)
      have Og18 := own_below Og17 b18 (Nat.le_refl _)
      have Oz18 := own_below Oz17 b18 (Nat.le_refl _)
      have Ozp18 := own_below Ozp17 b18 (Nat.le_refl _)
      have Oh18 := own_below Oh17 b18 (Nat.le_refl _)
      have B18 := bl_trans B17 b18
      go_wp2_with fail
      refine (heldInt64S_own 1 Og18 (by omega) (by omega) (by omega)).mono ?_
      rintro e w' ⟨rfl, rfl⟩
      go_wp2
      go_ret
      exact ⟨rfl, bl_trans bu0 B18⟩
    · have Hs1 := Lib.hid (show szv pl.length (1048576 - ps.length) = -1 by unfold szv; rw [if_pos (by omega)])
      go_enter Tryz.func6, Tryz.ntmps6
      go_wp2_with fail
      refine (szBoard_any wd hg a ps.length cap _ _ (by omega) (by omega) (by omega)).mono ?_
      rintro e u ⟨rfl, bu⟩
      rw [Hs.out]
      have bu0 : Below w.heap.size w u := bl_trans (bl_alloc (Below.refl _ _)) bu
      go_wp2_with fail
      refine (szPushS_any a1 pl.length cap1 _ _ (by omega) (by omega) (by omega)).mono ?_
      rintro e w' ⟨rfl, rfl⟩
      rw [Hs1.out]
      go_wp2
      go_ret
      exact ⟨rfl, bu0⟩
  · have Hs := Lib.hid (show szv ps.length 1048576 = -1 by unfold szv; rw [if_pos (by omega)])
    go_enter Tryz.func6, Tryz.ntmps6
    go_wp2_with fail
    refine (szBoard_any wd hg a ps.length cap _ _ (by omega) (by omega) (by omega)).mono ?_
    rintro e u ⟨rfl, bu⟩
    rw [Hs.out]
    have bu0 : Below w.heap.size w u := bl_trans (bl_alloc (Below.refl _ _)) bu
    go_wp2
    go_ret
    exact ⟨rfl, bu0⟩
end Go.Proofs.YtepekboechmngaaGreat
/- FallOrder: plain laws, and the reference's contract. -/
namespace Go.Proofs.YtepekboechmngaaGreat
open Go.RowKit
set_option linter.unusedVariables false
set_option linter.unusedSimpArgs false
set_option maxHeartbeats 400000
set_option maxRecDepth 100000
def tki (fs : List Fa) (i : Int) : Int := (fs.getD i.toNat default).t
/-- The order of falls: ticks, then places. -/
def ltI (fs : List Fa) (i k : Int) : Prop := tki fs i < tki fs k ∨ (tki fs i = tki fs k ∧ i < k)
def fell (f : Fa) : Bool := decide (0 ≤ f.t)
def isOrd (fs : List Fa) (k : Nat) (xs : List Int) : Prop := xs.Perm (idxTo fell fs k) ∧ xs.Pairwise (ltI fs)
theorem isOrd_unique (fs : List Fa) (k : Nat) (xs ys : List Int) (hx : isOrd fs k xs) (hy : isOrd fs k ys) : xs = ys := by
  refine List.Perm.eq_of_pairwise (le := ltI fs) ?_ hx.2 hy.2 (hx.1.trans hy.1.symm)
  intro a b _ _ h1 h2
  unfold ltI at h1 h2
  omega
open Classical in
noncomputable def ordOf (fs : List Fa) : List Int := if h : ∃ xs, isOrd fs fs.length xs then h.choose else []
theorem ordOf_eq (fs : List Fa) (xs : List Int) (h : isOrd fs fs.length xs) : xs = ordOf fs := by
  have hx : ∃ ys, isOrd fs fs.length ys := ⟨xs, h⟩
  unfold ordOf
  rw [dif_pos hx]
  exact isOrd_unique fs _ _ _ h hx.choose_spec
theorem ordOf_len (fs : List Fa) : (ordOf fs).length ≤ fs.length := by
  unfold ordOf
  split
  · rename_i h
    have h1 := h.choose_spec.1.length_eq
    rw [h1]; exact idxTo_len _ _ _
  · exact Nat.zero_le _
noncomputable def foList (l : Bd) (pl : List Pu) : List Int := if (vBd l && vPus l pl) = true then ordOf (runOf l.ps pl) else []
theorem foList_len (l : Bd) (pl : List Pu) : (foList l pl).length ≤ l.ps.length := by
  unfold foList
  split
  · exact Nat.le_trans (ordOf_len _) (runOf_len _ _)
  · exact Nat.zero_le _
theorem idxTo_mem (p : Fa → Bool) (fs : List Fa) (k : Nat) (i : Int) (h : i ∈ idxTo p fs k) : ∃ n : Nat, i = (n : Int) ∧ n < k := by
  unfold idxTo at h
  rw [List.mem_map] at h
  obtain ⟨n, hn, rfl⟩ := h
  exact ⟨n, rfl, by have := (List.mem_filter.1 hn).1; exact List.mem_range.1 this⟩
theorem tki_at (fs : List Fa) (n : Nat) (h : n < fs.length) : tki fs (n : Int) = fs[n].t := by
  unfold tki
  rw [Int.toNat_natCast, getD_fa fs n h]
theorem ord_put (fs : List Fa) (k : Nat) (xs A C : List Int) (h : isOrd fs k xs) (he : A ++ C = xs) (hC : ∀ c ∈ C, tki fs k < tki fs c) (hA : ∀ a ∈ A.getLast?, tki fs a ≤ tki fs k) : (A ++ (k : Int) :: C).Pairwise (ltI fs) := by
  obtain ⟨h1, h2⟩ := h
  subst he
  rw [List.pairwise_append] at h2 ⊢
  obtain ⟨p1, p2, p3⟩ := h2
  have hAk : ∀ a ∈ A, ltI fs a k := by
    intro a ha
    obtain ⟨n, rfl, hn⟩ := idxTo_mem fell fs k a (h1.subset (List.mem_append_left _ ha))
    have hle : tki fs (n : Int) ≤ tki fs k := by
      rcases List.eq_nil_or_concat A with rfl | ⟨A', z, rfl⟩
      · cases ha
      · have hz := hA z (by simp)
        rcases (by simpa using ha : (n : Int) ∈ A' ∨ (n : Int) = z) with h9 | h9
        · rw [List.concat_eq_append, List.pairwise_append] at p1
          have := p1.2.2 _ h9 z (by simp)
          unfold ltI at this
          omega
        · have : (n : Int) = z := by simpa using h9
          rw [this]; exact hz
    unfold ltI
    omega
  refine ⟨p1, List.pairwise_cons.2 ⟨fun c hc => .inl (hC c hc), p2⟩, ?_⟩
  intro a ha b hb
  rcases List.mem_cons.1 hb with rfl | hb
  · exact hAk a ha
  · exact p3 a ha b hb
theorem flatN (xs : List Int) : flat N64_cells xs = xs.map (Value.int .i64) := by
  induction xs with
  | nil => rfl
  | cons x xs ih => rw [flat_cons, ih]; rfl
theorem n64_cell {w : World} {base g n cap : Nat} {xs : List Int} (h : w.ownsRow base 2 1 (.slice (some ⟨g, 0, none⟩) n cap) n (flat N64_cells xs)) (j : Nat) (hj : j < xs.length) : w.cell? ⟨g, j, none⟩ = some (.int .i64 xs[j]) ∧ w.frozen? ⟨g, j, none⟩ = false := by
  have hl := h.1
  rw [flat_length N64_len] at hl
  have h1 := h.cellAt j (by omega)
  rw [h1, flatN]
  exact ⟨by simp [hj], (own_cell h (j := j) (by omega)).2⟩
theorem own_some {w : World} {base : Nat} {e : TypeId} {size n : Nat} {v : Value} {xs : List Value} (h : w.ownsRow base e size v (n + 1) xs) : ∃ g cap, v = .slice (some ⟨g, 0, none⟩) (n + 1) cap ∧ base ≤ g := by
  rcases h.2 with ⟨-, h0⟩ | ⟨g, cap3, cur, hve, hg, -⟩
  · omega
  · exact ⟨g, cap3, hve, hg⟩
set_option maxHeartbeats 3200000 in
theorem specFallOrder_any (wd hg : Int) (s : Value) (ps : List Pc) (v1 : Value) (pl : List Pu) (w : World) (hps : PV w s ps) (hok : (Bd.mk wd hg ps).ok) (hn : ps.length ≤ 9000000) (h1 : SV Pu.cells w v1 pl) (ok1 : PusOk pl) (n1 : pl.length ≤ 9000000) :
    Calls Tryz.prog 31 #[bdv wd hg s, v1] w fun e w' => ∃ v, e = .returned (.tuple #[v, .int .i64 (rbCode ⟨wd, hg, ps⟩ pl)]) ∧ w'.ownsRow w.heap.size 2 1 v (foList ⟨wd, hg, ps⟩ pl).length (flat N64_cells (foList ⟨wd, hg, ps⟩ pl)) ∧ Below w.heap.size w w' := by
  have HB := Lib.hid (BP.new (l := ⟨wd, hg, ps⟩) (w := w) hps 34)
  have hba : Below w.heap.size w (w.alloc (.cells #[.int .i8 wd, .int .i8 hg, s] 34)) := bl_alloc (Below.refl _ _)
  obtain ⟨a, cap, rfl, -⟩ := hps
  obtain ⟨a1, cap1, rfl, h1⟩ := h1
  have H1 := Lib.hid (l02Asked_any (B := w.heap.size) w.heap.size ⟨wd, hg, ps⟩ a1 cap1 pl _ HB.out hok (show ps.length ≤ 10000000 by omega) (h1.below hba (Nat.le_refl _)) ok1 hba.size (by omega))
  have HBA := Lib.hid hba
  clear hba
  cases g1 : (vBd ⟨wd, hg, ps⟩ && vPus ⟨wd, hg, ps⟩ pl) with
  | true =>
    obtain ⟨hv, hpl, hin, hn20⟩ := ask_ok _ _ g1
    have HA : Hid (askV ⟨wd, hg, ps⟩ pl = 0) := Lib.hid (by unfold askV; rw [g1]; rfl)
    have HG := Lib.hid (good_bd ⟨wd, hg, ps⟩ hv pl hpl)
    have HN := Lib.hid (runOf_len200 ⟨wd, hg, ps⟩ pl hv)
    rw [HA.out] at H1
    have HPL := Lib.hid hpl
    have HIN := Lib.hid hin
    have HC : Hid (rbCode ⟨wd, hg, ps⟩ pl = 0) := Lib.hid (by unfold rbCode; rw [g1]; rfl)
    have HL : Hid (foList ⟨wd, hg, ps⟩ pl = ordOf (runOf ps pl)) := Lib.hid (by unfold foList; rw [if_pos g1])
    rw [HC.out, HL.out]
    obtain ⟨fs, hfs⟩ : ∃ fs, fs = runOf ps pl := ⟨_, rfl⟩
    have hn2 : fs.length ≤ 200 := by rw [hfs]; exact HN.out
    rw [← hfs]
    have HFS := Lib.hid hfs
    clear hfs HN
    clear g1 HC HL HA hpl hin
    go_enter Tryz.func31, Tryz.ntmps31
    go_wp2_with fail
    refine H1.out.mono ?_
    rintro e w1 ⟨rfl, hb1⟩
    have hb01 := bl_trans HBA.out hb1
    have HF := Lib.hid (l02Run_any (B := w.heap.size) w.heap.size ⟨wd, hg, ps⟩ a1 cap1 pl w1 (HB.out.step hb1) hv (h1.below hb01 (Nat.le_refl _)) ok1 HPL.out HIN.out hn20 hb01.size)
    have HB01 := Lib.hid hb01
    clear hb01 hb1
    go_wp2_with fail
    refine HF.out.mono ?_
    rintro e w2 ⟨v, fs', rfl, hown, hokf, -, hb2⟩
    have he : fs = fs' := by rw [HFS.out]; exact (runOf_eq _ _ _ HG.out hokf).symm
    subst he
    obtain ⟨av, capv, hve, hsl, -, -⟩ := own_at hown
    subst hve
    have HB02 := Lib.hid (bl_trans HB01.out hb2)
    clear hown hb2 hokf HFS HG HF HB01 HB H1 h1
    have HCT := Lib.hid (fun k hk => idxTo_succ fell fs k hk)
    have HLE := Lib.hid (fun k => idxTo_len fell fs k)
    obtain ⟨i0, hi0, hiz0, hiz1, hiz2⟩ := info_parts Tryz.infoInt64
    have hown0 := World.ownsRow_made (e := 2) (size := 1) w2 #[] 0 (Nat.le_refl _) (by simp [maxLen]) rfl
    have hb0 : Below w2.heap.size w2 (w2.alloc (.cells #[] 2)) := bl_alloc (Below.refl _ _)
    go_wp2
    go_loopw [8, 9] (fun v ix wr => ∃ (k : Nat) (xs : List Int), k ≤ fs.length ∧ ix = .int .i64 k ∧ isOrd fs k xs ∧ wr.ownsRow w2.heap.size 2 1 v xs.length (flat N64_cells xs) ∧ Below w2.heap.size w2 wr) (fun _ ix _ => fs.length - (intOf ix).toNat)
    case atStart => exact ⟨0, [], by omega, rfl, ⟨List.Perm.refl _, List.Pairwise.nil⟩, hown0, hb0⟩
    case round =>
      clear hown0 hb0
      obtain ⟨k, xs, hk, rfl, hord, hown, hb⟩ := hrel
      obtain ⟨av2, capv2, hve, -, -, -⟩ := own_at hown
      subst hve
      have hle : xs.length ≤ k := by rw [hord.1.length_eq]; exact HLE.out k
      have HORD := Lib.hid hord
      have HOWN := Lib.hid hown
      have hzb := hb.size
      clear hown hord
      by_cases hlt : k < fs.length
      · obtain ⟨b, off, rfl, hbl, hat⟩ := fas_get hsl hlt
        have r0 : wr.cell? ⟨b, off + k * 3, none⟩ = some (.int .i64 fs[k].t) := by rw [hb.cell (p := ⟨_, _, none⟩) hbl]; exact hat.1
        have HC := Lib.hid (HCT.out k hlt)
        have HTK := Lib.hid (tki_at fs k hlt)
        obtain ⟨ft, hft⟩ : ∃ ft, ft = fs[k].t := ⟨_, rfl⟩
        have HFE : Hid (fell fs[k] = decide (0 ≤ ft)) := Lib.hid (by rw [hft]; rfl)
        rw [← hft] at r0 HTK
        clear hft hat
        rcases dec_cases (ft < 0) with ⟨g3, k3⟩ | ⟨g3, k3⟩
        · have HC2 : Hid (idxTo fell fs (k + 1) = idxTo fell fs k) := Lib.hid (by rw [HC.out, if_neg (by rw [HFE.out, decide_eq_true_eq]; omega), List.append_nil])
          clear k3
          go_wp2
          go_roundw
          case rel => exact ⟨k + 1, xs, by omega, by go_num, ⟨by rw [HC2.out]; exact HORD.out.1, HORD.out.2⟩, HOWN.out, hb⟩
          case measure => simp [intOf]; omega
        · have HC2 : Hid (idxTo fell fs (k + 1) = idxTo fell fs k ++ [(k : Int)]) := Lib.hid (by rw [HC.out, if_pos (by rw [HFE.out, decide_eq_true_eq]; omega)])
          clear k3
          obtain ⟨n, hnn⟩ : ∃ n, n = xs.length := ⟨_, rfl⟩
          rw [← hnn] at HOWN hle ⊢
          have HNN := Lib.hid hnn
          clear hnn
          have HB2 := Lib.hid hb
          go_wp2_with (at_builtin; go_must (refine wpList_append_sl _ rfl _ _ 47 rfl w2.heap.size 2 i0 (.int .i64 0) 1 8 Tryz.underlying47 hi0 hiz0 hiz1 hiz2 rfl (by decide) _ _ _ rfl (own_below HOWN.out (bl_alloc (Below.refl _ _)) (Nat.le_refl _)) (some ⟨wr.heap.size, 0, none⟩) 1 1 [.int .i64 (k : Int)] rfl (sl_newC wr #[.int .i64 (k : Int)] 2 _ rfl) rfl (by intro u hu; rw [List.mem_singleton] at hu; subst hu; rfl) (by unfold maxLen; omega) (by omega) (by simp; omega) ?_); intro v3 w3 hown3 hgrow; obtain ⟨g, cap3, rfl, hg⟩ := own_some hown3)
          have hb3 : Below w2.heap.size w2 w3 := (bl_alloc (o := .cells #[.int .i64 (k : Int)] 2) HB2.out).grown hgrow (by simp; omega) (fun q hq => (HOWN.out.lt q hq).1)
          have hcells : flat N64_cells xs ++ [.int .i64 (k : Int)] = flat N64_cells (xs ++ [(k : Int)]) := by rw [flat_append]; rfl
          rw [hcells] at hown3
          have HOWN3 := Lib.hid hown3
          clear hown3 hgrow hcells hb r0
          go_loopw [10] (fun jx wi => ∃ A C : List Int, A ++ C = xs ∧ jx = .int .i64 A.length ∧ wi.ownsRow w2.heap.size 2 1 (.slice (some ⟨g, 0, none⟩) (n + 1) cap3) (n + 1) (flat N64_cells (A ++ (k : Int) :: C)) ∧ (∀ c ∈ C, tki fs k < tki fs c) ∧ Below w2.heap.size w2 wi) (fun jx _ => (intOf jx).toNat)
          case atStart => exact ⟨xs, [], by simp, by rw [HNN.out], HOWN3.out, by simp, hb3⟩
          case round =>
            clear hb3 HOWN3
            obtain ⟨A, C, hAC, rfl, howni, hCt, hbi⟩ := hrel
            rcases List.eq_nil_or_concat A with rfl | ⟨A', z, hAz⟩
            · have HP := Lib.hid (ord_put fs k xs [] C HORD.out hAC hCt (by simp))
              have HPm : Hid ((([] : List Int) ++ (k : Int) :: C).Perm (idxTo fell fs (k + 1))) := Lib.hid (by
                rw [HC2.out]
                refine List.Perm.trans ?_ (List.Perm.append_right _ HORD.out.1)
                rw [← hAC]
                simp only [List.nil_append]
                exact List.perm_append_comm (l₁ := [(k : Int)]))
              have hlen2 : (([] : List Int) ++ (k : Int) :: C).length = n + 1 := by rw [HNN.out, ← hAC]; simp
              have HO := Lib.hid howni
              have HLEN := Lib.hid hlen2
              clear howni hAC hCt hlen2
              have d1 : decide ((0 : Int) < ((0 : Nat) : Int)) = false := rfl
              go_wp2_with fail
              go_quiet (fail)
              go_wp2
              go_roundw
              case rel => exact ⟨k + 1, _, by omega, by go_num, ⟨HPm.out, HP.out⟩, by rw [HLEN.out]; exact own_below HO.out (by repeat (first | with_reducible exact Below.refl _ _ | with_reducible assumption | with_reducible apply bl_drewN | with_reducible apply bl_drew | with_reducible apply bl_alloc | (with_reducible refine bl_set ?_ (by first | (simp; done) | (simp; omega)) _) | with_reducible refine bl_trans ?_ (by with_reducible assumption))) (Nat.le_refl _), (by repeat (first | with_reducible exact Below.refl _ _ | with_reducible assumption | with_reducible apply bl_drewN | with_reducible apply bl_drew | with_reducible apply bl_alloc | (with_reducible refine bl_set ?_ (by first | (simp; done) | (simp; omega)) _) | with_reducible refine bl_trans ?_ (by with_reducible assumption)))⟩
              case measure => simp [intOf]; omega
            · rw [List.concat_eq_append] at hAz
              have hzm : z ∈ idxTo fell fs k := HORD.out.1.subset (by rw [← hAC, hAz]; simp)
              obtain ⟨zn, rfl, hzn⟩ := idxTo_mem fell fs k z hzm
              have hznf : zn < fs.length := by omega
              have hlenA : A.length = A'.length + 1 := by rw [hAz]; simp
              have hnA : A'.length < n := by rw [HNN.out, ← hAC]; simp; omega
              have cz := n64_cell howni A'.length (by rw [hAz]; simp)
              have ck := n64_cell howni (A'.length + 1) (by rw [hAz]; simp)
              have ez : (A ++ (k : Int) :: C)[A'.length]'(by rw [hAz]; simp) = (zn : Int) := by simp [hAz]
              have ek : (A ++ (k : Int) :: C)[A'.length + 1]'(by rw [hAz]; simp) = (k : Int) := by simp [hAz]
              rw [ez] at cz
              rw [ek] at ck
              obtain ⟨b4, off4, he4, hbl4, hat4⟩ := fas_get hsl hznf
              simp only [Option.some.injEq, Addr.mk.injEq, and_true] at he4
              obtain ⟨rfl, rfl⟩ := he4
              have rz : wr.cell? ⟨b, off + zn * 3, none⟩ = some (.int .i64 fs[zn].t) := by rw [hbi.cell (p := ⟨_, _, none⟩) hbl]; exact hat4.1
              obtain ⟨b5, off5, he5, hbl5, hat5⟩ := fas_get hsl hlt
              simp only [Option.some.injEq, Addr.mk.injEq, and_true] at he5
              obtain ⟨rfl, rfl⟩ := he5
              have rk : wr.cell? ⟨b, off + k * 3, none⟩ = some (.int .i64 fs[k].t) := by rw [hbi.cell (p := ⟨_, _, none⟩) hbl]; exact hat5.1
              rw [show fs[k].t = ft by rw [← HTK.out, tki_at fs k hlt]] at rk
              obtain ⟨zt, hzt⟩ : ∃ zt, zt = fs[zn].t := ⟨_, rfl⟩
              have HZT : Hid (tki fs (zn : Int) = zt) := Lib.hid (by rw [tki_at fs zn hznf, hzt])
              rw [← hzt] at rz
              obtain ⟨m, hm⟩ : ∃ m, m = A'.length := ⟨_, rfl⟩
              have hmA : A.length = m + 1 := by omega
              rw [hmA]
              rw [← hm] at cz ck hnA
              have HO := Lib.hid howni
              have HAZ := Lib.hid hAz
              have HAC := Lib.hid hAC
              have HM := Lib.hid hm
              have HCt := Lib.hid hCt
              obtain ⟨cz1, cz2⟩ := cz
              obtain ⟨ck1, ck2⟩ := ck
              clear howni hAz hAC hm hCt hzt hlenA hmA ez ek hat4 hat5 hzm
              have d1 : decide ((0 : Int) < ((m + 1 : Nat) : Int)) = true := decide_eq_true (by omega)
              have s1 : IntKind.i64.wrap (((m + 1 : Nat) : Int) - 1) = (m : Int) := by rw [IntKind.wrap_i64]; omega
              rcases dec_cases (ft < zt) with ⟨g4, k4⟩ | ⟨g4, k4⟩
              · clear HORD HOWN
                go_wp2_with fail
                go_quiet (fail)
                go_wp2_with fail
                have hq0 : Below w2.heap.size w2 (wr.drewN nq) := (by repeat (first | with_reducible exact Below.refl _ _ | with_reducible assumption | with_reducible apply bl_drewN | with_reducible apply bl_drew | with_reducible apply bl_alloc | (with_reducible refine bl_set ?_ (by first | (simp; done) | (simp; omega)) _) | with_reducible refine bl_trans ?_ (by with_reducible assumption)))
                have ow0 := own_below HO.out (show Below wr.heap.size wr (wr.drewN nq) from (by repeat (first | with_reducible exact Below.refl _ _ | with_reducible assumption | with_reducible apply bl_drewN | with_reducible apply bl_drew | with_reducible apply bl_alloc | (with_reducible refine bl_set ?_ (by first | (simp; done) | (simp; omega)) _) | with_reducible refine bl_trans ?_ (by with_reducible assumption)))) (Nat.le_refl _)
                have ow1 := (ow0.stored (m + 1) (.int .i64 (zn : Int))).1
                have ow2 := (ow1.stored m (.int .i64 (k : Int))).1
                have hrow : ((flat N64_cells (A ++ (k : Int) :: C)).set (m + 1) (.int .i64 (zn : Int))).set m (.int .i64 (k : Int)) = flat N64_cells (A' ++ (k : Int) :: (zn : Int) :: C) := by
                  rw [flatN, flatN, HAZ.out, HM.out]
                  simp [List.set_append]
                rw [hrow] at ow2
                refine ⟨⟨A', (zn : Int) :: C, by rw [← HAC.out, HAZ.out]; simp, by rw [HM.out], ow2, ?_, bl_set (bl_set hq0 hg _) hg _⟩, by simp [intOf]⟩
                intro c hc
                rcases List.mem_cons.1 hc with rfl | hc
                · rw [HZT.out, HTK.out]; exact k4
                · exact HCt.out c hc
              · have HLA : Hid (∀ a ∈ A.getLast?, tki fs a ≤ tki fs k) := Lib.hid (by
                  intro a ha
                  rw [HAZ.out] at ha
                  have h8 : (zn : Int) = a := by simpa using ha
                  rw [← h8, HZT.out, HTK.out]
                  exact Int.not_lt.1 k4)
                have HP := Lib.hid (ord_put fs k xs A C HORD.out HAC.out HCt.out HLA.out)
                have HPm : Hid ((A ++ (k : Int) :: C).Perm (idxTo fell fs (k + 1))) := Lib.hid (by
                  rw [HC2.out]
                  refine List.Perm.trans ?_ (List.Perm.append_right _ HORD.out.1)
                  rw [← HAC.out, List.append_assoc]
                  exact List.Perm.append_left _ (List.perm_append_comm (l₁ := [(k : Int)])))
                have HLEN : Hid ((A ++ (k : Int) :: C).length = n + 1) := Lib.hid (by rw [HNN.out, ← HAC.out]; simp; omega)
                clear HORD HOWN
                go_wp2_with fail
                go_quiet (fail)
                go_wp2
                go_roundw
                case rel => exact ⟨k + 1, _, by omega, by go_num, ⟨HPm.out, HP.out⟩, by rw [HLEN.out]; exact own_below HO.out (by repeat (first | with_reducible exact Below.refl _ _ | with_reducible assumption | with_reducible apply bl_drewN | with_reducible apply bl_drew | with_reducible apply bl_alloc | (with_reducible refine bl_set ?_ (by first | (simp; done) | (simp; omega)) _) | with_reducible refine bl_trans ?_ (by with_reducible assumption))) (Nat.le_refl _), (by repeat (first | with_reducible exact Below.refl _ _ | with_reducible assumption | with_reducible apply bl_drewN | with_reducible apply bl_drew | with_reducible apply bl_alloc | (with_reducible refine bl_set ?_ (by first | (simp; done) | (simp; omega)) _) | with_reducible refine bl_trans ?_ (by with_reducible assumption)))⟩
                case measure => simp [intOf]; omega
      · have hkn : k = fs.length := by omega
        subst hkn
        have HE := Lib.hid (ordOf_eq fs xs HORD.out)
        have HOWN2 := own_mono (base := w.heap.size) HOWN.out HB02.out.size
        go_wp2
        go_ret2
        exact ⟨_, rfl, by rw [← HE.out]; exact HOWN2, bl_trans HB02.out hb⟩
  | false =>
    have HA : Hid (askV ⟨wd, hg, ps⟩ pl = 1) := Lib.hid (by unfold askV; rw [g1]; rfl)
    have HC : Hid (rbCode ⟨wd, hg, ps⟩ pl = 1) := Lib.hid (by unfold rbCode; rw [g1]; rfl)
    have HL : Hid (foList ⟨wd, hg, ps⟩ pl = []) := Lib.hid (by unfold foList; rw [g1]; rfl)
    rw [HC.out, HL.out]
    rw [HA.out] at H1
    clear g1 HC HL HA
    go_enter Tryz.func31, Tryz.ntmps31
    go_wp2_with fail
    refine H1.out.mono ?_
    rintro e w1 ⟨rfl, hb1⟩
    have hb01 := bl_trans HBA.out hb1
    have hown := World.ownsRow_made (e := 2) (size := 1) w1 #[] 0 (Nat.le_refl _) (by simp [maxLen]) rfl
    have hown2 := own_mono (base := w.heap.size) hown hb01.size
    go_wp2
    go_ret2
    exact ⟨_, rfl, hown2, bl_alloc hb01⟩
end Go.Proofs.YtepekboechmngaaGreat
/- Contracts: FallOrder (the program). -/
namespace Go.Proofs.YtepekboechmngaaGreat
open Go.RowKit Go.Sort Go.Shelf
set_option linter.unusedVariables false
set_option linter.unusedSimpArgs false
set_option maxHeartbeats 400000
set_option maxRecDepth 100000
def foV (fs : List Fa) (x y : Int) : Int := orI [cmpI (tki fs x) (tki fs y), cmpI x y]
theorem foV_lt (fs : List Fa) (x y : Int) : foV fs x y < 0 ↔ ltI fs x y := by
  unfold foV orI orI orI cmpI ltI
  repeat' split
  all_goals omega
theorem cmpNaN64_any (a : Int) (w : World) : Calls Tryz.prog 81 #[.int .i64 a] w fun e w' => e = .returned (.bool false) ∧ w = w' := by
  go_enter Tryz.func81, Tryz.ntmps81
  go_wp2
  exact bodyPost_ret (v := .bool false) (by simp [results, Tryz.results81, go_sem]) rfl ⟨rfl, rfl⟩
theorem compare64_any (a b : Int) (w : World) : Calls Tryz.prog 56 #[.int .i64 a, .int .i64 b] w fun e w' => e = .returned (.int .i64 (cmpI a b)) ∧ w = w' := by
  have HV := Lib.hid (show (a < b → cmpI a b = -1) ∧ (¬ a < b → b < a → cmpI a b = 1) ∧ (¬ a < b → ¬ b < a → cmpI a b = 0) from ⟨fun h => if_pos h, fun h h2 => by unfold cmpI; rw [if_neg h, if_pos h2], fun h h2 => by unfold cmpI; rw [if_neg h, if_neg h2]⟩)
  generalize cmpI a b = r at HV ⊢
  by_cases h1 : a < b
  · have H := HV.out.1 h1
    subst H
    go_enter Tryz.func56, Tryz.ntmps56
    go_wp2_with (go_at_call 81; refine (cmpNaN64_any _ _).mono ?_; rintro e w' ⟨rfl, rfl⟩)
    go_ret
    exact ⟨rfl, rfl⟩
  · by_cases h2 : b < a
    · have H := HV.out.2.1 h1 h2
      subst H
      go_enter Tryz.func56, Tryz.ntmps56
      go_wp2_with (go_at_call 81; refine (cmpNaN64_any _ _).mono ?_; rintro e w' ⟨rfl, rfl⟩)
      go_ret
      exact ⟨rfl, rfl⟩
    · have H := HV.out.2.2 h1 h2
      subst H
      go_enter Tryz.func56, Tryz.ntmps56
      go_wp2_with (go_at_call 81; refine (cmpNaN64_any _ _).mono ?_; rintro e w' ⟨rfl, rfl⟩)
      go_ret
      exact ⟨rfl, rfl⟩
theorem eg_fo1 (args : Array Value) (w : World) : (callFunc 52 args).run Tryz.prog w = .ok (.enter 52 args) w := by kernel_rfl
theorem fo1_any (F : Fa) (w : World) : Calls Tryz.prog 52 #[F.val] w fun e w' => e = .returned (.bool (F.t != -1)) ∧ Below w.heap.size w w' := by
  go_enter Tryz.func52, Tryz.ntmps52
  go_wp2
  go_ret
  exact ⟨rfl, (by repeat (first | with_reducible exact Below.refl _ _ | with_reducible assumption | with_reducible apply bl_drewN | with_reducible apply bl_drew | with_reducible apply bl_alloc | (with_reducible refine bl_set ?_ (by first | (simp; done) | (simp; omega)) _) | with_reducible refine bl_trans ?_ (by with_reducible assumption)))⟩
theorem eg_fo2 (args : Array Value) (w : World) : (callFunc 54 args).run Tryz.prog w = .ok (.enter 54 args) w := by kernel_rfl
set_option maxHeartbeats 1600000 in
theorem fo2_any (fs : List Fa) (b off cap bo x y : Nat) (w : World) (hx : x < fs.length) (hy : y < fs.length) (hbo : bo < w.heap.size) (hbl : b < w.heap.size) (hc : w.cell? ⟨bo, 0, none⟩ = some (.slice (some ⟨b, off, none⟩) fs.length cap)) (hcx : w.cell? ⟨b, off + x * 3, none⟩ = some (.int .i64 fs[x].t)) (hcy : w.cell? ⟨b, off + y * 3, none⟩ = some (.int .i64 fs[y].t)) :
    Calls Tryz.prog 54 #[.int .i64 x, .int .i64 y, .pointer (some ⟨bo, 0, none⟩)] w fun e w' => e = .returned (.int .i64 (foV fs x y)) ∧ w' = (w.alloc (.cells #[.int .i64 (cmpI (tki fs x) (tki fs y)), .int .i64 (cmpI x y)] 3)).drew := by
  have HV := Lib.hid (show foV fs x y = orI [cmpI (tki fs x) (tki fs y), cmpI x y] from rfl)
  have e1 := tki_at fs x hx
  have e2 := tki_at fs y hy
  rw [← e1] at hcx
  rw [← e2] at hcy
  clear e1 e2
  generalize foV fs x y = r at HV ⊢
  generalize tki fs (x : Int) = tx at *
  generalize tki fs (y : Int) = ty at *
  have hxI : (x : Int) < fs.length := by omega
  have hyI : (y : Int) < fs.length := by omega
  have HC := Lib.hid (fun x y w' => compare64_any x y w')
  have HO := Lib.hid (fun (c1 c2 : Int) (w' : World) (g : Nat) (hh : w'.heap[g]? = some (.cells #[.int .i64 c1, .int .i64 c2] 3 (0, 0))) => (show Calls Tryz.prog 55 #[.slice (some ⟨g, 0, none⟩) 2 2] w' (fun e w'' => e = .returned (.int .i64 (orI [c1, c2])) ∧ w' = w'') from or_any (B := w'.heap.size) (some ⟨g, 0, none⟩) 2 [c1, c2] w' (by
    intro j hj
    have hj4 : j < 2 := hj
    refine ⟨g, 0, rfl, (Array.getElem?_eq_some_iff.1 hh).1, ?_⟩
    rw [cell_of_row _ _ _ _ _ _ hh, Nat.zero_add]
    have : j = 0 ∨ j = 1 := by omega
    rcases this with rfl | rfl <;> rfl) (Nat.le_refl _) (by simp)))
  obtain ⟨W, hW⟩ : ∃ W, W = w := ⟨_, rfl⟩
  rw [← hW] at hc hcx hcy hbo hbl ⊢
  clear hW
  go_enter Tryz.func54, Tryz.ntmps54
  go_upto_region 1 with fail
  go_region_held3 (fun w' => w'.cell? ⟨bo, 0, none⟩ = some (.slice (some ⟨b, off, none⟩) fs.length cap) ∧ w'.cell? ⟨b, off + x * 3, none⟩ = some (.int .i64 tx) ∧ w'.cell? ⟨b, off + y * 3, none⟩ = some (.int .i64 ty)) (go_keep) (first | (go_at_call 56; refine (HC.out _ _ _).mono ?_; rintro e w' ⟨rfl, rfl⟩) | (go_at_call 55; refine (HO.out _ _ (World.drew (W.alloc _)) W.heap.size (heap_alloc_new W _)).mono ?_; rintro e w' ⟨rfl, rfl⟩))
  go_wp2
  go_ret
  exact ⟨by rw [HV.out]; rfl, rfl⟩
/-- A place of a row, as a value. -/
def fiC {n : Nat} (x : Fin n) : Value := .int .i64 ((x.val : Nat) : Int)
theorem flat_fi {n : Nat} (d : List (Fin n)) : flat N64_cells (d.map (fun x => ((x.val : Nat) : Int))) = d.map fiC := by
  rw [flatN, List.map_map]; rfl
theorem heap_sorted1 {n : Nat} [Inhabited (Fin n)] {w : World} {g m : Nat} {os : Array Obj} {cur : Array Value} {e : TypeId} {fr : Nat × Nat} (d : Array (Fin n)) (hb : w.heap[g]? = some (.cells cur e fr)) :
    (sortWorld fiC w g 0 m d os).heap[g]? = some (.cells (putCells fiC 0 d cur) e fr) := by
  have hg : g < w.heap.size := (Array.getElem?_eq_some_iff.1 hb).1
  unfold sortWorld
  rw [heap_grow_old _ _ (by simpa [putRow, mapBlock, Sort.ahead] using hg)]
  simp [putRow, mapBlock, Sort.ahead, Array.getElem?_modify, hb, onCells]
theorem grownBy_sorted1 {n : Nat} [Inhabited (Fin n)] {w : World} {g m : Nat} {os : Array Obj} (d : Array (Fin n)) : w.grownBy (sortWorld fiC w g 0 m d os) (some g) := by
  refine ⟨rfl, rfl, rfl, by simp [sortWorld, grow, putRow, mapBlock, Sort.ahead], fun k hk hne => ?_⟩
  unfold sortWorld
  rw [heap_grow_old _ _ (by simpa [putRow, mapBlock, Sort.ahead] using hk)]
  have : g ≠ k := fun e => hne (by rw [e])
  simp [putRow, mapBlock, Sort.ahead, Array.getElem?_modify, this]
theorem take_putCells1 {n : Nat} [Inhabited (Fin n)] (cur : Array Value) (d : Array (Fin n)) (h : d.size ≤ cur.size) : (putCells fiC 0 d cur).toList.take d.size = d.toList.map fiC := by
  apply List.ext_getElem?
  intro j
  by_cases hj : j < d.size
  · rw [List.getElem?_take_of_lt hj, Array.getElem?_toList]
    simp [putCells, hj, show j < cur.size by omega]
  · rw [List.getElem?_take_eq_none (by omega), List.getElem?_eq_none (by simp; omega)]
theorem holds1_own {n : Nat} [Inhabited (Fin n)] {w : World} {g : Nat} (d : List (Fin n)) {cur : Array Value} {e : TypeId} (hb : w.heap[g]? = some (.cells cur e (0, 0))) (ht : cur.toList.take d.length = d.map fiC) : Holds fiC w g 0 d.toArray := by
  intro j hj
  have hj' : j < d.length := by simpa using hj
  refine ⟨?_, by simp [World.frozen?, hb]⟩
  have h1 : (cur.toList.take d.length)[j]? = (d.map fiC)[j]? := by rw [ht]
  rw [List.getElem?_take_of_lt hj'] at h1
  simp only [World.cell?, hb, Nat.zero_add]
  simp only [Option.isSome_none, Bool.false_eq_true, if_false]
  rw [← Array.getElem?_toList, h1, getElem!_pos _ j hj]
  simp [hj']
theorem swo_fo (fs : List Fa) : SWO (ltOf (fun (x y : Fin fs.length) => foV fs (x.val : Int) (y.val : Int))) where
  irrefl x := by unfold ltOf; rw [decide_eq_false_iff_not, foV_lt]; unfold ltI; omega
  trans x y z h1 h2 := by unfold ltOf at *; rw [decide_eq_true_eq, foV_lt] at *; unfold ltI at *; omega
  ntrans x y z h1 h2 := by unfold ltOf at *; rw [decide_eq_false_iff_not, foV_lt] at *; unfold ltI at *; omega
theorem sortFo_any {B : Nat} {w : World} {g cap : Nat} (fs : List Fa) (h0 : 0 < fs.length) (d : List (Fin fs.length)) (h : w.ownsRow B 2 1 (.slice (some ⟨g, 0, none⟩) d.length cap) d.length (flat N64_cells (d.map (fun x => ((x.val : Nat) : Int))))) (hn : d.length ≤ 100000)
    (b off capf bo : Nat) (hbo : bo < w.heap.size) (hbl : b < w.heap.size) (hbg : bo ≠ g) (hblg : b ≠ g) (hc : w.cell? ⟨bo, 0, none⟩ = some (.slice (some ⟨b, off, none⟩) fs.length capf)) (hcx : ∀ x (hx : x < fs.length), w.cell? ⟨b, off + x * 3, none⟩ = some (.int .i64 fs[x].t)) :
    Calls Tryz.prog 53 #[.slice (some ⟨g, 0, none⟩) d.length cap, .func (.func 54) #[] #[.pointer (some ⟨bo, 0, none⟩)]] w fun e w' => e = .returned (.tuple #[]) ∧ ∃ d' : List (Fin fs.length), d'.Perm d ∧ d'.Pairwise (fun x y => 0 ≤ foV fs (y.val : Int) (x.val : Int)) ∧ w'.ownsRow B 2 1 (.slice (some ⟨g, 0, none⟩) d.length cap) d'.length (flat N64_cells (d'.map (fun x => ((x.val : Nat) : Int)))) ∧ w.grownBy w' (some g) := by
  haveI : Inhabited (Fin fs.length) := ⟨⟨0, h0⟩⟩
  have hl := h.1
  rcases h.2 with ⟨e, -⟩ | ⟨g', cap', cur, e, hB, hg, h1, h2, h3, h4⟩
  · cases e
  cases e
  rw [flat_fi, Nat.mul_one] at h4
  have hC := Any.slices_SortFunc Tryz.laysSortI fiC (fun _ => rfl) (fun (x y : Fin fs.length) => foV fs (x.val : Int) (y.val : Int)) (swo_fo fs) 54 #[.pointer (some ⟨bo, 0, none⟩)] g 0 cap d.toArray w eg_fo2
    (fun m os dk hs x y => by
      have hgr : w.grownBy (sortWorld fiC w g 0 m dk os) (some g) := grownBy_sorted1 dk
      have hz := hgr.size
      refine (fo2_any fs b off capf bo x.val y.val _ x.isLt y.isLt (by omega) (by omega) (hgr.cell hc (fun e => hbg (by cases e; rfl))) (hgr.cell (hcx x.val x.isLt) (fun e => hblg (by cases e; rfl))) (hgr.cell (hcx y.val y.isLt) (fun e => hblg (by cases e; rfl)))).mono ?_
      rintro e w' ⟨rfl, rfl⟩
      exact ⟨rfl, 1, _, by rw [alloc_eq_grow]; rfl⟩)
    (holds1_own d hg h4) (Array.getElem?_eq_some_iff.1 hg).1 (by simp; omega)
  simp only [List.size_toArray] at hC
  refine Calls.mono hC ?_
  rintro e w' ⟨rfl, d', n, os, hp, hs, rfl⟩
  obtain ⟨hp1, -, hp3⟩ := hp
  simp only [List.size_toArray] at hp1
  have hd : d'.extract 0 d.length = d' := by rw [← hp1]; simp
  have hd2 : d.toArray.extract 0 d.length = d.toArray := by simp
  rw [hd, hd2] at hp3
  refine ⟨rfl, d'.toList, hp3, ?_, ?_, grownBy_sorted1 d'⟩
  · rw [List.pairwise_iff_getElem]
    intro i j hi hj hij
    have h9 := hs i j (Nat.zero_le _) hij (by rw [← hp1]; simpa using hj)
    rw [getElem!_pos d' j (by simpa using hj), getElem!_pos d' i (by simpa using hi)] at h9
    unfold ltOf at h9
    rw [decide_eq_false_iff_not] at h9
    rw [Array.getElem_toList, Array.getElem_toList]
    exact Int.not_lt.1 h9
  · have e2 : d'.toList.length = d.length := by simpa using hp1
    refine ⟨by rw [flat_fi, e2, Nat.mul_one, List.length_map]; exact e2, .inr ⟨g, cap, _, by rw [e2], hB, heap_sorted1 d' hg, by rw [e2]; exact h1, h2, by simp [putCells, h3], ?_⟩⟩
    rw [e2, flat_fi, Nat.mul_one, ← hp1]
    exact take_putCells1 cur d' (by rw [hp1, h3]; omega)
theorem idx_fin (fs : List Fa) (xs : List Int) (h : ∀ x ∈ xs, ∃ n : Nat, x = (n : Int) ∧ n < fs.length) : ∃ d : List (Fin fs.length), xs = d.map (fun x => ((x.val : Nat) : Int)) := by
  induction xs with
  | nil => exact ⟨[], rfl⟩
  | cons x xs ih =>
    obtain ⟨d, hd⟩ := ih (fun y hy => h y (List.mem_cons_of_mem _ hy))
    obtain ⟨n, hn, hlt⟩ := h x List.mem_cons_self
    exact ⟨⟨n, hlt⟩ :: d, by rw [List.map_cons, ← hd, hn]⟩
theorem idxTo_nodup (p : Fa → Bool) (fs : List Fa) (k : Nat) : (idxTo p fs k).Nodup := by
  unfold idxTo
  rw [List.Nodup, List.pairwise_map]
  refine List.Pairwise.imp ?_ ((List.nodup_range).filter _)
  intro a b hab e
  exact hab (by omega)
theorem ord_sorted (fs : List Fa) (d d' : List (Fin fs.length)) (hd : idxP fell fs = d.map (fun x => ((x.val : Nat) : Int))) (hp : d'.Perm d) (hs : d'.Pairwise (fun x y => 0 ≤ foV fs (y.val : Int) (x.val : Int))) : isOrd fs fs.length (d'.map (fun x => ((x.val : Nat) : Int))) := by
  have hpm : (d'.map (fun x => ((x.val : Nat) : Int))).Perm (idxTo fell fs fs.length) := by
    show List.Perm _ (idxP fell fs)
    rw [hd]
    exact hp.map _
  refine ⟨hpm, ?_⟩
  have hnd : (d'.map (fun x => ((x.val : Nat) : Int))).Nodup := hpm.symm.nodup (idxTo_nodup _ _ _)
  rw [List.Nodup, List.pairwise_map] at hnd
  rw [List.pairwise_map]
  refine (hs.and hnd).imp ?_
  rintro x y ⟨h1, h2⟩
  have h3 : ¬ ltI fs (y.val : Int) (x.val : Int) := by
    intro h
    have := (foV_lt fs (y.val : Int) (x.val : Int)).2 h
    omega
  unfold ltI at h3 ⊢
  omega
set_option maxHeartbeats 1600000 in
theorem fallOrder_any (wd hg : Int) (s : Value) (ps : List Pc) (v1 : Value) (pl : List Pu) (w : World) (hps : PV w s ps) (hok : (Bd.mk wd hg ps).ok) (hn : ps.length ≤ 9000000) (h1 : SV Pu.cells w v1 pl) (ok1 : PusOk pl) (n1 : pl.length ≤ 9000000) :
    Calls Tryz.prog 32 #[bdv wd hg s, v1] w fun e w' => ∃ v, e = .returned (.tuple #[v, .int .i64 (rbCode ⟨wd, hg, ps⟩ pl)]) ∧ w'.ownsRow w.heap.size 2 1 v (foList ⟨wd, hg, ps⟩ pl).length (flat N64_cells (foList ⟨wd, hg, ps⟩ pl)) ∧ Below w.heap.size w w' := by
  have HRB := Lib.hid (fun w1 (hb : Below w.heap.size w w1) => implRunBoard_any wd hg s ps v1 pl w1 (hps.step hb) hok hn (h1.step hb) ok1 n1)
  obtain ⟨a, cap, rfl, -⟩ := hps
  obtain ⟨a1, cap1, rfl, -⟩ := h1
  have HBA := Lib.hid (show Below w.heap.size w (w.alloc (.cells #[.int .i8 wd, .int .i8 hg, .slice a ps.length cap] 34)) from bl_alloc (Below.refl _ _))
  cases g1 : (vBd ⟨wd, hg, ps⟩ && vPus ⟨wd, hg, ps⟩ pl) with
  | true =>
    obtain ⟨hv, hpl, hin, hn20⟩ := ask_ok _ _ g1
    have HC0 : Hid (rbCode ⟨wd, hg, ps⟩ pl = 0) := Lib.hid (by unfold rbCode; rw [g1]; rfl)
    have HL0 : Hid (rbList ⟨wd, hg, ps⟩ pl = runOf ps pl) := Lib.hid (by unfold rbList; rw [g1]; rfl)
    have HL : Hid (foList ⟨wd, hg, ps⟩ pl = ordOf (runOf ps pl)) := Lib.hid (by unfold foList; rw [if_pos g1])
    have HN := Lib.hid (runOf_len200 ⟨wd, hg, ps⟩ pl hv)
    have HGE := Lib.hid (runOf_ge ps pl)
    rw [HC0.out, HL.out]
    rw [HC0.out, HL0.out] at HRB
    obtain ⟨fs, hfs⟩ : ∃ fs, fs = runOf ps pl := ⟨_, rfl⟩
    have hn2 : fs.length ≤ 200 := by rw [hfs]; exact HN.out
    rw [← hfs] at HRB HGE ⊢
    clear g1 HL HC0 HL0 hpl hin hv hfs HN
    go_enter Tryz.func32, Tryz.ntmps32
    go_wp2_with fail
    refine (HRB.out _ HBA.out).mono ?_
    rintro e w2 ⟨v, rfl, hown, hb2⟩
    have HB02 := Lib.hid (bl_trans HBA.out hb2)
    obtain ⟨av, capv, hve, hsl, -, -⟩ := own_at hown
    subst hve
    have HSL := Lib.hid hsl
    have hbW : Below w2.heap.size w2 (w2.alloc (.cells #[.slice av fs.length capv] 29)) := bl_alloc (Below.refl _ _)
    have HIX := Lib.hid (indices_anyP (B := w2.heap.size) 52 #[] fell av capv fs (w2.alloc (.cells #[.slice av fs.length capv] 29)) (hsl.below hbW (Nat.le_refl _)) hbW.size (by omega) eg_fo1 (fun F wx hF hbx => by
      refine (fo1_any F wx).mono ?_
      rintro e w' ⟨rfl, hb⟩
      refine ⟨?_, hb⟩
      obtain ⟨k, hk, rfl⟩ := List.getElem_of_mem hF
      have := HGE.out k hk
      exact ret_bool (by unfold fell; rw [bne_iff_ne, decide_eq_true_eq]; omega)))
    have HBW := Lib.hid hbW
    have HCB := Lib.hid (cell_new0 w2 (.slice av fs.length capv) 29 _ rfl)
    clear hown hsl hb2 HRB HGE hbW
    go_wp2_with fail
    refine HIX.out.mono ?_
    rintro e w3 ⟨v, rfl, hown3, hb3⟩
    have hb23 := bl_trans HBW.out hb3
    have hcb : w3.cell? ⟨w2.heap.size, 0, none⟩ = some (.slice av fs.length capv) := by rw [hb3.cell (p := ⟨_, _, none⟩) (by simp)]; exact HCB.out
    obtain ⟨d, hd⟩ := idx_fin fs (idxP fell fs) (fun x hx => idxTo_mem fell fs fs.length x hx)
    have hdl : d.length = (idxP fell fs).length := by rw [hd]; simp
    have hdn : d.length ≤ 200 := by rw [hdl]; exact Nat.le_trans (idxTo_len _ _ _) hn2
    have hz3 : w2.heap.size < w3.heap.size := by have := hb3.size; simp at this; omega
    rw [← hdl, hd] at hown3
    have HD := Lib.hid hd
    have HB03 := Lib.hid (bl_trans HB02.out hb23)
    clear hd hdl
    by_cases hd0 : d.length = 0
    · have hdn : d = [] := List.length_eq_zero_iff.1 hd0
      have HORD : Hid (ordOf fs = []) := Lib.hid (ordOf_eq fs [] (by
        refine ⟨?_, List.Pairwise.nil⟩
        show List.Perm [] (idxP fell fs)
        rw [HD.out, hdn]; exact List.Perm.refl _)).symm
      obtain ⟨pa, pc, rfl, -⟩ := own_at hown3
      have hs0 : Calls Tryz.prog 53 #[.slice pa d.length pc, .func (.func 54) #[] #[.pointer (some ⟨w2.heap.size, 0, none⟩)]] w3 (fun e w' => e = .returned (.tuple #[]) ∧ w' = w3) := by rw [hd0]; exact AnyF.slices_SortFunc_none Tryz.laysSortN pa pc _ w3
      have HS0 := Lib.hid hs0
      subst hdn
      have hown4 := own_mono (base := w.heap.size) hown3 (by have := HB02.out.size; simp; omega)
      have HOWN4 := Lib.hid hown4
      clear hs0 hown3 hown4 hd0
      go_wp2_with fail
      refine HS0.out.mono ?_
      rintro e w' ⟨rfl, rfl⟩
      go_wp2
      go_ret2
      exact ⟨_, rfl, by rw [HORD.out]; exact HOWN4.out, HB03.out⟩
    · obtain ⟨m, hm⟩ : ∃ m, d.length = m + 1 := ⟨d.length - 1, by omega⟩
      rw [hm] at hown3
      obtain ⟨g, capg, rfl, hgg⟩ := own_some hown3
      rw [← hm] at hown3 ⊢
      have hf0 : 0 < fs.length := by
        cases d with
        | nil => simp at hm
        | cons x d => have := x.isLt; omega
      obtain ⟨b, off, hav, hbl, -⟩ := fas_get HSL.out hf0
      subst hav
      have hcx : ∀ x (hx : x < fs.length), w3.cell? ⟨b, off + x * 3, none⟩ = some (.int .i64 fs[x].t) := by
        intro x hx
        obtain ⟨b', off', he, -, hat⟩ := fas_get HSL.out hx
        simp only [Option.some.injEq, Addr.mk.injEq, and_true] at he
        obtain ⟨rfl, rfl⟩ := he
        rw [hb23.cell (p := ⟨_, _, none⟩) hbl]
        exact hat.1
      have hz0 : w2.heap.size < (w2.alloc (.cells #[.slice (some ⟨b, off, none⟩) fs.length capv] 29)).heap.size := by simp
      have HS := Lib.hid (sortFo_any fs hf0 d hown3 (by omega) b off capv w2.heap.size (by omega) (by omega) (by omega) (by omega) hcb hcx)
      clear hcx hcb hown3 hm hd0
      go_wp2_with fail
      refine HS.out.mono ?_
      rintro e w4 ⟨rfl, d', hp, hs, hown4, hgr⟩
      have HORD : Hid (d'.map (fun x => ((x.val : Nat) : Int)) = ordOf fs) := Lib.hid (ordOf_eq fs _ (ord_sorted fs d d' HD.out hp hs))
      have hlo : d'.length = (ordOf fs).length := by rw [← HORD.out]; simp
      have hld : d'.length = d.length := hp.length_eq
      have hown5 := own_mono (base := w.heap.size) hown4 (by have := HB02.out.size; simp; omega)
      rw [HORD.out, hlo] at hown5
      have hb4 : Below w.heap.size w w4 := bl_grown HB03.out hgr (fun q hq => by cases hq; have := HB02.out.size; omega)
      clear hown4 hp hs hlo hld
      go_wp2
      go_ret2
      exact ⟨_, rfl, hown5, hb4⟩
  | false =>
    have HC0 : Hid (rbCode ⟨wd, hg, ps⟩ pl = 1) := Lib.hid (by unfold rbCode; rw [g1]; rfl)
    have HL : Hid (foList ⟨wd, hg, ps⟩ pl = []) := Lib.hid (by unfold foList; rw [g1]; rfl)
    rw [HC0.out, HL.out]
    rw [HC0.out] at HRB
    clear g1 HC0 HL
    go_enter Tryz.func32, Tryz.ntmps32
    go_wp2_with fail
    refine (HRB.out _ HBA.out).mono ?_
    rintro e w2 ⟨v, rfl, hown, hb2⟩
    obtain ⟨av, capv, hve, -⟩ := own_at hown
    subst hve
    have hb02 := bl_trans HBA.out hb2
    go_wp2
    go_ret2
    exact ⟨_, rfl, World.ownsRow_nil _ _ _ _, (by repeat (first | with_reducible exact Below.refl _ _ | with_reducible assumption | with_reducible apply bl_drewN | with_reducible apply bl_drew | with_reducible apply bl_alloc | (with_reducible refine bl_set ?_ (by first | (simp; done) | (simp; omega)) _) | with_reducible refine bl_trans ?_ (by with_reducible assumption)))⟩
end Go.Proofs.YtepekboechmngaaGreat
/- Contracts: slices.Reverse over whole numbers. -/
namespace Go.Proofs.YtepekboechmngaaGreat
open Go.RowKit
set_option linter.unusedVariables false
set_option linter.unusedSimpArgs false
set_option maxHeartbeats 400000
set_option maxRecDepth 100000
/-- A list of which the first i and the last i elements have been exchanged. -/
def revToI (xs : List Int) (i : Nat) : List Int := (xs.drop (xs.length - i)).reverse ++ ((xs.take (xs.length - i)).drop i ++ (xs.take i).reverse)
theorem revToI_zero (xs : List Int) : revToI xs 0 = xs := by simp [revToI]
theorem revToI_end (xs : List Int) (i : Nat) (h : xs.length ≤ 2 * i + 1) (hi : 2 * i ≤ xs.length) : revToI xs i = xs.reverse := by
  unfold revToI
  have e : xs = xs.take i ++ ((xs.take (xs.length - i)).drop i ++ xs.drop (xs.length - i)) := by
    have h1 : xs.take i = (xs.take (xs.length - i)).take i := by rw [List.take_take]; congr 1; omega
    rw [h1, ← List.append_assoc, List.take_append_drop, List.take_append_drop]
  have hm : ((xs.take (xs.length - i)).drop i).length ≤ 1 := by simp; omega
  have hr : ((xs.take (xs.length - i)).drop i).reverse = (xs.take (xs.length - i)).drop i := by
    generalize (xs.take (xs.length - i)).drop i = m at hm
    match m, hm with
    | [], _ => rfl
    | [x], _ => rfl
  conv => rhs; rw [e]
  simp only [List.reverse_append, hr, List.append_assoc]
theorem revToI_parts (xs : List Int) (i : Nat) (h : 2 * i + 1 < xs.length) : ∃ A M C : List Int, A.length = i ∧ M.length = xs.length - 2 * i - 2 ∧
    revToI xs i = A ++ (xs[i] :: (M ++ (xs[xs.length - 1 - i]'(by omega) :: C))) ∧ revToI xs (i + 1) = A ++ (xs[xs.length - 1 - i]'(by omega) :: (M ++ (xs[i] :: C))) := by
  have hj : xs.length - 1 - i < xs.length := by omega
  refine ⟨(xs.drop (xs.length - i)).reverse, (xs.take (xs.length - 1 - i)).drop (i + 1), (xs.take i).reverse, by simp; omega, by simp; omega, ?_, ?_⟩
  · unfold revToI
    have e1 : xs.take (xs.length - i) = xs.take (xs.length - 1 - i) ++ [xs[xs.length - 1 - i]] := by
      have := List.take_succ_eq_append_getElem hj
      rw [← this]; congr 1; omega
    have e2 : (xs.take (xs.length - 1 - i)).drop i = xs[i] :: (xs.take (xs.length - 1 - i)).drop (i + 1) := by
      rw [List.drop_eq_getElem_cons (by simp; omega)]
      simp
    rw [e1, List.drop_append_of_le_length (by simp; omega), e2]
    simp
  · unfold revToI
    have e1 : xs.drop (xs.length - (i + 1)) = xs[xs.length - 1 - i] :: xs.drop (xs.length - i) := by
      have := List.drop_eq_getElem_cons hj
      rw [show xs.length - (i + 1) = xs.length - 1 - i by omega, this]
      congr 2; omega
    have e2 : xs.take (i + 1) = xs.take i ++ [xs[i]] := List.take_succ_eq_append_getElem (by omega)
    rw [e1, e2, show xs.length - (i + 1) = xs.length - 1 - i by omega]
    simp
set_option maxHeartbeats 1600000 in
theorem reverseI_any {base g cap : Nat} (xs : List Int) (w : World) (hown : w.ownsRow base 2 1 (.slice (some ⟨g, 0, none⟩) xs.length cap) xs.length (flat N64_cells xs)) (hn : xs.length ≤ 10000000) :
    Calls Tryz.prog 59 #[.slice (some ⟨g, 0, none⟩) xs.length cap] w fun e w' => e = .returned (.tuple #[]) ∧ w'.ownsRow base 2 1 (.slice (some ⟨g, 0, none⟩) xs.length cap) xs.length (flat N64_cells xs.reverse) ∧ w.grownBy w' (some g) := by
  go_enter Tryz.func59, Tryz.ntmps59
  go_wp2
  go_loopw [2, 3] (fun i j wr => ∃ k : Nat, 2 * k ≤ xs.length ∧ i = .int .i64 k ∧ j = .int .i64 (xs.length - 1 - k) ∧ wr.ownsRow base 2 1 (.slice (some ⟨g, 0, none⟩) xs.length cap) xs.length (flat N64_cells (revToI xs k)) ∧ w.grownBy wr (some g)) (fun i _ _ => xs.length - (intOf i).toNat)
  case atStart => exact ⟨0, by omega, rfl, by go_num, by rw [revToI_zero]; exact hown, World.grownBy.refl _ _⟩
  case round =>
    clear hown
    obtain ⟨k, hk, rfl, rfl, hown, hg⟩ := hrel
    by_cases hlt : 2 * k + 1 < xs.length
    · obtain ⟨A, M, C, hA, hM, e1, e2⟩ := revToI_parts xs k hlt
      rw [e1, flat_append, flat_cons, flat_append, flat_cons] at hown
      have hAl : (flat N64_cells A).length = k * 1 := by rw [flat_length N64_len, hA]
      have hMl : (flat N64_cells M).length = (xs.length - 2 * k - 2) * 1 := by rw [flat_length N64_len, hM]
      generalize hx : xs[k] = ck at hown e2
      generalize hy : xs[xs.length - 1 - k] = cj at hown e2
      rw [Nat.mul_one] at hAl hMl
      have hAM : (flat N64_cells A).length + 1 + (flat N64_cells M).length = xs.length - 1 - k := by omega
      have i0 : wr.cell? ⟨g, k, none⟩ = some (.int .i64 ck) := by
        rw [hown.cellAt _ (by omega), List.getElem?_append_right (by omega), hAl]; simp [N64_cells]
      have j0 : wr.cell? ⟨g, xs.length - 1 - k, none⟩ = some (.int .i64 cj) := by
        rw [hown.cellAt _ (by omega), List.getElem?_append_right (by omega), hAl, List.getElem?_append_right (by simp [N64_cells]; omega), List.getElem?_append_right (by rw [hMl]; simp [N64_cells]; omega), hMl]
        rw [show xs.length - 1 - k - k - (N64_cells ck).length - (xs.length - 2 * k - 2) = 0 by simp [N64_cells]; omega]
        rfl
      have fi0 := (own_cell hown (j := k) (by omega)).2
      have fj0 := (own_cell hown (j := xs.length - 1 - k) (by omega)).2
      obtain ⟨jj, hjj⟩ : ∃ jj : Nat, jj = xs.length - 1 - k := ⟨_, rfl⟩
      have hji : (xs.length : Int) - 1 - k = (jj : Int) := by omega
      rw [hji]
      rw [← hjj] at j0 fj0 hAM
      have hlt1 : (k : Int) < (jj : Int) := by omega
      have hlt2 : (jj : Int) < xs.length := by omega
      have hlt3 : jj < xs.length := by omega
      have hlt4 : k < xs.length := by omega
      have HJ := Lib.hid hjj
      have HAM := Lib.hid hAM
      clear hjj hji hAM
      have HO := Lib.hid hown
      have HE := Lib.hid e2
      clear hown e1 e2 hx hy
      go_wp2_with fail
      go_region
      have h1 := own_setCells (N64_cells cj) HO.out hAl (by simp [N64_cells])
      rw [show (N64_cells cj).length = 1 from rfl] at h1
      have hd : (N64_cells ck ++ (flat N64_cells M ++ (N64_cells cj ++ flat N64_cells C))).drop 1 = flat N64_cells M ++ (N64_cells cj ++ flat N64_cells C) := rfl
      rw [hd, ← List.append_assoc] at h1
      have h2 := own_setCells (j := jj) (N64_cells ck) h1 (by rw [List.length_append, List.length_append, ← HAM.out]; simp [N64_cells]) (by simp [N64_cells])
      have hd2 : (N64_cells cj ++ flat N64_cells C).drop (N64_cells ck).length = flat N64_cells C := rfl
      rw [hd2] at h2
      have hg2 := grown_trans (grown_trans hg (grown_setCells g (N64_cells cj) wr k)) (grown_setCells g (N64_cells ck) (setCells wr g k (N64_cells cj)) jj)
      clear i0 j0 fi0 fj0
      have hend : (flat N64_cells A ++ N64_cells cj ++ flat N64_cells M) ++ N64_cells ck ++ flat N64_cells C = flat N64_cells (revToI xs (k + 1)) := by
        rw [HE.out, flat_append, flat_cons, flat_append, flat_cons]
        simp only [List.append_assoc]
      rw [hend] at h2
      have h3 := h2.drew
      have hg3 : w.grownBy (setCells (setCells wr g k (N64_cells cj)) g jj (N64_cells ck)).drew (some g) := ⟨hg2.os, hg2.tape, hg2.output, hg2.size, hg2.block⟩
      clear HE hg2 h1 h2 hlt3 hlt4 HO
      go_wp2
      exact ⟨⟨k + 1, by omega, by go_num, by have := HJ.out; congr 1; omega, h3, hg3⟩, by simp [intOf]; omega⟩
    · rw [revToI_end xs k (by omega) hk] at hown
      have HO := Lib.hid hown
      clear hown
      go_wp2
      go_end0
      exact ⟨rfl, HO.out, hg⟩
end Go.Proofs.YtepekboechmngaaGreat
/- CausesOf: plain laws, and both contracts. -/
namespace Go.Proofs.YtepekboechmngaaGreat
open Go.RowKit
set_option linter.unusedVariables false
set_option linter.unusedSimpArgs false
set_option maxHeartbeats 400000
set_option maxRecDepth 100000
def rkF (fs : List Fa) (t : Int) : Nat := (fs.filter (fun f => decide (0 ≤ f.t) && decide (f.t < t))).length
theorem rk_lt : ∀ (fs : List Fa) (t t' : Int) (k : Nat) (hk : k < fs.length), 0 ≤ fs[k].t → fs[k].t < t → t' ≤ fs[k].t → rkF fs t' < rkF fs t := by
  have mono : ∀ (fs : List Fa) (t t' : Int), t' ≤ t → rkF fs t' ≤ rkF fs t := by
    intro fs t t' h
    unfold rkF
    induction fs with
    | nil => simp
    | cons f fs ih =>
      by_cases h1 : (decide (0 ≤ f.t) && decide (f.t < t')) = true
      · have h2 : (decide (0 ≤ f.t) && decide (f.t < t)) = true := by simp at h1 ⊢; omega
        rw [List.filter_cons_of_pos (by simpa using h1), List.filter_cons_of_pos (by simpa using h2)]
        simpa using ih
      · rw [List.filter_cons_of_neg (by simpa using h1)]
        refine Nat.le_trans ih ?_
        by_cases h2 : (decide (0 ≤ f.t) && decide (f.t < t)) = true
        · rw [List.filter_cons_of_pos (by simpa using h2)]; simp
        · rw [List.filter_cons_of_neg (by simpa using h2)]; exact Nat.le_refl _
  intro fs
  induction fs with
  | nil => intro t t' k hk; simp at hk
  | cons f fs ih =>
    intro t t' k hk h0 h1 h2
    cases k with
    | zero =>
      simp only [List.getElem_cons_zero] at h0 h1 h2
      have m := mono fs t t' (by omega)
      unfold rkF at m ⊢
      rw [List.filter_cons_of_neg (a := f) (by simp; omega), List.filter_cons_of_pos (a := f) (by simp; omega)]
      simp; omega
    | succ k =>
      have m := ih t t' k (by simpa using hk) (by simpa using h0) (by simpa using h1) (by simpa using h2)
      simp only [List.getElem_cons_succ] at h0 h1 h2
      unfold rkF at m ⊢
      by_cases h3 : (decide (0 ≤ f.t) && decide (f.t < t')) = true
      · have h4 : (decide (0 ≤ f.t) && decide (f.t < t)) = true := by simp at h3 ⊢; omega
        rw [List.filter_cons_of_pos (by simpa using h3), List.filter_cons_of_pos (by simpa using h4)]
        simpa using m
      · rw [List.filter_cons_of_neg (by simpa using h3)]
        refine Nat.lt_of_lt_of_le m ?_
        by_cases h4 : (decide (0 ≤ f.t) && decide (f.t < t)) = true
        · rw [List.filter_cons_of_pos (by simpa using h4)]; simp
        · rw [List.filter_cons_of_neg (by simpa using h4)]; exact Nat.le_refl _
theorem rk_le (fs : List Fa) (t : Int) : rkF fs t ≤ fs.length := List.length_filter_le _ _
/-- The causes of a fall, backwards. -/
def chF (fs : List Fa) : Nat → Int → List Int
  | 0, _ => []
  | n + 1, i => if 0 ≤ i then i :: chF fs n (fs.getD i.toNat default).b else []
theorem chF_neg (fs : List Fa) (n : Nat) : chF fs n (-1) = [] := by cases n <;> rfl
theorem chF_len (fs : List Fa) : ∀ (n : Nat) (i : Int), (chF fs n i).length ≤ n := by
  intro n
  induction n with
  | zero => intro i; exact Nat.le_refl _
  | succ n ih =>
    intro i
    unfold chF
    split
    · simp only [List.length_cons]; have := ih (fs.getD i.toNat default).b; omega
    · exact Nat.zero_le _
def chOf (fs : List Fa) (i : Int) : List Int := chF fs (fs.length + 1) i
/-- Each fall hangs on a push, or on an earlier one. -/
def linked (fs : List Fa) : Prop := ∀ (i : Nat) (hi : i < fs.length), 0 ≤ fs[i].t → fs[i].b = -1 ∨ ∃ (k : Nat) (hk : k < fs.length), fs[i].b = (k : Int) ∧ 0 ≤ fs[k].t ∧ fs[k].t < fs[i].t
theorem candN1_by (ps : List Pc) (fs : List Fa) (i : Nat) (s : Int) (m : Ht) (h : candN1 ps fs i s = some m) : 0 ≤ m.2.2 ∧ m.2.2 < fs.length ∧ (fs.getD m.2.2.toNat default).t ≠ -1 ∧ m.1 = (fs.getD m.2.2.toNat default).t + (ps.getD m.2.2.toNat default).d := by
  unfold candN1 at h
  simp only at h
  split at h
  · rename_i hc
    obtain ⟨c1, c2, c3, c4⟩ := hc
    simp only [Option.some.injEq] at h
    rw [← h]
    exact ⟨c1, c2, c3, rfl⟩
  · cases h
theorem candP_by (ps : List Pc) (pl : List Pu) (i : Nat) (m : Ht) (h : m ∈ candP ps pl i) : m.2.2 = -1 := by
  unfold candP at h
  rw [List.mem_filterMap] at h
  obtain ⟨p, hpm, h⟩ := h
  split at h
  · simp only [Option.some.injEq] at h
    rw [← h]
  · cases h
theorem okFa_linked (ps : List Pc) (pl : List Pu) (fs : List Fa) (G : Good ps pl) (h : okFa ps pl fs) : linked fs := by
  intro i hi ht
  have hip : i < ps.length := by rw [← h.1]; exact hi
  have e := h.2.2 i hip
  rw [getD_fa fs i hi] at e
  unfold due at e
  cases hm : bestH (dueC ps pl fs i) with
  | none => rw [hm] at e; rw [e] at ht; exact absurd ht (by decide)
  | some m =>
    rw [hm] at e
    have e1 : fs[i].t = m.1 := by rw [e]; rfl
    have e2 : fs[i].b = m.2.2 := by rw [e]; rfl
    have hmem := (cand_mem ps pl fs i m).1 (bestH_mem _ m hm)
    rcases hmem.2 with h1 | ⟨s, hs, h1⟩
    · exact .inl (by rw [e2]; exact candP_by ps pl i m h1)
    · obtain ⟨c1, c2, c3, c4⟩ := candN1_by ps fs i s m h1
      have hk : m.2.2.toNat < fs.length := by omega
      have h5 := h.2.1 m.2.2.toNat (by rw [← h.1]; exact hk)
      have h6 := G.d1 m.2.2.toNat (by rw [← h.1]; exact hk)
      rw [getD_fa fs _ hk] at c3 c4 h5
      exact .inr ⟨m.2.2.toNat, hk, by omega, by omega, by omega⟩
theorem runOf_linked (ps : List Pc) (pl : List Pu) (G : Good ps pl) : linked (runOf ps pl) := by
  unfold runOf
  split
  · rename_i h
    exact okFa_linked ps pl _ G h.choose_spec
  · intro i hi ht
    rw [List.getElem_replicate] at ht
    exact absurd ht (by decide)
def atOk (fs : List Fa) (c : Int) : Prop := c = -1 ∨ ∃ (k : Nat) (hk : k < fs.length), c = (k : Int) ∧ 0 ≤ fs[k].t
def rkA (fs : List Fa) (c : Int) : Nat := if 0 ≤ c then rkF fs (tki fs c) + 1 else 0
theorem rkA_neg (fs : List Fa) : rkA fs (-1) = 0 := rfl
theorem at_next (fs : List Fa) (hl : linked fs) (k : Nat) (hk : k < fs.length) (ht : 0 ≤ fs[k].t) : atOk fs fs[k].b ∧ rkA fs fs[k].b < rkA fs k ∧ (fs[k].b = -1 ∨ ∃ j : Nat, fs[k].b = (j : Int)) := by
  have e1 : rkA fs (k : Int) = rkF fs fs[k].t + 1 := by unfold rkA; rw [if_pos (by omega), tki_at fs k hk]
  rcases hl k hk ht with h | ⟨j, hj, h1, h2, h3⟩
  · refine ⟨.inl h, ?_, .inl h⟩
    rw [h, e1, rkA_neg]; omega
  · refine ⟨.inr ⟨j, hj, h1, h2⟩, ?_, .inr ⟨j, h1⟩⟩
    have e2 : rkA fs fs[k].b = rkF fs fs[j].t + 1 := by rw [h1]; unfold rkA; rw [if_pos (by omega), tki_at fs j hj]
    rw [e1, e2]
    have := rk_lt fs fs[k].t fs[j].t j hj h2 h3 (Int.le_refl _)
    omega
theorem chF_step (fs : List Fa) (f : Nat) (k : Nat) (hk : k < fs.length) (hf : rkA fs k ≤ f) : ∃ f', f = f' + 1 ∧ chF fs f k = (k : Int) :: chF fs f' fs[k].b := by
  have h1 : 1 ≤ rkA fs (k : Int) := by unfold rkA; rw [if_pos (by omega)]; omega
  obtain ⟨f', rfl⟩ : ∃ f', f = f' + 1 := ⟨f - 1, by omega⟩
  refine ⟨f', rfl, ?_⟩
  show (if 0 ≤ (k : Int) then _ else _) = _
  rw [if_pos (by omega), Int.toNat_natCast, getD_fa fs k hk]
noncomputable def caCode (l : Bd) (pl : List Pu) (i : Int) : Int := if (vBd l && vPus l pl) = true then (if inB i 0 (l.ps.length - 1) = true then (if tki (runOf l.ps pl) i < 0 then 6 else 0) else 2) else 1
noncomputable def caList (l : Bd) (pl : List Pu) (i : Int) : List Int := if caCode l pl i = 0 then (chOf (runOf l.ps pl) i).reverse else []
theorem caList_len (l : Bd) (pl : List Pu) (i : Int) : (caList l pl i).length ≤ l.ps.length + 1 := by
  unfold caList
  split
  · rw [List.length_reverse]
    have h1 := chF_len (runOf l.ps pl) ((runOf l.ps pl).length + 1) i
    have h2 := runOf_len l.ps pl
    unfold chOf
    omega
  · exact Nat.zero_le _
end Go.Proofs.YtepekboechmngaaGreat
