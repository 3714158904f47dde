/- Contracts: the pieces of a line. -/
import Derived.Test.YtoldmgpdcenmhaaLp2
namespace Go.Proofs.Ytoldmgpdcenmhaa
open Go.RowKit
set_option linter.unusedVariables false
set_option linter.unusedSimpArgs false
set_option maxHeartbeats 400000
set_option maxRecDepth 100000
set_option maxHeartbeats 1600000 in
theorem linePieces_in {B : Nat} (a : Option Addr) (cap : Nat) (cs : List Ce) (side out : Int) (w : World) (h : CesAt B w a cs) (hok : CesOk cs) (hB : B ≤ w.heap.size) (hcap : cs.length ≤ cap) (hnn : cs.length ≤ 10000000) (hv : vPath cs = true) (hn : cs.length ≤ 120) (hp : okUpto cs cs.length) (h1 : 0 ≤ side) (h2 : side ≤ 3) (h3 : 0 ≤ out) (h4 : out ≤ 3) :
    Calls Try.prog 19 #[.slice a cs.length cap, .int .i64 side, .int .i64 out] w fun e w' => ∃ v, e = .returned (.tuple #[v, .int .i64 (lineCode cs side out)]) ∧
      w'.ownsRow w.heap.size 78 5 v (lineList cs side out).length (flat Pc.cells (lineList cs side out)) ∧ Below w.heap.size w w' := by
  obtain ⟨i0, hi, hz0, hz1, hz2⟩ := info_parts Try.infoPiece
  have HFB := Lib.hid (fun j hj => frm_bd cs hok side hp h1 h2 j hj)
  have HTB := Lib.hid (fun j hj => tow_bd cs out hp h3 h4 j hj)
  have HNO := Lib.hid (fun (h : noClash cs side out cs.length) => show lineCode cs side out = 0 ∧ lineList cs side out = pcsTo cs side out cs.length by unfold lineCode lineList; rw [clash_no cs side out h]; exact ⟨rfl, rfl⟩)
  have HYES := Lib.hid (fun j hj he => show lineCode cs side out = 4 ∧ lineList cs side out = [] by unfold lineCode lineList; rw [clash_yes cs side out j hj he]; exact ⟨rfl, rfl⟩)
  have HV := Lib.hid (show vPath cs = true from hv)
  have HI1 := Lib.hid (show inB side 0 3 = true by unfold inB; simp; omega)
  have HI2 := Lib.hid (show inB out 0 3 = true by unfold inB; simp; omega)
  have HP := Lib.hid (fun w' (hb : Below w.heap.size w w') => isPath_any a cap cs w' (h.below hb hB) hok (Nat.le_trans hB hb.size) hcap hnn)
  clear hv
  go_enter Try.func19, Try.ntmps19
  go_wp2_with fail
  refine (HP.out _ (by repeat (first | with_reducible exact Below.refl _ _ | with_reducible assumption | with_reducible apply bl_drewN | with_reducible apply bl_drew | with_reducible apply bl_alloc | (with_reducible refine bl_set ?_ (by first | (simp; done) | (simp; omega)) _) | with_reducible refine bl_trans ?_ (by with_reducible assumption)))).mono ?_
  rintro e w1 ⟨rfl, hb1⟩
  rw [HV.out]
  have hz1b := hb1.size
  go_wp2_with fail
  refine (isSide_any side _).mono ?_
  rintro e w' ⟨rfl, rfl⟩
  rw [HI1.out]
  go_wp2_with fail
  refine (isSide_any out _).mono ?_
  rintro e w' ⟨rfl, rfl⟩
  rw [HI2.out]
  go_wp2
  go_loopw [8, 29] (fun o i wr => ∃ j : Nat, j ≤ cs.length ∧ i = .int .i64 j ∧ Hid (noClash cs side out j) ∧ wr.ownsRow w.heap.size 78 5 o (pcsTo cs side out j).length (flat Pc.cells (pcsTo cs side out j)) ∧ Below w.heap.size w wr) (fun _ i _ => cs.length - (intOf i).toNat)
  case atStart => exact ⟨0, by omega, rfl, Lib.hid (fun i hi => by omega), World.ownsRow_made _ _ 0 (hz1b) (by simp [maxLen]) rfl, (by repeat (first | with_reducible exact Below.refl _ _ | with_reducible assumption | with_reducible apply bl_drewN | with_reducible apply bl_drew | with_reducible apply bl_alloc | (with_reducible refine bl_set ?_ (by first | (simp; done) | (simp; omega)) _) | with_reducible refine bl_trans ?_ (by with_reducible assumption)))⟩
  case round =>
    obtain ⟨j, hj, rfl, hno, hown, hb⟩ := hrel
    obtain ⟨hc, hf⟩ := bcell hb
    have hz := hb.size
    have hlen := Lib.hid (pcsTo_len cs side out j)
    by_cases hlt : j < cs.length
    · obtain ⟨b, off, rfl, hbl, hat⟩ := ces_get h hlt
      have hq : b < w.heap.size := by omega
      have hq2 : b < wr.heap.size := by omega
      have hq3 : b < wr.heap.size + 1 := by omega
      have hne : b ≠ wr.heap.size := by omega
      unfold CeAt at hat
      obtain ⟨v1, v2⟩ := HFB.out j hlt
      obtain ⟨v3, v4⟩ := HTB.out j hlt
      have HCY := Lib.hid (fun (q : frm cs side j = tow cs out j) => HYES.out j hlt q)
      have HNX := Lib.hid (fun (q : frm cs side j ≠ tow cs out j) => noClash_snoc hno.out q)
      have hpc : pcOf cs side out j = btw cs[j] (frm cs side j) (tow cs out j) := by unfold pcOf; rw [getD_at cs j hlt]
      have HPI := Lib.hid (fun (w' : World) (q : frm cs side j ≠ tow cs out j) => between_p cs[j] _ _ _ hpc.symm w' v1 v2 v3 v4 q)
      generalize hpp : pcOf cs side out j = p at HPI
      have HPP := Lib.hid hpp
      clear hpc hpp
      have HS0 := Lib.hid (fun (h0 : 0 < j) => frm_pos cs side j h0 hlt)
      have HSz := Lib.hid (frm_zero cs side)
      have HS1 := Lib.hid (fun (h0 : j + 1 < cs.length) => tow_mid cs out j h0)
      have HSe := Lib.hid (fun (h0 : ¬ j + 1 < cs.length) => tow_end cs out j h0)
      have hfr : ∃ f, f = frm cs side j := ⟨_, rfl⟩
      have htw : ∃ g, g = tow cs out j := ⟨_, rfl⟩
      obtain ⟨f, hf1⟩ := hfr
      obtain ⟨g, hg1⟩ := htw
      rw [← hf1, ← hg1] at HCY HNX HPI
      rw [← hf1] at HS0 v1 v2
      rw [← hg1] at HS1 HSe v3 v4
      have HF1 := Lib.hid hf1
      clear hf1 hg1
      rcases Nat.eq_zero_or_pos j with rfl | hpos
      · have hf2 : f = side := by rw [HF1.out, HSz.out]
        subst hf2
        simp only [Nat.zero_mul, Nat.add_zero] at hat
        by_cases hnx : 0 + 1 < cs.length
        · have hat2 : CeAt w b (off + (0 + 1) * 2) cs[0 + 1] := by
            obtain ⟨b', off', e, -, h'⟩ := ces_get h hnx
            cases e; exact h'
          unfold CeAt at hat2
          have HB := Lib.hid (fun (w' : World) => toward_any cs[0] cs[0 + 1] (hok 0 hlt) w')
          rw [← HS1.out hnx] at HB
          simp only [Nat.zero_add, Nat.one_mul] at hat2
          have hqq : (f == g) = true → f = g := fun h => by simpa using h
          have hqn : (f == g) = false → f ≠ g := fun h => by simpa using h
          rcases Bool.eq_false_or_eq_true (f == g) with q0 | q0
          · have hfg := hqq q0
            have HCQ := Lib.hid (HCY.out hfg)
            clear hqq hqn HCY
            subst hfg
            go_wp2
            (refine wp_region_ext (by kernel_rfl) (by kernel_rfl) ?_; have hX := @ext_cell; (repeat (go_big_quiet_step ((go_at_call 45; exact ext_call (HB.out _))))); refine wpQuiet_nil ?_; clear hX; intro wx hw'; obtain ⟨⟨wx, hbx⟩, rfl⟩ := hw'; obtain ⟨hcx, hfx⟩ := bcell hbx)
            have hqy : b < wx.heap.size := by have := hbx.size; (try simp at this); omega
            have hqya : wr.heap.size < wx.heap.size := by have := hbx.size; (try simp at this); omega
            go_wp2
            go_ret2
            exact ⟨_, by rw [HCQ.out.1]; rfl, by rw [HCQ.out.2]; exact World.ownsRow_nil _ _ _ _, (by repeat (first | with_reducible exact Below.refl _ _ | with_reducible assumption | with_reducible apply bl_drewN | with_reducible apply bl_drew | with_reducible apply bl_alloc | (with_reducible refine bl_set ?_ (by first | (simp; done) | (simp; omega)) _) | with_reducible refine bl_trans ?_ (by with_reducible assumption)))⟩
          · have q := hqn q0
            clear hqq hqn
            have HQ := Lib.hid q
            clear q
            go_wp2
            (refine wp_region_ext (by kernel_rfl) (by kernel_rfl) ?_; have hX := @ext_cell; (repeat (go_big_quiet_step ((go_at_call 45; exact ext_call (HB.out _))))); refine wpQuiet_nil ?_; clear hX; intro wx hw'; obtain ⟨⟨wx, hbx⟩, rfl⟩ := hw'; obtain ⟨hcx, hfx⟩ := bcell hbx)
            have hqy : b < wx.heap.size := by have := hbx.size; (try simp at this); omega
            have hqya : wr.heap.size < wx.heap.size := by have := hbx.size; (try simp at this); omega
            go_wp2_with fail
            have q := HQ.out
            refine (HPI.out _ q).mono ?_
            rintro e w3 ⟨rfl, hb3⟩
            have hbr3 : Below wr.heap.size wr w3 := (by repeat (first | with_reducible exact Below.refl _ _ | with_reducible assumption | with_reducible apply bl_drewN | with_reducible apply bl_drew | with_reducible apply bl_alloc | (with_reducible refine bl_set ?_ (by first | (simp; done) | (simp; omega)) _) | with_reducible refine bl_trans ?_ (by with_reducible assumption)))
            have hbw3 := bl_trans hb hbr3
            have hown3 := own_below hown hbr3 (Nat.le_refl _)
            go_wp2_with (at_builtin; refine wpList_append_sl _ rfl _ _ 31 rfl w.heap.size 78 i0 (.agg #[.int .i8 0, .int .i8 0, .int .i8 0, .int .i8 0, .int .i8 0]) 5 5 Try.underlying31 hi hz0 hz1 hz2 rfl (by decide) _ _ _ rfl (own_below hown3 (bl_alloc (Below.refl _ _)) (Nat.le_refl _)) (some ⟨_, 0, none⟩) 1 1 [.int .i8 p.x, .int .i8 p.y, .int .i8 p.k, .int .i8 p.t, .int .i8 p.d] rfl (sl_new _ #[.int .i8 p.x, .int .i8 p.y, .int .i8 p.k, .int .i8 p.t, .int .i8 p.d] _) rfl (Pc.one p) (by rw [hlen.out]; unfold maxLen; omega) (by rw [hlen.out]; omega) (by have := hbw3.size; simp; omega) ?_; intro v1 w4 hown1 hgrow)
            refine ⟨⟨1, by omega, by go_num, HNX.out q, ?_, bl_grown (bl_alloc hbw3) hgrow (fun k hk => (hown.lt k hk).1)⟩, by simp [intOf]; omega⟩
            rw [pcsTo_snoc, HPP.out, List.length_append, flat_append]
            exact hown1
        · have hg2 : g = out := by rw [HSe.out hnx]
          subst hg2
          have hqq : (f == g) = true → f = g := fun h => by simpa using h
          have hqn : (f == g) = false → f ≠ g := fun h => by simpa using h
          rcases Bool.eq_false_or_eq_true (f == g) with q0 | q0
          · have hfg := hqq q0
            have HCQ := Lib.hid (HCY.out hfg)
            clear hqq hqn HCY
            subst hfg
            go_wp2
            go_ret2
            exact ⟨_, by rw [HCQ.out.1]; rfl, by rw [HCQ.out.2]; exact World.ownsRow_nil _ _ _ _, (by repeat (first | with_reducible exact Below.refl _ _ | with_reducible assumption | with_reducible apply bl_drewN | with_reducible apply bl_drew | with_reducible apply bl_alloc | (with_reducible refine bl_set ?_ (by first | (simp; done) | (simp; omega)) _) | with_reducible refine bl_trans ?_ (by with_reducible assumption)))⟩
          · have q := hqn q0
            clear hqq hqn
            have HQ := Lib.hid q
            clear q
            go_wp2_with fail
            have q := HQ.out
            refine (HPI.out _ q).mono ?_
            rintro e w3 ⟨rfl, hb3⟩
            have hbr3 : Below wr.heap.size wr w3 := (by repeat (first | with_reducible exact Below.refl _ _ | with_reducible assumption | with_reducible apply bl_drewN | with_reducible apply bl_drew | with_reducible apply bl_alloc | (with_reducible refine bl_set ?_ (by first | (simp; done) | (simp; omega)) _) | with_reducible refine bl_trans ?_ (by with_reducible assumption)))
            have hbw3 := bl_trans hb hbr3
            have hown3 := own_below hown hbr3 (Nat.le_refl _)
            go_wp2_with (at_builtin; refine wpList_append_sl _ rfl _ _ 31 rfl w.heap.size 78 i0 (.agg #[.int .i8 0, .int .i8 0, .int .i8 0, .int .i8 0, .int .i8 0]) 5 5 Try.underlying31 hi hz0 hz1 hz2 rfl (by decide) _ _ _ rfl (own_below hown3 (bl_alloc (Below.refl _ _)) (Nat.le_refl _)) (some ⟨_, 0, none⟩) 1 1 [.int .i8 p.x, .int .i8 p.y, .int .i8 p.k, .int .i8 p.t, .int .i8 p.d] rfl (sl_new _ #[.int .i8 p.x, .int .i8 p.y, .int .i8 p.k, .int .i8 p.t, .int .i8 p.d] _) rfl (Pc.one p) (by rw [hlen.out]; unfold maxLen; omega) (by rw [hlen.out]; omega) (by have := hbw3.size; simp; omega) ?_; intro v1 w4 hown1 hgrow)
            refine ⟨⟨1, by omega, by go_num, HNX.out q, ?_, bl_grown (bl_alloc hbw3) hgrow (fun k hk => (hown.lt k hk).1)⟩, by simp [intOf]; omega⟩
            rw [pcsTo_snoc, HPP.out, List.length_append, flat_append]
            exact hown1
      · have hlt1 : j - 1 < cs.length := by omega
        have hat1 : CeAt w b (off + (j - 1) * 2) cs[j - 1] := by
          obtain ⟨b', off', e, -, h'⟩ := ces_get h hlt1
          cases e; exact h'
        unfold CeAt at hat1
        have HA := Lib.hid (fun (w' : World) => toward_any cs[j] cs[j - 1] (hok j hlt) w')
        rw [← HS0.out hpos] at HA
        by_cases hnx : j + 1 < cs.length
        · have hat2 : CeAt w b (off + (j + 1) * 2) cs[j + 1] := by
            obtain ⟨b', off', e, -, h'⟩ := ces_get h hnx
            cases e; exact h'
          unfold CeAt at hat2
          have HB := Lib.hid (fun (w' : World) => toward_any cs[j] cs[j + 1] (hok j hlt) w')
          rw [← HS1.out hnx] at HB
          have hqq : (f == g) = true → f = g := fun h => by simpa using h
          have hqn : (f == g) = false → f ≠ g := fun h => by simpa using h
          rcases Bool.eq_false_or_eq_true (f == g) with q0 | q0
          · have hfg := hqq q0
            have HCQ := Lib.hid (HCY.out hfg)
            clear hqq hqn HCY
            subst hfg
            go_wp2
            (refine wp_region_ext (by kernel_rfl) (by kernel_rfl) ?_; have hX := @ext_cell; (repeat (go_big_quiet_step ((go_at_call 45; exact ext_call (HA.out _))))); refine wpQuiet_nil ?_; clear hX; intro wx hw'; obtain ⟨⟨wx, hbx⟩, rfl⟩ := hw'; obtain ⟨hcx, hfx⟩ := bcell hbx)
            have hqx : b < wx.heap.size := by have := hbx.size; (try simp at this); omega
            have hqxa : wr.heap.size < wx.heap.size := by have := hbx.size; (try simp at this); omega
            go_wp2
            (refine wp_region_ext (by kernel_rfl) (by kernel_rfl) ?_; have hX := @ext_cell; (repeat (go_big_quiet_step ((go_at_call 45; exact ext_call (HB.out _))))); refine wpQuiet_nil ?_; clear hX; intro wx hw'; obtain ⟨⟨wx, hbx⟩, rfl⟩ := hw'; obtain ⟨hcx, hfx⟩ := bcell hbx)
            have hqy : b < wx.heap.size := by have := hbx.size; (try simp at this); omega
            have hqya : wr.heap.size < wx.heap.size := by have := hbx.size; (try simp at this); omega
            go_wp2
            go_ret2
            exact ⟨_, by rw [HCQ.out.1]; rfl, by rw [HCQ.out.2]; exact World.ownsRow_nil _ _ _ _, (by repeat (first | with_reducible exact Below.refl _ _ | with_reducible assumption | with_reducible apply bl_drewN | with_reducible apply bl_drew | with_reducible apply bl_alloc | (with_reducible refine bl_set ?_ (by first | (simp; done) | (simp; omega)) _) | with_reducible refine bl_trans ?_ (by with_reducible assumption)))⟩
          · have q := hqn q0
            clear hqq hqn
            have HQ := Lib.hid q
            clear q
            go_wp2
            (refine wp_region_ext (by kernel_rfl) (by kernel_rfl) ?_; have hX := @ext_cell; (repeat (go_big_quiet_step ((go_at_call 45; exact ext_call (HA.out _))))); refine wpQuiet_nil ?_; clear hX; intro wx hw'; obtain ⟨⟨wx, hbx⟩, rfl⟩ := hw'; obtain ⟨hcx, hfx⟩ := bcell hbx)
            have hqx : b < wx.heap.size := by have := hbx.size; (try simp at this); omega
            have hqxa : wr.heap.size < wx.heap.size := by have := hbx.size; (try simp at this); omega
            go_wp2
            (refine wp_region_ext (by kernel_rfl) (by kernel_rfl) ?_; have hX := @ext_cell; (repeat (go_big_quiet_step ((go_at_call 45; exact ext_call (HB.out _))))); refine wpQuiet_nil ?_; clear hX; intro wx hw'; obtain ⟨⟨wx, hbx⟩, rfl⟩ := hw'; obtain ⟨hcx, hfx⟩ := bcell hbx)
            have hqy : b < wx.heap.size := by have := hbx.size; (try simp at this); omega
            have hqya : wr.heap.size < wx.heap.size := by have := hbx.size; (try simp at this); omega
            go_wp2_with fail
            have q := HQ.out
            refine (HPI.out _ q).mono ?_
            rintro e w3 ⟨rfl, hb3⟩
            have hbr3 : Below wr.heap.size wr w3 := (by repeat (first | with_reducible exact Below.refl _ _ | with_reducible assumption | with_reducible apply bl_drewN | with_reducible apply bl_drew | with_reducible apply bl_alloc | (with_reducible refine bl_set ?_ (by first | (simp; done) | (simp; omega)) _) | with_reducible refine bl_trans ?_ (by with_reducible assumption)))
            have hbw3 := bl_trans hb hbr3
            have hown3 := own_below hown hbr3 (Nat.le_refl _)
            go_wp2_with (at_builtin; refine wpList_append_sl _ rfl _ _ 31 rfl w.heap.size 78 i0 (.agg #[.int .i8 0, .int .i8 0, .int .i8 0, .int .i8 0, .int .i8 0]) 5 5 Try.underlying31 hi hz0 hz1 hz2 rfl (by decide) _ _ _ rfl (own_below hown3 (bl_alloc (Below.refl _ _)) (Nat.le_refl _)) (some ⟨_, 0, none⟩) 1 1 [.int .i8 p.x, .int .i8 p.y, .int .i8 p.k, .int .i8 p.t, .int .i8 p.d] rfl (sl_new _ #[.int .i8 p.x, .int .i8 p.y, .int .i8 p.k, .int .i8 p.t, .int .i8 p.d] _) rfl (Pc.one p) (by rw [hlen.out]; unfold maxLen; omega) (by rw [hlen.out]; omega) (by have := hbw3.size; simp; omega) ?_; intro v1 w4 hown1 hgrow)
            refine ⟨⟨j + 1, by omega, by go_num, HNX.out q, ?_, bl_grown (bl_alloc hbw3) hgrow (fun k hk => (hown.lt k hk).1)⟩, by simp [intOf]; omega⟩
            rw [pcsTo_snoc, HPP.out, List.length_append, flat_append]
            exact hown1
        · have hg2 : g = out := by rw [HSe.out hnx]
          subst hg2
          have hqq : (f == g) = true → f = g := fun h => by simpa using h
          have hqn : (f == g) = false → f ≠ g := fun h => by simpa using h
          rcases Bool.eq_false_or_eq_true (f == g) with q0 | q0
          · have hfg := hqq q0
            have HCQ := Lib.hid (HCY.out hfg)
            clear hqq hqn HCY
            subst hfg
            go_wp2
            (refine wp_region_ext (by kernel_rfl) (by kernel_rfl) ?_; have hX := @ext_cell; (repeat (go_big_quiet_step ((go_at_call 45; exact ext_call (HA.out _))))); refine wpQuiet_nil ?_; clear hX; intro wx hw'; obtain ⟨⟨wx, hbx⟩, rfl⟩ := hw'; obtain ⟨hcx, hfx⟩ := bcell hbx)
            have hqx : b < wx.heap.size := by have := hbx.size; (try simp at this); omega
            have hqxa : wr.heap.size < wx.heap.size := by have := hbx.size; (try simp at this); omega
            go_wp2
            go_ret2
            exact ⟨_, by rw [HCQ.out.1]; rfl, by rw [HCQ.out.2]; exact World.ownsRow_nil _ _ _ _, (by repeat (first | with_reducible exact Below.refl _ _ | with_reducible assumption | with_reducible apply bl_drewN | with_reducible apply bl_drew | with_reducible apply bl_alloc | (with_reducible refine bl_set ?_ (by first | (simp; done) | (simp; omega)) _) | with_reducible refine bl_trans ?_ (by with_reducible assumption)))⟩
          · have q := hqn q0
            clear hqq hqn
            have HQ := Lib.hid q
            clear q
            go_wp2
            (refine wp_region_ext (by kernel_rfl) (by kernel_rfl) ?_; have hX := @ext_cell; (repeat (go_big_quiet_step ((go_at_call 45; exact ext_call (HA.out _))))); refine wpQuiet_nil ?_; clear hX; intro wx hw'; obtain ⟨⟨wx, hbx⟩, rfl⟩ := hw'; obtain ⟨hcx, hfx⟩ := bcell hbx)
            have hqx : b < wx.heap.size := by have := hbx.size; (try simp at this); omega
            have hqxa : wr.heap.size < wx.heap.size := by have := hbx.size; (try simp at this); omega
            go_wp2_with fail
            have q := HQ.out
            refine (HPI.out _ q).mono ?_
            rintro e w3 ⟨rfl, hb3⟩
            have hbr3 : Below wr.heap.size wr w3 := (by repeat (first | with_reducible exact Below.refl _ _ | with_reducible assumption | with_reducible apply bl_drewN | with_reducible apply bl_drew | with_reducible apply bl_alloc | (with_reducible refine bl_set ?_ (by first | (simp; done) | (simp; omega)) _) | with_reducible refine bl_trans ?_ (by with_reducible assumption)))
            have hbw3 := bl_trans hb hbr3
            have hown3 := own_below hown hbr3 (Nat.le_refl _)
            go_wp2_with (at_builtin; refine wpList_append_sl _ rfl _ _ 31 rfl w.heap.size 78 i0 (.agg #[.int .i8 0, .int .i8 0, .int .i8 0, .int .i8 0, .int .i8 0]) 5 5 Try.underlying31 hi hz0 hz1 hz2 rfl (by decide) _ _ _ rfl (own_below hown3 (bl_alloc (Below.refl _ _)) (Nat.le_refl _)) (some ⟨_, 0, none⟩) 1 1 [.int .i8 p.x, .int .i8 p.y, .int .i8 p.k, .int .i8 p.t, .int .i8 p.d] rfl (sl_new _ #[.int .i8 p.x, .int .i8 p.y, .int .i8 p.k, .int .i8 p.t, .int .i8 p.d] _) rfl (Pc.one p) (by rw [hlen.out]; unfold maxLen; omega) (by rw [hlen.out]; omega) (by have := hbw3.size; simp; omega) ?_; intro v1 w4 hown1 hgrow)
            refine ⟨⟨j + 1, by omega, by go_num, HNX.out q, ?_, bl_grown (bl_alloc hbw3) hgrow (fun k hk => (hown.lt k hk).1)⟩, by simp [intOf]; omega⟩
            rw [pcsTo_snoc, HPP.out, List.length_append, flat_append]
            exact hown1
    · go_wp2
      go_ret2
      have hjl : j = cs.length := by omega
      subst hjl
      exact ⟨_, by rw [(HNO.out hno.out).1]; rfl, by rw [(HNO.out hno.out).2]; exact hown, hb⟩
theorem linePieces_any {B : Nat} (a : Option Addr) (cap : Nat) (cs : List Ce) (side out : Int) (w : World) (h : CesAt B w a cs) (hok : CesOk cs) (hB : B ≤ w.heap.size) (hcap : cs.length ≤ cap) (hnn : cs.length ≤ 10000000) :
    Calls Try.prog 19 #[.slice a cs.length cap, .int .i64 side, .int .i64 out] w fun e w' => ∃ v, e = .returned (.tuple #[v, .int .i64 (lpCode cs side out)]) ∧
      w'.ownsRow w.heap.size 78 5 v (lpList cs side out).length (flat Pc.cells (lpList cs side out)) ∧ Below w.heap.size w w' := by
  have HP := Lib.hid (fun w' (hb : Below w.heap.size w w') => isPath_any a cap cs w' (h.below hb hB) hok (Nat.le_trans hB hb.size) hcap hnn)
  rcases Bool.eq_false_or_eq_true (vPath cs) with hv | hv
  · rcases Bool.eq_false_or_eq_true (inB side 0 3) with hs | hs
    · rcases Bool.eq_false_or_eq_true (inB out 0 3) with ho | ho
      · have hl : lpIn cs side out = true := by unfold lpIn; rw [hv, hs, ho]; rfl
        have HC := Lib.hid (show lpCode cs side out = lineCode cs side out by unfold lpCode; rw [if_pos hl])
        have HL := Lib.hid (show lpList cs side out = lineList cs side out by unfold lpList; rw [if_pos hl])
        obtain ⟨hp, -, hn⟩ := vPath_parts cs hv
        have hs' : 0 ≤ side ∧ side ≤ 3 := by simpa [inB] using hs
        have ho' : 0 ≤ out ∧ out ≤ 3 := by simpa [inB] using ho
        clear hl
        have HN := linePieces_in a cap cs side out w h hok hB hcap hnn hv hn hp hs'.1 hs'.2 ho'.1 ho'.2
        rw [HC.out, HL.out]
        exact HN
      · have hl : lpIn cs side out = false := by unfold lpIn; simp [ho]
        have HC := Lib.hid (show lpCode cs side out = 2 by unfold lpCode; rw [if_neg (by simp [hl])])
        have HL := Lib.hid (show lpList cs side out = [] by unfold lpList; rw [if_neg (by simp [hl])])
        clear hl
        go_enter Try.func19, Try.ntmps19
        go_wp2_with fail
        refine (HP.out _ (by repeat (first | with_reducible exact Below.refl _ _ | with_reducible assumption | with_reducible apply bl_drewN | with_reducible apply bl_drew | with_reducible apply bl_alloc | (with_reducible refine bl_set ?_ (by first | (simp; done) | (simp; omega)) _) | with_reducible refine bl_trans ?_ (by with_reducible assumption)))).mono ?_
        rintro e w1 ⟨rfl, hb1⟩
        have hz1b := hb1.size
        rw [hv]
        go_wp2_with fail
        refine (isSide_any side _).mono ?_
        rintro e w' ⟨rfl, rfl⟩
        rw [hs]
        go_wp2_with fail
        refine (isSide_any out _).mono ?_
        rintro e w' ⟨rfl, rfl⟩
        rw [ho]
        go_wp2
        go_ret2
        exact ⟨_, by rw [HC.out]; rfl, by rw [HL.out]; exact World.ownsRow_nil _ _ _ _, (by repeat (first | with_reducible exact Below.refl _ _ | with_reducible assumption | with_reducible apply bl_drewN | with_reducible apply bl_drew | with_reducible apply bl_alloc | (with_reducible refine bl_set ?_ (by first | (simp; done) | (simp; omega)) _) | with_reducible refine bl_trans ?_ (by with_reducible assumption)))⟩
    · have hl : lpIn cs side out = false := by unfold lpIn; simp [hs]
      have HC := Lib.hid (show lpCode cs side out = 2 by unfold lpCode; rw [if_neg (by simp [hl])])
      have HL := Lib.hid (show lpList cs side out = [] by unfold lpList; rw [if_neg (by simp [hl])])
      clear hl
      go_enter Try.func19, Try.ntmps19
      go_wp2_with fail
      refine (HP.out _ (by repeat (first | with_reducible exact Below.refl _ _ | with_reducible assumption | with_reducible apply bl_drewN | with_reducible apply bl_drew | with_reducible apply bl_alloc | (with_reducible refine bl_set ?_ (by first | (simp; done) | (simp; omega)) _) | with_reducible refine bl_trans ?_ (by with_reducible assumption)))).mono ?_
      rintro e w1 ⟨rfl, hb1⟩
      have hz1b := hb1.size
      rw [hv]
      go_wp2_with fail
      refine (isSide_any side _).mono ?_
      rintro e w' ⟨rfl, rfl⟩
      rw [hs]
      go_wp2
      go_ret2
      exact ⟨_, by rw [HC.out]; rfl, by rw [HL.out]; exact World.ownsRow_nil _ _ _ _, (by repeat (first | with_reducible exact Below.refl _ _ | with_reducible assumption | with_reducible apply bl_drewN | with_reducible apply bl_drew | with_reducible apply bl_alloc | (with_reducible refine bl_set ?_ (by first | (simp; done) | (simp; omega)) _) | with_reducible refine bl_trans ?_ (by with_reducible assumption)))⟩
  · have hl : lpIn cs side out = false := by unfold lpIn; simp [hv]
    have HC := Lib.hid (show lpCode cs side out = 2 by unfold lpCode; rw [if_neg (by simp [hl])])
    have HL := Lib.hid (show lpList cs side out = [] by unfold lpList; rw [if_neg (by simp [hl])])
    clear hl
    go_enter Try.func19, Try.ntmps19
    go_wp2_with fail
    refine (HP.out _ (by repeat (first | with_reducible exact Below.refl _ _ | with_reducible assumption | with_reducible apply bl_drewN | with_reducible apply bl_drew | with_reducible apply bl_alloc | (with_reducible refine bl_set ?_ (by first | (simp; done) | (simp; omega)) _) | with_reducible refine bl_trans ?_ (by with_reducible assumption)))).mono ?_
    rintro e w1 ⟨rfl, hb1⟩
    have hz1b := hb1.size
    rw [hv]
    go_wp2
    go_ret2
    exact ⟨_, by rw [HC.out]; rfl, by rw [HL.out]; exact World.ownsRow_nil _ _ _ _, (by repeat (first | with_reducible exact Below.refl _ _ | with_reducible assumption | with_reducible apply bl_drewN | with_reducible apply bl_drew | with_reducible apply bl_alloc | (with_reducible refine bl_set ?_ (by first | (simp; done) | (simp; omega)) _) | with_reducible refine bl_trans ?_ (by with_reducible assumption)))⟩
end Go.Proofs.Ytoldmgpdcenmhaa
