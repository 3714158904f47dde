/- Contracts: which cells are a line's. -/
import Derived.Test.YtoldmgpdcenmhaaPath
namespace Go.Proofs.Ytoldmgpdcenmhaa
open Go.RowKit
set_option linter.unusedVariables false
set_option linter.unusedSimpArgs false
set_option maxHeartbeats 400000
set_option maxRecDepth 100000
theorem getD_at (cs : List Ce) (j : Nat) (h : j < cs.length) : cs.getD j default = cs[j] := by
  rw [List.getD_eq_getElem?_getD, List.getElem?_eq_getElem h]; rfl
theorem l05Cells_any {B : Nat} (a : Option Addr) (cap : Nat) (cs : List Ce) (w : World) (h : CesAt B w a cs) (hok : CesOk cs) (hB : B ≤ w.heap.size) (hcap : cs.length ≤ cap) (hn : cs.length ≤ 10000000) :
    Calls Try.prog 40 #[.slice a cs.length cap] w fun e w' => e = .returned (.bool (vPath cs)) ∧ Below w.heap.size w w' := by
  rcases Bool.eq_false_or_eq_true (inB cs.length 1 120) with hin | hin
  · go_enter Try.func40, Try.ntmps40
    go_wp2_with (go_at_call 58; refine (l00In_any _ _ _ _).mono ?_; rintro e w' ⟨rfl, rfl⟩)
    go_loopw [3] (fun i wr => ∃ j : Nat, j ≤ cs.length ∧ i = .int .i64 j ∧ Hid (okUpto cs j) ∧ Below w.heap.size w wr) (fun i _ => cs.length - (intOf i).toNat)
    case atStart => exact ⟨0, by omega, rfl, Lib.hid (fun i hi => by omega), Below.refl _ _⟩
    case round =>
      obtain ⟨j, hj, rfl, hno, hb⟩ := hrel
      obtain ⟨hc, hf⟩ := bcell hb
      have hz := hb.size
      by_cases hlt : j < cs.length
      · have HB := Lib.hid (vPath_bad cs j hlt)
        have hbd : badAt cs j = (!cIn 24 24 cs[j] || decide (cs[j] ∈ cs.take j) || (decide (0 < j) && decide (sideTo (cs.getD (j - 1) default) cs[j] < 0))) := by unfold badAt; rw [getD_at cs j hlt]
        have HD := Lib.hid hbd; clear hbd
        obtain ⟨b, off, rfl, hbl, hat⟩ := ces_get h hlt
        have hq : b < w.heap.size := by omega
        have hq2 : b < wr.heap.size := by omega
        unfold CeAt at hat
        have HI := Lib.hid (fun (u : Ext wr) => l01In_any cs[j] (hok j hlt) 24 24 u.w (by omega) (by omega) (by omega) (by omega))
        have HH := fun (u : Ext wr) => l05Has_any (some ⟨b, off, none⟩) cap (cs.take j) cs[j] u.w (sl_take ((h.below hb hB).below u.b (Nat.le_trans hB hz)) j) (Nat.le_trans (Nat.le_trans hB hz) u.b.size) (by rw [List.length_take]; omega)
        rw [show (cs.take j).length = j by rw [List.length_take]; omega] at HH
        have HH := Lib.hid HH
        rcases Bool.eq_false_or_eq_true (cIn 24 24 cs[j]) with g1 | g1
        · rcases dec_cases (cs[j] ∈ cs.take j) with ⟨g2, -⟩ | ⟨g2, -⟩
          · have H1 := HI.out
            rw [g1] at H1
            have H1 := Lib.hid H1
            have H2 := HH.out
            rw [g2] at H2
            have H2 := Lib.hid H2
            have HV := Lib.hid (HB.out (by rw [HD.out, g1, g2]; rfl))
            go_wp2
            (refine wp_region_ext (by kernel_rfl) (by kernel_rfl) ?_; have hX := @ext_cell; (repeat (go_big_quiet_step (first | (go_at_call 31; exact ext_call (H1.out _)) | (go_at_call 68; exact ext_call (H2.out _))))); refine wpQuiet_nil ?_; clear hX; intro _ hw'; obtain ⟨⟨wx, hbx⟩, rfl⟩ := hw'; obtain ⟨hcx, hfx⟩ := bcell hbx)
            go_wp2
            go_ret
            exact ⟨by rw [HV.out]; rfl, (by repeat (first | with_reducible exact Below.refl _ _ | with_reducible assumption | with_reducible apply bl_drewN | with_reducible apply bl_drew | with_reducible apply bl_alloc | (with_reducible refine bl_set ?_ (by first | (simp; done) | (simp; omega)) _) | with_reducible refine bl_trans ?_ (by with_reducible assumption)))⟩
          · have H1 := HI.out
            rw [g1] at H1
            have H1 := Lib.hid H1
            have H2 := HH.out
            rw [g2] at H2
            have H2 := Lib.hid H2
            rcases Nat.eq_zero_or_pos j with rfl | hpos
            · have HG := Lib.hid (show okUpto cs 1 from fun i hi => by
                have : i = 0 := by omega
                subst this
                rw [HD.out, g1, g2]; rfl)
              simp only [Nat.zero_mul, Nat.add_zero] at hat
              go_wp2
              (refine wp_region_ext (by kernel_rfl) (by kernel_rfl) ?_; have hX := @ext_cell; (repeat (go_big_quiet_step (first | (go_at_call 31; exact ext_call (H1.out _)) | (go_at_call 68; exact ext_call (H2.out _))))); refine wpQuiet_nil ?_; clear hX; intro _ hw'; obtain ⟨⟨wx, hbx⟩, rfl⟩ := hw'; obtain ⟨hcx, hfx⟩ := bcell hbx)
              go_wp2
              go_roundw
              case rel => exact ⟨1, by omega, by go_num, HG, (by repeat (first | with_reducible exact Below.refl _ _ | with_reducible assumption | with_reducible apply bl_drewN | with_reducible apply bl_drew | with_reducible apply bl_alloc | (with_reducible refine bl_set ?_ (by first | (simp; done) | (simp; omega)) _) | with_reducible refine bl_trans ?_ (by with_reducible assumption)))⟩
              case measure => simp [intOf]; omega
            · have hlt1 : j - 1 < cs.length := by omega
              have hD := HD.out
              rw [getD_at cs (j - 1) hlt1, g1, g2, decide_eq_true hpos] at hD
              have HD2 := Lib.hid hD; clear hD
              have hat1 : CeAt w b (off + (j - 1) * 2) cs[j - 1] := by
                obtain ⟨b', off', e, -, h'⟩ := ces_get h hlt1
                cases e; exact h'
              unfold CeAt at hat1
              have HS := fun (u : Ext wr) => l05Side_any cs[j - 1] cs[j] u.w
              rcases dec_cases (sideTo cs[j - 1] cs[j] < 0) with ⟨g3, g3'⟩ | ⟨g3, g3'⟩
              · rw [g3] at HD2
                have HV := Lib.hid (HB.out HD2.out)
                have H3 : ∀ (u : Ext wr), Calls Try.prog 69 #[cs[j - 1].val, cs[j].val] u.w fun e w' => e = .returned (.int .i64 (sideTo cs[j - 1] cs[j])) ∧ Below u.w.heap.size u.w w' := HS
                have H3 := Lib.hid H3
                clear HS g3'
                go_wp2
                (refine wp_region_ext (by kernel_rfl) (by kernel_rfl) ?_; have hX := @ext_cell; (repeat (go_big_quiet_step (first | (go_at_call 31; exact ext_call (H1.out _)) | (go_at_call 68; exact ext_call (H2.out _)) | (go_at_call 69; exact ext_call (H3.out _))))); refine wpQuiet_nil ?_; clear hX; intro _ hw'; obtain ⟨⟨wx, hbx⟩, rfl⟩ := hw'; obtain ⟨hcx, hfx⟩ := bcell hbx)
                go_wp2
                go_ret
                exact ⟨by rw [HV.out]; rfl, (by repeat (first | with_reducible exact Below.refl _ _ | with_reducible assumption | with_reducible apply bl_drewN | with_reducible apply bl_drew | with_reducible apply bl_alloc | (with_reducible refine bl_set ?_ (by first | (simp; done) | (simp; omega)) _) | with_reducible refine bl_trans ?_ (by with_reducible assumption)))⟩
              · rw [g3] at HD2
                have HG := Lib.hid (show okUpto cs (j + 1) from fun i hi => by
                  by_cases e : i = j
                  · rw [e]; exact HD2.out
                  · exact hno.out i (by omega))
                have H3 := Lib.hid HS
                clear HS g3'
                go_wp2
                (refine wp_region_ext (by kernel_rfl) (by kernel_rfl) ?_; have hX := @ext_cell; (repeat (go_big_quiet_step (first | (go_at_call 31; exact ext_call (H1.out _)) | (go_at_call 68; exact ext_call (H2.out _)) | (go_at_call 69; exact ext_call (H3.out _))))); refine wpQuiet_nil ?_; clear hX; intro _ hw'; obtain ⟨⟨wx, hbx⟩, rfl⟩ := hw'; obtain ⟨hcx, hfx⟩ := bcell hbx)
                go_wp2
                go_roundw
                case rel => exact ⟨j + 1, by omega, by go_num, HG, (by repeat (first | with_reducible exact Below.refl _ _ | with_reducible assumption | with_reducible apply bl_drewN | with_reducible apply bl_drew | with_reducible apply bl_alloc | (with_reducible refine bl_set ?_ (by first | (simp; done) | (simp; omega)) _) | with_reducible refine bl_trans ?_ (by with_reducible assumption)))⟩
                case measure => simp [intOf]; omega
        · have H1 := HI.out
          rw [g1] at H1
          have H1 := Lib.hid H1
          have HV := Lib.hid (HB.out (by rw [HD.out, g1]; rfl))
          go_wp2
          (refine wp_region_ext (by kernel_rfl) (by kernel_rfl) ?_; have hX := @ext_cell; (repeat (go_big_quiet_step ((go_at_call 31; exact ext_call (H1.out _))))); refine wpQuiet_nil ?_; clear hX; intro _ hw'; obtain ⟨⟨wx, hbx⟩, rfl⟩ := hw'; obtain ⟨hcx, hfx⟩ := bcell hbx)
          go_wp2
          go_ret
          exact ⟨by rw [HV.out]; rfl, (by repeat (first | with_reducible exact Below.refl _ _ | with_reducible assumption | with_reducible apply bl_drewN | with_reducible apply bl_drew | with_reducible apply bl_alloc | (with_reducible refine bl_set ?_ (by first | (simp; done) | (simp; omega)) _) | with_reducible refine bl_trans ?_ (by with_reducible assumption)))⟩
      · go_wp2
        go_ret
        have hjl : j = cs.length := by omega
        exact ⟨by rw [vPath_good cs (hjl ▸ hno.out), hin]; rfl, hb⟩
  · have hv : vPath cs = false := by unfold vPath; rw [hin]; rfl
    have HV := Lib.hid hv; clear hv
    go_enter Try.func40, Try.ntmps40
    go_wp2_with (go_at_call 58; refine (l00In_any _ _ _ _).mono ?_; rintro e w' ⟨rfl, rfl⟩)
    go_ret
    exact ⟨by rw [HV.out]; rfl, (by repeat (first | with_reducible exact Below.refl _ _ | with_reducible assumption | with_reducible apply bl_drewN | with_reducible apply bl_drew | with_reducible apply bl_alloc | (with_reducible refine bl_set ?_ (by first | (simp; done) | (simp; omega)) _) | with_reducible refine bl_trans ?_ (by with_reducible assumption)))⟩
theorem placed_cIn (c : Ce) : (inB c.x 0 23 && inB c.y 0 23) = cIn 24 24 c := rfl
theorem isPath_any {B : Nat} (a : Option Addr) (cap : Nat) (cs : List Ce) (w : World) (h : CesAt B w a cs) (hok : CesOk cs) (hB : B ≤ w.heap.size) (hcap : cs.length ≤ cap) (hn : cs.length ≤ 10000000) :
    Calls Try.prog 43 #[.slice a cs.length cap] w fun e w' => e = .returned (.bool (vPath cs)) ∧ Below w.heap.size w w' := by
  go_enter Try.func43, Try.ntmps43
  go_wp2
  go_loopw [7] (fun i wr => ∃ j : Nat, j ≤ cs.length ∧ i = .int .i64 j ∧ Hid (okUpto cs j) ∧ Below w.heap.size w wr) (fun i _ => cs.length - (intOf i).toNat)
  case atStart => exact ⟨0, by omega, rfl, Lib.hid (fun i hi => by omega), Below.refl _ _⟩
  case round =>
    obtain ⟨j, hj, rfl, hno, hb⟩ := hrel
    obtain ⟨hc, hf⟩ := bcell hb
    have hz := hb.size
    by_cases hlt : j < cs.length
    · have HB := Lib.hid (vPath_bad cs j hlt)
      have hbd : badAt cs j = (!cIn 24 24 cs[j] || decide (cs[j] ∈ cs.take j) || (decide (0 < j) && decide (sideTo (cs.getD (j - 1) default) cs[j] < 0))) := by unfold badAt; rw [getD_at cs j hlt]
      have HD := Lib.hid hbd; clear hbd
      obtain ⟨b, off, rfl, hbl, hat⟩ := ces_get h hlt
      have hq : b < w.heap.size := by omega
      have hq2 : b < wr.heap.size := by omega
      have hq3 : b < wr.heap.size + 1 := by omega
      have hne : b ≠ wr.heap.size := by omega
      unfold CeAt at hat
      have HI := Lib.hid (fun (u : Ext (wr.alloc (.cells #[.int .i8 cs[j].x, .int .i8 cs[j].y] 35))) => placed_any cs[j] (hok j hlt) u.w)
      have hcs : ∀ u : Ext (wr.alloc (.cells #[.int .i8 cs[j].x, .int .i8 cs[j].y] 35)), CesAt B u.w (some ⟨b, off, none⟩) (cs.take j) := fun u => sl_take (((h.below hb hB).below (bl_alloc (Below.refl _ _)) (Nat.le_trans hB hz)).below u.b (by simp; omega)) j
      have HH := fun (u : Ext (wr.alloc (.cells #[.int .i8 cs[j].x, .int .i8 cs[j].y] 35))) => containsCe_any (some ⟨b, off, none⟩) cap (cs.take j) cs[j] u.w (hcs u) (by have := u.b.size; simp at this; omega) (by rw [List.length_take]; omega)
      rw [show (cs.take j).length = j by rw [List.length_take]; omega] at HH
      have HH := Lib.hid HH
      clear hcs
      simp only [placed_cIn] at HI
      rcases Bool.eq_false_or_eq_true (cIn 24 24 cs[j]) with g1 | g1
      · rcases dec_cases (cs[j] ∈ cs.take j) with ⟨g2, -⟩ | ⟨g2, -⟩
        · have H1 := HI.out
          rw [g1] at H1
          have H1 := Lib.hid H1
          have H2 := HH.out
          rw [g2] at H2
          have H2 := Lib.hid H2
          have HV := Lib.hid (HB.out (by rw [HD.out, g1, g2]; rfl))
          go_wp2
          (refine wp_region_ext (by kernel_rfl) (by kernel_rfl) ?_; have hX := @ext_cell; (repeat (go_big_quiet_step (first | (go_at_call 71; exact ext_call (H1.out _)) | (go_at_call 57; exact ext_call (H2.out _))))); refine wpQuiet_nil ?_; clear hX; intro _ hw'; obtain ⟨⟨wx, hbx⟩, rfl⟩ := hw'; obtain ⟨hcx, hfx⟩ := bcell hbx)
          go_wp2
          go_ret
          exact ⟨by rw [HV.out]; rfl, (by repeat (first | with_reducible exact Below.refl _ _ | with_reducible assumption | with_reducible apply bl_drewN | with_reducible apply bl_drew | with_reducible apply bl_alloc | (with_reducible refine bl_set ?_ (by first | (simp; done) | (simp; omega)) _) | with_reducible refine bl_trans ?_ (by with_reducible assumption)))⟩
        · have H1 := HI.out
          rw [g1] at H1
          have H1 := Lib.hid H1
          have H2 := HH.out
          rw [g2] at H2
          have H2 := Lib.hid H2
          rcases Nat.eq_zero_or_pos j with rfl | hpos
          · have HG := Lib.hid (show okUpto cs 1 from fun i hi => by
              have : i = 0 := by omega
              subst this
              rw [HD.out, g1, g2]; rfl)
            simp only [Nat.zero_mul, Nat.add_zero] at hat
            go_wp2
            (refine wp_region_ext (by kernel_rfl) (by kernel_rfl) ?_; have hX := @ext_cell; (repeat (go_big_quiet_step (first | (go_at_call 71; exact ext_call (H1.out _)) | (go_at_call 57; exact ext_call (H2.out _))))); refine wpQuiet_nil ?_; clear hX; intro _ hw'; obtain ⟨⟨wx, hbx⟩, rfl⟩ := hw'; obtain ⟨hcx, hfx⟩ := bcell hbx)
            go_wp2
            go_roundw
            case rel => exact ⟨1, by omega, by go_num, HG, (by repeat (first | with_reducible exact Below.refl _ _ | with_reducible assumption | with_reducible apply bl_drewN | with_reducible apply bl_drew | with_reducible apply bl_alloc | (with_reducible refine bl_set ?_ (by first | (simp; done) | (simp; omega)) _) | with_reducible refine bl_trans ?_ (by with_reducible assumption)))⟩
            case measure => simp [intOf]; omega
          · have hlt1 : j - 1 < cs.length := by omega
            have hD := HD.out
            rw [getD_at cs (j - 1) hlt1, g1, g2, decide_eq_true hpos] at hD
            have hat1 : CeAt w b (off + (j - 1) * 2) cs[j - 1] := by
              obtain ⟨b', off', e, -, h'⟩ := ces_get h hlt1
              cases e; exact h'
            unfold CeAt at hat1
            have hsym := sideTo_sym cs[j] cs[j - 1] (hok j hlt) (hok (j - 1) hlt1)
            rw [show decide (sideTo cs[j - 1] cs[j] < 0) = decide (sideTo cs[j] cs[j - 1] < 0) from decide_eq_decide.2 hsym.symm] at hD
            have HD2 := Lib.hid hD; clear hD hsym
            have H3 := Lib.hid (fun (u : Ext (wr.alloc (.cells #[.int .i8 cs[j].x, .int .i8 cs[j].y] 35))) => toward_any cs[j] cs[j - 1] (hok j hlt) u.w)
            rcases dec_cases (sideTo cs[j] cs[j - 1] < 0) with ⟨g3, g3'⟩ | ⟨g3, g3'⟩
            · have HD3 := HD2.out
              rw [g3] at HD3
              have HV := Lib.hid (HB.out HD3)
              clear g3' HD3
              go_wp2
              (refine wp_region_ext (by kernel_rfl) (by kernel_rfl) ?_; have hX := @ext_cell; (repeat (go_big_quiet_step (first | (go_at_call 71; exact ext_call (H1.out _)) | (go_at_call 57; exact ext_call (H2.out _)) | (go_at_call 45; exact ext_call (H3.out _))))); refine wpQuiet_nil ?_; clear hX; intro _ hw'; obtain ⟨⟨wx, hbx⟩, rfl⟩ := hw'; obtain ⟨hcx, hfx⟩ := bcell hbx)
              go_wp2
              go_ret
              exact ⟨by rw [HV.out]; rfl, (by repeat (first | with_reducible exact Below.refl _ _ | with_reducible assumption | with_reducible apply bl_drewN | with_reducible apply bl_drew | with_reducible apply bl_alloc | (with_reducible refine bl_set ?_ (by first | (simp; done) | (simp; omega)) _) | with_reducible refine bl_trans ?_ (by with_reducible assumption)))⟩
            · have HD3 := HD2.out
              rw [g3] at HD3
              have HG := Lib.hid (show okUpto cs (j + 1) from fun i hi => by
                by_cases e : i = j
                · rw [e]; exact HD3
                · exact hno.out i (by omega))
              clear g3' HD3
              go_wp2
              (refine wp_region_ext (by kernel_rfl) (by kernel_rfl) ?_; have hX := @ext_cell; (repeat (go_big_quiet_step (first | (go_at_call 71; exact ext_call (H1.out _)) | (go_at_call 57; exact ext_call (H2.out _)) | (go_at_call 45; exact ext_call (H3.out _))))); refine wpQuiet_nil ?_; clear hX; intro _ hw'; obtain ⟨⟨wx, hbx⟩, rfl⟩ := hw'; obtain ⟨hcx, hfx⟩ := bcell hbx)
              go_wp2
              go_roundw
              case rel => exact ⟨j + 1, by omega, by go_num, HG, (by repeat (first | with_reducible exact Below.refl _ _ | with_reducible assumption | with_reducible apply bl_drewN | with_reducible apply bl_drew | with_reducible apply bl_alloc | (with_reducible refine bl_set ?_ (by first | (simp; done) | (simp; omega)) _) | with_reducible refine bl_trans ?_ (by with_reducible assumption)))⟩
              case measure => simp [intOf]; omega
      · have H1 := HI.out
        rw [g1] at H1
        have H1 := Lib.hid H1
        have HV := Lib.hid (HB.out (by rw [HD.out, g1]; rfl))
        go_wp2
        (refine wp_region_ext (by kernel_rfl) (by kernel_rfl) ?_; have hX := @ext_cell; (repeat (go_big_quiet_step ((go_at_call 71; exact ext_call (H1.out _))))); refine wpQuiet_nil ?_; clear hX; intro _ hw'; obtain ⟨⟨wx, hbx⟩, rfl⟩ := hw'; obtain ⟨hcx, hfx⟩ := bcell hbx)
        go_wp2
        go_ret
        exact ⟨by rw [HV.out]; rfl, (by repeat (first | with_reducible exact Below.refl _ _ | with_reducible assumption | with_reducible apply bl_drewN | with_reducible apply bl_drew | with_reducible apply bl_alloc | (with_reducible refine bl_set ?_ (by first | (simp; done) | (simp; omega)) _) | with_reducible refine bl_trans ?_ (by with_reducible assumption)))⟩
    · have hjl : j = cs.length := by omega
      have HV := Lib.hid (vPath_good cs (hjl ▸ hno.out))
      go_wp2_with (go_at_call 64; refine (in_any _ _ _ _).mono ?_; rintro e w' ⟨rfl, rfl⟩)
      go_ret
      exact ⟨by rw [HV.out]; rfl, hb⟩
end Go.Proofs.Ytoldmgpdcenmhaa
