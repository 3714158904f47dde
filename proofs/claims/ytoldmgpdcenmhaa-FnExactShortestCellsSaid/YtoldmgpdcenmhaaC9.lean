/- Contracts: the reference's valid boards and ways. -/
import Derived.Test.YtoldmgpdcenmhaaC8
import Derived.Carry
namespace Go.Proofs.Ytoldmgpdcenmhaa
open Go.RowKit
set_option maxRecDepth 100000 in
theorem l01Ok_any (b0 : Nat) (l : Bd) (w : World) (h : BP w b0 l) (hok : l.ok) (hn : l.ps.length ≤ 10000000) :
    Calls Try.prog 30 #[.pointer (some ⟨b0, 0, none⟩)] w fun e w' => e = .returned (.bool (vBd l)) ∧ Below w.heap.size w w' := by
  have h0 := h
  obtain ⟨hbl, s, hbd, a, cap, rfl, hps⟩ := h
  obtain ⟨wd, hg, ps⟩ := l
  obtain ⟨⟨d1, d2⟩, ⟨d3, d4⟩, hok3⟩ := hok
  have w1 := wrap_i8 d1 d2
  have w2 := wrap_i8 d3 d4
  have hbd0 := hbd
  unfold BdAt at hbd
  simp only at hbd hps hn d1 d2 d3 d4 hok3 w1 w2 ⊢
  by_cases hhd : inB wd 1 24 = true ∧ inB hg 1 24 = true ∧ ps.length ≤ 200
  · obtain ⟨h1, h2, h3⟩ := hhd
    go_enter Try.func30, Try.ntmps30
    go_wp2_with (go_at_call 58; refine (l00In_any _ _ _ _).mono ?_; rintro e w' ⟨rfl, rfl⟩)
    go_loopw [3] (fun i wr => ∃ k : Nat, k ≤ ps.length ∧ i = .int .i64 k ∧ okTo ⟨wd, hg, ps⟩ k ∧ Below w.heap.size w wr) (fun i _ => ps.length - (intOf i).toNat)
    case atStart => exact ⟨0, by omega, rfl, okTo_zero _, Below.refl _ _⟩
    case round =>
      obtain ⟨k, hk, rfl, hto, hb⟩ := hrel
      obtain ⟨hc, hf⟩ := bcell hb
      have hwz := hb.size
      have q0 : b0 < wr.heap.size := by omega
      by_cases hlt : k < ps.length
      · obtain ⟨b, off, rfl, hbl', hat⟩ := pcs_get hps hlt
        have hq : b < wr.heap.size := by omega
        have HP := Lib.hid (h0.step hb)
        have C1 := fun (u : Ext wr) => l01Piece_any ps[k] (hok3 k hlt) u.w b (off + k * 5) ((hat.step hb hbl').step u.b hq)
        have C2 := fun (u : Ext wr) => l01In_any ⟨ps[k].x, ps[k].y⟩ (hok3 k hlt).1 wd hg u.w (by omega) (by omega) (by omega) (by omega)
        unfold PcAt at hat
        rcases Bool.eq_false_or_eq_true (vPc ps[k]) with hv | hv
        · rcases Bool.eq_false_or_eq_true (cIn wd hg ⟨ps[k].x, ps[k].y⟩) with hcn | hcn
          · rw [hv] at C1
            rw [hcn] at C2
            have H1 := Lib.hid C1; have H2 := Lib.hid C2; clear C1 C2
            have hfa := fnd_at ps k hlt
            have hpa : ps[k].at_ = ⟨ps[k].x, ps[k].y⟩ := rfl
            rw [hpa] at hfa
            by_cases hin : (⟨ps[k].x, ps[k].y⟩ : Ce) ∈ (ps.take k).map Pc.at_
            · have HT := Lib.hid (vBd_twice ⟨wd, hg, ps⟩ k hlt hin)
              simp only [hin, decide_true] at hfa
              clear hin hpa
              go_wp2
              (refine wp_region_ext (by kernel_rfl) (by kernel_rfl) ?_; have hX := @ext_cell; (repeat (go_big_quiet_step (first | (go_at_call 59; exact ext_call (H1.out _)) | (go_at_call 31; exact ext_call (H2.out _)) | (go_at_call 32; exact ext_call (l01Find_any b0 ⟨wd, hg, ps⟩ ⟨ps[k].x, ps[k].y⟩ _ (HP.out.step (Ext.b _)) hn))))); refine wpQuiet_nil ?_; clear hX; intro _ hw'; obtain ⟨⟨wx, hbx⟩, rfl⟩ := hw'; obtain ⟨hcx, hfx⟩ := bcell hbx)
              go_wp2
              go_ret
              exact ⟨by rw [HT.out]; rfl, (by repeat (first | with_reducible exact Below.refl _ _ | with_reducible assumption | with_reducible apply bl_drewN | with_reducible apply bl_drew | with_reducible apply bl_alloc | (with_reducible refine bl_set ?_ (by first | (simp; done) | (simp; omega)) _) | with_reducible refine bl_trans ?_ (by with_reducible assumption)))⟩
            · have HT := Lib.hid (okTo_succ ⟨wd, hg, ps⟩ k hlt hto hv hcn hin)
              simp only [hin, decide_false] at hfa
              clear hin hpa
              go_wp2
              (refine wp_region_ext (by kernel_rfl) (by kernel_rfl) ?_; have hX := @ext_cell; (repeat (go_big_quiet_step (first | (go_at_call 59; exact ext_call (H1.out _)) | (go_at_call 31; exact ext_call (H2.out _)) | (go_at_call 32; exact ext_call (l01Find_any b0 ⟨wd, hg, ps⟩ ⟨ps[k].x, ps[k].y⟩ _ (HP.out.step (Ext.b _)) hn))))); refine wpQuiet_nil ?_; clear hX; intro _ hw'; obtain ⟨⟨wx, hbx⟩, rfl⟩ := hw'; obtain ⟨hcx, hfx⟩ := bcell hbx)
              go_wp2
              go_roundw
              case rel => exact ⟨k + 1, by omega, by go_num, HT.out, (by repeat (first | with_reducible exact Below.refl _ _ | with_reducible assumption | with_reducible apply bl_drewN | with_reducible apply bl_drew | with_reducible apply bl_alloc | (with_reducible refine bl_set ?_ (by first | (simp; done) | (simp; omega)) _) | with_reducible refine bl_trans ?_ (by with_reducible assumption)))⟩
              case measure => simp [intOf]; omega
          · rw [hv] at C1
            rw [hcn] at C2
            have H1 := Lib.hid C1; have H2 := Lib.hid C2; clear C1 C2
            have HT := Lib.hid (vBd_piece ⟨wd, hg, ps⟩ k hlt (by simp only [Bool.and_eq_false_iff]; exact .inr hcn))
            go_wp2
            (refine wp_region_ext (by kernel_rfl) (by kernel_rfl) ?_; have hX := @ext_cell; (repeat (go_big_quiet_step (first | (go_at_call 59; exact ext_call (H1.out _)) | (go_at_call 31; exact ext_call (H2.out _)) | (go_at_call 32; exact ext_call (l01Find_any b0 ⟨wd, hg, ps⟩ ⟨ps[k].x, ps[k].y⟩ _ (HP.out.step (Ext.b _)) hn))))); refine wpQuiet_nil ?_; clear hX; intro _ hw'; obtain ⟨⟨wx, hbx⟩, rfl⟩ := hw'; obtain ⟨hcx, hfx⟩ := bcell hbx)
            go_wp2
            go_ret
            exact ⟨by rw [HT.out]; rfl, (by repeat (first | with_reducible exact Below.refl _ _ | with_reducible assumption | with_reducible apply bl_drewN | with_reducible apply bl_drew | with_reducible apply bl_alloc | (with_reducible refine bl_set ?_ (by first | (simp; done) | (simp; omega)) _) | with_reducible refine bl_trans ?_ (by with_reducible assumption)))⟩
        · rw [hv] at C1
          have H1 := Lib.hid C1; clear C1
          have HT := Lib.hid (vBd_piece ⟨wd, hg, ps⟩ k hlt (by simp only [Bool.and_eq_false_iff]; exact .inl hv))
          go_wp2
          (refine wp_region_ext (by kernel_rfl) (by kernel_rfl) ?_; have hX := @ext_cell; (repeat (go_big_quiet_step (first | (go_at_call 59; exact ext_call (H1.out _)) | (go_at_call 31; exact ext_call (H2.out _)) | (go_at_call 32; exact ext_call (l01Find_any b0 ⟨wd, hg, ps⟩ ⟨ps[k].x, ps[k].y⟩ _ (HP.out.step (Ext.b _)) hn))))); refine wpQuiet_nil ?_; clear hX; intro _ hw'; obtain ⟨⟨wx, hbx⟩, rfl⟩ := hw'; obtain ⟨hcx, hfx⟩ := bcell hbx)
          go_wp2
          go_ret
          exact ⟨by rw [HT.out]; rfl, (by repeat (first | with_reducible exact Below.refl _ _ | with_reducible assumption | with_reducible apply bl_drewN | with_reducible apply bl_drew | with_reducible apply bl_alloc | (with_reducible refine bl_set ?_ (by first | (simp; done) | (simp; omega)) _) | with_reducible refine bl_trans ?_ (by with_reducible assumption)))⟩
      · go_wp2
        go_ret
        have hkn : k = ps.length := by omega
        rw [hkn] at hto
        exact ⟨by rw [vBd_all ⟨wd, hg, ps⟩ hto h1 h2 h3]; rfl, (by repeat (first | with_reducible exact Below.refl _ _ | with_reducible assumption | with_reducible apply bl_drewN | with_reducible apply bl_drew | with_reducible apply bl_alloc | (with_reducible refine bl_set ?_ (by first | (simp; done) | (simp; omega)) _) | with_reducible refine bl_trans ?_ (by with_reducible assumption)))⟩
  · have hv : vBd ⟨wd, hg, ps⟩ = false := vBd_head _ hhd
    have HV := Lib.hid hv; clear hv
    by_cases h1 : inB wd 1 24 = true
    · by_cases h2 : inB hg 1 24 = true
      · have h3 : 200 < ps.length := by
          by_cases h : ps.length ≤ 200
          · exact absurd ⟨h1, h2, h⟩ hhd
          · omega
        go_enter Try.func30, Try.ntmps30
        go_wp2_with (go_at_call 58; refine (l00In_any _ _ _ _).mono ?_; rintro e w' ⟨rfl, rfl⟩)
        go_ret
        exact ⟨by rw [HV.out]; rfl, (by repeat (first | with_reducible exact Below.refl _ _ | with_reducible assumption | with_reducible apply bl_drewN | with_reducible apply bl_drew | with_reducible apply bl_alloc | (with_reducible refine bl_set ?_ (by first | (simp; done) | (simp; omega)) _) | with_reducible refine bl_trans ?_ (by with_reducible assumption)))⟩
      · have h2 : inB hg 1 24 = false := by simpa using h2
        go_enter Try.func30, Try.ntmps30
        go_wp2_with (go_at_call 58; refine (l00In_any _ _ _ _).mono ?_; rintro e w' ⟨rfl, rfl⟩)
        go_ret
        exact ⟨by rw [HV.out]; rfl, (by repeat (first | with_reducible exact Below.refl _ _ | with_reducible assumption | with_reducible apply bl_drewN | with_reducible apply bl_drew | with_reducible apply bl_alloc | (with_reducible refine bl_set ?_ (by first | (simp; done) | (simp; omega)) _) | with_reducible refine bl_trans ?_ (by with_reducible assumption)))⟩
    · have h1 : inB wd 1 24 = false := by simpa using h1
      go_enter Try.func30, Try.ntmps30
      go_wp2_with (go_at_call 58; refine (l00In_any _ _ _ _).mono ?_; rintro e w' ⟨rfl, rfl⟩)
      go_ret
      exact ⟨by rw [HV.out]; rfl, (by repeat (first | with_reducible exact Below.refl _ _ | with_reducible assumption | with_reducible apply bl_drewN | with_reducible apply bl_drew | with_reducible apply bl_alloc | (with_reducible refine bl_set ?_ (by first | (simp; done) | (simp; omega)) _) | with_reducible refine bl_trans ?_ (by with_reducible assumption)))⟩
end Go.Proofs.Ytoldmgpdcenmhaa
