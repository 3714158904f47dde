import Derived.Test.YtdhjhnbmecbaaaaGreatK6
import Derived.OwnWalk
/- Contracts: TicksIn, MachineTables (both). -/
namespace Go.Proofs.YtdhjhnbmecbaaaaGreat
open Go.RowKit
set_option linter.unusedVariables false
set_option linter.unusedSimpArgs false
set_option maxHeartbeats 400000
set_option maxRecDepth 100000
theorem specMachineTables_any (m : Mc) (v : Value) (w : World) (h : MV w v m) (hok : m.ok) (hn : m.bd.ps.length ≤ 10000000) (hn1 : m.ins.length ≤ 10000000) (hn2 : m.outs.length ≤ 10000000) :
    Calls Tryz.prog 28 #[v] w fun e w' => ∃ v, e = .returned (.tuple #[v, .int .i64 (mCode m)]) ∧ w'.ownsRow w.heap.size 108 1 v (mtList m).length (flat U64_cells (mtList m)) ∧ Below w.heap.size w w' := by
  obtain ⟨s, si, so, rfl, h0, h1, h2⟩ := h
  have HM := Lib.hid (MP.new (m := m) (w := w) h0 h1 h2 40)
  have HBA := Lib.hid (show Below w.heap.size w (w.alloc (.cells #[.int .i8 m.bd.wd, .int .i8 m.bd.hg, s, si, so] 40)) from bl_alloc (Below.refl _ _))
  have HOK := Lib.hid (l03Ok_any w.heap.size m _ HM.out hok hn hn1 hn2)
  rcases Bool.eq_false_or_eq_true (vMc m) with g1 | g1
  · have HC : Hid (mCode m = 0) := Lib.hid (by unfold mCode; rw [if_pos g1])
    have HL : Hid (mtList m = mTabI m) := Lib.hid (by unfold mtList; rw [if_pos g1])
    have HLN : Hid ((mTabI m).length = m.outs.length) := Lib.hid (mTabI_len m)
    rw [HC.out, HL.out, HLN.out]
    rw [g1] at HOK
    have HTB := Lib.hid (fun w1 (hb : Below (w.alloc (.cells #[.int .i8 m.bd.wd, .int .i8 m.bd.hg, s, si, so] 40)).heap.size (w.alloc (.cells #[.int .i8 m.bd.wd, .int .i8 m.bd.hg, s, si, so] 40)) w1) => l03Tables_any w.heap.size m w1 (HM.out.step hb) g1 hok)
    clear g1 HC HL HLN
    go_enter Tryz.func28, Tryz.ntmps28
    go_wp2_with fail
    refine HOK.out.mono ?_
    rintro e w1 ⟨rfl, hb1⟩
    have HB1 := Lib.hid (bl_trans HBA.out hb1)
    have HTC := Lib.hid (HTB.out w1 hb1)
    clear hb1
    go_wp2_with fail
    refine HTC.out.mono ?_
    rintro e w2 ⟨v2, rfl, hown, hb2⟩
    have hown2 := own_mono (base := w.heap.size) hown HB1.out.size
    go_wp2
    go_ret2
    exact ⟨_, rfl, hown2, bl_trans HB1.out hb2⟩
  · have HC : Hid (mCode m = 1) := Lib.hid (by unfold mCode; rw [if_neg (by simp [g1])])
    have HL : Hid (mtList m = []) := Lib.hid (by unfold mtList; rw [if_neg (by simp [g1])])
    rw [HC.out, HL.out]
    rw [g1] at HOK
    clear g1 HC HL
    go_enter Tryz.func28, Tryz.ntmps28
    go_wp2_with fail
    refine HOK.out.mono ?_
    rintro e w1 ⟨rfl, hb1⟩
    have hb01 := bl_trans HBA.out hb1
    have hown := World.ownsRow_made (e := 108) (size := 1) w1 #[] 0 (Nat.le_refl _) (by simp [maxLen]) rfl
    have hown2 := own_mono (base := w.heap.size) hown hb01.size
    go_wp2
    go_ret2
    exact ⟨_, rfl, hown2, bl_alloc hb01⟩
theorem machineTables_any (m : Mc) (v : Value) (w : World) (h : MVc w v m) (hok : m.ok) (hn : m.bd.ps.length ≤ 10000000) (hn1 : m.ins.length ≤ 10000000) (hn2 : m.outs.length ≤ 10000000) :
    Calls Tryz.prog 29 #[v] w fun e w' => ∃ v, e = .returned (.tuple #[v, .int .i64 (mCode m)]) ∧ w'.ownsRow w.heap.size 108 1 v (mtList m).length (flat U64_cells (mtList m)) ∧ Below w.heap.size w w' := by
  have HVM := Lib.hid (fun w1 (hb : Below w.heap.size w w1) => validMachine_any m v w1 (h.step hb) hok hn hn1 hn2)
  obtain ⟨sa, scap, ia, icap, oa, ocap, rfl, hcap, hps, hins, houts⟩ := h
  have HM := Lib.hid (MP.new (m := m) (w := w) ⟨sa, scap, rfl, hps⟩ ⟨ia, icap, rfl, hins⟩ ⟨oa, ocap, rfl, houts⟩ 40)
  have HBA := Lib.hid (show Below w.heap.size w (w.alloc (.cells #[.int .i8 m.bd.wd, .int .i8 m.bd.hg, .slice sa m.bd.ps.length scap, .slice ia m.ins.length icap, .slice oa m.outs.length ocap] 40)) from bl_alloc (Below.refl _ _))
  rcases Bool.eq_false_or_eq_true (vMc m) with g1 | g1
  · have HC : Hid (mCode m = 0) := Lib.hid (by unfold mCode; rw [if_pos g1])
    have HL : Hid (mtList m = mTabI m) := Lib.hid (by unfold mtList; rw [if_pos g1])
    have HLN : Hid ((mTabI m).length = m.outs.length) := Lib.hid (mTabI_len m)
    rw [HC.out, HL.out, HLN.out]
    rw [g1] at HVM
    have HWK := Lib.hid (fun w1 (hb : Below (w.alloc (.cells #[.int .i8 m.bd.wd, .int .i8 m.bd.hg, .slice sa m.bd.ps.length scap, .slice ia m.ins.length icap, .slice oa m.outs.length ocap] 40)).heap.size (w.alloc (.cells #[.int .i8 m.bd.wd, .int .i8 m.bd.hg, .slice sa m.bd.ps.length scap, .slice ia m.ins.length icap, .slice oa m.outs.length ocap] 40)) w1) => worksOf_any w.heap.size m w1 (HM.out.step hb) g1 hok)
    have HTB := Lib.hid (fun w1 g (hw : WkAt w1 g w.heap.size m) => wtables_any g w.heap.size m w1 hw g1 hok)
    clear g1 HC HL HLN
    go_enter Tryz.func29, Tryz.ntmps29
    go_wp2_with fail
    refine (HVM.out _ HBA.out).mono ?_
    rintro e w1 ⟨rfl, hb1⟩
    have HB1 := Lib.hid (bl_trans HBA.out hb1)
    have HWC := Lib.hid (HWK.out w1 hb1)
    clear hb1
    go_wp2_with fail
    refine HWC.out.mono ?_
    rintro e w2 ⟨g, rfl, hg, hwk, hb2⟩
    have HB2 := Lib.hid (bl_trans HB1.out hb2)
    have HTC := Lib.hid (HTB.out w2 g hwk)
    clear hwk hb2
    go_wp2_with fail
    refine HTC.out.mono ?_
    rintro e w3 ⟨v2, rfl, hown, hb3⟩
    have hown2 := own_mono (base := w.heap.size) hown HB2.out.size
    go_wp2
    go_ret2
    exact ⟨_, rfl, hown2, bl_trans HB2.out hb3⟩
  · have HC : Hid (mCode m = 1) := Lib.hid (by unfold mCode; rw [if_neg (by simp [g1])])
    have HL : Hid (mtList m = []) := Lib.hid (by unfold mtList; rw [if_neg (by simp [g1])])
    rw [HC.out, HL.out]
    rw [g1] at HVM
    clear g1 HC HL
    go_enter Tryz.func29, Tryz.ntmps29
    go_wp2_with fail
    refine (HVM.out _ HBA.out).mono ?_
    rintro e w1 ⟨rfl, hb1⟩
    have hb01 := bl_trans HBA.out hb1
    go_wp2
    go_ret2
    exact ⟨_, rfl, World.ownsRow_nil _ _ _ _, hb01⟩
theorem specTicksIn_any (m : Mc) (v : Value) (row : Int) (al : Option Addr) (capl : Nat) (late : List Int) (w : World) (h : MV w v m) (hok : m.ok) (hn : m.bd.ps.length ≤ 10000000) (hn1 : m.ins.length ≤ 10000000) (hn2 : m.outs.length ≤ 10000000) (hs : SlAt w.heap.size w al (flat N64_cells late)) (hln : late.length ≤ 10000000) :
    Calls Tryz.prog 23 #[v, .int .i64 row, .slice al late.length capl] w fun e w' => ∃ v, e = .returned (.tuple #[v, .int .i64 (mAsk m row late)]) ∧ w'.ownsRow w.heap.size 2 1 v (tiList m row late).length (flat N64_cells (tiList m row late)) ∧ Below w.heap.size w w' := by
  obtain ⟨s, si, so, rfl, h0, h1, h2⟩ := h
  have HM := Lib.hid (MP.new (m := m) (w := w) h0 h1 h2 40)
  have HBA := Lib.hid (show Below w.heap.size w (w.alloc (.cells #[.int .i8 m.bd.wd, .int .i8 m.bd.hg, s, si, so] 40)) from bl_alloc (Below.refl _ _))
  have HASK := Lib.hid (l03Asked_any (B := w.heap.size) w.heap.size m row al capl late _ HM.out hok hn hn1 hn2 (hs.below HBA.out (Nat.le_refl _)) HBA.out.size hln)
  have HA0 := Lib.hid (mAsk_0 m row late)
  have HOI : Hid (tiList m row late = if mAsk m row late = 0 then mTk m row.toNat late else []) := Lib.hid rfl
  obtain ⟨c, hc⟩ : ∃ c, c = mAsk m row late := ⟨_, rfl⟩
  rw [← hc] at HASK HA0 HOI ⊢
  clear hc
  by_cases hc0 : c = 0
  · obtain ⟨hv, hll, hlo, r, rfl, hr⟩ := HA0.out hc0
    obtain ⟨-, -, hi1, hi6, ho1, ho8, -⟩ := vMc_parts m hv
    have hR64 := mRows_le m hi6
    subst hc0
    have HV : Hid (tiList m r late = mTk m r late) := Lib.hid (by rw [HOI.out, if_pos rfl]; rfl)
    rw [HV.out]
    have HTI := Lib.hid (fun w1 (hb : Below (w.alloc (.cells #[.int .i8 m.bd.wd, .int .i8 m.bd.hg, s, si, so] 40)).heap.size (w.alloc (.cells #[.int .i8 m.bd.wd, .int .i8 m.bd.hg, s, si, so] 40)) w1) => l03Ticks_any (B := w.heap.size) w.heap.size m r al capl late w1 (HM.out.step hb) hv hok hll hlo (hs.below (bl_trans HBA.out hb) (Nat.le_refl _)) (bl_trans HBA.out hb).size (by omega))
    rw [hll] at HASK ⊢
    clear HOI HV HA0 hs hll
    go_enter Tryz.func23, Tryz.ntmps23
    go_wp2_with fail
    refine HASK.out.mono ?_
    rintro e w1 ⟨rfl, hb1⟩
    have HB1 := Lib.hid (bl_trans HBA.out hb1)
    have HTC := Lib.hid (HTI.out w1 hb1)
    clear hb1
    go_wp2_with fail
    refine HTC.out.mono ?_
    rintro e w2 ⟨v2, rfl, hown, hb2⟩
    have hown2 := own_mono (base := w.heap.size) hown HB1.out.size
    go_wp2
    go_ret2
    exact ⟨_, rfl, hown2, bl_trans HB1.out hb2⟩
  · have HV : Hid (tiList m row late = []) := Lib.hid (by rw [HOI.out, if_neg hc0])
    rw [HV.out]
    have gne : (c != 0) = true := by simpa using hc0
    clear HOI HV HA0 hc0 hs
    go_enter Tryz.func23, Tryz.ntmps23
    go_wp2_with fail
    refine HASK.out.mono ?_
    rintro e w1 ⟨rfl, hb1⟩
    have hb01 := bl_trans HBA.out hb1
    have hown := World.ownsRow_made (e := 2) (size := 1) w1 #[] 0 (Nat.le_refl _) (by simp [maxLen]) rfl
    have hown2 := own_mono (base := w.heap.size) hown hb01.size
    go_wp2
    go_ret2
    exact ⟨_, rfl, hown2, bl_alloc hb01⟩
theorem ticksIn_any (m : Mc) (v : Value) (row : Int) (al : Option Addr) (capl : Nat) (late : List Int) (w : World) (h : MVc w v m) (hok : m.ok) (hn : m.bd.ps.length ≤ 10000000) (hn1 : m.ins.length ≤ 10000000) (hn2 : m.outs.length ≤ 10000000) (hs : SlAt w.heap.size w al (flat N64_cells late)) (hln : late.length ≤ 10000000) :
    Calls Tryz.prog 24 #[v, .int .i64 row, .slice al late.length capl] w fun e w' => ∃ v, e = .returned (.tuple #[v, .int .i64 (mAsk m row late)]) ∧ w'.ownsRow w.heap.size 2 1 v (tiList m row late).length (flat N64_cells (tiList m row late)) ∧ Below w.heap.size w w' := by
  have HL := Lib.hid (fun w1 (hb : Below w.heap.size w w1) => lateOk_any m v row al capl late w1 (h.step hb) hok hn hn1 hn2 ((hs.below hb (Nat.le_refl _)).mono hb.size) hln)
  obtain ⟨sa, scap, ia, icap, oa, ocap, rfl, hcap, hps, hins, houts⟩ := h
  have HM := Lib.hid (MP.new (m := m) (w := w) ⟨sa, scap, rfl, hps⟩ ⟨ia, icap, rfl, hins⟩ ⟨oa, ocap, rfl, houts⟩ 40)
  have HBA := Lib.hid (show Below w.heap.size w (w.alloc (.cells #[.int .i8 m.bd.wd, .int .i8 m.bd.hg, .slice sa m.bd.ps.length scap, .slice ia m.ins.length icap, .slice oa m.outs.length ocap] 40)) from bl_alloc (Below.refl _ _))
  have HA0 := Lib.hid (mAsk_0 m row late)
  have HOI : Hid (tiList m row late = if mAsk m row late = 0 then mTk m row.toNat late else []) := Lib.hid rfl
  obtain ⟨c, hc⟩ : ∃ c, c = mAsk m row late := ⟨_, rfl⟩
  rw [← hc] at HL HA0 HOI ⊢
  clear hc
  by_cases hc0 : c = 0
  · obtain ⟨hv, hll, hlo, r, rfl, hr⟩ := HA0.out hc0
    obtain ⟨-, -, hi1, hi6, ho1, ho8, -⟩ := vMc_parts m hv
    have hR64 := mRows_le m hi6
    subst hc0
    have HV : Hid (tiList m r late = mTk m r late) := Lib.hid (by rw [HOI.out, if_pos rfl]; rfl)
    rw [HV.out]
    have HWK := Lib.hid (fun w1 (hb : Below (w.alloc (.cells #[.int .i8 m.bd.wd, .int .i8 m.bd.hg, .slice sa m.bd.ps.length scap, .slice ia m.ins.length icap, .slice oa m.outs.length ocap] 40)).heap.size (w.alloc (.cells #[.int .i8 m.bd.wd, .int .i8 m.bd.hg, .slice sa m.bd.ps.length scap, .slice ia m.ins.length icap, .slice oa m.outs.length ocap] 40)) w1) => worksOf_any w.heap.size m w1 (HM.out.step hb) hv hok)
    have HF := Lib.hid (fun w1 g (hb : Below w.heap.size w w1) (hw : WkAt w1 g w.heap.size m) => wfalls_any g w.heap.size m r (.slice al late.length capl) late w1 hw hv hok (lateV_of ((hs.below hb (Nat.le_refl _)).mono hb.size) hll hi1 hlo) (by omega))
    have HTK : Hid (mTk m r late = m.outs.map (tkAt m.bd.ps (mFa m r late))) := Lib.hid rfl
    have HLT : Hid ((mTk m r late).length = m.outs.length) := Lib.hid (mTk_len m r late)
    have HOF := Lib.hid (fun k hk => out_fnd m hv k hk)
    have HFL := Lib.hid (mFa_len m r late)
    have HMO : Hid (∀ k (hk : k < (m.outs.map (outF m.bd.ps)).length) (h2 : k < m.outs.length), (m.outs.map (outF m.bd.ps))[k] = fnd m.outs[k] m.bd.ps) := Lib.hid (by intro k hk h2; simp [outF])
    have HML : Hid ((m.outs.map (outF m.bd.ps)).length = m.outs.length) := Lib.hid (by simp)
    obtain ⟨fs, hfs⟩ : ∃ fs, fs = mFa m r late := ⟨_, rfl⟩
    obtain ⟨ts, hts⟩ : ∃ ts, ts = mTk m r late := ⟨_, rfl⟩
    rw [← hfs] at HF HFL HTK
    rw [← hts] at HTK HLT ⊢
    clear HOI HV HA0 hs hll hfs hts
    obtain ⟨i0, hi0, hiz0, hiz1, hiz2⟩ := info_parts Tryz.infoInt64
    go_enter Tryz.func24, Tryz.ntmps24
    go_wp2_with fail
    refine (HL.out _ HBA.out).mono ?_
    rintro e w1 ⟨rfl, hb1⟩
    have HB1 := Lib.hid (bl_trans HBA.out hb1)
    have HWC := Lib.hid (HWK.out w1 hb1)
    clear hb1
    go_wp2_with fail
    refine HWC.out.mono ?_
    rintro e w2 ⟨g, rfl, hg, hwk, hb2⟩
    have HB2 := Lib.hid (bl_trans HB1.out hb2)
    have HBX := Lib.hid (show Below w2.heap.size w2 (w2.alloc (.cells #[] 2)) from bl_alloc (Below.refl _ _))
    have hown0 := World.ownsRow_made (e := 2) (size := 1) w2 #[] 0 (Nat.le_refl _) (by simp [maxLen]) rfl
    have HO0 := Lib.hid (own_mono (base := w.heap.size) hown0 HB2.out.size)
    have HFC := Lib.hid (HF.out (w2.alloc (.cells #[] 2)) g (bl_trans HB2.out HBX.out) (hwk.step HBX.out))
    have HWK2 := Lib.hid (hwk.step HBX.out)
    have hg2 := hwk.1
    clear hwk hb2 hown0 HF HWK HL
    go_wp2_with fail
    refine HFC.out.mono ?_
    rintro e w3 ⟨v3, rfl, hown, hb3⟩
    obtain ⟨av, capv, hve, hsl, -, -⟩ := own_at hown
    subst hve
    have HB3 := Lib.hid (bl_trans (bl_trans HB2.out HBX.out) hb3)
    have HO3 := Lib.hid (own_below HO0.out hb3 (Nat.le_refl _))
    obtain ⟨hgl, -, -, -, ⟨ao, capo, c3, hso⟩⟩ := HWK2.out
    have d3 : w3.cell? ⟨g, 3, none⟩ = some (.slice ao m.outs.length capo) := by rw [hb3.cell (p := ⟨_, _, none⟩) hgl]; exact c3
    have hso2 := hso.below hb3 (Nat.le_refl _)
    have hz3 := hb3.size
    simp at hz3
    simp only [World.size_alloc] at hso2
    have hz03 := HB3.out.size
    clear hown hb3 HFC hso c3 HO0 hgl HWK2
    go_wp2
    go_loopw [10, 32] (fun ox ix wr => ∃ k : Nat, k ≤ m.outs.length ∧ ix = .int .i64 k ∧ ((k = 0 ∧ ox = .slice (some ⟨w2.heap.size, 0, none⟩) 0 0) ∨ wr.ownsRow w3.heap.size 2 1 ox k (flat N64_cells ((m.outs.take k).map (tkAt m.bd.ps fs)))) ∧ Below w3.heap.size w3 wr) (fun _ ix _ => m.outs.length - (intOf ix).toNat)
    case atStart => exact ⟨0, by omega, rfl, .inl ⟨rfl, rfl⟩, Below.refl _ _⟩
    case round =>
      obtain ⟨k, hk, rfl, hown, hb⟩ := hrel
      by_cases hlt : k < m.outs.length
      · obtain ⟨f, hf, hfl⟩ := HOF.out k hlt
        have hff : f < fs.length := by rw [HFL.out]; exact hfl
        have hkm : k < (m.outs.map (outF m.bd.ps)).length := by rw [HML.out]; exact hlt
        obtain ⟨bo, offo, rfl, hbo, hato⟩ := ints_get hso2 hkm
        rw [HMO.out k hkm hlt, hf] at hato
        have hzb := hb.size
        have q0 : wr.cell? ⟨bo, offo + k, none⟩ = some (.int .i64 (f : Int)) := by rw [hb.cell (p := ⟨_, _, none⟩) (show bo < w3.heap.size by omega)]; exact hato
        obtain ⟨bf, offf, rfl, hbf, hatf⟩ := fas_get hsl hff
        have q1 : wr.cell? ⟨bf, offf + f * 3, none⟩ = some (.int .i64 fs[f].t) := by rw [hb.cell (p := ⟨_, _, none⟩) hbf]; exact hatf.1
        have HTV : Hid (tkAt m.bd.ps fs m.outs[k] = fs[f].t) := Lib.hid (by unfold tkAt; rw [hf, Int.toNat_natCast, getD_fa fs f hff])
        have HTN : Hid ((m.outs.take (k + 1)).map (tkAt m.bd.ps fs) = (m.outs.take k).map (tkAt m.bd.ps fs) ++ [fs[f].t]) := Lib.hid (by rw [List.take_succ_eq_append_getElem hlt, List.map_append, ← HTV.out]; rfl)
        obtain ⟨T, hT⟩ : ∃ T, T = fs[f].t := ⟨_, rfl⟩
        rw [← hT] at q1 HTN
        have hfI : (f : Int) < fs.length := by omega
        have hkI : (k : Int) < m.outs.length := by omega
        have hk8 : k < 8 := by omega
        have HBB := Lib.hid hb
        clear hT hato hatf hf hkm HTV hb
        rcases hown with ⟨hk0, rfl⟩ | hown
        · have HK0 := Lib.hid hk0
          clear hk0
          go_wp2_with (at_builtin; go_must (refine wpList_append_first _ rfl _ _ 30 rfl 2 i0 (.int .i64 0) 1 8 Tryz.underlying30 hi0 hiz0 hiz1 hiz2 rfl ⟨w2.heap.size, 0, none⟩ rfl ⟨wr.heap.size, 0, none⟩ 1 1 [.int .i64 T] rfl (sl_newC wr #[.int .i64 T] 2 _ rfl) rfl (by omega) (by unfold maxLen; omega) (by omega) ?_); intro v4 w4 hown3 hgrow; obtain ⟨g4, cap4, rfl, hg4⟩ := own_some hown3)
          have hb4 : Below w3.heap.size w3 w4 := (bl_alloc (o := .cells #[.int .i64 T] 2) HBB.out).grown hgrow (by simp; omega) (fun q hq => by cases hq)
          have hown4 := own_mono (base := w3.heap.size) hown3 (by simp; omega)
          have hown5 : w4.ownsRow w3.heap.size 2 1 (.slice (some ⟨g4, 0, none⟩) 1 cap4) (k + 1) (flat N64_cells ((m.outs.take (k + 1)).map (tkAt m.bd.ps fs))) := by rw [HTN.out, HK0.out, List.take_zero]; exact hown4
          go_roundw
          case rel => exact ⟨k + 1, by omega, by go_num, .inr hown5, hb4⟩
          case measure => simp [intOf]; omega
        · obtain ⟨av2, capv2, hve, -, -, -⟩ := own_at hown
          subst hve
          have HOWN := Lib.hid hown
          clear hown
          go_wp2_with (at_builtin; go_must (refine wpList_append_sl _ rfl _ _ 30 rfl w3.heap.size 2 i0 (.int .i64 0) 1 8 Tryz.underlying30 hi0 hiz0 hiz1 hiz2 rfl (by decide) _ _ _ rfl (own_below HOWN.out (bl_alloc (Below.refl _ _)) (Nat.le_refl _)) (some ⟨wr.heap.size, 0, none⟩) 1 1 [.int .i64 T] rfl (sl_newC wr #[.int .i64 T] 2 _ rfl) rfl (by intro u hu; rw [List.mem_singleton] at hu; subst hu; rfl) (by unfold maxLen; omega) (by omega) (by simp; omega) ?_); intro v4 w4 hown3 hgrow; obtain ⟨g4, cap4, rfl, hg4⟩ := own_some hown3)
          have hb4 : Below w3.heap.size w3 w4 := (bl_alloc (o := .cells #[.int .i64 T] 2) HBB.out).grown hgrow (by simp; omega) (fun q hq => (HOWN.out.lt q hq).1)
          have hcells : flat N64_cells ((m.outs.take k).map (tkAt m.bd.ps fs)) ++ [.int .i64 T] = flat N64_cells ((m.outs.take (k + 1)).map (tkAt m.bd.ps fs)) := by rw [HTN.out, flat_append]; rfl
          rw [hcells] at hown3
          go_roundw
          case rel => exact ⟨k + 1, by omega, by go_num, .inr hown3, hb4⟩
          case measure => simp [intOf]; omega
      · have hkn : k = m.outs.length := by omega
        rcases hown with ⟨hk0, -⟩ | hown
        · omega
        · subst hkn
          obtain ⟨av2, capv2, hve, -, -, -⟩ := own_at hown
          subst hve
          have HRES : Hid ((m.outs.take m.outs.length).map (tkAt m.bd.ps fs) = ts) := Lib.hid (by rw [List.take_length, HTK.out])
          have HOWN2 := own_mono (base := w.heap.size) hown hz03
          clear hown
          go_wp2
          go_ret2
          exact ⟨_, rfl, by rw [HLT.out, ← HRES.out]; exact HOWN2, bl_trans HB3.out hb⟩
  · have HV : Hid (tiList m row late = []) := Lib.hid (by rw [HOI.out, if_neg hc0])
    rw [HV.out]
    have gne : (c != 0) = true := by simpa using hc0
    clear HOI HV HA0 hc0 hs
    go_enter Tryz.func24, Tryz.ntmps24
    go_wp2_with fail
    refine (HL.out _ HBA.out).mono ?_
    rintro e w1 ⟨rfl, hb1⟩
    have hb01 := bl_trans HBA.out hb1
    go_wp2
    go_ret2
    exact ⟨_, rfl, World.ownsRow_nil _ _ _ _, hb01⟩
end Go.Proofs.YtdhjhnbmecbaaaaGreat
/- The walks of the laws FnExactTicksIn, FnExactMachineTables. -/
namespace Go.Proofs.YtdhjhnbmecbaaaaGreat
open Go.RowKit
set_option linter.unusedVariables false
set_option linter.unusedSimpArgs false
set_option maxHeartbeats 400000
set_option maxRecDepth 100000
set_option maxRecDepth 100000 in
theorem lawTicksIn_any (mc : Mc) (a a1 a2 : Option Addr) (cap cap1 cap2 : Nat) (row : Int) (al : Option Addr) (capl : Nat) (late : List Int) (w : World) (h0 : PcsAt w.heap.size w a mc.bd.ps) (h1 : SlAt w.heap.size w a1 (flat Po.cells mc.ins)) (h2 : SlAt w.heap.size w a2 (flat Ce.cells mc.outs)) (hok : mc.ok)
    (l0 : mc.bd.ps.length ≤ 9223372036854775807) (l1 : mc.ins.length ≤ 9223372036854775807) (l2 : mc.outs.length ≤ 9223372036854775807) (hs : SlAt w.heap.size w al (flat N64_cells late)) (ls : late.length ≤ 9223372036854775807) :
    Calls Tryz.prog 4 #[mcv mc.bd.wd mc.bd.hg (.slice a mc.bd.ps.length cap) (.slice a1 mc.ins.length cap1) (.slice a2 mc.outs.length cap2), .int .i64 row, .slice al late.length capl] w fun e w' => e = .returned (.bool true) ∧ Below w.heap.size w w' := by
  by_cases hL : late.length ≤ 1048576
  · by_cases hn : (mc.bd.ps.length : Int) + mc.ins.length + mc.outs.length ≤ 1048576
    · obtain ⟨lf, Hs, hlf, hlf2⟩ : ∃ lf : Int, Hid (sz3 mc.bd.ps.length mc.ins.length mc.outs.length 1048576 = lf) ∧ 0 ≤ lf ∧ lf ≤ 1048576 := ⟨_, Lib.hid rfl, by unfold sz3; rw [if_pos hn]; omega, by unfold sz3; rw [if_pos hn]; omega⟩
      have M0 : MV w (mcv mc.bd.wd mc.bd.hg (.slice a mc.bd.ps.length cap) (.slice a1 mc.ins.length cap1) (.slice a2 mc.outs.length cap2)) mc := ⟨_, _, _, rfl, ⟨a, cap, rfl, h0⟩, ⟨a1, cap1, rfl, h1⟩, a2, cap2, rfl, h2⟩
      have X0 := BX5.new w (.int .i8 mc.bd.wd) (.int .i8 mc.bd.hg) (.slice a mc.bd.ps.length cap) (.slice a1 mc.ins.length cap1) (.slice a2 mc.outs.length cap2) 29
      have Q0 : RV N64_cells w (.slice al late.length capl) late := ⟨al, capl, rfl, hs⟩
      have hln : (tiList mc row late).length ≤ 1048576 := by have := tiList_len mc row late; omega
      obtain ⟨rv0, hrv0⟩ : ∃ rv, rv = tiList mc row late := ⟨_, rfl⟩
      obtain ⟨rc, hrc⟩ : ∃ rc, rc = mAsk mc row late := ⟨_, rfl⟩
      have CS := fun v al capl w' (h : MV w' v mc) (k : SlAt w'.heap.size w' al (flat N64_cells late)) => specTicksIn_any mc v row al capl late w' h hok (by omega) (by omega) (by omega) k (by omega)
      have CI := fun v al capl w' (h : MVc w' v mc) (k : SlAt w'.heap.size w' al (flat N64_cells late)) => ticksIn_any mc v row al capl late w' h hok (by omega) (by omega) (by omega) k (by omega)
      simp only [← hrv0, ← hrc] at CS CI
      rw [← hrv0] at hln
      have CS := Lib.hid CS
      have CI := Lib.hid CI
      clear hrv0 hrc h0 h1 h2 hs
      go_enter Tryz.func4, Tryz.ntmps4
      go_wp2_with fail
      refine (szMachine_any mc.bd.wd mc.bd.hg a _ cap a1 _ cap1 a2 _ cap2 _ _ (by omega) (by omega) (by omega) (by omega) (by omega)).mono ?_
      rintro e u ⟨rfl, bu⟩
      rw [Hs.out]
      have bu0 : Below w.heap.size w u := bl_trans (bl_alloc (Below.refl _ _)) bu
      have A0 := (M0.step (bl_alloc (Below.refl _ _))).step bu
      have AX := X0.step bu
      have A1 := (Q0.step (bl_alloc (Below.refl _ _))).step bu
      go_wp2_with fail
      refine (toMachine_mv A0 (by omega) (by omega) (by omega)).mono ?_
      rintro e w1 ⟨sm, im, om, rfl, Om1, b1⟩
      have AM1 := A0.step b1
      have AX1 := AX.step b1
      have AQ1 := A1.step b1
      have B1 := b1
      obtain ⟨asm, capsm, rfl, -⟩ := own_at Om1.1
      obtain ⟨aim, capim, rfl, -⟩ := own_at Om1.2.1
      obtain ⟨aom, capom, rfl, -⟩ := own_at Om1.2.2.1
      go_wp2_with fail
      refine (toInt64S_rv AQ1 (by omega)).mono ?_
      rintro e w2 ⟨vml, rfl, Oml2, b2⟩
      have AM2 := AM1.step b2
      have AX2 := AX1.step b2
      have AQ2 := AQ1.step b2
      have Pmlm := ownM_apart Om1 Oml2 (by first | exact Nat.le_refl _ | simp)
      have Om2 := Om1.below b2
      have B2 := bl_trans B1 b2
      obtain ⟨aml, capml, rfl, -⟩ := own_at Oml2
      go_wp2_with fail
      refine (CS.out _ _ _ _ Om2.mv (own_sl Oml2)).mono ?_
      rintro e w3 ⟨vw, rfl, Ow3, b3⟩
      have AM3 := AM2.step b3
      have AX3 := AX2.step b3
      have AQ3 := AQ2.step b3
      have Nmlw := own_apart Oml2 Ow3 (by first | exact Nat.le_refl _ | simp)
      have Nwml := own_apart' Oml2 Ow3 (by first | exact Nat.le_refl _ | simp)
      have Pwm := ownM_apart Om2 Ow3 (by first | exact Nat.le_refl _ | simp)
      have Oml3 := own_below Oml2 b3 (Nat.le_refl _)
      have Om3 := Om2.below b3
      have B3 := bl_trans B2 b3
      obtain ⟨aw, capw, rfl, -⟩ := own_at Ow3
      go_wp2_with fail
      refine (toMachine_mv AM3 (by omega) (by omega) (by omega)).mono ?_
      rintro e w4 ⟨sx, ix, ox, rfl, Ox4, b4⟩
      have AM4 := AM3.step b4
      have AX4 := AX3.step b4
      have AQ4 := AQ3.step b4
      have Pwx := ownM_apart' Ow3 Ox4 (by first | exact Nat.le_refl _ | simp)
      have Ow4 := own_below Ow3 b4 (Nat.le_refl _)
      have B4 := bl_trans B3 b4
      obtain ⟨asx, capsx, rfl, -⟩ := own_at Ox4.1
      obtain ⟨aix, capix, rfl, -⟩ := own_at Ox4.2.1
      obtain ⟨aox, capox, rfl, -⟩ := own_at Ox4.2.2.1
      go_wp2_with fail
      refine (toInt64S_rv (AQ4.step (bl_alloc (Below.refl _ _))) (by omega)).mono ?_
      rintro e w5 ⟨vy, rfl, Oy5, c5⟩
      have b5 := bl_trans (bl_alloc (o := .cells #[.int .i8 mc.bd.wd, .int .i8 mc.bd.hg, .slice asx mc.bd.ps.length capsx, .slice aix mc.ins.length capix, .slice aox mc.outs.length capox] 40) (Below.refl w4.heap.size w4)) c5
      have AY5 := (BX5.new w4 (.int .i8 mc.bd.wd) (.int .i8 mc.bd.hg) (.slice asx mc.bd.ps.length capsx) (.slice aix mc.ins.length capix) (.slice aox mc.outs.length capox) 40).step c5
      have AM5 := AM4.step b5
      have AX5 := AX4.step b5
      have AQ5 := AQ4.step b5
      have Nwy := own_apart Ow4 Oy5 (by first | exact Nat.le_refl _ | simp)
      have Nyw := own_apart' Ow4 Oy5 (by first | exact Nat.le_refl _ | simp)
      have Pyx := ownM_apart Ox4 Oy5 (by first | exact Nat.le_refl _ | simp)
      have Ow5 := own_below Ow4 b5 (Nat.le_refl _)
      have Ox5 := Ox4.below b5
      have B5 := bl_trans B4 b5
      obtain ⟨ay, capy, rfl, -⟩ := own_at Oy5
      go_wp2_with fail
      refine (CI.out _ _ _ _ Ox5.mvc (own_sl Oy5)).mono ?_
      rintro e w6 ⟨vg, rfl, Og6, b6⟩
      have AM6 := AM5.step b6
      have AX6 := AX5.step b6
      have AQ6 := AQ5.step b6
      have AY6 := AY5.step b6
      have Nwg := own_apart Ow5 Og6 (by first | exact Nat.le_refl _ | simp)
      have Ngw := own_apart' Ow5 Og6 (by first | exact Nat.le_refl _ | simp)
      have Nyg := own_apart Oy5 Og6 (by first | exact Nat.le_refl _ | simp)
      have Ngy := own_apart' Oy5 Og6 (by first | exact Nat.le_refl _ | simp)
      have Pgx := ownM_apart Ox5 Og6 (by first | exact Nat.le_refl _ | simp)
      have Ow6 := own_below Ow5 b6 (Nat.le_refl _)
      have Oy6 := own_below Oy5 b6 (Nat.le_refl _)
      have Ox6 := Ox5.below b6
      have B6 := bl_trans B5 b6
      obtain ⟨ag, capg, rfl, -⟩ := own_at Og6
      go_wp2_with fail
      refine (eqInt64S_yes (own_rv Og6) (own_rv Ow6) (by omega)).mono ?_
      rintro e w7 ⟨rfl, b7⟩
      have AM7 := AM6.step b7
      have AX7 := AX6.step b7
      have AQ7 := AQ6.step b7
      have AY7 := AY6.step b7
      have Ow7 := own_below Ow6 b7 (Nat.le_refl _)
      have Oy7 := own_below Oy6 b7 (Nat.le_refl _)
      have Og7 := own_below Og6 b7 (Nat.le_refl _)
      have Ox7 := Ox6.below b7
      have B7 := bl_trans B6 b7
      go_upto_region 13 with fail
      have CK := Lib.hid (fun w' (h : Below w7.heap.size w7 w') => toMachine_mv (w := w') (AM7.step h) (by omega) (by omega) (by omega))
      have CL := Lib.hid (fun w' v' (h : Below w7.heap.size w7 w') (h' : MV w' v' mc) => eqMachine_yes (w := w') (Ox7.mv.step h) h' (by omega) (by omega) (by omega))
      go_region_held3 (fun w' => Below w7.heap.size w7 w' ∧ ∀ b o, b < w7.heap.size → w'.cell? ⟨b, o, none⟩ = w7.cell? ⟨b, o, none⟩) ((refine ext_s ?_; exact (by repeat (first | with_reducible exact Below.refl _ _ | with_reducible assumption | with_reducible apply bl_drewN | with_reducible apply bl_drew | with_reducible apply bl_alloc | (with_reducible refine bl_set ?_ (by first | (simp; done) | (simp; omega)) _) | with_reducible refine bl_trans ?_ (by with_reducible assumption))))) (first | (go_at_call 18; refine (CK.out _ ?_).mono ?_; (exact (by repeat (first | with_reducible exact Below.refl _ _ | with_reducible assumption | with_reducible apply bl_drewN | with_reducible apply bl_drew | with_reducible apply bl_alloc | (with_reducible refine bl_set ?_ (by first | (simp; done) | (simp; omega)) _) | with_reducible refine bl_trans ?_ (by with_reducible assumption)))); rintro e wa ⟨sa, ia, oa, rfl, Oa, ba⟩; obtain ⟨hca, hfa⟩ := bcell ba) | (go_at_call 21; refine (CL.out _ _ ?_ Oa.mv).mono ?_; (exact (by repeat (first | with_reducible exact Below.refl _ _ | with_reducible assumption | with_reducible apply bl_drewN | with_reducible apply bl_drew | with_reducible apply bl_alloc | (with_reducible refine bl_set ?_ (by first | (simp; done) | (simp; omega)) _) | with_reducible refine bl_trans ?_ (by with_reducible assumption)))); rintro e w8 ⟨rfl, be⟩))
      have b8 : Below w7.heap.size w7 w8 := (by repeat (first | with_reducible exact Below.refl _ _ | with_reducible assumption | with_reducible apply bl_drewN | with_reducible apply bl_drew | with_reducible apply bl_alloc | (with_reducible refine bl_set ?_ (by first | (simp; done) | (simp; omega)) _) | with_reducible refine bl_trans ?_ (by with_reducible assumption)))
      clear CK CL
      have AM8 := AM7.step b8
      have AX8 := AX7.step b8
      have AQ8 := AQ7.step b8
      have AY8 := AY7.step b8
      have Ow8 := own_below Ow7 b8 (Nat.le_refl _)
      have Oy8 := own_below Oy7 b8 (Nat.le_refl _)
      have Og8 := own_below Og7 b8 (Nat.le_refl _)
      have Ox8 := Ox7.below b8
      have B8 := bl_trans B7 b8
      go_wp2_with fail
      refine (toInt64S_rv AQ8 (by omega)).mono ?_
      rintro e w9 ⟨vp, rfl, Op9, b9⟩
      have AM9 := AM8.step b9
      have AX9 := AX8.step b9
      have AQ9 := AQ8.step b9
      have AY9 := AY8.step b9
      have Nwp := own_apart Ow8 Op9 (by first | exact Nat.le_refl _ | simp)
      have Npw := own_apart' Ow8 Op9 (by first | exact Nat.le_refl _ | simp)
      have Nyp := own_apart Oy8 Op9 (by first | exact Nat.le_refl _ | simp)
      have Npy := own_apart' Oy8 Op9 (by first | exact Nat.le_refl _ | simp)
      have Ngp := own_apart Og8 Op9 (by first | exact Nat.le_refl _ | simp)
      have Npg := own_apart' Og8 Op9 (by first | exact Nat.le_refl _ | simp)
      have Ppx := ownM_apart Ox8 Op9 (by first | exact Nat.le_refl _ | simp)
      have Ow9 := own_below Ow8 b9 (Nat.le_refl _)
      have Oy9 := own_below Oy8 b9 (Nat.le_refl _)
      have Og9 := own_below Og8 b9 (Nat.le_refl _)
      have Ox9 := Ox8.below b9
      have B9 := bl_trans B8 b9
      obtain ⟨ap, capp, rfl, -⟩ := own_at Op9
      go_wp2_with fail
      refine (eqInt64S_yes (own_rv Oy9) (own_rv Op9) (by omega)).mono ?_
      rintro e w10 ⟨rfl, b10⟩
      have AM10 := AM9.step b10
      have AX10 := AX9.step b10
      have AQ10 := AQ9.step b10
      have AY10 := AY9.step b10
      have Ow10 := own_below Ow9 b10 (Nat.le_refl _)
      have Oy10 := own_below Oy9 b10 (Nat.le_refl _)
      have Og10 := own_below Og9 b10 (Nat.le_refl _)
      have Op10 := own_below Op9 b10 (Nat.le_refl _)
      have Ox10 := Ox9.below b10
      have B10 := bl_trans B9 b10
      go_wp2_with fail
      refine (markMachine_any Ox10 (by omega) (by omega) (by omega)).mono ?_
      rintro e w11 ⟨rfl, x11a, x11b, ga11, gb11, gc11⟩
      have Ow11 := own_kept3 Ow10 ga11 gb11 gc11 Pwx
      have Oy11 := own_kept3 Oy10 ga11 gb11 gc11 Pyx
      have Og11 := own_kept3 Og10 ga11 gb11 gc11 Pgx
      have B11 := bl_grown3 B10 ga11 gb11 gc11 Ox10 (by have h1 := B3.size; (try simp only [World.size_alloc]); omega)
      have AM11 := A0.step B11
      have AX11 := AX.step B11
      have AQ11 := A1.step B11
      go_wp2_with fail
      refine (markInt64S_any _ _ Oy11 (by omega) (by omega) (by omega)).mono ?_
      rintro e w12 ⟨rfl, My12, g12⟩
      have Ow12 := own_kept Ow11 g12 Nwy
      have Og12 := own_kept Og11 g12 Ngy
      have B12 := bl_grown B11 g12 (fun k hk => by have h1 := B4.size; have h2 := (Oy11.lt k hk).1; (try simp only [World.size_alloc] at h2); omega)
      have AM12 := A0.step B12
      have AX12 := AX.step B12
      have AQ12 := A1.step B12
      go_wp2_with fail
      refine (eqInt64S_yes (own_rv Og12) (own_rv Ow12) (by omega)).mono ?_
      rintro e w13 ⟨rfl, b13⟩
      have AM13 := AM12.step b13
      have AX13 := AX12.step b13
      have AQ13 := AQ12.step b13
      have Ow13 := own_below Ow12 b13 (Nat.le_refl _)
      have Og13 := own_below Og12 b13 (Nat.le_refl _)
      have B13 := bl_trans B12 b13
      go_wp2_with fail
      refine (markInt64S_any 1 _ Og13 (by omega) (by omega) (by omega)).mono ?_
      rintro e w14 ⟨rfl, Mg14, g14⟩
      have Ow14 := own_kept Ow13 g14 Nwg
      have B14 := bl_grown B13 g14 (fun k hk => by have h1 := B5.size; have h2 := (Og13.lt k hk).1; (try simp only [World.size_alloc] at h2); omega)
      have AM14 := A0.step B14
      have AX14 := AX.step B14
      have AQ14 := A1.step B14
      go_wp2_with fail
      refine (heldInt64S_own 1 Mg14 (by omega) (by omega) (by omega)).mono ?_
      rintro e w' ⟨rfl, rfl⟩
      go_wp2_with fail
      refine (toMachine_mv AM14 (by omega) (by omega) (by omega)).mono ?_
      rintro e w15 ⟨sz, iz, oz, rfl, Oz15, b15⟩
      have AM15 := AM14.step b15
      have AX15 := AX14.step b15
      have AQ15 := AQ14.step b15
      have Pwz := ownM_apart' Ow14 Oz15 (by first | exact Nat.le_refl _ | simp)
      have Pgz := ownM_apart' Mg14 Oz15 (by first | exact Nat.le_refl _ | simp)
      have Ow15 := own_below Ow14 b15 (Nat.le_refl _)
      have Og15 := own_below Mg14 b15 (Nat.le_refl _)
      have B15 := bl_trans B14 b15
      obtain ⟨asz, capsz, rfl, -⟩ := own_at Oz15.1
      obtain ⟨aiz, capiz, rfl, -⟩ := own_at Oz15.2.1
      obtain ⟨aoz, capoz, rfl, -⟩ := own_at Oz15.2.2.1
      go_wp2_with fail
      refine (toInt64S_rv AQ15 (by omega)).mono ?_
      rintro e w16 ⟨vzl, rfl, Ozl16, b16⟩
      have AM16 := AM15.step b16
      have AX16 := AX15.step b16
      have AQ16 := AQ15.step b16
      have Nwzl := own_apart Ow15 Ozl16 (by first | exact Nat.le_refl _ | simp)
      have Nzlw := own_apart' Ow15 Ozl16 (by first | exact Nat.le_refl _ | simp)
      have Ngzl := own_apart Og15 Ozl16 (by first | exact Nat.le_refl _ | simp)
      have Nzlg := own_apart' Og15 Ozl16 (by first | exact Nat.le_refl _ | simp)
      have Pzlz := ownM_apart Oz15 Ozl16 (by first | exact Nat.le_refl _ | simp)
      have Ow16 := own_below Ow15 b16 (Nat.le_refl _)
      have Og16 := own_below Og15 b16 (Nat.le_refl _)
      have Oz16 := Oz15.below b16
      have B16 := bl_trans B15 b16
      obtain ⟨azl, capzl, rfl, -⟩ := own_at Ozl16
      go_wp2_with fail
      refine (CI.out _ _ _ _ Oz16.mvc (own_sl Ozl16)).mono ?_
      rintro e w17 ⟨vh, rfl, Oh17, b17⟩
      have AM17 := AM16.step b17
      have AX17 := AX16.step b17
      have AQ17 := AQ16.step b17
      have Nwh := own_apart Ow16 Oh17 (by first | exact Nat.le_refl _ | simp)
      have Nhw := own_apart' Ow16 Oh17 (by first | exact Nat.le_refl _ | simp)
      have Ngh := own_apart Og16 Oh17 (by first | exact Nat.le_refl _ | simp)
      have Nhg := own_apart' Og16 Oh17 (by first | exact Nat.le_refl _ | simp)
      have Nzlh := own_apart Ozl16 Oh17 (by first | exact Nat.le_refl _ | simp)
      have Nhzl := own_apart' Ozl16 Oh17 (by first | exact Nat.le_refl _ | simp)
      have Phz := ownM_apart Oz16 Oh17 (by first | exact Nat.le_refl _ | simp)
      have Ow17 := own_below Ow16 b17 (Nat.le_refl _)
      have Og17 := own_below Og16 b17 (Nat.le_refl _)
      have Ozl17 := own_below Ozl16 b17 (Nat.le_refl _)
      have Oz17 := Oz16.below b17
      have B17 := bl_trans B16 b17
      obtain ⟨ah, caph, rfl, -⟩ := own_at Oh17
      go_wp2_with fail
      refine (eqInt64S_yes (own_rv Oh17) (own_rv Ow17) (by omega)).mono ?_
      rintro e w18 ⟨rfl, b18⟩
      have AM18 := AM17.step b18
      have AX18 := AX17.step b18
      have AQ18 := AQ17.step b18
      have Ow18 := own_below Ow17 b18 (Nat.le_refl _)
      have Og18 := own_below Og17 b18 (Nat.le_refl _)
      have Ozl18 := own_below Ozl17 b18 (Nat.le_refl _)
      have Oh18 := own_below Oh17 b18 (Nat.le_refl _)
      have Oz18 := Oz17.below b18
      have B18 := bl_trans B17 b18
      go_wp2_with fail
      refine (heldInt64S_own 1 Og18 (by omega) (by omega) (by omega)).mono ?_
      rintro e w' ⟨rfl, rfl⟩
      go_wp2
      go_ret
      exact ⟨rfl, bl_trans bu0 B18⟩
    · have Hs : Hid (sz3 mc.bd.ps.length mc.ins.length mc.outs.length 1048576 = -1) := Lib.hid (by unfold sz3; rw [if_neg hn])
      go_enter Tryz.func4, Tryz.ntmps4
      go_wp2_with fail
      refine (szMachine_any mc.bd.wd mc.bd.hg a _ cap a1 _ cap1 a2 _ cap2 _ _ (by omega) (by omega) (by omega) (by omega) (by omega)).mono ?_
      rintro e u ⟨rfl, bu⟩
      rw [Hs.out]
      have bu0 : Below w.heap.size w u := bl_trans (bl_alloc (Below.refl _ _)) bu
      go_wp2
      go_ret
      exact ⟨rfl, bu0⟩
  · go_enter Tryz.func4, Tryz.ntmps4
    go_wp2
    go_ret
    exact ⟨rfl, bl_alloc (Below.refl _ _)⟩
set_option maxRecDepth 100000 in
theorem lawMachineTables_any (mc : Mc) (a a1 a2 : Option Addr) (cap cap1 cap2 : Nat) (w : World) (h0 : PcsAt w.heap.size w a mc.bd.ps) (h1 : SlAt w.heap.size w a1 (flat Po.cells mc.ins)) (h2 : SlAt w.heap.size w a2 (flat Ce.cells mc.outs)) (hok : mc.ok)
    (l0 : mc.bd.ps.length ≤ 9223372036854775807) (l1 : mc.ins.length ≤ 9223372036854775807) (l2 : mc.outs.length ≤ 9223372036854775807) :
    Calls Tryz.prog 5 #[mcv mc.bd.wd mc.bd.hg (.slice a mc.bd.ps.length cap) (.slice a1 mc.ins.length cap1) (.slice a2 mc.outs.length cap2)] w fun e w' => e = .returned (.bool true) ∧ Below w.heap.size w w' := by
  by_cases hL : True
  · by_cases hn : (mc.bd.ps.length : Int) + mc.ins.length + mc.outs.length ≤ 1048576
    · obtain ⟨lf, Hs, hlf, hlf2⟩ : ∃ lf : Int, Hid (sz3 mc.bd.ps.length mc.ins.length mc.outs.length 1048576 = lf) ∧ 0 ≤ lf ∧ lf ≤ 1048576 := ⟨_, Lib.hid rfl, by unfold sz3; rw [if_pos hn]; omega, by unfold sz3; rw [if_pos hn]; omega⟩
      have M0 : MV w (mcv mc.bd.wd mc.bd.hg (.slice a mc.bd.ps.length cap) (.slice a1 mc.ins.length cap1) (.slice a2 mc.outs.length cap2)) mc := ⟨_, _, _, rfl, ⟨a, cap, rfl, h0⟩, ⟨a1, cap1, rfl, h1⟩, a2, cap2, rfl, h2⟩
      have X0 := BX5.new w (.int .i8 mc.bd.wd) (.int .i8 mc.bd.hg) (.slice a mc.bd.ps.length cap) (.slice a1 mc.ins.length cap1) (.slice a2 mc.outs.length cap2) 29
      have hln : (mtList mc).length ≤ 1048576 := by have := mtList_len mc; omega
      obtain ⟨rv0, hrv0⟩ : ∃ rv, rv = mtList mc := ⟨_, rfl⟩
      obtain ⟨rc, hrc⟩ : ∃ rc, rc = mCode mc := ⟨_, rfl⟩
      have CS := fun v w' (h : MV w' v mc) => specMachineTables_any mc v w' h hok (by omega) (by omega) (by omega)
      have CI := fun v w' (h : MVc w' v mc) => machineTables_any mc v w' h hok (by omega) (by omega) (by omega)
      simp only [← hrv0, ← hrc] at CS CI
      rw [← hrv0] at hln
      have CS := Lib.hid CS
      have CI := Lib.hid CI
      clear hrv0 hrc h0 h1 h2
      go_enter Tryz.func5, Tryz.ntmps5
      go_wp2_with fail
      refine (szMachine_any mc.bd.wd mc.bd.hg a _ cap a1 _ cap1 a2 _ cap2 _ _ (by omega) (by omega) (by omega) (by omega) (by omega)).mono ?_
      rintro e u ⟨rfl, bu⟩
      rw [Hs.out]
      have bu0 : Below w.heap.size w u := bl_trans (bl_alloc (Below.refl _ _)) bu
      have A0 := (M0.step (bl_alloc (Below.refl _ _))).step bu
      have AX := X0.step bu
      go_wp2_with fail
      refine (toMachine_mv A0 (by omega) (by omega) (by omega)).mono ?_
      rintro e w1 ⟨sm, im, om, rfl, Om1, b1⟩
      have AM1 := A0.step b1
      have AX1 := AX.step b1
      have B1 := b1
      obtain ⟨asm, capsm, rfl, -⟩ := own_at Om1.1
      obtain ⟨aim, capim, rfl, -⟩ := own_at Om1.2.1
      obtain ⟨aom, capom, rfl, -⟩ := own_at Om1.2.2.1
      go_wp2_with fail
      refine (CS.out _ _ Om1.mv).mono ?_
      rintro e w2 ⟨vw, rfl, Ow2, b2⟩
      have AM2 := AM1.step b2
      have AX2 := AX1.step b2
      have Pwm := ownM_apart Om1 Ow2 (by first | exact Nat.le_refl _ | simp)
      have Om2 := Om1.below b2
      have B2 := bl_trans B1 b2
      obtain ⟨aw, capw, rfl, -⟩ := own_at Ow2
      go_wp2_with fail
      refine (toMachine_mv AM2 (by omega) (by omega) (by omega)).mono ?_
      rintro e w3 ⟨sx, ix, ox, rfl, Ox3, b3⟩
      have AM3 := AM2.step b3
      have AX3 := AX2.step b3
      have Pwx := ownM_apart' Ow2 Ox3 (by first | exact Nat.le_refl _ | simp)
      have Ow3 := own_below Ow2 b3 (Nat.le_refl _)
      have B3 := bl_trans B2 b3
      obtain ⟨asx, capsx, rfl, -⟩ := own_at Ox3.1
      obtain ⟨aix, capix, rfl, -⟩ := own_at Ox3.2.1
      obtain ⟨aox, capox, rfl, -⟩ := own_at Ox3.2.2.1
      go_wp2_with fail
      refine (CI.out _ _ (Ox3.mvc.step (bl_alloc (Below.refl _ _)))).mono ?_
      rintro e w4 ⟨vg, rfl, Og4, c4⟩
      have b4 := bl_trans (bl_alloc (o := .cells #[.int .i8 mc.bd.wd, .int .i8 mc.bd.hg, .slice asx mc.bd.ps.length capsx, .slice aix mc.ins.length capix, .slice aox mc.outs.length capox] 40) (Below.refl w3.heap.size w3)) c4
      have AY4 := (BX5.new w3 (.int .i8 mc.bd.wd) (.int .i8 mc.bd.hg) (.slice asx mc.bd.ps.length capsx) (.slice aix mc.ins.length capix) (.slice aox mc.outs.length capox) 40).step c4
      have AM4 := AM3.step b4
      have AX4 := AX3.step b4
      have Nwg := own_apart Ow3 Og4 (by first | exact Nat.le_refl _ | simp)
      have Ngw := own_apart' Ow3 Og4 (by first | exact Nat.le_refl _ | simp)
      have Pgx := ownM_apart Ox3 Og4 (by first | exact Nat.le_refl _ | simp)
      have Ow4 := own_below Ow3 b4 (Nat.le_refl _)
      have Ox4 := Ox3.below b4
      have B4 := bl_trans B3 b4
      obtain ⟨ag, capg, rfl, -⟩ := own_at Og4
      go_wp2_with fail
      refine (eqUint64S_yes (own_rv Og4) (own_rv Ow4) (by omega)).mono ?_
      rintro e w5 ⟨rfl, b5⟩
      have AM5 := AM4.step b5
      have AX5 := AX4.step b5
      have AY5 := AY4.step b5
      have Ow5 := own_below Ow4 b5 (Nat.le_refl _)
      have Og5 := own_below Og4 b5 (Nat.le_refl _)
      have Ox5 := Ox4.below b5
      have B5 := bl_trans B4 b5
      go_upto_region 10 with fail
      have CK := Lib.hid (fun w' (h : Below w5.heap.size w5 w') => toMachine_mv (w := w') (AM5.step h) (by omega) (by omega) (by omega))
      have CL := Lib.hid (fun w' v' (h : Below w5.heap.size w5 w') (h' : MV w' v' mc) => eqMachine_yes (w := w') (Ox5.mv.step h) h' (by omega) (by omega) (by omega))
      go_region_held3 (fun w' => Below w5.heap.size w5 w' ∧ ∀ b o, b < w5.heap.size → w'.cell? ⟨b, o, none⟩ = w5.cell? ⟨b, o, none⟩) ((refine ext_s ?_; exact (by repeat (first | with_reducible exact Below.refl _ _ | with_reducible assumption | with_reducible apply bl_drewN | with_reducible apply bl_drew | with_reducible apply bl_alloc | (with_reducible refine bl_set ?_ (by first | (simp; done) | (simp; omega)) _) | with_reducible refine bl_trans ?_ (by with_reducible assumption))))) (first | (go_at_call 18; refine (CK.out _ ?_).mono ?_; (exact (by repeat (first | with_reducible exact Below.refl _ _ | with_reducible assumption | with_reducible apply bl_drewN | with_reducible apply bl_drew | with_reducible apply bl_alloc | (with_reducible refine bl_set ?_ (by first | (simp; done) | (simp; omega)) _) | with_reducible refine bl_trans ?_ (by with_reducible assumption)))); rintro e wa ⟨sa, ia, oa, rfl, Oa, ba⟩; obtain ⟨hca, hfa⟩ := bcell ba) | (go_at_call 21; refine (CL.out _ _ ?_ Oa.mv).mono ?_; (exact (by repeat (first | with_reducible exact Below.refl _ _ | with_reducible assumption | with_reducible apply bl_drewN | with_reducible apply bl_drew | with_reducible apply bl_alloc | (with_reducible refine bl_set ?_ (by first | (simp; done) | (simp; omega)) _) | with_reducible refine bl_trans ?_ (by with_reducible assumption)))); rintro e w6 ⟨rfl, be⟩))
      have b6 : Below w5.heap.size w5 w6 := (by repeat (first | with_reducible exact Below.refl _ _ | with_reducible assumption | with_reducible apply bl_drewN | with_reducible apply bl_drew | with_reducible apply bl_alloc | (with_reducible refine bl_set ?_ (by first | (simp; done) | (simp; omega)) _) | with_reducible refine bl_trans ?_ (by with_reducible assumption)))
      clear CK CL
      have AM6 := AM5.step b6
      have AX6 := AX5.step b6
      have AY6 := AY5.step b6
      have Ow6 := own_below Ow5 b6 (Nat.le_refl _)
      have Og6 := own_below Og5 b6 (Nat.le_refl _)
      have Ox6 := Ox5.below b6
      have B6 := bl_trans B5 b6
      go_wp2_with fail
      refine (markMachine_any Ox6 (by omega) (by omega) (by omega)).mono ?_
      rintro e w7 ⟨rfl, x7a, x7b, ga7, gb7, gc7⟩
      have Ow7 := own_kept3 Ow6 ga7 gb7 gc7 Pwx
      have Og7 := own_kept3 Og6 ga7 gb7 gc7 Pgx
      have B7 := bl_grown3 B6 ga7 gb7 gc7 Ox6 (by have h1 := B2.size; (try simp only [World.size_alloc]); omega)
      have AM7 := A0.step B7
      have AX7 := AX.step B7
      go_wp2_with fail
      refine (eqUint64S_yes (own_rv Og7) (own_rv Ow7) (by omega)).mono ?_
      rintro e w8 ⟨rfl, b8⟩
      have AM8 := AM7.step b8
      have AX8 := AX7.step b8
      have Ow8 := own_below Ow7 b8 (Nat.le_refl _)
      have Og8 := own_below Og7 b8 (Nat.le_refl _)
      have B8 := bl_trans B7 b8
      go_wp2_with fail
      refine (markUint64S_any 1 _ Og8 (by omega) (by omega) (by omega)).mono ?_
      rintro e w9 ⟨rfl, Mg9, g9⟩
      have Ow9 := own_kept Ow8 g9 Nwg
      have B9 := bl_grown B8 g9 (fun k hk => by have h1 := B3.size; have h2 := (Og8.lt k hk).1; (try simp only [World.size_alloc] at h2); omega)
      have AM9 := A0.step B9
      have AX9 := AX.step B9
      go_wp2_with fail
      refine (heldUint64S_own 1 Mg9 (by omega) (by omega) (by omega)).mono ?_
      rintro e w' ⟨rfl, rfl⟩
      go_wp2_with fail
      refine (toMachine_mv AM9 (by omega) (by omega) (by omega)).mono ?_
      rintro e w10 ⟨sz, iz, oz, rfl, Oz10, b10⟩
      have AM10 := AM9.step b10
      have AX10 := AX9.step b10
      have Pwz := ownM_apart' Ow9 Oz10 (by first | exact Nat.le_refl _ | simp)
      have Pgz := ownM_apart' Mg9 Oz10 (by first | exact Nat.le_refl _ | simp)
      have Ow10 := own_below Ow9 b10 (Nat.le_refl _)
      have Og10 := own_below Mg9 b10 (Nat.le_refl _)
      have B10 := bl_trans B9 b10
      obtain ⟨asz, capsz, rfl, -⟩ := own_at Oz10.1
      obtain ⟨aiz, capiz, rfl, -⟩ := own_at Oz10.2.1
      obtain ⟨aoz, capoz, rfl, -⟩ := own_at Oz10.2.2.1
      go_wp2_with fail
      refine (CI.out _ _ Oz10.mvc).mono ?_
      rintro e w11 ⟨vh, rfl, Oh11, b11⟩
      have AM11 := AM10.step b11
      have AX11 := AX10.step b11
      have Nwh := own_apart Ow10 Oh11 (by first | exact Nat.le_refl _ | simp)
      have Nhw := own_apart' Ow10 Oh11 (by first | exact Nat.le_refl _ | simp)
      have Ngh := own_apart Og10 Oh11 (by first | exact Nat.le_refl _ | simp)
      have Nhg := own_apart' Og10 Oh11 (by first | exact Nat.le_refl _ | simp)
      have Phz := ownM_apart Oz10 Oh11 (by first | exact Nat.le_refl _ | simp)
      have Ow11 := own_below Ow10 b11 (Nat.le_refl _)
      have Og11 := own_below Og10 b11 (Nat.le_refl _)
      have Oz11 := Oz10.below b11
      have B11 := bl_trans B10 b11
      obtain ⟨ah, caph, rfl, -⟩ := own_at Oh11
      go_wp2_with fail
      refine (eqUint64S_yes (own_rv Oh11) (own_rv Ow11) (by omega)).mono ?_
      rintro e w12 ⟨rfl, b12⟩
      have AM12 := AM11.step b12
      have AX12 := AX11.step b12
      have Ow12 := own_below Ow11 b12 (Nat.le_refl _)
      have Og12 := own_below Og11 b12 (Nat.le_refl _)
      have Oh12 := own_below Oh11 b12 (Nat.le_refl _)
      have Oz12 := Oz11.below b12
      have B12 := bl_trans B11 b12
      go_wp2_with fail
      refine (heldUint64S_own 1 Og12 (by omega) (by omega) (by omega)).mono ?_
      rintro e w' ⟨rfl, rfl⟩
      go_wp2
      go_ret
      exact ⟨rfl, bl_trans bu0 B12⟩
    · have Hs : Hid (sz3 mc.bd.ps.length mc.ins.length mc.outs.length 1048576 = -1) := Lib.hid (by unfold sz3; rw [if_neg hn])
      go_enter Tryz.func5, Tryz.ntmps5
      go_wp2_with fail
      refine (szMachine_any mc.bd.wd mc.bd.hg a _ cap a1 _ cap1 a2 _ cap2 _ _ (by omega) (by omega) (by omega) (by omega) (by omega)).mono ?_
      rintro e u ⟨rfl, bu⟩
      rw [Hs.out]
      have bu0 : Below w.heap.size w u := bl_trans (bl_alloc (Below.refl _ _)) bu
      go_wp2
      go_ret
      exact ⟨rfl, bu0⟩
  · exact absurd trivial hL
end Go.Proofs.YtdhjhnbmecbaaaaGreat
/- Contracts: RowWith (both). -/
namespace Go.Proofs.YtdhjhnbmecbaaaaGreat
open Go.RowKit
set_option linter.unusedVariables false
set_option linter.unusedSimpArgs false
set_option maxHeartbeats 400000
set_option maxRecDepth 100000
theorem pow_8 (k : Nat) (hk : k ≤ 8) : ∃ p : Int, (2 : Int) ^ k = p ∧ 1 ≤ p ∧ p ≤ 256 ∧ p = ((2 ^ k : Nat) : Int) := by
  have h1 := pow_mono2 (a := k) (b := 8) hk
  have h2 : 1 ≤ 2 ^ k := Nat.one_le_two_pow
  refine ⟨((2 ^ k : Nat) : Int), by simp, by omega, by omega, rfl⟩
noncomputable def rwFind (f : Nat → Nat) (v : Int) (R : Nat) : Int × Int := match (List.range R).find? (fun r => decide ((f r : Int) = v)) with | some r => ((r : Int), 0) | none => (0, 6)
theorem rwFind_yes (f : Nat → Nat) (v : Int) (R k : Nat) (hk : k < R) (hno : ∀ j, j < k → (f j : Int) ≠ v) (hv : (f k : Int) = v) : rwFind f v R = ((k : Int), 0) := by
  have h : (List.range R).find? (fun r => decide ((f r : Int) = v)) = some k := by
    rw [List.find?_range_eq_some]
    refine ⟨by simpa using hv, by simpa using hk, fun j hj => by simpa using hno j hj⟩
  unfold rwFind
  rw [h]
theorem rwFind_no (f : Nat → Nat) (v : Int) (R : Nat) (hno : ∀ j, j < R → (f j : Int) ≠ v) : rwFind f v R = (0, 6) := by
  have h : (List.range R).find? (fun r => decide ((f r : Int) = v)) = none := by
    rw [List.find?_eq_none]
    intro j hj
    simpa using hno j (by simpa using hj)
  unfold rwFind
  rw [h]
noncomputable def rwVal (m : Mc) (v : Int) : Int × Int := if vMc m = true then (if inB v 0 (((2 ^ m.outs.length : Nat) : Int) - 1) = true then rwFind (fun r => mOut m r (zeros m.ins.length)) v (mRows m) else (0, 2)) else (0, 1)
theorem specRowWith_any (m : Mc) (v : Value) (x : Int) (w : World) (h : MV w v m) (hok : m.ok) (hn : m.bd.ps.length ≤ 10000000) (hn1 : m.ins.length ≤ 10000000) (hn2 : m.outs.length ≤ 10000000) :
    Calls Tryz.prog 35 #[v, .int .i64 x] w fun e w' => e = .returned (.tuple #[.int .i64 (rwVal m x).1, .int .i64 (rwVal m x).2]) ∧ Below w.heap.size w w' := by
  obtain ⟨s, si, so, rfl, h0, h1, ao, capo, rfl, h2⟩ := h
  have HM := Lib.hid (MP.new (m := m) (w := w) h0 h1 ⟨ao, capo, rfl, h2⟩ 40)
  have HBA := Lib.hid (show Below w.heap.size w (w.alloc (.cells #[.int .i8 m.bd.wd, .int .i8 m.bd.hg, s, si, .slice ao m.outs.length capo] 40)) from bl_alloc (Below.refl _ _))
  have HOK := Lib.hid (l03Ok_any w.heap.size m _ HM.out hok hn hn1 hn2)
  rcases Bool.eq_false_or_eq_true (vMc m) with g1 | g1
  · obtain ⟨-, -, hi1, hi6, ho1, ho8, -⟩ := vMc_parts m g1
    have HAL := Lib.hid (fun w1 (hb : Below (w.alloc (.cells #[.int .i8 m.bd.wd, .int .i8 m.bd.hg, s, si, .slice ao m.outs.length capo] 40)).heap.size (w.alloc (.cells #[.int .i8 m.bd.wd, .int .i8 m.bd.hg, s, si, .slice ao m.outs.length capo] 40)) w1) => l03All_any w.heap.size m w1 (HM.out.step hb) g1 hok)
    obtain ⟨p, hp, hp1, hp2, hp3⟩ := pow_8 m.outs.length ho8
    have HLI := Lib.hid (fun w => l00In_any x 0 (p - 1) w)
    have hR64 := mRows_le m hi6
    rw [g1] at HOK
    have HXB := Lib.hid (BX5.new w (.int .i8 m.bd.wd) (.int .i8 m.bd.hg) s si (.slice ao m.outs.length capo) 40)
    cases g2 : inB x 0 (p - 1) with
    | false =>
      have HV : Hid (rwVal m x = (0, 2)) := Lib.hid (by unfold rwVal; rw [if_pos g1, ← hp3, g2]; rfl)
      rw [HV.out]
      rw [g2] at HLI
      clear g1 g2 HV hp3
      go_enter Tryz.func35, Tryz.ntmps35
      go_wp2_with fail
      refine HOK.out.mono ?_
      rintro e w1 ⟨rfl, hb1⟩
      have HB1 := Lib.hid (bl_trans HBA.out hb1)
      obtain ⟨-, -, -, -, -, x4⟩ := HXB.out.step hb1
      clear hb1
      go_wp2_with (go_at_call 82; refine (HLI.out _).mono ?_; rintro e w' ⟨rfl, rfl⟩)
      go_ret2
      exact ⟨rfl, HB1.out⟩
    | true =>
      have HV : Hid (rwVal m x = rwFind (fun r => mOut m r (zeros m.ins.length)) x (mRows m)) := Lib.hid (by unfold rwVal; rw [if_pos g1, ← hp3, if_pos g2])
      rw [HV.out]
      rw [g2] at HLI
      have HALL : Hid (∀ k, k < mRows m → ∀ hk : k < (mAll m (mRows m)).length, (mAll m (mRows m))[k] = ((mOut m k (zeros m.ins.length) : Nat) : Int)) := Lib.hid (by intro k _ hk; simp [mAll])
      have HLN : Hid ((mAll m (mRows m)).length = mRows m) := Lib.hid (mAll_len m _)
      obtain ⟨R, hRR⟩ : ∃ R, R = mRows m := ⟨_, rfl⟩
      obtain ⟨f, hf⟩ : ∃ f : Nat → Nat, f = fun r => mOut m r (zeros m.ins.length) := ⟨_, rfl⟩
      have HF : Hid (∀ r, mOut m r (zeros m.ins.length) = f r) := Lib.hid (fun r => by rw [hf])
      have HALL2 : Hid (∀ k, k < mRows m → ∀ hk : k < (mAll m (mRows m)).length, (mAll m (mRows m))[k] = ((f k : Nat) : Int)) := Lib.hid (by intro k h1 hk; rw [HALL.out k h1 hk, HF.out])
      rw [← hf]
      rw [← hRR] at HAL HLN hR64 HALL2 ⊢
      have HYES := Lib.hid (fun k => rwFind_yes f x R k)
      have HNO := Lib.hid (rwFind_no f x R)
      generalize rwFind f x R = res at HYES HNO ⊢
      obtain ⟨L, hL⟩ : ∃ L, L = mAll m R := ⟨_, rfl⟩
      rw [← hL] at HAL HLN HALL2
      clear g1 g2 HV hp3 HALL hRR hf HF hL
      go_enter Tryz.func35, Tryz.ntmps35
      go_wp2_with fail
      refine HOK.out.mono ?_
      rintro e w1 ⟨rfl, hb1⟩
      have HB1 := Lib.hid (bl_trans HBA.out hb1)
      obtain ⟨-, -, -, -, -, x4⟩ := HXB.out.step hb1
      have HAC := Lib.hid (HAL.out w1 hb1)
      clear hb1
      go_wp2_with (go_at_call 82; refine (HLI.out _).mono ?_; rintro e w' ⟨rfl, rfl⟩)
      refine HAC.out.mono ?_
      rintro e w2 ⟨v2, rfl, hown, hb2⟩
      obtain ⟨a2, cap2, hve, hsl, -, -⟩ := own_at hown
      subst hve
      have HB2 := Lib.hid (bl_trans HB1.out hb2)
      clear hown hb2 HAC HAL
      go_wp2
      go_loopw [7] (fun ix wr => ∃ k : Nat, k ≤ R ∧ ix = .int .i64 k ∧ (∀ j, j < k → (f j : Int) ≠ x) ∧ Below w2.heap.size w2 wr) (fun ix _ => R - (intOf ix).toNat)
      case atStart => exact ⟨0, by omega, rfl, by intro j hj; omega, Below.refl _ _⟩
      case round =>
        obtain ⟨k, hk, rfl, hno, hb⟩ := hrel
        have HNK := Lib.hid hno
        clear hno
        by_cases hlt : k < R
        · have hkl : k < L.length := by rw [HLN.out]; exact hlt
          obtain ⟨b, off, rfl, hbl, hat⟩ := n64s_get hsl hkl
          have r0 : wr.cell? ⟨b, off + k, none⟩ = some (.int .i64 (f k : Int)) := by rw [hb.cell (p := ⟨_, _, none⟩) hbl, ← HALL2.out k hlt hkl]; have ha := hat; unfold N64At at ha; simpa using ha
          obtain ⟨F, hF⟩ : ∃ F : Int, F = (f k : Int) := ⟨_, rfl⟩
          rw [← hF] at r0
          have hkI : (k : Int) < R := by omega
          have HFF := Lib.hid hF
          clear hF hat hkl
          rcases Int.decEq F x with hne | heq
          · have gf : (F == x) = false := by simpa using hne
            clear hne
            have HN2 : Hid (∀ j, j < k + 1 → (f j : Int) ≠ x) := Lib.hid (by
              intro j hj
              rcases Nat.lt_or_ge j k with h | h
              · exact HNK.out j h
              · rw [show j = k by omega, ← HFF.out]; exact by simpa using gf)
            go_wp2
            go_roundw
            case rel => exact ⟨k + 1, by omega, by go_num, HN2.out, hb⟩
            case measure => simp [intOf]; omega
          · have gf : (F == x) = true := by simpa using heq
            have HR : Hid (res = ((k : Int), 0)) := Lib.hid (HYES.out k hlt HNK.out (by rw [← HFF.out]; exact heq))
            clear heq
            go_wp2
            go_ret2
            exact ⟨by rw [HR.out]; rfl, bl_trans HB2.out hb⟩
        · have hkn : k = R := by omega
          subst hkn
          have HR : Hid (res = (0, 6)) := Lib.hid (HNO.out HNK.out)
          go_wp2
          go_ret2
          exact ⟨by rw [HR.out]; rfl, bl_trans HB2.out hb⟩
  · have HV : Hid (rwVal m x = (0, 1)) := Lib.hid (by unfold rwVal; rw [if_neg (by simp [g1])])
    rw [HV.out]
    rw [g1] at HOK
    clear g1 HV
    go_enter Tryz.func35, Tryz.ntmps35
    go_wp2_with fail
    refine HOK.out.mono ?_
    rintro e w1 ⟨rfl, hb1⟩
    have hb01 := bl_trans HBA.out hb1
    go_wp2
    go_ret2
    exact ⟨rfl, hb01⟩
theorem rowWith_any (m : Mc) (v : Value) (x : Int) (w : World) (h : MVc w v m) (hok : m.ok) (hn : m.bd.ps.length ≤ 10000000) (hn1 : m.ins.length ≤ 10000000) (hn2 : m.outs.length ≤ 10000000) :
    Calls Tryz.prog 36 #[v, .int .i64 x] w fun e w' => e = .returned (.tuple #[.int .i64 (rwVal m x).1, .int .i64 (rwVal m x).2]) ∧ Below w.heap.size w w' := by
  have HVM := Lib.hid (fun w1 (hb : Below w.heap.size w w1) => validMachine_any m v w1 (h.step hb) hok hn hn1 hn2)
  obtain ⟨sa, scap, ia, icap, oa, ocap, rfl, hcap, hps, hins, houts⟩ := h
  have HM := Lib.hid (MP.new (m := m) (w := w) ⟨sa, scap, rfl, hps⟩ ⟨ia, icap, rfl, hins⟩ ⟨oa, ocap, rfl, houts⟩ 40)
  have HBA := Lib.hid (show Below w.heap.size w (w.alloc (.cells #[.int .i8 m.bd.wd, .int .i8 m.bd.hg, .slice sa m.bd.ps.length scap, .slice ia m.ins.length icap, .slice oa m.outs.length ocap] 40)) from bl_alloc (Below.refl _ _))
  have HXB := Lib.hid (BX5.new w (.int .i8 m.bd.wd) (.int .i8 m.bd.hg) (.slice sa m.bd.ps.length scap) (.slice ia m.ins.length icap) (.slice oa m.outs.length ocap) 40)
  rcases Bool.eq_false_or_eq_true (vMc m) with g1 | g1
  · obtain ⟨-, -, hi1, hi6, ho1, ho8, -⟩ := vMc_parts m g1
    have HWK := Lib.hid (fun w1 (hb : Below (w.alloc (.cells #[.int .i8 m.bd.wd, .int .i8 m.bd.hg, .slice sa m.bd.ps.length scap, .slice ia m.ins.length icap, .slice oa m.outs.length ocap] 40)).heap.size (w.alloc (.cells #[.int .i8 m.bd.wd, .int .i8 m.bd.hg, .slice sa m.bd.ps.length scap, .slice ia m.ins.length icap, .slice oa m.outs.length ocap] 40)) w1) => worksOf_any w.heap.size m w1 (HM.out.step hb) g1 hok)
    have HRO := Lib.hid (fun w1 g (hw : WkAt w1 g w.heap.size m) => wrows_any g w.heap.size m w1 hw hi6)
    have HOU := Lib.hid (fun w1 g (hw : WkAt w1 g w.heap.size m) (r : Nat) (hr : r < 64) => woutputs_any g w.heap.size m r (.slice none 0 0) (zeros m.ins.length) w1 hw g1 hok (LateV.nil w1 _) hr)
    obtain ⟨p, -, hp1, hp2, hp3⟩ := pow_8 m.outs.length ho8
    have HIR := Lib.hid (fun w => rows_any m.outs.length ho8 w)
    rw [← hp3] at HIR
    have HIN := Lib.hid (fun w => in_any x 0 (p - 1) w)
    have hR64 := mRows_le m hi6
    rw [g1] at HVM
    cases g2 : inB x 0 (p - 1) with
    | false =>
      have HV : Hid (rwVal m x = (0, 2)) := Lib.hid (by unfold rwVal; rw [if_pos g1, ← hp3, g2]; rfl)
      rw [HV.out]
      rw [g2] at HIN
      clear g1 g2 HV hp3
      go_enter Tryz.func36, Tryz.ntmps36
      go_wp2_with fail
      refine (HVM.out _ HBA.out).mono ?_
      rintro e w1 ⟨rfl, hb1⟩
      have HB1 := Lib.hid (bl_trans HBA.out hb1)
      obtain ⟨-, -, -, -, -, x4⟩ := HXB.out.step hb1
      clear hb1
      go_wp2_with (first | (go_at_call 85; refine (HIR.out _).mono ?_; rintro e w' ⟨rfl, rfl⟩) | (go_at_call 84; refine (HIN.out _).mono ?_; rintro e w' ⟨rfl, rfl⟩))
      go_ret2
      exact ⟨rfl, HB1.out⟩
    | true =>
      have HV : Hid (rwVal m x = rwFind (fun r => mOut m r (zeros m.ins.length)) x (mRows m)) := Lib.hid (by unfold rwVal; rw [if_pos g1, ← hp3, if_pos g2])
      rw [HV.out]
      rw [g2] at HIN
      obtain ⟨R, hRR⟩ : ∃ R, R = mRows m := ⟨_, rfl⟩
      obtain ⟨f, hf⟩ : ∃ f : Nat → Nat, f = fun r => mOut m r (zeros m.ins.length) := ⟨_, rfl⟩
      have HF : Hid (∀ r, mOut m r (zeros m.ins.length) = f r) := Lib.hid (fun r => by rw [hf])
      rw [← hf]
      rw [← hRR] at HRO hR64 ⊢
      have HYES := Lib.hid (fun k => rwFind_yes f x R k)
      have HNO := Lib.hid (rwFind_no f x R)
      generalize rwFind f x R = res at HYES HNO ⊢
      clear g1 g2 HV hp3 hRR hf
      go_enter Tryz.func36, Tryz.ntmps36
      go_wp2_with fail
      refine (HVM.out _ HBA.out).mono ?_
      rintro e w1 ⟨rfl, hb1⟩
      have HB1 := Lib.hid (bl_trans HBA.out hb1)
      obtain ⟨-, -, -, -, -, x4⟩ := HXB.out.step hb1
      have HWC := Lib.hid (HWK.out w1 hb1)
      clear hb1 HWK
      go_wp2_with (first | (go_at_call 85; refine (HIR.out _).mono ?_; rintro e w' ⟨rfl, rfl⟩) | (go_at_call 84; refine (HIN.out _).mono ?_; rintro e w' ⟨rfl, rfl⟩))
      refine HWC.out.mono ?_
      rintro e w2 ⟨g, rfl, hg, hwk, hb2⟩
      have HB2 := Lib.hid (bl_trans HB1.out hb2)
      have HW2 := Lib.hid hwk
      have HRC := Lib.hid (HRO.out w2 g hwk)
      clear hwk hb2 HWC
      go_wp2_with (go_at_call 81; refine HRC.out.mono ?_; rintro e w' ⟨rfl, rfl⟩)
      go_loopw [24] (fun ix wr => ∃ k : Nat, k ≤ R ∧ ix = .int .i64 k ∧ (∀ j, j < k → (f j : Int) ≠ x) ∧ Below w2.heap.size w2 wr) (fun ix _ => R - (intOf ix).toNat)
      case atStart => exact ⟨0, by omega, rfl, by intro j hj; omega, Below.refl _ _⟩
      case round =>
        obtain ⟨k, hk, rfl, hno, hb⟩ := hrel
        have HNK := Lib.hid hno
        clear hno
        by_cases hlt : k < R
        · have HOC := Lib.hid (HOU.out wr g (HW2.out.step hb) k (by omega))
          rw [HF.out] at HOC
          obtain ⟨F, hF⟩ : ∃ F : Int, F = ((f k : Nat) : Int) := ⟨_, rfl⟩
          rw [← hF] at HOC
          have hkI : (k : Int) < R := by omega
          have HFF := Lib.hid hF
          have HBB := Lib.hid hb
          clear hF hb
          rcases Int.decEq F x with hne | heq
          · have gf : (F == x) = false := by simpa using hne
            clear hne
            have HN2 : Hid (∀ j, j < k + 1 → (f j : Int) ≠ x) := Lib.hid (by
              intro j hj
              rcases Nat.lt_or_ge j k with h | h
              · exact HNK.out j h
              · rw [show j = k by omega, ← HFF.out]; exact by simpa using gf)
            go_wp2_with fail
            refine HOC.out.mono ?_
            rintro e w3 ⟨rfl, hb3⟩
            have HB3 := Lib.hid (bl_trans HBB.out hb3)
            clear hb3
            go_wp2
            go_roundw
            case rel => exact ⟨k + 1, by omega, by go_num, HN2.out, HB3.out⟩
            case measure => simp [intOf]; omega
          · have gf : (F == x) = true := by simpa using heq
            have HR : Hid (res = ((k : Int), 0)) := Lib.hid (HYES.out k hlt HNK.out (by rw [← HFF.out]; exact heq))
            clear heq
            go_wp2_with fail
            refine HOC.out.mono ?_
            rintro e w3 ⟨rfl, hb3⟩
            have HB3 := Lib.hid (bl_trans HBB.out hb3)
            clear hb3
            go_wp2
            go_ret2
            exact ⟨by rw [HR.out]; rfl, bl_trans HB2.out HB3.out⟩
        · have hkn : k = R := by omega
          subst hkn
          have HR : Hid (res = (0, 6)) := Lib.hid (HNO.out HNK.out)
          go_wp2
          go_ret2
          exact ⟨by rw [HR.out]; rfl, bl_trans HB2.out hb⟩
  · have HV : Hid (rwVal m x = (0, 1)) := Lib.hid (by unfold rwVal; rw [if_neg (by simp [g1])])
    rw [HV.out]
    rw [g1] at HVM
    clear g1 HV
    go_enter Tryz.func36, Tryz.ntmps36
    go_wp2_with fail
    refine (HVM.out _ HBA.out).mono ?_
    rintro e w1 ⟨rfl, hb1⟩
    have hb01 := bl_trans HBA.out hb1
    go_wp2
    go_ret2
    exact ⟨rfl, hb01⟩
end Go.Proofs.YtdhjhnbmecbaaaaGreat
/- The walk of the law FnExactRowWith. -/
namespace Go.Proofs.YtdhjhnbmecbaaaaGreat
open Go.RowKit
set_option linter.unusedVariables false
set_option linter.unusedSimpArgs false
set_option maxHeartbeats 400000
set_option maxRecDepth 100000
set_option maxRecDepth 100000 in
theorem lawRowWith_any (mc : Mc) (a a1 a2 : Option Addr) (cap cap1 cap2 : Nat) (x : Int) (w : World) (h0 : PcsAt w.heap.size w a mc.bd.ps) (h1 : SlAt w.heap.size w a1 (flat Po.cells mc.ins)) (h2 : SlAt w.heap.size w a2 (flat Ce.cells mc.outs)) (hok : mc.ok)
    (l0 : mc.bd.ps.length ≤ 9223372036854775807) (l1 : mc.ins.length ≤ 9223372036854775807) (l2 : mc.outs.length ≤ 9223372036854775807) :
    Calls Tryz.prog 7 #[mcv mc.bd.wd mc.bd.hg (.slice a mc.bd.ps.length cap) (.slice a1 mc.ins.length cap1) (.slice a2 mc.outs.length cap2), .int .i64 x] w fun e w' => e = .returned (.bool true) ∧ Below w.heap.size w w' := by
  by_cases hL : True
  · by_cases hn : (mc.bd.ps.length : Int) + mc.ins.length + mc.outs.length ≤ 1048576
    · obtain ⟨lf, Hs, hlf, hlf2⟩ : ∃ lf : Int, Hid (sz3 mc.bd.ps.length mc.ins.length mc.outs.length 1048576 = lf) ∧ 0 ≤ lf ∧ lf ≤ 1048576 := ⟨_, Lib.hid rfl, by unfold sz3; rw [if_pos hn]; omega, by unfold sz3; rw [if_pos hn]; omega⟩
      have M0 : MV w (mcv mc.bd.wd mc.bd.hg (.slice a mc.bd.ps.length cap) (.slice a1 mc.ins.length cap1) (.slice a2 mc.outs.length cap2)) mc := ⟨_, _, _, rfl, ⟨a, cap, rfl, h0⟩, ⟨a1, cap1, rfl, h1⟩, a2, cap2, rfl, h2⟩
      have X0 := BX5.new w (.int .i8 mc.bd.wd) (.int .i8 mc.bd.hg) (.slice a mc.bd.ps.length cap) (.slice a1 mc.ins.length cap1) (.slice a2 mc.outs.length cap2) 29
      obtain ⟨rv0, hrv0⟩ : ∃ rv, rv = (rwVal mc x).1 := ⟨_, rfl⟩
      obtain ⟨rc, hrc⟩ : ∃ rc, rc = (rwVal mc x).2 := ⟨_, rfl⟩
      have CS := fun v w' (h : MV w' v mc) => specRowWith_any mc v x w' h hok (by omega) (by omega) (by omega)
      have CI := fun v w' (h : MVc w' v mc) => rowWith_any mc v x w' h hok (by omega) (by omega) (by omega)
      simp only [← hrv0, ← hrc] at CS CI
      have CS := Lib.hid CS
      have CI := Lib.hid CI
      clear hrv0 hrc h0 h1 h2
      go_enter Tryz.func7, Tryz.ntmps7
      go_wp2_with fail
      refine (szMachine_any mc.bd.wd mc.bd.hg a _ cap a1 _ cap1 a2 _ cap2 _ _ (by omega) (by omega) (by omega) (by omega) (by omega)).mono ?_
      rintro e u ⟨rfl, bu⟩
      rw [Hs.out]
      have bu0 : Below w.heap.size w u := bl_trans (bl_alloc (Below.refl _ _)) bu
      have A0 := (M0.step (bl_alloc (Below.refl _ _))).step bu
      have AX := X0.step bu
      go_wp2_with fail
      refine (toMachine_mv A0 (by omega) (by omega) (by omega)).mono ?_
      rintro e w1 ⟨sm, im, om, rfl, Om1, b1⟩
      have AM1 := A0.step b1
      have AX1 := AX.step b1
      have B1 := b1
      obtain ⟨asm, capsm, rfl, -⟩ := own_at Om1.1
      obtain ⟨aim, capim, rfl, -⟩ := own_at Om1.2.1
      obtain ⟨aom, capom, rfl, -⟩ := own_at Om1.2.2.1
      go_wp2_with fail
      refine (CS.out _ _ Om1.mv).mono ?_
      rintro e w2 ⟨rfl, b2⟩
      have AM2 := AM1.step b2
      have AX2 := AX1.step b2
      have Om2 := Om1.below b2
      have B2 := bl_trans B1 b2
      go_wp2_with fail
      refine (toMachine_mv AM2 (by omega) (by omega) (by omega)).mono ?_
      rintro e w3 ⟨sx, ix, ox, rfl, Ox3, b3⟩
      have AM3 := AM2.step b3
      have AX3 := AX2.step b3
      have B3 := bl_trans B2 b3
      obtain ⟨asx, capsx, rfl, -⟩ := own_at Ox3.1
      obtain ⟨aix, capix, rfl, -⟩ := own_at Ox3.2.1
      obtain ⟨aox, capox, rfl, -⟩ := own_at Ox3.2.2.1
      go_wp2_with fail
      refine (CI.out _ _ (Ox3.mvc.step (bl_alloc (Below.refl _ _)))).mono ?_
      rintro e w4 ⟨rfl, c4⟩
      have b4 := bl_trans (bl_alloc (o := .cells #[.int .i8 mc.bd.wd, .int .i8 mc.bd.hg, .slice asx mc.bd.ps.length capsx, .slice aix mc.ins.length capix, .slice aox mc.outs.length capox] 40) (Below.refl w3.heap.size w3)) c4
      have AY4 := (BX5.new w3 (.int .i8 mc.bd.wd) (.int .i8 mc.bd.hg) (.slice asx mc.bd.ps.length capsx) (.slice aix mc.ins.length capix) (.slice aox mc.outs.length capox) 40).step c4
      have AM4 := AM3.step b4
      have AX4 := AX3.step b4
      have Ox4 := Ox3.below b4
      have B4 := bl_trans B3 b4
      go_upto_region 10 with fail
      have CK := Lib.hid (fun w' (h : Below w4.heap.size w4 w') => toMachine_mv (w := w') (AM4.step h) (by omega) (by omega) (by omega))
      have CL := Lib.hid (fun w' v' (h : Below w4.heap.size w4 w') (h' : MV w' v' mc) => eqMachine_yes (w := w') (Ox4.mv.step h) h' (by omega) (by omega) (by omega))
      go_region_held3 (fun w' => Below w4.heap.size w4 w' ∧ ∀ b o, b < w4.heap.size → w'.cell? ⟨b, o, none⟩ = w4.cell? ⟨b, o, none⟩) ((refine ext_s ?_; exact (by repeat (first | with_reducible exact Below.refl _ _ | with_reducible assumption | with_reducible apply bl_drewN | with_reducible apply bl_drew | with_reducible apply bl_alloc | (with_reducible refine bl_set ?_ (by first | (simp; done) | (simp; omega)) _) | with_reducible refine bl_trans ?_ (by with_reducible assumption))))) (first | (go_at_call 18; refine (CK.out _ ?_).mono ?_; (exact (by repeat (first | with_reducible exact Below.refl _ _ | with_reducible assumption | with_reducible apply bl_drewN | with_reducible apply bl_drew | with_reducible apply bl_alloc | (with_reducible refine bl_set ?_ (by first | (simp; done) | (simp; omega)) _) | with_reducible refine bl_trans ?_ (by with_reducible assumption)))); rintro e wa ⟨sa, ia, oa, rfl, Oa, ba⟩; obtain ⟨hca, hfa⟩ := bcell ba) | (go_at_call 21; refine (CL.out _ _ ?_ Oa.mv).mono ?_; (exact (by repeat (first | with_reducible exact Below.refl _ _ | with_reducible assumption | with_reducible apply bl_drewN | with_reducible apply bl_drew | with_reducible apply bl_alloc | (with_reducible refine bl_set ?_ (by first | (simp; done) | (simp; omega)) _) | with_reducible refine bl_trans ?_ (by with_reducible assumption)))); rintro e w5 ⟨rfl, be⟩))
      have b5 : Below w4.heap.size w4 w5 := (by repeat (first | with_reducible exact Below.refl _ _ | with_reducible assumption | with_reducible apply bl_drewN | with_reducible apply bl_drew | with_reducible apply bl_alloc | (with_reducible refine bl_set ?_ (by first | (simp; done) | (simp; omega)) _) | with_reducible refine bl_trans ?_ (by with_reducible assumption)))
      clear CK CL
      have AM5 := AM4.step b5
      have AX5 := AX4.step b5
      have AY5 := AY4.step b5
      have Ox5 := Ox4.below b5
      have B5 := bl_trans B4 b5
      go_wp2
      go_ret
      exact ⟨rfl, bl_trans bu0 B5⟩
    · have Hs : Hid (sz3 mc.bd.ps.length mc.ins.length mc.outs.length 1048576 = -1) := Lib.hid (by unfold sz3; rw [if_neg hn])
      go_enter Tryz.func7, Tryz.ntmps7
      go_wp2_with fail
      refine (szMachine_any mc.bd.wd mc.bd.hg a _ cap a1 _ cap1 a2 _ cap2 _ _ (by omega) (by omega) (by omega) (by omega) (by omega)).mono ?_
      rintro e u ⟨rfl, bu⟩
      rw [Hs.out]
      have bu0 : Below w.heap.size w u := bl_trans (bl_alloc (Below.refl _ _)) bu
      go_wp2
      go_ret
      exact ⟨rfl, bu0⟩
  · exact absurd trivial hL
end Go.Proofs.YtdhjhnbmecbaaaaGreat
/- Contracts: SlowestRow (both). -/
namespace Go.Proofs.YtdhjhnbmecbaaaaGreat
open Go.RowKit
set_option linter.unusedVariables false
set_option linter.unusedSimpArgs false
set_option maxHeartbeats 400000
set_option maxRecDepth 100000
def srStep (r : Int) (a : Int × Int) (t : Int) : Int × Int := if a.2 < t then (r, t) else a
def srIn (ts : List Int) (r : Int) (a : Int × Int) (k : Nat) : Int × Int := (ts.take k).foldl (srStep r) a
theorem srIn_succ (ts : List Int) (r : Int) (a : Int × Int) (k : Nat) (hk : k < ts.length) : srIn ts r a (k + 1) = srStep r (srIn ts r a k) (ts.getD k 0) := by
  unfold srIn
  rw [List.take_succ_eq_append_getElem hk, List.foldl_append, getD_n _ _ hk]
  rfl
def srTo (g : Nat → List Int) : Nat → Int × Int
  | 0 => (0, -1)
  | r + 1 => srIn (g r) (r : Int) (srTo g r) (g r).length
def srOf (a : Int × Int) : Int × Int × Int := if a.2 < 0 then (0, 0, 6) else (a.1, a.2, 0)
noncomputable def srVal (m : Mc) : Int × Int × Int := if vMc m = true then srOf (srTo (fun r => mTk m r (zeros m.ins.length)) (mRows m)) else (0, 0, 1)
theorem specSlowestRow_any (m : Mc) (v : Value) (w : World) (h : MV w v m) (hok : m.ok) (hn : m.bd.ps.length ≤ 10000000) (hn1 : m.ins.length ≤ 10000000) (hn2 : m.outs.length ≤ 10000000) :
    Calls Tryz.prog 33 #[v] w fun e w' => e = .returned (.tuple #[.int .i64 (srVal m).1, .int .i64 (srVal m).2.1, .int .i64 (srVal m).2.2]) ∧ Below w.heap.size w w' := by
  obtain ⟨s, si, so, rfl, h0, ⟨ai, capi, rfl, h1⟩, h2⟩ := h
  have HM := Lib.hid (MP.new (m := m) (w := w) h0 ⟨ai, capi, rfl, h1⟩ h2 40)
  have HBA := Lib.hid (show Below w.heap.size w (w.alloc (.cells #[.int .i8 m.bd.wd, .int .i8 m.bd.hg, s, .slice ai m.ins.length capi, so] 40)) from bl_alloc (Below.refl _ _))
  have HXB := Lib.hid (BX5.new w (.int .i8 m.bd.wd) (.int .i8 m.bd.hg) s (.slice ai m.ins.length capi) so 40)
  have HOK := Lib.hid (l03Ok_any w.heap.size m _ HM.out hok hn hn1 hn2)
  rcases Bool.eq_false_or_eq_true (vMc m) with g1 | g1
  · obtain ⟨-, -, hi1, hi6, ho1, ho8, -⟩ := vMc_parts m g1
    have HRO := Lib.hid (fun w1 (hb : Below (w.alloc (.cells #[.int .i8 m.bd.wd, .int .i8 m.bd.hg, s, .slice ai m.ins.length capi, so] 40)).heap.size (w.alloc (.cells #[.int .i8 m.bd.wd, .int .i8 m.bd.hg, s, .slice ai m.ins.length capi, so] 40)) w1) => l03Rows_any w.heap.size m w1 (HM.out.step hb) hi6)
    have HTI := Lib.hid (fun w1 (hb : Below (w.alloc (.cells #[.int .i8 m.bd.wd, .int .i8 m.bd.hg, s, .slice ai m.ins.length capi, so] 40)).heap.size (w.alloc (.cells #[.int .i8 m.bd.wd, .int .i8 m.bd.hg, s, .slice ai m.ins.length capi, so] 40)) w1) (r : Nat) (hr : r < 64) a (hs : SlAt w1.heap.size w1 a (flat N64_cells (zeros m.ins.length))) => l03Ticks_any (B := w1.heap.size) w.heap.size m r a m.ins.length (zeros m.ins.length) w1 (HM.out.step hb) g1 hok (by simp [zeros]) (zeros_ok _) hs (Nat.le_refl _) hr)
    have hR64 := mRows_le m hi6
    have HV : Hid (srVal m = srOf (srTo (fun r => mTk m r (zeros m.ins.length)) (mRows m))) := Lib.hid (by unfold srVal; rw [if_pos g1])
    have HLG : Hid (∀ r : Nat, (mTk m r (zeros m.ins.length)).length = m.outs.length) := Lib.hid (fun r => mTk_len m r _)
    rw [g1] at HOK
    rw [HV.out]
    obtain ⟨R, hRR⟩ : ∃ R, R = mRows m := ⟨_, rfl⟩
    obtain ⟨G, hG⟩ : ∃ G : Nat → List Int, G = fun r => mTk m r (zeros m.ins.length) := ⟨_, rfl⟩
    have HG : Hid (∀ r, mTk m r (zeros m.ins.length) = G r) := Lib.hid (fun r => by rw [hG])
    rw [← hG]
    rw [← hRR] at HRO hR64 ⊢
    have HLG2 : Hid (∀ r : Nat, (G r).length = m.outs.length) := Lib.hid (fun r => by rw [← HG.out]; exact HLG.out r)
    obtain ⟨rs, hrs⟩ : ∃ rs, rs = srOf (srTo G R) := ⟨_, rfl⟩
    rw [← hrs]
    have HRS := Lib.hid hrs
    clear g1 HV hRR hG HLG hrs
    obtain ⟨i0, hi0, hiz0, hiz1, hiz2⟩ := info_parts Tryz.infoInt64
    go_enter Tryz.func33, Tryz.ntmps33
    go_wp2_with fail
    refine HOK.out.mono ?_
    rintro e w1 ⟨rfl, hb1⟩
    have HB1 := Lib.hid hb1
    obtain ⟨-, -, -, -, x3, -⟩ := HXB.out.step hb1
    clear hb1
    go_wp2_with (refine wpList_make_full _ rfl (.tmp 15) (.tmp 15) 30 rfl w1.heap.size 2 i0 _ 1 Tryz.underlying30 hi0 hiz0 hiz1 _ _ _ _ m.ins.length rfl rfl rfl rfl (by rw [hiz2]; omega) (by unfold maxLen; omega) (Nat.le_refl _) ?_; intro w2 hmade hgrow)
    rw [made_rep _ rfl, ← flat_zeros] at hmade
    have hb2 : Below w1.heap.size w1 w2 := bl_grown (Below.refl _ _) hgrow (by simp)
    obtain ⟨az, capz, hvz, hslz, -, -⟩ := own_at hmade
    simp only [Value.slice.injEq] at hvz
    obtain ⟨rfl, -, rfl⟩ := hvz
    have HSZ := Lib.hid hslz
    have HB2 := Lib.hid (bl_trans HB1.out hb2)
    clear hmade hgrow hslz hb2 x3
    go_wp2
    go_loopw [6, 7, 8] (fun sx tx rx wr => ∃ (r : Nat) (a1 a2 : Int), r ≤ R ∧ rx = .int .i64 r ∧ sx = .int .i64 a1 ∧ tx = .int .i64 a2 ∧ Hid (srTo G r = (a1, a2)) ∧ Below w2.heap.size w2 wr) (fun _ _ rx _ => R - (intOf rx).toNat)
    case atStart => exact ⟨0, 0, -1, by omega, rfl, rfl, rfl, Lib.hid rfl, Below.refl _ _⟩
    case round =>
      obtain ⟨r, a1, a2, hr, rfl, rfl, rfl, HA, hb⟩ := hrel
      have HBW := Lib.hid (bl_trans HB2.out hb)
      have hzb := hb.size
      by_cases hlt : r < R
      · have HTC := Lib.hid (HTI.out wr HBW.out r (by omega) _ ((HSZ.out.below hb (Nat.le_refl _)).mono hzb))
        rw [HG.out, HLG2.out] at HTC
        have hrI : (r : Int) < R := by omega
        have HBB := Lib.hid hb
        clear hb
        go_wp2_with (go_at_call 80; refine (HRO.out _ HBW.out).mono ?_; rintro e w' ⟨rfl, rfl⟩)
        refine HTC.out.mono ?_
        rintro e w3 ⟨v3, rfl, hown, hb3⟩
        obtain ⟨a3, cap3, hve, hsl, -, -⟩ := own_at hown
        subst hve
        have HB3 := Lib.hid (bl_trans HBB.out hb3)
        clear hown hb3 HTC
        have HLN := Lib.hid (HLG2.out r)
        obtain ⟨L, hL⟩ : ∃ L, L = G r := ⟨_, rfl⟩
        rw [← hL] at hsl HLN
        have HNX : Hid (srTo G (r + 1) = srIn L (r : Int) (a1, a2) L.length) := Lib.hid (by rw [hL, ← HA.out]; rfl)
        clear hL
        obtain ⟨W1, hW1⟩ : ∃ W1, W1 = wr := ⟨_, rfl⟩
        subst hW1
        go_wp2
        go_loopw [6, 7, 10] (fun sx tx kx wi => ∃ (k : Nat) (b1 b2 : Int), k ≤ m.outs.length ∧ kx = .int .i64 k ∧ sx = .int .i64 b1 ∧ tx = .int .i64 b2 ∧ Hid (srIn L (r : Int) (a1, a2) k = (b1, b2)) ∧ Below w3.heap.size w3 wi) (fun _ _ kx _ => m.outs.length - (intOf kx).toNat)
        case atStart => exact ⟨0, a1, a2, by omega, rfl, rfl, rfl, Lib.hid rfl, Below.refl _ _⟩
        case round =>
          obtain ⟨k, b1, b2, hk, rfl, rfl, rfl, HK, hbi⟩ := hrel
          by_cases hlk : k < m.outs.length
          · have hkl : k < L.length := by rw [HLN.out]; exact hlk
            obtain ⟨b, off, rfl, hbl, hat⟩ := n64s_get hsl hkl
            obtain ⟨t, ht⟩ : ∃ t, t = L[k] := ⟨_, rfl⟩
            rw [← ht] at hat
            have r0 : wr.cell? ⟨b, off + k, none⟩ = some (.int .i64 t) := by rw [hbi.cell (p := ⟨_, _, none⟩) hbl]; have ha := hat; unfold N64At at ha; simpa using ha
            have HSS : Hid (srIn L (r : Int) (a1, a2) (k + 1) = srStep r (b1, b2) t) := Lib.hid (by rw [srIn_succ _ _ _ _ hkl, HK.out, getD_n _ _ hkl, ht])
            have hkI : (k : Int) < m.outs.length := by omega
            clear hat hkl ht
            rcases dec_cases (b2 < t) with ⟨g3, k3⟩ | ⟨g3, k3⟩
            · have HN : Hid (srIn L (r : Int) (a1, a2) (k + 1) = ((r : Int), t)) := Lib.hid (by rw [HSS.out]; exact if_pos k3)
              clear k3
              go_wp2
              go_roundw
              case rel => exact ⟨k + 1, r, t, by omega, by go_num, rfl, rfl, HN, hbi⟩
              case measure => simp [intOf]; omega
            · have HN : Hid (srIn L (r : Int) (a1, a2) (k + 1) = (b1, b2)) := Lib.hid (by rw [HSS.out]; exact if_neg k3)
              clear k3
              go_wp2
              go_roundw
              case rel => exact ⟨k + 1, b1, b2, by omega, by go_num, rfl, rfl, HN, hbi⟩
              case measure => simp [intOf]; omega
          · have hkn : k = m.outs.length := by omega
            subst hkn
            have HN : Hid (srTo G (r + 1) = (b1, b2)) := Lib.hid (by rw [HNX.out, HLN.out, HK.out])
            go_wp2
            go_roundw
            case rel => exact ⟨r + 1, b1, b2, by omega, by go_num, rfl, rfl, HN, bl_trans HB3.out hbi⟩
            case measure => simp [intOf]; omega
      · have hrn : r = R := by omega
        subst hrn
        have HRV : Hid (rs = if a2 < 0 then (0, 0, 6) else (a1, a2, 0)) := Lib.hid (by rw [HRS.out, HA.out]; rfl)
        rcases dec_cases (a2 < 0) with ⟨g3, k3⟩ | ⟨g3, k3⟩
        · have HR : Hid (rs = (0, 0, 6)) := Lib.hid (by rw [HRV.out, if_pos k3])
          clear k3
          go_wp2_with (go_at_call 80; refine (HRO.out _ HBW.out).mono ?_; rintro e w' ⟨rfl, rfl⟩)
          go_ret3
          exact ⟨by rw [HR.out]; rfl, bl_trans HBA.out HBW.out⟩
        · have HR : Hid (rs = (a1, a2, 0)) := Lib.hid (by rw [HRV.out, if_neg k3])
          clear k3
          go_wp2_with (go_at_call 80; refine (HRO.out _ HBW.out).mono ?_; rintro e w' ⟨rfl, rfl⟩)
          go_ret3
          exact ⟨by rw [HR.out]; rfl, bl_trans HBA.out HBW.out⟩
  · have HV : Hid (srVal m = (0, 0, 1)) := Lib.hid (by unfold srVal; rw [if_neg (by simp [g1])])
    rw [HV.out]
    rw [g1] at HOK
    clear g1 HV
    go_enter Tryz.func33, Tryz.ntmps33
    go_wp2_with fail
    refine HOK.out.mono ?_
    rintro e w1 ⟨rfl, hb1⟩
    have hb01 := bl_trans HBA.out hb1
    go_wp2
    go_ret3
    exact ⟨rfl, hb01⟩
theorem slowestRow_any (m : Mc) (v : Value) (w : World) (h : MVc w v m) (hok : m.ok) (hn : m.bd.ps.length ≤ 10000000) (hn1 : m.ins.length ≤ 10000000) (hn2 : m.outs.length ≤ 10000000) :
    Calls Tryz.prog 34 #[v] w fun e w' => e = .returned (.tuple #[.int .i64 (srVal m).1, .int .i64 (srVal m).2.1, .int .i64 (srVal m).2.2]) ∧ Below w.heap.size w w' := by
  have HVM := Lib.hid (fun w1 (hb : Below w.heap.size w w1) => validMachine_any m v w1 (h.step hb) hok hn hn1 hn2)
  obtain ⟨sa, scap, ia, icap, oa, ocap, rfl, hcap, hps, hins, houts⟩ := h
  have HM := Lib.hid (MP.new (m := m) (w := w) ⟨sa, scap, rfl, hps⟩ ⟨ia, icap, rfl, hins⟩ ⟨oa, ocap, rfl, houts⟩ 40)
  have HBA := Lib.hid (show Below w.heap.size w (w.alloc (.cells #[.int .i8 m.bd.wd, .int .i8 m.bd.hg, .slice sa m.bd.ps.length scap, .slice ia m.ins.length icap, .slice oa m.outs.length ocap] 40)) from bl_alloc (Below.refl _ _))
  rcases Bool.eq_false_or_eq_true (vMc m) with g1 | g1
  · obtain ⟨-, -, hi1, hi6, ho1, ho8, -⟩ := vMc_parts m g1
    have HWK := Lib.hid (fun w1 (hb : Below (w.alloc (.cells #[.int .i8 m.bd.wd, .int .i8 m.bd.hg, .slice sa m.bd.ps.length scap, .slice ia m.ins.length icap, .slice oa m.outs.length ocap] 40)).heap.size (w.alloc (.cells #[.int .i8 m.bd.wd, .int .i8 m.bd.hg, .slice sa m.bd.ps.length scap, .slice ia m.ins.length icap, .slice oa m.outs.length ocap] 40)) w1) => worksOf_any w.heap.size m w1 (HM.out.step hb) g1 hok)
    have HRO := Lib.hid (fun w1 g (hw : WkAt w1 g w.heap.size m) => wrows_any g w.heap.size m w1 hw hi6)
    have HFA := Lib.hid (fun w1 g (hw : WkAt w1 g w.heap.size m) (r : Nat) (hr : r < 64) => wfalls_any g w.heap.size m r (.slice none 0 0) (zeros m.ins.length) w1 hw g1 hok (LateV.nil w1 _) hr)
    have HTA := Lib.hid (fun (r : Nat) k hk f hf hff => mTk_at m r (zeros m.ins.length) k hk f hf hff)
    have HOF := Lib.hid (fun k hk => out_fnd m g1 k hk)
    have HGE := Lib.hid (fun (r : Nat) => mFa_ge m r (zeros m.ins.length))
    have HFL := Lib.hid (fun (r : Nat) => mFa_len m r (zeros m.ins.length))
    have HMO : Hid (∀ k (hk : k < (m.outs.map (outF m.bd.ps)).length) (h2 : k < m.outs.length), (m.outs.map (outF m.bd.ps))[k] = fnd m.outs[k] m.bd.ps) := Lib.hid (by intro k hk h2; simp [outF])
    have HML : Hid ((m.outs.map (outF m.bd.ps)).length = m.outs.length) := Lib.hid (by simp)
    have hR64 := mRows_le m hi6
    have HV : Hid (srVal m = srOf (srTo (fun r => mTk m r (zeros m.ins.length)) (mRows m))) := Lib.hid (by unfold srVal; rw [if_pos g1])
    have HLG : Hid (∀ r : Nat, (mTk m r (zeros m.ins.length)).length = m.outs.length) := Lib.hid (fun r => mTk_len m r _)
    rw [g1] at HVM
    rw [HV.out]
    obtain ⟨R, hRR⟩ : ∃ R, R = mRows m := ⟨_, rfl⟩
    obtain ⟨G, hG⟩ : ∃ G : Nat → List Int, G = fun r => mTk m r (zeros m.ins.length) := ⟨_, rfl⟩
    have HG : Hid (∀ r, mTk m r (zeros m.ins.length) = G r) := Lib.hid (fun r => by rw [hG])
    rw [← hG]
    rw [← hRR] at HRO hR64 ⊢
    have HLG2 : Hid (∀ r : Nat, (G r).length = m.outs.length) := Lib.hid (fun r => by rw [← HG.out]; exact HLG.out r)
    obtain ⟨rs, hrs⟩ : ∃ rs, rs = srOf (srTo G R) := ⟨_, rfl⟩
    rw [← hrs]
    have HRS := Lib.hid hrs
    clear g1 HV hRR hG HLG hrs
    go_enter Tryz.func34, Tryz.ntmps34
    go_wp2_with fail
    refine (HVM.out _ HBA.out).mono ?_
    rintro e w1 ⟨rfl, hb1⟩
    have HB1 := Lib.hid (bl_trans HBA.out hb1)
    have HWC := Lib.hid (HWK.out w1 hb1)
    clear hb1 HWK
    go_wp2_with fail
    refine HWC.out.mono ?_
    rintro e w2 ⟨g, rfl, hg, hwk, hb2⟩
    have HB2 := Lib.hid (bl_trans HB1.out hb2)
    have HW2 := Lib.hid hwk
    have HRC := Lib.hid (HRO.out w2 g hwk)
    clear hwk hb2 HWC
    go_wp2_with (go_at_call 81; refine HRC.out.mono ?_; rintro e w' ⟨rfl, rfl⟩)
    go_loopw [6, 7, 18] (fun sx tx rx wr => ∃ (r : Nat) (a1 a2 : Int), r ≤ R ∧ rx = .int .i64 r ∧ sx = .int .i64 a1 ∧ tx = .int .i64 a2 ∧ Hid (srTo G r = (a1, a2) ∧ -1 ≤ a2) ∧ Below w2.heap.size w2 wr) (fun _ _ rx _ => R - (intOf rx).toNat)
    case atStart => exact ⟨0, 0, -1, by omega, rfl, rfl, rfl, Lib.hid ⟨rfl, by omega⟩, Below.refl _ _⟩
    case round =>
      obtain ⟨r, a1, a2, hr, rfl, rfl, rfl, HA, hb⟩ := hrel
      by_cases hlt : r < R
      · have HWR := Lib.hid (HW2.out.step hb)
        have HFC := Lib.hid (HFA.out wr g HWR.out r (by omega))
        have HTR : Hid (∀ k (hk : k < m.outs.length) (f : Nat), fnd m.outs[k] m.bd.ps = (f : Int) → ∀ (hff : f < (mFa m r (zeros m.ins.length)).length), (G r).getD k 0 = (mFa m r (zeros m.ins.length))[f].t) := Lib.hid (by intro k hk f hf hff; rw [← HG.out]; exact HTA.out r k hk f hf hff)
        have HGR := Lib.hid (HGE.out r)
        have HFLR := Lib.hid (HFL.out r)
        obtain ⟨fs, hfs⟩ : ∃ fs, fs = mFa m r (zeros m.ins.length) := ⟨_, rfl⟩
        rw [← hfs] at HFC HGR HFLR
        have HTR2 : Hid (∀ k (hk : k < m.outs.length) (f : Nat), fnd m.outs[k] m.bd.ps = (f : Int) → ∀ (hff : f < fs.length), (G r).getD k 0 = fs[f].t) := Lib.hid (by intro k hk f hf hff; rw [HTR.out k hk f hf (by rw [← hfs]; exact hff)]; simp only [hfs])
        have hrI : (r : Int) < R := by omega
        have HBB := Lib.hid hb
        have HLN := Lib.hid (HLG2.out r)
        obtain ⟨L, hL⟩ : ∃ L, L = G r := ⟨_, rfl⟩
        rw [← hL] at HTR2 HLN
        have HNX : Hid (srTo G (r + 1) = srIn L (r : Int) (a1, a2) L.length) := Lib.hid (by rw [hL, ← HA.out.1]; rfl)
        clear hb HTR hfs hL
        go_wp2_with fail
        refine HFC.out.mono ?_
        rintro e w3 ⟨v3, rfl, hown, hb3⟩
        obtain ⟨av, capv, hve, hsl, -, -⟩ := own_at hown
        subst hve
        have HB3 := Lib.hid (bl_trans HBB.out hb3)
        obtain ⟨hgl, -, -, -, ⟨ao, capo, c3, hso⟩⟩ := HWR.out
        have d3 : w3.cell? ⟨g, 3, none⟩ = some (.slice ao m.outs.length capo) := by rw [hb3.cell (p := ⟨_, _, none⟩) hgl]; exact c3
        have hso2 := hso.below hb3 (Nat.le_refl _)
        have hz3 := hb3.size
        clear hown hb3 HFC hso c3 hgl HWR
        obtain ⟨W1, hW1⟩ : ∃ W1, W1 = wr := ⟨_, rfl⟩
        subst hW1
        go_wp2
        go_loopw [6, 7, 29] (fun sx tx kx wi => ∃ (k : Nat) (b1 b2 : Int), k ≤ m.outs.length ∧ kx = .int .i64 k ∧ sx = .int .i64 b1 ∧ tx = .int .i64 b2 ∧ Hid (srIn L (r : Int) (a1, a2) k = (b1, b2) ∧ -1 ≤ b2) ∧ Below w3.heap.size w3 wi) (fun _ _ kx _ => m.outs.length - (intOf kx).toNat)
        case atStart => exact ⟨0, a1, a2, by omega, rfl, rfl, rfl, Lib.hid ⟨rfl, HA.out.2⟩, Below.refl _ _⟩
        case round =>
          obtain ⟨k, b1, b2, hk, rfl, rfl, rfl, HK, hbi⟩ := hrel
          by_cases hlk : k < m.outs.length
          · obtain ⟨f, hf, hfl⟩ := HOF.out k hlk
            have hff : f < fs.length := by rw [HFLR.out]; exact hfl
            have hkm : k < (m.outs.map (outF m.bd.ps)).length := by rw [HML.out]; exact hlk
            obtain ⟨bo, offo, rfl, hbo, hato⟩ := ints_get hso2 hkm
            rw [HMO.out k hkm hlk, hf] at hato
            have q0 : wr.cell? ⟨bo, offo + k, none⟩ = some (.int .i64 (f : Int)) := by rw [hbi.cell (p := ⟨_, _, none⟩) (show bo < w3.heap.size by omega)]; exact hato
            obtain ⟨bf, offf, rfl, hbf, hatf⟩ := fas_get hsl hff
            have hkl : k < L.length := by rw [HLN.out]; exact hlk
            obtain ⟨t, ht⟩ : ∃ t, t = fs[f].t := ⟨_, rfl⟩
            have q1 : wr.cell? ⟨bf, offf + f * 3, none⟩ = some (.int .i64 t) := by rw [hbi.cell (p := ⟨_, _, none⟩) hbf, ht]; exact hatf.1
            have HSS : Hid (srIn L (r : Int) (a1, a2) (k + 1) = srStep r (b1, b2) t) := Lib.hid (by rw [srIn_succ _ _ _ _ hkl, HK.out.1, HTR2.out k hlk f hf hff, ht])
            have HTG : Hid (-1 ≤ t) := Lib.hid (by rw [ht]; exact HGR.out f hff)
            have hfI : (f : Int) < fs.length := by omega
            have hkI : (k : Int) < m.outs.length := by omega
            clear hato hatf hf hkm hkl ht
            rcases dec_cases (b2 < t) with ⟨g3, k3⟩ | ⟨g3, k3⟩
            · have HN : Hid (srIn L (r : Int) (a1, a2) (k + 1) = ((r : Int), t) ∧ -1 ≤ t) := Lib.hid ⟨by rw [HSS.out]; exact if_pos k3, HTG.out⟩
              clear k3
              go_wp2_with fail
              go_quiet (fail)
              go_wp2
              go_roundw
              case rel => exact ⟨k + 1, r, t, by omega, by go_num, rfl, rfl, HN, (by repeat (first | with_reducible exact Below.refl _ _ | with_reducible assumption | with_reducible apply bl_drewN | with_reducible apply bl_drew | with_reducible apply bl_alloc | (with_reducible refine bl_set ?_ (by first | (simp; done) | (simp; omega)) _) | with_reducible refine bl_trans ?_ (by with_reducible assumption)))⟩
              case measure => simp [intOf]; omega
            · have HN : Hid (srIn L (r : Int) (a1, a2) (k + 1) = (b1, b2) ∧ -1 ≤ b2) := Lib.hid ⟨by rw [HSS.out]; exact if_neg k3, HK.out.2⟩
              clear k3
              go_wp2
              go_roundw
              case rel => exact ⟨k + 1, b1, b2, by omega, by go_num, rfl, rfl, HN, hbi⟩
              case measure => simp [intOf]; omega
          · have hkn : k = m.outs.length := by omega
            subst hkn
            have HN : Hid (srTo G (r + 1) = (b1, b2) ∧ -1 ≤ b2) := Lib.hid ⟨by rw [HNX.out, HLN.out, HK.out.1], HK.out.2⟩
            go_wp2
            go_roundw
            case rel => exact ⟨r + 1, b1, b2, by omega, by go_num, rfl, rfl, HN, bl_trans HB3.out hbi⟩
            case measure => simp [intOf]; omega
      · have hrn : r = R := by omega
        subst hrn
        have HRV : Hid (rs = if a2 < 0 then (0, 0, 6) else (a1, a2, 0)) := Lib.hid (by rw [HRS.out, HA.out.1]; rfl)
        have HG2 := Lib.hid HA.out.2
        rcases Int.decEq a2 (-1) with hne | heq
        · have gf : (a2 == (-1 : Int)) = false := by simpa using hne
          have HR : Hid (rs = (a1, a2, 0)) := Lib.hid (by have h1 := HG2.out; rw [HRV.out, if_neg (by omega)])
          clear hne
          go_wp2
          go_ret3
          exact ⟨by rw [HR.out]; rfl, bl_trans HB2.out hb⟩
        · have gf : (a2 == (-1 : Int)) = true := by simpa using heq
          have HR : Hid (rs = (0, 0, 6)) := Lib.hid (by rw [HRV.out, if_pos (by omega)])
          clear heq
          go_wp2
          go_ret3
          exact ⟨by rw [HR.out]; rfl, bl_trans HB2.out hb⟩
  · have HV : Hid (srVal m = (0, 0, 1)) := Lib.hid (by unfold srVal; rw [if_neg (by simp [g1])])
    rw [HV.out]
    rw [g1] at HVM
    clear g1 HV
    go_enter Tryz.func34, Tryz.ntmps34
    go_wp2_with fail
    refine (HVM.out _ HBA.out).mono ?_
    rintro e w1 ⟨rfl, hb1⟩
    have hb01 := bl_trans HBA.out hb1
    go_wp2
    go_ret3
    exact ⟨rfl, hb01⟩
end Go.Proofs.YtdhjhnbmecbaaaaGreat
/- The walk of the law FnExactSlowestRow. -/
namespace Go.Proofs.YtdhjhnbmecbaaaaGreat
open Go.RowKit
set_option linter.unusedVariables false
set_option linter.unusedSimpArgs false
set_option maxHeartbeats 400000
set_option maxRecDepth 100000
set_option maxRecDepth 100000 in
theorem lawSlowestRow_any (mc : Mc) (a a1 a2 : Option Addr) (cap cap1 cap2 : Nat) (w : World) (h0 : PcsAt w.heap.size w a mc.bd.ps) (h1 : SlAt w.heap.size w a1 (flat Po.cells mc.ins)) (h2 : SlAt w.heap.size w a2 (flat Ce.cells mc.outs)) (hok : mc.ok)
    (l0 : mc.bd.ps.length ≤ 9223372036854775807) (l1 : mc.ins.length ≤ 9223372036854775807) (l2 : mc.outs.length ≤ 9223372036854775807) :
    Calls Tryz.prog 6 #[mcv mc.bd.wd mc.bd.hg (.slice a mc.bd.ps.length cap) (.slice a1 mc.ins.length cap1) (.slice a2 mc.outs.length cap2)] w fun e w' => e = .returned (.bool true) ∧ Below w.heap.size w w' := by
  by_cases hL : True
  · by_cases hn : (mc.bd.ps.length : Int) + mc.ins.length + mc.outs.length ≤ 1048576
    · obtain ⟨lf, Hs, hlf, hlf2⟩ : ∃ lf : Int, Hid (sz3 mc.bd.ps.length mc.ins.length mc.outs.length 1048576 = lf) ∧ 0 ≤ lf ∧ lf ≤ 1048576 := ⟨_, Lib.hid rfl, by unfold sz3; rw [if_pos hn]; omega, by unfold sz3; rw [if_pos hn]; omega⟩
      have M0 : MV w (mcv mc.bd.wd mc.bd.hg (.slice a mc.bd.ps.length cap) (.slice a1 mc.ins.length cap1) (.slice a2 mc.outs.length cap2)) mc := ⟨_, _, _, rfl, ⟨a, cap, rfl, h0⟩, ⟨a1, cap1, rfl, h1⟩, a2, cap2, rfl, h2⟩
      have X0 := BX5.new w (.int .i8 mc.bd.wd) (.int .i8 mc.bd.hg) (.slice a mc.bd.ps.length cap) (.slice a1 mc.ins.length cap1) (.slice a2 mc.outs.length cap2) 29
      obtain ⟨rv0, hrv0⟩ : ∃ rv, rv = (srVal mc).1 := ⟨_, rfl⟩
      obtain ⟨rv1, hrv1⟩ : ∃ rv, rv = (srVal mc).2.1 := ⟨_, rfl⟩
      obtain ⟨rc, hrc⟩ : ∃ rc, rc = (srVal mc).2.2 := ⟨_, rfl⟩
      have CS := fun v w' (h : MV w' v mc) => specSlowestRow_any mc v w' h hok (by omega) (by omega) (by omega)
      have CI := fun v w' (h : MVc w' v mc) => slowestRow_any mc v w' h hok (by omega) (by omega) (by omega)
      simp only [← hrv0, ← hrv1, ← hrc] at CS CI
      have CS := Lib.hid CS
      have CI := Lib.hid CI
      clear hrv0 hrv1 hrc h0 h1 h2
      go_enter Tryz.func6, Tryz.ntmps6
      go_wp2_with fail
      refine (szMachine_any mc.bd.wd mc.bd.hg a _ cap a1 _ cap1 a2 _ cap2 _ _ (by omega) (by omega) (by omega) (by omega) (by omega)).mono ?_
      rintro e u ⟨rfl, bu⟩
      rw [Hs.out]
      have bu0 : Below w.heap.size w u := bl_trans (bl_alloc (Below.refl _ _)) bu
      have A0 := (M0.step (bl_alloc (Below.refl _ _))).step bu
      have AX := X0.step bu
      go_wp2_with fail
      refine (toMachine_mv A0 (by omega) (by omega) (by omega)).mono ?_
      rintro e w1 ⟨sm, im, om, rfl, Om1, b1⟩
      have AM1 := A0.step b1
      have AX1 := AX.step b1
      have B1 := b1
      obtain ⟨asm, capsm, rfl, -⟩ := own_at Om1.1
      obtain ⟨aim, capim, rfl, -⟩ := own_at Om1.2.1
      obtain ⟨aom, capom, rfl, -⟩ := own_at Om1.2.2.1
      go_wp2_with fail
      refine (CS.out _ _ Om1.mv).mono ?_
      rintro e w2 ⟨rfl, b2⟩
      have AM2 := AM1.step b2
      have AX2 := AX1.step b2
      have Om2 := Om1.below b2
      have B2 := bl_trans B1 b2
      go_wp2_with fail
      refine (toMachine_mv AM2 (by omega) (by omega) (by omega)).mono ?_
      rintro e w3 ⟨sx, ix, ox, rfl, Ox3, b3⟩
      have AM3 := AM2.step b3
      have AX3 := AX2.step b3
      have B3 := bl_trans B2 b3
      obtain ⟨asx, capsx, rfl, -⟩ := own_at Ox3.1
      obtain ⟨aix, capix, rfl, -⟩ := own_at Ox3.2.1
      obtain ⟨aox, capox, rfl, -⟩ := own_at Ox3.2.2.1
      go_wp2_with fail
      refine (CI.out _ _ (Ox3.mvc.step (bl_alloc (Below.refl _ _)))).mono ?_
      rintro e w4 ⟨rfl, c4⟩
      have b4 := bl_trans (bl_alloc (o := .cells #[.int .i8 mc.bd.wd, .int .i8 mc.bd.hg, .slice asx mc.bd.ps.length capsx, .slice aix mc.ins.length capix, .slice aox mc.outs.length capox] 40) (Below.refl w3.heap.size w3)) c4
      have AY4 := (BX5.new w3 (.int .i8 mc.bd.wd) (.int .i8 mc.bd.hg) (.slice asx mc.bd.ps.length capsx) (.slice aix mc.ins.length capix) (.slice aox mc.outs.length capox) 40).step c4
      have AM4 := AM3.step b4
      have AX4 := AX3.step b4
      have Ox4 := Ox3.below b4
      have B4 := bl_trans B3 b4
      go_upto_region 10 with fail
      have CK := Lib.hid (fun w' (h : Below w4.heap.size w4 w') => toMachine_mv (w := w') (AM4.step h) (by omega) (by omega) (by omega))
      have CL := Lib.hid (fun w' v' (h : Below w4.heap.size w4 w') (h' : MV w' v' mc) => eqMachine_yes (w := w') (Ox4.mv.step h) h' (by omega) (by omega) (by omega))
      go_region_held3 (fun w' => Below w4.heap.size w4 w' ∧ ∀ b o, b < w4.heap.size → w'.cell? ⟨b, o, none⟩ = w4.cell? ⟨b, o, none⟩) ((refine ext_s ?_; exact (by repeat (first | with_reducible exact Below.refl _ _ | with_reducible assumption | with_reducible apply bl_drewN | with_reducible apply bl_drew | with_reducible apply bl_alloc | (with_reducible refine bl_set ?_ (by first | (simp; done) | (simp; omega)) _) | with_reducible refine bl_trans ?_ (by with_reducible assumption))))) (first | (go_at_call 18; refine (CK.out _ ?_).mono ?_; (exact (by repeat (first | with_reducible exact Below.refl _ _ | with_reducible assumption | with_reducible apply bl_drewN | with_reducible apply bl_drew | with_reducible apply bl_alloc | (with_reducible refine bl_set ?_ (by first | (simp; done) | (simp; omega)) _) | with_reducible refine bl_trans ?_ (by with_reducible assumption)))); rintro e wa ⟨sa, ia, oa, rfl, Oa, ba⟩; obtain ⟨hca, hfa⟩ := bcell ba) | (go_at_call 21; refine (CL.out _ _ ?_ Oa.mv).mono ?_; (exact (by repeat (first | with_reducible exact Below.refl _ _ | with_reducible assumption | with_reducible apply bl_drewN | with_reducible apply bl_drew | with_reducible apply bl_alloc | (with_reducible refine bl_set ?_ (by first | (simp; done) | (simp; omega)) _) | with_reducible refine bl_trans ?_ (by with_reducible assumption)))); rintro e w5 ⟨rfl, be⟩))
      have b5 : Below w4.heap.size w4 w5 := (by repeat (first | with_reducible exact Below.refl _ _ | with_reducible assumption | with_reducible apply bl_drewN | with_reducible apply bl_drew | with_reducible apply bl_alloc | (with_reducible refine bl_set ?_ (by first | (simp; done) | (simp; omega)) _) | with_reducible refine bl_trans ?_ (by with_reducible assumption)))
      clear CK CL
      have AM5 := AM4.step b5
      have AX5 := AX4.step b5
      have AY5 := AY4.step b5
      have Ox5 := Ox4.below b5
      have B5 := bl_trans B4 b5
      go_wp2
      go_ret
      exact ⟨rfl, bl_trans bu0 B5⟩
    · have Hs : Hid (sz3 mc.bd.ps.length mc.ins.length mc.outs.length 1048576 = -1) := Lib.hid (by unfold sz3; rw [if_neg hn])
      go_enter Tryz.func6, Tryz.ntmps6
      go_wp2_with fail
      refine (szMachine_any mc.bd.wd mc.bd.hg a _ cap a1 _ cap1 a2 _ cap2 _ _ (by omega) (by omega) (by omega) (by omega) (by omega)).mono ?_
      rintro e u ⟨rfl, bu⟩
      rw [Hs.out]
      have bu0 : Below w.heap.size w u := bl_trans (bl_alloc (Below.refl _ _)) bu
      go_wp2
      go_ret
      exact ⟨rfl, bu0⟩
  · exact absurd trivial hL
end Go.Proofs.YtdhjhnbmecbaaaaGreat
