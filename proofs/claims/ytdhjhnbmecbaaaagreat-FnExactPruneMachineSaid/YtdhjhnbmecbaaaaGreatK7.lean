import Derived.Test.YtdhjhnbmecbaaaaGreatK6
import Derived.Deep.CutRange
import Derived.StillTailTactics
import Derived.Deep.RegionLaw
import Derived.Deep.RegionHeld3
import Derived.Maps.AppendAt
/- Contracts: TicksIn, MachineTables (both). -/
namespace Go.Proofs.YtdhjhnbmecbaaaaGreat
open Go.RowKit
set_option linter.unusedVariables false
set_option linter.unusedSimpArgs false
set_option maxHeartbeats 400000
set_option maxRecDepth 100000
theorem specMachineTables_any (m : Mc) (v : Value) (w : World) (h : MV w v m) (hok : m.ok) (hn : m.bd.ps.length ≤ 10000000) (hn1 : m.ins.length ≤ 10000000) (hn2 : m.outs.length ≤ 10000000) :
    Calls Tryz.prog 28 #[v] w fun e w' => ∃ v, e = .returned (.tuple #[v, .int .i64 (mCode m)]) ∧ w'.ownsRow w.heap.size 108 1 v (mtList m).length (flat U64_cells (mtList m)) ∧ Below w.heap.size w w' := by
  obtain ⟨s, si, so, rfl, h0, h1, h2⟩ := h
  have HM := Lib.hid (MP.new (m := m) (w := w) h0 h1 h2 40)
  have HBA := Lib.hid (show Below w.heap.size w (w.alloc (.cells #[.int .i8 m.bd.wd, .int .i8 m.bd.hg, s, si, so] 40)) from bl_alloc (Below.refl _ _))
  have HOK := Lib.hid (l03Ok_any w.heap.size m _ HM.out hok hn hn1 hn2)
  rcases Bool.eq_false_or_eq_true (vMc m) with g1 | g1
  · have HC : Hid (mCode m = 0) := Lib.hid (by unfold mCode; rw [if_pos g1])
    have HL : Hid (mtList m = mTabI m) := Lib.hid (by unfold mtList; rw [if_pos g1])
    have HLN : Hid ((mTabI m).length = m.outs.length) := Lib.hid (mTabI_len m)
    rw [HC.out, HL.out, HLN.out]
    rw [g1] at HOK
    have HTB := Lib.hid (fun w1 (hb : Below (w.alloc (.cells #[.int .i8 m.bd.wd, .int .i8 m.bd.hg, s, si, so] 40)).heap.size (w.alloc (.cells #[.int .i8 m.bd.wd, .int .i8 m.bd.hg, s, si, so] 40)) w1) => l03Tables_any w.heap.size m w1 (HM.out.step hb) g1 hok)
    clear g1 HC HL HLN
    go_enter Tryz.func28, Tryz.ntmps28
    go_wp2_with fail
    refine HOK.out.mono ?_
    rintro e w1 ⟨rfl, hb1⟩
    have HB1 := Lib.hid (bl_trans HBA.out hb1)
    have HTC := Lib.hid (HTB.out w1 hb1)
    clear hb1
    go_wp2_with fail
    refine HTC.out.mono ?_
    rintro e w2 ⟨v2, rfl, hown, hb2⟩
    have hown2 := own_mono (base := w.heap.size) hown HB1.out.size
    go_wp2
    go_ret2
    exact ⟨_, rfl, hown2, bl_trans HB1.out hb2⟩
  · have HC : Hid (mCode m = 1) := Lib.hid (by unfold mCode; rw [if_neg (by simp [g1])])
    have HL : Hid (mtList m = []) := Lib.hid (by unfold mtList; rw [if_neg (by simp [g1])])
    rw [HC.out, HL.out]
    rw [g1] at HOK
    clear g1 HC HL
    go_enter Tryz.func28, Tryz.ntmps28
    go_wp2_with fail
    refine HOK.out.mono ?_
    rintro e w1 ⟨rfl, hb1⟩
    have hb01 := bl_trans HBA.out hb1
    have hown := World.ownsRow_made (e := 108) (size := 1) w1 #[] 0 (Nat.le_refl _) (by simp [maxLen]) rfl
    have hown2 := own_mono (base := w.heap.size) hown hb01.size
    go_wp2
    go_ret2
    exact ⟨_, rfl, hown2, bl_alloc hb01⟩
theorem machineTables_any (m : Mc) (v : Value) (w : World) (h : MVc w v m) (hok : m.ok) (hn : m.bd.ps.length ≤ 10000000) (hn1 : m.ins.length ≤ 10000000) (hn2 : m.outs.length ≤ 10000000) :
    Calls Tryz.prog 29 #[v] w fun e w' => ∃ v, e = .returned (.tuple #[v, .int .i64 (mCode m)]) ∧ w'.ownsRow w.heap.size 108 1 v (mtList m).length (flat U64_cells (mtList m)) ∧ Below w.heap.size w w' := by
  have HVM := Lib.hid (fun w1 (hb : Below w.heap.size w w1) => validMachine_any m v w1 (h.step hb) hok hn hn1 hn2)
  obtain ⟨sa, scap, ia, icap, oa, ocap, rfl, hcap, hps, hins, houts⟩ := h
  have HM := Lib.hid (MP.new (m := m) (w := w) ⟨sa, scap, rfl, hps⟩ ⟨ia, icap, rfl, hins⟩ ⟨oa, ocap, rfl, houts⟩ 40)
  have HBA := Lib.hid (show Below w.heap.size w (w.alloc (.cells #[.int .i8 m.bd.wd, .int .i8 m.bd.hg, .slice sa m.bd.ps.length scap, .slice ia m.ins.length icap, .slice oa m.outs.length ocap] 40)) from bl_alloc (Below.refl _ _))
  rcases Bool.eq_false_or_eq_true (vMc m) with g1 | g1
  · have HC : Hid (mCode m = 0) := Lib.hid (by unfold mCode; rw [if_pos g1])
    have HL : Hid (mtList m = mTabI m) := Lib.hid (by unfold mtList; rw [if_pos g1])
    have HLN : Hid ((mTabI m).length = m.outs.length) := Lib.hid (mTabI_len m)
    rw [HC.out, HL.out, HLN.out]
    rw [g1] at HVM
    have HWK := Lib.hid (fun w1 (hb : Below (w.alloc (.cells #[.int .i8 m.bd.wd, .int .i8 m.bd.hg, .slice sa m.bd.ps.length scap, .slice ia m.ins.length icap, .slice oa m.outs.length ocap] 40)).heap.size (w.alloc (.cells #[.int .i8 m.bd.wd, .int .i8 m.bd.hg, .slice sa m.bd.ps.length scap, .slice ia m.ins.length icap, .slice oa m.outs.length ocap] 40)) w1) => worksOf_any w.heap.size m w1 (HM.out.step hb) g1 hok)
    have HTB := Lib.hid (fun w1 g (hw : WkAt w1 g w.heap.size m) => wtables_any g w.heap.size m w1 hw g1 hok)
    clear g1 HC HL HLN
    go_enter Tryz.func29, Tryz.ntmps29
    go_wp2_with fail
    refine (HVM.out _ HBA.out).mono ?_
    rintro e w1 ⟨rfl, hb1⟩
    have HB1 := Lib.hid (bl_trans HBA.out hb1)
    have HWC := Lib.hid (HWK.out w1 hb1)
    clear hb1
    go_wp2_with fail
    refine HWC.out.mono ?_
    rintro e w2 ⟨g, rfl, hg, hwk, hb2⟩
    have HB2 := Lib.hid (bl_trans HB1.out hb2)
    have HTC := Lib.hid (HTB.out w2 g hwk)
    clear hwk hb2
    go_wp2_with fail
    refine HTC.out.mono ?_
    rintro e w3 ⟨v2, rfl, hown, hb3⟩
    have hown2 := own_mono (base := w.heap.size) hown HB2.out.size
    go_wp2
    go_ret2
    exact ⟨_, rfl, hown2, bl_trans HB2.out hb3⟩
  · have HC : Hid (mCode m = 1) := Lib.hid (by unfold mCode; rw [if_neg (by simp [g1])])
    have HL : Hid (mtList m = []) := Lib.hid (by unfold mtList; rw [if_neg (by simp [g1])])
    rw [HC.out, HL.out]
    rw [g1] at HVM
    clear g1 HC HL
    go_enter Tryz.func29, Tryz.ntmps29
    go_wp2_with fail
    refine (HVM.out _ HBA.out).mono ?_
    rintro e w1 ⟨rfl, hb1⟩
    have hb01 := bl_trans HBA.out hb1
    go_wp2
    go_ret2
    exact ⟨_, rfl, World.ownsRow_nil _ _ _ _, hb01⟩
theorem specTicksIn_any (m : Mc) (v : Value) (row : Int) (al : Option Addr) (capl : Nat) (late : List Int) (w : World) (h : MV w v m) (hok : m.ok) (hn : m.bd.ps.length ≤ 10000000) (hn1 : m.ins.length ≤ 10000000) (hn2 : m.outs.length ≤ 10000000) (hs : SlAt w.heap.size w al (flat N64_cells late)) (hln : late.length ≤ 10000000) :
    Calls Tryz.prog 23 #[v, .int .i64 row, .slice al late.length capl] w fun e w' => ∃ v, e = .returned (.tuple #[v, .int .i64 (mAsk m row late)]) ∧ w'.ownsRow w.heap.size 2 1 v (tiList m row late).length (flat N64_cells (tiList m row late)) ∧ Below w.heap.size w w' := by
  obtain ⟨s, si, so, rfl, h0, h1, h2⟩ := h
  have HM := Lib.hid (MP.new (m := m) (w := w) h0 h1 h2 40)
  have HBA := Lib.hid (show Below w.heap.size w (w.alloc (.cells #[.int .i8 m.bd.wd, .int .i8 m.bd.hg, s, si, so] 40)) from bl_alloc (Below.refl _ _))
  have HASK := Lib.hid (l03Asked_any (B := w.heap.size) w.heap.size m row al capl late _ HM.out hok hn hn1 hn2 (hs.below HBA.out (Nat.le_refl _)) HBA.out.size hln)
  have HA0 := Lib.hid (mAsk_0 m row late)
  have HOI : Hid (tiList m row late = if mAsk m row late = 0 then mTk m row.toNat late else []) := Lib.hid rfl
  obtain ⟨c, hc⟩ : ∃ c, c = mAsk m row late := ⟨_, rfl⟩
  rw [← hc] at HASK HA0 HOI ⊢
  clear hc
  by_cases hc0 : c = 0
  · obtain ⟨hv, hll, hlo, r, rfl, hr⟩ := HA0.out hc0
    obtain ⟨-, -, hi1, hi6, ho1, ho8, -⟩ := vMc_parts m hv
    have hR64 := mRows_le m hi6
    subst hc0
    have HV : Hid (tiList m r late = mTk m r late) := Lib.hid (by rw [HOI.out, if_pos rfl]; rfl)
    rw [HV.out]
    have HTI := Lib.hid (fun w1 (hb : Below (w.alloc (.cells #[.int .i8 m.bd.wd, .int .i8 m.bd.hg, s, si, so] 40)).heap.size (w.alloc (.cells #[.int .i8 m.bd.wd, .int .i8 m.bd.hg, s, si, so] 40)) w1) => l03Ticks_any (B := w.heap.size) w.heap.size m r al capl late w1 (HM.out.step hb) hv hok hll hlo (hs.below (bl_trans HBA.out hb) (Nat.le_refl _)) (bl_trans HBA.out hb).size (by omega))
    rw [hll] at HASK ⊢
    clear HOI HV HA0 hs hll
    go_enter Tryz.func23, Tryz.ntmps23
    go_wp2_with fail
    refine HASK.out.mono ?_
    rintro e w1 ⟨rfl, hb1⟩
    have HB1 := Lib.hid (bl_trans HBA.out hb1)
    have HTC := Lib.hid (HTI.out w1 hb1)
    clear hb1
    go_wp2_with fail
    refine HTC.out.mono ?_
    rintro e w2 ⟨v2, rfl, hown, hb2⟩
    have hown2 := own_mono (base := w.heap.size) hown HB1.out.size
    go_wp2
    go_ret2
    exact ⟨_, rfl, hown2, bl_trans HB1.out hb2⟩
  · have HV : Hid (tiList m row late = []) := Lib.hid (by rw [HOI.out, if_neg hc0])
    rw [HV.out]
    have gne : (c != 0) = true := by simpa using hc0
    clear HOI HV HA0 hc0 hs
    go_enter Tryz.func23, Tryz.ntmps23
    go_wp2_with fail
    refine HASK.out.mono ?_
    rintro e w1 ⟨rfl, hb1⟩
    have hb01 := bl_trans HBA.out hb1
    have hown := World.ownsRow_made (e := 2) (size := 1) w1 #[] 0 (Nat.le_refl _) (by simp [maxLen]) rfl
    have hown2 := own_mono (base := w.heap.size) hown hb01.size
    go_wp2
    go_ret2
    exact ⟨_, rfl, hown2, bl_alloc hb01⟩
theorem ticksIn_any (m : Mc) (v : Value) (row : Int) (al : Option Addr) (capl : Nat) (late : List Int) (w : World) (h : MVc w v m) (hok : m.ok) (hn : m.bd.ps.length ≤ 10000000) (hn1 : m.ins.length ≤ 10000000) (hn2 : m.outs.length ≤ 10000000) (hs : SlAt w.heap.size w al (flat N64_cells late)) (hln : late.length ≤ 10000000) :
    Calls Tryz.prog 24 #[v, .int .i64 row, .slice al late.length capl] w fun e w' => ∃ v, e = .returned (.tuple #[v, .int .i64 (mAsk m row late)]) ∧ w'.ownsRow w.heap.size 2 1 v (tiList m row late).length (flat N64_cells (tiList m row late)) ∧ Below w.heap.size w w' := by
  have HL := Lib.hid (fun w1 (hb : Below w.heap.size w w1) => lateOk_any m v row al capl late w1 (h.step hb) hok hn hn1 hn2 ((hs.below hb (Nat.le_refl _)).mono hb.size) hln)
  obtain ⟨sa, scap, ia, icap, oa, ocap, rfl, hcap, hps, hins, houts⟩ := h
  have HM := Lib.hid (MP.new (m := m) (w := w) ⟨sa, scap, rfl, hps⟩ ⟨ia, icap, rfl, hins⟩ ⟨oa, ocap, rfl, houts⟩ 40)
  have HBA := Lib.hid (show Below w.heap.size w (w.alloc (.cells #[.int .i8 m.bd.wd, .int .i8 m.bd.hg, .slice sa m.bd.ps.length scap, .slice ia m.ins.length icap, .slice oa m.outs.length ocap] 40)) from bl_alloc (Below.refl _ _))
  have HA0 := Lib.hid (mAsk_0 m row late)
  have HOI : Hid (tiList m row late = if mAsk m row late = 0 then mTk m row.toNat late else []) := Lib.hid rfl
  obtain ⟨c, hc⟩ : ∃ c, c = mAsk m row late := ⟨_, rfl⟩
  rw [← hc] at HL HA0 HOI ⊢
  clear hc
  by_cases hc0 : c = 0
  · obtain ⟨hv, hll, hlo, r, rfl, hr⟩ := HA0.out hc0
    obtain ⟨-, -, hi1, hi6, ho1, ho8, -⟩ := vMc_parts m hv
    have hR64 := mRows_le m hi6
    subst hc0
    have HV : Hid (tiList m r late = mTk m r late) := Lib.hid (by rw [HOI.out, if_pos rfl]; rfl)
    rw [HV.out]
    have HWK := Lib.hid (fun w1 (hb : Below (w.alloc (.cells #[.int .i8 m.bd.wd, .int .i8 m.bd.hg, .slice sa m.bd.ps.length scap, .slice ia m.ins.length icap, .slice oa m.outs.length ocap] 40)).heap.size (w.alloc (.cells #[.int .i8 m.bd.wd, .int .i8 m.bd.hg, .slice sa m.bd.ps.length scap, .slice ia m.ins.length icap, .slice oa m.outs.length ocap] 40)) w1) => worksOf_any w.heap.size m w1 (HM.out.step hb) hv hok)
    have HF := Lib.hid (fun w1 g (hb : Below w.heap.size w w1) (hw : WkAt w1 g w.heap.size m) => wfalls_any g w.heap.size m r (.slice al late.length capl) late w1 hw hv hok (lateV_of ((hs.below hb (Nat.le_refl _)).mono hb.size) hll hi1 hlo) (by omega))
    have HTK : Hid (mTk m r late = m.outs.map (tkAt m.bd.ps (mFa m r late))) := Lib.hid rfl
    have HLT : Hid ((mTk m r late).length = m.outs.length) := Lib.hid (mTk_len m r late)
    have HOF := Lib.hid (fun k hk => out_fnd m hv k hk)
    have HFL := Lib.hid (mFa_len m r late)
    have HMO : Hid (∀ k (hk : k < (m.outs.map (outF m.bd.ps)).length) (h2 : k < m.outs.length), (m.outs.map (outF m.bd.ps))[k] = fnd m.outs[k] m.bd.ps) := Lib.hid (by intro k hk h2; simp [outF])
    have HML : Hid ((m.outs.map (outF m.bd.ps)).length = m.outs.length) := Lib.hid (by simp)
    obtain ⟨fs, hfs⟩ : ∃ fs, fs = mFa m r late := ⟨_, rfl⟩
    obtain ⟨ts, hts⟩ : ∃ ts, ts = mTk m r late := ⟨_, rfl⟩
    rw [← hfs] at HF HFL HTK
    rw [← hts] at HTK HLT ⊢
    clear HOI HV HA0 hs hll hfs hts
    obtain ⟨i0, hi0, hiz0, hiz1, hiz2⟩ := info_parts Tryz.infoInt64
    go_enter Tryz.func24, Tryz.ntmps24
    go_wp2_with fail
    refine (HL.out _ HBA.out).mono ?_
    rintro e w1 ⟨rfl, hb1⟩
    have HB1 := Lib.hid (bl_trans HBA.out hb1)
    have HWC := Lib.hid (HWK.out w1 hb1)
    clear hb1
    go_wp2_with fail
    refine HWC.out.mono ?_
    rintro e w2 ⟨g, rfl, hg, hwk, hb2⟩
    have HB2 := Lib.hid (bl_trans HB1.out hb2)
    have HBX := Lib.hid (show Below w2.heap.size w2 (w2.alloc (.cells #[] 2)) from bl_alloc (Below.refl _ _))
    have hown0 := World.ownsRow_made (e := 2) (size := 1) w2 #[] 0 (Nat.le_refl _) (by simp [maxLen]) rfl
    have HO0 := Lib.hid (own_mono (base := w.heap.size) hown0 HB2.out.size)
    have HFC := Lib.hid (HF.out (w2.alloc (.cells #[] 2)) g (bl_trans HB2.out HBX.out) (hwk.step HBX.out))
    have HWK2 := Lib.hid (hwk.step HBX.out)
    have hg2 := hwk.1
    clear hwk hb2 hown0 HF HWK HL
    go_wp2_with fail
    refine HFC.out.mono ?_
    rintro e w3 ⟨v3, rfl, hown, hb3⟩
    obtain ⟨av, capv, hve, hsl, -, -⟩ := own_at hown
    subst hve
    have HB3 := Lib.hid (bl_trans (bl_trans HB2.out HBX.out) hb3)
    have HO3 := Lib.hid (own_below HO0.out hb3 (Nat.le_refl _))
    obtain ⟨hgl, -, -, -, ⟨ao, capo, c3, hso⟩⟩ := HWK2.out
    have d3 : w3.cell? ⟨g, 3, none⟩ = some (.slice ao m.outs.length capo) := by rw [hb3.cell (p := ⟨_, _, none⟩) hgl]; exact c3
    have hso2 := hso.below hb3 (Nat.le_refl _)
    have hz3 := hb3.size
    simp at hz3
    simp only [World.size_alloc] at hso2
    have hz03 := HB3.out.size
    clear hown hb3 HFC hso c3 HO0 hgl HWK2
    go_wp2
    go_loopw [10, 32] (fun ox ix wr => ∃ k : Nat, k ≤ m.outs.length ∧ ix = .int .i64 k ∧ ((k = 0 ∧ ox = .slice (some ⟨w2.heap.size, 0, none⟩) 0 0) ∨ wr.ownsRow w3.heap.size 2 1 ox k (flat N64_cells ((m.outs.take k).map (tkAt m.bd.ps fs)))) ∧ Below w3.heap.size w3 wr) (fun _ ix _ => m.outs.length - (intOf ix).toNat)
    case atStart => exact ⟨0, by omega, rfl, .inl ⟨rfl, rfl⟩, Below.refl _ _⟩
    case round =>
      obtain ⟨k, hk, rfl, hown, hb⟩ := hrel
      by_cases hlt : k < m.outs.length
      · obtain ⟨f, hf, hfl⟩ := HOF.out k hlt
        have hff : f < fs.length := by rw [HFL.out]; exact hfl
        have hkm : k < (m.outs.map (outF m.bd.ps)).length := by rw [HML.out]; exact hlt
        obtain ⟨bo, offo, rfl, hbo, hato⟩ := ints_get hso2 hkm
        rw [HMO.out k hkm hlt, hf] at hato
        have hzb := hb.size
        have q0 : wr.cell? ⟨bo, offo + k, none⟩ = some (.int .i64 (f : Int)) := by rw [hb.cell (p := ⟨_, _, none⟩) (show bo < w3.heap.size by omega)]; exact hato
        obtain ⟨bf, offf, rfl, hbf, hatf⟩ := fas_get hsl hff
        have q1 : wr.cell? ⟨bf, offf + f * 3, none⟩ = some (.int .i64 fs[f].t) := by rw [hb.cell (p := ⟨_, _, none⟩) hbf]; exact hatf.1
        have HTV : Hid (tkAt m.bd.ps fs m.outs[k] = fs[f].t) := Lib.hid (by unfold tkAt; rw [hf, Int.toNat_natCast, getD_fa fs f hff])
        have HTN : Hid ((m.outs.take (k + 1)).map (tkAt m.bd.ps fs) = (m.outs.take k).map (tkAt m.bd.ps fs) ++ [fs[f].t]) := Lib.hid (by rw [List.take_succ_eq_append_getElem hlt, List.map_append, ← HTV.out]; rfl)
        obtain ⟨T, hT⟩ : ∃ T, T = fs[f].t := ⟨_, rfl⟩
        rw [← hT] at q1 HTN
        have hfI : (f : Int) < fs.length := by omega
        have hkI : (k : Int) < m.outs.length := by omega
        have hk8 : k < 8 := by omega
        have HBB := Lib.hid hb
        clear hT hato hatf hf hkm HTV hb
        rcases hown with ⟨hk0, rfl⟩ | hown
        · have HK0 := Lib.hid hk0
          clear hk0
          go_wp2_with (at_builtin; go_must (refine wpList_append_first _ rfl _ _ 30 rfl 2 i0 (.int .i64 0) 1 8 Tryz.underlying30 hi0 hiz0 hiz1 hiz2 rfl ⟨w2.heap.size, 0, none⟩ rfl ⟨wr.heap.size, 0, none⟩ 1 1 [.int .i64 T] rfl (sl_newC wr #[.int .i64 T] 2 _ rfl) rfl (by omega) (by unfold maxLen; omega) (by omega) ?_); intro v4 w4 hown3 hgrow; obtain ⟨g4, cap4, rfl, hg4⟩ := own_some hown3)
          have hb4 : Below w3.heap.size w3 w4 := (bl_alloc (o := .cells #[.int .i64 T] 2) HBB.out).grown hgrow (by simp; omega) (fun q hq => by cases hq)
          have hown4 := own_mono (base := w3.heap.size) hown3 (by simp; omega)
          have hown5 : w4.ownsRow w3.heap.size 2 1 (.slice (some ⟨g4, 0, none⟩) 1 cap4) (k + 1) (flat N64_cells ((m.outs.take (k + 1)).map (tkAt m.bd.ps fs))) := by rw [HTN.out, HK0.out, List.take_zero]; exact hown4
          go_roundw
          case rel => exact ⟨k + 1, by omega, by go_num, .inr hown5, hb4⟩
          case measure => simp [intOf]; omega
        · obtain ⟨av2, capv2, hve, -, -, -⟩ := own_at hown
          subst hve
          have HOWN := Lib.hid hown
          clear hown
          go_wp2_with (at_builtin; go_must (refine wpList_append_sl _ rfl _ _ 30 rfl w3.heap.size 2 i0 (.int .i64 0) 1 8 Tryz.underlying30 hi0 hiz0 hiz1 hiz2 rfl (by decide) _ _ _ rfl (own_below HOWN.out (bl_alloc (Below.refl _ _)) (Nat.le_refl _)) (some ⟨wr.heap.size, 0, none⟩) 1 1 [.int .i64 T] rfl (sl_newC wr #[.int .i64 T] 2 _ rfl) rfl (by intro u hu; rw [List.mem_singleton] at hu; subst hu; rfl) (by unfold maxLen; omega) (by omega) (by simp; omega) ?_); intro v4 w4 hown3 hgrow; obtain ⟨g4, cap4, rfl, hg4⟩ := own_some hown3)
          have hb4 : Below w3.heap.size w3 w4 := (bl_alloc (o := .cells #[.int .i64 T] 2) HBB.out).grown hgrow (by simp; omega) (fun q hq => (HOWN.out.lt q hq).1)
          have hcells : flat N64_cells ((m.outs.take k).map (tkAt m.bd.ps fs)) ++ [.int .i64 T] = flat N64_cells ((m.outs.take (k + 1)).map (tkAt m.bd.ps fs)) := by rw [HTN.out, flat_append]; rfl
          rw [hcells] at hown3
          go_roundw
          case rel => exact ⟨k + 1, by omega, by go_num, .inr hown3, hb4⟩
          case measure => simp [intOf]; omega
      · have hkn : k = m.outs.length := by omega
        rcases hown with ⟨hk0, -⟩ | hown
        · omega
        · subst hkn
          obtain ⟨av2, capv2, hve, -, -, -⟩ := own_at hown
          subst hve
          have HRES : Hid ((m.outs.take m.outs.length).map (tkAt m.bd.ps fs) = ts) := Lib.hid (by rw [List.take_length, HTK.out])
          have HOWN2 := own_mono (base := w.heap.size) hown hz03
          clear hown
          go_wp2
          go_ret2
          exact ⟨_, rfl, by rw [HLT.out, ← HRES.out]; exact HOWN2, bl_trans HB3.out hb⟩
  · have HV : Hid (tiList m row late = []) := Lib.hid (by rw [HOI.out, if_neg hc0])
    rw [HV.out]
    have gne : (c != 0) = true := by simpa using hc0
    clear HOI HV HA0 hc0 hs
    go_enter Tryz.func24, Tryz.ntmps24
    go_wp2_with fail
    refine (HL.out _ HBA.out).mono ?_
    rintro e w1 ⟨rfl, hb1⟩
    have hb01 := bl_trans HBA.out hb1
    go_wp2
    go_ret2
    exact ⟨_, rfl, World.ownsRow_nil _ _ _ _, hb01⟩
end Go.Proofs.YtdhjhnbmecbaaaaGreat
/- Rows that are made and written; the cells outside one block. -/
namespace Go.Proofs.YtdhjhnbmecbaaaaGreat
open Go.RowKit
set_option linter.unusedVariables false
set_option linter.unusedSimpArgs false
set_option maxHeartbeats 400000
set_option maxRecDepth 100000
theorem make_i64 (n : Nat) (hn : n ≤ 100000) (w : World) : (Instr.makeSlice 30 (.int .i64 (n : Int)) (.int .i64 (n : Int))).run Tryz.prog w = .ok (.slice (some ⟨w.heap.size, 0, none⟩) n n) (w.alloc (.cells (madeCells (Value.int .i64 0).cells (n * 1)) 2)) := by
  obtain ⟨i0, hi, hz0, hz1, hz2⟩ := info_parts Tryz.infoInt64
  have h := run_make (P := Tryz.prog) w 30 2 i0 (.int .i64 0) Tryz.underlying30 hi hz0 .i64 .i64 n n (by omega) (by omega) (by rw [hz2]; omega) (by omega)
  rw [hz1] at h
  simpa using h
theorem n64_set {w : World} {base g n cap : Nat} {xs : List Int} (h : w.ownsRow base 2 1 (.slice (some ⟨g, 0, none⟩) n cap) n (flat N64_cells xs)) (j : Nat) (x : Int) : (w.setCell ⟨g, j, none⟩ (.int .i64 x)).ownsRow base 2 1 (.slice (some ⟨g, 0, none⟩) n cap) n (flat N64_cells (xs.set j x)) := by
  have h1 := (h.stored j (.int .i64 x)).1
  rw [flatN] at h1 ⊢
  rwa [List.map_set]
/-- The cells outside one block are as they were. -/
def LpK (g : Nat) (a b : World) : Prop := a.heap.size ≤ b.heap.size ∧ ∀ p : Addr, p.block < a.heap.size → p.block ≠ g → b.cell? p = a.cell? p
theorem LpK.refl (g : Nat) (a : World) : LpK g a a := ⟨Nat.le_refl _, fun _ _ _ => rfl⟩
theorem LpK.grown {g : Nat} {a b c : World} {row : Option Nat} (h : LpK g a b) (k : b.grownBy c row) (hr : ∀ q, row = some q → q = g) : LpK g a c :=
  ⟨Nat.le_trans h.1 k.size, fun p hp hn => (k.cell_far p (Nat.lt_of_lt_of_le hp h.1) (fun e => hn (hr _ e.symm))).trans (h.2 p hp hn)⟩
theorem grown_set (w : World) (g j : Nat) (v : Value) : w.grownBy (w.setCell ⟨g, j, none⟩ v) (some g) :=
  ⟨rfl, rfl, rfl, by simp, fun k _ hk => heap_setCell_other w ⟨g, j, none⟩ k v (fun e => hk (by simp [e]))⟩
theorem LpK.set {g : Nat} {a b : World} (h : LpK g a b) (j : Nat) (v : Value) : LpK g a (b.setCell ⟨g, j, none⟩ v) := h.grown (grown_set b g j v) (fun q e => by cases e; rfl)
theorem LpK.below {g : Nat} {a b c : World} (h : LpK g a b) (k : Below b.heap.size b c) : LpK g a c :=
  ⟨Nat.le_trans h.1 k.size, fun p hp hn => (k.cell (p := p) (Nat.lt_of_lt_of_le hp h.1)).trans (h.2 p hp hn)⟩
theorem own_made (w : World) (cur : Array Value) (n : Nat) (e : TypeId) (size base : Nat) (hb : base ≤ w.heap.size) (hm : n ≤ maxLen) (hs : cur.size = n * size) :
    (w.alloc (.cells cur e)).ownsRow base e size (.slice (some ⟨w.heap.size, 0, none⟩) n n) n cur.toList :=
  ⟨by simp [hs], .inr ⟨w.heap.size, n, cur, rfl, hb, heap_alloc_new w _, Nat.le_refl _, hm, hs, by rw [List.take_of_length_le]; simp [hs]⟩⟩
end Go.Proofs.YtdhjhnbmecbaaaaGreat
/- Contracts: LoadedParts (the reference). -/
namespace Go.Proofs.YtdhjhnbmecbaaaaGreat
open Go.RowKit
set_option linter.unusedVariables false
set_option linter.unusedSimpArgs false
set_option maxHeartbeats 400000
set_option maxRecDepth 100000
def lpAt (c : Nat → Nat → Int) (k : Nat) : Nat → Int
  | 0 => 0
  | r + 1 => lpAt c k r + c r k
def lpSt (c : Nat → Nat → Int) (n r i : Nat) : List Int := (List.range n).map (fun k => lpAt c k (if k < i then r + 1 else r))
theorem lpSt_len (c : Nat → Nat → Int) (n r i : Nat) : (lpSt c n r i).length = n := by simp [lpSt]
theorem lpSt_get (c : Nat → Nat → Int) (n r i j : Nat) (hj : j < n) : (lpSt c n r i)[j]'(by rw [lpSt_len]; exact hj) = lpAt c j (if j < i then r + 1 else r) := by simp [lpSt]
theorem lpSt_end (c : Nat → Nat → Int) (n r : Nat) : lpSt c n r n = lpSt c n (r + 1) 0 := by
  unfold lpSt
  apply List.map_congr_left
  intro j hj
  rw [List.mem_range] at hj
  rw [if_pos hj, if_neg (by omega)]
theorem lpSt_zero (c : Nat → Nat → Int) (n : Nat) : lpSt c n 0 0 = zeros n := by
  unfold lpSt zeros
  apply List.ext_getElem
  · simp
  · intro i h1 h2
    simp [lpAt]
theorem lpSt_set (c : Nat → Nat → Int) (n r i : Nat) (hi : i < n) : (lpSt c n r i).set i (lpAt c i r + c r i) = lpSt c n r (i + 1) := by
  apply List.ext_getElem
  · simp [lpSt]
  · intro j h1 h2
    have hj : j < n := by rw [lpSt_len] at h2; exact h2
    rw [List.getElem_set, lpSt_get c n r (i + 1) j hj]
    by_cases e : i = j
    · subst e; rw [if_pos rfl, if_pos (by omega)]; rfl
    · rw [if_neg e, lpSt_get c n r i j hj]
      by_cases h3 : j < i
      · rw [if_pos h3, if_pos (by omega)]
      · rw [if_neg h3, if_neg (by omega)]
theorem lpSt_same (c : Nat → Nat → Int) (n r i : Nat) (hi : i < n) (h : c r i = 0) : lpSt c n r (i + 1) = lpSt c n r i := by
  rw [← lpSt_set c n r i hi]
  apply List.ext_getElem (by simp)
  intro j h1 h2
  rw [List.getElem_set]
  split
  · rename_i e; subst e; rw [lpSt_get c n r _ _ hi, if_neg (by omega), h]; omega
  · rfl
theorem lpAt_bd (c : Nat → Nat → Int) (hc : ∀ r k, 0 ≤ c r k ∧ c r k ≤ 1) (k : Nat) : ∀ r : Nat, 0 ≤ lpAt c k r ∧ lpAt c k r ≤ r
  | 0 => ⟨Int.le_refl _, Int.le_refl _⟩
  | r + 1 => by
    have h1 := lpAt_bd c hc k r
    have h2 := hc r k
    show 0 ≤ lpAt c k r + c r k ∧ lpAt c k r + c r k ≤ ((r + 1 : Nat) : Int)
    omega
noncomputable def lpC (m : Mc) (r k : Nat) : Int := if 0 ≤ ((mFa m r (zeros m.ins.length)).getD k default).t then 1 else 0
theorem lpC_bd (m : Mc) (r k : Nat) : 0 ≤ lpC m r k ∧ lpC m r k ≤ 1 := by unfold lpC; split <;> omega
noncomputable def lpVal (m : Mc) : List Int := if vMc m = true then lpSt (lpC m) m.bd.ps.length (mRows m) 0 else []
theorem lpVal_len (m : Mc) : (lpVal m).length ≤ m.bd.ps.length := by unfold lpVal; split; rw [lpSt_len]; exact Nat.le_refl _; exact Nat.zero_le _
set_option maxHeartbeats 1600000 in
theorem specLoadedParts_any (m : Mc) (v : Value) (w : World) (h : MV w v m) (hok : m.ok) (hn : m.bd.ps.length ≤ 10000000) (hn1 : m.ins.length ≤ 10000000) (hn2 : m.outs.length ≤ 10000000) :
    Calls Tryz.prog 39 #[v] w fun e w' => ∃ v, e = .returned (.tuple #[v, .int .i64 (mCode m)]) ∧ w'.ownsRow w.heap.size 2 1 v (lpVal m).length (flat N64_cells (lpVal m)) ∧ Below w.heap.size w w' := by
  obtain ⟨s, si, so, rfl, ⟨aa, capa, rfl, h0⟩, ⟨ai, capi, rfl, h1⟩, h2⟩ := h
  have HM := Lib.hid (MP.new (m := m) (w := w) ⟨aa, capa, rfl, h0⟩ ⟨ai, capi, rfl, h1⟩ h2 40)
  have HBA := Lib.hid (show Below w.heap.size w (w.alloc (.cells #[.int .i8 m.bd.wd, .int .i8 m.bd.hg, .slice aa m.bd.ps.length capa, .slice ai m.ins.length capi, so] 40)) from bl_alloc (Below.refl _ _))
  have HXB := Lib.hid (BX5.new w (.int .i8 m.bd.wd) (.int .i8 m.bd.hg) (.slice aa m.bd.ps.length capa) (.slice ai m.ins.length capi) so 40)
  have HOK := Lib.hid (l03Ok_any w.heap.size m _ HM.out hok hn hn1 hn2)
  rcases Bool.eq_false_or_eq_true (vMc m) with g1 | g1
  · obtain ⟨hvb, h60, hi1, hi6, ho1, ho8, -⟩ := vMc_parts m g1
    have HC : Hid (mCode m = 0) := Lib.hid (by unfold mCode; rw [if_pos g1])
    have HLV : Hid (lpVal m = lpSt (lpC m) m.bd.ps.length (mRows m) 0) := Lib.hid (by unfold lpVal; rw [if_pos g1])
    have HLL : Hid ((lpSt (lpC m) m.bd.ps.length (mRows m) 0).length = m.bd.ps.length) := Lib.hid (lpSt_len _ _ _ _)
    rw [HC.out, HLV.out, HLL.out]
    rw [g1] at HOK
    have HRO := Lib.hid (fun w1 (hb : Below (w.alloc (.cells #[.int .i8 m.bd.wd, .int .i8 m.bd.hg, .slice aa m.bd.ps.length capa, .slice ai m.ins.length capi, so] 40)).heap.size (w.alloc (.cells #[.int .i8 m.bd.wd, .int .i8 m.bd.hg, .slice aa m.bd.ps.length capa, .slice ai m.ins.length capi, so] 40)) w1) => l03Rows_any w.heap.size m w1 (HM.out.step hb) hi6)
    have HPU := Lib.hid (fun w1 (hb : Below (w.alloc (.cells #[.int .i8 m.bd.wd, .int .i8 m.bd.hg, .slice aa m.bd.ps.length capa, .slice ai m.ins.length capi, so] 40)).heap.size (w.alloc (.cells #[.int .i8 m.bd.wd, .int .i8 m.bd.hg, .slice aa m.bd.ps.length capa, .slice ai m.ins.length capi, so] 40)) w1) (r : Nat) (hr : r < 64) a (hs : SlAt w1.heap.size w1 a (flat N64_cells (zeros m.ins.length))) => l03Pushes_any (B := w1.heap.size) w.heap.size m r a m.ins.length (zeros m.ins.length) w1 (HM.out.step hb) hi6 (by simp [zeros]) (zeros_ok _) hs (Nat.le_refl _) hr)
    have HRU := Lib.hid (fun (r : Nat) w1 (hb : Below (w.alloc (.cells #[.int .i8 m.bd.wd, .int .i8 m.bd.hg, .slice aa m.bd.ps.length capa, .slice ai m.ins.length capi, so] 40)).heap.size (w.alloc (.cells #[.int .i8 m.bd.wd, .int .i8 m.bd.hg, .slice aa m.bd.ps.length capa, .slice ai m.ins.length capi, so] 40)) w1) ap capp (hsp : SlAt w1.heap.size w1 ap (flat Pu.cells (mPu m r (zeros m.ins.length)))) => by
      obtain ⟨o1, o2, o3, o4⟩ := mPu_ok m g1 hok r (zeros m.ins.length) (zeros_ok _)
      exact l02Run_any (B := w1.heap.size) w.heap.size m.bd ap capp (mPu m r (zeros m.ins.length)) w1 (HM.out.step hb).bp hvb hsp o1 o2 o3 o4 (Nat.le_refl _))
    have HEQ : Hid (∀ (r : Nat) fs2, okFa m.bd.ps (mPu m r (zeros m.ins.length)) fs2 → fs2 = mFa m r (zeros m.ins.length)) := Lib.hid (fun r fs2 h => by
      obtain ⟨o1, o2, o3, o4⟩ := mPu_ok m g1 hok r (zeros m.ins.length) (zeros_ok _)
      exact (runOf_eq _ _ _ (good_bd m.bd hvb _ o2) h))
    have HFL := Lib.hid (fun (r : Nat) => mFa_len m r (zeros m.ins.length))
    have HCC : Hid (∀ r k (hk : k < (mFa m r (zeros m.ins.length)).length), lpC m r k = if 0 ≤ (mFa m r (zeros m.ins.length))[k].t then 1 else 0) := Lib.hid (fun r k hk => by unfold lpC; rw [getD_fa _ _ hk])
    have HBD := Lib.hid (lpAt_bd (lpC m) (lpC_bd m))
    have hR64 := mRows_le m hi6
    obtain ⟨R, hRR⟩ : ∃ R, R = mRows m := ⟨_, rfl⟩
    rw [← hRR] at HRO hR64 ⊢
    obtain ⟨c, hc⟩ : ∃ c, c = lpC m := ⟨_, rfl⟩
    rw [← hc] at HCC HBD ⊢
    clear g1 HC HLV HLL hRR hc
    obtain ⟨res, hres⟩ : ∃ res, res = lpSt c m.bd.ps.length R 0 := ⟨_, rfl⟩
    rw [← hres]
    have HRES := Lib.hid hres
    clear hres
    obtain ⟨i0, hi0, hiz0, hiz1, hiz2⟩ := info_parts Tryz.infoInt64
    go_enter Tryz.func39, Tryz.ntmps39
    go_wp2_with fail
    refine HOK.out.mono ?_
    rintro e w1 ⟨rfl, hb1⟩
    have HB1 := Lib.hid hb1
    obtain ⟨-, -, -, x2, x3, -⟩ := HXB.out.step hb1
    have hz1 := hb1.size
    simp only [World.size_alloc] at hz1
    have q0 : w.heap.size < w1.heap.size := by omega
    clear hb1
    go_wp2_with (first | (refine wpList_make_full _ rfl (.tmp 14) (.tmp 14) 30 rfl w1.heap.size 2 i0 _ 1 Tryz.underlying30 hi0 hiz0 hiz1 _ _ _ _ m.ins.length rfl rfl rfl rfl (by rw [hiz2]; omega) (by unfold maxLen; omega) (Nat.le_refl _) ?_; intro w2 hmade2 hgrow2; have hb2 : Below w1.heap.size w1 w2 := bl_grown (Below.refl _ _) hgrow2 (by simp); have y2 : w2.cell? ⟨w.heap.size, 2, none⟩ = some (.slice aa m.bd.ps.length capa) := by rw [hb2.cell (p := ⟨w.heap.size, 2, none⟩) q0]; exact x2) | (refine wpList_make_full _ rfl (.tmp 19) (.tmp 19) 30 rfl w2.heap.size 2 i0 _ 1 Tryz.underlying30 hi0 hiz0 hiz1 _ _ _ _ m.bd.ps.length rfl rfl rfl rfl (by rw [hiz2]; omega) (by unfold maxLen; omega) (Nat.le_refl _) ?_; intro w3 hmade hgrow))
    rw [made_rep _ rfl, ← flat_zeros] at hmade2
    obtain ⟨az, capz, hvz, hslz, -, -⟩ := own_at hmade2
    simp only [Value.slice.injEq] at hvz
    obtain ⟨rfl, -, rfl⟩ := hvz
    have HSZ := Lib.hid hslz
    have HB2 := Lib.hid (bl_trans HB1.out hb2)
    have hz2 := hb2.size
    rw [made_rep _ rfl, ← flat_zeros, ← lpSt_zero c] at hmade
    have hb3 : Below w2.heap.size w2 w3 := bl_grown (Below.refl _ _) hgrow (by simp)
    have HSZ3 := Lib.hid (HSZ.out.below hb3 (Nat.le_refl _))
    have HB3 := Lib.hid (bl_trans HB2.out hb3)
    have HMD := Lib.hid hmade
    have HBR := Lib.hid hb3
    have hz3 := hb3.size
    clear hmade hgrow hb3 y2 hmade2 hgrow2 hslz hb2 x2 x3
    go_loopw [6] (fun rx wr => ∃ r : Nat, r ≤ R ∧ rx = .int .i64 r ∧ wr.ownsRow w2.heap.size 2 1 (.slice (some ⟨w2.heap.size, 0, none⟩) m.bd.ps.length m.bd.ps.length) m.bd.ps.length (flat N64_cells (lpSt c m.bd.ps.length r 0)) ∧ Below w2.heap.size w2 wr) (fun rx _ => R - (intOf rx).toNat)
    case atStart => exact ⟨0, by omega, rfl, HMD.out, HBR.out⟩
    case round =>
      obtain ⟨r, hr, rfl, hown, hb⟩ := hrel
      have hwlt := (hown.lt w2.heap.size rfl).2
      have HOWN := Lib.hid hown
      clear hown
      by_cases hlt : r < R
      · have HBW := Lib.hid (bl_trans HB2.out hb)
        have hzb := hb.size
        have HPC := Lib.hid (HPU.out wr HBW.out r (by omega) _ ((HSZ.out.below hb (Nat.le_refl _)).mono hzb))
        have hrI : (r : Int) < R := by omega
        have HBB := Lib.hid hb
        clear hb
        go_wp2_with (go_at_call 80; refine (HRO.out _ HBW.out).mono ?_; rintro e w' ⟨rfl, rfl⟩)
        refine HPC.out.mono ?_
        rintro e w4 ⟨v4, rfl, hown4, hb4⟩
        obtain ⟨ap, capp, rfl, hsp, -⟩ := own_at hown4
        have HB4 := Lib.hid (bl_trans HBW.out hb4)
        have HRC := Lib.hid (HRU.out r w4 HB4.out ap capp hsp)
        have HBB4 := Lib.hid hb4
        clear hown4 hb4 hsp HPC
        go_wp2_with fail
        refine HRC.out.mono ?_
        rintro e w5 ⟨v5, fs2, rfl, hown5, hokf, -, hb5⟩
        have he := HEQ.out r fs2 hokf
        obtain ⟨av, capv, hve, hsl, -, -⟩ := own_at hown5
        subst hve
        have HFA : Hid (∀ q o, (some ⟨q, o, none⟩ : Option Addr) = av → w4.heap.size ≤ q) := Lib.hid (fun q o e => (hown5.lt q (by rw [← e]; rfl)).1)
        have HFLR : Hid (fs2.length = m.bd.ps.length) := Lib.hid (by rw [he]; exact HFL.out r)
        have HCR : Hid (∀ k (hk : k < fs2.length), c r k = if 0 ≤ fs2[k].t then 1 else 0) := Lib.hid (by subst he; exact fun k hk => HCC.out r k hk)
        have hb45 := bl_trans HBB4.out hb5
        have HO5 := Lib.hid (own_below HOWN.out hb45 (Nat.le_refl _))
        have HB5 := Lib.hid (bl_trans HBB.out hb45)
        have hz4 := HBB4.out.size
        have hz5 := hb5.size
        clear hown5 hokf hb5 hb45 he HRC
        obtain ⟨W1, hW1⟩ : ∃ W1, W1 = wr := ⟨_, rfl⟩
        subst hW1
        go_wp2
        go_loopw [8] (fun ix wi => ∃ i : Nat, i ≤ m.bd.ps.length ∧ ix = .int .i64 i ∧ wi.ownsRow w2.heap.size 2 1 (.slice (some ⟨w2.heap.size, 0, none⟩) m.bd.ps.length m.bd.ps.length) m.bd.ps.length (flat N64_cells (lpSt c m.bd.ps.length r i)) ∧ Below w2.heap.size w2 wi ∧ LpK w2.heap.size w5 wi) (fun ix _ => m.bd.ps.length - (intOf ix).toNat)
        case atStart => exact ⟨0, by omega, rfl, HO5.out, HB5.out, LpK.refl _ _⟩
        case round =>
          obtain ⟨i, hi, rfl, hown, hb, hlk⟩ := hrel
          by_cases hlti : i < m.bd.ps.length
          · obtain ⟨k0, k1⟩ := n64_cell hown i (by rw [lpSt_len]; exact hlti)
            rw [lpSt_get c _ r i i hlti, if_neg (by omega)] at k0
            have HOWI := Lib.hid hown
            have hiI : (i : Int) < m.bd.ps.length := by omega
            have hif : i < fs2.length := by rw [HFLR.out]; exact hlti
            have hifI : (i : Int) < fs2.length := by omega
            obtain ⟨bf, offf, rfl, hbf, hatf⟩ := fas_get hsl hif
            have hne := HFA.out bf offf rfl
            obtain ⟨t, ht⟩ : ∃ t, t = fs2[i].t := ⟨_, rfl⟩
            have q1 : wr.cell? ⟨bf, offf + i * 3, none⟩ = some (.int .i64 t) := by rw [hlk.2 ⟨bf, offf + i * 3, none⟩ hbf (by simp only; omega), ht]; exact hatf.1
            have hA := HBD.out i r
            have HST := Lib.hid (lpSt_set c m.bd.ps.length r i hlti)
            have HSM := Lib.hid (lpSt_same c m.bd.ps.length r i hlti)
            have HCI : Hid (c r i = if 0 ≤ t then 1 else 0) := Lib.hid (by rw [ht]; exact HCR.out i hif)
            obtain ⟨Av, hAv⟩ : ∃ Av, Av = lpAt c i r := ⟨_, rfl⟩
            rw [← hAv] at k0 hA HST
            have HLK := Lib.hid hlk
            have HBI := Lib.hid hb
            clear hown hb hlk hatf ht hAv hif
            rcases dec_cases (0 ≤ t) with ⟨g3, k3⟩ | ⟨g3, k3⟩
            · have HV1 : Hid ((lpSt c m.bd.ps.length r i).set i (Av + 1) = lpSt c m.bd.ps.length r (i + 1)) := Lib.hid (by rw [← HST.out, HCI.out, if_pos k3])
              clear k3
              go_wp2
              have how := n64_set HOWI.out i (Av + 1)
              rw [HV1.out] at how
              go_roundw
              case rel => exact ⟨i + 1, by omega, by go_num, how, bl_set HBI.out (Nat.le_refl _) _, HLK.out.set _ _⟩
              case measure => simp [intOf]; omega
            · have HV1 : Hid (lpSt c m.bd.ps.length r (i + 1) = lpSt c m.bd.ps.length r i) := Lib.hid (HSM.out (by rw [HCI.out, if_neg k3]))
              clear k3 k0 k1
              go_wp2
              go_roundw
              case rel => exact ⟨i + 1, by omega, by go_num, by rw [HV1.out]; exact HOWI.out, HBI.out, HLK.out⟩
              case measure => simp [intOf]; omega
          · have hin : i = m.bd.ps.length := by omega
            subst hin
            rw [lpSt_end] at hown
            have HOW2 := Lib.hid hown
            clear hown
            go_wp2
            go_roundw
            case rel => exact ⟨r + 1, by omega, by go_num, HOW2.out, hb⟩
            case measure => simp [intOf]; omega
      · have hrn : r = R := by omega
        subst hrn
        have HBW := Lib.hid (bl_trans HB2.out hb)
        have hown2 := own_mono (base := w.heap.size) HOWN.out (by omega)
        rw [← HRES.out] at hown2
        have HOW2 := Lib.hid hown2
        clear hown2
        go_wp2_with (go_at_call 80; refine (HRO.out _ HBW.out).mono ?_; rintro e w' ⟨rfl, rfl⟩)
        go_ret2
        exact ⟨_, rfl, HOW2.out, bl_trans HBA.out HBW.out⟩
  · have HC : Hid (mCode m = 1) := Lib.hid (by unfold mCode; rw [if_neg (by simp [g1])])
    have HL : Hid (lpVal m = []) := Lib.hid (by unfold lpVal; rw [if_neg (by simp [g1])])
    rw [HC.out, HL.out]
    rw [g1] at HOK
    clear g1 HC HL
    go_enter Tryz.func39, Tryz.ntmps39
    go_wp2_with fail
    refine HOK.out.mono ?_
    rintro e w1 ⟨rfl, hb1⟩
    have hb01 := bl_trans HBA.out hb1
    have hown := World.ownsRow_made (e := 2) (size := 1) w1 #[] 0 (Nat.le_refl _) (by simp [maxLen]) rfl
    have hown2 := own_mono (base := w.heap.size) hown hb01.size
    go_wp2
    go_ret2
    exact ⟨_, rfl, hown2, bl_alloc hb01⟩
end Go.Proofs.YtdhjhnbmecbaaaaGreat
/- Contracts: LoadedParts (the program). -/
namespace Go.Proofs.YtdhjhnbmecbaaaaGreat
open Go.RowKit
set_option linter.unusedVariables false
set_option linter.unusedSimpArgs false
set_option maxHeartbeats 400000
set_option maxRecDepth 100000
theorem gb_alloc {a c : World} {o : Obj} (h : (a.alloc o).grownBy c (some a.heap.size)) : Below a.heap.size a c := by
  have h1 : Below a.heap.size a (a.alloc o) := bl_alloc (Below.refl _ _)
  exact ⟨h.os.trans h1.os, h.tape.trans h1.tape, h.output.trans h1.output, Nat.le_trans h1.size h.size, fun k hk => (h.block k (Nat.lt_of_lt_of_le hk h1.size) (by intro e; cases e; omega)).trans (h1.block k hk)⟩
theorem gb_bl {a b c : World} {q : Nat} (h : a.grownBy b (some q)) (k : Below b.heap.size b c) : a.grownBy c (some q) :=
  ⟨k.os.trans h.os, k.tape.trans h.tape, k.output.trans h.output, Nat.le_trans h.size k.size, fun i hi hn => (k.block i (Nat.lt_of_lt_of_le hi h.size)).trans (h.block i hi hn)⟩
theorem kp_make {w1 w2 : World} {b0 q : Nat} {l : Bd} {sa : Option Addr} {cap : Nat} (hb : Below w1.heap.size w1 w2) (hx : w1.cell? ⟨b0, 2, none⟩ = some (.slice sa l.ps.length cap)) (hb0 : b0 < w1.heap.size) (hps : SlAt w1.heap.size w1 sa (flat Pc.cells l.ps)) (hq : w1.heap.size ≤ q) (hq2 : q < w2.heap.size) : KpPs w2 b0 l q := by
  refine ⟨hq2, fun sa' cap' hc w3 hg => ?_⟩
  rw [hb.cell (p := ⟨b0, 2, none⟩) hb0, hx] at hc
  simp only [Option.some.injEq, Value.slice.injEq, true_and] at hc
  obtain ⟨rfl, -⟩ := hc
  have h3 : Below w1.heap.size w1 w3 := ⟨hg.os.trans hb.os, hg.tape.trans hb.tape, hg.output.trans hb.output, Nat.le_trans hb.size hg.size, fun k hk => (hg.block k (Nat.lt_of_lt_of_le hk hb.size) (by intro e; cases e; omega)).trans (hb.block k hk)⟩
  exact (hps.below h3 (Nat.le_refl _)).mono h3.size
set_option maxHeartbeats 1600000 in
theorem loadedParts_any (m : Mc) (v : Value) (w : World) (h : MVc w v m) (hok : m.ok) (hn : m.bd.ps.length ≤ 10000000) (hn1 : m.ins.length ≤ 10000000) (hn2 : m.outs.length ≤ 10000000) :
    Calls Tryz.prog 40 #[v] w fun e w' => ∃ v, e = .returned (.tuple #[v, .int .i64 (mCode m)]) ∧ w'.ownsRow w.heap.size 2 1 v (lpVal m).length (flat N64_cells (lpVal m)) ∧ Below w.heap.size w w' := by
  have HVM := Lib.hid (fun w1 (hb : Below w.heap.size w w1) => validMachine_any m v w1 (h.step hb) hok hn hn1 hn2)
  obtain ⟨sa, scap, ia, icap, oa, ocap, rfl, hcap, hps, hins, houts⟩ := h
  have HM := Lib.hid (MP.new (m := m) (w := w) ⟨sa, scap, rfl, hps⟩ ⟨ia, icap, rfl, hins⟩ ⟨oa, ocap, rfl, houts⟩ 40)
  have HBA := Lib.hid (show Below w.heap.size w (w.alloc (.cells #[.int .i8 m.bd.wd, .int .i8 m.bd.hg, .slice sa m.bd.ps.length scap, .slice ia m.ins.length icap, .slice oa m.outs.length ocap] 40)) from bl_alloc (Below.refl _ _))
  have HXB := Lib.hid (BX5.new w (.int .i8 m.bd.wd) (.int .i8 m.bd.hg) (.slice sa m.bd.ps.length scap) (.slice ia m.ins.length icap) (.slice oa m.outs.length ocap) 40)
  rcases Bool.eq_false_or_eq_true (vMc m) with g1 | g1
  · obtain ⟨hvb, h60, hi1, hi6, ho1, ho8, -⟩ := vMc_parts m g1
    have HC : Hid (mCode m = 0) := Lib.hid (by unfold mCode; rw [if_pos g1])
    have HLV : Hid (lpVal m = lpSt (lpC m) m.bd.ps.length (mRows m) 0) := Lib.hid (by unfold lpVal; rw [if_pos g1])
    have HLL : Hid ((lpSt (lpC m) m.bd.ps.length (mRows m) 0).length = m.bd.ps.length) := Lib.hid (lpSt_len _ _ _ _)
    rw [HC.out, HLV.out, HLL.out]
    rw [g1] at HVM
    have HWK := Lib.hid (fun w1 (hb : Below (w.alloc (.cells #[.int .i8 m.bd.wd, .int .i8 m.bd.hg, .slice sa m.bd.ps.length scap, .slice ia m.ins.length icap, .slice oa m.outs.length ocap] 40)).heap.size (w.alloc (.cells #[.int .i8 m.bd.wd, .int .i8 m.bd.hg, .slice sa m.bd.ps.length scap, .slice ia m.ins.length icap, .slice oa m.outs.length ocap] 40)) w1) => worksOf_kp w.heap.size m w1 (HM.out.step hb) g1 hok)
    have HRO := Lib.hid (fun w1 g (hw : WkAt w1 g w.heap.size m) => wrows_any g w.heap.size m w1 hw hi6)
    have HFA := Lib.hid (fun w1 g (hw : WkAt w1 g w.heap.size m) (r : Nat) (hr : r < 64) => wfalls_any g w.heap.size m r (.slice none 0 0) (zeros m.ins.length) w1 hw g1 hok (LateV.nil w1 _) hr)
    have HGE := Lib.hid (fun (r : Nat) => mFa_ge m r (zeros m.ins.length))
    have HFL := Lib.hid (fun (r : Nat) => mFa_len m r (zeros m.ins.length))
    have HCC : Hid (∀ r k (hk : k < (mFa m r (zeros m.ins.length)).length), lpC m r k = if 0 ≤ (mFa m r (zeros m.ins.length))[k].t then 1 else 0) := Lib.hid (fun r k hk => by unfold lpC; rw [getD_fa _ _ hk])
    have HBD := Lib.hid (lpAt_bd (lpC m) (lpC_bd m))
    have hR64 := mRows_le m hi6
    obtain ⟨R, hRR⟩ : ∃ R, R = mRows m := ⟨_, rfl⟩
    rw [← hRR] at HRO hR64 ⊢
    obtain ⟨c, hc⟩ : ∃ c, c = lpC m := ⟨_, rfl⟩
    rw [← hc] at HCC HBD ⊢
    clear g1 HC HLV HLL hRR hc
    obtain ⟨res, hres⟩ : ∃ res, res = lpSt c m.bd.ps.length R 0 := ⟨_, rfl⟩
    rw [← hres]
    have HRES := Lib.hid hres
    clear hres
    have hmk := make_i64 m.bd.ps.length (by omega)
    have hmr := made_rep (.int .i64 0) rfl m.bd.ps.length
    have hms : (madeCells (Value.int .i64 0).cells (m.bd.ps.length * 1)).size = m.bd.ps.length * 1 := by simp [size_madeCells]
    obtain ⟨Z, hZ⟩ : ∃ Z, Z = madeCells (Value.int .i64 0).cells (m.bd.ps.length * 1) := ⟨_, rfl⟩
    rw [← hZ] at hmk hmr hms
    have HMR := Lib.hid hmr
    have HMS := Lib.hid hms
    clear hZ hmr hms
    go_enter Tryz.func40, Tryz.ntmps40
    go_wp2_with fail
    refine (HVM.out _ HBA.out).mono ?_
    rintro e w1 ⟨rfl, hb1⟩
    have HB1 := Lib.hid (bl_trans HBA.out hb1)
    obtain ⟨-, -, -, x2, -, -⟩ := HXB.out.step hb1
    have hz1 := hb1.size
    simp only [World.size_alloc] at hz1
    have q0 : w.heap.size < w1.heap.size := by omega
    have HBI1 := Lib.hid hb1
    have HX2 := Lib.hid x2
    have HPS1 := Lib.hid ((hps.below HB1.out (Nat.le_refl _)).mono HB1.out.size)
    clear hb1
    go_upto_region 3 with fail
    go_cut [4, 5] from 12 to 17 (fun s4 s5 wx => ∃ g q : Nat, s4 = .pointer (some ⟨g, 0, none⟩) ∧ s5 = .slice (some ⟨q, 0, none⟩) m.bd.ps.length m.bd.ps.length ∧ wx.ownsRow w1.heap.size 2 1 (.slice (some ⟨q, 0, none⟩) m.bd.ps.length m.bd.ps.length) m.bd.ps.length (flat N64_cells (lpSt c m.bd.ps.length 0 0)) ∧ Hid (∀ w2, wx.grownBy w2 (some q) → WkAt w2 g w.heap.size m) ∧ Below w1.heap.size w1 wx)
    case first =>
      go_region_held3 (fun w' => Below w1.heap.size w1 w' ∧ ∀ b o, b < w1.heap.size → w'.cell? ⟨b, o, none⟩ = w1.cell? ⟨b, o, none⟩) ((refine ext_s ?_; exact (by repeat (first | with_reducible exact Below.refl _ _ | with_reducible assumption | with_reducible apply bl_drewN | with_reducible apply bl_drew | with_reducible apply bl_alloc | (with_reducible refine bl_set ?_ (by first | (simp; done) | (simp; omega)) _) | with_reducible refine bl_trans ?_ (by with_reducible assumption))))) ((go_at_call 66; refine (HWK.out _ ?_).mono ?_; (exact bl_trans HBI1.out (by repeat (first | with_reducible exact Below.refl _ _ | with_reducible assumption | with_reducible apply bl_drewN | with_reducible apply bl_drew | with_reducible apply bl_alloc | (with_reducible refine bl_set ?_ (by first | (simp; done) | (simp; omega)) _) | with_reducible refine bl_trans ?_ (by with_reducible assumption)))); rintro e w2 ⟨g, rfl, hg, ⟨hwk, hkp⟩, hb2⟩; obtain ⟨hc2, hf2⟩ := bcell hb2; have hz2 := hb2.size))
      all_goals
        go_wp2_with fail
        go_meet
        first
          | exact ⟨g, w1.heap.size, rfl, rfl, by rw [lpSt_zero, flat_zeros, ← HMR.out]; exact own_below (own_below (own_made w1 Z _ _ 1 w1.heap.size (Nat.le_refl _) (by unfold maxLen; omega) HMS.out) (bl_drew (Below.refl _ _)) (Nat.le_refl _)) hb2 (Nat.le_refl _), Lib.hid (hkp w1.heap.size (kp_make (w1 := w1) (by repeat (first | with_reducible exact Below.refl _ _ | with_reducible assumption | with_reducible apply bl_drewN | with_reducible apply bl_drew | with_reducible apply bl_alloc | (with_reducible refine bl_set ?_ (by first | (simp; done) | (simp; omega)) _) | with_reducible refine bl_trans ?_ (by with_reducible assumption))) HX2.out q0 HPS1.out (Nat.le_refl _) (by simp))), (by repeat (first | with_reducible exact Below.refl _ _ | with_reducible assumption | with_reducible apply bl_drewN | with_reducible apply bl_drew | with_reducible apply bl_alloc | (with_reducible refine bl_set ?_ (by first | (simp; done) | (simp; omega)) _) | with_reducible refine bl_trans ?_ (by with_reducible assumption)))⟩
          | exact ⟨g, w2.heap.size, rfl, rfl, by rw [lpSt_zero, flat_zeros, ← HMR.out]; exact own_made w2 Z _ _ 1 w1.heap.size (by have h9 := hb2.size; simp at h9; omega) (by unfold maxLen; omega) HMS.out, Lib.hid (fun w3 hg3 => hwk.step (gb_alloc hg3)), (by repeat (first | with_reducible exact Below.refl _ _ | with_reducible assumption | with_reducible apply bl_drewN | with_reducible apply bl_drew | with_reducible apply bl_alloc | (with_reducible refine bl_set ?_ (by first | (simp; done) | (simp; omega)) _) | with_reducible refine bl_trans ?_ (by with_reducible assumption)))⟩
    case rest =>
      obtain ⟨g, q, rfl, rfl, hown, HK, hb⟩ := hcut
      obtain ⟨wx, hwx⟩ : ∃ wx, wx = wc := ⟨_, rfl⟩
      have hq1 := (hown.lt _ rfl).1
      have hq2 := (hown.lt _ rfl).2
      have HRC := Lib.hid (HRO.out wc g (HK.out _ (World.grownBy.refl _ _)))
      have HST := Lib.hid (And.intro hown (And.intro (World.grownBy.refl wc (some q)) hb))
      rw [← hwx] at HRC HST HK ⊢
      clear hwx hown hb x2
      go_wp2_with (go_at_call 81; refine HRC.out.mono ?_; rintro e w' ⟨rfl, rfl⟩)
      go_loopw [20] (fun rx wr => ∃ r : Nat, r ≤ R ∧ rx = .int .i64 r ∧ wr.ownsRow w1.heap.size 2 1 (.slice (some ⟨q, 0, none⟩) m.bd.ps.length m.bd.ps.length) m.bd.ps.length (flat N64_cells (lpSt c m.bd.ps.length r 0)) ∧ wx.grownBy wr (some q) ∧ Below w1.heap.size w1 wr) (fun rx _ => R - (intOf rx).toNat)
      case atStart => exact ⟨0, by omega, rfl, HST.out.1, HST.out.2.1, HST.out.2.2⟩
      case round =>
        obtain ⟨r, hr, rfl, hown, hgx, hb⟩ := hrel
        by_cases hlt : r < R
        · have HFC := Lib.hid (HFA.out wr g (HK.out wr hgx) r (by omega))
          have HGR := Lib.hid (HGE.out r)
          have HFLR := Lib.hid (HFL.out r)
          have HCR := Lib.hid (HCC.out r)
          obtain ⟨fs, hfs⟩ : ∃ fs, fs = mFa m r (zeros m.ins.length) := ⟨_, rfl⟩
          rw [← hfs] at HFC HGR HFLR
          have HCR2 : Hid (∀ k (hk : k < fs.length), c r k = if 0 ≤ fs[k].t then 1 else 0) := Lib.hid (by subst hfs; exact HCR.out)
          have hrI : (r : Int) < R := by omega
          have HOWN := Lib.hid hown
          have HGX := Lib.hid hgx
          have HB := Lib.hid hb
          have hqr := (hown.lt _ rfl).2
          clear hown hgx hb hfs HCR
          go_wp2_with fail
          refine HFC.out.mono ?_
          rintro e w3 ⟨v3, rfl, hown3, hb3⟩
          have HFB : Hid (∀ k, v3.ownBlock = some k → wr.heap.size ≤ k) := Lib.hid (fun k hk => (hown3.lt k hk).1)
          obtain ⟨av, capv, hve, hsl, -, -⟩ := own_at hown3
          subst hve
          have HFN : Hid (∀ b off, av = some ⟨b, off, none⟩ → b ≠ q) := Lib.hid (fun b off e => by have := HFB.out b (by rw [e]; rfl); omega)
          have HO3 := Lib.hid (own_below HOWN.out hb3 (Nat.le_refl _))
          have HG3 := Lib.hid (gb_bl HGX.out hb3)
          have HB3 := Lib.hid (bl_trans HB.out hb3)
          have HSL := Lib.hid hsl
          rw [HFLR.out]
          clear hown3 hb3 hsl HFC
          obtain ⟨W1, hW1⟩ : ∃ W1, W1 = wr := ⟨_, rfl⟩
          subst hW1
          go_wp2
          go_loopw [27] (fun ix wi => ∃ i : Nat, i ≤ m.bd.ps.length ∧ ix = .int .i64 i ∧ wi.ownsRow w1.heap.size 2 1 (.slice (some ⟨q, 0, none⟩) m.bd.ps.length m.bd.ps.length) m.bd.ps.length (flat N64_cells (lpSt c m.bd.ps.length r i)) ∧ w3.grownBy wi (some q) ∧ Below w1.heap.size w1 wi) (fun ix _ => m.bd.ps.length - (intOf ix).toNat)
          case atStart => exact ⟨0, by omega, rfl, HO3.out, World.grownBy.refl _ _, HB3.out⟩
          case round =>
            obtain ⟨i, hi, rfl, hown, hg3, hb⟩ := hrel
            by_cases hlti : i < m.bd.ps.length
            · have hiI : (i : Int) < m.bd.ps.length := by omega
              have hif : i < fs.length := by rw [HFLR.out]; exact hlti
              obtain ⟨bf, offf, rfl, hbf, hatf⟩ := fas_get HSL.out hif
              have hne := HFN.out bf offf rfl
              unfold FaAt at hatf
              obtain ⟨f0, f1, f2⟩ := hatf
              have HGT := Lib.hid (HGR.out i hif)
              have HCI := Lib.hid (HCR2.out i hif)
              obtain ⟨F, hF⟩ : ∃ F, F = fs[i] := ⟨_, rfl⟩
              rw [← hF] at f0 f1 f2 HGT HCI
              have q0' : wr.cell? ⟨bf, offf + i * 3, none⟩ = _ := hg3.cell f0 (by intro e; cases e; exact hne rfl)
              have q1' : wr.cell? ⟨bf, offf + i * 3 + 1, none⟩ = _ := hg3.cell f1 (by intro e; cases e; exact hne rfl)
              have q2' : wr.cell? ⟨bf, offf + i * 3 + 2, none⟩ = _ := hg3.cell f2 (by intro e; cases e; exact hne rfl)
              have HOW := Lib.hid hown
              have HG := Lib.hid hg3
              have HBb := Lib.hid hb
              have hqw := (hown.lt _ rfl).2
              clear hF f0 f1 f2 hown hg3 hb
              go_upto_region 10 with fail
              obtain ⟨w4, hw4⟩ : ∃ w4, w4 = wr.alloc (.cells #[.int .i64 F.t, .int .i8 F.f, .int .i64 F.b] 100) := ⟨_, rfl⟩
              have ba : Below wr.heap.size wr w4 := by rw [hw4]; exact bl_alloc (Below.refl _ _)
              have e0 : w4.cell? ⟨wr.heap.size, 0, none⟩ = some (.int .i64 F.t) := by rw [hw4]; simp [go_sem]
              rw [← hw4]
              have HO4 := Lib.hid (own_below HOW.out ba (Nat.le_refl _))
              have HG4 := Lib.hid (gb_bl HG.out ba)
              have HB4 := Lib.hid (bl_trans HBb.out ba)
              obtain ⟨b4, hb4⟩ : ∃ b4, b4 = wr.heap.size := ⟨_, rfl⟩
              rw [← hb4] at e0 ⊢
              have hbq : q < b4 := by rw [hb4]; exact hqw
              obtain ⟨k0, k1⟩ := n64_cell HO4.out i (by rw [lpSt_len]; exact hlti)
              rw [lpSt_get c _ r i i hlti, if_neg (Nat.lt_irrefl _)] at k0
              have HST := Lib.hid (lpSt_set c m.bd.ps.length r i hlti)
              have HSM := Lib.hid (lpSt_same c m.bd.ps.length r i hlti)
              have hA := HBD.out i r
              obtain ⟨A, hAe⟩ : ∃ A, A = lpAt c i r := ⟨_, rfl⟩
              rw [← hAe] at k0 hA HST
              obtain ⟨hA0, hA1⟩ := hA
              have hAm : A ≤ 64 := by omega
              clear hw4 hb4 q0' q1' q2' hAe hA1 ba
              rcases Int.decEq F.t (-1) with hne1 | heq1
              · have gf : (F.t != (-1 : Int)) = true := by rw [bne_iff_ne]; exact hne1
                have hge := HGT.out
                have HC1 : Hid (c r i = 1) := Lib.hid (by rw [HCI.out, if_pos (by omega)])
                rw [HC1.out] at HST
                clear hne1 hge
                go_wp2
                have how := n64_set HO4.out i (A + 1)
                rw [HST.out] at how
                go_roundw
                case rel => exact ⟨i + 1, by omega, by go_num, how, grown_trans HG4.out (grown_set _ _ _ _), bl_set HB4.out (by omega) _⟩
                case measure => simp [intOf]; omega
              · have gf : (F.t != (-1 : Int)) = false := by rw [heq1]; rfl
                have HC1 : Hid (c r i = 0) := Lib.hid (by rw [HCI.out, heq1]; rfl)
                have HS2 := Lib.hid (HSM.out HC1.out)
                clear heq1 k0 k1
                go_wp2
                go_roundw
                case rel => exact ⟨i + 1, by omega, by go_num, by rw [HS2.out]; exact HO4.out, HG4.out, HB4.out⟩
                case measure => simp [intOf]; omega
            · have hin : Hid (i = m.bd.ps.length) := Lib.hid (by omega)
              rw [hin.out, lpSt_end] at hown
              have HOW := Lib.hid hown
              have HGE2 := Lib.hid (grown_trans HG3.out hg3)
              have HBb := Lib.hid hb
              have hiI : ¬ (i : Int) < m.bd.ps.length := by omega
              clear hown hg3 hb
              go_wp2
              go_roundw
              case rel => exact ⟨r + 1, by omega, by go_num, HOW.out, HGE2.out, HBb.out⟩
              case measure => simp [intOf]; omega
        · have hre : Hid (r = R) := Lib.hid (by omega)
          rw [hre.out, ← HRES.out] at hown
          have HOW := Lib.hid (own_mono (base := w.heap.size) hown HB1.out.size)
          have hrI : ¬ (r : Int) < R := by omega
          clear hown
          go_wp2
          go_ret2
          exact ⟨_, rfl, HOW.out, bl_trans HB1.out hb⟩
  · have HC : Hid (mCode m = 1) := Lib.hid (by unfold mCode; rw [if_neg (by simp [g1])])
    have HL : Hid (lpVal m = []) := Lib.hid (by unfold lpVal; rw [if_neg (by simp [g1])])
    rw [HC.out, HL.out]
    rw [g1] at HVM
    clear g1 HC HL
    go_enter Tryz.func40, Tryz.ntmps40
    go_wp2_with fail
    refine (HVM.out _ HBA.out).mono ?_
    rintro e w1 ⟨rfl, hb1⟩
    have hb01 := bl_trans HBA.out hb1
    go_wp2
    go_ret2
    exact ⟨_, rfl, World.ownsRow_nil _ _ _ _, hb01⟩
end Go.Proofs.YtdhjhnbmecbaaaaGreat
/- The walk of the law FnExactLoadedParts. -/
namespace Go.Proofs.YtdhjhnbmecbaaaaGreat
open Go.RowKit
set_option linter.unusedVariables false
set_option linter.unusedSimpArgs false
set_option maxHeartbeats 400000
set_option maxRecDepth 100000
set_option maxRecDepth 100000 in
theorem lawLoadedParts_any (mc : Mc) (a a1 a2 : Option Addr) (cap cap1 cap2 : Nat) (w : World) (h0 : PcsAt w.heap.size w a mc.bd.ps) (h1 : SlAt w.heap.size w a1 (flat Po.cells mc.ins)) (h2 : SlAt w.heap.size w a2 (flat Ce.cells mc.outs)) (hok : mc.ok)
    (l0 : mc.bd.ps.length ≤ 9223372036854775807) (l1 : mc.ins.length ≤ 9223372036854775807) (l2 : mc.outs.length ≤ 9223372036854775807) :
    Calls Tryz.prog 9 #[mcv mc.bd.wd mc.bd.hg (.slice a mc.bd.ps.length cap) (.slice a1 mc.ins.length cap1) (.slice a2 mc.outs.length cap2)] w fun e w' => e = .returned (.bool true) ∧ Below w.heap.size w w' := by
  by_cases hL : True
  · by_cases hn : (mc.bd.ps.length : Int) + mc.ins.length + mc.outs.length ≤ 1048576
    · obtain ⟨lf, Hs, hlf, hlf2⟩ : ∃ lf : Int, Hid (sz3 mc.bd.ps.length mc.ins.length mc.outs.length 1048576 = lf) ∧ 0 ≤ lf ∧ lf ≤ 1048576 := ⟨_, Lib.hid rfl, by unfold sz3; rw [if_pos hn]; omega, by unfold sz3; rw [if_pos hn]; omega⟩
      have M0 : MV w (mcv mc.bd.wd mc.bd.hg (.slice a mc.bd.ps.length cap) (.slice a1 mc.ins.length cap1) (.slice a2 mc.outs.length cap2)) mc := ⟨_, _, _, rfl, ⟨a, cap, rfl, h0⟩, ⟨a1, cap1, rfl, h1⟩, a2, cap2, rfl, h2⟩
      have X0 := BX5.new w (.int .i8 mc.bd.wd) (.int .i8 mc.bd.hg) (.slice a mc.bd.ps.length cap) (.slice a1 mc.ins.length cap1) (.slice a2 mc.outs.length cap2) 29
      have hln : (lpVal mc).length ≤ 1048576 := by have := lpVal_len mc; omega
      obtain ⟨rv0, hrv0⟩ : ∃ rv, rv = lpVal mc := ⟨_, rfl⟩
      obtain ⟨rc, hrc⟩ : ∃ rc, rc = mCode mc := ⟨_, rfl⟩
      have CS := fun v w' (h : MV w' v mc) => specLoadedParts_any mc v w' h hok (by omega) (by omega) (by omega)
      have CI := fun v w' (h : MVc w' v mc) => loadedParts_any mc v w' h hok (by omega) (by omega) (by omega)
      simp only [← hrv0, ← hrc] at CS CI
      rw [← hrv0] at hln
      have CS := Lib.hid CS
      have CI := Lib.hid CI
      clear hrv0 hrc h0 h1 h2
      go_enter Tryz.func9, Tryz.ntmps9
      go_wp2_with fail
      refine (szMachine_any mc.bd.wd mc.bd.hg a _ cap a1 _ cap1 a2 _ cap2 _ _ (by omega) (by omega) (by omega) (by omega) (by omega)).mono ?_
      rintro e u ⟨rfl, bu⟩
      rw [Hs.out]
      have bu0 : Below w.heap.size w u := bl_trans (bl_alloc (Below.refl _ _)) bu
      have A0 := (M0.step (bl_alloc (Below.refl _ _))).step bu
      have AX := X0.step bu
      go_wp2_with fail
      refine (toMachine_mv A0 (by omega) (by omega) (by omega)).mono ?_
      rintro e w1 ⟨sm, im, om, rfl, Om1, b1⟩
      have AM1 := A0.step b1
      have AX1 := AX.step b1
      have B1 := b1
      obtain ⟨asm, capsm, rfl, -⟩ := own_at Om1.1
      obtain ⟨aim, capim, rfl, -⟩ := own_at Om1.2.1
      obtain ⟨aom, capom, rfl, -⟩ := own_at Om1.2.2.1
      go_wp2_with fail
      refine (CS.out _ _ Om1.mv).mono ?_
      rintro e w2 ⟨vw, rfl, Ow2, b2⟩
      have AM2 := AM1.step b2
      have AX2 := AX1.step b2
      have Pwm := ownM_apart Om1 Ow2 (by first | exact Nat.le_refl _ | simp)
      have Om2 := Om1.below b2
      have B2 := bl_trans B1 b2
      obtain ⟨aw, capw, rfl, -⟩ := own_at Ow2
      go_wp2_with fail
      refine (toMachine_mv AM2 (by omega) (by omega) (by omega)).mono ?_
      rintro e w3 ⟨sx, ix, ox, rfl, Ox3, b3⟩
      have AM3 := AM2.step b3
      have AX3 := AX2.step b3
      have Pwx := ownM_apart' Ow2 Ox3 (by first | exact Nat.le_refl _ | simp)
      have Ow3 := own_below Ow2 b3 (Nat.le_refl _)
      have B3 := bl_trans B2 b3
      obtain ⟨asx, capsx, rfl, -⟩ := own_at Ox3.1
      obtain ⟨aix, capix, rfl, -⟩ := own_at Ox3.2.1
      obtain ⟨aox, capox, rfl, -⟩ := own_at Ox3.2.2.1
      go_wp2_with fail
      refine (CI.out _ _ (Ox3.mvc.step (bl_alloc (Below.refl _ _)))).mono ?_
      rintro e w4 ⟨vg, rfl, Og4, c4⟩
      have b4 := bl_trans (bl_alloc (o := .cells #[.int .i8 mc.bd.wd, .int .i8 mc.bd.hg, .slice asx mc.bd.ps.length capsx, .slice aix mc.ins.length capix, .slice aox mc.outs.length capox] 40) (Below.refl w3.heap.size w3)) c4
      have AY4 := (BX5.new w3 (.int .i8 mc.bd.wd) (.int .i8 mc.bd.hg) (.slice asx mc.bd.ps.length capsx) (.slice aix mc.ins.length capix) (.slice aox mc.outs.length capox) 40).step c4
      have AM4 := AM3.step b4
      have AX4 := AX3.step b4
      have Nwg := own_apart Ow3 Og4 (by first | exact Nat.le_refl _ | simp)
      have Ngw := own_apart' Ow3 Og4 (by first | exact Nat.le_refl _ | simp)
      have Pgx := ownM_apart Ox3 Og4 (by first | exact Nat.le_refl _ | simp)
      have Ow4 := own_below Ow3 b4 (Nat.le_refl _)
      have Ox4 := Ox3.below b4
      have B4 := bl_trans B3 b4
      obtain ⟨ag, capg, rfl, -⟩ := own_at Og4
      go_wp2_with fail
      refine (eqInt64S_yes (own_rv Og4) (own_rv Ow4) (by omega)).mono ?_
      rintro e w5 ⟨rfl, b5⟩
      have AM5 := AM4.step b5
      have AX5 := AX4.step b5
      have AY5 := AY4.step b5
      have Ow5 := own_below Ow4 b5 (Nat.le_refl _)
      have Og5 := own_below Og4 b5 (Nat.le_refl _)
      have Ox5 := Ox4.below b5
      have B5 := bl_trans B4 b5
      go_upto_region 10 with fail
      have CK := Lib.hid (fun w' (h : Below w5.heap.size w5 w') => toMachine_mv (w := w') (AM5.step h) (by omega) (by omega) (by omega))
      have CL := Lib.hid (fun w' v' (h : Below w5.heap.size w5 w') (h' : MV w' v' mc) => eqMachine_yes (w := w') (Ox5.mv.step h) h' (by omega) (by omega) (by omega))
      go_region_held3 (fun w' => Below w5.heap.size w5 w' ∧ ∀ b o, b < w5.heap.size → w'.cell? ⟨b, o, none⟩ = w5.cell? ⟨b, o, none⟩) ((refine ext_s ?_; exact (by repeat (first | with_reducible exact Below.refl _ _ | with_reducible assumption | with_reducible apply bl_drewN | with_reducible apply bl_drew | with_reducible apply bl_alloc | (with_reducible refine bl_set ?_ (by first | (simp; done) | (simp; omega)) _) | with_reducible refine bl_trans ?_ (by with_reducible assumption))))) (first | (go_at_call 18; refine (CK.out _ ?_).mono ?_; (exact (by repeat (first | with_reducible exact Below.refl _ _ | with_reducible assumption | with_reducible apply bl_drewN | with_reducible apply bl_drew | with_reducible apply bl_alloc | (with_reducible refine bl_set ?_ (by first | (simp; done) | (simp; omega)) _) | with_reducible refine bl_trans ?_ (by with_reducible assumption)))); rintro e wa ⟨sa, ia, oa, rfl, Oa, ba⟩; obtain ⟨hca, hfa⟩ := bcell ba) | (go_at_call 21; refine (CL.out _ _ ?_ Oa.mv).mono ?_; (exact (by repeat (first | with_reducible exact Below.refl _ _ | with_reducible assumption | with_reducible apply bl_drewN | with_reducible apply bl_drew | with_reducible apply bl_alloc | (with_reducible refine bl_set ?_ (by first | (simp; done) | (simp; omega)) _) | with_reducible refine bl_trans ?_ (by with_reducible assumption)))); rintro e w6 ⟨rfl, be⟩))
      have b6 : Below w5.heap.size w5 w6 := (by repeat (first | with_reducible exact Below.refl _ _ | with_reducible assumption | with_reducible apply bl_drewN | with_reducible apply bl_drew | with_reducible apply bl_alloc | (with_reducible refine bl_set ?_ (by first | (simp; done) | (simp; omega)) _) | with_reducible refine bl_trans ?_ (by with_reducible assumption)))
      clear CK CL
      have AM6 := AM5.step b6
      have AX6 := AX5.step b6
      have AY6 := AY5.step b6
      have Ow6 := own_below Ow5 b6 (Nat.le_refl _)
      have Og6 := own_below Og5 b6 (Nat.le_refl _)
      have Ox6 := Ox5.below b6
      have B6 := bl_trans B5 b6
      go_wp2_with fail
      refine (markMachine_any Ox6 (by omega) (by omega) (by omega)).mono ?_
      rintro e w7 ⟨rfl, x7a, x7b, ga7, gb7, gc7⟩
      have Ow7 := own_kept3 Ow6 ga7 gb7 gc7 Pwx
      have Og7 := own_kept3 Og6 ga7 gb7 gc7 Pgx
      have B7 := bl_grown3 B6 ga7 gb7 gc7 Ox6 (by have h1 := B2.size; (try simp only [World.size_alloc]); omega)
      have AM7 := A0.step B7
      have AX7 := AX.step B7
      go_wp2_with fail
      refine (eqInt64S_yes (own_rv Og7) (own_rv Ow7) (by omega)).mono ?_
      rintro e w8 ⟨rfl, b8⟩
      have AM8 := AM7.step b8
      have AX8 := AX7.step b8
      have Ow8 := own_below Ow7 b8 (Nat.le_refl _)
      have Og8 := own_below Og7 b8 (Nat.le_refl _)
      have B8 := bl_trans B7 b8
      go_wp2_with fail
      refine (markInt64S_any 1 _ Og8 (by omega) (by omega) (by omega)).mono ?_
      rintro e w9 ⟨rfl, Mg9, g9⟩
      have Ow9 := own_kept Ow8 g9 Nwg
      have B9 := bl_grown B8 g9 (fun k hk => by have h1 := B3.size; have h2 := (Og8.lt k hk).1; (try simp only [World.size_alloc] at h2); omega)
      have AM9 := A0.step B9
      have AX9 := AX.step B9
      go_wp2_with fail
      refine (heldInt64S_own 1 Mg9 (by omega) (by omega) (by omega)).mono ?_
      rintro e w' ⟨rfl, rfl⟩
      go_wp2_with fail
      refine (toMachine_mv AM9 (by omega) (by omega) (by omega)).mono ?_
      rintro e w10 ⟨sz, iz, oz, rfl, Oz10, b10⟩
      have AM10 := AM9.step b10
      have AX10 := AX9.step b10
      have Pwz := ownM_apart' Ow9 Oz10 (by first | exact Nat.le_refl _ | simp)
      have Pgz := ownM_apart' Mg9 Oz10 (by first | exact Nat.le_refl _ | simp)
      have Ow10 := own_below Ow9 b10 (Nat.le_refl _)
      have Og10 := own_below Mg9 b10 (Nat.le_refl _)
      have B10 := bl_trans B9 b10
      obtain ⟨asz, capsz, rfl, -⟩ := own_at Oz10.1
      obtain ⟨aiz, capiz, rfl, -⟩ := own_at Oz10.2.1
      obtain ⟨aoz, capoz, rfl, -⟩ := own_at Oz10.2.2.1
      go_wp2_with fail
      refine (CI.out _ _ Oz10.mvc).mono ?_
      rintro e w11 ⟨vh, rfl, Oh11, b11⟩
      have AM11 := AM10.step b11
      have AX11 := AX10.step b11
      have Nwh := own_apart Ow10 Oh11 (by first | exact Nat.le_refl _ | simp)
      have Nhw := own_apart' Ow10 Oh11 (by first | exact Nat.le_refl _ | simp)
      have Ngh := own_apart Og10 Oh11 (by first | exact Nat.le_refl _ | simp)
      have Nhg := own_apart' Og10 Oh11 (by first | exact Nat.le_refl _ | simp)
      have Phz := ownM_apart Oz10 Oh11 (by first | exact Nat.le_refl _ | simp)
      have Ow11 := own_below Ow10 b11 (Nat.le_refl _)
      have Og11 := own_below Og10 b11 (Nat.le_refl _)
      have Oz11 := Oz10.below b11
      have B11 := bl_trans B10 b11
      obtain ⟨ah, caph, rfl, -⟩ := own_at Oh11
      go_wp2_with fail
      refine (eqInt64S_yes (own_rv Oh11) (own_rv Ow11) (by omega)).mono ?_
      rintro e w12 ⟨rfl, b12⟩
      have AM12 := AM11.step b12
      have AX12 := AX11.step b12
      have Ow12 := own_below Ow11 b12 (Nat.le_refl _)
      have Og12 := own_below Og11 b12 (Nat.le_refl _)
      have Oh12 := own_below Oh11 b12 (Nat.le_refl _)
      have Oz12 := Oz11.below b12
      have B12 := bl_trans B11 b12
      go_wp2_with fail
      refine (heldInt64S_own 1 Og12 (by omega) (by omega) (by omega)).mono ?_
      rintro e w' ⟨rfl, rfl⟩
      go_wp2
      go_ret
      exact ⟨rfl, bl_trans bu0 B12⟩
    · have Hs : Hid (sz3 mc.bd.ps.length mc.ins.length mc.outs.length 1048576 = -1) := Lib.hid (by unfold sz3; rw [if_neg hn])
      go_enter Tryz.func9, Tryz.ntmps9
      go_wp2_with fail
      refine (szMachine_any mc.bd.wd mc.bd.hg a _ cap a1 _ cap1 a2 _ cap2 _ _ (by omega) (by omega) (by omega) (by omega) (by omega)).mono ?_
      rintro e u ⟨rfl, bu⟩
      rw [Hs.out]
      have bu0 : Below w.heap.size w u := bl_trans (bl_alloc (Below.refl _ _)) bu
      go_wp2
      go_ret
      exact ⟨rfl, bu0⟩
  · exact absurd trivial hL
end Go.Proofs.YtdhjhnbmecbaaaaGreat
/- The places at which something is so; lengths that differ. -/
namespace Go.Proofs.YtdhjhnbmecbaaaaGreat
open Go.RowKit
set_option linter.unusedVariables false
set_option linter.unusedSimpArgs false
set_option maxHeartbeats 400000
set_option maxRecDepth 100000
def hzTo (p : Nat → Bool) (k : Nat) : List Int := ((List.range k).filter p).map (fun (i : Nat) => (i : Int))
theorem hzTo_yes (p : Nat → Bool) (k : Nat) (h : p k = true) : hzTo p (k + 1) = hzTo p k ++ [(k : Int)] := by
  unfold hzTo
  rw [List.range_succ, List.filter_append, List.map_append]
  simp [h]
theorem hzTo_no (p : Nat → Bool) (k : Nat) (h : p k = false) : hzTo p (k + 1) = hzTo p k := by
  unfold hzTo
  rw [List.range_succ, List.filter_append, List.map_append]
  simp [h]
theorem hzTo_len (p : Nat → Bool) (k : Nat) : (hzTo p k).length ≤ k := by
  unfold hzTo
  rw [List.length_map]
  have := List.length_filter_le p (List.range k)
  simpa using this
theorem mTabs_len (m : Mc) : (mTabs m).length = m.outs.length := by simp [mTabs]
theorem neq_len {a b : Nat} (h : a ≠ b) : (((a : Int) != (b : Int)) = true) := by rw [bne_iff_ne]; omega
theorem eq_len {a b : Nat} (h : a = b) : (((a : Int) != (b : Int)) = false) := by rw [h]; simp
end Go.Proofs.YtdhjhnbmecbaaaaGreat
/- Useless parts: plain laws. -/
namespace Go.Proofs.YtdhjhnbmecbaaaaGreat
open Go.RowKit
set_option linter.unusedVariables false
set_option linter.unusedSimpArgs false
set_option maxHeartbeats 400000
set_option maxRecDepth 100000
/-- A machine without a piece. -/
def woMc (m : Mc) (i : Nat) : Mc := ⟨⟨m.bd.wd, m.bd.hg, m.bd.ps.eraseIdx i⟩, m.ins, m.outs⟩
theorem woMc_ok (m : Mc) (i : Nat) (h : m.ok) : (woMc m i).ok := by
  obtain ⟨⟨h1, h2, h3⟩, h4, h5⟩ := h
  refine ⟨⟨h1, h2, ?_⟩, h4, h5⟩
  intro k hk
  have h6 : (m.bd.ps.eraseIdx i)[k] ∈ m.bd.ps := List.mem_of_mem_eraseIdx (List.getElem_mem hk)
  obtain ⟨j, hj, e⟩ := List.mem_iff_getElem.1 h6
  show ((m.bd.ps.eraseIdx i)[k]'hk).ok
  rw [← e]
  exact h3 j hj
theorem fnd_ge (c : Ce) (ps : List Pc) : decide (0 ≤ fnd c ps) = decide (c ∈ ps.map Pc.at_) := by
  unfold fnd
  cases hf : ps.findIdx? (fun p => decide (p.at_ = c)) with
  | none =>
    rw [List.findIdx?_eq_none_iff] at hf
    have : c ∉ ps.map Pc.at_ := by
      intro h
      obtain ⟨p, hp, e⟩ := List.mem_map.1 h
      have := hf p hp
      simp [e] at this
    simp [this]
  | some k =>
    rw [List.findIdx?_eq_some_iff_getElem] at hf
    obtain ⟨h1, h2, -⟩ := hf
    have h3 : ps[k].at_ = c := by simpa using h2
    have : c ∈ ps.map Pc.at_ := List.mem_map.2 ⟨_, List.getElem_mem h1, h3⟩
    simp only [Option.elim, this, decide_true]
    exact decide_eq_true (by omega)
theorem map_erase {α β : Type} (f : α → β) (l : List α) : ∀ i, (l.map f).eraseIdx i = (l.eraseIdx i).map f := by
  induction l with
  | nil => intro i; simp
  | cons x l ih =>
    intro i
    cases i with
    | zero => simp
    | succ i => simp [ih]
theorem mem_erase_at (ps : List Pc) (i : Nat) (hi : i < ps.length) (hnd : (ps.map Pc.at_).Nodup) (c : Ce) : c ∈ (ps.eraseIdx i).map Pc.at_ ↔ c ∈ ps.map Pc.at_ ∧ c ≠ ps[i].at_ := by
  rw [← map_erase]
  have hi2 : i < (ps.map Pc.at_).length := by simpa using hi
  have e : ps[i].at_ = (ps.map Pc.at_)[i] := by simp
  rw [e]
  generalize ps.map Pc.at_ = l at *
  clear e hi
  constructor
  · intro h
    obtain ⟨k, hk, he⟩ := List.mem_iff_getElem.1 h
    rw [List.getElem_eraseIdx] at he
    rw [List.Nodup, List.pairwise_iff_getElem] at hnd
    rw [List.length_eraseIdx, if_pos hi2] at hk
    split at he
    · rename_i hlt
      refine ⟨by rw [← he]; exact List.getElem_mem _, ?_⟩
      rw [← he]
      exact hnd k i (by omega) hi2 hlt
    · rename_i hlt
      refine ⟨by rw [← he]; exact List.getElem_mem _, ?_⟩
      rw [← he]
      exact fun h9 => hnd i (k + 1) hi2 (by omega) (by omega) h9.symm
  · rintro ⟨h1, h2⟩
    obtain ⟨k, hk, he⟩ := List.mem_iff_getElem.1 h1
    rw [List.mem_iff_getElem]
    have hne : k ≠ i := fun h3 => h2 (by subst h3; exact he.symm)
    by_cases hlt : k < i
    · refine ⟨k, by rw [List.length_eraseIdx, if_pos hi2]; omega, ?_⟩
      rw [List.getElem_eraseIdx, dif_pos hlt, he]
    · refine ⟨k - 1, by rw [List.length_eraseIdx, if_pos hi2]; omega, ?_⟩
      rw [List.getElem_eraseIdx, dif_neg (by omega)]
      have : k - 1 + 1 = k := by omega
      simp only [this]
      exact he
theorem outOk_erase (ps : List Pc) (i : Nat) (hi : i < ps.length) (hnd : (ps.map Pc.at_).Nodup) (c : Ce) : outOk (ps.eraseIdx i) c = (outOk ps c && !decide (c = ps[i].at_)) := by
  unfold outOk
  rw [fnd_ge, fnd_ge, Bool.eq_iff_iff]
  simp only [decide_eq_true_eq, Bool.and_eq_true, Bool.not_eq_true', decide_eq_false_iff_not]
  exact mem_erase_at ps i hi hnd c
/-- Whether an input or an output stands at a cell. -/
def portAt (m : Mc) (c : Ce) : Bool := decide (c ∈ m.outs) || m.ins.any (fun p => decide ((⟨p.x, p.y⟩ : Ce) = c))
theorem vMc_wo (m : Mc) (i : Nat) (h : vMc m = true) (hi : i < m.bd.ps.length) : vMc (woMc m i) = !portAt m m.bd.ps[i].at_ := by
  obtain ⟨hvb, h60, hi1, hi6, ho1, ho8, h7, h8, h9⟩ := vMc_parts m h
  have hvb0 := hvb
  unfold vBd at hvb
  simp only [Bool.and_eq_true, decide_eq_true_eq] at hvb
  obtain ⟨⟨⟨⟨c1, c2⟩, c3⟩, c4⟩, c5⟩ := hvb
  have hlen : (m.bd.ps.eraseIdx i).length = m.bd.ps.length - 1 := by rw [List.length_eraseIdx, if_pos hi]
  have hvw : vBd (woMc m i).bd = true := by
    unfold vBd
    simp only [Bool.and_eq_true, decide_eq_true_eq]
    refine ⟨⟨⟨⟨c1, c2⟩, ?_⟩, ?_⟩, ?_⟩
    · show (m.bd.ps.eraseIdx i).length ≤ 200; omega
    · rw [List.all_eq_true] at c4 ⊢
      exact fun p hp => c4 p (List.mem_of_mem_eraseIdx hp)
    · show ((m.bd.ps.eraseIdx i).map Pc.at_).Nodup
      rw [← map_erase]
      exact List.Nodup.sublist (List.eraseIdx_sublist _ _) c5
  have hhead : headM (woMc m i) = true := by
    unfold headM
    rw [hvw, show decide ((woMc m i).bd.ps.length ≤ 60) = true from decide_eq_true (by show (m.bd.ps.eraseIdx i).length ≤ 60; omega)]
    unfold inB
    simp only [Bool.true_and, Bool.and_eq_true, decide_eq_true_eq]
    show ((1 : Int) ≤ m.ins.length ∧ (m.ins.length : Int) ≤ 6) ∧ ((1 : Int) ≤ m.outs.length ∧ (m.outs.length : Int) ≤ 8)
    omega
  rw [vMc_ht, hhead, Bool.true_and]
  unfold tailM portAt
  show (m.ins.all (poOk (m.bd.ps.eraseIdx i)) && decide m.ins.Nodup && m.outs.all (outOk (m.bd.ps.eraseIdx i))) = _
  rw [show decide m.ins.Nodup = true from decide_eq_true h8, Bool.and_true]
  have e1 : m.ins.all (poOk (m.bd.ps.eraseIdx i)) = !m.ins.any (fun p => decide ((⟨p.x, p.y⟩ : Ce) = m.bd.ps[i].at_)) := by
    rw [List.not_any_eq_all_not, Bool.eq_iff_iff, List.all_eq_true, List.all_eq_true]
    have h7' := List.all_eq_true.1 h7
    constructor
    · intro h p hp
      have h1 := h p hp
      unfold poOk at h1
      rw [Bool.and_eq_true] at h1
      have h2 := outOk_erase m.bd.ps i hi c5 ⟨p.x, p.y⟩
      unfold outOk at h2
      rw [h1.2] at h2
      have h3 := h2.symm
      rw [Bool.and_eq_true] at h3
      exact h3.2
    · intro h p hp
      have h1 := h7' p hp
      have h0 := h p hp
      unfold poOk at h1 ⊢
      rw [Bool.and_eq_true] at h1 ⊢
      refine ⟨h1.1, ?_⟩
      have h2 := outOk_erase m.bd.ps i hi c5 ⟨p.x, p.y⟩
      unfold outOk at h2
      rw [h2, h1.2, Bool.true_and]
      exact h0
  have e2 : m.outs.all (outOk (m.bd.ps.eraseIdx i)) = !decide (m.bd.ps[i].at_ ∈ m.outs) := by
    rw [Bool.eq_iff_iff, List.all_eq_true]
    have h9' := List.all_eq_true.1 h9
    simp only [Bool.not_eq_true', decide_eq_false_iff_not]
    constructor
    · intro h hm
      have h1 := h _ hm
      rw [outOk_erase m.bd.ps i hi c5] at h1
      simp at h1
    · intro h c hc
      rw [outOk_erase m.bd.ps i hi c5, h9' c hc, Bool.true_and]
      simp only [Bool.not_eq_true', decide_eq_false_iff_not]
      exact fun e => h (e ▸ hc)
  rw [e1, e2]
  cases m.ins.any (fun p => decide ((⟨p.x, p.y⟩ : Ce) = m.bd.ps[i].at_)) <;> cases decide (m.bd.ps[i].at_ ∈ m.outs) <;> rfl
/-- A useless part: the machine is valid without it, and has the same tables. -/
noncomputable def ulP (m : Mc) (tabs : List Nat) (i : Nat) : Bool := vMc (woMc m i) && decide (mTabs (woMc m i) = tabs)
noncomputable def ulList (m : Mc) : List Int := if vMc m = true then hzTo (ulP m (mTabs m)) m.bd.ps.length else []
theorem ulList_len (m : Mc) : (ulList m).length ≤ m.bd.ps.length := by
  unfold ulList; split; exact hzTo_len _ _; exact Nat.zero_le _
/-- What pruning does, step by step. -/
structure PrS where
  m : Mc
  i : Nat
  c : Nat
noncomputable def prStep (tabs : List Nat) (s : PrS) : PrS := if ulP s.m tabs s.i = true then ⟨woMc s.m s.i, 0, s.c + 1⟩ else ⟨s.m, s.i + 1, s.c⟩
noncomputable def prRun (tabs : List Nat) : Nat → PrS → PrS
  | 0, s => s
  | n + 1, s => if s.i < s.m.bd.ps.length then prRun tabs n (prStep tabs s) else s
def prMeas (s : PrS) : Nat := s.m.bd.ps.length * 62 + (s.m.bd.ps.length - s.i)
theorem prMeas_step (tabs : List Nat) (s : PrS) (h : s.i < s.m.bd.ps.length) (h60 : s.m.bd.ps.length ≤ 60) : prMeas (prStep tabs s) < prMeas s := by
  unfold prStep
  split
  · show (s.m.bd.ps.eraseIdx s.i).length * 62 + ((s.m.bd.ps.eraseIdx s.i).length - 0) < _
    rw [List.length_eraseIdx, if_pos h]
    unfold prMeas
    omega
  · show s.m.bd.ps.length * 62 + (s.m.bd.ps.length - (s.i + 1)) < _
    unfold prMeas
    omega
noncomputable def prVal (m : Mc) : PrS := prRun (mTabs m) 4000 ⟨m, 0, 0⟩
end Go.Proofs.YtdhjhnbmecbaaaaGreat
/- Contracts: slices.Equal and SameTables; a board without a piece (both). -/
namespace Go.Proofs.YtdhjhnbmecbaaaaGreat
open Go.RowKit
set_option linter.unusedVariables false
set_option linter.unusedSimpArgs false
set_option maxHeartbeats 400000
set_option maxRecDepth 100000
theorem equalU64_any {B : Nat} (a a' : Option Addr) (cap cap' : Nat) (xs ys : List Int) (w : World) (h : SlAt B w a (flat U64_cells xs)) (h' : SlAt B w a' (flat U64_cells ys)) (hB : B ≤ w.heap.size) (hn : xs.length ≤ 10000000) (hn' : ys.length ≤ 10000000) :
    Calls Tryz.prog 137 #[.slice a xs.length cap, .slice a' ys.length cap'] w fun e w' => e = .returned (.bool (decide (xs = ys))) ∧ Below w.heap.size w w' := by
  obtain ⟨res, hres⟩ : ∃ res, res = decide (xs = ys) := ⟨_, rfl⟩
  rw [← hres]
  by_cases hl : xs.length = ys.length
  · have g1 := eq_len hl
    have HL := Lib.hid hl
    have HR := Lib.hid hres
    clear hl hres
    go_enter Tryz.func137, Tryz.ntmps137
    go_wp2
    go_loopw [13] (fun ix wr => ∃ k : Nat, k ≤ xs.length ∧ ix = .int .i64 k ∧ Hid (xs.take k = ys.take k) ∧ Below w.heap.size w wr) (fun ix _ => xs.length - (intOf ix).toNat)
    case atStart => exact ⟨0, Nat.zero_le _, rfl, Lib.hid rfl, Below.refl _ _⟩
    case round =>
      obtain ⟨k, hk, rfl, HT, hb⟩ := hrel
      by_cases hlt : k < xs.length
      · have hky : k < ys.length := by rw [← HL.out]; exact hlt
        have hkI : (k : Int) < xs.length := by omega
        have hkJ : (k : Int) < ys.length := by omega
        obtain ⟨bx, offx, rfl, hbx, hatx⟩ := u64s_get (h.below hb hB) hlt
        obtain ⟨bY, offY, rfl, hbY, hatY⟩ := u64s_get (h'.below hb hB) hky
        unfold U64At at hatx hatY
        rw [Nat.mul_one] at hatx hatY
        have HTX := Lib.hid (List.take_succ_eq_append_getElem hlt)
        have HTY := Lib.hid (List.take_succ_eq_append_getElem hky)
        obtain ⟨X, hX⟩ : ∃ X, X = xs[k] := ⟨_, rfl⟩
        obtain ⟨Y, hY⟩ : ∃ Y, Y = ys[k] := ⟨_, rfl⟩
        rw [← hX] at hatx HTX
        rw [← hY] at hatY HTY
        have HXY : Hid (xs = ys → X = Y) := Lib.hid (fun e => by subst e; rw [hX, hY])
        have HB1 := Lib.hid hb
        clear hX hY hb hky
        rcases Int.decEq X Y with hne | heq
        · have gp : (X != Y) = true := by rw [bne_iff_ne]; exact hne
          have HF : Hid (res = false) := Lib.hid (by rw [HR.out]; exact decide_eq_false (fun e => hne (HXY.out e)))
          clear hne
          go_wp2_with fail
          go_quiet (fail)
          go_wp2
          go_ret
          exact ⟨by rw [HF.out]; rfl, bl_drewN HB1.out⟩
        · have gp : (X != Y) = false := by rw [heq]; simp
          have HE : Hid (xs.take (k + 1) = ys.take (k + 1)) := Lib.hid (by rw [HTX.out, HTY.out, HT.out, heq])
          clear heq
          go_wp2_with fail
          go_quiet (fail)
          go_wp2
          go_roundw
          case rel => exact ⟨k + 1, by omega, by go_num, HE, bl_drewN HB1.out⟩
          case measure => simp [intOf]; omega
      · have hkI : ¬ (k : Int) < xs.length := by omega
        have HE : Hid (res = true) := Lib.hid (by
          have h1 := HT.out
          rw [List.take_of_length_le (by omega), List.take_of_length_le (by rw [← HL.out]; omega)] at h1
          rw [HR.out]; exact decide_eq_true h1)
        go_wp2
        go_ret
        exact ⟨by rw [HE.out]; rfl, hb⟩
  · have g1 := neq_len hl
    have HF : Hid (res = false) := Lib.hid (by rw [hres]; exact decide_eq_false (fun e => hl (by rw [e])))
    clear hl hres
    go_enter Tryz.func137, Tryz.ntmps137
    go_wp2
    go_ret
    exact ⟨by rw [HF.out]; rfl, Below.refl _ _⟩
theorem sameTables_any {B : Nat} (a a' : Option Addr) (cap cap' : Nat) (xs ys : List Int) (w : World) (h : SlAt B w a (flat U64_cells xs)) (h' : SlAt B w a' (flat U64_cells ys)) (hB : B ≤ w.heap.size) (hn : xs.length ≤ 10000000) (hn' : ys.length ≤ 10000000) :
    Calls Tryz.prog 133 #[.slice a xs.length cap, .slice a' ys.length cap'] w fun e w' => e = .returned (.bool (decide (xs = ys))) ∧ Below w.heap.size w w' := by
  obtain ⟨res, hres⟩ : ∃ res, res = decide (xs = ys) := ⟨_, rfl⟩
  rw [← hres]
  by_cases hl : xs.length = ys.length
  · have g1 := eq_len hl
    have HL := Lib.hid hl
    have HR := Lib.hid hres
    clear hl hres
    go_enter Tryz.func133, Tryz.ntmps133
    go_wp2
    go_loopw [5] (fun ix wr => ∃ k : Nat, k ≤ xs.length ∧ ix = .int .i64 k ∧ Hid (xs.take k = ys.take k) ∧ Below w.heap.size w wr) (fun ix _ => xs.length - (intOf ix).toNat)
    case atStart => exact ⟨0, Nat.zero_le _, rfl, Lib.hid rfl, Below.refl _ _⟩
    case round =>
      obtain ⟨k, hk, rfl, HT, hb⟩ := hrel
      by_cases hlt : k < xs.length
      · have hky : k < ys.length := by rw [← HL.out]; exact hlt
        have hkI : (k : Int) < xs.length := by omega
        have hkJ : (k : Int) < ys.length := by omega
        obtain ⟨bx, offx, rfl, hbx, hatx⟩ := u64s_get (h.below hb hB) hlt
        obtain ⟨bY, offY, rfl, hbY, hatY⟩ := u64s_get (h'.below hb hB) hky
        unfold U64At at hatx hatY
        rw [Nat.mul_one] at hatx hatY
        have HTX := Lib.hid (List.take_succ_eq_append_getElem hlt)
        have HTY := Lib.hid (List.take_succ_eq_append_getElem hky)
        obtain ⟨X, hX⟩ : ∃ X, X = xs[k] := ⟨_, rfl⟩
        obtain ⟨Y, hY⟩ : ∃ Y, Y = ys[k] := ⟨_, rfl⟩
        rw [← hX] at hatx HTX
        rw [← hY] at hatY HTY
        have HXY : Hid (xs = ys → X = Y) := Lib.hid (fun e => by subst e; rw [hX, hY])
        have HB1 := Lib.hid hb
        clear hX hY hb hky
        rcases Int.decEq X Y with hne | heq
        · have gp : (X != Y) = true := by rw [bne_iff_ne]; exact hne
          have HF : Hid (res = false) := Lib.hid (by rw [HR.out]; exact decide_eq_false (fun e => hne (HXY.out e)))
          clear hne
          go_wp2_with fail
          go_quiet (fail)
          go_wp2
          go_ret
          exact ⟨by rw [HF.out]; rfl, bl_drewN HB1.out⟩
        · have gp : (X != Y) = false := by rw [heq]; simp
          have HE : Hid (xs.take (k + 1) = ys.take (k + 1)) := Lib.hid (by rw [HTX.out, HTY.out, HT.out, heq])
          clear heq
          go_wp2_with fail
          go_quiet (fail)
          go_wp2
          go_roundw
          case rel => exact ⟨k + 1, by omega, by go_num, HE, bl_drewN HB1.out⟩
          case measure => simp [intOf]; omega
      · have hkI : ¬ (k : Int) < xs.length := by omega
        have HE : Hid (res = true) := Lib.hid (by
          have h1 := HT.out
          rw [List.take_of_length_le (by omega), List.take_of_length_le (by rw [← HL.out]; omega)] at h1
          rw [HR.out]; exact decide_eq_true h1)
        go_wp2
        go_ret
        exact ⟨by rw [HE.out]; rfl, hb⟩
  · have g1 := neq_len hl
    have HF : Hid (res = false) := Lib.hid (by rw [hres]; exact decide_eq_false (fun e => hl (by rw [e])))
    clear hl hres
    go_enter Tryz.func133, Tryz.ntmps133
    go_wp2
    go_ret
    exact ⟨by rw [HF.out]; rfl, Below.refl _ _⟩
/-- A block of three cells of one's own. -/
def BF3 (w : World) (b : Nat) (v0 v1 v2 : Value) : Prop := b < w.heap.size ∧ w.cell? ⟨b, 0, none⟩ = some v0 ∧ w.cell? ⟨b, 1, none⟩ = some v1 ∧ w.cell? ⟨b, 2, none⟩ = some v2 ∧ w.frozen? ⟨b, 0, none⟩ = false ∧ w.frozen? ⟨b, 1, none⟩ = false ∧ w.frozen? ⟨b, 2, none⟩ = false
theorem BF3.new (w : World) (v0 v1 v2 : Value) (T : TypeId) : BF3 (w.alloc (.cells #[v0, v1, v2] T)) w.heap.size v0 v1 v2 := by
  have hh := heap_alloc_new w (.cells #[v0, v1, v2] T)
  refine ⟨by simp, ?_, ?_, ?_, ?_, ?_, ?_⟩ <;> simp [go_sem]
theorem with_any (b0 : Nat) (l : Bd) (a : Option Addr) (n cap : Nat) (w : World) (h : BP w b0 l) :
    Calls Tryz.prog 139 #[.pointer (some ⟨b0, 0, none⟩), .slice a n cap] w fun e w' => e = .returned (bdv l.wd l.hg (.slice a n cap)) ∧ Below w.heap.size w w' := by
  obtain ⟨hbl, s, ⟨c0, c1, c2⟩, -⟩ := h
  have e0 : (w.alloc (.cells #[.int .i8 0, .int .i8 0, .slice none 0 0] 36)).cell? ⟨b0, 0, none⟩ = some (.int .i8 l.wd) := by rw [cell_alloc _ _ _ _ hbl]; exact c0
  have e1 : (w.alloc (.cells #[.int .i8 0, .int .i8 0, .slice none 0 0] 36)).cell? ⟨b0, 1, none⟩ = some (.int .i8 l.hg) := by rw [cell_alloc _ _ _ _ hbl]; exact c1
  have hb1 : Below w.heap.size w (w.alloc (.cells #[.int .i8 0, .int .i8 0, .slice none 0 0] 36)) := bl_alloc (Below.refl _ _)
  have hz1 : (w.alloc (.cells #[.int .i8 0, .int .i8 0, .slice none 0 0] 36)).heap.size = w.heap.size + 1 := by simp
  have HX := Lib.hid (BF3.new w (.int .i8 0) (.int .i8 0) (.slice none 0 0) 36)
  go_enter Tryz.func139, Tryz.ntmps139
  go_wp2_with fail
  obtain ⟨w1, hw1⟩ : ∃ w1, w1 = w.alloc (.cells #[.int .i8 0, .int .i8 0, .slice none 0 0] 36) := ⟨_, rfl⟩
  rw [← hw1] at e0 e1 hb1 hz1 HX ⊢
  obtain ⟨g, hg⟩ : ∃ g, g = w.heap.size := ⟨_, rfl⟩
  rw [← hg] at HX ⊢
  obtain ⟨-, x0, x1, x2, f0, f1, f2⟩ := HX.out
  have HB := Lib.hid hb1
  have HG := Lib.hid hg
  clear hw1 hg hb1
  go_still_tail 10, (by kernel_rfl)
  change wpList _ _ _ _ _ w1.drew
  go_wp2
  refine bodyPost_ret (v := bdv l.wd l.hg (.slice a n cap)) (by simp [results, Tryz.results139, go_sem, x0, x1, x2]) rfl ⟨rfl, ?_⟩
  have hgl : w.heap.size ≤ g := by rw [HG.out]; exact Nat.le_refl _
  exact bl_drew (bl_set (bl_set (bl_set HB.out hgl _) hgl _) hgl _)
end Go.Proofs.YtdhjhnbmecbaaaaGreat
/- Contracts: slices.Delete of one piece. -/
namespace Go.Proofs.YtdhjhnbmecbaaaaGreat
open Go.RowKit
set_option linter.unusedVariables false
set_option linter.unusedSimpArgs false
set_option maxHeartbeats 400000
set_option maxRecDepth 100000
theorem zeroPc (w : World) : (zeroValue 167).run Tryz.prog w = .ok (Pc.val ⟨0, 0, 0, 0, 0⟩) w := by kernel_rfl
theorem Pc.one0 : ∀ u ∈ (Pc.val ⟨0, 0, 0, 0, 0⟩).cells.toList, u.oneCell' = true := by
  intro u hu
  have e : (Pc.val ⟨0, 0, 0, 0, 0⟩).cells.toList = [.int .i8 0, .int .i8 0, .int .i8 0, .int .i8 0, .int .i8 0] := by rfl
  rw [e] at hu
  simp only [List.mem_cons, List.not_mem_nil, or_false] at hu
  rcases hu with rfl | rfl | rfl | rfl | rfl <;> rfl
theorem split_at (ps : List Pc) (i : Nat) (hi : i < ps.length) : ps = ps.take i ++ (ps[i] :: ps.drop (i + 1)) := by
  rw [← List.drop_eq_getElem_cons hi, List.take_append_drop]
theorem erase_eq (ps : List Pc) (i : Nat) : ps.eraseIdx i = ps.take i ++ ps.drop (i + 1) := List.eraseIdx_eq_take_drop_succ ps i
set_option maxHeartbeats 1600000 in
theorem deletePc_any (base g n k cap i : Nat) (ps : List Pc) (w : World) (hi : i ≤ k) (hk : k ≤ 10000) (hnk : n ≤ k + 1) (hnk2 : k + 1 ≤ n) (hn : ps.length = n) (h : w.ownsRow base 167 5 (.slice (some ⟨g, 0, none⟩) n cap) n (flat Pc.cells ps)) :
    Calls Tryz.prog 143 #[.slice (some ⟨g, 0, none⟩) n cap, .int .i64 i, .int .i64 ((i : Int) + 1)] w fun e w' => e = .returned (.slice (some ⟨g, 0, none⟩) k cap) ∧ w'.ownsRow base 167 5 (.slice (some ⟨g, 0, none⟩) k cap) k (flat Pc.cells (ps.eraseIdx i)) ∧ w.grownBy w' (some g) := by
  obtain ⟨i0, hi0, hz0, hz1, hz2⟩ := info_parts Tryz.infoPiece
  have hin : i < ps.length := by omega
  have hcap : n ≤ cap := by obtain ⟨a', cap', he, -, h', -⟩ := own_at h; cases he; exact h'
  have hmax : cap ≤ 9223372036854775807 := by
    rcases h.2 with ⟨h', -⟩ | ⟨g', cap', cur, h', -, -, -, hm, -⟩
    · cases h'
    · cases h'; unfold maxLen at hm; omega
  have HO := Lib.hid h
  have HE := Lib.hid (erase_eq ps i)
  have hsp := split_at ps i hin
  obtain ⟨p, hp⟩ : ∃ p, p = ps[i] := ⟨_, rfl⟩
  rw [← hp] at hsp
  obtain ⟨M, hM⟩ : ∃ M, M = ps.drop (i + 1) := ⟨_, rfl⟩
  have hMl : M.length = k - i := by rw [hM, List.length_drop]; omega
  have HSP : Hid (flat Pc.cells ps = flat Pc.cells (ps.take i) ++ flat Pc.cells (p :: M)) := Lib.hid (by rw [hM, ← flat_append, ← hsp])
  have HFL : Hid ((flat Pc.cells (ps.take i)).length = i * 5) := Lib.hid (by rw [flat_length Pc.len, List.length_take, Nat.min_eq_left (by omega)])
  -- where the second part begins
  obtain ⟨A, hA, hnews⟩ : ∃ A : Addr, (if cap = i + 1 then some (⟨g, 0, none⟩ : Addr) else some ⟨g, (i + 1) * 5, none⟩) = some A ∧ Hid (∀ j u, (flat Pc.cells M)[j]? = some u → w.drew.cell? (A.add j) = some u) := by
    by_cases hc : cap = i + 1
    · refine ⟨⟨g, 0, none⟩, by simp [hc], fun j u hu => ?_⟩
      have h0 : M = [] := List.length_eq_zero_iff.1 (by omega)
      rw [h0] at hu
      simp [flat] at hu
    · refine ⟨⟨g, (i + 1) * 5, none⟩, by simp [hc], fun j u hu => ?_⟩
      have hj : j < (flat Pc.cells M).length := (List.getElem?_eq_some_iff.1 hu).1
      rw [flat_length Pc.len, hMl] at hj
      rw [Addr.add_lit]
      show w.cell? _ = _
      rw [h.cellAt ((i + 1) * 5 + j) (by omega), HSP.out, List.getElem?_append_right (by rw [HFL.out]; omega), HFL.out, flat_cons, List.getElem?_append_right (by rw [Pc.len]; omega), Pc.len]
      rw [← hu]
      congr 1
      omega
  have s1 : Hid ((flat Pc.cells M).length = (k - i) * 5) := Lib.hid (by rw [flat_length Pc.len, hMl])
  have s2 : Hid (∀ u ∈ flat Pc.cells M, u.oneCell' = true) := Lib.hid (one_cells Pc.one M)
  have s3 : Hid (∀ j, j < (flat Pc.cells M).length → (w.drew.cell? ⟨g, 0 + i * 5 + j, none⟩).isSome = true ∧ w.drew.frozen? ⟨g, 0 + i * 5 + j, none⟩ = false) := Lib.hid (by
    intro j hj
    rw [flat_length Pc.len, hMl] at hj
    obtain ⟨⟨v, hv⟩, hf⟩ := own_cell h (j := 0 + i * 5 + j) (by omega)
    exact ⟨by show (w.cell? _).isSome = true; rw [hv]; rfl, hf⟩)
  have hkk : i + (k - i) = k := by omega
  have hown := own_setCells (flat Pc.cells M) (A := flat Pc.cells (ps.take i)) (R := flat Pc.cells (p :: M)) (j := i * 5) (w := w.drew) (by rw [← HSP.out]; exact own_below h (bl_drew (Below.refl _ _)) (Nat.le_refl _)) HFL.out (by rw [flat_cons, List.length_append]; omega)
  rw [← flat_append] at hown
  have hgr := grown_setCells g (flat Pc.cells M) w.drew (i * 5)
  rw [← setCells_same] at hown hgr
  have HW := Lib.hid (And.intro hown (grown_trans (show w.grownBy w.drew (some g) from ⟨rfl, rfl, rfl, Nat.le_refl _, fun _ _ _ => rfl⟩) hgr))
  have HAL : Hid ((flat Pc.cells (ps.take i ++ M)).length = k * 5) := Lib.hid (by rw [flat_length Pc.len, List.length_append, hMl, List.length_take, Nat.min_eq_left (by omega), hkk])
  have heq : (((i : Int) == (i : Int) + 1)) = false := by simp; omega
  have hwr : IntKind.i64.wrap ((i : Int) + 1) = (i : Int) + 1 := by rw [IntKind.wrap_i64]; omega
  have hp0 : (0 : Int) ≤ (i : Int) + 1 := by omega
  have hp1 : (i : Int) + 1 ≤ (n : Int) := by omega
  have hp2 : ((i : Int) + 1).toNat = i + 1 := by omega
  have hp3 : n - (i + 1) = k - i := by omega
  have hic : i ≤ cap := by omega
  have hic2 : (i : Int) ≤ cap := by omega
  have hic3 : (0 : Int) ≤ i := by omega
  rw [HE.out, ← hM]
  clear h hown hgr hp hM hMl hsp hn hin
  go_enter Tryz.func143, Tryz.ntmps143
  go_wp2
  go_region_law (refine step_append_room rfl (.tmp 22) (.tmp 25) 34 rfl 167 i0 5 Tryz.underlying34 hi0 hz1 g 0 i cap (by simp [Act.eval, Act.put]) A (k - i) (cap - (i + 1)) (flat Pc.cells M) (by simp [Act.eval, Act.put]) s1.out hnews.out s2.out (by omega) s3.out ?_)
  obtain ⟨W, hW⟩ : ∃ W, W = w.drew.setCells g (i * 5) (flat Pc.cells M) := ⟨_, rfl⟩
  rw [← hW] at HW
  obtain ⟨w3, hcl, hown3, hgr3⟩ := own_clear (P := Tryz.prog) (ty := 0) (c := cap - k) Tryz.underlying34 zeroPc (by rfl) Pc.one0 HW.out.1 HAL.out (by omega) (by omega)
  rw [show n - k = 1 by omega] at hcl
  have HF := Lib.hid (And.intro hown3 (grown_trans HW.out.2 hgr3))
  have hkI : (k : Int) ≤ n := by omega
  have hkI0 : (0 : Int) ≤ k := by omega
  have hkn : n - k = 1 := by omega
  have hkc : k ≤ cap := by omega
  rw [← hW]
  clear hW hown3 hgr3 hwr hp0 hp1 hp2 hp3 heq hic2 hic3
  go_wp2
  go_ret
  exact ⟨rfl, HF.out.1, HF.out.2⟩
end Go.Proofs.YtdhjhnbmecbaaaaGreat
/- Contracts: a board without a piece (the program). -/
namespace Go.Proofs.YtdhjhnbmecbaaaaGreat
open Go.RowKit
set_option linter.unusedVariables false
set_option linter.unusedSimpArgs false
set_option maxHeartbeats 400000
set_option maxRecDepth 100000
theorem less_any (b0 : Nat) (l : Bd) (i : Nat) (w : World) (h : BP w b0 l) (hi : i < l.ps.length) (hn : l.ps.length ≤ 10000) :
    Calls Tryz.prog 99 #[.pointer (some ⟨b0, 0, none⟩), .int .i64 i] w fun e w' => ∃ v, e = .returned (bdv l.wd l.hg v) ∧ w'.ownsRow w.heap.size 167 5 v (l.ps.eraseIdx i).length (flat Pc.cells (l.ps.eraseIdx i)) ∧ Below w.heap.size w w' := by
  have HB := Lib.hid (fun w1 (hb : Below w.heap.size w w1) => h.step hb)
  have HLE : Hid ((l.ps.eraseIdx i).length = l.ps.length - 1) := Lib.hid (by rw [List.length_eraseIdx, if_pos hi])
  obtain ⟨hbl, s, ⟨c0, c1, c2⟩, a, cap, rfl, hps⟩ := h
  have e2 : (w.alloc (.cells #[.int .i8 0, .int .i8 0, .slice none 0 0] 36)).cell? ⟨b0, 2, none⟩ = some (.slice a l.ps.length cap) := by rw [cell_alloc _ _ _ _ hbl]; exact c2
  have hb1 : Below w.heap.size w (w.alloc (.cells #[.int .i8 0, .int .i8 0, .slice none 0 0] 36)) := bl_alloc (Below.refl _ _)
  have hz1 : (w.alloc (.cells #[.int .i8 0, .int .i8 0, .slice none 0 0] 36)).heap.size = w.heap.size + 1 := by simp
  have HX := Lib.hid (BF3.new w (.int .i8 0) (.int .i8 0) (.slice none 0 0) 36)
  obtain ⟨k, hk⟩ : ∃ k, k = l.ps.length - 1 := ⟨_, rfl⟩
  rw [← hk] at HLE
  have hk1 : l.ps.length ≤ k + 1 := by omega
  have hk2 : k + 1 ≤ l.ps.length := by omega
  have hk3 : l.ps.length = k + 1 := by omega
  have HK3 := Lib.hid hk3
  have HCL := Lib.hid (fun w1 (hb : Below w.heap.size w w1) => clonePc_any (B := w.heap.size) a cap l.ps w1 (hps.below hb (Nat.le_refl _)) hb.size (by omega))
  clear hk hk3
  have hwr : IntKind.i64.wrap ((i : Int) + 1) = (i : Int) + 1 := by rw [IntKind.wrap_i64]; omega
  go_enter Tryz.func99, Tryz.ntmps99
  go_wp2_with fail
  obtain ⟨w1, hw1⟩ : ∃ w1, w1 = w.alloc (.cells #[.int .i8 0, .int .i8 0, .slice none 0 0] 36) := ⟨_, rfl⟩
  rw [← hw1] at e2 hb1 hz1 HX ⊢
  obtain ⟨g, hg⟩ : ∃ g, g = w.heap.size := ⟨_, rfl⟩
  rw [← hg] at HX ⊢
  have HB1 := Lib.hid hb1
  have HG := Lib.hid hg
  clear hw1 hg hb1
  refine (HCL.out _ HB1.out).mono ?_
  rintro e w2 ⟨v2, rfl, hown2, hb2⟩
  rw [HK3.out] at hown2
  obtain ⟨g2, cap2, rfl, hg2⟩ := own_some hown2
  have HDL := Lib.hid (deletePc_any w1.heap.size g2 l.ps.length k cap2 i l.ps w2 (by omega) (by omega) hk1 hk2 rfl (by rw [HK3.out]; exact hown2))
  have hl2 := hown2.lt g2 rfl
  rw [← HK3.out]
  have HB2 := Lib.hid (bl_trans HB1.out hb2)
  have HX2 : Hid (BF3 w2 g (.int .i8 0) (.int .i8 0) (.slice none 0 0)) := Lib.hid (by
    obtain ⟨y, x0, x1, x2, f0, f1, f2⟩ := HX.out
    obtain ⟨hc, hf⟩ := bcell hb2
    exact ⟨Nat.lt_of_lt_of_le y hb2.size, by rw [hc _ _ y]; exact x0, by rw [hc _ _ y]; exact x1, by rw [hc _ _ y]; exact x2, by rw [hf _ _ y]; exact f0, by rw [hf _ _ y]; exact f1, by rw [hf _ _ y]; exact f2⟩)
  have hz2 := hb2.size
  clear hown2 hb2 e2
  go_wp2_with fail
  refine HDL.out.mono ?_
  rintro e w3 ⟨rfl, hown3, hgr3⟩
  have hgl := HX2.out.1
  have hgg : g ≠ g2 := by have := HX.out.1; omega
  have HX3 : Hid (BF3 w3 g (.int .i8 0) (.int .i8 0) (.slice none 0 0)) := Lib.hid (by
    obtain ⟨y, x0, x1, x2, f0, f1, f2⟩ := HX2.out
    have q := hgr3.block g y (by intro e; cases e; exact hgg rfl)
    exact ⟨Nat.lt_of_lt_of_le y hgr3.size, by rw [World.cell?_of_block q]; exact x0, by rw [World.cell?_of_block q]; exact x1, by rw [World.cell?_of_block q]; exact x2, by rw [World.frozen?_of_block q]; exact f0, by rw [World.frozen?_of_block q]; exact f1, by rw [World.frozen?_of_block q]; exact f2⟩)
  have hgw : w.heap.size ≤ g := by rw [HG.out]; exact Nat.le_refl _
  have HB3 := Lib.hid (bl_grown HB2.out hgr3 (fun q hq => by cases hq; omega))
  have HO3 := Lib.hid hown3
  have HWC := Lib.hid (with_any b0 l (some ⟨g2, 0, none⟩) k cap2 w3 (HB.out w3 HB3.out))
  clear hown3 hgr3
  go_wp2_with fail
  refine HWC.out.mono ?_
  rintro e w4 ⟨rfl, hb4⟩
  have HX4 : Hid (BF3 w4 g (.int .i8 0) (.int .i8 0) (.slice none 0 0)) := Lib.hid (by
    obtain ⟨y, x0, x1, x2, f0, f1, f2⟩ := HX3.out
    obtain ⟨hc, hf⟩ := bcell hb4
    exact ⟨Nat.lt_of_lt_of_le y hb4.size, by rw [hc _ _ y]; exact x0, by rw [hc _ _ y]; exact x1, by rw [hc _ _ y]; exact x2, by rw [hf _ _ y]; exact f0, by rw [hf _ _ y]; exact f1, by rw [hf _ _ y]; exact f2⟩)
  obtain ⟨hg4, x0, x1, x2, f0, f1, f2⟩ := HX4.out
  have HB4 := Lib.hid (bl_trans HB3.out hb4)
  have HO4 := Lib.hid (own_below HO3.out hb4 (Nat.le_refl _))
  clear hb4
  go_wp2
  refine bodyPost_ret (v := bdv l.wd l.hg (.slice (some ⟨g2, 0, none⟩) k cap2)) (by simp [results, Tryz.results99, go_sem, x0, x1, x2]) rfl ⟨_, rfl, ?_, bl_set (bl_set (bl_set HB4.out hgw _) hgw _) hgw _⟩
  rw [HLE.out]
  have hgl1 := HX.out.1
  refine own_mono (base' := w1.heap.size) ?_ (by omega)
  repeat (with_reducible refine ownsRow_setCell_below ?_ (by first | (simp; done) | (simp; omega)) _)
  exact HO4.out
end Go.Proofs.YtdhjhnbmecbaaaaGreat
/- Contracts: whether a part is useless (the program). -/
namespace Go.Proofs.YtdhjhnbmecbaaaaGreat
open Go.RowKit
set_option linter.unusedVariables false
set_option linter.unusedSimpArgs false
set_option maxHeartbeats 400000
set_option maxRecDepth 100000
theorem eg_ul1 (args : Array Value) (w : World) : (callFunc 136 args).run Tryz.prog w = .ok (.enter 136 args) w := by kernel_rfl
theorem useless1_any (p : Po) (c : Ce) (b7 : Nat) (w : World) (hp : p.ok) (hc : c.ok) (h7 : b7 < w.heap.size) (c0 : w.cell? ⟨b7, 0, none⟩ = some (.int .i8 c.x)) (c1 : w.cell? ⟨b7, 1, none⟩ = some (.int .i8 c.y)) :
    Calls Tryz.prog 136 #[p.val, .pointer (some ⟨b7, 0, none⟩)] w fun e w' => e = .returned (.bool (decide ((⟨p.x, p.y⟩ : Ce) = c))) ∧ Below w.heap.size w w' := by
  have e0 : (w.alloc (.cells #[.int .i8 p.x, .int .i8 p.y, .int .i8 p.s] 136)).cell? ⟨b7, 0, none⟩ = some (.int .i8 c.x) := by rw [cell_alloc _ _ _ _ h7]; exact c0
  have e1 : (w.alloc (.cells #[.int .i8 p.x, .int .i8 p.y, .int .i8 p.s] 136)).cell? ⟨b7, 1, none⟩ = some (.int .i8 c.y) := by rw [cell_alloc _ _ _ _ h7]; exact c1
  have he : ∀ w, (binOp .eql 134 (.agg #[.int .i8 p.x, .int .i8 p.y]) (.agg #[.int .i8 c.x, .int .i8 c.y])).run Tryz.prog w = .ok (.bool (decide ((⟨p.x, p.y⟩ : Ce) = c))) w := run_eql_ce p.x p.y c.x c.y
  go_enter Tryz.func136, Tryz.ntmps136
  go_wp2
  go_ret
  exact ⟨rfl, (by repeat (first | with_reducible exact Below.refl _ _ | with_reducible assumption | with_reducible apply bl_drewN | with_reducible apply bl_drew | with_reducible apply bl_alloc | (with_reducible refine bl_set ?_ (by first | (simp; done) | (simp; omega)) _) | with_reducible refine bl_trans ?_ (by with_reducible assumption)))⟩
theorem mp_of {w : World} {g : Nat} {m : Mc} {s si so : Value} (hg : g < w.heap.size) (c0 : w.cell? ⟨g, 0, none⟩ = some (.int .i8 m.bd.wd)) (c1 : w.cell? ⟨g, 1, none⟩ = some (.int .i8 m.bd.hg)) (c2 : w.cell? ⟨g, 2, none⟩ = some s) (c3 : w.cell? ⟨g, 3, none⟩ = some si) (c4 : w.cell? ⟨g, 4, none⟩ = some so) (h1 : PV w s m.bd.ps) (h2 : RV Po.cells w si m.ins) (h3 : RV Ce.cells w so m.outs) : MP w g m :=
  ⟨hg, s, si, so, ⟨⟨c0, c1, c2⟩, c3, c4⟩, h1, h2, h3⟩
theorem pv_own {w : World} {base : Nat} {v : Value} {ps : List Pc} (h : w.ownsRow base 167 5 v ps.length (flat Pc.cells ps)) : PV w v ps := by
  obtain ⟨a, cap, rfl, h1, -, -⟩ := own_at h
  exact ⟨a, cap, rfl, h1⟩
theorem map_cast_inj : ∀ (l l' : List Nat), l.map (fun (n : Nat) => (n : Int)) = l'.map (fun (n : Nat) => (n : Int)) → l = l'
  | [], [], _ => rfl
  | [], _ :: _, h => by simp at h
  | _ :: _, [], h => by simp at h
  | x :: xs, y :: ys, h => by
    simp only [List.map_cons, List.cons.injEq] at h
    obtain ⟨h1, h2⟩ := h
    rw [map_cast_inj xs ys h2, show x = y by omega]
set_option maxHeartbeats 1600000 in
theorem useless_any (b0 : Nat) (m : Mc) (i : Nat) (a : Option Addr) (cap : Nat) (tabs : List Nat) (w : World) (h : MP w b0 m) (hv : vMc m = true) (hok : m.ok) (hi : i < m.bd.ps.length) (hs : SlAt w.heap.size w a (flat U64_cells (tabs.map (fun (n : Nat) => (n : Int))))) (htl : tabs.length ≤ 10000000) :
    Calls Tryz.prog 95 #[.pointer (some ⟨b0, 0, none⟩), .int .i64 i, .slice a tabs.length cap] w fun e w' => e = .returned (.bool (ulP m tabs i)) ∧ Below w.heap.size w w' := by
  obtain ⟨hvb, h60, hi1, hi6, ho1, ho8, -⟩ := vMc_parts m hv
  have HM := Lib.hid h
  have HUL : Hid (ulP m tabs i = ((!portAt m m.bd.ps[i].at_) && decide (mTabI (woMc m i) = tabs.map (fun (n : Nat) => (n : Int))))) := Lib.hid (by
    unfold ulP
    rw [vMc_wo m i hv hi]
    congr 1
    rw [Bool.eq_iff_iff, decide_eq_true_eq, decide_eq_true_eq]
    unfold mTabI
    constructor
    · intro e; rw [e]
    · intro e; exact map_cast_inj _ _ e)
  have HVW : Hid (portAt m m.bd.ps[i].at_ = false → vMc (woMc m i) = true) := Lib.hid (fun e => by rw [vMc_wo m i hv hi, e]; rfl)
  have HOKW := Lib.hid (woMc_ok m i hok)
  have HPOK : Hid m.bd.ps[i].ok := Lib.hid (hok.1.2.2 i hi)
  have HLS := Lib.hid (fun w1 (hb : Below w.heap.size w w1) => less_any b0 m.bd i w1 (HM.out.step hb).bp hi (by omega))
  obtain ⟨hbl, s, si, so, ⟨⟨c0, c1, c2⟩, c3, c4⟩, ⟨pa, pcap, rfl, hps⟩, ⟨ia, icap, rfl, hins⟩, ⟨oa, ocap, rfl, houts⟩⟩ := h
  obtain ⟨b, off, rfl, hbp, hat⟩ := pcs_get hps hi
  unfold PcAt at hat
  obtain ⟨p0, p1, -⟩ := hat
  obtain ⟨C, hC⟩ : ∃ C, C = m.bd.ps[i].at_ := ⟨_, rfl⟩
  have hCx : m.bd.ps[i].x = C.x := by rw [hC]; rfl
  have hCy : m.bd.ps[i].y = C.y := by rw [hC]; rfl
  have HCO : Hid C.ok := Lib.hid (by rw [hC]; exact HPOK.out.1)
  rw [hCx] at p0
  rw [hCy] at p1
  rw [← hC] at HUL HVW
  have hiI : (i : Int) < m.bd.ps.length := by omega
  have hb7 : Below w.heap.size w (w.alloc (.cells #[.int .i8 C.x, .int .i8 C.y] 134)) := bl_alloc (Below.refl _ _)
  have hz7 : (w.alloc (.cells #[.int .i8 C.x, .int .i8 C.y] 134)).heap.size = w.heap.size + 1 := by simp
  have k0 : (w.alloc (.cells #[.int .i8 C.x, .int .i8 C.y] 134)).cell? ⟨w.heap.size, 0, none⟩ = some (.int .i8 C.x) := by simp [go_sem]
  have k1 : (w.alloc (.cells #[.int .i8 C.x, .int .i8 C.y] 134)).cell? ⟨w.heap.size, 1, none⟩ = some (.int .i8 C.y) := by simp [go_sem]
  have H7 := Lib.hid (And.intro hb7 (And.intro hz7 (And.intro k0 k1)))
  obtain ⟨res, hres⟩ : ∃ res, res = ulP m tabs i := ⟨_, rfl⟩
  rw [← hres]
  rw [← hres] at HUL
  clear hC hCx hCy hres hb7 hz7 k0 k1
  have HC3 := Lib.hid (And.intro c3 c4)
  go_enter Tryz.func95, Tryz.ntmps95
  go_upto_region 2 with fail
  obtain ⟨w1, hw1⟩ : ∃ w1, w1 = w.alloc (.cells #[.int .i8 C.x, .int .i8 C.y] 134) := ⟨_, rfl⟩
  rw [← hw1] at H7 ⊢
  obtain ⟨g7, hg7⟩ : ∃ g7, g7 = w.heap.size := ⟨_, rfl⟩
  have hgl : w.heap.size ≤ g7 := by omega
  obtain ⟨hb1, hz1, k0, k1⟩ := H7.out
  rw [← hg7] at k0 k1 ⊢
  have hg1 : g7 < w1.heap.size := by omega
  have d3 : w1.cell? ⟨b0, 3, none⟩ = some (.slice ia m.ins.length icap) := by rw [hb1.cell (p := ⟨b0, 3, none⟩) hbl]; exact c3
  have d4 : w1.cell? ⟨b0, 4, none⟩ = some (.slice oa m.outs.length ocap) := by rw [hb1.cell (p := ⟨b0, 4, none⟩) hbl]; exact c4
  have hb01 : b0 < w1.heap.size := Nat.lt_of_lt_of_le hbl hb1.size
  have HCT := Lib.hid (fun w2 (hb : Below w1.heap.size w1 w2) => containsCe_any (B := w.heap.size) oa ocap m.outs C w2 (houts.below (bl_trans hb1 hb) (Nat.le_refl _)) (bl_trans hb1 hb).size (by omega))
  have HCF := Lib.hid (fun w2 (hb : Below w1.heap.size w1 w2) => containsFuncPo_any (B := w.heap.size) 136 #[.pointer (some ⟨g7, 0, none⟩)] ia icap m.ins w2 (hins.below (bl_trans hb1 hb) (Nat.le_refl _)) hok.2.1 (bl_trans hb1 hb).size (by omega) eg_ul1 (fun p => decide ((⟨p.x, p.y⟩ : Ce) = C)) (fun p w3 hp hb3 => useless1_any p C g7 w3 hp HCO.out (by have := hb.size; have := hb3.size; omega) (by rw [hb3.cell (p := ⟨g7, 0, none⟩) (show g7 < w2.heap.size by have := hb.size; omega), hb.cell (p := ⟨g7, 0, none⟩) hg1]; exact k0) (by rw [hb3.cell (p := ⟨g7, 1, none⟩) (show g7 < w2.heap.size by have := hb.size; omega), hb.cell (p := ⟨g7, 1, none⟩) hg1]; exact k1)))
  have HB1 := Lib.hid hb1
  have HPA : Hid (portAt m C = (decide (C ∈ m.outs) || m.ins.any (fun p => decide ((⟨p.x, p.y⟩ : Ce) = C)))) := Lib.hid rfl
  obtain ⟨A1, hA1⟩ : ∃ A1, A1 = decide (C ∈ m.outs) := ⟨_, rfl⟩
  rw [← hA1] at HCT HPA
  obtain ⟨A2, hA2⟩ : ∃ A2, A2 = m.ins.any (fun p => decide ((⟨p.x, p.y⟩ : Ce) = C)) := ⟨_, rfl⟩
  rw [← hA2] at HCF HPA
  clear hw1 hz1 hg7 hA1 hA2 hb1 p0 p1
  cases A1 with
  | true =>
    have HF : Hid (res = false) := Lib.hid (by rw [HUL.out, HPA.out]; rfl)
    have b20 : Below w1.heap.size w1 w1.drew := bl_drew (Below.refl _ _)
    refine wp_region_T 0 14 (fun w' => w'.cell? ⟨b0, 4, none⟩ = some (.slice oa m.outs.length ocap) ∧ w'.cell? ⟨g7, 0, none⟩ = some (.int .i8 C.x) ∧ w'.cell? ⟨g7, 1, none⟩ = some (.int .i8 C.y)) (by kernel_rfl) ⟨d4, k0, k1⟩ (fun hHeld => ?_)
    have HCC := Lib.hid (HCT.out _ b20)
    have hzY : w1.heap.size ≤ w1.drew.heap.size := b20.size
    obtain ⟨Y0, hY0⟩ : ∃ Y, Y = w1.drew := ⟨_, rfl⟩
    rw [← hY0] at b20 HCC hzY hHeld ⊢
    clear hY0
    (refine' wpAnyT_take 12 0 (oi := ?oi1) (v := ?v1) ?hi1 (by kernel_rfl) (by kernel_rfl) (by kernel_rfl) (by kernel_rfl) (by kernel_rfl) (by kernel_rfl) ?hQ1 ?hy1 (by assumption) ?rest1; (case hi1 => simp only [List.getElem?_toArray, List.getElem?_cons_zero, List.getElem?_cons_succ]; rfl); (case hQ1 => exact fun _ _ _ h => h); (case hy1 => refine Or.inl ⟨by rfl, ?_⟩; intro wz hSw; (try dsimp only at hSw); go_simp; try with_reducible rfl); try simp only [Act.put, List.setIfInBounds_toArray, List.set_cons_zero, List.set_cons_succ])
    (refine' wpAnyT_take 12 1 (oi := ?oi2) (v := ?v2) ?hi2 (by kernel_rfl) (by kernel_rfl) (by kernel_rfl) (by kernel_rfl) (by kernel_rfl) (by kernel_rfl) ?hQ2 ?hy2 (by assumption) ?rest2; (case hi2 => simp only [List.getElem?_toArray, List.getElem?_cons_zero, List.getElem?_cons_succ]; rfl); (case hQ2 => exact fun _ _ _ h => h); (case hy2 => refine Or.inl ⟨by rfl, ?_⟩; intro wz hSw; (try dsimp only at hSw); go_simp; try with_reducible rfl); try simp only [Act.put, List.setIfInBounds_toArray, List.set_cons_zero, List.set_cons_succ])
    (refine' wpAnyT_take 12 2 (oi := ?oi3) (v := ?v3) ?hi3 (by kernel_rfl) (by kernel_rfl) (by kernel_rfl) (by kernel_rfl) (by kernel_rfl) (by kernel_rfl) ?hQ3 ?hy3 (by assumption) ?rest3; (case hi3 => simp only [List.getElem?_toArray, List.getElem?_cons_zero, List.getElem?_cons_succ]; rfl); (case hQ3 => exact fun _ _ _ h => h); (case hy3 => refine Or.inl ⟨by rfl, ?_⟩; intro wz hSw; (try dsimp only at hSw); go_simp; try with_reducible rfl); try simp only [Act.put, List.setIfInBounds_toArray, List.set_cons_zero, List.set_cons_succ])
    (refine' wpAnyT_take 12 3 (oi := ?oi4) (v := ?v4) ?hi4 (by kernel_rfl) (by kernel_rfl) (by kernel_rfl) (by kernel_rfl) (by kernel_rfl) (by kernel_rfl) ?hQ4 ?hy4 (by assumption) ?rest4; (case hi4 => simp only [List.getElem?_toArray, List.getElem?_cons_zero, List.getElem?_cons_succ]; rfl); (case hQ4 => exact fun _ _ _ h => h); (case hy4 => refine Or.inl ⟨by rfl, ?_⟩; intro wz hSw; (try dsimp only at hSw); go_simp; try with_reducible rfl); try simp only [Act.put, List.setIfInBounds_toArray, List.set_cons_zero, List.set_cons_succ])
    (refine' wpAnyT_take 12 4 (oi := ?oi5) (v := ?v5) ?hi5 (by kernel_rfl) (by kernel_rfl) (by kernel_rfl) (by kernel_rfl) (by kernel_rfl) (by kernel_rfl) ?hQ5 ?hy5 (by assumption) ?rest5; (case hi5 => simp only [List.getElem?_toArray, List.getElem?_cons_zero, List.getElem?_cons_succ]; rfl); (case hQ5 => exact fun _ _ _ h => h); (case hy5 => refine Or.inl ⟨by rfl, ?_⟩; intro wz hSw; (try dsimp only at hSw); go_simp; try with_reducible rfl); try simp only [Act.put, List.setIfInBounds_toArray, List.set_cons_zero, List.set_cons_succ])
    refine wpAnyT_ready (rs := [5]) (by kernel_rfl) (by simp) ?_
    (refine' AllReadyT.cons (o := ?o14) ?ho14 (fun K hK => ?step14) AllReadyT.nil; (case ho14 => simp only [List.getElem?_toArray, List.getElem?_cons_zero, List.getElem?_cons_succ]; rfl))
    go_simp
    refine HCC.out.mono ?_
    rintro e Y1 ⟨rfl, ba⟩
    have S1 : Y1.cell? ⟨b0, 4, none⟩ = some (.slice oa m.outs.length ocap) ∧ Y1.cell? ⟨g7, 0, none⟩ = some (.int .i8 C.x) ∧ Y1.cell? ⟨g7, 1, none⟩ = some (.int .i8 C.y) := by
      obtain ⟨f1, f2, f3⟩ := hHeld
      exact ⟨by rw [ba.cell (p := ⟨b0, 4, none⟩) (Nat.lt_of_lt_of_le hb01 hzY)]; exact f1, by rw [ba.cell (p := ⟨g7, 0, none⟩) (Nat.lt_of_lt_of_le hg1 hzY)]; exact f2, by rw [ba.cell (p := ⟨g7, 1, none⟩) (Nat.lt_of_lt_of_le hg1 hzY)]; exact f3⟩
    refine hK.out _ _ (fun _ _ => S1) (fun hHd => ?_)
    have hHeld := hHd (by decide) (by decide)
    have B2 := Lib.hid (bl_trans HB1.out (bl_trans b20 ba))
    clear hK K hHd S1 HCC ba b20 hzY
    try simp only [Act.put, List.setIfInBounds_toArray, List.set_cons_zero, List.set_cons_succ]
    (refine' wpAnyT_take 12 6 (oi := ?oi6) (v := ?v6) ?hi6 (by kernel_rfl) (by kernel_rfl) (by kernel_rfl) (by kernel_rfl) (by kernel_rfl) (by kernel_rfl) ?hQ6 ?hy6 (by assumption) ?rest6; (case hi6 => simp only [List.getElem?_toArray, List.getElem?_cons_zero, List.getElem?_cons_succ]; rfl); (case hQ6 => exact fun _ _ _ h => h); (case hy6 => refine Or.inl ⟨by rfl, ?_⟩; intro wz hSw; (try dsimp only at hSw); go_simp; try with_reducible rfl); try simp only [Act.put, List.setIfInBounds_toArray, List.set_cons_zero, List.set_cons_succ])
    (refine' wpAnyT_take 12 7 (oi := ?oi8) (v := ?v8) ?hi8 (by kernel_rfl) (by kernel_rfl) (by kernel_rfl) (by kernel_rfl) (by kernel_rfl) (by kernel_rfl) ?hQ8 ?hy8 (by assumption) ?rest8; (case hi8 => simp only [List.getElem?_toArray, List.getElem?_cons_zero, List.getElem?_cons_succ]; rfl); (case hQ8 => exact fun _ _ _ h => h); (case hy8 => refine Or.inr ⟨by rfl, ?_⟩; with_reducible rfl); try simp only [Act.put, List.setIfInBounds_toArray, List.set_cons_zero, List.set_cons_succ])
    (refine' wpAnyT_take 12 8 (oi := ?oi9) (v := ?v9) ?hi9 (by kernel_rfl) (by kernel_rfl) (by kernel_rfl) (by kernel_rfl) (by kernel_rfl) (by kernel_rfl) ?hQ9 ?hy9 (by assumption) ?rest9; (case hi9 => simp only [List.getElem?_toArray, List.getElem?_cons_zero, List.getElem?_cons_succ]; rfl); (case hQ9 => exact fun _ _ _ h => h); (case hy9 => refine Or.inr ⟨by rfl, ?_⟩; with_reducible rfl); try simp only [Act.put, List.setIfInBounds_toArray, List.set_cons_zero, List.set_cons_succ])
    (refine' wpAnyT_take 12 9 (oi := ?oi10) (v := ?v10) ?hi10 (by kernel_rfl) (by kernel_rfl) (by kernel_rfl) (by kernel_rfl) (by kernel_rfl) (by kernel_rfl) ?hQ10 ?hy10 (by assumption) ?rest10; (case hi10 => simp only [List.getElem?_toArray, List.getElem?_cons_zero, List.getElem?_cons_succ]; rfl); (case hQ10 => exact fun _ _ _ h => h); (case hy10 => refine Or.inr ⟨by rfl, ?_⟩; with_reducible rfl); try simp only [Act.put, List.setIfInBounds_toArray, List.set_cons_zero, List.set_cons_succ])
    (refine' wpAnyT_take 12 10 (oi := ?oi11) (v := ?v11) ?hi11 (by kernel_rfl) (by kernel_rfl) (by kernel_rfl) (by kernel_rfl) (by kernel_rfl) (by kernel_rfl) ?hQ11 ?hy11 (by assumption) ?rest11; (case hi11 => simp only [List.getElem?_toArray, List.getElem?_cons_zero, List.getElem?_cons_succ]; rfl); (case hQ11 => exact fun _ _ _ h => h); (case hy11 => refine Or.inr ⟨by rfl, ?_⟩; with_reducible rfl); try simp only [Act.put, List.setIfInBounds_toArray, List.set_cons_zero, List.set_cons_succ])
    (refine' wpAnyT_take 12 11 (oi := ?oi12) (v := ?v12) ?hi12 (by kernel_rfl) (by kernel_rfl) (by kernel_rfl) (by kernel_rfl) (by kernel_rfl) (by kernel_rfl) ?hQ12 ?hy12 (by assumption) ?rest12; (case hi12 => simp only [List.getElem?_toArray, List.getElem?_cons_zero, List.getElem?_cons_succ]; rfl); (case hQ12 => exact fun _ _ _ h => h); (case hy12 => refine Or.inr ⟨by rfl, ?_⟩; with_reducible rfl); try simp only [Act.put, List.setIfInBounds_toArray, List.set_cons_zero, List.set_cons_succ])
    (refine' wpAnyT_take 12 12 (oi := ?oi13) (v := ?v13) ?hi13 (by kernel_rfl) (by kernel_rfl) (by kernel_rfl) (by kernel_rfl) (by kernel_rfl) (by kernel_rfl) ?hQ13 ?hy13 (by assumption) ?rest13; (case hi13 => simp only [List.getElem?_toArray, List.getElem?_cons_zero, List.getElem?_cons_succ]; rfl); (case hQ13 => exact fun _ _ _ h => h); (case hy13 => refine Or.inr ⟨by rfl, ?_⟩; with_reducible rfl); try simp only [Act.put, List.setIfInBounds_toArray, List.set_cons_zero, List.set_cons_succ])
    (refine' wpAnyT_take 12 13 (oi := ?oi7) (v := ?v7) ?hi7 (by kernel_rfl) (by kernel_rfl) (by kernel_rfl) (by kernel_rfl) (by kernel_rfl) (by kernel_rfl) ?hQ7 ?hy7 (by assumption) ?rest7; (case hi7 => simp only [List.getElem?_toArray, List.getElem?_cons_zero, List.getElem?_cons_succ]; rfl); (case hQ7 => exact fun _ _ _ h => h); (case hy7 => refine Or.inl ⟨by rfl, ?_⟩; intro wz hSw; (try dsimp only at hSw); go_simp; try with_reducible rfl); try simp only [Act.put, List.setIfInBounds_toArray, List.set_cons_zero, List.set_cons_succ])
    refine wpAnyT_done (by kernel_rfl) ?_ _
    go_wp2
    go_ret
    exact ⟨by rw [HF.out]; rfl, B2.out⟩
  | false =>
    go_region_held3 (fun w' => Below w1.heap.size w1 w' ∧ ∀ b o, b < w1.heap.size → w'.cell? ⟨b, o, none⟩ = w1.cell? ⟨b, o, none⟩) ((refine ext_s ?_; exact (by repeat (first | with_reducible exact Below.refl _ _ | with_reducible assumption | with_reducible apply bl_drewN | with_reducible apply bl_drew | with_reducible apply bl_alloc | (with_reducible refine bl_set ?_ (by first | (simp; done) | (simp; omega)) _) | with_reducible refine bl_trans ?_ (by with_reducible assumption))))) (first | (go_at_call 134; refine (HCT.out _ ?_).mono ?_; (exact (by repeat (first | with_reducible exact Below.refl _ _ | with_reducible assumption | with_reducible apply bl_drewN | with_reducible apply bl_drew | with_reducible apply bl_alloc | (with_reducible refine bl_set ?_ (by first | (simp; done) | (simp; omega)) _) | with_reducible refine bl_trans ?_ (by with_reducible assumption)))); rintro e wa ⟨rfl, ba⟩; have bA : Below w1.heap.size w1 wa := (by repeat (first | with_reducible exact Below.refl _ _ | with_reducible assumption | with_reducible apply bl_drewN | with_reducible apply bl_drew | with_reducible apply bl_alloc | (with_reducible refine bl_set ?_ (by first | (simp; done) | (simp; omega)) _) | with_reducible refine bl_trans ?_ (by with_reducible assumption))); obtain ⟨hca, hfa⟩ := bcell bA) | (go_at_call 135; refine (HCF.out _ ?_).mono ?_; (exact (by repeat (first | with_reducible exact Below.refl _ _ | with_reducible assumption | with_reducible apply bl_drewN | with_reducible apply bl_drew | with_reducible apply bl_alloc | (with_reducible refine bl_set ?_ (by first | (simp; done) | (simp; omega)) _) | with_reducible refine bl_trans ?_ (by with_reducible assumption)))); rintro e wb ⟨rfl, bb⟩; have bB : Below w1.heap.size w1 wb := (by repeat (first | with_reducible exact Below.refl _ _ | with_reducible assumption | with_reducible apply bl_drewN | with_reducible apply bl_drew | with_reducible apply bl_alloc | (with_reducible refine bl_set ?_ (by first | (simp; done) | (simp; omega)) _) | with_reducible refine bl_trans ?_ (by with_reducible assumption))); obtain ⟨hcb, hfb⟩ := bcell bB))
    have bw2 : Below w1.heap.size w1 wb := (by repeat (first | with_reducible exact Below.refl _ _ | with_reducible assumption | with_reducible apply bl_drewN | with_reducible apply bl_drew | with_reducible apply bl_alloc | (with_reducible refine bl_set ?_ (by first | (simp; done) | (simp; omega)) _) | with_reducible refine bl_trans ?_ (by with_reducible assumption)))
    cases A2 with
    | true =>
      have HF : Hid (res = false) := Lib.hid (by rw [HUL.out, HPA.out]; rfl)
      go_wp2
      go_ret
      exact ⟨by rw [HF.out]; rfl, bl_trans HB1.out bw2⟩
    | false =>
      have hpf : portAt m C = false := by rw [HPA.out]; rfl
      have hvw := HVW.out hpf
      have HF : Hid (res = decide (mTabI (woMc m i) = tabs.map (fun (n : Nat) => (n : Int)))) := Lib.hid (by rw [HUL.out, hpf]; rfl)
      have B2 := Lib.hid (bl_trans HB1.out bw2)
      have f3 : wb.cell? ⟨b0, 3, none⟩ = some (.slice ia m.ins.length icap) := by rw [bw2.cell (p := ⟨b0, 3, none⟩) hb01]; exact d3
      have f4 : wb.cell? ⟨b0, 4, none⟩ = some (.slice oa m.outs.length ocap) := by rw [bw2.cell (p := ⟨b0, 4, none⟩) hb01]; exact d4
      have hb0b : b0 < wb.heap.size := Nat.lt_of_lt_of_le hbl B2.out.size
      have HWK := Lib.hid (fun g w3 (hm : MP w3 g (woMc m i)) => worksOf_any g (woMc m i) w3 hm hvw HOKW.out)
      have HTB := Lib.hid (fun g g2 w3 (hw : WkAt w3 g2 g (woMc m i)) => wtables_any g2 g (woMc m i) w3 hw hvw HOKW.out)
      have HEQ := Lib.hid (fun w3 (hb : Below w.heap.size w w3) a' cap' xs (hx : SlAt w3.heap.size w3 a' (flat U64_cells xs)) (hl : xs.length ≤ 10000000) => equalU64_any (B := w3.heap.size) a' a cap' cap xs (tabs.map (fun (n : Nat) => (n : Int))) w3 hx ((hs.below hb (Nat.le_refl _)).mono hb.size) (Nat.le_refl _) hl (by rw [List.length_map]; exact htl))
      clear HCT HCF hpf hvw k0 k1 hca hfa hcb hfb
      go_upto_region 4 with fail
      have B2x := B2.out
      go_cut [8] from 32 to 45 (fun s8 wx => ∃ g : Nat, s8 = .pointer (some ⟨g, 0, none⟩) ∧ MP wx g (woMc m i) ∧ Below w.heap.size w wx)
      case first =>
        go_region_held3 (fun w' => Below wb.heap.size wb w' ∧ ∀ b o, b < wb.heap.size → w'.cell? ⟨b, o, none⟩ = wb.cell? ⟨b, o, none⟩) ((refine ext_s ?_; exact (by repeat (first | with_reducible exact Below.refl _ _ | with_reducible assumption | with_reducible apply bl_drewN | with_reducible apply bl_drew | with_reducible apply bl_alloc | (with_reducible refine bl_set ?_ (by first | (simp; done) | (simp; omega)) _) | with_reducible refine bl_trans ?_ (by with_reducible assumption))))) ((go_at_call 99; refine (HLS.out _ ?_).mono ?_; (exact bl_trans B2.out (by repeat (first | with_reducible exact Below.refl _ _ | with_reducible assumption | with_reducible apply bl_drewN | with_reducible apply bl_drew | with_reducible apply bl_alloc | (with_reducible refine bl_set ?_ (by first | (simp; done) | (simp; omega)) _) | with_reducible refine bl_trans ?_ (by with_reducible assumption)))); rintro e w3 ⟨v3, rfl, hown3, hb3⟩; obtain ⟨a3, cap3, hv3, hsl3, -⟩ := own_at hown3; subst hv3; have bw3 : Below wb.heap.size wb w3 := (by repeat (first | with_reducible exact Below.refl _ _ | with_reducible assumption | with_reducible apply bl_drewN | with_reducible apply bl_drew | with_reducible apply bl_alloc | (with_reducible refine bl_set ?_ (by first | (simp; done) | (simp; omega)) _) | with_reducible refine bl_trans ?_ (by with_reducible assumption))); obtain ⟨hc3, hf3⟩ := bcell hb3; have hz3 := hb3.size; simp at hz3))
        all_goals
          go_wp2_with fail
          go_meet
        · refine ⟨w3.heap.size, rfl, ?_, bl_trans B2x (by repeat (first | with_reducible exact Below.refl _ _ | with_reducible assumption | with_reducible apply bl_drewN | with_reducible apply bl_drew | with_reducible apply bl_alloc | (with_reducible refine bl_set ?_ (by first | (simp; done) | (simp; omega)) _) | with_reducible refine bl_trans ?_ (by with_reducible assumption)))⟩
          have hIA : RV Po.cells w3 (.slice ia m.ins.length icap) m.ins := RV.step ⟨ia, icap, rfl, hins⟩ (bl_trans B2x bw3)
          have hOA : RV Ce.cells w3 (.slice oa m.outs.length ocap) m.outs := RV.step ⟨oa, ocap, rfl, houts⟩ (bl_trans B2x bw3)
          exact MP.new (m := woMc m i) (pv_own hown3) hIA hOA _
        · have hwg : w.heap.size ≤ wb.heap.size := B2x.size
          have hBf : Below w.heap.size w (((((w3.setCell ⟨wb.heap.size, 0, none⟩ (.int .i8 m.bd.wd)).setCell ⟨wb.heap.size, 1, none⟩ (.int .i8 m.bd.hg)).setCell ⟨wb.heap.size, 2, none⟩ (.slice a3 (m.bd.ps.eraseIdx i).length cap3)).setCell ⟨wb.heap.size, 3, none⟩ (.slice ia m.ins.length icap)).setCell ⟨wb.heap.size, 4, none⟩ (.slice oa m.outs.length ocap)) := bl_set (bl_set (bl_set (bl_set (bl_set (bl_trans B2x bw3) hwg _) hwg _) hwg _) hwg _) hwg _
          have x0 : w3.cell? ⟨wb.heap.size, 0, none⟩ = some (.int .i8 0) := by rw [hc3 _ _ (by simp)]; simp [go_sem]
          have x1 : w3.cell? ⟨wb.heap.size, 1, none⟩ = some (.int .i8 0) := by rw [hc3 _ _ (by simp)]; simp [go_sem]
          have x2 : w3.cell? ⟨wb.heap.size, 2, none⟩ = some (.slice none 0 0) := by rw [hc3 _ _ (by simp)]; simp [go_sem]
          have x3 : w3.cell? ⟨wb.heap.size, 3, none⟩ = some (.slice none 0 0) := by rw [hc3 _ _ (by simp)]; simp [go_sem]
          have x4 : w3.cell? ⟨wb.heap.size, 4, none⟩ = some (.slice none 0 0) := by rw [hc3 _ _ (by simp)]; simp [go_sem]
          refine ⟨wb.heap.size, rfl, ?_, hBf⟩
          refine mp_of (m := woMc m i) (s := .slice a3 (m.bd.ps.eraseIdx i).length cap3) (si := .slice ia m.ins.length icap) (so := .slice oa m.outs.length ocap) (by simp; omega) (by simp [go_sem, x0, x1, x2, x3, x4]; rfl) (by simp [go_sem, x0, x1, x2, x3, x4]; rfl) (by simp [go_sem, x0, x1, x2, x3, x4]) (by simp [go_sem, x0, x1, x2, x3, x4]) (by simp [go_sem, x0, x1, x2, x3, x4]) ?_ (RV.step ⟨ia, icap, rfl, hins⟩ hBf) (RV.step ⟨oa, ocap, rfl, houts⟩ hBf)
          refine pv_own (base := (wb.heap.size + 1)) ?_
          have h9 : w3.ownsRow (wb.heap.size + 1) 167 5 (.slice a3 (m.bd.ps.eraseIdx i).length cap3) (m.bd.ps.eraseIdx i).length (flat Pc.cells (m.bd.ps.eraseIdx i)) := by simpa using hown3
          repeat (with_reducible refine ownsRow_setCell_below ?_ (by first | (simp; done) | (simp; omega)) _)
          exact h9
      case rest =>
        obtain ⟨g, rfl, hmp, hb⟩ := hcut
        have HWC := Lib.hid (HWK.out g wc hmp)
        have HBc := Lib.hid hb
        clear hmp hb d3 d4 f3 f4
        go_wp2_with fail
        refine HWC.out.mono ?_
        rintro e w5 ⟨g2, rfl, -, hwk, hb5⟩
        have HB5 := Lib.hid (bl_trans HBc.out hb5)
        have HTC := Lib.hid (HTB.out g g2 w5 hwk)
        clear hwk hb5 HWC
        go_wp2_with fail
        refine HTC.out.mono ?_
        rintro e w6 ⟨v6, rfl, hown6, hb6⟩
        obtain ⟨a6, cap6, rfl, hsl6, -⟩ := own_at hown6
        have hlx : (mTabI (woMc m i)).length = (woMc m i).outs.length := mTabI_len _
        have hlt : (tabs.map (fun (n : Nat) => (n : Int))).length = tabs.length := by rw [List.length_map]
        have HEC := Lib.hid (HEQ.out w6 (bl_trans HB5.out hb6) a6 cap6 (mTabI (woMc m i)) hsl6 (by rw [hlx]; show m.outs.length ≤ _; omega))
        rw [hlx, hlt] at HEC
        have HB6 := Lib.hid (bl_trans HB5.out hb6)
        clear hown6 hb6 hsl6 hlx hlt HTC HEQ
        go_wp2_with fail
        refine HEC.out.mono ?_
        rintro e w7 ⟨rfl, hb7⟩
        go_wp2
        go_ret
        exact ⟨by rw [HF.out]; rfl, bl_trans HB6.out hb7⟩
end Go.Proofs.YtdhjhnbmecbaaaaGreat
/- Contracts: UselessParts (the program). -/
namespace Go.Proofs.YtdhjhnbmecbaaaaGreat
open Go.RowKit
set_option linter.unusedVariables false
set_option linter.unusedSimpArgs false
set_option maxHeartbeats 400000
set_option maxRecDepth 100000
set_option maxHeartbeats 1600000 in
theorem uselessParts_any (m : Mc) (v : Value) (w : World) (h : MVc w v m) (hok : m.ok) (hn : m.bd.ps.length ≤ 10000000) (hn1 : m.ins.length ≤ 10000000) (hn2 : m.outs.length ≤ 10000000) :
    Calls Tryz.prog 53 #[v] w fun e w' => ∃ v, e = .returned (.tuple #[v, .int .i64 (mCode m)]) ∧ w'.ownsRow w.heap.size 2 1 v (ulList m).length (flat N64_cells (ulList m)) ∧ Below w.heap.size w w' := by
  have HMT := Lib.hid (fun w1 (hb : Below w.heap.size w w1) => machineTables_any m v w1 (h.step hb) hok hn hn1 hn2)
  obtain ⟨sa, scap, ia, icap, oa, ocap, rfl, hcap, hps, hins, houts⟩ := h
  have HM := Lib.hid (MP.new (m := m) (w := w) ⟨sa, scap, rfl, hps⟩ ⟨ia, icap, rfl, hins⟩ ⟨oa, ocap, rfl, houts⟩ 40)
  have HBA := Lib.hid (show Below w.heap.size w (w.alloc (.cells #[.int .i8 m.bd.wd, .int .i8 m.bd.hg, .slice sa m.bd.ps.length scap, .slice ia m.ins.length icap, .slice oa m.outs.length ocap] 40)) from bl_alloc (Below.refl _ _))
  have HXB := Lib.hid (BX5.new w (.int .i8 m.bd.wd) (.int .i8 m.bd.hg) (.slice sa m.bd.ps.length scap) (.slice ia m.ins.length icap) (.slice oa m.outs.length ocap) 40)
  rcases Bool.eq_false_or_eq_true (vMc m) with g1 | g1
  · obtain ⟨hvb, h60, hi1, hi6, ho1, ho8, -⟩ := vMc_parts m g1
    have HC : Hid (mCode m = 0) := Lib.hid (by unfold mCode; rw [if_pos g1])
    have HL : Hid (mtList m = mTabI m) := Lib.hid (by unfold mtList; rw [if_pos g1])
    have HUL : Hid (ulList m = hzTo (ulP m (mTabs m)) m.bd.ps.length) := Lib.hid (by unfold ulList; rw [if_pos g1])
    rw [HC.out, HUL.out]
    rw [HC.out, HL.out] at HMT
    have HTE : Hid (mTabI m = (mTabs m).map (fun (n : Nat) => (n : Int))) := Lib.hid rfl
    have HTL : Hid ((mTabI m).length = (mTabs m).length) := Lib.hid (by rw [HTE.out, List.length_map])
    rw [HTL.out, HTE.out] at HMT
    have HT8 : (mTabs m).length ≤ 8 := by rw [mTabs_len]; exact ho8
    have HUS := Lib.hid (fun w1 (hb : Below (w.alloc (.cells #[.int .i8 m.bd.wd, .int .i8 m.bd.hg, .slice sa m.bd.ps.length scap, .slice ia m.ins.length icap, .slice oa m.outs.length ocap] 40)).heap.size (w.alloc (.cells #[.int .i8 m.bd.wd, .int .i8 m.bd.hg, .slice sa m.bd.ps.length scap, .slice ia m.ins.length icap, .slice oa m.outs.length ocap] 40)) w1) i (hi : i < m.bd.ps.length) a cap (hs : SlAt w1.heap.size w1 a (flat U64_cells ((mTabs m).map (fun (n : Nat) => (n : Int))))) => useless_any w.heap.size m i a cap (mTabs m) w1 (HM.out.step hb) g1 hok hi hs (by omega))
    obtain ⟨tabs, htabs⟩ : ∃ tabs, tabs = mTabs m := ⟨_, rfl⟩
    rw [← htabs] at HMT HUS HT8 ⊢
    obtain ⟨p, hp⟩ : ∃ p, p = ulP m tabs := ⟨_, rfl⟩
    rw [← hp] at HUS ⊢
    have HLN := Lib.hid (hzTo_len p)
    clear g1 HC HL HUL htabs HTE HTL hp
    obtain ⟨i0, hi0, hiz0, hiz1, hiz2⟩ := info_parts Tryz.infoInt64
    go_enter Tryz.func53, Tryz.ntmps53
    go_wp2_with fail
    refine (HMT.out _ HBA.out).mono ?_
    rintro e w1 ⟨v1, rfl, hown1, hb1⟩
    obtain ⟨a1, cap1, rfl, hsl1, -, -⟩ := own_at hown1
    have HB1 := Lib.hid hb1
    have HS1 := Lib.hid hsl1
    obtain ⟨X0, -, -, x2, -, -⟩ := HXB.out.step hb1
    have hown0 := World.ownsRow_made (e := 2) (size := 1) w1 #[] 0 (Nat.le_refl _) (by simp [maxLen]) rfl
    have hb0 : Below w1.heap.size w1 (w1.alloc (.cells #[] 2)) := bl_alloc (Below.refl _ _)
    have HO0 := Lib.hid hown0
    have HBO := Lib.hid hb0
    clear hown1 hsl1 hb1 HMT hown0 hb0
    go_wp2
    go_loopw [6, 21] (fun v ix wr => ∃ i : Nat, i ≤ m.bd.ps.length ∧ ix = .int .i64 i ∧ wr.ownsRow w1.heap.size 2 1 v (hzTo p i).length (flat N64_cells (hzTo p i)) ∧ Below w1.heap.size w1 wr) (fun _ ix _ => m.bd.ps.length - (intOf ix).toNat)
    case atStart => exact ⟨0, by omega, rfl, HO0.out, HBO.out⟩
    case round =>
      obtain ⟨i, hi, rfl, hown, hb⟩ := hrel
      obtain ⟨av2, capv2, hve, -, -, -⟩ := own_at hown
      subst hve
      have HOWN := Lib.hid hown
      have hzb := hb.size
      have HBB := Lib.hid hb
      have HBW := Lib.hid (bl_trans HB1.out hb)
      have hle := HLN.out i
      obtain ⟨nn, hnn⟩ : ∃ nn, nn = (hzTo p i).length := ⟨_, rfl⟩
      rw [← hnn] at HOWN hle ⊢
      have HNN := Lib.hid hnn
      by_cases hlt : i < m.bd.ps.length
      · have hiI : (i : Int) < m.bd.ps.length := by omega
        have HUC := Lib.hid (HUS.out wr HBW.out i hlt a1 cap1 ((HS1.out.below hb (Nat.le_refl _)).mono hzb))
        clear hown hb hnn
        go_wp2_with fail
        refine HUC.out.mono ?_
        rintro e w7 ⟨rfl, hb7⟩
        have HBB7 := Lib.hid (bl_trans HBB.out hb7)
        have HO7 := Lib.hid (own_below HOWN.out hb7 (Nat.le_refl _))
        have hz7 := HBB7.out.size
        clear hb7 HUC
        rcases Bool.eq_false_or_eq_true (p i) with gp | gp
        · have HY : Hid (hzTo p (i + 1) = hzTo p i ++ [(i : Int)]) := Lib.hid (hzTo_yes p i gp)
          go_wp2_with (at_builtin; go_must (refine wpList_append_sl _ rfl _ _ 30 rfl w1.heap.size 2 i0 (.int .i64 0) 1 8 Tryz.underlying30 hi0 hiz0 hiz1 hiz2 rfl (by decide) _ _ _ rfl (own_below HO7.out (bl_alloc (Below.refl _ _)) (Nat.le_refl _)) (some ⟨w7.heap.size, 0, none⟩) 1 1 [.int .i64 (i : Int)] rfl (sl_newC w7 #[.int .i64 (i : Int)] 2 _ rfl) rfl (by intro u hu; rw [List.mem_singleton] at hu; subst hu; rfl) (by unfold maxLen; omega) (by omega) (by simp; omega) ?_); intro v4 w8 hown3 hgrow; obtain ⟨g4, cap4, rfl, hg4⟩ := own_some hown3)
          have hb8 : Below w1.heap.size w1 w8 := (bl_alloc (o := .cells #[.int .i64 (i : Int)] 2) HBB7.out).grown hgrow (by simp; omega) (fun q hq => (HO7.out.lt q hq).1)
          have hown5 : w8.ownsRow w1.heap.size 2 1 (.slice (some ⟨g4, 0, none⟩) (nn + 1) cap4) (hzTo p (i + 1)).length (flat N64_cells (hzTo p (i + 1))) := by
            rw [HY.out, flat_append, List.length_append, ← HNN.out]; exact hown3
          go_roundw
          case rel => exact ⟨i + 1, by omega, by go_num, hown5, hb8⟩
          case measure => simp [intOf]; omega
        · have HY : Hid (hzTo p (i + 1) = hzTo p i) := Lib.hid (hzTo_no p i gp)
          go_wp2
          go_roundw
          case rel => exact ⟨i + 1, by omega, by go_num, by rw [HY.out, ← HNN.out]; exact HO7.out, HBB7.out⟩
          case measure => simp [intOf]; omega
      · have hin : Hid (i = m.bd.ps.length) := Lib.hid (by omega)
        have hiI : ¬ (i : Int) < m.bd.ps.length := by omega
        have hown2 := own_mono (base := w.heap.size) HOWN.out (by have h1 := HB1.out.size; simp only [World.size_alloc] at h1; omega)
        have HOW2 := Lib.hid hown2
        rw [hin.out] at HNN
        clear hown2 hown hnn
        have HOW3 : Hid (wr.ownsRow w.heap.size 2 1 (.slice av2 nn capv2) nn (flat N64_cells (hzTo p m.bd.ps.length))) := Lib.hid (by rw [← hin.out]; exact HOW2.out)
        go_wp2
        go_ret2
        exact ⟨_, rfl, by rw [← HNN.out]; exact HOW3.out, bl_trans HBA.out HBW.out⟩
  · have HC : Hid (mCode m = 1) := Lib.hid (by unfold mCode; rw [if_neg (by simp [g1])])
    have HL : Hid (ulList m = []) := Lib.hid (by unfold ulList; rw [if_neg (by simp [g1])])
    rw [HC.out, HL.out]
    rw [HC.out] at HMT
    clear g1 HC HL
    go_enter Tryz.func53, Tryz.ntmps53
    go_wp2_with fail
    refine (HMT.out _ HBA.out).mono ?_
    rintro e w1 ⟨v1, rfl, -, hb1⟩
    have hb01 := bl_trans HBA.out hb1
    go_wp2
    go_ret2
    exact ⟨_, rfl, World.ownsRow_nil _ _ _ _, hb01⟩
end Go.Proofs.YtdhjhnbmecbaaaaGreat
/- Contracts: copies of boards and machines (the reference). -/
namespace Go.Proofs.YtdhjhnbmecbaaaaGreat
open Go.RowKit
set_option linter.unusedVariables false
set_option linter.unusedSimpArgs false
set_option maxHeartbeats 400000
set_option maxRecDepth 100000
/-- 'append(v, x...)' at a step of a region that draws, x any slice that reads as 'news'. -/
theorem step_append_sl {P : Program} {ops : Array Oper} {o : Oper} {a : Act} {w : World} {K : Act → World → Prop} {Q : Exit → Act → World → Prop} {E : Prop} (hgd : o.guard = none) (s x : Operand) (t : TypeId)
    (ho : o.op = .call { callee := .builtin .append, args := #[s, x], argTypes := #[t, t] })
    (base : Nat) (e : TypeId) (i : TypeInfo) (z : Value) (size bytes : Nat) (ht : P.underlying t = some (.slice e)) (hi : P.info? e = some i) (hz : i.zero = some z)
    (hsize : i.size = size) (hby : i.bytes = bytes) (hzs : z.cells.size = size) (hsz : 0 < size)
    (v : Value) (n : Nat) (xs : List Value) (hs : a.eval s = v) (hown : w.ownsRow base e size v n xs)
    (ad : Option Addr) (m c : Nat) (news : List Value) (hx : a.eval x = .slice ad m c) {B : Nat} (hsl : SlAt B w ad news) (hl : news.length = m * size) (h1 : ∀ u ∈ news, u.oneCell' = true)
    (h63 : n + m ≤ maxLen) (hbytes : (n + m) * bytes ≤ 140737488355328) (hbase : base ≤ w.heap.size)
    (h : ∀ v' w', w'.ownsRow base e size v' (n + m) (xs ++ news) → w.grownBy w' v.ownBlock → (v'.ownBlock = v.ownBlock ∨ v'.ownBlock = some w.heap.size) → K (a.put o.dst v') w') :
    if Region.wanted o (yielded ops a.tmps) = true then Oper.wp P o a w K Q else E := by
  have hw : Region.wanted o (yielded ops a.tmps) = true := by simp [Region.wanted, hgd]
  rw [if_pos hw]
  have hrun : ∃ v' w', (Builtin.append_ #[t, t] o.type #[v, .slice ad m c]).run P w = .ok v' w' ∧ w'.ownsRow base e size v' (n + m) (xs ++ news) ∧ w.grownBy w' v.ownBlock ∧ (v'.ownBlock = v.ownBlock ∨ v'.ownBlock = some w.heap.size) := by
    cases ad with
    | none =>
      have hn : news = [] := by
        cases news with
        | nil => rfl
        | cons u us => obtain ⟨b, off, h0, -⟩ := hsl 0 (by simp); cases h0
      subst hn
      have hm : m = 0 := by
        have h2 : m * size = 0 := by simpa using hl.symm
        rcases Nat.mul_eq_zero.1 h2 with h3 | h3
        · exact h3
        · omega
      subst hm
      exact ⟨v, w, run_append_nothing (P := P) w base t o.type e i size ht hi v n xs hown c, by simpa using hown, World.grownBy.refl _ _, .inl rfl⟩
    | some ad =>
      obtain ⟨v', w', h2, h3, h4, -, h5⟩ := run_append_own_at (P := P) (w := w) base t o.type e i z size bytes ht hi hz hsize hby hzs hsz v n xs hown ad m c news hl (fun j u hu => by
        have hj : j < news.length := (List.getElem?_eq_some_iff.1 hu).1
        obtain ⟨b, off, h0, -, h3⟩ := hsl j hj
        cases h0
        rw [List.getElem?_eq_getElem hj] at hu
        cases hu
        have : (⟨b, off, none⟩ : Addr).add j = ⟨b, off + j, none⟩ := by unfold Addr.add; split <;> simp_all
        rw [this]; exact h3) h1 h63 hbytes hbase
      exact ⟨v', w', h2, h3, h4, h5⟩
  obtain ⟨v', w', h2, h3, h4, h5⟩ := hrun
  unfold Oper.wp
  simp [execOp, ho, resolve, invoke, builtin, hs, hx, h2, Result.andThen]
  exact h v' w' h3 h4 h5
theorem l01Copy_any (b0 : Nat) (l : Bd) (w : World) (h : BP w b0 l) (hn : l.ps.length ≤ 10000) :
    Calls Tryz.prog 138 #[.pointer (some ⟨b0, 0, none⟩)] w fun e w' => ∃ v, e = .returned (bdv l.wd l.hg v) ∧ w'.ownsRow w.heap.size 167 5 v l.ps.length (flat Pc.cells l.ps) ∧ Below w.heap.size w w' := by
  obtain ⟨i0, hi0, hz0, hz1, hz2⟩ := info_parts Tryz.infoPiece
  obtain ⟨hbl, s, ⟨c0, c1, c2⟩, a, cap, rfl, hps⟩ := h
  have hb1 : Below w.heap.size w (w.alloc (.cells #[.int .i8 0, .int .i8 0, .slice none 0 0] 36)) := bl_alloc (Below.refl _ _)
  have hz1' : (w.alloc (.cells #[.int .i8 0, .int .i8 0, .slice none 0 0] 36)).heap.size = w.heap.size + 1 := by simp
  have HX := Lib.hid (BF3.new w (.int .i8 0) (.int .i8 0) (.slice none 0 0) 36)
  go_enter Tryz.func138, Tryz.ntmps138
  go_wp2_with fail
  obtain ⟨w1, hw1⟩ : ∃ w1, w1 = w.alloc (.cells #[.int .i8 0, .int .i8 0, .slice none 0 0] 36) := ⟨_, rfl⟩
  rw [← hw1] at hb1 hz1' HX ⊢
  obtain ⟨g, hg⟩ : ∃ g, g = w.heap.size := ⟨_, rfl⟩
  rw [← hg] at HX ⊢
  have hbl1 : b0 < w1.heap.size := by omega
  have hgl1 : g < w1.heap.size := by omega
  have hgl : w.heap.size ≤ g := by omega
  have hlt : w.heap.size < w1.heap.size := by omega
  have d0 : w1.cell? ⟨b0, 0, none⟩ = some (.int .i8 l.wd) := by rw [hb1.cell (p := ⟨b0, 0, none⟩) hbl]; exact c0
  have d1 : w1.cell? ⟨b0, 1, none⟩ = some (.int .i8 l.hg) := by rw [hb1.cell (p := ⟨b0, 1, none⟩) hbl]; exact c1
  have d2 : w1.cell? ⟨b0, 2, none⟩ = some (.slice a l.ps.length cap) := by rw [hb1.cell (p := ⟨b0, 2, none⟩) hbl]; exact c2
  have HB1 := Lib.hid hb1
  have HPS := Lib.hid (fun w2 (hb : Below w1.heap.size w1 w2) => hps.below (bl_trans hb1 hb) (Nat.le_refl _))
  clear hw1 hg hz1' d0 d1 d2
  obtain ⟨-, x0, x1, x2, f0, f1, f2⟩ := HX.out
  go_region_held3 (fun w' => Below w.heap.size w w' ∧ ∀ b o, b < w.heap.size → w'.cell? ⟨b, o, none⟩ = w.cell? ⟨b, o, none⟩) ((refine ext_s ?_; exact (by repeat (first | with_reducible exact Below.refl _ _ | with_reducible assumption | with_reducible apply bl_drewN | with_reducible apply bl_drew | with_reducible apply bl_alloc | (with_reducible refine bl_set ?_ (by first | (simp; done) | (simp; omega)) _) | with_reducible refine bl_trans ?_ (by with_reducible assumption))))) (first | (refine step_append_sl (by rfl) _ _ _ (by rfl) w1.heap.size 167 i0 _ 5 5 Tryz.underlying34 hi0 hz0 hz1 hz2 rfl (by omega) (.slice (some ⟨_, 0, none⟩) 0 0) 0 [] (by rfl) (own_mono (World.ownsRow_made _ #[] 0 (Nat.le_refl _) (by simp [maxLen]) rfl) (by first | omega | (simp; done) | (simp; omega))) a l.ps.length cap (flat Pc.cells l.ps) (by rfl) (HPS.out _ (by repeat (first | with_reducible exact Below.refl _ _ | with_reducible assumption | with_reducible apply bl_drewN | with_reducible apply bl_drew | with_reducible apply bl_alloc | (with_reducible refine bl_set ?_ (by first | (simp; done) | (simp; omega)) _) | with_reducible refine bl_trans ?_ (by with_reducible assumption)))) (flat_length Pc.len l.ps) (one_cells Pc.one l.ps) (by unfold maxLen; omega) (by omega) (by first | omega | (simp; done) | (simp; omega)) ?_; intro v3 w3 hown3 hgrow3 hblk3; have bN : Below w1.heap.size w1 w3 := bl_grown (by repeat (first | with_reducible exact Below.refl _ _ | with_reducible assumption | with_reducible apply bl_drewN | with_reducible apply bl_drew | with_reducible apply bl_alloc | (with_reducible refine bl_set ?_ (by first | (simp; done) | (simp; omega)) _) | with_reducible refine bl_trans ?_ (by with_reducible assumption))) hgrow3 (by intro k hk; have hk2 : some _ = some k := hk; cases hk2; first | exact Nat.le_refl _ | (simp; done) | (simp; omega)); obtain ⟨a3, cap3, rfl, -⟩ := own_at hown3; obtain ⟨hcN, hfN⟩ := bcell bN))
  rw [Nat.zero_add, List.nil_append] at hown3
  have HO3 := Lib.hid hown3
  have HB3 := Lib.hid (bl_trans HB1.out bN)
  have y0 : w3.cell? ⟨g, 0, none⟩ = some (.int .i8 0) := by rw [hcN _ _ hgl1]; exact x0
  have y1 : w3.cell? ⟨g, 1, none⟩ = some (.int .i8 0) := by rw [hcN _ _ hgl1]; exact x1
  have y2 : w3.cell? ⟨g, 2, none⟩ = some (.slice none 0 0) := by rw [hcN _ _ hgl1]; exact x2
  clear hcN hfN hown3 hgrow3 x0 x1 x2
  go_wp2
  refine bodyPost_ret (v := bdv l.wd l.hg (.slice a3 l.ps.length cap3)) (by simp [results, Tryz.results138, go_sem, y0, y1, y2]) rfl ⟨_, rfl, ?_, bl_set (bl_set (bl_set HB3.out hgl _) hgl _) hgl _⟩
  refine own_mono (base' := w1.heap.size) ?_ (by omega)
  repeat (with_reducible refine ownsRow_setCell_below ?_ (by first | (simp; done) | (simp; omega)) _)
  exact HO3.out
end Go.Proofs.YtdhjhnbmecbaaaaGreat
/- Contracts: copies of machines (the reference). -/
namespace Go.Proofs.YtdhjhnbmecbaaaaGreat
open Go.RowKit
set_option linter.unusedVariables false
set_option linter.unusedSimpArgs false
set_option maxHeartbeats 400000
set_option maxRecDepth 100000
/-- The three rows of a machine, owned. -/
def OwnC (w : World) (base : Nat) (s si so : Value) (m : Mc) : Prop :=
  w.ownsRow base 167 5 s m.bd.ps.length (flat Pc.cells m.bd.ps) ∧ w.ownsRow base 136 3 si m.ins.length (flat Po.cells m.ins) ∧ w.ownsRow base 134 2 so m.outs.length (flat Ce.cells m.outs)
theorem OwnC.below {w w' : World} {base : Nat} {s si so : Value} {m : Mc} (h : OwnC w base s si so m) (hb : Below w.heap.size w w') : OwnC w' base s si so m :=
  ⟨own_below h.1 hb (Nat.le_refl _), own_below h.2.1 hb (Nat.le_refl _), own_below h.2.2 hb (Nat.le_refl _)⟩
theorem OwnC.mv {w : World} {base : Nat} {s si so : Value} {m : Mc} (h : OwnC w base s si so m) : MV w (mcv m.bd.wd m.bd.hg s si so) m := ⟨s, si, so, rfl, pv_own h.1, own_rv h.2.1, own_rv h.2.2⟩
/-- 'append([]T{}, x...)' at a step of a region that draws: nothing that was there turns. -/
theorem step_append_fresh {P : Program} {ops : Array Oper} {o : Oper} {a : Act} {w : World} {K : Act → World → Prop} {Q : Exit → Act → World → Prop} {E : Prop} (hgd : o.guard = none) (s x : Operand) (t : TypeId)
    (ho : o.op = .call { callee := .builtin .append, args := #[s, x], argTypes := #[t, t] })
    (e : TypeId) (i : TypeInfo) (z : Value) (size bytes : Nat) (ht : P.underlying t = some (.slice e)) (hi : P.info? e = some i) (hz : i.zero = some z)
    (hsize : i.size = size) (hby : i.bytes = bytes) (hzs : z.cells.size = size) (hsz : 0 < size)
    (b : Addr) (hs : a.eval s = .slice (some b) 0 0)
    (ad : Option Addr) (m c : Nat) (news : List Value) (hx : a.eval x = .slice ad m c) {B : Nat} (hsl : SlAt B w ad news) (hl : news.length = m * size) (h1 : ∀ u ∈ news, u.oneCell' = true)
    (hm : 0 < m) (h63 : m ≤ maxLen) (hbytes : m * bytes ≤ 140737488355328)
    (h : ∀ a' cap' w', w'.ownsRow w.heap.size e size (.slice a' m cap') m news → Below w.heap.size w w' → K (a.put o.dst (.slice a' m cap')) w') :
    if Region.wanted o (yielded ops a.tmps) = true then Oper.wp P o a w K Q else E := by
  have hw : Region.wanted o (yielded ops a.tmps) = true := by simp [Region.wanted, hgd]
  rw [if_pos hw]
  have hrun : ∃ a' cap' w', (Builtin.append_ #[t, t] o.type #[.slice (some b) 0 0, .slice ad m c]).run P w = .ok (.slice a' m cap') w' ∧ w'.ownsRow w.heap.size e size (.slice a' m cap') m news ∧ Below w.heap.size w w' := by
    subst hsize
    subst hby
    cases ad with
    | none =>
      exfalso
      have hlp : 0 < news.length := by rw [hl]; exact Nat.mul_pos hm hsz
      obtain ⟨_, _, h0, -⟩ := hsl 0 hlp
      cases h0
    | some ad =>
      have hsmall : m ≤ 9223372036854775807 := by simp only [maxLen] at h63; omega
      have hr := run_append_grow (P := P) w t o.type e i z ht hi hz b 0 0 [] (by simp) (by simp) ad m c news hl (by
        intro j u hu
        have hj : j < news.length := (List.getElem?_eq_some_iff.1 hu).1
        obtain ⟨b, off, h0, -, h3⟩ := hsl j hj
        cases h0
        rw [List.getElem?_eq_getElem hj] at hu
        cases hu
        have : (⟨b, off, none⟩ : Addr).add j = ⟨b, off + j, none⟩ := by unfold Addr.add; split <;> simp_all
        rw [this]; exact h3) (by omega) (by omega) (growslice_fits (by omega) (by rw [Nat.zero_add]; exact hbytes))
      have hge := grownCap_ge w (0 + m) 0 e
      have hcm2 : grownCap w (0 + m) 0 e ≤ maxLen := grownCap_le_maxLen w (0 + m) 0 e (by omega)
      rw [Nat.zero_add] at hr hge hcm2
      have hown : (w.drew.alloc (Obj.cells (#[] ++ news.toArray ++ Builtin.zeroCells z.cells (grownCap w m 0 e - m)) e)).ownsRow w.heap.size e i.size (.slice (some ⟨w.heap.size, 0, none⟩) m (grownCap w m 0 e)) m news := by
        refine ⟨hl, .inr ⟨w.heap.size, _, _, rfl, Nat.le_refl _, heap_alloc_new w.drew _, ?_, hcm2, ?_, ?_⟩⟩
        · omega
        · simp only [Array.size_append, List.size_toArray, size_zeroCells, hzs, hl, List.length_nil, Nat.zero_add, ← Nat.add_mul]
          congr 1
          omega
        · simp only [Array.toList_append, List.nil_append]
          rw [← hl]
          exact List.take_left
      exact ⟨_, _, _, hr, hown, ⟨rfl, rfl, rfl, by simp, fun k hk => Below.heap_alloc w.drew _ k hk⟩⟩
  obtain ⟨a', cap', w', h2, h3, h4⟩ := hrun
  unfold Oper.wp
  simp [execOp, ho, resolve, invoke, builtin, hs, hx, h2, Result.andThen]
  exact h a' cap' w' h3 h4
theorem Tryz.infoPortU : (Tryz.prog.info? 136).map (fun i => (i.zero, i.size, i.bytes)) = some (some (.agg #[.int .i8 0, .int .i8 0, .int .i8 0]), 3, 3) := by kernel_rfl
theorem Tryz.infoCellU : (Tryz.prog.info? 134).map (fun i => (i.zero, i.size, i.bytes)) = some (some (.agg #[.int .i8 0, .int .i8 0]), 2, 2) := by kernel_rfl
theorem BF5new (w : World) (v0 v1 v2 v3 v4 : Value) (T : TypeId) : ∃ w1, w1 = w.alloc (.cells #[v0, v1, v2, v3, v4] T) ∧ w1.heap.size = w.heap.size + 1 ∧ Below w.heap.size w w1 ∧ w1.cell? ⟨w.heap.size, 0, none⟩ = some v0 ∧ w1.cell? ⟨w.heap.size, 1, none⟩ = some v1 ∧ w1.cell? ⟨w.heap.size, 2, none⟩ = some v2 ∧ w1.cell? ⟨w.heap.size, 3, none⟩ = some v3 ∧ w1.cell? ⟨w.heap.size, 4, none⟩ = some v4 ∧
    w1.frozen? ⟨w.heap.size, 0, none⟩ = false ∧ w1.frozen? ⟨w.heap.size, 1, none⟩ = false ∧ w1.frozen? ⟨w.heap.size, 2, none⟩ = false ∧ w1.frozen? ⟨w.heap.size, 3, none⟩ = false ∧ w1.frozen? ⟨w.heap.size, 4, none⟩ = false :=
  ⟨_, rfl, by simp, bl_alloc (Below.refl _ _), by simp [go_sem], by simp [go_sem], by simp [go_sem], by simp [go_sem], by simp [go_sem], by simp [go_sem], by simp [go_sem], by simp [go_sem], by simp [go_sem], by simp [go_sem]⟩
set_option maxHeartbeats 3200000 in
theorem l03Copy_any (b0 : Nat) (m : Mc) (w : World) (h : MP w b0 m) (hn : m.bd.ps.length ≤ 10000) (hn1 : m.ins.length ≤ 10000) (hn2 : m.outs.length ≤ 10000) (hp1 : 0 < m.ins.length) (hp2 : 0 < m.outs.length) :
    Calls Tryz.prog 96 #[.pointer (some ⟨b0, 0, none⟩)] w fun e w' => ∃ s si so, e = .returned (mcv m.bd.wd m.bd.hg s si so) ∧ OwnC w' w.heap.size s si so m ∧ Below w.heap.size w w' := by
  have HLC := Lib.hid (fun w1 (hb : Below w.heap.size w w1) => l01Copy_any b0 m.bd w1 (h.step hb).bp hn)
  obtain ⟨hbl, s, si, so, ⟨⟨c0, c1, c2⟩, c3, c4⟩, -, ⟨ia, icap, rfl, hins⟩, ⟨oa, ocap, rfl, houts⟩⟩ := h
  obtain ⟨i0, hi0, hiz0, hiz1, hiz2⟩ := info_parts Tryz.infoPortU
  obtain ⟨j0, hj0, hjz0, hjz1, hjz2⟩ := info_parts Tryz.infoCellU
  have HBF := Lib.hid (BF5new w (.int .i8 0) (.int .i8 0) (.slice none 0 0) (.slice none 0 0) (.slice none 0 0) 40)
  clear c0 c1 c2
  go_enter Tryz.func96, Tryz.ntmps96
  go_wp2_with fail
  obtain ⟨w1, hw1, hz1, hb1, x0, x1, x2, x3, x4, f0, f1, f2, f3, f4⟩ := HBF.out
  rw [← hw1]
  obtain ⟨g, hg⟩ : ∃ g, g = w.heap.size := ⟨_, rfl⟩
  rw [← hg] at x0 x1 x2 x3 x4 f0 f1 f2 f3 f4 ⊢
  have hgl1 : g < w1.heap.size := by omega
  have hgl : w.heap.size ≤ g := by omega
  have hzw : w.heap.size < w1.heap.size := by omega
  have HIN := Lib.hid (fun w2 (hb : Below w.heap.size w w2) => hins.below hb (Nat.le_refl _))
  have HOU := Lib.hid (fun w2 (hb : Below w.heap.size w w2) => houts.below hb (Nat.le_refl _))
  clear hw1 hg hz1 hins houts
  have HX := Lib.hid (And.intro x0 (And.intro x1 (And.intro x2 (And.intro x3 x4))))
  have HXF := Lib.hid (And.intro f0 (And.intro f1 (And.intro f2 (And.intro f3 f4))))
  go_region_held3 (fun w' => Below w.heap.size w w' ∧ ∀ b o, b < w.heap.size → w'.cell? ⟨b, o, none⟩ = w.cell? ⟨b, o, none⟩) ((refine ext_s ?_; exact (by repeat (first | with_reducible exact Below.refl _ _ | with_reducible assumption | with_reducible apply bl_drewN | with_reducible apply bl_drew | with_reducible apply bl_alloc | (with_reducible refine bl_set ?_ (by first | (simp; done) | (simp; omega)) _) | with_reducible refine bl_trans ?_ (by with_reducible assumption))))) (first | (go_at_call 138; refine (HLC.out _ ?_).mono ?_; (exact (by repeat (first | with_reducible exact Below.refl _ _ | with_reducible assumption | with_reducible apply bl_drewN | with_reducible apply bl_drew | with_reducible apply bl_alloc | (with_reducible refine bl_set ?_ (by first | (simp; done) | (simp; omega)) _) | with_reducible refine bl_trans ?_ (by with_reducible assumption)))); rintro e wa ⟨va, rfl, Oa, ba⟩; obtain ⟨aa, capa, rfl, -⟩ := own_at Oa; have bA : Below w1.heap.size w1 wa := (by repeat (first | with_reducible exact Below.refl _ _ | with_reducible assumption | with_reducible apply bl_drewN | with_reducible apply bl_drew | with_reducible apply bl_alloc | (with_reducible refine bl_set ?_ (by first | (simp; done) | (simp; omega)) _) | with_reducible refine bl_trans ?_ (by with_reducible assumption))); obtain ⟨hca, hfa⟩ := bcell bA; have hzA := bA.size; have Oa := own_mono (base := w1.heap.size) Oa (by first | exact Nat.le_refl _ | omega | (simp; done) | (simp; omega)); clear bA) | (refine step_append_fresh (by rfl) _ _ _ (by rfl) 136 i0 _ 3 3 Tryz.underlying37 hi0 hiz0 hiz1 hiz2 rfl (by omega) ⟨_, 0, none⟩ (by rfl) ia m.ins.length icap (flat Po.cells m.ins) (by rfl) (HIN.out _ (by repeat (first | with_reducible exact Below.refl _ _ | with_reducible assumption | with_reducible apply bl_drewN | with_reducible apply bl_drew | with_reducible apply bl_alloc | (with_reducible refine bl_set ?_ (by first | (simp; done) | (simp; omega)) _) | with_reducible refine bl_trans ?_ (by with_reducible assumption)))) (flat_length Po.len m.ins) (one_cells Po.one m.ins) hp1 (by unfold maxLen; omega) (by omega) ?_; intro ai capi wi Oi bi; have bI : Below w1.heap.size w1 wi := (by repeat (first | with_reducible exact Below.refl _ _ | with_reducible assumption | with_reducible apply bl_drewN | with_reducible apply bl_drew | with_reducible apply bl_alloc | (with_reducible refine bl_set ?_ (by first | (simp; done) | (simp; omega)) _) | with_reducible refine bl_trans ?_ (by with_reducible assumption))); obtain ⟨hci, hfi⟩ := bcell bI; have hzI := bI.size; have Oi := own_mono (base := w1.heap.size) Oi (by first | exact Nat.le_refl _ | omega | (simp; done) | (simp; omega)); clear bI) | (refine step_append_fresh (by rfl) _ _ _ (by rfl) 134 j0 _ 2 2 Tryz.underlying38 hj0 hjz0 hjz1 hjz2 rfl (by omega) ⟨_, 0, none⟩ (by rfl) oa m.outs.length ocap (flat Ce.cells m.outs) (by rfl) (HOU.out _ (by repeat (first | with_reducible exact Below.refl _ _ | with_reducible assumption | with_reducible apply bl_drewN | with_reducible apply bl_drew | with_reducible apply bl_alloc | (with_reducible refine bl_set ?_ (by first | (simp; done) | (simp; omega)) _) | with_reducible refine bl_trans ?_ (by with_reducible assumption)))) (flat_length Ce.len m.outs) (one_cells Ce.one m.outs) hp2 (by unfold maxLen; omega) (by omega) ?_; intro ao capo wo Oo bo; have bO : Below w1.heap.size w1 wo := (by repeat (first | with_reducible exact Below.refl _ _ | with_reducible assumption | with_reducible apply bl_drewN | with_reducible apply bl_drew | with_reducible apply bl_alloc | (with_reducible refine bl_set ?_ (by first | (simp; done) | (simp; omega)) _) | with_reducible refine bl_trans ?_ (by with_reducible assumption))); obtain ⟨hco, hfo⟩ := bcell bO; have hzO := bO.size; have Oo := own_mono (base := w1.heap.size) Oo (by first | exact Nat.le_refl _ | omega | (simp; done) | (simp; omega)); clear bO))
  all_goals
    go_wp2
    refine bodyPost_ret (v := mcv m.bd.wd m.bd.hg (.slice aa m.bd.ps.length capa) (.slice ai m.ins.length capi) (.slice ao m.outs.length capo)) (by simp [results, Tryz.results96, go_sem, hca, hci, hco, hgl1, x0, x1, x2, x3, x4]) rfl ⟨_, _, _, rfl, ⟨?_, ?_, ?_⟩, ?_⟩
    · refine own_mono (base' := w1.heap.size) ?_ (by omega)
      repeat (with_reducible refine ownsRow_setCell_below ?_ (by first | (simp; done) | (simp; omega)) _)
      exact own_below Oa (by repeat (first | with_reducible exact Below.refl _ _ | with_reducible assumption | with_reducible apply bl_drewN | with_reducible apply bl_drew | with_reducible apply bl_alloc | (with_reducible refine bl_set ?_ (by first | (simp; done) | (simp; omega)) _) | with_reducible refine bl_trans ?_ (by with_reducible assumption))) (Nat.le_refl _)
    · refine own_mono (base' := w1.heap.size) ?_ (by omega)
      repeat (with_reducible refine ownsRow_setCell_below ?_ (by first | (simp; done) | (simp; omega)) _)
      exact own_below Oi (by repeat (first | with_reducible exact Below.refl _ _ | with_reducible assumption | with_reducible apply bl_drewN | with_reducible apply bl_drew | with_reducible apply bl_alloc | (with_reducible refine bl_set ?_ (by first | (simp; done) | (simp; omega)) _) | with_reducible refine bl_trans ?_ (by with_reducible assumption))) (Nat.le_refl _)
    · refine own_mono (base' := w1.heap.size) ?_ (by omega)
      repeat (with_reducible refine ownsRow_setCell_below ?_ (by first | (simp; done) | (simp; omega)) _)
      exact own_below Oo (by repeat (first | with_reducible exact Below.refl _ _ | with_reducible assumption | with_reducible apply bl_drewN | with_reducible apply bl_drew | with_reducible apply bl_alloc | (with_reducible refine bl_set ?_ (by first | (simp; done) | (simp; omega)) _) | with_reducible refine bl_trans ?_ (by with_reducible assumption))) (Nat.le_refl _)
    · refine bl_set (bl_set (bl_set (bl_set (bl_set ?_ hgl _) hgl _) hgl _) hgl _) hgl _
      exact (by repeat (first | with_reducible exact Below.refl _ _ | with_reducible assumption | with_reducible apply bl_drewN | with_reducible apply bl_drew | with_reducible apply bl_alloc | (with_reducible refine bl_set ?_ (by first | (simp; done) | (simp; omega)) _) | with_reducible refine bl_trans ?_ (by with_reducible assumption)))
end Go.Proofs.YtdhjhnbmecbaaaaGreat
/- Contracts: a machine without a piece (the reference). -/
namespace Go.Proofs.YtdhjhnbmecbaaaaGreat
open Go.RowKit
set_option linter.unusedVariables false
set_option linter.unusedSimpArgs false
set_option maxHeartbeats 400000
set_option maxRecDepth 100000
theorem slAt_drop {B : Nat} {w : World} {b off : Nat} {ys zs : List Value} (h : SlAt B w (some ⟨b, off, none⟩) (ys ++ zs)) : SlAt B w (some ⟨b, off + ys.length, none⟩) zs := by
  intro j hj
  obtain ⟨b', off', h1, h2, h3⟩ := h (ys.length + j) (by rw [List.length_append]; omega)
  simp only [Option.some.injEq, Addr.mk.injEq, and_true] at h1
  obtain ⟨rfl, rfl⟩ := h1
  refine ⟨b, off + ys.length, rfl, h2, ?_⟩
  rw [Nat.add_assoc, h3]
  congr 1
  rw [List.getElem_append_right (by omega)]
  simp
theorem own_setNe {w : World} {base e k n : Nat} {v : Value} {xs : List Value} (h : w.ownsRow base e k v n xs) (p j : Nat) (u : Value) (hne : ∀ q, v.ownBlock = some q → q ≠ p) : (w.setCell ⟨p, j, none⟩ u).ownsRow base e k v n xs :=
  own_kept h (grown_set w p j u) (fun q hq e => hne q hq (by cases e; rfl))
/-- The pieces' slice of a machine in a block has the room that it says. -/
def CapOk (w : World) (b0 : Nat) : Prop := ∀ a n cap, w.cell? ⟨b0, 2, none⟩ = some (.slice a n cap) → n ≤ cap
theorem CapOk.step {w w' : World} {b0 : Nat} (h : CapOk w b0) (hl : b0 < w.heap.size) (hb : Below w.heap.size w w') : CapOk w' b0 := by
  intro a n cap hc
  rw [hb.cell (p := ⟨b0, 2, none⟩) hl] at hc
  exact h a n cap hc
set_option maxHeartbeats 3200000 in
theorem l03Without_any (b0 : Nat) (m : Mc) (i : Nat) (w : World) (h : MP w b0 m) (hi : i < m.bd.ps.length) (hn : m.bd.ps.length ≤ 10000) (hn1 : m.ins.length ≤ 10000) (hn2 : m.outs.length ≤ 10000) (hp1 : 0 < m.ins.length) (hp2 : 0 < m.outs.length) (hco : CapOk w b0) :
    Calls Tryz.prog 97 #[.pointer (some ⟨b0, 0, none⟩), .int .i64 i] w fun e w' => ∃ s si so, e = .returned (mcv m.bd.wd m.bd.hg s si so) ∧ OwnC w' w.heap.size s si so (woMc m i) ∧ Below w.heap.size w w' := by
  have HLC := Lib.hid (fun w1 (hb : Below w.heap.size w w1) => l03Copy_any b0 m w1 (h.step hb) hn hn1 hn2 hp1 hp2)
  have HLE : Hid ((m.bd.ps.eraseIdx i).length = i + (m.bd.ps.length - (i + 1))) := Lib.hid (by rw [List.length_eraseIdx, if_pos hi]; omega)
  have HEE : Hid (flat Pc.cells (m.bd.ps.take i) ++ flat Pc.cells (m.bd.ps.drop (i + 1)) = flat Pc.cells (m.bd.ps.eraseIdx i)) := Lib.hid (by rw [← flat_append, ← erase_eq])
  obtain ⟨hbl, s, si, so, ⟨⟨c0, c1, c2⟩, c3, c4⟩, ⟨pa, pcap, rfl, hps⟩, -, -⟩ := h
  obtain ⟨pb, poff, hpa, -, -⟩ := pcs_get hps hi
  subst hpa
  have hsp := split_at m.bd.ps i hi
  have hS1 : SlAt w.heap.size w (some ⟨pb, poff, none⟩) (flat Pc.cells (m.bd.ps.take i)) := slAt_take hps i
  have HFL : (flat Pc.cells (m.bd.ps.take i)).length = i * 5 := by rw [flat_length Pc.len, List.length_take, Nat.min_eq_left (by omega)]
  have hS2 : SlAt w.heap.size w (some ⟨pb, poff + (i + 1) * 5, none⟩) (flat Pc.cells (m.bd.ps.drop (i + 1))) := by
    have h1 : flat Pc.cells m.bd.ps = flat Pc.cells (m.bd.ps.take (i + 1)) ++ flat Pc.cells (m.bd.ps.drop (i + 1)) := by rw [← flat_append, List.take_append_drop]
    have h2 : (flat Pc.cells (m.bd.ps.take (i + 1))).length = (i + 1) * 5 := by rw [flat_length Pc.len, List.length_take, Nat.min_eq_left (by omega)]
    have h3 : SlAt w.heap.size w (some ⟨pb, poff, none⟩) (flat Pc.cells (m.bd.ps.take (i + 1)) ++ flat Pc.cells (m.bd.ps.drop (i + 1))) := by rw [← h1]; exact hps
    have h4 := slAt_drop h3
    rwa [h2] at h4
  have hpc := hco _ _ _ c2
  have hdl0 : (flat Pc.cells (m.bd.ps.drop (i + 1))).length = (m.bd.ps.length - (i + 1)) * 5 := by rw [flat_length Pc.len, List.length_drop]
  obtain ⟨A, hA, hnews⟩ : ∃ A : Addr, (if pcap = i + 1 then some (⟨pb, poff, none⟩ : Addr) else some ⟨pb, poff + (i + 1) * 5, none⟩) = some A ∧ Hid (SlAt w.heap.size w (some A) (flat Pc.cells (m.bd.ps.drop (i + 1)))) := by
    by_cases hc : pcap = i + 1
    · refine ⟨_, by rw [if_pos hc], Lib.hid (fun j hj => ?_)⟩
      rw [hdl0] at hj
      omega
    · exact ⟨_, by rw [if_neg hc], Lib.hid hS2⟩
  obtain ⟨pn, hpn⟩ : ∃ pn, pn = m.bd.ps.length := ⟨_, rfl⟩
  rw [← hpn] at c2 hi hn hpc hdl0 HLE
  obtain ⟨T1, hT1⟩ : ∃ T1, T1 = flat Pc.cells (m.bd.ps.take i) := ⟨_, rfl⟩
  obtain ⟨T2, hT2⟩ : ∃ T2, T2 = flat Pc.cells (m.bd.ps.drop (i + 1)) := ⟨_, rfl⟩
  have HO1 : Hid (∀ u ∈ T1, u.oneCell' = true) := Lib.hid (by rw [hT1]; exact one_cells Pc.one _)
  have HO2 : Hid (∀ u ∈ T2, u.oneCell' = true) := Lib.hid (by rw [hT2]; exact one_cells Pc.one _)
  rw [← hT1] at hS1 HFL HEE
  rw [← hT2] at hnews hdl0 HEE
  have HS1 := Lib.hid (fun w2 (hb : Below w.heap.size w w2) => hS1.below hb (Nat.le_refl _))
  have HS2 := Lib.hid (fun w2 (hb : Below w.heap.size w w2) => hnews.out.below hb (Nat.le_refl _))
  have HF1 := Lib.hid HFL
  have HF2 := Lib.hid hdl0
  obtain ⟨i0, hi0, hiz0, hiz1, hiz2⟩ := info_parts Tryz.infoPiece
  have HBF := Lib.hid (BF5new w (.int .i8 0) (.int .i8 0) (.slice none 0 0) (.slice none 0 0) (.slice none 0 0) 40)
  have hwr : IntKind.i64.wrap ((i : Int) + 1) = (i : Int) + 1 := by rw [IntKind.wrap_i64]; omega
  have hp0 : (0 : Int) ≤ (i : Int) + 1 := by omega
  have hpp1 : (i : Int) + 1 ≤ (pn : Int) := by omega
  have hpp2 : ((i : Int) + 1).toNat = i + 1 := by omega
  have hic : i ≤ pcap := by omega
  have hic2 : (i : Int) ≤ pcap := by omega
  have hic3 : (0 : Int) ≤ i := by omega
  have hsum : i + (pn - (i + 1)) ≤ 10000 := by omega
  clear c0 c1 c3 c4 hps hsp hS1 hS2 hnews hT1 hT2 HFL hdl0 hpn hco
  go_enter Tryz.func97, Tryz.ntmps97
  go_wp2_with fail
  obtain ⟨w1, hw1, hz1, hb1, x0, x1, x2, x3, x4, f0, f1, f2, f3, f4⟩ := HBF.out
  rw [← hw1]
  obtain ⟨g, hg⟩ : ∃ g, g = w.heap.size := ⟨_, rfl⟩
  rw [← hg] at x0 x1 x2 x3 x4 f0 f1 f2 f3 f4 ⊢
  have hgl1 : g < w1.heap.size := by omega
  have hgl : w.heap.size ≤ g := by omega
  have hzw : w.heap.size < w1.heap.size := by omega
  have HX := Lib.hid (And.intro x0 (And.intro x1 (And.intro x2 (And.intro x3 x4))))
  have HXF := Lib.hid (And.intro f0 (And.intro f1 (And.intro f2 (And.intro f3 f4))))
  clear hw1 hg hz1 x0 x1 x2 x3 x4 f0 f1 f2 f3 f4
  refine (HLC.out _ hb1).mono ?_
  rintro e w2 ⟨s2, si2, so2, rfl, OC, hb2⟩
  obtain ⟨as2, cs2, rfl, -⟩ := own_at OC.1
  obtain ⟨ai2, ci2, rfl, -⟩ := own_at OC.2.1
  obtain ⟨ao2, co2, rfl, -⟩ := own_at OC.2.2
  have HOC := Lib.hid OC
  have b02 := bl_trans hb1 hb2
  have hz2 := hb2.size
  have HBF2 := Lib.hid (BF5new w2 (.int .i8 m.bd.wd) (.int .i8 m.bd.hg) (.slice as2 m.bd.ps.length cs2) (.slice ai2 m.ins.length ci2) (.slice ao2 m.outs.length co2) 40)
  clear OC
  go_upto_region 2 with fail
  obtain ⟨w3, hw3, hz3, hb3, y0, y1, y2, y3, y4, k0, k1, k2, k3, k4⟩ := HBF2.out
  rw [← hw3]
  obtain ⟨g5, hg5⟩ : ∃ g5, g5 = w2.heap.size := ⟨_, rfl⟩
  rw [← hg5] at y0 y1 y2 y3 y4 k0 k1 k2 k3 k4 ⊢
  have hg5l : g5 < w3.heap.size := by omega
  have hgg5 : g < g5 := by omega
  have hg5w : w.heap.size ≤ g5 := by omega
  have b03 := bl_trans b02 hb3
  have hzw3 : w1.heap.size ≤ w3.heap.size := by omega
  have hbl3 : b0 < w3.heap.size := by omega
  have hgl3 : g < w3.heap.size := by omega
  have HW3 := Lib.hid (fun u (hb : Below w3.heap.size w3 u) => bl_trans b03 hb)
  have HB13 := Lib.hid (bl_trans hb2 hb3)
  have HOC3 := Lib.hid (HOC.out.below hb3)
  have HNI : Hid (∀ q, (Value.slice ai2 m.ins.length ci2).ownBlock = some q → q < g5 ∧ g < q) := Lib.hid (fun q hq => by have := HOC.out.2.1.lt q hq; omega)
  have HNO : Hid (∀ q, (Value.slice ao2 m.outs.length co2).ownBlock = some q → q < g5 ∧ g < q) := Lib.hid (fun q hq => by have := HOC.out.2.2.lt q hq; omega)
  clear hw3 hg5 hz3 hz2
  go_region_held3 (fun w' => Below w.heap.size w w' ∧ ∀ b o, b < w.heap.size → w'.cell? ⟨b, o, none⟩ = w.cell? ⟨b, o, none⟩) ((refine ext_s ?_; exact (by repeat (first | with_reducible exact Below.refl _ _ | with_reducible assumption | with_reducible apply bl_drewN | with_reducible apply bl_drew | with_reducible apply bl_alloc | (with_reducible refine bl_set ?_ (by first | (simp; done) | (simp; omega)) _) | with_reducible refine bl_trans ?_ (by with_reducible assumption))))) (first | (refine step_append_sl (by rfl) _ _ _ (by rfl) w3.heap.size 167 i0 _ 5 5 Tryz.underlying34 hi0 hiz0 hiz1 hiz2 rfl (by omega) (.slice (some ⟨_, 0, none⟩) 0 0) 0 [] (by rfl) (own_mono (World.ownsRow_made _ #[] 0 (Nat.le_refl _) (by simp [maxLen]) rfl) (by first | omega | (simp; done) | (simp; omega))) (some ⟨pb, poff, none⟩) i pcap T1 (by rfl) (HS1.out _ (by repeat (first | with_reducible exact Below.refl _ _ | with_reducible assumption | with_reducible apply bl_drewN | with_reducible apply bl_drew | with_reducible apply bl_alloc | (with_reducible refine bl_set ?_ (by first | (simp; done) | (simp; omega)) _) | with_reducible refine bl_trans ?_ (by with_reducible assumption)))) HF1.out HO1.out (by unfold maxLen; omega) (by omega) (by first | omega | (simp; done) | (simp; omega)) ?_; intro v4 w4 hown4 hgrow4 hblk4; have b4 : Below w3.heap.size w3 w4 := bl_grown (by repeat (first | with_reducible exact Below.refl _ _ | with_reducible assumption | with_reducible apply bl_drewN | with_reducible apply bl_drew | with_reducible apply bl_alloc | (with_reducible refine bl_set ?_ (by first | (simp; done) | (simp; omega)) _) | with_reducible refine bl_trans ?_ (by with_reducible assumption))) hgrow4 (by intro k hk; have hk2 : some _ = some k := hk; cases hk2; first | exact Nat.le_refl _ | (simp; done) | (simp; omega)); have hz4 := b4.size; rw [Nat.zero_add, List.nil_append] at hown4; obtain ⟨a4, cap4, rfl, -⟩ := own_at hown4) | (refine step_append_sl (by rfl) _ _ _ (by rfl) w3.heap.size 167 i0 _ 5 5 Tryz.underlying34 hi0 hiz0 hiz1 hiz2 rfl (by omega) (.slice a4 i cap4) i T1 (by rfl) hown4 (some A) (pn - (i + 1)) (pcap - (i + 1)) T2 (by rfl) (HS2.out _ (HW3.out _ b4)) HF2.out HO2.out (by unfold maxLen; omega) (by omega) (by omega) ?_; intro v5 w5 hown5 hgrow5 hblk5; have b5 : Below w3.heap.size w3 w5 := bl_grown b4 hgrow5 (fun k hk => (hown4.lt k hk).1); have hz5 := b5.size; obtain ⟨a5, cap5, rfl, -⟩ := own_at hown5; obtain ⟨hc5, hf5⟩ := bcell b5))
  have e0 : w5.cell? ⟨g5, 0, none⟩ = some (.int .i8 m.bd.wd) := by rw [hc5 _ _ hg5l]; exact y0
  have e1 : w5.cell? ⟨g5, 1, none⟩ = some (.int .i8 m.bd.hg) := by rw [hc5 _ _ hg5l]; exact y1
  have e2 : w5.cell? ⟨g5, 2, none⟩ = some (.slice as2 m.bd.ps.length cs2) := by rw [hc5 _ _ hg5l]; exact y2
  have e3 : w5.cell? ⟨g5, 3, none⟩ = some (.slice ai2 m.ins.length ci2) := by rw [hc5 _ _ hg5l]; exact y3
  have e4 : w5.cell? ⟨g5, 4, none⟩ = some (.slice ao2 m.outs.length co2) := by rw [hc5 _ _ hg5l]; exact y4
  have hgz : ∀ o v, w1.cell? ⟨g, o, none⟩ = some v → w5.cell? ⟨g, o, none⟩ = some v := fun o v h => by rw [hc5 _ _ hgl3, HB13.out.cell (p := ⟨g, o, none⟩) hgl1]; exact h
  have hgf : ∀ o, w1.frozen? ⟨g, o, none⟩ = false → w5.frozen? ⟨g, o, none⟩ = false := fun o h => by rw [hf5 _ _ hgl3, HB13.out.frozen (p := ⟨g, o, none⟩) hgl1]; exact h
  obtain ⟨z0, z1, z2, z3, z4⟩ := HX.out
  obtain ⟨h0, h1, h2, h3, h4⟩ := HXF.out
  have q0 := hgz _ _ z0
  have q1 := hgz _ _ z1
  have q2 := hgz _ _ z2
  have q3 := hgz _ _ z3
  have q4 := hgz _ _ z4
  have r0 := hgf _ h0
  have r1 := hgf _ h1
  have r2 := hgf _ h2
  have r3 := hgf _ h3
  have r4 := hgf _ h4
  have HO5 := Lib.hid hown5
  have HOC5 := Lib.hid (HOC3.out.below b5)
  have HB5 := Lib.hid (bl_trans b03 b5)
  have hne5 : g ≠ g5 := by omega
  clear hgz hgf z0 z1 z2 z3 z4 h0 h1 h2 h3 h4 hc5 hf5 hown5 hgrow5 hown4 hgrow4 b5 b4 y0 y1 y2 y3 y4 k0 k1 k2 k3 k4
  go_wp2
  refine bodyPost_ret (v := mcv m.bd.wd m.bd.hg (.slice a5 (i + (pn - (i + 1))) cap5) (.slice ai2 m.ins.length ci2) (.slice ao2 m.outs.length co2)) (by simp [results, Tryz.results97, go_sem, q0, q1, q2, q3, q4, hne5]) rfl ⟨_, _, _, rfl, ⟨?_, ?_, ?_⟩, ?_⟩
  · show World.ownsRow _ _ _ _ _ (m.bd.ps.eraseIdx i).length (flat Pc.cells (m.bd.ps.eraseIdx i))
    rw [HLE.out, ← HEE.out]
    refine own_mono (base' := w3.heap.size) ?_ (by omega)
    repeat (with_reducible refine ownsRow_setCell_below ?_ (by first | (simp; done) | (simp; omega)) _)
    exact HO5.out
  · refine own_mono (base' := w1.heap.size) ?_ (by omega)
    repeat (with_reducible refine own_setNe ?_ _ _ _ (fun q hq => by have := HNI.out q hq; omega))
    exact HOC5.out.2.1
  · refine own_mono (base' := w1.heap.size) ?_ (by omega)
    repeat (with_reducible refine own_setNe ?_ _ _ _ (fun q hq => by have := HNO.out q hq; omega))
    exact HOC5.out.2.2
  · exact bl_set (bl_set (bl_set (bl_set (bl_set (bl_set HB5.out hg5w _) hgl _) hgl _) hgl _) hgl _) hgl _
end Go.Proofs.YtdhjhnbmecbaaaaGreat
/- Contracts: whether a part is useless, all such parts (the reference). -/
namespace Go.Proofs.YtdhjhnbmecbaaaaGreat
open Go.RowKit
set_option linter.unusedVariables false
set_option linter.unusedSimpArgs false
set_option maxHeartbeats 400000
set_option maxRecDepth 100000
theorem ulP_eq (m : Mc) (tabs : List Nat) (i : Nat) : ulP m tabs i = (vMc (woMc m i) && decide (mTabI (woMc m i) = tabs.map (fun (n : Nat) => (n : Int)))) := by
  unfold ulP
  congr 1
  rw [Bool.eq_iff_iff, decide_eq_true_eq, decide_eq_true_eq]
  unfold mTabI
  constructor
  · intro e; rw [e]
  · intro e; exact map_cast_inj _ _ e
set_option maxHeartbeats 1600000 in
theorem l03Useless_any (b0 : Nat) (m : Mc) (i : Nat) (a : Option Addr) (cap : Nat) (tabs : List Nat) (w : World) (h : MP w b0 m) (hv : vMc m = true) (hok : m.ok) (hi : i < m.bd.ps.length) (hco : CapOk w b0) (hs : SlAt w.heap.size w a (flat U64_cells (tabs.map (fun (n : Nat) => (n : Int))))) (htl : tabs.length ≤ 10000000) :
    Calls Tryz.prog 94 #[.pointer (some ⟨b0, 0, none⟩), .slice a tabs.length cap, .int .i64 i] w fun e w' => e = .returned (.bool (ulP m tabs i)) ∧ Below w.heap.size w w' := by
  obtain ⟨hvb, h60, hi1, hi6, ho1, ho8, -⟩ := vMc_parts m hv
  have HWO := Lib.hid (fun w1 (hb : Below w.heap.size w w1) => l03Without_any b0 m i w1 (h.step hb) hi (by omega) (by omega) (by omega) (by omega) (by omega) (hco.step h.1 hb))
  have HOK := Lib.hid (fun g w1 (hm : MP w1 g (woMc m i)) => l03Ok_any g (woMc m i) w1 hm (woMc_ok m i hok) (by show (m.bd.ps.eraseIdx i).length ≤ _; rw [List.length_eraseIdx, if_pos hi]; omega) (by show m.ins.length ≤ _; omega) (by show m.outs.length ≤ _; omega))
  have HST := Lib.hid (fun w3 (hb : Below w.heap.size w w3) a' cap' xs (hx : SlAt w3.heap.size w3 a' (flat U64_cells xs)) (hl : xs.length ≤ 10000000) => sameTables_any (B := w3.heap.size) a' a cap' cap xs (tabs.map (fun (n : Nat) => (n : Int))) w3 hx ((hs.below hb (Nat.le_refl _)).mono hb.size) (Nat.le_refl _) hl (by rw [List.length_map]; exact htl))
  have HUL := Lib.hid (ulP_eq m tabs i)
  have HTB := Lib.hid (fun (hvw : vMc (woMc m i) = true) g w1 (hm : MP w1 g (woMc m i)) => l03Tables_any g (woMc m i) w1 hm hvw (woMc_ok m i hok))
  obtain ⟨res, hres⟩ : ∃ res, res = ulP m tabs i := ⟨_, rfl⟩
  rw [← hres] at HUL ⊢
  clear hres
  rcases Bool.eq_false_or_eq_true (vMc (woMc m i)) with gv | gv
  · have HTC := Lib.hid (HTB.out gv)
    rw [gv] at HOK HUL
    have HF : Hid (res = decide (mTabI (woMc m i) = tabs.map (fun (n : Nat) => (n : Int)))) := Lib.hid (by rw [HUL.out]; rfl)
    clear gv HUL HTB
    go_enter Tryz.func94, Tryz.ntmps94
    go_wp2_with fail
    refine (HWO.out _ (Below.refl _ _)).mono ?_
    rintro e w2 ⟨s2, si2, so2, rfl, OC, hb2⟩
    obtain ⟨as2, cs2, rfl, -⟩ := own_at OC.1
    obtain ⟨ai2, ci2, rfl, -⟩ := own_at OC.2.1
    obtain ⟨ao2, co2, rfl, -⟩ := own_at OC.2.2
    have hmp := MP.new (m := woMc m i) (w := w2) (pv_own OC.1) (own_rv OC.2.1) (own_rv OC.2.2) 40
    have HB2 := Lib.hid hb2
    have HMP := Lib.hid hmp
    have hba : Below w2.heap.size w2 (w2.alloc (.cells #[.int .i8 (woMc m i).bd.wd, .int .i8 (woMc m i).bd.hg, .slice as2 (woMc m i).bd.ps.length cs2, .slice ai2 (woMc m i).ins.length ci2, .slice ao2 (woMc m i).outs.length co2] 40)) := bl_alloc (Below.refl _ _)
    have HB3 := Lib.hid (bl_trans hb2 hba)
    clear OC hb2 hmp hba
    go_wp2_with fail
    refine (HOK.out _ _ HMP.out).mono ?_
    rintro e w4 ⟨rfl, hb4⟩
    have HM4 := Lib.hid (HMP.out.step hb4)
    have HB4 := Lib.hid (bl_trans HB3.out hb4)
    clear hb4
    go_wp2_with fail
    refine (HTC.out _ _ HM4.out).mono ?_
    rintro e w5 ⟨v5, rfl, hown5, hb5⟩
    obtain ⟨a5, cap5, rfl, hsl5, -⟩ := own_at hown5
    have hlx : (mTabI (woMc m i)).length = (woMc m i).outs.length := mTabI_len _
    have hlt : (tabs.map (fun (n : Nat) => (n : Int))).length = tabs.length := by rw [List.length_map]
    have HEC := Lib.hid (HST.out w5 (bl_trans HB4.out hb5) a5 cap5 (mTabI (woMc m i)) hsl5 (by rw [hlx]; show m.outs.length ≤ _; omega))
    rw [hlx, hlt] at HEC
    have HB5 := Lib.hid (bl_trans HB4.out hb5)
    clear hown5 hb5 hsl5 hlx hlt
    go_wp2_with fail
    refine HEC.out.mono ?_
    rintro e w7 ⟨rfl, hb7⟩
    go_wp2
    go_ret
    exact ⟨by rw [HF.out]; rfl, bl_trans HB5.out hb7⟩
  · rw [gv] at HOK HUL
    have HF : Hid (res = false) := Lib.hid (by rw [HUL.out]; rfl)
    clear gv HUL HTB
    go_enter Tryz.func94, Tryz.ntmps94
    go_wp2_with fail
    refine (HWO.out _ (Below.refl _ _)).mono ?_
    rintro e w2 ⟨s2, si2, so2, rfl, OC, hb2⟩
    obtain ⟨as2, cs2, rfl, -⟩ := own_at OC.1
    obtain ⟨ai2, ci2, rfl, -⟩ := own_at OC.2.1
    obtain ⟨ao2, co2, rfl, -⟩ := own_at OC.2.2
    have hmp := MP.new (m := woMc m i) (w := w2) (pv_own OC.1) (own_rv OC.2.1) (own_rv OC.2.2) 40
    have HB2 := Lib.hid hb2
    have HMP := Lib.hid hmp
    have hba : Below w2.heap.size w2 (w2.alloc (.cells #[.int .i8 (woMc m i).bd.wd, .int .i8 (woMc m i).bd.hg, .slice as2 (woMc m i).bd.ps.length cs2, .slice ai2 (woMc m i).ins.length ci2, .slice ao2 (woMc m i).outs.length co2] 40)) := bl_alloc (Below.refl _ _)
    have HB3 := Lib.hid (bl_trans hb2 hba)
    clear OC hb2 hmp hba
    go_wp2_with fail
    refine (HOK.out _ _ HMP.out).mono ?_
    rintro e w4 ⟨rfl, hb4⟩
    have HB4 := Lib.hid (bl_trans HB3.out hb4)
    clear hb4
    go_wp2
    go_ret
    exact ⟨by rw [HF.out]; rfl, HB4.out⟩
/-- A machine by value, its pieces' slice with the room that it says. -/
def MVp (w : World) (v : Value) (m : Mc) : Prop := ∃ sa scap si so, v = mcv m.bd.wd m.bd.hg (.slice sa m.bd.ps.length scap) si so ∧ m.bd.ps.length ≤ scap ∧ PcsAt w.heap.size w sa m.bd.ps ∧ RV Po.cells w si m.ins ∧ RV Ce.cells w so m.outs
theorem MVp.step {w w' : World} {v : Value} {m : Mc} (h : MVp w v m) (hb : Below w.heap.size w w') : MVp w' v m := by
  obtain ⟨sa, scap, si, so, rfl, h0, h1, h2, h3⟩ := h
  exact ⟨sa, scap, si, so, rfl, h0, (h1.below hb (Nat.le_refl _)).mono hb.size, h2.step hb, h3.step hb⟩
theorem OwnM.mvp {w : World} {base : Nat} {s si so : Value} {m : Mc} (h : OwnM w base s si so m) : MVp w (mcv m.bd.wd m.bd.hg s si so) m := by
  obtain ⟨h1, h2, h3, -⟩ := h
  obtain ⟨a, cap, rfl, h4, h5, -⟩ := own_at h1
  exact ⟨a, cap, _, _, rfl, h5, h4, own_rv h2, own_rv h3⟩
set_option maxHeartbeats 1600000 in
theorem specUselessParts_any (m : Mc) (v : Value) (w : World) (h : MVp w v m) (hok : m.ok) (hn : m.bd.ps.length ≤ 10000000) (hn1 : m.ins.length ≤ 10000000) (hn2 : m.outs.length ≤ 10000000) :
    Calls Tryz.prog 52 #[v] w fun e w' => ∃ v, e = .returned (.tuple #[v, .int .i64 (mCode m)]) ∧ w'.ownsRow w.heap.size 2 1 v (ulList m).length (flat N64_cells (ulList m)) ∧ Below w.heap.size w w' := by
  obtain ⟨sa, scap, si, so, rfl, hcap, h0, ⟨ai, capi, rfl, h1⟩, h2⟩ := h
  have HM := Lib.hid (MP.new (m := m) (w := w) ⟨sa, scap, rfl, h0⟩ ⟨ai, capi, rfl, h1⟩ h2 40)
  have HBA := Lib.hid (show Below w.heap.size w (w.alloc (.cells #[.int .i8 m.bd.wd, .int .i8 m.bd.hg, .slice sa m.bd.ps.length scap, .slice ai m.ins.length capi, so] 40)) from bl_alloc (Below.refl _ _))
  have HXB := Lib.hid (BX5.new w (.int .i8 m.bd.wd) (.int .i8 m.bd.hg) (.slice sa m.bd.ps.length scap) (.slice ai m.ins.length capi) so 40)
  have HCO : Hid (CapOk (w.alloc (.cells #[.int .i8 m.bd.wd, .int .i8 m.bd.hg, .slice sa m.bd.ps.length scap, .slice ai m.ins.length capi, so] 40)) w.heap.size) := Lib.hid (by
    intro a n cap hc
    rw [HXB.out.2.2.2.1] at hc
    simp only [Option.some.injEq, Value.slice.injEq] at hc
    omega)
  have HOK := Lib.hid (l03Ok_any w.heap.size m _ HM.out hok hn hn1 hn2)
  rcases Bool.eq_false_or_eq_true (vMc m) with g1 | g1
  · obtain ⟨hvb, h60, hi1, hi6, ho1, ho8, -⟩ := vMc_parts m g1
    have HC : Hid (mCode m = 0) := Lib.hid (by unfold mCode; rw [if_pos g1])
    have HUL : Hid (ulList m = hzTo (ulP m (mTabs m)) m.bd.ps.length) := Lib.hid (by unfold ulList; rw [if_pos g1])
    rw [HC.out, HUL.out]
    rw [g1] at HOK
    have HTA := Lib.hid (fun w1 (hb : Below (w.alloc (.cells #[.int .i8 m.bd.wd, .int .i8 m.bd.hg, .slice sa m.bd.ps.length scap, .slice ai m.ins.length capi, so] 40)).heap.size (w.alloc (.cells #[.int .i8 m.bd.wd, .int .i8 m.bd.hg, .slice sa m.bd.ps.length scap, .slice ai m.ins.length capi, so] 40)) w1) => l03Tables_any w.heap.size m w1 (HM.out.step hb) g1 hok)
    have HTE : Hid (mTabI m = (mTabs m).map (fun (n : Nat) => (n : Int))) := Lib.hid rfl
    have HT8 : Hid ((mTabs m).length = m.outs.length) := Lib.hid (mTabs_len m)
    rw [HTE.out] at HTA
    rw [← HT8.out] at HTA
    have HUS := Lib.hid (fun w1 (hb : Below (w.alloc (.cells #[.int .i8 m.bd.wd, .int .i8 m.bd.hg, .slice sa m.bd.ps.length scap, .slice ai m.ins.length capi, so] 40)).heap.size (w.alloc (.cells #[.int .i8 m.bd.wd, .int .i8 m.bd.hg, .slice sa m.bd.ps.length scap, .slice ai m.ins.length capi, so] 40)) w1) i (hi : i < m.bd.ps.length) a cap (hs : SlAt w1.heap.size w1 a (flat U64_cells ((mTabs m).map (fun (n : Nat) => (n : Int))))) => l03Useless_any w.heap.size m i a cap (mTabs m) w1 (HM.out.step hb) g1 hok hi (HCO.out.step (by simp) hb) hs (by rw [mTabs_len]; omega))
    obtain ⟨tabs, htabs⟩ : ∃ tabs, tabs = mTabs m := ⟨_, rfl⟩
    rw [← htabs] at HTA HUS ⊢
    obtain ⟨p, hp⟩ : ∃ p, p = ulP m tabs := ⟨_, rfl⟩
    rw [← hp] at HUS ⊢
    have HLN := Lib.hid (hzTo_len p)
    clear g1 HC HUL htabs HTE HT8 hp
    obtain ⟨i0, hi0, hiz0, hiz1, hiz2⟩ := info_parts Tryz.infoInt64
    go_enter Tryz.func52, Tryz.ntmps52
    go_wp2_with fail
    refine HOK.out.mono ?_
    rintro e w1 ⟨rfl, hb1⟩
    have HB1 := Lib.hid hb1
    clear hb1
    go_wp2_with fail
    refine (HTA.out _ HB1.out).mono ?_
    rintro e w2 ⟨v2, rfl, hown2, hb2⟩
    obtain ⟨a1, cap1, rfl, hsl1, -, -⟩ := own_at hown2
    have HB2 := Lib.hid (bl_trans HB1.out hb2)
    have HS1 := Lib.hid hsl1
    obtain ⟨X0, -, -, x2, -, -⟩ := HXB.out.step HB2.out
    have hown0 := World.ownsRow_made (e := 2) (size := 1) w2 #[] 0 (Nat.le_refl _) (by simp [maxLen]) rfl
    have hb0 : Below w2.heap.size w2 (w2.alloc (.cells #[] 2)) := bl_alloc (Below.refl _ _)
    have HO0 := Lib.hid hown0
    have HBO := Lib.hid hb0
    clear hown2 hsl1 hb2 hown0 hb0
    go_wp2
    go_loopw [5, 6] (fun v ix wr => ∃ i : Nat, i ≤ m.bd.ps.length ∧ ix = .int .i64 i ∧ wr.ownsRow w2.heap.size 2 1 v (hzTo p i).length (flat N64_cells (hzTo p i)) ∧ Below w2.heap.size w2 wr) (fun _ ix _ => m.bd.ps.length - (intOf ix).toNat)
    case atStart => exact ⟨0, by omega, rfl, HO0.out, HBO.out⟩
    case round =>
      obtain ⟨i, hi, rfl, hown, hb⟩ := hrel
      obtain ⟨av2, capv2, hve, -, -, -⟩ := own_at hown
      subst hve
      have HOWN := Lib.hid hown
      have hzb := hb.size
      have HBB := Lib.hid hb
      have HBW := Lib.hid (bl_trans HB2.out hb)
      have z2 : wr.cell? ⟨w.heap.size, 2, none⟩ = some (.slice sa m.bd.ps.length scap) := by rw [hb.cell (p := ⟨w.heap.size, 2, none⟩) X0]; exact x2
      have hle := HLN.out i
      obtain ⟨nn, hnn⟩ : ∃ nn, nn = (hzTo p i).length := ⟨_, rfl⟩
      rw [← hnn] at HOWN hle ⊢
      have HNN := Lib.hid hnn
      by_cases hlt : i < m.bd.ps.length
      · have hiI : (i : Int) < m.bd.ps.length := by omega
        have HUC := Lib.hid (HUS.out wr HBW.out i hlt a1 cap1 ((HS1.out.below hb (Nat.le_refl _)).mono hzb))
        clear hown hb hnn
        go_wp2_with fail
        refine HUC.out.mono ?_
        rintro e w7 ⟨rfl, hb7⟩
        have HBB7 := Lib.hid (bl_trans HBB.out hb7)
        have HO7 := Lib.hid (own_below HOWN.out hb7 (Nat.le_refl _))
        have hz7 := HBB7.out.size
        clear hb7 HUC
        rcases Bool.eq_false_or_eq_true (p i) with gp | gp
        · have HY : Hid (hzTo p (i + 1) = hzTo p i ++ [(i : Int)]) := Lib.hid (hzTo_yes p i gp)
          go_wp2_with (at_builtin; go_must (refine wpList_append_sl _ rfl _ _ 30 rfl w2.heap.size 2 i0 (.int .i64 0) 1 8 Tryz.underlying30 hi0 hiz0 hiz1 hiz2 rfl (by decide) _ _ _ rfl (own_below HO7.out (bl_alloc (Below.refl _ _)) (Nat.le_refl _)) (some ⟨w7.heap.size, 0, none⟩) 1 1 [.int .i64 (i : Int)] rfl (sl_newC w7 #[.int .i64 (i : Int)] 2 _ rfl) rfl (by intro u hu; rw [List.mem_singleton] at hu; subst hu; rfl) (by unfold maxLen; omega) (by omega) (by simp; omega) ?_); intro v4 w8 hown3 hgrow; obtain ⟨g4, cap4, rfl, hg4⟩ := own_some hown3)
          have hb8 : Below w2.heap.size w2 w8 := (bl_alloc (o := .cells #[.int .i64 (i : Int)] 2) HBB7.out).grown hgrow (by simp; omega) (fun q hq => (HO7.out.lt q hq).1)
          have hown5 : w8.ownsRow w2.heap.size 2 1 (.slice (some ⟨g4, 0, none⟩) (nn + 1) cap4) (hzTo p (i + 1)).length (flat N64_cells (hzTo p (i + 1))) := by
            rw [HY.out, flat_append, List.length_append, ← HNN.out]; exact hown3
          go_roundw
          case rel => exact ⟨i + 1, by omega, by go_num, hown5, hb8⟩
          case measure => simp [intOf]; omega
        · have HY : Hid (hzTo p (i + 1) = hzTo p i) := Lib.hid (hzTo_no p i gp)
          go_wp2
          go_roundw
          case rel => exact ⟨i + 1, by omega, by go_num, by rw [HY.out, ← HNN.out]; exact HO7.out, HBB7.out⟩
          case measure => simp [intOf]; omega
      · have hin : Hid (i = m.bd.ps.length) := Lib.hid (by omega)
        have hiI : ¬ (i : Int) < m.bd.ps.length := by omega
        have hown2 := own_mono (base := w.heap.size) HOWN.out (by have h1 := HB2.out.size; simp only [World.size_alloc] at h1; omega)
        have HOW2 := Lib.hid hown2
        rw [hin.out] at HNN
        clear hown2 hown hnn
        have HOW3 : Hid (wr.ownsRow w.heap.size 2 1 (.slice av2 nn capv2) nn (flat N64_cells (hzTo p m.bd.ps.length))) := Lib.hid (by rw [← hin.out]; exact HOW2.out)
        go_wp2
        go_ret2
        exact ⟨_, rfl, by rw [← HNN.out]; exact HOW3.out, bl_trans HBA.out HBW.out⟩
  · have HC : Hid (mCode m = 1) := Lib.hid (by unfold mCode; rw [if_neg (by simp [g1])])
    have HL : Hid (ulList m = []) := Lib.hid (by unfold ulList; rw [if_neg (by simp [g1])])
    rw [HC.out, HL.out]
    rw [g1] at HOK
    clear g1 HC HL
    go_enter Tryz.func52, Tryz.ntmps52
    go_wp2_with fail
    refine HOK.out.mono ?_
    rintro e w1 ⟨rfl, hb1⟩
    have hb01 := bl_trans HBA.out hb1
    have hown := World.ownsRow_made (e := 2) (size := 1) w1 #[] 0 (Nat.le_refl _) (by simp [maxLen]) rfl
    have hown2 := own_mono (base := w.heap.size) hown hb01.size
    have HRET := Lib.hid (And.intro hown2 (bl_alloc (o := .cells #[] 2) hb01))
    clear hb1 hb01 hown hown2
    go_wp2
    go_ret2
    exact ⟨_, rfl, HRET.out.1, HRET.out.2⟩
end Go.Proofs.YtdhjhnbmecbaaaaGreat
/- The walk of the law FnExactUselessParts. -/
namespace Go.Proofs.YtdhjhnbmecbaaaaGreat
open Go.RowKit
set_option linter.unusedVariables false
set_option linter.unusedSimpArgs false
set_option maxHeartbeats 400000
set_option maxRecDepth 100000
set_option maxRecDepth 100000 in
theorem lawUselessParts_any (mc : Mc) (a a1 a2 : Option Addr) (cap cap1 cap2 : Nat) (w : World) (h0 : PcsAt w.heap.size w a mc.bd.ps) (h1 : SlAt w.heap.size w a1 (flat Po.cells mc.ins)) (h2 : SlAt w.heap.size w a2 (flat Ce.cells mc.outs)) (hok : mc.ok)
    (l0 : mc.bd.ps.length ≤ 9223372036854775807) (l1 : mc.ins.length ≤ 9223372036854775807) (l2 : mc.outs.length ≤ 9223372036854775807) :
    Calls Tryz.prog 14 #[mcv mc.bd.wd mc.bd.hg (.slice a mc.bd.ps.length cap) (.slice a1 mc.ins.length cap1) (.slice a2 mc.outs.length cap2)] w fun e w' => e = .returned (.bool true) ∧ Below w.heap.size w w' := by
  by_cases hL : True
  · by_cases hn : (mc.bd.ps.length : Int) + mc.ins.length + mc.outs.length ≤ 1048576
    · obtain ⟨lf, Hs, hlf, hlf2⟩ : ∃ lf : Int, Hid (sz3 mc.bd.ps.length mc.ins.length mc.outs.length 1048576 = lf) ∧ 0 ≤ lf ∧ lf ≤ 1048576 := ⟨_, Lib.hid rfl, by unfold sz3; rw [if_pos hn]; omega, by unfold sz3; rw [if_pos hn]; omega⟩
      have M0 : MV w (mcv mc.bd.wd mc.bd.hg (.slice a mc.bd.ps.length cap) (.slice a1 mc.ins.length cap1) (.slice a2 mc.outs.length cap2)) mc := ⟨_, _, _, rfl, ⟨a, cap, rfl, h0⟩, ⟨a1, cap1, rfl, h1⟩, a2, cap2, rfl, h2⟩
      have X0 := BX5.new w (.int .i8 mc.bd.wd) (.int .i8 mc.bd.hg) (.slice a mc.bd.ps.length cap) (.slice a1 mc.ins.length cap1) (.slice a2 mc.outs.length cap2) 29
      have hln : (ulList mc).length ≤ 1048576 := by have := ulList_len mc; omega
      obtain ⟨rv0, hrv0⟩ : ∃ rv, rv = ulList mc := ⟨_, rfl⟩
      obtain ⟨rc, hrc⟩ : ∃ rc, rc = mCode mc := ⟨_, rfl⟩
      have CS := fun v w' (h : MVp w' v mc) => specUselessParts_any mc v w' h hok (by omega) (by omega) (by omega)
      have CI := fun v w' (h : MVc w' v mc) => uselessParts_any mc v w' h hok (by omega) (by omega) (by omega)
      simp only [← hrv0, ← hrc] at CS CI
      rw [← hrv0] at hln
      have CS := Lib.hid CS
      have CI := Lib.hid CI
      clear hrv0 hrc h0 h1 h2
      go_enter Tryz.func14, Tryz.ntmps14
      go_wp2_with fail
      refine (szMachine_any mc.bd.wd mc.bd.hg a _ cap a1 _ cap1 a2 _ cap2 _ _ (by omega) (by omega) (by omega) (by omega) (by omega)).mono ?_
      rintro e u ⟨rfl, bu⟩
      rw [Hs.out]
      have bu0 : Below w.heap.size w u := bl_trans (bl_alloc (Below.refl _ _)) bu
      have A0 := (M0.step (bl_alloc (Below.refl _ _))).step bu
      have AX := X0.step bu
      go_wp2_with fail
      refine (toMachine_mv A0 (by omega) (by omega) (by omega)).mono ?_
      rintro e w1 ⟨sm, im, om, rfl, Om1, b1⟩
      have AM1 := A0.step b1
      have AX1 := AX.step b1
      have B1 := b1
      obtain ⟨asm, capsm, rfl, -⟩ := own_at Om1.1
      obtain ⟨aim, capim, rfl, -⟩ := own_at Om1.2.1
      obtain ⟨aom, capom, rfl, -⟩ := own_at Om1.2.2.1
      go_wp2_with fail
      refine (CS.out _ _ Om1.mvp).mono ?_
      rintro e w2 ⟨vw, rfl, Ow2, b2⟩
      have AM2 := AM1.step b2
      have AX2 := AX1.step b2
      have Pwm := ownM_apart Om1 Ow2 (by first | exact Nat.le_refl _ | simp)
      have Om2 := Om1.below b2
      have B2 := bl_trans B1 b2
      obtain ⟨aw, capw, rfl, -⟩ := own_at Ow2
      go_wp2_with fail
      refine (toMachine_mv AM2 (by omega) (by omega) (by omega)).mono ?_
      rintro e w3 ⟨sx, ix, ox, rfl, Ox3, b3⟩
      have AM3 := AM2.step b3
      have AX3 := AX2.step b3
      have Pwx := ownM_apart' Ow2 Ox3 (by first | exact Nat.le_refl _ | simp)
      have Ow3 := own_below Ow2 b3 (Nat.le_refl _)
      have B3 := bl_trans B2 b3
      obtain ⟨asx, capsx, rfl, -⟩ := own_at Ox3.1
      obtain ⟨aix, capix, rfl, -⟩ := own_at Ox3.2.1
      obtain ⟨aox, capox, rfl, -⟩ := own_at Ox3.2.2.1
      go_wp2_with fail
      refine (CI.out _ _ (Ox3.mvc.step (bl_alloc (Below.refl _ _)))).mono ?_
      rintro e w4 ⟨vg, rfl, Og4, c4⟩
      have b4 := bl_trans (bl_alloc (o := .cells #[.int .i8 mc.bd.wd, .int .i8 mc.bd.hg, .slice asx mc.bd.ps.length capsx, .slice aix mc.ins.length capix, .slice aox mc.outs.length capox] 40) (Below.refl w3.heap.size w3)) c4
      have AY4 := (BX5.new w3 (.int .i8 mc.bd.wd) (.int .i8 mc.bd.hg) (.slice asx mc.bd.ps.length capsx) (.slice aix mc.ins.length capix) (.slice aox mc.outs.length capox) 40).step c4
      have AM4 := AM3.step b4
      have AX4 := AX3.step b4
      have Nwg := own_apart Ow3 Og4 (by first | exact Nat.le_refl _ | simp)
      have Ngw := own_apart' Ow3 Og4 (by first | exact Nat.le_refl _ | simp)
      have Pgx := ownM_apart Ox3 Og4 (by first | exact Nat.le_refl _ | simp)
      have Ow4 := own_below Ow3 b4 (Nat.le_refl _)
      have Ox4 := Ox3.below b4
      have B4 := bl_trans B3 b4
      obtain ⟨ag, capg, rfl, -⟩ := own_at Og4
      go_wp2_with fail
      refine (eqInt64S_yes (own_rv Og4) (own_rv Ow4) (by omega)).mono ?_
      rintro e w5 ⟨rfl, b5⟩
      have AM5 := AM4.step b5
      have AX5 := AX4.step b5
      have AY5 := AY4.step b5
      have Ow5 := own_below Ow4 b5 (Nat.le_refl _)
      have Og5 := own_below Og4 b5 (Nat.le_refl _)
      have Ox5 := Ox4.below b5
      have B5 := bl_trans B4 b5
      go_upto_region 10 with fail
      have CK := Lib.hid (fun w' (h : Below w5.heap.size w5 w') => toMachine_mv (w := w') (AM5.step h) (by omega) (by omega) (by omega))
      have CL := Lib.hid (fun w' v' (h : Below w5.heap.size w5 w') (h' : MV w' v' mc) => eqMachine_yes (w := w') (Ox5.mv.step h) h' (by omega) (by omega) (by omega))
      go_region_held3 (fun w' => Below w5.heap.size w5 w' ∧ ∀ b o, b < w5.heap.size → w'.cell? ⟨b, o, none⟩ = w5.cell? ⟨b, o, none⟩) ((refine ext_s ?_; exact (by repeat (first | with_reducible exact Below.refl _ _ | with_reducible assumption | with_reducible apply bl_drewN | with_reducible apply bl_drew | with_reducible apply bl_alloc | (with_reducible refine bl_set ?_ (by first | (simp; done) | (simp; omega)) _) | with_reducible refine bl_trans ?_ (by with_reducible assumption))))) (first | (go_at_call 18; refine (CK.out _ ?_).mono ?_; (exact (by repeat (first | with_reducible exact Below.refl _ _ | with_reducible assumption | with_reducible apply bl_drewN | with_reducible apply bl_drew | with_reducible apply bl_alloc | (with_reducible refine bl_set ?_ (by first | (simp; done) | (simp; omega)) _) | with_reducible refine bl_trans ?_ (by with_reducible assumption)))); rintro e wa ⟨sa, ia, oa, rfl, Oa, ba⟩; obtain ⟨hca, hfa⟩ := bcell ba) | (go_at_call 21; refine (CL.out _ _ ?_ Oa.mv).mono ?_; (exact (by repeat (first | with_reducible exact Below.refl _ _ | with_reducible assumption | with_reducible apply bl_drewN | with_reducible apply bl_drew | with_reducible apply bl_alloc | (with_reducible refine bl_set ?_ (by first | (simp; done) | (simp; omega)) _) | with_reducible refine bl_trans ?_ (by with_reducible assumption)))); rintro e w6 ⟨rfl, be⟩))
      have b6 : Below w5.heap.size w5 w6 := (by repeat (first | with_reducible exact Below.refl _ _ | with_reducible assumption | with_reducible apply bl_drewN | with_reducible apply bl_drew | with_reducible apply bl_alloc | (with_reducible refine bl_set ?_ (by first | (simp; done) | (simp; omega)) _) | with_reducible refine bl_trans ?_ (by with_reducible assumption)))
      clear CK CL
      have AM6 := AM5.step b6
      have AX6 := AX5.step b6
      have AY6 := AY5.step b6
      have Ow6 := own_below Ow5 b6 (Nat.le_refl _)
      have Og6 := own_below Og5 b6 (Nat.le_refl _)
      have Ox6 := Ox5.below b6
      have B6 := bl_trans B5 b6
      go_wp2_with fail
      refine (markMachine_any Ox6 (by omega) (by omega) (by omega)).mono ?_
      rintro e w7 ⟨rfl, x7a, x7b, ga7, gb7, gc7⟩
      have Ow7 := own_kept3 Ow6 ga7 gb7 gc7 Pwx
      have Og7 := own_kept3 Og6 ga7 gb7 gc7 Pgx
      have B7 := bl_grown3 B6 ga7 gb7 gc7 Ox6 (by have h1 := B2.size; (try simp only [World.size_alloc]); omega)
      have AM7 := A0.step B7
      have AX7 := AX.step B7
      go_wp2_with fail
      refine (eqInt64S_yes (own_rv Og7) (own_rv Ow7) (by omega)).mono ?_
      rintro e w8 ⟨rfl, b8⟩
      have AM8 := AM7.step b8
      have AX8 := AX7.step b8
      have Ow8 := own_below Ow7 b8 (Nat.le_refl _)
      have Og8 := own_below Og7 b8 (Nat.le_refl _)
      have B8 := bl_trans B7 b8
      go_wp2_with fail
      refine (markInt64S_any 1 _ Og8 (by omega) (by omega) (by omega)).mono ?_
      rintro e w9 ⟨rfl, Mg9, g9⟩
      have Ow9 := own_kept Ow8 g9 Nwg
      have B9 := bl_grown B8 g9 (fun k hk => by have h1 := B3.size; have h2 := (Og8.lt k hk).1; (try simp only [World.size_alloc] at h2); omega)
      have AM9 := A0.step B9
      have AX9 := AX.step B9
      go_wp2_with fail
      refine (heldInt64S_own 1 Mg9 (by omega) (by omega) (by omega)).mono ?_
      rintro e w' ⟨rfl, rfl⟩
      go_wp2_with fail
      refine (toMachine_mv AM9 (by omega) (by omega) (by omega)).mono ?_
      rintro e w10 ⟨sz, iz, oz, rfl, Oz10, b10⟩
      have AM10 := AM9.step b10
      have AX10 := AX9.step b10
      have Pwz := ownM_apart' Ow9 Oz10 (by first | exact Nat.le_refl _ | simp)
      have Pgz := ownM_apart' Mg9 Oz10 (by first | exact Nat.le_refl _ | simp)
      have Ow10 := own_below Ow9 b10 (Nat.le_refl _)
      have Og10 := own_below Mg9 b10 (Nat.le_refl _)
      have B10 := bl_trans B9 b10
      obtain ⟨asz, capsz, rfl, -⟩ := own_at Oz10.1
      obtain ⟨aiz, capiz, rfl, -⟩ := own_at Oz10.2.1
      obtain ⟨aoz, capoz, rfl, -⟩ := own_at Oz10.2.2.1
      go_wp2_with fail
      refine (CI.out _ _ Oz10.mvc).mono ?_
      rintro e w11 ⟨vh, rfl, Oh11, b11⟩
      have AM11 := AM10.step b11
      have AX11 := AX10.step b11
      have Nwh := own_apart Ow10 Oh11 (by first | exact Nat.le_refl _ | simp)
      have Nhw := own_apart' Ow10 Oh11 (by first | exact Nat.le_refl _ | simp)
      have Ngh := own_apart Og10 Oh11 (by first | exact Nat.le_refl _ | simp)
      have Nhg := own_apart' Og10 Oh11 (by first | exact Nat.le_refl _ | simp)
      have Phz := ownM_apart Oz10 Oh11 (by first | exact Nat.le_refl _ | simp)
      have Ow11 := own_below Ow10 b11 (Nat.le_refl _)
      have Og11 := own_below Og10 b11 (Nat.le_refl _)
      have Oz11 := Oz10.below b11
      have B11 := bl_trans B10 b11
      obtain ⟨ah, caph, rfl, -⟩ := own_at Oh11
      go_wp2_with fail
      refine (eqInt64S_yes (own_rv Oh11) (own_rv Ow11) (by omega)).mono ?_
      rintro e w12 ⟨rfl, b12⟩
      have AM12 := AM11.step b12
      have AX12 := AX11.step b12
      have Ow12 := own_below Ow11 b12 (Nat.le_refl _)
      have Og12 := own_below Og11 b12 (Nat.le_refl _)
      have Oh12 := own_below Oh11 b12 (Nat.le_refl _)
      have Oz12 := Oz11.below b12
      have B12 := bl_trans B11 b12
      go_wp2_with fail
      refine (heldInt64S_own 1 Og12 (by omega) (by omega) (by omega)).mono ?_
      rintro e w' ⟨rfl, rfl⟩
      go_wp2
      go_ret
      exact ⟨rfl, bl_trans bu0 B12⟩
    · have Hs : Hid (sz3 mc.bd.ps.length mc.ins.length mc.outs.length 1048576 = -1) := Lib.hid (by unfold sz3; rw [if_neg hn])
      go_enter Tryz.func14, Tryz.ntmps14
      go_wp2_with fail
      refine (szMachine_any mc.bd.wd mc.bd.hg a _ cap a1 _ cap1 a2 _ cap2 _ _ (by omega) (by omega) (by omega) (by omega) (by omega)).mono ?_
      rintro e u ⟨rfl, bu⟩
      rw [Hs.out]
      have bu0 : Below w.heap.size w u := bl_trans (bl_alloc (Below.refl _ _)) bu
      go_wp2
      go_ret
      exact ⟨rfl, bu0⟩
  · exact absurd trivial hL
end Go.Proofs.YtdhjhnbmecbaaaaGreat
