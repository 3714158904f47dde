import Derived.Test.YtepekboechmngaaGreatK5
/- Contracts: CausesOf (both). -/
namespace Go.Proofs.YtepekboechmngaaGreat
open Go.RowKit
set_option linter.unusedVariables false
set_option linter.unusedSimpArgs false
set_option maxHeartbeats 400000
set_option maxRecDepth 100000
theorem caCode_in (l : Bd) (pl : List Pu) (i : Int) (g1 : (vBd l && vPus l pl) = true) (g2 : inB i 0 (l.ps.length - 1) = true) : ∃ n : Nat, i = (n : Int) ∧ n < l.ps.length := by
  unfold inB at g2
  simp only [Bool.and_eq_true, decide_eq_true_eq] at g2
  exact ⟨i.toNat, by omega, by omega⟩
set_option maxHeartbeats 3200000 in
theorem specCausesOf_any (wd hg : Int) (s : Value) (ps : List Pc) (v1 : Value) (pl : List Pu) (i : Int) (w : World) (hps : PV w s ps) (hok : (Bd.mk wd hg ps).ok) (hn : ps.length ≤ 9000000) (h1 : SV Pu.cells w v1 pl) (ok1 : PusOk pl) (n1 : pl.length ≤ 9000000) :
    Calls Tryz.prog 33 #[bdv wd hg s, v1, .int .i64 i] w fun e w' => ∃ v, e = .returned (.tuple #[v, .int .i64 (caCode ⟨wd, hg, ps⟩ pl i)]) ∧ w'.ownsRow w.heap.size 2 1 v (caList ⟨wd, hg, ps⟩ pl i).length (flat N64_cells (caList ⟨wd, hg, ps⟩ pl i)) ∧ Below w.heap.size w w' := by
  have HB := Lib.hid (BP.new (l := ⟨wd, hg, ps⟩) (w := w) hps 34)
  have hba : Below w.heap.size w (w.alloc (.cells #[.int .i8 wd, .int .i8 hg, s] 34)) := bl_alloc (Below.refl _ _)
  obtain ⟨a, cap, rfl, -⟩ := hps
  obtain ⟨a1, cap1, rfl, h1⟩ := h1
  have H1 := Lib.hid (l02Asked_any (B := w.heap.size) w.heap.size ⟨wd, hg, ps⟩ a1 cap1 pl _ HB.out hok (show ps.length ≤ 10000000 by omega) (h1.below hba (Nat.le_refl _)) ok1 hba.size (by omega))
  have HBA := Lib.hid hba
  have HX := Lib.hid (fun w1 (hb : Below (w.alloc (.cells #[.int .i8 wd, .int .i8 hg, .slice a ps.length cap] 34)).heap.size (w.alloc (.cells #[.int .i8 wd, .int .i8 hg, .slice a ps.length cap] 34)) w1) => box3 (v0 := .int .i8 wd) (v1 := .int .i8 hg) (v2 := .slice a ps.length cap) (w := w) (T := 34) w1 hb)
  clear hba
  have s1 : IntKind.i64.wrap ((ps.length : Int) - 1) = (ps.length : Int) - 1 := by rw [IntKind.wrap_i64]; omega
  cases g1 : (vBd ⟨wd, hg, ps⟩ && vPus ⟨wd, hg, ps⟩ pl) with
  | true =>
    obtain ⟨hv, hpl, hin, hn20⟩ := ask_ok _ _ g1
    have HA : Hid (askV ⟨wd, hg, ps⟩ pl = 0) := Lib.hid (by unfold askV; rw [g1]; rfl)
    rw [HA.out] at H1
    cases g2 : inB i 0 ((ps.length : Int) - 1) with
    | false =>
      have HC : Hid (caCode ⟨wd, hg, ps⟩ pl i = 2) := Lib.hid (by unfold caCode; rw [g1]; show (if inB i 0 ((ps.length : Int) - 1) = true then _ else _) = _; rw [g2]; rfl)
      have HL : Hid (caList ⟨wd, hg, ps⟩ pl i = []) := Lib.hid (by unfold caList; rw [HC.out]; rfl)
      rw [HC.out, HL.out]
      have HIN := Lib.hid (fun w => g2 ▸ l00In_any i 0 ((ps.length : Int) - 1) w)
      clear g1 HC HL g2 HA hpl hin
      go_enter Tryz.func33, Tryz.ntmps33
      go_wp2_with fail
      refine H1.out.mono ?_
      rintro e w1 ⟨rfl, hb1⟩
      obtain ⟨cb0, cb1, cb2⟩ := HX.out _ hb1
      have hb01 := bl_trans HBA.out hb1
      have hown := World.ownsRow_made (e := 2) (size := 1) w1 #[] 0 (Nat.le_refl _) (by simp [maxLen]) rfl
      have hown2 := own_mono (base := w.heap.size) hown hb01.size
      go_wp2_with (go_at_call 57; refine (HIN.out _).mono ?_; rintro e w' ⟨rfl, rfl⟩)
      go_ret2
      exact ⟨_, rfl, hown2, bl_alloc hb01⟩
    | true =>
      obtain ⟨n, rfl, hnl⟩ := caCode_in ⟨wd, hg, ps⟩ pl i g1 g2
      have HG := Lib.hid (good_bd ⟨wd, hg, ps⟩ hv pl hpl)
      have HN := Lib.hid (runOf_len200 ⟨wd, hg, ps⟩ pl hv)
      have HLK := Lib.hid (runOf_linked ps pl HG.out)
      have HC : Hid (caCode ⟨wd, hg, ps⟩ pl n = (if tki (runOf ps pl) n < 0 then 6 else 0)) := Lib.hid (by unfold caCode; rw [g1]; show (if inB (n : Int) 0 ((ps.length : Int) - 1) = true then _ else _) = _; rw [g2]; rfl)
      have HL : Hid (caList ⟨wd, hg, ps⟩ pl n = if tki (runOf ps pl) n < 0 then [] else (chOf (runOf ps pl) n).reverse) := Lib.hid (by
        unfold caList
        rw [HC.out]
        by_cases h : tki (runOf ps pl) n < 0
        · rw [if_pos h, if_pos h]; rfl
        · rw [if_neg h, if_neg h]; rfl)
      have HPL := Lib.hid hpl
      have HIN := Lib.hid hin
      have HIB := Lib.hid (fun w => g2 ▸ l00In_any (n : Int) 0 ((ps.length : Int) - 1) w)
      obtain ⟨cc, hcc⟩ : ∃ cc, cc = caCode ⟨wd, hg, ps⟩ pl n := ⟨_, rfl⟩
      obtain ⟨cl, hcl⟩ : ∃ cl, cl = caList ⟨wd, hg, ps⟩ pl n := ⟨_, rfl⟩
      rw [← hcc, ← hcl]
      rw [← hcc] at HC
      rw [← hcl] at HL
      obtain ⟨fs, hfs⟩ : ∃ fs, fs = runOf ps pl := ⟨_, rfl⟩
      have hn2 : fs.length ≤ 200 := by rw [hfs]; exact HN.out
      rw [← hfs] at HC HL HLK
      have HFS := Lib.hid hfs
      clear hfs HN g1 g2 HA hpl hin hcc hcl
      go_enter Tryz.func33, Tryz.ntmps33
      go_wp2_with fail
      refine H1.out.mono ?_
      rintro e w1 ⟨rfl, hb1⟩
      obtain ⟨cb0, cb1, cb2⟩ := HX.out _ hb1
      have hb01 := bl_trans HBA.out hb1
      have HF := Lib.hid (l02Run_any (B := w.heap.size) w.heap.size ⟨wd, hg, ps⟩ a1 cap1 pl w1 (HB.out.step hb1) hv (h1.below hb01 (Nat.le_refl _)) ok1 HPL.out HIN.out hn20 hb01.size)
      have HB01 := Lib.hid hb01
      clear hb01 hb1
      go_wp2_with (go_at_call 57; refine (HIB.out _).mono ?_; rintro e w' ⟨rfl, rfl⟩)
      refine HF.out.mono ?_
      rintro e w2 ⟨v, fs', rfl, hown, hokf, -, hb2⟩
      have hflen : fs'.length = ps.length := hokf.1
      have he : fs = fs' := by rw [HFS.out]; exact (runOf_eq _ _ _ HG.out hokf).symm
      subst he
      obtain ⟨av, capv, hve, hsl, -, -⟩ := own_at hown
      subst hve
      have HB02 := Lib.hid (bl_trans HB01.out hb2)
      have hnf : n < fs.length := by rw [hflen]; exact hnl
      clear hown hb2 hokf HFS HG HF HB01 HB H1 h1 HPL HIN HX HIB cb0 cb1 cb2 s1
      obtain ⟨b, off, rfl, hbl, hat⟩ := fas_get hsl hnf
      have r0 := hat.1
      have HTK := Lib.hid (tki_at fs n hnf)
      obtain ⟨ft, hft⟩ : ∃ ft, ft = fs[n].t := ⟨_, rfl⟩
      have HFT := Lib.hid hft
      rw [← hft] at r0 HTK
      have hnfI : (n : Int) < fs.length := by omega
      clear hft hat
      have hb20 : Below w2.heap.size w2 (w2.alloc (.cells #[] 2)) := bl_alloc (Below.refl _ _)
      have hown0 := World.ownsRow_made (e := 2) (size := 1) w2 #[] 0 (Nat.le_refl _) (by simp [maxLen]) rfl
      rcases dec_cases (ft < 0) with ⟨g3, k3⟩ | ⟨g3, k3⟩
      · have HC2 : Hid (cc = 6) := Lib.hid (by rw [HC.out, HTK.out, if_pos k3])
        have HL2 : Hid (cl = []) := Lib.hid (by rw [HL.out, HTK.out, if_pos k3])
        have hown2 := own_mono (base := w.heap.size) hown0 HB02.out.size
        clear k3
        go_wp2
        go_ret2
        exact ⟨_, by rw [HC2.out]; rfl, by rw [HL2.out]; exact hown2, bl_trans HB02.out hb20⟩
      · have HC2 : Hid (cc = 0) := Lib.hid (by rw [HC.out, HTK.out, if_neg k3])
        have HL2 : Hid (cl = (chOf fs n).reverse) := Lib.hid (by rw [HL.out, HTK.out, if_neg k3])
        have HAT : Hid (atOk fs (n : Int)) := Lib.hid (.inr ⟨n, hnf, rfl, by rw [← HFT.out]; omega⟩)
        have HRK : Hid (rkA fs (n : Int) ≤ fs.length + 1) := Lib.hid (by unfold rkA; rw [if_pos (by omega)]; have := rk_le fs (tki fs n); omega)
        have HST := Lib.hid (fun f k hk hf => chF_step fs f k hk hf)
        have HNX := Lib.hid (fun k hk ht => at_next fs HLK.out k hk ht)
        clear k3 HC HL
        obtain ⟨i0, hi0, hiz0, hiz1, hiz2⟩ := info_parts Tryz.infoInt64
        go_wp2
        go_loopw [10, 11] (fun v cx wr => ∃ (c : Int) (pre : List Int) (f : Nat), cx = .int .i64 c ∧ atOk fs c ∧ rkA fs c ≤ f ∧ pre.length + f = fs.length + 1 ∧ pre ++ chF fs f c = chOf fs n ∧ wr.ownsRow w2.heap.size 2 1 v pre.reverse.length (flat N64_cells pre.reverse) ∧ Below w2.heap.size w2 wr) (fun _ cx _ => rkA fs (intOf cx))
        case atStart => exact ⟨n, [], fs.length + 1, rfl, HAT.out, HRK.out, by simp, rfl, hown0, hb20⟩
        case round =>
          clear hown0 hb20 r0
          obtain ⟨c, pre, f, rfl, hat, hrk, hpf, hch, hown, hb⟩ := hrel
          obtain ⟨av2, capv2, hve, -, -, -⟩ := own_at hown
          subst hve
          have hzb := hb.size
          rcases hat with rfl | ⟨k, hk, rfl, hkt⟩
          · have HPRE : Hid (pre = chOf fs n) := Lib.hid (by rw [← hch, chF_neg, List.append_nil])
            have HOWN2 := own_mono (base := w.heap.size) hown HB02.out.size
            clear hown hch
            have g9 : decide ((0 : Int) ≤ -1) = false := rfl
            go_wp2
            go_ret2
            exact ⟨_, by rw [HC2.out]; rfl, by rw [HL2.out, ← HPRE.out]; exact HOWN2, bl_trans HB02.out hb⟩
          · obtain ⟨f', rfl, hst⟩ := HST.out f k hk hrk
            obtain ⟨hnx1, hnx2, -⟩ := HNX.out k hk hkt
            obtain ⟨b6, off6, he6, hbl6, hat6⟩ := fas_get hsl hk
            simp only [Option.some.injEq, Addr.mk.injEq, and_true] at he6
            obtain ⟨rfl, rfl⟩ := he6
            have r2 : wr.cell? ⟨b, off + k * 3 + 2, none⟩ = some (.int .i64 fs[k].b) := by rw [hb.cell (p := ⟨_, _, none⟩) hbl]; exact hat6.2.2
            have HCH : Hid ((pre ++ [(k : Int)]) ++ chF fs f' fs[k].b = chOf fs n) := Lib.hid (by rw [← hch, hst]; simp)
            obtain ⟨nb, hnb⟩ : ∃ nb, nb = fs[k].b := ⟨_, rfl⟩
            rw [← hnb] at r2 HCH hnx1 hnx2
            have hlen : pre.reverse.length ≤ 201 := by simp; omega
            have HRK2 : Hid (rkA fs nb ≤ f') := Lib.hid (by omega)
            have HR2 := Lib.hid hnx2
            have HAT2 := Lib.hid hnx1
            have HOWN := Lib.hid hown
            obtain ⟨m, hm⟩ : ∃ m, m = pre.reverse.length := ⟨_, rfl⟩
            have HPV : SlAt wr.heap.size wr av2 (flat N64_cells pre.reverse) := by
              obtain ⟨av3, capv3, hve3, hsl3, -, -⟩ := own_at hown
              simp only [Value.slice.injEq] at hve3
              obtain ⟨rfl, -, -⟩ := hve3
              exact hsl3
            rw [← hm] at hlen ⊢
            have HM := Lib.hid hm
            have hkI : (k : Int) < fs.length := by omega
            have HSL := Lib.hid HPV
            have g9 : decide ((0 : Int) ≤ (k : Int)) = true := decide_eq_true (by omega)
            clear hown hnb hch hst hrk hnx1 hnx2 hat6 hkt hm HPV
            have hlit := World.ownsRow_lit (base := w2.heap.size) (e := 2) (size := 1) wr #[.int .i64 (k : Int)] 1 hzb (by simp [maxLen]) rfl
            go_wp2_with (at_builtin; go_must (refine wpList_append_sl _ rfl _ _ 47 rfl w2.heap.size 2 i0 (.int .i64 0) 1 8 Tryz.underlying47 hi0 hiz0 hiz1 hiz2 rfl (by decide) _ _ _ rfl hlit av2 m capv2 (flat N64_cells pre.reverse) rfl (HSL.out.below (bl_alloc (Below.refl _ _)) (Nat.le_refl _)) (by rw [flat_length N64_len, HM.out]) (one_cells N64_one _) (by unfold maxLen; omega) (by omega) (by simp; omega) ?_); intro v3 w3 hown3 hgrow; have hb3 : Below w2.heap.size w2 w3 := (bl_alloc (o := .cells #[.int .i64 (k : Int)] 2) hb).grown hgrow (by simp; omega) (fun q hq => (hlit.lt q hq).1); have r3 : w3.cell? ⟨b, off + k * 3 + 2, none⟩ = some (.int .i64 nb) := by rw [hb3.cell (p := ⟨_, _, none⟩) hbl, ← hb.cell (p := ⟨_, _, none⟩) hbl]; exact r2)
            have hcells : [.int .i64 (k : Int)] ++ flat N64_cells pre.reverse = flat N64_cells (pre ++ [(k : Int)]).reverse := by rw [List.reverse_append, flat_append]; rfl
            have hlen9 : 1 + m = (pre ++ [(k : Int)]).reverse.length := by rw [HM.out]; simp; omega
            have hown4 : w3.ownsRow w2.heap.size 2 1 v3 (pre ++ [(k : Int)]).reverse.length (flat N64_cells (pre ++ [(k : Int)]).reverse) := by rw [← hcells, ← hlen9]; exact hown3
            go_roundw
            case rel => exact ⟨nb, pre ++ [(k : Int)], f', rfl, HAT2.out, HRK2.out, by simp; omega, HCH.out, hown4, hb3⟩
            case measure => exact HR2.out
  | false =>
    have HA : Hid (askV ⟨wd, hg, ps⟩ pl = 1) := Lib.hid (by unfold askV; rw [g1]; rfl)
    have HC : Hid (caCode ⟨wd, hg, ps⟩ pl i = 1) := Lib.hid (by unfold caCode; rw [g1]; rfl)
    have HL : Hid (caList ⟨wd, hg, ps⟩ pl i = []) := Lib.hid (by unfold caList; rw [HC.out]; rfl)
    rw [HC.out, HL.out]
    rw [HA.out] at H1
    clear g1 HC HL HA
    go_enter Tryz.func33, Tryz.ntmps33
    go_wp2_with fail
    refine H1.out.mono ?_
    rintro e w1 ⟨rfl, hb1⟩
    have hb01 := bl_trans HBA.out hb1
    have hown := World.ownsRow_made (e := 2) (size := 1) w1 #[] 0 (Nat.le_refl _) (by simp [maxLen]) rfl
    have hown2 := own_mono (base := w.heap.size) hown hb01.size
    go_wp2
    go_ret2
    exact ⟨_, rfl, hown2, bl_alloc hb01⟩
set_option maxHeartbeats 3200000 in
theorem causesOf_any (wd hg : Int) (s : Value) (ps : List Pc) (v1 : Value) (pl : List Pu) (i : Int) (w : World) (hps : PV w s ps) (hok : (Bd.mk wd hg ps).ok) (hn : ps.length ≤ 9000000) (h1 : SV Pu.cells w v1 pl) (ok1 : PusOk pl) (n1 : pl.length ≤ 9000000) :
    Calls Tryz.prog 34 #[bdv wd hg s, v1, .int .i64 i] w fun e w' => ∃ v, e = .returned (.tuple #[v, .int .i64 (caCode ⟨wd, hg, ps⟩ pl i)]) ∧ w'.ownsRow w.heap.size 2 1 v (caList ⟨wd, hg, ps⟩ pl i).length (flat N64_cells (caList ⟨wd, hg, ps⟩ pl i)) ∧ Below w.heap.size w w' := by
  have HRB := Lib.hid (fun w1 (hb : Below w.heap.size w w1) => implRunBoard_any wd hg s ps v1 pl w1 (hps.step hb) hok hn (h1.step hb) ok1 n1)
  have HB := Lib.hid (BP.new (l := ⟨wd, hg, ps⟩) (w := w) hps 34)
  obtain ⟨a, cap, rfl, -⟩ := hps
  obtain ⟨a1, cap1, rfl, -⟩ := h1
  have HBA := Lib.hid (show Below w.heap.size w (w.alloc (.cells #[.int .i8 wd, .int .i8 hg, .slice a ps.length cap] 34)) from bl_alloc (Below.refl _ _))
  cases g1 : (vBd ⟨wd, hg, ps⟩ && vPus ⟨wd, hg, ps⟩ pl) with
  | true =>
    obtain ⟨hv, hpl, hin, hn20⟩ := ask_ok _ _ g1
    have HC0 : Hid (rbCode ⟨wd, hg, ps⟩ pl = 0) := Lib.hid (by unfold rbCode; rw [g1]; rfl)
    have HL0 : Hid (rbList ⟨wd, hg, ps⟩ pl = runOf ps pl) := Lib.hid (by unfold rbList; rw [g1]; rfl)
    rw [HC0.out, HL0.out] at HRB
    have HIO := Lib.hid (fun w1 (hb : Below (w.alloc (.cells #[.int .i8 wd, .int .i8 hg, .slice a ps.length cap] 34)).heap.size (w.alloc (.cells #[.int .i8 wd, .int .i8 hg, .slice a ps.length cap] 34)) w1) => indexOk_any w.heap.size ⟨wd, hg, ps⟩ i w1 (HB.out.step hb) (show ps.length ≤ 10000000 by omega))
    cases g2 : inB i 0 ((ps.length : Int) - 1) with
    | false =>
      have HC : Hid (caCode ⟨wd, hg, ps⟩ pl i = 2) := Lib.hid (by unfold caCode; rw [g1]; show (if inB i 0 ((ps.length : Int) - 1) = true then _ else _) = _; rw [g2]; rfl)
      have HL : Hid (caList ⟨wd, hg, ps⟩ pl i = []) := Lib.hid (by unfold caList; rw [HC.out]; rfl)
      rw [HC.out, HL.out]
      have HIO2 := Lib.hid (fun w1 hb => (show inB i 0 (((⟨wd, hg, ps⟩ : Bd).ps.length : Int) - 1) = false from g2) ▸ HIO.out w1 hb)
      clear g1 HC HL g2 HC0 HL0 hpl hin HIO
      go_enter Tryz.func34, Tryz.ntmps34
      go_wp2_with fail
      refine (HRB.out _ HBA.out).mono ?_
      rintro e w2 ⟨v, rfl, hown, hb2⟩
      have hb02 := bl_trans HBA.out hb2
      have HB2 := Lib.hid hb2
      clear hown
      go_wp2_with (go_at_call 58; refine (HIO2.out _ HB2.out).mono ?_; rintro e w' ⟨rfl, rfl⟩)
      go_ret2
      exact ⟨_, rfl, World.ownsRow_nil _ _ _ _, hb02⟩
    | true =>
      obtain ⟨n, rfl, hnl⟩ := caCode_in ⟨wd, hg, ps⟩ pl i g1 g2
      have HG := Lib.hid (good_bd ⟨wd, hg, ps⟩ hv pl hpl)
      have HN := Lib.hid (runOf_len200 ⟨wd, hg, ps⟩ pl hv)
      have HLK := Lib.hid (runOf_linked ps pl HG.out)
      have HGE := Lib.hid (runOf_ge ps pl)
      have HC : Hid (caCode ⟨wd, hg, ps⟩ pl n = (if tki (runOf ps pl) n < 0 then 6 else 0)) := Lib.hid (by unfold caCode; rw [g1]; show (if inB (n : Int) 0 ((ps.length : Int) - 1) = true then _ else _) = _; rw [g2]; rfl)
      have HL : Hid (caList ⟨wd, hg, ps⟩ pl n = if tki (runOf ps pl) n < 0 then [] else (chOf (runOf ps pl) n).reverse) := Lib.hid (by
        unfold caList
        rw [HC.out]
        by_cases h : tki (runOf ps pl) n < 0
        · rw [if_pos h, if_pos h]; rfl
        · rw [if_neg h, if_neg h]; rfl)
      have HIO2 := Lib.hid (fun w1 hb => (show inB (n : Int) 0 (((⟨wd, hg, ps⟩ : Bd).ps.length : Int) - 1) = true from g2) ▸ HIO.out w1 hb)
      obtain ⟨cc, hcc⟩ : ∃ cc, cc = caCode ⟨wd, hg, ps⟩ pl n := ⟨_, rfl⟩
      obtain ⟨cl, hcl⟩ : ∃ cl, cl = caList ⟨wd, hg, ps⟩ pl n := ⟨_, rfl⟩
      rw [← hcc, ← hcl]
      rw [← hcc] at HC
      rw [← hcl] at HL
      have HRL := Lib.hid (runOf_length ps pl)
      obtain ⟨fs, hfs⟩ : ∃ fs, fs = runOf ps pl := ⟨_, rfl⟩
      have hn2 : fs.length ≤ 200 := by rw [hfs]; exact HN.out
      have hflen : fs.length = ps.length := by rw [hfs]; exact HRL.out
      rw [← hfs] at HC HL HLK HRB HGE
      clear hfs HN g1 g2 hpl hin hcc hcl HC0 HL0 HIO HRL HG
      have hnf : n < fs.length := by rw [hflen]; exact hnl
      have HFL := Lib.hid hflen
      clear hflen
      go_enter Tryz.func34, Tryz.ntmps34
      go_wp2_with fail
      refine (HRB.out _ HBA.out).mono ?_
      rintro e w2 ⟨v, rfl, hown, hb2⟩
      have HB02 := Lib.hid (bl_trans HBA.out hb2)
      have HB2 := Lib.hid hb2
      obtain ⟨av, capv, hve, hsl, -, -⟩ := own_at hown
      subst hve
      clear hown hb2 HRB HB
      obtain ⟨b, off, rfl, hbl, hat⟩ := fas_get hsl hnf
      have r0 := hat.1
      have HTK := Lib.hid (tki_at fs n hnf)
      obtain ⟨ft, hft⟩ : ∃ ft, ft = fs[n].t := ⟨_, rfl⟩
      have HFT := Lib.hid hft
      have hge : -1 ≤ ft := by rw [hft]; exact HGE.out n hnf
      rw [← hft] at r0 HTK
      have hnfI : (n : Int) < fs.length := by omega
      clear hft hat HGE
      rcases Int.decEq ft (-1) with hne | heq
      · have htc : (ft == (-1 : Int)) = false := by simpa using hne
        have k3 : ¬ ft < 0 := by omega
        have hfp : 0 ≤ ft := by omega
        have HC2 : Hid (cc = 0) := Lib.hid (by rw [HC.out, HTK.out, if_neg k3])
        have HL2 : Hid (cl = (chOf fs n).reverse) := Lib.hid (by rw [HL.out, HTK.out, if_neg k3])
        have HAT : Hid (atOk fs (n : Int)) := Lib.hid (.inr ⟨n, hnf, rfl, by rw [← HFT.out]; omega⟩)
        have HRK : Hid (rkA fs (n : Int) ≤ fs.length + 1) := Lib.hid (by unfold rkA; rw [if_pos (by omega)]; have := rk_le fs (tki fs n); omega)
        have HST := Lib.hid (fun f k hk hf => chF_step fs f k hk hf)
        have HNX := Lib.hid (fun k hk ht => at_next fs HLK.out k hk ht)
        have HNE : Hid (∃ x r, chOf fs n = x :: r) := Lib.hid (by
          obtain ⟨f', -, h⟩ := chF_step fs (fs.length + 1) n hnf HRK.out
          exact ⟨_, _, h⟩)
        clear k3 HC HL hne hge hfp
        obtain ⟨i0, hi0, hiz0, hiz1, hiz2⟩ := info_parts Tryz.infoInt64
        have hb20 : Below w2.heap.size w2 (w2.alloc (.cells #[] 2)) := bl_alloc (Below.refl _ _)
        have hown0 := World.ownsRow_made (e := 2) (size := 1) w2 #[] 0 (Nat.le_refl _) (by simp [maxLen]) rfl
        go_wp2_with (go_at_call 58; refine (HIO2.out _ HB2.out).mono ?_; rintro e w' ⟨rfl, rfl⟩)
        go_loopw [2, 10] (fun cx v wr => ∃ (c : Int) (pre : List Int) (f : Nat), cx = .int .i64 c ∧ atOk fs c ∧ rkA fs c ≤ f ∧ pre.length + f = fs.length + 1 ∧ pre ++ chF fs f c = chOf fs n ∧ wr.ownsRow w2.heap.size 2 1 v pre.length (flat N64_cells pre) ∧ Below w2.heap.size w2 wr) (fun cx _ _ => rkA fs (intOf cx))
        case atStart => exact ⟨n, [], fs.length + 1, rfl, HAT.out, HRK.out, by simp, rfl, hown0, hb20⟩
        case round =>
          clear hown0 hb20 r0
          obtain ⟨c, pre, f, rfl, hat, hrk, hpf, hch, hown, hb⟩ := hrel
          have hzb := hb.size
          rcases hat with rfl | ⟨k, hk, rfl, hkt⟩
          · have HPRE : Hid (pre = chOf fs n) := Lib.hid (by rw [← hch, chF_neg, List.append_nil])
            obtain ⟨x, r, hxr⟩ := HNE.out
            have hl1 : pre.length = r.length + 1 := by rw [HPRE.out, hxr]; rfl
            rw [hl1] at hown
            obtain ⟨gg, capg, rfl, hgg⟩ := own_some hown
            rw [← hl1] at hown ⊢
            have hln : pre.length ≤ 10000000 := by omega
            have HRV := Lib.hid (reverseI_any pre wr hown hln)
            clear hown hch hl1 hxr
            go_wp2_with fail
            refine HRV.out.mono ?_
            rintro e w5 ⟨rfl, hown5, hgr⟩
            have hb5 : Below w.heap.size w w5 := bl_grown (bl_trans HB02.out hb) hgr (fun q hq => by cases hq; have := HB02.out.size; omega)
            have hown6 := own_mono (base := w.heap.size) hown5 HB02.out.size
            go_wp2
            go_ret2
            exact ⟨_, by rw [HC2.out]; rfl, by rw [HL2.out, ← HPRE.out, List.length_reverse]; exact hown6, hb5⟩
          · obtain ⟨av2, capv2, hve, -, -, -⟩ := own_at hown
            subst hve
            obtain ⟨f', rfl, hst⟩ := HST.out f k hk hrk
            obtain ⟨hnx1, hnx2, -⟩ := HNX.out k hk hkt
            obtain ⟨b6, off6, he6, hbl6, hat6⟩ := fas_get hsl hk
            simp only [Option.some.injEq, Addr.mk.injEq, and_true] at he6
            obtain ⟨rfl, rfl⟩ := he6
            have r2 : w2.cell? ⟨b, off + k * 3 + 2, none⟩ = some (.int .i64 fs[k].b) := hat6.2.2
            have HCH : Hid ((pre ++ [(k : Int)]) ++ chF fs f' fs[k].b = chOf fs n) := Lib.hid (by rw [← hch, hst]; simp)
            obtain ⟨nb, hnb⟩ : ∃ nb, nb = fs[k].b := ⟨_, rfl⟩
            rw [← hnb] at r2 HCH hnx1 hnx2
            have hlen : pre.length ≤ 201 := by omega
            have HRK2 : Hid (rkA fs nb ≤ f') := Lib.hid (by omega)
            have HR2 := Lib.hid hnx2
            have HAT2 := Lib.hid hnx1
            have HOWN := Lib.hid hown
            obtain ⟨m, hm⟩ : ∃ m, m = pre.length := ⟨_, rfl⟩
            rw [← hm] at hlen HOWN ⊢
            have HM := Lib.hid hm
            have HPF := Lib.hid hpf
            have hkI : (k : Int) < fs.length := by omega
            have g9 : ((k : Int) != -1) = true := by simp
            clear hown hnb hch hst hrk hnx1 hnx2 hat6 hkt hm hpf
            go_wp2_with (at_builtin; go_must (refine wpList_append_sl _ rfl _ _ 47 rfl w2.heap.size 2 i0 (.int .i64 0) 1 8 Tryz.underlying47 hi0 hiz0 hiz1 hiz2 rfl (by decide) _ _ _ rfl (own_below HOWN.out (bl_alloc (Below.refl _ _)) (Nat.le_refl _)) (some ⟨wr.heap.size, 0, none⟩) 1 1 [.int .i64 (k : Int)] rfl (sl_newC wr #[.int .i64 (k : Int)] 2 _ rfl) rfl (by intro u hu; rw [List.mem_singleton] at hu; subst hu; rfl) (by unfold maxLen; omega) (by omega) (by simp; omega) ?_); intro v3 w3 hown3 hgrow; have hb3 : Below w2.heap.size w2 w3 := (bl_alloc (o := .cells #[.int .i64 (k : Int)] 2) hb).grown hgrow (by simp; omega) (fun q hq => (HOWN.out.lt q hq).1); have r3 : w3.cell? ⟨b, off + k * 3 + 2, none⟩ = some (.int .i64 nb) := by rw [hb3.cell (p := ⟨_, _, none⟩) hbl]; exact r2)
            have hcells : flat N64_cells pre ++ [.int .i64 (k : Int)] = flat N64_cells (pre ++ [(k : Int)]) := by rw [flat_append]; rfl
            have hlen9 : m + 1 = (pre ++ [(k : Int)]).length := by rw [HM.out]; simp
            have hown4 : w3.ownsRow w2.heap.size 2 1 v3 (pre ++ [(k : Int)]).length (flat N64_cells (pre ++ [(k : Int)])) := by rw [← hcells, ← hlen9]; exact hown3
            go_roundw
            case rel => exact ⟨nb, pre ++ [(k : Int)], f', rfl, HAT2.out, HRK2.out, by have := HPF.out; simp; omega, HCH.out, hown4, hb3⟩
            case measure => exact HR2.out
      · have htc : (ft == (-1 : Int)) = true := by simpa using heq
        have k3 : ft < 0 := by omega
        have HC2 : Hid (cc = 6) := Lib.hid (by rw [HC.out, HTK.out, if_pos k3])
        have HL2 : Hid (cl = []) := Lib.hid (by rw [HL.out, HTK.out, if_pos k3])
        clear k3 heq hge
        go_wp2_with (go_at_call 58; refine (HIO2.out _ HB2.out).mono ?_; rintro e w' ⟨rfl, rfl⟩)
        go_ret2
        exact ⟨_, by rw [HC2.out]; rfl, by rw [HL2.out]; exact World.ownsRow_nil _ _ _ _, HB02.out⟩
  | false =>
    have HC0 : Hid (rbCode ⟨wd, hg, ps⟩ pl = 1) := Lib.hid (by unfold rbCode; rw [g1]; rfl)
    have HC : Hid (caCode ⟨wd, hg, ps⟩ pl i = 1) := Lib.hid (by unfold caCode; rw [g1]; rfl)
    have HL : Hid (caList ⟨wd, hg, ps⟩ pl i = []) := Lib.hid (by unfold caList; rw [HC.out]; rfl)
    rw [HC.out, HL.out]
    rw [HC0.out] at HRB
    clear g1 HC HL HC0
    go_enter Tryz.func34, Tryz.ntmps34
    go_wp2_with fail
    refine (HRB.out _ HBA.out).mono ?_
    rintro e w2 ⟨v, rfl, hown, hb2⟩
    have hb02 := bl_trans HBA.out hb2
    go_wp2
    go_ret2
    exact ⟨_, rfl, World.ownsRow_nil _ _ _ _, hb02⟩
end Go.Proofs.YtepekboechmngaaGreat
/- The walks of the laws FnExactFallOrder, FnExactCausesOf. -/
namespace Go.Proofs.YtepekboechmngaaGreat
open Go.RowKit
set_option linter.unusedVariables false
set_option linter.unusedSimpArgs false
set_option maxHeartbeats 400000
set_option maxRecDepth 100000
set_option maxRecDepth 100000 in
theorem lawFallOrder_any (wd hg : Int) (a : Option Addr) (cap : Nat) (ps : List Pc) (a1 : Option Addr) (cap1 : Nat) (pl : List Pu) (w : World) (hps : PcsAt w.heap.size w a ps) (hok : (Bd.mk wd hg ps).ok) (hl : ps.length ≤ 9223372036854775807)
    (h1 : SlAt w.heap.size w a1 (flat Pu.cells pl)) (ok1 : PusOk pl) (hl1 : pl.length ≤ 9223372036854775807) :
    Calls Tryz.prog 7 #[bdv wd hg (.slice a ps.length cap), .slice a1 pl.length cap1] w fun e w' => e = .returned (.bool true) ∧ Below w.heap.size w w' := by
  by_cases hn : ps.length ≤ 1048576
  · have Hs := Lib.hid (show szv ps.length 1048576 = 1048576 - ps.length by unfold szv; rw [if_neg (by omega)])
    by_cases hn1 : ps.length + pl.length ≤ 1048576
    · have Hs1 := Lib.hid (show szv pl.length (1048576 - ps.length) = 1048576 - ps.length - pl.length by unfold szv; rw [if_neg (by omega)])
      have P0 : PV w (.slice a ps.length cap) ps := ⟨a, cap, rfl, hps⟩
      have Q0 : RV Pu.cells w (.slice a1 pl.length cap1) pl := ⟨a1, cap1, rfl, h1⟩
      have X0 := BX3.new w (.int .i8 wd) (.int .i8 hg) (.slice a ps.length cap) 25
      have hln0 := foList_len ⟨wd, hg, ps⟩ pl
      have hln : (foList ⟨wd, hg, ps⟩ pl).length ≤ 1048577 := by first | exact Nat.le_trans hln0 (Nat.le_succ_of_le hn) | exact Nat.le_trans hln0 (Nat.succ_le_succ hn)
      obtain ⟨rv, hrv⟩ : ∃ rv, rv = foList ⟨wd, hg, ps⟩ pl := ⟨_, rfl⟩
      obtain ⟨rc, hrc⟩ : ∃ rc, rc = rbCode ⟨wd, hg, ps⟩ pl := ⟨_, rfl⟩
      have CS := fun s va w' (h : PV w' s ps) (h1 : SV Pu.cells w' va pl) => specFallOrder_any wd hg s ps va pl w' h hok (by omega) h1 ok1 (by omega)
      have CI := fun s va w' (h : PV w' s ps) (h1 : SV Pu.cells w' va pl) => fallOrder_any wd hg s ps va pl w' h hok (by omega) h1 ok1 (by omega)
      rw [← hrv, ← hrc] at CS CI
      rw [← hrv] at hln
      clear hln0
      have CS := Lib.hid CS
      have CI := Lib.hid CI
      clear hrv hrc h1 hps
      go_enter Tryz.func7, Tryz.ntmps7
      go_wp2_with fail
      refine (szBoard_any wd hg a ps.length cap _ _ (by omega) (by omega) (by omega)).mono ?_
      rintro e u ⟨rfl, bu⟩
      rw [Hs.out]
      have A0 := (P0.step (bl_alloc (Below.refl _ _))).step bu
      have A1 := (Q0.step (bl_alloc (Below.refl _ _))).step bu
      have AX := X0.step bu
      have bu0 : Below w.heap.size w u := bl_trans (bl_alloc (Below.refl _ _)) bu
      go_wp2_with fail
      refine (szPushS_any a1 pl.length cap1 _ _ (by omega) (by omega) (by omega)).mono ?_
      rintro e w' ⟨rfl, rfl⟩
      rw [Hs1.out]
      go_wp2_with fail
      refine (toBoard_pv (b := ⟨wd, hg, ps⟩) ⟨_, rfl, A0⟩ (by simp; omega)).mono ?_
      rintro e w1 ⟨vm, rfl, Om1, b1⟩
      have AP1 := A0.step b1
      have AQ1 := A1.step b1
      have AX1 := AX.step b1
      have B1 := b1
      obtain ⟨am, capm, rfl, -⟩ := own_at Om1
      go_wp2_with fail
      refine (toPushS_rv AQ1 (by omega)).mono ?_
      rintro e w2 ⟨vmp, rfl, Omp2, b2⟩
      have AP2 := AP1.step b2
      have AQ2 := AQ1.step b2
      have AX2 := AX1.step b2
      have Nmmp := own_apart Om1 Omp2 (by first | exact Nat.le_refl _ | simp)
      have Nmpm := own_apart' Om1 Omp2 (by first | exact Nat.le_refl _ | simp)
      have Om2 := own_below Om1 b2 (Nat.le_refl _)
      have B2 := bl_trans B1 b2
      obtain ⟨amp, capmp, rfl, -⟩ := own_at Omp2
      go_wp2_with fail
      refine (CS.out _ _ _ (own_pv Om2) (own_rv Omp2)).mono ?_
      rintro e w3 ⟨vw, rfl, Ow3, b3⟩
      have AP3 := AP2.step b3
      have AQ3 := AQ2.step b3
      have AX3 := AX2.step b3
      have Nmw := own_apart Om2 Ow3 (by first | exact Nat.le_refl _ | simp)
      have Nwm := own_apart' Om2 Ow3 (by first | exact Nat.le_refl _ | simp)
      have Nmpw := own_apart Omp2 Ow3 (by first | exact Nat.le_refl _ | simp)
      have Nwmp := own_apart' Omp2 Ow3 (by first | exact Nat.le_refl _ | simp)
      have Om3 := own_below Om2 b3 (Nat.le_refl _)
      have Omp3 := own_below Omp2 b3 (Nat.le_refl _)
      have B3 := bl_trans B2 b3
      go_wp2_with fail
      refine (toBoard_pv (b := ⟨wd, hg, ps⟩) ⟨_, rfl, AP3⟩ (by simp; omega)).mono ?_
      rintro e w4 ⟨vx, rfl, Ox4, b4⟩
      have AP4 := AP3.step b4
      have AQ4 := AQ3.step b4
      have AX4 := AX3.step b4
      have Nwx := own_apart Ow3 Ox4 (by first | exact Nat.le_refl _ | simp)
      have Nxw := own_apart' Ow3 Ox4 (by first | exact Nat.le_refl _ | simp)
      have Ow4 := own_below Ow3 b4 (Nat.le_refl _)
      have B4 := bl_trans B3 b4
      obtain ⟨ax, capx, rfl, -⟩ := own_at Ox4
      go_wp2_with fail
      refine (toPushS_rv (AQ4.step (bl_alloc (Below.refl _ _))) (by omega)).mono ?_
      rintro e w5 ⟨vy, rfl, Oy5, c5⟩
      have b5 := bl_trans (bl_alloc (o := .cells #[.int .i8 wd, .int .i8 hg, .slice ax ps.length capx] 34) (Below.refl w4.heap.size w4)) c5
      have AY5 := (BX3.new w4 (.int .i8 wd) (.int .i8 hg) (.slice ax ps.length capx) 34).step c5
      have AP5 := AP4.step b5
      have AQ5 := AQ4.step b5
      have AX5 := AX4.step b5
      have Nwy := own_apart Ow4 Oy5 (by first | exact Nat.le_refl _ | simp)
      have Nyw := own_apart' Ow4 Oy5 (by first | exact Nat.le_refl _ | simp)
      have Nxy := own_apart Ox4 Oy5 (by first | exact Nat.le_refl _ | simp)
      have Nyx := own_apart' Ox4 Oy5 (by first | exact Nat.le_refl _ | simp)
      have Ow5 := own_below Ow4 b5 (Nat.le_refl _)
      have Ox5 := own_below Ox4 b5 (Nat.le_refl _)
      have B5 := bl_trans B4 b5
      obtain ⟨ay, capy, rfl, -⟩ := own_at Oy5
      go_wp2_with fail
      refine (CI.out _ _ _ (own_pv Ox5) (own_rv Oy5)).mono ?_
      rintro e w6 ⟨vg, rfl, Og6, b6⟩
      have AP6 := AP5.step b6
      have AQ6 := AQ5.step b6
      have AX6 := AX5.step b6
      have AY6 := AY5.step b6
      have Nwg := own_apart Ow5 Og6 (by first | exact Nat.le_refl _ | simp)
      have Ngw := own_apart' Ow5 Og6 (by first | exact Nat.le_refl _ | simp)
      have Nxg := own_apart Ox5 Og6 (by first | exact Nat.le_refl _ | simp)
      have Ngx := own_apart' Ox5 Og6 (by first | exact Nat.le_refl _ | simp)
      have Nyg := own_apart Oy5 Og6 (by first | exact Nat.le_refl _ | simp)
      have Ngy := own_apart' Oy5 Og6 (by first | exact Nat.le_refl _ | simp)
      have Ow6 := own_below Ow5 b6 (Nat.le_refl _)
      have Ox6 := own_below Ox5 b6 (Nat.le_refl _)
      have Oy6 := own_below Oy5 b6 (Nat.le_refl _)
      have B6 := bl_trans B5 b6
      go_wp2_with fail
      refine (eqInt64S_yes (own_rv Og6) (own_rv Ow6) (by omega)).mono ?_
      rintro e w7 ⟨rfl, b7⟩
      have AP7 := AP6.step b7
      have AQ7 := AQ6.step b7
      have AX7 := AX6.step b7
      have AY7 := AY6.step b7
      have Ow7 := own_below Ow6 b7 (Nat.le_refl _)
      have Ox7 := own_below Ox6 b7 (Nat.le_refl _)
      have Oy7 := own_below Oy6 b7 (Nat.le_refl _)
      have Og7 := own_below Og6 b7 (Nat.le_refl _)
      have B7 := bl_trans B6 b7
      go_upto_region 14 with fail
      have CK := Lib.hid (fun w' (h : Below w7.heap.size w7 w') => toBoard_pv (b := ⟨wd, hg, ps⟩) (w := w') ⟨_, rfl, AP7.step h⟩ (by simp; omega))
      have CL := Lib.hid (fun w' s' (h : Below w7.heap.size w7 w') (h' : PV w' s' ps) => eqBoard_yes (b := ⟨wd, hg, ps⟩) (w := w') ⟨_, rfl, (own_pv Ox7).step h⟩ ⟨s', rfl, h'⟩ (by simp; omega))
      go_region_held3 (fun w' => Below w7.heap.size w7 w' ∧ ∀ b o, b < w7.heap.size → w'.cell? ⟨b, o, none⟩ = w7.cell? ⟨b, o, none⟩) ((refine ext_s ?_; exact (by repeat (first | with_reducible exact Below.refl _ _ | with_reducible assumption | with_reducible apply bl_drewN | with_reducible apply bl_drew | with_reducible apply bl_alloc | (with_reducible refine bl_set ?_ (by first | (simp; done) | (simp; omega)) _) | with_reducible refine bl_trans ?_ (by with_reducible assumption))))) (first | (go_at_call 12; refine (CK.out _ ?_).mono ?_; (exact (by repeat (first | with_reducible exact Below.refl _ _ | with_reducible assumption | with_reducible apply bl_drewN | with_reducible apply bl_drew | with_reducible apply bl_alloc | (with_reducible refine bl_set ?_ (by first | (simp; done) | (simp; omega)) _) | with_reducible refine bl_trans ?_ (by with_reducible assumption)))); rintro e wa ⟨sa, rfl, Oa, ba⟩; obtain ⟨hca, hfa⟩ := bcell ba) | (go_at_call 16; refine (CL.out _ _ ?_ (own_pv Oa)).mono ?_; (exact (by repeat (first | with_reducible exact Below.refl _ _ | with_reducible assumption | with_reducible apply bl_drewN | with_reducible apply bl_drew | with_reducible apply bl_alloc | (with_reducible refine bl_set ?_ (by first | (simp; done) | (simp; omega)) _) | with_reducible refine bl_trans ?_ (by with_reducible assumption)))); rintro e w8 ⟨rfl, be⟩))
      have b8 : Below w7.heap.size w7 w8 := (by repeat (first | with_reducible exact Below.refl _ _ | with_reducible assumption | with_reducible apply bl_drewN | with_reducible apply bl_drew | with_reducible apply bl_alloc | (with_reducible refine bl_set ?_ (by first | (simp; done) | (simp; omega)) _) | with_reducible refine bl_trans ?_ (by with_reducible assumption)))
      clear CK CL
      have AP8 := AP7.step b8
      have AQ8 := AQ7.step b8
      have AX8 := AX7.step b8
      have AY8 := AY7.step b8
      have Ow8 := own_below Ow7 b8 (Nat.le_refl _)
      have Ox8 := own_below Ox7 b8 (Nat.le_refl _)
      have Oy8 := own_below Oy7 b8 (Nat.le_refl _)
      have Og8 := own_below Og7 b8 (Nat.le_refl _)
      have B8 := bl_trans B7 b8
      go_wp2_with fail
      refine (toPushS_rv AQ8 (by omega)).mono ?_
      rintro e w9 ⟨vp, rfl, Op9, b9⟩
      have AP9 := AP8.step b9
      have AQ9 := AQ8.step b9
      have AX9 := AX8.step b9
      have AY9 := AY8.step b9
      have Nwp := own_apart Ow8 Op9 (by first | exact Nat.le_refl _ | simp)
      have Npw := own_apart' Ow8 Op9 (by first | exact Nat.le_refl _ | simp)
      have Nxp := own_apart Ox8 Op9 (by first | exact Nat.le_refl _ | simp)
      have Npx := own_apart' Ox8 Op9 (by first | exact Nat.le_refl _ | simp)
      have Nyp := own_apart Oy8 Op9 (by first | exact Nat.le_refl _ | simp)
      have Npy := own_apart' Oy8 Op9 (by first | exact Nat.le_refl _ | simp)
      have Ngp := own_apart Og8 Op9 (by first | exact Nat.le_refl _ | simp)
      have Npg := own_apart' Og8 Op9 (by first | exact Nat.le_refl _ | simp)
      have Ow9 := own_below Ow8 b9 (Nat.le_refl _)
      have Ox9 := own_below Ox8 b9 (Nat.le_refl _)
      have Oy9 := own_below Oy8 b9 (Nat.le_refl _)
      have Og9 := own_below Og8 b9 (Nat.le_refl _)
      have B9 := bl_trans B8 b9
      obtain ⟨ap, capp, rfl, -⟩ := own_at Op9
      go_wp2_with fail
      refine (eqPushS_yes (own_rv Oy9) (own_rv Op9) (by omega)).mono ?_
      rintro e w10 ⟨rfl, b10⟩
      have AP10 := AP9.step b10
      have AQ10 := AQ9.step b10
      have AX10 := AX9.step b10
      have AY10 := AY9.step b10
      have Ow10 := own_below Ow9 b10 (Nat.le_refl _)
      have Ox10 := own_below Ox9 b10 (Nat.le_refl _)
      have Oy10 := own_below Oy9 b10 (Nat.le_refl _)
      have Og10 := own_below Og9 b10 (Nat.le_refl _)
      have Op10 := own_below Op9 b10 (Nat.le_refl _)
      have B10 := bl_trans B9 b10
      go_wp2_with fail
      refine (markBoard_any 1 _ Ox10 (by omega) (by omega) (by omega)).mono ?_
      rintro e w11 ⟨rfl, Mx11, g11⟩
      have Ow11 := own_kept Ow10 g11 Nwx
      have Oy11 := own_kept Oy10 g11 Nyx
      have Og11 := own_kept Og10 g11 Ngx
      have B11 := bl_grown B10 g11 (fun k hk => by have h1 := B3.size; have h2 := (Ox10.lt k hk).1; (try simp only [World.size_alloc] at h2); omega)
      have AP11 := A0.step B11
      have AQ11 := A1.step B11
      have AX11 := AX.step B11
      go_wp2_with fail
      refine (markPushS_any _ _ Oy11 (by omega) (by omega) (by omega)).mono ?_
      rintro e w12 ⟨rfl, My12, g12⟩
      have Ow12 := own_kept Ow11 g12 Nwy
      have Og12 := own_kept Og11 g12 Ngy
      have B12 := bl_grown B11 g12 (fun k hk => by have h1 := B4.size; have h2 := (Oy11.lt k hk).1; (try simp only [World.size_alloc] at h2); omega)
      have AP12 := A0.step B12
      have AQ12 := A1.step B12
      have AX12 := AX.step B12
      go_wp2_with fail
      refine (eqInt64S_yes (own_rv Og12) (own_rv Ow12) (by omega)).mono ?_
      rintro e w13 ⟨rfl, b13⟩
      have AP13 := AP12.step b13
      have AQ13 := AQ12.step b13
      have AX13 := AX12.step b13
      have Ow13 := own_below Ow12 b13 (Nat.le_refl _)
      have Og13 := own_below Og12 b13 (Nat.le_refl _)
      have B13 := bl_trans B12 b13
      go_wp2_with fail
      refine (markInt64S_any 1 _ Og13 (by omega) (by omega) (by omega)).mono ?_
      rintro e w14 ⟨rfl, Mg14, g14⟩
      have Ow14 := own_kept Ow13 g14 Nwg
      have B14 := bl_grown B13 g14 (fun k hk => by have h1 := B5.size; have h2 := (Og13.lt k hk).1; (try simp only [World.size_alloc] at h2); omega)
      have AP14 := A0.step B14
      have AQ14 := A1.step B14
      have AX14 := AX.step B14
      go_wp2_with fail
      refine (heldInt64S_own 1 Mg14 (by omega) (by omega) (by omega)).mono ?_
      rintro e w' ⟨rfl, rfl⟩
      go_wp2_with fail
      refine (toBoard_pv (b := ⟨wd, hg, ps⟩) ⟨_, rfl, AP14⟩ (by simp; omega)).mono ?_
      rintro e w15 ⟨vz, rfl, Oz15, b15⟩
      have AP15 := AP14.step b15
      have AQ15 := AQ14.step b15
      have AX15 := AX14.step b15
      have Nwz := own_apart Ow14 Oz15 (by first | exact Nat.le_refl _ | simp)
      have Nzw := own_apart' Ow14 Oz15 (by first | exact Nat.le_refl _ | simp)
      have Ngz := own_apart Mg14 Oz15 (by first | exact Nat.le_refl _ | simp)
      have Nzg := own_apart' Mg14 Oz15 (by first | exact Nat.le_refl _ | simp)
      have Ow15 := own_below Ow14 b15 (Nat.le_refl _)
      have Og15 := own_below Mg14 b15 (Nat.le_refl _)
      have B15 := bl_trans B14 b15
      obtain ⟨az, capz, rfl, -⟩ := own_at Oz15
      go_wp2_with fail
      refine (toPushS_rv AQ15 (by omega)).mono ?_
      rintro e w16 ⟨vzp, rfl, Ozp16, b16⟩
      have AP16 := AP15.step b16
      have AQ16 := AQ15.step b16
      have AX16 := AX15.step b16
      have Nwzp := own_apart Ow15 Ozp16 (by first | exact Nat.le_refl _ | simp)
      have Nzpw := own_apart' Ow15 Ozp16 (by first | exact Nat.le_refl _ | simp)
      have Ngzp := own_apart Og15 Ozp16 (by first | exact Nat.le_refl _ | simp)
      have Nzpg := own_apart' Og15 Ozp16 (by first | exact Nat.le_refl _ | simp)
      have Nzzp := own_apart Oz15 Ozp16 (by first | exact Nat.le_refl _ | simp)
      have Nzpz := own_apart' Oz15 Ozp16 (by first | exact Nat.le_refl _ | simp)
      have Ow16 := own_below Ow15 b16 (Nat.le_refl _)
      have Og16 := own_below Og15 b16 (Nat.le_refl _)
      have Oz16 := own_below Oz15 b16 (Nat.le_refl _)
      have B16 := bl_trans B15 b16
      obtain ⟨azp, capzp, rfl, -⟩ := own_at Ozp16
      go_wp2_with fail
      refine (CI.out _ _ _ (own_pv Oz16) (own_rv Ozp16)).mono ?_
      rintro e w17 ⟨vh, rfl, Oh17, b17⟩
      have AP17 := AP16.step b17
      have AQ17 := AQ16.step b17
      have AX17 := AX16.step b17
      have Nwh := own_apart Ow16 Oh17 (by first | exact Nat.le_refl _ | simp)
      have Nhw := own_apart' Ow16 Oh17 (by first | exact Nat.le_refl _ | simp)
      have Ngh := own_apart Og16 Oh17 (by first | exact Nat.le_refl _ | simp)
      have Nhg := own_apart' Og16 Oh17 (by first | exact Nat.le_refl _ | simp)
      have Nzh := own_apart Oz16 Oh17 (by first | exact Nat.le_refl _ | simp)
      have Nhz := own_apart' Oz16 Oh17 (by first | exact Nat.le_refl _ | simp)
      have Nzph := own_apart Ozp16 Oh17 (by first | exact Nat.le_refl _ | simp)
      have Nhzp := own_apart' Ozp16 Oh17 (by first | exact Nat.le_refl _ | simp)
      have Ow17 := own_below Ow16 b17 (Nat.le_refl _)
      have Og17 := own_below Og16 b17 (Nat.le_refl _)
      have Oz17 := own_below Oz16 b17 (Nat.le_refl _)
      have Ozp17 := own_below Ozp16 b17 (Nat.le_refl _)
      have B17 := bl_trans B16 b17
      go_wp2_with fail
      refine (eqInt64S_yes (own_rv Oh17) (own_rv Ow17) (by omega)).mono ?_
      rintro e w18 ⟨rfl, b18⟩
      have AP18 := AP17.step b18
      have AQ18 := AQ17.step b18
      have AX18 := AX17.step b18
      have Ow18 := own_below Ow17 b18 (Nat.le_refl _)
      have Og18 := own_below Og17 b18 (Nat.le_refl _)
      have Oz18 := own_below Oz17 b18 (Nat.le_refl _)
      have Ozp18 := own_below Ozp17 b18 (Nat.le_refl _)
      have Oh18 := own_below Oh17 b18 (Nat.le_refl _)
      have B18 := bl_trans B17 b18
      go_wp2_with fail
      refine (heldInt64S_own 1 Og18 (by omega) (by omega) (by omega)).mono ?_
      rintro e w' ⟨rfl, rfl⟩
      go_wp2
      go_ret
      exact ⟨rfl, bl_trans bu0 B18⟩
    · have Hs1 := Lib.hid (show szv pl.length (1048576 - ps.length) = -1 by unfold szv; rw [if_pos (by omega)])
      go_enter Tryz.func7, Tryz.ntmps7
      go_wp2_with fail
      refine (szBoard_any wd hg a ps.length cap _ _ (by omega) (by omega) (by omega)).mono ?_
      rintro e u ⟨rfl, bu⟩
      rw [Hs.out]
      have bu0 : Below w.heap.size w u := bl_trans (bl_alloc (Below.refl _ _)) bu
      go_wp2_with fail
      refine (szPushS_any a1 pl.length cap1 _ _ (by omega) (by omega) (by omega)).mono ?_
      rintro e w' ⟨rfl, rfl⟩
      rw [Hs1.out]
      go_wp2
      go_ret
      exact ⟨rfl, bu0⟩
  · have Hs := Lib.hid (show szv ps.length 1048576 = -1 by unfold szv; rw [if_pos (by omega)])
    go_enter Tryz.func7, Tryz.ntmps7
    go_wp2_with fail
    refine (szBoard_any wd hg a ps.length cap _ _ (by omega) (by omega) (by omega)).mono ?_
    rintro e u ⟨rfl, bu⟩
    rw [Hs.out]
    have bu0 : Below w.heap.size w u := bl_trans (bl_alloc (Below.refl _ _)) bu
    go_wp2
    go_ret
    exact ⟨rfl, bu0⟩
set_option maxRecDepth 100000 in
theorem lawCausesOf_any (wd hg : Int) (a : Option Addr) (cap : Nat) (ps : List Pc) (a1 : Option Addr) (cap1 : Nat) (pl : List Pu) (i : Int) (w : World) (hps : PcsAt w.heap.size w a ps) (hok : (Bd.mk wd hg ps).ok) (hl : ps.length ≤ 9223372036854775807)
    (h1 : SlAt w.heap.size w a1 (flat Pu.cells pl)) (ok1 : PusOk pl) (hl1 : pl.length ≤ 9223372036854775807) :
    Calls Tryz.prog 8 #[bdv wd hg (.slice a ps.length cap), .slice a1 pl.length cap1, .int .i64 i] w fun e w' => e = .returned (.bool true) ∧ Below w.heap.size w w' := by
  by_cases hn : ps.length ≤ 1048576
  · have Hs := Lib.hid (show szv ps.length 1048576 = 1048576 - ps.length by unfold szv; rw [if_neg (by omega)])
    by_cases hn1 : ps.length + pl.length ≤ 1048576
    · have Hs1 := Lib.hid (show szv pl.length (1048576 - ps.length) = 1048576 - ps.length - pl.length by unfold szv; rw [if_neg (by omega)])
      have P0 : PV w (.slice a ps.length cap) ps := ⟨a, cap, rfl, hps⟩
      have Q0 : RV Pu.cells w (.slice a1 pl.length cap1) pl := ⟨a1, cap1, rfl, h1⟩
      have X0 := BX3.new w (.int .i8 wd) (.int .i8 hg) (.slice a ps.length cap) 25
      have hln0 := caList_len ⟨wd, hg, ps⟩ pl i
      have hln : (caList ⟨wd, hg, ps⟩ pl i).length ≤ 1048577 := by first | exact Nat.le_trans hln0 (Nat.le_succ_of_le hn) | exact Nat.le_trans hln0 (Nat.succ_le_succ hn)
      obtain ⟨rv, hrv⟩ : ∃ rv, rv = caList ⟨wd, hg, ps⟩ pl i := ⟨_, rfl⟩
      obtain ⟨rc, hrc⟩ : ∃ rc, rc = caCode ⟨wd, hg, ps⟩ pl i := ⟨_, rfl⟩
      have CS := fun s va w' (h : PV w' s ps) (h1 : SV Pu.cells w' va pl) => specCausesOf_any wd hg s ps va pl i w' h hok (by omega) h1 ok1 (by omega)
      have CI := fun s va w' (h : PV w' s ps) (h1 : SV Pu.cells w' va pl) => causesOf_any wd hg s ps va pl i w' h hok (by omega) h1 ok1 (by omega)
      rw [← hrv, ← hrc] at CS CI
      rw [← hrv] at hln
      clear hln0
      have CS := Lib.hid CS
      have CI := Lib.hid CI
      clear hrv hrc h1 hps
      go_enter Tryz.func8, Tryz.ntmps8
      go_wp2_with fail
      refine (szBoard_any wd hg a ps.length cap _ _ (by omega) (by omega) (by omega)).mono ?_
      rintro e u ⟨rfl, bu⟩
      rw [Hs.out]
      have A0 := (P0.step (bl_alloc (Below.refl _ _))).step bu
      have A1 := (Q0.step (bl_alloc (Below.refl _ _))).step bu
      have AX := X0.step bu
      have bu0 : Below w.heap.size w u := bl_trans (bl_alloc (Below.refl _ _)) bu
      go_wp2_with fail
      refine (szPushS_any a1 pl.length cap1 _ _ (by omega) (by omega) (by omega)).mono ?_
      rintro e w' ⟨rfl, rfl⟩
      rw [Hs1.out]
      go_wp2_with fail
      refine (toBoard_pv (b := ⟨wd, hg, ps⟩) ⟨_, rfl, A0⟩ (by simp; omega)).mono ?_
      rintro e w1 ⟨vm, rfl, Om1, b1⟩
      have AP1 := A0.step b1
      have AQ1 := A1.step b1
      have AX1 := AX.step b1
      have B1 := b1
      obtain ⟨am, capm, rfl, -⟩ := own_at Om1
      go_wp2_with fail
      refine (toPushS_rv AQ1 (by omega)).mono ?_
      rintro e w2 ⟨vmp, rfl, Omp2, b2⟩
      have AP2 := AP1.step b2
      have AQ2 := AQ1.step b2
      have AX2 := AX1.step b2
      have Nmmp := own_apart Om1 Omp2 (by first | exact Nat.le_refl _ | simp)
      have Nmpm := own_apart' Om1 Omp2 (by first | exact Nat.le_refl _ | simp)
      have Om2 := own_below Om1 b2 (Nat.le_refl _)
      have B2 := bl_trans B1 b2
      obtain ⟨amp, capmp, rfl, -⟩ := own_at Omp2
      go_wp2_with fail
      refine (CS.out _ _ _ (own_pv Om2) (own_rv Omp2)).mono ?_
      rintro e w3 ⟨vw, rfl, Ow3, b3⟩
      have AP3 := AP2.step b3
      have AQ3 := AQ2.step b3
      have AX3 := AX2.step b3
      have Nmw := own_apart Om2 Ow3 (by first | exact Nat.le_refl _ | simp)
      have Nwm := own_apart' Om2 Ow3 (by first | exact Nat.le_refl _ | simp)
      have Nmpw := own_apart Omp2 Ow3 (by first | exact Nat.le_refl _ | simp)
      have Nwmp := own_apart' Omp2 Ow3 (by first | exact Nat.le_refl _ | simp)
      have Om3 := own_below Om2 b3 (Nat.le_refl _)
      have Omp3 := own_below Omp2 b3 (Nat.le_refl _)
      have B3 := bl_trans B2 b3
      go_wp2_with fail
      refine (toBoard_pv (b := ⟨wd, hg, ps⟩) ⟨_, rfl, AP3⟩ (by simp; omega)).mono ?_
      rintro e w4 ⟨vx, rfl, Ox4, b4⟩
      have AP4 := AP3.step b4
      have AQ4 := AQ3.step b4
      have AX4 := AX3.step b4
      have Nwx := own_apart Ow3 Ox4 (by first | exact Nat.le_refl _ | simp)
      have Nxw := own_apart' Ow3 Ox4 (by first | exact Nat.le_refl _ | simp)
      have Ow4 := own_below Ow3 b4 (Nat.le_refl _)
      have B4 := bl_trans B3 b4
      obtain ⟨ax, capx, rfl, -⟩ := own_at Ox4
      go_wp2_with fail
      refine (toPushS_rv (AQ4.step (bl_alloc (Below.refl _ _))) (by omega)).mono ?_
      rintro e w5 ⟨vy, rfl, Oy5, c5⟩
      have b5 := bl_trans (bl_alloc (o := .cells #[.int .i8 wd, .int .i8 hg, .slice ax ps.length capx] 34) (Below.refl w4.heap.size w4)) c5
      have AY5 := (BX3.new w4 (.int .i8 wd) (.int .i8 hg) (.slice ax ps.length capx) 34).step c5
      have AP5 := AP4.step b5
      have AQ5 := AQ4.step b5
      have AX5 := AX4.step b5
      have Nwy := own_apart Ow4 Oy5 (by first | exact Nat.le_refl _ | simp)
      have Nyw := own_apart' Ow4 Oy5 (by first | exact Nat.le_refl _ | simp)
      have Nxy := own_apart Ox4 Oy5 (by first | exact Nat.le_refl _ | simp)
      have Nyx := own_apart' Ox4 Oy5 (by first | exact Nat.le_refl _ | simp)
      have Ow5 := own_below Ow4 b5 (Nat.le_refl _)
      have Ox5 := own_below Ox4 b5 (Nat.le_refl _)
      have B5 := bl_trans B4 b5
      obtain ⟨ay, capy, rfl, -⟩ := own_at Oy5
      go_wp2_with fail
      refine (CI.out _ _ _ (own_pv Ox5) (own_rv Oy5)).mono ?_
      rintro e w6 ⟨vg, rfl, Og6, b6⟩
      have AP6 := AP5.step b6
      have AQ6 := AQ5.step b6
      have AX6 := AX5.step b6
      have AY6 := AY5.step b6
      have Nwg := own_apart Ow5 Og6 (by first | exact Nat.le_refl _ | simp)
      have Ngw := own_apart' Ow5 Og6 (by first | exact Nat.le_refl _ | simp)
      have Nxg := own_apart Ox5 Og6 (by first | exact Nat.le_refl _ | simp)
      have Ngx := own_apart' Ox5 Og6 (by first | exact Nat.le_refl _ | simp)
      have Nyg := own_apart Oy5 Og6 (by first | exact Nat.le_refl _ | simp)
      have Ngy := own_apart' Oy5 Og6 (by first | exact Nat.le_refl _ | simp)
      have Ow6 := own_below Ow5 b6 (Nat.le_refl _)
      have Ox6 := own_below Ox5 b6 (Nat.le_refl _)
      have Oy6 := own_below Oy5 b6 (Nat.le_refl _)
      have B6 := bl_trans B5 b6
      go_wp2_with fail
      refine (eqInt64S_yes (own_rv Og6) (own_rv Ow6) (by omega)).mono ?_
      rintro e w7 ⟨rfl, b7⟩
      have AP7 := AP6.step b7
      have AQ7 := AQ6.step b7
      have AX7 := AX6.step b7
      have AY7 := AY6.step b7
      have Ow7 := own_below Ow6 b7 (Nat.le_refl _)
      have Ox7 := own_below Ox6 b7 (Nat.le_refl _)
      have Oy7 := own_below Oy6 b7 (Nat.le_refl _)
      have Og7 := own_below Og6 b7 (Nat.le_refl _)
      have B7 := bl_trans B6 b7
      go_upto_region 14 with fail
      have CK := Lib.hid (fun w' (h : Below w7.heap.size w7 w') => toBoard_pv (b := ⟨wd, hg, ps⟩) (w := w') ⟨_, rfl, AP7.step h⟩ (by simp; omega))
      have CL := Lib.hid (fun w' s' (h : Below w7.heap.size w7 w') (h' : PV w' s' ps) => eqBoard_yes (b := ⟨wd, hg, ps⟩) (w := w') ⟨_, rfl, (own_pv Ox7).step h⟩ ⟨s', rfl, h'⟩ (by simp; omega))
      go_region_held3 (fun w' => Below w7.heap.size w7 w' ∧ ∀ b o, b < w7.heap.size → w'.cell? ⟨b, o, none⟩ = w7.cell? ⟨b, o, none⟩) ((refine ext_s ?_; exact (by repeat (first | with_reducible exact Below.refl _ _ | with_reducible assumption | with_reducible apply bl_drewN | with_reducible apply bl_drew | with_reducible apply bl_alloc | (with_reducible refine bl_set ?_ (by first | (simp; done) | (simp; omega)) _) | with_reducible refine bl_trans ?_ (by with_reducible assumption))))) (first | (go_at_call 12; refine (CK.out _ ?_).mono ?_; (exact (by repeat (first | with_reducible exact Below.refl _ _ | with_reducible assumption | with_reducible apply bl_drewN | with_reducible apply bl_drew | with_reducible apply bl_alloc | (with_reducible refine bl_set ?_ (by first | (simp; done) | (simp; omega)) _) | with_reducible refine bl_trans ?_ (by with_reducible assumption)))); rintro e wa ⟨sa, rfl, Oa, ba⟩; obtain ⟨hca, hfa⟩ := bcell ba) | (go_at_call 16; refine (CL.out _ _ ?_ (own_pv Oa)).mono ?_; (exact (by repeat (first | with_reducible exact Below.refl _ _ | with_reducible assumption | with_reducible apply bl_drewN | with_reducible apply bl_drew | with_reducible apply bl_alloc | (with_reducible refine bl_set ?_ (by first | (simp; done) | (simp; omega)) _) | with_reducible refine bl_trans ?_ (by with_reducible assumption)))); rintro e w8 ⟨rfl, be⟩))
      have b8 : Below w7.heap.size w7 w8 := (by repeat (first | with_reducible exact Below.refl _ _ | with_reducible assumption | with_reducible apply bl_drewN | with_reducible apply bl_drew | with_reducible apply bl_alloc | (with_reducible refine bl_set ?_ (by first | (simp; done) | (simp; omega)) _) | with_reducible refine bl_trans ?_ (by with_reducible assumption)))
      clear CK CL
      have AP8 := AP7.step b8
      have AQ8 := AQ7.step b8
      have AX8 := AX7.step b8
      have AY8 := AY7.step b8
      have Ow8 := own_below Ow7 b8 (Nat.le_refl _)
      have Ox8 := own_below Ox7 b8 (Nat.le_refl _)
      have Oy8 := own_below Oy7 b8 (Nat.le_refl _)
      have Og8 := own_below Og7 b8 (Nat.le_refl _)
      have B8 := bl_trans B7 b8
      go_wp2_with fail
      refine (toPushS_rv AQ8 (by omega)).mono ?_
      rintro e w9 ⟨vp, rfl, Op9, b9⟩
      have AP9 := AP8.step b9
      have AQ9 := AQ8.step b9
      have AX9 := AX8.step b9
      have AY9 := AY8.step b9
      have Nwp := own_apart Ow8 Op9 (by first | exact Nat.le_refl _ | simp)
      have Npw := own_apart' Ow8 Op9 (by first | exact Nat.le_refl _ | simp)
      have Nxp := own_apart Ox8 Op9 (by first | exact Nat.le_refl _ | simp)
      have Npx := own_apart' Ox8 Op9 (by first | exact Nat.le_refl _ | simp)
      have Nyp := own_apart Oy8 Op9 (by first | exact Nat.le_refl _ | simp)
      have Npy := own_apart' Oy8 Op9 (by first | exact Nat.le_refl _ | simp)
      have Ngp := own_apart Og8 Op9 (by first | exact Nat.le_refl _ | simp)
      have Npg := own_apart' Og8 Op9 (by first | exact Nat.le_refl _ | simp)
      have Ow9 := own_below Ow8 b9 (Nat.le_refl _)
      have Ox9 := own_below Ox8 b9 (Nat.le_refl _)
      have Oy9 := own_below Oy8 b9 (Nat.le_refl _)
      have Og9 := own_below Og8 b9 (Nat.le_refl _)
      have B9 := bl_trans B8 b9
      obtain ⟨ap, capp, rfl, -⟩ := own_at Op9
      go_wp2_with fail
      refine (eqPushS_yes (own_rv Oy9) (own_rv Op9) (by omega)).mono ?_
      rintro e w10 ⟨rfl, b10⟩
      have AP10 := AP9.step b10
      have AQ10 := AQ9.step b10
      have AX10 := AX9.step b10
      have AY10 := AY9.step b10
      have Ow10 := own_below Ow9 b10 (Nat.le_refl _)
      have Ox10 := own_below Ox9 b10 (Nat.le_refl _)
      have Oy10 := own_below Oy9 b10 (Nat.le_refl _)
      have Og10 := own_below Og9 b10 (Nat.le_refl _)
      have Op10 := own_below Op9 b10 (Nat.le_refl _)
      have B10 := bl_trans B9 b10
      go_wp2_with fail
      refine (markBoard_any 1 _ Ox10 (by omega) (by omega) (by omega)).mono ?_
      rintro e w11 ⟨rfl, Mx11, g11⟩
      have Ow11 := own_kept Ow10 g11 Nwx
      have Oy11 := own_kept Oy10 g11 Nyx
      have Og11 := own_kept Og10 g11 Ngx
      have B11 := bl_grown B10 g11 (fun k hk => by have h1 := B3.size; have h2 := (Ox10.lt k hk).1; (try simp only [World.size_alloc] at h2); omega)
      have AP11 := A0.step B11
      have AQ11 := A1.step B11
      have AX11 := AX.step B11
      go_wp2_with fail
      refine (markPushS_any _ _ Oy11 (by omega) (by omega) (by omega)).mono ?_
      rintro e w12 ⟨rfl, My12, g12⟩
      have Ow12 := own_kept Ow11 g12 Nwy
      have Og12 := own_kept Og11 g12 Ngy
      have B12 := bl_grown B11 g12 (fun k hk => by have h1 := B4.size; have h2 := (Oy11.lt k hk).1; (try simp only [World.size_alloc] at h2); omega)
      have AP12 := A0.step B12
      have AQ12 := A1.step B12
      have AX12 := AX.step B12
      go_wp2_with fail
      refine (eqInt64S_yes (own_rv Og12) (own_rv Ow12) (by omega)).mono ?_
      rintro e w13 ⟨rfl, b13⟩
      have AP13 := AP12.step b13
      have AQ13 := AQ12.step b13
      have AX13 := AX12.step b13
      have Ow13 := own_below Ow12 b13 (Nat.le_refl _)
      have Og13 := own_below Og12 b13 (Nat.le_refl _)
      have B13 := bl_trans B12 b13
      go_wp2_with fail
      refine (markInt64S_any 1 _ Og13 (by omega) (by omega) (by omega)).mono ?_
      rintro e w14 ⟨rfl, Mg14, g14⟩
      have Ow14 := own_kept Ow13 g14 Nwg
      have B14 := bl_grown B13 g14 (fun k hk => by have h1 := B5.size; have h2 := (Og13.lt k hk).1; (try simp only [World.size_alloc] at h2); omega)
      have AP14 := A0.step B14
      have AQ14 := A1.step B14
      have AX14 := AX.step B14
      go_wp2_with fail
      refine (heldInt64S_own 1 Mg14 (by omega) (by omega) (by omega)).mono ?_
      rintro e w' ⟨rfl, rfl⟩
      go_wp2_with fail
      refine (toBoard_pv (b := ⟨wd, hg, ps⟩) ⟨_, rfl, AP14⟩ (by simp; omega)).mono ?_
      rintro e w15 ⟨vz, rfl, Oz15, b15⟩
      have AP15 := AP14.step b15
      have AQ15 := AQ14.step b15
      have AX15 := AX14.step b15
      have Nwz := own_apart Ow14 Oz15 (by first | exact Nat.le_refl _ | simp)
      have Nzw := own_apart' Ow14 Oz15 (by first | exact Nat.le_refl _ | simp)
      have Ngz := own_apart Mg14 Oz15 (by first | exact Nat.le_refl _ | simp)
      have Nzg := own_apart' Mg14 Oz15 (by first | exact Nat.le_refl _ | simp)
      have Ow15 := own_below Ow14 b15 (Nat.le_refl _)
      have Og15 := own_below Mg14 b15 (Nat.le_refl _)
      have B15 := bl_trans B14 b15
      obtain ⟨az, capz, rfl, -⟩ := own_at Oz15
      go_wp2_with fail
      refine (toPushS_rv AQ15 (by omega)).mono ?_
      rintro e w16 ⟨vzp, rfl, Ozp16, b16⟩
      have AP16 := AP15.step b16
      have AQ16 := AQ15.step b16
      have AX16 := AX15.step b16
      have Nwzp := own_apart Ow15 Ozp16 (by first | exact Nat.le_refl _ | simp)
      have Nzpw := own_apart' Ow15 Ozp16 (by first | exact Nat.le_refl _ | simp)
      have Ngzp := own_apart Og15 Ozp16 (by first | exact Nat.le_refl _ | simp)
      have Nzpg := own_apart' Og15 Ozp16 (by first | exact Nat.le_refl _ | simp)
      have Nzzp := own_apart Oz15 Ozp16 (by first | exact Nat.le_refl _ | simp)
      have Nzpz := own_apart' Oz15 Ozp16 (by first | exact Nat.le_refl _ | simp)
      have Ow16 := own_below Ow15 b16 (Nat.le_refl _)
      have Og16 := own_below Og15 b16 (Nat.le_refl _)
      have Oz16 := own_below Oz15 b16 (Nat.le_refl _)
      have B16 := bl_trans B15 b16
      obtain ⟨azp, capzp, rfl, -⟩ := own_at Ozp16
      go_wp2_with fail
      refine (CI.out _ _ _ (own_pv Oz16) (own_rv Ozp16)).mono ?_
      rintro e w17 ⟨vh, rfl, Oh17, b17⟩
      have AP17 := AP16.step b17
      have AQ17 := AQ16.step b17
      have AX17 := AX16.step b17
      have Nwh := own_apart Ow16 Oh17 (by first | exact Nat.le_refl _ | simp)
      have Nhw := own_apart' Ow16 Oh17 (by first | exact Nat.le_refl _ | simp)
      have Ngh := own_apart Og16 Oh17 (by first | exact Nat.le_refl _ | simp)
      have Nhg := own_apart' Og16 Oh17 (by first | exact Nat.le_refl _ | simp)
      have Nzh := own_apart Oz16 Oh17 (by first | exact Nat.le_refl _ | simp)
      have Nhz := own_apart' Oz16 Oh17 (by first | exact Nat.le_refl _ | simp)
      have Nzph := own_apart Ozp16 Oh17 (by first | exact Nat.le_refl _ | simp)
      have Nhzp := own_apart' Ozp16 Oh17 (by first | exact Nat.le_refl _ | simp)
      have Ow17 := own_below Ow16 b17 (Nat.le_refl _)
      have Og17 := own_below Og16 b17 (Nat.le_refl _)
      have Oz17 := own_below Oz16 b17 (Nat.le_refl _)
      have Ozp17 := own_below Ozp16 b17 (Nat.le_refl _)
      have B17 := bl_trans B16 b17
      go_wp2_with fail
      refine (eqInt64S_yes (own_rv Oh17) (own_rv Ow17) (by omega)).mono ?_
      rintro e w18 ⟨rfl, b18⟩
      have AP18 := AP17.step b18
      have AQ18 := AQ17.step b18
      have AX18 := AX17.step b18
      have Ow18 := own_below Ow17 b18 (Nat.le_refl _)
      have Og18 := own_below Og17 b18 (Nat.le_refl _)
      have Oz18 := own_below Oz17 b18 (Nat.le_refl _)
      have Ozp18 := own_below Ozp17 b18 (Nat.le_refl _)
      have Oh18 := own_below Oh17 b18 (Nat.le_refl _)
      have B18 := bl_trans B17 b18
      go_wp2_with fail
      refine (heldInt64S_own 1 Og18 (by omega) (by omega) (by omega)).mono ?_
      rintro e w' ⟨rfl, rfl⟩
      go_wp2
      go_ret
      exact ⟨rfl, bl_trans bu0 B18⟩
    · have Hs1 := Lib.hid (show szv pl.length (1048576 - ps.length) = -1 by unfold szv; rw [if_pos (by omega)])
      go_enter Tryz.func8, Tryz.ntmps8
      go_wp2_with fail
      refine (szBoard_any wd hg a ps.length cap _ _ (by omega) (by omega) (by omega)).mono ?_
      rintro e u ⟨rfl, bu⟩
      rw [Hs.out]
      have bu0 : Below w.heap.size w u := bl_trans (bl_alloc (Below.refl _ _)) bu
      go_wp2_with fail
      refine (szPushS_any a1 pl.length cap1 _ _ (by omega) (by omega) (by omega)).mono ?_
      rintro e w' ⟨rfl, rfl⟩
      rw [Hs1.out]
      go_wp2
      go_ret
      exact ⟨rfl, bu0⟩
  · have Hs := Lib.hid (show szv ps.length 1048576 = -1 by unfold szv; rw [if_pos (by omega)])
    go_enter Tryz.func8, Tryz.ntmps8
    go_wp2_with fail
    refine (szBoard_any wd hg a ps.length cap _ _ (by omega) (by omega) (by omega)).mono ?_
    rintro e u ⟨rfl, bu⟩
    rw [Hs.out]
    have bu0 : Below w.heap.size w u := bl_trans (bl_alloc (Below.refl _ _)) bu
    go_wp2
    go_ret
    exact ⟨rfl, bu0⟩
end Go.Proofs.YtepekboechmngaaGreat
