import Derived.Test.YtollihgjcmiolaaK3
import Derived.Deep.RegionHeld3
import Derived.Deep.CutRange
import Derived.StillTailTactics
import Derived.Deep.Strs
import Derived.Carry
/- Contracts: FirstWrong and CheckFalls (the program). -/
namespace Go.Proofs.Ytollihgjcmiolaa
open Go.RowKit
set_option linter.unusedVariables false
set_option linter.unusedSimpArgs false
set_option maxHeartbeats 400000
set_option maxRecDepth 100000
theorem sv_val {α : Type} {f : α → List Value} {w : World} {v : Value} {xs : List α} (h : SV f w v xs) : ∃ a cap, v = .slice a xs.length cap ∧ SlAt w.heap.size w a (flat f xs) := h
set_option maxHeartbeats 1600000 in
theorem firstWrong_any (wd hg : Int) (s : Value) (ps : List Pc) (v1 : Value) (pl : List Pu) (v2 : Value) (fs : List Fa) (w : World) (hps : PV w s ps) (hok : (Bd.mk wd hg ps).ok) (hn : ps.length ≤ 9000000)
    (h1 : SV Pu.cells w v1 pl) (ok1 : PusOk pl) (n1 : pl.length ≤ 9000000) (h2 : SV Fa.cells w v2 fs) (ok2 : FasOk fs) (n2 : fs.length ≤ 9000000) :
    Calls Try.prog 14 #[bdv wd hg s, v1, v2] w fun e w' => e = .returned (.tuple #[.int .i64 (fwVal ⟨wd, hg, ps⟩ pl fs), .int .i64 (fwCode ⟨wd, hg, ps⟩ pl fs)]) ∧ Below w.heap.size w w' := by
  have HPS := Lib.hid hps
  have H1 := Lib.hid h1
  obtain ⟨a, cap, rfl, hpsa⟩ := hps
  obtain ⟨a1, cap1, rfl, h1⟩ := h1
  obtain ⟨a2, cap2, rfl, h2⟩ := h2
  have HB := Lib.hid (BP.new (l := ⟨wd, hg, ps⟩) (w := w) ⟨a, cap, rfl, hpsa⟩ 35)
  have hba : Below w.heap.size w (w.alloc (.cells #[.int .i8 wd, .int .i8 hg, .slice a ps.length cap] 35)) := bl_alloc (Below.refl _ _)
  have HVP := Lib.hid (validPushes_any wd hg (.slice a ps.length cap) ps (.slice a1 pl.length cap1) pl _ (HPS.out.step hba) hok hn (H1.out.step hba) ok1 n1)
  have HCF := Lib.hid (fun w1 (hb : Below w.heap.size w w1) => containsFuncFa_any (B := w.heap.size) 35 #[] a2 cap2 fs w1 (h2.below hb (Nat.le_refl _)) ok2 hb.size (by omega) eg_FirstWrong1 (fun p => !okFall p) (fun p w2 hp hb2 => firstWrong1_any p hp w2))
  have e1 : fs.any (fun p => !okFall p) = !fs.all okFall := any_not _ _
  rw [e1] at HCF
  have HBA := Lib.hid hba
  clear e1 hba hpsa
  cases g1 : (vBd ⟨wd, hg, ps⟩ && vPus ⟨wd, hg, ps⟩ pl) with
  | false =>
    rw [g1] at HVP
    have HC : Hid (fwCode ⟨wd, hg, ps⟩ pl fs = 1) := Lib.hid (by unfold fwCode; rw [g1]; rfl)
    have HVv : Hid (fwVal ⟨wd, hg, ps⟩ pl fs = 0) := Lib.hid (by unfold fwVal; rw [g1]; rfl)
    clear g1
    go_enter Try.func14, Try.ntmps14
    go_wp2_with fail
    refine HVP.out.mono ?_
    rintro e w1 ⟨rfl, hb1⟩
    go_wp2
    go_ret2
    exact ⟨by rw [HC.out, HVv.out]; rfl, bl_trans HBA.out hb1⟩
  | true =>
    rw [g1] at HVP
    cases g2 : fs.all okFall with
    | false =>
      rw [g2] at HCF
      have HC : Hid (fwCode ⟨wd, hg, ps⟩ pl fs = 2) := Lib.hid (by unfold fwCode; rw [g1, vFas_eq, g2]; rfl)
      have HVv : Hid (fwVal ⟨wd, hg, ps⟩ pl fs = 0) := Lib.hid (by unfold fwVal; rw [g1, vFas_eq, g2]; rfl)
      clear g1 g2
      go_enter Try.func14, Try.ntmps14
      go_wp2_with fail
      refine HVP.out.mono ?_
      rintro e w1 ⟨rfl, hb1⟩
      have hb01 := bl_trans HBA.out hb1
      have HB01 := Lib.hid hb01
      clear hb01
      go_wp2_with fail
      refine (HCF.out _ HB01.out).mono ?_
      rintro e w2 ⟨rfl, hb2⟩
      go_wp2
      go_ret2
      exact ⟨by rw [HC.out, HVv.out]; rfl, bl_trans HB01.out hb2⟩
    | true =>
      rw [g2] at HCF
      have HC : Hid (fwCode ⟨wd, hg, ps⟩ pl fs = if firstWrong ps pl fs < 0 then 6 else 0) := Lib.hid (by unfold fwCode; rw [g1, vFas_eq, g2]; rfl)
      have HVv : Hid (fwVal ⟨wd, hg, ps⟩ pl fs = if firstWrong ps pl fs < 0 then 0 else firstWrong ps pl fs) := Lib.hid (by unfold fwVal; rw [g1, vFas_eq, g2]; rfl)
      rw [Bool.and_eq_true] at g1
      obtain ⟨gv, gp⟩ := g1
      have gp2 := gp
      unfold vPus at gp2
      simp only [Bool.and_eq_true, decide_eq_true_eq] at gp2
      obtain ⟨⟨p1, p2⟩, p3⟩ := gp2
      have HFAS := Lib.hid g2
      have HP2 := Lib.hid p2
      have HGV := Lib.hid gv
      clear p3 gp g2 p2 gv
      have HHIT := Lib.hid (firstWrong_hit ps pl fs)
      have HNONE := Lib.hid (firstWrong_none ps pl fs)
      have HNN : Hid (∀ k : Nat, (0 : Int) ≤ (k : Int)) := Lib.hid (fun k => by omega)
      generalize firstWrong ps pl fs = FW at HC HVv HHIT HNONE
      have c5 : ps.length ≤ 200 := (vBd_bounds _ HGV.out).2.2.2.2
      go_enter Try.func14, Try.ntmps14
      go_wp2_with fail
      refine HVP.out.mono ?_
      rintro e w1 ⟨rfl, hb1⟩
      have hb01 := bl_trans HBA.out hb1
      have HB01 := Lib.hid hb01
      have HB1 := Lib.hid (HB.out.step hb1)
      clear hb01
      go_wp2_with fail
      refine (HCF.out _ HB01.out).mono ?_
      rintro e w2 ⟨rfl, hb2⟩
      have HB02 := Lib.hid (bl_trans HB01.out hb2)
      have HB2 := Lib.hid (HB1.out.step hb2)
      clear hb1 hb2
      go_wp2_with fail
      refine (stageOf_any w.heap.size ⟨wd, hg, ps⟩ w2 HB2.out HGV.out).mono ?_
      rintro e w3 ⟨g, rfl, hg3, hst3, hb3⟩
      have HB03 := Lib.hid (bl_trans HB02.out hb3)
      have HB3 := Lib.hid (HB2.out.step hb3)
      have HST3 := Lib.hid hst3
      have hgz := hst3.1
      clear hb3 hst3
      go_wp2_with fail
      refine (hitsOf_any (B := w.heap.size) w.heap.size ⟨wd, hg, ps⟩ a1 cap1 pl w3 HB3.out hok (show ps.length ≤ 10000000 by omega) (h1.below HB03.out (Nat.le_refl _)) HP2.out HB03.out.size p1).mono ?_
      rintro e w4 ⟨v, rfl, hown4, hb4⟩
      obtain ⟨av, capv, rfl, hsl4, -, -⟩ := own_at hown4
      have HSL4 := Lib.hid hsl4
      have HB04 := Lib.hid (bl_trans HB03.out hb4)
      have HB4 := Lib.hid (HB3.out.step hb4)
      have HST4 := Lib.hid (HST3.out.step hb4)
      have hz4 := HB04.out.size
      clear hb4 hown4 hsl4
      obtain ⟨-, s4, ⟨q0, q1, q2⟩, a4, cap4, rfl, -⟩ := HB4.out
      simp only at q0 q1 q2
      go_wp2
      go_loopw [23] (fun i wr => ∃ k : Nat, k ≤ ps.length ∧ i = .int .i64 k ∧ Hid (∀ j, j < k → wrongAt ps pl fs j = false) ∧ Below w4.heap.size w4 wr) (fun i _ => ps.length - (intOf i).toNat)
      case atStart => exact ⟨0, by omega, rfl, Lib.hid (fun j hj => by omega), Below.refl _ _⟩
      case round =>
        obtain ⟨k, hk, rfl, hno, hbW⟩ := hrel
        have hb2 := bl_trans HB04.out hbW
        have HB2 := Lib.hid hb2
        have hz2 := hb2.size
        have y2 : wr.cell? ⟨w.heap.size, 2, none⟩ = some (.slice a4 ps.length cap4) := by rw [hbW.cell (p := ⟨w.heap.size, 2, none⟩) (HB4.out).1]; exact q2
        by_cases hlt2 : k < ps.length
        · by_cases hin : k < fs.length
          · have hgd : decide (fs.length ≤ k) = false := decide_eq_false (by omega)
            obtain ⟨bf, offf, hbf0, hbf, hatf⟩ := fas_get h2 hin
            cases hbf0
            have hbfr : bf < wr.heap.size := by omega
            unfold FaAt at hatf
            have w0 : wr.cell? ⟨bf, offf + k * 3, none⟩ = some (.int .i64 fs[k].t) := by rw [hb2.cell (p := ⟨_, _, none⟩) hbf]; exact hatf.1
            have w1' : wr.cell? ⟨bf, offf + k * 3 + 1, none⟩ = some (.int .i8 fs[k].f) := by rw [hb2.cell (p := ⟨_, _, none⟩) hbf]; exact hatf.2.1
            have w2' : wr.cell? ⟨bf, offf + k * 3 + 2, none⟩ = some (.int .i64 fs[k].b) := by rw [hb2.cell (p := ⟨_, _, none⟩) hbf]; exact hatf.2.2
            have hwi := wrong_in ps pl fs k hin
            have HDC : ∀ u : Ext wr, Calls Try.prog 40 #[.pointer (some ⟨g, 0, none⟩), .int .i64 k, .slice (some ⟨bf, offf, none⟩) fs.length cap2, .slice av pl.length capv] u.w fun e w' => e = .returned (due ps pl fs k).val ∧ Below u.w.heap.size u.w w' := by
              intro u
              have hu := bl_trans hbW u.b
              exact follows_any (B := u.w.heap.size) g ⟨wd, hg, ps⟩ k (some ⟨bf, offf, none⟩) cap2 fs av capv pl u.w (HST4.out.step hu) HGV.out hlt2 ((h2.below (bl_trans HB04.out hu) (Nat.le_refl _)).wide (bl_trans HB04.out hu).size) HFAS.out n2 ((HSL4.out.below hu (Nat.le_refl _)).wide hu.size) HP2.out p1 (Nat.le_refl _)
            generalize due ps pl fs k = d at HDC hwi
            generalize fs[k] = f at w0 w1' w2' hwi
            obtain ⟨dt, df, db⟩ := d
            obtain ⟨ft, ff, fb⟩ := f
            simp only at w0 w1' w2'
            have HDC2 := Lib.hid HDC
            have hne := run_neq_fa ft ff fb dt df db
            clear HDC hatf y2
            rcases dec_cases ((⟨ft, ff, fb⟩ : Fa) ≠ ⟨dt, df, db⟩) with ⟨g1, -⟩ | ⟨g1, -⟩
            · rw [g1] at hne hwi
              have HW := Lib.hid (HHIT.out k hlt2 hno.out hwi)
              have HC2 := HC.out
              have HV2 := HVv.out
              rw [HW.out, if_neg (Int.not_lt.2 (HNN.out k))] at HC2 HV2
              have HC3 := Lib.hid HC2
              have HV3 := Lib.hid HV2
              clear g1 hwi HC2 HV2
              go_wp2
              (refine wp_region_ext (by kernel_rfl) (by kernel_rfl) ?_; have hX := @ext_cell; (repeat (go_big_quiet_step ((go_at_call 40; exact ext_call (HDC2.out _))))); refine wpQuiet_nil ?_; clear hX; intro wx hw'; obtain ⟨⟨wx, hbx⟩, rfl⟩ := hw'; obtain ⟨hcx, hfx⟩ := bcell hbx)
              go_wp2
              go_ret2
              exact ⟨by rw [HC3.out, HV3.out]; rfl, bl_trans hb2 hbx⟩
            · rw [g1] at hne hwi
              have HW : Hid (∀ j, j < k + 1 → wrongAt ps pl fs j = false) := Lib.hid (by
                intro j hj
                rcases Nat.lt_succ_iff_lt_or_eq.1 hj with h' | rfl
                · exact hno.out j h'
                · exact hwi)
              clear g1 hwi
              go_wp2
              (refine wp_region_ext (by kernel_rfl) (by kernel_rfl) ?_; have hX := @ext_cell; (repeat (go_big_quiet_step ((go_at_call 40; exact ext_call (HDC2.out _))))); refine wpQuiet_nil ?_; clear hX; intro wx hw'; obtain ⟨⟨wx, hbx⟩, rfl⟩ := hw'; obtain ⟨hcx, hfx⟩ := bcell hbx)
              go_wp2
              go_roundw
              case rel => exact ⟨k + 1, by omega, by go_num, HW, bl_trans hbW hbx⟩
              case measure => simp [intOf]; omega
          · have HW := Lib.hid (HHIT.out k hlt2 hno.out (by unfold wrongAt; rw [decide_eq_true (by omega), Bool.true_or]))
            have hgd : decide (fs.length ≤ k) = true := decide_eq_true (by omega)
            have HC2 := HC.out
            have HV2 := HVv.out
            rw [HW.out, if_neg (Int.not_lt.2 (HNN.out k))] at HC2 HV2
            have HC3 := Lib.hid HC2
            have HV3 := Lib.hid HV2
            clear HC2 HV2
            go_wp2
            (refine wp_region_ext (by kernel_rfl) (by kernel_rfl) ?_; have hX := @ext_cell; (repeat (go_big_quiet_step (fail))); refine wpQuiet_nil ?_; clear hX; intro wx hw'; obtain ⟨⟨wx, hbx⟩, rfl⟩ := hw'; obtain ⟨hcx, hfx⟩ := bcell hbx)
            go_wp2
            go_ret2
            exact ⟨by rw [HC3.out, HV3.out]; rfl, bl_trans hb2 hbx⟩
        · have hkn : k = ps.length := by omega
          subst hkn
          have hN := HNONE.out hno.out
          have HC2 := HC.out
          have HV2 := HVv.out
          by_cases hmore : ps.length < fs.length
          · rw [if_pos hmore] at hN
            rw [hN, if_neg (Int.not_lt.2 (HNN.out ps.length))] at HC2 HV2
            have HC3 := Lib.hid HC2
            have HV3 := Lib.hid HV2
            clear HC2 HV2 hN
            go_wp2
            go_ret2
            exact ⟨by rw [HC3.out, HV3.out]; rfl, hb2⟩
          · rw [if_neg hmore] at hN
            rw [hN, if_pos (by decide)] at HC2 HV2
            have HC3 := Lib.hid HC2
            have HV3 := Lib.hid HV2
            clear HC2 HV2 hN
            go_wp2
            go_ret2
            exact ⟨by rw [HC3.out, HV3.out]; rfl, hb2⟩
theorem checkFalls_any (wd hg : Int) (s : Value) (ps : List Pc) (v1 : Value) (pl : List Pu) (v2 : Value) (fs : List Fa) (w : World) (hps : PV w s ps) (hok : (Bd.mk wd hg ps).ok) (hn : ps.length ≤ 9000000)
    (h1 : SV Pu.cells w v1 pl) (ok1 : PusOk pl) (n1 : pl.length ≤ 9000000) (h2 : SV Fa.cells w v2 fs) (ok2 : FasOk fs) (n2 : fs.length ≤ 9000000) :
    Calls Try.prog 19 #[bdv wd hg s, v1, v2] w fun e w' => e = .returned (.tuple #[.bool (cfVal ⟨wd, hg, ps⟩ pl fs), .int .i64 (givenV ⟨wd, hg, ps⟩ pl fs)]) ∧ Below w.heap.size w w' := by
  have hba : Below w.heap.size w (w.alloc (.cells #[.int .i8 wd, .int .i8 hg, s] 35)) := bl_alloc (Below.refl _ _)
  have HFW := Lib.hid (firstWrong_any wd hg s ps v1 pl v2 fs _ (hps.step hba) hok hn (h1.step hba) ok1 n1 (h2.step hba) ok2 n2)
  have HBA := Lib.hid hba
  obtain ⟨a, cap, rfl, -⟩ := hps
  obtain ⟨a1, cap1, rfl, -⟩ := h1
  obtain ⟨a2, cap2, rfl, -⟩ := h2
  clear hba
  rcases Bool.eq_false_or_eq_true ((vBd ⟨wd, hg, ps⟩ && vPus ⟨wd, hg, ps⟩ pl) && vFas fs) with g0 | g0
  · have HG := Lib.hid (gv_fw _ _ _ g0)
    have HV := Lib.hid (gv_0 _ _ _ g0)
    clear g0
    by_cases hneg : firstWrong ps pl fs < 0
    · have HC : Hid (fwCode ⟨wd, hg, ps⟩ pl fs = 6) := Lib.hid (by rw [HG.out.1]; exact if_pos hneg)
      have HCF : Hid (cfVal ⟨wd, hg, ps⟩ pl fs = true) := Lib.hid (by rw [HG.out.2.2]; exact decide_eq_true hneg)
      rw [HC.out] at HFW
      clear hneg HG
      go_enter Try.func19, Try.ntmps19
      go_wp2_with fail
      refine HFW.out.mono ?_
      rintro e w1 ⟨rfl, hb1⟩
      go_wp2
      go_ret2
      exact ⟨by rw [HCF.out, HV.out]; rfl, bl_trans HBA.out hb1⟩
    · have HC : Hid (fwCode ⟨wd, hg, ps⟩ pl fs = 0) := Lib.hid (by rw [HG.out.1]; exact if_neg hneg)
      have HCF : Hid (cfVal ⟨wd, hg, ps⟩ pl fs = false) := Lib.hid (by rw [HG.out.2.2]; exact decide_eq_false hneg)
      rw [HC.out] at HFW
      clear hneg HG
      go_enter Try.func19, Try.ntmps19
      go_wp2_with fail
      refine HFW.out.mono ?_
      rintro e w1 ⟨rfl, hb1⟩
      go_wp2
      go_ret2
      exact ⟨by rw [HCF.out, HV.out]; rfl, bl_trans HBA.out hb1⟩
  · obtain ⟨hg12, hc, hv, hcf⟩ := gv_1 _ _ _ g0
    clear g0
    have HCF := Lib.hid hcf
    rw [hc] at HFW
    clear hc hv hcf
    generalize givenV ⟨wd, hg, ps⟩ pl fs = gv at hg12 HFW ⊢
    rcases hg12 with rfl | rfl
    · go_enter Try.func19, Try.ntmps19
      go_wp2_with fail
      refine HFW.out.mono ?_
      rintro e w1 ⟨rfl, hb1⟩
      go_wp2
      go_ret2
      exact ⟨by rw [HCF.out]; rfl, bl_trans HBA.out hb1⟩
    · go_enter Try.func19, Try.ntmps19
      go_wp2_with fail
      refine HFW.out.mono ?_
      rintro e w1 ⟨rfl, hb1⟩
      go_wp2
      go_ret2
      exact ⟨by rw [HCF.out]; rfl, bl_trans HBA.out hb1⟩
end Go.Proofs.Ytollihgjcmiolaa
/- Contracts: slices of Push, element for element. -/
namespace Go.Proofs.Ytollihgjcmiolaa
open Go.RowKit
set_option linter.unusedVariables false
set_option linter.unusedSimpArgs false
set_option maxHeartbeats 400000
set_option maxRecDepth 100000

theorem toPush_any (p : Pu) (w : World) :
    Calls Try.prog 31 #[p.val] w fun e w' => e = .returned p.val ∧ Below w.heap.size w w' := by
  go_enter Try.func31, Try.ntmps31
  go_wp2_with fail
  refine (toCell_any ⟨p.x, p.y⟩ _).mono ?_
  rintro e w1 ⟨rfl, hb1⟩
  obtain ⟨hc1, hf1⟩ := bcell hb1
  have hz1 := hb1.size; simp at hz1
  try have q00 : w.heap.size < w1.heap.size := by omega
  try have q01 : w.heap.size + 1 < w1.heap.size := by omega
  try have q02 : w.heap.size + 1 + 1 < w1.heap.size := by omega
  try have q03 : w.heap.size + 1 + 1 + 1 < w1.heap.size := by omega
  go_wp2
  refine bodyPost_ret (v := p.val) (by simp [results, Try.results31, go_sem, hc1]) rfl ⟨rfl, ?_⟩
  exact (by repeat (first | with_reducible exact Below.refl _ _ | with_reducible assumption | with_reducible apply bl_drewN | with_reducible apply bl_drew | with_reducible apply bl_alloc | (with_reducible refine bl_set ?_ (by first | (simp; done) | (simp; omega)) _) | with_reducible refine bl_trans ?_ (by with_reducible assumption)))
theorem eqPush_any (p q : Pu) (w : World) :
    Calls Try.prog 42 #[p.val, q.val] w fun e w' => e = .returned (.bool (decide (p = q))) ∧ Below w.heap.size w w' := by
  obtain ⟨x, y, s, t⟩ := p
  obtain ⟨x', y', s', t'⟩ := q
  go_enter Try.func42, Try.ntmps42
  go_wp2_with (go_at_call 75; refine (eqCell_any ⟨x, y⟩ ⟨x', y'⟩ _).mono ?_; rintro e w' ⟨rfl, hb⟩; obtain ⟨hc, hf⟩ := bcell hb)
  all_goals
    go_ret
    exact ⟨by go_light; (try simp_all) <;> grind, (by repeat (first | with_reducible exact Below.refl _ _ | with_reducible assumption | with_reducible apply bl_drewN | with_reducible apply bl_drew | with_reducible apply bl_alloc | (with_reducible refine bl_set ?_ (by first | (simp; done) | (simp; omega)) _) | with_reducible refine bl_trans ?_ (by with_reducible assumption)))⟩
theorem szPushS_any (a : Option Addr) (n cap : Nat) (left : Int) (w : World) (hn : n ≤ 9223372036854775807) (h1 : -1 ≤ left) (h2 : left ≤ 1048576) :
    Calls Try.prog 8 #[.slice a n cap, .int .i64 left] w fun e w' => e = .returned (.int .i64 (szv n left)) ∧ w = w' := by
  unfold szv
  by_cases h : left - n < 0
  all_goals
    go_enter Try.func8, Try.ntmps8
    go_wp2
    go_ret
    exact ⟨ret_int (by simp [h]), rfl⟩
def mkPu1 (k : Int) : Pu := ⟨(IntKind.i8.wrap k), (IntKind.i8.wrap (k + 1)), (IntKind.i8.wrap (k + 1 + 1)), (IntKind.i16.wrap (k + 1 + 1 + 1))⟩
def mkPu (k : Int) (n : Nat) : List Pu := (List.range n).map fun (i : Nat) => mkPu1 (k + 4 * (i : Int))
theorem mkPu_succ (k : Int) (n : Nat) : mkPu k (n + 1) = mkPu k n ++ [mkPu1 (k + 4 * n)] := by simp [mkPu, List.range_succ]
theorem mkPu_len (k : Int) (n : Nat) : (mkPu k n).length = n := by simp [mkPu]
theorem eqPushS_any {B : Nat} (a a' : Option Addr) (cap cap' : Nat) (ps qs : List Pu) (w : World) (hps : SlAt B w a (flat Pu.cells ps)) (hqs : SlAt B w a' (flat Pu.cells qs)) (hB : B ≤ w.heap.size) (hn : ps.length ≤ 10000000) (hn' : qs.length ≤ 10000000) :
    Calls Try.prog 16 #[.slice a ps.length cap, .slice a' qs.length cap'] w fun e w' => e = .returned (.bool (decide (ps = qs))) ∧ Below w.heap.size w w' := by
  by_cases hl : ps.length = qs.length
  · have hl2 : ((ps.length : Int) != (qs.length : Int)) = false := by simp [hl]
    have Hl := Lib.hid hl; clear hl
    go_enter Try.func16, Try.ntmps16
    go_wp2
    go_loopw [5] (fun i wr => ∃ k : Nat, k ≤ ps.length ∧ i = .int .i64 k ∧ ps.take k = qs.take k ∧ Below w.heap.size w wr) (fun i _ => ps.length - (intOf i).toNat)
    case atStart => exact ⟨0, by omega, rfl, by simp, Below.refl _ _⟩
    case round =>
      obtain ⟨k, hk, rfl, heq, hb⟩ := hrel
      have Heq := Lib.hid heq; clear heq
      by_cases hlt : k < ps.length
      · have hlt' : k < qs.length := by rw [← Hl.out]; exact hlt
        obtain ⟨b, off, rfl, hbl, hat⟩ := pus_get (hps.below hb hB) hlt
        obtain ⟨b', off', rfl, hbl', hat'⟩ := pus_get (hqs.below hb hB) hlt'
        unfold PuAt at hat hat'
        go_wp2
        go_still_tail 8, (by kernel_rfl)
        change wpList _ _ _ _ _ wr.drew
        go_wp2_with (go_at_call 42; refine (eqPush_any ps[k] qs[k] _).mono ?_; rintro e w' ⟨rfl, hb2⟩)
        · have h1 : (!decide (ps[k] = qs[k])) = true := by assumption
          go_ret
          have hne : ps ≠ qs := by rintro rfl; simp at h1
          exact ⟨by simp [hne], (by repeat (first | with_reducible exact Below.refl _ _ | with_reducible assumption | with_reducible apply bl_drewN | with_reducible apply bl_drew | with_reducible apply bl_alloc | (with_reducible refine bl_set ?_ (by first | (simp; done) | (simp; omega)) _) | with_reducible refine bl_trans ?_ (by with_reducible assumption)))⟩
        · have h1 : (!decide (ps[k] = qs[k])) = false := by assumption
          have h2 : ps[k] = qs[k] := by simpa using h1
          go_roundw
          case rel => exact ⟨k + 1, by omega, by go_num, by rw [List.take_succ_eq_append_getElem hlt, List.take_succ_eq_append_getElem hlt', Heq.out, h2], (by repeat (first | with_reducible exact Below.refl _ _ | with_reducible assumption | with_reducible apply bl_drewN | with_reducible apply bl_drew | with_reducible apply bl_alloc | (with_reducible refine bl_set ?_ (by first | (simp; done) | (simp; omega)) _) | with_reducible refine bl_trans ?_ (by with_reducible assumption)))⟩
          case measure => simp [intOf]; omega
      · go_wp2
        go_ret
        have hne : ps = qs := by
          have := Heq.out
          rwa [List.take_of_length_le (by omega), List.take_of_length_le (by have := Hl.out; omega)] at this
        exact ⟨by simp [hne], (by repeat (first | with_reducible exact Below.refl _ _ | with_reducible assumption | with_reducible apply bl_drewN | with_reducible apply bl_drew | with_reducible apply bl_alloc | (with_reducible refine bl_set ?_ (by first | (simp; done) | (simp; omega)) _) | with_reducible refine bl_trans ?_ (by with_reducible assumption)))⟩
  · have hl2 : ((ps.length : Int) != (qs.length : Int)) = true := by simp; omega
    have Hl := Lib.hid hl; clear hl
    go_enter Try.func16, Try.ntmps16
    go_wp2
    go_ret
    have hne : ps ≠ qs := fun h => Hl.out (by rw [h])
    exact ⟨by simp [hne], (by repeat (first | with_reducible exact Below.refl _ _ | with_reducible assumption | with_reducible apply bl_drewN | with_reducible apply bl_drew | with_reducible apply bl_alloc | (with_reducible refine bl_set ?_ (by first | (simp; done) | (simp; omega)) _) | with_reducible refine bl_trans ?_ (by with_reducible assumption)))⟩
theorem Try.infoPush : (Try.prog.info? 61).map (fun i => (i.zero, i.size, i.bytes)) = some (some (.agg #[.int .i8 0, .int .i8 0, .int .i8 0, .int .i16 0]), 4, 6) := by kernel_rfl
theorem toPushS_any {B : Nat} (a : Option Addr) (cap : Nat) (ps : List Pu) (w : World) (hps : SlAt B w a (flat Pu.cells ps)) (hB : B ≤ w.heap.size) (hn : ps.length ≤ 10000000) :
    Calls Try.prog 12 #[.slice a ps.length cap] w fun e w' => ∃ v, e = .returned v ∧ w'.ownsRow w.heap.size 61 4 v ps.length (flat Pu.cells ps) ∧ Below w.heap.size w w' := by
  obtain ⟨i0, hi, hz0, hz1, hz2⟩ := info_parts Try.infoPush
  go_enter Try.func12, Try.ntmps12
  go_wp2_with (refine wpList_make_full _ rfl (.tmp 6) (.tmp 6) 37 rfl w.heap.size 61 i0 _ 4 Try.underlying37 hi hz0 hz1 _ _ _ _ ps.length rfl rfl rfl rfl (by rw [hz2]; omega) (by unfold maxLen; omega) (Nat.le_refl _) ?_; intro w1 hown hgrow)
  have hm : (madeCells (Value.cells (.agg #[.int .i8 0, .int .i8 0, .int .i8 0, .int .i16 0] : Value)) (ps.length * 4)).toList.length = ps.length * 4 := by simp [size_madeCells]
  generalize (madeCells (Value.cells (.agg #[.int .i8 0, .int .i8 0, .int .i8 0, .int .i16 0] : Value)) (ps.length * 4)).toList = R at hown hm
  have hb0 : Below w.heap.size w w1 := bl_grown (Below.refl _ _) hgrow (by simp)
  have hlt0 := (hown.lt _ rfl).2
  clear hgrow hi hz0 hz1 hz2
  go_loopw [4] (fun i wr => ∃ k : Nat, ∃ R : List Value, k ≤ ps.length ∧ i = .int .i64 k ∧ R.length = (ps.length - k) * 4 ∧ wr.ownsRow w.heap.size 61 4 (Value.slice (some { block := w.heap.size, off := 0 }) ps.length ps.length) ps.length (flat Pu.cells (ps.take k) ++ R) ∧ w.heap.size < wr.heap.size ∧ Below w.heap.size w wr) (fun i _ => ps.length - (intOf i).toNat)
  case atStart => exact ⟨0, R, by omega, rfl, by simpa using hm, by simpa [flat_nil] using hown, hlt0, hb0⟩
  case round =>
    clear hown hm hb0 hlt0
    obtain ⟨k, R, hk, rfl, hR, hown, hsz, hb⟩ := hrel
    by_cases hlt : k < ps.length
    · obtain ⟨b, off, rfl, hbl, hat⟩ := pus_get (hps.below hb hB) hlt
      unfold PuAt at hat
      go_wp2_with (go_at_call 31; refine (toPush_any ps[k] _).mono ?_; rintro e w' ⟨rfl, hb2⟩; have hown2 := own_below hown hb2 (Nat.le_refl _); obtain ⟨⟨v0, c0⟩, f0⟩ := own_cell hown2 (j := k * 4) (by omega); obtain ⟨⟨v1, c1⟩, f1⟩ := own_cell hown2 (j := k * 4 + 1) (by omega); obtain ⟨⟨v2, c2⟩, f2⟩ := own_cell hown2 (j := k * 4 + 2) (by omega); obtain ⟨⟨v3, c3⟩, f3⟩ := own_cell hown2 (j := k * 4 + 3) (by omega))
      have hz := hb2.size
      have hz2 := hb.size
      have hown3 := own_setCells (Pu.cells ps[k]) hown2 (j := k * 4) (by rw [flat_length Pu.len, List.length_take]; congr 1; omega) (by rw [hR]; simp [Pu.cells]; omega)
      clear c0 f0 c1 f1 c2 f2 c3 f3 hown hat
      go_roundw
      case rel => exact ⟨k + 1, R.drop 4, by omega, by go_num, by simp [hR]; omega, by rw [List.take_succ_eq_append_getElem hlt, flat_append, flat_cons, flat_nil, List.append_nil]; exact hown3, by simp; omega, (by repeat (first | with_reducible exact Below.refl _ _ | with_reducible assumption | with_reducible apply bl_drewN | with_reducible apply bl_drew | with_reducible apply bl_alloc | (with_reducible refine bl_set ?_ (by first | (simp; done) | (simp; omega)) _) | with_reducible refine bl_trans ?_ (by with_reducible assumption)))⟩
      case measure => simp [intOf]; omega
    · go_wp2
      go_ret
      have hkl : k = ps.length := by omega
      have hR0 : R = [] := by apply List.eq_nil_of_length_eq_zero; rw [hR, hkl]; simp
      refine ⟨_, rfl, ?_, (by repeat (first | with_reducible exact Below.refl _ _ | with_reducible assumption | with_reducible apply bl_drewN | with_reducible apply bl_drew | with_reducible apply bl_alloc | (with_reducible refine bl_set ?_ (by first | (simp; done) | (simp; omega)) _) | with_reducible refine bl_trans ?_ (by with_reducible assumption)))⟩
      rw [hR0, List.append_nil, hkl, List.take_length] at hown
      exact hown
theorem eqPushS_rv {w : World} {v v' : Value} {ps qs : List Pu} (h : RV Pu.cells w v ps) (h' : RV Pu.cells w v' qs) (hn : ps.length ≤ 10000000) (hn' : qs.length ≤ 10000000) :
    Calls Try.prog 16 #[v, v'] w fun e w' => e = .returned (.bool (decide (ps = qs))) ∧ Below w.heap.size w w' := by
  obtain ⟨a, cap, rfl, h⟩ := h
  obtain ⟨a', cap', rfl, h'⟩ := h'
  exact eqPushS_any a a' cap cap' ps qs w h h' (Nat.le_refl _) hn hn'
theorem eqPushS_yes {w : World} {v v' : Value} {ps : List Pu} (h : RV Pu.cells w v ps) (h' : RV Pu.cells w v' ps) (hn : ps.length ≤ 10000000) :
    Calls Try.prog 16 #[v, v'] w fun e w' => e = .returned (.bool true) ∧ Below w.heap.size w w' := by
  have := eqPushS_rv h h' hn hn
  simpa using this
theorem toPushS_rv {w : World} {v : Value} {ps : List Pu} (h : RV Pu.cells w v ps) (hn : ps.length ≤ 10000000) :
    Calls Try.prog 12 #[v] w fun e w' => ∃ v', e = .returned v' ∧ w'.ownsRow w.heap.size 61 4 v' ps.length (flat Pu.cells ps) ∧ Below w.heap.size w w' := by
  obtain ⟨a, cap, rfl, h⟩ := h
  exact toPushS_any a cap ps w h (Nat.le_refl _) hn
end Go.Proofs.Ytollihgjcmiolaa
/- The walk of the law FnExactValidWay. -/
namespace Go.Proofs.Ytollihgjcmiolaa
open Go.RowKit
set_option linter.unusedVariables false
set_option linter.unusedSimpArgs false
set_option maxHeartbeats 400000
set_option maxRecDepth 100000
theorem ext_s {w w' : World} (h : Below w.heap.size w w') : Below w.heap.size w w' ∧ ∀ b o, b < w.heap.size → w'.cell? ⟨b, o, none⟩ = w.cell? ⟨b, o, none⟩ := ⟨h, (bcell h).1⟩
end Go.Proofs.Ytollihgjcmiolaa
/- The walk of the law FnExactFreeCells. -/
namespace Go.Proofs.Ytollihgjcmiolaa
open Go.RowKit
set_option linter.unusedVariables false
set_option linter.unusedSimpArgs false
set_option maxHeartbeats 400000
set_option maxRecDepth 100000

/-- A block's first cells. -/
abbrev BX3 (w : World) (b : Nat) (v0 v1 v2 : Value) : Prop := b < w.heap.size ∧ w.cell? ⟨b, 0, none⟩ = some v0 ∧ w.cell? ⟨b, 1, none⟩ = some v1 ∧ w.cell? ⟨b, 2, none⟩ = some v2
theorem BX3.step {w w' : World} {b : Nat} {v0 v1 v2 : Value} (h : BX3 w b v0 v1 v2) (hb : Below w.heap.size w w') : BX3 w' b v0 v1 v2 := by
  obtain ⟨h1, h2⟩ := h
  refine ⟨Nat.lt_of_lt_of_le h1 hb.size, ?_⟩
  simp only [hb.cell (p := ⟨b, _, none⟩) h1]
  exact h2
theorem BX3.new (w : World) (v0 v1 v2 : Value) (T : TypeId) : BX3 (w.alloc (.cells #[v0, v1, v2] T)) w.heap.size v0 v1 v2 := by
  have hh := heap_alloc_new w (.cells #[v0, v1, v2] T)
  refine ⟨by simp, ?_, ?_, ?_⟩ <;> (rw [cell_of_row _ _ _ _ _ _ hh]; rfl)

theorem markBoard_any {base n : Nat} {wd hg : Int} {v : Value} {cs : List Value} (k0 : Int) (w : World) (hown : w.ownsRow base 95 5 v n cs) (hn : n ≤ 10000000) (h1 : 0 ≤ k0) (h2 : k0 ≤ 1000000000) :
    Calls Try.prog 24 #[bdv wd hg v, .int .i64 k0] w fun e w' => e = .returned (.int .i64 (k0 + 5 * n)) ∧ w'.ownsRow base 95 5 v n (flat Pc.cells (mkPc k0 n)) ∧ w.grownBy w' v.ownBlock := by
  have g0 : w.grownBy (w.alloc (.cells #[.int .i8 wd, .int .i8 hg, v] 35)) v.ownBlock := ⟨rfl, rfl, rfl, by simp, fun k hk _ => Below.heap_alloc w _ k hk⟩
  have h3 := own_kept hown g0
  have H := Lib.hid (markPieceS_any k0 (w.alloc (.cells #[.int .i8 wd, .int .i8 hg, v] 35)) (own_below hown (bl_alloc (Below.refl _ _)) (Nat.le_refl _)) hn h1 h2)
  clear h3
  go_enter Try.func24, Try.ntmps24
  go_wp2_with fail
  refine H.out.mono ?_
  rintro e w1 ⟨rfl, ho, hg⟩
  go_wp2
  go_ret
  exact ⟨rfl, ho, grown_trans g0 hg⟩
end Go.Proofs.Ytollihgjcmiolaa
/- The walks of the laws FnExactFirstWrong and FnExactCheckFalls. -/
namespace Go.Proofs.Ytollihgjcmiolaa
open Go.RowKit
set_option linter.unusedVariables false
set_option linter.unusedSimpArgs false
set_option maxHeartbeats 400000
set_option maxRecDepth 100000
set_option maxRecDepth 100000 in
theorem lawFirstWrong_any (wd hg : Int) (a : Option Addr) (cap : Nat) (ps : List Pc) (a1 : Option Addr) (cap1 : Nat) (pl : List Pu) (a2 : Option Addr) (cap2 : Nat) (fs : List Fa) (w : World) (hps : PcsAt w.heap.size w a ps) (hok : (Bd.mk wd hg ps).ok) (hl : ps.length ≤ 9223372036854775807)
    (h1 : SlAt w.heap.size w a1 (flat Pu.cells pl)) (ok1 : PusOk pl) (hl1 : pl.length ≤ 9223372036854775807) (h2 : SlAt w.heap.size w a2 (flat Fa.cells fs)) (ok2 : FasOk fs) (hl2 : fs.length ≤ 9223372036854775807) :
    Calls Try.prog 3 #[bdv wd hg (.slice a ps.length cap), .slice a1 pl.length cap1, .slice a2 fs.length cap2] w fun e w' => e = .returned (.bool true) ∧ Below w.heap.size w w' := by
  by_cases hn : ps.length ≤ 1048576
  · have Hs := Lib.hid (show szv ps.length 1048576 = 1048576 - ps.length by unfold szv; rw [if_neg (by omega)])
    by_cases hn1 : ps.length + pl.length ≤ 1048576
    · have Hs1 := Lib.hid (show szv pl.length (1048576 - ps.length) = 1048576 - ps.length - pl.length by unfold szv; rw [if_neg (by omega)])
      by_cases hn2 : ps.length + pl.length + fs.length ≤ 1048576
      · have Hs2 := Lib.hid (show szv fs.length (1048576 - ps.length - pl.length) = 1048576 - ps.length - pl.length - fs.length by unfold szv; rw [if_neg (by omega)])
        have P0 : PV w (.slice a ps.length cap) ps := ⟨a, cap, rfl, hps⟩
        have Q0 : RV Pu.cells w (.slice a1 pl.length cap1) pl := ⟨a1, cap1, rfl, h1⟩
        have R0 : RV Fa.cells w (.slice a2 fs.length cap2) fs := ⟨a2, cap2, rfl, h2⟩
        have X0 := BX3.new w (.int .i8 wd) (.int .i8 hg) (.slice a ps.length cap) 25
        obtain ⟨rv, hrv⟩ : ∃ rv, rv = fwVal ⟨wd, hg, ps⟩ pl fs := ⟨_, rfl⟩
        obtain ⟨rc, hrc⟩ : ∃ rc, rc = fwCode ⟨wd, hg, ps⟩ pl fs := ⟨_, rfl⟩
        have CS := fun s va vb w' (h : PV w' s ps) (h1 : SV Pu.cells w' va pl) (h2 : SV Fa.cells w' vb fs) => specFirstWrong_any wd hg s ps va pl vb fs w' h hok (by omega) h1 ok1 (by omega) h2 ok2 (by omega)
        have CI := fun s va vb w' (h : PV w' s ps) (h1 : SV Pu.cells w' va pl) (h2 : SV Fa.cells w' vb fs) => firstWrong_any wd hg s ps va pl vb fs w' h hok (by omega) h1 ok1 (by omega) h2 ok2 (by omega)
        rw [← hrv, ← hrc] at CS CI
        have CS := Lib.hid CS
        have CI := Lib.hid CI
        clear hrv hrc h1 h2 hps
        go_enter Try.func3, Try.ntmps3
        go_wp2_with fail
        refine (szBoard_any wd hg a ps.length cap _ _ (by omega) (by omega) (by omega)).mono ?_
        rintro e u ⟨rfl, bu⟩
        rw [Hs.out]
        have A0 := (P0.step (bl_alloc (Below.refl _ _))).step bu
        have A1 := (Q0.step (bl_alloc (Below.refl _ _))).step bu
        have A2 := (R0.step (bl_alloc (Below.refl _ _))).step bu
        have AX := X0.step bu
        have bu0 : Below w.heap.size w u := bl_trans (bl_alloc (Below.refl _ _)) bu
        go_wp2_with fail
        refine (szPushS_any a1 pl.length cap1 _ _ (by omega) (by omega) (by omega)).mono ?_
        rintro e w' ⟨rfl, rfl⟩
        rw [Hs1.out]
        go_wp2_with fail
        refine (szFallS_any a2 fs.length cap2 _ _ (by omega) (by omega) (by omega)).mono ?_
        rintro e w' ⟨rfl, rfl⟩
        rw [Hs2.out]
        go_wp2_with fail
        refine (toBoard_pv (b := ⟨wd, hg, ps⟩) ⟨_, rfl, A0⟩ (by simp; omega)).mono ?_
        rintro e w1 ⟨vm, rfl, Om1, b1⟩
        have AP1 := A0.step b1
        have AQ1 := A1.step b1
        have AR1 := A2.step b1
        have AX1 := AX.step b1
        have B1 := b1
        obtain ⟨am, capm, rfl, -⟩ := own_at Om1
        go_wp2_with fail
        refine (toPushS_rv AQ1 (by omega)).mono ?_
        rintro e w2 ⟨vmp, rfl, Omp2, b2⟩
        have AP2 := AP1.step b2
        have AQ2 := AQ1.step b2
        have AR2 := AR1.step b2
        have AX2 := AX1.step b2
        have Nmmp := own_apart Om1 Omp2 (by first | exact Nat.le_refl _ | simp)
        have Nmpm := own_apart' Om1 Omp2 (by first | exact Nat.le_refl _ | simp)
        have Om2 := own_below Om1 b2 (Nat.le_refl _)
        have B2 := bl_trans B1 b2
        obtain ⟨amp, capmp, rfl, -⟩ := own_at Omp2
        go_wp2_with fail
        refine (toFallS_rv AR2 (by omega)).mono ?_
        rintro e w3 ⟨vmf, rfl, Omf3, b3⟩
        have AP3 := AP2.step b3
        have AQ3 := AQ2.step b3
        have AR3 := AR2.step b3
        have AX3 := AX2.step b3
        have Nmmf := own_apart Om2 Omf3 (by first | exact Nat.le_refl _ | simp)
        have Nmfm := own_apart' Om2 Omf3 (by first | exact Nat.le_refl _ | simp)
        have Nmpmf := own_apart Omp2 Omf3 (by first | exact Nat.le_refl _ | simp)
        have Nmfmp := own_apart' Omp2 Omf3 (by first | exact Nat.le_refl _ | simp)
        have Om3 := own_below Om2 b3 (Nat.le_refl _)
        have Omp3 := own_below Omp2 b3 (Nat.le_refl _)
        have B3 := bl_trans B2 b3
        obtain ⟨amf, capmf, rfl, -⟩ := own_at Omf3
        go_wp2_with fail
        refine (CS.out _ _ _ _ (own_pv Om3) (own_rv Omp3) (own_rv Omf3)).mono ?_
        rintro e w4 ⟨rfl, b4⟩
        have AP4 := AP3.step b4
        have AQ4 := AQ3.step b4
        have AR4 := AR3.step b4
        have AX4 := AX3.step b4
        have Om4 := own_below Om3 b4 (Nat.le_refl _)
        have Omp4 := own_below Omp3 b4 (Nat.le_refl _)
        have Omf4 := own_below Omf3 b4 (Nat.le_refl _)
        have B4 := bl_trans B3 b4
        go_wp2_with fail
        refine (toBoard_pv (b := ⟨wd, hg, ps⟩) ⟨_, rfl, AP4⟩ (by simp; omega)).mono ?_
        rintro e w5 ⟨vx, rfl, Ox5, b5⟩
        have AP5 := AP4.step b5
        have AQ5 := AQ4.step b5
        have AR5 := AR4.step b5
        have AX5 := AX4.step b5
        have B5 := bl_trans B4 b5
        obtain ⟨ax, capx, rfl, -⟩ := own_at Ox5
        go_wp2_with fail
        refine (toPushS_rv (AQ5.step (bl_alloc (Below.refl _ _))) (by omega)).mono ?_
        rintro e w6 ⟨vy, rfl, Oy6, c6⟩
        have b6 := bl_trans (bl_alloc (o := .cells #[.int .i8 wd, .int .i8 hg, .slice ax ps.length capx] 35) (Below.refl w5.heap.size w5)) c6
        have AY6 := (BX3.new w5 (.int .i8 wd) (.int .i8 hg) (.slice ax ps.length capx) 35).step c6
        have AP6 := AP5.step b6
        have AQ6 := AQ5.step b6
        have AR6 := AR5.step b6
        have AX6 := AX5.step b6
        have Nxy := own_apart Ox5 Oy6 (by first | exact Nat.le_refl _ | simp)
        have Nyx := own_apart' Ox5 Oy6 (by first | exact Nat.le_refl _ | simp)
        have Ox6 := own_below Ox5 b6 (Nat.le_refl _)
        have B6 := bl_trans B5 b6
        obtain ⟨ay, capy, rfl, -⟩ := own_at Oy6
        go_wp2_with fail
        refine (toFallS_rv AR6 (by omega)).mono ?_
        rintro e w7 ⟨vz, rfl, Oz7, b7⟩
        have AP7 := AP6.step b7
        have AQ7 := AQ6.step b7
        have AR7 := AR6.step b7
        have AX7 := AX6.step b7
        have AY7 := AY6.step b7
        have Nxz := own_apart Ox6 Oz7 (by first | exact Nat.le_refl _ | simp)
        have Nzx := own_apart' Ox6 Oz7 (by first | exact Nat.le_refl _ | simp)
        have Nyz := own_apart Oy6 Oz7 (by first | exact Nat.le_refl _ | simp)
        have Nzy := own_apart' Oy6 Oz7 (by first | exact Nat.le_refl _ | simp)
        have Ox7 := own_below Ox6 b7 (Nat.le_refl _)
        have Oy7 := own_below Oy6 b7 (Nat.le_refl _)
        have B7 := bl_trans B6 b7
        obtain ⟨az, capz, rfl, -⟩ := own_at Oz7
        go_wp2_with fail
        refine (CI.out _ _ _ _ (own_pv Ox7) (own_rv Oy7) (own_rv Oz7)).mono ?_
        rintro e w8 ⟨rfl, b8⟩
        have AP8 := AP7.step b8
        have AQ8 := AQ7.step b8
        have AR8 := AR7.step b8
        have AX8 := AX7.step b8
        have AY8 := AY7.step b8
        have Ox8 := own_below Ox7 b8 (Nat.le_refl _)
        have Oy8 := own_below Oy7 b8 (Nat.le_refl _)
        have Oz8 := own_below Oz7 b8 (Nat.le_refl _)
        have B8 := bl_trans B7 b8
        go_upto_region 18 with fail
        have CK := Lib.hid (fun w' (h : Below w8.heap.size w8 w') => toBoard_pv (b := ⟨wd, hg, ps⟩) (w := w') ⟨_, rfl, AP8.step h⟩ (by simp; omega))
        have CL := Lib.hid (fun w' s' (h : Below w8.heap.size w8 w') (h' : PV w' s' ps) => eqBoard_yes (b := ⟨wd, hg, ps⟩) (w := w') ⟨_, rfl, (own_pv Ox8).step h⟩ ⟨s', rfl, h'⟩ (by simp; omega))
        go_region_held3 (fun w' => Below w8.heap.size w8 w' ∧ ∀ b o, b < w8.heap.size → w'.cell? ⟨b, o, none⟩ = w8.cell? ⟨b, o, none⟩) ((refine ext_s ?_; exact (by repeat (first | with_reducible exact Below.refl _ _ | with_reducible assumption | with_reducible apply bl_drewN | with_reducible apply bl_drew | with_reducible apply bl_alloc | (with_reducible refine bl_set ?_ (by first | (simp; done) | (simp; omega)) _) | with_reducible refine bl_trans ?_ (by with_reducible assumption))))) (first | (go_at_call 11; refine (CK.out _ ?_).mono ?_; (exact (by repeat (first | with_reducible exact Below.refl _ _ | with_reducible assumption | with_reducible apply bl_drewN | with_reducible apply bl_drew | with_reducible apply bl_alloc | (with_reducible refine bl_set ?_ (by first | (simp; done) | (simp; omega)) _) | with_reducible refine bl_trans ?_ (by with_reducible assumption)))); rintro e wa ⟨sa, rfl, Oa, ba⟩; obtain ⟨hca, hfa⟩ := bcell ba) | (go_at_call 15; refine (CL.out _ _ ?_ (own_pv Oa)).mono ?_; (exact (by repeat (first | with_reducible exact Below.refl _ _ | with_reducible assumption | with_reducible apply bl_drewN | with_reducible apply bl_drew | with_reducible apply bl_alloc | (with_reducible refine bl_set ?_ (by first | (simp; done) | (simp; omega)) _) | with_reducible refine bl_trans ?_ (by with_reducible assumption)))); rintro e w9 ⟨rfl, be⟩))
        have b9 : Below w8.heap.size w8 w9 := (by repeat (first | with_reducible exact Below.refl _ _ | with_reducible assumption | with_reducible apply bl_drewN | with_reducible apply bl_drew | with_reducible apply bl_alloc | (with_reducible refine bl_set ?_ (by first | (simp; done) | (simp; omega)) _) | with_reducible refine bl_trans ?_ (by with_reducible assumption)))
        clear CK CL
        have AP9 := AP8.step b9
        have AQ9 := AQ8.step b9
        have AR9 := AR8.step b9
        have AX9 := AX8.step b9
        have AY9 := AY8.step b9
        have Ox9 := own_below Ox8 b9 (Nat.le_refl _)
        have Oy9 := own_below Oy8 b9 (Nat.le_refl _)
        have Oz9 := own_below Oz8 b9 (Nat.le_refl _)
        have B9 := bl_trans B8 b9
        go_wp2_with fail
        refine (toPushS_rv AQ9 (by omega)).mono ?_
        rintro e w10 ⟨vp, rfl, Op10, b10⟩
        have AP10 := AP9.step b10
        have AQ10 := AQ9.step b10
        have AR10 := AR9.step b10
        have AX10 := AX9.step b10
        have AY10 := AY9.step b10
        have Nyp := own_apart Oy9 Op10 (by first | exact Nat.le_refl _ | simp)
        have Npy := own_apart' Oy9 Op10 (by first | exact Nat.le_refl _ | simp)
        have Nzp := own_apart Oz9 Op10 (by first | exact Nat.le_refl _ | simp)
        have Npz := own_apart' Oz9 Op10 (by first | exact Nat.le_refl _ | simp)
        have Oy10 := own_below Oy9 b10 (Nat.le_refl _)
        have Oz10 := own_below Oz9 b10 (Nat.le_refl _)
        have B10 := bl_trans B9 b10
        obtain ⟨ap, capp, rfl, -⟩ := own_at Op10
        go_wp2_with fail
        refine (eqPushS_yes (own_rv Oy10) (own_rv Op10) (by omega)).mono ?_
        rintro e w11 ⟨rfl, b11⟩
        have AP11 := AP10.step b11
        have AQ11 := AQ10.step b11
        have AR11 := AR10.step b11
        have AX11 := AX10.step b11
        have AY11 := AY10.step b11
        have Oy11 := own_below Oy10 b11 (Nat.le_refl _)
        have Oz11 := own_below Oz10 b11 (Nat.le_refl _)
        have Op11 := own_below Op10 b11 (Nat.le_refl _)
        have B11 := bl_trans B10 b11
        go_wp2_with fail
        refine (toFallS_rv AR11 (by omega)).mono ?_
        rintro e w12 ⟨vq, rfl, Oq12, b12⟩
        have AP12 := AP11.step b12
        have AQ12 := AQ11.step b12
        have AR12 := AR11.step b12
        have AX12 := AX11.step b12
        have AY12 := AY11.step b12
        have Nzq := own_apart Oz11 Oq12 (by first | exact Nat.le_refl _ | simp)
        have Nqz := own_apart' Oz11 Oq12 (by first | exact Nat.le_refl _ | simp)
        have Oz12 := own_below Oz11 b12 (Nat.le_refl _)
        have B12 := bl_trans B11 b12
        obtain ⟨aq, capq, rfl, -⟩ := own_at Oq12
        go_wp2_with fail
        refine (eqFallS_yes (own_rv Oz12) (own_rv Oq12) (by omega)).mono ?_
        rintro e w13 ⟨rfl, b13⟩
        have AP13 := AP12.step b13
        have AQ13 := AQ12.step b13
        have AR13 := AR12.step b13
        have AX13 := AX12.step b13
        have AY13 := AY12.step b13
        have Oz13 := own_below Oz12 b13 (Nat.le_refl _)
        have Oq13 := own_below Oq12 b13 (Nat.le_refl _)
        have B13 := bl_trans B12 b13
        go_wp2
        go_ret
        exact ⟨rfl, bl_trans bu0 B13⟩
      · have Hs2 := Lib.hid (show szv fs.length (1048576 - ps.length - pl.length) = -1 by unfold szv; rw [if_pos (by omega)])
        go_enter Try.func3, Try.ntmps3
        go_wp2_with fail
        refine (szBoard_any wd hg a ps.length cap _ _ (by omega) (by omega) (by omega)).mono ?_
        rintro e u ⟨rfl, bu⟩
        rw [Hs.out]
        have bu0 : Below w.heap.size w u := bl_trans (bl_alloc (Below.refl _ _)) bu
        go_wp2_with fail
        refine (szPushS_any a1 pl.length cap1 _ _ (by omega) (by omega) (by omega)).mono ?_
        rintro e w' ⟨rfl, rfl⟩
        rw [Hs1.out]
        go_wp2_with fail
        refine (szFallS_any a2 fs.length cap2 _ _ (by omega) (by omega) (by omega)).mono ?_
        rintro e w' ⟨rfl, rfl⟩
        rw [Hs2.out]
        go_wp2
        go_ret
        exact ⟨rfl, bu0⟩
    · have Hs1 := Lib.hid (show szv pl.length (1048576 - ps.length) = -1 by unfold szv; rw [if_pos (by omega)])
      go_enter Try.func3, Try.ntmps3
      go_wp2_with fail
      refine (szBoard_any wd hg a ps.length cap _ _ (by omega) (by omega) (by omega)).mono ?_
      rintro e u ⟨rfl, bu⟩
      rw [Hs.out]
      have bu0 : Below w.heap.size w u := bl_trans (bl_alloc (Below.refl _ _)) bu
      go_wp2_with fail
      refine (szPushS_any a1 pl.length cap1 _ _ (by omega) (by omega) (by omega)).mono ?_
      rintro e w' ⟨rfl, rfl⟩
      rw [Hs1.out]
      go_wp2
      go_ret
      exact ⟨rfl, bu0⟩
  · have Hs := Lib.hid (show szv ps.length 1048576 = -1 by unfold szv; rw [if_pos (by omega)])
    go_enter Try.func3, Try.ntmps3
    go_wp2_with fail
    refine (szBoard_any wd hg a ps.length cap _ _ (by omega) (by omega) (by omega)).mono ?_
    rintro e u ⟨rfl, bu⟩
    rw [Hs.out]
    have bu0 : Below w.heap.size w u := bl_trans (bl_alloc (Below.refl _ _)) bu
    go_wp2
    go_ret
    exact ⟨rfl, bu0⟩
set_option maxRecDepth 100000 in
theorem lawCheckFalls_any (wd hg : Int) (a : Option Addr) (cap : Nat) (ps : List Pc) (a1 : Option Addr) (cap1 : Nat) (pl : List Pu) (a2 : Option Addr) (cap2 : Nat) (fs : List Fa) (w : World) (hps : PcsAt w.heap.size w a ps) (hok : (Bd.mk wd hg ps).ok) (hl : ps.length ≤ 9223372036854775807)
    (h1 : SlAt w.heap.size w a1 (flat Pu.cells pl)) (ok1 : PusOk pl) (hl1 : pl.length ≤ 9223372036854775807) (h2 : SlAt w.heap.size w a2 (flat Fa.cells fs)) (ok2 : FasOk fs) (hl2 : fs.length ≤ 9223372036854775807) :
    Calls Try.prog 4 #[bdv wd hg (.slice a ps.length cap), .slice a1 pl.length cap1, .slice a2 fs.length cap2] w fun e w' => e = .returned (.bool true) ∧ Below w.heap.size w w' := by
  by_cases hn : ps.length ≤ 1048576
  · have Hs := Lib.hid (show szv ps.length 1048576 = 1048576 - ps.length by unfold szv; rw [if_neg (by omega)])
    by_cases hn1 : ps.length + pl.length ≤ 1048576
    · have Hs1 := Lib.hid (show szv pl.length (1048576 - ps.length) = 1048576 - ps.length - pl.length by unfold szv; rw [if_neg (by omega)])
      by_cases hn2 : ps.length + pl.length + fs.length ≤ 1048576
      · have Hs2 := Lib.hid (show szv fs.length (1048576 - ps.length - pl.length) = 1048576 - ps.length - pl.length - fs.length by unfold szv; rw [if_neg (by omega)])
        have P0 : PV w (.slice a ps.length cap) ps := ⟨a, cap, rfl, hps⟩
        have Q0 : RV Pu.cells w (.slice a1 pl.length cap1) pl := ⟨a1, cap1, rfl, h1⟩
        have R0 : RV Fa.cells w (.slice a2 fs.length cap2) fs := ⟨a2, cap2, rfl, h2⟩
        have X0 := BX3.new w (.int .i8 wd) (.int .i8 hg) (.slice a ps.length cap) 25
        obtain ⟨rv, hrv⟩ : ∃ rv, rv = cfVal ⟨wd, hg, ps⟩ pl fs := ⟨_, rfl⟩
        obtain ⟨rc, hrc⟩ : ∃ rc, rc = givenV ⟨wd, hg, ps⟩ pl fs := ⟨_, rfl⟩
        have CS := fun s va vb w' (h : PV w' s ps) (h1 : SV Pu.cells w' va pl) (h2 : SV Fa.cells w' vb fs) => specCheckFalls_any wd hg s ps va pl vb fs w' h hok (by omega) h1 ok1 (by omega) h2 ok2 (by omega)
        have CI := fun s va vb w' (h : PV w' s ps) (h1 : SV Pu.cells w' va pl) (h2 : SV Fa.cells w' vb fs) => checkFalls_any wd hg s ps va pl vb fs w' h hok (by omega) h1 ok1 (by omega) h2 ok2 (by omega)
        rw [← hrv, ← hrc] at CS CI
        have CS := Lib.hid CS
        have CI := Lib.hid CI
        clear hrv hrc h1 h2 hps
        go_enter Try.func4, Try.ntmps4
        go_wp2_with fail
        refine (szBoard_any wd hg a ps.length cap _ _ (by omega) (by omega) (by omega)).mono ?_
        rintro e u ⟨rfl, bu⟩
        rw [Hs.out]
        have A0 := (P0.step (bl_alloc (Below.refl _ _))).step bu
        have A1 := (Q0.step (bl_alloc (Below.refl _ _))).step bu
        have A2 := (R0.step (bl_alloc (Below.refl _ _))).step bu
        have AX := X0.step bu
        have bu0 : Below w.heap.size w u := bl_trans (bl_alloc (Below.refl _ _)) bu
        go_wp2_with fail
        refine (szPushS_any a1 pl.length cap1 _ _ (by omega) (by omega) (by omega)).mono ?_
        rintro e w' ⟨rfl, rfl⟩
        rw [Hs1.out]
        go_wp2_with fail
        refine (szFallS_any a2 fs.length cap2 _ _ (by omega) (by omega) (by omega)).mono ?_
        rintro e w' ⟨rfl, rfl⟩
        rw [Hs2.out]
        go_wp2_with fail
        refine (toBoard_pv (b := ⟨wd, hg, ps⟩) ⟨_, rfl, A0⟩ (by simp; omega)).mono ?_
        rintro e w1 ⟨vm, rfl, Om1, b1⟩
        have AP1 := A0.step b1
        have AQ1 := A1.step b1
        have AR1 := A2.step b1
        have AX1 := AX.step b1
        have B1 := b1
        obtain ⟨am, capm, rfl, -⟩ := own_at Om1
        go_wp2_with fail
        refine (toPushS_rv AQ1 (by omega)).mono ?_
        rintro e w2 ⟨vmp, rfl, Omp2, b2⟩
        have AP2 := AP1.step b2
        have AQ2 := AQ1.step b2
        have AR2 := AR1.step b2
        have AX2 := AX1.step b2
        have Nmmp := own_apart Om1 Omp2 (by first | exact Nat.le_refl _ | simp)
        have Nmpm := own_apart' Om1 Omp2 (by first | exact Nat.le_refl _ | simp)
        have Om2 := own_below Om1 b2 (Nat.le_refl _)
        have B2 := bl_trans B1 b2
        obtain ⟨amp, capmp, rfl, -⟩ := own_at Omp2
        go_wp2_with fail
        refine (toFallS_rv AR2 (by omega)).mono ?_
        rintro e w3 ⟨vmf, rfl, Omf3, b3⟩
        have AP3 := AP2.step b3
        have AQ3 := AQ2.step b3
        have AR3 := AR2.step b3
        have AX3 := AX2.step b3
        have Nmmf := own_apart Om2 Omf3 (by first | exact Nat.le_refl _ | simp)
        have Nmfm := own_apart' Om2 Omf3 (by first | exact Nat.le_refl _ | simp)
        have Nmpmf := own_apart Omp2 Omf3 (by first | exact Nat.le_refl _ | simp)
        have Nmfmp := own_apart' Omp2 Omf3 (by first | exact Nat.le_refl _ | simp)
        have Om3 := own_below Om2 b3 (Nat.le_refl _)
        have Omp3 := own_below Omp2 b3 (Nat.le_refl _)
        have B3 := bl_trans B2 b3
        obtain ⟨amf, capmf, rfl, -⟩ := own_at Omf3
        go_wp2_with fail
        refine (CS.out _ _ _ _ (own_pv Om3) (own_rv Omp3) (own_rv Omf3)).mono ?_
        rintro e w4 ⟨rfl, b4⟩
        have AP4 := AP3.step b4
        have AQ4 := AQ3.step b4
        have AR4 := AR3.step b4
        have AX4 := AX3.step b4
        have Om4 := own_below Om3 b4 (Nat.le_refl _)
        have Omp4 := own_below Omp3 b4 (Nat.le_refl _)
        have Omf4 := own_below Omf3 b4 (Nat.le_refl _)
        have B4 := bl_trans B3 b4
        go_wp2_with fail
        refine (toBoard_pv (b := ⟨wd, hg, ps⟩) ⟨_, rfl, AP4⟩ (by simp; omega)).mono ?_
        rintro e w5 ⟨vx, rfl, Ox5, b5⟩
        have AP5 := AP4.step b5
        have AQ5 := AQ4.step b5
        have AR5 := AR4.step b5
        have AX5 := AX4.step b5
        have B5 := bl_trans B4 b5
        obtain ⟨ax, capx, rfl, -⟩ := own_at Ox5
        go_wp2_with fail
        refine (toPushS_rv (AQ5.step (bl_alloc (Below.refl _ _))) (by omega)).mono ?_
        rintro e w6 ⟨vy, rfl, Oy6, c6⟩
        have b6 := bl_trans (bl_alloc (o := .cells #[.int .i8 wd, .int .i8 hg, .slice ax ps.length capx] 35) (Below.refl w5.heap.size w5)) c6
        have AY6 := (BX3.new w5 (.int .i8 wd) (.int .i8 hg) (.slice ax ps.length capx) 35).step c6
        have AP6 := AP5.step b6
        have AQ6 := AQ5.step b6
        have AR6 := AR5.step b6
        have AX6 := AX5.step b6
        have Nxy := own_apart Ox5 Oy6 (by first | exact Nat.le_refl _ | simp)
        have Nyx := own_apart' Ox5 Oy6 (by first | exact Nat.le_refl _ | simp)
        have Ox6 := own_below Ox5 b6 (Nat.le_refl _)
        have B6 := bl_trans B5 b6
        obtain ⟨ay, capy, rfl, -⟩ := own_at Oy6
        go_wp2_with fail
        refine (toFallS_rv AR6 (by omega)).mono ?_
        rintro e w7 ⟨vz, rfl, Oz7, b7⟩
        have AP7 := AP6.step b7
        have AQ7 := AQ6.step b7
        have AR7 := AR6.step b7
        have AX7 := AX6.step b7
        have AY7 := AY6.step b7
        have Nxz := own_apart Ox6 Oz7 (by first | exact Nat.le_refl _ | simp)
        have Nzx := own_apart' Ox6 Oz7 (by first | exact Nat.le_refl _ | simp)
        have Nyz := own_apart Oy6 Oz7 (by first | exact Nat.le_refl _ | simp)
        have Nzy := own_apart' Oy6 Oz7 (by first | exact Nat.le_refl _ | simp)
        have Ox7 := own_below Ox6 b7 (Nat.le_refl _)
        have Oy7 := own_below Oy6 b7 (Nat.le_refl _)
        have B7 := bl_trans B6 b7
        obtain ⟨az, capz, rfl, -⟩ := own_at Oz7
        go_wp2_with fail
        refine (CI.out _ _ _ _ (own_pv Ox7) (own_rv Oy7) (own_rv Oz7)).mono ?_
        rintro e w8 ⟨rfl, b8⟩
        have AP8 := AP7.step b8
        have AQ8 := AQ7.step b8
        have AR8 := AR7.step b8
        have AX8 := AX7.step b8
        have AY8 := AY7.step b8
        have Ox8 := own_below Ox7 b8 (Nat.le_refl _)
        have Oy8 := own_below Oy7 b8 (Nat.le_refl _)
        have Oz8 := own_below Oz7 b8 (Nat.le_refl _)
        have B8 := bl_trans B7 b8
        go_upto_region 18 with fail
        have CK := Lib.hid (fun w' (h : Below w8.heap.size w8 w') => toBoard_pv (b := ⟨wd, hg, ps⟩) (w := w') ⟨_, rfl, AP8.step h⟩ (by simp; omega))
        have CL := Lib.hid (fun w' s' (h : Below w8.heap.size w8 w') (h' : PV w' s' ps) => eqBoard_yes (b := ⟨wd, hg, ps⟩) (w := w') ⟨_, rfl, (own_pv Ox8).step h⟩ ⟨s', rfl, h'⟩ (by simp; omega))
        go_region_held3 (fun w' => Below w8.heap.size w8 w' ∧ ∀ b o, b < w8.heap.size → w'.cell? ⟨b, o, none⟩ = w8.cell? ⟨b, o, none⟩) ((refine ext_s ?_; exact (by repeat (first | with_reducible exact Below.refl _ _ | with_reducible assumption | with_reducible apply bl_drewN | with_reducible apply bl_drew | with_reducible apply bl_alloc | (with_reducible refine bl_set ?_ (by first | (simp; done) | (simp; omega)) _) | with_reducible refine bl_trans ?_ (by with_reducible assumption))))) (first | (go_at_call 11; refine (CK.out _ ?_).mono ?_; (exact (by repeat (first | with_reducible exact Below.refl _ _ | with_reducible assumption | with_reducible apply bl_drewN | with_reducible apply bl_drew | with_reducible apply bl_alloc | (with_reducible refine bl_set ?_ (by first | (simp; done) | (simp; omega)) _) | with_reducible refine bl_trans ?_ (by with_reducible assumption)))); rintro e wa ⟨sa, rfl, Oa, ba⟩; obtain ⟨hca, hfa⟩ := bcell ba) | (go_at_call 15; refine (CL.out _ _ ?_ (own_pv Oa)).mono ?_; (exact (by repeat (first | with_reducible exact Below.refl _ _ | with_reducible assumption | with_reducible apply bl_drewN | with_reducible apply bl_drew | with_reducible apply bl_alloc | (with_reducible refine bl_set ?_ (by first | (simp; done) | (simp; omega)) _) | with_reducible refine bl_trans ?_ (by with_reducible assumption)))); rintro e w9 ⟨rfl, be⟩))
        have b9 : Below w8.heap.size w8 w9 := (by repeat (first | with_reducible exact Below.refl _ _ | with_reducible assumption | with_reducible apply bl_drewN | with_reducible apply bl_drew | with_reducible apply bl_alloc | (with_reducible refine bl_set ?_ (by first | (simp; done) | (simp; omega)) _) | with_reducible refine bl_trans ?_ (by with_reducible assumption)))
        clear CK CL
        have AP9 := AP8.step b9
        have AQ9 := AQ8.step b9
        have AR9 := AR8.step b9
        have AX9 := AX8.step b9
        have AY9 := AY8.step b9
        have Ox9 := own_below Ox8 b9 (Nat.le_refl _)
        have Oy9 := own_below Oy8 b9 (Nat.le_refl _)
        have Oz9 := own_below Oz8 b9 (Nat.le_refl _)
        have B9 := bl_trans B8 b9
        go_wp2_with fail
        refine (toPushS_rv AQ9 (by omega)).mono ?_
        rintro e w10 ⟨vp, rfl, Op10, b10⟩
        have AP10 := AP9.step b10
        have AQ10 := AQ9.step b10
        have AR10 := AR9.step b10
        have AX10 := AX9.step b10
        have AY10 := AY9.step b10
        have Nyp := own_apart Oy9 Op10 (by first | exact Nat.le_refl _ | simp)
        have Npy := own_apart' Oy9 Op10 (by first | exact Nat.le_refl _ | simp)
        have Nzp := own_apart Oz9 Op10 (by first | exact Nat.le_refl _ | simp)
        have Npz := own_apart' Oz9 Op10 (by first | exact Nat.le_refl _ | simp)
        have Oy10 := own_below Oy9 b10 (Nat.le_refl _)
        have Oz10 := own_below Oz9 b10 (Nat.le_refl _)
        have B10 := bl_trans B9 b10
        obtain ⟨ap, capp, rfl, -⟩ := own_at Op10
        go_wp2_with fail
        refine (eqPushS_yes (own_rv Oy10) (own_rv Op10) (by omega)).mono ?_
        rintro e w11 ⟨rfl, b11⟩
        have AP11 := AP10.step b11
        have AQ11 := AQ10.step b11
        have AR11 := AR10.step b11
        have AX11 := AX10.step b11
        have AY11 := AY10.step b11
        have Oy11 := own_below Oy10 b11 (Nat.le_refl _)
        have Oz11 := own_below Oz10 b11 (Nat.le_refl _)
        have Op11 := own_below Op10 b11 (Nat.le_refl _)
        have B11 := bl_trans B10 b11
        go_wp2_with fail
        refine (toFallS_rv AR11 (by omega)).mono ?_
        rintro e w12 ⟨vq, rfl, Oq12, b12⟩
        have AP12 := AP11.step b12
        have AQ12 := AQ11.step b12
        have AR12 := AR11.step b12
        have AX12 := AX11.step b12
        have AY12 := AY11.step b12
        have Nzq := own_apart Oz11 Oq12 (by first | exact Nat.le_refl _ | simp)
        have Nqz := own_apart' Oz11 Oq12 (by first | exact Nat.le_refl _ | simp)
        have Oz12 := own_below Oz11 b12 (Nat.le_refl _)
        have B12 := bl_trans B11 b12
        obtain ⟨aq, capq, rfl, -⟩ := own_at Oq12
        go_wp2_with fail
        refine (eqFallS_yes (own_rv Oz12) (own_rv Oq12) (by omega)).mono ?_
        rintro e w13 ⟨rfl, b13⟩
        have AP13 := AP12.step b13
        have AQ13 := AQ12.step b13
        have AR13 := AR12.step b13
        have AX13 := AX12.step b13
        have AY13 := AY12.step b13
        have Oz13 := own_below Oz12 b13 (Nat.le_refl _)
        have Oq13 := own_below Oq12 b13 (Nat.le_refl _)
        have B13 := bl_trans B12 b13
        go_wp2
        go_ret
        exact ⟨rfl, bl_trans bu0 B13⟩
      · have Hs2 := Lib.hid (show szv fs.length (1048576 - ps.length - pl.length) = -1 by unfold szv; rw [if_pos (by omega)])
        go_enter Try.func4, Try.ntmps4
        go_wp2_with fail
        refine (szBoard_any wd hg a ps.length cap _ _ (by omega) (by omega) (by omega)).mono ?_
        rintro e u ⟨rfl, bu⟩
        rw [Hs.out]
        have bu0 : Below w.heap.size w u := bl_trans (bl_alloc (Below.refl _ _)) bu
        go_wp2_with fail
        refine (szPushS_any a1 pl.length cap1 _ _ (by omega) (by omega) (by omega)).mono ?_
        rintro e w' ⟨rfl, rfl⟩
        rw [Hs1.out]
        go_wp2_with fail
        refine (szFallS_any a2 fs.length cap2 _ _ (by omega) (by omega) (by omega)).mono ?_
        rintro e w' ⟨rfl, rfl⟩
        rw [Hs2.out]
        go_wp2
        go_ret
        exact ⟨rfl, bu0⟩
    · have Hs1 := Lib.hid (show szv pl.length (1048576 - ps.length) = -1 by unfold szv; rw [if_pos (by omega)])
      go_enter Try.func4, Try.ntmps4
      go_wp2_with fail
      refine (szBoard_any wd hg a ps.length cap _ _ (by omega) (by omega) (by omega)).mono ?_
      rintro e u ⟨rfl, bu⟩
      rw [Hs.out]
      have bu0 : Below w.heap.size w u := bl_trans (bl_alloc (Below.refl _ _)) bu
      go_wp2_with fail
      refine (szPushS_any a1 pl.length cap1 _ _ (by omega) (by omega) (by omega)).mono ?_
      rintro e w' ⟨rfl, rfl⟩
      rw [Hs1.out]
      go_wp2
      go_ret
      exact ⟨rfl, bu0⟩
  · have Hs := Lib.hid (show szv ps.length 1048576 = -1 by unfold szv; rw [if_pos (by omega)])
    go_enter Try.func4, Try.ntmps4
    go_wp2_with fail
    refine (szBoard_any wd hg a ps.length cap _ _ (by omega) (by omega) (by omega)).mono ?_
    rintro e u ⟨rfl, bu⟩
    rw [Hs.out]
    have bu0 : Below w.heap.size w u := bl_trans (bl_alloc (Below.refl _ _)) bu
    go_wp2
    go_ret
    exact ⟨rfl, bu0⟩
end Go.Proofs.Ytollihgjcmiolaa
/- Opening arguments: boards and ways. -/
namespace Go.Proofs.Ytollihgjcmiolaa
open Go.RowKit Go.ChangeShapes Go.WideShapes Go.ChangeAt
set_option linter.unusedVariables false
set_option maxHeartbeats 400000
set_option maxRecDepth 100000
set_option linter.unusedSimpArgs false
theorem open_bd {H : Type} {enc : TypeId × Value → H} {w : World} {base : Nat} {r : Reach} {b0 : Nat} {spare : Nat → Bool} {held : Bool} {v : Value} {d : DataW H} {p : List MemPlace}
    (hv : Value.okWide Try.prog w r b0 25 v) (h : DataW.Trod enc Try.prog w base spare held 25 v d p) :
    ∃ wd hg a cap ps, v = bdv wd hg (.slice a (ps : List Pc).length cap) ∧ (Bd.mk wd hg ps).ok ∧ PcsAt w.heap.size w a ps ∧ ps.length ≤ maxLen := by
  obtain ⟨cs, rfl, hsz⟩ := okWide_struct Try.underlying25 hv
  obtain ⟨fuel, h⟩ := h
  obtain ⟨y0, y1, y2, n, -, hl, h0, h1, h2⟩ := Go.Deep.trod_struct3 Try.underlying25 h
  have hsz : cs.size = 3 := hsz
  obtain ⟨c0, c1, c2, rfl⟩ : ∃ c0 c1 c2, cs = #[c0, c1, c2] := by
    obtain ⟨l⟩ := cs
    match l, hsz with
    | [c0, c1, c2], _ => exact ⟨c0, c1, c2, rfl⟩
  have f0 := trod_kinds (P := Try.prog) 2 22 [.i8] (by kernel_rfl) _ [c0] _ h0
  have f1 := trod_kinds (P := Try.prog) 2 22 [.i8] (by kernel_rfl) _ [c1] _ h1
  obtain ⟨a, cap, ps, e2, ok, sl, ln⟩ := sl_of_trod (s := 5) (cs := [c2]) (ok := Pc.ok) (f := Pc.cells) rfl (by omega) conv_pc Try.underlying23 (by kernel_rfl) (by kernel_rfl) h2
  obtain ⟨wd, _, e0, k0, -⟩ := fits_cons f0
  obtain ⟨hg, _, e1, k1, -⟩ := fits_cons f1
  simp only [List.cons.injEq] at e0 e1 e2
  obtain ⟨rfl, -⟩ := e0
  obtain ⟨rfl, -⟩ := e1
  obtain ⟨rfl, -⟩ := e2
  exact ⟨wd, hg, a, cap, ps, rfl, ⟨bounds_i8 k0, bounds_i8 k1, ok⟩, sl, ln⟩
theorem open_ce {H : Type} {enc : TypeId × Value → H} {w : World} {base : Nat} {r : Reach} {b0 : Nat} {spare : Nat → Bool} {held : Bool} {v : Value} {d : DataW H} {p : List MemPlace}
    (hv : Value.okWide Try.prog w r b0 57 v) (h : DataW.Trod enc Try.prog w base spare held 57 v d p) : ∃ c : Ce, v = c.val ∧ c.ok := by
  simp only [Value.okWide, Try.underlying57] at hv
  obtain ⟨cs, rfl, hsz, _⟩ := hv
  have hf : Fits [.i8, .i8] cs.toList := fits_of_trod (P := Try.prog) (by kernel_rfl) h
  obtain ⟨l⟩ := cs
  obtain ⟨a, _, e, h0, hf⟩ := fits_cons hf
  obtain ⟨b, _, rfl, h1, hf⟩ := fits_cons hf
  obtain rfl := fits_nil hf
  simp only at e
  subst e
  exact ⟨⟨a, b⟩, rfl, bounds_i8 h0, bounds_i8 h1⟩
end Go.Proofs.Ytollihgjcmiolaa
/- Pushes and falls out of the claim's open values. -/
namespace Go.Proofs.Ytollihgjcmiolaa
open Go.RowKit
theorem conv_pu (cs : List Value) (h : Fits [.i8, .i8, .i8, .i16] cs) : ∃ p : Pu, p.ok ∧ cs = p.cells := by
  obtain ⟨a, _, rfl, h0, h⟩ := fits_cons h
  obtain ⟨b, _, rfl, h1, h⟩ := fits_cons h
  obtain ⟨c, _, rfl, h2, h⟩ := fits_cons h
  obtain ⟨d, _, rfl, h3, h⟩ := fits_cons h
  obtain rfl := fits_nil h
  exact ⟨⟨a, b, c, d⟩, ⟨bounds_i8 h0, bounds_i8 h1, bounds_i8 h2, bounds_i16 h3⟩, rfl⟩
theorem conv_fa (cs : List Value) (h : Fits [.i64, .i8, .i64] cs) : ∃ p : Fa, p.ok ∧ cs = p.cells := by
  obtain ⟨a, _, rfl, h0, h⟩ := fits_cons h
  obtain ⟨b, _, rfl, h1, h⟩ := fits_cons h
  obtain ⟨c, _, rfl, h2, h⟩ := fits_cons h
  obtain rfl := fits_nil h
  exact ⟨⟨a, b, c⟩, ⟨bounds_i64 h0, bounds_i8 h1, bounds_i64 h2⟩, rfl⟩
end Go.Proofs.Ytollihgjcmiolaa
