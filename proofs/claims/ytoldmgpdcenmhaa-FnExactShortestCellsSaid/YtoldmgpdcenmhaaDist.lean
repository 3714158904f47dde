/- Contracts: DistancesFrom of both. -/
import Derived.Test.YtoldmgpdcenmhaaSteps
namespace Go.Proofs.Ytoldmgpdcenmhaa
open Go.RowKit
set_option linter.unusedVariables false
set_option linter.unusedSimpArgs false
set_option maxHeartbeats 400000
set_option maxRecDepth 100000
def farCode (l : Bd) (c : Ce) : Int := if vBd l = true then (if cIn l.wd l.hg c = true then (if fnd c l.ps < 0 then 0 else 4) else 2) else 1
def farList (l : Bd) (c : Ce) : List Int := if vBd l = true then (if cIn l.wd l.hg c = true then (if fnd c l.ps < 0 then outL l (bfs l c) else []) else []) else []
theorem farList_len (l : Bd) (c : Ce) : (farList l c).length ≤ 576 := by
  unfold farList
  split
  · rename_i h
    obtain ⟨h1, h2, h3, h4, -⟩ := vBd_bounds l h
    have : l.hg.toNat * l.wd.toNat ≤ 24 * 24 := Nat.mul_le_mul (by omega) (by omega)
    repeat' split
    all_goals first | (simp; done) | (rw [outL_len]; omega)
  · simp
set_option maxHeartbeats 1600000 in
theorem specDist_any (wd hg : Int) (s : Value) (ps : List Pc) (c : Ce) (hco : c.ok) (w : World) (hps : PV w s ps) (hok : (Bd.mk wd hg ps).ok) (hn : ps.length ≤ 10000000) :
    Calls Try.prog 7 #[bdv wd hg s, c.val] w fun e w' => ∃ v, e = .returned (.tuple #[v, .int .i64 (farCode ⟨wd, hg, ps⟩ c)]) ∧
      w'.ownsRow w.heap.size 2 1 v (farList ⟨wd, hg, ps⟩ c).length (flat N64_cells (farList ⟨wd, hg, ps⟩ c)) ∧ Below w.heap.size w w' := by
  obtain ⟨a, cap, rfl, hps⟩ := hps
  have HB := Lib.hid (BP.new (l := ⟨wd, hg, ps⟩) (w := w) ⟨a, cap, rfl, hps⟩ 33)
  obtain ⟨⟨d1, d2⟩, ⟨d3, d4⟩, -⟩ := id hok
  simp only at d1 d2 d3 d4
  rcases Bool.eq_false_or_eq_true (vBd ⟨wd, hg, ps⟩) with hv | hv
  · obtain ⟨b1, b2, b3, b4, b5⟩ := vBd_bounds _ hv
    simp only at b1 b2 b3 b4 b5
    rcases Bool.eq_false_or_eq_true (cIn wd hg c) with hi | hi
    · by_cases hf : fnd c ps < 0
      · have hfr : fr ⟨wd, hg, ps⟩ c = true := by unfold fr; simp only; rw [hi, decide_eq_true hf]; rfl
        have HC := Lib.hid (show farCode ⟨wd, hg, ps⟩ c = 0 by unfold farCode; simp only; rw [if_pos hv, if_pos hi, if_pos hf])
        have HL := Lib.hid (show farList ⟨wd, hg, ps⟩ c = outL ⟨wd, hg, ps⟩ (bfs ⟨wd, hg, ps⟩ c) by unfold farList; simp only; rw [if_pos hv, if_pos hi, if_pos hf])
        go_enter Try.func7, Try.ntmps7
        go_wp2_with fail
        refine (l01Ok_any w.heap.size ⟨wd, hg, ps⟩ _ (HB.out.step (by repeat (first | with_reducible exact Below.refl _ _ | with_reducible assumption | with_reducible apply bl_drewN | with_reducible apply bl_drew | with_reducible apply bl_alloc | (with_reducible refine bl_set ?_ (by first | (simp; done) | (simp; omega)) _) | with_reducible refine bl_trans ?_ (by with_reducible assumption)))) hok hn).mono ?_
        rintro e w1 ⟨rfl, hb1⟩
        rw [hv]
        obtain ⟨hc1, hf1⟩ := bcell hb1
        have hz := hb1.size
        simp at hz
        have q1 : w.heap.size < w1.heap.size := by omega
        have q2 : w.heap.size + 1 < w1.heap.size := by omega
        have HB1 := Lib.hid (HB.out.step (bl_trans (bl_alloc (Below.refl _ _)) hb1))
        go_wp2_with fail
        refine (l01In_any c hco wd hg _ (by omega) (by omega) (by omega) (by omega)).mono ?_
        rintro e w2 ⟨rfl, hb2⟩
        rw [hi]
        obtain ⟨hc2, hf2⟩ := bcell hb2
        have hz2 := hb2.size
        have q3 : w.heap.size + 1 < w2.heap.size := by omega
        have HB2 := Lib.hid (HB1.out.step hb2)
        go_wp2_with fail
        refine (l01Find_any w.heap.size ⟨wd, hg, ps⟩ c _ HB2.out hn).mono ?_
        rintro e w3 ⟨rfl, hb3⟩
        simp only
        have Hf := hf
        generalize fnd c ps = fv at Hf ⊢
        obtain ⟨hc3, hf3⟩ := bcell hb3
        have hz3 := hb3.size
        have q4 : w.heap.size + 1 < w3.heap.size := by omega
        have HB3 := Lib.hid (HB2.out.step hb3)
        go_wp2_with fail
        refine (l05Far_any w.heap.size ⟨wd, hg, ps⟩ c _ HB3.out hok hn hfr (by simp; omega) (by simp; omega)).mono ?_
        rintro e w4 ⟨v, rfl, ho4, hb4⟩
        have HO4 := Lib.hid ho4
        clear ho4
        go_wp2
        go_ret2
        exact ⟨v, by rw [HC.out]; rfl, by rw [HL.out]; exact own_mono HO4.out (by omega), (by repeat (first | with_reducible exact Below.refl _ _ | with_reducible assumption | with_reducible apply bl_drewN | with_reducible apply bl_drew | with_reducible apply bl_alloc | (with_reducible refine bl_set ?_ (by first | (simp; done) | (simp; omega)) _) | with_reducible refine bl_trans ?_ (by with_reducible assumption)))⟩
      · have HC := Lib.hid (show farCode ⟨wd, hg, ps⟩ c = 4 by unfold farCode; simp only; rw [if_pos hv, if_pos hi, if_neg hf])
        have HL := Lib.hid (show farList ⟨wd, hg, ps⟩ c = [] by unfold farList; simp only; rw [if_pos hv, if_pos hi, if_neg hf])
        go_enter Try.func7, Try.ntmps7
        go_wp2_with fail
        refine (l01Ok_any w.heap.size ⟨wd, hg, ps⟩ _ (HB.out.step (by repeat (first | with_reducible exact Below.refl _ _ | with_reducible assumption | with_reducible apply bl_drewN | with_reducible apply bl_drew | with_reducible apply bl_alloc | (with_reducible refine bl_set ?_ (by first | (simp; done) | (simp; omega)) _) | with_reducible refine bl_trans ?_ (by with_reducible assumption)))) hok hn).mono ?_
        rintro e w1 ⟨rfl, hb1⟩
        rw [hv]
        obtain ⟨hc1, hf1⟩ := bcell hb1
        have hz := hb1.size
        simp at hz
        have q1 : w.heap.size < w1.heap.size := by omega
        have q2 : w.heap.size + 1 < w1.heap.size := by omega
        have HB1 := Lib.hid (HB.out.step (bl_trans (bl_alloc (Below.refl _ _)) hb1))
        go_wp2_with fail
        refine (l01In_any c hco wd hg _ (by omega) (by omega) (by omega) (by omega)).mono ?_
        rintro e w2 ⟨rfl, hb2⟩
        rw [hi]
        obtain ⟨hc2, hf2⟩ := bcell hb2
        have hz2 := hb2.size
        have q3 : w.heap.size + 1 < w2.heap.size := by omega
        have HB2 := Lib.hid (HB1.out.step hb2)
        go_wp2_with fail
        refine (l01Find_any w.heap.size ⟨wd, hg, ps⟩ c _ HB2.out hn).mono ?_
        rintro e w3 ⟨rfl, hb3⟩
        simp only
        have Hf := hf
        generalize fnd c ps = fv at Hf ⊢
        obtain ⟨hc3, hf3⟩ := bcell hb3
        have hz3 := hb3.size
        have q4 : w.heap.size + 1 < w3.heap.size := by omega
        have HB3 := Lib.hid (HB2.out.step hb3)
        go_wp2
        go_ret2
        exact ⟨_, by rw [HC.out]; rfl, by rw [HL.out]; exact World.ownsRow_made _ _ 0 (by omega) (by simp [maxLen]) rfl, (by repeat (first | with_reducible exact Below.refl _ _ | with_reducible assumption | with_reducible apply bl_drewN | with_reducible apply bl_drew | with_reducible apply bl_alloc | (with_reducible refine bl_set ?_ (by first | (simp; done) | (simp; omega)) _) | with_reducible refine bl_trans ?_ (by with_reducible assumption)))⟩
    · have HC := Lib.hid (show farCode ⟨wd, hg, ps⟩ c = 2 by unfold farCode; simp only; rw [if_pos hv, if_neg (by simp [hi])])
      have HL := Lib.hid (show farList ⟨wd, hg, ps⟩ c = [] by unfold farList; simp only; rw [if_pos hv, if_neg (by simp [hi])])
      go_enter Try.func7, Try.ntmps7
      go_wp2_with fail
      refine (l01Ok_any w.heap.size ⟨wd, hg, ps⟩ _ (HB.out.step (by repeat (first | with_reducible exact Below.refl _ _ | with_reducible assumption | with_reducible apply bl_drewN | with_reducible apply bl_drew | with_reducible apply bl_alloc | (with_reducible refine bl_set ?_ (by first | (simp; done) | (simp; omega)) _) | with_reducible refine bl_trans ?_ (by with_reducible assumption)))) hok hn).mono ?_
      rintro e w1 ⟨rfl, hb1⟩
      rw [hv]
      obtain ⟨hc1, hf1⟩ := bcell hb1
      have hz := hb1.size
      simp at hz
      have q1 : w.heap.size < w1.heap.size := by omega
      have q2 : w.heap.size + 1 < w1.heap.size := by omega
      have HB1 := Lib.hid (HB.out.step (bl_trans (bl_alloc (Below.refl _ _)) hb1))
      go_wp2_with fail
      refine (l01In_any c hco wd hg _ (by omega) (by omega) (by omega) (by omega)).mono ?_
      rintro e w2 ⟨rfl, hb2⟩
      rw [hi]
      obtain ⟨hc2, hf2⟩ := bcell hb2
      have hz2 := hb2.size
      have q3 : w.heap.size + 1 < w2.heap.size := by omega
      have HB2 := Lib.hid (HB1.out.step hb2)
      go_wp2
      go_ret2
      exact ⟨_, by rw [HC.out]; rfl, by rw [HL.out]; exact World.ownsRow_made _ _ 0 (by omega) (by simp [maxLen]) rfl, (by repeat (first | with_reducible exact Below.refl _ _ | with_reducible assumption | with_reducible apply bl_drewN | with_reducible apply bl_drew | with_reducible apply bl_alloc | (with_reducible refine bl_set ?_ (by first | (simp; done) | (simp; omega)) _) | with_reducible refine bl_trans ?_ (by with_reducible assumption)))⟩
  · have HC := Lib.hid (show farCode ⟨wd, hg, ps⟩ c = 1 by unfold farCode; simp only; rw [if_neg (by simp [hv])])
    have HL := Lib.hid (show farList ⟨wd, hg, ps⟩ c = [] by unfold farList; simp only; rw [if_neg (by simp [hv])])
    go_enter Try.func7, Try.ntmps7
    go_wp2_with fail
    refine (l01Ok_any w.heap.size ⟨wd, hg, ps⟩ _ (HB.out.step (by repeat (first | with_reducible exact Below.refl _ _ | with_reducible assumption | with_reducible apply bl_drewN | with_reducible apply bl_drew | with_reducible apply bl_alloc | (with_reducible refine bl_set ?_ (by first | (simp; done) | (simp; omega)) _) | with_reducible refine bl_trans ?_ (by with_reducible assumption)))) hok hn).mono ?_
    rintro e w1 ⟨rfl, hb1⟩
    rw [hv]
    obtain ⟨hc1, hf1⟩ := bcell hb1
    have hz := hb1.size
    simp at hz
    have q1 : w.heap.size < w1.heap.size := by omega
    have q2 : w.heap.size + 1 < w1.heap.size := by omega
    have HB1 := Lib.hid (HB.out.step (bl_trans (bl_alloc (Below.refl _ _)) hb1))
    go_wp2
    go_ret2
    exact ⟨_, by rw [HC.out]; rfl, by rw [HL.out]; exact World.ownsRow_made _ _ 0 (by omega) (by simp [maxLen]) rfl, (by repeat (first | with_reducible exact Below.refl _ _ | with_reducible assumption | with_reducible apply bl_drewN | with_reducible apply bl_drew | with_reducible apply bl_alloc | (with_reducible refine bl_set ?_ (by first | (simp; done) | (simp; omega)) _) | with_reducible refine bl_trans ?_ (by with_reducible assumption)))⟩
set_option maxHeartbeats 1600000 in
theorem dist_any (wd hg : Int) (s : Value) (ps : List Pc) (c : Ce) (hco : c.ok) (w : World) (hps : PV w s ps) (hok : (Bd.mk wd hg ps).ok) (hn : ps.length ≤ 10000000) :
    Calls Try.prog 10 #[bdv wd hg s, c.val] w fun e w' => ∃ v, e = .returned (.tuple #[v, .int .i64 (farCode ⟨wd, hg, ps⟩ c)]) ∧
      w'.ownsRow w.heap.size 2 1 v (farList ⟨wd, hg, ps⟩ c).length (flat N64_cells (farList ⟨wd, hg, ps⟩ c)) ∧ Below w.heap.size w w' := by
  obtain ⟨a, cap, rfl, hps⟩ := hps
  have HB := Lib.hid (BP.new (l := ⟨wd, hg, ps⟩) (w := w) ⟨a, cap, rfl, hps⟩ 33)
  obtain ⟨⟨d1, d2⟩, ⟨d3, d4⟩, -⟩ := id hok
  simp only at d1 d2 d3 d4
  rcases Bool.eq_false_or_eq_true (vBd ⟨wd, hg, ps⟩) with hv | hv
  · obtain ⟨b1, b2, b3, b4, b5⟩ := vBd_bounds _ hv
    simp only at b1 b2 b3 b4 b5
    rcases Bool.eq_false_or_eq_true (cIn wd hg c) with hi | hi
    · by_cases hf : fnd c ps < 0
      · have hfr : fr ⟨wd, hg, ps⟩ c = true := by unfold fr; simp only; rw [hi, decide_eq_true hf]; rfl
        have HC := Lib.hid (show farCode ⟨wd, hg, ps⟩ c = 0 by unfold farCode; simp only; rw [if_pos hv, if_pos hi, if_pos hf])
        have HL := Lib.hid (show farList ⟨wd, hg, ps⟩ c = outL ⟨wd, hg, ps⟩ (bfs ⟨wd, hg, ps⟩ c) by unfold farList; simp only; rw [if_pos hv, if_pos hi, if_pos hf])
        go_enter Try.func10, Try.ntmps10
        go_wp2_with fail
        refine (validBoard_any wd hg a cap ps _ ((hps.below (bl_alloc (bl_alloc (Below.refl _ _))) (Nat.le_refl _)).mono (by simp; omega)) hok hn).mono ?_
        rintro e w1 ⟨rfl, hb1⟩
        rw [hv]
        obtain ⟨hc1, hf1⟩ := bcell hb1
        have hz := hb1.size
        simp at hz
        have q1 : w.heap.size < w1.heap.size := by omega
        have q2 : w.heap.size + 1 < w1.heap.size := by omega
        have HB1 := Lib.hid (HB.out.step (bl_trans (bl_alloc (Below.refl _ _)) hb1))
        go_wp2_with fail
        refine (has_any w.heap.size ⟨wd, hg, ps⟩ c _ HB1.out).mono ?_
        rintro e w2 ⟨rfl, hb2⟩
        simp only
        rw [hi]
        obtain ⟨hc2, hf2⟩ := bcell hb2
        have hz2 := hb2.size
        have q3 : w.heap.size + 1 < w2.heap.size := by omega
        have HB2 := Lib.hid (HB1.out.step hb2)
        go_wp2_with fail
        refine (at_any w.heap.size ⟨wd, hg, ps⟩ c _ HB2.out hok hn).mono ?_
        rintro e w3 ⟨rfl, hb3⟩
        simp only
        have Hf := hf
        generalize fnd c ps = fv at Hf ⊢
        obtain ⟨hc3, hf3⟩ := bcell hb3
        have hz3 := hb3.size
        have q4 : w.heap.size + 1 < w3.heap.size := by omega
        have HB3 := Lib.hid (HB2.out.step hb3)
        obtain ⟨bl, hbl⟩ : ∃ bl, bl = Bd.mk wd hg ps := ⟨_, rfl⟩
        have HL2 := Lib.hid (show farList ⟨wd, hg, ps⟩ c = (allC bl).map (dOf (bfs bl c)) by rw [HL.out, hbl]; rfl)
        obtain ⟨hcty, -⟩ := ceTy
        go_wp2_with fail
        refine (steps_any w.heap.size ⟨wd, hg, ps⟩ c _ HB3.out hok hn hfr (by simp; omega) (by simp; omega)).mono ?_
        rintro e w4 ⟨mf, rfl, hmf, hm4, hb4⟩
        rw [← hbl] at hm4
        have HM4 := Lib.hid hm4
        have hml4 := map_lt hm4
        clear hm4
        have HB4 := Lib.hid (HB3.out.step hb4)
        have hz4 := hb4.size
        go_wp2_with fail
        refine (cells_any w.heap.size ⟨wd, hg, ps⟩ _ (HB4.out.step (by repeat (first | with_reducible exact Below.refl _ _ | with_reducible assumption | with_reducible apply bl_drewN | with_reducible apply bl_drew | with_reducible apply bl_alloc | (with_reducible refine bl_set ?_ (by first | (simp; done) | (simp; omega)) _) | with_reducible refine bl_trans ?_ (by with_reducible assumption)))) b1 b2 b3 b4).mono ?_
        rintro e w5 ⟨cv, rfl, hcv, hb5⟩
        have hb45 : Below w4.heap.size w4 w5 := (by repeat (first | with_reducible exact Below.refl _ _ | with_reducible assumption | with_reducible apply bl_drewN | with_reducible apply bl_drew | with_reducible apply bl_alloc | (with_reducible refine bl_set ?_ (by first | (simp; done) | (simp; omega)) _) | with_reducible refine bl_trans ?_ (by with_reducible assumption)))
        have HM5 := Lib.hid (map_below HM4.out hb45 hml4)
        have HBW5 := Lib.hid (show Below w.heap.size w w5 from (by repeat (first | with_reducible exact Below.refl _ _ | with_reducible assumption | with_reducible apply bl_drewN | with_reducible apply bl_drew | with_reducible apply bl_alloc | (with_reducible refine bl_set ?_ (by first | (simp; done) | (simp; omega)) _) | with_reducible refine bl_trans ?_ (by with_reducible assumption))))
        obtain ⟨ca, ccap, rfl, csl, hcc, hcm⟩ := own_at hcv
        have hz5 := hb5.size
        simp only [World.size_alloc] at hz5
        have hml5 : mf < w5.heap.size := by omega
        have hgq := goodq_bq bl c (by rw [hbl]; exact hfr) (4 * 600)
        have hql := bq_len bl c (by rw [hbl]; exact hfr) (4 * 600) (by rw [hbl]; simp; omega) (by rw [hbl]; simp; omega)
        have HQB := Lib.hid (fun d => dOf_bd bl c (bfs bl c) hgq hql d)
        have HLL := Lib.hid (outL_len bl (bfs bl c))
        have hac : (allC bl).length ≤ 576 := by rw [hbl]; exact allC_len _ b1 b2 b3 b4
        have hacp : 0 < (allC bl).length := by
          have h1 := outL_len bl (bfs bl c)
          unfold outL at h1
          rw [List.length_map] at h1
          rw [h1, hbl]
          exact Nat.mul_pos (by simp; omega) (by simp; omega)
        rw [← hbl] at csl hcc hcm
        generalize hqq : bfs bl c = q at HM5 HQB HL2
        obtain ⟨cs, hcs⟩ : ∃ cs, cs = allC bl := ⟨_, rfl⟩
        rw [← hcs] at csl hcc hcm hac hacp HL2
        rw [hbl] at hcs
        rw [← hcs]
        clear HL HLL hgq hql hqq hcv hbl hcs hc1 hf1 hc2 hf2 hc3 hf3
        obtain ⟨i0, hi0, hiz0, hiz1, hiz2⟩ := info_parts Try.infoInt64
        go_wp2
        go_loopw [7, 29] (fun o i wr => ∃ j : Nat, j ≤ cs.length ∧ i = .int .i64 j ∧ ((j = 0 ∧ o = .slice (some ⟨w4.heap.size, 0, none⟩) 0 0) ∨ (0 < j ∧ wr.ownsRow w5.heap.size 2 1 o ((cs.take j).map (dOf q)).length (flat N64_cells ((cs.take j).map (dOf q))))) ∧ Below w5.heap.size w5 wr) (fun _ i _ => cs.length - (intOf i).toNat)
        case atStart => exact ⟨0, by omega, rfl, .inl ⟨rfl, rfl⟩, Below.refl _ _⟩
        case round =>
          obtain ⟨j, hj, rfl, ho, hb⟩ := hrel
          by_cases hlt : j < cs.length
          · obtain ⟨b', off, rfl, hbl', hat⟩ := ces_get (csl.below hb (Nat.le_refl _)) hlt
            unfold CeAt at hat
            obtain ⟨v1, v2⟩ := HQB.out cs[j]
            have hzr := hb.size
            have hmr := map_alloc (map_below HM5.out hb hml5) (.cells #[.int .i8 cs[j].x, .int .i8 cs[j].y] 35)
            have hk : (Instr.lookup 71 (.map (some mf)) (.agg #[.int .i8 cs[j].x, .int .i8 cs[j].y]) true).run Try.prog (wr.alloc (.cells #[.int .i8 cs[j].x, .int .i8 cs[j].y] 35)) = _ := run_far_ok hmr cs[j]
            have HT := Lib.hid (show (cs.take (j + 1)).map (dOf q) = (cs.take j).map (dOf q) ++ [dOf q cs[j]] by rw [List.take_succ_eq_append_getElem hlt, List.map_append]; rfl)
            have HLN := Lib.hid (show ((cs.take j).map (dOf q)).length = j by rw [List.length_map, List.length_take]; omega)
            have hdv : (cs[j] ∈ qcs q → (dget q cs[j]).getD 0 = dOf q cs[j]) ∧ (cs[j] ∉ qcs q → -1 = dOf q cs[j]) := by
              constructor
              · intro h
                obtain ⟨p, hp, e1, e2⟩ := dget_some q cs[j] h
                unfold dOf; rw [e2]; rfl
              · intro h
                unfold dOf; rw [dget_none q cs[j] h]; rfl
            generalize dOf q cs[j] = dv at hdv HT v1 v2
            rcases dec_cases (cs[j] ∈ qcs q) with ⟨g1, g1'⟩ | ⟨g1, g1'⟩
            · have h2 := hdv.1 g1'
              rw [g1, h2] at hk
              clear g1' hdv h2
              rcases ho with ⟨rfl, rfl⟩ | ⟨hjp, ho⟩
              · simp only [Nat.zero_mul, Nat.add_zero] at hat
                go_wp2_with (at_builtin; refine wpList_append_first _ rfl _ _ 28 rfl 2 i0 (.int .i64 0) 1 8 Try.underlying28 hi0 hiz0 hiz1 hiz2 rfl ⟨_, 0, none⟩ rfl ⟨_, 0, none⟩ 1 1 [.int .i64 dv] rfl (sl_newAt _ #[.int .i64 dv] _ _ (by simp)) rfl (by omega) (by unfold maxLen; omega) (by omega) ?_; intro o1 w7 hown1 hgrow)
                have hb7 : Below w5.heap.size w5 w7 := bl_grown (bl_alloc (bl_alloc hb)) hgrow (fun k hk => by cases hk)
                refine ⟨⟨1, by omega, by go_num, .inr ⟨by omega, ?_⟩, hb7⟩, by simp [intOf]; omega⟩
                have h9 := HT.out
                rw [Nat.zero_add] at h9
                rw [h9]
                exact own_mono hown1 (by simp; omega)
              · go_wp2_with (at_builtin; go_loud (refine wpList_append_sl _ rfl _ _ 28 rfl w5.heap.size 2 i0 (.int .i64 0) 1 8 Try.underlying28 hi0 hiz0 hiz1 hiz2 rfl (by decide) _ _ _ rfl (own_below (own_below ho (bl_alloc (Below.refl _ _)) (Nat.le_refl _)) (bl_alloc (Below.refl _ _)) (Nat.le_refl _)) (some ⟨_, 0, none⟩) 1 1 [.int .i64 dv] rfl (sl_newAt _ #[.int .i64 dv] _ _ (by simp)) rfl (N64_one dv) (by rw [HLN.out]; unfold maxLen; omega) (by rw [HLN.out]; omega) (by simp; omega) ?_; intro o1 w7 hown1 hgrow))
                have hb7 : Below w5.heap.size w5 w7 := bl_grown (bl_alloc (bl_alloc hb)) hgrow (fun k hk => (ho.lt k hk).1)
                refine ⟨⟨j + 1, by omega, by go_num, .inr ⟨by omega, ?_⟩, hb7⟩, by simp [intOf]; omega⟩
                rw [HT.out, List.length_append, flat_append]
                exact hown1
            · have h2 := hdv.2 g1'
              rw [g1] at hk
              clear g1' hdv
              subst h2
              rcases ho with ⟨rfl, rfl⟩ | ⟨hjp, ho⟩
              · simp only [Nat.zero_mul, Nat.add_zero] at hat
                go_wp2_with (at_builtin; refine wpList_append_first _ rfl _ _ 28 rfl 2 i0 (.int .i64 0) 1 8 Try.underlying28 hi0 hiz0 hiz1 hiz2 rfl ⟨_, 0, none⟩ rfl ⟨_, 0, none⟩ 1 1 [.int .i64 (-1)] rfl (sl_newAt _ #[.int .i64 (-1)] _ _ (by simp)) rfl (by omega) (by unfold maxLen; omega) (by omega) ?_; intro o1 w7 hown1 hgrow)
                have hb7 : Below w5.heap.size w5 w7 := bl_grown (bl_alloc (bl_alloc hb)) hgrow (fun k hk => by cases hk)
                refine ⟨⟨1, by omega, by go_num, .inr ⟨by omega, ?_⟩, hb7⟩, by simp [intOf]; omega⟩
                have h9 := HT.out
                rw [Nat.zero_add] at h9
                rw [h9]
                exact own_mono hown1 (by simp; omega)
              · go_wp2_with (at_builtin; go_loud (refine wpList_append_sl _ rfl _ _ 28 rfl w5.heap.size 2 i0 (.int .i64 0) 1 8 Try.underlying28 hi0 hiz0 hiz1 hiz2 rfl (by decide) _ _ _ rfl (own_below (own_below ho (bl_alloc (Below.refl _ _)) (Nat.le_refl _)) (bl_alloc (Below.refl _ _)) (Nat.le_refl _)) (some ⟨_, 0, none⟩) 1 1 [.int .i64 (-1)] rfl (sl_newAt _ #[.int .i64 (-1)] _ _ (by simp)) rfl (N64_one (-1)) (by rw [HLN.out]; unfold maxLen; omega) (by rw [HLN.out]; omega) (by simp; omega) ?_; intro o1 w7 hown1 hgrow))
                have hb7 : Below w5.heap.size w5 w7 := bl_grown (bl_alloc (bl_alloc hb)) hgrow (fun k hk => (ho.lt k hk).1)
                refine ⟨⟨j + 1, by omega, by go_num, .inr ⟨by omega, ?_⟩, hb7⟩, by simp [intOf]; omega⟩
                rw [HT.out, List.length_append, flat_append]
                exact hown1
          · have hjl : j = cs.length := by omega
            have hof := (ho.resolve_left (fun h => by omega)).2
            rw [List.take_of_length_le (by omega)] at hof
            have HO := Lib.hid hof
            have HBE := Lib.hid (bl_trans HBW5.out hb)
            clear hof ho
            go_wp2
            go_ret2
            exact ⟨_, by rw [HC.out]; rfl, by rw [HL2.out]; exact own_mono HO.out HBW5.out.size, HBE.out⟩
      · have HC := Lib.hid (show farCode ⟨wd, hg, ps⟩ c = 4 by unfold farCode; simp only; rw [if_pos hv, if_pos hi, if_neg hf])
        have HL := Lib.hid (show farList ⟨wd, hg, ps⟩ c = [] by unfold farList; simp only; rw [if_pos hv, if_pos hi, if_neg hf])
        go_enter Try.func10, Try.ntmps10
        go_wp2_with fail
        refine (validBoard_any wd hg a cap ps _ ((hps.below (bl_alloc (bl_alloc (Below.refl _ _))) (Nat.le_refl _)).mono (by simp; omega)) hok hn).mono ?_
        rintro e w1 ⟨rfl, hb1⟩
        rw [hv]
        obtain ⟨hc1, hf1⟩ := bcell hb1
        have hz := hb1.size
        simp at hz
        have q1 : w.heap.size < w1.heap.size := by omega
        have q2 : w.heap.size + 1 < w1.heap.size := by omega
        have HB1 := Lib.hid (HB.out.step (bl_trans (bl_alloc (Below.refl _ _)) hb1))
        go_wp2_with fail
        refine (has_any w.heap.size ⟨wd, hg, ps⟩ c _ HB1.out).mono ?_
        rintro e w2 ⟨rfl, hb2⟩
        simp only
        rw [hi]
        obtain ⟨hc2, hf2⟩ := bcell hb2
        have hz2 := hb2.size
        have q3 : w.heap.size + 1 < w2.heap.size := by omega
        have HB2 := Lib.hid (HB1.out.step hb2)
        go_wp2_with fail
        refine (at_any w.heap.size ⟨wd, hg, ps⟩ c _ HB2.out hok hn).mono ?_
        rintro e w3 ⟨rfl, hb3⟩
        simp only
        have Hf := hf
        generalize fnd c ps = fv at Hf ⊢
        obtain ⟨hc3, hf3⟩ := bcell hb3
        have hz3 := hb3.size
        have q4 : w.heap.size + 1 < w3.heap.size := by omega
        have HB3 := Lib.hid (HB2.out.step hb3)
        go_wp2
        go_ret2
        exact ⟨_, by rw [HC.out]; rfl, by rw [HL.out]; exact World.ownsRow_nil _ _ _ _, (by repeat (first | with_reducible exact Below.refl _ _ | with_reducible assumption | with_reducible apply bl_drewN | with_reducible apply bl_drew | with_reducible apply bl_alloc | (with_reducible refine bl_set ?_ (by first | (simp; done) | (simp; omega)) _) | with_reducible refine bl_trans ?_ (by with_reducible assumption)))⟩
    · have HC := Lib.hid (show farCode ⟨wd, hg, ps⟩ c = 2 by unfold farCode; simp only; rw [if_pos hv, if_neg (by simp [hi])])
      have HL := Lib.hid (show farList ⟨wd, hg, ps⟩ c = [] by unfold farList; simp only; rw [if_pos hv, if_neg (by simp [hi])])
      go_enter Try.func10, Try.ntmps10
      go_wp2_with fail
      refine (validBoard_any wd hg a cap ps _ ((hps.below (bl_alloc (bl_alloc (Below.refl _ _))) (Nat.le_refl _)).mono (by simp; omega)) hok hn).mono ?_
      rintro e w1 ⟨rfl, hb1⟩
      rw [hv]
      obtain ⟨hc1, hf1⟩ := bcell hb1
      have hz := hb1.size
      simp at hz
      have q1 : w.heap.size < w1.heap.size := by omega
      have q2 : w.heap.size + 1 < w1.heap.size := by omega
      have HB1 := Lib.hid (HB.out.step (bl_trans (bl_alloc (Below.refl _ _)) hb1))
      go_wp2_with fail
      refine (has_any w.heap.size ⟨wd, hg, ps⟩ c _ HB1.out).mono ?_
      rintro e w2 ⟨rfl, hb2⟩
      simp only
      rw [hi]
      obtain ⟨hc2, hf2⟩ := bcell hb2
      have hz2 := hb2.size
      have q3 : w.heap.size + 1 < w2.heap.size := by omega
      have HB2 := Lib.hid (HB1.out.step hb2)
      go_wp2
      go_ret2
      exact ⟨_, by rw [HC.out]; rfl, by rw [HL.out]; exact World.ownsRow_nil _ _ _ _, (by repeat (first | with_reducible exact Below.refl _ _ | with_reducible assumption | with_reducible apply bl_drewN | with_reducible apply bl_drew | with_reducible apply bl_alloc | (with_reducible refine bl_set ?_ (by first | (simp; done) | (simp; omega)) _) | with_reducible refine bl_trans ?_ (by with_reducible assumption)))⟩
  · have HC := Lib.hid (show farCode ⟨wd, hg, ps⟩ c = 1 by unfold farCode; simp only; rw [if_neg (by simp [hv])])
    have HL := Lib.hid (show farList ⟨wd, hg, ps⟩ c = [] by unfold farList; simp only; rw [if_neg (by simp [hv])])
    go_enter Try.func10, Try.ntmps10
    go_wp2_with fail
    refine (validBoard_any wd hg a cap ps _ ((hps.below (bl_alloc (bl_alloc (Below.refl _ _))) (Nat.le_refl _)).mono (by simp; omega)) hok hn).mono ?_
    rintro e w1 ⟨rfl, hb1⟩
    rw [hv]
    obtain ⟨hc1, hf1⟩ := bcell hb1
    have hz := hb1.size
    simp at hz
    have q1 : w.heap.size < w1.heap.size := by omega
    have q2 : w.heap.size + 1 < w1.heap.size := by omega
    have HB1 := Lib.hid (HB.out.step (bl_trans (bl_alloc (Below.refl _ _)) hb1))
    go_wp2
    go_ret2
    exact ⟨_, by rw [HC.out]; rfl, by rw [HL.out]; exact World.ownsRow_nil _ _ _ _, (by repeat (first | with_reducible exact Below.refl _ _ | with_reducible assumption | with_reducible apply bl_drewN | with_reducible apply bl_drew | with_reducible apply bl_alloc | (with_reducible refine bl_set ?_ (by first | (simp; done) | (simp; omega)) _) | with_reducible refine bl_trans ?_ (by with_reducible assumption)))⟩
end Go.Proofs.Ytoldmgpdcenmhaa
