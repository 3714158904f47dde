/- Contracts: the program's ShortestCells. -/
import Derived.Test.YtoldmgpdcenmhaaSh3
namespace Go.Proofs.Ytoldmgpdcenmhaa
open Go.RowKit
set_option linter.unusedVariables false
set_option linter.unusedSimpArgs false
set_option maxHeartbeats 400000
set_option maxRecDepth 100000
theorem own_types {w : World} {base base' e e' s s' n n' c' bo : Nat} {v : Value} {xs xs' : List Value} (h : w.ownsRow base e s v n xs) (h' : w.ownsRow base' e' s' (.slice (some ⟨bo, 0, none⟩) n' c') n' xs') (hne : e ≠ e') : ∀ k, v.ownBlock = some k → some k ≠ some bo := by
  intro k hk hkb
  cases hkb
  rcases h.2 with ⟨rfl, _⟩ | ⟨g, cap, cur, rfl, _, hg, _⟩
  · simp [Value.ownBlock] at hk
  · have hgk : g = bo := by simpa [Value.ownBlock] using hk
    subst hgk
    rcases h'.2 with ⟨h2, _⟩ | ⟨g', cap', cur', h2, _, hg', _⟩
    · cases h2
    · cases h2
      rw [hg] at hg'
      simp only [Option.some.injEq, Obj.cells.injEq] at hg'
      exact hne hg'.2.1
def outLen (w : World) (b : Nat) : Nat := match w.cell? ⟨b, 0, none⟩ with | some v => slLen v | none => 0
theorem outLen_eq {w : World} {b : Nat} {v : Value} (h : w.cell? ⟨b, 0, none⟩ = some v) : outLen w b = slLen v := by unfold outLen; rw [h]
theorem own_slLen {w : World} {base e s n : Nat} {v : Value} {xs : List Value} (h : w.ownsRow base e s v n xs) : slLen v = n := by
  obtain ⟨a, cap, rfl, -⟩ := own_at h
  rfl
set_option maxHeartbeats 3200000 in
theorem short_any (wd hg : Int) (s : Value) (ps : List Pc) (y : Wy) (hyo : y.ok) (w : World) (hps : PV w s ps) (hok : (Bd.mk wd hg ps).ok) (hn : ps.length ≤ 10000000) :
    Calls Try.prog 27 #[bdv wd hg s, y.val] w fun e w' => ∃ v, e = .returned (.tuple #[v, .int .i64 (shCode ⟨wd, hg, ps⟩ y)]) ∧
      w'.ownsRow w.heap.size 35 2 v (shList ⟨wd, hg, ps⟩ y).length (flat Ce.cells (shList ⟨wd, hg, ps⟩ y)) ∧ Below w.heap.size w w' := by
  obtain ⟨a, cap, rfl, hps⟩ := hps
  obtain ⟨w0, hw0⟩ : ∃ w0, w0 = (w.alloc (.cells #[.int .i8 wd, .int .i8 hg, .slice a ps.length cap] 33)).alloc (.cells #[.int .i8 y.fx, .int .i8 y.fy, .int .i8 y.sd, .int .i8 y.tx, .int .i8 y.ty, .int .i8 y.out] 58) := ⟨_, rfl⟩
  have HB := Lib.hid (show BP w0 w.heap.size ⟨wd, hg, ps⟩ by rw [hw0]; exact (BP.new (l := ⟨wd, hg, ps⟩) (w := w) ⟨a, cap, rfl, hps⟩ 33).step (bl_alloc (Below.refl _ _)))
  have hbd0 : BdAt w0 w.heap.size wd hg (.slice a ps.length cap) := by
    rw [hw0]
    refine ⟨?_, ?_, ?_⟩ <;> (rw [cell_alloc _ _ _ _ (by simp)]; rw [cell_of_row _ _ _ _ _ _ (heap_alloc_new w _)]; rfl)
  have hy0 : WyAt w0 (w.heap.size + 1) y := by
    have := WyAt.new (w.alloc (.cells #[.int .i8 wd, .int .i8 hg, .slice a ps.length cap] 33)) y 58
    rw [hw0]; simpa using this
  have HY := Lib.hid hy0
  have HBW := Lib.hid (show Below w.heap.size w w0 by rw [hw0]; exact bl_alloc (bl_alloc (Below.refl _ _)))
  have hz0 : w0.heap.size = w.heap.size + 2 := by rw [hw0]; simp
  have HW0 := Lib.hid hw0
  have hps0 : PcsAt w0.heap.size w0 a ps := (hps.below HBW.out (Nat.le_refl _)).mono HBW.out.size
  have HV := Lib.hid (impl_ValidWay_any wd hg a cap ps y w0 hps0 hok hyo hn)
  clear hw0 hps0 hps
  unfold BdAt at hbd0
  unfold WyAt at hy0
  rcases Bool.eq_false_or_eq_true (vBd ⟨wd, hg, ps⟩ && vWy ⟨wd, hg, ps⟩ y) with hv | hv
  · have hv2 := hv
    rw [Bool.and_eq_true] at hv2
    obtain ⟨hvb, hvw⟩ := hv2
    obtain ⟨b1, b2, b3, b4, b5⟩ := vBd_bounds _ hvb
    simp only at b1 b2 b3 b4 b5
    obtain ⟨hf1, hf2, p1, p2, p3, p4⟩ := vWy_parts _ y hvw
    have hC : shCode ⟨wd, hg, ps⟩ y = shC (bfs ⟨wd, hg, ps⟩ ⟨y.fx, y.fy⟩) y := by unfold shCode; rw [if_pos hv]
    have hL : shList ⟨wd, hg, ps⟩ y = shL (bfs ⟨wd, hg, ps⟩ ⟨y.fx, y.fy⟩) y := by unfold shList; rw [if_pos hv]
    have hgq := goodq_bq ⟨wd, hg, ps⟩ ⟨y.fx, y.fy⟩ hf1 (4 * 600)
    have hpq := parq_bq ⟨wd, hg, ps⟩ ⟨y.fx, y.fy⟩ (4 * 600)
    have hql := bq_len ⟨wd, hg, ps⟩ ⟨y.fx, y.fy⟩ hf1 (4 * 600) b2 b4
    have HST := Lib.hid (fun (w' : World) (hb : BP w' w.heap.size ⟨wd, hg, ps⟩) => steps_any w.heap.size ⟨wd, hg, ps⟩ ⟨y.fx, y.fy⟩ w' hb hok hn hf1 b2 b4)
    change goodq ⟨wd, hg, ps⟩ ⟨y.fx, y.fy⟩ (bfs ⟨wd, hg, ps⟩ ⟨y.fx, y.fy⟩) at hgq
    change parq (bfs ⟨wd, hg, ps⟩ ⟨y.fx, y.fy⟩) at hpq
    change (bfs ⟨wd, hg, ps⟩ ⟨y.fx, y.fy⟩).length ≤ 576 at hql
    rw [hC, hL]
    clear hC hL
    generalize bfs ⟨wd, hg, ps⟩ ⟨y.fx, y.fy⟩ = q at hgq hpq hql HST ⊢
    obtain ⟨i0, hi, hiz0, hiz1, hiz2⟩ := info_parts Try.infoCell
    have hC : shC q y = if dOf q ⟨y.tx, y.ty⟩ < 0 then 6 else if shBad q y = true then 4 else 0 := rfl
    have hL : shL q y = if dOf q ⟨y.tx, y.ty⟩ < 0 then [] else if shBad q y = true then [] else shPath q ⟨y.tx, y.ty⟩ := rfl
    have hSP : shPath q ⟨y.tx, y.ty⟩ = (pathTo q ⟨y.tx, y.ty⟩ ((dOf q ⟨y.tx, y.ty⟩).toNat + 1)).reverse := rfl
    have HPTH := Lib.hid (fun ht i => pth_props _ _ q hgq hpq b2 b4 ⟨y.tx, y.ty⟩ ht i)
    obtain ⟨d1, d2⟩ := dOf_bd _ _ q hgq hql ⟨y.tx, y.ty⟩
    have HNT := Lib.hid (dOf_neg _ _ q hgq ⟨y.tx, y.ty⟩)
    have HGQ := Lib.hid hgq
    have HPQ := Lib.hid hpq
    generalize hdd : dOf q ⟨y.tx, y.ty⟩ = dt at d1 d2 HNT hC hL hSP HPTH
    have HDD := Lib.hid hdd
    have Hv := Lib.hid hv
    clear hdd hgq hpq hv hvb hvw hf1 hf2
    have hC0 := Lib.hid hC
    have hL0 := Lib.hid hL
    have hSP0 := Lib.hid hSP
    clear hC hL hSP
    go_enter Try.func27, Try.ntmps27
    go_upto_region 1 with fail
    rw [← HW0.out]
    go_wp2_with fail
    refine HV.out.mono ?_
    rintro e w1 ⟨rfl, hb1⟩
    rw [Hv.out]
    obtain ⟨hc1, hf1⟩ := bcell hb1
    have hz1 := hb1.size
    have q1 : w.heap.size < w0.heap.size := by omega
    have q2 : w.heap.size + 1 < w0.heap.size := by omega
    go_wp2_with fail
    refine (HST.out _ (HB.out.step hb1)).mono ?_
    rintro e w2 ⟨mf, rfl, hmf, hm2, hb2⟩
    have hb02 := bl_trans hb1 hb2
    obtain ⟨hc2, hf2⟩ := bcell hb02
    have hk0 : (Instr.lookup 71 (.map (some mf)) (.agg #[.int .i8 y.tx, .int .i8 y.ty]) true).run Try.prog w2 = _ := run_far_ok hm2 ⟨y.tx, y.ty⟩
    have HM2 := Lib.hid hm2
    have hml := map_lt hm2
    have HB02 := Lib.hid hb02
    have HBW2 := Lib.hid (bl_trans HBW.out hb02)
    have hz2 := hb02.size
    have q3 : w.heap.size + 1 < w2.heap.size := by omega
    have q4 : w.heap.size < w2.heap.size := by omega
    have n1 : w.heap.size + 1 ≠ w2.heap.size := by omega
    have n2 : w.heap.size ≠ w2.heap.size := by omega
    have q5 : w.heap.size + 1 < w2.heap.size + 1 := by omega
    clear hm2 hc1 hf1 hb1 hb2 hb02
    rcases dec_cases ((⟨y.tx, y.ty⟩ : Ce) ∈ qcs q) with ⟨g1, g1'⟩ | ⟨g1, g1'⟩
    · have hge := HNT.out.2 g1'
      have HTQ := Lib.hid g1'
      rw [g1] at hk0
      obtain ⟨dn, hdn⟩ : ∃ dn : Nat, dt = (dn : Int) := ⟨dt.toNat, by omega⟩
      subst hdn
      have hC := hC0.out
      have hL := hL0.out
      have hSP := hSP0.out
      rw [if_neg (by omega)] at hC hL
      rw [Int.toNat_natCast] at hSP
      have HC := Lib.hid hC
      have HL := Lib.hid hL
      have HSP := Lib.hid hSP
      clear hC hL hSP hC0 hL0 hSP0 g1' hge
      go_wp2
      clear hk0
      go_loopw [10] (fun p wr => ∃ i bc : Nat, ∃ v : Value, i ≤ dn ∧ p = .pointer (some ⟨bc, 0, none⟩) ∧ wr.ownsRow w2.heap.size 35 2 (.slice (some ⟨bc, 0, none⟩) 1 1) 1 (Ce.cells (pth q ⟨y.tx, y.ty⟩ i)) ∧ wr.ownsRow w2.heap.size 46 1 (.slice (some ⟨w2.heap.size + 1, 0, none⟩) 1 1) 1 [v] ∧ wr.ownsRow w2.heap.size 35 2 v (i + 1) (flat Ce.cells (pathTo q ⟨y.tx, y.ty⟩ (i + 1))) ∧ (∀ k, v.ownBlock = some k → some k ≠ some bc) ∧ Below w2.heap.size w2 wr) (fun _ wr => 700 - outLen wr (w2.heap.size + 1))
      case atStart =>
        have o1 := own_newAt w2 #[.int .i8 y.tx, .int .i8 y.ty] 35 2 w2.heap.size w2.heap.size rfl (Nat.le_refl _) rfl _ rfl
        have o2 := own_newAt (w2.alloc (.cells #[.int .i8 y.tx, .int .i8 y.ty] 35)) #[.slice (some ⟨w2.heap.size, 0, none⟩) 1 1] 46 1 w2.heap.size (w2.heap.size + 1) (by simp) (by omega) rfl _ rfl
        have o3 := own_newAt ((w2.alloc (.cells #[.int .i8 y.tx, .int .i8 y.ty] 35)).alloc (.cells #[.slice (some ⟨w2.heap.size, 0, none⟩) 1 1] 46)) #[.int .i8 y.tx, .int .i8 y.ty] 35 2 w2.heap.size (w2.heap.size + 2) (by simp) (by omega) rfl _ rfl
        refine ⟨0, _, _, by omega, rfl, o3, own_below o2 (bl_alloc (Below.refl _ _)) (Nat.le_refl _), own_below (own_below o1 (bl_alloc (Below.refl _ _)) (Nat.le_refl _)) (bl_alloc (Below.refl _ _)) (Nat.le_refl _), ?_, (by repeat (first | with_reducible exact Below.refl _ _ | with_reducible assumption | with_reducible apply bl_drewN | with_reducible apply bl_drew | with_reducible apply bl_alloc | (with_reducible refine bl_set ?_ (by first | (simp; done) | (simp; omega)) _) | with_reducible refine bl_trans ?_ (by with_reducible assumption)))⟩
        intro k hk e
        have h1 : some w2.heap.size = some k := hk
        rw [← h1] at e
        simp at e
        omega
      case round =>
        obtain ⟨i, bc, v, hile, rfl, hbc, hbo, ho, hvb, hb⟩ := hrel
        obtain ⟨W1, hW1⟩ : ∃ W1, W1 = wr := ⟨_, rfl⟩
        subst hW1
        obtain ⟨hc3, hf3⟩ := bcell hb
        have hzb := hb.size
        have r3 : w.heap.size + 1 < W1.heap.size := by omega
        obtain ⟨hcq, hcd⟩ := HPTH.out HTQ.out i (by omega)
        by_cases hlt : i < dn
        · have HSU := Lib.hid (pathTo_succ q ⟨y.tx, y.ty⟩ (i + 1))
          have hpn : pth q ⟨y.tx, y.ty⟩ (i + 1) = nxt (pth q ⟨y.tx, y.ty⟩ i) (selS q (pth q ⟨y.tx, y.ty⟩ i)) := rfl
          generalize hpe : pth q ⟨y.tx, y.ty⟩ (i + 1) = pn at hpn HSU
          have HPE := Lib.hid hpe
          clear hpe
          have hpl : (pathTo q ⟨y.tx, y.ty⟩ (i + 1)).length = i + 1 := pathTo_len _ _ _
          generalize hpi : pth q ⟨y.tx, y.ty⟩ i = c at hbc hpn hcq hcd
          have HPI := Lib.hid hpi
          have HPN := Lib.hid hpn
          have HCQ := Lib.hid hcq
          have HNOH := Lib.hid (no_hit _ _ q HGQ.out HPQ.out b2 b4 c hcq (by omega))
          have HFH := Lib.hid (fun j hj h0 h1 => first_hit q c j hj h0 h1)
          have hcfr : fr ⟨wd, hg, ps⟩ c = true := by
            obtain ⟨p, hp, e⟩ := List.mem_map.1 hcq
            rw [← e]; exact HGQ.out.2.1 p hp
          have hcb := fr_in _ c hcfr
          simp only at hcb
          have hcok : c.ok := ⟨by constructor <;> omega, by constructor <;> omega⟩
          have hne : c ≠ ⟨y.fx, y.fy⟩ := by
            intro e
            have := (dOf_zero _ _ q HGQ.out c hcq).2 e
            omega
          have hq0 := run_neq_ce c.x c.y y.fx y.fy
          rw [decide_eq_false hne] at hq0
          have x0 : W1.cell? ⟨bc, 0, none⟩ = some (.int .i8 c.x) := by rw [hbc.cellAt _ (by omega)]; rfl
          have x1 : W1.cell? ⟨bc, 1, none⟩ = some (.int .i8 c.y) := by rw [hbc.cellAt _ (by omega)]; rfl
          have x2 : W1.cell? ⟨w2.heap.size + 1, 0, none⟩ = some v := by rw [hbo.cellAt _ (by omega)]; rfl
          have HME := Lib.hid ((outLen_eq x2).trans (own_slLen ho))
          have hbcl := (hbc.lt _ rfl).2
          have hbol := (hbo.lt _ rfl).2
          have HBC := Lib.hid hbc
          have HBO := Lib.hid hbo
          have HOV := Lib.hid ho
          have HVB := Lib.hid hvb
          have hdc : (dget q c).getD 0 = (dn : Int) - i := by
            obtain ⟨p, hp, e1, e2⟩ := dget_some q c hcq
            have h1 := hcd
            unfold dOf at h1
            rw [e2] at h1 ⊢
            simpa using h1
          have HDC := Lib.hid hdc
          clear hpi hpn hcq hcfr hcb hbc hbo ho hvb hdc
          go_wp2
          clear x0 x1 x2 hq0
          go_loopw [39] (fun s wr => ∃ m : Nat, m ≤ 4 ∧ s = .int .i64 m ∧ Hid (∀ j : Nat, j < m → hitAt q c j = false) ∧ Below W1.heap.size W1 wr) (fun s _ => 4 - (intOf s).toNat)
          case atStart => exact ⟨0, by omega, rfl, Lib.hid (fun j hj => by omega), Below.refl _ _⟩
          case round =>
            obtain ⟨m, hm, rfl, hno, hb4⟩ := hrel
            by_cases hlm : m < 4
            · have HNX := Lib.hid (fun w' => next_any c hcok m (by omega) (by omega) w')
              have hha : hitAt q c m = decide (dget q (nxt c m) = some ((dn : Int) - i - 1)) := by unfold hitAt; rw [hcd]
              have HH3 := Lib.hid (fun h => HPN.out.trans (congrArg (nxt c) (HFH.out m hlm hno.out h)))
              generalize nxt c m = nx at HNX hha HH3
              have HHA := Lib.hid hha
              have HNO := Lib.hid (fun (h : hitAt q c m = false) => show ∀ j : Nat, j < m + 1 → hitAt q c j = false from fun j hj => by
                by_cases e : j = m
                · rw [e]; exact h
                · exact hno.out j (by omega))
              have hbcr := own_below HBC.out hb4 (Nat.le_refl _)
              have x0 : wr.cell? ⟨bc, 0, none⟩ = some (.int .i8 c.x) := by rw [hbcr.cellAt _ (by omega)]; rfl
              have x1 : wr.cell? ⟨bc, 1, none⟩ = some (.int .i8 c.y) := by rw [hbcr.cellAt _ (by omega)]; rfl
              clear hha hbcr
              go_wp2_with fail
              refine (HNX.out _).mono ?_
              rintro e w4 ⟨rfl, hb5⟩
              have hb14 := bl_trans hb4 hb5
              have hm4 := map_below HM2.out (hb.trans (hb14.mono hzb)) hml
              have hk1 : (Instr.lookup 71 (.map (some mf)) (.agg #[.int .i8 nx.x, .int .i8 nx.y]) true).run Try.prog w4 = _ := run_far_ok hm4 nx
              have hk2 : (Instr.lookup 71 (.map (some mf)) (.agg #[.int .i8 c.x, .int .i8 c.y]) false).run Try.prog w4 = _ := run_far hm4 c
              rw [HDC.out] at hk2
              have hbc4 := own_below HBC.out hb14 (Nat.le_refl _)
              have z0 : w4.cell? ⟨bc, 0, none⟩ = some (.int .i8 c.x) := by rw [hbc4.cellAt _ (by omega)]; rfl
              have z1 : w4.cell? ⟨bc, 1, none⟩ = some (.int .i8 c.y) := by rw [hbc4.cellAt _ (by omega)]; rfl
              have HB14 := Lib.hid hb14
              have hsome : nx ∈ qcs q → dget q nx = some ((dget q nx).getD 0) := by
                intro h
                obtain ⟨p, hp, e1, e2⟩ := dget_some q nx h
                rw [e2]; rfl
              have hnb : nx ∈ qcs q → 0 ≤ (dget q nx).getD 0 ∧ (dget q nx).getD 0 ≤ 576 := by
                intro h
                have h1 := (dOf_neg _ _ q HGQ.out nx).2 h
                have h2 := dOf_bd _ _ q HGQ.out hql nx
                unfold dOf at h1 h2
                rw [hsome h] at h1 h2
                simp only [Option.getD_some] at h1 h2
                exact ⟨h1, h2.2⟩
              clear x0 x1 hb5 hb14 hm4 hbc4
              rcases dec_cases (nx ∈ qcs q) with ⟨g1, g1'⟩ | ⟨g1, g1'⟩
              · rw [g1] at hk1
                have hs := hsome g1'
                obtain ⟨e1, e2⟩ := hnb g1'
                generalize (dget q nx).getD 0 = nv at hk1 hs e1 e2
                have HS := Lib.hid hs
                clear hsome hnb hs g1'
                rcases Bool.eq_false_or_eq_true (nv == (dn : Int) - i - 1) with g2 | g2
                · have HN := Lib.hid (HH3.out (by rw [HHA.out, HS.out]; simpa using g2))
                  go_wp2_with fail
                  refine (HNX.out _).mono ?_
                  rintro e w5 ⟨rfl, hb6⟩
                  have hb15 := bl_trans HB14.out hb6
                  have hbc5 := own_below HBC.out hb15 (Nat.le_refl _)
                  have hbo5 := own_below HBO.out hb15 (Nat.le_refl _)
                  have hov5 := own_below HOV.out hb15 (Nat.le_refl _)
                  have hnt : ∀ k, (Value.slice (some ⟨w2.heap.size + 1, 0, none⟩) 1 1).ownBlock = some k → some k ≠ some bc := own_types hbo5 hbc5 (by decide)
                  have hnbo : w2.heap.size + 1 ≠ bc := fun e => hnt _ rfl (by rw [e])
                  have hnbo2 : bc ≠ w2.heap.size + 1 := fun e => hnbo e.symm
                  obtain ⟨⟨v0, c0⟩, f0⟩ := own_cell hbc5 (j := 0) (by omega)
                  obtain ⟨⟨v1, c1⟩, f1⟩ := own_cell hbc5 (j := 1) (by omega)
                  have y2 : w5.cell? ⟨w2.heap.size + 1, 0, none⟩ = some v := by rw [hbo5.cellAt _ (by omega)]; rfl
                  have hz5 := hb15.size
                  have hg6 := grown_setCells bc [.int .i8 nx.x, .int .i8 nx.y] w5 0
                  have hbc6 := own_setCells [.int .i8 nx.x, .int .i8 nx.y] (A := []) (R := Ce.cells c) (j := 0) hbc5 rfl (Nat.le_refl _)
                  have hbo6 := own_kept hbo5 hg6 hnt
                  have hov6 := own_kept hov5 hg6 HVB.out
                  have hb26 : Below w2.heap.size w2 (setCells w5 bc 0 [.int .i8 nx.x, .int .i8 nx.y]) := bl_grown (hb.trans (hb15.mono hzb)) hg6 (fun k hk => by cases hk; exact (HBC.out.lt _ rfl).1)
                  have hz6 : (setCells w5 bc 0 [.int .i8 nx.x, .int .i8 nx.y]).heap.size = w5.heap.size := by simp [setCells]
                  have HK : ∀ (v1 : Value) (w7 : World), w7.ownsRow w2.heap.size 35 2 v1 (i + 1 + 1) (flat Ce.cells (pathTo q ⟨y.tx, y.ty⟩ (i + 1)) ++ [.int .i8 nx.x, .int .i8 nx.y]) → ((setCells w5 bc 0 [.int .i8 nx.x, .int .i8 nx.y]).alloc (.cells #[.int .i8 nx.x, .int .i8 nx.y] 35)).grownBy w7 v.ownBlock →
                      w7.cell? ⟨bc, 0, none⟩ = some (.int .i8 nx.x) ∧ w7.cell? ⟨bc, 1, none⟩ = some (.int .i8 nx.y) ∧ (∃ u, w7.cell? ⟨w2.heap.size + 1, 0, none⟩ = some u) ∧ w7.frozen? ⟨w2.heap.size + 1, 0, none⟩ = false ∧ w7.ownsRow w2.heap.size 46 1 (.slice (some ⟨w2.heap.size + 1, 0, none⟩) 1 1) 1 [v] ∧ bc < w7.heap.size ∧ w2.heap.size + 1 < w7.heap.size ∧ Below w2.heap.size w2 w7 := by
                    intro v1 w7 hown1 hgrow
                    have hbc7 := own_kept (own_below hbc6 (bl_alloc (Below.refl _ _)) (Nat.le_refl _)) hgrow (by intro k hk e; have h9 : some bc = some k := hk; rw [← h9] at e; exact HVB.out bc e.symm rfl)
                    have hbo7 := own_kept (own_below hbo6 (bl_alloc (Below.refl _ _)) (Nat.le_refl _)) hgrow (by intro k hk e; have h9 : some (w2.heap.size + 1) = some k := hk; rw [← h9] at e; exact own_types hov6 hbo6 (by decide) _ e.symm rfl)
                    have hcc := own_cell hbo7 (j := 0) (by omega)
                    exact ⟨by rw [hbc7.cellAt _ (by omega)]; rfl, by rw [hbc7.cellAt _ (by omega)]; rfl, hcc.1, hcc.2, hbo7, (hbc7.lt _ rfl).2, (hbo7.lt _ rfl).2, bl_grown (bl_alloc hb26) hgrow (fun k hk => (hov6.lt k hk).1)⟩
                  have HKH := Lib.hid HK
                  have HOV6 := Lib.hid hov6
                  have hnt' := Lib.hid (show (1 : Nat) = 1 from rfl)
                  clear HK hov6 hbo6 hbc6 hb26 hg6 hov5 hbo5 hbc5 hnt hb6 z0 z1 hk1 hk2
                  go_wp2_with (at_builtin; refine wpList_append_sl _ rfl _ _ 46 rfl w2.heap.size 35 i0 (.agg #[.int .i8 0, .int .i8 0]) 2 2 Try.underlying46 hi hiz0 hiz1 hiz2 rfl (by decide) v (i + 1) _ rfl (own_below HOV6.out (bl_alloc (Below.refl _ _)) (Nat.le_refl _)) (some ⟨_, 0, none⟩) 1 1 [.int .i8 nx.x, .int .i8 nx.y] rfl (sl_newAt _ #[.int .i8 nx.x, .int .i8 nx.y] _ _ (by simp)) rfl (Ce.one nx) (by unfold maxLen; omega) (by omega) (by simp; omega) ?_; intro v1 w7 hown1 hgrow; obtain ⟨t0, t1, ⟨u2, t2⟩, t3, hbo7, l7, l8, hb7⟩ := HKH.out v1 w7 hown1 hgrow; obtain ⟨a1, cap1, rfl, -⟩ := own_at hown1; have HBO7 := Lib.hid hbo7; have HOWN7 := Lib.hid hown1; have HB7 := Lib.hid hb7; clear hbo7 hown1 hgrow hb7)
                  have hs8 := own_setCells [.slice a1 (i + 1 + 1) cap1] (A := []) (R := [v]) (j := 0) HBO7.out rfl (Nat.le_refl _)
                  have hg8 := grown_setCells (w2.heap.size + 1) [.slice a1 (i + 1 + 1) cap1] w7 0
                  have ho8 := own_kept HOWN7.out hg8 (own_types HOWN7.out HBO7.out (by decide))
                  have hb8 : Below w2.heap.size w2 (w7.setCell ⟨w2.heap.size + 1, 0, none⟩ (.slice a1 (i + 1 + 1) cap1)) := HB7.out.setCell (by simp) _
                  have R2 : ((w7.setCell ⟨w2.heap.size + 1, 0, none⟩ (.slice a1 (i + 1 + 1) cap1)).alloc (.cells #[.int .i8 nx.x, .int .i8 nx.y] 35)).ownsRow w2.heap.size 46 1 (.slice (some ⟨w2.heap.size + 1, 0, none⟩) 1 1) 1 [.slice a1 (i + 1 + 1) cap1] := own_below hs8 (bl_alloc (Below.refl _ _)) (Nat.le_refl _)
                  have R3 : ((w7.setCell ⟨w2.heap.size + 1, 0, none⟩ (.slice a1 (i + 1 + 1) cap1)).alloc (.cells #[.int .i8 nx.x, .int .i8 nx.y] 35)).ownsRow w2.heap.size 35 2 (.slice a1 (i + 1 + 1) cap1) (i + 1 + 1) (flat Ce.cells (pathTo q ⟨y.tx, y.ty⟩ (i + 1)) ++ [.int .i8 nx.x, .int .i8 nx.y]) := own_below ho8 (bl_alloc (Below.refl _ _)) (Nat.le_refl _)
                  have R1 := own_newAt (w7.setCell ⟨w2.heap.size + 1, 0, none⟩ (.slice a1 (i + 1 + 1) cap1)) #[.int .i8 nx.x, .int .i8 nx.y] 35 2 w2.heap.size w7.heap.size (by simp) (by omega) rfl _ rfl
                  refine ⟨⟨i + 1, w7.heap.size, _, by omega, rfl, ?_, R2, ?_, ?_, bl_alloc hb8⟩, ?_⟩
                  · rw [HPE.out, HN.out]; exact R1
                  · rw [HSU.out, HN.out, flat_append]; exact R3
                  · intro k hk e
                    have := (HOWN7.out.lt k hk).2
                    cases e
                    omega
                  · rw [HME.out, outLen_eq (by rw [R2.cellAt _ (by omega)]; rfl)]
                    simp only [slLen]
                    omega
                · have HF := Lib.hid (HNO.out (by rw [HHA.out, HS.out]; simpa using g2))
                  go_wp2
                  exact ⟨⟨m + 1, by omega, by go_num, HF, HB14.out⟩, by simp [intOf]; omega⟩
              · rw [g1] at hk1
                have HF := Lib.hid (HNO.out (by rw [HHA.out, dget_none q nx g1']; rfl))
                clear hsome hnb g1'
                go_wp2
                exact ⟨⟨m + 1, by omega, by go_num, HF, HB14.out⟩, by simp [intOf]; omega⟩
            · exact (HNOH.out (fun j hj => hno.out j (by omega))).elim
        · have hid : i = dn := by omega
          subst hid
          have hcz : pth q ⟨y.tx, y.ty⟩ i = ⟨y.fx, y.fy⟩ := (dOf_zero _ _ q HGQ.out _ hcq).1 (by omega)
          have hq0 := run_neq_ce y.fx y.fy y.fx y.fy
          rw [show decide ((⟨y.fx, y.fy⟩ : Ce) = ⟨y.fx, y.fy⟩) = true by simp] at hq0
          have x0 : W1.cell? ⟨bc, 0, none⟩ = some (.int .i8 y.fx) := by rw [hbc.cellAt _ (by omega), hcz]; rfl
          have x1 : W1.cell? ⟨bc, 1, none⟩ = some (.int .i8 y.fy) := by rw [hbc.cellAt _ (by omega), hcz]; rfl
          have x2 : W1.cell? ⟨w2.heap.size + 1, 0, none⟩ = some v := by rw [hbo.cellAt _ (by omega)]; rfl
          have hlp : (pathTo q ⟨y.tx, y.ty⟩ (i + 1)).length = i + 1 := pathTo_len _ _ _
          have hbad : shBad q y = (decide (nxt ⟨y.fx, y.fy⟩ y.sd ∈ shPath q ⟨y.tx, y.ty⟩) || decide (nxt ⟨y.tx, y.ty⟩ y.out ∈ shPath q ⟨y.tx, y.ty⟩)) := rfl
          rw [HSP.out] at hbad
          have hL2 := HL.out
          rw [HSP.out] at hL2
          generalize pathTo q ⟨y.tx, y.ty⟩ (i + 1) = path at ho hlp hbad hL2
          obtain ⟨g, gcap, rfl⟩ : ∃ g gcap, v = .slice (some ⟨g, 0, none⟩) path.length gcap := by
            rcases id ho.2 with ⟨h', h2⟩ | ⟨g, cap, cur, h', -⟩
            · omega
            · exact ⟨g, cap, by rw [h', hlp]⟩
          rw [← hlp] at ho
          have HR := Lib.hid (reverseCe_any path W1 ho (by omega))
          have HNG := Lib.hid (own_types ho hbo (by decide) g rfl)
          have HBO := Lib.hid hbo
          have HBad := Lib.hid hbad
          have HL2 := Lib.hid hL2
          have hgb := (ho.lt _ rfl).1
          have HLP := Lib.hid hlp
          clear hlp hbad hL2 hbo hbc hcz hvb ho hcq hcd
          go_wp2_with fail
          refine HR.out.mono ?_
          rintro e w7 ⟨rfl, ho7, hg7⟩
          have hbo7 := own_kept HBO.out hg7 (by intro k hk e; have h9 : some (w2.heap.size + 1) = some k := hk; rw [← h9] at e; exact HNG.out e.symm)
          have hb7 : Below w2.heap.size w2 w7 := bl_grown hb hg7 (fun k hk => by cases hk; exact hgb)
          have y2 : w7.cell? ⟨w2.heap.size + 1, 0, none⟩ = some (.slice (some ⟨g, 0, none⟩) path.length gcap) := by rw [hbo7.cellAt _ (by omega)]; rfl
          obtain ⟨hc7, hf7⟩ := bcell hb7
          have HO7 := Lib.hid ho7
          have HBO7 := Lib.hid hbo7
          have HB7 := Lib.hid hb7
          have hz7 := hb7.size
          have r7 : w.heap.size + 1 < w7.heap.size := by omega
          clear x0 x1 x2 hq0 ho7 hbo7 hg7
          go_wp2_with fail
          refine (ends_any y hyo _ p1 p2 p3 p4).mono ?_
          rintro e w8 ⟨ve, rfl, hve, hb8⟩
          obtain ⟨ae, cape, rfl, sle, -, -⟩ := own_at hve
          have hok2 : CesOk [nxt ⟨y.fx, y.fy⟩ y.sd, nxt ⟨y.tx, y.ty⟩ y.out] := by
            intro k hk
            have hk2 : k = 0 ∨ k = 1 := by simp at hk; omega
            obtain ⟨y1, y3, y4, y6⟩ := hyo
            rcases hk2 with rfl | rfl
            · exact nxt_ok ⟨y.fx, y.fy⟩ ⟨y1.1, y1.2⟩ y.sd
            · exact nxt_ok ⟨y.tx, y.ty⟩ ⟨y4.1, y4.2⟩ y.out
          have HCF := Lib.hid (containsFuncCe_any 56 #[.pointer (some ⟨w2.heap.size + 1, 0, none⟩)] ae cape [nxt ⟨y.fx, y.fy⟩ y.sd, nxt ⟨y.tx, y.ty⟩ y.out] w8 sle hok2 (Nat.le_refl _) (by simp) eg_Shortest1 (fun c => decide (c ∈ path.reverse)) (fun p w9 _ hb9 => by
            have hb79 := bl_trans hb8 hb9
            have hbo9 := own_below HBO7.out hb79 (Nat.le_refl _)
            obtain ⟨a9, cap9, e9, sl9, -, -⟩ := own_at HO7.out
            cases e9
            refine shortest1_any p (w2.heap.size + 1) (some ⟨g, 0, none⟩) gcap path.reverse w9 (hbo9.lt _ rfl).2 ?_ ((sl9.below hb79 (Nat.le_refl _)).mono hb79.size) (by rw [List.length_reverse, HLP.out]; omega)
            rw [hbo9.cellAt _ (by omega), List.length_reverse]; rfl))
          have hany : [nxt ⟨y.fx, y.fy⟩ y.sd, nxt ⟨y.tx, y.ty⟩ y.out].any (fun c => decide (c ∈ path.reverse)) = shBad q y := by rw [HBad.out]; simp
          have HAny := Lib.hid hany
          have HB8 := Lib.hid hb8
          clear hany sle hve hok2 hb8
          go_wp2_with fail
          refine HCF.out.mono ?_
          rintro e w9 ⟨rfl, hb9⟩
          rw [HAny.out]
          have hb79 := bl_trans HB8.out hb9
          have hbo9 := own_below HBO7.out hb79 (Nat.le_refl _)
          have ho9 := own_below HO7.out hb79 (Nat.le_refl _)
          have y9 : w9.cell? ⟨w2.heap.size + 1, 0, none⟩ = some (.slice (some ⟨g, 0, none⟩) path.length gcap) := by rw [hbo9.cellAt _ (by omega)]; rfl
          have HB9 := Lib.hid (bl_trans HBW2.out (HB7.out.trans (hb79.mono hz7)))
          have HO9 := Lib.hid ho9
          clear y2 hbo9 ho9 hb79
          rcases Bool.eq_false_or_eq_true (shBad q y) with g2 | g2
          · have HC4 := Lib.hid (show shC q y = 4 by rw [HC.out, if_pos g2])
            have HL4 := Lib.hid (show shL q y = [] by rw [HL2.out, if_pos g2])
            rw [g2]
            go_wp2
            go_ret2
            exact ⟨_, by rw [HC4.out]; rfl, by rw [HL4.out]; exact World.ownsRow_nil _ _ _ _, HB9.out⟩
          · have HC4 := Lib.hid (show shC q y = 0 by rw [HC.out, if_neg (by rw [g2]; decide)])
            have HL4 := Lib.hid (show shL q y = path.reverse by rw [HL2.out, if_neg (by rw [g2]; decide)])
            rw [g2]
            go_wp2
            go_ret2
            exact ⟨_, by rw [HC4.out]; rfl, by rw [HL4.out, List.length_reverse]; exact own_mono HO9.out (by omega), HB9.out⟩
    · have hlt0 : dt < 0 := Int.not_le.1 (fun h => g1' (HNT.out.1 h))
      have hC := hC0.out
      have hL := hL0.out
      rw [if_pos hlt0] at hC hL
      have HC := Lib.hid hC
      have HL := Lib.hid hL
      rw [g1] at hk0
      clear hC hL hC0 hL0 hSP0 g1'
      go_wp2
      go_ret2
      exact ⟨_, by rw [HC.out]; rfl, by rw [HL.out]; exact World.ownsRow_nil _ _ _ _, HBW2.out⟩
  · have HC := Lib.hid (show shCode ⟨wd, hg, ps⟩ y = 1 by unfold shCode; rw [if_neg (by rw [hv]; simp)])
    have HL := Lib.hid (show shList ⟨wd, hg, ps⟩ y = [] by unfold shList; rw [if_neg (by rw [hv]; simp)])
    go_enter Try.func27, Try.ntmps27
    go_upto_region 1 with fail
    rw [← HW0.out]
    go_wp2_with fail
    refine HV.out.mono ?_
    rintro e w1 ⟨rfl, hb1⟩
    rw [hv]
    have hb12 := bl_trans HBW.out hb1
    go_wp2
    go_ret2
    exact ⟨_, by rw [HC.out]; rfl, by rw [HL.out]; exact World.ownsRow_nil _ _ _ _, hb12⟩
end Go.Proofs.Ytoldmgpdcenmhaa
