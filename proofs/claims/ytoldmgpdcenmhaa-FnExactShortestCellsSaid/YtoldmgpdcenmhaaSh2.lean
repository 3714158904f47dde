/- Contracts: the reference's shortest line. -/
import Derived.Test.YtoldmgpdcenmhaaSh
import Derived.Test.YtoldmgpdcenmhaaFar
import Derived.Test.YtoldmgpdcenmhaaOff
namespace Go.Proofs.Ytoldmgpdcenmhaa
open Go.RowKit
set_option linter.unusedVariables false
set_option linter.unusedSimpArgs false
set_option maxHeartbeats 400000
set_option maxRecDepth 100000
theorem hit_free (l : Bd) (c0 : Ce) (q : List (Ce × Int)) (hg : goodq l c0 q) (c : Ce) (s : Int) (h : fr l (nxt c s) = false) : hitAt q c s = false := by
  have hn : nxt c s ∉ qcs q := by
    intro hm
    obtain ⟨p, hp, e⟩ := List.mem_map.1 hm
    have := hg.2.1 p hp
    rw [e, h] at this
    cases this
  unfold hitAt
  rw [dget_none q _ hn]
  rfl
theorem hit_dOf (q : List (Ce × Int)) (c : Ce) (s D : Int) (h : dOf q c = D) (hD : 0 < D) : hitAt q c s = (dOf q (nxt c s) == D - 1) := by
  unfold hitAt
  rw [h]
  unfold dOf
  cases dget q (nxt c s) with
  | none =>
    simp only [Option.getD_none]
    have : ((-1 : Int) == D - 1) = false := by simp; omega
    rw [this]; rfl
  | some n =>
    simp only [Option.getD_some, Option.some.injEq]
    rfl
set_option maxHeartbeats 3200000 in
theorem l05Shortest_any (b : Nat) (l : Bd) (b1 : Nat) (y : Wy) (w : World) (h : BP w b l) (hok : l.ok) (hn : l.ps.length ≤ 10000000) (hy : WyAt w b1 y) (hyo : y.ok) (hyl : b1 < w.heap.size) (hv : vWy l y = true) (hw : l.wd ≤ 24) (hh : l.hg ≤ 24) :
    Calls Try.prog 50 #[.pointer (some ⟨b, 0, none⟩), .pointer (some ⟨b1, 0, none⟩)] w fun e w' => ∃ v, e = .returned (.tuple #[v, .int .i64 (shC (bfs l ⟨y.fx, y.fy⟩) y)]) ∧
      w'.ownsRow w.heap.size 35 2 v (shL (bfs l ⟨y.fx, y.fy⟩) y).length (flat Ce.cells (shL (bfs l ⟨y.fx, y.fy⟩) y)) ∧ Below w.heap.size w w' := by
  obtain ⟨⟨y1, y2⟩, y3, ⟨y4, y5⟩, y6⟩ := hyo
  have s3 := wrap_i8 y3.1 y3.2
  have s6 := wrap_i8 y6.1 y6.2
  obtain ⟨hf1, hf2, p1, p2, p3, p4⟩ := vWy_parts l y hv
  obtain ⟨i0, hi, hiz0, hiz1, hiz2⟩ := info_parts Try.infoCell
  have hg := goodq_bq l ⟨y.fx, y.fy⟩ hf1 (4 * 600)
  have hp := parq_bq l ⟨y.fx, y.fy⟩ (4 * 600)
  have hql := bq_len l ⟨y.fx, y.fy⟩ hf1 (4 * 600) hw hh
  have HFAR := Lib.hid (fun (w' : World) (hb : BP w' b l) => l05Far_any b l ⟨y.fx, y.fy⟩ w' hb hok hn hf1 hw hh)
  change goodq l ⟨y.fx, y.fy⟩ (bfs l ⟨y.fx, y.fy⟩) at hg
  change parq (bfs l ⟨y.fx, y.fy⟩) at hp
  change (bfs l ⟨y.fx, y.fy⟩).length ≤ 576 at hql
  generalize bfs l ⟨y.fx, y.fy⟩ = q at hg hp hql HFAR ⊢
  have HFREE := Lib.hid (fun (d : Ce) (hd : d.ok) (w' : World) (hb : BP w' b l) => l05Free_any b l d w' hb hok hd hn)
  have HIDX := Lib.hid (fun (d : Ce) (hd : fr l d = true) (w' : World) (hb : BP w' b l) => l05Index_any b l d w' hb hd hw hh)
  have hbf := fr_in l _ hf1
  have hbt := fr_in l _ hf2
  have HOL := Lib.hid (outL_len l q)
  have hN1 : l.hg.toNat * l.wd.toNat ≤ 24 * 24 := Nat.mul_le_mul (by omega) (by omega)
  have hN0 : 0 < l.hg.toNat * l.wd.toNat := Nat.mul_pos (by simp at hbf; omega) (by simp at hbf; omega)
  generalize l.hg.toNat * l.wd.toNat = N at HOL hN1 hN0
  have HIN := Lib.hid (fun (d : Ce) (hd : fr l d = true) => show 0 ≤ idx l d ∧ (idx l d).toNat < N by
    have hb := fr_in l d hd
    obtain ⟨x, y, e, h1, h2, h3, h4⟩ := idx_nat l d l.wd.toNat l.hg.toNat (by omega) (by omega) hd
    have h5 := outL_get l q d hd
    have h6 := (List.getElem?_eq_some_iff.1 h5).1
    rw [HOL.out] at h6
    exact ⟨by rw [h3]; exact Int.natCast_nonneg _, h6⟩)
  have HGET := Lib.hid (fun d hd => outL_get l q d hd)
  have HBD := Lib.hid (fun d => dOf_bd l _ q hg hql d)
  have HNEG := Lib.hid (fun d => dOf_neg l _ q hg d)
  have HB0 := Lib.hid h
  have HT := Lib.hid hf2
  have HG := Lib.hid hg
  have HP := Lib.hid hp
  have hy0 := hy
  unfold WyAt at hy
  clear h hg hp hf1 hf2 hv hbf hbt
  go_enter Try.func50, Try.ntmps50
  go_wp2_with fail
  refine (HFAR.out _ HB0.out).mono ?_
  rintro e w1 ⟨vf, rfl, hf, hb1⟩
  rw [HOL.out] at hf
  obtain ⟨g, capf, rfl⟩ : ∃ g capf, vf = .slice (some ⟨g, 0, none⟩) N capf := by
    rcases hf.2 with ⟨h', h2⟩ | ⟨g, cap, cur, h', -⟩
    · omega
    · exact ⟨g, cap, h'⟩
  have HFW := Lib.hid hf
  obtain ⟨hc1, hf1⟩ := bcell hb1
  obtain ⟨ix1, ix2⟩ := HIN.out ⟨y.tx, y.ty⟩ HT.out
  have hgt := HGET.out ⟨y.tx, y.ty⟩ HT.out
  obtain ⟨d1, d2⟩ := HBD.out ⟨y.tx, y.ty⟩
  have HNT := Lib.hid (HNEG.out ⟨y.tx, y.ty⟩)
  have HX := Lib.hid (fun (w' : World) (hb' : Below w.heap.size w w') => HIDX.out ⟨y.tx, y.ty⟩ HT.out w' (HB0.out.step hb'))
  generalize idx l ⟨y.tx, y.ty⟩ = ix at HX ix1 ix2 hgt
  have HGT := Lib.hid hgt
  clear hf hgt
  go_wp2_with fail
  refine (HX.out _ hb1).mono ?_
  rintro e w2 ⟨rfl, hb2⟩
  have hbw2 := bl_trans hb1 hb2
  have hfw2 := own_below HFW.out hb2 (Nat.le_refl _)
  have r0 := own_read hfw2 ix.toNat _ HGT.out (by rw [HOL.out])
  have HFW2 := Lib.hid hfw2
  have HBW2 := Lib.hid hbw2
  obtain ⟨hc2, hf2⟩ := bcell hbw2
  have hgl2 := (hfw2.lt _ rfl).2
  have ix3 : ix < (N : Int) := by omega
  have hz2 := hbw2.size
  clear hfw2 hbw2 hb1 hb2 hc1 hf1
  have hC : shC q y = if dOf q ⟨y.tx, y.ty⟩ < 0 then 6 else if shBad q y = true then 4 else 0 := rfl
  have hL : shL q y = if dOf q ⟨y.tx, y.ty⟩ < 0 then [] else if shBad q y = true then [] else shPath q ⟨y.tx, y.ty⟩ := rfl
  have hSP : shPath q ⟨y.tx, y.ty⟩ = (pathTo q ⟨y.tx, y.ty⟩ ((dOf q ⟨y.tx, y.ty⟩).toNat + 1)).reverse := rfl
  have HPTH := Lib.hid (fun ht i => pth_props l _ q HG.out HP.out hw hh ⟨y.tx, y.ty⟩ ht i)
  generalize hdd : dOf q ⟨y.tx, y.ty⟩ = dt at r0 d1 d2 HNT hC hL hSP HPTH
  have HDD := Lib.hid hdd
  clear hdd
  by_cases hneg : dt < 0
  · rw [if_pos hneg] at hC hL
    have HC := Lib.hid hC
    have HL := Lib.hid hL
    clear hC hL hSP
    go_wp2
    go_ret2
    exact ⟨_, by rw [HC.out]; rfl, by rw [HL.out]; exact World.ownsRow_made _ _ 0 hz2 (by simp [maxLen]) rfl, bl_alloc HBW2.out⟩
  · rw [if_neg hneg] at hC hL
    obtain ⟨dn, hdn⟩ : ∃ dn : Nat, dt = (dn : Int) := ⟨dt.toNat, by omega⟩
    subst hdn
    have HTQ := Lib.hid (HNT.out.1 (by omega))
    rw [Int.toNat_natCast] at hSP
    have HC := Lib.hid hC
    have HL := Lib.hid hL
    have HSP := Lib.hid hSP
    clear hC hL hSP hneg
    go_wp2
    clear r0
    go_loopw [7, 8] (fun left o wr => ∃ i : Nat, i ≤ dn ∧ left = .int .i64 ((dn : Int) - i) ∧ wr.ownsRow w2.heap.size 35 2 o (pathTo q ⟨y.tx, y.ty⟩ (i + 1)).reverse.length (flat Ce.cells (pathTo q ⟨y.tx, y.ty⟩ (i + 1)).reverse) ∧ Below w2.heap.size w2 wr) (fun left _ _ => (intOf left).toNat)
    case atStart =>
      refine ⟨0, by omega, by simp, ?_, (by repeat (first | with_reducible exact Below.refl _ _ | with_reducible assumption | with_reducible apply bl_drewN | with_reducible apply bl_drew | with_reducible apply bl_alloc | (with_reducible refine bl_set ?_ (by first | (simp; done) | (simp; omega)) _) | with_reducible refine bl_trans ?_ (by with_reducible assumption)))⟩
      exact own_newAt w2 #[.int .i8 y.tx, .int .i8 y.ty] 35 2 w2.heap.size w2.heap.size rfl (Nat.le_refl _) rfl _ rfl
    case round =>
      obtain ⟨i, hile, rfl, ho, hb⟩ := hrel
      obtain ⟨W1, hW1⟩ : ∃ W1, W1 = wr := ⟨_, rfl⟩
      subst hW1
      by_cases hlt : i < dn
      · have hlt2 : 0 < (dn : Int) - i := by omega
        obtain ⟨hcq, hcd⟩ := HPTH.out HTQ.out i (by omega)
        have HREV := Lib.hid (show (pathTo q ⟨y.tx, y.ty⟩ (i + 1 + 1)).reverse = pth q ⟨y.tx, y.ty⟩ (i + 1) :: (pth q ⟨y.tx, y.ty⟩ i :: (pathTo q ⟨y.tx, y.ty⟩ i).reverse) by rw [pathTo_rev, pathTo_rev])
        rw [pathTo_rev] at ho
        have hpn : pth q ⟨y.tx, y.ty⟩ (i + 1) = nxt (pth q ⟨y.tx, y.ty⟩ i) (selS q (pth q ⟨y.tx, y.ty⟩ i)) := rfl
        generalize pth q ⟨y.tx, y.ty⟩ (i + 1) = pn at hpn HREV
        have hrl : (pathTo q ⟨y.tx, y.ty⟩ i).reverse.length = i := by rw [List.length_reverse, pathTo_len]
        generalize (pathTo q ⟨y.tx, y.ty⟩ i).reverse = rest at ho HREV hrl
        generalize pth q ⟨y.tx, y.ty⟩ i = c at ho HREV hpn hcq hcd
        have HPN := Lib.hid hpn
        have HCQ := Lib.hid hcq
        have HNOH := Lib.hid (no_hit l _ q HG.out HP.out hw hh c hcq (by omega))
        have HHF := Lib.hid (fun s h => hit_free l _ q HG.out c s h)
        have HHD := Lib.hid (fun s => hit_dOf q c s _ hcd hlt2)
        have HFH := Lib.hid (fun j hj h0 h1 => first_hit q c j hj h0 h1)
        have hcfr : fr l c = true := by
          obtain ⟨p, hp, e⟩ := List.mem_map.1 hcq
          rw [← e]; exact HG.out.2.1 p hp
        have hcb := fr_in l c hcfr
        have hcok : c.ok := ⟨by constructor <;> omega, by constructor <;> omega⟩
        obtain ⟨ao, capo, rfl, slo, hco1, hco2⟩ := own_at ho
        obtain ⟨b', off, rfl, hbl', hat⟩ := ces_get slo (k := 0) (by simp)
        unfold CeAt at hat
        simp only [List.getElem_cons_zero, Nat.zero_mul, Nat.add_zero] at hat
        have hlen0 : 0 < (c :: rest).length := by simp
        have HSL := Lib.hid slo
        have hlen1 : (c :: rest).length = i + 1 := by rw [List.length_cons, hrl]
        have hzb := hb.size
        clear hpn hcq hcfr hcb slo ho hrl
        go_wp2
        go_loopw [8, 9] (fun o s wr => ∃ m : Nat, m ≤ 4 ∧ s = .int .i64 m ∧ Hid (∀ j : Nat, j < m → hitAt q c j = false) ∧ o = .slice (some ⟨b', off, none⟩) (i + 1) capo ∧ Below W1.heap.size W1 wr) (fun _ s _ => 4 - (intOf s).toNat)
        case atStart => exact ⟨0, by omega, rfl, Lib.hid (fun j hj => by omega), by rw [hlen1], Below.refl _ _⟩
        case round =>
          obtain ⟨m, hm, rfl, hno, rfl, hb3⟩ := hrel
          obtain ⟨hc3, hf3⟩ := bcell hb3
          by_cases hlm : m < 4
          · have HNX := Lib.hid (fun w' => l01Next_any c m (by omega) (by omega) w')
            have hnxo := nxt_ok c hcok m
            have HH1 := Lib.hid (HHF.out m)
            have HH2 := Lib.hid (HHD.out m)
            have HH3 := Lib.hid (fun h => HPN.out.trans (congrArg (nxt c) (HFH.out m hlm hno.out h)))
            generalize nxt c m = nx at HNX hnxo HH1 HH2 HH3
            have HNO := Lib.hid (fun (h : hitAt q c m = false) => show ∀ j : Nat, j < m + 1 → hitAt q c j = false from fun j hj => by
              by_cases e : j = m
              · rw [e]; exact h
              · exact hno.out j (by omega))
            have H1 : ∀ w' (h : Below W1.heap.size W1 w'), Calls Try.prog 62 #[.pointer (some ⟨b, 0, none⟩), nx.val] w' fun e w'' => e = .returned (.bool (fr l nx)) ∧ Below w'.heap.size w' w'' := fun w' h => HFREE.out nx hnxo w' (HB0.out.step (bl_trans HBW2.out (hb.trans (h.mono hzb))))
            rcases Bool.eq_false_or_eq_true (fr l nx) with g1 | g1
            · rw [g1] at H1
              have H1 := Lib.hid H1
              have G1 := Lib.hid g1
              obtain ⟨iy1, iy2⟩ := HIN.out nx g1
              have hgn := HGET.out nx g1
              obtain ⟨e1, e2⟩ := HBD.out nx
              have HXN := Lib.hid (fun (w' : World) (h : Below W1.heap.size W1 w') => HIDX.out nx G1.out w' (HB0.out.step (bl_trans HBW2.out (hb.trans (h.mono hzb)))))
              have hh2 := HH2.out
              generalize idx l nx = iy at HXN iy1 iy2 hgn
              generalize dOf q nx = dv at hgn e1 e2 hh2
              have HGN := Lib.hid hgn
              have HHH := Lib.hid hh2
              clear hgn hh2 HH2 g1 hnxo
              go_wp2_with fail
              refine (HNX.out _).mono ?_
              rintro e w4 ⟨rfl, hb4⟩
              have HB4 := Lib.hid (show Below W1.heap.size W1 (w4.alloc (.cells #[.int .i8 nx.x, .int .i8 nx.y] 35)) from bl_alloc (bl_trans hb3 hb4))
              go_wp2_with fail
              refine (H1.out _ HB4.out).mono ?_
              rintro e w5 ⟨rfl, hb5⟩
              have HB5 := Lib.hid (bl_trans HB4.out hb5)
              have x0 : w5.cell? ⟨w4.heap.size, 0, none⟩ = some (.int .i8 nx.x) := by rw [hb5.cell (p := ⟨_, _, none⟩) (by simp), cell_of_row _ _ _ _ _ _ (heap_alloc_new w4 _)]; rfl
              have x1 : w5.cell? ⟨w4.heap.size, 1, none⟩ = some (.int .i8 nx.y) := by rw [hb5.cell (p := ⟨_, _, none⟩) (by simp), cell_of_row _ _ _ _ _ _ (heap_alloc_new w4 _)]; rfl
              go_wp2_with fail
              refine (HXN.out _ HB5.out).mono ?_
              rintro e w6 ⟨rfl, hb6⟩
              have HB6 := Lib.hid (bl_trans HB5.out hb6)
              have hz5 := hb5.size
              simp only [World.size_alloc] at hz5
              have hz6 := hb6.size
              have z0 : w6.cell? ⟨w4.heap.size, 0, none⟩ = some (.int .i8 nx.x) := by rw [hb6.cell (p := ⟨_, _, none⟩) (by show w4.heap.size < w5.heap.size; omega)]; exact x0
              have z1 : w6.cell? ⟨w4.heap.size, 1, none⟩ = some (.int .i8 nx.y) := by rw [hb6.cell (p := ⟨_, _, none⟩) (by show w4.heap.size < w5.heap.size; omega)]; exact x1
              have hW6 := HB6.out.size
              have HB26 := Lib.hid (show Below w2.heap.size w2 w6 from hb.trans (HB6.out.mono hzb))
              have r1 := own_read (own_below HFW2.out HB26.out (Nat.le_refl _)) iy.toNat dv HGN.out (by rw [HOL.out])
              have iy3 : iy < (N : Int) := by omega
              clear x0 x1 hb4 hb5 hb6 hat
              rcases Bool.eq_false_or_eq_true (dv == (dn : Int) - i - 1) with g2 | g2
              · have HN := Lib.hid (HH3.out (by rw [HHH.out]; exact g2))
                go_wp2_with (at_builtin; refine wpList_append_sl _ rfl _ _ 46 rfl w2.heap.size 35 i0 (.agg #[.int .i8 0, .int .i8 0]) 2 2 Try.underlying46 hi hiz0 hiz1 hiz2 rfl (by decide) _ 1 [.int .i8 nx.x, .int .i8 nx.y] rfl (own_newAt w6 #[.int .i8 nx.x, .int .i8 nx.y] 35 2 w2.heap.size w6.heap.size rfl (by omega) rfl _ rfl) (some ⟨b', off, none⟩) (i + 1) capo (flat Ce.cells (c :: rest)) rfl ((HSL.out.below HB6.out (Nat.le_refl _)).below (bl_alloc (Below.refl _ _)) hW6) (by rw [flat_length Ce.len, hlen1]) (one_cells Ce.one _) (by unfold maxLen; omega) (by omega) (by simp; omega) ?_; intro v1 w7 hown1 hgrow)
                have hb7 : Below w2.heap.size w2 w7 := bl_grown (bl_alloc HB26.out) hgrow (fun k hk => by have h9 : some w6.heap.size = some k := hk; cases h9; omega)
                refine ⟨⟨i + 1, by omega, by go_num, ?_, hb7⟩, by simp [intOf]; omega⟩
                rw [HREV.out, HN.out]
                have hln : (nx :: c :: rest).length = 1 + (i + 1) := by rw [List.length_cons, hlen1]; omega
                rw [hln, flat_cons]
                exact hown1
              · have HS := Lib.hid (HNO.out (by rw [HHH.out]; exact g2))
                go_wp2
                exact ⟨⟨m + 1, by omega, by go_num, HS, rfl, HB6.out⟩, by simp [intOf]; omega⟩
            · rw [g1] at H1
              have H1 := Lib.hid H1
              have HS := Lib.hid (HNO.out (HH1.out g1))
              go_wp2_with fail
              refine (HNX.out _).mono ?_
              rintro e w4 ⟨rfl, hb4⟩
              have hb5 := bl_trans hb3 hb4
              go_wp2_with fail
              refine (H1.out _ (by repeat (first | with_reducible exact Below.refl _ _ | with_reducible assumption | with_reducible apply bl_drewN | with_reducible apply bl_drew | with_reducible apply bl_alloc | (with_reducible refine bl_set ?_ (by first | (simp; done) | (simp; omega)) _) | with_reducible refine bl_trans ?_ (by with_reducible assumption)))).mono ?_
              rintro e w5 ⟨rfl, hb6⟩
              go_wp2
              exact ⟨⟨m + 1, by omega, by go_num, HS, rfl, (by repeat (first | with_reducible exact Below.refl _ _ | with_reducible assumption | with_reducible apply bl_drewN | with_reducible apply bl_drew | with_reducible apply bl_alloc | (with_reducible refine bl_set ?_ (by first | (simp; done) | (simp; omega)) _) | with_reducible refine bl_trans ?_ (by with_reducible assumption)))⟩, by simp [intOf]; omega⟩
          · exact (HNOH.out (fun j hj => hno.out j (by omega))).elim
      · have hid : i = dn := by omega
        subst hid
        rw [← HSP.out] at ho
        obtain ⟨ao, capo, rfl, slo, hco1, hco2⟩ := own_at ho
        have hbwr := bl_trans HBW2.out hb
        obtain ⟨hcr, hfr⟩ := bcell hbwr
        have HBWR := Lib.hid hbwr
        have HO := Lib.hid ho
        have hlsp : (shPath q ⟨y.tx, y.ty⟩).length ≤ 600 := by rw [HSP.out, List.length_reverse, pathTo_len]; omega
        have hyl1 : b1 < W1.heap.size := by have := hb.size; omega
        have hws : IntKind.i64.wrap y.sd = y.sd := by rw [IntKind.wrap_i64]; omega
        have hwo : IntKind.i64.wrap y.out = y.out := by rw [IntKind.wrap_i64]; omega
        have HN := Lib.hid (fun (u : Ext W1) (x z s : Int) (h5 : 0 ≤ s) (h6 : s ≤ 3) => l01Next_any ⟨x, z⟩ s h5 h6 u.w)
        have hbad : shBad q y = (decide (nxt ⟨y.fx, y.fy⟩ y.sd ∈ shPath q ⟨y.tx, y.ty⟩) || decide (nxt ⟨y.tx, y.ty⟩ y.out ∈ shPath q ⟨y.tx, y.ty⟩)) := rfl
        generalize shPath q ⟨y.tx, y.ty⟩ = path at *
        have hA : ∀ (u : Ext W1) (x z : Int) (t : Bool) (ht : decide ((⟨x, z⟩ : Ce) ∈ path) = t), Calls Try.prog 68 #[.slice ao path.length capo, .agg #[.int .i8 x, .int .i8 z]] u.w fun e w' => e = .returned (.bool t) ∧ Below u.w.heap.size u.w w' := by
          intro u x z t ht
          rw [← ht]
          exact l05Has_any ao capo path ⟨x, z⟩ u.w (slo.below u.b (Nat.le_refl _)) u.b.size (by omega)
        have HA := Lib.hid hA
        clear hA
        rcases dec_cases ((⟨(nxt ⟨y.fx, y.fy⟩ y.sd).x, (nxt ⟨y.fx, y.fy⟩ y.sd).y⟩ : Ce) ∈ path) with ⟨k1, -⟩ | ⟨k1, -⟩
        · have hbad := hbad.trans (congrArg (· || _) k1)
          have k2 := k1
          have HC4 := Lib.hid (show shC q y = 4 by rw [HC.out, hbad]; rfl)
          have HL4 := Lib.hid (show shL q y = [] by rw [HL.out, hbad]; rfl)
          clear hbad ho slo hb hbwr
          go_wp2
          (refine wp_region_ext (by kernel_rfl) (by kernel_rfl) ?_; have hX := @ext_cell; (repeat (go_big_quiet_step (first | (go_at_call 61; exact ext_call (HN.out _ _ _ _ (by assumption) (by assumption))) | (go_at_call 68; exact ext_call (HA.out _ _ _ _ (by first | with_reducible exact k1 | with_reducible exact k2)))))); refine wpQuiet_nil ?_; clear hX; intro wx hw'; obtain ⟨⟨wx, hbx⟩, rfl⟩ := hw'; obtain ⟨hcx, hfx⟩ := bcell hbx)
          go_wp2
          go_ret2
          have hbe := bl_trans HBWR.out hbx
          exact ⟨_, by rw [HC4.out]; rfl, by rw [HL4.out]; exact World.ownsRow_made _ _ 0 hbe.size (by simp [maxLen]) rfl, bl_alloc hbe⟩
        · rcases dec_cases ((⟨(nxt ⟨y.tx, y.ty⟩ y.out).x, (nxt ⟨y.tx, y.ty⟩ y.out).y⟩ : Ce) ∈ path) with ⟨k2, -⟩ | ⟨k2, -⟩
          · have hbad := hbad.trans ((congrArg (· || _) k1).trans (congrArg (false || ·) k2))
            have HC4 := Lib.hid (show shC q y = 4 by rw [HC.out, hbad]; rfl)
            have HL4 := Lib.hid (show shL q y = [] by rw [HL.out, hbad]; rfl)
            clear hbad ho slo hb hbwr
            go_wp2
            (refine wp_region_ext (by kernel_rfl) (by kernel_rfl) ?_; have hX := @ext_cell; (repeat (go_big_quiet_step (first | (go_at_call 61; exact ext_call (HN.out _ _ _ _ (by assumption) (by assumption))) | (go_at_call 68; exact ext_call (HA.out _ _ _ _ (by first | with_reducible exact k1 | with_reducible exact k2)))))); refine wpQuiet_nil ?_; clear hX; intro wx hw'; obtain ⟨⟨wx, hbx⟩, rfl⟩ := hw'; obtain ⟨hcx, hfx⟩ := bcell hbx)
            go_wp2
            go_ret2
            have hbe := bl_trans HBWR.out hbx
            exact ⟨_, by rw [HC4.out]; rfl, by rw [HL4.out]; exact World.ownsRow_made _ _ 0 hbe.size (by simp [maxLen]) rfl, bl_alloc hbe⟩
          · have hbad := hbad.trans ((congrArg (· || _) k1).trans (congrArg (false || ·) k2))
            have HC4 := Lib.hid (show shC q y = 0 by rw [HC.out, hbad]; rfl)
            have HL4 := Lib.hid (show shL q y = path by rw [HL.out, hbad]; rfl)
            clear hbad ho slo hb hbwr
            go_wp2
            (refine wp_region_ext (by kernel_rfl) (by kernel_rfl) ?_; have hX := @ext_cell; (repeat (go_big_quiet_step (first | (go_at_call 61; exact ext_call (HN.out _ _ _ _ (by assumption) (by assumption))) | (go_at_call 68; exact ext_call (HA.out _ _ _ _ (by first | with_reducible exact k1 | with_reducible exact k2)))))); refine wpQuiet_nil ?_; clear hX; intro wx hw'; obtain ⟨⟨wx, hbx⟩, rfl⟩ := hw'; obtain ⟨hcx, hfx⟩ := bcell hbx)
            go_wp2
            go_ret2
            exact ⟨_, by rw [HC4.out]; rfl, by rw [HL4.out]; exact own_mono (own_below HO.out hbx (Nat.le_refl _)) hz2, bl_trans HBWR.out hbx⟩
end Go.Proofs.Ytoldmgpdcenmhaa
