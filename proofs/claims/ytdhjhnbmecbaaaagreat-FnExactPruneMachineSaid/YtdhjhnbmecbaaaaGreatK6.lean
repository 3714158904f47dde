import Derived.Test.YtdhjhnbmecbaaaaGreatK5
import Derived.Deep.AppendLies
import Derived.Deep.Strs
import Derived.Carry
/- Contracts: which machines are valid (the program). -/
namespace Go.Proofs.YtdhjhnbmecbaaaaGreat
open Go.RowKit
set_option linter.unusedVariables false
set_option linter.unusedSimpArgs false
set_option maxHeartbeats 400000
set_option maxRecDepth 100000
/-- A value that reads as a machine, its inputs within their room. -/
def MVc (w : World) (v : Value) (m : Mc) : Prop := ∃ sa scap ia icap oa ocap, v = mcv m.bd.wd m.bd.hg (.slice sa m.bd.ps.length scap) (.slice ia m.ins.length icap) (.slice oa m.outs.length ocap) ∧ m.ins.length ≤ icap ∧ PcsAt w.heap.size w sa m.bd.ps ∧ SlAt w.heap.size w ia (flat Po.cells m.ins) ∧ SlAt w.heap.size w oa (flat Ce.cells m.outs)
theorem MVc.step {w w' : World} {v : Value} {m : Mc} (h : MVc w v m) (hb : Below w.heap.size w w') : MVc w' v m := by
  obtain ⟨sa, scap, ia, icap, oa, ocap, rfl, h0, h1, h2, h3⟩ := h
  exact ⟨sa, scap, ia, icap, oa, ocap, rfl, h0, (h1.below hb (Nat.le_refl _)).mono hb.size, (h2.below hb (Nat.le_refl _)).mono hb.size, (h3.below hb (Nat.le_refl _)).mono hb.size⟩
theorem OwnM.mvc {w : World} {base : Nat} {s si so : Value} {m : Mc} (h : OwnM w base s si so m) : MVc w (mcv m.bd.wd m.bd.hg s si so) m := by
  obtain ⟨h1, h2, h3, -⟩ := h
  obtain ⟨a, cap, rfl, h1, -⟩ := own_at h1
  obtain ⟨a1, cap1, rfl, h2, h4, -⟩ := own_at h2
  obtain ⟨a2, cap2, rfl, h3, -⟩ := own_at h3
  exact ⟨a, cap, a1, cap1, a2, cap2, rfl, h4, h1, h2, h3⟩
theorem MVc.mv {w : World} {v : Value} {m : Mc} (h : MVc w v m) : MV w v m := by
  obtain ⟨sa, scap, ia, icap, oa, ocap, rfl, h0, h1, h2, h3⟩ := h
  exact ⟨_, _, _, rfl, ⟨sa, scap, rfl, h1⟩, ⟨ia, icap, rfl, h2⟩, ⟨oa, ocap, rfl, h3⟩⟩
theorem SlAt.pre {B : Nat} {w : World} {a : Option Addr} {ys zs : List Value} (h : SlAt B w a (ys ++ zs)) : SlAt B w a ys := by
  intro j hj
  obtain ⟨b, off, h1, h2, h3⟩ := h j (by simp; omega)
  exact ⟨b, off, h1, h2, by rw [h3, List.getElem_append_left hj]⟩
theorem slAt_take {α : Type} {f : α → List Value} {B : Nat} {w : World} {a : Option Addr} {l : List α} (h : SlAt B w a (flat f l)) (k : Nat) : SlAt B w a (flat f (l.take k)) := by
  rw [← List.take_append_drop k l, flat_append] at h
  exact h.pre
theorem all_outOk (ps : List Pc) (cs : List Ce) : cs.all (outOk ps) = !(cs.any (fun c => decide (fnd c ps < 0))) := by
  induction cs with
  | nil => rfl
  | cons c cs ih =>
    rw [List.all_cons, List.any_cons, ih]
    have : outOk ps c = !(decide (fnd c ps < 0)) := by
      unfold outOk
      by_cases hc : fnd c ps < 0
      · rw [decide_eq_true hc, decide_eq_false (by omega)]; rfl
      · rw [decide_eq_false hc, decide_eq_true (by omega)]; rfl
    rw [this, Bool.not_or]
theorem eg_vm1 (args : Array Value) (w : World) : (callFunc 124 args).run Tryz.prog w = .ok (.enter 124 args) w := by kernel_rfl
theorem vm1_any (c : Ce) (b0 : Nat) (l : Bd) (w : World) (hb : BP w b0 l) (hlok : l.ok) (hn : l.ps.length ≤ 10000000) :
    Calls Tryz.prog 124 #[c.val, .pointer (some ⟨b0, 0, none⟩)] w fun e w' => e = .returned (.bool (decide (fnd c l.ps < 0))) ∧ Below w.heap.size w w' := by
  have hne : b0 ≠ w.heap.size := by have := hb.1; omega
  have H := Lib.hid (at_any b0 l c (w.alloc (.cells #[.int .i8 c.x, .int .i8 c.y] 134)) (hb.step (bl_alloc (Below.refl _ _))) hlok hn)
  go_enter Tryz.func124, Tryz.ntmps124
  go_wp2_with (go_at_call 110; refine H.out.mono ?_; rintro e w1 ⟨rfl, hb1⟩)
  go_ret
  exact ⟨rfl, (by repeat (first | with_reducible exact Below.refl _ _ | with_reducible assumption | with_reducible apply bl_drewN | with_reducible apply bl_drew | with_reducible apply bl_alloc | (with_reducible refine bl_set ?_ (by first | (simp; done) | (simp; omega)) _) | with_reducible refine bl_trans ?_ (by with_reducible assumption)))⟩
set_option maxHeartbeats 3200000 in
theorem validMachine_any (m : Mc) (v : Value) (w : World) (h : MVc w v m) (hok : m.ok) (hn : m.bd.ps.length ≤ 10000000) (hn1 : m.ins.length ≤ 10000000) (hn2 : m.outs.length ≤ 10000000) :
    Calls Tryz.prog 78 #[v] w fun e w' => e = .returned (.bool (vMc m)) ∧ Below w.heap.size w w' := by
  obtain ⟨sa, scap, ia, icap, oa, ocap, rfl, hcap, hps, hins, houts⟩ := h
  have HBA := Lib.hid (show Below w.heap.size w (w.alloc (.cells #[.int .i8 m.bd.wd, .int .i8 m.bd.hg, .slice sa m.bd.ps.length scap, .slice ia m.ins.length icap, .slice oa m.outs.length ocap] 40)) from bl_alloc (Below.refl _ _))
  have HM0 := MP.new (m := m) (w := w) ⟨sa, scap, rfl, hps⟩ ⟨ia, icap, rfl, hins⟩ ⟨oa, ocap, rfl, houts⟩ 40
  have X0 := BX5.new w (.int .i8 m.bd.wd) (.int .i8 m.bd.hg) (.slice sa m.bd.ps.length scap) (.slice ia m.ins.length icap) (.slice oa m.outs.length ocap) 40
  have HV := Lib.hid (fun w1 (hb : Below w.heap.size w w1) => validBoard_any m.bd.wd m.bd.hg sa scap m.bd.ps w1 ((hps.below hb (Nat.le_refl _)).mono hb.size) hok.1 hn)
  have HVM := Lib.hid (vMc_ht m)
  generalize vMc m = r at HVM ⊢
  have HHD : Hid (headM m = (vBd m.bd && decide (m.bd.ps.length ≤ 60) && inB m.ins.length 1 6 && inB m.outs.length 1 8)) := Lib.hid rfl
  obtain ⟨W, hW⟩ : ∃ W, W = w.alloc (.cells #[.int .i8 m.bd.wd, .int .i8 m.bd.hg, .slice sa m.bd.ps.length scap, .slice ia m.ins.length icap, .slice oa m.outs.length ocap] 40) := ⟨_, rfl⟩
  rw [← hW] at HBA HM0 X0
  have HM := Lib.hid HM0
  have HX := Lib.hid X0
  clear HM0 X0
  cases g0 : headM m with
  | false =>
    have HR : Hid (r = false) := Lib.hid (by rw [HVM.out, g0]; rfl)
    rw [g0] at HHD
    clear HVM g0 hins houts hps
    cases g1 : vBd m.bd with
    | false =>
      have g1' : vBd ⟨m.bd.wd, m.bd.hg, m.bd.ps⟩ = false := g1
      rw [g1'] at HV
      clear HHD g1 g1'
      go_enter Tryz.func78, Tryz.ntmps78
      go_wp2_with fail
      rw [← hW]
      refine (HV.out _ HBA.out).mono ?_
      rintro e w1 ⟨rfl, hb1⟩
      go_wp2
      go_ret
      exact ⟨by rw [HR.out]; rfl, bl_trans HBA.out hb1⟩
    | true =>
      have g1' : vBd ⟨m.bd.wd, m.bd.hg, m.bd.ps⟩ = true := g1
      rw [g1'] at HV
      rcases dec_cases ((60 : Int) < m.bd.ps.length) with ⟨g2, k2⟩ | ⟨g2, k2⟩
      · clear HHD g1 k2 g1'
        go_enter Tryz.func78, Tryz.ntmps78
        go_wp2_with fail
        rw [← hW]
        refine (HV.out _ HBA.out).mono ?_
        rintro e w1 ⟨rfl, hb1⟩
        obtain ⟨-, c0, c1, c2, c3, c4⟩ := HX.out.step hb1
        go_wp2
        go_ret
        exact ⟨by rw [HR.out]; rfl, bl_trans HBA.out hb1⟩
      · have e2 : decide (m.bd.ps.length ≤ 60) = true := decide_eq_true (by omega)
        rw [g1, e2] at HHD
        clear g1 k2 e2 g1'
        cases g3 : inB m.ins.length 1 6 with
        | false =>
          clear HHD
          go_enter Tryz.func78, Tryz.ntmps78
          go_wp2_with fail
          rw [← hW]
          refine (HV.out _ HBA.out).mono ?_
          rintro e w1 ⟨rfl, hb1⟩
          obtain ⟨-, c0, c1, c2, c3, c4⟩ := HX.out.step hb1
          go_wp2_with (go_at_call 84; refine (in_any _ _ _ _).mono ?_; rintro e w' ⟨rfl, rfl⟩)
          go_ret
          exact ⟨by rw [HR.out]; rfl, bl_trans HBA.out hb1⟩
        | true =>
          have g4 : inB m.outs.length 1 8 = false := by
            have := HHD.out
            rw [g3] at this
            simpa using this.symm
          clear HHD
          go_enter Tryz.func78, Tryz.ntmps78
          go_wp2_with fail
          rw [← hW]
          refine (HV.out _ HBA.out).mono ?_
          rintro e w1 ⟨rfl, hb1⟩
          obtain ⟨-, c0, c1, c2, c3, c4⟩ := HX.out.step hb1
          go_wp2_with (go_at_call 84; refine (in_any _ _ _ _).mono ?_; rintro e w' ⟨rfl, rfl⟩)
          go_ret
          exact ⟨by rw [HR.out]; rfl, bl_trans HBA.out hb1⟩
  | true =>
    have HR : Hid (r = tailM m) := Lib.hid (by rw [HVM.out, g0]; rfl)
    rw [g0] at HHD
    have hh := HHD.out.symm
    simp only [Bool.and_eq_true, decide_eq_true_eq] at hh
    obtain ⟨⟨⟨g1, g2⟩, g3⟩, g4⟩ := hh
    have g1' : vBd ⟨m.bd.wd, m.bd.hg, m.bd.ps⟩ = true := g1
    rw [g1'] at HV
    have e2 : decide ((60 : Int) < m.bd.ps.length) = false := decide_eq_false (by omega)
    have HTL : Hid (tailM m = (m.ins.all (poOk m.bd.ps) && decide m.ins.Nodup && m.outs.all (outOk m.bd.ps))) := Lib.hid rfl
    clear HHD HVM g0 g1 g1'
    go_enter Tryz.func78, Tryz.ntmps78
    go_wp2_with fail
    rw [← hW]
    have hwlt : w.heap.size < W.heap.size := HX.out.1
    refine (HV.out _ HBA.out).mono ?_
    rintro e w1 ⟨rfl, hb1⟩
    obtain ⟨-, c0, c1, c2, c3, c4⟩ := HX.out.step hb1
    have HB1 := Lib.hid hb1
    clear hb1
    go_wp2_with (go_at_call 84; refine (in_any _ _ _ _).mono ?_; rintro e w' ⟨rfl, rfl⟩)
    go_loopw [33] (fun ix wr => ∃ k : Nat, k ≤ m.ins.length ∧ ix = .int .i64 k ∧ Hid (insTo m k) ∧ Below W.heap.size W wr) (fun ix _ => m.ins.length - (intOf ix).toNat)
    case atStart => exact ⟨0, by omega, rfl, Lib.hid ⟨by simp, by simp⟩, HB1.out⟩
    case round =>
      clear c0 c1 c2 c3 c4
      obtain ⟨k, hk, rfl, hto, hb⟩ := hrel
      obtain ⟨hwr, c0, c1, c2, c3, c4⟩ := HX.out.step hb
      have hbw := bl_trans HBA.out hb
      by_cases hlt : k < m.ins.length
      · obtain ⟨b, off, rfl, hbi, hat⟩ := pos_get hins hlt
        unfold PoAt at hat
        obtain ⟨a0, a1, a2⟩ := hat
        have q0 : wr.cell? ⟨b, off + k * 3, none⟩ = some (.int .i8 m.ins[k].x) := by rw [hbw.cell (p := ⟨_, _, none⟩) hbi]; exact a0
        have q1 : wr.cell? ⟨b, off + k * 3 + 1, none⟩ = some (.int .i8 m.ins[k].y) := by rw [hbw.cell (p := ⟨_, _, none⟩) hbi]; exact a1
        have q2 : wr.cell? ⟨b, off + k * 3 + 2, none⟩ = some (.int .i8 m.ins[k].s) := by rw [hbw.cell (p := ⟨_, _, none⟩) hbi]; exact a2
        obtain ⟨ok0, ok1, ok2⟩ := hok.2.1 k hlt
        have s1 : IntKind.i64.wrap m.ins[k].s = m.ins[k].s := by rw [IntKind.wrap_i64]; unfold I8 at ok2; omega
        obtain ⟨P, hP⟩ : ∃ P, P = m.ins[k] := ⟨_, rfl⟩
        rw [← hP] at q0 q1 q2 s1
        have HP := Lib.hid hP
        have HAL := Lib.hid (show Below wr.heap.size wr (wr.alloc (.cells #[.int .i8 P.x, .int .i8 P.y, .int .i8 P.s] 136)) from bl_alloc (Below.refl _ _))
        have HBW := Lib.hid (bl_trans hbw HAL.out)
        have HBB := Lib.hid (bl_trans hb HAL.out)
        have hX3 := BX3.new wr (.int .i8 P.x) (.int .i8 P.y) (.int .i8 P.s) 136
        clear hP ok0 ok1 ok2 a0 a1 a2
        go_wp2
        obtain ⟨w2, hw2⟩ : ∃ w2, w2 = wr.alloc (.cells #[.int .i8 P.x, .int .i8 P.y, .int .i8 P.s] 136) := ⟨_, rfl⟩
        rw [← hw2] at HBW HBB HAL hX3 ⊢
        obtain ⟨hp2, p0, p1, p2⟩ := hX3
        obtain ⟨hw22, d0, d1, d2, d3, d4⟩ := HX.out.step HBB.out
        clear hw2 c0 c1 c2 c3 c4 q0 q1 q2
        cases gs : inB m.ins[k].s 0 3 with
        | false =>
          have HS := Lib.hid (fun w => gs ▸ isSide_any m.ins[k].s w)
          rw [← HP.out] at HS
          have HRF : Hid (r = false) := Lib.hid (by rw [HR.out, HTL.out, insTo_bad m k hlt (by unfold poOk; rw [gs]; rfl)]; rfl)
          clear gs
          (refine wp_region_ext (by kernel_rfl) (by kernel_rfl) ?_; have hX := @ext_cell; (repeat (go_big_quiet_step ((go_at_call 121; exact ext_same (HS.out _))))); refine wpQuiet_nil ?_; clear hX; intro wx hw'; obtain ⟨⟨wx, hbx⟩, rfl⟩ := hw'; obtain ⟨hcx, hfx⟩ := bcell hbx)
          go_wp2
          go_ret
          exact ⟨by rw [HRF.out]; rfl, bl_trans HBW.out hbx⟩
        | true =>
          have HS := Lib.hid (fun w => gs ▸ isSide_any m.ins[k].s w)
          rw [← HP.out] at HS
          have HFD := Lib.hid (fun u : Ext w2 => at_any w.heap.size m.bd ⟨P.x, P.y⟩ u.w ((HM.out.step HBB.out).step u.b).bp hok.1 hn)
          obtain ⟨fk, hfk⟩ : ∃ fk, fk = fnd ⟨P.x, P.y⟩ m.bd.ps := ⟨_, rfl⟩
          rw [← hfk] at HFD
          have HPK : Hid (poOk m.bd.ps m.ins[k] = decide (0 ≤ fk)) := Lib.hid (by unfold poOk; rw [gs, hfk, HP.out]; rfl)
          clear gs hfk
          rcases dec_cases (fk < 0) with ⟨gf, kf⟩ | ⟨gf, kf⟩
          · have HRF : Hid (r = false) := Lib.hid (by rw [HR.out, HTL.out, insTo_bad m k hlt (by rw [HPK.out]; exact decide_eq_false (by omega))]; rfl)
            clear kf
            (refine wp_region_ext (by kernel_rfl) (by kernel_rfl) ?_; have hX := @ext_cell; (repeat (go_big_quiet_step (first | (go_at_call 121; exact ext_same (HS.out _)) | (go_at_call 110; exact ext_call (HFD.out _))))); refine wpQuiet_nil ?_; clear hX; intro wx hw'; obtain ⟨⟨wx, hbx⟩, rfl⟩ := hw'; obtain ⟨hcx, hfx⟩ := bcell hbx)
            go_wp2
            go_ret
            exact ⟨by rw [HRF.out]; rfl, bl_trans HBW.out hbx⟩
          · have HPT : Hid (poOk m.bd.ps m.ins[k] = true) := Lib.hid (by rw [HPK.out]; exact decide_eq_true (by omega))
            have HCN := Lib.hid (fun u : Ext w2 => (show Calls Tryz.prog 122 #[.slice (some ⟨b, off, none⟩) k icap, P.val] u.w (fun e w' => e = .returned (.bool (decide (P ∈ m.ins.take k))) ∧ Below u.w.heap.size u.w w') from by
              have h8 := containsPo_any (B := w.heap.size) (some ⟨b, off, none⟩) icap (m.ins.take k) P u.w (slAt_take (hins.below (bl_trans HBW.out u.b) (Nat.le_refl _)) k) (bl_trans HBW.out u.b).size (by rw [List.length_take]; omega)
              rwa [List.length_take, Nat.min_eq_left hk] at h8))
            have hkc : (k : Int) ≤ icap := by omega
            have hkc2 : k ≤ icap := by omega
            clear kf
            cases gm : decide (P ∈ m.ins.take k) with
            | true =>
              rw [gm] at HCN
              have HRF : Hid (r = false) := Lib.hid (by
                rw [decide_eq_true_eq, List.mem_take_iff_getElem] at gm
                obtain ⟨j, hj, he⟩ := gm
                rw [HR.out, HTL.out, ins_dup m j k (by omega) hlt (by rw [he, HP.out])]; simp)
              clear gm
              (refine wp_region_ext (by kernel_rfl) (by kernel_rfl) ?_; have hX := @ext_cell; (repeat (go_big_quiet_step (first | (go_at_call 121; exact ext_same (HS.out _)) | (go_at_call 110; exact ext_call (HFD.out _)) | (go_at_call 122; exact ext_call (HCN.out _))))); refine wpQuiet_nil ?_; clear hX; intro wx hw'; obtain ⟨⟨wx, hbx⟩, rfl⟩ := hw'; obtain ⟨hcx, hfx⟩ := bcell hbx)
              go_wp2
              go_ret
              exact ⟨by rw [HRF.out]; rfl, bl_trans HBW.out hbx⟩
            | false =>
              rw [gm] at HCN
              have HT2 := Lib.hid (insTo_succ m k hlt hto.out HPT.out (fun i hi e => by
                rw [decide_eq_false_iff_not] at gm
                apply gm
                rw [List.mem_take_iff_getElem]
                exact ⟨i, by omega, by rw [e, HP.out]⟩))
              clear gm
              (refine wp_region_ext (by kernel_rfl) (by kernel_rfl) ?_; have hX := @ext_cell; (repeat (go_big_quiet_step (first | (go_at_call 121; exact ext_same (HS.out _)) | (go_at_call 110; exact ext_call (HFD.out _)) | (go_at_call 122; exact ext_call (HCN.out _))))); refine wpQuiet_nil ?_; clear hX; intro wx hw'; obtain ⟨⟨wx, hbx⟩, rfl⟩ := hw'; obtain ⟨hcx, hfx⟩ := bcell hbx)
              go_wp2
              go_roundw
              case rel => exact ⟨k + 1, by omega, by go_num, HT2, bl_trans HBB.out hbx⟩
              case measure => simp [intOf]; omega
      · have hkn : k = m.ins.length := by omega
        subst hkn
        have HIA : Hid (m.ins.all (poOk m.bd.ps) = true ∧ decide m.ins.Nodup = true) := Lib.hid (by
          have := hto.out
          unfold insTo at this
          rw [List.take_length] at this
          exact ⟨this.1, decide_eq_true this.2⟩)
        have HR2 : Hid (r = !(m.outs.any (fun c => decide (fnd c m.bd.ps < 0)))) := Lib.hid (by
          rw [HR.out, HTL.out, HIA.out.1, HIA.out.2]
          simp only [Bool.true_and]
          exact all_outOk _ _)
        have HCF := Lib.hid (containsFuncCe_any (B := wr.heap.size) 124 #[.pointer (some ⟨w.heap.size, 0, none⟩)] oa ocap m.outs wr ((houts.below hbw (Nat.le_refl _)).mono hbw.size) hok.2.2 (Nat.le_refl _) hn2 eg_vm1 (fun c => decide (fnd c m.bd.ps < 0)) (fun p w1 hp hb1 => vm1_any p w.heap.size m.bd w1 ((HM.out.step hb).step hb1).bp hok.1 hn))
        have HBF := Lib.hid hbw
        clear HR HTL hto hins houts hps
        go_wp2_with fail
        refine HCF.out.mono ?_
        rintro e w3 ⟨rfl, hb3⟩
        go_wp2
        go_ret
        exact ⟨by rw [HR2.out]; rfl, bl_trans HBF.out hb3⟩
end Go.Proofs.YtdhjhnbmecbaaaaGreat
/- Contracts: the works of a machine. -/
namespace Go.Proofs.YtdhjhnbmecbaaaaGreat
open Go.RowKit
set_option linter.unusedVariables false
set_option linter.unusedSimpArgs false
set_option maxHeartbeats 400000
set_option maxRecDepth 100000
def hit0 (ps : List Pc) (p : Po) : Hi := ⟨0, fnd ⟨p.x, p.y⟩ ps, p.s, -1⟩
def outF (ps : List Pc) (c : Ce) : Int := fnd c ps
/-- A block that holds the works of a machine. -/
def WkAt (w : World) (g b0 : Nat) (m : Mc) : Prop :=
  g < w.heap.size ∧ w.cell? ⟨g, 0, none⟩ = some (.pointer (some ⟨b0, 0, none⟩)) ∧ (∃ bs, w.cell? ⟨g, 1, none⟩ = some (.pointer (some ⟨bs, 0, none⟩)) ∧ StAt w bs m.bd) ∧
   (∃ a cap, w.cell? ⟨g, 2, none⟩ = some (.slice a m.ins.length cap) ∧ SlAt w.heap.size w a (flat Hi.cells (m.ins.map (hit0 m.bd.ps)))) ∧
   (∃ a cap, w.cell? ⟨g, 3, none⟩ = some (.slice a m.outs.length cap) ∧ SlAt w.heap.size w a (flat inC (m.outs.map (outF m.bd.ps))))
theorem WkAt.step {w w' : World} {g b0 : Nat} {m : Mc} (h : WkAt w g b0 m) (hb : Below w.heap.size w w') : WkAt w' g b0 m := by
  obtain ⟨h1, c0, ⟨bs, c1, st⟩, ⟨a, cap, c2, s2⟩, ⟨a', cap', c3, s3⟩⟩ := h
  refine ⟨Nat.lt_of_lt_of_le h1 hb.size, ?_, ⟨bs, ?_, st.step hb⟩, ⟨a, cap, ?_, (s2.below hb (Nat.le_refl _)).mono hb.size⟩, ⟨a', cap', ?_, (s3.below hb (Nat.le_refl _)).mono hb.size⟩⟩
  · rw [hb.cell (p := ⟨g, _, none⟩) h1]; exact c0
  · rw [hb.cell (p := ⟨g, _, none⟩) h1]; exact c1
  · rw [hb.cell (p := ⟨g, _, none⟩) h1]; exact c2
  · rw [hb.cell (p := ⟨g, _, none⟩) h1]; exact c3
theorem Tryz.infoIntW : (Tryz.prog.info? 3).map (fun i => (i.zero, i.size, i.bytes)) = some (some (.int .i64 0), 1, 8) := by kernel_rfl
theorem wk_mk {w : World} {g bs b0 b1 b2 b3 : Nat} {m : Mc} {v v' : Value} (hg : g < w.heap.size) (how : w.ownsRow b1 98 4 (.slice (some ⟨g, 0, none⟩) 1 1) 1 [.pointer (some ⟨b0, 0, none⟩), .pointer (some ⟨bs, 0, none⟩), v, v']) (hor : w.ownsRow b2 145 4 v m.ins.length (flat Hi.cells (m.ins.map (hit0 m.bd.ps)))) (hou : w.ownsRow b3 3 1 v' m.outs.length (flat inC (m.outs.map (outF m.bd.ps)))) (hst : StAt w bs m.bd) : WkAt w g b0 m := by
  obtain ⟨a9, cap9, e9, sl9, -, -⟩ := own_at hor
  obtain ⟨a8, cap8, e8, sl8, -, -⟩ := own_at hou
  have k0 : w.cell? ⟨g, 0, none⟩ = some (.pointer (some ⟨b0, 0, none⟩)) := by rw [how.cellAt 0 (by omega)]; rfl
  have k1 : w.cell? ⟨g, 1, none⟩ = some (.pointer (some ⟨bs, 0, none⟩)) := by rw [how.cellAt 1 (by omega)]; rfl
  have k2 : w.cell? ⟨g, 2, none⟩ = some v := by rw [how.cellAt 2 (by omega)]; rfl
  have k3 : w.cell? ⟨g, 3, none⟩ = some v' := by rw [how.cellAt 3 (by omega)]; rfl
  exact ⟨hg, k0, ⟨bs, k1, hst⟩, ⟨a9, cap9, by rw [k2, e9], sl9⟩, ⟨a8, cap8, by rw [k3, e8], sl8⟩⟩
set_option maxHeartbeats 3200000 in
theorem worksOf_kp (b0 : Nat) (m : Mc) (w : World) (h : MP w b0 m) (hv : vMc m = true) (hok : m.ok) :
    Calls Tryz.prog 66 #[.pointer (some ⟨b0, 0, none⟩)] w fun e w' => ∃ g, e = .returned (.pointer (some ⟨g, 0, none⟩)) ∧ w.heap.size ≤ g ∧ (WkAt w' g b0 m ∧ ∀ q, KpPs w b0 m.bd q → ∀ w2, w'.grownBy w2 (some q) → WkAt w2 g b0 m) ∧ Below w.heap.size w w' := by
  obtain ⟨hvb, h60, hi1, hi6, ho1, ho8, -⟩ := vMc_parts m hv
  have HM := Lib.hid h
  have HST := Lib.hid (stageOf_kp b0 m.bd w h.bp hvb)
  have HAT := Lib.hid (fun (c : Ce) w1 (hb : Below w.heap.size w w1) => at_any b0 m.bd c w1 (HM.out.step hb).bp hok.1 (show m.bd.ps.length ≤ 10000000 by omega))
  obtain ⟨hbl, s, si, so, ⟨hbd, c3, c4⟩, -, ⟨ia, icap, rfl, hins⟩, ⟨oa, ocap, rfl, houts⟩⟩ := h
  obtain ⟨i0, hi0, hiz0, hiz1, hiz2⟩ := info_parts Tryz.infoHit
  obtain ⟨j0, hj0, hjz0, hjz1, hjz2⟩ := info_parts Tryz.infoIntW
  go_enter Tryz.func66, Tryz.ntmps66
  go_wp2_with fail
  refine HST.out.mono ?_
  rintro e w1 ⟨bs, rfl, hbs, ⟨hst, hskp⟩, hb1⟩
  have HB1 := Lib.hid hb1
  have HS1 := Lib.hid hst
  have HSK := Lib.hid hskp
  clear hskp
  have r3 : w1.cell? ⟨b0, 3, none⟩ = some (.slice ia m.ins.length icap) := by rw [hb1.cell (p := ⟨_, _, none⟩) hbl]; exact c3
  have hz1 := hb1.size
  have hbl1 : b0 < w1.heap.size := by omega
  have hown0 := own_newAt w1 #[.pointer (some ⟨b0, 0, none⟩), .pointer (some ⟨bs, 0, none⟩), .slice none 0 0, .slice none 0 0] 98 4 w1.heap.size w1.heap.size rfl (Nat.le_refl _) rfl _ rfl
  have hb0 : Below w1.heap.size w1 (w1.alloc (.cells #[.pointer (some ⟨b0, 0, none⟩), .pointer (some ⟨bs, 0, none⟩), .slice none 0 0, .slice none 0 0] 98)) := bl_alloc (Below.refl _ _)
  have hz0 : (w1.alloc (.cells #[.pointer (some ⟨b0, 0, none⟩), .pointer (some ⟨bs, 0, none⟩), .slice none 0 0, .slice none 0 0] 98)).heap.size = w1.heap.size + 1 := by simp
  clear hb1 hst HST
  go_wp2
  go_loopw [20] (fun ix wr => ∃ (k : Nat) (v : Value), k ≤ m.ins.length ∧ ix = .int .i64 k ∧ wr.ownsRow w1.heap.size 98 4 (.slice (some ⟨w1.heap.size, 0, none⟩) 1 1) 1 [.pointer (some ⟨b0, 0, none⟩), .pointer (some ⟨bs, 0, none⟩), v, .slice none 0 0] ∧ wr.ownsRow (w1.heap.size + 1) 145 4 v k (flat Hi.cells ((m.ins.take k).map (hit0 m.bd.ps))) ∧ w1.heap.size + 1 ≤ wr.heap.size ∧ Below w1.heap.size w1 wr) (fun ix _ => m.ins.length - (intOf ix).toNat)
  case atStart => exact ⟨0, .slice none 0 0, by omega, rfl, hown0, World.ownsRow_nil _ _ _ _, by omega, hb0⟩
  case round =>
    clear hown0 hb0 hz0 r3
    obtain ⟨k, v, hk, rfl, how, hor, hz, hb⟩ := hrel
    have hbW := bl_trans HB1.out hb
    by_cases hlt : k < m.ins.length
    · obtain ⟨b, off, rfl, hbi, hat⟩ := pos_get hins hlt
      unfold PoAt at hat
      obtain ⟨a0, a1, a2⟩ := hat
      have q0 : wr.cell? ⟨b, off + k * 3, none⟩ = some (.int .i8 m.ins[k].x) := by rw [hbW.cell (p := ⟨_, _, none⟩) hbi]; exact a0
      have q1 : wr.cell? ⟨b, off + k * 3 + 1, none⟩ = some (.int .i8 m.ins[k].y) := by rw [hbW.cell (p := ⟨_, _, none⟩) hbi]; exact a1
      have q2 : wr.cell? ⟨b, off + k * 3 + 2, none⟩ = some (.int .i8 m.ins[k].s) := by rw [hbW.cell (p := ⟨_, _, none⟩) hbi]; exact a2
      have ok2 := (hok.2.1 k hlt).2.2
      have s1 : IntKind.i64.wrap m.ins[k].s = m.ins[k].s := by rw [IntKind.wrap_i64]; unfold I8 at ok2; omega
      have HTK : Hid ((m.ins.take (k + 1)).map (hit0 m.bd.ps) = (m.ins.take k).map (hit0 m.bd.ps) ++ [hit0 m.bd.ps m.ins[k]]) := Lib.hid (by rw [List.take_succ_eq_append_getElem hlt, List.map_append]; rfl)
      obtain ⟨P, hP⟩ : ∃ P, P = m.ins[k] := ⟨_, rfl⟩
      rw [← hP] at q0 q1 q2 s1 HTK
      have hX3 := BX3.new wr (.int .i8 P.x) (.int .i8 P.y) (.int .i8 P.s) 136
      have hal : Below wr.heap.size wr (wr.alloc (.cells #[.int .i8 P.x, .int .i8 P.y, .int .i8 P.s] 136)) := bl_alloc (Below.refl _ _)
      clear hP ok2 a0 a1 a2
      go_wp2_with fail
      obtain ⟨w2, hw2⟩ : ∃ w2, w2 = wr.alloc (.cells #[.int .i8 P.x, .int .i8 P.y, .int .i8 P.s] 136) := ⟨_, rfl⟩
      rw [← hw2] at hal hX3 ⊢
      obtain ⟨gp, hgp⟩ : ∃ gp, gp = wr.heap.size := ⟨_, rfl⟩
      have how2 := own_below how hal (Nat.le_refl _)
      have hor2 := own_below hor hal (Nat.le_refl _)
      have HBW2 := Lib.hid (bl_trans hbW hal)
      have HBB2 := Lib.hid (bl_trans hb hal)
      have hz2 := hal.size
      rw [← hgp] at hX3 ⊢
      have HNP : Hid (some gp ≠ v.ownBlock) := Lib.hid (fun e => by have := (hor.lt gp e.symm).2; omega)
      have HNG : Hid (some w1.heap.size ≠ v.ownBlock) := Lib.hid (fun e => by have := (hor.lt _ e.symm).1; omega)
      have hgp1 : w1.heap.size < gp := by omega
      have HGP := Lib.hid hgp
      clear hal hw2 q0 q1 q2 how hor hb hbW hgp
      obtain ⟨hp2, p0, p1, p2⟩ := hX3
      have e2 : w2.cell? ⟨w1.heap.size, 2, none⟩ = some v := by rw [how2.cellAt 2 (by omega)]; rfl
      have e2f : w2.frozen? ⟨w1.heap.size, 2, none⟩ = false := how2.frozenAt 2
      have hgl : w1.heap.size < w2.heap.size := by omega
      have HOW := Lib.hid how2
      have HOR := Lib.hid hor2
      have HFD := Lib.hid (fun w3 (hb3 : Below w.heap.size w w3) => HAT.out ⟨P.x, P.y⟩ w3 hb3)
      obtain ⟨fk, hfk⟩ : ∃ fk, fk = fnd ⟨P.x, P.y⟩ m.bd.ps := ⟨_, rfl⟩
      rw [← hfk] at HFD
      have HH0 : Hid (Hi.cells (hit0 m.bd.ps P) = [.int .i64 0, .int .i64 fk, .int .i64 P.s, .int .i64 (-1)]) := Lib.hid (by rw [hfk]; rfl)
      clear how2 hor2 hfk
      have hk32 : (k + 1) * 32 ≤ 140737488355328 := by omega
      go_upto_region 5 with fail
      refine wp_region_T 0 19 (fun w' => w'.cell? ⟨w1.heap.size, 2, none⟩ = some v ∧ w'.cell? ⟨gp, 0, none⟩ = some (.int .i8 P.x) ∧ w'.cell? ⟨gp, 1, none⟩ = some (.int .i8 P.y) ∧ w'.cell? ⟨gp, 2, none⟩ = some (.int .i8 P.s)) (by kernel_rfl) ⟨e2, p0, p1, p2⟩ (fun hHeld => ?_)
      obtain ⟨Y0, hY0⟩ : ∃ Y, Y = w2.drew := ⟨_, rfl⟩
      have b20 : Below w2.heap.size w2 w2.drew := bl_drew (Below.refl _ _)
      have HOWY := Lib.hid (own_below HOW.out b20 (Nat.le_refl _))
      have HORY := Lib.hid (own_below HOR.out b20 (Nat.le_refl _))
      have HBWY := Lib.hid (bl_trans HBW2.out b20)
      have HBBY := Lib.hid (bl_trans HBB2.out b20)
      have hzY : w2.heap.size ≤ w2.drew.heap.size := b20.size
      rw [← hY0] at HOWY HORY HBWY HBBY hzY hHeld ⊢
      have hgpY : gp < Y0.heap.size := by omega
      have hgY : w1.heap.size < Y0.heap.size := by omega
      clear hY0 b20 e2 p0 p1 p2 HOW HOR HBW2 HBB2
      (refine' wpAnyT_take 12 0 (oi := ?oi1) (v := ?v1) ?hi1 (by kernel_rfl) (by kernel_rfl) (by kernel_rfl) (by kernel_rfl) (by kernel_rfl) (by kernel_rfl) ?hQ1 ?hy1 (by assumption) ?rest1; (case hi1 => simp only [List.getElem?_toArray, List.getElem?_cons_zero, List.getElem?_cons_succ]; rfl); (case hQ1 => exact fun _ _ _ h => h); (case hy1 => refine Or.inl ⟨by rfl, ?_⟩; intro wz hSw; (try dsimp only at hSw); go_simp; try with_reducible rfl); try simp only [Act.put, List.setIfInBounds_toArray, List.set_cons_zero, List.set_cons_succ])
      (refine' wpAnyT_take 12 1 (oi := ?oi2) (v := ?v2) ?hi2 (by kernel_rfl) (by kernel_rfl) (by kernel_rfl) (by kernel_rfl) (by kernel_rfl) (by kernel_rfl) ?hQ2 ?hy2 (by assumption) ?rest2; (case hi2 => simp only [List.getElem?_toArray, List.getElem?_cons_zero, List.getElem?_cons_succ]; rfl); (case hQ2 => exact fun _ _ _ h => h); (case hy2 => refine Or.inl ⟨by rfl, ?_⟩; intro wz hSw; (try dsimp only at hSw); go_simp; try with_reducible rfl); try simp only [Act.put, List.setIfInBounds_toArray, List.set_cons_zero, List.set_cons_succ])
      (refine' wpAnyT_take 12 2 (oi := ?oi3) (v := ?v3) ?hi3 (by kernel_rfl) (by kernel_rfl) (by kernel_rfl) (by kernel_rfl) (by kernel_rfl) (by kernel_rfl) ?hQ3 ?hy3 (by assumption) ?rest3; (case hi3 => simp only [List.getElem?_toArray, List.getElem?_cons_zero, List.getElem?_cons_succ]; rfl); (case hQ3 => exact fun _ _ _ h => h); (case hy3 => refine Or.inl ⟨by rfl, ?_⟩; intro wz hSw; (try dsimp only at hSw); go_simp; try with_reducible rfl); try simp only [Act.put, List.setIfInBounds_toArray, List.set_cons_zero, List.set_cons_succ])
      (refine' wpAnyT_take 12 3 (oi := ?oi4) (v := ?v4) ?hi4 (by kernel_rfl) (by kernel_rfl) (by kernel_rfl) (by kernel_rfl) (by kernel_rfl) (by kernel_rfl) ?hQ4 ?hy4 (by assumption) ?rest4; (case hi4 => simp only [List.getElem?_toArray, List.getElem?_cons_zero, List.getElem?_cons_succ]; rfl); (case hQ4 => exact fun _ _ _ h => h); (case hy4 => refine Or.inl ⟨by rfl, ?_⟩; intro wz hSw; (try dsimp only at hSw); go_simp; try with_reducible rfl); try simp only [Act.put, List.setIfInBounds_toArray, List.set_cons_zero, List.set_cons_succ])
      (refine' wpAnyT_take 12 4 (oi := ?oi5) (v := ?v5) ?hi5 (by kernel_rfl) (by kernel_rfl) (by kernel_rfl) (by kernel_rfl) (by kernel_rfl) (by kernel_rfl) ?hQ5 ?hy5 (by assumption) ?rest5; (case hi5 => simp only [List.getElem?_toArray, List.getElem?_cons_zero, List.getElem?_cons_succ]; rfl); (case hQ5 => exact fun _ _ _ h => h); (case hy5 => refine Or.inl ⟨by rfl, ?_⟩; intro wz hSw; (try dsimp only at hSw); go_simp; try with_reducible rfl); try simp only [Act.put, List.setIfInBounds_toArray, List.set_cons_zero, List.set_cons_succ])
      (refine' wpAnyT_take 12 5 (oi := ?oi6) (v := ?v6) ?hi6 (by kernel_rfl) (by kernel_rfl) (by kernel_rfl) (by kernel_rfl) (by kernel_rfl) (by kernel_rfl) ?hQ6 ?hy6 (by assumption) ?rest6; (case hi6 => simp only [List.getElem?_toArray, List.getElem?_cons_zero, List.getElem?_cons_succ]; rfl); (case hQ6 => exact fun _ _ _ h => h); (case hy6 => refine Or.inl ⟨by rfl, ?_⟩; intro wz hSw; (try dsimp only at hSw); go_simp; try with_reducible rfl); try simp only [Act.put, List.setIfInBounds_toArray, List.set_cons_zero, List.set_cons_succ])
      (refine' wpAnyT_take 12 6 (oi := ?oi7) (v := ?v7) ?hi7 (by kernel_rfl) (by kernel_rfl) (by kernel_rfl) (by kernel_rfl) (by kernel_rfl) (by kernel_rfl) ?hQ7 ?hy7 (by assumption) ?rest7; (case hi7 => simp only [List.getElem?_toArray, List.getElem?_cons_zero, List.getElem?_cons_succ]; rfl); (case hQ7 => exact fun _ _ _ h => h); (case hy7 => refine Or.inl ⟨by rfl, ?_⟩; intro wz hSw; (try dsimp only at hSw); go_simp; try with_reducible rfl); try simp only [Act.put, List.setIfInBounds_toArray, List.set_cons_zero, List.set_cons_succ])
      (refine' wpAnyT_take 12 7 (oi := ?oi8) (v := ?v8) ?hi8 (by kernel_rfl) (by kernel_rfl) (by kernel_rfl) (by kernel_rfl) (by kernel_rfl) (by kernel_rfl) ?hQ8 ?hy8 (by assumption) ?rest8; (case hi8 => simp only [List.getElem?_toArray, List.getElem?_cons_zero, List.getElem?_cons_succ]; rfl); (case hQ8 => exact fun _ _ _ h => h); (case hy8 => refine Or.inl ⟨by rfl, ?_⟩; intro wz hSw; (try dsimp only at hSw); go_simp; try with_reducible rfl); try simp only [Act.put, List.setIfInBounds_toArray, List.set_cons_zero, List.set_cons_succ])
      (refine' wpAnyT_take 12 8 (oi := ?oi9) (v := ?v9) ?hi9 (by kernel_rfl) (by kernel_rfl) (by kernel_rfl) (by kernel_rfl) (by kernel_rfl) (by kernel_rfl) ?hQ9 ?hy9 (by assumption) ?rest9; (case hi9 => simp only [List.getElem?_toArray, List.getElem?_cons_zero, List.getElem?_cons_succ]; rfl); (case hQ9 => exact fun _ _ _ h => h); (case hy9 => refine Or.inl ⟨by rfl, ?_⟩; intro wz hSw; (try dsimp only at hSw); go_simp; try with_reducible rfl); try simp only [Act.put, List.setIfInBounds_toArray, List.set_cons_zero, List.set_cons_succ])
      (refine' wpAnyT_take 12 9 (oi := ?oi10) (v := ?v10) ?hi10 (by kernel_rfl) (by kernel_rfl) (by kernel_rfl) (by kernel_rfl) (by kernel_rfl) (by kernel_rfl) ?hQ10 ?hy10 (by assumption) ?rest10; (case hi10 => simp only [List.getElem?_toArray, List.getElem?_cons_zero, List.getElem?_cons_succ]; rfl); (case hQ10 => exact fun _ _ _ h => h); (case hy10 => refine Or.inl ⟨by rfl, ?_⟩; intro wz hSw; (try dsimp only at hSw); go_simp; try with_reducible rfl); try simp only [Act.put, List.setIfInBounds_toArray, List.set_cons_zero, List.set_cons_succ])
      (refine' wpAnyT_take 12 11 (oi := ?oi11) (v := ?v11) ?hi11 (by kernel_rfl) (by kernel_rfl) (by kernel_rfl) (by kernel_rfl) (by kernel_rfl) (by kernel_rfl) ?hQ11 ?hy11 (by assumption) ?rest11; (case hi11 => simp only [List.getElem?_toArray, List.getElem?_cons_zero, List.getElem?_cons_succ]; rfl); (case hQ11 => exact fun _ _ _ h => h); (case hy11 => refine Or.inl ⟨by rfl, ?_⟩; intro wz hSw; (try dsimp only at hSw); go_simp; try with_reducible rfl); try simp only [Act.put, List.setIfInBounds_toArray, List.set_cons_zero, List.set_cons_succ])
      (refine' wpAnyT_take 12 12 (oi := ?oi12) (v := ?v12) ?hi12 (by kernel_rfl) (by kernel_rfl) (by kernel_rfl) (by kernel_rfl) (by kernel_rfl) (by kernel_rfl) ?hQ12 ?hy12 (by assumption) ?rest12; (case hi12 => simp only [List.getElem?_toArray, List.getElem?_cons_zero, List.getElem?_cons_succ]; rfl); (case hQ12 => exact fun _ _ _ h => h); (case hy12 => refine Or.inl ⟨by rfl, ?_⟩; intro wz hSw; (try dsimp only at hSw); go_simp; try with_reducible rfl); try simp only [Act.put, List.setIfInBounds_toArray, List.set_cons_zero, List.set_cons_succ])
      (refine' wpAnyT_take 12 13 (oi := ?oi13) (v := ?v13) ?hi13 (by kernel_rfl) (by kernel_rfl) (by kernel_rfl) (by kernel_rfl) (by kernel_rfl) (by kernel_rfl) ?hQ13 ?hy13 (by assumption) ?rest13; (case hi13 => simp only [List.getElem?_toArray, List.getElem?_cons_zero, List.getElem?_cons_succ]; rfl); (case hQ13 => exact fun _ _ _ h => h); (case hy13 => refine Or.inl ⟨by rfl, ?_⟩; intro wz hSw; (try dsimp only at hSw); go_simp; try with_reducible rfl); try simp only [Act.put, List.setIfInBounds_toArray, List.set_cons_zero, List.set_cons_succ])
      obtain ⟨e2, p0, p1, p2⟩ := hHeld
      refine wpAnyT_ready (rs := [10]) (by kernel_rfl) (by simp) ?_
      (refine' AllReadyT.cons (o := ?o28) ?ho28 (fun K hK => ?step28) AllReadyT.nil; (case ho28 => simp only [List.getElem?_toArray, List.getElem?_cons_zero, List.getElem?_cons_succ]; rfl))
      go_simp
      refine (HFD.out _ HBWY.out).mono ?_
      rintro e Y1 ⟨rfl, ba⟩
      obtain ⟨hca, hfa⟩ := bcell ba
      have HOW1 := Lib.hid (own_below HOWY.out ba (Nat.le_refl _))
      have HOR1 := Lib.hid (own_below HORY.out ba (Nat.le_refl _))
      have HBW1 := Lib.hid (bl_trans HBWY.out ba)
      have HBB1 := Lib.hid (bl_trans HBBY.out ba)
      have hz1' := ba.size
      have f2 : Y1.cell? ⟨w1.heap.size, 2, none⟩ = some v := by rw [hca _ _ hgY]; exact e2
      have f0 : Y1.cell? ⟨gp, 0, none⟩ = some (.int .i8 P.x) := by rw [hca _ _ hgpY]; exact p0
      have f1 : Y1.cell? ⟨gp, 1, none⟩ = some (.int .i8 P.y) := by rw [hca _ _ hgpY]; exact p1
      have f3 : Y1.cell? ⟨gp, 2, none⟩ = some (.int .i8 P.s) := by rw [hca _ _ hgpY]; exact p2
      refine hK.out _ _ (fun _ _ => ⟨f2, f0, f1, f3⟩) (fun hHd => ?_)
      have hHeld := hHd (by decide) (by decide)
      clear hHd
      have hgp1Y : gp < Y1.heap.size := by omega
      have hg1Y : w1.heap.size < Y1.heap.size := by omega
      clear hK K hca hfa ba e2 p0 p1 p2 f0 f1 f2 f3 HOWY HORY HBWY HBBY
      try simp only [Act.put, List.setIfInBounds_toArray, List.set_cons_zero, List.set_cons_succ]
      (refine' wpAnyT_take 12 14 (oi := ?oi14) (v := ?v14) ?hi14 (by kernel_rfl) (by kernel_rfl) (by kernel_rfl) (by kernel_rfl) (by kernel_rfl) (by kernel_rfl) ?hQ14 ?hy14 (by assumption) ?rest14; (case hi14 => simp only [List.getElem?_toArray, List.getElem?_cons_zero, List.getElem?_cons_succ]; rfl); (case hQ14 => exact fun _ _ _ h => h); (case hy14 => refine Or.inl ⟨by rfl, ?_⟩; intro wz hSw; (try dsimp only at hSw); go_simp; try with_reducible rfl); try simp only [Act.put, List.setIfInBounds_toArray, List.set_cons_zero, List.set_cons_succ])
      refine wpAnyT_ready (rs := [15]) (by kernel_rfl) (by simp) ?_
      (refine' AllReadyT.cons (o := ?o29) ?ho29 (fun K hK => ?step29) AllReadyT.nil; (case ho29 => simp only [List.getElem?_toArray, List.getElem?_cons_zero, List.getElem?_cons_succ]; rfl))
      go_simp
      have o1 := World.news_of_block (cs := #[.int .i64 0, .int .i64 fk, .int .i64 P.s, .int .i64 (-1)]) (t := 145) (fr := (0, 0)) (heap_alloc_new Y1 (.cells #[.int .i64 0, .int .i64 fk, .int .i64 P.s, .int .i64 (-1)] 145))
      have ba2 : Below Y1.heap.size Y1 (Y1.alloc (.cells #[.int .i64 0, .int .i64 fk, .int .i64 P.s, .int .i64 (-1)] 145)) := bl_alloc (Below.refl _ _)
      have HOW2 := Lib.hid (own_below HOW1.out ba2 (Nat.le_refl _))
      have HOR2 := Lib.hid (own_below HOR1.out ba2 (Nat.le_refl _))
      have HBW2 := Lib.hid (bl_trans HBW1.out ba2)
      have HBB2 := Lib.hid (bl_trans HBB1.out ba2)
      obtain ⟨f2, f0, f1, f3⟩ := hHeld
      have S2 : (Y1.alloc (.cells #[.int .i64 0, .int .i64 fk, .int .i64 P.s, .int .i64 (-1)] 145)).cell? ⟨w1.heap.size, 2, none⟩ = some v ∧ (Y1.alloc (.cells #[.int .i64 0, .int .i64 fk, .int .i64 P.s, .int .i64 (-1)] 145)).cell? ⟨gp, 0, none⟩ = some (.int .i8 P.x) ∧ (Y1.alloc (.cells #[.int .i64 0, .int .i64 fk, .int .i64 P.s, .int .i64 (-1)] 145)).cell? ⟨gp, 1, none⟩ = some (.int .i8 P.y) ∧ (Y1.alloc (.cells #[.int .i64 0, .int .i64 fk, .int .i64 P.s, .int .i64 (-1)] 145)).cell? ⟨gp, 2, none⟩ = some (.int .i8 P.s) :=
        ⟨by rw [cell_alloc _ _ _ _ hg1Y]; exact f2, by rw [cell_alloc _ _ _ _ hgp1Y]; exact f0, by rw [cell_alloc _ _ _ _ hgp1Y]; exact f1, by rw [cell_alloc _ _ _ _ hgp1Y]; exact f3⟩
      have hzY2 : Y1.heap.size + 1 = (Y1.alloc (.cells #[.int .i64 0, .int .i64 fk, .int .i64 P.s, .int .i64 (-1)] 145)).heap.size := by simp
      refine hK.out _ _ (fun _ _ => S2) (fun hHd => ?_)
      have hHeld := hHd (by decide) (by decide)
      clear hHd
      obtain ⟨Y2, hY2⟩ : ∃ Y, Y = Y1.alloc (.cells #[.int .i64 0, .int .i64 fk, .int .i64 P.s, .int .i64 (-1)] 145) := ⟨_, rfl⟩
      rw [← hY2] at o1 HOW2 HOR2 HBW2 HBB2 hzY2 hHeld ⊢
      clear hK K S2 hY2 ba2 f0 f1 f2 f3 HOW1 HOR1 HBW1 HBB1
      try simp only [Act.put, List.setIfInBounds_toArray, List.set_cons_zero, List.set_cons_succ]
      refine wpAnyT_ready (rs := [16]) (by kernel_rfl) (by simp) ?_
      (refine' AllReadyT.cons (o := ?o30) ?ho30 (fun K hK => ?step30) AllReadyT.nil; (case ho30 => simp only [List.getElem?_toArray, List.getElem?_cons_zero, List.getElem?_cons_succ]; rfl))
      refine step_append_lies _ (by rfl) _ _ _ (by rfl) (w1.heap.size + 1) 145 i0 _ 4 32 Tryz.underlying95 hi0 hiz0 hiz1 hiz2 rfl (by omega) v k (flat Hi.cells ((m.ins.take k).map (hit0 m.bd.ps))) (by rfl) HOR2.out ⟨Y1.heap.size, 0, none⟩ 1 1 [.int .i64 0, .int .i64 fk, .int .i64 P.s, .int .i64 (-1)] (by rfl) (by rfl) o1 (Hi.one ⟨0, fk, P.s, -1⟩) (by omega) (by unfold maxLen; omega) hk32 (by omega) _ rfl ?_
      intro gg cap3 Y3 hown3 hgrow hat3 hlt3
      obtain ⟨f2, f0, f1, f3⟩ := hHeld
      have S3 : Y3.cell? ⟨w1.heap.size, 2, none⟩ = some v ∧ Y3.cell? ⟨gp, 0, none⟩ = some (.int .i8 P.x) ∧ Y3.cell? ⟨gp, 1, none⟩ = some (.int .i8 P.y) ∧ Y3.cell? ⟨gp, 2, none⟩ = some (.int .i8 P.s) :=
        ⟨hgrow.cell f2 HNG.out, hgrow.cell f0 HNP.out, hgrow.cell f1 HNP.out, hgrow.cell f3 HNP.out⟩
      have how3 := own_kept HOW2.out hgrow (fun q hq e => HNG.out (by cases hq; exact e))
      have hb3 : Below w1.heap.size w1 Y3 := bl_grown HBB2.out hgrow (fun q hq => by have := (HOR2.out.lt q hq).1; omega)
      refine hK.out _ _ (fun _ _ => S3) (fun hHd => ?_)
      have hHeld := hHd (by decide) (by decide)
      clear hK K S3 f0 f1 f2 f3 hHd
      try simp only [Act.put, List.setIfInBounds_toArray, List.set_cons_zero, List.set_cons_succ]
      (refine' wpAnyT_take 12 17 (oi := ?oi15) (v := ?v15) ?hi15 (by kernel_rfl) (by kernel_rfl) (by kernel_rfl) (by kernel_rfl) (by kernel_rfl) (by kernel_rfl) ?hQ15 ?hy15 (by assumption) ?rest15; (case hi15 => simp only [List.getElem?_toArray, List.getElem?_cons_zero, List.getElem?_cons_succ]; rfl); (case hQ15 => exact fun _ _ _ h => h); (case hy15 => refine Or.inl ⟨by rfl, ?_⟩; intro wz hSw; (try dsimp only at hSw); go_simp; try with_reducible rfl); try simp only [Act.put, List.setIfInBounds_toArray, List.set_cons_zero, List.set_cons_succ])
      (refine' wpAnyT_take 12 18 (oi := ?oi16) (v := ?v16) ?hi16 (by kernel_rfl) (by kernel_rfl) (by kernel_rfl) (by kernel_rfl) (by kernel_rfl) (by kernel_rfl) ?hQ16 ?hy16 (by assumption) ?rest16; (case hi16 => simp only [List.getElem?_toArray, List.getElem?_cons_zero, List.getElem?_cons_succ]; rfl); (case hQ16 => exact fun _ _ _ h => h); (case hy16 => refine Or.inl ⟨by rfl, ?_⟩; intro wz hSw; (try dsimp only at hSw); go_simp; try with_reducible rfl); try simp only [Act.put, List.setIfInBounds_toArray, List.set_cons_zero, List.set_cons_succ])
      have e3 : Y3.cell? ⟨w1.heap.size, 2, none⟩ = some v := by rw [how3.cellAt 2 (by omega)]; rfl
      have e3f : Y3.frozen? ⟨w1.heap.size, 2, none⟩ = false := how3.frozenAt 2
      refine wpAnyT_ready (rs := [19]) (by kernel_rfl) (by simp) ?_
      (refine' AllReadyT.cons (o := ?o31) ?ho31 (fun K hK => ?step31) AllReadyT.nil; (case ho31 => simp only [List.getElem?_toArray, List.getElem?_cons_zero, List.getElem?_cons_succ]; rfl))
      go_simp
      refine hK.out _ _ (fun _ h => absurd h (by decide)) (fun _ => ?_)
      clear hK K hHeld
      try simp only [Act.put, List.setIfInBounds_toArray, List.set_cons_zero, List.set_cons_succ]
      refine wpAnyT_done (by kernel_rfl) ?_ _
      have how4 := (how3.stored 2 (.slice (some ⟨gg, 0, none⟩) (k + 1) cap3)).1
      have hg4 := (how3.stored 2 (.slice (some ⟨gg, 0, none⟩) (k + 1) cap3)).2
      have hor4 := own_kept hown3 hg4 (by intro q hq e; have h8 := (hown3.lt q hq).1; cases e; omega)
      have hb4 : Below w1.heap.size w1 (Y3.setCell ⟨w1.heap.size, 2, none⟩ (.slice (some ⟨gg, 0, none⟩) (k + 1) cap3)) := bl_set hb3 (Nat.le_refl _) _
      have hz4 : w1.heap.size + 1 ≤ (Y3.setCell ⟨w1.heap.size, 2, none⟩ (.slice (some ⟨gg, 0, none⟩) (k + 1) cap3)).heap.size := by have := hgrow.size; simp; omega
      have hcells : flat Hi.cells ((m.ins.take k).map (hit0 m.bd.ps)) ++ [.int .i64 0, .int .i64 fk, .int .i64 P.s, .int .i64 (-1)] = flat Hi.cells ((m.ins.take (k + 1)).map (hit0 m.bd.ps)) := by rw [HTK.out, flat_append, flat_cons, flat_nil, List.append_nil, HH0.out]
      rw [hcells] at hor4
      clear how3 hown3 hgrow hat3 hlt3 hg4 e3 e3f
      go_wp2
      go_roundw
      case rel => exact ⟨k + 1, _, by omega, by go_num, how4, hor4, hz4, hb4⟩
      case measure => simp [intOf]; omega
    · have hkn : k = m.ins.length := by omega
      subst hkn
      rw [List.take_length] at hor
      have r4 : wr.cell? ⟨b0, 4, none⟩ = some (.slice oa m.outs.length ocap) := by rw [hbW.cell (p := ⟨_, _, none⟩) hbl]; exact c4
      obtain ⟨W, hW⟩ : ∃ W, W = wr := ⟨_, rfl⟩
      rw [← hW] at how hor hz hb hbW r4 ⊢
      clear hW
      go_wp2
      go_loopw [49] (fun ix wr => ∃ (k : Nat) (v' : Value), k ≤ m.outs.length ∧ ix = .int .i64 k ∧ wr.ownsRow w1.heap.size 98 4 (.slice (some ⟨w1.heap.size, 0, none⟩) 1 1) 1 [.pointer (some ⟨b0, 0, none⟩), .pointer (some ⟨bs, 0, none⟩), v, v'] ∧ wr.ownsRow (w1.heap.size + 1) 145 4 v m.ins.length (flat Hi.cells (m.ins.map (hit0 m.bd.ps))) ∧ wr.ownsRow W.heap.size 3 1 v' k (flat inC ((m.outs.take k).map (outF m.bd.ps))) ∧ W.heap.size ≤ wr.heap.size ∧ Below w1.heap.size w1 wr ∧ (∀ q, v.ownBlock = some q → q < W.heap.size)) (fun ix _ => m.outs.length - (intOf ix).toNat)
      case atStart => exact ⟨0, .slice none 0 0, by omega, rfl, how, hor, World.ownsRow_nil _ _ _ _, Nat.le_refl _, hb, fun q hq => (hor.lt q hq).2⟩
      case round =>
        clear how hor hb hbW r4
        obtain ⟨k, v', hk, rfl, how, hor, hou, hzW, hb, hvW⟩ := hrel
        have hbW := bl_trans HB1.out hb
        by_cases hlt : k < m.outs.length
        · obtain ⟨b, off, rfl, hbi, hat⟩ := ces_get houts hlt
          have q0 : wr.cell? ⟨b, off + k * 2, none⟩ = some (.int .i8 m.outs[k].x) := by rw [hbW.cell (p := ⟨_, _, none⟩) hbi]; exact hat.1
          have q1 : wr.cell? ⟨b, off + k * 2 + 1, none⟩ = some (.int .i8 m.outs[k].y) := by rw [hbW.cell (p := ⟨_, _, none⟩) hbi]; exact hat.2
          have HTK : Hid ((m.outs.take (k + 1)).map (outF m.bd.ps) = (m.outs.take k).map (outF m.bd.ps) ++ [outF m.bd.ps m.outs[k]]) := Lib.hid (by rw [List.take_succ_eq_append_getElem hlt, List.map_append]; rfl)
          obtain ⟨P, hP⟩ : ∃ P, P = m.outs[k] := ⟨_, rfl⟩
          rw [← hP] at q0 q1 HTK
          have hX3 := sl_new wr #[.int .i8 P.x, .int .i8 P.y] 134
          have hal : Below wr.heap.size wr (wr.alloc (.cells #[.int .i8 P.x, .int .i8 P.y] 134)) := bl_alloc (Below.refl _ _)
          have hsz : (wr.alloc (.cells #[.int .i8 P.x, .int .i8 P.y] 134)).heap.size = wr.heap.size + 1 := by simp
          clear hP hat
          go_wp2_with fail
          obtain ⟨w2, hw2⟩ : ∃ w2, w2 = wr.alloc (.cells #[.int .i8 P.x, .int .i8 P.y] 134) := ⟨_, rfl⟩
          rw [← hw2] at hal hX3 hsz ⊢
          obtain ⟨gp, hgp⟩ : ∃ gp, gp = wr.heap.size := ⟨_, rfl⟩
          have how2 := own_below how hal (Nat.le_refl _)
          have hor2 := own_below hor hal (Nat.le_refl _)
          have hou2 := own_below hou hal (Nat.le_refl _)
          have HBW2 := Lib.hid (bl_trans hbW hal)
          have HBB2 := Lib.hid (bl_trans hb hal)
          have hz2 := hal.size
          rw [← hgp] at hX3 hsz ⊢
          have HNP : Hid (some gp ≠ v'.ownBlock) := Lib.hid (fun e => by have := (hou.lt gp e.symm).2; omega)
          have HNG : Hid (some w1.heap.size ≠ v'.ownBlock) := Lib.hid (fun e => by have := (hou.lt _ e.symm).1; omega)
          have HNV : Hid (∀ q, v.ownBlock = some q → some q ≠ v'.ownBlock) := Lib.hid (fun q hq e => by have := (hou.lt q e.symm).1; have := hvW q hq; omega)
          have hgp1 : w1.heap.size < gp := by omega
          have p0 : w2.cell? ⟨gp, 0, none⟩ = some (.int .i8 P.x) := by
            obtain ⟨b9, off9, h1, h2, h3⟩ := hX3 0 (by simp)
            simp only [Option.some.injEq, Addr.mk.injEq, and_true] at h1
            obtain ⟨rfl, rfl⟩ := h1
            exact h3
          have p1 : w2.cell? ⟨gp, 1, none⟩ = some (.int .i8 P.y) := by
            obtain ⟨b9, off9, h1, h2, h3⟩ := hX3 1 (by simp)
            simp only [Option.some.injEq, Addr.mk.injEq, and_true] at h1
            obtain ⟨rfl, rfl⟩ := h1
            exact h3
          have HGP := Lib.hid hgp
          have hp2 : gp < w2.heap.size := by omega
          clear hal hw2 q0 q1 how hor hou hb hbW hgp hX3 hsz
          have e2 : w2.cell? ⟨w1.heap.size, 3, none⟩ = some v' := by rw [how2.cellAt 3 (by omega)]; rfl
          have hgl : w1.heap.size < w2.heap.size := by omega
          have HOW := Lib.hid how2
          have HOR := Lib.hid hor2
          have HOU := Lib.hid hou2
          have HFD := Lib.hid (fun w3 (hb3 : Below w.heap.size w w3) => HAT.out ⟨P.x, P.y⟩ w3 hb3)
          obtain ⟨fk, hfk⟩ : ∃ fk, fk = fnd ⟨P.x, P.y⟩ m.bd.ps := ⟨_, rfl⟩
          rw [← hfk] at HFD
          have HH0 : Hid (outF m.bd.ps P = fk) := Lib.hid (by rw [hfk]; rfl)
          clear how2 hor2 hou2 hfk
          have hk32 : (k + 1) * 8 ≤ 140737488355328 := by omega
          go_upto_region 10 with fail
          refine wp_region_T 0 14 (fun w' => w'.cell? ⟨w1.heap.size, 3, none⟩ = some v' ∧ w'.cell? ⟨gp, 0, none⟩ = some (.int .i8 P.x) ∧ w'.cell? ⟨gp, 1, none⟩ = some (.int .i8 P.y)) (by kernel_rfl) ⟨e2, p0, p1⟩ (fun hHeld => ?_)
          obtain ⟨Y0, hY0⟩ : ∃ Y, Y = w2.drew := ⟨_, rfl⟩
          have b20 : Below w2.heap.size w2 w2.drew := bl_drew (Below.refl _ _)
          have HOWY := Lib.hid (own_below HOW.out b20 (Nat.le_refl _))
          have HORY := Lib.hid (own_below HOR.out b20 (Nat.le_refl _))
          have HOUY := Lib.hid (own_below HOU.out b20 (Nat.le_refl _))
          have HBWY := Lib.hid (bl_trans HBW2.out b20)
          have HBBY := Lib.hid (bl_trans HBB2.out b20)
          have hzY : w2.heap.size ≤ w2.drew.heap.size := b20.size
          rw [← hY0] at HOWY HORY HOUY HBWY HBBY hzY hHeld ⊢
          have hgpY : gp < Y0.heap.size := by omega
          have hgY : w1.heap.size < Y0.heap.size := by omega
          clear hY0 b20 e2 p0 p1 HOW HOR HOU HBW2 HBB2
          (refine' wpAnyT_take 12 0 (oi := ?oi17) (v := ?v17) ?hi17 (by kernel_rfl) (by kernel_rfl) (by kernel_rfl) (by kernel_rfl) (by kernel_rfl) (by kernel_rfl) ?hQ17 ?hy17 (by assumption) ?rest17; (case hi17 => simp only [List.getElem?_toArray, List.getElem?_cons_zero, List.getElem?_cons_succ]; rfl); (case hQ17 => exact fun _ _ _ h => h); (case hy17 => refine Or.inl ⟨by rfl, ?_⟩; intro wz hSw; (try dsimp only at hSw); go_simp; try with_reducible rfl); try simp only [Act.put, List.setIfInBounds_toArray, List.set_cons_zero, List.set_cons_succ])
          (refine' wpAnyT_take 12 1 (oi := ?oi18) (v := ?v18) ?hi18 (by kernel_rfl) (by kernel_rfl) (by kernel_rfl) (by kernel_rfl) (by kernel_rfl) (by kernel_rfl) ?hQ18 ?hy18 (by assumption) ?rest18; (case hi18 => simp only [List.getElem?_toArray, List.getElem?_cons_zero, List.getElem?_cons_succ]; rfl); (case hQ18 => exact fun _ _ _ h => h); (case hy18 => refine Or.inl ⟨by rfl, ?_⟩; intro wz hSw; (try dsimp only at hSw); go_simp; try with_reducible rfl); try simp only [Act.put, List.setIfInBounds_toArray, List.set_cons_zero, List.set_cons_succ])
          (refine' wpAnyT_take 12 2 (oi := ?oi19) (v := ?v19) ?hi19 (by kernel_rfl) (by kernel_rfl) (by kernel_rfl) (by kernel_rfl) (by kernel_rfl) (by kernel_rfl) ?hQ19 ?hy19 (by assumption) ?rest19; (case hi19 => simp only [List.getElem?_toArray, List.getElem?_cons_zero, List.getElem?_cons_succ]; rfl); (case hQ19 => exact fun _ _ _ h => h); (case hy19 => refine Or.inl ⟨by rfl, ?_⟩; intro wz hSw; (try dsimp only at hSw); go_simp; try with_reducible rfl); try simp only [Act.put, List.setIfInBounds_toArray, List.set_cons_zero, List.set_cons_succ])
          (refine' wpAnyT_take 12 3 (oi := ?oi20) (v := ?v20) ?hi20 (by kernel_rfl) (by kernel_rfl) (by kernel_rfl) (by kernel_rfl) (by kernel_rfl) (by kernel_rfl) ?hQ20 ?hy20 (by assumption) ?rest20; (case hi20 => simp only [List.getElem?_toArray, List.getElem?_cons_zero, List.getElem?_cons_succ]; rfl); (case hQ20 => exact fun _ _ _ h => h); (case hy20 => refine Or.inl ⟨by rfl, ?_⟩; intro wz hSw; (try dsimp only at hSw); go_simp; try with_reducible rfl); try simp only [Act.put, List.setIfInBounds_toArray, List.set_cons_zero, List.set_cons_succ])
          (refine' wpAnyT_take 12 4 (oi := ?oi21) (v := ?v21) ?hi21 (by kernel_rfl) (by kernel_rfl) (by kernel_rfl) (by kernel_rfl) (by kernel_rfl) (by kernel_rfl) ?hQ21 ?hy21 (by assumption) ?rest21; (case hi21 => simp only [List.getElem?_toArray, List.getElem?_cons_zero, List.getElem?_cons_succ]; rfl); (case hQ21 => exact fun _ _ _ h => h); (case hy21 => refine Or.inl ⟨by rfl, ?_⟩; intro wz hSw; (try dsimp only at hSw); go_simp; try with_reducible rfl); try simp only [Act.put, List.setIfInBounds_toArray, List.set_cons_zero, List.set_cons_succ])
          (refine' wpAnyT_take 12 5 (oi := ?oi22) (v := ?v22) ?hi22 (by kernel_rfl) (by kernel_rfl) (by kernel_rfl) (by kernel_rfl) (by kernel_rfl) (by kernel_rfl) ?hQ22 ?hy22 (by assumption) ?rest22; (case hi22 => simp only [List.getElem?_toArray, List.getElem?_cons_zero, List.getElem?_cons_succ]; rfl); (case hQ22 => exact fun _ _ _ h => h); (case hy22 => refine Or.inl ⟨by rfl, ?_⟩; intro wz hSw; (try dsimp only at hSw); go_simp; try with_reducible rfl); try simp only [Act.put, List.setIfInBounds_toArray, List.set_cons_zero, List.set_cons_succ])
          (refine' wpAnyT_take 12 6 (oi := ?oi23) (v := ?v23) ?hi23 (by kernel_rfl) (by kernel_rfl) (by kernel_rfl) (by kernel_rfl) (by kernel_rfl) (by kernel_rfl) ?hQ23 ?hy23 (by assumption) ?rest23; (case hi23 => simp only [List.getElem?_toArray, List.getElem?_cons_zero, List.getElem?_cons_succ]; rfl); (case hQ23 => exact fun _ _ _ h => h); (case hy23 => refine Or.inl ⟨by rfl, ?_⟩; intro wz hSw; (try dsimp only at hSw); go_simp; try with_reducible rfl); try simp only [Act.put, List.setIfInBounds_toArray, List.set_cons_zero, List.set_cons_succ])
          (refine' wpAnyT_take 12 7 (oi := ?oi24) (v := ?v24) ?hi24 (by kernel_rfl) (by kernel_rfl) (by kernel_rfl) (by kernel_rfl) (by kernel_rfl) (by kernel_rfl) ?hQ24 ?hy24 (by assumption) ?rest24; (case hi24 => simp only [List.getElem?_toArray, List.getElem?_cons_zero, List.getElem?_cons_succ]; rfl); (case hQ24 => exact fun _ _ _ h => h); (case hy24 => refine Or.inl ⟨by rfl, ?_⟩; intro wz hSw; (try dsimp only at hSw); go_simp; try with_reducible rfl); try simp only [Act.put, List.setIfInBounds_toArray, List.set_cons_zero, List.set_cons_succ])
          (refine' wpAnyT_take 12 8 (oi := ?oi25) (v := ?v25) ?hi25 (by kernel_rfl) (by kernel_rfl) (by kernel_rfl) (by kernel_rfl) (by kernel_rfl) (by kernel_rfl) ?hQ25 ?hy25 (by assumption) ?rest25; (case hi25 => simp only [List.getElem?_toArray, List.getElem?_cons_zero, List.getElem?_cons_succ]; rfl); (case hQ25 => exact fun _ _ _ h => h); (case hy25 => refine Or.inl ⟨by rfl, ?_⟩; intro wz hSw; (try dsimp only at hSw); go_simp; try with_reducible rfl); try simp only [Act.put, List.setIfInBounds_toArray, List.set_cons_zero, List.set_cons_succ])
          obtain ⟨e2, p0, p1⟩ := hHeld
          refine wpAnyT_ready (rs := [9]) (by kernel_rfl) (by simp) ?_
          (refine' AllReadyT.cons (o := ?o32) ?ho32 (fun K hK => ?step32) AllReadyT.nil; (case ho32 => simp only [List.getElem?_toArray, List.getElem?_cons_zero, List.getElem?_cons_succ]; rfl))
          go_simp
          refine (HFD.out _ HBWY.out).mono ?_
          rintro e Y1 ⟨rfl, ba⟩
          obtain ⟨hca, hfa⟩ := bcell ba
          have HOW1 := Lib.hid (own_below HOWY.out ba (Nat.le_refl _))
          have HOR1 := Lib.hid (own_below HORY.out ba (Nat.le_refl _))
          have HOU1 := Lib.hid (own_below HOUY.out ba (Nat.le_refl _))
          have HBW1 := Lib.hid (bl_trans HBWY.out ba)
          have HBB1 := Lib.hid (bl_trans HBBY.out ba)
          have hz1' := ba.size
          have f2 : Y1.cell? ⟨w1.heap.size, 3, none⟩ = some v' := by rw [hca _ _ hgY]; exact e2
          have f0 : Y1.cell? ⟨gp, 0, none⟩ = some (.int .i8 P.x) := by rw [hca _ _ hgpY]; exact p0
          have f1 : Y1.cell? ⟨gp, 1, none⟩ = some (.int .i8 P.y) := by rw [hca _ _ hgpY]; exact p1
          refine hK.out _ _ (fun _ _ => ⟨f2, f0, f1⟩) (fun hHd => ?_)
          have hHeld := hHd (by decide) (by decide)
          have hgp1Y : gp < Y1.heap.size := by omega
          have hg1Y : w1.heap.size < Y1.heap.size := by omega
          clear hHd hK K hca hfa ba e2 p0 p1 f0 f1 f2 HOWY HORY HOUY HBWY HBBY
          try simp only [Act.put, List.setIfInBounds_toArray, List.set_cons_zero, List.set_cons_succ]
          refine wpAnyT_ready (rs := [10]) (by kernel_rfl) (by simp) ?_
          (refine' AllReadyT.cons (o := ?o33) ?ho33 (fun K hK => ?step33) AllReadyT.nil; (case ho33 => simp only [List.getElem?_toArray, List.getElem?_cons_zero, List.getElem?_cons_succ]; rfl))
          go_simp
          have o1 := World.news_of_block (cs := #[.int .i64 fk]) (t := 3) (fr := (0, 0)) (heap_alloc_new Y1 (.cells #[.int .i64 fk] 3))
          have ba2 : Below Y1.heap.size Y1 (Y1.alloc (.cells #[.int .i64 fk] 3)) := bl_alloc (Below.refl _ _)
          have HOW2 := Lib.hid (own_below HOW1.out ba2 (Nat.le_refl _))
          have HOR2 := Lib.hid (own_below HOR1.out ba2 (Nat.le_refl _))
          have HOU2 := Lib.hid (own_below HOU1.out ba2 (Nat.le_refl _))
          have HBW2 := Lib.hid (bl_trans HBW1.out ba2)
          have HBB2 := Lib.hid (bl_trans HBB1.out ba2)
          obtain ⟨f2, f0, f1⟩ := hHeld
          have S2 : (Y1.alloc (.cells #[.int .i64 fk] 3)).cell? ⟨w1.heap.size, 3, none⟩ = some v' ∧ (Y1.alloc (.cells #[.int .i64 fk] 3)).cell? ⟨gp, 0, none⟩ = some (.int .i8 P.x) ∧ (Y1.alloc (.cells #[.int .i64 fk] 3)).cell? ⟨gp, 1, none⟩ = some (.int .i8 P.y) :=
            ⟨by rw [cell_alloc _ _ _ _ hg1Y]; exact f2, by rw [cell_alloc _ _ _ _ hgp1Y]; exact f0, by rw [cell_alloc _ _ _ _ hgp1Y]; exact f1⟩
          have hzY2 : Y1.heap.size + 1 = (Y1.alloc (.cells #[.int .i64 fk] 3)).heap.size := by simp
          refine hK.out _ _ (fun _ _ => S2) (fun hHd => ?_)
          have hHeld := hHd (by decide) (by decide)
          obtain ⟨Y2, hY2⟩ : ∃ Y, Y = Y1.alloc (.cells #[.int .i64 fk] 3) := ⟨_, rfl⟩
          rw [← hY2] at o1 HOW2 HOR2 HOU2 HBW2 HBB2 hzY2 hHeld ⊢
          clear hHd hK K S2 hY2 ba2 f0 f1 f2 HOW1 HOR1 HOU1 HBW1 HBB1
          try simp only [Act.put, List.setIfInBounds_toArray, List.set_cons_zero, List.set_cons_succ]
          refine wpAnyT_ready (rs := [11]) (by kernel_rfl) (by simp) ?_
          (refine' AllReadyT.cons (o := ?o34) ?ho34 (fun K hK => ?step34) AllReadyT.nil; (case ho34 => simp only [List.getElem?_toArray, List.getElem?_cons_zero, List.getElem?_cons_succ]; rfl))
          refine step_append_lies _ (by rfl) _ _ _ (by rfl) W.heap.size 3 j0 _ 1 8 Tryz.underlying96 hj0 hjz0 hjz1 hjz2 rfl (by omega) v' k (flat inC ((m.outs.take k).map (outF m.bd.ps))) (by rfl) HOU2.out ⟨Y1.heap.size, 0, none⟩ 1 1 [.int .i64 fk] (by rfl) (by rfl) o1 (by intro u hu; rw [List.mem_singleton] at hu; subst hu; rfl) (by omega) (by unfold maxLen; omega) hk32 (by omega) _ rfl ?_
          intro gg cap3 Y3 hown3 hgrow hat3 hlt3
          obtain ⟨f2, f0, f1⟩ := hHeld
          have S3 : Y3.cell? ⟨w1.heap.size, 3, none⟩ = some v' ∧ Y3.cell? ⟨gp, 0, none⟩ = some (.int .i8 P.x) ∧ Y3.cell? ⟨gp, 1, none⟩ = some (.int .i8 P.y) :=
            ⟨hgrow.cell f2 HNG.out, hgrow.cell f0 HNP.out, hgrow.cell f1 HNP.out⟩
          have how3 := own_kept HOW2.out hgrow (fun q hq e => HNG.out (by cases hq; exact e))
          have hor3 := own_kept HOR2.out hgrow HNV.out
          have hb3 : Below w1.heap.size w1 Y3 := bl_grown HBB2.out hgrow (fun q hq => by have := (HOU2.out.lt q hq).1; omega)
          refine hK.out _ _ (fun _ _ => S3) (fun hHd => ?_)
          have hHeld := hHd (by decide) (by decide)
          clear hK K S3 f0 f1 f2 hHd
          try simp only [Act.put, List.setIfInBounds_toArray, List.set_cons_zero, List.set_cons_succ]
          (refine' wpAnyT_take 12 12 (oi := ?oi26) (v := ?v26) ?hi26 (by kernel_rfl) (by kernel_rfl) (by kernel_rfl) (by kernel_rfl) (by kernel_rfl) (by kernel_rfl) ?hQ26 ?hy26 (by assumption) ?rest26; (case hi26 => simp only [List.getElem?_toArray, List.getElem?_cons_zero, List.getElem?_cons_succ]; rfl); (case hQ26 => exact fun _ _ _ h => h); (case hy26 => refine Or.inl ⟨by rfl, ?_⟩; intro wz hSw; (try dsimp only at hSw); go_simp; try with_reducible rfl); try simp only [Act.put, List.setIfInBounds_toArray, List.set_cons_zero, List.set_cons_succ])
          (refine' wpAnyT_take 12 13 (oi := ?oi27) (v := ?v27) ?hi27 (by kernel_rfl) (by kernel_rfl) (by kernel_rfl) (by kernel_rfl) (by kernel_rfl) (by kernel_rfl) ?hQ27 ?hy27 (by assumption) ?rest27; (case hi27 => simp only [List.getElem?_toArray, List.getElem?_cons_zero, List.getElem?_cons_succ]; rfl); (case hQ27 => exact fun _ _ _ h => h); (case hy27 => refine Or.inl ⟨by rfl, ?_⟩; intro wz hSw; (try dsimp only at hSw); go_simp; try with_reducible rfl); try simp only [Act.put, List.setIfInBounds_toArray, List.set_cons_zero, List.set_cons_succ])
          have e3 : Y3.cell? ⟨w1.heap.size, 3, none⟩ = some v' := by rw [how3.cellAt 3 (by omega)]; rfl
          have e3f : Y3.frozen? ⟨w1.heap.size, 3, none⟩ = false := how3.frozenAt 3
          refine wpAnyT_ready (rs := [14]) (by kernel_rfl) (by simp) ?_
          (refine' AllReadyT.cons (o := ?o35) ?ho35 (fun K hK => ?step35) AllReadyT.nil; (case ho35 => simp only [List.getElem?_toArray, List.getElem?_cons_zero, List.getElem?_cons_succ]; rfl))
          go_simp
          refine hK.out _ _ (fun _ h => absurd h (by decide)) (fun _ => ?_)
          clear hK K hHeld
          try simp only [Act.put, List.setIfInBounds_toArray, List.set_cons_zero, List.set_cons_succ]
          refine wpAnyT_done (by kernel_rfl) ?_ _
          have how4 := (how3.stored 3 (.slice (some ⟨gg, 0, none⟩) (k + 1) cap3)).1
          have hg4 := (how3.stored 3 (.slice (some ⟨gg, 0, none⟩) (k + 1) cap3)).2
          have hou4 := own_kept hown3 hg4 (by intro q hq e; have h8 := (hown3.lt q hq).1; cases e; omega)
          have hor4 := own_kept hor3 hg4 (by intro q hq e; have h8 := (hor3.lt q hq).1; cases e; omega)
          have hb4 : Below w1.heap.size w1 (Y3.setCell ⟨w1.heap.size, 3, none⟩ (.slice (some ⟨gg, 0, none⟩) (k + 1) cap3)) := bl_set hb3 (Nat.le_refl _) _
          have hz4 : W.heap.size ≤ (Y3.setCell ⟨w1.heap.size, 3, none⟩ (.slice (some ⟨gg, 0, none⟩) (k + 1) cap3)).heap.size := by have := hgrow.size; simp; omega
          have hcells : flat inC ((m.outs.take k).map (outF m.bd.ps)) ++ [.int .i64 fk] = flat inC ((m.outs.take (k + 1)).map (outF m.bd.ps)) := by rw [HTK.out, flat_append, flat_cons, flat_nil, List.append_nil, HH0.out]; rfl
          rw [hcells] at hou4
          clear how3 hor3 hown3 hgrow hat3 hlt3 hg4 e3 e3f
          go_wp2
          go_roundw
          case rel => exact ⟨k + 1, _, by omega, by go_num, how4, hor4, hou4, hz4, hb4, hvW⟩
          case measure => simp [intOf]; omega
        · have hkn : k = m.outs.length := by omega
          subst hkn
          rw [List.take_length] at hou
          have hres : WkAt wr w1.heap.size b0 m ∧ ∀ q, KpPs w b0 m.bd q → ∀ w2, wr.grownBy w2 (some q) → WkAt w2 w1.heap.size b0 m := by
            refine ⟨wk_mk (by omega) how hor hou (HS1.out.step hb), fun q hq w2 hg => ?_⟩
            have hq1 := hq.1
            have how2 := own_kept how hg (by intro k hk e; have := (how.lt k hk).1; cases e; omega)
            have hor2 := own_kept hor hg (by intro k hk e; have := (hor.lt k hk).1; cases e; omega)
            have hou2 := own_kept hou hg (by intro k hk e; have := (hou.lt k hk).1; cases e; omega)
            exact wk_mk (how2.lt _ rfl).2 how2 hor2 hou2 (HSK.out q hq w2 (bl_gb hb hg))
          have HRES := Lib.hid hres
          clear how hor hou hvW hres
          go_wp2
          go_ret
          exact ⟨w1.heap.size, rfl, hz1, HRES.out, hbW⟩
theorem worksOf_any (b0 : Nat) (m : Mc) (w : World) (h : MP w b0 m) (hv : vMc m = true) (hok : m.ok) :
    Calls Tryz.prog 66 #[.pointer (some ⟨b0, 0, none⟩)] w fun e w' => ∃ g, e = .returned (.pointer (some ⟨g, 0, none⟩)) ∧ w.heap.size ≤ g ∧ WkAt w' g b0 m ∧ Below w.heap.size w w' :=
  (worksOf_kp b0 m w h hv hok).mono fun _ _ ⟨g, h1, h2, h3, h4⟩ => ⟨g, h1, h2, h3.1, h4⟩
end Go.Proofs.YtdhjhnbmecbaaaaGreat
/- Contracts: all tables (the reference). -/
namespace Go.Proofs.YtdhjhnbmecbaaaaGreat
open Go.RowKit
set_option linter.unusedVariables false
set_option linter.unusedSimpArgs false
set_option maxHeartbeats 400000
set_option maxRecDepth 100000
/-- The tables in the midst of row r: the first i outputs have it. -/
def tabSt (f : Nat → Nat) (n r i : Nat) : List Int := (List.range n).map (fun j => ((tabTo f j (if j < i then r + 1 else r) : Nat) : Int))
theorem tabSt_len (f : Nat → Nat) (n r i : Nat) : (tabSt f n r i).length = n := by simp [tabSt]
theorem tabSt_get (f : Nat → Nat) (n r i j : Nat) (hj : j < n) : (tabSt f n r i)[j]'(by rw [tabSt_len]; exact hj) = ((tabTo f j (if j < i then r + 1 else r) : Nat) : Int) := by simp [tabSt]
theorem tabSt_end (f : Nat → Nat) (n r : Nat) : tabSt f n r n = tabSt f n (r + 1) 0 := by
  unfold tabSt
  apply List.map_congr_left
  intro j hj
  rw [List.mem_range] at hj
  rw [if_pos hj, if_neg (by omega)]
theorem tabSt_zero (f : Nat → Nat) (n : Nat) : tabSt f n 0 0 = zeros n := by
  unfold tabSt zeros
  apply List.ext_getElem
  · simp
  · intro i h1 h2
    simp [tabTo]
theorem tabSt_set (f : Nat → Nat) (n r i : Nat) (hi : i < n) : (tabSt f n r i).set i ((tabTo f i (r + 1) : Nat) : Int) = tabSt f n r (i + 1) := by
  apply List.ext_getElem
  · simp [tabSt]
  · intro j h1 h2
    have hj : j < n := by rw [tabSt_len] at h2; exact h2
    rw [List.getElem_set, tabSt_get f n r (i + 1) j hj]
    by_cases e : i = j
    · subst e; rw [if_pos rfl, if_pos (by omega)]
    · rw [if_neg e, tabSt_get f n r i j hj]
      by_cases h3 : j < i
      · rw [if_pos h3, if_pos (by omega)]
      · rw [if_neg h3, if_neg (by omega)]
theorem flatU (xs : List Int) : flat U64_cells xs = xs.map (Value.int .u64) := by
  induction xs with
  | nil => rfl
  | cons x xs ih => rw [flat_cons, ih]; rfl
theorem flatU_zeros (n : Nat) : flat U64_cells (zeros n) = List.replicate n (.int .u64 0) := by
  rw [flatU]; unfold zeros; rw [List.map_replicate]
theorem u64_cell {w : World} {base g n cap : Nat} {xs : List Int} (h : w.ownsRow base 108 1 (.slice (some ⟨g, 0, none⟩) n cap) n (flat U64_cells xs)) (j : Nat) (hj : j < xs.length) : w.cell? ⟨g, j, none⟩ = some (.int .u64 xs[j]) ∧ w.frozen? ⟨g, j, none⟩ = false := by
  have hl := h.1
  rw [flat_length U64_len] at hl
  have h1 := h.cellAt j (by omega)
  rw [h1, flatU]
  exact ⟨by simp [hj], (own_cell h (j := j) (by omega)).2⟩
theorem u64_set {w : World} {base g n cap : Nat} {xs : List Int} (h : w.ownsRow base 108 1 (.slice (some ⟨g, 0, none⟩) n cap) n (flat U64_cells xs)) (j : Nat) (x : Int) : (w.setCell ⟨g, j, none⟩ (.int .u64 x)).ownsRow base 108 1 (.slice (some ⟨g, 0, none⟩) n cap) n (flat U64_cells (xs.set j x)) := by
  have h1 := (h.stored j (.int .u64 x)).1
  rw [flatU] at h1 ⊢
  rwa [List.map_set]
theorem bit_val (n i : Nat) (hn : n < 9223372036854775808) : bits .and .i64 ((n : Int) / 2 ^ i) 1 = if n.testBit i = true then 1 else 0 := by
  have h1 : n / 2 ^ i < 9223372036854775808 := Nat.lt_of_le_of_lt (Nat.div_le_self _ _) hn
  rw [div_pow]
  have h2 := (bits_i64 (n / 2 ^ i) 1 h1 (by omega)).1
  have h3 : bits .and .i64 ((n / 2 ^ i : Nat) : Int) 1 = ((n / 2 ^ i &&& 1 : Nat) : Int) := h2
  rw [h3, bit_and]
  unfold bitN
  cases n.testBit i <;> rfl
theorem pow_63 (k : Nat) (hk : k < 64) : ∃ p : Int, (2 : Int) ^ k = p ∧ 1 ≤ p ∧ p ≤ 9223372036854775808 ∧ p = ((2 ^ k : Nat) : Int) ∧ IntKind.u64.wrap p = p := by
  have h2 : ((2 ^ k : Nat) : Int) = (2 : Int) ^ k := by push_cast; rfl
  have h1 := Nat.one_le_two_pow (n := k)
  have h3 := pow_mono2 (a := k) (b := 63) (by omega)
  refine ⟨(2 : Int) ^ k, rfl, by omega, by omega, by push_cast; rfl, wrap_u64 _ (by omega) (by omega)⟩
theorem tab_yes (f : Nat → Nat) (i r : Nat) (hr : r < 64) (h : (f r).testBit i = true) : bits .or .u64 (tabTo f i r : Int) ((2 ^ r : Nat) : Int) = (tabTo f i (r + 1) : Int) := by
  have h1 := tabTo_lt f i r
  have h2 := pow_mono2 (a := r) (b := 63) (by omega)
  rw [(bits_u64 (tabTo f i r) (2 ^ r) (by omega) (by omega)).2.1]
  show _ = ((if (f r).testBit i = true then _ else _ : Nat) : Int)
  rw [if_pos h]
theorem tab_no (f : Nat → Nat) (i r : Nat) (h : (f r).testBit i = false) : tabTo f i (r + 1) = tabTo f i r := by
  show (if (f r).testBit i = true then _ else _) = _
  rw [h]; rfl
theorem or_zero (f : Nat → Nat) (i r : Nat) (hr : r ≤ 64) : bits .or .u64 (tabTo f i r : Int) 0 = (tabTo f i r : Int) := by
  have h1 := tabTo_lt f i r
  have h2 := pow_mono2 (a := r) (b := 64) hr
  have h3 := (bits_u64 (tabTo f i r) 0 (by omega) (by omega)).2.1
  rw [Nat.or_zero] at h3
  exact h3
noncomputable def mTabI (m : Mc) : List Int := (mTabs m).map (fun (n : Nat) => (n : Int))
theorem mTabI_st (m : Mc) : mTabI m = tabSt (fun r => mOut m r (zeros m.ins.length)) m.outs.length (mRows m) 0 := by
  unfold mTabI mTabs tabSt
  rw [List.map_map]
  apply List.map_congr_left
  intro j hj
  simp
theorem mTabI_len (m : Mc) : (mTabI m).length = m.outs.length := by rw [mTabI_st, tabSt_len]
set_option maxHeartbeats 1600000 in
theorem l03Tables_any (b0 : Nat) (m : Mc) (w : World) (h : MP w b0 m) (hv : vMc m = true) (hok : m.ok) :
    Calls Tryz.prog 77 #[.pointer (some ⟨b0, 0, none⟩)] w fun e w' => ∃ v, e = .returned v ∧ w'.ownsRow w.heap.size 108 1 v m.outs.length (flat U64_cells (mTabI m)) ∧ Below w.heap.size w w' := by
  obtain ⟨hvb, h60, hi1, hi6, ho1, ho8, -⟩ := vMc_parts m hv
  have HALL := Lib.hid (l03All_any b0 m w h hv hok)
  have HTI := Lib.hid (mTabI_st m)
  have hR64 := mRows_le m hi6
  have HAG : Hid (∀ R r (hr : r < (mAll m R).length), (mAll m R)[r] = ((mOut m r (zeros m.ins.length) : Nat) : Int)) := Lib.hid (by intro R r hr; simp [mAll])
  have HAL := Lib.hid (mAll_len m (mRows m))
  have HOL : Hid (∀ r, mOut m r (zeros m.ins.length) < 256) := Lib.hid (fun r => by
    have h1 := bitsTo_lt (mTk m r (zeros m.ins.length)) m.outs.length
    have h2 := pow_mono2 (a := m.outs.length) (b := 8) ho8
    show bitsTo _ _ < 256
    omega)
  obtain ⟨R, hRR⟩ : ∃ R, R = mRows m := ⟨_, rfl⟩
  rw [← hRR] at HALL HTI hR64 HAL
  have HAGR := Lib.hid (HAG.out R)
  obtain ⟨all, hall⟩ : ∃ all, all = mAll m R := ⟨_, rfl⟩
  rw [← hall] at HALL HAGR HAL
  obtain ⟨f, hf⟩ : ∃ f : Nat → Nat, f = fun r => mOut m r (zeros m.ins.length) := ⟨_, rfl⟩
  rw [← hf] at HTI
  have HAF : Hid (∀ r (hr : r < all.length), all[r] = ((f r : Nat) : Int)) := Lib.hid (by intro r hr; rw [HAGR.out r hr, hf])
  have HFL : Hid (∀ r, f r < 256) := Lib.hid (fun r => by rw [hf]; exact HOL.out r)
  generalize mTabI m = res at HTI ⊢
  clear hRR hall HAG HAGR HOL hf
  obtain ⟨hbl, s, si, so, ⟨hbd, c3, c4⟩, -, -, ⟨oa, ocap, rfl, houts⟩⟩ := h
  obtain ⟨i0, hi0, hiz0, hiz1, hiz2⟩ := info_parts Tryz.infoUint64
  go_enter Tryz.func77, Tryz.ntmps77
  go_wp2_with fail
  refine HALL.out.mono ?_
  rintro e w1 ⟨va, rfl, hownA, hb1⟩
  obtain ⟨aa, acap, rfl, hslA, -, -⟩ := own_at hownA
  have HSA := Lib.hid hslA
  have HB1 := Lib.hid hb1
  have r4 : w1.cell? ⟨b0, 4, none⟩ = some (.slice oa m.outs.length ocap) := by rw [hb1.cell (p := ⟨_, _, none⟩) hbl]; exact c4
  clear hownA hslA hb1 HALL
  go_wp2_with (refine wpList_make_full _ rfl (.tmp 13) (.tmp 13) 50 rfl w1.heap.size 108 i0 _ 1 Tryz.underlying50 hi0 hiz0 hiz1 _ _ _ _ m.outs.length rfl rfl rfl rfl (by rw [hiz2]; omega) (by unfold maxLen; omega) (Nat.le_refl _) ?_; intro w2 hmade hgrow)
  rw [made_rep _ rfl, ← flatU_zeros, ← tabSt_zero f] at hmade
  have hb2 : Below w1.heap.size w1 w2 := bl_grown (Below.refl _ _) hgrow (by simp)
  clear r4 hgrow
  go_loopw [5] (fun rx wr => ∃ r : Nat, r ≤ R ∧ rx = .int .i64 r ∧ wr.ownsRow w1.heap.size 108 1 (.slice (some ⟨w1.heap.size, 0, none⟩) m.outs.length m.outs.length) m.outs.length (flat U64_cells (tabSt f m.outs.length r 0)) ∧ Below w1.heap.size w1 wr) (fun rx _ => R - (intOf rx).toNat)
  case atStart => exact ⟨0, by omega, rfl, hmade, hb2⟩
  case round =>
    clear hmade hb2
    obtain ⟨r, hr, rfl, hown, hb⟩ := hrel
    by_cases hlt : r < R
    · have hltI : (r : Int) < R := by omega
      go_wp2
      go_loopw [6] (fun ix wi => ∃ i : Nat, i ≤ m.outs.length ∧ ix = .int .i64 i ∧ wi.ownsRow w1.heap.size 108 1 (.slice (some ⟨w1.heap.size, 0, none⟩) m.outs.length m.outs.length) m.outs.length (flat U64_cells (tabSt f m.outs.length r i)) ∧ Below w1.heap.size w1 wi) (fun ix _ => m.outs.length - (intOf ix).toNat)
      case atStart => exact ⟨0, by omega, rfl, hown, hb⟩
      case round =>
        clear hown hb
        obtain ⟨i, hi, rfl, hown, hb⟩ := hrel
        by_cases hlti : i < m.outs.length
        · obtain ⟨k0, k1⟩ := u64_cell hown i (by rw [tabSt_len]; exact hlti)
          rw [tabSt_get f _ r i i hlti, if_neg (by omega)] at k0
          have hra : r < all.length := by rw [HAL.out]; exact hlt
          obtain ⟨ba, offa, rfl, hba, hata⟩ := n64s_get HSA.out hra
          unfold N64At at hata
          rw [Nat.mul_one, HAF.out r hra] at hata
          have q0 : wr.cell? ⟨ba, offa + r, none⟩ = some (.int .i64 ((f r : Nat) : Int)) := by rw [hb.cell (p := ⟨_, _, none⟩) hba]; exact hata
          have hlo := HFL.out r
          have hbv := bit_val (f r) i (by omega)
          have HOWN := Lib.hid hown
          have hriI : (r : Int) < R := by omega
          have hiI : (i : Int) < m.outs.length := by omega
          have hi8 : i < 8 := by omega
          have HVAL : Hid (bits .or .u64 ((tabTo f i r : Nat) : Int) (IntKind.u64.wrap (IntKind.u64.wrap (bits .and .i64 (((f r : Nat) : Int) / 2 ^ min i 64) 1) * 2 ^ min r 64)) = ((tabTo f i (r + 1) : Nat) : Int)) := Lib.hid (by
            rw [Nat.min_eq_left (show i ≤ 64 by omega), Nat.min_eq_left (show r ≤ 64 by omega), hbv]
            obtain ⟨p, hp, hp1, hp2, hp3, hp4⟩ := pow_63 r (by omega)
            cases gb : (f r).testBit i with
            | true =>
              rw [if_pos rfl, wrap_u64 1 (by omega) (by omega), Int.one_mul, hp, hp4, hp3]
              exact tab_yes f i r (by omega) gb
            | false =>
              rw [if_neg Bool.false_ne_true, wrap_u64 0 (by omega) (by omega), Int.zero_mul, wrap_u64 0 (by omega) (by omega), or_zero f i r (by omega), tab_no f i r gb])
          obtain ⟨F, hF⟩ : ∃ F, F = f r := ⟨_, rfl⟩
          rw [← hF] at q0 hlo HVAL
          obtain ⟨T, hT⟩ : ∃ T, T = tabTo f i r := ⟨_, rfl⟩
          rw [← hT] at k0 HVAL
          clear hown hata hF hT hra hbv
          go_upto_region 9 with fail
          go_still_tail 18, (by kernel_rfl)
          change wpList _ _ _ _ _ wr.drew
          go_wp2
          have how := u64_set HOWN.out i ((tabTo f i (r + 1) : Nat) : Int)
          rw [tabSt_set f _ r i hlti] at how
          go_roundw
          case rel => exact ⟨i + 1, by omega, by go_num, by rw [HVAL.out]; exact own_below how (bl_drew (Below.refl _ _)) (Nat.le_refl _), bl_drew (bl_set hb (Nat.le_refl _) _)⟩
          case measure => simp [intOf]; omega
        · have hin : i = m.outs.length := by omega
          subst hin
          rw [tabSt_end] at hown
          have HOWN := Lib.hid hown
          clear hown
          go_wp2
          go_roundw
          case rel => exact ⟨r + 1, by omega, by go_num, HOWN.out, hb⟩
          case measure => simp [intOf]; omega
    · have hkn : r = R := by omega
      subst hkn
      have HOWN2 := own_mono (base := w.heap.size) hown HB1.out.size
      rw [← HTI.out] at HOWN2
      have HBF := Lib.hid (bl_trans HB1.out hb)
      clear hown
      go_wp2
      go_ret
      exact ⟨_, rfl, HOWN2, HBF.out⟩
end Go.Proofs.YtdhjhnbmecbaaaaGreat
/- Contracts: the falls, the outputs and the tables of a machine (the program). -/
namespace Go.Proofs.YtdhjhnbmecbaaaaGreat
open Go.RowKit
set_option linter.unusedVariables false
set_option linter.unusedSimpArgs false
set_option maxHeartbeats 400000
set_option maxRecDepth 100000
/-- How late the inputs are, as a value: nil says that none is. -/
def LateV (w : World) (v : Value) (n : Nat) (L : List Int) : Prop := L.length = n ∧ lateOk L ∧ ((v = .slice none 0 0 ∧ L = zeros n) ∨ ∃ a cap, v = .slice (some a) n cap ∧ SlAt w.heap.size w (some a) (flat N64_cells L))
theorem LateV.step {w w' : World} {v : Value} {n : Nat} {L : List Int} (h : LateV w v n L) (hb : Below w.heap.size w w') : LateV w' v n L := by
  obtain ⟨h1, h2, h3⟩ := h
  refine ⟨h1, h2, h3.imp id ?_⟩
  rintro ⟨a, cap, e, h⟩
  exact ⟨a, cap, e, (h.below hb (Nat.le_refl _)).mono hb.size⟩
theorem LateV.nil (w : World) (n : Nat) : LateV w (.slice none 0 0) n (zeros n) := ⟨by simp [zeros], zeros_ok n, .inl ⟨rfl, rfl⟩⟩
theorem zeros_get (n i : Nat) : (zeros n).getD i 0 = 0 := by
  unfold zeros
  rw [List.getD_eq_getElem?_getD, List.getElem?_replicate]
  split <;> rfl
theorem hit_of (bd : Bd) (ins : List Po) (L : List Int) (k : Nat) (hk : k < ins.length) : hitOf bd (puOf ins L k) = ⟨L.getD k 0, fnd ⟨ins[k].x, ins[k].y⟩ bd.ps, ins[k].s, -1⟩ := by
  unfold hitOf puOf
  rw [getD_po ins k hk]
set_option maxHeartbeats 3200000 in
theorem wfalls_any (g b0 : Nat) (m : Mc) (row : Nat) (vl : Value) (L : List Int) (w : World) (h : WkAt w g b0 m) (hv : vMc m = true) (hok : m.ok) (hl : LateV w vl m.ins.length L) (hrow : row < 64) :
    Calls Tryz.prog 72 #[.pointer (some ⟨g, 0, none⟩), .int .i64 row, vl] w fun e w' => ∃ v, e = .returned v ∧ w'.ownsRow w.heap.size 100 3 v (mFa m row L).length (flat Fa.cells (mFa m row L)) ∧ Below w.heap.size w w' := by
  obtain ⟨hvb, h60, hi1, hi6, ho1, ho8, -⟩ := vMc_parts m hv
  obtain ⟨hll, hlo, hlv⟩ := hl
  obtain ⟨o1, o2, o3, o4⟩ := mPu_ok m hv hok row L hlo
  have HG := Lib.hid (good_bd m.bd hvb (mPu m row L) o2)
  obtain ⟨hgl, c0, ⟨bs, c1, hst⟩, ⟨ai, capi, c2, hsi⟩, -⟩ := h
  have HRUN := Lib.hid (fun w1 (hb : Below w.heap.size w w1) av cap (hs : SlAt w1.heap.size w1 av (flat Hi.cells ((mPu m row L).map (hitOf m.bd)))) => run_any (B := w1.heap.size) bs m.bd av cap (mPu m row L) w1 (hst.step hb) hvb hs o2 o3 o4 (Nat.le_refl _))
  have HFE : Hid (mFa m row L = runOf m.bd.ps (mPu m row L)) := Lib.hid rfl
  have HPL : Hid (mPu m row L = mPuTo m.ins row L m.ins.length) := Lib.hid rfl
  have HS : Hid (∀ k, mPuTo m.ins row L (k + 1) = mPuTo m.ins row L k ++ (if row.testBit k = true then [puOf m.ins L k] else [])) := Lib.hid (fun k => rfl)
  have HLE := Lib.hid (fun k => mPuTo_len m.ins row L k)
  have HHO := Lib.hid (fun k hk => hit_of m.bd m.ins L k hk)
  obtain ⟨fs, hfs⟩ : ∃ fs, fs = mFa m row L := ⟨_, rfl⟩
  obtain ⟨pl, hpl⟩ : ∃ pl, pl = mPu m row L := ⟨_, rfl⟩
  rw [← hfs] at HFE ⊢
  rw [← hpl] at HG HRUN HFE HPL
  have HLO := Lib.hid hlo
  clear hfs hpl o1 o2 o3 o4 hst hlo
  obtain ⟨i0, hi0, hiz0, hiz1, hiz2⟩ := info_parts Tryz.infoHit
  have hown0 := World.ownsRow_made (e := 145) (size := 4) w #[] 0 (Nat.le_refl _) (by simp [maxLen]) rfl
  have hb0 : Below w.heap.size w (w.alloc (.cells #[] 145)) := bl_alloc (Below.refl _ _)
  have hmi : (m.ins.map (hit0 m.bd.ps)).length = m.ins.length := by simp
  have HHG : Hid (∀ k (hk : k < (m.ins.map (hit0 m.bd.ps)).length) (h2 : k < m.ins.length), (m.ins.map (hit0 m.bd.ps))[k] = ⟨0, fnd ⟨m.ins[k].x, m.ins[k].y⟩ m.bd.ps, m.ins[k].s, -1⟩) := Lib.hid (by intro k hk h2; simp [hit0])
  have HMI := Lib.hid hmi
  clear hmi
  go_enter Tryz.func72, Tryz.ntmps72
  go_wp2
  go_loopw [7, 16] (fun v ix wr => ∃ k : Nat, k ≤ m.ins.length ∧ ix = .int .i64 k ∧ wr.ownsRow w.heap.size 145 4 v (mPuTo m.ins row L k).length (flat Hi.cells ((mPuTo m.ins row L k).map (hitOf m.bd))) ∧ Below w.heap.size w wr) (fun _ ix _ => m.ins.length - (intOf ix).toNat)
  case atStart => exact ⟨0, by omega, rfl, hown0, hb0⟩
  case round =>
    clear hown0 hb0
    obtain ⟨k, hk, rfl, hown, hb⟩ := hrel
    obtain ⟨av, capv, hve, -, -, -⟩ := own_at hown
    subst hve
    have HOWN := Lib.hid hown
    have hzb := hb.size
    have hle := HLE.out k
    have HB := Lib.hid hb
    clear hown
    obtain ⟨n, hnn⟩ : ∃ n, n = (mPuTo m.ins row L k).length := ⟨_, rfl⟩
    rw [← hnn] at HOWN hle ⊢
    have HNN := Lib.hid hnn
    clear hnn
    by_cases hlt : k < m.ins.length
    · have hkm : k < (m.ins.map (hit0 m.bd.ps)).length := by rw [HMI.out]; exact hlt
      obtain ⟨b, off, rfl, hbi, hat⟩ := his_get hsi hkm
      rw [HHG.out k hkm hlt] at hat
      unfold HiAt at hat
      simp only at hat
      obtain ⟨a0, a1, a2, a3⟩ := hat
      have HH := Lib.hid (HHO.out k hlt)
      obtain ⟨fk, hfk⟩ : ∃ fk, fk = fnd ⟨m.ins[k].x, m.ins[k].y⟩ m.bd.ps := ⟨_, rfl⟩
      rw [← hfk] at a1 HH
      obtain ⟨sk, hsk⟩ : ∃ sk, sk = m.ins[k].s := ⟨_, rfl⟩
      rw [← hsk] at a2 HH
      clear hfk hsk
      have q0 : wr.cell? ⟨b, off + k * 4, none⟩ = some (.int .i64 0) := by rw [hb.cell (p := ⟨_, _, none⟩) hbi]; exact a0
      have q1 : wr.cell? ⟨b, off + k * 4 + 1, none⟩ = some (.int .i64 fk) := by rw [hb.cell (p := ⟨_, _, none⟩) hbi]; exact a1
      have q2 : wr.cell? ⟨b, off + k * 4 + 2, none⟩ = some (.int .i64 sk) := by rw [hb.cell (p := ⟨_, _, none⟩) hbi]; exact a2
      have q3 : wr.cell? ⟨b, off + k * 4 + 3, none⟩ = some (.int .i64 (-1)) := by rw [hb.cell (p := ⟨_, _, none⟩) hbi]; exact a3
      have HBI := Lib.hid (fun w1 => bitI_any row k (by omega) (by omega) w1)
      clear a0 a1 a2 a3
      cases gb : row.testBit k with
      | false =>
        rw [gb] at HBI
        have HC2 : Hid (mPuTo m.ins row L (k + 1) = mPuTo m.ins row L k) := Lib.hid (by rw [HS.out, gb]; simp)
        have HO2 := Lib.hid (own_below HOWN.out (bl_alloc (o := .cells #[.int .i64 0, .int .i64 fk, .int .i64 sk, .int .i64 (-1)] 145) (Below.refl wr.heap.size wr)) (Nat.le_refl _))
        clear gb
        go_wp2_with (go_at_call 115; refine (HBI.out _).mono ?_; rintro e w' ⟨rfl, rfl⟩)
        go_roundw
        case rel => exact ⟨k + 1, by omega, by go_num, by rw [HC2.out, ← HNN.out]; exact HO2.out, bl_alloc HB.out⟩
        case measure => simp [intOf]; omega
      | true =>
        rw [gb] at HBI
        have HC2 : Hid (mPuTo m.ins row L (k + 1) = mPuTo m.ins row L k ++ [puOf m.ins L k]) := Lib.hid (by rw [HS.out, gb]; simp)
        clear gb
        rcases hlv with ⟨rfl, hz⟩ | ⟨al, capl, rfl, hsl⟩
        · have HT : Hid (L.getD k 0 = 0) := Lib.hid (by rw [hz]; exact zeros_get _ _)
          have HO2 := Lib.hid (own_below HOWN.out (bl_alloc (o := .cells #[.int .i64 0, .int .i64 fk, .int .i64 sk, .int .i64 (-1)] 145) (Below.refl wr.heap.size wr)) (Nat.le_refl _))
          have hzz : (wr.alloc (.cells #[.int .i64 0, .int .i64 fk, .int .i64 sk, .int .i64 (-1)] 145)).heap.size = wr.heap.size + 1 := by simp
          have HZZ := Lib.hid hzz
          clear hz hzz
          go_wp2_with (first | (go_at_call 115; refine (HBI.out _).mono ?_; rintro e w' ⟨rfl, rfl⟩) | (at_builtin; go_must (refine wpList_append_sl _ rfl _ _ 95 rfl w.heap.size 145 i0 (.agg #[.int .i64 0, .int .i64 0, .int .i64 0, .int .i64 0]) 4 32 Tryz.underlying95 hi0 hiz0 hiz1 hiz2 rfl (by decide) _ _ _ rfl (own_below HO2.out (bl_alloc (Below.refl _ _)) (Nat.le_refl _)) (some ⟨_, 0, none⟩) 1 1 [.int .i64 0, .int .i64 fk, .int .i64 sk, .int .i64 (-1)] rfl (sl_newC (wr.alloc (.cells #[.int .i64 0, .int .i64 fk, .int .i64 sk, .int .i64 (-1)] 145)) #[.int .i64 0, .int .i64 fk, .int .i64 sk, .int .i64 (-1)] 145 _ (by rw [HZZ.out])) rfl (Hi.one ⟨0, fk, sk, -1⟩) (by unfold maxLen; omega) (by omega) (by simp; omega) ?_); intro v3 w3 hown3 hgrow))
          have hb3 : Below w.heap.size w w3 := (bl_alloc (bl_alloc HB.out)).grown hgrow (by simp; omega) (fun q hq => (HO2.out.lt q hq).1)
          have hcells : flat Hi.cells ((mPuTo m.ins row L k).map (hitOf m.bd)) ++ [.int .i64 0, .int .i64 fk, .int .i64 sk, .int .i64 (-1)] = flat Hi.cells ((mPuTo m.ins row L (k + 1)).map (hitOf m.bd)) := by rw [HC2.out, List.map_append, flat_append, List.map_cons, List.map_nil, HH.out, HT.out]; rfl
          have hnn2 : n + 1 = (mPuTo m.ins row L (k + 1)).length := by rw [HC2.out, List.length_append, ← HNN.out]; rfl
          rw [hcells] at hown3
          go_roundw
          case rel => exact ⟨k + 1, by omega, by go_num, by rw [← hnn2]; exact hown3, hb3⟩
          case measure => simp [intOf]; omega
        · have hkl : k < L.length := by rw [hll]; exact hlt
          obtain ⟨bl, offl, he, hbL, hatl⟩ := n64s_get hsl hkl
          simp only [Option.some.injEq] at he
          subst he
          unfold N64At at hatl
          rw [Nat.mul_one] at hatl
          have q4 : wr.cell? ⟨bl, offl + k, none⟩ = some (.int .i64 L[k]) := by rw [hb.cell (p := ⟨_, _, none⟩) hbL]; exact hatl
          have HT : Hid (L.getD k 0 = L[k]) := Lib.hid (getD_n L k hkl)
          obtain ⟨T, hT⟩ : ∃ T, T = L[k] := ⟨_, rfl⟩
          rw [← hT] at q4 HT
          have q5 : (wr.alloc (.cells #[.int .i64 0, .int .i64 fk, .int .i64 sk, .int .i64 (-1)] 145)).cell? ⟨bl, offl + k, none⟩ = some (.int .i64 T) := by rw [cell_alloc _ _ _ _ (by omega)]; exact q4
          have hkI : (k : Int) < m.ins.length := by omega
          clear hatl hT hkl
          have HO2 := Lib.hid (own_below HOWN.out (bl_alloc (o := .cells #[.int .i64 T, .int .i64 fk, .int .i64 sk, .int .i64 (-1)] 145) (Below.refl wr.heap.size wr)) (Nat.le_refl _))
          have hzz : (wr.alloc (.cells #[.int .i64 T, .int .i64 fk, .int .i64 sk, .int .i64 (-1)] 145)).heap.size = wr.heap.size + 1 := by simp
          have HZZ := Lib.hid hzz
          clear hzz
          go_wp2_with (first | (go_at_call 115; refine (HBI.out _).mono ?_; rintro e w' ⟨rfl, rfl⟩) | (at_builtin; go_must (refine wpList_append_sl _ rfl _ _ 95 rfl w.heap.size 145 i0 (.agg #[.int .i64 0, .int .i64 0, .int .i64 0, .int .i64 0]) 4 32 Tryz.underlying95 hi0 hiz0 hiz1 hiz2 rfl (by decide) _ _ _ rfl (own_below HO2.out (bl_alloc (Below.refl _ _)) (Nat.le_refl _)) (some ⟨_, 0, none⟩) 1 1 [.int .i64 T, .int .i64 fk, .int .i64 sk, .int .i64 (-1)] rfl (sl_newC (wr.alloc (.cells #[.int .i64 T, .int .i64 fk, .int .i64 sk, .int .i64 (-1)] 145)) #[.int .i64 T, .int .i64 fk, .int .i64 sk, .int .i64 (-1)] 145 _ (by rw [HZZ.out])) rfl (Hi.one ⟨T, fk, sk, -1⟩) (by unfold maxLen; omega) (by omega) (by simp; omega) ?_); intro v3 w3 hown3 hgrow))
          have hb3 : Below w.heap.size w w3 := (bl_alloc (bl_alloc HB.out)).grown hgrow (by simp; omega) (fun q hq => (HO2.out.lt q hq).1)
          have hcells : flat Hi.cells ((mPuTo m.ins row L k).map (hitOf m.bd)) ++ [.int .i64 T, .int .i64 fk, .int .i64 sk, .int .i64 (-1)] = flat Hi.cells ((mPuTo m.ins row L (k + 1)).map (hitOf m.bd)) := by rw [HC2.out, List.map_append, flat_append, List.map_cons, List.map_nil, HH.out, HT.out]; rfl
          have hnn2 : n + 1 = (mPuTo m.ins row L (k + 1)).length := by rw [HC2.out, List.length_append, ← HNN.out]; rfl
          rw [hcells] at hown3
          go_roundw
          case rel => exact ⟨k + 1, by omega, by go_num, by rw [← hnn2]; exact hown3, hb3⟩
          case measure => simp [intOf]; omega
    · have hkn : k = m.ins.length := by omega
      subst hkn
      have hsl9 : SlAt wr.heap.size wr av (flat Hi.cells (pl.map (hitOf m.bd))) := by
        obtain ⟨a9, cap9, e9, s9, -, -⟩ := own_at HOWN.out
        simp only [Value.slice.injEq] at e9
        obtain ⟨rfl, -, -⟩ := e9
        rw [HPL.out]
        exact s9
      have HNP : Hid (n = pl.length) := Lib.hid (by rw [HNN.out, HPL.out])
      have HRC := Lib.hid (HRUN.out wr HB.out av capv hsl9)
      have d1 : wr.cell? ⟨g, 1, none⟩ = some (.pointer (some ⟨bs, 0, none⟩)) := by rw [hb.cell (p := ⟨_, _, none⟩) hgl]; exact c1
      rw [← HNP.out] at HRC
      clear HRUN hsl9
      go_wp2_with fail
      refine HRC.out.mono ?_
      rintro e w2 ⟨v2, fs2, rfl, hown2, hokf, hb2⟩
      have he : fs = fs2 := by rw [HFE.out]; exact (runOf_eq _ _ _ HG.out hokf).symm
      subst he
      have HO9 := Lib.hid (own_mono (base := w.heap.size) hown2 hzb)
      clear hown2 hokf
      go_wp2
      go_ret
      exact ⟨_, rfl, HO9.out, bl_trans HB.out hb2⟩
end Go.Proofs.YtdhjhnbmecbaaaaGreat
/- Contracts: the outputs and the tables of a machine, what is asked (the program). -/
namespace Go.Proofs.YtdhjhnbmecbaaaaGreat
open Go.RowKit
set_option linter.unusedVariables false
set_option linter.unusedSimpArgs false
set_option maxHeartbeats 400000
set_option maxRecDepth 100000
theorem mFa_ge (m : Mc) (row : Nat) (L : List Int) (k : Nat) (hk : k < (mFa m row L).length) : -1 ≤ (mFa m row L)[k].t := runOf_ge _ _ k hk
theorem mTk_at (m : Mc) (row : Nat) (L : List Int) (k : Nat) (hk : k < m.outs.length) (f : Nat) (hf : fnd m.outs[k] m.bd.ps = (f : Int)) (hff : f < (mFa m row L).length) : (mTk m row L).getD k 0 = (mFa m row L)[f].t := by
  have h1 : k < (mTk m row L).length := by rw [mTk_len]; exact hk
  rw [getD_n _ k h1]
  have h2 : (mTk m row L)[k] = tkAt m.bd.ps (mFa m row L) m.outs[k] := by simp [mTk, tkAt]
  rw [h2]
  unfold tkAt
  rw [hf, Int.toNat_natCast, getD_fa _ f hff]
set_option maxHeartbeats 1600000 in
theorem woutputs_any (g b0 : Nat) (m : Mc) (row : Nat) (vl : Value) (L : List Int) (w : World) (h : WkAt w g b0 m) (hv : vMc m = true) (hok : m.ok) (hl : LateV w vl m.ins.length L) (hrow : row < 64) :
    Calls Tryz.prog 67 #[.pointer (some ⟨g, 0, none⟩), .int .i64 row, vl] w fun e w' => e = .returned (.int .i64 ((mOut m row L : Nat) : Int)) ∧ Below w.heap.size w w' := by
  obtain ⟨hvb, h60, hi1, hi6, ho1, ho8, -⟩ := vMc_parts m hv
  have HF := Lib.hid (wfalls_any g b0 m row vl L w h hv hok hl hrow)
  have HOV : Hid (mOut m row L = bitsTo (mTk m row L) m.outs.length) := Lib.hid rfl
  have HTA := Lib.hid (fun k hk f hf hff => mTk_at m row L k hk f hf hff)
  have HOF := Lib.hid (fun k hk => out_fnd m hv k hk)
  have HGE := Lib.hid (mFa_ge m row L)
  have HFL := Lib.hid (mFa_len m row L)
  obtain ⟨fs, hfs⟩ : ∃ fs, fs = mFa m row L := ⟨_, rfl⟩
  obtain ⟨ts, hts⟩ : ∃ ts, ts = mTk m row L := ⟨_, rfl⟩
  obtain ⟨r, hr⟩ : ∃ r, r = mOut m row L := ⟨_, rfl⟩
  rw [← hr] at HOV ⊢
  rw [← hts] at HTA HOV
  rw [← hfs] at HF HGE HFL
  have HTA2 : Hid (∀ k (hk : k < m.outs.length) (f : Nat), fnd m.outs[k] m.bd.ps = (f : Int) → ∀ (hff : f < fs.length), ts.getD k 0 = fs[f].t) := Lib.hid (by intro k hk f hf hff; rw [HTA.out k hk f hf (by rw [← hfs]; exact hff)]; simp only [hfs])
  have HMO : Hid (∀ k (hk : k < (m.outs.map (outF m.bd.ps)).length) (h2 : k < m.outs.length), (m.outs.map (outF m.bd.ps))[k] = fnd m.outs[k] m.bd.ps) := Lib.hid (by intro k hk h2; simp [outF])
  have HML : Hid ((m.outs.map (outF m.bd.ps)).length = m.outs.length) := Lib.hid (by simp)
  clear hfs hts hr HTA
  obtain ⟨hgl, c0, -, -, ⟨ao, capo, c3, hso⟩⟩ := h
  go_enter Tryz.func67, Tryz.ntmps67
  go_wp2_with fail
  refine HF.out.mono ?_
  rintro e w2 ⟨v, rfl, hown, hb2⟩
  obtain ⟨av, capv, hve, hsl, -, -⟩ := own_at hown
  subst hve
  have HB2 := Lib.hid hb2
  have d3 : w2.cell? ⟨g, 3, none⟩ = some (.slice ao m.outs.length capo) := by rw [hb2.cell (p := ⟨_, _, none⟩) hgl]; exact c3
  have hso2 := hso.below hb2 (Nat.le_refl _)
  have hz2 := hb2.size
  clear hown hb2 HF hso
  go_wp2
  go_loopw [8, 20] (fun ox ix wr => ∃ k : Nat, k ≤ m.outs.length ∧ ix = .int .i64 k ∧ ox = .int .i64 (bitsTo ts k : Int) ∧ Below w2.heap.size w2 wr) (fun _ ix _ => m.outs.length - (intOf ix).toNat)
  case atStart => exact ⟨0, by omega, rfl, rfl, Below.refl _ _⟩
  case round =>
    obtain ⟨k, hk, rfl, rfl, hb⟩ := hrel
    by_cases hlt : k < m.outs.length
    · obtain ⟨f, hf, hfl⟩ := HOF.out k hlt
      have hff : f < fs.length := by rw [HFL.out]; exact hfl
      have hkm : k < (m.outs.map (outF m.bd.ps)).length := by rw [HML.out]; exact hlt
      obtain ⟨bo, offo, rfl, hbo, hato⟩ := ints_get hso2 hkm
      rw [HMO.out k hkm hlt, hf] at hato
      have q0 : wr.cell? ⟨bo, offo + k, none⟩ = some (.int .i64 (f : Int)) := by rw [hb.cell (p := ⟨_, _, none⟩) (show bo < w2.heap.size by omega)]; exact hato
      obtain ⟨bf, offf, rfl, hbf, hatf⟩ := fas_get hsl hff
      have q1 : wr.cell? ⟨bf, offf + f * 3, none⟩ = some (.int .i64 fs[f].t) := by rw [hb.cell (p := ⟨_, _, none⟩) hbf]; exact hatf.1
      have HGD := Lib.hid (HTA2.out k hlt f hf hff)
      have hge := HGE.out f hff
      obtain ⟨T, hT⟩ : ∃ T, T = fs[f].t := ⟨_, rfl⟩
      rw [← hT] at q1 HGD hge
      have hfI : (f : Int) < fs.length := by omega
      have hk8 : k < 8 := by omega
      clear hT hato hatf hf hkm
      rcases Int.decEq T (-1) with hne | heq
      · have htc : (T != (-1 : Int)) = true := by simpa using hne
        have HS := Lib.hid (bitsTo_yes ts k (by omega) (by rw [HGD.out]; omega))
        obtain ⟨p, hp, hp1, hp2, hp3⟩ := pow_i k (by omega)
        rw [← hp3] at HS
        clear hne hge hp3
        go_wp2
        go_roundw
        case rel => exact ⟨k + 1, by omega, by go_num, by rw [← HS.out], hb⟩
        case measure => simp [intOf]; omega
      · have htc : (T != (-1 : Int)) = false := by rw [heq]; rfl
        have HS := Lib.hid (bitsTo_no ts k (by rw [HGD.out]; omega))
        clear heq hge
        go_wp2
        go_roundw
        case rel => exact ⟨k + 1, by omega, by go_num, by rw [HS.out], hb⟩
        case measure => simp [intOf]; omega
    · have hkn : k = m.outs.length := by omega
      subst hkn
      rw [← HOV.out]
      go_wp2
      go_ret
      exact ⟨rfl, bl_trans HB2.out hb⟩
theorem wrows_any (g b0 : Nat) (m : Mc) (w : World) (h : WkAt w g b0 m) (hn : m.ins.length ≤ 6) : Calls Tryz.prog 81 #[.pointer (some ⟨g, 0, none⟩)] w fun e w' => e = .returned (.int .i64 ((mRows m : Nat) : Int)) ∧ w = w' := by
  have HR := Lib.hid (fun w => rows_any m.ins.length (by omega) w)
  obtain ⟨hgl, c0, -, ⟨ai, capi, c2, -⟩, -⟩ := h
  go_enter Tryz.func81, Tryz.ntmps81
  go_wp2_with (go_at_call 85; refine (HR.out _).mono ?_; rintro e w' ⟨rfl, rfl⟩)
  go_ret
  exact ⟨rfl, rfl⟩
set_option maxHeartbeats 1600000 in
theorem wtables_any (g b0 : Nat) (m : Mc) (w : World) (h : WkAt w g b0 m) (hv : vMc m = true) (hok : m.ok) :
    Calls Tryz.prog 79 #[.pointer (some ⟨g, 0, none⟩)] w fun e w' => ∃ v, e = .returned v ∧ w'.ownsRow w.heap.size 108 1 v m.outs.length (flat U64_cells (mTabI m)) ∧ Below w.heap.size w w' := by
  obtain ⟨hvb, h60, hi1, hi6, ho1, ho8, -⟩ := vMc_parts m hv
  have HW := Lib.hid h
  have HRO := Lib.hid (fun w1 (hb : Below w.heap.size w w1) => wrows_any g b0 m w1 (h.step hb) hi6)
  have HOU := Lib.hid (fun w1 (hb : Below w.heap.size w w1) (r : Nat) (hr : r < 64) => woutputs_any g b0 m r (.slice none 0 0) (zeros m.ins.length) w1 (h.step hb) hv hok (LateV.nil w1 _) hr)
  have HTI := Lib.hid (mTabI_st m)
  have hR64 := mRows_le m hi6
  have HOL : Hid (∀ r, mOut m r (zeros m.ins.length) < 256) := Lib.hid (fun r => by
    have h1 := bitsTo_lt (mTk m r (zeros m.ins.length)) m.outs.length
    have h2 := pow_mono2 (a := m.outs.length) (b := 8) ho8
    show bitsTo _ _ < 256
    omega)
  obtain ⟨R, hRR⟩ : ∃ R, R = mRows m := ⟨_, rfl⟩
  rw [← hRR] at HTI hR64 HRO
  obtain ⟨f, hf⟩ : ∃ f : Nat → Nat, f = fun r => mOut m r (zeros m.ins.length) := ⟨_, rfl⟩
  rw [← hf] at HTI
  have HF : Hid (∀ r, mOut m r (zeros m.ins.length) = f r) := Lib.hid (fun r => by rw [hf])
  have HFL : Hid (∀ r, f r < 256) := Lib.hid (fun r => by rw [hf]; exact HOL.out r)
  generalize mTabI m = res at HTI ⊢
  clear hRR HOL hf
  obtain ⟨hgl, c0, -, -, ⟨ao, capo, c3, hso⟩⟩ := h
  obtain ⟨i0, hi0, hiz0, hiz1, hiz2⟩ := info_parts Tryz.infoUint64
  go_enter Tryz.func79, Tryz.ntmps79
  go_wp2_with (first | (go_at_call 81; refine (HRO.out _ hb2).mono ?_; rintro e w' ⟨rfl, rfl⟩) | (refine wpList_make_full _ rfl (.tmp 11) (.tmp 11) 50 rfl w.heap.size 108 i0 _ 1 Tryz.underlying50 hi0 hiz0 hiz1 _ _ _ _ m.outs.length rfl rfl rfl rfl (by rw [hiz2]; omega) (by unfold maxLen; omega) (Nat.le_refl _) ?_; intro w2 hmade hgrow; have hb2 : Below w.heap.size w w2 := bl_grown (Below.refl _ _) hgrow (by simp)))
  rw [made_rep _ rfl, ← flatU_zeros, ← tabSt_zero f] at hmade
  clear hgrow
  go_loopw [15] (fun rx wr => ∃ r : Nat, r ≤ R ∧ rx = .int .i64 r ∧ wr.ownsRow w.heap.size 108 1 (.slice (some ⟨w.heap.size, 0, none⟩) m.outs.length m.outs.length) m.outs.length (flat U64_cells (tabSt f m.outs.length r 0)) ∧ Below w.heap.size w wr) (fun rx _ => R - (intOf rx).toNat)
  case atStart => exact ⟨0, by omega, rfl, hmade, hb2⟩
  case round =>
    clear hmade hb2
    obtain ⟨r, hr, rfl, hown, hb⟩ := hrel
    by_cases hlt : r < R
    · have hltI : (r : Int) < R := by omega
      have HOC := Lib.hid (HOU.out wr hb r (by omega))
      rw [HF.out] at HOC
      have HOWN := Lib.hid hown
      have HB := Lib.hid hb
      have hlo := HFL.out r
      clear hown hb
      go_wp2_with fail
      refine HOC.out.mono ?_
      rintro e w3 ⟨rfl, hb3⟩
      have hown3 := own_below HOWN.out hb3 (Nat.le_refl _)
      have hb03 := bl_trans HB.out hb3
      clear hb3
      obtain ⟨F, hF⟩ : ∃ F, F = f r := ⟨_, rfl⟩
      rw [← hF] at hlo ⊢
      have HFF := Lib.hid hF
      clear hF
      go_wp2
      go_loopw [23] (fun ix wi => ∃ i : Nat, i ≤ m.outs.length ∧ ix = .int .i64 i ∧ wi.ownsRow w.heap.size 108 1 (.slice (some ⟨w.heap.size, 0, none⟩) m.outs.length m.outs.length) m.outs.length (flat U64_cells (tabSt f m.outs.length r i)) ∧ Below w.heap.size w wi) (fun ix _ => m.outs.length - (intOf ix).toNat)
      case atStart => exact ⟨0, by omega, rfl, hown3, hb03⟩
      case round =>
        clear hown3 hb03
        obtain ⟨i, hi, rfl, hown, hb⟩ := hrel
        by_cases hlti : i < m.outs.length
        · obtain ⟨k0, k1⟩ := u64_cell hown i (by rw [tabSt_len]; exact hlti)
          rw [tabSt_get f _ r i i hlti, if_neg (by omega)] at k0
          have HOWN := Lib.hid hown
          have hiI : (i : Int) < m.outs.length := by omega
          have hi8 : i < 8 := by omega
          have HBI := Lib.hid (fun w1 => bitI_any F i (by omega) (by omega) w1)
          cases gb : F.testBit i with
          | true =>
            rw [gb] at HBI
            have HVAL : Hid (bits .or .u64 ((tabTo f i r : Nat) : Int) (IntKind.u64.wrap (2 ^ r)) = ((tabTo f i (r + 1) : Nat) : Int)) := Lib.hid (by
              obtain ⟨p, hp, hp1, hp2, hp3, hp4⟩ := pow_63 r (by omega)
              rw [hp, hp4, hp3]
              exact tab_yes f i r (by omega) (by rw [← HFF.out]; exact gb))
            obtain ⟨T, hT⟩ : ∃ T, T = tabTo f i r := ⟨_, rfl⟩
            rw [← hT] at k0 HVAL
            clear hown hT gb
            go_wp2_with (go_at_call 115; refine (HBI.out _).mono ?_; rintro e w' ⟨rfl, rfl⟩)
            go_upto_region 10 with fail
            go_still_tail 8, (by kernel_rfl)
            change wpList _ _ _ _ _ wr.drew
            go_wp2
            have how := u64_set HOWN.out i ((tabTo f i (r + 1) : Nat) : Int)
            rw [tabSt_set f _ r i hlti] at how
            go_roundw
            case rel => exact ⟨i + 1, by omega, by go_num, by rw [HVAL.out]; exact own_below how (bl_drew (Below.refl _ _)) (Nat.le_refl _), bl_drew (bl_set hb (Nat.le_refl _) _)⟩
            case measure => simp [intOf]; omega
          | false =>
            rw [gb] at HBI
            have HNO : Hid (tabSt f m.outs.length r (i + 1) = tabSt f m.outs.length r i) := Lib.hid (by
              rw [← tabSt_set f _ r i hlti, tab_no f i r (by rw [← HFF.out]; exact gb)]
              apply List.ext_getElem (by simp)
              intro j h1 h2
              rw [List.getElem_set]
              split
              · rename_i e; subst e; rw [tabSt_get f _ r _ _ hlti, if_neg (by omega)]
              · rfl)
            clear hown gb k0 k1
            go_wp2_with (go_at_call 115; refine (HBI.out _).mono ?_; rintro e w' ⟨rfl, rfl⟩)
            go_roundw
            case rel => exact ⟨i + 1, by omega, by go_num, by rw [HNO.out]; exact HOWN.out, hb⟩
            case measure => simp [intOf]; omega
        · have hin : i = m.outs.length := by omega
          subst hin
          rw [tabSt_end] at hown
          have HOWN := Lib.hid hown
          clear hown
          go_wp2
          go_roundw
          case rel => exact ⟨r + 1, by omega, by go_num, HOWN.out, hb⟩
          case measure => simp [intOf]; omega
    · have hkn : r = R := by omega
      subst hkn
      rw [← HTI.out] at hown
      have HOWN := Lib.hid hown
      clear hown
      go_wp2
      go_ret
      exact ⟨_, rfl, HOWN.out, hb⟩
end Go.Proofs.YtdhjhnbmecbaaaaGreat
/- Contracts: functions of package slices over whole numbers and ports. -/
namespace Go.Proofs.YtdhjhnbmecbaaaaGreat
open Go.RowKit
set_option linter.unusedVariables false
set_option linter.unusedSimpArgs false
set_option maxHeartbeats 400000
set_option maxRecDepth 100000
theorem indexFuncN64_any {B : Nat} (K : Nat) (caps : Array Value) (a : Option Addr) (cap : Nat) (ps : List Int) (w : World) (hps : SlAt B w a (flat N64_cells ps)) (hB : B ≤ w.heap.size) (hn : ps.length ≤ 10000000) 
   (eg : ∀ (args : Array Value) (w : World), (callFunc K args).run Tryz.prog w = .ok (.enter K args) w) (q : Int → Bool) (hf : ∀ (p : Int) (w1 : World), Below w.heap.size w w1 → Calls Tryz.prog K (#[.int .i64 p] ++ caps) w1 fun e w' => e = .returned (.bool (q p)) ∧ Below w1.heap.size w1 w'):
    Calls Tryz.prog 146 #[.slice a ps.length cap, .func (.func K) #[] caps] w fun e w' => e = .returned (.int .i64 ((ps.findIdx? q).elim (-1) (fun n => (n : Int)))) ∧ Below w.heap.size w w' := by
  go_enter Tryz.func146, Tryz.ntmps146
  go_wp2
  go_loopw [8] (fun i wr => ∃ k : Nat, k ≤ ps.length ∧ i = .int .i64 k ∧ (ps.take k).findIdx? q = none ∧ Below w.heap.size w wr) (fun i _ => ps.length - (intOf i).toNat)
  case atStart => exact ⟨0, by omega, rfl, by simp, Below.refl _ _⟩
  case round =>
    obtain ⟨k, hk, rfl, hfi, hb⟩ := hrel
    have Hfi := Lib.hid hfi; clear hfi
    by_cases hlt : k < ps.length
    · obtain ⟨b, off, rfl, hbl, hat⟩ := n64s_get (hps.below hb hB) hlt
      unfold N64At at hat
      rw [Nat.mul_one] at hat
      have Hf := Lib.hid hf; clear hf
      go_wp2_with (refine (Hf.out ps[k] _ hb).mono ?_; rintro e w' ⟨rfl, hb2⟩)
      · have h1 : q ps[k] = true := by assumption
        go_ret
        refine ⟨?_, (by repeat (first | with_reducible exact Below.refl _ _ | with_reducible assumption | with_reducible apply bl_drewN | with_reducible apply bl_drew | with_reducible apply bl_alloc | (with_reducible refine bl_set ?_ (by first | (simp; done) | (simp; omega)) _) | with_reducible refine bl_trans ?_ (by with_reducible assumption)))⟩
        have h2 : ps.findIdx? q = some k := by
          rw [List.findIdx?_eq_some_iff_getElem]
          refine ⟨hlt, h1, fun j hj => ?_⟩
          have h3 := Hfi.out
          rw [List.findIdx?_eq_none_iff] at h3
          have := h3 ps[j] (by rw [List.mem_take_iff_getElem]; exact ⟨j, by omega, rfl⟩)
          simpa using this
        rw [h2]; rfl
      · have h1 : q ps[k] = false := by assumption
        go_roundw
        case rel => exact ⟨k + 1, by omega, by go_num, by have := Hfi.out; rw [List.take_succ_eq_append_getElem hlt, List.findIdx?_append, this]; simp [h1], (by repeat (first | with_reducible exact Below.refl _ _ | with_reducible assumption | with_reducible apply bl_drewN | with_reducible apply bl_drew | with_reducible apply bl_alloc | (with_reducible refine bl_set ?_ (by first | (simp; done) | (simp; omega)) _) | with_reducible refine bl_trans ?_ (by with_reducible assumption)))⟩
        case measure => simp [intOf]; omega
    · go_wp2
      go_ret
      refine ⟨?_, (by repeat (first | with_reducible exact Below.refl _ _ | with_reducible assumption | with_reducible apply bl_drewN | with_reducible apply bl_drew | with_reducible apply bl_alloc | (with_reducible refine bl_set ?_ (by first | (simp; done) | (simp; omega)) _) | with_reducible refine bl_trans ?_ (by with_reducible assumption)))⟩
      have h2 := Hfi.out
      rw [List.take_of_length_le (by omega)] at h2
      rw [h2]; rfl
theorem containsFuncN64_any {B : Nat} (K : Nat) (caps : Array Value) (a : Option Addr) (cap : Nat) (ps : List Int) (w : World) (hps : SlAt B w a (flat N64_cells ps)) (hB : B ≤ w.heap.size) (hn : ps.length ≤ 10000000)
   (eg : ∀ (args : Array Value) (w : World), (callFunc K args).run Tryz.prog w = .ok (.enter K args) w) (q : Int → Bool) (hf : ∀ (p : Int) (w1 : World), Below w.heap.size w w1 → Calls Tryz.prog K (#[.int .i64 p] ++ caps) w1 fun e w' => e = .returned (.bool (q p)) ∧ Below w1.heap.size w1 w') :
    Calls Tryz.prog 107 #[.slice a ps.length cap, .func (.func K) #[] caps] w fun e w' => e = .returned (.bool (ps.any q)) ∧ Below w.heap.size w w' := by
  have H := Lib.hid (indexFuncN64_any K caps a cap ps w hps hB hn eg q hf)
  have HV := Lib.hid (show decide (0 ≤ (ps.findIdx? q).elim (-1 : Int) (fun n => (n : Int))) = ps.any q by
    cases hf : ps.findIdx? q with
    | none =>
      rw [List.findIdx?_eq_none_iff] at hf
      have : ps.any q = false := by rw [Bool.eq_false_iff]; intro h; rw [List.any_eq_true] at h; obtain ⟨x, hx, hq⟩ := h; rw [hf x hx] at hq; cases hq
      rw [this]; rfl
    | some k =>
      rw [List.findIdx?_eq_some_iff_getElem] at hf
      obtain ⟨h1, h2, -⟩ := hf
      have : ps.any q = true := by rw [List.any_eq_true]; exact ⟨_, List.getElem_mem h1, h2⟩
      rw [this]; simp)
  go_enter Tryz.func107, Tryz.ntmps107
  go_wp2_with fail
  refine H.out.mono ?_
  rintro e w1 ⟨rfl, hb⟩
  go_wp2
  go_ret
  exact ⟨by rw [← HV.out]; rfl, (by repeat (first | with_reducible exact Below.refl _ _ | with_reducible assumption | with_reducible apply bl_drewN | with_reducible apply bl_drew | with_reducible apply bl_alloc | (with_reducible refine bl_set ?_ (by first | (simp; done) | (simp; omega)) _) | with_reducible refine bl_trans ?_ (by with_reducible assumption)))⟩
theorem indexFuncU64_any {B : Nat} (K : Nat) (caps : Array Value) (a : Option Addr) (cap : Nat) (ps : List Int) (w : World) (hps : SlAt B w a (flat U64_cells ps)) (hB : B ≤ w.heap.size) (hn : ps.length ≤ 10000000) 
   (eg : ∀ (args : Array Value) (w : World), (callFunc K args).run Tryz.prog w = .ok (.enter K args) w) (q : Int → Bool) (hf : ∀ (p : Int) (w1 : World), Below w.heap.size w w1 → Calls Tryz.prog K (#[.int .u64 p] ++ caps) w1 fun e w' => e = .returned (.bool (q p)) ∧ Below w1.heap.size w1 w'):
    Calls Tryz.prog 170 #[.slice a ps.length cap, .func (.func K) #[] caps] w fun e w' => e = .returned (.int .i64 ((ps.findIdx? q).elim (-1) (fun n => (n : Int)))) ∧ Below w.heap.size w w' := by
  go_enter Tryz.func170, Tryz.ntmps170
  go_wp2
  go_loopw [8] (fun i wr => ∃ k : Nat, k ≤ ps.length ∧ i = .int .i64 k ∧ (ps.take k).findIdx? q = none ∧ Below w.heap.size w wr) (fun i _ => ps.length - (intOf i).toNat)
  case atStart => exact ⟨0, by omega, rfl, by simp, Below.refl _ _⟩
  case round =>
    obtain ⟨k, hk, rfl, hfi, hb⟩ := hrel
    have Hfi := Lib.hid hfi; clear hfi
    by_cases hlt : k < ps.length
    · obtain ⟨b, off, rfl, hbl, hat⟩ := u64s_get (hps.below hb hB) hlt
      unfold U64At at hat
      rw [Nat.mul_one] at hat
      have Hf := Lib.hid hf; clear hf
      go_wp2_with (refine (Hf.out ps[k] _ hb).mono ?_; rintro e w' ⟨rfl, hb2⟩)
      · have h1 : q ps[k] = true := by assumption
        go_ret
        refine ⟨?_, (by repeat (first | with_reducible exact Below.refl _ _ | with_reducible assumption | with_reducible apply bl_drewN | with_reducible apply bl_drew | with_reducible apply bl_alloc | (with_reducible refine bl_set ?_ (by first | (simp; done) | (simp; omega)) _) | with_reducible refine bl_trans ?_ (by with_reducible assumption)))⟩
        have h2 : ps.findIdx? q = some k := by
          rw [List.findIdx?_eq_some_iff_getElem]
          refine ⟨hlt, h1, fun j hj => ?_⟩
          have h3 := Hfi.out
          rw [List.findIdx?_eq_none_iff] at h3
          have := h3 ps[j] (by rw [List.mem_take_iff_getElem]; exact ⟨j, by omega, rfl⟩)
          simpa using this
        rw [h2]; rfl
      · have h1 : q ps[k] = false := by assumption
        go_roundw
        case rel => exact ⟨k + 1, by omega, by go_num, by have := Hfi.out; rw [List.take_succ_eq_append_getElem hlt, List.findIdx?_append, this]; simp [h1], (by repeat (first | with_reducible exact Below.refl _ _ | with_reducible assumption | with_reducible apply bl_drewN | with_reducible apply bl_drew | with_reducible apply bl_alloc | (with_reducible refine bl_set ?_ (by first | (simp; done) | (simp; omega)) _) | with_reducible refine bl_trans ?_ (by with_reducible assumption)))⟩
        case measure => simp [intOf]; omega
    · go_wp2
      go_ret
      refine ⟨?_, (by repeat (first | with_reducible exact Below.refl _ _ | with_reducible assumption | with_reducible apply bl_drewN | with_reducible apply bl_drew | with_reducible apply bl_alloc | (with_reducible refine bl_set ?_ (by first | (simp; done) | (simp; omega)) _) | with_reducible refine bl_trans ?_ (by with_reducible assumption)))⟩
      have h2 := Hfi.out
      rw [List.take_of_length_le (by omega)] at h2
      rw [h2]; rfl
theorem containsFuncU64_any {B : Nat} (K : Nat) (caps : Array Value) (a : Option Addr) (cap : Nat) (ps : List Int) (w : World) (hps : SlAt B w a (flat U64_cells ps)) (hB : B ≤ w.heap.size) (hn : ps.length ≤ 10000000)
   (eg : ∀ (args : Array Value) (w : World), (callFunc K args).run Tryz.prog w = .ok (.enter K args) w) (q : Int → Bool) (hf : ∀ (p : Int) (w1 : World), Below w.heap.size w w1 → Calls Tryz.prog K (#[.int .u64 p] ++ caps) w1 fun e w' => e = .returned (.bool (q p)) ∧ Below w1.heap.size w1 w') :
    Calls Tryz.prog 131 #[.slice a ps.length cap, .func (.func K) #[] caps] w fun e w' => e = .returned (.bool (ps.any q)) ∧ Below w.heap.size w w' := by
  have H := Lib.hid (indexFuncU64_any K caps a cap ps w hps hB hn eg q hf)
  have HV := Lib.hid (show decide (0 ≤ (ps.findIdx? q).elim (-1 : Int) (fun n => (n : Int))) = ps.any q by
    cases hf : ps.findIdx? q with
    | none =>
      rw [List.findIdx?_eq_none_iff] at hf
      have : ps.any q = false := by rw [Bool.eq_false_iff]; intro h; rw [List.any_eq_true] at h; obtain ⟨x, hx, hq⟩ := h; rw [hf x hx] at hq; cases hq
      rw [this]; rfl
    | some k =>
      rw [List.findIdx?_eq_some_iff_getElem] at hf
      obtain ⟨h1, h2, -⟩ := hf
      have : ps.any q = true := by rw [List.any_eq_true]; exact ⟨_, List.getElem_mem h1, h2⟩
      rw [this]; simp)
  go_enter Tryz.func131, Tryz.ntmps131
  go_wp2_with fail
  refine H.out.mono ?_
  rintro e w1 ⟨rfl, hb⟩
  go_wp2
  go_ret
  exact ⟨by rw [← HV.out]; rfl, (by repeat (first | with_reducible exact Below.refl _ _ | with_reducible assumption | with_reducible apply bl_drewN | with_reducible apply bl_drew | with_reducible apply bl_alloc | (with_reducible refine bl_set ?_ (by first | (simp; done) | (simp; omega)) _) | with_reducible refine bl_trans ?_ (by with_reducible assumption)))⟩
theorem indexFuncPo_any {B : Nat} (K : Nat) (caps : Array Value) (a : Option Addr) (cap : Nat) (ps : List Po) (w : World) (hps : SlAt B w a (flat Po.cells ps)) (hok : PosOk ps) (hB : B ≤ w.heap.size) (hn : ps.length ≤ 10000000) 
   (eg : ∀ (args : Array Value) (w : World), (callFunc K args).run Tryz.prog w = .ok (.enter K args) w) (q : Po → Bool) (hf : ∀ (p : Po) (w1 : World), p.ok → Below w.heap.size w w1 → Calls Tryz.prog K (#[p.val] ++ caps) w1 fun e w' => e = .returned (.bool (q p)) ∧ Below w1.heap.size w1 w'):
    Calls Tryz.prog 172 #[.slice a ps.length cap, .func (.func K) #[] caps] w fun e w' => e = .returned (.int .i64 ((ps.findIdx? q).elim (-1) (fun n => (n : Int)))) ∧ Below w.heap.size w w' := by
  go_enter Tryz.func172, Tryz.ntmps172
  go_wp2
  go_loopw [8] (fun i wr => ∃ k : Nat, k ≤ ps.length ∧ i = .int .i64 k ∧ (ps.take k).findIdx? q = none ∧ Below w.heap.size w wr) (fun i _ => ps.length - (intOf i).toNat)
  case atStart => exact ⟨0, by omega, rfl, by simp, Below.refl _ _⟩
  case round =>
    obtain ⟨k, hk, rfl, hfi, hb⟩ := hrel
    have Hfi := Lib.hid hfi; clear hfi
    by_cases hlt : k < ps.length
    · obtain ⟨b, off, rfl, hbl, hat⟩ := pos_get (hps.below hb hB) hlt
      unfold PoAt at hat
      have Hf := Lib.hid hf; clear hf
      go_wp2_with (refine (Hf.out ps[k] _ (hok k hlt) hb).mono ?_; rintro e w' ⟨rfl, hb2⟩)
      · have h1 : q ps[k] = true := by assumption
        go_ret
        refine ⟨?_, (by repeat (first | with_reducible exact Below.refl _ _ | with_reducible assumption | with_reducible apply bl_drewN | with_reducible apply bl_drew | with_reducible apply bl_alloc | (with_reducible refine bl_set ?_ (by first | (simp; done) | (simp; omega)) _) | with_reducible refine bl_trans ?_ (by with_reducible assumption)))⟩
        have h2 : ps.findIdx? q = some k := by
          rw [List.findIdx?_eq_some_iff_getElem]
          refine ⟨hlt, h1, fun j hj => ?_⟩
          have h3 := Hfi.out
          rw [List.findIdx?_eq_none_iff] at h3
          have := h3 ps[j] (by rw [List.mem_take_iff_getElem]; exact ⟨j, by omega, rfl⟩)
          simpa using this
        rw [h2]; rfl
      · have h1 : q ps[k] = false := by assumption
        go_roundw
        case rel => exact ⟨k + 1, by omega, by go_num, by have := Hfi.out; rw [List.take_succ_eq_append_getElem hlt, List.findIdx?_append, this]; simp [h1], (by repeat (first | with_reducible exact Below.refl _ _ | with_reducible assumption | with_reducible apply bl_drewN | with_reducible apply bl_drew | with_reducible apply bl_alloc | (with_reducible refine bl_set ?_ (by first | (simp; done) | (simp; omega)) _) | with_reducible refine bl_trans ?_ (by with_reducible assumption)))⟩
        case measure => simp [intOf]; omega
    · go_wp2
      go_ret
      refine ⟨?_, (by repeat (first | with_reducible exact Below.refl _ _ | with_reducible assumption | with_reducible apply bl_drewN | with_reducible apply bl_drew | with_reducible apply bl_alloc | (with_reducible refine bl_set ?_ (by first | (simp; done) | (simp; omega)) _) | with_reducible refine bl_trans ?_ (by with_reducible assumption)))⟩
      have h2 := Hfi.out
      rw [List.take_of_length_le (by omega)] at h2
      rw [h2]; rfl
theorem containsFuncPo_any {B : Nat} (K : Nat) (caps : Array Value) (a : Option Addr) (cap : Nat) (ps : List Po) (w : World) (hps : SlAt B w a (flat Po.cells ps)) (hok : PosOk ps) (hB : B ≤ w.heap.size) (hn : ps.length ≤ 10000000)
   (eg : ∀ (args : Array Value) (w : World), (callFunc K args).run Tryz.prog w = .ok (.enter K args) w) (q : Po → Bool) (hf : ∀ (p : Po) (w1 : World), p.ok → Below w.heap.size w w1 → Calls Tryz.prog K (#[p.val] ++ caps) w1 fun e w' => e = .returned (.bool (q p)) ∧ Below w1.heap.size w1 w') :
    Calls Tryz.prog 135 #[.slice a ps.length cap, .func (.func K) #[] caps] w fun e w' => e = .returned (.bool (ps.any q)) ∧ Below w.heap.size w w' := by
  have H := Lib.hid (indexFuncPo_any K caps a cap ps w hps hok hB hn eg q hf)
  have HV := Lib.hid (show decide (0 ≤ (ps.findIdx? q).elim (-1 : Int) (fun n => (n : Int))) = ps.any q by
    cases hf : ps.findIdx? q with
    | none =>
      rw [List.findIdx?_eq_none_iff] at hf
      have : ps.any q = false := by rw [Bool.eq_false_iff]; intro h; rw [List.any_eq_true] at h; obtain ⟨x, hx, hq⟩ := h; rw [hf x hx] at hq; cases hq
      rw [this]; rfl
    | some k =>
      rw [List.findIdx?_eq_some_iff_getElem] at hf
      obtain ⟨h1, h2, -⟩ := hf
      have : ps.any q = true := by rw [List.any_eq_true]; exact ⟨_, List.getElem_mem h1, h2⟩
      rw [this]; simp)
  go_enter Tryz.func135, Tryz.ntmps135
  go_wp2_with fail
  refine H.out.mono ?_
  rintro e w1 ⟨rfl, hb⟩
  go_wp2
  go_ret
  exact ⟨by rw [← HV.out]; rfl, (by repeat (first | with_reducible exact Below.refl _ _ | with_reducible assumption | with_reducible apply bl_drewN | with_reducible apply bl_drew | with_reducible apply bl_alloc | (with_reducible refine bl_set ?_ (by first | (simp; done) | (simp; omega)) _) | with_reducible refine bl_trans ?_ (by with_reducible assumption)))⟩
end Go.Proofs.YtdhjhnbmecbaaaaGreat
/- Contracts: OutputsIn, TicksIn, MachineTables (both). -/
namespace Go.Proofs.YtdhjhnbmecbaaaaGreat
open Go.RowKit
set_option linter.unusedVariables false
set_option linter.unusedSimpArgs false
set_option maxHeartbeats 400000
set_option maxRecDepth 100000
theorem any_not100 (late : List Int) : late.any (fun n => !in100 n) = !late.all in100 := by
  induction late with
  | nil => rfl
  | cons x l ih => rw [List.any_cons, List.all_cons, ih, Bool.not_and]
theorem lateV_of {w : World} {al : Option Addr} {capl : Nat} {late : List Int} {n : Nat} (hs : SlAt w.heap.size w al (flat N64_cells late)) (hl : late.length = n) (h1 : 1 ≤ n) (hlo : lateOk late) : LateV w (.slice al late.length capl) n late := by
  refine ⟨hl, hlo, .inr ?_⟩
  obtain ⟨b, off, rfl, -⟩ := n64s_get hs (k := 0) (by omega)
  exact ⟨_, capl, by rw [hl], hs⟩
noncomputable def oiVal (m : Mc) (row : Int) (late : List Int) : Int := if mAsk m row late = 0 then ((mOut m row.toNat late : Nat) : Int) else 0
noncomputable def tiList (m : Mc) (row : Int) (late : List Int) : List Int := if mAsk m row late = 0 then mTk m row.toNat late else []
def mCode (m : Mc) : Int := if vMc m = true then 0 else 1
noncomputable def mtList (m : Mc) : List Int := if vMc m = true then mTabI m else []
theorem tiList_len (m : Mc) (row : Int) (late : List Int) : (tiList m row late).length ≤ m.outs.length := by
  unfold tiList
  split
  · rw [mTk_len]; exact Nat.le_refl _
  · exact Nat.zero_le _
theorem mtList_len (m : Mc) : (mtList m).length ≤ m.outs.length := by
  unfold mtList
  split
  · rw [mTabI_len]; exact Nat.le_refl _
  · exact Nat.zero_le _
theorem eg_lo1 (args : Array Value) (w : World) : (callFunc 108 args).run Tryz.prog w = .ok (.enter 108 args) w := by kernel_rfl
theorem lo1_any (n : Int) (w : World) : Calls Tryz.prog 108 #[.int .i64 n] w fun e w' => e = .returned (.bool (!in100 n)) ∧ Below w.heap.size w w' := by
  have H : Hid (in100 n = inB n 0 100) := Lib.hid rfl
  generalize in100 n = r at H ⊢
  cases g : inB n 0 100 with
  | true =>
    have HR : Hid (r = true) := Lib.hid (by rw [H.out, g])
    go_enter Tryz.func108, Tryz.ntmps108
    go_wp2_with (go_at_call 84; refine (in_any _ _ _ _).mono ?_; rintro e w' ⟨rfl, rfl⟩)
    go_ret
    exact ⟨by rw [HR.out]; rfl, (by repeat (first | with_reducible exact Below.refl _ _ | with_reducible assumption | with_reducible apply bl_drewN | with_reducible apply bl_drew | with_reducible apply bl_alloc | (with_reducible refine bl_set ?_ (by first | (simp; done) | (simp; omega)) _) | with_reducible refine bl_trans ?_ (by with_reducible assumption)))⟩
  | false =>
    have HR : Hid (r = false) := Lib.hid (by rw [H.out, g])
    go_enter Tryz.func108, Tryz.ntmps108
    go_wp2_with (go_at_call 84; refine (in_any _ _ _ _).mono ?_; rintro e w' ⟨rfl, rfl⟩)
    go_ret
    exact ⟨by rw [HR.out]; rfl, (by repeat (first | with_reducible exact Below.refl _ _ | with_reducible assumption | with_reducible apply bl_drewN | with_reducible apply bl_drew | with_reducible apply bl_alloc | (with_reducible refine bl_set ?_ (by first | (simp; done) | (simp; omega)) _) | with_reducible refine bl_trans ?_ (by with_reducible assumption)))⟩
set_option maxHeartbeats 1600000 in
theorem lateOk_any (m : Mc) (v : Value) (row : Int) (al : Option Addr) (capl : Nat) (late : List Int) (w : World) (h : MVc w v m) (hok : m.ok) (hn : m.bd.ps.length ≤ 10000000) (hn1 : m.ins.length ≤ 10000000) (hn2 : m.outs.length ≤ 10000000) (hs : SlAt w.heap.size w al (flat N64_cells late)) (hln : late.length ≤ 10000000) :
    Calls Tryz.prog 65 #[v, .int .i64 row, .slice al late.length capl] w fun e w' => e = .returned (.int .i64 (mAsk m row late)) ∧ Below w.heap.size w w' := by
  have HVM := Lib.hid (fun w1 (hb : Below w.heap.size w w1) => validMachine_any m v w1 (h.step hb) hok hn hn1 hn2)
  have HASK : Hid (mAsk m row late = if vMc m = true then (if (askRow m row late && late.all in100) = true then 0 else 2) else 1) := Lib.hid rfl
  have HAR : Hid (askRow m row late = (inB row 0 ((mRows m : Nat) - 1 : Int) && decide (late.length = m.ins.length))) := Lib.hid rfl
  have HCF := Lib.hid (fun w1 (hb : Below w.heap.size w w1) => containsFuncN64_any (B := w.heap.size) 108 #[] al capl late w1 (hs.below hb (Nat.le_refl _)) hb.size hln eg_lo1 (fun n => !in100 n) (fun p w2 hb2 => lo1_any p w2))
  rw [any_not100] at HCF
  obtain ⟨sa, scap, ia, icap, oa, ocap, rfl, hcap, hps, hins, houts⟩ := h
  have HX := Lib.hid (BX5.new w (.int .i8 m.bd.wd) (.int .i8 m.bd.hg) (.slice sa m.bd.ps.length scap) (.slice ia m.ins.length icap) (.slice oa m.outs.length ocap) 40)
  have HBA := Lib.hid (show Below w.heap.size w (w.alloc (.cells #[.int .i8 m.bd.wd, .int .i8 m.bd.hg, .slice sa m.bd.ps.length scap, .slice ia m.ins.length icap, .slice oa m.outs.length ocap] 40)) from bl_alloc (Below.refl _ _))
  generalize mAsk m row late = r at HASK ⊢
  cases g0 : vMc m with
  | false =>
    rw [g0] at HVM
    have HR : Hid (r = 1) := Lib.hid (by rw [HASK.out, g0]; rfl)
    clear HASK g0 HCF
    go_enter Tryz.func65, Tryz.ntmps65
    go_wp2_with fail
    refine (HVM.out _ HBA.out).mono ?_
    rintro e w1 ⟨rfl, hb1⟩
    go_wp2
    go_ret
    exact ⟨by rw [HR.out]; rfl, bl_trans HBA.out hb1⟩
  | true =>
    rw [g0] at HVM
    obtain ⟨hvb, h60, hi1, hi6, ho1, ho8, -⟩ := vMc_parts m g0
    have HRR : Hid (r = if (askRow m row late && late.all in100) = true then 0 else 2) := Lib.hid (by rw [HASK.out, g0]; rfl)
    have HRO := Lib.hid (fun w1 => rows_any m.ins.length (by omega) w1)
    have hR64 := mRows_le m hi6
    have hR1 : 1 ≤ mRows m := Nat.one_le_two_pow
    have HRW : Hid (mRows m = 2 ^ m.ins.length) := Lib.hid rfl
    obtain ⟨R, hRR⟩ : ∃ R, R = mRows m := ⟨_, rfl⟩
    rw [← hRR] at HAR hR64 hR1 HRW
    rw [← HRW.out] at HRO
    have s1 : IntKind.i64.wrap ((R : Int) - 1) = (R : Int) - 1 := by rw [IntKind.wrap_i64]; omega
    clear HASK g0 hRR HRW
    obtain ⟨o, ho⟩ : ∃ o, o = askRow m row late := ⟨_, rfl⟩
    rw [← ho] at HAR HRR
    clear ho
    obtain ⟨p, hp⟩ : ∃ p, p = late.all in100 := ⟨_, rfl⟩
    rw [← hp] at HRR HCF
    clear hp
    cases g1 : inB row 0 ((R : Int) - 1) with
    | false =>
      have HR : Hid (r = 2) := Lib.hid (by rw [HRR.out, HAR.out, g1]; rfl)
      clear HAR HRR HCF
      go_enter Tryz.func65, Tryz.ntmps65
      go_wp2_with fail
      refine (HVM.out _ HBA.out).mono ?_
      rintro e w1 ⟨rfl, hb1⟩
      obtain ⟨-, c0, c1, c2, c3, c4⟩ := HX.out.step hb1
      go_wp2_with (first | (go_at_call 85; refine (HRO.out _).mono ?_; rintro e w' ⟨rfl, rfl⟩) | (go_at_call 84; refine (in_any _ _ _ _).mono ?_; rintro e w' ⟨rfl, rfl⟩))
      go_ret
      exact ⟨by rw [HR.out]; rfl, bl_trans HBA.out hb1⟩
    | true =>
      rcases dec_cases ((late.length : Int) = (m.ins.length : Int)) with ⟨g2, k2⟩ | ⟨g2, k2⟩
      · have g3 : ((late.length : Int) != (m.ins.length : Int)) = false := by simpa using k2
        have HRP : Hid (r = if p = true then 0 else 2) := Lib.hid (by rw [HRR.out, HAR.out, g1, decide_eq_true (by omega)]; simp)
        clear HAR HRR g2 k2
        cases p with
        | true =>
          have HR : Hid (r = 0) := Lib.hid (by rw [HRP.out]; rfl)
          clear HRP
          go_enter Tryz.func65, Tryz.ntmps65
          go_wp2_with fail
          refine (HVM.out _ HBA.out).mono ?_
          rintro e w1 ⟨rfl, hb1⟩
          obtain ⟨-, c0, c1, c2, c3, c4⟩ := HX.out.step hb1
          have HB1 := Lib.hid (bl_trans HBA.out hb1)
          go_wp2_with (first | (go_at_call 85; refine (HRO.out _).mono ?_; rintro e w' ⟨rfl, rfl⟩) | (go_at_call 84; refine (in_any _ _ _ _).mono ?_; rintro e w' ⟨rfl, rfl⟩) | (go_at_call 107; refine (HCF.out _ HB1.out).mono ?_; rintro e w2 ⟨rfl, hb2⟩))
          go_ret
          exact ⟨by rw [HR.out]; rfl, bl_trans HB1.out hb2⟩
        | false =>
          have HR : Hid (r = 2) := Lib.hid (by rw [HRP.out]; rfl)
          clear HRP
          go_enter Tryz.func65, Tryz.ntmps65
          go_wp2_with fail
          refine (HVM.out _ HBA.out).mono ?_
          rintro e w1 ⟨rfl, hb1⟩
          obtain ⟨-, c0, c1, c2, c3, c4⟩ := HX.out.step hb1
          have HB1 := Lib.hid (bl_trans HBA.out hb1)
          go_wp2_with (first | (go_at_call 85; refine (HRO.out _).mono ?_; rintro e w' ⟨rfl, rfl⟩) | (go_at_call 84; refine (in_any _ _ _ _).mono ?_; rintro e w' ⟨rfl, rfl⟩) | (go_at_call 107; refine (HCF.out _ HB1.out).mono ?_; rintro e w2 ⟨rfl, hb2⟩))
          go_ret
          exact ⟨by rw [HR.out]; rfl, bl_trans HB1.out hb2⟩
      · have g3 : ((late.length : Int) != (m.ins.length : Int)) = true := by simpa using k2
        have HR : Hid (r = 2) := Lib.hid (by rw [HRR.out, HAR.out, g1, decide_eq_false (by omega)]; rfl)
        clear HAR HRR HCF g2 k2
        go_enter Tryz.func65, Tryz.ntmps65
        go_wp2_with fail
        refine (HVM.out _ HBA.out).mono ?_
        rintro e w1 ⟨rfl, hb1⟩
        obtain ⟨-, c0, c1, c2, c3, c4⟩ := HX.out.step hb1
        go_wp2_with (first | (go_at_call 85; refine (HRO.out _).mono ?_; rintro e w' ⟨rfl, rfl⟩) | (go_at_call 84; refine (in_any _ _ _ _).mono ?_; rintro e w' ⟨rfl, rfl⟩))
        go_ret
        exact ⟨by rw [HR.out]; rfl, bl_trans HBA.out hb1⟩
theorem specOutputsIn_any (m : Mc) (v : Value) (row : Int) (al : Option Addr) (capl : Nat) (late : List Int) (w : World) (h : MV w v m) (hok : m.ok) (hn : m.bd.ps.length ≤ 10000000) (hn1 : m.ins.length ≤ 10000000) (hn2 : m.outs.length ≤ 10000000) (hs : SlAt w.heap.size w al (flat N64_cells late)) (hln : late.length ≤ 10000000) :
    Calls Tryz.prog 17 #[v, .int .i64 row, .slice al late.length capl] w fun e w' => e = .returned (.tuple #[.int .i64 (oiVal m row late), .int .i64 (mAsk m row late)]) ∧ Below w.heap.size w w' := by
  obtain ⟨s, si, so, rfl, h0, h1, h2⟩ := h
  have HM := Lib.hid (MP.new (m := m) (w := w) h0 h1 h2 40)
  have HBA := Lib.hid (show Below w.heap.size w (w.alloc (.cells #[.int .i8 m.bd.wd, .int .i8 m.bd.hg, s, si, so] 40)) from bl_alloc (Below.refl _ _))
  have HASK := Lib.hid (l03Asked_any (B := w.heap.size) w.heap.size m row al capl late _ HM.out hok hn hn1 hn2 (hs.below HBA.out (Nat.le_refl _)) HBA.out.size hln)
  have HA0 := Lib.hid (mAsk_0 m row late)
  have HOI : Hid (oiVal m row late = if mAsk m row late = 0 then ((mOut m row.toNat late : Nat) : Int) else 0) := Lib.hid rfl
  obtain ⟨c, hc⟩ : ∃ c, c = mAsk m row late := ⟨_, rfl⟩
  rw [← hc] at HASK HA0 HOI ⊢
  clear hc
  by_cases hc0 : c = 0
  · obtain ⟨hv, hll, hlo, r, rfl, hr⟩ := HA0.out hc0
    obtain ⟨-, -, hi1, hi6, -⟩ := vMc_parts m hv
    have hR64 := mRows_le m hi6
    subst hc0
    have HV : Hid (oiVal m r late = ((mOut m r late : Nat) : Int)) := Lib.hid (by rw [HOI.out, if_pos rfl]; rfl)
    rw [HV.out]
    have HOU := Lib.hid (fun w1 (hb : Below (w.alloc (.cells #[.int .i8 m.bd.wd, .int .i8 m.bd.hg, s, si, so] 40)).heap.size (w.alloc (.cells #[.int .i8 m.bd.wd, .int .i8 m.bd.hg, s, si, so] 40)) w1) => l03Outputs_any (B := w.heap.size) w.heap.size m r al capl late w1 (HM.out.step hb) hv hok hll hlo (hs.below (bl_trans HBA.out hb) (Nat.le_refl _)) (bl_trans HBA.out hb).size (by omega))
    rw [hll] at HASK ⊢
    clear HOI HV HA0 hs
    go_enter Tryz.func17, Tryz.ntmps17
    go_wp2_with fail
    refine HASK.out.mono ?_
    rintro e w1 ⟨rfl, hb1⟩
    have HB1 := Lib.hid (bl_trans HBA.out hb1)
    have HOC := Lib.hid (HOU.out w1 hb1)
    clear hb1
    go_wp2_with fail
    refine HOC.out.mono ?_
    rintro e w2 ⟨rfl, hb2⟩
    go_wp2
    go_ret2
    exact ⟨rfl, bl_trans HB1.out hb2⟩
  · have HV : Hid (oiVal m row late = 0) := Lib.hid (by rw [HOI.out, if_neg hc0])
    rw [HV.out]
    have gne : (c != 0) = true := by simpa using hc0
    clear HOI HV HA0 hc0 hs
    go_enter Tryz.func17, Tryz.ntmps17
    go_wp2_with fail
    refine HASK.out.mono ?_
    rintro e w1 ⟨rfl, hb1⟩
    go_wp2
    go_ret2
    exact ⟨rfl, bl_trans HBA.out hb1⟩
theorem outputsIn_any (m : Mc) (v : Value) (row : Int) (al : Option Addr) (capl : Nat) (late : List Int) (w : World) (h : MVc w v m) (hok : m.ok) (hn : m.bd.ps.length ≤ 10000000) (hn1 : m.ins.length ≤ 10000000) (hn2 : m.outs.length ≤ 10000000) (hs : SlAt w.heap.size w al (flat N64_cells late)) (hln : late.length ≤ 10000000) :
    Calls Tryz.prog 20 #[v, .int .i64 row, .slice al late.length capl] w fun e w' => e = .returned (.tuple #[.int .i64 (oiVal m row late), .int .i64 (mAsk m row late)]) ∧ Below w.heap.size w w' := by
  have HL := Lib.hid (fun w1 (hb : Below w.heap.size w w1) => lateOk_any m v row al capl late w1 (h.step hb) hok hn hn1 hn2 ((hs.below hb (Nat.le_refl _)).mono hb.size) hln)
  obtain ⟨sa, scap, ia, icap, oa, ocap, rfl, hcap, hps, hins, houts⟩ := h
  have HM := Lib.hid (MP.new (m := m) (w := w) ⟨sa, scap, rfl, hps⟩ ⟨ia, icap, rfl, hins⟩ ⟨oa, ocap, rfl, houts⟩ 40)
  have HBA := Lib.hid (show Below w.heap.size w (w.alloc (.cells #[.int .i8 m.bd.wd, .int .i8 m.bd.hg, .slice sa m.bd.ps.length scap, .slice ia m.ins.length icap, .slice oa m.outs.length ocap] 40)) from bl_alloc (Below.refl _ _))
  have HA0 := Lib.hid (mAsk_0 m row late)
  have HOI : Hid (oiVal m row late = if mAsk m row late = 0 then ((mOut m row.toNat late : Nat) : Int) else 0) := Lib.hid rfl
  obtain ⟨c, hc⟩ : ∃ c, c = mAsk m row late := ⟨_, rfl⟩
  rw [← hc] at HL HA0 HOI ⊢
  clear hc
  by_cases hc0 : c = 0
  · obtain ⟨hv, hll, hlo, r, rfl, hr⟩ := HA0.out hc0
    obtain ⟨-, -, hi1, hi6, -⟩ := vMc_parts m hv
    have hR64 := mRows_le m hi6
    subst hc0
    have HV : Hid (oiVal m r late = ((mOut m r late : Nat) : Int)) := Lib.hid (by rw [HOI.out, if_pos rfl]; rfl)
    rw [HV.out]
    have HWK := Lib.hid (fun w1 (hb : Below (w.alloc (.cells #[.int .i8 m.bd.wd, .int .i8 m.bd.hg, .slice sa m.bd.ps.length scap, .slice ia m.ins.length icap, .slice oa m.outs.length ocap] 40)).heap.size (w.alloc (.cells #[.int .i8 m.bd.wd, .int .i8 m.bd.hg, .slice sa m.bd.ps.length scap, .slice ia m.ins.length icap, .slice oa m.outs.length ocap] 40)) w1) => worksOf_any w.heap.size m w1 (HM.out.step hb) hv hok)
    have HOU := Lib.hid (fun w1 g (hb : Below w.heap.size w w1) (hw : WkAt w1 g w.heap.size m) => woutputs_any g w.heap.size m r (.slice al late.length capl) late w1 hw hv hok (lateV_of ((hs.below hb (Nat.le_refl _)).mono hb.size) hll hi1 hlo) (by omega))
    clear HOI HV HA0 hs hll
    go_enter Tryz.func20, Tryz.ntmps20
    go_wp2_with fail
    refine (HL.out _ HBA.out).mono ?_
    rintro e w1 ⟨rfl, hb1⟩
    have HB1 := Lib.hid (bl_trans HBA.out hb1)
    have HWC := Lib.hid (HWK.out w1 hb1)
    clear hb1
    go_wp2_with fail
    refine HWC.out.mono ?_
    rintro e w2 ⟨g, rfl, hg, hwk, hb2⟩
    have HB2 := Lib.hid (bl_trans HB1.out hb2)
    have HOC := Lib.hid (HOU.out w2 g HB2.out hwk)
    clear hwk hb2
    go_wp2_with fail
    refine HOC.out.mono ?_
    rintro e w3 ⟨rfl, hb3⟩
    go_wp2
    go_ret2
    exact ⟨rfl, bl_trans HB2.out hb3⟩
  · have HV : Hid (oiVal m row late = 0) := Lib.hid (by rw [HOI.out, if_neg hc0])
    rw [HV.out]
    have gne : (c != 0) = true := by simpa using hc0
    clear HOI HV HA0 hc0 hs
    go_enter Tryz.func20, Tryz.ntmps20
    go_wp2_with fail
    refine (HL.out _ HBA.out).mono ?_
    rintro e w1 ⟨rfl, hb1⟩
    go_wp2
    go_ret2
    exact ⟨rfl, bl_trans HBA.out hb1⟩
end Go.Proofs.YtdhjhnbmecbaaaaGreat
/- The walk of the law FnExactOutputsIn. -/
namespace Go.Proofs.YtdhjhnbmecbaaaaGreat
open Go.RowKit
set_option linter.unusedVariables false
set_option linter.unusedSimpArgs false
set_option maxHeartbeats 400000
set_option maxRecDepth 100000
set_option maxRecDepth 100000 in
theorem lawOutputsIn_any (mc : Mc) (a a1 a2 : Option Addr) (cap cap1 cap2 : Nat) (row : Int) (al : Option Addr) (capl : Nat) (late : List Int) (w : World) (h0 : PcsAt w.heap.size w a mc.bd.ps) (h1 : SlAt w.heap.size w a1 (flat Po.cells mc.ins)) (h2 : SlAt w.heap.size w a2 (flat Ce.cells mc.outs)) (hok : mc.ok)
    (l0 : mc.bd.ps.length ≤ 9223372036854775807) (l1 : mc.ins.length ≤ 9223372036854775807) (l2 : mc.outs.length ≤ 9223372036854775807) (hs : SlAt w.heap.size w al (flat N64_cells late)) (ls : late.length ≤ 9223372036854775807) :
    Calls Tryz.prog 3 #[mcv mc.bd.wd mc.bd.hg (.slice a mc.bd.ps.length cap) (.slice a1 mc.ins.length cap1) (.slice a2 mc.outs.length cap2), .int .i64 row, .slice al late.length capl] w fun e w' => e = .returned (.bool true) ∧ Below w.heap.size w w' := by
  by_cases hL : late.length ≤ 1048576
  · by_cases hn : (mc.bd.ps.length : Int) + mc.ins.length + mc.outs.length ≤ 1048576
    · obtain ⟨lf, Hs, hlf, hlf2⟩ : ∃ lf : Int, Hid (sz3 mc.bd.ps.length mc.ins.length mc.outs.length 1048576 = lf) ∧ 0 ≤ lf ∧ lf ≤ 1048576 := ⟨_, Lib.hid rfl, by unfold sz3; rw [if_pos hn]; omega, by unfold sz3; rw [if_pos hn]; omega⟩
      have M0 : MV w (mcv mc.bd.wd mc.bd.hg (.slice a mc.bd.ps.length cap) (.slice a1 mc.ins.length cap1) (.slice a2 mc.outs.length cap2)) mc := ⟨_, _, _, rfl, ⟨a, cap, rfl, h0⟩, ⟨a1, cap1, rfl, h1⟩, a2, cap2, rfl, h2⟩
      have X0 := BX5.new w (.int .i8 mc.bd.wd) (.int .i8 mc.bd.hg) (.slice a mc.bd.ps.length cap) (.slice a1 mc.ins.length cap1) (.slice a2 mc.outs.length cap2) 29
      have Q0 : RV N64_cells w (.slice al late.length capl) late := ⟨al, capl, rfl, hs⟩
      obtain ⟨rv0, hrv0⟩ : ∃ rv, rv = oiVal mc row late := ⟨_, rfl⟩
      obtain ⟨rc, hrc⟩ : ∃ rc, rc = mAsk mc row late := ⟨_, rfl⟩
      have CS := fun v al capl w' (h : MV w' v mc) (k : SlAt w'.heap.size w' al (flat N64_cells late)) => specOutputsIn_any mc v row al capl late w' h hok (by omega) (by omega) (by omega) k (by omega)
      have CI := fun v al capl w' (h : MVc w' v mc) (k : SlAt w'.heap.size w' al (flat N64_cells late)) => outputsIn_any mc v row al capl late w' h hok (by omega) (by omega) (by omega) k (by omega)
      simp only [← hrv0, ← hrc] at CS CI
      have CS := Lib.hid CS
      have CI := Lib.hid CI
      clear hrv0 hrc h0 h1 h2 hs
      go_enter Tryz.func3, Tryz.ntmps3
      go_wp2_with fail
      refine (szMachine_any mc.bd.wd mc.bd.hg a _ cap a1 _ cap1 a2 _ cap2 _ _ (by omega) (by omega) (by omega) (by omega) (by omega)).mono ?_
      rintro e u ⟨rfl, bu⟩
      rw [Hs.out]
      have bu0 : Below w.heap.size w u := bl_trans (bl_alloc (Below.refl _ _)) bu
      have A0 := (M0.step (bl_alloc (Below.refl _ _))).step bu
      have AX := X0.step bu
      have A1 := (Q0.step (bl_alloc (Below.refl _ _))).step bu
      go_wp2_with fail
      refine (toMachine_mv A0 (by omega) (by omega) (by omega)).mono ?_
      rintro e w1 ⟨sm, im, om, rfl, Om1, b1⟩
      have AM1 := A0.step b1
      have AX1 := AX.step b1
      have AQ1 := A1.step b1
      have B1 := b1
      obtain ⟨asm, capsm, rfl, -⟩ := own_at Om1.1
      obtain ⟨aim, capim, rfl, -⟩ := own_at Om1.2.1
      obtain ⟨aom, capom, rfl, -⟩ := own_at Om1.2.2.1
      go_wp2_with fail
      refine (toInt64S_rv AQ1 (by omega)).mono ?_
      rintro e w2 ⟨vml, rfl, Oml2, b2⟩
      have AM2 := AM1.step b2
      have AX2 := AX1.step b2
      have AQ2 := AQ1.step b2
      have Pmlm := ownM_apart Om1 Oml2 (by first | exact Nat.le_refl _ | simp)
      have Om2 := Om1.below b2
      have B2 := bl_trans B1 b2
      obtain ⟨aml, capml, rfl, -⟩ := own_at Oml2
      go_wp2_with fail
      refine (CS.out _ _ _ _ Om2.mv (own_sl Oml2)).mono ?_
      rintro e w3 ⟨rfl, b3⟩
      have AM3 := AM2.step b3
      have AX3 := AX2.step b3
      have AQ3 := AQ2.step b3
      have Oml3 := own_below Oml2 b3 (Nat.le_refl _)
      have Om3 := Om2.below b3
      have B3 := bl_trans B2 b3
      go_wp2_with fail
      refine (toMachine_mv AM3 (by omega) (by omega) (by omega)).mono ?_
      rintro e w4 ⟨sx, ix, ox, rfl, Ox4, b4⟩
      have AM4 := AM3.step b4
      have AX4 := AX3.step b4
      have AQ4 := AQ3.step b4
      have B4 := bl_trans B3 b4
      obtain ⟨asx, capsx, rfl, -⟩ := own_at Ox4.1
      obtain ⟨aix, capix, rfl, -⟩ := own_at Ox4.2.1
      obtain ⟨aox, capox, rfl, -⟩ := own_at Ox4.2.2.1
      go_wp2_with fail
      refine (toInt64S_rv (AQ4.step (bl_alloc (Below.refl _ _))) (by omega)).mono ?_
      rintro e w5 ⟨vy, rfl, Oy5, c5⟩
      have b5 := bl_trans (bl_alloc (o := .cells #[.int .i8 mc.bd.wd, .int .i8 mc.bd.hg, .slice asx mc.bd.ps.length capsx, .slice aix mc.ins.length capix, .slice aox mc.outs.length capox] 40) (Below.refl w4.heap.size w4)) c5
      have AY5 := (BX5.new w4 (.int .i8 mc.bd.wd) (.int .i8 mc.bd.hg) (.slice asx mc.bd.ps.length capsx) (.slice aix mc.ins.length capix) (.slice aox mc.outs.length capox) 40).step c5
      have AM5 := AM4.step b5
      have AX5 := AX4.step b5
      have AQ5 := AQ4.step b5
      have Pyx := ownM_apart Ox4 Oy5 (by first | exact Nat.le_refl _ | simp)
      have Ox5 := Ox4.below b5
      have B5 := bl_trans B4 b5
      obtain ⟨ay, capy, rfl, -⟩ := own_at Oy5
      go_wp2_with fail
      refine (CI.out _ _ _ _ Ox5.mvc (own_sl Oy5)).mono ?_
      rintro e w6 ⟨rfl, b6⟩
      have AM6 := AM5.step b6
      have AX6 := AX5.step b6
      have AQ6 := AQ5.step b6
      have AY6 := AY5.step b6
      have Oy6 := own_below Oy5 b6 (Nat.le_refl _)
      have Ox6 := Ox5.below b6
      have B6 := bl_trans B5 b6
      go_upto_region 13 with fail
      have CK := Lib.hid (fun w' (h : Below w6.heap.size w6 w') => toMachine_mv (w := w') (AM6.step h) (by omega) (by omega) (by omega))
      have CL := Lib.hid (fun w' v' (h : Below w6.heap.size w6 w') (h' : MV w' v' mc) => eqMachine_yes (w := w') (Ox6.mv.step h) h' (by omega) (by omega) (by omega))
      go_region_held3 (fun w' => Below w6.heap.size w6 w' ∧ ∀ b o, b < w6.heap.size → w'.cell? ⟨b, o, none⟩ = w6.cell? ⟨b, o, none⟩) ((refine ext_s ?_; exact (by repeat (first | with_reducible exact Below.refl _ _ | with_reducible assumption | with_reducible apply bl_drewN | with_reducible apply bl_drew | with_reducible apply bl_alloc | (with_reducible refine bl_set ?_ (by first | (simp; done) | (simp; omega)) _) | with_reducible refine bl_trans ?_ (by with_reducible assumption))))) (first | (go_at_call 18; refine (CK.out _ ?_).mono ?_; (exact (by repeat (first | with_reducible exact Below.refl _ _ | with_reducible assumption | with_reducible apply bl_drewN | with_reducible apply bl_drew | with_reducible apply bl_alloc | (with_reducible refine bl_set ?_ (by first | (simp; done) | (simp; omega)) _) | with_reducible refine bl_trans ?_ (by with_reducible assumption)))); rintro e wa ⟨sa, ia, oa, rfl, Oa, ba⟩; obtain ⟨hca, hfa⟩ := bcell ba) | (go_at_call 21; refine (CL.out _ _ ?_ Oa.mv).mono ?_; (exact (by repeat (first | with_reducible exact Below.refl _ _ | with_reducible assumption | with_reducible apply bl_drewN | with_reducible apply bl_drew | with_reducible apply bl_alloc | (with_reducible refine bl_set ?_ (by first | (simp; done) | (simp; omega)) _) | with_reducible refine bl_trans ?_ (by with_reducible assumption)))); rintro e w7 ⟨rfl, be⟩))
      have b7 : Below w6.heap.size w6 w7 := (by repeat (first | with_reducible exact Below.refl _ _ | with_reducible assumption | with_reducible apply bl_drewN | with_reducible apply bl_drew | with_reducible apply bl_alloc | (with_reducible refine bl_set ?_ (by first | (simp; done) | (simp; omega)) _) | with_reducible refine bl_trans ?_ (by with_reducible assumption)))
      clear CK CL
      have AM7 := AM6.step b7
      have AX7 := AX6.step b7
      have AQ7 := AQ6.step b7
      have AY7 := AY6.step b7
      have Oy7 := own_below Oy6 b7 (Nat.le_refl _)
      have Ox7 := Ox6.below b7
      have B7 := bl_trans B6 b7
      go_wp2_with fail
      refine (toInt64S_rv AQ7 (by omega)).mono ?_
      rintro e w8 ⟨vp, rfl, Op8, b8⟩
      have AM8 := AM7.step b8
      have AX8 := AX7.step b8
      have AQ8 := AQ7.step b8
      have AY8 := AY7.step b8
      have Nyp := own_apart Oy7 Op8 (by first | exact Nat.le_refl _ | simp)
      have Npy := own_apart' Oy7 Op8 (by first | exact Nat.le_refl _ | simp)
      have Ppx := ownM_apart Ox7 Op8 (by first | exact Nat.le_refl _ | simp)
      have Oy8 := own_below Oy7 b8 (Nat.le_refl _)
      have Ox8 := Ox7.below b8
      have B8 := bl_trans B7 b8
      obtain ⟨ap, capp, rfl, -⟩ := own_at Op8
      go_wp2_with fail
      refine (eqInt64S_yes (own_rv Oy8) (own_rv Op8) (by omega)).mono ?_
      rintro e w9 ⟨rfl, b9⟩
      have AM9 := AM8.step b9
      have AX9 := AX8.step b9
      have AQ9 := AQ8.step b9
      have AY9 := AY8.step b9
      have Oy9 := own_below Oy8 b9 (Nat.le_refl _)
      have Op9 := own_below Op8 b9 (Nat.le_refl _)
      have Ox9 := Ox8.below b9
      have B9 := bl_trans B8 b9
      go_wp2
      go_ret
      exact ⟨rfl, bl_trans bu0 B9⟩
    · have Hs : Hid (sz3 mc.bd.ps.length mc.ins.length mc.outs.length 1048576 = -1) := Lib.hid (by unfold sz3; rw [if_neg hn])
      go_enter Tryz.func3, Tryz.ntmps3
      go_wp2_with fail
      refine (szMachine_any mc.bd.wd mc.bd.hg a _ cap a1 _ cap1 a2 _ cap2 _ _ (by omega) (by omega) (by omega) (by omega) (by omega)).mono ?_
      rintro e u ⟨rfl, bu⟩
      rw [Hs.out]
      have bu0 : Below w.heap.size w u := bl_trans (bl_alloc (Below.refl _ _)) bu
      go_wp2
      go_ret
      exact ⟨rfl, bu0⟩
  · go_enter Tryz.func3, Tryz.ntmps3
    go_wp2
    go_ret
    exact ⟨rfl, bl_alloc (Below.refl _ _)⟩
end Go.Proofs.YtdhjhnbmecbaaaaGreat
/- Opening arguments: boards and ways. -/
namespace Go.Proofs.YtdhjhnbmecbaaaaGreat
open Go.RowKit Go.ChangeShapes Go.WideShapes Go.ChangeAt
set_option linter.unusedVariables false
set_option maxHeartbeats 400000
set_option maxRecDepth 100000
set_option linter.unusedSimpArgs false
theorem open_bd {H : Type} {enc : TypeId × Value → H} {w : World} {base : Nat} {r : Reach} {b0 : Nat} {spare : Nat → Bool} {held : Bool} {v : Value} {d : DataW H} {p : List MemPlace}
    (hv : Value.okWide Tryz.prog w r b0 25 v) (h : DataW.Trod enc Tryz.prog w base spare held 25 v d p) :
    ∃ wd hg a cap ps, v = bdv wd hg (.slice a (ps : List Pc).length cap) ∧ (Bd.mk wd hg ps).ok ∧ PcsAt w.heap.size w a ps ∧ ps.length ≤ maxLen := by
  obtain ⟨cs, rfl, hsz⟩ := okWide_struct Tryz.underlying25 hv
  obtain ⟨fuel, h⟩ := h
  obtain ⟨y0, y1, y2, n, -, hl, h0, h1, h2⟩ := Go.Deep.trod_struct3 Tryz.underlying25 h
  have hsz : cs.size = 3 := hsz
  obtain ⟨c0, c1, c2, rfl⟩ : ∃ c0 c1 c2, cs = #[c0, c1, c2] := by
    obtain ⟨l⟩ := cs
    match l, hsz with
    | [c0, c1, c2], _ => exact ⟨c0, c1, c2, rfl⟩
  have f0 := trod_kinds (P := Tryz.prog) 2 22 [.i8] (by kernel_rfl) _ [c0] _ h0
  have f1 := trod_kinds (P := Tryz.prog) 2 22 [.i8] (by kernel_rfl) _ [c1] _ h1
  obtain ⟨a, cap, ps, e2, ok, sl, ln⟩ := sl_of_trod (s := 5) (cs := [c2]) (ok := Pc.ok) (f := Pc.cells) rfl (by omega) conv_pc Tryz.underlying23 (by kernel_rfl) (by kernel_rfl) h2
  obtain ⟨wd, _, e0, k0, -⟩ := fits_cons f0
  obtain ⟨hg, _, e1, k1, -⟩ := fits_cons f1
  simp only [List.cons.injEq] at e0 e1 e2
  obtain ⟨rfl, -⟩ := e0
  obtain ⟨rfl, -⟩ := e1
  obtain ⟨rfl, -⟩ := e2
  exact ⟨wd, hg, a, cap, ps, rfl, ⟨bounds_i8 k0, bounds_i8 k1, ok⟩, sl, ln⟩
theorem open_ce {H : Type} {enc : TypeId × Value → H} {w : World} {base : Nat} {r : Reach} {b0 : Nat} {spare : Nat → Bool} {held : Bool} {v : Value} {d : DataW H} {p : List MemPlace}
    (hv : Value.okWide Tryz.prog w r b0 133 v) (h : DataW.Trod enc Tryz.prog w base spare held 133 v d p) : ∃ c : Ce, v = c.val ∧ c.ok := by
  simp only [Value.okWide, Tryz.underlying133] at hv
  obtain ⟨cs, rfl, hsz, _⟩ := hv
  have hf : Fits [.i8, .i8] cs.toList := fits_of_trod (P := Tryz.prog) (by kernel_rfl) h
  obtain ⟨l⟩ := cs
  obtain ⟨a, _, e, h0, hf⟩ := fits_cons hf
  obtain ⟨b, _, rfl, h1, hf⟩ := fits_cons hf
  obtain rfl := fits_nil hf
  simp only at e
  subst e
  exact ⟨⟨a, b⟩, rfl, bounds_i8 h0, bounds_i8 h1⟩
end Go.Proofs.YtdhjhnbmecbaaaaGreat
/- Opening arguments: machines, ports and rows of numbers. -/
namespace Go.Proofs.YtdhjhnbmecbaaaaGreat
open Go.RowKit Go.ChangeShapes Go.WideShapes Go.ChangeAt
set_option linter.unusedVariables false
set_option maxHeartbeats 400000
set_option maxRecDepth 100000
set_option linter.unusedSimpArgs false
theorem conv_po (cs : List Value) (h : Fits [.i8, .i8, .i8] cs) : ∃ p : Po, p.ok ∧ cs = p.cells := by
  obtain ⟨a, _, rfl, h0, h⟩ := fits_cons h
  obtain ⟨b, _, rfl, h1, h⟩ := fits_cons h
  obtain ⟨c, _, rfl, h2, h⟩ := fits_cons h
  obtain rfl := fits_nil h
  exact ⟨⟨a, b, c⟩, ⟨bounds_i8 h0, bounds_i8 h1, bounds_i8 h2⟩, rfl⟩
theorem conv_n64 (cs : List Value) (h : Fits [.i64] cs) : ∃ p : Int, (-9223372036854775808 ≤ p ∧ p ≤ 9223372036854775807) ∧ cs = N64_cells p := by
  obtain ⟨a, _, rfl, h0, h⟩ := fits_cons h
  obtain rfl := fits_nil h
  exact ⟨a, bounds_i64 h0, rfl⟩
theorem open_mc {H : Type} {enc : TypeId × Value → H} {w : World} {base : Nat} {r : Reach} {b0 : Nat} {spare : Nat → Bool} {held : Bool} {v : Value} {d : DataW H} {p : List MemPlace}
    (hv : Value.okWide Tryz.prog w r b0 29 v) (h : DataW.Trod enc Tryz.prog w base spare held 29 v d p) :
    ∃ (m : Mc) (a a1 a2 : Option Addr) (cap cap1 cap2 : Nat), v = mcv m.bd.wd m.bd.hg (.slice a m.bd.ps.length cap) (.slice a1 m.ins.length cap1) (.slice a2 m.outs.length cap2) ∧ m.ok ∧
      PcsAt w.heap.size w a m.bd.ps ∧ SlAt w.heap.size w a1 (flat Po.cells m.ins) ∧ SlAt w.heap.size w a2 (flat Ce.cells m.outs) ∧ m.bd.ps.length ≤ maxLen ∧ m.ins.length ≤ maxLen ∧ m.outs.length ≤ maxLen := by
  obtain ⟨cs, rfl, hsz⟩ := okWide_struct Tryz.underlying29 hv
  obtain ⟨fuel, h⟩ := h
  obtain ⟨y0, y1, y2, n, -, hl, h0, h1, h2⟩ := Go.Deep.trod_struct3 Tryz.underlying29 h
  have hsz : cs.size = 5 := hsz
  obtain ⟨c0, c1, c2, c3, c4, rfl⟩ : ∃ c0 c1 c2 c3 c4, cs = #[c0, c1, c2, c3, c4] := by
    obtain ⟨l⟩ := cs
    match l, hsz with
    | [c0, c1, c2, c3, c4], _ => exact ⟨c0, c1, c2, c3, c4, rfl⟩
  have h0' : DataW.trod enc Tryz.prog w base spare held n 25 [c0, c1, c2] = some y0 := h0
  obtain ⟨z0, z1, z2, n', -, hl', k0, k1, k2⟩ := Go.Deep.trod_struct3 Tryz.underlying25 h0'
  have f0 := trod_kinds (P := Tryz.prog) 2 22 [.i8] (by kernel_rfl) _ [c0] _ k0
  have f1 := trod_kinds (P := Tryz.prog) 2 22 [.i8] (by kernel_rfl) _ [c1] _ k1
  obtain ⟨a, cap, ps, e2, ok, sl, ln⟩ := sl_of_trod (s := 5) (cs := [c2]) (ok := Pc.ok) (f := Pc.cells) rfl (by omega) conv_pc Tryz.underlying23 (by kernel_rfl) (by kernel_rfl) k2
  obtain ⟨a1, cap1, is, e3, ok1, sl1, ln1⟩ := sl_of_trod (s := 3) (cs := [c3]) (ok := Po.ok) (f := Po.cells) rfl (by omega) conv_po Tryz.underlying26 (by kernel_rfl) (by kernel_rfl) h1
  obtain ⟨a2, cap2, os, e4, ok2, sl2, ln2⟩ := sl_of_trod (s := 2) (cs := [c4]) (ok := Ce.ok) (f := Ce.cells) rfl (by omega) conv_ce Tryz.underlying27 (by kernel_rfl) (by kernel_rfl) h2
  obtain ⟨wd, _, e0, q0, -⟩ := fits_cons f0
  obtain ⟨hg, _, e1, q1, -⟩ := fits_cons f1
  simp only [List.cons.injEq] at e0 e1 e2 e3 e4
  obtain ⟨rfl, -⟩ := e0
  obtain ⟨rfl, -⟩ := e1
  obtain ⟨rfl, -⟩ := e2
  obtain ⟨rfl, -⟩ := e3
  obtain ⟨rfl, -⟩ := e4
  exact ⟨⟨⟨wd, hg, ps⟩, is, os⟩, a, a1, a2, cap, cap1, cap2, rfl, ⟨⟨bounds_i8 q0, bounds_i8 q1, ok⟩, ok1, ok2⟩, sl, sl1, sl2, ln, ln1, ln2⟩
end Go.Proofs.YtdhjhnbmecbaaaaGreat
