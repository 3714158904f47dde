import Derived.Test.YtmeefmoblkiebaaGreatK4
import Derived.Deep.DeepFit
import Derived.Deep.RegionHeld3
import Derived.Deep.AppendLies
import Derived.Deep.CutRange
import Derived.StillTailTactics
import Derived.BigQuiet
import Derived.BigRegion
/- Contracts: which machines are valid (the reference). -/
namespace Go.Proofs.YtmeefmoblkiebaaGreat
open Go.RowKit
set_option linter.unusedVariables false
set_option linter.unusedSimpArgs false
set_option maxHeartbeats 400000
set_option maxRecDepth 100000
/-- A pointer's block that holds a machine. -/
def MP (w : World) (b : Nat) (m : Mc) : Prop := b < w.heap.size ∧ ∃ s si so, (BdAt w b m.bd.wd m.bd.hg s ∧ w.cell? ⟨b, 3, none⟩ = some si ∧ w.cell? ⟨b, 4, none⟩ = some so) ∧ PV w s m.bd.ps ∧ RV Po.cells w si m.ins ∧ RV Ce.cells w so m.outs
theorem MP.step {w w' : World} {b : Nat} {m : Mc} (h : MP w b m) (hb : Below w.heap.size w w') : MP w' b m := by
  obtain ⟨h1, s, si, so, h2, h3, h4, h5⟩ := h
  refine ⟨Nat.lt_of_lt_of_le h1 hb.size, s, si, so, ?_, h3.step hb, h4.step hb, h5.step hb⟩
  unfold BdAt at *
  simp only [hb.cell (p := ⟨b, _, none⟩) h1]
  exact h2
theorem MP.bp {w : World} {b : Nat} {m : Mc} (h : MP w b m) : BP w b m.bd := by
  obtain ⟨h1, s, si, so, h2, h3, h4, h5⟩ := h
  exact ⟨h1, s, h2.1, h3⟩
theorem MP.new {w : World} {m : Mc} {s si so : Value} (h1 : PV w s m.bd.ps) (h2 : RV Po.cells w si m.ins) (h3 : RV Ce.cells w so m.outs) (T : TypeId) : MP (w.alloc (.cells #[.int .i8 m.bd.wd, .int .i8 m.bd.hg, s, si, so] T)) w.heap.size m := by
  have hb : Below w.heap.size w (w.alloc (.cells #[.int .i8 m.bd.wd, .int .i8 m.bd.hg, s, si, so] T)) := bl_alloc (Below.refl _ _)
  refine ⟨by simp, s, si, so, ?_, h1.step hb, h2.step hb, h3.step hb⟩
  have hh := heap_alloc_new w (.cells #[.int .i8 m.bd.wd, .int .i8 m.bd.hg, s, si, so] T)
  unfold BdAt
  refine ⟨⟨?_, ?_, ?_⟩, ?_, ?_⟩ <;> (rw [cell_of_row _ _ _ _ _ _ hh]; rfl)
theorem pos_at {w : World} {si : Value} {l : List Po} (h : RV Po.cells w si l) : ∃ a cap, si = .slice a l.length cap ∧ SlAt w.heap.size w a (flat Po.cells l) := h
def insTo (m : Mc) (k : Nat) : Prop := (m.ins.take k).all (poOk m.bd.ps) = true ∧ (m.ins.take k).Nodup
theorem insTo_succ (m : Mc) (k : Nat) (hk : k < m.ins.length) (h : insTo m k) (h1 : poOk m.bd.ps m.ins[k] = true) (h2 : ∀ j (hj : j < k), m.ins[j] ≠ m.ins[k]) : insTo m (k + 1) := by
  unfold insTo at *
  rw [List.take_succ_eq_append_getElem hk, List.all_append, h.1]
  refine ⟨by simp [h1], ?_⟩
  rw [List.nodup_append]
  refine ⟨h.2, by simp, ?_⟩
  intro a ha b hb
  rw [List.mem_singleton] at hb
  rw [List.mem_take_iff_getElem] at ha
  obtain ⟨j, hj, rfl⟩ := ha
  rw [hb]
  exact h2 j (by omega)
theorem insTo_bad (m : Mc) (k : Nat) (hk : k < m.ins.length) (h1 : poOk m.bd.ps m.ins[k] = false) : m.ins.all (poOk m.bd.ps) = false := by
  rw [List.all_eq_false]
  exact ⟨_, List.getElem_mem hk, by rw [h1]; exact Bool.false_ne_true⟩
theorem ins_dup (m : Mc) (j k : Nat) (hj : j < k) (hk : k < m.ins.length) (he : m.ins[j] = m.ins[k]) : decide m.ins.Nodup = false := by
  rw [decide_eq_false_iff_not]
  intro hn
  rw [List.Nodup, List.pairwise_iff_getElem] at hn
  exact hn j k (by omega) hk hj he
def headM (m : Mc) : Bool := vBd m.bd && decide (m.bd.ps.length ≤ 60) && inB m.ins.length 1 6 && inB m.outs.length 1 8
def tailM (m : Mc) : Bool := m.ins.all (poOk m.bd.ps) && decide m.ins.Nodup && m.outs.all (outOk m.bd.ps)
theorem vMc_ht (m : Mc) : vMc m = (headM m && tailM m) := rfl
set_option maxHeartbeats 3200000 in
theorem l03Ok_any (b0 : Nat) (m : Mc) (w : World) (h : MP w b0 m) (hok : m.ok) (hn : m.bd.ps.length ≤ 10000000) (hn1 : m.ins.length ≤ 10000000) (hn2 : m.outs.length ≤ 10000000) :
    Calls Tryz.prog 78 #[.pointer (some ⟨b0, 0, none⟩)] w fun e w' => e = .returned (.bool (vMc m)) ∧ Below w.heap.size w w' := by
  have HM := Lib.hid h
  have HV := Lib.hid (l01Ok_any b0 m.bd w h.bp hok.1 hn)
  obtain ⟨hbl, s, si, so, ⟨hbd, c3, c4⟩, ⟨sa, scap, rfl, hps⟩, ⟨ia, icap, rfl, hins⟩, ⟨oa, ocap, rfl, houts⟩⟩ := h
  unfold BdAt at hbd
  obtain ⟨c0, c1, c2⟩ := hbd
  have HVM := Lib.hid (vMc_ht m)
  generalize vMc m = r at HVM ⊢
  have HHD : Hid (headM m = (vBd m.bd && decide (m.bd.ps.length ≤ 60) && inB m.ins.length 1 6 && inB m.outs.length 1 8)) := Lib.hid rfl
  cases g0 : headM m with
  | false =>
    have HR : Hid (r = false) := Lib.hid (by rw [HVM.out, g0]; rfl)
    rw [g0] at HHD
    clear HVM g0 hins houts hps
    cases g1 : vBd m.bd with
    | false =>
      rw [g1] at HV
      clear HHD g1
      go_enter Tryz.func78, Tryz.ntmps78
      go_wp2_with fail
      refine HV.out.mono ?_
      rintro e w1 ⟨rfl, hb1⟩
      go_wp2
      go_ret
      exact ⟨by rw [HR.out]; rfl, hb1⟩
    | true =>
      rw [g1] at HV
      rcases dec_cases ((60 : Int) < m.bd.ps.length) with ⟨g2, k2⟩ | ⟨g2, k2⟩
      · clear HHD g1 k2
        go_enter Tryz.func78, Tryz.ntmps78
        go_wp2_with fail
        refine HV.out.mono ?_
        rintro e w1 ⟨rfl, hb1⟩
        have r2 : w1.cell? ⟨b0, 2, none⟩ = some (.slice sa m.bd.ps.length scap) := by rw [hb1.cell (p := ⟨_, _, none⟩) hbl]; exact c2
        go_wp2
        go_ret
        exact ⟨by rw [HR.out]; rfl, hb1⟩
      · have e2 : decide (m.bd.ps.length ≤ 60) = true := decide_eq_true (by omega)
        rw [g1, e2] at HHD
        clear g1 k2 e2
        cases g3 : inB m.ins.length 1 6 with
        | false =>
          clear HHD
          go_enter Tryz.func78, Tryz.ntmps78
          go_wp2_with fail
          refine HV.out.mono ?_
          rintro e w1 ⟨rfl, hb1⟩
          have r2 : w1.cell? ⟨b0, 2, none⟩ = some (.slice sa m.bd.ps.length scap) := by rw [hb1.cell (p := ⟨_, _, none⟩) hbl]; exact c2
          have r3 : w1.cell? ⟨b0, 3, none⟩ = some (.slice ia m.ins.length icap) := by rw [hb1.cell (p := ⟨_, _, none⟩) hbl]; exact c3
          go_wp2_with (go_at_call 79; refine (l00In_any _ _ _ _).mono ?_; rintro e w' ⟨rfl, rfl⟩)
          go_ret
          exact ⟨by rw [HR.out]; rfl, hb1⟩
        | true =>
          have g4 : inB m.outs.length 1 8 = false := by
            have := HHD.out
            rw [g3] at this
            simpa using this.symm
          clear HHD
          go_enter Tryz.func78, Tryz.ntmps78
          go_wp2_with fail
          refine HV.out.mono ?_
          rintro e w1 ⟨rfl, hb1⟩
          have r2 : w1.cell? ⟨b0, 2, none⟩ = some (.slice sa m.bd.ps.length scap) := by rw [hb1.cell (p := ⟨_, _, none⟩) hbl]; exact c2
          have r3 : w1.cell? ⟨b0, 3, none⟩ = some (.slice ia m.ins.length icap) := by rw [hb1.cell (p := ⟨_, _, none⟩) hbl]; exact c3
          have r4 : w1.cell? ⟨b0, 4, none⟩ = some (.slice oa m.outs.length ocap) := by rw [hb1.cell (p := ⟨_, _, none⟩) hbl]; exact c4
          go_wp2_with (go_at_call 79; refine (l00In_any _ _ _ _).mono ?_; rintro e w' ⟨rfl, rfl⟩)
          go_ret
          exact ⟨by rw [HR.out]; rfl, hb1⟩
  | true =>
    have HR : Hid (r = tailM m) := Lib.hid (by rw [HVM.out, g0]; rfl)
    rw [g0] at HHD
    have hh := HHD.out.symm
    simp only [Bool.and_eq_true, decide_eq_true_eq] at hh
    obtain ⟨⟨⟨g1, g2⟩, g3⟩, g4⟩ := hh
    rw [g1] at HV
    have e2 : decide ((60 : Int) < m.bd.ps.length) = false := decide_eq_false (by omega)
    have HTL : Hid (tailM m = (m.ins.all (poOk m.bd.ps) && decide m.ins.Nodup && m.outs.all (outOk m.bd.ps))) := Lib.hid rfl
    clear HHD HVM g0 g1
    go_enter Tryz.func78, Tryz.ntmps78
    go_wp2_with fail
    refine HV.out.mono ?_
    rintro e w1 ⟨rfl, hb1⟩
    have r2 : w1.cell? ⟨b0, 2, none⟩ = some (.slice sa m.bd.ps.length scap) := by rw [hb1.cell (p := ⟨_, _, none⟩) hbl]; exact c2
    have r3 : w1.cell? ⟨b0, 3, none⟩ = some (.slice ia m.ins.length icap) := by rw [hb1.cell (p := ⟨_, _, none⟩) hbl]; exact c3
    have r4 : w1.cell? ⟨b0, 4, none⟩ = some (.slice oa m.outs.length ocap) := by rw [hb1.cell (p := ⟨_, _, none⟩) hbl]; exact c4
    go_wp2_with (go_at_call 79; refine (l00In_any _ _ _ _).mono ?_; rintro e w' ⟨rfl, rfl⟩)
    go_loopw [3] (fun ix wr => ∃ k : Nat, k ≤ m.ins.length ∧ ix = .int .i64 k ∧ Hid (insTo m k) ∧ Below w.heap.size w wr) (fun ix _ => m.ins.length - (intOf ix).toNat)
    case atStart => exact ⟨0, by omega, rfl, Lib.hid ⟨by simp, by simp⟩, hb1⟩
    case round =>
      clear r2 r3 r4 hb1
      obtain ⟨k, hk, rfl, hto, hb⟩ := hrel
      have r3 : wr.cell? ⟨b0, 3, none⟩ = some (.slice ia m.ins.length icap) := by rw [hb.cell (p := ⟨_, _, none⟩) hbl]; exact c3
      have hbr : b0 < wr.heap.size := Nat.lt_of_lt_of_le hbl hb.size
      by_cases hlt : k < m.ins.length
      · obtain ⟨b, off, rfl, hbi, hat⟩ := pos_get hins hlt
        unfold PoAt at hat
        obtain ⟨a0, a1, a2⟩ := hat
        have q0 : wr.cell? ⟨b, off + k * 3, none⟩ = some (.int .i8 m.ins[k].x) := by rw [hb.cell (p := ⟨_, _, none⟩) hbi]; exact a0
        have q1 : wr.cell? ⟨b, off + k * 3 + 1, none⟩ = some (.int .i8 m.ins[k].y) := by rw [hb.cell (p := ⟨_, _, none⟩) hbi]; exact a1
        have q2 : wr.cell? ⟨b, off + k * 3 + 2, none⟩ = some (.int .i8 m.ins[k].s) := by rw [hb.cell (p := ⟨_, _, none⟩) hbi]; exact a2
        have hbir : b < wr.heap.size := Nat.lt_of_lt_of_le hbi hb.size
        obtain ⟨ok0, ok1, ok2⟩ := hok.2.1 k hlt
        have s1 : IntKind.i64.wrap m.ins[k].s = m.ins[k].s := by rw [IntKind.wrap_i64]; unfold I8 at ok2; omega
        cases gs : inB m.ins[k].s 0 3 with
        | false =>
          have HS := Lib.hid (fun w => gs ▸ l01Side_any m.ins[k].s w)
          have HRF : Hid (r = false) := Lib.hid (by rw [HR.out, HTL.out, insTo_bad m k hlt (by unfold poOk; rw [gs]; rfl)]; rfl)
          clear gs
          go_wp2
          (refine wp_region_ext (by kernel_rfl) (by kernel_rfl) ?_; have hX := @ext_cell; (repeat (go_big_quiet_step ((go_at_call 129; exact ext_same (HS.out _))))); refine wpQuiet_nil ?_; clear hX; intro wx hw'; obtain ⟨⟨wx, hbx⟩, rfl⟩ := hw'; obtain ⟨hcx, hfx⟩ := bcell hbx)
          go_wp2
          go_ret
          exact ⟨by rw [HRF.out]; rfl, bl_trans hb hbx⟩
        | true =>
          have HS := Lib.hid (fun w => gs ▸ l01Side_any m.ins[k].s w)
          have HFD := Lib.hid (fun u : Ext wr => l01Find_any b0 m.bd ⟨m.ins[k].x, m.ins[k].y⟩ u.w ((HM.out.step hb).step u.b).bp hn)
          obtain ⟨fk, hfk⟩ : ∃ fk, fk = fnd ⟨m.ins[k].x, m.ins[k].y⟩ m.bd.ps := ⟨_, rfl⟩
          rw [← hfk] at HFD
          have HPK : Hid (poOk m.bd.ps m.ins[k] = decide (0 ≤ fk)) := Lib.hid (by unfold poOk; rw [gs, hfk]; rfl)
          clear gs hfk
          rcases dec_cases (fk < 0) with ⟨gf, kf⟩ | ⟨gf, kf⟩
          · have HRF : Hid (r = false) := Lib.hid (by rw [HR.out, HTL.out, insTo_bad m k hlt (by rw [HPK.out]; exact decide_eq_false (by omega))]; rfl)
            clear kf
            go_wp2
            (refine wp_region_ext (by kernel_rfl) (by kernel_rfl) ?_; have hX := @ext_cell; (repeat (go_big_quiet_step (first | (go_at_call 129; exact ext_same (HS.out _)) | (go_at_call 104; exact ext_call (HFD.out _))))); refine wpQuiet_nil ?_; clear hX; intro wx hw'; obtain ⟨⟨wx, hbx⟩, rfl⟩ := hw'; obtain ⟨hcx, hfx⟩ := bcell hbx)
            go_wp2
            go_ret
            exact ⟨by rw [HRF.out]; rfl, bl_trans hb hbx⟩
          · have HPT : Hid (poOk m.bd.ps m.ins[k] = true) := Lib.hid (by rw [HPK.out]; exact decide_eq_true (by omega))
            obtain ⟨P, hP⟩ : ∃ P, P = m.ins[k] := ⟨_, rfl⟩
            have HP := Lib.hid hP
            rw [← hP] at q0 q1 q2 HS HFD s1
            clear kf hP ok0 ok1 ok2
            go_wp2
            (refine wp_region_ext (by kernel_rfl) (by kernel_rfl) ?_; have hX := @ext_cell; (repeat (go_big_quiet_step (first | (go_at_call 129; exact ext_same (HS.out _)) | (go_at_call 104; exact ext_call (HFD.out _))))); refine wpQuiet_nil ?_; clear hX; intro wx hw'; obtain ⟨⟨wx, hbx⟩, rfl⟩ := hw'; obtain ⟨hcx, hfx⟩ := bcell hbx)
            have hbw := bl_trans hb hbx
            go_wp2
            go_loopw [4] (fun jx wi => ∃ j : Nat, j ≤ k ∧ jx = .int .i64 j ∧ Hid (∀ i (hi : i < j) (hi2 : i < m.ins.length), m.ins[i] ≠ P) ∧ Below w.heap.size w wi) (fun jx _ => k - (intOf jx).toNat)
            case atStart => exact ⟨0, by omega, rfl, Lib.hid (fun i hi => by omega), hbw⟩
            case round =>
              clear hbx hbw hcx hfx q0 q1 q2 r3 HS HFD
              obtain ⟨j, hj, rfl, hnd, hbj⟩ := hrel
              have r3 : wr.cell? ⟨b0, 3, none⟩ = some (.slice (some ⟨b, off, none⟩) m.ins.length icap) := by rw [hbj.cell (p := ⟨_, _, none⟩) hbl]; exact c3
              by_cases hjk : j < k
              · have hjl : j < m.ins.length := by omega
                obtain ⟨b', off', he, -, hatj⟩ := pos_get hins hjl
                simp only [Option.some.injEq, Addr.mk.injEq, and_true] at he
                obtain ⟨rfl, rfl⟩ := he
                unfold PoAt at hatj
                have q0 : wr.cell? ⟨b, off + k * 3, none⟩ = some (.int .i8 P.x) := by rw [hbj.cell (p := ⟨_, _, none⟩) hbi, HP.out]; exact a0
                have q1 : wr.cell? ⟨b, off + k * 3 + 1, none⟩ = some (.int .i8 P.y) := by rw [hbj.cell (p := ⟨_, _, none⟩) hbi, HP.out]; exact a1
                have q2 : wr.cell? ⟨b, off + k * 3 + 2, none⟩ = some (.int .i8 P.s) := by rw [hbj.cell (p := ⟨_, _, none⟩) hbi, HP.out]; exact a2
                have p0 : wr.cell? ⟨b, off + j * 3, none⟩ = some (.int .i8 m.ins[j].x) := by rw [hbj.cell (p := ⟨_, _, none⟩) hbi]; exact hatj.1
                have p1 : wr.cell? ⟨b, off + j * 3 + 1, none⟩ = some (.int .i8 m.ins[j].y) := by rw [hbj.cell (p := ⟨_, _, none⟩) hbi]; exact hatj.2.1
                have p2 : wr.cell? ⟨b, off + j * 3 + 2, none⟩ = some (.int .i8 m.ins[j].s) := by rw [hbj.cell (p := ⟨_, _, none⟩) hbi]; exact hatj.2.2
                obtain ⟨Q, hQ⟩ : ∃ Q, Q = m.ins[j] := ⟨_, rfl⟩
                rw [← hQ] at p0 p1 p2
                have HQ := Lib.hid hQ
                clear hatj hQ
                have heq : ∀ w, (binOp .eql 127 Q.val P.val).run Tryz.prog w = .ok (.bool (decide (Q = P))) w := run_eql_po Q.x Q.y Q.s P.x P.y P.s
                rcases dec_cases (Q = P) with ⟨gq, kq⟩ | ⟨gq, kq⟩
                · rw [gq] at heq
                  have HRF : Hid (r = false) := Lib.hid (by rw [HR.out, HTL.out, ins_dup m j k hjk hlt (by rw [← HQ.out, ← HP.out, kq])]; simp)
                  clear gq kq
                  go_wp2
                  go_quiet (fail)
                  go_wp2
                  go_ret
                  exact ⟨by rw [HRF.out]; rfl, (by repeat (first | with_reducible exact Below.refl _ _ | with_reducible assumption | with_reducible apply bl_drewN | with_reducible apply bl_drew | with_reducible apply bl_alloc | (with_reducible refine bl_set ?_ (by first | (simp; done) | (simp; omega)) _) | with_reducible refine bl_trans ?_ (by with_reducible assumption)))⟩
                · rw [gq] at heq
                  have HNQ := Lib.hid kq
                  clear gq kq
                  go_wp2
                  go_quiet (fail)
                  go_wp2
                  go_roundw
                  case rel => exact ⟨j + 1, by omega, by go_num, Lib.hid (fun i hi hi2 => by
                    by_cases e : i = j
                    · subst e; rw [← HQ.out]; exact HNQ.out
                    · exact hnd.out i (by omega) hi2), (by repeat (first | with_reducible exact Below.refl _ _ | with_reducible assumption | with_reducible apply bl_drewN | with_reducible apply bl_drew | with_reducible apply bl_alloc | (with_reducible refine bl_set ?_ (by first | (simp; done) | (simp; omega)) _) | with_reducible refine bl_trans ?_ (by with_reducible assumption)))⟩
                  case measure => simp [intOf]; omega
              · have hjk2 : j = k := by omega
                subst hjk2
                have HT2 := Lib.hid (insTo_succ m j hlt hto.out HPT.out (fun i hi => by rw [← HP.out]; exact hnd.out i hi (by omega)))
                go_wp2
                go_roundw
                case rel => exact ⟨j + 1, by omega, by go_num, HT2, hbj⟩
                case measure => simp [intOf]; omega
      · have hkn : k = m.ins.length := by omega
        subst hkn
        have HIA : Hid (m.ins.all (poOk m.bd.ps) = true ∧ decide m.ins.Nodup = true) := Lib.hid (by
          have := hto.out
          unfold insTo at this
          rw [List.take_length] at this
          exact ⟨this.1, decide_eq_true this.2⟩)
        have HR2 : Hid (r = m.outs.all (outOk m.bd.ps)) := Lib.hid (by rw [HR.out, HTL.out, HIA.out.1, HIA.out.2]; rfl)
        clear HR HTL hto
        go_wp2
        go_loopw [5] (fun ix wi => ∃ k : Nat, k ≤ m.outs.length ∧ ix = .int .i64 k ∧ Hid ((m.outs.take k).all (outOk m.bd.ps) = true) ∧ Below w.heap.size w wi) (fun ix _ => m.outs.length - (intOf ix).toNat)
        case atStart => exact ⟨0, by omega, rfl, Lib.hid (by simp), hb⟩
        case round =>
          clear hb hbr
          obtain ⟨k, hk, rfl, hall, hb⟩ := hrel
          have r4 : wr.cell? ⟨b0, 4, none⟩ = some (.slice oa m.outs.length ocap) := by rw [hb.cell (p := ⟨_, _, none⟩) hbl]; exact c4
          have hbr : b0 < wr.heap.size := Nat.lt_of_lt_of_le hbl hb.size
          by_cases hlt : k < m.outs.length
          · obtain ⟨b, off, rfl, hbi, hat⟩ := ces_get houts hlt
            have q0 : wr.cell? ⟨b, off + k * 2, none⟩ = some (.int .i8 m.outs[k].x) := by rw [hb.cell (p := ⟨_, _, none⟩) hbi]; exact hat.1
            have q1 : wr.cell? ⟨b, off + k * 2 + 1, none⟩ = some (.int .i8 m.outs[k].y) := by rw [hb.cell (p := ⟨_, _, none⟩) hbi]; exact hat.2
            have hbir : b < wr.heap.size := Nat.lt_of_lt_of_le hbi hb.size
            have HFD := Lib.hid (fun u : Ext wr => l01Find_any b0 m.bd ⟨m.outs[k].x, m.outs[k].y⟩ u.w ((HM.out.step hb).step u.b).bp hn)
            obtain ⟨fk, hfk⟩ : ∃ fk, fk = fnd ⟨m.outs[k].x, m.outs[k].y⟩ m.bd.ps := ⟨_, rfl⟩
            rw [← hfk] at HFD
            have HPK : Hid (outOk m.bd.ps m.outs[k] = decide (0 ≤ fk)) := Lib.hid (by unfold outOk; rw [hfk])
            clear hfk hat
            rcases dec_cases (fk < 0) with ⟨gf, kf⟩ | ⟨gf, kf⟩
            · have HRF : Hid (r = false) := Lib.hid (by
                rw [HR2.out, List.all_eq_false]
                exact ⟨_, List.getElem_mem hlt, by rw [HPK.out, decide_eq_false (by omega)]; exact Bool.false_ne_true⟩)
              clear kf
              go_wp2
              (refine wp_region_ext (by kernel_rfl) (by kernel_rfl) ?_; have hX := @ext_cell; (repeat (go_big_quiet_step ((go_at_call 104; exact ext_call (HFD.out _))))); refine wpQuiet_nil ?_; clear hX; intro wx hw'; obtain ⟨⟨wx, hbx⟩, rfl⟩ := hw'; obtain ⟨hcx, hfx⟩ := bcell hbx)
              go_wp2
              go_ret
              exact ⟨by rw [HRF.out]; rfl, bl_trans hb hbx⟩
            · have HNX : Hid ((m.outs.take (k + 1)).all (outOk m.bd.ps) = true) := Lib.hid (by
                rw [List.take_succ_eq_append_getElem hlt, List.all_append, hall.out]
                simp only [List.all_cons, List.all_nil, Bool.and_true, Bool.true_and]
                rw [HPK.out]; exact decide_eq_true (by omega))
              clear kf
              go_wp2
              (refine wp_region_ext (by kernel_rfl) (by kernel_rfl) ?_; have hX := @ext_cell; (repeat (go_big_quiet_step ((go_at_call 104; exact ext_call (HFD.out _))))); refine wpQuiet_nil ?_; clear hX; intro wx hw'; obtain ⟨⟨wx, hbx⟩, rfl⟩ := hw'; obtain ⟨hcx, hfx⟩ := bcell hbx)
              go_wp2
              go_roundw
              case rel => exact ⟨k + 1, by omega, by go_num, HNX, bl_trans hb hbx⟩
              case measure => simp [intOf]; omega
          · have hkn : k = m.outs.length := by omega
            subst hkn
            have HRT : Hid (r = true) := Lib.hid (by rw [HR2.out, ← List.take_length (l := m.outs)]; exact hall.out)
            go_wp2
            go_ret
            exact ⟨by rw [HRT.out]; rfl, hb⟩
end Go.Proofs.YtmeefmoblkiebaaGreat
/- Contracts: slices of Int64, element for element. -/
namespace Go.Proofs.YtmeefmoblkiebaaGreat
open Go.RowKit
set_option linter.unusedVariables false
set_option linter.unusedSimpArgs false
set_option maxHeartbeats 400000
set_option maxRecDepth 100000

def N64_ok (p : Int) : Prop := (-9223372036854775808 ≤ p ∧ p ≤ 9223372036854775807)
def N64_cells (p : Int) : List Value := [.int .i64 p]
theorem N64_len (p : Int) : (N64_cells p).length = 1 := rfl
theorem N64_one (p : Int) : ∀ u ∈ N64_cells p, u.oneCell' = true := by
  intro u hu
  simp only [N64_cells, List.mem_cons, List.not_mem_nil, or_false] at hu
  subst hu; rfl
def N64At (w : World) (b off : Nat) (p : Int) : Prop :=
  w.cell? ⟨b, off, none⟩ = some (.int .i64 p)
theorem n64s_get {B : Nat} {w : World} {a : Option Addr} {ps : List Int} (h : SlAt B w a (flat N64_cells ps)) {k : Nat} (hk : k < ps.length) :
    ∃ b off, a = some ⟨b, off, none⟩ ∧ b < B ∧ N64At w b (off + k * 1) ps[k] := by
  obtain ⟨b, off, h1, h2, h3⟩ := SlAt.get N64_len (by omega) h hk
  exact ⟨b, off, h1, h2, h3 0 _ rfl⟩
theorem Tryz.infoInt64 : (Tryz.prog.info? 2).map (fun i => (i.zero, i.size, i.bytes)) = some (some (.int .i64 0), 1, 8) := by kernel_rfl
def mkN641 (k : Int) : Int := k
def mkN64 (k : Int) (n : Nat) : List Int := (List.range n).map fun (i : Nat) => (k + (i : Int))
theorem mkN64_succ (k : Int) (n : Nat) : mkN64 k (n + 1) = mkN64 k n ++ [k + n] := by simp [mkN64, List.range_succ]
theorem mkN64_len (k : Int) (n : Nat) : (mkN64 k n).length = n := by simp [mkN64]
end Go.Proofs.YtmeefmoblkiebaaGreat
/- Contracts: CountFrom (both). -/
namespace Go.Proofs.YtmeefmoblkiebaaGreat
open Go.RowKit
set_option linter.unusedVariables false
set_option linter.unusedSimpArgs false
set_option maxHeartbeats 400000
set_option maxRecDepth 100000
theorem sl_newC (w : World) (cs : Array Value) (T : TypeId) (g : Nat) (hg : g = w.heap.size) : SlAt (g + 1) (w.alloc (.cells cs T)) (some ⟨g, 0, none⟩) cs.toList := by
  subst hg
  exact sl_new w cs T
/-- How many pieces fall. -/
def cntF (fs : List Fa) : Int := (fs.filter (fun f => decide (0 ≤ f.t))).length
theorem cntF_nil : cntF [] = 0 := rfl
theorem cntF_take (fs : List Fa) (k : Nat) (hk : k < fs.length) : cntF (fs.take (k + 1)) = cntF (fs.take k) + (if 0 ≤ fs[k].t then 1 else 0) := by
  rw [List.take_succ_eq_append_getElem hk]
  unfold cntF
  rw [List.filter_append, List.length_append]
  by_cases h : 0 ≤ fs[k].t
  · rw [if_pos h, List.filter_cons_of_pos (by simpa using h), List.filter_nil]; push_cast; rfl
  · rw [if_neg h, List.filter_cons_of_neg (by simpa using h), List.filter_nil]; push_cast; rfl
theorem cntF_le (fs : List Fa) : 0 ≤ cntF fs ∧ cntF fs ≤ fs.length := by
  unfold cntF
  have := List.length_filter_le (fun f : Fa => decide (0 ≤ f.t)) fs
  omega
/-- A push on a side from which the piece does not fall: nobody falls. -/
theorem runOf_none (ps : List Pc) (G : ∀ pl, (∀ p ∈ pl, 0 ≤ p.t ∧ p.t ≤ 1000) → Good ps pl) (p : Pu) (hp : 0 ≤ p.t ∧ p.t ≤ 1000) (n : Nat) (hn : n < ps.length) (hpn : (⟨p.x, p.y⟩ : Ce) = (ps.getD n default).at_) (hc : canH ps n (p.t, p.s, -1) = false) : runOf ps [p] = List.replicate ps.length (faOf none) := by
  have hG := G [p] (fun q hq => by rw [List.mem_singleton] at hq; subst hq; exact hp)
  refine (runOf_eq ps [p] _ hG ?_).symm
  refine okFa_least ps [p] _ (by simp) (fun i hi => ?_) (fun i hi => ⟨none, rep_get ps i hi, fun m hm => ?_⟩)
  · rw [rep_get ps i hi]; show (-1 : Int) ≤ -1; omega
  · obtain ⟨h1, h2⟩ := (mem_rep ps [p] i m).1 hm
    unfold candP at h2
    rw [List.mem_filterMap] at h2
    obtain ⟨q, hq, h3⟩ := h2
    rw [List.mem_singleton] at hq
    subst hq
    split at h3
    · rename_i e
      simp only [Option.some.injEq] at h3
      have e2 : (ps.getD i default).at_ = (ps.getD n default).at_ := by rw [← e, hpn]
      rw [getD_pc ps i hi, getD_pc ps n hn] at e2
      have e3 := (fnd_iff ps hG.nd (ps[n].at_) i).2 ⟨hi, e2⟩
      have e4 := (fnd_iff ps hG.nd (ps[n].at_) n).2 ⟨hn, rfl⟩
      have : i = n := by omega
      subst this
      rw [← h3, hc] at h1
      cases h1
    · cases h3
theorem cntF_rep (n : Nat) : cntF (List.replicate n (faOf none)) = 0 := by
  unfold cntF
  rw [List.filter_eq_nil_iff.2]
  · rfl
  · intro x hx
    rw [List.eq_of_mem_replicate hx]
    show ¬ decide ((0 : Int) ≤ -1) = true
    decide
noncomputable def cntV (l : Bd) (i s : Int) : Int := cntF (poList l i s)
end Go.Proofs.YtmeefmoblkiebaaGreat
/- Contracts: the places of falls of which something is so. -/
namespace Go.Proofs.YtmeefmoblkiebaaGreat
open Go.RowKit
set_option linter.unusedVariables false
set_option linter.unusedSimpArgs false
set_option maxHeartbeats 400000
set_option maxRecDepth 100000
def idxTo (p : Fa → Bool) (fs : List Fa) (k : Nat) : List Int := ((List.range k).filter (fun i => p (fs.getD i default))).map (fun (i : Nat) => (i : Int))
def idxP (p : Fa → Bool) (fs : List Fa) : List Int := idxTo p fs fs.length
theorem idxTo_succ (p : Fa → Bool) (fs : List Fa) (k : Nat) (hk : k < fs.length) : idxTo p fs (k + 1) = idxTo p fs k ++ (if p fs[k] = true then [(k : Int)] else []) := by
  unfold idxTo
  rw [List.range_succ, List.filter_append, List.map_append, ← getD_fa fs k hk]
  by_cases h : p (fs.getD k default) = true
  · rw [if_pos h, List.filter_cons_of_pos (by simpa using h)]; rfl
  · rw [if_neg h, List.filter_cons_of_neg (by simpa using h)]; rfl
theorem idxTo_len (p : Fa → Bool) (fs : List Fa) (k : Nat) : (idxTo p fs k).length ≤ k := by
  unfold idxTo
  rw [List.length_map]
  exact Nat.le_trans (List.length_filter_le _ _) (by simp)
set_option maxHeartbeats 1600000 in
theorem indices_anyP {B : Nat} (K : Nat) (caps : Array Value) (p : Fa → Bool) (a : Option Addr) (cap : Nat) (fs : List Fa) (w : World) (h : SlAt B w a (flat Fa.cells fs)) (hB : B ≤ w.heap.size) (hn : fs.length ≤ 10000)
    (eg : ∀ (args : Array Value) (w : World), (callFunc K args).run Tryz.prog w = .ok (.enter K args) w) (hf : ∀ (F : Fa) (w1 : World), F ∈ fs → Below w.heap.size w w1 → Calls Tryz.prog K (#[F.val] ++ caps) w1 fun e w' => e = .returned (.bool (p F)) ∧ Below w1.heap.size w1 w') :
    Calls Tryz.prog 47 #[.slice a fs.length cap, .func (.func K) #[] caps] w fun e w' => ∃ v, e = .returned v ∧ w'.ownsRow w.heap.size 2 1 v (idxP p fs).length (flat N64_cells (idxP p fs)) ∧ Below w.heap.size w w' := by
  have HCT := Lib.hid (fun k hk => idxTo_succ p fs k hk)
  have HLE := Lib.hid (fun k => idxTo_len p fs k)
  have HF := Lib.hid hf
  clear hf
  obtain ⟨i0, hi0, hiz0, hiz1, hiz2⟩ := info_parts Tryz.infoInt64
  have hown0 := World.ownsRow_made (e := 2) (size := 1) w #[] 0 (Nat.le_refl _) (by simp [maxLen]) rfl
  have hb0 : Below w.heap.size w (w.alloc (.cells #[] 2)) := bl_alloc (Below.refl _ _)
  go_enter Tryz.func47, Tryz.ntmps47
  go_wp2
  go_loopw [5, 11] (fun v ix wr => ∃ k : Nat, k ≤ fs.length ∧ ix = .int .i64 k ∧ wr.ownsRow w.heap.size 2 1 v (idxTo p fs k).length (flat N64_cells (idxTo p fs k)) ∧ Below w.heap.size w wr) (fun _ ix _ => fs.length - (intOf ix).toNat)
  case atStart => exact ⟨0, by omega, rfl, hown0, hb0⟩
  case round =>
    clear hown0 hb0
    obtain ⟨k, hk, rfl, hown, hb⟩ := hrel
    obtain ⟨av, capv, hve, -, -, -⟩ := own_at hown
    subst hve
    have HOWN := Lib.hid hown
    have hzb := hb.size
    have hle := HLE.out k
    clear hown
    by_cases hlt : k < fs.length
    · obtain ⟨b, off, rfl, hbl, hat⟩ := fas_get h hlt
      have hbw : b < w.heap.size := by omega
      unfold FaAt at hat
      obtain ⟨a0, a1, a2⟩ := hat
      have r0 : wr.cell? ⟨b, off + k * 3, none⟩ = some (.int .i64 fs[k].t) := by rw [hb.cell (p := ⟨_, _, none⟩) hbw]; exact a0
      have r1 : wr.cell? ⟨b, off + k * 3 + 1, none⟩ = some (.int .i8 fs[k].f) := by rw [hb.cell (p := ⟨_, _, none⟩) hbw]; exact a1
      have r2 : wr.cell? ⟨b, off + k * 3 + 2, none⟩ = some (.int .i64 fs[k].b) := by rw [hb.cell (p := ⟨_, _, none⟩) hbw]; exact a2
      have HC := Lib.hid (HCT.out k hlt)
      have hmem : fs[k] ∈ fs := List.getElem_mem hlt
      obtain ⟨F, hF⟩ : ∃ F, F = fs[k] := ⟨_, rfl⟩
      rw [← hF] at r0 r1 r2 HC hmem
      have hb1 : Below w.heap.size w (wr.alloc (.cells #[.int .i64 F.t, .int .i8 F.f, .int .i64 F.b] 43)) := bl_alloc hb
      have HCO := Lib.hid (HF.out F _ hmem hb1)
      have HB1 := Lib.hid hb1
      clear a0 a1 a2 hF hmem hb1
      obtain ⟨n, hnn⟩ : ∃ n, n = (idxTo p fs k).length := ⟨_, rfl⟩
      rw [← hnn] at HOWN hle ⊢
      have HNN := Lib.hid hnn
      clear hnn
      cases hp : p F with
      | true =>
        rw [hp] at HCO
        have HC2 : Hid (idxTo p fs (k + 1) = idxTo p fs k ++ [(k : Int)]) := Lib.hid (by rw [HC.out, if_pos hp])
        clear hp
        go_wp2_with fail
        refine HCO.out.mono ?_
        rintro e w2 ⟨rfl, hb2⟩
        have hb02 := bl_trans HB1.out hb2
        have own2 := own_below HOWN.out (bl_trans (bl_alloc (o := .cells #[.int .i64 F.t, .int .i8 F.f, .int .i64 F.b] 43) (Below.refl wr.heap.size wr)) hb2) (Nat.le_refl _)
        have HB2 := Lib.hid hb02
        have HO2 := Lib.hid own2
        have hz2 := hb02.size
        clear hb02 own2 hb2
        go_wp2_with (at_builtin; go_must (refine wpList_append_sl _ rfl _ _ 34 rfl w.heap.size 2 i0 (.int .i64 0) 1 8 Tryz.underlying34 hi0 hiz0 hiz1 hiz2 rfl (by decide) _ _ _ rfl (own_below HO2.out (bl_alloc (Below.refl _ _)) (Nat.le_refl _)) (some ⟨w2.heap.size, 0, none⟩) 1 1 [.int .i64 (k : Int)] rfl (sl_newC w2 #[.int .i64 (k : Int)] 2 _ rfl) rfl (by intro u hu; rw [List.mem_singleton] at hu; subst hu; rfl) (by unfold maxLen; omega) (by omega) (by simp; omega) ?_); intro v3 w3 hown3 hgrow)
        have hb3 : Below w.heap.size w w3 := (bl_alloc (o := .cells #[.int .i64 (k : Int)] 2) HB2.out).grown hgrow (by simp; omega) (fun q hq => (HO2.out.lt q hq).1)
        have hnn2 : n + 1 = (idxTo p fs (k + 1)).length := by rw [HC2.out, List.length_append, ← HNN.out]; rfl
        have hcells : flat N64_cells (idxTo p fs k) ++ [.int .i64 (k : Int)] = flat N64_cells (idxTo p fs (k + 1)) := by rw [HC2.out, flat_append]; rfl
        rw [hcells] at hown3
        go_roundw
        case rel => exact ⟨k + 1, by omega, by go_num, by rw [← hnn2]; exact hown3, hb3⟩
        case measure => simp [intOf]; omega
      | false =>
        rw [hp] at HCO
        have HC2 : Hid (idxTo p fs (k + 1) = idxTo p fs k) := Lib.hid (by rw [HC.out, if_neg (by rw [hp]; exact Bool.false_ne_true), List.append_nil])
        clear hp
        go_wp2_with fail
        refine HCO.out.mono ?_
        rintro e w2 ⟨rfl, hb2⟩
        have hb02 := bl_trans HB1.out hb2
        have own2 := own_below HOWN.out (bl_trans (bl_alloc (o := .cells #[.int .i64 F.t, .int .i8 F.f, .int .i64 F.b] 43) (Below.refl wr.heap.size wr)) hb2) (Nat.le_refl _)
        have HO2 := Lib.hid own2
        clear own2
        go_wp2
        go_roundw
        case rel => exact ⟨k + 1, by omega, by go_num, by rw [HC2.out, ← HNN.out]; exact HO2.out, hb02⟩
        case measure => simp [intOf]; omega
    · have hkn : k = fs.length := by omega
      subst hkn
      have HOWN2 := HOWN.out
      go_wp2
      go_ret
      exact ⟨_, rfl, HOWN2, hb⟩
end Go.Proofs.YtmeefmoblkiebaaGreat
/- Contracts: LastTick, FallenUntil, StandingAfter (both). -/
namespace Go.Proofs.YtmeefmoblkiebaaGreat
open Go.RowKit
set_option linter.unusedVariables false
set_option linter.unusedSimpArgs false
set_option maxHeartbeats 400000
set_option maxRecDepth 100000
theorem runOf_ge (ps : List Pc) (pl : List Pu) (k : Nat) (hk : k < (runOf ps pl).length) : -1 ≤ (runOf ps pl)[k].t := by
  have hkp : k < ps.length := by rw [← runOf_length ps pl]; exact hk
  have key : -1 ≤ ((runOf ps pl).getD k default).t := by
    unfold runOf
    split
    · rename_i h
      exact h.choose_spec.2.1 k hkp
    · rw [rep_get ps k hkp]; exact Int.le_refl _
  rw [getD_fa _ k hk] at key
  exact key
theorem cell_new0 (w : World) (u : Value) (T : TypeId) (g : Nat) (hg : g = w.heap.size) : (w.alloc (.cells #[u] T)).cell? ⟨g, 0, none⟩ = some u := by
  subst hg
  obtain ⟨b, off, h1, h2, h3⟩ := sl_new w #[u] T 0 (by simp)
  simp only [Option.some.injEq, Addr.mk.injEq, and_true] at h1
  obtain ⟨rfl, rfl⟩ := h1
  exact h3
/-- The greatest tick. -/
def lastTo (fs : List Fa) (k : Nat) : Int := (fs.take k).foldl (fun m f => max m f.t) (-1)
def lastF (fs : List Fa) : Int := lastTo fs fs.length
theorem lastTo_succ (fs : List Fa) (k : Nat) (hk : k < fs.length) : lastTo fs (k + 1) = max (lastTo fs k) fs[k].t := by
  unfold lastTo
  rw [List.take_succ_eq_append_getElem hk, List.foldl_append]
  rfl
theorem lastTo_ge (fs : List Fa) (k : Nat) (hk : k ≤ fs.length) : -1 ≤ lastTo fs k := by
  induction k with
  | zero => unfold lastTo; simp
  | succ k ih =>
    rw [lastTo_succ fs k (by omega)]
    have := ih (by omega)
    omega
noncomputable def ltCode (l : Bd) (pl : List Pu) : Int := if (vBd l && vPus l pl) = true then (if lastF (runOf l.ps pl) < 0 then 6 else 0) else 1
noncomputable def ltVal (l : Bd) (pl : List Pu) : Int := if (vBd l && vPus l pl) = true then (if lastF (runOf l.ps pl) < 0 then 0 else lastF (runOf l.ps pl)) else 0
def fuCode (l : Bd) (pl : List Pu) (t : Int) : Int := if (vBd l && vPus l pl) = true then (if inB t 0 1000000 = true then 0 else 2) else 1
noncomputable def fuList (l : Bd) (pl : List Pu) (t : Int) : List Int := if fuCode l pl t = 0 then idxP (fun f => inB f.t 0 t) (runOf l.ps pl) else []
noncomputable def saList (l : Bd) (pl : List Pu) : List Int := if (vBd l && vPus l pl) = true then idxP (fun f => decide (f.t < 0)) (runOf l.ps pl) else []
theorem idxP_len (p : Fa → Bool) (fs : List Fa) : (idxP p fs).length ≤ fs.length := idxTo_len p fs fs.length
theorem fuList_len (l : Bd) (pl : List Pu) (t : Int) : (fuList l pl t).length ≤ l.ps.length := by
  unfold fuList
  split
  · exact Nat.le_trans (idxP_len _ _) (runOf_len _ _)
  · exact Nat.zero_le _
theorem saList_len (l : Bd) (pl : List Pu) : (saList l pl).length ≤ l.ps.length := by
  unfold saList
  split
  · exact Nat.le_trans (idxP_len _ _) (runOf_len _ _)
  · exact Nat.zero_le _
theorem runOf_len200 (l : Bd) (pl : List Pu) (hv : vBd l = true) : (runOf l.ps pl).length ≤ 200 := by
  have c5 : l.ps.length ≤ 200 := (vBd_bounds _ hv).2.2.2.2
  exact Nat.le_trans (runOf_len _ _) c5
theorem lastTick_any (wd hg : Int) (s : Value) (ps : List Pc) (v1 : Value) (pl : List Pu) (w : World) (hps : PV w s ps) (hok : (Bd.mk wd hg ps).ok) (hn : ps.length ≤ 9000000) (h1 : SV Pu.cells w v1 pl) (ok1 : PusOk pl) (n1 : pl.length ≤ 9000000) :
    Calls Tryz.prog 14 #[bdv wd hg s, v1] w fun e w' => e = .returned (.tuple #[.int .i64 (ltVal ⟨wd, hg, ps⟩ pl), .int .i64 (ltCode ⟨wd, hg, ps⟩ pl)]) ∧ Below w.heap.size w w' := by
  have HRB := Lib.hid (fun w1 (hb : Below w.heap.size w w1) => implRunBoard_any wd hg s ps v1 pl w1 (hps.step hb) hok hn (h1.step hb) ok1 n1)
  obtain ⟨a, cap, rfl, -⟩ := hps
  obtain ⟨a1, cap1, rfl, -⟩ := h1
  cases g1 : (vBd ⟨wd, hg, ps⟩ && vPus ⟨wd, hg, ps⟩ pl) with
  | true =>
    obtain ⟨hv, hpl, hin, hn20⟩ := ask_ok _ _ g1
    have HC0 : Hid (rbCode ⟨wd, hg, ps⟩ pl = 0) := Lib.hid (by unfold rbCode; rw [g1]; rfl)
    have HL0 : Hid (rbList ⟨wd, hg, ps⟩ pl = runOf ps pl) := Lib.hid (by unfold rbList; rw [g1]; rfl)
    have HC : Hid (ltCode ⟨wd, hg, ps⟩ pl = (if lastF (runOf ps pl) < 0 then 6 else 0)) := Lib.hid (by unfold ltCode; rw [g1]; rfl)
    have HL : Hid (ltVal ⟨wd, hg, ps⟩ pl = (if lastF (runOf ps pl) < 0 then 0 else lastF (runOf ps pl))) := Lib.hid (by unfold ltVal; rw [g1]; rfl)
    have HN := Lib.hid (runOf_len200 ⟨wd, hg, ps⟩ pl hv)
    rw [HC.out, HL.out]
    rw [HC0.out, HL0.out] at HRB
    obtain ⟨fs, hfs⟩ : ∃ fs, fs = runOf ps pl := ⟨_, rfl⟩
    have hn2 : fs.length ≤ 200 := by rw [hfs]; exact HN.out
    rw [← hfs] at HRB ⊢
    obtain ⟨lv, hlv⟩ : ∃ lv, lv = (if lastF fs < 0 then 0 else lastF fs) := ⟨_, rfl⟩
    obtain ⟨lc, hlc⟩ : ∃ lc : Int, lc = (if lastF fs < 0 then 6 else 0) := ⟨_, rfl⟩
    rw [← hlv, ← hlc]
    have HLV : Hid (lv = (if lastTo fs fs.length < 0 then 0 else lastTo fs fs.length)) := Lib.hid hlv
    have HLC : Hid (lc = (if lastTo fs fs.length < 0 then 6 else 0)) := Lib.hid hlc
    clear hlv hlc
    clear g1 HC HL HC0 HL0 hpl hin hv hfs HN
    go_enter Tryz.func14, Tryz.ntmps14
    go_wp2_with fail
    refine (HRB.out _ (by repeat (first | with_reducible exact Below.refl _ _ | with_reducible assumption | with_reducible apply bl_drewN | with_reducible apply bl_drew | with_reducible apply bl_alloc | (with_reducible refine bl_set ?_ (by first | (simp; done) | (simp; omega)) _) | with_reducible refine bl_trans ?_ (by with_reducible assumption)))).mono ?_
    rintro e w2 ⟨v, rfl, hown, hb2⟩
    obtain ⟨av, capv, hve, hsl, -, -⟩ := own_at hown
    subst hve
    have hb02 : Below w.heap.size w w2 := (by repeat (first | with_reducible exact Below.refl _ _ | with_reducible assumption | with_reducible apply bl_drewN | with_reducible apply bl_drew | with_reducible apply bl_alloc | (with_reducible refine bl_set ?_ (by first | (simp; done) | (simp; omega)) _) | with_reducible refine bl_trans ?_ (by with_reducible assumption)))
    have HCT := Lib.hid (fun k hk => lastTo_succ fs k hk)
    have HGE := Lib.hid (lastTo_ge fs fs.length (Nat.le_refl _))
    clear hown hb2
    go_wp2
    go_loopw [8, 22] (fun cx ix wr => ∃ k : Nat, k ≤ fs.length ∧ ix = .int .i64 k ∧ cx = .int .i64 (lastTo fs k) ∧ Below w2.heap.size w2 wr) (fun _ ix _ => fs.length - (intOf ix).toNat)
    case atStart => exact ⟨0, by omega, rfl, rfl, (by repeat (first | with_reducible exact Below.refl _ _ | with_reducible assumption | with_reducible apply bl_drewN | with_reducible apply bl_drew | with_reducible apply bl_alloc | (with_reducible refine bl_set ?_ (by first | (simp; done) | (simp; omega)) _) | with_reducible refine bl_trans ?_ (by with_reducible assumption)))⟩
    case round =>
      obtain ⟨k, hk, rfl, rfl, hb⟩ := hrel
      by_cases hlt : k < fs.length
      · obtain ⟨b, off, rfl, hbl, hat⟩ := fas_get hsl hlt
        unfold FaAt at hat
        obtain ⟨a0, a1, a2⟩ := hat
        have r0 : wr.cell? ⟨b, off + k * 3, none⟩ = some (.int .i64 fs[k].t) := by rw [hb.cell (p := ⟨_, _, none⟩) hbl]; exact a0
        have r1 : wr.cell? ⟨b, off + k * 3 + 1, none⟩ = some (.int .i8 fs[k].f) := by rw [hb.cell (p := ⟨_, _, none⟩) hbl]; exact a1
        have r2 : wr.cell? ⟨b, off + k * 3 + 2, none⟩ = some (.int .i64 fs[k].b) := by rw [hb.cell (p := ⟨_, _, none⟩) hbl]; exact a2
        have HC := Lib.hid (HCT.out k hlt)
        obtain ⟨c, hc⟩ : ∃ c, c = lastTo fs k := ⟨_, rfl⟩
        rw [← hc] at HC ⊢
        obtain ⟨F, hF⟩ : ∃ F, F = fs[k] := ⟨_, rfl⟩
        rw [← hF] at HC r0 r1 r2
        clear hc hF a0 a1 a2
        go_wp2
        go_roundw
        case rel => exact ⟨k + 1, by omega, by go_num, by rw [HC.out], bl_alloc hb⟩
        case measure => simp [intOf]; omega
      · have hkn : k = fs.length := by omega
        subst hkn
        obtain ⟨c, hc⟩ : ∃ c, c = lastTo fs fs.length := ⟨_, rfl⟩
        have hge := HGE.out
        rw [← hc] at hge ⊢
        have HC9 := Lib.hid hc
        clear hc
        rcases dec_cases (c < 0) with ⟨g, g'⟩ | ⟨g, g'⟩
        · have hce : (c == -1) = true := by simp; omega
          go_wp2
          go_ret2
          exact ⟨by rw [HLV.out, HLC.out, ← HC9.out, if_pos g', if_pos g']; rfl, bl_trans hb02 hb⟩
        · have hce : (c == -1) = false := by simp; omega
          go_wp2
          go_ret2
          exact ⟨by rw [HLV.out, HLC.out, ← HC9.out, if_neg (Int.not_lt.2 g'), if_neg (Int.not_lt.2 g')]; rfl, bl_trans hb02 hb⟩
  | false =>
    have HC0 : Hid (rbCode ⟨wd, hg, ps⟩ pl = 1) := Lib.hid (by unfold rbCode; rw [g1]; rfl)
    have HC : Hid (ltCode ⟨wd, hg, ps⟩ pl = 1) := Lib.hid (by unfold ltCode; rw [g1]; rfl)
    have HL : Hid (ltVal ⟨wd, hg, ps⟩ pl = 0) := Lib.hid (by unfold ltVal; rw [g1]; rfl)
    rw [HC.out, HL.out]
    rw [HC0.out] at HRB
    clear g1 HC HL HC0
    go_enter Tryz.func14, Tryz.ntmps14
    go_wp2_with fail
    refine (HRB.out _ (by repeat (first | with_reducible exact Below.refl _ _ | with_reducible assumption | with_reducible apply bl_drewN | with_reducible apply bl_drew | with_reducible apply bl_alloc | (with_reducible refine bl_set ?_ (by first | (simp; done) | (simp; omega)) _) | with_reducible refine bl_trans ?_ (by with_reducible assumption)))).mono ?_
    rintro e w2 ⟨v, rfl, hown, hb2⟩
    have hb02 : Below w.heap.size w w2 := (by repeat (first | with_reducible exact Below.refl _ _ | with_reducible assumption | with_reducible apply bl_drewN | with_reducible apply bl_drew | with_reducible apply bl_alloc | (with_reducible refine bl_set ?_ (by first | (simp; done) | (simp; omega)) _) | with_reducible refine bl_trans ?_ (by with_reducible assumption)))
    go_wp2
    go_ret2
    exact ⟨rfl, hb02⟩
end Go.Proofs.YtmeefmoblkiebaaGreat
/- Contracts: rows, bits, the pushes of a row (the reference). -/
namespace Go.Proofs.YtmeefmoblkiebaaGreat
open Go.RowKit
set_option linter.unusedVariables false
set_option linter.unusedSimpArgs false
set_option maxHeartbeats 400000
set_option maxRecDepth 100000
theorem div_pow (n i : Nat) : (n : Int) / 2 ^ i = ((n / 2 ^ i : Nat) : Int) := by push_cast; rfl
theorem bit_i64 (n i : Nat) (hn : n < 9223372036854775808) : (bits .and .i64 ((n : Int) / 2 ^ i) 1 == 1) = n.testBit i := by
  have h1 : n / 2 ^ i < 9223372036854775808 := Nat.lt_of_le_of_lt (Nat.div_le_self _ _) hn
  rw [div_pow]
  have h2 := (bits_i64 (n / 2 ^ i) 1 h1 (by omega)).1
  have h3 : bits .and .i64 ((n / 2 ^ i : Nat) : Int) 1 = ((n / 2 ^ i &&& 1 : Nat) : Int) := h2
  rw [h3, bit_and]
  unfold bitN
  cases n.testBit i <;> rfl
theorem bit_u64 (n i : Nat) (hn : n < 18446744073709551616) : (bits .and .u64 ((n : Int) / 2 ^ i) 1 == 1) = n.testBit i := by
  have h1 : n / 2 ^ i < 18446744073709551616 := Nat.lt_of_le_of_lt (Nat.div_le_self _ _) hn
  rw [div_pow]
  have h2 := (bits_u64 (n / 2 ^ i) 1 h1 (by omega)).1
  have h3 : bits .and .u64 ((n / 2 ^ i : Nat) : Int) 1 = ((n / 2 ^ i &&& 1 : Nat) : Int) := h2
  rw [h3, bit_and]
  unfold bitN
  cases n.testBit i <;> rfl
theorem wrap_i16' (n : Int) (h0 : -32768 ≤ n) (h1 : n ≤ 32767) : IntKind.i16.wrap n = n := by
  simp [IntKind.wrap, IntKind.bits, IntKind.signed]; omega
theorem l04Rows_any (n : Nat) (hn : n ≤ 6) (w : World) : Calls Tryz.prog 125 #[.int .i64 n] w fun e w' => e = .returned (.int .i64 ((2 ^ n : Nat) : Int)) ∧ w = w' := by
  have : n = 0 ∨ n = 1 ∨ n = 2 ∨ n = 3 ∨ n = 4 ∨ n = 5 ∨ n = 6 := by omega
  rcases this with rfl | rfl | rfl | rfl | rfl | rfl | rfl
  all_goals
    go_enter Tryz.func125, Tryz.ntmps125
    go_wp2
    go_ret
    exact ⟨rfl, rfl⟩
theorem l03Rows_any (b0 : Nat) (m : Mc) (w : World) (h : MP w b0 m) (hn : m.ins.length ≤ 6) : Calls Tryz.prog 74 #[.pointer (some ⟨b0, 0, none⟩)] w fun e w' => e = .returned (.int .i64 ((mRows m : Nat) : Int)) ∧ w = w' := by
  have HR := Lib.hid (fun w => l04Rows_any m.ins.length hn w)
  obtain ⟨hbl, s, si, so, ⟨hbd, c3, c4⟩, -, ⟨ia, icap, rfl, hins⟩, -⟩ := h
  go_enter Tryz.func74, Tryz.ntmps74
  go_wp2_with (go_at_call 125; refine (HR.out _).mono ?_; rintro e w' ⟨rfl, rfl⟩)
  go_ret
  exact ⟨rfl, rfl⟩
theorem rows_any (n : Nat) (hn : n ≤ 8) (w : World) : Calls Tryz.prog 77 #[.int .i64 n] w fun e w' => e = .returned (.int .i64 ((2 ^ n : Nat) : Int)) ∧ w = w' := by
  have : n = 0 ∨ n = 1 ∨ n = 2 ∨ n = 3 ∨ n = 4 ∨ n = 5 ∨ n = 6 ∨ n = 7 ∨ n = 8 := by omega
  rcases this with rfl | rfl | rfl | rfl | rfl | rfl | rfl | rfl | rfl
  all_goals
    go_enter Tryz.func77, Tryz.ntmps77
    go_wp2
    go_ret
    exact ⟨rfl, rfl⟩
theorem bitI_any (n i : Nat) (hn : n < 9223372036854775808) (hi : i ≤ 63) (w : World) : Calls Tryz.prog 124 #[.int .i64 n, .int .i64 i] w fun e w' => e = .returned (.bool (n.testBit i)) ∧ w = w' := by
  have H := Lib.hid (bit_i64 n i hn)
  go_enter Tryz.func124, Tryz.ntmps124
  go_wp2
  go_ret
  exact ⟨by rw [← H.out]; rfl, rfl⟩
theorem bitU_any (n i : Nat) (hn : n < 18446744073709551616) (hi : i ≤ 63) (w : World) : Calls Tryz.prog 142 #[.int .u64 n, .int .i64 i] w fun e w' => e = .returned (.bool (n.testBit i)) ∧ w = w' := by
  have H := Lib.hid (bit_u64 n i hn)
  go_enter Tryz.func142, Tryz.ntmps142
  go_wp2
  go_ret
  exact ⟨by rw [← H.out]; rfl, rfl⟩
theorem Tryz.infoPushM : (Tryz.prog.info? 89).map (fun i => (i.zero, i.size, i.bytes)) = some (some (.agg #[.int .i8 0, .int .i8 0, .int .i8 0, .int .i16 0]), 4, 6) := by kernel_rfl
theorem getD_n (l : List Int) (k : Nat) (h : k < l.length) : l.getD k 0 = l[k] := by rw [List.getD_eq_getElem?_getD, List.getElem?_eq_getElem h]; rfl
set_option maxHeartbeats 1600000 in
theorem l03Pushes_any {B : Nat} (b0 : Nat) (m : Mc) (row : Nat) (a : Option Addr) (cap : Nat) (late : List Int) (w : World) (h : MP w b0 m) (hn : m.ins.length ≤ 6) (hl : late.length = m.ins.length) (hlo : lateOk late) (hs : SlAt B w a (flat N64_cells late)) (hB : B ≤ w.heap.size) (hrow : row < 64) :
    Calls Tryz.prog 173 #[.pointer (some ⟨b0, 0, none⟩), .int .i64 row, .slice a m.ins.length cap] w fun e w' => ∃ v, e = .returned v ∧ w'.ownsRow w.heap.size 89 4 v (mPu m row late).length (flat Pu.cells (mPu m row late)) ∧ Below w.heap.size w w' := by
  obtain ⟨hbl, s, si, so, ⟨hbd, c3, c4⟩, -, ⟨ia, icap, rfl, hins⟩, -⟩ := h
  obtain ⟨i0, hi0, hiz0, hiz1, hiz2⟩ := info_parts Tryz.infoPushM
  have hown0 := World.ownsRow_made (e := 89) (size := 4) w #[] 0 (Nat.le_refl _) (by simp [maxLen]) rfl
  have hb0 : Below w.heap.size w (w.alloc (.cells #[] 89)) := bl_alloc (Below.refl _ _)
  have HS : Hid (∀ k, mPuTo m.ins row late (k + 1) = mPuTo m.ins row late k ++ (if row.testBit k = true then [puOf m.ins late k] else [])) := Lib.hid (fun k => rfl)
  have HLE := Lib.hid (fun k => mPuTo_len m.ins row late k)
  have HBIT := Lib.hid (fun k => bit_i64 row k (by omega))
  have HLO := Lib.hid hlo
  have HLL := Lib.hid hl
  clear hl hlo
  go_enter Tryz.func173, Tryz.ntmps173
  go_wp2
  go_loopw [7, 8] (fun v ix wr => ∃ k : Nat, k ≤ m.ins.length ∧ ix = .int .i64 k ∧ wr.ownsRow w.heap.size 89 4 v (mPuTo m.ins row late k).length (flat Pu.cells (mPuTo m.ins row late k)) ∧ Below w.heap.size w wr) (fun _ ix _ => m.ins.length - (intOf ix).toNat)
  case atStart => exact ⟨0, by omega, rfl, hown0, hb0⟩
  case round =>
    clear hown0 hb0
    obtain ⟨k, hk, rfl, hown, hb⟩ := hrel
    obtain ⟨av, capv, hve, -, -, -⟩ := own_at hown
    subst hve
    have HOWN := Lib.hid hown
    have hzb := hb.size
    have hle := HLE.out k
    clear hown
    have r3 : wr.cell? ⟨b0, 3, none⟩ = some (.slice ia m.ins.length icap) := by rw [hb.cell (p := ⟨_, _, none⟩) hbl]; exact c3
    by_cases hlt : k < m.ins.length
    · have hbit := HBIT.out k
      obtain ⟨n, hnn⟩ : ∃ n, n = (mPuTo m.ins row late k).length := ⟨_, rfl⟩
      rw [← hnn] at HOWN hle ⊢
      have HNN := Lib.hid hnn
      clear hnn
      cases gb : row.testBit k with
      | false =>
        rw [gb] at hbit
        have HC2 : Hid (mPuTo m.ins row late (k + 1) = mPuTo m.ins row late k) := Lib.hid (by rw [HS.out, gb]; simp)
        clear gb
        go_wp2
        go_roundw
        case rel => exact ⟨k + 1, by omega, by go_num, by rw [HC2.out, ← HNN.out]; exact HOWN.out, hb⟩
        case measure => simp [intOf]; omega
      | true =>
        rw [gb] at hbit
        have HC2 : Hid (mPuTo m.ins row late (k + 1) = mPuTo m.ins row late k ++ [puOf m.ins late k]) := Lib.hid (by rw [HS.out, gb]; simp)
        clear gb
        obtain ⟨b, off, rfl, hbi, hat⟩ := pos_get hins hlt
        unfold PoAt at hat
        have q0 : wr.cell? ⟨b, off + k * 3, none⟩ = some (.int .i8 m.ins[k].x) := by rw [hb.cell (p := ⟨_, _, none⟩) hbi]; exact hat.1
        have q1 : wr.cell? ⟨b, off + k * 3 + 1, none⟩ = some (.int .i8 m.ins[k].y) := by rw [hb.cell (p := ⟨_, _, none⟩) hbi]; exact hat.2.1
        have q2 : wr.cell? ⟨b, off + k * 3 + 2, none⟩ = some (.int .i8 m.ins[k].s) := by rw [hb.cell (p := ⟨_, _, none⟩) hbi]; exact hat.2.2
        have hll : k < late.length := by rw [HLL.out]; exact hlt
        obtain ⟨bl, offl, rfl, hbL, hatl⟩ := n64s_get hs hll
        unfold N64At at hatl
        rw [Nat.mul_one] at hatl
        have hblw : bl < w.heap.size := by omega
        have q3 : wr.cell? ⟨bl, offl + k, none⟩ = some (.int .i64 late[k]) := by rw [hb.cell (p := ⟨_, _, none⟩) hblw]; exact hatl
        have hlk := HLO.out k
        rw [getD_n late k hll] at hlk
        have HPO : Hid (puOf m.ins late k = ⟨m.ins[k].x, m.ins[k].y, m.ins[k].s, late[k]⟩) := Lib.hid (by unfold puOf; rw [getD_po m.ins k hlt, getD_n late k hll])
        obtain ⟨P, hP⟩ : ∃ P, P = m.ins[k] := ⟨_, rfl⟩
        rw [← hP] at q0 q1 q2 HPO
        obtain ⟨T, hT⟩ : ∃ T, T = late[k] := ⟨_, rfl⟩
        rw [← hT] at q3 hlk HPO
        have s1 : IntKind.i16.wrap T = T := wrap_i16' T (by omega) (by omega)
        have hkI : (k : Int) < m.ins.length := by omega
        clear hP hT hat hatl hll
        have HNE0 : Hid (some b0 ≠ (Value.slice av n capv).ownBlock) := Lib.hid (fun e => by have := (HOWN.out.lt b0 e.symm).1; omega)
        have HNE1 : Hid (some b ≠ (Value.slice av n capv).ownBlock) := Lib.hid (fun e => by have := (HOWN.out.lt b e.symm).1; omega)
        have HNE2 : Hid (some bl ≠ (Value.slice av n capv).ownBlock) := Lib.hid (fun e => by have := (HOWN.out.lt bl e.symm).1; omega)
        have z0 : b0 < wr.heap.size := by omega
        have z1 : b < wr.heap.size := by omega
        have z2 : bl < wr.heap.size := by omega
        have HBB := Lib.hid hb
        have hk32 : (n + 1) * 6 ≤ 140737488355328 := by omega
        go_upto_region 6 with fail
        go_region_held3 (fun w' => w'.cell? ⟨b0, 3, none⟩ = some (.slice (some ⟨b, off, none⟩) m.ins.length icap) ∧ w'.cell? ⟨b, off + k * 3, none⟩ = some (.int .i8 P.x) ∧ w'.cell? ⟨b, off + k * 3 + 1, none⟩ = some (.int .i8 P.y) ∧ w'.cell? ⟨b, off + k * 3 + 2, none⟩ = some (.int .i8 P.s) ∧ w'.cell? ⟨bl, offl + k, none⟩ = some (.int .i64 T)) (first | go_keep | (go_split_ands; refine ⟨?_, ?_, ?_, ?_, ?_⟩ <;> (first | (rw [hgrow.cell_far _ (by simp; omega) HNE0.out]; assumption) | (rw [hgrow.cell_far _ (by simp; omega) HNE1.out]; assumption) | (rw [hgrow.cell_far _ (by simp; omega) HNE2.out]; assumption)))) (first | (refine step_append_lies _ (by rfl) _ _ _ (by rfl) w.heap.size 89 i0 _ 4 6 Tryz.underlying29 hi0 hiz0 hiz1 hiz2 rfl (by omega) (Value.slice av n capv) n (flat Pu.cells (mPuTo m.ins row late k)) (by rfl) (own_below HOWN.out (by repeat (first | with_reducible exact Below.refl _ _ | with_reducible assumption | with_reducible apply bl_drewN | with_reducible apply bl_drew | with_reducible apply bl_alloc | (with_reducible refine bl_set ?_ (by first | (simp; done) | (simp; omega)) _) | with_reducible refine bl_trans ?_ (by with_reducible assumption))) (Nat.le_refl _)) ⟨wr.heap.size, 0, none⟩ 1 1 [.int .i8 P.x, .int .i8 P.y, .int .i8 P.s, .int .i16 T] (by rfl) (by rfl) (World.news_of_block (cs := #[.int .i8 P.x, .int .i8 P.y, .int .i8 P.s, .int .i16 T]) (t := 89) (fr := (0, 0)) (heap_alloc_new _ _)) (Pu.one ⟨P.x, P.y, P.s, T⟩) (by omega) (by unfold maxLen; omega) hk32 (by simp; omega) _ rfl ?_; intro gg cap3 w3 hown3 hgrow hat3 hlt3))
        have hb3 : Below w.heap.size w w3 := bl_grown (bl_trans HBB.out (by repeat (first | with_reducible exact Below.refl _ _ | with_reducible assumption | with_reducible apply bl_drewN | with_reducible apply bl_drew | with_reducible apply bl_alloc | (with_reducible refine bl_set ?_ (by first | (simp; done) | (simp; omega)) _) | with_reducible refine bl_trans ?_ (by with_reducible assumption)))) hgrow (fun q hq => (HOWN.out.lt q hq).1)
        have hcells : flat Pu.cells (mPuTo m.ins row late k) ++ [.int .i8 P.x, .int .i8 P.y, .int .i8 P.s, .int .i16 T] = flat Pu.cells (mPuTo m.ins row late (k + 1)) := by rw [HC2.out, HPO.out, flat_append]; rfl
        have hnn2 : n + 1 = (mPuTo m.ins row late (k + 1)).length := by rw [HC2.out, List.length_append, ← HNN.out]; rfl
        rw [hcells] at hown3
        go_wp2
        go_roundw
        case rel => exact ⟨k + 1, by omega, by go_num, by rw [← hnn2]; exact hown3, hb3⟩
        case measure => simp [intOf]; omega
    · have hkn : k = m.ins.length := by omega
      subst hkn
      have HOWN2 := HOWN.out
      go_wp2
      go_ret
      exact ⟨_, rfl, HOWN2, hb⟩
end Go.Proofs.YtmeefmoblkiebaaGreat
/- The walk of the law FnExactValidWay. -/
namespace Go.Proofs.YtmeefmoblkiebaaGreat
open Go.RowKit
set_option linter.unusedVariables false
set_option linter.unusedSimpArgs false
set_option maxHeartbeats 400000
set_option maxRecDepth 100000
theorem ext_s {w w' : World} (h : Below w.heap.size w w') : Below w.heap.size w w' ∧ ∀ b o, b < w.heap.size → w'.cell? ⟨b, o, none⟩ = w.cell? ⟨b, o, none⟩ := ⟨h, (bcell h).1⟩
end Go.Proofs.YtmeefmoblkiebaaGreat
/- Contracts: the ticks and the outputs of a row (the reference). -/
namespace Go.Proofs.YtmeefmoblkiebaaGreat
open Go.RowKit
set_option linter.unusedVariables false
set_option linter.unusedSimpArgs false
set_option maxHeartbeats 400000
set_option maxRecDepth 100000
theorem mFa_len (m : Mc) (row : Nat) (late : List Int) : (mFa m row late).length = m.bd.ps.length := runOf_length _ _
def tkAt (ps : List Pc) (fs : List Fa) (c : Ce) : Int := (fs.getD (fnd c ps).toNat default).t
theorem out_fnd (m : Mc) (hv : vMc m = true) (k : Nat) (hk : k < m.outs.length) : ∃ f : Nat, fnd m.outs[k] m.bd.ps = (f : Int) ∧ f < m.bd.ps.length := by
  obtain ⟨-, -, -, -, -, -, -, -, h9⟩ := vMc_parts m hv
  have := List.all_eq_true.1 h9 _ (List.getElem_mem hk)
  unfold outOk at this
  rw [decide_eq_true_eq] at this
  exact ⟨(fnd m.outs[k] m.bd.ps).toNat, by omega, fnd_lt _ _ this⟩
set_option maxHeartbeats 3200000 in
theorem l03Ticks_any {B : Nat} (b0 : Nat) (m : Mc) (row : Nat) (a : Option Addr) (cap : Nat) (late : List Int) (w : World) (h : MP w b0 m) (hv : vMc m = true) (hok : m.ok) (hl : late.length = m.ins.length) (hlo : lateOk late) (hs : SlAt B w a (flat N64_cells late)) (hB : B ≤ w.heap.size) (hrow : row < 64) :
    Calls Tryz.prog 126 #[.pointer (some ⟨b0, 0, none⟩), .int .i64 row, .slice a m.ins.length cap] w fun e w' => ∃ v, e = .returned v ∧ w'.ownsRow w.heap.size 2 1 v (mTk m row late).length (flat N64_cells (mTk m row late)) ∧ Below w.heap.size w w' := by
  obtain ⟨hvb, h60, hi1, hi6, ho1, ho8, -⟩ := vMc_parts m hv
  have HM := Lib.hid h
  obtain ⟨o1, o2, o3, o4⟩ := mPu_ok m hv hok row late hlo
  have HG := Lib.hid (good_bd m.bd hvb (mPu m row late) o2)
  have HP := Lib.hid (fun w1 (hb : Below w.heap.size w w1) => l03Pushes_any (B := B) b0 m row a cap late w1 (HM.out.step hb) hi6 hl hlo (hs.below hb hB) (Nat.le_trans hB hb.size) hrow)
  have HRUN := Lib.hid (fun w1 (hb : Below w.heap.size w w1) ap capp (hsp : SlAt w1.heap.size w1 ap (flat Pu.cells (mPu m row late))) => l02Run_any (B := w1.heap.size) b0 m.bd ap capp (mPu m row late) w1 (HM.out.step hb).bp hvb hsp o1 o2 o3 o4 (Nat.le_refl _))
  have HFL := Lib.hid (mFa_len m row late)
  have HFE : Hid (mFa m row late = runOf m.bd.ps (mPu m row late)) := Lib.hid rfl
  have HTK : Hid (mTk m row late = m.outs.map (tkAt m.bd.ps (mFa m row late))) := Lib.hid rfl
  have HLT := Lib.hid (mTk_len m row late)
  have HOF := Lib.hid (fun k hk => out_fnd m hv k hk)
  obtain ⟨fs, hfs⟩ : ∃ fs, fs = mFa m row late := ⟨_, rfl⟩
  obtain ⟨pl, hpl⟩ : ∃ pl, pl = mPu m row late := ⟨_, rfl⟩
  obtain ⟨ts, hts⟩ : ∃ ts, ts = mTk m row late := ⟨_, rfl⟩
  rw [← hfs] at HFL HFE HTK
  rw [← hpl] at HG HP HRUN HFE
  rw [← hts] at HTK HLT ⊢
  clear hfs hpl hts o1 o2 o3 o4 hs hlo hl
  obtain ⟨hbl, s, si, so, ⟨hbd, c3, c4⟩, -, -, ⟨oa, ocap, rfl, houts⟩⟩ := h
  obtain ⟨i0, hi0, hiz0, hiz1, hiz2⟩ := info_parts Tryz.infoInt64
  go_enter Tryz.func126, Tryz.ntmps126
  go_upto_region 1 with fail
  go_region_held3 (fun w' => Below w.heap.size w w' ∧ ∀ b o, b < w.heap.size → w'.cell? ⟨b, o, none⟩ = w.cell? ⟨b, o, none⟩) ((refine ext_s ?_; exact (by repeat (first | with_reducible exact Below.refl _ _ | with_reducible assumption | with_reducible apply bl_drewN | with_reducible apply bl_drew | with_reducible apply bl_alloc | (with_reducible refine bl_set ?_ (by first | (simp; done) | (simp; omega)) _) | with_reducible refine bl_trans ?_ (by with_reducible assumption))))) (first | (go_at_call 173; refine (HP.out _ (by repeat (first | with_reducible exact Below.refl _ _ | with_reducible assumption | with_reducible apply bl_drewN | with_reducible apply bl_drew | with_reducible apply bl_alloc | (with_reducible refine bl_set ?_ (by first | (simp; done) | (simp; omega)) _) | with_reducible refine bl_trans ?_ (by with_reducible assumption)))).mono ?_; rintro e wa ⟨va, rfl, Oa, ba⟩; obtain ⟨ap, capp, rfl, hsp, -⟩ := own_at Oa; have bwa : Below w.heap.size w wa := (by repeat (first | with_reducible exact Below.refl _ _ | with_reducible assumption | with_reducible apply bl_drewN | with_reducible apply bl_drew | with_reducible apply bl_alloc | (with_reducible refine bl_set ?_ (by first | (simp; done) | (simp; omega)) _) | with_reducible refine bl_trans ?_ (by with_reducible assumption)))) | (go_at_call 46; refine (HRUN.out _ bwa _ _ hsp).mono ?_; rintro e w2 ⟨v2, fs2, rfl, hown, hokf, -, hb2⟩))
  have HB02 := Lib.hid (bl_trans bwa hb2)
  have he : fs = fs2 := by rw [HFE.out]; exact (runOf_eq _ _ _ HG.out hokf).symm
  subst he
  obtain ⟨av, capv, hve, hsl, -, -⟩ := own_at hown
  subst hve
  clear hown hb2 hokf HG HRUN HP ba bwa Oa hsp HFE
  have hown0 := World.ownsRow_made (e := 2) (size := 1) w2 #[] 0 (Nat.le_refl _) (by simp [maxLen]) rfl
  have hb0 : Below w2.heap.size w2 (w2.alloc (.cells #[] 2)) := bl_alloc (Below.refl _ _)
  have hzw := HB02.out.size
  go_wp2
  go_loopw [8, 9] (fun v ix wr => ∃ k : Nat, k ≤ m.outs.length ∧ ix = .int .i64 k ∧ wr.ownsRow w2.heap.size 2 1 v k (flat N64_cells ((m.outs.take k).map (tkAt m.bd.ps fs))) ∧ Below w2.heap.size w2 wr) (fun _ ix _ => m.outs.length - (intOf ix).toNat)
  case atStart => exact ⟨0, by omega, rfl, hown0, hb0⟩
  case round =>
    clear hown0 hb0
    obtain ⟨k, hk, rfl, hown, hb⟩ := hrel
    obtain ⟨av2, capv2, hve, -, -, -⟩ := own_at hown
    subst hve
    have HOWN := Lib.hid hown
    have hzb := hb.size
    clear hown
    have hbW := bl_trans HB02.out hb
    have r4 : wr.cell? ⟨b0, 4, none⟩ = some (.slice oa m.outs.length ocap) := by rw [hbW.cell (p := ⟨_, _, none⟩) hbl]; exact c4
    by_cases hlt : k < m.outs.length
    · obtain ⟨f, hf, hfl⟩ := HOF.out k hlt
      obtain ⟨b, off, rfl, hbi, hat⟩ := ces_get houts hlt
      have q0 : wr.cell? ⟨b, off + k * 2, none⟩ = some (.int .i8 m.outs[k].x) := by rw [hbW.cell (p := ⟨_, _, none⟩) hbi]; exact hat.1
      have q1 : wr.cell? ⟨b, off + k * 2 + 1, none⟩ = some (.int .i8 m.outs[k].y) := by rw [hbW.cell (p := ⟨_, _, none⟩) hbi]; exact hat.2
      have hff : f < fs.length := by rw [HFL.out]; exact hfl
      obtain ⟨bf, offf, rfl, hbf, hatf⟩ := fas_get hsl hff
      have q2 : wr.cell? ⟨bf, offf + f * 3, none⟩ = some (.int .i64 fs[f].t) := by rw [hb.cell (p := ⟨_, _, none⟩) hbf]; exact hatf.1
      have HFD := Lib.hid (fun w1 (hb1 : Below w.heap.size w w1) => l01Find_any b0 m.bd ⟨m.outs[k].x, m.outs[k].y⟩ w1 (HM.out.step hb1).bp (show m.bd.ps.length ≤ 10000000 by omega))
      have e1 : fnd ⟨m.outs[k].x, m.outs[k].y⟩ m.bd.ps = (f : Int) := hf
      rw [e1] at HFD
      have HTV : Hid (tkAt m.bd.ps fs m.outs[k] = fs[f].t) := Lib.hid (by unfold tkAt; rw [hf, Int.toNat_natCast, getD_fa fs f hff])
      obtain ⟨C, hC⟩ : ∃ C, C = m.outs[k] := ⟨_, rfl⟩
      have HTN : Hid ((m.outs.take (k + 1)).map (tkAt m.bd.ps fs) = (m.outs.take k).map (tkAt m.bd.ps fs) ++ [fs[f].t]) := Lib.hid (by rw [List.take_succ_eq_append_getElem hlt, List.map_append, ← HTV.out]; rfl)
      obtain ⟨T, hT⟩ : ∃ T, T = fs[f].t := ⟨_, rfl⟩
      rw [← hT] at q2 HTN
      rw [← hC] at q0 q1 HFD
      have hkI : (k : Int) < m.outs.length := by omega
      have hfI : (f : Int) < fs.length := by omega
      clear hf hat hatf e1 hC hT HTV
      have HNE0 : Hid (some b0 ≠ (Value.slice av2 k capv2).ownBlock) := Lib.hid (fun e => by have := (HOWN.out.lt b0 e.symm).1; omega)
      have HNE1 : Hid (some b ≠ (Value.slice av2 k capv2).ownBlock) := Lib.hid (fun e => by have := (HOWN.out.lt b e.symm).1; omega)
      have HNE2 : Hid (some bf ≠ (Value.slice av2 k capv2).ownBlock) := Lib.hid (fun e => by have := (HOWN.out.lt bf e.symm).1; omega)
      have z0 : b0 < wr.heap.size := by omega
      have z1 : b < wr.heap.size := by omega
      have z2 : bf < wr.heap.size := by omega
      have HBB := Lib.hid hb
      have HBW := Lib.hid hbW
      have hk32 : (k + 1) * 8 ≤ 140737488355328 := by omega
      have hzb2 : w2.heap.size ≤ wr.heap.size := hzb
      clear hb hbW
      go_upto_region 6 with fail
      go_region_held3 (fun w' => w'.cell? ⟨b0, 4, none⟩ = some (.slice (some ⟨b, off, none⟩) m.outs.length ocap) ∧ w'.cell? ⟨b, off + k * 2, none⟩ = some (.int .i8 C.x) ∧ w'.cell? ⟨b, off + k * 2 + 1, none⟩ = some (.int .i8 C.y) ∧ w'.cell? ⟨bf, offf + f * 3, none⟩ = some (.int .i64 T)) (first | go_keep | (go_split_ands; refine ⟨?_, ?_, ?_, ?_⟩ <;> (first | (rw [hca _ _ (by assumption)]; assumption) | (rw [hgrow.cell_far _ (by simp; omega) HNE0.out]; assumption) | (rw [hgrow.cell_far _ (by simp; omega) HNE1.out]; assumption) | (rw [hgrow.cell_far _ (by simp; omega) HNE2.out]; assumption)))) (first | (go_at_call 104; refine (HFD.out _ ?_).mono ?_; (exact bl_trans HBW.out (by repeat (first | with_reducible exact Below.refl _ _ | with_reducible assumption | with_reducible apply bl_drewN | with_reducible apply bl_drew | with_reducible apply bl_alloc | (with_reducible refine bl_set ?_ (by first | (simp; done) | (simp; omega)) _) | with_reducible refine bl_trans ?_ (by with_reducible assumption)))); rintro e wa ⟨rfl, ba⟩; have bwa : Below wr.heap.size wr wa := (by repeat (first | with_reducible exact Below.refl _ _ | with_reducible assumption | with_reducible apply bl_drewN | with_reducible apply bl_drew | with_reducible apply bl_alloc | (with_reducible refine bl_set ?_ (by first | (simp; done) | (simp; omega)) _) | with_reducible refine bl_trans ?_ (by with_reducible assumption))); obtain ⟨hca, hfa⟩ := bcell bwa; have hza := bwa.size) | (refine step_append_lies _ (by rfl) _ _ _ (by rfl) w2.heap.size 2 i0 _ 1 8 Tryz.underlying34 hi0 hiz0 hiz1 hiz2 rfl (by omega) (Value.slice av2 k capv2) k (flat N64_cells ((m.outs.take k).map (tkAt m.bd.ps fs))) (by rfl) (own_below HOWN.out (bl_trans (by repeat (first | with_reducible exact Below.refl _ _ | with_reducible assumption | with_reducible apply bl_drewN | with_reducible apply bl_drew | with_reducible apply bl_alloc | (with_reducible refine bl_set ?_ (by first | (simp; done) | (simp; omega)) _) | with_reducible refine bl_trans ?_ (by with_reducible assumption))) (bl_alloc (Below.refl _ _))) (Nat.le_refl _)) ⟨wa.heap.size, 0, none⟩ 1 1 [.int .i64 T] (by rfl) (by rfl) (World.news_of_block (cs := #[.int .i64 T]) (t := 2) (fr := (0, 0)) (heap_alloc_new _ _)) (N64_one T) (by omega) (by unfold maxLen; omega) hk32 (by simp; omega) _ rfl ?_; intro gg cap3 w3 hown3 hgrow hat3 hlt3))
      have hb3 : Below w2.heap.size w2 w3 := bl_grown (bl_trans HBB.out (by repeat (first | with_reducible exact Below.refl _ _ | with_reducible assumption | with_reducible apply bl_drewN | with_reducible apply bl_drew | with_reducible apply bl_alloc | (with_reducible refine bl_set ?_ (by first | (simp; done) | (simp; omega)) _) | with_reducible refine bl_trans ?_ (by with_reducible assumption)))) hgrow (fun q hq => (HOWN.out.lt q hq).1)
      have hcells : flat N64_cells ((m.outs.take k).map (tkAt m.bd.ps fs)) ++ [.int .i64 T] = flat N64_cells ((m.outs.take (k + 1)).map (tkAt m.bd.ps fs)) := by rw [HTN.out, flat_append]; rfl
      rw [hcells] at hown3
      go_wp2
      go_roundw
      case rel => exact ⟨k + 1, by omega, by go_num, hown3, hb3⟩
      case measure => simp [intOf]; omega
    · have hkn : k = m.outs.length := by omega
      subst hkn
      have HRES : Hid ((m.outs.take m.outs.length).map (tkAt m.bd.ps fs) = ts) := Lib.hid (by rw [List.take_length, HTK.out])
      have HOWN2 := own_mono (base := w.heap.size) HOWN.out hzw
      go_wp2
      go_ret
      exact ⟨_, rfl, by rw [HLT.out, ← HRES.out]; exact HOWN2, hbW⟩
theorem pow_i (k : Nat) (hk : k < 8) : ∃ p : Int, (2 : Int) ^ k = p ∧ 1 ≤ p ∧ p ≤ 128 ∧ p = ((2 ^ k : Nat) : Int) := by
  refine ⟨(2 : Int) ^ k, rfl, ?_, ?_, by push_cast; rfl⟩
  · have := Nat.one_le_two_pow (n := k)
    have h2 : ((2 ^ k : Nat) : Int) = (2 : Int) ^ k := by push_cast; rfl
    omega
  · have := pow_mono2 (a := k) (b := 7) (by omega)
    have h2 : ((2 ^ k : Nat) : Int) = (2 : Int) ^ k := by push_cast; rfl
    omega
theorem bitsTo_yes (ts : List Int) (k : Nat) (hk : k < 8) (h : 0 ≤ ts.getD k 0) : bits .or .i64 (bitsTo ts k : Int) ((2 ^ k : Nat) : Int) = (bitsTo ts (k + 1) : Int) := by
  have h1 := bitsTo_lt ts k
  have h2 := pow_mono2 (a := k) (b := 7) (by omega)
  rw [(bits_i64 (bitsTo ts k) (2 ^ k) (by omega) (by omega)).2.1]
  show _ = ((if 0 ≤ ts.getD k 0 then _ else _ : Nat) : Int)
  rw [if_pos h]
theorem bitsTo_no (ts : List Int) (k : Nat) (h : ¬ 0 ≤ ts.getD k 0) : bitsTo ts (k + 1) = bitsTo ts k := if_neg h
set_option maxHeartbeats 1600000 in
theorem l03Outputs_any {B : Nat} (b0 : Nat) (m : Mc) (row : Nat) (a : Option Addr) (cap : Nat) (late : List Int) (w : World) (h : MP w b0 m) (hv : vMc m = true) (hok : m.ok) (hl : late.length = m.ins.length) (hlo : lateOk late) (hs : SlAt B w a (flat N64_cells late)) (hB : B ≤ w.heap.size) (hrow : row < 64) :
    Calls Tryz.prog 75 #[.pointer (some ⟨b0, 0, none⟩), .int .i64 row, .slice a m.ins.length cap] w fun e w' => e = .returned (.int .i64 ((mOut m row late : Nat) : Int)) ∧ Below w.heap.size w w' := by
  obtain ⟨hvb, h60, hi1, hi6, ho1, ho8, -⟩ := vMc_parts m hv
  have HT := Lib.hid (l03Ticks_any (B := B) b0 m row a cap late w h hv hok hl hlo hs hB hrow)
  have HLT := Lib.hid (mTk_len m row late)
  have HOV : Hid (mOut m row late = bitsTo (mTk m row late) m.outs.length) := Lib.hid rfl
  generalize mOut m row late = r at HOV ⊢
  generalize mTk m row late = ts at HT HLT HOV
  have htl : ts.length ≤ 8 := by rw [HLT.out]; exact ho8
  rw [← HLT.out] at HOV
  clear h hs hlo hl
  go_enter Tryz.func75, Tryz.ntmps75
  go_wp2_with fail
  refine HT.out.mono ?_
  rintro e w2 ⟨v, rfl, hown, hb2⟩
  obtain ⟨av, capv, hve, hsl, -, -⟩ := own_at hown
  subst hve
  have HB2 := Lib.hid hb2
  clear hown hb2 HT HLT
  go_wp2
  go_loopw [8, 9] (fun ox ix wr => ∃ k : Nat, k ≤ ts.length ∧ ix = .int .i64 k ∧ ox = .int .i64 (bitsTo ts k : Int) ∧ Below w2.heap.size w2 wr) (fun _ ix _ => ts.length - (intOf ix).toNat)
  case atStart => exact ⟨0, by omega, rfl, rfl, Below.refl _ _⟩
  case round =>
    obtain ⟨k, hk, rfl, rfl, hb⟩ := hrel
    by_cases hlt : k < ts.length
    · obtain ⟨b, off, rfl, hbl, hat⟩ := n64s_get hsl hlt
      unfold N64At at hat
      rw [Nat.mul_one] at hat
      have r0 : wr.cell? ⟨b, off + k, none⟩ = some (.int .i64 ts[k]) := by rw [hb.cell (p := ⟨_, _, none⟩) hbl]; exact hat
      have HGD := Lib.hid (getD_n ts k hlt)
      obtain ⟨T, hT⟩ : ∃ T, T = ts[k] := ⟨_, rfl⟩
      rw [← hT] at r0 HGD
      clear hT hat
      rcases dec_cases (0 ≤ T) with ⟨g, g'⟩ | ⟨g, g'⟩
      · have HS := Lib.hid (bitsTo_yes ts k (by omega) (by rw [HGD.out]; exact g'))
        obtain ⟨p, hp, hp1, hp2, hp3⟩ := pow_i k (by omega)
        rw [← hp3] at HS
        have HP3 := Lib.hid hp3
        clear g' hp3
        go_wp2
        go_roundw
        case rel => exact ⟨k + 1, by omega, by go_num, by rw [← HS.out], hb⟩
        case measure => simp [intOf]; omega
      · have HS := Lib.hid (bitsTo_no ts k (by rw [HGD.out]; exact g'))
        clear g'
        go_wp2
        go_roundw
        case rel => exact ⟨k + 1, by omega, by go_num, by rw [HS.out], hb⟩
        case measure => simp [intOf]; omega
    · have hkn : k = ts.length := by omega
      subst hkn
      rw [← HOV.out]
      go_wp2
      go_ret
      exact ⟨rfl, bl_trans HB2.out hb⟩
end Go.Proofs.YtmeefmoblkiebaaGreat
/- Contracts: slices of Uint64, element for element. -/
namespace Go.Proofs.YtmeefmoblkiebaaGreat
open Go.RowKit
set_option linter.unusedVariables false
set_option linter.unusedSimpArgs false
set_option maxHeartbeats 400000
set_option maxRecDepth 100000

def U64_ok (p : Int) : Prop := (0 ≤ p ∧ p ≤ 18446744073709551615)
def U64_cells (p : Int) : List Value := [.int .u64 p]
theorem U64_len (p : Int) : (U64_cells p).length = 1 := rfl
theorem U64_one (p : Int) : ∀ u ∈ U64_cells p, u.oneCell' = true := by
  intro u hu
  simp only [U64_cells, List.mem_cons, List.not_mem_nil, or_false] at hu
  subst hu; rfl
def U64At (w : World) (b off : Nat) (p : Int) : Prop :=
  w.cell? ⟨b, off, none⟩ = some (.int .u64 p)
theorem u64s_get {B : Nat} {w : World} {a : Option Addr} {ps : List Int} (h : SlAt B w a (flat U64_cells ps)) {k : Nat} (hk : k < ps.length) :
    ∃ b off, a = some ⟨b, off, none⟩ ∧ b < B ∧ U64At w b (off + k * 1) ps[k] := by
  obtain ⟨b, off, h1, h2, h3⟩ := SlAt.get U64_len (by omega) h hk
  exact ⟨b, off, h1, h2, h3 0 _ rfl⟩
theorem Tryz.infoUint64 : (Tryz.prog.info? 134).map (fun i => (i.zero, i.size, i.bytes)) = some (some (.int .u64 0), 1, 8) := by kernel_rfl
def mkU641 (k : Int) : Int := k
def mkU64 (k : Int) (n : Nat) : List Int := (List.range n).map fun (i : Nat) => (k + (i : Int))
theorem mkU64_succ (k : Int) (n : Nat) : mkU64 k (n + 1) = mkU64 k n ++ [k + n] := by simp [mkU64, List.range_succ]
theorem mkU64_len (k : Int) (n : Nat) : (mkU64 k n).length = n := by simp [mkU64]
end Go.Proofs.YtmeefmoblkiebaaGreat
/- FallOrder: plain laws, and the reference's contract. -/
namespace Go.Proofs.YtmeefmoblkiebaaGreat
open Go.RowKit
set_option linter.unusedVariables false
set_option linter.unusedSimpArgs false
set_option maxHeartbeats 400000
set_option maxRecDepth 100000
def tki (fs : List Fa) (i : Int) : Int := (fs.getD i.toNat default).t
/-- The order of falls: ticks, then places. -/
def ltI (fs : List Fa) (i k : Int) : Prop := tki fs i < tki fs k ∨ (tki fs i = tki fs k ∧ i < k)
def fell (f : Fa) : Bool := decide (0 ≤ f.t)
def isOrd (fs : List Fa) (k : Nat) (xs : List Int) : Prop := xs.Perm (idxTo fell fs k) ∧ xs.Pairwise (ltI fs)
theorem isOrd_unique (fs : List Fa) (k : Nat) (xs ys : List Int) (hx : isOrd fs k xs) (hy : isOrd fs k ys) : xs = ys := by
  refine List.Perm.eq_of_pairwise (le := ltI fs) ?_ hx.2 hy.2 (hx.1.trans hy.1.symm)
  intro a b _ _ h1 h2
  unfold ltI at h1 h2
  omega
open Classical in
noncomputable def ordOf (fs : List Fa) : List Int := if h : ∃ xs, isOrd fs fs.length xs then h.choose else []
theorem ordOf_eq (fs : List Fa) (xs : List Int) (h : isOrd fs fs.length xs) : xs = ordOf fs := by
  have hx : ∃ ys, isOrd fs fs.length ys := ⟨xs, h⟩
  unfold ordOf
  rw [dif_pos hx]
  exact isOrd_unique fs _ _ _ h hx.choose_spec
theorem ordOf_len (fs : List Fa) : (ordOf fs).length ≤ fs.length := by
  unfold ordOf
  split
  · rename_i h
    have h1 := h.choose_spec.1.length_eq
    rw [h1]; exact idxTo_len _ _ _
  · exact Nat.zero_le _
noncomputable def foList (l : Bd) (pl : List Pu) : List Int := if (vBd l && vPus l pl) = true then ordOf (runOf l.ps pl) else []
theorem foList_len (l : Bd) (pl : List Pu) : (foList l pl).length ≤ l.ps.length := by
  unfold foList
  split
  · exact Nat.le_trans (ordOf_len _) (runOf_len _ _)
  · exact Nat.zero_le _
theorem idxTo_mem (p : Fa → Bool) (fs : List Fa) (k : Nat) (i : Int) (h : i ∈ idxTo p fs k) : ∃ n : Nat, i = (n : Int) ∧ n < k := by
  unfold idxTo at h
  rw [List.mem_map] at h
  obtain ⟨n, hn, rfl⟩ := h
  exact ⟨n, rfl, by have := (List.mem_filter.1 hn).1; exact List.mem_range.1 this⟩
theorem tki_at (fs : List Fa) (n : Nat) (h : n < fs.length) : tki fs (n : Int) = fs[n].t := by
  unfold tki
  rw [Int.toNat_natCast, getD_fa fs n h]
theorem ord_put (fs : List Fa) (k : Nat) (xs A C : List Int) (h : isOrd fs k xs) (he : A ++ C = xs) (hC : ∀ c ∈ C, tki fs k < tki fs c) (hA : ∀ a ∈ A.getLast?, tki fs a ≤ tki fs k) : (A ++ (k : Int) :: C).Pairwise (ltI fs) := by
  obtain ⟨h1, h2⟩ := h
  subst he
  rw [List.pairwise_append] at h2 ⊢
  obtain ⟨p1, p2, p3⟩ := h2
  have hAk : ∀ a ∈ A, ltI fs a k := by
    intro a ha
    obtain ⟨n, rfl, hn⟩ := idxTo_mem fell fs k a (h1.subset (List.mem_append_left _ ha))
    have hle : tki fs (n : Int) ≤ tki fs k := by
      rcases List.eq_nil_or_concat A with rfl | ⟨A', z, rfl⟩
      · cases ha
      · have hz := hA z (by simp)
        rcases (by simpa using ha : (n : Int) ∈ A' ∨ (n : Int) = z) with h9 | h9
        · rw [List.concat_eq_append, List.pairwise_append] at p1
          have := p1.2.2 _ h9 z (by simp)
          unfold ltI at this
          omega
        · have : (n : Int) = z := by simpa using h9
          rw [this]; exact hz
    unfold ltI
    omega
  refine ⟨p1, List.pairwise_cons.2 ⟨fun c hc => .inl (hC c hc), p2⟩, ?_⟩
  intro a ha b hb
  rcases List.mem_cons.1 hb with rfl | hb
  · exact hAk a ha
  · exact p3 a ha b hb
theorem flatN (xs : List Int) : flat N64_cells xs = xs.map (Value.int .i64) := by
  induction xs with
  | nil => rfl
  | cons x xs ih => rw [flat_cons, ih]; rfl
theorem n64_cell {w : World} {base g n cap : Nat} {xs : List Int} (h : w.ownsRow base 2 1 (.slice (some ⟨g, 0, none⟩) n cap) n (flat N64_cells xs)) (j : Nat) (hj : j < xs.length) : w.cell? ⟨g, j, none⟩ = some (.int .i64 xs[j]) ∧ w.frozen? ⟨g, j, none⟩ = false := by
  have hl := h.1
  rw [flat_length N64_len] at hl
  have h1 := h.cellAt j (by omega)
  rw [h1, flatN]
  exact ⟨by simp [hj], (own_cell h (j := j) (by omega)).2⟩
theorem own_some {w : World} {base : Nat} {e : TypeId} {size n : Nat} {v : Value} {xs : List Value} (h : w.ownsRow base e size v (n + 1) xs) : ∃ g cap, v = .slice (some ⟨g, 0, none⟩) (n + 1) cap ∧ base ≤ g := by
  rcases h.2 with ⟨-, h0⟩ | ⟨g, cap3, cur, hve, hg, -⟩
  · omega
  · exact ⟨g, cap3, hve, hg⟩
set_option maxHeartbeats 3200000 in
theorem specFallOrder_any (wd hg : Int) (s : Value) (ps : List Pc) (v1 : Value) (pl : List Pu) (w : World) (hps : PV w s ps) (hok : (Bd.mk wd hg ps).ok) (hn : ps.length ≤ 9000000) (h1 : SV Pu.cells w v1 pl) (ok1 : PusOk pl) (n1 : pl.length ≤ 9000000) :
    Calls Tryz.prog 13 #[bdv wd hg s, v1] w fun e w' => ∃ v, e = .returned (.tuple #[v, .int .i64 (rbCode ⟨wd, hg, ps⟩ pl)]) ∧ w'.ownsRow w.heap.size 2 1 v (foList ⟨wd, hg, ps⟩ pl).length (flat N64_cells (foList ⟨wd, hg, ps⟩ pl)) ∧ Below w.heap.size w w' := by
  have HB := Lib.hid (BP.new (l := ⟨wd, hg, ps⟩) (w := w) hps 27)
  have hba : Below w.heap.size w (w.alloc (.cells #[.int .i8 wd, .int .i8 hg, s] 27)) := bl_alloc (Below.refl _ _)
  obtain ⟨a, cap, rfl, -⟩ := hps
  obtain ⟨a1, cap1, rfl, h1⟩ := h1
  have H1 := Lib.hid (l02Asked_any (B := w.heap.size) w.heap.size ⟨wd, hg, ps⟩ a1 cap1 pl _ HB.out hok (show ps.length ≤ 10000000 by omega) (h1.below hba (Nat.le_refl _)) ok1 hba.size (by omega))
  have HBA := Lib.hid hba
  clear hba
  cases g1 : (vBd ⟨wd, hg, ps⟩ && vPus ⟨wd, hg, ps⟩ pl) with
  | true =>
    obtain ⟨hv, hpl, hin, hn20⟩ := ask_ok _ _ g1
    have HA : Hid (askV ⟨wd, hg, ps⟩ pl = 0) := Lib.hid (by unfold askV; rw [g1]; rfl)
    have HG := Lib.hid (good_bd ⟨wd, hg, ps⟩ hv pl hpl)
    have HN := Lib.hid (runOf_len200 ⟨wd, hg, ps⟩ pl hv)
    rw [HA.out] at H1
    have HPL := Lib.hid hpl
    have HIN := Lib.hid hin
    have HC : Hid (rbCode ⟨wd, hg, ps⟩ pl = 0) := Lib.hid (by unfold rbCode; rw [g1]; rfl)
    have HL : Hid (foList ⟨wd, hg, ps⟩ pl = ordOf (runOf ps pl)) := Lib.hid (by unfold foList; rw [if_pos g1])
    rw [HC.out, HL.out]
    obtain ⟨fs, hfs⟩ : ∃ fs, fs = runOf ps pl := ⟨_, rfl⟩
    have hn2 : fs.length ≤ 200 := by rw [hfs]; exact HN.out
    rw [← hfs]
    have HFS := Lib.hid hfs
    clear hfs HN
    clear g1 HC HL HA hpl hin
    go_enter Tryz.func13, Tryz.ntmps13
    go_wp2_with fail
    refine H1.out.mono ?_
    rintro e w1 ⟨rfl, hb1⟩
    have hb01 := bl_trans HBA.out hb1
    have HF := Lib.hid (l02Run_any (B := w.heap.size) w.heap.size ⟨wd, hg, ps⟩ a1 cap1 pl w1 (HB.out.step hb1) hv (h1.below hb01 (Nat.le_refl _)) ok1 HPL.out HIN.out hn20 hb01.size)
    have HB01 := Lib.hid hb01
    clear hb01 hb1
    go_wp2_with fail
    refine HF.out.mono ?_
    rintro e w2 ⟨v, fs', rfl, hown, hokf, -, hb2⟩
    have he : fs = fs' := by rw [HFS.out]; exact (runOf_eq _ _ _ HG.out hokf).symm
    subst he
    obtain ⟨av, capv, hve, hsl, -, -⟩ := own_at hown
    subst hve
    have HB02 := Lib.hid (bl_trans HB01.out hb2)
    clear hown hb2 hokf HFS HG HF HB01 HB H1 h1
    have HCT := Lib.hid (fun k hk => idxTo_succ fell fs k hk)
    have HLE := Lib.hid (fun k => idxTo_len fell fs k)
    obtain ⟨i0, hi0, hiz0, hiz1, hiz2⟩ := info_parts Tryz.infoInt64
    have hown0 := World.ownsRow_made (e := 2) (size := 1) w2 #[] 0 (Nat.le_refl _) (by simp [maxLen]) rfl
    have hb0 : Below w2.heap.size w2 (w2.alloc (.cells #[] 2)) := bl_alloc (Below.refl _ _)
    go_wp2
    go_loopw [8, 9] (fun v ix wr => ∃ (k : Nat) (xs : List Int), k ≤ fs.length ∧ ix = .int .i64 k ∧ isOrd fs k xs ∧ wr.ownsRow w2.heap.size 2 1 v xs.length (flat N64_cells xs) ∧ Below w2.heap.size w2 wr) (fun _ ix _ => fs.length - (intOf ix).toNat)
    case atStart => exact ⟨0, [], by omega, rfl, ⟨List.Perm.refl _, List.Pairwise.nil⟩, hown0, hb0⟩
    case round =>
      clear hown0 hb0
      obtain ⟨k, xs, hk, rfl, hord, hown, hb⟩ := hrel
      obtain ⟨av2, capv2, hve, -, -, -⟩ := own_at hown
      subst hve
      have hle : xs.length ≤ k := by rw [hord.1.length_eq]; exact HLE.out k
      have HORD := Lib.hid hord
      have HOWN := Lib.hid hown
      have hzb := hb.size
      clear hown hord
      by_cases hlt : k < fs.length
      · obtain ⟨b, off, rfl, hbl, hat⟩ := fas_get hsl hlt
        have r0 : wr.cell? ⟨b, off + k * 3, none⟩ = some (.int .i64 fs[k].t) := by rw [hb.cell (p := ⟨_, _, none⟩) hbl]; exact hat.1
        have HC := Lib.hid (HCT.out k hlt)
        have HTK := Lib.hid (tki_at fs k hlt)
        obtain ⟨ft, hft⟩ : ∃ ft, ft = fs[k].t := ⟨_, rfl⟩
        have HFE : Hid (fell fs[k] = decide (0 ≤ ft)) := Lib.hid (by rw [hft]; rfl)
        rw [← hft] at r0 HTK
        clear hft hat
        rcases dec_cases (ft < 0) with ⟨g3, k3⟩ | ⟨g3, k3⟩
        · have HC2 : Hid (idxTo fell fs (k + 1) = idxTo fell fs k) := Lib.hid (by rw [HC.out, if_neg (by rw [HFE.out, decide_eq_true_eq]; omega), List.append_nil])
          clear k3
          go_wp2
          go_roundw
          case rel => exact ⟨k + 1, xs, by omega, by go_num, ⟨by rw [HC2.out]; exact HORD.out.1, HORD.out.2⟩, HOWN.out, hb⟩
          case measure => simp [intOf]; omega
        · have HC2 : Hid (idxTo fell fs (k + 1) = idxTo fell fs k ++ [(k : Int)]) := Lib.hid (by rw [HC.out, if_pos (by rw [HFE.out, decide_eq_true_eq]; omega)])
          clear k3
          obtain ⟨n, hnn⟩ : ∃ n, n = xs.length := ⟨_, rfl⟩
          rw [← hnn] at HOWN hle ⊢
          have HNN := Lib.hid hnn
          clear hnn
          have HB2 := Lib.hid hb
          go_wp2_with (at_builtin; go_must (refine wpList_append_sl _ rfl _ _ 34 rfl w2.heap.size 2 i0 (.int .i64 0) 1 8 Tryz.underlying34 hi0 hiz0 hiz1 hiz2 rfl (by decide) _ _ _ rfl (own_below HOWN.out (bl_alloc (Below.refl _ _)) (Nat.le_refl _)) (some ⟨wr.heap.size, 0, none⟩) 1 1 [.int .i64 (k : Int)] rfl (sl_newC wr #[.int .i64 (k : Int)] 2 _ rfl) rfl (by intro u hu; rw [List.mem_singleton] at hu; subst hu; rfl) (by unfold maxLen; omega) (by omega) (by simp; omega) ?_); intro v3 w3 hown3 hgrow; obtain ⟨g, cap3, rfl, hg⟩ := own_some hown3)
          have hb3 : Below w2.heap.size w2 w3 := (bl_alloc (o := .cells #[.int .i64 (k : Int)] 2) HB2.out).grown hgrow (by simp; omega) (fun q hq => (HOWN.out.lt q hq).1)
          have hcells : flat N64_cells xs ++ [.int .i64 (k : Int)] = flat N64_cells (xs ++ [(k : Int)]) := by rw [flat_append]; rfl
          rw [hcells] at hown3
          have HOWN3 := Lib.hid hown3
          clear hown3 hgrow hcells hb r0
          go_loopw [10] (fun jx wi => ∃ A C : List Int, A ++ C = xs ∧ jx = .int .i64 A.length ∧ wi.ownsRow w2.heap.size 2 1 (.slice (some ⟨g, 0, none⟩) (n + 1) cap3) (n + 1) (flat N64_cells (A ++ (k : Int) :: C)) ∧ (∀ c ∈ C, tki fs k < tki fs c) ∧ Below w2.heap.size w2 wi) (fun jx _ => (intOf jx).toNat)
          case atStart => exact ⟨xs, [], by simp, by rw [HNN.out], HOWN3.out, by simp, hb3⟩
          case round =>
            clear hb3 HOWN3
            obtain ⟨A, C, hAC, rfl, howni, hCt, hbi⟩ := hrel
            rcases List.eq_nil_or_concat A with rfl | ⟨A', z, hAz⟩
            · have HP := Lib.hid (ord_put fs k xs [] C HORD.out hAC hCt (by simp))
              have HPm : Hid ((([] : List Int) ++ (k : Int) :: C).Perm (idxTo fell fs (k + 1))) := Lib.hid (by
                rw [HC2.out]
                refine List.Perm.trans ?_ (List.Perm.append_right _ HORD.out.1)
                rw [← hAC]
                simp only [List.nil_append]
                exact List.perm_append_comm (l₁ := [(k : Int)]))
              have hlen2 : (([] : List Int) ++ (k : Int) :: C).length = n + 1 := by rw [HNN.out, ← hAC]; simp
              have HO := Lib.hid howni
              have HLEN := Lib.hid hlen2
              clear howni hAC hCt hlen2
              have d1 : decide ((0 : Int) < ((0 : Nat) : Int)) = false := rfl
              go_wp2_with fail
              go_quiet (fail)
              go_wp2
              go_roundw
              case rel => exact ⟨k + 1, _, by omega, by go_num, ⟨HPm.out, HP.out⟩, by rw [HLEN.out]; exact own_below HO.out (by repeat (first | with_reducible exact Below.refl _ _ | with_reducible assumption | with_reducible apply bl_drewN | with_reducible apply bl_drew | with_reducible apply bl_alloc | (with_reducible refine bl_set ?_ (by first | (simp; done) | (simp; omega)) _) | with_reducible refine bl_trans ?_ (by with_reducible assumption))) (Nat.le_refl _), (by repeat (first | with_reducible exact Below.refl _ _ | with_reducible assumption | with_reducible apply bl_drewN | with_reducible apply bl_drew | with_reducible apply bl_alloc | (with_reducible refine bl_set ?_ (by first | (simp; done) | (simp; omega)) _) | with_reducible refine bl_trans ?_ (by with_reducible assumption)))⟩
              case measure => simp [intOf]; omega
            · rw [List.concat_eq_append] at hAz
              have hzm : z ∈ idxTo fell fs k := HORD.out.1.subset (by rw [← hAC, hAz]; simp)
              obtain ⟨zn, rfl, hzn⟩ := idxTo_mem fell fs k z hzm
              have hznf : zn < fs.length := by omega
              have hlenA : A.length = A'.length + 1 := by rw [hAz]; simp
              have hnA : A'.length < n := by rw [HNN.out, ← hAC]; simp; omega
              have cz := n64_cell howni A'.length (by rw [hAz]; simp)
              have ck := n64_cell howni (A'.length + 1) (by rw [hAz]; simp)
              have ez : (A ++ (k : Int) :: C)[A'.length]'(by rw [hAz]; simp) = (zn : Int) := by simp [hAz]
              have ek : (A ++ (k : Int) :: C)[A'.length + 1]'(by rw [hAz]; simp) = (k : Int) := by simp [hAz]
              rw [ez] at cz
              rw [ek] at ck
              obtain ⟨b4, off4, he4, hbl4, hat4⟩ := fas_get hsl hznf
              simp only [Option.some.injEq, Addr.mk.injEq, and_true] at he4
              obtain ⟨rfl, rfl⟩ := he4
              have rz : wr.cell? ⟨b, off + zn * 3, none⟩ = some (.int .i64 fs[zn].t) := by rw [hbi.cell (p := ⟨_, _, none⟩) hbl]; exact hat4.1
              obtain ⟨b5, off5, he5, hbl5, hat5⟩ := fas_get hsl hlt
              simp only [Option.some.injEq, Addr.mk.injEq, and_true] at he5
              obtain ⟨rfl, rfl⟩ := he5
              have rk : wr.cell? ⟨b, off + k * 3, none⟩ = some (.int .i64 fs[k].t) := by rw [hbi.cell (p := ⟨_, _, none⟩) hbl]; exact hat5.1
              rw [show fs[k].t = ft by rw [← HTK.out, tki_at fs k hlt]] at rk
              obtain ⟨zt, hzt⟩ : ∃ zt, zt = fs[zn].t := ⟨_, rfl⟩
              have HZT : Hid (tki fs (zn : Int) = zt) := Lib.hid (by rw [tki_at fs zn hznf, hzt])
              rw [← hzt] at rz
              obtain ⟨m, hm⟩ : ∃ m, m = A'.length := ⟨_, rfl⟩
              have hmA : A.length = m + 1 := by omega
              rw [hmA]
              rw [← hm] at cz ck hnA
              have HO := Lib.hid howni
              have HAZ := Lib.hid hAz
              have HAC := Lib.hid hAC
              have HM := Lib.hid hm
              have HCt := Lib.hid hCt
              obtain ⟨cz1, cz2⟩ := cz
              obtain ⟨ck1, ck2⟩ := ck
              clear howni hAz hAC hm hCt hzt hlenA hmA ez ek hat4 hat5 hzm
              have d1 : decide ((0 : Int) < ((m + 1 : Nat) : Int)) = true := decide_eq_true (by omega)
              have s1 : IntKind.i64.wrap (((m + 1 : Nat) : Int) - 1) = (m : Int) := by rw [IntKind.wrap_i64]; omega
              rcases dec_cases (ft < zt) with ⟨g4, k4⟩ | ⟨g4, k4⟩
              · clear HORD HOWN
                go_wp2_with fail
                go_quiet (fail)
                go_wp2_with fail
                have hq0 : Below w2.heap.size w2 (wr.drewN nq) := (by repeat (first | with_reducible exact Below.refl _ _ | with_reducible assumption | with_reducible apply bl_drewN | with_reducible apply bl_drew | with_reducible apply bl_alloc | (with_reducible refine bl_set ?_ (by first | (simp; done) | (simp; omega)) _) | with_reducible refine bl_trans ?_ (by with_reducible assumption)))
                have ow0 := own_below HO.out (show Below wr.heap.size wr (wr.drewN nq) from (by repeat (first | with_reducible exact Below.refl _ _ | with_reducible assumption | with_reducible apply bl_drewN | with_reducible apply bl_drew | with_reducible apply bl_alloc | (with_reducible refine bl_set ?_ (by first | (simp; done) | (simp; omega)) _) | with_reducible refine bl_trans ?_ (by with_reducible assumption)))) (Nat.le_refl _)
                have ow1 := (ow0.stored (m + 1) (.int .i64 (zn : Int))).1
                have ow2 := (ow1.stored m (.int .i64 (k : Int))).1
                have hrow : ((flat N64_cells (A ++ (k : Int) :: C)).set (m + 1) (.int .i64 (zn : Int))).set m (.int .i64 (k : Int)) = flat N64_cells (A' ++ (k : Int) :: (zn : Int) :: C) := by
                  rw [flatN, flatN, HAZ.out, HM.out]
                  simp [List.set_append]
                rw [hrow] at ow2
                refine ⟨⟨A', (zn : Int) :: C, by rw [← HAC.out, HAZ.out]; simp, by rw [HM.out], ow2, ?_, bl_set (bl_set hq0 hg _) hg _⟩, by simp [intOf]⟩
                intro c hc
                rcases List.mem_cons.1 hc with rfl | hc
                · rw [HZT.out, HTK.out]; exact k4
                · exact HCt.out c hc
              · have HLA : Hid (∀ a ∈ A.getLast?, tki fs a ≤ tki fs k) := Lib.hid (by
                  intro a ha
                  rw [HAZ.out] at ha
                  have h8 : (zn : Int) = a := by simpa using ha
                  rw [← h8, HZT.out, HTK.out]
                  exact Int.not_lt.1 k4)
                have HP := Lib.hid (ord_put fs k xs A C HORD.out HAC.out HCt.out HLA.out)
                have HPm : Hid ((A ++ (k : Int) :: C).Perm (idxTo fell fs (k + 1))) := Lib.hid (by
                  rw [HC2.out]
                  refine List.Perm.trans ?_ (List.Perm.append_right _ HORD.out.1)
                  rw [← HAC.out, List.append_assoc]
                  exact List.Perm.append_left _ (List.perm_append_comm (l₁ := [(k : Int)])))
                have HLEN : Hid ((A ++ (k : Int) :: C).length = n + 1) := Lib.hid (by rw [HNN.out, ← HAC.out]; simp; omega)
                clear HORD HOWN
                go_wp2_with fail
                go_quiet (fail)
                go_wp2
                go_roundw
                case rel => exact ⟨k + 1, _, by omega, by go_num, ⟨HPm.out, HP.out⟩, by rw [HLEN.out]; exact own_below HO.out (by repeat (first | with_reducible exact Below.refl _ _ | with_reducible assumption | with_reducible apply bl_drewN | with_reducible apply bl_drew | with_reducible apply bl_alloc | (with_reducible refine bl_set ?_ (by first | (simp; done) | (simp; omega)) _) | with_reducible refine bl_trans ?_ (by with_reducible assumption))) (Nat.le_refl _), (by repeat (first | with_reducible exact Below.refl _ _ | with_reducible assumption | with_reducible apply bl_drewN | with_reducible apply bl_drew | with_reducible apply bl_alloc | (with_reducible refine bl_set ?_ (by first | (simp; done) | (simp; omega)) _) | with_reducible refine bl_trans ?_ (by with_reducible assumption)))⟩
                case measure => simp [intOf]; omega
      · have hkn : k = fs.length := by omega
        subst hkn
        have HE := Lib.hid (ordOf_eq fs xs HORD.out)
        have HOWN2 := own_mono (base := w.heap.size) HOWN.out HB02.out.size
        go_wp2
        go_ret2
        exact ⟨_, rfl, by rw [← HE.out]; exact HOWN2, bl_trans HB02.out hb⟩
  | false =>
    have HA : Hid (askV ⟨wd, hg, ps⟩ pl = 1) := Lib.hid (by unfold askV; rw [g1]; rfl)
    have HC : Hid (rbCode ⟨wd, hg, ps⟩ pl = 1) := Lib.hid (by unfold rbCode; rw [g1]; rfl)
    have HL : Hid (foList ⟨wd, hg, ps⟩ pl = []) := Lib.hid (by unfold foList; rw [g1]; rfl)
    rw [HC.out, HL.out]
    rw [HA.out] at H1
    clear g1 HC HL HA
    go_enter Tryz.func13, Tryz.ntmps13
    go_wp2_with fail
    refine H1.out.mono ?_
    rintro e w1 ⟨rfl, hb1⟩
    have hb01 := bl_trans HBA.out hb1
    have hown := World.ownsRow_made (e := 2) (size := 1) w1 #[] 0 (Nat.le_refl _) (by simp [maxLen]) rfl
    have hown2 := own_mono (base := w.heap.size) hown hb01.size
    go_wp2
    go_ret2
    exact ⟨_, rfl, hown2, bl_alloc hb01⟩
end Go.Proofs.YtmeefmoblkiebaaGreat
/- Contracts: what is asked, all rows, all tables (the reference). -/
namespace Go.Proofs.YtmeefmoblkiebaaGreat
open Go.RowKit
set_option linter.unusedVariables false
set_option linter.unusedSimpArgs false
set_option maxHeartbeats 400000
set_option maxRecDepth 100000
def in100 (n : Int) : Bool := inB n 0 100
def askRow (m : Mc) (row : Int) (late : List Int) : Bool := inB row 0 ((mRows m : Nat) - 1 : Int) && decide (late.length = m.ins.length)
def mAsk (m : Mc) (row : Int) (late : List Int) : Int := if vMc m = true then (if (askRow m row late && late.all in100) = true then 0 else 2) else 1
theorem mAsk_0 (m : Mc) (row : Int) (late : List Int) (h : mAsk m row late = 0) : vMc m = true ∧ late.length = m.ins.length ∧ lateOk late ∧ ∃ r : Nat, row = (r : Int) ∧ r < mRows m := by
  unfold mAsk at h
  split at h
  · rename_i hv
    split at h
    · rename_i h1
      unfold askRow inB at h1
      simp only [Bool.and_eq_true, decide_eq_true_eq] at h1
      obtain ⟨⟨⟨h2, h3⟩, h4⟩, h5⟩ := h1
      refine ⟨hv, h4, ?_, row.toNat, by omega, by omega⟩
      intro i
      by_cases hi : i < late.length
      · rw [getD_n late i hi]
        have := List.all_eq_true.1 h5 _ (List.getElem_mem hi)
        unfold in100 inB at this
        simpa using this
      · have : late.getD i 0 = 0 := by rw [List.getD_eq_getElem?_getD, List.getElem?_eq_none (by omega)]; rfl
        rw [this]; omega
    · omega
  · omega
theorem made_rep (z : Value) (hz : z.cells = #[z]) (n : Nat) : (madeCells z.cells (n * 1)).toList = List.replicate n z := by
  apply List.ext_getElem
  · simp [size_madeCells]
  · intro i h1 h2
    simp [madeCells, hz, Nat.mod_one]
theorem flat_zeros (n : Nat) : flat N64_cells (zeros n) = List.replicate n (.int .i64 0) := by
  rw [flatN]; unfold zeros; rw [List.map_replicate]
noncomputable def mAll (m : Mc) (k : Nat) : List Int := (List.range k).map (fun r => ((mOut m r (zeros m.ins.length) : Nat) : Int))
theorem mAll_len (m : Mc) (k : Nat) : (mAll m k).length = k := by simp [mAll]
theorem mAll_succ (m : Mc) (k : Nat) : mAll m (k + 1) = mAll m k ++ [((mOut m k (zeros m.ins.length) : Nat) : Int)] := by unfold mAll; rw [List.range_succ, List.map_append]; rfl
set_option maxHeartbeats 1600000 in
theorem l03All_any (b0 : Nat) (m : Mc) (w : World) (h : MP w b0 m) (hv : vMc m = true) (hok : m.ok) :
    Calls Tryz.prog 139 #[.pointer (some ⟨b0, 0, none⟩)] w fun e w' => ∃ v, e = .returned v ∧ w'.ownsRow w.heap.size 2 1 v (mRows m) (flat N64_cells (mAll m (mRows m))) ∧ Below w.heap.size w w' := by
  obtain ⟨hvb, h60, hi1, hi6, ho1, ho8, -⟩ := vMc_parts m hv
  have HM := Lib.hid h
  have HRO := Lib.hid (fun w1 (hb : Below w.heap.size w w1) => l03Rows_any b0 m w1 (HM.out.step hb) hi6)
  have HO := Lib.hid (fun w1 (hb : Below w.heap.size w w1) (r : Nat) (hr : r < 64) a (hs : SlAt w1.heap.size w1 a (flat N64_cells (zeros m.ins.length))) => l03Outputs_any (B := w1.heap.size) b0 m r a m.ins.length (zeros m.ins.length) w1 (HM.out.step hb) hv hok (by simp [zeros]) (zeros_ok _) hs (Nat.le_refl _) hr)
  have HAS := Lib.hid (fun k => mAll_succ m k)
  have HAL := Lib.hid (fun k => mAll_len m k)
  have hR64 := mRows_le m hi6
  obtain ⟨R, hRR⟩ : ∃ R, R = mRows m := ⟨_, rfl⟩
  rw [← hRR] at HRO hR64 ⊢
  obtain ⟨f, hf⟩ : ∃ f : Nat → Nat, f = fun r => mOut m r (zeros m.ins.length) := ⟨_, rfl⟩
  have HF : Hid (∀ r, mOut m r (zeros m.ins.length) = f r) := Lib.hid (fun r => by rw [hf])
  clear hRR hf
  obtain ⟨hbl, s, si, so, ⟨hbd, c3, c4⟩, -, ⟨ia, icap, rfl, hins⟩, -⟩ := h
  obtain ⟨i0, hi0, hiz0, hiz1, hiz2⟩ := info_parts Tryz.infoInt64
  go_enter Tryz.func139, Tryz.ntmps139
  go_wp2_with (refine wpList_make_full _ rfl (.tmp 10) (.tmp 10) 34 rfl w.heap.size 2 i0 _ 1 Tryz.underlying34 hi0 hiz0 hiz1 _ _ _ _ m.ins.length rfl rfl rfl rfl (by rw [hiz2]; omega) (by unfold maxLen; omega) (Nat.le_refl _) ?_; intro w1 hmade hgrow)
  rw [made_rep _ rfl, ← flat_zeros] at hmade
  have hb1 : Below w.heap.size w w1 := bl_grown (Below.refl _ _) hgrow (by simp)
  obtain ⟨az, capz, hvz, hslz, -, -⟩ := own_at hmade
  simp only [Value.slice.injEq] at hvz
  obtain ⟨rfl, -, rfl⟩ := hvz
  have HSZ := Lib.hid hslz
  have HB1 := Lib.hid hb1
  clear hmade hgrow hslz hb1
  have hown0 := World.ownsRow_made (e := 2) (size := 1) w1 #[] 0 (Nat.le_refl _) (by simp [maxLen]) rfl
  have hb0 : Below w1.heap.size w1 (w1.alloc (.cells #[] 2)) := bl_alloc (Below.refl _ _)
  go_loopw [4, 5] (fun v rx wr => ∃ k : Nat, k ≤ R ∧ rx = .int .i64 k ∧ wr.ownsRow w1.heap.size 2 1 v k (flat N64_cells (mAll m k)) ∧ Below w1.heap.size w1 wr) (fun _ rx _ => R - (intOf rx).toNat)
  case atStart => exact ⟨0, by omega, rfl, hown0, hb0⟩
  case round =>
    clear hown0 hb0
    obtain ⟨k, hk, rfl, hown, hb⟩ := hrel
    obtain ⟨av2, capv2, hve, -, -, -⟩ := own_at hown
    subst hve
    have HOWN := Lib.hid hown
    have hzb := hb.size
    have HBW := Lib.hid (bl_trans HB1.out hb)
    clear hown
    by_cases hlt : k < R
    · have HOC := Lib.hid (HO.out wr HBW.out k (by omega) _ ((HSZ.out.below hb (Nat.le_refl _)).mono hzb))
      rw [HF.out] at HOC
      have HNX : Hid (mAll m (k + 1) = mAll m k ++ [((f k : Nat) : Int)]) := Lib.hid (by rw [HAS.out, HF.out])
      have HBB := Lib.hid hb
      have hrI : (k : Int) < R := by omega
      go_wp2_with (go_at_call 74; refine (HRO.out _ HBW.out).mono ?_; rintro e w' ⟨rfl, rfl⟩)
      refine HOC.out.mono ?_
      rintro e w2 ⟨rfl, hb2⟩
      have HB2 := Lib.hid (bl_trans HBB.out hb2)
      have HO2 := Lib.hid (own_below HOWN.out hb2 (Nat.le_refl _))
      have hz2 := HB2.out.size
      clear hb2 hb
      go_wp2_with (at_builtin; go_must (refine wpList_append_sl _ rfl _ _ 34 rfl w1.heap.size 2 i0 (.int .i64 0) 1 8 Tryz.underlying34 hi0 hiz0 hiz1 hiz2 rfl (by decide) _ _ _ rfl (own_below HO2.out (bl_alloc (Below.refl _ _)) (Nat.le_refl _)) (some ⟨w2.heap.size, 0, none⟩) 1 1 [.int .i64 ((f k : Nat) : Int)] rfl (sl_newC w2 #[.int .i64 ((f k : Nat) : Int)] 2 _ rfl) rfl (by intro u hu; rw [List.mem_singleton] at hu; subst hu; rfl) (by unfold maxLen; omega) (by omega) (by simp; omega) ?_); intro v3 w3 hown3 hgrow)
      have hb3 : Below w1.heap.size w1 w3 := (bl_alloc (o := .cells #[.int .i64 ((f k : Nat) : Int)] 2) HB2.out).grown hgrow (by simp; omega) (fun q hq => (HO2.out.lt q hq).1)
      have hcells : flat N64_cells (mAll m k) ++ [.int .i64 ((f k : Nat) : Int)] = flat N64_cells (mAll m (k + 1)) := by rw [HNX.out, flat_append]; rfl
      rw [hcells] at hown3
      go_roundw
      case rel => exact ⟨k + 1, by omega, by go_num, hown3, hb3⟩
      case measure => simp [intOf]; omega
    · have hkn : k = R := by omega
      subst hkn
      have HOWN2 := own_mono (base := w.heap.size) HOWN.out HB1.out.size
      go_wp2_with (go_at_call 74; refine (HRO.out _ HBW.out).mono ?_; rintro e w' ⟨rfl, rfl⟩)
      go_ret
      exact ⟨_, rfl, HOWN2, HBW.out⟩
end Go.Proofs.YtmeefmoblkiebaaGreat
/- Contracts: whether a port is among ports. -/
namespace Go.Proofs.YtmeefmoblkiebaaGreat
open Go.RowKit
set_option linter.unusedVariables false
set_option linter.unusedSimpArgs false
set_option maxHeartbeats 400000
set_option maxRecDepth 100000
/-- The first place of a cell, -1: none. -/
def idxPo (c : Po) (cs : List Po) : Int := (cs.findIdx? (fun x => decide (c = x))).elim (-1) (fun n => (n : Int))
theorem idxPo_mem (c : Po) (cs : List Po) : decide (0 ≤ idxPo c cs) = decide (c ∈ cs) := by
  unfold idxPo
  cases hf : cs.findIdx? (fun x => decide (c = x)) with
  | none =>
    rw [List.findIdx?_eq_none_iff] at hf
    have : c ∉ cs := fun h => by have := hf c h; simp at this
    simp [this]
  | some k =>
    rw [List.findIdx?_eq_some_iff_getElem] at hf
    obtain ⟨h1, h2, -⟩ := hf
    have h3 : c = cs[k] := by simpa using h2
    have : c ∈ cs := h3 ▸ List.getElem_mem h1
    simp [this]
theorem indexPo_any {B : Nat} (a : Option Addr) (cap : Nat) (cs : List Po) (c : Po) (w : World) (h : SlAt B w a (flat Po.cells cs)) (hB : B ≤ w.heap.size) (hn : cs.length ≤ 10000000) :
    Calls Tryz.prog 171 #[.slice a cs.length cap, c.val] w fun e w' => e = .returned (.int .i64 (idxPo c cs)) ∧ Below w.heap.size w w' := by
  go_enter Tryz.func171, Tryz.ntmps171
  go_wp2
  go_loopw [8] (fun i wr => ∃ j : Nat, j ≤ cs.length ∧ i = .int .i64 j ∧ Hid ((cs.take j).findIdx? (fun x => decide (c = x)) = none) ∧ Below (w.alloc (.cells #[.int .i8 c.x, .int .i8 c.y, .int .i8 c.s] 127)).heap.size (w.alloc (.cells #[.int .i8 c.x, .int .i8 c.y, .int .i8 c.s] 127)) wr) (fun i _ => cs.length - (intOf i).toNat)
  case atStart => exact ⟨0, by omega, rfl, Lib.hid (by simp), Below.refl _ _⟩
  case round =>
    obtain ⟨j, hj, rfl, hno, hb⟩ := hrel
    obtain ⟨hc, hf⟩ := bcell hb
    have hz := hb.size
    simp at hz
    have l0 : w.heap.size < wr.heap.size := by omega
    have hbw : Below w.heap.size w wr := bl_trans (bl_alloc (Below.refl _ _)) hb
    by_cases hlt : j < cs.length
    · obtain ⟨b, off, rfl, hbl, hat⟩ := pos_get h hlt
      unfold PoAt at hat
      have l1 : b < w.heap.size + 1 := by omega
      have l2 : b < w.heap.size := by omega
      have hne : b ≠ w.heap.size := by omega
      have he : ∀ w, (binOp .eql 127 c.val (.agg #[.int .i8 cs[j].x, .int .i8 cs[j].y, .int .i8 cs[j].s])).run Tryz.prog w = .ok (.bool (decide (c = cs[j]))) w := run_eql_po c.x c.y c.s cs[j].x cs[j].y cs[j].s
      rcases dec_cases (c = cs[j]) with ⟨q, q'⟩ | ⟨q, q'⟩
      · rw [q] at he
        have hi : cs.findIdx? (fun x => decide (c = x)) = some j := by
          rw [List.findIdx?_eq_some_iff_getElem]
          refine ⟨hlt, q, fun i hi => ?_⟩
          have h3 := hno.out
          rw [List.findIdx?_eq_none_iff] at h3
          have := h3 cs[i] (by rw [List.mem_take_iff_getElem]; exact ⟨i, by omega, rfl⟩)
          simpa using this
        have HQ := Lib.hid (show idxPo c cs = j by unfold idxPo; rw [hi]; rfl)
        clear q' hi
        go_wp2
        go_quiet (fail)
        go_wp2
        go_ret
        exact ⟨by rw [HQ.out]; rfl, (by repeat (first | with_reducible exact Below.refl _ _ | with_reducible assumption | with_reducible apply bl_drewN | with_reducible apply bl_drew | with_reducible apply bl_alloc | (with_reducible refine bl_set ?_ (by first | (simp; done) | (simp; omega)) _) | with_reducible refine bl_trans ?_ (by with_reducible assumption)))⟩
      · rw [q] at he
        have HQ := Lib.hid q; clear q q'
        go_wp2
        go_quiet (fail)
        go_wp2
        go_roundw
        case rel => exact ⟨j + 1, by omega, by go_num, Lib.hid (by rw [List.take_succ_eq_append_getElem hlt, List.findIdx?_append, hno.out]; simp only [List.findIdx?_cons, HQ.out]; simp), (by repeat (first | with_reducible exact Below.refl _ _ | with_reducible assumption | with_reducible apply bl_drewN | with_reducible apply bl_drew | with_reducible apply bl_alloc | (with_reducible refine bl_set ?_ (by first | (simp; done) | (simp; omega)) _) | with_reducible refine bl_trans ?_ (by with_reducible assumption)))⟩
        case measure => simp [intOf]; omega
    · go_wp2
      go_ret
      have := hno.out
      rw [List.take_of_length_le (by omega)] at this
      exact ⟨by unfold idxPo; rw [this]; rfl, hbw⟩
theorem containsPo_any {B : Nat} (a : Option Addr) (cap : Nat) (cs : List Po) (c : Po) (w : World) (h : SlAt B w a (flat Po.cells cs)) (hB : B ≤ w.heap.size) (hn : cs.length ≤ 10000000) :
    Calls Tryz.prog 120 #[.slice a cs.length cap, c.val] w fun e w' => e = .returned (.bool (decide (c ∈ cs))) ∧ Below w.heap.size w w' := by
  have HM := Lib.hid (idxPo_mem c cs)
  have HI := Lib.hid (fun w' (hb : Below w.heap.size w w') => indexPo_any a cap cs c w' (h.below hb hB) (Nat.le_trans hB hb.size) hn)
  go_enter Tryz.func120, Tryz.ntmps120
  go_wp2_with fail
  refine (HI.out _ (by repeat (first | with_reducible exact Below.refl _ _ | with_reducible assumption | with_reducible apply bl_drewN | with_reducible apply bl_drew | with_reducible apply bl_alloc | (with_reducible refine bl_set ?_ (by first | (simp; done) | (simp; omega)) _) | with_reducible refine bl_trans ?_ (by with_reducible assumption)))).mono ?_
  rintro e w1 ⟨rfl, hb⟩
  go_wp2
  go_ret
  exact ⟨by rw [← HM.out]; rfl, (by repeat (first | with_reducible exact Below.refl _ _ | with_reducible assumption | with_reducible apply bl_drewN | with_reducible apply bl_drew | with_reducible apply bl_alloc | (with_reducible refine bl_set ?_ (by first | (simp; done) | (simp; omega)) _) | with_reducible refine bl_trans ?_ (by with_reducible assumption)))⟩
end Go.Proofs.YtmeefmoblkiebaaGreat
/- Steps over free cells: plain laws. -/
namespace Go.Proofs.YtmeefmoblkiebaaGreat
open Go.RowKit
set_option linter.unusedVariables false
set_option linter.unusedSimpArgs false
set_option maxHeartbeats 400000
set_option maxRecDepth 100000
def qcs (q : List (Ce × Int)) : List Ce := q.map Prod.fst
theorem qcs_len (q : List (Ce × Int)) : (qcs q).length = q.length := by simp [qcs]
theorem qcs_snoc (q : List (Ce × Int)) (c : Ce) (d : Int) : qcs (q ++ [(c, d)]) = qcs q ++ [c] := by simp [qcs]
theorem qcs_get (q : List (Ce × Int)) (k : Nat) (h : k < q.length) : (qcs q)[k]'(by rw [qcs_len]; exact h) = q[k].1 := by simp [qcs]
/-- One step: the neighbour on a side of the k-th cell is reached, if it is free and new. -/
def stepq (l : Bd) (q : List (Ce × Int)) (k : Nat) (s : Int) : List (Ce × Int) :=
  if h : k < q.length then (if fr l (nxt q[k].1 s) = true ∧ nxt q[k].1 s ∉ qcs q then q ++ [(nxt q[k].1 s, q[k].2 + 1)] else q) else q
theorem stepq_no (l : Bd) (q : List (Ce × Int)) (k : Nat) (s : Int) (h : k < q.length) (hn : fr l (nxt q[k].1 s) = false ∨ nxt q[k].1 s ∈ qcs q) : stepq l q k s = q := by
  unfold stepq
  rw [dif_pos h, if_neg]
  rintro ⟨h1, h2⟩
  rcases hn with hn | hn
  · rw [hn] at h1; cases h1
  · exact h2 hn
theorem stepq_yes (l : Bd) (q : List (Ce × Int)) (k : Nat) (s : Int) (h : k < q.length) (h1 : fr l (nxt q[k].1 s) = true) (h2 : nxt q[k].1 s ∉ qcs q) : stepq l q k s = q ++ [(nxt q[k].1 s, q[k].2 + 1)] := by
  unfold stepq
  rw [dif_pos h, if_pos ⟨h1, h2⟩]
theorem stepq_past (l : Bd) (q : List (Ce × Int)) (k : Nat) (s : Int) (h : q.length ≤ k) : stepq l q k s = q := by
  unfold stepq
  rw [dif_neg (by omega)]
def bq (l : Bd) (c : Ce) : Nat → List (Ce × Int)
  | 0 => [(c, 0)]
  | n + 1 => stepq l (bq l c n) (n / 4) ((n % 4 : Nat) : Int)
theorem bq_zero (l : Bd) (c : Ce) : bq l c 0 = [(c, 0)] := rfl
theorem bq_next (l : Bd) (c : Ce) (k s : Nat) (h : s < 4) : bq l c (4 * k + s + 1) = stepq l (bq l c (4 * k + s)) k (s : Int) := by
  rw [bq]
  rw [show (4 * k + s) / 4 = k by omega, show (4 * k + s) % 4 = s by omega]
/-- What holds of all that has been reached. -/
def goodq (l : Bd) (c : Ce) (q : List (Ce × Int)) : Prop :=
  (qcs q).Nodup ∧ (∀ p ∈ q, fr l p.1 = true) ∧ (∀ (i : Nat) (h : i < q.length), 0 ≤ q[i].2 ∧ q[i].2 ≤ i) ∧ (∃ r, q = (c, 0) :: r ∧ ∀ p ∈ r, 1 ≤ p.2)
theorem goodq_step (l : Bd) (c : Ce) (q : List (Ce × Int)) (k : Nat) (s : Int) (h : goodq l c q) : goodq l c (stepq l q k s) := by
  by_cases hk : k < q.length
  · by_cases h1 : fr l (nxt q[k].1 s) = true ∧ nxt q[k].1 s ∉ qcs q
    · rw [stepq_yes l q k s hk h1.1 h1.2]
      obtain ⟨a1, a2, a3, r, a4, a5⟩ := h
      refine ⟨?_, ?_, ?_, r ++ [(nxt q[k].1 s, q[k].2 + 1)], (congrArg (· ++ [(nxt q[k].1 s, q[k].2 + 1)]) a4).trans rfl, ?_⟩
      · rw [qcs_snoc, List.nodup_append]
        refine ⟨a1, by simp, ?_⟩
        intro a ha b hb
        simp only [List.mem_singleton] at hb
        subst hb
        intro e; subst e
        exact h1.2 ha
      · intro p hp
        rcases List.mem_append.1 hp with hp | hp
        · exact a2 p hp
        · simp only [List.mem_singleton] at hp
          subst hp
          exact h1.1
      · intro i hi
        by_cases hq : i < q.length
        · rw [List.getElem_append_left hq]; exact a3 i hq
        · have : i = q.length := by simp at hi; omega
          subst this
          have := a3 k hk
          simp; omega
      · intro p hp
        rcases List.mem_append.1 hp with hp | hp
        · exact a5 p hp
        · simp only [List.mem_singleton] at hp
          subst hp
          have := a3 k hk
          simp; omega
    · rw [stepq_no l q k s hk (by
        by_cases h2 : fr l (nxt q[k].1 s) = true
        · right
          exact Decidable.byContradiction fun h3 => h1 ⟨h2, h3⟩
        · left; simpa using h2)]
      exact h
  · rw [stepq_past l q k s (by omega)]
    exact h
theorem goodq_bq (l : Bd) (c : Ce) (hc : fr l c = true) (n : Nat) : goodq l c (bq l c n) := by
  induction n with
  | zero =>
    refine ⟨by simp [bq, qcs], ?_, ?_, [], rfl, by simp⟩
    · intro p hp
      simp only [bq, List.mem_singleton] at hp
      subst hp; exact hc
    · intro i hi
      simp [bq] at hi
      subst hi
      simp [bq]
  | succ n ih => exact goodq_step _ _ _ _ _ ih
/-- A list without doubles whose members are numbers below n. -/
theorem nodup_le : ∀ (n : Nat) (xs : List Nat), xs.Nodup → (∀ x ∈ xs, x < n) → xs.length ≤ n := by
  intro n
  induction n with
  | zero =>
    intro xs _ h
    cases xs with
    | nil => simp
    | cons x xs => have := h x (by simp); omega
  | succ n ih =>
    intro xs hn h
    have h1 := ih (xs.erase n) (hn.erase n) (by
      intro x hx
      have h2 := h x (List.mem_of_mem_erase hx)
      have h3 : x ≠ n := by
        intro e; subst e
        exact (List.Nodup.not_mem_erase hn) hx
      omega)
    by_cases hm : n ∈ xs
    · rw [List.length_erase_of_mem hm] at h1; omega
    · rw [List.erase_of_not_mem hm] at h1; omega
theorem fr_in (l : Bd) (c : Ce) (h : fr l c = true) : 0 ≤ c.x ∧ c.x < l.wd ∧ 0 ≤ c.y ∧ c.y < l.hg := by
  unfold fr cIn inB at h
  simp only [Bool.and_eq_true, decide_eq_true_eq] at h
  omega
/-- The place of a cell in the order of rows. -/
def idx (l : Bd) (c : Ce) : Int := c.y * l.wd + c.x
theorem idx_nat (l : Bd) (c : Ce) (wn hn : Nat) (hw : l.wd = wn) (hh : l.hg = hn) (h : fr l c = true) : ∃ x y : Nat, c = ⟨x, y⟩ ∧ x < wn ∧ y < hn ∧ idx l c = ((y * wn + x : Nat) : Int) ∧ y * wn + x < hn * wn := by
  obtain ⟨h1, h2, h3, h4⟩ := fr_in l c h
  obtain ⟨cx, cy⟩ := c
  simp only at h1 h2 h3 h4
  refine ⟨cx.toNat, cy.toNat, ?_, by omega, by omega, ?_, ?_⟩
  · rw [Int.toNat_of_nonneg h1, Int.toNat_of_nonneg h3]
  · unfold idx
    simp only [hw]
    rw [Int.natCast_add, Int.natCast_mul, Int.toNat_of_nonneg h1, Int.toNat_of_nonneg h3]
  · have h5 : cy.toNat + 1 ≤ hn := by omega
    have h6 : cx.toNat < wn := by omega
    have := Nat.mul_le_mul_right wn h5
    rw [Nat.add_mul] at this
    omega
theorem idx_inj (l : Bd) (c d : Ce) (hc : fr l c = true) (hd : fr l d = true) (h : idx l c = idx l d) : c = d := by
  obtain ⟨a1, a2, a3, a4⟩ := fr_in l c hc
  obtain ⟨b1, b2, b3, b4⟩ := fr_in l d hd
  obtain ⟨cx, cy⟩ := c
  obtain ⟨dx, dy⟩ := d
  simp only [idx] at *
  have e1 : cy = dy := by
    have h1 : (cy * l.wd + cx) / l.wd = cy := by rw [Int.add_comm, Int.add_mul_ediv_right _ _ (by omega), Int.ediv_eq_zero_of_lt a1 a2]; omega
    have h2 : (dy * l.wd + dx) / l.wd = dy := by rw [Int.add_comm, Int.add_mul_ediv_right _ _ (by omega), Int.ediv_eq_zero_of_lt b1 b2]; omega
    rw [← h1, ← h2, h]
  subst e1
  have : cx = dx := by omega
  rw [this]
theorem bq_len (l : Bd) (c : Ce) (hc : fr l c = true) (n : Nat) (hw : l.wd ≤ 24) (hh : l.hg ≤ 24) : (bq l c n).length ≤ 576 := by
  obtain ⟨h1, h2, -, -⟩ := goodq_bq l c hc n
  obtain ⟨b1, b2, b3, b4⟩ := fr_in l c hc
  have hfr : ∀ d ∈ qcs (bq l c n), fr l d = true := by
    intro d hd
    obtain ⟨p, hp, rfl⟩ := List.mem_map.1 hd
    exact h2 p hp
  have h3 : ((qcs (bq l c n)).map fun d => (idx l d).toNat).Nodup := by
    rw [List.Nodup, List.pairwise_map]
    refine List.Pairwise.imp_of_mem ?_ h1
    intro a b ha hb hab e
    apply hab
    have ea := fr_in l a (hfr a ha)
    have eb := fr_in l b (hfr b hb)
    have i1 : 0 ≤ idx l a := by
      unfold idx
      have := Int.mul_nonneg ea.2.2.1 (show 0 ≤ l.wd by omega)
      omega
    have i2 : 0 ≤ idx l b := by
      unfold idx
      have := Int.mul_nonneg eb.2.2.1 (show 0 ≤ l.wd by omega)
      omega
    exact idx_inj l a b (hfr a ha) (hfr b hb) (by omega)
  have h4 := nodup_le 576 _ h3 (by
    intro x hx
    obtain ⟨d, hd, rfl⟩ := List.mem_map.1 hx
    obtain ⟨x, y, -, h5, h6, h7, h8⟩ := idx_nat l d l.wd.toNat l.hg.toNat (by omega) (by omega) (hfr d hd)
    have : l.hg.toNat * l.wd.toNat ≤ 24 * 24 := Nat.mul_le_mul (by omega) (by omega)
    rw [h7]
    simp only [Int.toNat_natCast]
    omega)
  rw [List.length_map, qcs_len] at h4
  exact h4
/-- All that can be reached. -/
def bfs (l : Bd) (c : Ce) : List (Ce × Int) := bq l c (4 * 600)
theorem bq_still (l : Bd) (c : Ce) (k : Nat) (h : (bq l c (4 * k)).length ≤ k) (m : Nat) : bq l c (4 * k + m) = bq l c (4 * k) := by
  induction m with
  | zero => rfl
  | succ m ih =>
    show stepq l (bq l c (4 * k + m)) ((4 * k + m) / 4) _ = _
    rw [ih, stepq_past _ _ _ _ (by omega)]
theorem bfs_end (l : Bd) (c : Ce) (k : Nat) (hk : k ≤ 600) (h : (bq l c (4 * k)).length ≤ k) : bfs l c = bq l c (4 * k) := by
  have := bq_still l c k h (4 * 600 - 4 * k)
  rw [show 4 * k + (4 * 600 - 4 * k) = 4 * 600 by omega] at this
  exact this
/-- The distance of a cell, -1: none. -/
def dget (q : List (Ce × Int)) (d : Ce) : Option Int := (q.find? fun p => decide (d = p.1)).map (·.2)
def dOf (q : List (Ce × Int)) (d : Ce) : Int := (dget q d).getD (-1)
theorem dget_none (q : List (Ce × Int)) (d : Ce) (h : d ∉ qcs q) : dget q d = none := by
  unfold dget
  rw [List.find?_eq_none.2]
  · rfl
  · intro p hp
    simp only [decide_eq_true_eq]
    intro e
    exact h (List.mem_map.2 ⟨p, hp, e.symm⟩)
theorem dget_some (q : List (Ce × Int)) (d : Ce) (h : d ∈ qcs q) : ∃ p ∈ q, p.1 = d ∧ dget q d = some p.2 := by
  unfold dget
  obtain ⟨p, hp, rfl⟩ := List.mem_map.1 h
  cases hf : q.find? fun p' => decide (p.1 = p'.1) with
  | none =>
    have := List.find?_eq_none.1 hf p hp
    simp at this
  | some p' =>
    have h1 := List.find?_some hf
    have h2 := List.mem_of_find?_eq_some hf
    simp only [decide_eq_true_eq] at h1
    exact ⟨p', h2, h1.symm, rfl⟩
theorem dget_snoc (q : List (Ce × Int)) (c d : Ce) (n : Int) (h : c ∉ qcs q) : dget (q ++ [(c, n)]) d = if d = c then some n else dget q d := by
  unfold dget
  rw [List.find?_append]
  by_cases e : d = c
  · subst e
    have := dget_none q d h
    unfold dget at this
    rw [Option.map_eq_none_iff] at this
    rw [this, if_pos rfl]
    simp
  · rw [if_neg e]
    cases hf : q.find? fun p => decide (d = p.1) with
    | none => simp [e]
    | some p => simp
theorem dOf_neg (l : Bd) (c : Ce) (q : List (Ce × Int)) (hq : goodq l c q) (d : Ce) : (0 ≤ dOf q d) ↔ d ∈ qcs q := by
  unfold dOf
  constructor
  · intro h
    refine Decidable.byContradiction fun h2 => ?_
    rw [dget_none q d h2] at h
    simp at h
  · intro h
    obtain ⟨p, hp, e, h2⟩ := dget_some q d h
    rw [h2]
    obtain ⟨i, hi, rfl⟩ := List.getElem_of_mem hp
    have := hq.2.2.1 i hi
    simp; omega
theorem dOf_bd (l : Bd) (c : Ce) (q : List (Ce × Int)) (hq : goodq l c q) (hl : q.length ≤ 576) (d : Ce) : -1 ≤ dOf q d ∧ dOf q d ≤ 576 := by
  unfold dOf
  by_cases h : d ∈ qcs q
  · obtain ⟨p, hp, e, h2⟩ := dget_some q d h
    rw [h2]
    obtain ⟨i, hi, rfl⟩ := List.getElem_of_mem hp
    have := hq.2.2.1 i hi
    simp; omega
  · rw [dget_none q d h]; simp
theorem dOf_at (l : Bd) (c : Ce) (q : List (Ce × Int)) (hq : goodq l c q) (k : Nat) (hk : k < q.length) : dget q q[k].1 = some q[k].2 := by
  obtain ⟨p, hp, e, h2⟩ := dget_some q q[k].1 (List.mem_map.2 ⟨_, List.getElem_mem hk, rfl⟩)
  rw [h2]
  obtain ⟨i, hi, rfl⟩ := List.getElem_of_mem hp
  have hn := hq.1
  have this : i = k := by
    refine Decidable.byContradiction fun hne => ?_
    rcases Nat.lt_or_gt_of_ne hne with hlt | hlt
    · exact List.pairwise_iff_getElem.1 hn i k (by rw [qcs_len]; exact hi) (by rw [qcs_len]; exact hk) hlt (by rw [qcs_get q i hi, qcs_get q k hk]; exact e)
    · exact List.pairwise_iff_getElem.1 hn k i (by rw [qcs_len]; exact hk) (by rw [qcs_len]; exact hi) hlt (by rw [qcs_get q i hi, qcs_get q k hk]; exact e.symm)
  subst this
  rfl
/-- The distances of all cells. -/
def outL (l : Bd) (q : List (Ce × Int)) : List Int := (allC l).map (dOf q)
/-- The cell at a place of the order of rows. -/
def cAt (wn i : Nat) : Ce := ⟨((i % wn : Nat) : Int), ((i / wn : Nat) : Int)⟩
theorem cAt_eq (wn x y : Nat) (h : x < wn) : cAt wn (y * wn + x) = ⟨(x : Int), (y : Int)⟩ := by
  unfold cAt
  rw [Nat.mul_comm y wn, Nat.mul_add_mod, Nat.mod_eq_of_lt h, Nat.mul_add_div (by omega), Nat.div_eq_of_lt h, Nat.add_zero]
theorem cAt_inj (wn x y i : Nat) (h : x < wn) (e : cAt wn i = ⟨(x : Int), (y : Int)⟩) : i = y * wn + x := by
  unfold cAt at e
  simp only [Ce.mk.injEq] at e
  have e1 : i % wn = x := by omega
  have e2 : i / wn = y := by omega
  rw [← e1, ← e2, Nat.mul_comm, Nat.div_add_mod]
theorem cellsTo_eq (wn : Nat) : ∀ (k j : Nat), j ≤ wn → cellsTo wn k j = (List.range (k * wn + j)).map (cAt wn) := by
  intro k
  induction k with
  | zero =>
    intro j
    induction j with
    | zero => intro _; simp [cellsTo]
    | succ j ih =>
      intro h
      rw [cellsTo_snoc, ih (by omega), ← Nat.add_assoc, List.range_succ, List.map_append, List.map_cons, List.map_nil, cAt_eq wn j 0 (by omega)]
  | succ k ihk =>
    intro j
    induction j with
    | zero => intro _; rw [cellsTo_row, ihk wn (Nat.le_refl _), Nat.succ_mul, Nat.add_zero]
    | succ j ih =>
      intro h
      rw [cellsTo_snoc, ih (by omega), ← Nat.add_assoc, List.range_succ, List.map_append, List.map_cons, List.map_nil, cAt_eq wn j (k + 1) (by omega)]
theorem allC_eq (l : Bd) : allC l = (List.range (l.hg.toNat * l.wd.toNat)).map (cAt l.wd.toNat) := by
  unfold allC
  rw [cellsTo_eq _ _ 0 (Nat.zero_le _), Nat.add_zero]
theorem outL_len (l : Bd) (q : List (Ce × Int)) : (outL l q).length = l.hg.toNat * l.wd.toNat := by
  unfold outL
  rw [allC_eq]
  simp
theorem outL_nil (l : Bd) : outL l [] = List.replicate (l.hg.toNat * l.wd.toNat) (-1) := by
  unfold outL
  rw [allC_eq, List.map_map]
  apply List.ext_getElem
  · simp
  · intro i h1 h2
    simp [dOf, dget]
theorem outL_get (l : Bd) (q : List (Ce × Int)) (d : Ce) (h : fr l d = true) : (outL l q)[(idx l d).toNat]? = some (dOf q d) := by
  have hb := fr_in l d h
  obtain ⟨x, y, rfl, h1, h2, h3, h4⟩ := idx_nat l d l.wd.toNat l.hg.toNat (by omega) (by omega) h
  rw [h3, Int.toNat_natCast]
  unfold outL
  rw [allC_eq, List.map_map, List.getElem?_map, List.getElem?_range h4]
  simp only [Option.map_some, Function.comp_apply, cAt_eq _ _ _ h1]
theorem outL_snoc (l : Bd) (q : List (Ce × Int)) (d : Ce) (n : Int) (h : fr l d = true) (hd : d ∉ qcs q) : outL l (q ++ [(d, n)]) = (outL l q).set (idx l d).toNat n := by
  have hb := fr_in l d h
  obtain ⟨x, y, e, h1, h2, h3, h4⟩ := idx_nat l d l.wd.toNat l.hg.toNat (by omega) (by omega) h
  rw [h3, Int.toNat_natCast]
  unfold outL
  rw [allC_eq, List.map_map, List.map_map]
  apply List.ext_getElem
  · simp
  · intro i hi hi2
    rw [List.getElem_set]
    simp only [List.getElem_map, List.getElem_range, Function.comp_apply]
    unfold dOf
    rw [dget_snoc q d _ n hd]
    by_cases hx : y * l.wd.toNat + x = i
    · subst hx
      rw [cAt_eq _ _ _ h1, ← e]
      simp
    · have : cAt l.wd.toNat i ≠ d := by
        intro e2
        rw [e] at e2
        exact hx (cAt_inj _ _ _ _ h1 e2).symm
      rw [if_neg this, if_neg hx]
/-- What the map holds. -/
def qkv (q : List (Ce × Int)) : List (Ce × Value) := q.map fun p => (p.1, Value.int .i64 p.2)
theorem mget_qkv (d : Ce) : ∀ q : List (Ce × Int), mget d (qkv q) = (dget q d).map (Value.int .i64) := by
  intro q
  induction q with
  | nil => rfl
  | cons p q ih =>
    rw [qkv, List.map_cons, mget_cons]
    unfold dget
    rw [List.find?_cons]
    by_cases h : d = p.1
    · rw [if_pos h, decide_eq_true h]; rfl
    · rw [if_neg h, decide_eq_false h]
      exact ih
theorem mput_qkv (d : Ce) (n : Int) (q : List (Ce × Int)) (h : d ∉ qcs q) : mput d (.int .i64 n) (qkv q) = qkv (q ++ [(d, n)]) := by
  have h2 : mget d (qkv q) = none := by rw [mget_qkv, dget_none q d h]; rfl
  unfold mget at h2
  rw [mput_none d _ _ (Option.map_eq_none_iff.1 h2)]
  simp [qkv]
end Go.Proofs.YtmeefmoblkiebaaGreat
/- Shortest lines: plain laws. -/
namespace Go.Proofs.YtmeefmoblkiebaaGreat
open Go.RowKit
set_option linter.unusedVariables false
set_option linter.unusedSimpArgs false
set_option maxHeartbeats 400000
set_option maxRecDepth 100000
/-- Each cell but the first has been reached from one that is one step nearer. -/
def parq (q : List (Ce × Int)) : Prop := ∀ (i : Nat) (h : i < q.length), 0 < q[i].2 → ∃ (j : Nat) (hj : j < q.length) (s : Int), 0 ≤ s ∧ s ≤ 3 ∧ q[i].1 = nxt q[j].1 s ∧ q[i].2 = q[j].2 + 1
theorem parq_step (l : Bd) (q : List (Ce × Int)) (k : Nat) (s : Int) (h1 : 0 ≤ s) (h2 : s ≤ 3) (h : parq q) : parq (stepq l q k s) := by
  by_cases hk : k < q.length
  · by_cases hn : fr l (nxt q[k].1 s) = true ∧ nxt q[k].1 s ∉ qcs q
    · rw [stepq_yes l q k s hk hn.1 hn.2]
      intro i hi hpos
      by_cases hq : i < q.length
      · rw [List.getElem_append_left hq] at hpos
        obtain ⟨j, hj, s', a1, a2, a3, a4⟩ := h i hq hpos
        refine ⟨j, by simp; omega, s', a1, a2, ?_, ?_⟩
        · rw [List.getElem_append_left hq, List.getElem_append_left hj]; exact a3
        · rw [List.getElem_append_left hq, List.getElem_append_left hj]; exact a4
      · have e : i = q.length := by simp at hi; omega
        subst e
        refine ⟨k, by simp; omega, s, h1, h2, ?_, ?_⟩
        · rw [List.getElem_append_left hk]; simp
        · rw [List.getElem_append_left hk]; simp
    · rw [stepq_no l q k s hk (by
        by_cases h2 : fr l (nxt q[k].1 s) = true
        · right
          exact Decidable.byContradiction fun h3 => hn ⟨h2, h3⟩
        · left; simpa using h2)]
      exact h
  · rw [stepq_past l q k s (by omega)]
    exact h
theorem parq_bq (l : Bd) (c : Ce) (n : Nat) : parq (bq l c n) := by
  induction n with
  | zero =>
    intro i hi hpos
    have e : i = 0 := by simp [bq] at hi; omega
    subst e
    simp [bq] at hpos
  | succ n ih => exact parq_step _ _ _ _ (by omega) (by omega) ih
def hitAt (q : List (Ce × Int)) (c : Ce) (s : Int) : Bool := decide (dget q (nxt c s) = some (dOf q c - 1))
def selS (q : List (Ce × Int)) (c : Ce) : Int := if hitAt q c 0 = true then 0 else if hitAt q c 1 = true then 1 else if hitAt q c 2 = true then 2 else 3
theorem first_hit (q : List (Ce × Int)) (c : Ce) (j : Nat) (h : j < 4) (h0 : ∀ i : Nat, i < j → hitAt q c i = false) (h1 : hitAt q c j = true) : selS q c = j := by
  unfold selS
  match j, h with
  | 0, _ =>
    have e : hitAt q c 0 = true := h1
    rw [if_pos e]; rfl
  | 1, _ =>
    have f0 : hitAt q c 0 = false := h0 0 (by omega)
    have e : hitAt q c 1 = true := h1
    rw [if_neg (by rw [f0]; decide), if_pos e]; rfl
  | 2, _ =>
    have f0 : hitAt q c 0 = false := h0 0 (by omega)
    have f1 : hitAt q c 1 = false := h0 1 (by omega)
    have e : hitAt q c 2 = true := h1
    rw [if_neg (by rw [f0]; decide), if_neg (by rw [f1]; decide), if_pos e]; rfl
  | 3, _ =>
    have f0 : hitAt q c 0 = false := h0 0 (by omega)
    have f1 : hitAt q c 1 = false := h0 1 (by omega)
    have f2 : hitAt q c 2 = false := h0 2 (by omega)
    rw [if_neg (by rw [f0]; decide), if_neg (by rw [f1]; decide), if_neg (by rw [f2]; decide)]; rfl
theorem hit_exists (l : Bd) (c0 : Ce) (q : List (Ce × Int)) (hg : goodq l c0 q) (hp : parq q) (hw : l.wd ≤ 24) (hh : l.hg ≤ 24) (c : Ce) (hc : c ∈ qcs q) (hd : 0 < dOf q c) : ∃ s : Nat, s < 4 ∧ hitAt q c s = true := by
  obtain ⟨p, hpm, e⟩ := List.mem_map.1 hc
  obtain ⟨i, hi, rfl⟩ := List.getElem_of_mem hpm
  have hdi : dOf q c = q[i].2 := by rw [← e]; unfold dOf; rw [dOf_at l c0 q hg i hi]; rfl
  obtain ⟨j, hj, s, a1, a2, a3, a4⟩ := hp i hi (by omega)
  have hfj : fr l q[j].1 = true := hg.2.1 _ (List.getElem_mem hj)
  have hb := fr_in l _ hfj
  have hok : q[j].1.ok := ⟨by constructor <;> omega, by constructor <;> omega⟩
  have hnb := nxt_back q[j].1 c hok s a1 a2 (by rw [← a3, e])
  refine ⟨((s + 2) % 4).toNat, by omega, ?_⟩
  rw [Int.toNat_of_nonneg (by omega)]
  unfold hitAt
  rw [hnb, dOf_at l c0 q hg j hj, hdi, a4]
  simp
theorem hit_sel (l : Bd) (c0 : Ce) (q : List (Ce × Int)) (hg : goodq l c0 q) (hp : parq q) (hw : l.wd ≤ 24) (hh : l.hg ≤ 24) (c : Ce) (hc : c ∈ qcs q) (hd : 0 < dOf q c) : dget q (nxt c (selS q c)) = some (dOf q c - 1) := by
  have h : hitAt q c (selS q c) = true := by
    obtain ⟨s, h1, h2⟩ := hit_exists l c0 q hg hp hw hh c hc hd
    unfold selS
    by_cases e0 : hitAt q c 0 = true
    · rw [if_pos e0]; exact e0
    · rw [if_neg e0]
      by_cases e1 : hitAt q c 1 = true
      · rw [if_pos e1]; exact e1
      · rw [if_neg e1]
        by_cases e2 : hitAt q c 2 = true
        · rw [if_pos e2]; exact e2
        · rw [if_neg e2]
          match s, h1 with
          | 0, _ => exact absurd h2 e0
          | 1, _ => exact absurd h2 e1
          | 2, _ => exact absurd h2 e2
          | 3, _ => exact h2
  unfold hitAt at h
  simpa using h
theorem no_hit (l : Bd) (c0 : Ce) (q : List (Ce × Int)) (hg : goodq l c0 q) (hp : parq q) (hw : l.wd ≤ 24) (hh : l.hg ≤ 24) (c : Ce) (hc : c ∈ qcs q) (hd : 0 < dOf q c) (h0 : ∀ i : Nat, i < 4 → hitAt q c i = false) : False := by
  obtain ⟨s, h1, h2⟩ := hit_exists l c0 q hg hp hw hh c hc hd
  rw [h0 s h1] at h2
  cases h2
theorem dOf_zero (l : Bd) (c0 : Ce) (q : List (Ce × Int)) (hg : goodq l c0 q) (x : Ce) (hx : x ∈ qcs q) : dOf q x = 0 ↔ x = c0 := by
  obtain ⟨-, -, -, r, e, hr⟩ := hg
  constructor
  · intro h
    obtain ⟨p, hp, e1, e2⟩ := dget_some q x hx
    unfold dOf at h
    rw [e2] at h
    simp only [Option.getD_some] at h
    rw [e] at hp
    rcases List.mem_cons.1 hp with rfl | hp
    · exact e1.symm
    · have := hr p hp; omega
  · intro h
    subst h
    unfold dOf dget
    rw [e]
    simp
/-- The line back to where the steps began. -/
def pth (q : List (Ce × Int)) (t : Ce) : Nat → Ce
  | 0 => t
  | n + 1 => nxt (pth q t n) (selS q (pth q t n))
theorem pth_props (l : Bd) (c0 : Ce) (q : List (Ce × Int)) (hg : goodq l c0 q) (hp : parq q) (hw : l.wd ≤ 24) (hh : l.hg ≤ 24) (t : Ce) (ht : t ∈ qcs q) (i : Nat) : (i : Int) ≤ dOf q t → pth q t i ∈ qcs q ∧ dOf q (pth q t i) = dOf q t - i := by
  induction i with
  | zero => intro _; exact ⟨ht, by simp [pth]⟩
  | succ i ih =>
    intro h
    obtain ⟨h1, h2⟩ := ih (by omega)
    have h3 := hit_sel l c0 q hg hp hw hh _ h1 (by omega)
    have hin : pth q t (i + 1) ∈ qcs q := by
      refine Decidable.byContradiction fun hn => ?_
      have := dget_none q _ hn
      rw [pth, h3] at this
      cases this
    refine ⟨hin, ?_⟩
    have h4 : dOf q (pth q t (i + 1)) = dOf q (pth q t i) - 1 := by
      show (dget q (pth q t (i + 1))).getD (-1) = _
      rw [pth, h3]
      rfl
    rw [h4, h2]
    omega
def pathTo (q : List (Ce × Int)) (t : Ce) (n : Nat) : List Ce := (List.range n).map (pth q t)
theorem pathTo_succ (q : List (Ce × Int)) (t : Ce) (n : Nat) : pathTo q t (n + 1) = pathTo q t n ++ [pth q t n] := by simp [pathTo, List.range_succ]
theorem pathTo_len (q : List (Ce × Int)) (t : Ce) (n : Nat) : (pathTo q t n).length = n := by simp [pathTo]
theorem pathTo_rev (q : List (Ce × Int)) (t : Ce) (n : Nat) : (pathTo q t (n + 1)).reverse = pth q t n :: (pathTo q t n).reverse := by rw [pathTo_succ]; simp
def shPath (q : List (Ce × Int)) (t : Ce) : List Ce := (pathTo q t ((dOf q t).toNat + 1)).reverse
def shBad (q : List (Ce × Int)) (y : Wy) : Bool := decide (nxt ⟨y.fx, y.fy⟩ y.sd ∈ shPath q ⟨y.tx, y.ty⟩) || decide (nxt ⟨y.tx, y.ty⟩ y.out ∈ shPath q ⟨y.tx, y.ty⟩)
def shC (q : List (Ce × Int)) (y : Wy) : Int := if dOf q ⟨y.tx, y.ty⟩ < 0 then 6 else if shBad q y = true then 4 else 0
def shL (q : List (Ce × Int)) (y : Wy) : List Ce := if dOf q ⟨y.tx, y.ty⟩ < 0 then [] else if shBad q y = true then [] else shPath q ⟨y.tx, y.ty⟩
def shCode (l : Bd) (y : Wy) : Int := if (vBd l && vWy l y) = true then shC (bfs l ⟨y.fx, y.fy⟩) y else 1
def shList (l : Bd) (y : Wy) : List Ce := if (vBd l && vWy l y) = true then shL (bfs l ⟨y.fx, y.fy⟩) y else []
theorem vWy_parts (l : Bd) (y : Wy) (h : vWy l y = true) : fr l ⟨y.fx, y.fy⟩ = true ∧ fr l ⟨y.tx, y.ty⟩ = true ∧ 0 ≤ y.sd ∧ y.sd ≤ 3 ∧ 0 ≤ y.out ∧ y.out ≤ 3 := by
  unfold vWy at h
  simp only [Bool.and_eq_true, inB, decide_eq_true_eq] at h
  obtain ⟨⟨⟨⟨h1, h2⟩, h3⟩, h4⟩, -⟩ := h
  exact ⟨h1, h2, h3.1, h3.2, h4.1, h4.2⟩
theorem shList_len (l : Bd) (y : Wy) : (shList l y).length ≤ 577 := by
  unfold shList
  split
  · rename_i h
    rw [Bool.and_eq_true] at h
    obtain ⟨h1, h2, h3, h4, -⟩ := vBd_bounds l h.1
    have hf := (vWy_parts l y h.2).1
    have hq := goodq_bq l ⟨y.fx, y.fy⟩ hf (4 * 600)
    have hl := bq_len l ⟨y.fx, y.fy⟩ hf (4 * 600) h2 h4
    have hb := dOf_bd l _ _ hq hl ⟨y.tx, y.ty⟩
    unfold shL
    split
    · simp
    · split
      · simp
      · unfold shPath
        rw [List.length_reverse, pathTo_len]
        unfold bfs
        omega
  · simp
end Go.Proofs.YtmeefmoblkiebaaGreat
/- A row of one's own that is cut at its front ('todo = todo[1:]'), and what is appended to it. -/
namespace Go.Proofs.YtmeefmoblkiebaaGreat
open Go.RowKit
set_option linter.unusedVariables false
set_option linter.unusedSimpArgs false
set_option maxHeartbeats 400000
set_option maxRecDepth 100000
theorem sl_newAt (w : World) (cs : Array Value) (T : TypeId) (g : Nat) (hg : g = w.heap.size) : SlAt (g + 1) (w.alloc (.cells cs T)) (some ⟨g, 0, none⟩) cs.toList := by
  subst hg
  exact sl_new w cs T
def OffRow (w : World) (base : Nat) (e : TypeId) (size : Nat) (v : Value) (n : Nat) (xs : List Value) (g : Nat) : Prop :=
  xs.length = n * size ∧ base ≤ g ∧ ∃ off cap cur, v = .slice (some ⟨g, off, none⟩) n cap ∧ w.heap[g]? = some (.cells cur e (0, 0)) ∧ n ≤ cap ∧ cap ≤ maxLen ∧ off + cap * size ≤ cur.size ∧ (cur.toList.drop off).take (n * size) = xs
theorem OffRow.lt {w : World} {base : Nat} {e : TypeId} {size : Nat} {v : Value} {n : Nat} {xs : List Value} {g : Nat} (h : OffRow w base e size v n xs g) : g < w.heap.size := by
  obtain ⟨-, -, off, cap, cur, -, h1, -⟩ := h
  exact (Array.getElem?_eq_some_iff.1 h1).1
theorem OffRow.below {w w' : World} {base B : Nat} {e : TypeId} {size : Nat} {v : Value} {n : Nat} {xs : List Value} {g : Nat} (h : OffRow w base e size v n xs g) (hb : Below B w w') (hB : w.heap.size ≤ B) : OffRow w' base e size v n xs g := by
  have hl := h.lt
  obtain ⟨h1, h2, off, cap, cur, h3, h4, h5⟩ := h
  exact ⟨h1, h2, off, cap, cur, h3, by rw [hb.block g (by omega)]; exact h4, h5⟩
theorem OffRow.kept {w w' : World} {base : Nat} {e : TypeId} {size : Nat} {v : Value} {n : Nat} {xs : List Value} {g : Nat} {row : Option Nat} (h : OffRow w base e size v n xs g) (hg : w.grownBy w' row) (hne : some g ≠ row) : OffRow w' base e size v n xs g := by
  have hl := h.lt
  obtain ⟨h1, h2, off, cap, cur, h3, h4, h5⟩ := h
  exact ⟨h1, h2, off, cap, cur, h3, by rw [hg.block g hl hne]; exact h4, h5⟩
theorem OffRow.sl {w : World} {base : Nat} {e : TypeId} {size : Nat} {v : Value} {n : Nat} {xs : List Value} {g : Nat} (h : OffRow w base e size v n xs g) : ∃ off cap, v = .slice (some ⟨g, off, none⟩) n cap ∧ SlAt w.heap.size w (some ⟨g, off, none⟩) xs ∧ n ≤ cap ∧ cap ≤ maxLen := by
  have hl := h.lt
  obtain ⟨h1, h2, off, cap, cur, h3, h4, h5, h6, h7, h8⟩ := h
  refine ⟨off, cap, h3, ?_, h5, h6⟩
  intro j hj
  refine ⟨g, off, rfl, hl, ?_⟩
  rw [cell_of_row w g (off + j) cur e (0, 0) h4]
  have h9 : xs[j]? = some xs[j] := List.getElem?_eq_getElem hj
  rw [← h9]
  conv => rhs; rw [← h8]
  rw [List.getElem?_take, if_pos (by omega), List.getElem?_drop]
  simp
theorem OffRow.cut {w : World} {base : Nat} {e : TypeId} {size : Nat} {n : Nat} {A xs : List Value} {g off cap : Nat} (h : OffRow w base e size (.slice (some ⟨g, off, none⟩) (n + 1) (cap + 1)) (n + 1) (A ++ xs) g) (hA : A.length = size) : OffRow w base e size (.slice (some ⟨g, off + size, none⟩) n cap) n xs g := by
  obtain ⟨h1, h2, off', cap', cur, h3, h4, h5, h6, h7, h8⟩ := h
  cases h3
  rw [List.length_append, hA, Nat.succ_mul] at h1
  refine ⟨by omega, h2, _, _, cur, rfl, h4, by omega, by omega, by rw [Nat.succ_mul] at h7; omega, ?_⟩
  have h9 : ((cur.toList.drop off).take ((n + 1) * size)).drop size = xs := by rw [h8, ← hA, List.drop_left]
  rw [List.drop_take, List.drop_drop] at h9
  rw [← h9]
  congr 1
  rw [Nat.succ_mul]; omega
theorem OffRow.none_left {w : World} {base : Nat} {e : TypeId} {size : Nat} {n : Nat} {xs : List Value} {g off cap : Nat} (h : OffRow w base e size (.slice (some ⟨g, off, none⟩) n cap) n xs g) : OffRow w base e size (.slice (some ⟨g, off, none⟩) 0 0) 0 [] g := by
  obtain ⟨h1, h2, off', cap', cur, h3, h4, h5, h6, h7, h8⟩ := h
  cases h3
  exact ⟨by simp, h2, _, _, cur, rfl, h4, Nat.le_refl _, by omega, by omega, by simp⟩
/-- The rest of a row. -/
theorem OffRow.tail {w : World} {base : Nat} {e : TypeId} {n : Nat} {A xs : List Value} {g off cap : Nat} (h : OffRow w base e 2 (.slice (some ⟨g, off, none⟩) n cap) n (A ++ xs) g) (hA : A.length = 2) (hn : 0 < n) (hc : n ≤ cap) :
    OffRow w base e 2 (.slice (if cap = 1 then some ⟨g, off, none⟩ else some ⟨g, off + 2, none⟩) (n - 1) (cap - 1)) (n - 1) xs g := by
  by_cases h1 : cap = 1
  · rw [if_pos h1]
    have hn1 : n = 1 := by omega
    subst h1 hn1
    have hx : xs = [] := by
      have := h.1
      rw [List.length_append, hA] at this
      exact List.eq_nil_of_length_eq_zero (by omega)
    subst hx
    exact h.none_left
  · rw [if_neg h1]
    obtain ⟨n', rfl⟩ : ∃ n', n = n' + 1 := ⟨n - 1, by omega⟩
    obtain ⟨c', rfl⟩ : ∃ c', cap = c' + 1 := ⟨cap - 1, by omega⟩
    exact h.cut hA
theorem own_off {w : World} {base : Nat} {e : TypeId} {size g n cap : Nat} {xs : List Value} (h : w.ownsRow base e size (.slice (some ⟨g, 0, none⟩) n cap) n xs) : OffRow w base e size (.slice (some ⟨g, 0, none⟩) n cap) n xs g := by
  obtain ⟨h0, h1⟩ := h
  rcases h1 with ⟨h', _⟩ | ⟨g', cap', cur, h', hb, hg, hnc, hcm, hcs, htake⟩
  · simp at h'
  · simp only [Value.slice.injEq, Option.some.injEq, Addr.mk.injEq, and_true, true_and] at h'
    obtain ⟨rfl, rfl⟩ := h'
    exact ⟨h0, hb, 0, cap, cur, rfl, hg, hnc, hcm, by omega, by simpa using htake⟩
section
variable {P : Program} (w : World)
theorem run_append_room_off (t ty e : TypeId) (i : TypeInfo) (ht : P.underlying t = some (.slice e)) (hi : P.info? e = some i)
    (g off sLen sCap : Nat) (cur : Array Value) (hg : w.heap[g]? = some (.cells cur e (0, 0)))
    (a : Addr) (m c : Nat) (news : List Value) (hl : news.length = m * i.size) (hnews : ∀ j u, news[j]? = some u → w.cell? (a.add j) = some u) (h1 : ∀ u ∈ news, u.oneCell' = true)
    (hroom : sLen + m ≤ sCap) (hfit : off + sLen * i.size + news.length ≤ cur.size) :
    (Builtin.append_ #[t, t] ty #[.slice (some ⟨g, off, none⟩) sLen sCap, .slice (some a) m c]).run P w =
      .ok (.slice (some ⟨g, off, none⟩) (sLen + m) sCap) (w.setRow g (cur.toList.take (off + sLen * i.size) ++ news ++ cur.toList.drop (off + sLen * i.size + news.length)).toArray) := by
  have hf := run_firstCells_some (P := P) w i.size m a m c news hl hnews
  have hst := run_storeCells_at P g (off + sLen * i.size) e news 0 cur w hg (by simpa using hfit) h1
  simp only [Nat.add_zero] at hst
  simp [Builtin.append_, run_underlying ht, sizeOf, typeInfo, hi, Builtin.lenOf, hroom, hf, Addr.add_lit, hst]
theorem run_append_off (base : Nat) (t ty e : TypeId) (i : TypeInfo) (z : Value) (size bytes : Nat) (ht : P.underlying t = some (.slice e)) (hi : P.info? e = some i) (hz : i.zero = some z)
    (hsize : i.size = size) (hby : i.bytes = bytes) (hzs : z.cells.size = size) (hsz : 0 < size)
    (v : Value) (n : Nat) (xs : List Value) (g : Nat) (hown : OffRow w base e size v n xs g)
    (a : Addr) (m c : Nat) (news : List Value) (hl : news.length = m * size) (hnews : ∀ j u, news[j]? = some u → w.cell? (a.add j) = some u) (h1 : ∀ u ∈ news, u.oneCell' = true)
    (h63 : n + m ≤ maxLen) (hbytes : (n + m) * bytes ≤ 140737488355328) (hbase : base ≤ w.heap.size) :
    ∃ v' w' g', (Builtin.append_ #[t, t] ty #[v, .slice (some a) m c]).run P w = .ok v' w' ∧ OffRow w' base e size v' (n + m) (xs ++ news) g' ∧ w.grownBy w' (some g) := by
  subst hsize
  subst hby
  have hsmall : n + m ≤ 9223372036854775807 := by simp only [maxLen] at h63; omega
  obtain ⟨h0, hb, off, cap, cur, rfl, hg, hnc, hcm, hcs, htake⟩ := id hown
  have hlen : (xs ++ news).length = (n + m) * i.size := by rw [List.length_append, h0, hl, Nat.add_mul]
  by_cases hroom : n + m ≤ cap
  · have hle : (n + m) * i.size ≤ cap * i.size := Nat.mul_le_mul_right _ hroom
    rw [Nat.add_mul] at hle
    have hfit : off + n * i.size + news.length ≤ cur.size := by rw [hl]; omega
    have hr := run_append_room_off (P := P) w t ty e i ht hi g off n cap cur hg a m c news hl hnews h1 hroom hfit
    refine ⟨_, _, g, hr, ⟨hlen, hb, off, cap, _, rfl, setRow_heap w g cur _ e _ hg, hroom, hcm, ?_, ?_⟩, ⟨rfl, rfl, rfl, by simp, fun k _ hk => setRow_other w g k _ (fun e => hk (by rw [e]))⟩⟩
    · simp only [List.size_toArray, List.length_append, List.length_take, List.length_drop, Array.length_toList]
      omega
    · rw [← htake, ← hlen, List.length_append, h0]
      have e1 : (cur.toList.take (off + n * i.size)).drop off = (cur.toList.drop off).take (n * i.size) := by rw [List.drop_take]; congr 1; omega
      have l1 : (cur.toList.take (off + n * i.size)).length = off + n * i.size := by rw [List.length_take, Array.length_toList]; omega
      rw [List.append_assoc, List.drop_append_of_le_length (by rw [l1]; omega), e1, ← List.append_assoc]
      have l2 : ((cur.toList.drop off).take (n * i.size) ++ news).length = n * i.size + news.length := by rw [htake, List.length_append, h0]
      rw [← l2, List.take_left]
  · have holds : ∀ j u, xs[j]? = some u → w.cell? ((⟨g, off, none⟩ : Addr).add j) = some u := by
      intro j u hu
      have hj : j < xs.length := (List.getElem?_eq_some_iff.1 hu).1
      rw [Addr.add_lit, cell_of_row w g (off + j) cur e (0, 0) hg]
      rw [← hu, ← htake, List.getElem?_take, if_pos (by omega), List.getElem?_drop]
      simp
    have hr := run_append_grow (P := P) w t ty e i z ht hi hz ⟨g, off, none⟩ n cap xs h0 holds a m c news hl hnews (by omega) (by omega) (growslice_fits (by omega) hbytes)
    have hge := grownCap_ge w (n + m) cap e
    have hcm2 : grownCap w (n + m) cap e ≤ maxLen := grownCap_le_maxLen w (n + m) cap e h63
    refine ⟨_, _, w.heap.size, hr, ⟨hlen, hbase, 0, _, _, rfl, heap_alloc_new w.drew _, hge, hcm2, ?_, ?_⟩, ⟨rfl, rfl, rfl, by simp, fun k hk _ => Below.heap_alloc w.drew _ k hk⟩⟩
    · simp only [Array.size_append, List.size_toArray, size_zeroCells, hzs, h0, hl, ← Nat.add_mul, Nat.zero_add]
      refine Nat.mul_le_mul_right _ ?_
      omega
    · simp only [Array.toList_append, List.append_assoc, List.drop_zero]
      rw [← List.append_assoc, ← hlen]
      exact List.take_left
end
theorem wpList_append_off {P : Program} (w : World) {ops : Array Oper} {rest : List Oper} {o : Oper} {a : Act} {Q : Exit → Act → World → Prop} (hgd : o.guard = none) (s x : Operand) (t : TypeId)
    (ho : o.op = .call { callee := .builtin .append, args := #[s, x], argTypes := #[t, t] })
    (base : Nat) (e : TypeId) (i : TypeInfo) (z : Value) (size bytes : Nat) (ht : P.underlying t = some (.slice e)) (hi : P.info? e = some i) (hz : i.zero = some z)
    (hsize : i.size = size) (hby : i.bytes = bytes) (hzs : z.cells.size = size) (hsz : 0 < size)
    (v : Value) (n : Nat) (xs : List Value) (g : Nat) (hs : a.eval s = v) (hown : OffRow w base e size v n xs g)
    (ad : Addr) (m c : Nat) (news : List Value) (hx : a.eval x = .slice (some ad) m c) {B : Nat} (hsl : SlAt B w (some ad) news) (hl : news.length = m * size) (h1 : ∀ u ∈ news, u.oneCell' = true)
    (h63 : n + m ≤ maxLen) (hbytes : (n + m) * bytes ≤ 140737488355328) (hbase : base ≤ w.heap.size)
    (h : ∀ v' w' g', OffRow w' base e size v' (n + m) (xs ++ news) g' → w.grownBy w' (some g) → wpList P ops Q rest (a.put o.dst v') w') : wpList P ops Q (o :: rest) a w := by
  refine wpList_plain hgd fun K hK => ?_
  obtain ⟨v', w', g', hr, r1, r2⟩ := run_append_off (P := P) w base t o.type e i z size bytes ht hi hz hsize hby hzs hsz v n xs g hown ad m c news hl (by
    intro j u hu
    have hj : j < news.length := (List.getElem?_eq_some_iff.1 hu).1
    obtain ⟨b, off, h0, -, h3⟩ := hsl j hj
    cases h0
    rw [List.getElem?_eq_getElem hj] at hu
    cases hu
    have : (⟨b, off, none⟩ : Addr).add j = ⟨b, off + j, none⟩ := by unfold Addr.add; split <;> simp_all
    rw [this]; exact h3) h1 h63 hbytes hbase
  unfold Oper.wp execOp
  simp only [ho, resolve, invoke, builtin, Sem.run_bind, Sem.run_pure, Result.andThen_ok, List.map_toArray, List.map_cons, List.map_nil, hs, hx, hr]
  exact hK _ _ (h v' w' g' r1 r2)
/-- What is appended first to an empty slice lies in a new block. -/
theorem wpList_append_first {P : Program} (w : World) {ops : Array Oper} {rest : List Oper} {o : Oper} {a : Act} {Q : Exit → Act → World → Prop} (hgd : o.guard = none) (s x : Operand) (t : TypeId)
    (ho : o.op = .call { callee := .builtin .append, args := #[s, x], argTypes := #[t, t] })
    (e : TypeId) (i : TypeInfo) (z : Value) (size bytes : Nat) (ht : P.underlying t = some (.slice e)) (hi : P.info? e = some i) (hz : i.zero = some z)
    (hsize : i.size = size) (hby : i.bytes = bytes) (hzs : z.cells.size = size)
    (b : Addr) (hs : a.eval s = .slice (some b) 0 0)
    (ad : Addr) (m c : Nat) (news : List Value) (hx : a.eval x = .slice (some ad) m c) {B : Nat} (hsl : SlAt B w (some ad) news) (hl : news.length = m * size)
    (hm : 0 < m) (h63 : m ≤ maxLen) (hbytes : m * bytes ≤ 140737488355328)
    (h : ∀ v' w', w'.ownsRow w.heap.size e size v' m news → w.grownBy w' none → wpList P ops Q rest (a.put o.dst v') w') : wpList P ops Q (o :: rest) a w := by
  subst hsize
  subst hby
  have hsmall : m ≤ 9223372036854775807 := by simp only [maxLen] at h63; omega
  refine wpList_plain hgd fun K hK => ?_
  have hr := run_append_grow (P := P) w t o.type e i z ht hi hz b 0 0 [] (by simp) (by simp) ad m c news hl (by
    intro j u hu
    have hj : j < news.length := (List.getElem?_eq_some_iff.1 hu).1
    obtain ⟨b, off, h0, -, h3⟩ := hsl j hj
    cases h0
    rw [List.getElem?_eq_getElem hj] at hu
    cases hu
    have : (⟨b, off, none⟩ : Addr).add j = ⟨b, off + j, none⟩ := by unfold Addr.add; split <;> simp_all
    rw [this]; exact h3) (by omega) (by omega) (growslice_fits (by omega) (by rw [Nat.zero_add]; exact hbytes))
  have hge := grownCap_ge w (0 + m) 0 e
  have hcm2 : grownCap w (0 + m) 0 e ≤ maxLen := grownCap_le_maxLen w (0 + m) 0 e (by omega)
  unfold Oper.wp execOp
  simp only [ho, resolve, invoke, builtin, Sem.run_bind, Sem.run_pure, Result.andThen_ok, List.map_toArray, List.map_cons, List.map_nil, hs, hx, hr]
  refine hK _ _ (h _ _ ⟨hl, .inr ⟨w.heap.size, _, _, ?_, Nat.le_refl _, heap_alloc_new w.drew _, ?_, hcm2, ?_, ?_⟩⟩ ⟨rfl, rfl, rfl, by simp, fun k hk _ => Below.heap_alloc w.drew _ k hk⟩)
  · rw [Nat.zero_add]
  · omega
  · simp only [Array.size_append, List.size_toArray, size_zeroCells, hzs, hl, List.length_nil, Nat.zero_add, ← Nat.add_mul]
    simp only [Nat.zero_add] at hge
    congr 1
    omega
  · simp only [Array.toList_append, List.nil_append]
    rw [← hl]
    exact List.take_left
end Go.Proofs.YtmeefmoblkiebaaGreat
/- Contracts: slices.Reverse over cells. -/
namespace Go.Proofs.YtmeefmoblkiebaaGreat
open Go.RowKit
set_option linter.unusedVariables false
set_option linter.unusedSimpArgs false
set_option maxHeartbeats 400000
set_option maxRecDepth 100000
/-- A list of which the first i and the last i elements have been exchanged. -/
def revTo (xs : List Ce) (i : Nat) : List Ce := (xs.drop (xs.length - i)).reverse ++ ((xs.take (xs.length - i)).drop i ++ (xs.take i).reverse)
theorem revTo_zero (xs : List Ce) : revTo xs 0 = xs := by simp [revTo]
theorem revTo_end (xs : List Ce) (i : Nat) (h : xs.length ≤ 2 * i + 1) (hi : 2 * i ≤ xs.length) : revTo xs i = xs.reverse := by
  unfold revTo
  have e : xs = xs.take i ++ ((xs.take (xs.length - i)).drop i ++ xs.drop (xs.length - i)) := by
    have h1 : xs.take i = (xs.take (xs.length - i)).take i := by rw [List.take_take]; congr 1; omega
    rw [h1, ← List.append_assoc, List.take_append_drop, List.take_append_drop]
  have hm : ((xs.take (xs.length - i)).drop i).length ≤ 1 := by simp; omega
  have hr : ((xs.take (xs.length - i)).drop i).reverse = (xs.take (xs.length - i)).drop i := by
    generalize (xs.take (xs.length - i)).drop i = m at hm
    match m, hm with
    | [], _ => rfl
    | [x], _ => rfl
  conv => rhs; rw [e]
  simp only [List.reverse_append, hr, List.append_assoc]
theorem revTo_parts (xs : List Ce) (i : Nat) (h : 2 * i + 1 < xs.length) : ∃ A M C : List Ce, A.length = i ∧ M.length = xs.length - 2 * i - 2 ∧
    revTo xs i = A ++ (xs[i] :: (M ++ (xs[xs.length - 1 - i]'(by omega) :: C))) ∧ revTo xs (i + 1) = A ++ (xs[xs.length - 1 - i]'(by omega) :: (M ++ (xs[i] :: C))) := by
  have hj : xs.length - 1 - i < xs.length := by omega
  refine ⟨(xs.drop (xs.length - i)).reverse, (xs.take (xs.length - 1 - i)).drop (i + 1), (xs.take i).reverse, by simp; omega, by simp; omega, ?_, ?_⟩
  · unfold revTo
    have e1 : xs.take (xs.length - i) = xs.take (xs.length - 1 - i) ++ [xs[xs.length - 1 - i]] := by
      have := List.take_succ_eq_append_getElem hj
      rw [← this]; congr 1; omega
    have e2 : (xs.take (xs.length - 1 - i)).drop i = xs[i] :: (xs.take (xs.length - 1 - i)).drop (i + 1) := by
      rw [List.drop_eq_getElem_cons (by simp; omega)]
      simp
    rw [e1, List.drop_append_of_le_length (by simp; omega), e2]
    simp
  · unfold revTo
    have e1 : xs.drop (xs.length - (i + 1)) = xs[xs.length - 1 - i] :: xs.drop (xs.length - i) := by
      have := List.drop_eq_getElem_cons hj
      rw [show xs.length - (i + 1) = xs.length - 1 - i by omega, this]
      congr 2; omega
    have e2 : xs.take (i + 1) = xs.take i ++ [xs[i]] := List.take_succ_eq_append_getElem (by omega)
    rw [e1, e2, show xs.length - (i + 1) = xs.length - 1 - i by omega]
    simp
end Go.Proofs.YtmeefmoblkiebaaGreat
/- Contracts: the ends of a way, and whether one of them is on a line. -/
namespace Go.Proofs.YtmeefmoblkiebaaGreat
open Go.RowKit
set_option linter.unusedVariables false
set_option linter.unusedSimpArgs false
set_option maxHeartbeats 400000
set_option maxRecDepth 100000
theorem containsFuncCe_any {B : Nat} (K : Nat) (caps : Array Value) (a : Option Addr) (cap : Nat) (ps : List Ce) (w : World) (hps : CesAt B w a ps) (hok : CesOk ps) (hB : B ≤ w.heap.size) (hn : ps.length ≤ 10000000)
   (eg : ∀ (args : Array Value) (w : World), (callFunc K args).run Tryz.prog w = .ok (.enter K args) w) (q : Ce → Bool) (hf : ∀ (p : Ce) (w1 : World), p.ok → Below w.heap.size w w1 → Calls Tryz.prog K (#[p.val] ++ caps) w1 fun e w' => e = .returned (.bool (q p)) ∧ Below w1.heap.size w1 w') :
    Calls Tryz.prog 121 #[.slice a ps.length cap, .func (.func K) #[] caps] w fun e w' => e = .returned (.bool (ps.any q)) ∧ Below w.heap.size w w' := by
  have H := Lib.hid (indexFuncCe_any K caps a cap ps w hps hok hB hn eg q hf)
  have HV := Lib.hid (show decide (0 ≤ (ps.findIdx? q).elim (-1 : Int) (fun n => (n : Int))) = ps.any q by
    cases hf : ps.findIdx? q with
    | none =>
      rw [List.findIdx?_eq_none_iff] at hf
      have : ps.any q = false := by rw [Bool.eq_false_iff]; intro h; rw [List.any_eq_true] at h; obtain ⟨x, hx, hq⟩ := h; rw [hf x hx] at hq; cases hq
      rw [this]; rfl
    | some k =>
      rw [List.findIdx?_eq_some_iff_getElem] at hf
      obtain ⟨h1, h2, -⟩ := hf
      have : ps.any q = true := by rw [List.any_eq_true]; exact ⟨_, List.getElem_mem h1, h2⟩
      rw [this]; simp)
  go_enter Tryz.func121, Tryz.ntmps121
  go_wp2_with fail
  refine H.out.mono ?_
  rintro e w1 ⟨rfl, hb⟩
  go_wp2
  go_ret
  exact ⟨by rw [← HV.out]; rfl, (by repeat (first | with_reducible exact Below.refl _ _ | with_reducible assumption | with_reducible apply bl_drewN | with_reducible apply bl_drew | with_reducible apply bl_alloc | (with_reducible refine bl_set ?_ (by first | (simp; done) | (simp; omega)) _) | with_reducible refine bl_trans ?_ (by with_reducible assumption)))⟩
end Go.Proofs.YtmeefmoblkiebaaGreat
/- Contracts: slices of Port, element for element. -/
namespace Go.Proofs.YtmeefmoblkiebaaGreat
open Go.RowKit
set_option linter.unusedVariables false
set_option linter.unusedSimpArgs false
set_option maxHeartbeats 400000
set_option maxRecDepth 100000

theorem Tryz.infoPort : (Tryz.prog.info? 127).map (fun i => (i.zero, i.size, i.bytes)) = some (some (.agg #[.int .i8 0, .int .i8 0, .int .i8 0]), 3, 3) := by kernel_rfl
def mkPo1 (k : Int) : Po := ⟨(IntKind.i8.wrap k), (IntKind.i8.wrap (k + 1)), (IntKind.i8.wrap (k + 1 + 1))⟩
def mkPo (k : Int) (n : Nat) : List Po := (List.range n).map fun (i : Nat) => mkPo1 (k + 3 * (i : Int))
theorem mkPo_succ (k : Int) (n : Nat) : mkPo k (n + 1) = mkPo k n ++ [mkPo1 (k + 3 * n)] := by simp [mkPo, List.range_succ]
theorem mkPo_len (k : Int) (n : Nat) : (mkPo k n).length = n := by simp [mkPo]
end Go.Proofs.YtmeefmoblkiebaaGreat
/- The walk of the law FnExactFreeCells. -/
namespace Go.Proofs.YtmeefmoblkiebaaGreat
open Go.RowKit
set_option linter.unusedVariables false
set_option linter.unusedSimpArgs false
set_option maxHeartbeats 400000
set_option maxRecDepth 100000

/-- A block's first cells. -/
abbrev BX3 (w : World) (b : Nat) (v0 v1 v2 : Value) : Prop := b < w.heap.size ∧ w.cell? ⟨b, 0, none⟩ = some v0 ∧ w.cell? ⟨b, 1, none⟩ = some v1 ∧ w.cell? ⟨b, 2, none⟩ = some v2
theorem BX3.step {w w' : World} {b : Nat} {v0 v1 v2 : Value} (h : BX3 w b v0 v1 v2) (hb : Below w.heap.size w w') : BX3 w' b v0 v1 v2 := by
  obtain ⟨h1, h2⟩ := h
  refine ⟨Nat.lt_of_lt_of_le h1 hb.size, ?_⟩
  simp only [hb.cell (p := ⟨b, _, none⟩) h1]
  exact h2
theorem BX3.new (w : World) (v0 v1 v2 : Value) (T : TypeId) : BX3 (w.alloc (.cells #[v0, v1, v2] T)) w.heap.size v0 v1 v2 := by
  have hh := heap_alloc_new w (.cells #[v0, v1, v2] T)
  refine ⟨by simp, ?_, ?_, ?_⟩ <;> (rw [cell_of_row _ _ _ _ _ _ hh]; rfl)

end Go.Proofs.YtmeefmoblkiebaaGreat
/- Contracts: machines in the statements' own file. -/
namespace Go.Proofs.YtmeefmoblkiebaaGreat
open Go.RowKit
set_option linter.unusedVariables false
set_option linter.unusedSimpArgs false
set_option maxHeartbeats 400000
set_option maxRecDepth 100000
/-- A value that reads as a machine. -/
def MV (w : World) (v : Value) (m : Mc) : Prop := ∃ s si so, v = mcv m.bd.wd m.bd.hg s si so ∧ PV w s m.bd.ps ∧ RV Po.cells w si m.ins ∧ RV Ce.cells w so m.outs
theorem MV.step {w w' : World} {v : Value} {m : Mc} (h : MV w v m) (hb : Below w.heap.size w w') : MV w' v m := by
  obtain ⟨s, si, so, rfl, h1, h2, h3⟩ := h
  exact ⟨s, si, so, rfl, h1.step hb, h2.step hb, h3.step hb⟩
/-- A block's first five cells. -/
abbrev BX5 (w : World) (b : Nat) (v0 v1 v2 v3 v4 : Value) : Prop := b < w.heap.size ∧ w.cell? ⟨b, 0, none⟩ = some v0 ∧ w.cell? ⟨b, 1, none⟩ = some v1 ∧ w.cell? ⟨b, 2, none⟩ = some v2 ∧ w.cell? ⟨b, 3, none⟩ = some v3 ∧ w.cell? ⟨b, 4, none⟩ = some v4
theorem BX5.step {w w' : World} {b : Nat} {v0 v1 v2 v3 v4 : Value} (h : BX5 w b v0 v1 v2 v3 v4) (hb : Below w.heap.size w w') : BX5 w' b v0 v1 v2 v3 v4 := by
  obtain ⟨h1, h2⟩ := h
  refine ⟨Nat.lt_of_lt_of_le h1 hb.size, ?_⟩
  simp only [hb.cell (p := ⟨b, _, none⟩) h1]
  exact h2
theorem BX5.new (w : World) (v0 v1 v2 v3 v4 : Value) (T : TypeId) : BX5 (w.alloc (.cells #[v0, v1, v2, v3, v4] T)) w.heap.size v0 v1 v2 v3 v4 := by
  have hh := heap_alloc_new w (.cells #[v0, v1, v2, v3, v4] T)
  refine ⟨by simp, ?_, ?_, ?_, ?_, ?_⟩ <;> (rw [cell_of_row _ _ _ _ _ _ hh]; rfl)
def sz3 (n n1 n2 : Nat) (left : Int) : Int := if (n : Int) + n1 + n2 ≤ left then left - n - n1 - n2 else -1
theorem own_sl {w : World} {base : Nat} {e : TypeId} {k n n' cap : Nat} {a : Option Addr} {xs : List Value} (h : w.ownsRow base e k (.slice a n' cap) n xs) : SlAt w.heap.size w a xs := by
  obtain ⟨a', cap', e1, h1, -⟩ := own_at h
  simp only [Value.slice.injEq] at e1
  obtain ⟨rfl, -, -⟩ := e1
  exact h1
/-- No block of both. -/
def Apart (v v' : Value) : Prop := (∀ k, v.ownBlock = some k → some k ≠ v'.ownBlock) ∧ ∀ k, v'.ownBlock = some k → some k ≠ v.ownBlock
/-- A machine whose three rows are the call's own. -/
def OwnM (w : World) (base : Nat) (s si so : Value) (m : Mc) : Prop :=
  w.ownsRow base 49 5 s m.bd.ps.length (flat Pc.cells m.bd.ps) ∧ w.ownsRow base 127 3 si m.ins.length (flat Po.cells m.ins) ∧ w.ownsRow base 47 2 so m.outs.length (flat Ce.cells m.outs) ∧ Apart s si ∧ Apart s so ∧ Apart si so
theorem OwnM.mv {w : World} {base : Nat} {s si so : Value} {m : Mc} (h : OwnM w base s si so m) : MV w (mcv m.bd.wd m.bd.hg s si so) m :=
  ⟨s, si, so, rfl, own_pv h.1, own_rv h.2.1, own_rv h.2.2.1⟩
theorem OwnM.below {w w' : World} {base : Nat} {s si so : Value} {m : Mc} (h : OwnM w base s si so m) (hb : Below w.heap.size w w') : OwnM w' base s si so m :=
  ⟨own_below h.1 hb (Nat.le_refl _), own_below h.2.1 hb (Nat.le_refl _), own_below h.2.2.1 hb (Nat.le_refl _), h.2.2.2⟩
/-- A row apart from a machine's rows. -/
def ApM (v s si so : Value) : Prop := Apart v s ∧ Apart v si ∧ Apart v so
theorem ownM_apart {w w' : World} {base base' e' k' n' : Nat} {s si so v' : Value} {m : Mc} {xs' : List Value} (h : OwnM w base s si so m) (h' : w'.ownsRow base' e' k' v' n' xs') (hb : w.heap.size ≤ base') : ApM v' s si so :=
  ⟨⟨own_apart' h.1 h' hb, own_apart h.1 h' hb⟩, ⟨own_apart' h.2.1 h' hb, own_apart h.2.1 h' hb⟩, own_apart' h.2.2.1 h' hb, own_apart h.2.2.1 h' hb⟩
theorem ownM_apart' {w w' : World} {base base' e' k' n' : Nat} {s si so v' : Value} {m : Mc} {xs' : List Value} (h' : w'.ownsRow base' e' k' v' n' xs') (h : OwnM w base s si so m) (hb : w'.heap.size ≤ base) : ApM v' s si so :=
  ⟨⟨own_apart h' h.1 hb, own_apart' h' h.1 hb⟩, ⟨own_apart h' h.2.1 hb, own_apart' h' h.2.1 hb⟩, own_apart h' h.2.2.1 hb, own_apart' h' h.2.2.1 hb⟩
theorem own_kept3 {w a b w' : World} {base e k n : Nat} {v s si so : Value} {xs : List Value} (h : w.ownsRow base e k v n xs) (g1 : w.grownBy a s.ownBlock) (g2 : a.grownBy b si.ownBlock) (g3 : b.grownBy w' so.ownBlock) (hp : ApM v s si so) : w'.ownsRow base e k v n xs :=
  own_kept (own_kept (own_kept h g1 hp.1.1) g2 hp.2.1.1) g3 hp.2.2.1
theorem bl_grown3 {z w a b w' : World} {base : Nat} {s si so : Value} {m : Mc} (hb : Below z.heap.size z w) (g1 : w.grownBy a s.ownBlock) (g2 : a.grownBy b si.ownBlock) (g3 : b.grownBy w' so.ownBlock) (h : OwnM w base s si so m) (hz : z.heap.size ≤ base) : Below z.heap.size z w' :=
  bl_grown (bl_grown (bl_grown hb g1 (fun k hk => Nat.le_trans hz (h.1.lt k hk).1)) g2 (fun k hk => Nat.le_trans hz (h.2.1.lt k hk).1)) g3 (fun k hk => Nat.le_trans hz (h.2.2.1.lt k hk).1)
end Go.Proofs.YtmeefmoblkiebaaGreat
/- Contracts: which machines are valid (the program). -/
namespace Go.Proofs.YtmeefmoblkiebaaGreat
open Go.RowKit
set_option linter.unusedVariables false
set_option linter.unusedSimpArgs false
set_option maxHeartbeats 400000
set_option maxRecDepth 100000
/-- A value that reads as a machine, its inputs within their room. -/
def MVc (w : World) (v : Value) (m : Mc) : Prop := ∃ sa scap ia icap oa ocap, v = mcv m.bd.wd m.bd.hg (.slice sa m.bd.ps.length scap) (.slice ia m.ins.length icap) (.slice oa m.outs.length ocap) ∧ m.ins.length ≤ icap ∧ PcsAt w.heap.size w sa m.bd.ps ∧ SlAt w.heap.size w ia (flat Po.cells m.ins) ∧ SlAt w.heap.size w oa (flat Ce.cells m.outs)
theorem MVc.step {w w' : World} {v : Value} {m : Mc} (h : MVc w v m) (hb : Below w.heap.size w w') : MVc w' v m := by
  obtain ⟨sa, scap, ia, icap, oa, ocap, rfl, h0, h1, h2, h3⟩ := h
  exact ⟨sa, scap, ia, icap, oa, ocap, rfl, h0, (h1.below hb (Nat.le_refl _)).mono hb.size, (h2.below hb (Nat.le_refl _)).mono hb.size, (h3.below hb (Nat.le_refl _)).mono hb.size⟩
theorem OwnM.mvc {w : World} {base : Nat} {s si so : Value} {m : Mc} (h : OwnM w base s si so m) : MVc w (mcv m.bd.wd m.bd.hg s si so) m := by
  obtain ⟨h1, h2, h3, -⟩ := h
  obtain ⟨a, cap, rfl, h1, -⟩ := own_at h1
  obtain ⟨a1, cap1, rfl, h2, h4, -⟩ := own_at h2
  obtain ⟨a2, cap2, rfl, h3, -⟩ := own_at h3
  exact ⟨a, cap, a1, cap1, a2, cap2, rfl, h4, h1, h2, h3⟩
theorem MVc.mv {w : World} {v : Value} {m : Mc} (h : MVc w v m) : MV w v m := by
  obtain ⟨sa, scap, ia, icap, oa, ocap, rfl, h0, h1, h2, h3⟩ := h
  exact ⟨_, _, _, rfl, ⟨sa, scap, rfl, h1⟩, ⟨ia, icap, rfl, h2⟩, ⟨oa, ocap, rfl, h3⟩⟩
theorem SlAt.pre {B : Nat} {w : World} {a : Option Addr} {ys zs : List Value} (h : SlAt B w a (ys ++ zs)) : SlAt B w a ys := by
  intro j hj
  obtain ⟨b, off, h1, h2, h3⟩ := h j (by simp; omega)
  exact ⟨b, off, h1, h2, by rw [h3, List.getElem_append_left hj]⟩
theorem slAt_take {α : Type} {f : α → List Value} {B : Nat} {w : World} {a : Option Addr} {l : List α} (h : SlAt B w a (flat f l)) (k : Nat) : SlAt B w a (flat f (l.take k)) := by
  rw [← List.take_append_drop k l, flat_append] at h
  exact h.pre
theorem all_outOk (ps : List Pc) (cs : List Ce) : cs.all (outOk ps) = !(cs.any (fun c => decide (fnd c ps < 0))) := by
  induction cs with
  | nil => rfl
  | cons c cs ih =>
    rw [List.all_cons, List.any_cons, ih]
    have : outOk ps c = !(decide (fnd c ps < 0)) := by
      unfold outOk
      by_cases hc : fnd c ps < 0
      · rw [decide_eq_true hc, decide_eq_false (by omega)]; rfl
      · rw [decide_eq_false hc, decide_eq_true (by omega)]; rfl
    rw [this, Bool.not_or]
theorem eg_vm1 (args : Array Value) (w : World) : (callFunc 122 args).run Tryz.prog w = .ok (.enter 122 args) w := by kernel_rfl
theorem vm1_any (c : Ce) (b0 : Nat) (l : Bd) (w : World) (hb : BP w b0 l) (hlok : l.ok) (hn : l.ps.length ≤ 10000000) :
    Calls Tryz.prog 122 #[c.val, .pointer (some ⟨b0, 0, none⟩)] w fun e w' => e = .returned (.bool (decide (fnd c l.ps < 0))) ∧ Below w.heap.size w w' := by
  have hne : b0 ≠ w.heap.size := by have := hb.1; omega
  have H := Lib.hid (at_any b0 l c (w.alloc (.cells #[.int .i8 c.x, .int .i8 c.y] 47)) (hb.step (bl_alloc (Below.refl _ _))) hlok hn)
  go_enter Tryz.func122, Tryz.ntmps122
  go_wp2_with (go_at_call 59; refine H.out.mono ?_; rintro e w1 ⟨rfl, hb1⟩)
  go_ret
  exact ⟨rfl, (by repeat (first | with_reducible exact Below.refl _ _ | with_reducible assumption | with_reducible apply bl_drewN | with_reducible apply bl_drew | with_reducible apply bl_alloc | (with_reducible refine bl_set ?_ (by first | (simp; done) | (simp; omega)) _) | with_reducible refine bl_trans ?_ (by with_reducible assumption)))⟩
set_option maxHeartbeats 3200000 in
theorem validMachine_any (m : Mc) (v : Value) (w : World) (h : MVc w v m) (hok : m.ok) (hn : m.bd.ps.length ≤ 10000000) (hn1 : m.ins.length ≤ 10000000) (hn2 : m.outs.length ≤ 10000000) :
    Calls Tryz.prog 68 #[v] w fun e w' => e = .returned (.bool (vMc m)) ∧ Below w.heap.size w w' := by
  obtain ⟨sa, scap, ia, icap, oa, ocap, rfl, hcap, hps, hins, houts⟩ := h
  have HBA := Lib.hid (show Below w.heap.size w (w.alloc (.cells #[.int .i8 m.bd.wd, .int .i8 m.bd.hg, .slice sa m.bd.ps.length scap, .slice ia m.ins.length icap, .slice oa m.outs.length ocap] 55)) from bl_alloc (Below.refl _ _))
  have HM0 := MP.new (m := m) (w := w) ⟨sa, scap, rfl, hps⟩ ⟨ia, icap, rfl, hins⟩ ⟨oa, ocap, rfl, houts⟩ 55
  have X0 := BX5.new w (.int .i8 m.bd.wd) (.int .i8 m.bd.hg) (.slice sa m.bd.ps.length scap) (.slice ia m.ins.length icap) (.slice oa m.outs.length ocap) 55
  have HV := Lib.hid (fun w1 (hb : Below w.heap.size w w1) => validBoard_any m.bd.wd m.bd.hg sa scap m.bd.ps w1 ((hps.below hb (Nat.le_refl _)).mono hb.size) hok.1 hn)
  have HVM := Lib.hid (vMc_ht m)
  generalize vMc m = r at HVM ⊢
  have HHD : Hid (headM m = (vBd m.bd && decide (m.bd.ps.length ≤ 60) && inB m.ins.length 1 6 && inB m.outs.length 1 8)) := Lib.hid rfl
  obtain ⟨W, hW⟩ : ∃ W, W = w.alloc (.cells #[.int .i8 m.bd.wd, .int .i8 m.bd.hg, .slice sa m.bd.ps.length scap, .slice ia m.ins.length icap, .slice oa m.outs.length ocap] 55) := ⟨_, rfl⟩
  rw [← hW] at HBA HM0 X0
  have HM := Lib.hid HM0
  have HX := Lib.hid X0
  clear HM0 X0
  cases g0 : headM m with
  | false =>
    have HR : Hid (r = false) := Lib.hid (by rw [HVM.out, g0]; rfl)
    rw [g0] at HHD
    clear HVM g0 hins houts hps
    cases g1 : vBd m.bd with
    | false =>
      have g1' : vBd ⟨m.bd.wd, m.bd.hg, m.bd.ps⟩ = false := g1
      rw [g1'] at HV
      clear HHD g1 g1'
      go_enter Tryz.func68, Tryz.ntmps68
      go_wp2_with fail
      rw [← hW]
      refine (HV.out _ HBA.out).mono ?_
      rintro e w1 ⟨rfl, hb1⟩
      go_wp2
      go_ret
      exact ⟨by rw [HR.out]; rfl, bl_trans HBA.out hb1⟩
    | true =>
      have g1' : vBd ⟨m.bd.wd, m.bd.hg, m.bd.ps⟩ = true := g1
      rw [g1'] at HV
      rcases dec_cases ((60 : Int) < m.bd.ps.length) with ⟨g2, k2⟩ | ⟨g2, k2⟩
      · clear HHD g1 k2 g1'
        go_enter Tryz.func68, Tryz.ntmps68
        go_wp2_with fail
        rw [← hW]
        refine (HV.out _ HBA.out).mono ?_
        rintro e w1 ⟨rfl, hb1⟩
        obtain ⟨-, c0, c1, c2, c3, c4⟩ := HX.out.step hb1
        go_wp2
        go_ret
        exact ⟨by rw [HR.out]; rfl, bl_trans HBA.out hb1⟩
      · have e2 : decide (m.bd.ps.length ≤ 60) = true := decide_eq_true (by omega)
        rw [g1, e2] at HHD
        clear g1 k2 e2 g1'
        cases g3 : inB m.ins.length 1 6 with
        | false =>
          clear HHD
          go_enter Tryz.func68, Tryz.ntmps68
          go_wp2_with fail
          rw [← hW]
          refine (HV.out _ HBA.out).mono ?_
          rintro e w1 ⟨rfl, hb1⟩
          obtain ⟨-, c0, c1, c2, c3, c4⟩ := HX.out.step hb1
          go_wp2_with (go_at_call 64; refine (in_any _ _ _ _).mono ?_; rintro e w' ⟨rfl, rfl⟩)
          go_ret
          exact ⟨by rw [HR.out]; rfl, bl_trans HBA.out hb1⟩
        | true =>
          have g4 : inB m.outs.length 1 8 = false := by
            have := HHD.out
            rw [g3] at this
            simpa using this.symm
          clear HHD
          go_enter Tryz.func68, Tryz.ntmps68
          go_wp2_with fail
          rw [← hW]
          refine (HV.out _ HBA.out).mono ?_
          rintro e w1 ⟨rfl, hb1⟩
          obtain ⟨-, c0, c1, c2, c3, c4⟩ := HX.out.step hb1
          go_wp2_with (go_at_call 64; refine (in_any _ _ _ _).mono ?_; rintro e w' ⟨rfl, rfl⟩)
          go_ret
          exact ⟨by rw [HR.out]; rfl, bl_trans HBA.out hb1⟩
  | true =>
    have HR : Hid (r = tailM m) := Lib.hid (by rw [HVM.out, g0]; rfl)
    rw [g0] at HHD
    have hh := HHD.out.symm
    simp only [Bool.and_eq_true, decide_eq_true_eq] at hh
    obtain ⟨⟨⟨g1, g2⟩, g3⟩, g4⟩ := hh
    have g1' : vBd ⟨m.bd.wd, m.bd.hg, m.bd.ps⟩ = true := g1
    rw [g1'] at HV
    have e2 : decide ((60 : Int) < m.bd.ps.length) = false := decide_eq_false (by omega)
    have HTL : Hid (tailM m = (m.ins.all (poOk m.bd.ps) && decide m.ins.Nodup && m.outs.all (outOk m.bd.ps))) := Lib.hid rfl
    clear HHD HVM g0 g1 g1'
    go_enter Tryz.func68, Tryz.ntmps68
    go_wp2_with fail
    rw [← hW]
    have hwlt : w.heap.size < W.heap.size := HX.out.1
    refine (HV.out _ HBA.out).mono ?_
    rintro e w1 ⟨rfl, hb1⟩
    obtain ⟨-, c0, c1, c2, c3, c4⟩ := HX.out.step hb1
    have HB1 := Lib.hid hb1
    clear hb1
    go_wp2_with (go_at_call 64; refine (in_any _ _ _ _).mono ?_; rintro e w' ⟨rfl, rfl⟩)
    go_loopw [33] (fun ix wr => ∃ k : Nat, k ≤ m.ins.length ∧ ix = .int .i64 k ∧ Hid (insTo m k) ∧ Below W.heap.size W wr) (fun ix _ => m.ins.length - (intOf ix).toNat)
    case atStart => exact ⟨0, by omega, rfl, Lib.hid ⟨by simp, by simp⟩, HB1.out⟩
    case round =>
      clear c0 c1 c2 c3 c4
      obtain ⟨k, hk, rfl, hto, hb⟩ := hrel
      obtain ⟨hwr, c0, c1, c2, c3, c4⟩ := HX.out.step hb
      have hbw := bl_trans HBA.out hb
      by_cases hlt : k < m.ins.length
      · obtain ⟨b, off, rfl, hbi, hat⟩ := pos_get hins hlt
        unfold PoAt at hat
        obtain ⟨a0, a1, a2⟩ := hat
        have q0 : wr.cell? ⟨b, off + k * 3, none⟩ = some (.int .i8 m.ins[k].x) := by rw [hbw.cell (p := ⟨_, _, none⟩) hbi]; exact a0
        have q1 : wr.cell? ⟨b, off + k * 3 + 1, none⟩ = some (.int .i8 m.ins[k].y) := by rw [hbw.cell (p := ⟨_, _, none⟩) hbi]; exact a1
        have q2 : wr.cell? ⟨b, off + k * 3 + 2, none⟩ = some (.int .i8 m.ins[k].s) := by rw [hbw.cell (p := ⟨_, _, none⟩) hbi]; exact a2
        obtain ⟨ok0, ok1, ok2⟩ := hok.2.1 k hlt
        have s1 : IntKind.i64.wrap m.ins[k].s = m.ins[k].s := by rw [IntKind.wrap_i64]; unfold I8 at ok2; omega
        obtain ⟨P, hP⟩ : ∃ P, P = m.ins[k] := ⟨_, rfl⟩
        rw [← hP] at q0 q1 q2 s1
        have HP := Lib.hid hP
        have HAL := Lib.hid (show Below wr.heap.size wr (wr.alloc (.cells #[.int .i8 P.x, .int .i8 P.y, .int .i8 P.s] 127)) from bl_alloc (Below.refl _ _))
        have HBW := Lib.hid (bl_trans hbw HAL.out)
        have HBB := Lib.hid (bl_trans hb HAL.out)
        have hX3 := BX3.new wr (.int .i8 P.x) (.int .i8 P.y) (.int .i8 P.s) 127
        clear hP ok0 ok1 ok2 a0 a1 a2
        go_wp2
        obtain ⟨w2, hw2⟩ : ∃ w2, w2 = wr.alloc (.cells #[.int .i8 P.x, .int .i8 P.y, .int .i8 P.s] 127) := ⟨_, rfl⟩
        rw [← hw2] at HBW HBB HAL hX3 ⊢
        obtain ⟨hp2, p0, p1, p2⟩ := hX3
        obtain ⟨hw22, d0, d1, d2, d3, d4⟩ := HX.out.step HBB.out
        clear hw2 c0 c1 c2 c3 c4 q0 q1 q2
        cases gs : inB m.ins[k].s 0 3 with
        | false =>
          have HS := Lib.hid (fun w => gs ▸ isSide_any m.ins[k].s w)
          rw [← HP.out] at HS
          have HRF : Hid (r = false) := Lib.hid (by rw [HR.out, HTL.out, insTo_bad m k hlt (by unfold poOk; rw [gs]; rfl)]; rfl)
          clear gs
          (refine wp_region_ext (by kernel_rfl) (by kernel_rfl) ?_; have hX := @ext_cell; (repeat (go_big_quiet_step ((go_at_call 119; exact ext_same (HS.out _))))); refine wpQuiet_nil ?_; clear hX; intro wx hw'; obtain ⟨⟨wx, hbx⟩, rfl⟩ := hw'; obtain ⟨hcx, hfx⟩ := bcell hbx)
          go_wp2
          go_ret
          exact ⟨by rw [HRF.out]; rfl, bl_trans HBW.out hbx⟩
        | true =>
          have HS := Lib.hid (fun w => gs ▸ isSide_any m.ins[k].s w)
          rw [← HP.out] at HS
          have HFD := Lib.hid (fun u : Ext w2 => at_any w.heap.size m.bd ⟨P.x, P.y⟩ u.w ((HM.out.step HBB.out).step u.b).bp hok.1 hn)
          obtain ⟨fk, hfk⟩ : ∃ fk, fk = fnd ⟨P.x, P.y⟩ m.bd.ps := ⟨_, rfl⟩
          rw [← hfk] at HFD
          have HPK : Hid (poOk m.bd.ps m.ins[k] = decide (0 ≤ fk)) := Lib.hid (by unfold poOk; rw [gs, hfk, HP.out]; rfl)
          clear gs hfk
          rcases dec_cases (fk < 0) with ⟨gf, kf⟩ | ⟨gf, kf⟩
          · have HRF : Hid (r = false) := Lib.hid (by rw [HR.out, HTL.out, insTo_bad m k hlt (by rw [HPK.out]; exact decide_eq_false (by omega))]; rfl)
            clear kf
            (refine wp_region_ext (by kernel_rfl) (by kernel_rfl) ?_; have hX := @ext_cell; (repeat (go_big_quiet_step (first | (go_at_call 119; exact ext_same (HS.out _)) | (go_at_call 59; exact ext_call (HFD.out _))))); refine wpQuiet_nil ?_; clear hX; intro wx hw'; obtain ⟨⟨wx, hbx⟩, rfl⟩ := hw'; obtain ⟨hcx, hfx⟩ := bcell hbx)
            go_wp2
            go_ret
            exact ⟨by rw [HRF.out]; rfl, bl_trans HBW.out hbx⟩
          · have HPT : Hid (poOk m.bd.ps m.ins[k] = true) := Lib.hid (by rw [HPK.out]; exact decide_eq_true (by omega))
            have HCN := Lib.hid (fun u : Ext w2 => (show Calls Tryz.prog 120 #[.slice (some ⟨b, off, none⟩) k icap, P.val] u.w (fun e w' => e = .returned (.bool (decide (P ∈ m.ins.take k))) ∧ Below u.w.heap.size u.w w') from by
              have h8 := containsPo_any (B := w.heap.size) (some ⟨b, off, none⟩) icap (m.ins.take k) P u.w (slAt_take (hins.below (bl_trans HBW.out u.b) (Nat.le_refl _)) k) (bl_trans HBW.out u.b).size (by rw [List.length_take]; omega)
              rwa [List.length_take, Nat.min_eq_left hk] at h8))
            have hkc : (k : Int) ≤ icap := by omega
            have hkc2 : k ≤ icap := by omega
            clear kf
            cases gm : decide (P ∈ m.ins.take k) with
            | true =>
              rw [gm] at HCN
              have HRF : Hid (r = false) := Lib.hid (by
                rw [decide_eq_true_eq, List.mem_take_iff_getElem] at gm
                obtain ⟨j, hj, he⟩ := gm
                rw [HR.out, HTL.out, ins_dup m j k (by omega) hlt (by rw [he, HP.out])]; simp)
              clear gm
              (refine wp_region_ext (by kernel_rfl) (by kernel_rfl) ?_; have hX := @ext_cell; (repeat (go_big_quiet_step (first | (go_at_call 119; exact ext_same (HS.out _)) | (go_at_call 59; exact ext_call (HFD.out _)) | (go_at_call 120; exact ext_call (HCN.out _))))); refine wpQuiet_nil ?_; clear hX; intro wx hw'; obtain ⟨⟨wx, hbx⟩, rfl⟩ := hw'; obtain ⟨hcx, hfx⟩ := bcell hbx)
              go_wp2
              go_ret
              exact ⟨by rw [HRF.out]; rfl, bl_trans HBW.out hbx⟩
            | false =>
              rw [gm] at HCN
              have HT2 := Lib.hid (insTo_succ m k hlt hto.out HPT.out (fun i hi e => by
                rw [decide_eq_false_iff_not] at gm
                apply gm
                rw [List.mem_take_iff_getElem]
                exact ⟨i, by omega, by rw [e, HP.out]⟩))
              clear gm
              (refine wp_region_ext (by kernel_rfl) (by kernel_rfl) ?_; have hX := @ext_cell; (repeat (go_big_quiet_step (first | (go_at_call 119; exact ext_same (HS.out _)) | (go_at_call 59; exact ext_call (HFD.out _)) | (go_at_call 120; exact ext_call (HCN.out _))))); refine wpQuiet_nil ?_; clear hX; intro wx hw'; obtain ⟨⟨wx, hbx⟩, rfl⟩ := hw'; obtain ⟨hcx, hfx⟩ := bcell hbx)
              go_wp2
              go_roundw
              case rel => exact ⟨k + 1, by omega, by go_num, HT2, bl_trans HBB.out hbx⟩
              case measure => simp [intOf]; omega
      · have hkn : k = m.ins.length := by omega
        subst hkn
        have HIA : Hid (m.ins.all (poOk m.bd.ps) = true ∧ decide m.ins.Nodup = true) := Lib.hid (by
          have := hto.out
          unfold insTo at this
          rw [List.take_length] at this
          exact ⟨this.1, decide_eq_true this.2⟩)
        have HR2 : Hid (r = !(m.outs.any (fun c => decide (fnd c m.bd.ps < 0)))) := Lib.hid (by
          rw [HR.out, HTL.out, HIA.out.1, HIA.out.2]
          simp only [Bool.true_and]
          exact all_outOk _ _)
        have HCF := Lib.hid (containsFuncCe_any (B := wr.heap.size) 122 #[.pointer (some ⟨w.heap.size, 0, none⟩)] oa ocap m.outs wr ((houts.below hbw (Nat.le_refl _)).mono hbw.size) hok.2.2 (Nat.le_refl _) hn2 eg_vm1 (fun c => decide (fnd c m.bd.ps < 0)) (fun p w1 hp hb1 => vm1_any p w.heap.size m.bd w1 ((HM.out.step hb).step hb1).bp hok.1 hn))
        have HBF := Lib.hid hbw
        clear HR HTL hto hins houts hps
        go_wp2_with fail
        refine HCF.out.mono ?_
        rintro e w3 ⟨rfl, hb3⟩
        go_wp2
        go_ret
        exact ⟨by rw [HR2.out]; rfl, bl_trans HBF.out hb3⟩
end Go.Proofs.YtmeefmoblkiebaaGreat
