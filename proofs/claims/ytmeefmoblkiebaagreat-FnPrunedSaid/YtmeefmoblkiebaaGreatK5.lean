import Derived.Test.YtmeefmoblkiebaaGreatK4
import Derived.Deep.DeepFit
import Derived.Deep.RegionHeld3
import Derived.Deep.AppendLies
import Derived.Deep.CutRange
import Derived.StillTailTactics
import Derived.BigQuiet
import Derived.BigRegion
import Derived.OwnWalk
/- Contracts: which machines are valid (the reference). -/
namespace Go.Proofs.YtmeefmoblkiebaaGreat
open Go.RowKit
set_option linter.unusedVariables false
set_option linter.unusedSimpArgs false
set_option maxHeartbeats 400000
set_option maxRecDepth 100000
/-- A pointer's block that holds a machine. -/
def MP (w : World) (b : Nat) (m : Mc) : Prop := b < w.heap.size ∧ ∃ s si so, (BdAt w b m.bd.wd m.bd.hg s ∧ w.cell? ⟨b, 3, none⟩ = some si ∧ w.cell? ⟨b, 4, none⟩ = some so) ∧ PV w s m.bd.ps ∧ RV Po.cells w si m.ins ∧ RV Ce.cells w so m.outs
theorem MP.step {w w' : World} {b : Nat} {m : Mc} (h : MP w b m) (hb : Below w.heap.size w w') : MP w' b m := by
  obtain ⟨h1, s, si, so, h2, h3, h4, h5⟩ := h
  refine ⟨Nat.lt_of_lt_of_le h1 hb.size, s, si, so, ?_, h3.step hb, h4.step hb, h5.step hb⟩
  unfold BdAt at *
  simp only [hb.cell (p := ⟨b, _, none⟩) h1]
  exact h2
theorem MP.bp {w : World} {b : Nat} {m : Mc} (h : MP w b m) : BP w b m.bd := by
  obtain ⟨h1, s, si, so, h2, h3, h4, h5⟩ := h
  exact ⟨h1, s, h2.1, h3⟩
theorem MP.new {w : World} {m : Mc} {s si so : Value} (h1 : PV w s m.bd.ps) (h2 : RV Po.cells w si m.ins) (h3 : RV Ce.cells w so m.outs) (T : TypeId) : MP (w.alloc (.cells #[.int .i8 m.bd.wd, .int .i8 m.bd.hg, s, si, so] T)) w.heap.size m := by
  have hb : Below w.heap.size w (w.alloc (.cells #[.int .i8 m.bd.wd, .int .i8 m.bd.hg, s, si, so] T)) := bl_alloc (Below.refl _ _)
  refine ⟨by simp, s, si, so, ?_, h1.step hb, h2.step hb, h3.step hb⟩
  have hh := heap_alloc_new w (.cells #[.int .i8 m.bd.wd, .int .i8 m.bd.hg, s, si, so] T)
  unfold BdAt
  refine ⟨⟨?_, ?_, ?_⟩, ?_, ?_⟩ <;> (rw [cell_of_row _ _ _ _ _ _ hh]; rfl)
def insTo (m : Mc) (k : Nat) : Prop := (m.ins.take k).all (poOk m.bd.ps) = true ∧ (m.ins.take k).Nodup
theorem insTo_succ (m : Mc) (k : Nat) (hk : k < m.ins.length) (h : insTo m k) (h1 : poOk m.bd.ps m.ins[k] = true) (h2 : ∀ j (hj : j < k), m.ins[j] ≠ m.ins[k]) : insTo m (k + 1) := by
  unfold insTo at *
  rw [List.take_succ_eq_append_getElem hk, List.all_append, h.1]
  refine ⟨by simp [h1], ?_⟩
  rw [List.nodup_append]
  refine ⟨h.2, by simp, ?_⟩
  intro a ha b hb
  rw [List.mem_singleton] at hb
  rw [List.mem_take_iff_getElem] at ha
  obtain ⟨j, hj, rfl⟩ := ha
  rw [hb]
  exact h2 j (by omega)
theorem insTo_bad (m : Mc) (k : Nat) (hk : k < m.ins.length) (h1 : poOk m.bd.ps m.ins[k] = false) : m.ins.all (poOk m.bd.ps) = false := by
  rw [List.all_eq_false]
  exact ⟨_, List.getElem_mem hk, by rw [h1]; exact Bool.false_ne_true⟩
theorem ins_dup (m : Mc) (j k : Nat) (hj : j < k) (hk : k < m.ins.length) (he : m.ins[j] = m.ins[k]) : decide m.ins.Nodup = false := by
  rw [decide_eq_false_iff_not]
  intro hn
  rw [List.Nodup, List.pairwise_iff_getElem] at hn
  exact hn j k (by omega) hk hj he
def headM (m : Mc) : Bool := vBd m.bd && decide (m.bd.ps.length ≤ 60) && inB m.ins.length 1 6 && inB m.outs.length 1 8
def tailM (m : Mc) : Bool := m.ins.all (poOk m.bd.ps) && decide m.ins.Nodup && m.outs.all (outOk m.bd.ps)
theorem vMc_ht (m : Mc) : vMc m = (headM m && tailM m) := rfl
set_option maxHeartbeats 3200000 in
theorem l03Ok_any (b0 : Nat) (m : Mc) (w : World) (h : MP w b0 m) (hok : m.ok) (hn : m.bd.ps.length ≤ 10000000) (hn1 : m.ins.length ≤ 10000000) (hn2 : m.outs.length ≤ 10000000) :
    Calls Tryz.prog 78 #[.pointer (some ⟨b0, 0, none⟩)] w fun e w' => e = .returned (.bool (vMc m)) ∧ Below w.heap.size w w' := by
  have HM := Lib.hid h
  have HV := Lib.hid (l01Ok_any b0 m.bd w h.bp hok.1 hn)
  obtain ⟨hbl, s, si, so, ⟨hbd, c3, c4⟩, ⟨sa, scap, rfl, hps⟩, ⟨ia, icap, rfl, hins⟩, ⟨oa, ocap, rfl, houts⟩⟩ := h
  unfold BdAt at hbd
  obtain ⟨c0, c1, c2⟩ := hbd
  have HVM := Lib.hid (vMc_ht m)
  generalize vMc m = r at HVM ⊢
  have HHD : Hid (headM m = (vBd m.bd && decide (m.bd.ps.length ≤ 60) && inB m.ins.length 1 6 && inB m.outs.length 1 8)) := Lib.hid rfl
  cases g0 : headM m with
  | false =>
    have HR : Hid (r = false) := Lib.hid (by rw [HVM.out, g0]; rfl)
    rw [g0] at HHD
    clear HVM g0 hins houts hps
    cases g1 : vBd m.bd with
    | false =>
      rw [g1] at HV
      clear HHD g1
      go_enter Tryz.func78, Tryz.ntmps78
      go_wp2_with fail
      refine HV.out.mono ?_
      rintro e w1 ⟨rfl, hb1⟩
      go_wp2
      go_ret
      exact ⟨by rw [HR.out]; rfl, hb1⟩
    | true =>
      rw [g1] at HV
      rcases dec_cases ((60 : Int) < m.bd.ps.length) with ⟨g2, k2⟩ | ⟨g2, k2⟩
      · clear HHD g1 k2
        go_enter Tryz.func78, Tryz.ntmps78
        go_wp2_with fail
        refine HV.out.mono ?_
        rintro e w1 ⟨rfl, hb1⟩
        have r2 : w1.cell? ⟨b0, 2, none⟩ = some (.slice sa m.bd.ps.length scap) := by rw [hb1.cell (p := ⟨_, _, none⟩) hbl]; exact c2
        go_wp2
        go_ret
        exact ⟨by rw [HR.out]; rfl, hb1⟩
      · have e2 : decide (m.bd.ps.length ≤ 60) = true := decide_eq_true (by omega)
        rw [g1, e2] at HHD
        clear g1 k2 e2
        cases g3 : inB m.ins.length 1 6 with
        | false =>
          clear HHD
          go_enter Tryz.func78, Tryz.ntmps78
          go_wp2_with fail
          refine HV.out.mono ?_
          rintro e w1 ⟨rfl, hb1⟩
          have r2 : w1.cell? ⟨b0, 2, none⟩ = some (.slice sa m.bd.ps.length scap) := by rw [hb1.cell (p := ⟨_, _, none⟩) hbl]; exact c2
          have r3 : w1.cell? ⟨b0, 3, none⟩ = some (.slice ia m.ins.length icap) := by rw [hb1.cell (p := ⟨_, _, none⟩) hbl]; exact c3
          go_wp2_with (go_at_call 79; refine (l00In_any _ _ _ _).mono ?_; rintro e w' ⟨rfl, rfl⟩)
          go_ret
          exact ⟨by rw [HR.out]; rfl, hb1⟩
        | true =>
          have g4 : inB m.outs.length 1 8 = false := by
            have := HHD.out
            rw [g3] at this
            simpa using this.symm
          clear HHD
          go_enter Tryz.func78, Tryz.ntmps78
          go_wp2_with fail
          refine HV.out.mono ?_
          rintro e w1 ⟨rfl, hb1⟩
          have r2 : w1.cell? ⟨b0, 2, none⟩ = some (.slice sa m.bd.ps.length scap) := by rw [hb1.cell (p := ⟨_, _, none⟩) hbl]; exact c2
          have r3 : w1.cell? ⟨b0, 3, none⟩ = some (.slice ia m.ins.length icap) := by rw [hb1.cell (p := ⟨_, _, none⟩) hbl]; exact c3
          have r4 : w1.cell? ⟨b0, 4, none⟩ = some (.slice oa m.outs.length ocap) := by rw [hb1.cell (p := ⟨_, _, none⟩) hbl]; exact c4
          go_wp2_with (go_at_call 79; refine (l00In_any _ _ _ _).mono ?_; rintro e w' ⟨rfl, rfl⟩)
          go_ret
          exact ⟨by rw [HR.out]; rfl, hb1⟩
  | true =>
    have HR : Hid (r = tailM m) := Lib.hid (by rw [HVM.out, g0]; rfl)
    rw [g0] at HHD
    have hh := HHD.out.symm
    simp only [Bool.and_eq_true, decide_eq_true_eq] at hh
    obtain ⟨⟨⟨g1, g2⟩, g3⟩, g4⟩ := hh
    rw [g1] at HV
    have e2 : decide ((60 : Int) < m.bd.ps.length) = false := decide_eq_false (by omega)
    have HTL : Hid (tailM m = (m.ins.all (poOk m.bd.ps) && decide m.ins.Nodup && m.outs.all (outOk m.bd.ps))) := Lib.hid rfl
    clear HHD HVM g0 g1
    go_enter Tryz.func78, Tryz.ntmps78
    go_wp2_with fail
    refine HV.out.mono ?_
    rintro e w1 ⟨rfl, hb1⟩
    have r2 : w1.cell? ⟨b0, 2, none⟩ = some (.slice sa m.bd.ps.length scap) := by rw [hb1.cell (p := ⟨_, _, none⟩) hbl]; exact c2
    have r3 : w1.cell? ⟨b0, 3, none⟩ = some (.slice ia m.ins.length icap) := by rw [hb1.cell (p := ⟨_, _, none⟩) hbl]; exact c3
    have r4 : w1.cell? ⟨b0, 4, none⟩ = some (.slice oa m.outs.length ocap) := by rw [hb1.cell (p := ⟨_, _, none⟩) hbl]; exact c4
    go_wp2_with (go_at_call 79; refine (l00In_any _ _ _ _).mono ?_; rintro e w' ⟨rfl, rfl⟩)
    go_loopw [3] (fun ix wr => ∃ k : Nat, k ≤ m.ins.length ∧ ix = .int .i64 k ∧ Hid (insTo m k) ∧ Below w.heap.size w wr) (fun ix _ => m.ins.length - (intOf ix).toNat)
    case atStart => exact ⟨0, by omega, rfl, Lib.hid ⟨by simp, by simp⟩, hb1⟩
    case round =>
      clear r2 r3 r4 hb1
      obtain ⟨k, hk, rfl, hto, hb⟩ := hrel
      have r3 : wr.cell? ⟨b0, 3, none⟩ = some (.slice ia m.ins.length icap) := by rw [hb.cell (p := ⟨_, _, none⟩) hbl]; exact c3
      have hbr : b0 < wr.heap.size := Nat.lt_of_lt_of_le hbl hb.size
      by_cases hlt : k < m.ins.length
      · obtain ⟨b, off, rfl, hbi, hat⟩ := pos_get hins hlt
        unfold PoAt at hat
        obtain ⟨a0, a1, a2⟩ := hat
        have q0 : wr.cell? ⟨b, off + k * 3, none⟩ = some (.int .i8 m.ins[k].x) := by rw [hb.cell (p := ⟨_, _, none⟩) hbi]; exact a0
        have q1 : wr.cell? ⟨b, off + k * 3 + 1, none⟩ = some (.int .i8 m.ins[k].y) := by rw [hb.cell (p := ⟨_, _, none⟩) hbi]; exact a1
        have q2 : wr.cell? ⟨b, off + k * 3 + 2, none⟩ = some (.int .i8 m.ins[k].s) := by rw [hb.cell (p := ⟨_, _, none⟩) hbi]; exact a2
        have hbir : b < wr.heap.size := Nat.lt_of_lt_of_le hbi hb.size
        obtain ⟨ok0, ok1, ok2⟩ := hok.2.1 k hlt
        have s1 : IntKind.i64.wrap m.ins[k].s = m.ins[k].s := by rw [IntKind.wrap_i64]; unfold I8 at ok2; omega
        cases gs : inB m.ins[k].s 0 3 with
        | false =>
          have HS := Lib.hid (fun w => gs ▸ l01Side_any m.ins[k].s w)
          have HRF : Hid (r = false) := Lib.hid (by rw [HR.out, HTL.out, insTo_bad m k hlt (by unfold poOk; rw [gs]; rfl)]; rfl)
          clear gs
          go_wp2
          (refine wp_region_ext (by kernel_rfl) (by kernel_rfl) ?_; have hX := @ext_cell; (repeat (go_big_quiet_step ((go_at_call 129; exact ext_same (HS.out _))))); refine wpQuiet_nil ?_; clear hX; intro wx hw'; obtain ⟨⟨wx, hbx⟩, rfl⟩ := hw'; obtain ⟨hcx, hfx⟩ := bcell hbx)
          go_wp2
          go_ret
          exact ⟨by rw [HRF.out]; rfl, bl_trans hb hbx⟩
        | true =>
          have HS := Lib.hid (fun w => gs ▸ l01Side_any m.ins[k].s w)
          have HFD := Lib.hid (fun u : Ext wr => l01Find_any b0 m.bd ⟨m.ins[k].x, m.ins[k].y⟩ u.w ((HM.out.step hb).step u.b).bp hn)
          obtain ⟨fk, hfk⟩ : ∃ fk, fk = fnd ⟨m.ins[k].x, m.ins[k].y⟩ m.bd.ps := ⟨_, rfl⟩
          rw [← hfk] at HFD
          have HPK : Hid (poOk m.bd.ps m.ins[k] = decide (0 ≤ fk)) := Lib.hid (by unfold poOk; rw [gs, hfk]; rfl)
          clear gs hfk
          rcases dec_cases (fk < 0) with ⟨gf, kf⟩ | ⟨gf, kf⟩
          · have HRF : Hid (r = false) := Lib.hid (by rw [HR.out, HTL.out, insTo_bad m k hlt (by rw [HPK.out]; exact decide_eq_false (by omega))]; rfl)
            clear kf
            go_wp2
            (refine wp_region_ext (by kernel_rfl) (by kernel_rfl) ?_; have hX := @ext_cell; (repeat (go_big_quiet_step (first | (go_at_call 129; exact ext_same (HS.out _)) | (go_at_call 104; exact ext_call (HFD.out _))))); refine wpQuiet_nil ?_; clear hX; intro wx hw'; obtain ⟨⟨wx, hbx⟩, rfl⟩ := hw'; obtain ⟨hcx, hfx⟩ := bcell hbx)
            go_wp2
            go_ret
            exact ⟨by rw [HRF.out]; rfl, bl_trans hb hbx⟩
          · have HPT : Hid (poOk m.bd.ps m.ins[k] = true) := Lib.hid (by rw [HPK.out]; exact decide_eq_true (by omega))
            obtain ⟨P, hP⟩ : ∃ P, P = m.ins[k] := ⟨_, rfl⟩
            have HP := Lib.hid hP
            rw [← hP] at q0 q1 q2 HS HFD s1
            clear kf hP ok0 ok1 ok2
            go_wp2
            (refine wp_region_ext (by kernel_rfl) (by kernel_rfl) ?_; have hX := @ext_cell; (repeat (go_big_quiet_step (first | (go_at_call 129; exact ext_same (HS.out _)) | (go_at_call 104; exact ext_call (HFD.out _))))); refine wpQuiet_nil ?_; clear hX; intro wx hw'; obtain ⟨⟨wx, hbx⟩, rfl⟩ := hw'; obtain ⟨hcx, hfx⟩ := bcell hbx)
            have hbw := bl_trans hb hbx
            go_wp2
            go_loopw [4] (fun jx wi => ∃ j : Nat, j ≤ k ∧ jx = .int .i64 j ∧ Hid (∀ i (hi : i < j) (hi2 : i < m.ins.length), m.ins[i] ≠ P) ∧ Below w.heap.size w wi) (fun jx _ => k - (intOf jx).toNat)
            case atStart => exact ⟨0, by omega, rfl, Lib.hid (fun i hi => by omega), hbw⟩
            case round =>
              clear hbx hbw hcx hfx q0 q1 q2 r3 HS HFD
              obtain ⟨j, hj, rfl, hnd, hbj⟩ := hrel
              have r3 : wr.cell? ⟨b0, 3, none⟩ = some (.slice (some ⟨b, off, none⟩) m.ins.length icap) := by rw [hbj.cell (p := ⟨_, _, none⟩) hbl]; exact c3
              by_cases hjk : j < k
              · have hjl : j < m.ins.length := by omega
                obtain ⟨b', off', he, -, hatj⟩ := pos_get hins hjl
                simp only [Option.some.injEq, Addr.mk.injEq, and_true] at he
                obtain ⟨rfl, rfl⟩ := he
                unfold PoAt at hatj
                have q0 : wr.cell? ⟨b, off + k * 3, none⟩ = some (.int .i8 P.x) := by rw [hbj.cell (p := ⟨_, _, none⟩) hbi, HP.out]; exact a0
                have q1 : wr.cell? ⟨b, off + k * 3 + 1, none⟩ = some (.int .i8 P.y) := by rw [hbj.cell (p := ⟨_, _, none⟩) hbi, HP.out]; exact a1
                have q2 : wr.cell? ⟨b, off + k * 3 + 2, none⟩ = some (.int .i8 P.s) := by rw [hbj.cell (p := ⟨_, _, none⟩) hbi, HP.out]; exact a2
                have p0 : wr.cell? ⟨b, off + j * 3, none⟩ = some (.int .i8 m.ins[j].x) := by rw [hbj.cell (p := ⟨_, _, none⟩) hbi]; exact hatj.1
                have p1 : wr.cell? ⟨b, off + j * 3 + 1, none⟩ = some (.int .i8 m.ins[j].y) := by rw [hbj.cell (p := ⟨_, _, none⟩) hbi]; exact hatj.2.1
                have p2 : wr.cell? ⟨b, off + j * 3 + 2, none⟩ = some (.int .i8 m.ins[j].s) := by rw [hbj.cell (p := ⟨_, _, none⟩) hbi]; exact hatj.2.2
                obtain ⟨Q, hQ⟩ : ∃ Q, Q = m.ins[j] := ⟨_, rfl⟩
                rw [← hQ] at p0 p1 p2
                have HQ := Lib.hid hQ
                clear hatj hQ
                have heq : ∀ w, (binOp .eql 127 Q.val P.val).run Tryz.prog w = .ok (.bool (decide (Q = P))) w := run_eql_po Q.x Q.y Q.s P.x P.y P.s
                rcases dec_cases (Q = P) with ⟨gq, kq⟩ | ⟨gq, kq⟩
                · rw [gq] at heq
                  have HRF : Hid (r = false) := Lib.hid (by rw [HR.out, HTL.out, ins_dup m j k hjk hlt (by rw [← HQ.out, ← HP.out, kq])]; simp)
                  clear gq kq
                  go_wp2
                  go_quiet (fail)
                  go_wp2
                  go_ret
                  exact ⟨by rw [HRF.out]; rfl, (by repeat (first | with_reducible exact Below.refl _ _ | with_reducible assumption | with_reducible apply bl_drewN | with_reducible apply bl_drew | with_reducible apply bl_alloc | (with_reducible refine bl_set ?_ (by first | (simp; done) | (simp; omega)) _) | with_reducible refine bl_trans ?_ (by with_reducible assumption)))⟩
                · rw [gq] at heq
                  have HNQ := Lib.hid kq
                  clear gq kq
                  go_wp2
                  go_quiet (fail)
                  go_wp2
                  go_roundw
                  case rel => exact ⟨j + 1, by omega, by go_num, Lib.hid (fun i hi hi2 => by
                    by_cases e : i = j
                    · subst e; rw [← HQ.out]; exact HNQ.out
                    · exact hnd.out i (by omega) hi2), (by repeat (first | with_reducible exact Below.refl _ _ | with_reducible assumption | with_reducible apply bl_drewN | with_reducible apply bl_drew | with_reducible apply bl_alloc | (with_reducible refine bl_set ?_ (by first | (simp; done) | (simp; omega)) _) | with_reducible refine bl_trans ?_ (by with_reducible assumption)))⟩
                  case measure => simp [intOf]; omega
              · have hjk2 : j = k := by omega
                subst hjk2
                have HT2 := Lib.hid (insTo_succ m j hlt hto.out HPT.out (fun i hi => by rw [← HP.out]; exact hnd.out i hi (by omega)))
                go_wp2
                go_roundw
                case rel => exact ⟨j + 1, by omega, by go_num, HT2, hbj⟩
                case measure => simp [intOf]; omega
      · have hkn : k = m.ins.length := by omega
        subst hkn
        have HIA : Hid (m.ins.all (poOk m.bd.ps) = true ∧ decide m.ins.Nodup = true) := Lib.hid (by
          have := hto.out
          unfold insTo at this
          rw [List.take_length] at this
          exact ⟨this.1, decide_eq_true this.2⟩)
        have HR2 : Hid (r = m.outs.all (outOk m.bd.ps)) := Lib.hid (by rw [HR.out, HTL.out, HIA.out.1, HIA.out.2]; rfl)
        clear HR HTL hto
        go_wp2
        go_loopw [5] (fun ix wi => ∃ k : Nat, k ≤ m.outs.length ∧ ix = .int .i64 k ∧ Hid ((m.outs.take k).all (outOk m.bd.ps) = true) ∧ Below w.heap.size w wi) (fun ix _ => m.outs.length - (intOf ix).toNat)
        case atStart => exact ⟨0, by omega, rfl, Lib.hid (by simp), hb⟩
        case round =>
          clear hb hbr
          obtain ⟨k, hk, rfl, hall, hb⟩ := hrel
          have r4 : wr.cell? ⟨b0, 4, none⟩ = some (.slice oa m.outs.length ocap) := by rw [hb.cell (p := ⟨_, _, none⟩) hbl]; exact c4
          have hbr : b0 < wr.heap.size := Nat.lt_of_lt_of_le hbl hb.size
          by_cases hlt : k < m.outs.length
          · obtain ⟨b, off, rfl, hbi, hat⟩ := ces_get houts hlt
            have q0 : wr.cell? ⟨b, off + k * 2, none⟩ = some (.int .i8 m.outs[k].x) := by rw [hb.cell (p := ⟨_, _, none⟩) hbi]; exact hat.1
            have q1 : wr.cell? ⟨b, off + k * 2 + 1, none⟩ = some (.int .i8 m.outs[k].y) := by rw [hb.cell (p := ⟨_, _, none⟩) hbi]; exact hat.2
            have hbir : b < wr.heap.size := Nat.lt_of_lt_of_le hbi hb.size
            have HFD := Lib.hid (fun u : Ext wr => l01Find_any b0 m.bd ⟨m.outs[k].x, m.outs[k].y⟩ u.w ((HM.out.step hb).step u.b).bp hn)
            obtain ⟨fk, hfk⟩ : ∃ fk, fk = fnd ⟨m.outs[k].x, m.outs[k].y⟩ m.bd.ps := ⟨_, rfl⟩
            rw [← hfk] at HFD
            have HPK : Hid (outOk m.bd.ps m.outs[k] = decide (0 ≤ fk)) := Lib.hid (by unfold outOk; rw [hfk])
            clear hfk hat
            rcases dec_cases (fk < 0) with ⟨gf, kf⟩ | ⟨gf, kf⟩
            · have HRF : Hid (r = false) := Lib.hid (by
                rw [HR2.out, List.all_eq_false]
                exact ⟨_, List.getElem_mem hlt, by rw [HPK.out, decide_eq_false (by omega)]; exact Bool.false_ne_true⟩)
              clear kf
              go_wp2
              (refine wp_region_ext (by kernel_rfl) (by kernel_rfl) ?_; have hX := @ext_cell; (repeat (go_big_quiet_step ((go_at_call 104; exact ext_call (HFD.out _))))); refine wpQuiet_nil ?_; clear hX; intro wx hw'; obtain ⟨⟨wx, hbx⟩, rfl⟩ := hw'; obtain ⟨hcx, hfx⟩ := bcell hbx)
              go_wp2
              go_ret
              exact ⟨by rw [HRF.out]; rfl, bl_trans hb hbx⟩
            · have HNX : Hid ((m.outs.take (k + 1)).all (outOk m.bd.ps) = true) := Lib.hid (by
                rw [List.take_succ_eq_append_getElem hlt, List.all_append, hall.out]
                simp only [List.all_cons, List.all_nil, Bool.and_true, Bool.true_and]
                rw [HPK.out]; exact decide_eq_true (by omega))
              clear kf
              go_wp2
              (refine wp_region_ext (by kernel_rfl) (by kernel_rfl) ?_; have hX := @ext_cell; (repeat (go_big_quiet_step ((go_at_call 104; exact ext_call (HFD.out _))))); refine wpQuiet_nil ?_; clear hX; intro wx hw'; obtain ⟨⟨wx, hbx⟩, rfl⟩ := hw'; obtain ⟨hcx, hfx⟩ := bcell hbx)
              go_wp2
              go_roundw
              case rel => exact ⟨k + 1, by omega, by go_num, HNX, bl_trans hb hbx⟩
              case measure => simp [intOf]; omega
          · have hkn : k = m.outs.length := by omega
            subst hkn
            have HRT : Hid (r = true) := Lib.hid (by rw [HR2.out, ← List.take_length (l := m.outs)]; exact hall.out)
            go_wp2
            go_ret
            exact ⟨by rw [HRT.out]; rfl, hb⟩
end Go.Proofs.YtmeefmoblkiebaaGreat
/- Contracts: slices of Int64, element for element. -/
namespace Go.Proofs.YtmeefmoblkiebaaGreat
open Go.RowKit
set_option linter.unusedVariables false
set_option linter.unusedSimpArgs false
set_option maxHeartbeats 400000
set_option maxRecDepth 100000
def N64_cells (p : Int) : List Value := [.int .i64 p]
theorem N64_len (p : Int) : (N64_cells p).length = 1 := rfl
theorem N64_one (p : Int) : ∀ u ∈ N64_cells p, u.oneCell' = true := by
  intro u hu
  simp only [N64_cells, List.mem_cons, List.not_mem_nil, or_false] at hu
  subst hu; rfl
def N64At (w : World) (b off : Nat) (p : Int) : Prop :=
  w.cell? ⟨b, off, none⟩ = some (.int .i64 p)
theorem n64s_get {B : Nat} {w : World} {a : Option Addr} {ps : List Int} (h : SlAt B w a (flat N64_cells ps)) {k : Nat} (hk : k < ps.length) :
    ∃ b off, a = some ⟨b, off, none⟩ ∧ b < B ∧ N64At w b (off + k * 1) ps[k] := by
  obtain ⟨b, off, h1, h2, h3⟩ := SlAt.get N64_len (by omega) h hk
  exact ⟨b, off, h1, h2, h3 0 _ rfl⟩
theorem Tryz.infoInt64 : (Tryz.prog.info? 2).map (fun i => (i.zero, i.size, i.bytes)) = some (some (.int .i64 0), 1, 8) := by kernel_rfl
end Go.Proofs.YtmeefmoblkiebaaGreat
/- Contracts: CountFrom (both). -/
namespace Go.Proofs.YtmeefmoblkiebaaGreat
open Go.RowKit
set_option linter.unusedVariables false
set_option linter.unusedSimpArgs false
set_option maxHeartbeats 400000
set_option maxRecDepth 100000
theorem sl_newC (w : World) (cs : Array Value) (T : TypeId) (g : Nat) (hg : g = w.heap.size) : SlAt (g + 1) (w.alloc (.cells cs T)) (some ⟨g, 0, none⟩) cs.toList := by
  subst hg
  exact sl_new w cs T
end Go.Proofs.YtmeefmoblkiebaaGreat
/- Contracts: the places of falls of which something is so. -/
namespace Go.Proofs.YtmeefmoblkiebaaGreat
open Go.RowKit
set_option linter.unusedVariables false
set_option linter.unusedSimpArgs false
set_option maxHeartbeats 400000
set_option maxRecDepth 100000
end Go.Proofs.YtmeefmoblkiebaaGreat
/- Contracts: LastTick, FallenUntil, StandingAfter (both). -/
namespace Go.Proofs.YtmeefmoblkiebaaGreat
open Go.RowKit
set_option linter.unusedVariables false
set_option linter.unusedSimpArgs false
set_option maxHeartbeats 400000
set_option maxRecDepth 100000
theorem runOf_ge (ps : List Pc) (pl : List Pu) (k : Nat) (hk : k < (runOf ps pl).length) : -1 ≤ (runOf ps pl)[k].t := by
  have hkp : k < ps.length := by rw [← runOf_length ps pl]; exact hk
  have key : -1 ≤ ((runOf ps pl).getD k default).t := by
    unfold runOf
    split
    · rename_i h
      exact h.choose_spec.2.1 k hkp
    · rw [rep_get ps k hkp]; exact Int.le_refl _
  rw [getD_fa _ k hk] at key
  exact key
end Go.Proofs.YtmeefmoblkiebaaGreat
/- Contracts: rows, bits, the pushes of a row (the reference). -/
namespace Go.Proofs.YtmeefmoblkiebaaGreat
open Go.RowKit
set_option linter.unusedVariables false
set_option linter.unusedSimpArgs false
set_option maxHeartbeats 400000
set_option maxRecDepth 100000
theorem div_pow (n i : Nat) : (n : Int) / 2 ^ i = ((n / 2 ^ i : Nat) : Int) := by push_cast; rfl
theorem bit_i64 (n i : Nat) (hn : n < 9223372036854775808) : (bits .and .i64 ((n : Int) / 2 ^ i) 1 == 1) = n.testBit i := by
  have h1 : n / 2 ^ i < 9223372036854775808 := Nat.lt_of_le_of_lt (Nat.div_le_self _ _) hn
  rw [div_pow]
  have h2 := (bits_i64 (n / 2 ^ i) 1 h1 (by omega)).1
  have h3 : bits .and .i64 ((n / 2 ^ i : Nat) : Int) 1 = ((n / 2 ^ i &&& 1 : Nat) : Int) := h2
  rw [h3, bit_and]
  unfold bitN
  cases n.testBit i <;> rfl
theorem bit_u64 (n i : Nat) (hn : n < 18446744073709551616) : (bits .and .u64 ((n : Int) / 2 ^ i) 1 == 1) = n.testBit i := by
  have h1 : n / 2 ^ i < 18446744073709551616 := Nat.lt_of_le_of_lt (Nat.div_le_self _ _) hn
  rw [div_pow]
  have h2 := (bits_u64 (n / 2 ^ i) 1 h1 (by omega)).1
  have h3 : bits .and .u64 ((n / 2 ^ i : Nat) : Int) 1 = ((n / 2 ^ i &&& 1 : Nat) : Int) := h2
  rw [h3, bit_and]
  unfold bitN
  cases n.testBit i <;> rfl
theorem wrap_i16' (n : Int) (h0 : -32768 ≤ n) (h1 : n ≤ 32767) : IntKind.i16.wrap n = n := by
  simp [IntKind.wrap, IntKind.bits, IntKind.signed]; omega
theorem l04Rows_any (n : Nat) (hn : n ≤ 6) (w : World) : Calls Tryz.prog 125 #[.int .i64 n] w fun e w' => e = .returned (.int .i64 ((2 ^ n : Nat) : Int)) ∧ w = w' := by
  have : n = 0 ∨ n = 1 ∨ n = 2 ∨ n = 3 ∨ n = 4 ∨ n = 5 ∨ n = 6 := by omega
  rcases this with rfl | rfl | rfl | rfl | rfl | rfl | rfl
  all_goals
    go_enter Tryz.func125, Tryz.ntmps125
    go_wp2
    go_ret
    exact ⟨rfl, rfl⟩
theorem l03Rows_any (b0 : Nat) (m : Mc) (w : World) (h : MP w b0 m) (hn : m.ins.length ≤ 6) : Calls Tryz.prog 74 #[.pointer (some ⟨b0, 0, none⟩)] w fun e w' => e = .returned (.int .i64 ((mRows m : Nat) : Int)) ∧ w = w' := by
  have HR := Lib.hid (fun w => l04Rows_any m.ins.length hn w)
  obtain ⟨hbl, s, si, so, ⟨hbd, c3, c4⟩, -, ⟨ia, icap, rfl, hins⟩, -⟩ := h
  go_enter Tryz.func74, Tryz.ntmps74
  go_wp2_with (go_at_call 125; refine (HR.out _).mono ?_; rintro e w' ⟨rfl, rfl⟩)
  go_ret
  exact ⟨rfl, rfl⟩
theorem rows_any (n : Nat) (hn : n ≤ 8) (w : World) : Calls Tryz.prog 77 #[.int .i64 n] w fun e w' => e = .returned (.int .i64 ((2 ^ n : Nat) : Int)) ∧ w = w' := by
  have : n = 0 ∨ n = 1 ∨ n = 2 ∨ n = 3 ∨ n = 4 ∨ n = 5 ∨ n = 6 ∨ n = 7 ∨ n = 8 := by omega
  rcases this with rfl | rfl | rfl | rfl | rfl | rfl | rfl | rfl | rfl
  all_goals
    go_enter Tryz.func77, Tryz.ntmps77
    go_wp2
    go_ret
    exact ⟨rfl, rfl⟩
theorem bitI_any (n i : Nat) (hn : n < 9223372036854775808) (hi : i ≤ 63) (w : World) : Calls Tryz.prog 124 #[.int .i64 n, .int .i64 i] w fun e w' => e = .returned (.bool (n.testBit i)) ∧ w = w' := by
  have H := Lib.hid (bit_i64 n i hn)
  go_enter Tryz.func124, Tryz.ntmps124
  go_wp2
  go_ret
  exact ⟨by rw [← H.out]; rfl, rfl⟩
theorem bitU_any (n i : Nat) (hn : n < 18446744073709551616) (hi : i ≤ 63) (w : World) : Calls Tryz.prog 142 #[.int .u64 n, .int .i64 i] w fun e w' => e = .returned (.bool (n.testBit i)) ∧ w = w' := by
  have H := Lib.hid (bit_u64 n i hn)
  go_enter Tryz.func142, Tryz.ntmps142
  go_wp2
  go_ret
  exact ⟨by rw [← H.out]; rfl, rfl⟩
theorem Tryz.infoPushM : (Tryz.prog.info? 89).map (fun i => (i.zero, i.size, i.bytes)) = some (some (.agg #[.int .i8 0, .int .i8 0, .int .i8 0, .int .i16 0]), 4, 6) := by kernel_rfl
theorem getD_n (l : List Int) (k : Nat) (h : k < l.length) : l.getD k 0 = l[k] := by rw [List.getD_eq_getElem?_getD, List.getElem?_eq_getElem h]; rfl
set_option maxHeartbeats 1600000 in
theorem l03Pushes_any {B : Nat} (b0 : Nat) (m : Mc) (row : Nat) (a : Option Addr) (cap : Nat) (late : List Int) (w : World) (h : MP w b0 m) (hn : m.ins.length ≤ 6) (hl : late.length = m.ins.length) (hlo : lateOk late) (hs : SlAt B w a (flat N64_cells late)) (hB : B ≤ w.heap.size) (hrow : row < 64) :
    Calls Tryz.prog 173 #[.pointer (some ⟨b0, 0, none⟩), .int .i64 row, .slice a m.ins.length cap] w fun e w' => ∃ v, e = .returned v ∧ w'.ownsRow w.heap.size 89 4 v (mPu m row late).length (flat Pu.cells (mPu m row late)) ∧ Below w.heap.size w w' := by
  obtain ⟨hbl, s, si, so, ⟨hbd, c3, c4⟩, -, ⟨ia, icap, rfl, hins⟩, -⟩ := h
  obtain ⟨i0, hi0, hiz0, hiz1, hiz2⟩ := info_parts Tryz.infoPushM
  have hown0 := World.ownsRow_made (e := 89) (size := 4) w #[] 0 (Nat.le_refl _) (by simp [maxLen]) rfl
  have hb0 : Below w.heap.size w (w.alloc (.cells #[] 89)) := bl_alloc (Below.refl _ _)
  have HS : Hid (∀ k, mPuTo m.ins row late (k + 1) = mPuTo m.ins row late k ++ (if row.testBit k = true then [puOf m.ins late k] else [])) := Lib.hid (fun k => rfl)
  have HLE := Lib.hid (fun k => mPuTo_len m.ins row late k)
  have HBIT := Lib.hid (fun k => bit_i64 row k (by omega))
  have HLO := Lib.hid hlo
  have HLL := Lib.hid hl
  clear hl hlo
  go_enter Tryz.func173, Tryz.ntmps173
  go_wp2
  go_loopw [7, 8] (fun v ix wr => ∃ k : Nat, k ≤ m.ins.length ∧ ix = .int .i64 k ∧ wr.ownsRow w.heap.size 89 4 v (mPuTo m.ins row late k).length (flat Pu.cells (mPuTo m.ins row late k)) ∧ Below w.heap.size w wr) (fun _ ix _ => m.ins.length - (intOf ix).toNat)
  case atStart => exact ⟨0, by omega, rfl, hown0, hb0⟩
  case round =>
    clear hown0 hb0
    obtain ⟨k, hk, rfl, hown, hb⟩ := hrel
    obtain ⟨av, capv, hve, -, -, -⟩ := own_at hown
    subst hve
    have HOWN := Lib.hid hown
    have hzb := hb.size
    have hle := HLE.out k
    clear hown
    have r3 : wr.cell? ⟨b0, 3, none⟩ = some (.slice ia m.ins.length icap) := by rw [hb.cell (p := ⟨_, _, none⟩) hbl]; exact c3
    by_cases hlt : k < m.ins.length
    · have hbit := HBIT.out k
      obtain ⟨n, hnn⟩ : ∃ n, n = (mPuTo m.ins row late k).length := ⟨_, rfl⟩
      rw [← hnn] at HOWN hle ⊢
      have HNN := Lib.hid hnn
      clear hnn
      cases gb : row.testBit k with
      | false =>
        rw [gb] at hbit
        have HC2 : Hid (mPuTo m.ins row late (k + 1) = mPuTo m.ins row late k) := Lib.hid (by rw [HS.out, gb]; simp)
        clear gb
        go_wp2
        go_roundw
        case rel => exact ⟨k + 1, by omega, by go_num, by rw [HC2.out, ← HNN.out]; exact HOWN.out, hb⟩
        case measure => simp [intOf]; omega
      | true =>
        rw [gb] at hbit
        have HC2 : Hid (mPuTo m.ins row late (k + 1) = mPuTo m.ins row late k ++ [puOf m.ins late k]) := Lib.hid (by rw [HS.out, gb]; simp)
        clear gb
        obtain ⟨b, off, rfl, hbi, hat⟩ := pos_get hins hlt
        unfold PoAt at hat
        have q0 : wr.cell? ⟨b, off + k * 3, none⟩ = some (.int .i8 m.ins[k].x) := by rw [hb.cell (p := ⟨_, _, none⟩) hbi]; exact hat.1
        have q1 : wr.cell? ⟨b, off + k * 3 + 1, none⟩ = some (.int .i8 m.ins[k].y) := by rw [hb.cell (p := ⟨_, _, none⟩) hbi]; exact hat.2.1
        have q2 : wr.cell? ⟨b, off + k * 3 + 2, none⟩ = some (.int .i8 m.ins[k].s) := by rw [hb.cell (p := ⟨_, _, none⟩) hbi]; exact hat.2.2
        have hll : k < late.length := by rw [HLL.out]; exact hlt
        obtain ⟨bl, offl, rfl, hbL, hatl⟩ := n64s_get hs hll
        unfold N64At at hatl
        rw [Nat.mul_one] at hatl
        have hblw : bl < w.heap.size := by omega
        have q3 : wr.cell? ⟨bl, offl + k, none⟩ = some (.int .i64 late[k]) := by rw [hb.cell (p := ⟨_, _, none⟩) hblw]; exact hatl
        have hlk := HLO.out k
        rw [getD_n late k hll] at hlk
        have HPO : Hid (puOf m.ins late k = ⟨m.ins[k].x, m.ins[k].y, m.ins[k].s, late[k]⟩) := Lib.hid (by unfold puOf; rw [getD_po m.ins k hlt, getD_n late k hll])
        obtain ⟨P, hP⟩ : ∃ P, P = m.ins[k] := ⟨_, rfl⟩
        rw [← hP] at q0 q1 q2 HPO
        obtain ⟨T, hT⟩ : ∃ T, T = late[k] := ⟨_, rfl⟩
        rw [← hT] at q3 hlk HPO
        have s1 : IntKind.i16.wrap T = T := wrap_i16' T (by omega) (by omega)
        have hkI : (k : Int) < m.ins.length := by omega
        clear hP hT hat hatl hll
        have HNE0 : Hid (some b0 ≠ (Value.slice av n capv).ownBlock) := Lib.hid (fun e => by have := (HOWN.out.lt b0 e.symm).1; omega)
        have HNE1 : Hid (some b ≠ (Value.slice av n capv).ownBlock) := Lib.hid (fun e => by have := (HOWN.out.lt b e.symm).1; omega)
        have HNE2 : Hid (some bl ≠ (Value.slice av n capv).ownBlock) := Lib.hid (fun e => by have := (HOWN.out.lt bl e.symm).1; omega)
        have z0 : b0 < wr.heap.size := by omega
        have z1 : b < wr.heap.size := by omega
        have z2 : bl < wr.heap.size := by omega
        have HBB := Lib.hid hb
        have hk32 : (n + 1) * 6 ≤ 140737488355328 := by omega
        go_upto_region 6 with fail
        go_region_held3 (fun w' => w'.cell? ⟨b0, 3, none⟩ = some (.slice (some ⟨b, off, none⟩) m.ins.length icap) ∧ w'.cell? ⟨b, off + k * 3, none⟩ = some (.int .i8 P.x) ∧ w'.cell? ⟨b, off + k * 3 + 1, none⟩ = some (.int .i8 P.y) ∧ w'.cell? ⟨b, off + k * 3 + 2, none⟩ = some (.int .i8 P.s) ∧ w'.cell? ⟨bl, offl + k, none⟩ = some (.int .i64 T)) (first | go_keep | (go_split_ands; refine ⟨?_, ?_, ?_, ?_, ?_⟩ <;> (first | (rw [hgrow.cell_far _ (by simp; omega) HNE0.out]; assumption) | (rw [hgrow.cell_far _ (by simp; omega) HNE1.out]; assumption) | (rw [hgrow.cell_far _ (by simp; omega) HNE2.out]; assumption)))) (first | (refine step_append_lies _ (by rfl) _ _ _ (by rfl) w.heap.size 89 i0 _ 4 6 Tryz.underlying29 hi0 hiz0 hiz1 hiz2 rfl (by omega) (Value.slice av n capv) n (flat Pu.cells (mPuTo m.ins row late k)) (by rfl) (own_below HOWN.out (by repeat (first | with_reducible exact Below.refl _ _ | with_reducible assumption | with_reducible apply bl_drewN | with_reducible apply bl_drew | with_reducible apply bl_alloc | (with_reducible refine bl_set ?_ (by first | (simp; done) | (simp; omega)) _) | with_reducible refine bl_trans ?_ (by with_reducible assumption))) (Nat.le_refl _)) ⟨wr.heap.size, 0, none⟩ 1 1 [.int .i8 P.x, .int .i8 P.y, .int .i8 P.s, .int .i16 T] (by rfl) (by rfl) (World.news_of_block (cs := #[.int .i8 P.x, .int .i8 P.y, .int .i8 P.s, .int .i16 T]) (t := 89) (fr := (0, 0)) (heap_alloc_new _ _)) (Pu.one ⟨P.x, P.y, P.s, T⟩) (by omega) (by unfold maxLen; omega) hk32 (by simp; omega) _ rfl ?_; intro gg cap3 w3 hown3 hgrow hat3 hlt3))
        have hb3 : Below w.heap.size w w3 := bl_grown (bl_trans HBB.out (by repeat (first | with_reducible exact Below.refl _ _ | with_reducible assumption | with_reducible apply bl_drewN | with_reducible apply bl_drew | with_reducible apply bl_alloc | (with_reducible refine bl_set ?_ (by first | (simp; done) | (simp; omega)) _) | with_reducible refine bl_trans ?_ (by with_reducible assumption)))) hgrow (fun q hq => (HOWN.out.lt q hq).1)
        have hcells : flat Pu.cells (mPuTo m.ins row late k) ++ [.int .i8 P.x, .int .i8 P.y, .int .i8 P.s, .int .i16 T] = flat Pu.cells (mPuTo m.ins row late (k + 1)) := by rw [HC2.out, HPO.out, flat_append]; rfl
        have hnn2 : n + 1 = (mPuTo m.ins row late (k + 1)).length := by rw [HC2.out, List.length_append, ← HNN.out]; rfl
        rw [hcells] at hown3
        go_wp2
        go_roundw
        case rel => exact ⟨k + 1, by omega, by go_num, by rw [← hnn2]; exact hown3, hb3⟩
        case measure => simp [intOf]; omega
    · have hkn : k = m.ins.length := by omega
      subst hkn
      have HOWN2 := HOWN.out
      go_wp2
      go_ret
      exact ⟨_, rfl, HOWN2, hb⟩
end Go.Proofs.YtmeefmoblkiebaaGreat
/- The walk of the law FnExactValidWay. -/
namespace Go.Proofs.YtmeefmoblkiebaaGreat
open Go.RowKit
set_option linter.unusedVariables false
set_option linter.unusedSimpArgs false
set_option maxHeartbeats 400000
set_option maxRecDepth 100000
theorem ext_s {w w' : World} (h : Below w.heap.size w w') : Below w.heap.size w w' ∧ ∀ b o, b < w.heap.size → w'.cell? ⟨b, o, none⟩ = w.cell? ⟨b, o, none⟩ := ⟨h, (bcell h).1⟩
end Go.Proofs.YtmeefmoblkiebaaGreat
/- Contracts: the ticks and the outputs of a row (the reference). -/
namespace Go.Proofs.YtmeefmoblkiebaaGreat
open Go.RowKit
set_option linter.unusedVariables false
set_option linter.unusedSimpArgs false
set_option maxHeartbeats 400000
set_option maxRecDepth 100000
theorem mFa_len (m : Mc) (row : Nat) (late : List Int) : (mFa m row late).length = m.bd.ps.length := runOf_length _ _
def tkAt (ps : List Pc) (fs : List Fa) (c : Ce) : Int := (fs.getD (fnd c ps).toNat default).t
theorem out_fnd (m : Mc) (hv : vMc m = true) (k : Nat) (hk : k < m.outs.length) : ∃ f : Nat, fnd m.outs[k] m.bd.ps = (f : Int) ∧ f < m.bd.ps.length := by
  obtain ⟨-, -, -, -, -, -, -, -, h9⟩ := vMc_parts m hv
  have := List.all_eq_true.1 h9 _ (List.getElem_mem hk)
  unfold outOk at this
  rw [decide_eq_true_eq] at this
  exact ⟨(fnd m.outs[k] m.bd.ps).toNat, by omega, fnd_lt _ _ this⟩
set_option maxHeartbeats 3200000 in
theorem l03Ticks_any {B : Nat} (b0 : Nat) (m : Mc) (row : Nat) (a : Option Addr) (cap : Nat) (late : List Int) (w : World) (h : MP w b0 m) (hv : vMc m = true) (hok : m.ok) (hl : late.length = m.ins.length) (hlo : lateOk late) (hs : SlAt B w a (flat N64_cells late)) (hB : B ≤ w.heap.size) (hrow : row < 64) :
    Calls Tryz.prog 126 #[.pointer (some ⟨b0, 0, none⟩), .int .i64 row, .slice a m.ins.length cap] w fun e w' => ∃ v, e = .returned v ∧ w'.ownsRow w.heap.size 2 1 v (mTk m row late).length (flat N64_cells (mTk m row late)) ∧ Below w.heap.size w w' := by
  obtain ⟨hvb, h60, hi1, hi6, ho1, ho8, -⟩ := vMc_parts m hv
  have HM := Lib.hid h
  obtain ⟨o1, o2, o3, o4⟩ := mPu_ok m hv hok row late hlo
  have HG := Lib.hid (good_bd m.bd hvb (mPu m row late) o2)
  have HP := Lib.hid (fun w1 (hb : Below w.heap.size w w1) => l03Pushes_any (B := B) b0 m row a cap late w1 (HM.out.step hb) hi6 hl hlo (hs.below hb hB) (Nat.le_trans hB hb.size) hrow)
  have HRUN := Lib.hid (fun w1 (hb : Below w.heap.size w w1) ap capp (hsp : SlAt w1.heap.size w1 ap (flat Pu.cells (mPu m row late))) => l02Run_any (B := w1.heap.size) b0 m.bd ap capp (mPu m row late) w1 (HM.out.step hb).bp hvb hsp o1 o2 o3 o4 (Nat.le_refl _))
  have HFL := Lib.hid (mFa_len m row late)
  have HFE : Hid (mFa m row late = runOf m.bd.ps (mPu m row late)) := Lib.hid rfl
  have HTK : Hid (mTk m row late = m.outs.map (tkAt m.bd.ps (mFa m row late))) := Lib.hid rfl
  have HLT := Lib.hid (mTk_len m row late)
  have HOF := Lib.hid (fun k hk => out_fnd m hv k hk)
  obtain ⟨fs, hfs⟩ : ∃ fs, fs = mFa m row late := ⟨_, rfl⟩
  obtain ⟨pl, hpl⟩ : ∃ pl, pl = mPu m row late := ⟨_, rfl⟩
  obtain ⟨ts, hts⟩ : ∃ ts, ts = mTk m row late := ⟨_, rfl⟩
  rw [← hfs] at HFL HFE HTK
  rw [← hpl] at HG HP HRUN HFE
  rw [← hts] at HTK HLT ⊢
  clear hfs hpl hts o1 o2 o3 o4 hs hlo hl
  obtain ⟨hbl, s, si, so, ⟨hbd, c3, c4⟩, -, -, ⟨oa, ocap, rfl, houts⟩⟩ := h
  obtain ⟨i0, hi0, hiz0, hiz1, hiz2⟩ := info_parts Tryz.infoInt64
  go_enter Tryz.func126, Tryz.ntmps126
  go_upto_region 1 with fail
  go_region_held3 (fun w' => Below w.heap.size w w' ∧ ∀ b o, b < w.heap.size → w'.cell? ⟨b, o, none⟩ = w.cell? ⟨b, o, none⟩) ((refine ext_s ?_; exact (by repeat (first | with_reducible exact Below.refl _ _ | with_reducible assumption | with_reducible apply bl_drewN | with_reducible apply bl_drew | with_reducible apply bl_alloc | (with_reducible refine bl_set ?_ (by first | (simp; done) | (simp; omega)) _) | with_reducible refine bl_trans ?_ (by with_reducible assumption))))) (first | (go_at_call 173; refine (HP.out _ (by repeat (first | with_reducible exact Below.refl _ _ | with_reducible assumption | with_reducible apply bl_drewN | with_reducible apply bl_drew | with_reducible apply bl_alloc | (with_reducible refine bl_set ?_ (by first | (simp; done) | (simp; omega)) _) | with_reducible refine bl_trans ?_ (by with_reducible assumption)))).mono ?_; rintro e wa ⟨va, rfl, Oa, ba⟩; obtain ⟨ap, capp, rfl, hsp, -⟩ := own_at Oa; have bwa : Below w.heap.size w wa := (by repeat (first | with_reducible exact Below.refl _ _ | with_reducible assumption | with_reducible apply bl_drewN | with_reducible apply bl_drew | with_reducible apply bl_alloc | (with_reducible refine bl_set ?_ (by first | (simp; done) | (simp; omega)) _) | with_reducible refine bl_trans ?_ (by with_reducible assumption)))) | (go_at_call 46; refine (HRUN.out _ bwa _ _ hsp).mono ?_; rintro e w2 ⟨v2, fs2, rfl, hown, hokf, -, hb2⟩))
  have HB02 := Lib.hid (bl_trans bwa hb2)
  have he : fs = fs2 := by rw [HFE.out]; exact (runOf_eq _ _ _ HG.out hokf).symm
  subst he
  obtain ⟨av, capv, hve, hsl, -, -⟩ := own_at hown
  subst hve
  clear hown hb2 hokf HG HRUN HP ba bwa Oa hsp HFE
  have hown0 := World.ownsRow_made (e := 2) (size := 1) w2 #[] 0 (Nat.le_refl _) (by simp [maxLen]) rfl
  have hb0 : Below w2.heap.size w2 (w2.alloc (.cells #[] 2)) := bl_alloc (Below.refl _ _)
  have hzw := HB02.out.size
  go_wp2
  go_loopw [8, 9] (fun v ix wr => ∃ k : Nat, k ≤ m.outs.length ∧ ix = .int .i64 k ∧ wr.ownsRow w2.heap.size 2 1 v k (flat N64_cells ((m.outs.take k).map (tkAt m.bd.ps fs))) ∧ Below w2.heap.size w2 wr) (fun _ ix _ => m.outs.length - (intOf ix).toNat)
  case atStart => exact ⟨0, by omega, rfl, hown0, hb0⟩
  case round =>
    clear hown0 hb0
    obtain ⟨k, hk, rfl, hown, hb⟩ := hrel
    obtain ⟨av2, capv2, hve, -, -, -⟩ := own_at hown
    subst hve
    have HOWN := Lib.hid hown
    have hzb := hb.size
    clear hown
    have hbW := bl_trans HB02.out hb
    have r4 : wr.cell? ⟨b0, 4, none⟩ = some (.slice oa m.outs.length ocap) := by rw [hbW.cell (p := ⟨_, _, none⟩) hbl]; exact c4
    by_cases hlt : k < m.outs.length
    · obtain ⟨f, hf, hfl⟩ := HOF.out k hlt
      obtain ⟨b, off, rfl, hbi, hat⟩ := ces_get houts hlt
      have q0 : wr.cell? ⟨b, off + k * 2, none⟩ = some (.int .i8 m.outs[k].x) := by rw [hbW.cell (p := ⟨_, _, none⟩) hbi]; exact hat.1
      have q1 : wr.cell? ⟨b, off + k * 2 + 1, none⟩ = some (.int .i8 m.outs[k].y) := by rw [hbW.cell (p := ⟨_, _, none⟩) hbi]; exact hat.2
      have hff : f < fs.length := by rw [HFL.out]; exact hfl
      obtain ⟨bf, offf, rfl, hbf, hatf⟩ := fas_get hsl hff
      have q2 : wr.cell? ⟨bf, offf + f * 3, none⟩ = some (.int .i64 fs[f].t) := by rw [hb.cell (p := ⟨_, _, none⟩) hbf]; exact hatf.1
      have HFD := Lib.hid (fun w1 (hb1 : Below w.heap.size w w1) => l01Find_any b0 m.bd ⟨m.outs[k].x, m.outs[k].y⟩ w1 (HM.out.step hb1).bp (show m.bd.ps.length ≤ 10000000 by omega))
      have e1 : fnd ⟨m.outs[k].x, m.outs[k].y⟩ m.bd.ps = (f : Int) := hf
      rw [e1] at HFD
      have HTV : Hid (tkAt m.bd.ps fs m.outs[k] = fs[f].t) := Lib.hid (by unfold tkAt; rw [hf, Int.toNat_natCast, getD_fa fs f hff])
      obtain ⟨C, hC⟩ : ∃ C, C = m.outs[k] := ⟨_, rfl⟩
      have HTN : Hid ((m.outs.take (k + 1)).map (tkAt m.bd.ps fs) = (m.outs.take k).map (tkAt m.bd.ps fs) ++ [fs[f].t]) := Lib.hid (by rw [List.take_succ_eq_append_getElem hlt, List.map_append, ← HTV.out]; rfl)
      obtain ⟨T, hT⟩ : ∃ T, T = fs[f].t := ⟨_, rfl⟩
      rw [← hT] at q2 HTN
      rw [← hC] at q0 q1 HFD
      have hkI : (k : Int) < m.outs.length := by omega
      have hfI : (f : Int) < fs.length := by omega
      clear hf hat hatf e1 hC hT HTV
      have HNE0 : Hid (some b0 ≠ (Value.slice av2 k capv2).ownBlock) := Lib.hid (fun e => by have := (HOWN.out.lt b0 e.symm).1; omega)
      have HNE1 : Hid (some b ≠ (Value.slice av2 k capv2).ownBlock) := Lib.hid (fun e => by have := (HOWN.out.lt b e.symm).1; omega)
      have HNE2 : Hid (some bf ≠ (Value.slice av2 k capv2).ownBlock) := Lib.hid (fun e => by have := (HOWN.out.lt bf e.symm).1; omega)
      have z0 : b0 < wr.heap.size := by omega
      have z1 : b < wr.heap.size := by omega
      have z2 : bf < wr.heap.size := by omega
      have HBB := Lib.hid hb
      have HBW := Lib.hid hbW
      have hk32 : (k + 1) * 8 ≤ 140737488355328 := by omega
      have hzb2 : w2.heap.size ≤ wr.heap.size := hzb
      clear hb hbW
      go_upto_region 6 with fail
      go_region_held3 (fun w' => w'.cell? ⟨b0, 4, none⟩ = some (.slice (some ⟨b, off, none⟩) m.outs.length ocap) ∧ w'.cell? ⟨b, off + k * 2, none⟩ = some (.int .i8 C.x) ∧ w'.cell? ⟨b, off + k * 2 + 1, none⟩ = some (.int .i8 C.y) ∧ w'.cell? ⟨bf, offf + f * 3, none⟩ = some (.int .i64 T)) (first | go_keep | (go_split_ands; refine ⟨?_, ?_, ?_, ?_⟩ <;> (first | (rw [hca _ _ (by assumption)]; assumption) | (rw [hgrow.cell_far _ (by simp; omega) HNE0.out]; assumption) | (rw [hgrow.cell_far _ (by simp; omega) HNE1.out]; assumption) | (rw [hgrow.cell_far _ (by simp; omega) HNE2.out]; assumption)))) (first | (go_at_call 104; refine (HFD.out _ ?_).mono ?_; (exact bl_trans HBW.out (by repeat (first | with_reducible exact Below.refl _ _ | with_reducible assumption | with_reducible apply bl_drewN | with_reducible apply bl_drew | with_reducible apply bl_alloc | (with_reducible refine bl_set ?_ (by first | (simp; done) | (simp; omega)) _) | with_reducible refine bl_trans ?_ (by with_reducible assumption)))); rintro e wa ⟨rfl, ba⟩; have bwa : Below wr.heap.size wr wa := (by repeat (first | with_reducible exact Below.refl _ _ | with_reducible assumption | with_reducible apply bl_drewN | with_reducible apply bl_drew | with_reducible apply bl_alloc | (with_reducible refine bl_set ?_ (by first | (simp; done) | (simp; omega)) _) | with_reducible refine bl_trans ?_ (by with_reducible assumption))); obtain ⟨hca, hfa⟩ := bcell bwa; have hza := bwa.size) | (refine step_append_lies _ (by rfl) _ _ _ (by rfl) w2.heap.size 2 i0 _ 1 8 Tryz.underlying34 hi0 hiz0 hiz1 hiz2 rfl (by omega) (Value.slice av2 k capv2) k (flat N64_cells ((m.outs.take k).map (tkAt m.bd.ps fs))) (by rfl) (own_below HOWN.out (bl_trans (by repeat (first | with_reducible exact Below.refl _ _ | with_reducible assumption | with_reducible apply bl_drewN | with_reducible apply bl_drew | with_reducible apply bl_alloc | (with_reducible refine bl_set ?_ (by first | (simp; done) | (simp; omega)) _) | with_reducible refine bl_trans ?_ (by with_reducible assumption))) (bl_alloc (Below.refl _ _))) (Nat.le_refl _)) ⟨wa.heap.size, 0, none⟩ 1 1 [.int .i64 T] (by rfl) (by rfl) (World.news_of_block (cs := #[.int .i64 T]) (t := 2) (fr := (0, 0)) (heap_alloc_new _ _)) (N64_one T) (by omega) (by unfold maxLen; omega) hk32 (by simp; omega) _ rfl ?_; intro gg cap3 w3 hown3 hgrow hat3 hlt3))
      have hb3 : Below w2.heap.size w2 w3 := bl_grown (bl_trans HBB.out (by repeat (first | with_reducible exact Below.refl _ _ | with_reducible assumption | with_reducible apply bl_drewN | with_reducible apply bl_drew | with_reducible apply bl_alloc | (with_reducible refine bl_set ?_ (by first | (simp; done) | (simp; omega)) _) | with_reducible refine bl_trans ?_ (by with_reducible assumption)))) hgrow (fun q hq => (HOWN.out.lt q hq).1)
      have hcells : flat N64_cells ((m.outs.take k).map (tkAt m.bd.ps fs)) ++ [.int .i64 T] = flat N64_cells ((m.outs.take (k + 1)).map (tkAt m.bd.ps fs)) := by rw [HTN.out, flat_append]; rfl
      rw [hcells] at hown3
      go_wp2
      go_roundw
      case rel => exact ⟨k + 1, by omega, by go_num, hown3, hb3⟩
      case measure => simp [intOf]; omega
    · have hkn : k = m.outs.length := by omega
      subst hkn
      have HRES : Hid ((m.outs.take m.outs.length).map (tkAt m.bd.ps fs) = ts) := Lib.hid (by rw [List.take_length, HTK.out])
      have HOWN2 := own_mono (base := w.heap.size) HOWN.out hzw
      go_wp2
      go_ret
      exact ⟨_, rfl, by rw [HLT.out, ← HRES.out]; exact HOWN2, hbW⟩
theorem pow_i (k : Nat) (hk : k < 8) : ∃ p : Int, (2 : Int) ^ k = p ∧ 1 ≤ p ∧ p ≤ 128 ∧ p = ((2 ^ k : Nat) : Int) := by
  refine ⟨(2 : Int) ^ k, rfl, ?_, ?_, by push_cast; rfl⟩
  · have := Nat.one_le_two_pow (n := k)
    have h2 : ((2 ^ k : Nat) : Int) = (2 : Int) ^ k := by push_cast; rfl
    omega
  · have := pow_mono2 (a := k) (b := 7) (by omega)
    have h2 : ((2 ^ k : Nat) : Int) = (2 : Int) ^ k := by push_cast; rfl
    omega
theorem bitsTo_yes (ts : List Int) (k : Nat) (hk : k < 8) (h : 0 ≤ ts.getD k 0) : bits .or .i64 (bitsTo ts k : Int) ((2 ^ k : Nat) : Int) = (bitsTo ts (k + 1) : Int) := by
  have h1 := bitsTo_lt ts k
  have h2 := pow_mono2 (a := k) (b := 7) (by omega)
  rw [(bits_i64 (bitsTo ts k) (2 ^ k) (by omega) (by omega)).2.1]
  show _ = ((if 0 ≤ ts.getD k 0 then _ else _ : Nat) : Int)
  rw [if_pos h]
theorem bitsTo_no (ts : List Int) (k : Nat) (h : ¬ 0 ≤ ts.getD k 0) : bitsTo ts (k + 1) = bitsTo ts k := if_neg h
set_option maxHeartbeats 1600000 in
theorem l03Outputs_any {B : Nat} (b0 : Nat) (m : Mc) (row : Nat) (a : Option Addr) (cap : Nat) (late : List Int) (w : World) (h : MP w b0 m) (hv : vMc m = true) (hok : m.ok) (hl : late.length = m.ins.length) (hlo : lateOk late) (hs : SlAt B w a (flat N64_cells late)) (hB : B ≤ w.heap.size) (hrow : row < 64) :
    Calls Tryz.prog 75 #[.pointer (some ⟨b0, 0, none⟩), .int .i64 row, .slice a m.ins.length cap] w fun e w' => e = .returned (.int .i64 ((mOut m row late : Nat) : Int)) ∧ Below w.heap.size w w' := by
  obtain ⟨hvb, h60, hi1, hi6, ho1, ho8, -⟩ := vMc_parts m hv
  have HT := Lib.hid (l03Ticks_any (B := B) b0 m row a cap late w h hv hok hl hlo hs hB hrow)
  have HLT := Lib.hid (mTk_len m row late)
  have HOV : Hid (mOut m row late = bitsTo (mTk m row late) m.outs.length) := Lib.hid rfl
  generalize mOut m row late = r at HOV ⊢
  generalize mTk m row late = ts at HT HLT HOV
  have htl : ts.length ≤ 8 := by rw [HLT.out]; exact ho8
  rw [← HLT.out] at HOV
  clear h hs hlo hl
  go_enter Tryz.func75, Tryz.ntmps75
  go_wp2_with fail
  refine HT.out.mono ?_
  rintro e w2 ⟨v, rfl, hown, hb2⟩
  obtain ⟨av, capv, hve, hsl, -, -⟩ := own_at hown
  subst hve
  have HB2 := Lib.hid hb2
  clear hown hb2 HT HLT
  go_wp2
  go_loopw [8, 9] (fun ox ix wr => ∃ k : Nat, k ≤ ts.length ∧ ix = .int .i64 k ∧ ox = .int .i64 (bitsTo ts k : Int) ∧ Below w2.heap.size w2 wr) (fun _ ix _ => ts.length - (intOf ix).toNat)
  case atStart => exact ⟨0, by omega, rfl, rfl, Below.refl _ _⟩
  case round =>
    obtain ⟨k, hk, rfl, rfl, hb⟩ := hrel
    by_cases hlt : k < ts.length
    · obtain ⟨b, off, rfl, hbl, hat⟩ := n64s_get hsl hlt
      unfold N64At at hat
      rw [Nat.mul_one] at hat
      have r0 : wr.cell? ⟨b, off + k, none⟩ = some (.int .i64 ts[k]) := by rw [hb.cell (p := ⟨_, _, none⟩) hbl]; exact hat
      have HGD := Lib.hid (getD_n ts k hlt)
      obtain ⟨T, hT⟩ : ∃ T, T = ts[k] := ⟨_, rfl⟩
      rw [← hT] at r0 HGD
      clear hT hat
      rcases dec_cases (0 ≤ T) with ⟨g, g'⟩ | ⟨g, g'⟩
      · have HS := Lib.hid (bitsTo_yes ts k (by omega) (by rw [HGD.out]; exact g'))
        obtain ⟨p, hp, hp1, hp2, hp3⟩ := pow_i k (by omega)
        rw [← hp3] at HS
        have HP3 := Lib.hid hp3
        clear g' hp3
        go_wp2
        go_roundw
        case rel => exact ⟨k + 1, by omega, by go_num, by rw [← HS.out], hb⟩
        case measure => simp [intOf]; omega
      · have HS := Lib.hid (bitsTo_no ts k (by rw [HGD.out]; exact g'))
        clear g'
        go_wp2
        go_roundw
        case rel => exact ⟨k + 1, by omega, by go_num, by rw [HS.out], hb⟩
        case measure => simp [intOf]; omega
    · have hkn : k = ts.length := by omega
      subst hkn
      rw [← HOV.out]
      go_wp2
      go_ret
      exact ⟨rfl, bl_trans HB2.out hb⟩
end Go.Proofs.YtmeefmoblkiebaaGreat
/- Contracts: slices of Uint64, element for element. -/
namespace Go.Proofs.YtmeefmoblkiebaaGreat
open Go.RowKit
set_option linter.unusedVariables false
set_option linter.unusedSimpArgs false
set_option maxHeartbeats 400000
set_option maxRecDepth 100000
def U64_cells (p : Int) : List Value := [.int .u64 p]
theorem U64_len (p : Int) : (U64_cells p).length = 1 := rfl
def U64At (w : World) (b off : Nat) (p : Int) : Prop :=
  w.cell? ⟨b, off, none⟩ = some (.int .u64 p)
theorem u64s_get {B : Nat} {w : World} {a : Option Addr} {ps : List Int} (h : SlAt B w a (flat U64_cells ps)) {k : Nat} (hk : k < ps.length) :
    ∃ b off, a = some ⟨b, off, none⟩ ∧ b < B ∧ U64At w b (off + k * 1) ps[k] := by
  obtain ⟨b, off, h1, h2, h3⟩ := SlAt.get U64_len (by omega) h hk
  exact ⟨b, off, h1, h2, h3 0 _ rfl⟩
theorem Tryz.infoUint64 : (Tryz.prog.info? 134).map (fun i => (i.zero, i.size, i.bytes)) = some (some (.int .u64 0), 1, 8) := by kernel_rfl
end Go.Proofs.YtmeefmoblkiebaaGreat
/- FallOrder: plain laws, and the reference's contract. -/
namespace Go.Proofs.YtmeefmoblkiebaaGreat
open Go.RowKit
set_option linter.unusedVariables false
set_option linter.unusedSimpArgs false
set_option maxHeartbeats 400000
set_option maxRecDepth 100000
def fell (f : Fa) : Bool := decide (0 ≤ f.t)
open Classical in
theorem flatN (xs : List Int) : flat N64_cells xs = xs.map (Value.int .i64) := by
  induction xs with
  | nil => rfl
  | cons x xs ih => rw [flat_cons, ih]; rfl
theorem own_some {w : World} {base : Nat} {e : TypeId} {size n : Nat} {v : Value} {xs : List Value} (h : w.ownsRow base e size v (n + 1) xs) : ∃ g cap, v = .slice (some ⟨g, 0, none⟩) (n + 1) cap ∧ base ≤ g := by
  rcases h.2 with ⟨-, h0⟩ | ⟨g, cap3, cur, hve, hg, -⟩
  · omega
  · exact ⟨g, cap3, hve, hg⟩
end Go.Proofs.YtmeefmoblkiebaaGreat
/- Contracts: what is asked, all rows, all tables (the reference). -/
namespace Go.Proofs.YtmeefmoblkiebaaGreat
open Go.RowKit
set_option linter.unusedVariables false
set_option linter.unusedSimpArgs false
set_option maxHeartbeats 400000
set_option maxRecDepth 100000
theorem made_rep (z : Value) (hz : z.cells = #[z]) (n : Nat) : (madeCells z.cells (n * 1)).toList = List.replicate n z := by
  apply List.ext_getElem
  · simp [size_madeCells]
  · intro i h1 h2
    simp [madeCells, hz, Nat.mod_one]
theorem flat_zeros (n : Nat) : flat N64_cells (zeros n) = List.replicate n (.int .i64 0) := by
  rw [flatN]; unfold zeros; rw [List.map_replicate]
noncomputable def mAll (m : Mc) (k : Nat) : List Int := (List.range k).map (fun r => ((mOut m r (zeros m.ins.length) : Nat) : Int))
theorem mAll_len (m : Mc) (k : Nat) : (mAll m k).length = k := by simp [mAll]
theorem mAll_succ (m : Mc) (k : Nat) : mAll m (k + 1) = mAll m k ++ [((mOut m k (zeros m.ins.length) : Nat) : Int)] := by unfold mAll; rw [List.range_succ, List.map_append]; rfl
set_option maxHeartbeats 1600000 in
theorem l03All_any (b0 : Nat) (m : Mc) (w : World) (h : MP w b0 m) (hv : vMc m = true) (hok : m.ok) :
    Calls Tryz.prog 139 #[.pointer (some ⟨b0, 0, none⟩)] w fun e w' => ∃ v, e = .returned v ∧ w'.ownsRow w.heap.size 2 1 v (mRows m) (flat N64_cells (mAll m (mRows m))) ∧ Below w.heap.size w w' := by
  obtain ⟨hvb, h60, hi1, hi6, ho1, ho8, -⟩ := vMc_parts m hv
  have HM := Lib.hid h
  have HRO := Lib.hid (fun w1 (hb : Below w.heap.size w w1) => l03Rows_any b0 m w1 (HM.out.step hb) hi6)
  have HO := Lib.hid (fun w1 (hb : Below w.heap.size w w1) (r : Nat) (hr : r < 64) a (hs : SlAt w1.heap.size w1 a (flat N64_cells (zeros m.ins.length))) => l03Outputs_any (B := w1.heap.size) b0 m r a m.ins.length (zeros m.ins.length) w1 (HM.out.step hb) hv hok (by simp [zeros]) (zeros_ok _) hs (Nat.le_refl _) hr)
  have HAS := Lib.hid (fun k => mAll_succ m k)
  have HAL := Lib.hid (fun k => mAll_len m k)
  have hR64 := mRows_le m hi6
  obtain ⟨R, hRR⟩ : ∃ R, R = mRows m := ⟨_, rfl⟩
  rw [← hRR] at HRO hR64 ⊢
  obtain ⟨f, hf⟩ : ∃ f : Nat → Nat, f = fun r => mOut m r (zeros m.ins.length) := ⟨_, rfl⟩
  have HF : Hid (∀ r, mOut m r (zeros m.ins.length) = f r) := Lib.hid (fun r => by rw [hf])
  clear hRR hf
  obtain ⟨hbl, s, si, so, ⟨hbd, c3, c4⟩, -, ⟨ia, icap, rfl, hins⟩, -⟩ := h
  obtain ⟨i0, hi0, hiz0, hiz1, hiz2⟩ := info_parts Tryz.infoInt64
  go_enter Tryz.func139, Tryz.ntmps139
  go_wp2_with (refine wpList_make_full _ rfl (.tmp 10) (.tmp 10) 34 rfl w.heap.size 2 i0 _ 1 Tryz.underlying34 hi0 hiz0 hiz1 _ _ _ _ m.ins.length rfl rfl rfl rfl (by rw [hiz2]; omega) (by unfold maxLen; omega) (Nat.le_refl _) ?_; intro w1 hmade hgrow)
  rw [made_rep _ rfl, ← flat_zeros] at hmade
  have hb1 : Below w.heap.size w w1 := bl_grown (Below.refl _ _) hgrow (by simp)
  obtain ⟨az, capz, hvz, hslz, -, -⟩ := own_at hmade
  simp only [Value.slice.injEq] at hvz
  obtain ⟨rfl, -, rfl⟩ := hvz
  have HSZ := Lib.hid hslz
  have HB1 := Lib.hid hb1
  clear hmade hgrow hslz hb1
  have hown0 := World.ownsRow_made (e := 2) (size := 1) w1 #[] 0 (Nat.le_refl _) (by simp [maxLen]) rfl
  have hb0 : Below w1.heap.size w1 (w1.alloc (.cells #[] 2)) := bl_alloc (Below.refl _ _)
  go_loopw [4, 5] (fun v rx wr => ∃ k : Nat, k ≤ R ∧ rx = .int .i64 k ∧ wr.ownsRow w1.heap.size 2 1 v k (flat N64_cells (mAll m k)) ∧ Below w1.heap.size w1 wr) (fun _ rx _ => R - (intOf rx).toNat)
  case atStart => exact ⟨0, by omega, rfl, hown0, hb0⟩
  case round =>
    clear hown0 hb0
    obtain ⟨k, hk, rfl, hown, hb⟩ := hrel
    obtain ⟨av2, capv2, hve, -, -, -⟩ := own_at hown
    subst hve
    have HOWN := Lib.hid hown
    have hzb := hb.size
    have HBW := Lib.hid (bl_trans HB1.out hb)
    clear hown
    by_cases hlt : k < R
    · have HOC := Lib.hid (HO.out wr HBW.out k (by omega) _ ((HSZ.out.below hb (Nat.le_refl _)).mono hzb))
      rw [HF.out] at HOC
      have HNX : Hid (mAll m (k + 1) = mAll m k ++ [((f k : Nat) : Int)]) := Lib.hid (by rw [HAS.out, HF.out])
      have HBB := Lib.hid hb
      have hrI : (k : Int) < R := by omega
      go_wp2_with (go_at_call 74; refine (HRO.out _ HBW.out).mono ?_; rintro e w' ⟨rfl, rfl⟩)
      refine HOC.out.mono ?_
      rintro e w2 ⟨rfl, hb2⟩
      have HB2 := Lib.hid (bl_trans HBB.out hb2)
      have HO2 := Lib.hid (own_below HOWN.out hb2 (Nat.le_refl _))
      have hz2 := HB2.out.size
      clear hb2 hb
      go_wp2_with (at_builtin; go_must (refine wpList_append_sl _ rfl _ _ 34 rfl w1.heap.size 2 i0 (.int .i64 0) 1 8 Tryz.underlying34 hi0 hiz0 hiz1 hiz2 rfl (by decide) _ _ _ rfl (own_below HO2.out (bl_alloc (Below.refl _ _)) (Nat.le_refl _)) (some ⟨w2.heap.size, 0, none⟩) 1 1 [.int .i64 ((f k : Nat) : Int)] rfl (sl_newC w2 #[.int .i64 ((f k : Nat) : Int)] 2 _ rfl) rfl (by intro u hu; rw [List.mem_singleton] at hu; subst hu; rfl) (by unfold maxLen; omega) (by omega) (by simp; omega) ?_); intro v3 w3 hown3 hgrow)
      have hb3 : Below w1.heap.size w1 w3 := (bl_alloc (o := .cells #[.int .i64 ((f k : Nat) : Int)] 2) HB2.out).grown hgrow (by simp; omega) (fun q hq => (HO2.out.lt q hq).1)
      have hcells : flat N64_cells (mAll m k) ++ [.int .i64 ((f k : Nat) : Int)] = flat N64_cells (mAll m (k + 1)) := by rw [HNX.out, flat_append]; rfl
      rw [hcells] at hown3
      go_roundw
      case rel => exact ⟨k + 1, by omega, by go_num, hown3, hb3⟩
      case measure => simp [intOf]; omega
    · have hkn : k = R := by omega
      subst hkn
      have HOWN2 := own_mono (base := w.heap.size) HOWN.out HB1.out.size
      go_wp2_with (go_at_call 74; refine (HRO.out _ HBW.out).mono ?_; rintro e w' ⟨rfl, rfl⟩)
      go_ret
      exact ⟨_, rfl, HOWN2, HBW.out⟩
end Go.Proofs.YtmeefmoblkiebaaGreat
/- Contracts: whether a port is among ports. -/
namespace Go.Proofs.YtmeefmoblkiebaaGreat
open Go.RowKit
set_option linter.unusedVariables false
set_option linter.unusedSimpArgs false
set_option maxHeartbeats 400000
set_option maxRecDepth 100000
/-- The first place of a cell, -1: none. -/
def idxPo (c : Po) (cs : List Po) : Int := (cs.findIdx? (fun x => decide (c = x))).elim (-1) (fun n => (n : Int))
theorem idxPo_mem (c : Po) (cs : List Po) : decide (0 ≤ idxPo c cs) = decide (c ∈ cs) := by
  unfold idxPo
  cases hf : cs.findIdx? (fun x => decide (c = x)) with
  | none =>
    rw [List.findIdx?_eq_none_iff] at hf
    have : c ∉ cs := fun h => by have := hf c h; simp at this
    simp [this]
  | some k =>
    rw [List.findIdx?_eq_some_iff_getElem] at hf
    obtain ⟨h1, h2, -⟩ := hf
    have h3 : c = cs[k] := by simpa using h2
    have : c ∈ cs := h3 ▸ List.getElem_mem h1
    simp [this]
theorem indexPo_any {B : Nat} (a : Option Addr) (cap : Nat) (cs : List Po) (c : Po) (w : World) (h : SlAt B w a (flat Po.cells cs)) (hB : B ≤ w.heap.size) (hn : cs.length ≤ 10000000) :
    Calls Tryz.prog 171 #[.slice a cs.length cap, c.val] w fun e w' => e = .returned (.int .i64 (idxPo c cs)) ∧ Below w.heap.size w w' := by
  go_enter Tryz.func171, Tryz.ntmps171
  go_wp2
  go_loopw [8] (fun i wr => ∃ j : Nat, j ≤ cs.length ∧ i = .int .i64 j ∧ Hid ((cs.take j).findIdx? (fun x => decide (c = x)) = none) ∧ Below (w.alloc (.cells #[.int .i8 c.x, .int .i8 c.y, .int .i8 c.s] 127)).heap.size (w.alloc (.cells #[.int .i8 c.x, .int .i8 c.y, .int .i8 c.s] 127)) wr) (fun i _ => cs.length - (intOf i).toNat)
  case atStart => exact ⟨0, by omega, rfl, Lib.hid (by simp), Below.refl _ _⟩
  case round =>
    obtain ⟨j, hj, rfl, hno, hb⟩ := hrel
    obtain ⟨hc, hf⟩ := bcell hb
    have hz := hb.size
    simp at hz
    have l0 : w.heap.size < wr.heap.size := by omega
    have hbw : Below w.heap.size w wr := bl_trans (bl_alloc (Below.refl _ _)) hb
    by_cases hlt : j < cs.length
    · obtain ⟨b, off, rfl, hbl, hat⟩ := pos_get h hlt
      unfold PoAt at hat
      have l1 : b < w.heap.size + 1 := by omega
      have l2 : b < w.heap.size := by omega
      have hne : b ≠ w.heap.size := by omega
      have he : ∀ w, (binOp .eql 127 c.val (.agg #[.int .i8 cs[j].x, .int .i8 cs[j].y, .int .i8 cs[j].s])).run Tryz.prog w = .ok (.bool (decide (c = cs[j]))) w := run_eql_po c.x c.y c.s cs[j].x cs[j].y cs[j].s
      rcases dec_cases (c = cs[j]) with ⟨q, q'⟩ | ⟨q, q'⟩
      · rw [q] at he
        have hi : cs.findIdx? (fun x => decide (c = x)) = some j := by
          rw [List.findIdx?_eq_some_iff_getElem]
          refine ⟨hlt, q, fun i hi => ?_⟩
          have h3 := hno.out
          rw [List.findIdx?_eq_none_iff] at h3
          have := h3 cs[i] (by rw [List.mem_take_iff_getElem]; exact ⟨i, by omega, rfl⟩)
          simpa using this
        have HQ := Lib.hid (show idxPo c cs = j by unfold idxPo; rw [hi]; rfl)
        clear q' hi
        go_wp2
        go_quiet (fail)
        go_wp2
        go_ret
        exact ⟨by rw [HQ.out]; rfl, (by repeat (first | with_reducible exact Below.refl _ _ | with_reducible assumption | with_reducible apply bl_drewN | with_reducible apply bl_drew | with_reducible apply bl_alloc | (with_reducible refine bl_set ?_ (by first | (simp; done) | (simp; omega)) _) | with_reducible refine bl_trans ?_ (by with_reducible assumption)))⟩
      · rw [q] at he
        have HQ := Lib.hid q; clear q q'
        go_wp2
        go_quiet (fail)
        go_wp2
        go_roundw
        case rel => exact ⟨j + 1, by omega, by go_num, Lib.hid (by rw [List.take_succ_eq_append_getElem hlt, List.findIdx?_append, hno.out]; simp only [List.findIdx?_cons, HQ.out]; simp), (by repeat (first | with_reducible exact Below.refl _ _ | with_reducible assumption | with_reducible apply bl_drewN | with_reducible apply bl_drew | with_reducible apply bl_alloc | (with_reducible refine bl_set ?_ (by first | (simp; done) | (simp; omega)) _) | with_reducible refine bl_trans ?_ (by with_reducible assumption)))⟩
        case measure => simp [intOf]; omega
    · go_wp2
      go_ret
      have := hno.out
      rw [List.take_of_length_le (by omega)] at this
      exact ⟨by unfold idxPo; rw [this]; rfl, hbw⟩
theorem containsPo_any {B : Nat} (a : Option Addr) (cap : Nat) (cs : List Po) (c : Po) (w : World) (h : SlAt B w a (flat Po.cells cs)) (hB : B ≤ w.heap.size) (hn : cs.length ≤ 10000000) :
    Calls Tryz.prog 120 #[.slice a cs.length cap, c.val] w fun e w' => e = .returned (.bool (decide (c ∈ cs))) ∧ Below w.heap.size w w' := by
  have HM := Lib.hid (idxPo_mem c cs)
  have HI := Lib.hid (fun w' (hb : Below w.heap.size w w') => indexPo_any a cap cs c w' (h.below hb hB) (Nat.le_trans hB hb.size) hn)
  go_enter Tryz.func120, Tryz.ntmps120
  go_wp2_with fail
  refine (HI.out _ (by repeat (first | with_reducible exact Below.refl _ _ | with_reducible assumption | with_reducible apply bl_drewN | with_reducible apply bl_drew | with_reducible apply bl_alloc | (with_reducible refine bl_set ?_ (by first | (simp; done) | (simp; omega)) _) | with_reducible refine bl_trans ?_ (by with_reducible assumption)))).mono ?_
  rintro e w1 ⟨rfl, hb⟩
  go_wp2
  go_ret
  exact ⟨by rw [← HM.out]; rfl, (by repeat (first | with_reducible exact Below.refl _ _ | with_reducible assumption | with_reducible apply bl_drewN | with_reducible apply bl_drew | with_reducible apply bl_alloc | (with_reducible refine bl_set ?_ (by first | (simp; done) | (simp; omega)) _) | with_reducible refine bl_trans ?_ (by with_reducible assumption)))⟩
end Go.Proofs.YtmeefmoblkiebaaGreat
/- Steps over free cells: plain laws. -/
namespace Go.Proofs.YtmeefmoblkiebaaGreat
open Go.RowKit
set_option linter.unusedVariables false
set_option linter.unusedSimpArgs false
set_option maxHeartbeats 400000
set_option maxRecDepth 100000
def qcs (q : List (Ce × Int)) : List Ce := q.map Prod.fst
/-- One step: the neighbour on a side of the k-th cell is reached, if it is free and new. -/
def stepq (l : Bd) (q : List (Ce × Int)) (k : Nat) (s : Int) : List (Ce × Int) :=
  if h : k < q.length then (if fr l (nxt q[k].1 s) = true ∧ nxt q[k].1 s ∉ qcs q then q ++ [(nxt q[k].1 s, q[k].2 + 1)] else q) else q
def bq (l : Bd) (c : Ce) : Nat → List (Ce × Int)
  | 0 => [(c, 0)]
  | n + 1 => stepq l (bq l c n) (n / 4) ((n % 4 : Nat) : Int)
end Go.Proofs.YtmeefmoblkiebaaGreat
/- Shortest lines: plain laws. -/
namespace Go.Proofs.YtmeefmoblkiebaaGreat
open Go.RowKit
set_option linter.unusedVariables false
set_option linter.unusedSimpArgs false
set_option maxHeartbeats 400000
set_option maxRecDepth 100000
end Go.Proofs.YtmeefmoblkiebaaGreat
/- A row of one's own that is cut at its front ('todo = todo[1:]'), and what is appended to it. -/
namespace Go.Proofs.YtmeefmoblkiebaaGreat
open Go.RowKit
set_option linter.unusedVariables false
set_option linter.unusedSimpArgs false
set_option maxHeartbeats 400000
set_option maxRecDepth 100000
def OffRow (w : World) (base : Nat) (e : TypeId) (size : Nat) (v : Value) (n : Nat) (xs : List Value) (g : Nat) : Prop :=
  xs.length = n * size ∧ base ≤ g ∧ ∃ off cap cur, v = .slice (some ⟨g, off, none⟩) n cap ∧ w.heap[g]? = some (.cells cur e (0, 0)) ∧ n ≤ cap ∧ cap ≤ maxLen ∧ off + cap * size ≤ cur.size ∧ (cur.toList.drop off).take (n * size) = xs
theorem OffRow.lt {w : World} {base : Nat} {e : TypeId} {size : Nat} {v : Value} {n : Nat} {xs : List Value} {g : Nat} (h : OffRow w base e size v n xs g) : g < w.heap.size := by
  obtain ⟨-, -, off, cap, cur, -, h1, -⟩ := h
  exact (Array.getElem?_eq_some_iff.1 h1).1
theorem OffRow.below {w w' : World} {base B : Nat} {e : TypeId} {size : Nat} {v : Value} {n : Nat} {xs : List Value} {g : Nat} (h : OffRow w base e size v n xs g) (hb : Below B w w') (hB : w.heap.size ≤ B) : OffRow w' base e size v n xs g := by
  have hl := h.lt
  obtain ⟨h1, h2, off, cap, cur, h3, h4, h5⟩ := h
  exact ⟨h1, h2, off, cap, cur, h3, by rw [hb.block g (by omega)]; exact h4, h5⟩
theorem OffRow.kept {w w' : World} {base : Nat} {e : TypeId} {size : Nat} {v : Value} {n : Nat} {xs : List Value} {g : Nat} {row : Option Nat} (h : OffRow w base e size v n xs g) (hg : w.grownBy w' row) (hne : some g ≠ row) : OffRow w' base e size v n xs g := by
  have hl := h.lt
  obtain ⟨h1, h2, off, cap, cur, h3, h4, h5⟩ := h
  exact ⟨h1, h2, off, cap, cur, h3, by rw [hg.block g hl hne]; exact h4, h5⟩
theorem OffRow.cut {w : World} {base : Nat} {e : TypeId} {size : Nat} {n : Nat} {A xs : List Value} {g off cap : Nat} (h : OffRow w base e size (.slice (some ⟨g, off, none⟩) (n + 1) (cap + 1)) (n + 1) (A ++ xs) g) (hA : A.length = size) : OffRow w base e size (.slice (some ⟨g, off + size, none⟩) n cap) n xs g := by
  obtain ⟨h1, h2, off', cap', cur, h3, h4, h5, h6, h7, h8⟩ := h
  cases h3
  rw [List.length_append, hA, Nat.succ_mul] at h1
  refine ⟨by omega, h2, _, _, cur, rfl, h4, by omega, by omega, by rw [Nat.succ_mul] at h7; omega, ?_⟩
  have h9 : ((cur.toList.drop off).take ((n + 1) * size)).drop size = xs := by rw [h8, ← hA, List.drop_left]
  rw [List.drop_take, List.drop_drop] at h9
  rw [← h9]
  congr 1
  rw [Nat.succ_mul]; omega
theorem OffRow.none_left {w : World} {base : Nat} {e : TypeId} {size : Nat} {n : Nat} {xs : List Value} {g off cap : Nat} (h : OffRow w base e size (.slice (some ⟨g, off, none⟩) n cap) n xs g) : OffRow w base e size (.slice (some ⟨g, off, none⟩) 0 0) 0 [] g := by
  obtain ⟨h1, h2, off', cap', cur, h3, h4, h5, h6, h7, h8⟩ := h
  cases h3
  exact ⟨by simp, h2, _, _, cur, rfl, h4, Nat.le_refl _, by omega, by omega, by simp⟩
/-- The rest of a row. -/
theorem OffRow.tail {w : World} {base : Nat} {e : TypeId} {n : Nat} {A xs : List Value} {g off cap : Nat} (h : OffRow w base e 2 (.slice (some ⟨g, off, none⟩) n cap) n (A ++ xs) g) (hA : A.length = 2) (hn : 0 < n) (hc : n ≤ cap) :
    OffRow w base e 2 (.slice (if cap = 1 then some ⟨g, off, none⟩ else some ⟨g, off + 2, none⟩) (n - 1) (cap - 1)) (n - 1) xs g := by
  by_cases h1 : cap = 1
  · rw [if_pos h1]
    have hn1 : n = 1 := by omega
    subst h1 hn1
    have hx : xs = [] := by
      have := h.1
      rw [List.length_append, hA] at this
      exact List.eq_nil_of_length_eq_zero (by omega)
    subst hx
    exact h.none_left
  · rw [if_neg h1]
    obtain ⟨n', rfl⟩ : ∃ n', n = n' + 1 := ⟨n - 1, by omega⟩
    obtain ⟨c', rfl⟩ : ∃ c', cap = c' + 1 := ⟨cap - 1, by omega⟩
    exact h.cut hA
section
variable {P : Program} (w : World)
end
end Go.Proofs.YtmeefmoblkiebaaGreat
/- Contracts: slices.Reverse over cells. -/
namespace Go.Proofs.YtmeefmoblkiebaaGreat
open Go.RowKit
set_option linter.unusedVariables false
set_option linter.unusedSimpArgs false
set_option maxHeartbeats 400000
set_option maxRecDepth 100000
end Go.Proofs.YtmeefmoblkiebaaGreat
/- Contracts: the ends of a way, and whether one of them is on a line. -/
namespace Go.Proofs.YtmeefmoblkiebaaGreat
open Go.RowKit
set_option linter.unusedVariables false
set_option linter.unusedSimpArgs false
set_option maxHeartbeats 400000
set_option maxRecDepth 100000
theorem containsFuncCe_any {B : Nat} (K : Nat) (caps : Array Value) (a : Option Addr) (cap : Nat) (ps : List Ce) (w : World) (hps : CesAt B w a ps) (hok : CesOk ps) (hB : B ≤ w.heap.size) (hn : ps.length ≤ 10000000)
   (eg : ∀ (args : Array Value) (w : World), (callFunc K args).run Tryz.prog w = .ok (.enter K args) w) (q : Ce → Bool) (hf : ∀ (p : Ce) (w1 : World), p.ok → Below w.heap.size w w1 → Calls Tryz.prog K (#[p.val] ++ caps) w1 fun e w' => e = .returned (.bool (q p)) ∧ Below w1.heap.size w1 w') :
    Calls Tryz.prog 121 #[.slice a ps.length cap, .func (.func K) #[] caps] w fun e w' => e = .returned (.bool (ps.any q)) ∧ Below w.heap.size w w' := by
  have H := Lib.hid (indexFuncCe_any K caps a cap ps w hps hok hB hn eg q hf)
  have HV := Lib.hid (show decide (0 ≤ (ps.findIdx? q).elim (-1 : Int) (fun n => (n : Int))) = ps.any q by
    cases hf : ps.findIdx? q with
    | none =>
      rw [List.findIdx?_eq_none_iff] at hf
      have : ps.any q = false := by rw [Bool.eq_false_iff]; intro h; rw [List.any_eq_true] at h; obtain ⟨x, hx, hq⟩ := h; rw [hf x hx] at hq; cases hq
      rw [this]; rfl
    | some k =>
      rw [List.findIdx?_eq_some_iff_getElem] at hf
      obtain ⟨h1, h2, -⟩ := hf
      have : ps.any q = true := by rw [List.any_eq_true]; exact ⟨_, List.getElem_mem h1, h2⟩
      rw [this]; simp)
  go_enter Tryz.func121, Tryz.ntmps121
  go_wp2_with fail
  refine H.out.mono ?_
  rintro e w1 ⟨rfl, hb⟩
  go_wp2
  go_ret
  exact ⟨by rw [← HV.out]; rfl, (by repeat (first | with_reducible exact Below.refl _ _ | with_reducible assumption | with_reducible apply bl_drewN | with_reducible apply bl_drew | with_reducible apply bl_alloc | (with_reducible refine bl_set ?_ (by first | (simp; done) | (simp; omega)) _) | with_reducible refine bl_trans ?_ (by with_reducible assumption)))⟩
end Go.Proofs.YtmeefmoblkiebaaGreat
/- Contracts: slices of Port, element for element. -/
namespace Go.Proofs.YtmeefmoblkiebaaGreat
open Go.RowKit
set_option linter.unusedVariables false
set_option linter.unusedSimpArgs false
set_option maxHeartbeats 400000
set_option maxRecDepth 100000
end Go.Proofs.YtmeefmoblkiebaaGreat
/- The walk of the law FnExactFreeCells. -/
namespace Go.Proofs.YtmeefmoblkiebaaGreat
open Go.RowKit
set_option linter.unusedVariables false
set_option linter.unusedSimpArgs false
set_option maxHeartbeats 400000
set_option maxRecDepth 100000

/-- A block's first cells. -/
abbrev BX3 (w : World) (b : Nat) (v0 v1 v2 : Value) : Prop := b < w.heap.size ∧ w.cell? ⟨b, 0, none⟩ = some v0 ∧ w.cell? ⟨b, 1, none⟩ = some v1 ∧ w.cell? ⟨b, 2, none⟩ = some v2
theorem BX3.step {w w' : World} {b : Nat} {v0 v1 v2 : Value} (h : BX3 w b v0 v1 v2) (hb : Below w.heap.size w w') : BX3 w' b v0 v1 v2 := by
  obtain ⟨h1, h2⟩ := h
  refine ⟨Nat.lt_of_lt_of_le h1 hb.size, ?_⟩
  simp only [hb.cell (p := ⟨b, _, none⟩) h1]
  exact h2
theorem BX3.new (w : World) (v0 v1 v2 : Value) (T : TypeId) : BX3 (w.alloc (.cells #[v0, v1, v2] T)) w.heap.size v0 v1 v2 := by
  have hh := heap_alloc_new w (.cells #[v0, v1, v2] T)
  refine ⟨by simp, ?_, ?_, ?_⟩ <;> (rw [cell_of_row _ _ _ _ _ _ hh]; rfl)

end Go.Proofs.YtmeefmoblkiebaaGreat
/- Contracts: machines in the statements' own file. -/
namespace Go.Proofs.YtmeefmoblkiebaaGreat
open Go.RowKit
set_option linter.unusedVariables false
set_option linter.unusedSimpArgs false
set_option maxHeartbeats 400000
set_option maxRecDepth 100000
/-- A value that reads as a machine. -/
def MV (w : World) (v : Value) (m : Mc) : Prop := ∃ s si so, v = mcv m.bd.wd m.bd.hg s si so ∧ PV w s m.bd.ps ∧ RV Po.cells w si m.ins ∧ RV Ce.cells w so m.outs
theorem MV.step {w w' : World} {v : Value} {m : Mc} (h : MV w v m) (hb : Below w.heap.size w w') : MV w' v m := by
  obtain ⟨s, si, so, rfl, h1, h2, h3⟩ := h
  exact ⟨s, si, so, rfl, h1.step hb, h2.step hb, h3.step hb⟩
/-- A block's first five cells. -/
abbrev BX5 (w : World) (b : Nat) (v0 v1 v2 v3 v4 : Value) : Prop := b < w.heap.size ∧ w.cell? ⟨b, 0, none⟩ = some v0 ∧ w.cell? ⟨b, 1, none⟩ = some v1 ∧ w.cell? ⟨b, 2, none⟩ = some v2 ∧ w.cell? ⟨b, 3, none⟩ = some v3 ∧ w.cell? ⟨b, 4, none⟩ = some v4
theorem BX5.step {w w' : World} {b : Nat} {v0 v1 v2 v3 v4 : Value} (h : BX5 w b v0 v1 v2 v3 v4) (hb : Below w.heap.size w w') : BX5 w' b v0 v1 v2 v3 v4 := by
  obtain ⟨h1, h2⟩ := h
  refine ⟨Nat.lt_of_lt_of_le h1 hb.size, ?_⟩
  simp only [hb.cell (p := ⟨b, _, none⟩) h1]
  exact h2
theorem BX5.new (w : World) (v0 v1 v2 v3 v4 : Value) (T : TypeId) : BX5 (w.alloc (.cells #[v0, v1, v2, v3, v4] T)) w.heap.size v0 v1 v2 v3 v4 := by
  have hh := heap_alloc_new w (.cells #[v0, v1, v2, v3, v4] T)
  refine ⟨by simp, ?_, ?_, ?_, ?_, ?_⟩ <;> (rw [cell_of_row _ _ _ _ _ _ hh]; rfl)
/-- No block of both. -/
def Apart (v v' : Value) : Prop := (∀ k, v.ownBlock = some k → some k ≠ v'.ownBlock) ∧ ∀ k, v'.ownBlock = some k → some k ≠ v.ownBlock
/-- A machine whose three rows are the call's own. -/
def OwnM (w : World) (base : Nat) (s si so : Value) (m : Mc) : Prop :=
  w.ownsRow base 49 5 s m.bd.ps.length (flat Pc.cells m.bd.ps) ∧ w.ownsRow base 127 3 si m.ins.length (flat Po.cells m.ins) ∧ w.ownsRow base 47 2 so m.outs.length (flat Ce.cells m.outs) ∧ Apart s si ∧ Apart s so ∧ Apart si so
theorem OwnM.mv {w : World} {base : Nat} {s si so : Value} {m : Mc} (h : OwnM w base s si so m) : MV w (mcv m.bd.wd m.bd.hg s si so) m :=
  ⟨s, si, so, rfl, own_pv h.1, own_rv h.2.1, own_rv h.2.2.1⟩
theorem OwnM.below {w w' : World} {base : Nat} {s si so : Value} {m : Mc} (h : OwnM w base s si so m) (hb : Below w.heap.size w w') : OwnM w' base s si so m :=
  ⟨own_below h.1 hb (Nat.le_refl _), own_below h.2.1 hb (Nat.le_refl _), own_below h.2.2.1 hb (Nat.le_refl _), h.2.2.2⟩
end Go.Proofs.YtmeefmoblkiebaaGreat
/- Contracts: which machines are valid (the program). -/
namespace Go.Proofs.YtmeefmoblkiebaaGreat
open Go.RowKit
set_option linter.unusedVariables false
set_option linter.unusedSimpArgs false
set_option maxHeartbeats 400000
set_option maxRecDepth 100000
/-- A value that reads as a machine, its inputs within their room. -/
def MVc (w : World) (v : Value) (m : Mc) : Prop := ∃ sa scap ia icap oa ocap, v = mcv m.bd.wd m.bd.hg (.slice sa m.bd.ps.length scap) (.slice ia m.ins.length icap) (.slice oa m.outs.length ocap) ∧ m.ins.length ≤ icap ∧ PcsAt w.heap.size w sa m.bd.ps ∧ SlAt w.heap.size w ia (flat Po.cells m.ins) ∧ SlAt w.heap.size w oa (flat Ce.cells m.outs)
theorem MVc.step {w w' : World} {v : Value} {m : Mc} (h : MVc w v m) (hb : Below w.heap.size w w') : MVc w' v m := by
  obtain ⟨sa, scap, ia, icap, oa, ocap, rfl, h0, h1, h2, h3⟩ := h
  exact ⟨sa, scap, ia, icap, oa, ocap, rfl, h0, (h1.below hb (Nat.le_refl _)).mono hb.size, (h2.below hb (Nat.le_refl _)).mono hb.size, (h3.below hb (Nat.le_refl _)).mono hb.size⟩
theorem OwnM.mvc {w : World} {base : Nat} {s si so : Value} {m : Mc} (h : OwnM w base s si so m) : MVc w (mcv m.bd.wd m.bd.hg s si so) m := by
  obtain ⟨h1, h2, h3, -⟩ := h
  obtain ⟨a, cap, rfl, h1, -⟩ := own_at h1
  obtain ⟨a1, cap1, rfl, h2, h4, -⟩ := own_at h2
  obtain ⟨a2, cap2, rfl, h3, -⟩ := own_at h3
  exact ⟨a, cap, a1, cap1, a2, cap2, rfl, h4, h1, h2, h3⟩
theorem MVc.mv {w : World} {v : Value} {m : Mc} (h : MVc w v m) : MV w v m := by
  obtain ⟨sa, scap, ia, icap, oa, ocap, rfl, h0, h1, h2, h3⟩ := h
  exact ⟨_, _, _, rfl, ⟨sa, scap, rfl, h1⟩, ⟨ia, icap, rfl, h2⟩, ⟨oa, ocap, rfl, h3⟩⟩
theorem SlAt.pre {B : Nat} {w : World} {a : Option Addr} {ys zs : List Value} (h : SlAt B w a (ys ++ zs)) : SlAt B w a ys := by
  intro j hj
  obtain ⟨b, off, h1, h2, h3⟩ := h j (by simp; omega)
  exact ⟨b, off, h1, h2, by rw [h3, List.getElem_append_left hj]⟩
theorem slAt_take {α : Type} {f : α → List Value} {B : Nat} {w : World} {a : Option Addr} {l : List α} (h : SlAt B w a (flat f l)) (k : Nat) : SlAt B w a (flat f (l.take k)) := by
  rw [← List.take_append_drop k l, flat_append] at h
  exact h.pre
theorem all_outOk (ps : List Pc) (cs : List Ce) : cs.all (outOk ps) = !(cs.any (fun c => decide (fnd c ps < 0))) := by
  induction cs with
  | nil => rfl
  | cons c cs ih =>
    rw [List.all_cons, List.any_cons, ih]
    have : outOk ps c = !(decide (fnd c ps < 0)) := by
      unfold outOk
      by_cases hc : fnd c ps < 0
      · rw [decide_eq_true hc, decide_eq_false (by omega)]; rfl
      · rw [decide_eq_false hc, decide_eq_true (by omega)]; rfl
    rw [this, Bool.not_or]
theorem eg_vm1 (args : Array Value) (w : World) : (callFunc 122 args).run Tryz.prog w = .ok (.enter 122 args) w := by kernel_rfl
theorem vm1_any (c : Ce) (b0 : Nat) (l : Bd) (w : World) (hb : BP w b0 l) (hlok : l.ok) (hn : l.ps.length ≤ 10000000) :
    Calls Tryz.prog 122 #[c.val, .pointer (some ⟨b0, 0, none⟩)] w fun e w' => e = .returned (.bool (decide (fnd c l.ps < 0))) ∧ Below w.heap.size w w' := by
  have hne : b0 ≠ w.heap.size := by have := hb.1; omega
  have H := Lib.hid (at_any b0 l c (w.alloc (.cells #[.int .i8 c.x, .int .i8 c.y] 47)) (hb.step (bl_alloc (Below.refl _ _))) hlok hn)
  go_enter Tryz.func122, Tryz.ntmps122
  go_wp2_with (go_at_call 59; refine H.out.mono ?_; rintro e w1 ⟨rfl, hb1⟩)
  go_ret
  exact ⟨rfl, (by repeat (first | with_reducible exact Below.refl _ _ | with_reducible assumption | with_reducible apply bl_drewN | with_reducible apply bl_drew | with_reducible apply bl_alloc | (with_reducible refine bl_set ?_ (by first | (simp; done) | (simp; omega)) _) | with_reducible refine bl_trans ?_ (by with_reducible assumption)))⟩
set_option maxHeartbeats 3200000 in
theorem validMachine_any (m : Mc) (v : Value) (w : World) (h : MVc w v m) (hok : m.ok) (hn : m.bd.ps.length ≤ 10000000) (hn1 : m.ins.length ≤ 10000000) (hn2 : m.outs.length ≤ 10000000) :
    Calls Tryz.prog 68 #[v] w fun e w' => e = .returned (.bool (vMc m)) ∧ Below w.heap.size w w' := by
  obtain ⟨sa, scap, ia, icap, oa, ocap, rfl, hcap, hps, hins, houts⟩ := h
  have HBA := Lib.hid (show Below w.heap.size w (w.alloc (.cells #[.int .i8 m.bd.wd, .int .i8 m.bd.hg, .slice sa m.bd.ps.length scap, .slice ia m.ins.length icap, .slice oa m.outs.length ocap] 55)) from bl_alloc (Below.refl _ _))
  have HM0 := MP.new (m := m) (w := w) ⟨sa, scap, rfl, hps⟩ ⟨ia, icap, rfl, hins⟩ ⟨oa, ocap, rfl, houts⟩ 55
  have X0 := BX5.new w (.int .i8 m.bd.wd) (.int .i8 m.bd.hg) (.slice sa m.bd.ps.length scap) (.slice ia m.ins.length icap) (.slice oa m.outs.length ocap) 55
  have HV := Lib.hid (fun w1 (hb : Below w.heap.size w w1) => validBoard_any m.bd.wd m.bd.hg sa scap m.bd.ps w1 ((hps.below hb (Nat.le_refl _)).mono hb.size) hok.1 hn)
  have HVM := Lib.hid (vMc_ht m)
  generalize vMc m = r at HVM ⊢
  have HHD : Hid (headM m = (vBd m.bd && decide (m.bd.ps.length ≤ 60) && inB m.ins.length 1 6 && inB m.outs.length 1 8)) := Lib.hid rfl
  obtain ⟨W, hW⟩ : ∃ W, W = w.alloc (.cells #[.int .i8 m.bd.wd, .int .i8 m.bd.hg, .slice sa m.bd.ps.length scap, .slice ia m.ins.length icap, .slice oa m.outs.length ocap] 55) := ⟨_, rfl⟩
  rw [← hW] at HBA HM0 X0
  have HM := Lib.hid HM0
  have HX := Lib.hid X0
  clear HM0 X0
  cases g0 : headM m with
  | false =>
    have HR : Hid (r = false) := Lib.hid (by rw [HVM.out, g0]; rfl)
    rw [g0] at HHD
    clear HVM g0 hins houts hps
    cases g1 : vBd m.bd with
    | false =>
      have g1' : vBd ⟨m.bd.wd, m.bd.hg, m.bd.ps⟩ = false := g1
      rw [g1'] at HV
      clear HHD g1 g1'
      go_enter Tryz.func68, Tryz.ntmps68
      go_wp2_with fail
      rw [← hW]
      refine (HV.out _ HBA.out).mono ?_
      rintro e w1 ⟨rfl, hb1⟩
      go_wp2
      go_ret
      exact ⟨by rw [HR.out]; rfl, bl_trans HBA.out hb1⟩
    | true =>
      have g1' : vBd ⟨m.bd.wd, m.bd.hg, m.bd.ps⟩ = true := g1
      rw [g1'] at HV
      rcases dec_cases ((60 : Int) < m.bd.ps.length) with ⟨g2, k2⟩ | ⟨g2, k2⟩
      · clear HHD g1 k2 g1'
        go_enter Tryz.func68, Tryz.ntmps68
        go_wp2_with fail
        rw [← hW]
        refine (HV.out _ HBA.out).mono ?_
        rintro e w1 ⟨rfl, hb1⟩
        obtain ⟨-, c0, c1, c2, c3, c4⟩ := HX.out.step hb1
        go_wp2
        go_ret
        exact ⟨by rw [HR.out]; rfl, bl_trans HBA.out hb1⟩
      · have e2 : decide (m.bd.ps.length ≤ 60) = true := decide_eq_true (by omega)
        rw [g1, e2] at HHD
        clear g1 k2 e2 g1'
        cases g3 : inB m.ins.length 1 6 with
        | false =>
          clear HHD
          go_enter Tryz.func68, Tryz.ntmps68
          go_wp2_with fail
          rw [← hW]
          refine (HV.out _ HBA.out).mono ?_
          rintro e w1 ⟨rfl, hb1⟩
          obtain ⟨-, c0, c1, c2, c3, c4⟩ := HX.out.step hb1
          go_wp2_with (go_at_call 64; refine (in_any _ _ _ _).mono ?_; rintro e w' ⟨rfl, rfl⟩)
          go_ret
          exact ⟨by rw [HR.out]; rfl, bl_trans HBA.out hb1⟩
        | true =>
          have g4 : inB m.outs.length 1 8 = false := by
            have := HHD.out
            rw [g3] at this
            simpa using this.symm
          clear HHD
          go_enter Tryz.func68, Tryz.ntmps68
          go_wp2_with fail
          rw [← hW]
          refine (HV.out _ HBA.out).mono ?_
          rintro e w1 ⟨rfl, hb1⟩
          obtain ⟨-, c0, c1, c2, c3, c4⟩ := HX.out.step hb1
          go_wp2_with (go_at_call 64; refine (in_any _ _ _ _).mono ?_; rintro e w' ⟨rfl, rfl⟩)
          go_ret
          exact ⟨by rw [HR.out]; rfl, bl_trans HBA.out hb1⟩
  | true =>
    have HR : Hid (r = tailM m) := Lib.hid (by rw [HVM.out, g0]; rfl)
    rw [g0] at HHD
    have hh := HHD.out.symm
    simp only [Bool.and_eq_true, decide_eq_true_eq] at hh
    obtain ⟨⟨⟨g1, g2⟩, g3⟩, g4⟩ := hh
    have g1' : vBd ⟨m.bd.wd, m.bd.hg, m.bd.ps⟩ = true := g1
    rw [g1'] at HV
    have e2 : decide ((60 : Int) < m.bd.ps.length) = false := decide_eq_false (by omega)
    have HTL : Hid (tailM m = (m.ins.all (poOk m.bd.ps) && decide m.ins.Nodup && m.outs.all (outOk m.bd.ps))) := Lib.hid rfl
    clear HHD HVM g0 g1 g1'
    go_enter Tryz.func68, Tryz.ntmps68
    go_wp2_with fail
    rw [← hW]
    have hwlt : w.heap.size < W.heap.size := HX.out.1
    refine (HV.out _ HBA.out).mono ?_
    rintro e w1 ⟨rfl, hb1⟩
    obtain ⟨-, c0, c1, c2, c3, c4⟩ := HX.out.step hb1
    have HB1 := Lib.hid hb1
    clear hb1
    go_wp2_with (go_at_call 64; refine (in_any _ _ _ _).mono ?_; rintro e w' ⟨rfl, rfl⟩)
    go_loopw [33] (fun ix wr => ∃ k : Nat, k ≤ m.ins.length ∧ ix = .int .i64 k ∧ Hid (insTo m k) ∧ Below W.heap.size W wr) (fun ix _ => m.ins.length - (intOf ix).toNat)
    case atStart => exact ⟨0, by omega, rfl, Lib.hid ⟨by simp, by simp⟩, HB1.out⟩
    case round =>
      clear c0 c1 c2 c3 c4
      obtain ⟨k, hk, rfl, hto, hb⟩ := hrel
      obtain ⟨hwr, c0, c1, c2, c3, c4⟩ := HX.out.step hb
      have hbw := bl_trans HBA.out hb
      by_cases hlt : k < m.ins.length
      · obtain ⟨b, off, rfl, hbi, hat⟩ := pos_get hins hlt
        unfold PoAt at hat
        obtain ⟨a0, a1, a2⟩ := hat
        have q0 : wr.cell? ⟨b, off + k * 3, none⟩ = some (.int .i8 m.ins[k].x) := by rw [hbw.cell (p := ⟨_, _, none⟩) hbi]; exact a0
        have q1 : wr.cell? ⟨b, off + k * 3 + 1, none⟩ = some (.int .i8 m.ins[k].y) := by rw [hbw.cell (p := ⟨_, _, none⟩) hbi]; exact a1
        have q2 : wr.cell? ⟨b, off + k * 3 + 2, none⟩ = some (.int .i8 m.ins[k].s) := by rw [hbw.cell (p := ⟨_, _, none⟩) hbi]; exact a2
        obtain ⟨ok0, ok1, ok2⟩ := hok.2.1 k hlt
        have s1 : IntKind.i64.wrap m.ins[k].s = m.ins[k].s := by rw [IntKind.wrap_i64]; unfold I8 at ok2; omega
        obtain ⟨P, hP⟩ : ∃ P, P = m.ins[k] := ⟨_, rfl⟩
        rw [← hP] at q0 q1 q2 s1
        have HP := Lib.hid hP
        have HAL := Lib.hid (show Below wr.heap.size wr (wr.alloc (.cells #[.int .i8 P.x, .int .i8 P.y, .int .i8 P.s] 127)) from bl_alloc (Below.refl _ _))
        have HBW := Lib.hid (bl_trans hbw HAL.out)
        have HBB := Lib.hid (bl_trans hb HAL.out)
        have hX3 := BX3.new wr (.int .i8 P.x) (.int .i8 P.y) (.int .i8 P.s) 127
        clear hP ok0 ok1 ok2 a0 a1 a2
        go_wp2
        obtain ⟨w2, hw2⟩ : ∃ w2, w2 = wr.alloc (.cells #[.int .i8 P.x, .int .i8 P.y, .int .i8 P.s] 127) := ⟨_, rfl⟩
        rw [← hw2] at HBW HBB HAL hX3 ⊢
        obtain ⟨hp2, p0, p1, p2⟩ := hX3
        obtain ⟨hw22, d0, d1, d2, d3, d4⟩ := HX.out.step HBB.out
        clear hw2 c0 c1 c2 c3 c4 q0 q1 q2
        cases gs : inB m.ins[k].s 0 3 with
        | false =>
          have HS := Lib.hid (fun w => gs ▸ isSide_any m.ins[k].s w)
          rw [← HP.out] at HS
          have HRF : Hid (r = false) := Lib.hid (by rw [HR.out, HTL.out, insTo_bad m k hlt (by unfold poOk; rw [gs]; rfl)]; rfl)
          clear gs
          (refine wp_region_ext (by kernel_rfl) (by kernel_rfl) ?_; have hX := @ext_cell; (repeat (go_big_quiet_step ((go_at_call 119; exact ext_same (HS.out _))))); refine wpQuiet_nil ?_; clear hX; intro wx hw'; obtain ⟨⟨wx, hbx⟩, rfl⟩ := hw'; obtain ⟨hcx, hfx⟩ := bcell hbx)
          go_wp2
          go_ret
          exact ⟨by rw [HRF.out]; rfl, bl_trans HBW.out hbx⟩
        | true =>
          have HS := Lib.hid (fun w => gs ▸ isSide_any m.ins[k].s w)
          rw [← HP.out] at HS
          have HFD := Lib.hid (fun u : Ext w2 => at_any w.heap.size m.bd ⟨P.x, P.y⟩ u.w ((HM.out.step HBB.out).step u.b).bp hok.1 hn)
          obtain ⟨fk, hfk⟩ : ∃ fk, fk = fnd ⟨P.x, P.y⟩ m.bd.ps := ⟨_, rfl⟩
          rw [← hfk] at HFD
          have HPK : Hid (poOk m.bd.ps m.ins[k] = decide (0 ≤ fk)) := Lib.hid (by unfold poOk; rw [gs, hfk, HP.out]; rfl)
          clear gs hfk
          rcases dec_cases (fk < 0) with ⟨gf, kf⟩ | ⟨gf, kf⟩
          · have HRF : Hid (r = false) := Lib.hid (by rw [HR.out, HTL.out, insTo_bad m k hlt (by rw [HPK.out]; exact decide_eq_false (by omega))]; rfl)
            clear kf
            (refine wp_region_ext (by kernel_rfl) (by kernel_rfl) ?_; have hX := @ext_cell; (repeat (go_big_quiet_step (first | (go_at_call 119; exact ext_same (HS.out _)) | (go_at_call 59; exact ext_call (HFD.out _))))); refine wpQuiet_nil ?_; clear hX; intro wx hw'; obtain ⟨⟨wx, hbx⟩, rfl⟩ := hw'; obtain ⟨hcx, hfx⟩ := bcell hbx)
            go_wp2
            go_ret
            exact ⟨by rw [HRF.out]; rfl, bl_trans HBW.out hbx⟩
          · have HPT : Hid (poOk m.bd.ps m.ins[k] = true) := Lib.hid (by rw [HPK.out]; exact decide_eq_true (by omega))
            have HCN := Lib.hid (fun u : Ext w2 => (show Calls Tryz.prog 120 #[.slice (some ⟨b, off, none⟩) k icap, P.val] u.w (fun e w' => e = .returned (.bool (decide (P ∈ m.ins.take k))) ∧ Below u.w.heap.size u.w w') from by
              have h8 := containsPo_any (B := w.heap.size) (some ⟨b, off, none⟩) icap (m.ins.take k) P u.w (slAt_take (hins.below (bl_trans HBW.out u.b) (Nat.le_refl _)) k) (bl_trans HBW.out u.b).size (by rw [List.length_take]; omega)
              rwa [List.length_take, Nat.min_eq_left hk] at h8))
            have hkc : (k : Int) ≤ icap := by omega
            have hkc2 : k ≤ icap := by omega
            clear kf
            cases gm : decide (P ∈ m.ins.take k) with
            | true =>
              rw [gm] at HCN
              have HRF : Hid (r = false) := Lib.hid (by
                rw [decide_eq_true_eq, List.mem_take_iff_getElem] at gm
                obtain ⟨j, hj, he⟩ := gm
                rw [HR.out, HTL.out, ins_dup m j k (by omega) hlt (by rw [he, HP.out])]; simp)
              clear gm
              (refine wp_region_ext (by kernel_rfl) (by kernel_rfl) ?_; have hX := @ext_cell; (repeat (go_big_quiet_step (first | (go_at_call 119; exact ext_same (HS.out _)) | (go_at_call 59; exact ext_call (HFD.out _)) | (go_at_call 120; exact ext_call (HCN.out _))))); refine wpQuiet_nil ?_; clear hX; intro wx hw'; obtain ⟨⟨wx, hbx⟩, rfl⟩ := hw'; obtain ⟨hcx, hfx⟩ := bcell hbx)
              go_wp2
              go_ret
              exact ⟨by rw [HRF.out]; rfl, bl_trans HBW.out hbx⟩
            | false =>
              rw [gm] at HCN
              have HT2 := Lib.hid (insTo_succ m k hlt hto.out HPT.out (fun i hi e => by
                rw [decide_eq_false_iff_not] at gm
                apply gm
                rw [List.mem_take_iff_getElem]
                exact ⟨i, by omega, by rw [e, HP.out]⟩))
              clear gm
              (refine wp_region_ext (by kernel_rfl) (by kernel_rfl) ?_; have hX := @ext_cell; (repeat (go_big_quiet_step (first | (go_at_call 119; exact ext_same (HS.out _)) | (go_at_call 59; exact ext_call (HFD.out _)) | (go_at_call 120; exact ext_call (HCN.out _))))); refine wpQuiet_nil ?_; clear hX; intro wx hw'; obtain ⟨⟨wx, hbx⟩, rfl⟩ := hw'; obtain ⟨hcx, hfx⟩ := bcell hbx)
              go_wp2
              go_roundw
              case rel => exact ⟨k + 1, by omega, by go_num, HT2, bl_trans HBB.out hbx⟩
              case measure => simp [intOf]; omega
      · have hkn : k = m.ins.length := by omega
        subst hkn
        have HIA : Hid (m.ins.all (poOk m.bd.ps) = true ∧ decide m.ins.Nodup = true) := Lib.hid (by
          have := hto.out
          unfold insTo at this
          rw [List.take_length] at this
          exact ⟨this.1, decide_eq_true this.2⟩)
        have HR2 : Hid (r = !(m.outs.any (fun c => decide (fnd c m.bd.ps < 0)))) := Lib.hid (by
          rw [HR.out, HTL.out, HIA.out.1, HIA.out.2]
          simp only [Bool.true_and]
          exact all_outOk _ _)
        have HCF := Lib.hid (containsFuncCe_any (B := wr.heap.size) 122 #[.pointer (some ⟨w.heap.size, 0, none⟩)] oa ocap m.outs wr ((houts.below hbw (Nat.le_refl _)).mono hbw.size) hok.2.2 (Nat.le_refl _) hn2 eg_vm1 (fun c => decide (fnd c m.bd.ps < 0)) (fun p w1 hp hb1 => vm1_any p w.heap.size m.bd w1 ((HM.out.step hb).step hb1).bp hok.1 hn))
        have HBF := Lib.hid hbw
        clear HR HTL hto hins houts hps
        go_wp2_with fail
        refine HCF.out.mono ?_
        rintro e w3 ⟨rfl, hb3⟩
        go_wp2
        go_ret
        exact ⟨by rw [HR2.out]; rfl, bl_trans HBF.out hb3⟩
end Go.Proofs.YtmeefmoblkiebaaGreat
/- Contracts: the works of a machine. -/
namespace Go.Proofs.YtmeefmoblkiebaaGreat
open Go.RowKit
set_option linter.unusedVariables false
set_option linter.unusedSimpArgs false
set_option maxHeartbeats 400000
set_option maxRecDepth 100000
def hit0 (ps : List Pc) (p : Po) : Hi := ⟨0, fnd ⟨p.x, p.y⟩ ps, p.s, -1⟩
def outF (ps : List Pc) (c : Ce) : Int := fnd c ps
/-- A block that holds the works of a machine. -/
def WkAt (w : World) (g b0 : Nat) (m : Mc) : Prop :=
  g < w.heap.size ∧ w.cell? ⟨g, 0, none⟩ = some (.pointer (some ⟨b0, 0, none⟩)) ∧ (∃ bs, w.cell? ⟨g, 1, none⟩ = some (.pointer (some ⟨bs, 0, none⟩)) ∧ StAt w bs m.bd) ∧
   (∃ a cap, w.cell? ⟨g, 2, none⟩ = some (.slice a m.ins.length cap) ∧ SlAt w.heap.size w a (flat Hi.cells (m.ins.map (hit0 m.bd.ps)))) ∧
   (∃ a cap, w.cell? ⟨g, 3, none⟩ = some (.slice a m.outs.length cap) ∧ SlAt w.heap.size w a (flat inC (m.outs.map (outF m.bd.ps))))
theorem WkAt.step {w w' : World} {g b0 : Nat} {m : Mc} (h : WkAt w g b0 m) (hb : Below w.heap.size w w') : WkAt w' g b0 m := by
  obtain ⟨h1, c0, ⟨bs, c1, st⟩, ⟨a, cap, c2, s2⟩, ⟨a', cap', c3, s3⟩⟩ := h
  refine ⟨Nat.lt_of_lt_of_le h1 hb.size, ?_, ⟨bs, ?_, st.step hb⟩, ⟨a, cap, ?_, (s2.below hb (Nat.le_refl _)).mono hb.size⟩, ⟨a', cap', ?_, (s3.below hb (Nat.le_refl _)).mono hb.size⟩⟩
  · rw [hb.cell (p := ⟨g, _, none⟩) h1]; exact c0
  · rw [hb.cell (p := ⟨g, _, none⟩) h1]; exact c1
  · rw [hb.cell (p := ⟨g, _, none⟩) h1]; exact c2
  · rw [hb.cell (p := ⟨g, _, none⟩) h1]; exact c3
theorem Tryz.infoIntW : (Tryz.prog.info? 3).map (fun i => (i.zero, i.size, i.bytes)) = some (some (.int .i64 0), 1, 8) := by kernel_rfl
theorem wk_mk {w : World} {g bs b0 b1 b2 b3 : Nat} {m : Mc} {v v' : Value} (hg : g < w.heap.size) (how : w.ownsRow b1 108 4 (.slice (some ⟨g, 0, none⟩) 1 1) 1 [.pointer (some ⟨b0, 0, none⟩), .pointer (some ⟨bs, 0, none⟩), v, v']) (hor : w.ownsRow b2 161 4 v m.ins.length (flat Hi.cells (m.ins.map (hit0 m.bd.ps)))) (hou : w.ownsRow b3 3 1 v' m.outs.length (flat inC (m.outs.map (outF m.bd.ps)))) (hst : StAt w bs m.bd) : WkAt w g b0 m := by
  obtain ⟨a9, cap9, e9, sl9, -, -⟩ := own_at hor
  obtain ⟨a8, cap8, e8, sl8, -, -⟩ := own_at hou
  have k0 : w.cell? ⟨g, 0, none⟩ = some (.pointer (some ⟨b0, 0, none⟩)) := by rw [how.cellAt 0 (by omega)]; rfl
  have k1 : w.cell? ⟨g, 1, none⟩ = some (.pointer (some ⟨bs, 0, none⟩)) := by rw [how.cellAt 1 (by omega)]; rfl
  have k2 : w.cell? ⟨g, 2, none⟩ = some v := by rw [how.cellAt 2 (by omega)]; rfl
  have k3 : w.cell? ⟨g, 3, none⟩ = some v' := by rw [how.cellAt 3 (by omega)]; rfl
  exact ⟨hg, k0, ⟨bs, k1, hst⟩, ⟨a9, cap9, by rw [k2, e9], sl9⟩, ⟨a8, cap8, by rw [k3, e8], sl8⟩⟩
set_option maxHeartbeats 3200000 in
theorem worksOf_kp (b0 : Nat) (m : Mc) (w : World) (h : MP w b0 m) (hv : vMc m = true) (hok : m.ok) :
    Calls Tryz.prog 69 #[.pointer (some ⟨b0, 0, none⟩)] w fun e w' => ∃ g, e = .returned (.pointer (some ⟨g, 0, none⟩)) ∧ w.heap.size ≤ g ∧ (WkAt w' g b0 m ∧ ∀ q, KpPs w b0 m.bd q → ∀ w2, w'.grownBy w2 (some q) → WkAt w2 g b0 m) ∧ Below w.heap.size w w' := by
  obtain ⟨hvb, h60, hi1, hi6, ho1, ho8, -⟩ := vMc_parts m hv
  have HM := Lib.hid h
  have HST := Lib.hid (stageOf_kp b0 m.bd w h.bp hvb)
  have HAT := Lib.hid (fun (c : Ce) w1 (hb : Below w.heap.size w w1) => at_any b0 m.bd c w1 (HM.out.step hb).bp hok.1 (show m.bd.ps.length ≤ 10000000 by omega))
  obtain ⟨hbl, s, si, so, ⟨hbd, c3, c4⟩, -, ⟨ia, icap, rfl, hins⟩, ⟨oa, ocap, rfl, houts⟩⟩ := h
  obtain ⟨i0, hi0, hiz0, hiz1, hiz2⟩ := info_parts Tryz.infoHit
  obtain ⟨j0, hj0, hjz0, hjz1, hjz2⟩ := info_parts Tryz.infoIntW
  go_enter Tryz.func69, Tryz.ntmps69
  go_wp2_with fail
  refine HST.out.mono ?_
  rintro e w1 ⟨bs, rfl, hbs, ⟨hst, hskp⟩, hb1⟩
  have HB1 := Lib.hid hb1
  have HS1 := Lib.hid hst
  have HSK := Lib.hid hskp
  clear hskp
  have r3 : w1.cell? ⟨b0, 3, none⟩ = some (.slice ia m.ins.length icap) := by rw [hb1.cell (p := ⟨_, _, none⟩) hbl]; exact c3
  have hz1 := hb1.size
  have hbl1 : b0 < w1.heap.size := by omega
  have hown0 := own_newAt w1 #[.pointer (some ⟨b0, 0, none⟩), .pointer (some ⟨bs, 0, none⟩), .slice none 0 0, .slice none 0 0] 108 4 w1.heap.size w1.heap.size rfl (Nat.le_refl _) rfl _ rfl
  have hb0 : Below w1.heap.size w1 (w1.alloc (.cells #[.pointer (some ⟨b0, 0, none⟩), .pointer (some ⟨bs, 0, none⟩), .slice none 0 0, .slice none 0 0] 108)) := bl_alloc (Below.refl _ _)
  have hz0 : (w1.alloc (.cells #[.pointer (some ⟨b0, 0, none⟩), .pointer (some ⟨bs, 0, none⟩), .slice none 0 0, .slice none 0 0] 108)).heap.size = w1.heap.size + 1 := by simp
  clear hb1 hst HST
  go_wp2
  go_loopw [20] (fun ix wr => ∃ (k : Nat) (v : Value), k ≤ m.ins.length ∧ ix = .int .i64 k ∧ wr.ownsRow w1.heap.size 108 4 (.slice (some ⟨w1.heap.size, 0, none⟩) 1 1) 1 [.pointer (some ⟨b0, 0, none⟩), .pointer (some ⟨bs, 0, none⟩), v, .slice none 0 0] ∧ wr.ownsRow (w1.heap.size + 1) 161 4 v k (flat Hi.cells ((m.ins.take k).map (hit0 m.bd.ps))) ∧ w1.heap.size + 1 ≤ wr.heap.size ∧ Below w1.heap.size w1 wr) (fun ix _ => m.ins.length - (intOf ix).toNat)
  case atStart => exact ⟨0, .slice none 0 0, by omega, rfl, hown0, World.ownsRow_nil _ _ _ _, by omega, hb0⟩
  case round =>
    clear hown0 hb0 hz0 r3
    obtain ⟨k, v, hk, rfl, how, hor, hz, hb⟩ := hrel
    have hbW := bl_trans HB1.out hb
    by_cases hlt : k < m.ins.length
    · obtain ⟨b, off, rfl, hbi, hat⟩ := pos_get hins hlt
      unfold PoAt at hat
      obtain ⟨a0, a1, a2⟩ := hat
      have q0 : wr.cell? ⟨b, off + k * 3, none⟩ = some (.int .i8 m.ins[k].x) := by rw [hbW.cell (p := ⟨_, _, none⟩) hbi]; exact a0
      have q1 : wr.cell? ⟨b, off + k * 3 + 1, none⟩ = some (.int .i8 m.ins[k].y) := by rw [hbW.cell (p := ⟨_, _, none⟩) hbi]; exact a1
      have q2 : wr.cell? ⟨b, off + k * 3 + 2, none⟩ = some (.int .i8 m.ins[k].s) := by rw [hbW.cell (p := ⟨_, _, none⟩) hbi]; exact a2
      have ok2 := (hok.2.1 k hlt).2.2
      have s1 : IntKind.i64.wrap m.ins[k].s = m.ins[k].s := by rw [IntKind.wrap_i64]; unfold I8 at ok2; omega
      have HTK : Hid ((m.ins.take (k + 1)).map (hit0 m.bd.ps) = (m.ins.take k).map (hit0 m.bd.ps) ++ [hit0 m.bd.ps m.ins[k]]) := Lib.hid (by rw [List.take_succ_eq_append_getElem hlt, List.map_append]; rfl)
      obtain ⟨P, hP⟩ : ∃ P, P = m.ins[k] := ⟨_, rfl⟩
      rw [← hP] at q0 q1 q2 s1 HTK
      have hX3 := BX3.new wr (.int .i8 P.x) (.int .i8 P.y) (.int .i8 P.s) 127
      have hal : Below wr.heap.size wr (wr.alloc (.cells #[.int .i8 P.x, .int .i8 P.y, .int .i8 P.s] 127)) := bl_alloc (Below.refl _ _)
      clear hP ok2 a0 a1 a2
      go_wp2_with fail
      obtain ⟨w2, hw2⟩ : ∃ w2, w2 = wr.alloc (.cells #[.int .i8 P.x, .int .i8 P.y, .int .i8 P.s] 127) := ⟨_, rfl⟩
      rw [← hw2] at hal hX3 ⊢
      obtain ⟨gp, hgp⟩ : ∃ gp, gp = wr.heap.size := ⟨_, rfl⟩
      have how2 := own_below how hal (Nat.le_refl _)
      have hor2 := own_below hor hal (Nat.le_refl _)
      have HBW2 := Lib.hid (bl_trans hbW hal)
      have HBB2 := Lib.hid (bl_trans hb hal)
      have hz2 := hal.size
      rw [← hgp] at hX3 ⊢
      have HNP : Hid (some gp ≠ v.ownBlock) := Lib.hid (fun e => by have := (hor.lt gp e.symm).2; omega)
      have HNG : Hid (some w1.heap.size ≠ v.ownBlock) := Lib.hid (fun e => by have := (hor.lt _ e.symm).1; omega)
      have hgp1 : w1.heap.size < gp := by omega
      have HGP := Lib.hid hgp
      clear hal hw2 q0 q1 q2 how hor hb hbW hgp
      obtain ⟨hp2, p0, p1, p2⟩ := hX3
      have e2 : w2.cell? ⟨w1.heap.size, 2, none⟩ = some v := by rw [how2.cellAt 2 (by omega)]; rfl
      have e2f : w2.frozen? ⟨w1.heap.size, 2, none⟩ = false := how2.frozenAt 2
      have hgl : w1.heap.size < w2.heap.size := by omega
      have HOW := Lib.hid how2
      have HOR := Lib.hid hor2
      have HFD := Lib.hid (fun w3 (hb3 : Below w.heap.size w w3) => HAT.out ⟨P.x, P.y⟩ w3 hb3)
      obtain ⟨fk, hfk⟩ : ∃ fk, fk = fnd ⟨P.x, P.y⟩ m.bd.ps := ⟨_, rfl⟩
      rw [← hfk] at HFD
      have HH0 : Hid (Hi.cells (hit0 m.bd.ps P) = [.int .i64 0, .int .i64 fk, .int .i64 P.s, .int .i64 (-1)]) := Lib.hid (by rw [hfk]; rfl)
      clear how2 hor2 hfk
      have hk32 : (k + 1) * 32 ≤ 140737488355328 := by omega
      go_upto_region 5 with fail
      refine wp_region_T 0 19 (fun w' => w'.cell? ⟨w1.heap.size, 2, none⟩ = some v ∧ w'.cell? ⟨gp, 0, none⟩ = some (.int .i8 P.x) ∧ w'.cell? ⟨gp, 1, none⟩ = some (.int .i8 P.y) ∧ w'.cell? ⟨gp, 2, none⟩ = some (.int .i8 P.s)) (by kernel_rfl) ⟨e2, p0, p1, p2⟩ (fun hHeld => ?_)
      obtain ⟨Y0, hY0⟩ : ∃ Y, Y = w2.drew := ⟨_, rfl⟩
      have b20 : Below w2.heap.size w2 w2.drew := bl_drew (Below.refl _ _)
      have HOWY := Lib.hid (own_below HOW.out b20 (Nat.le_refl _))
      have HORY := Lib.hid (own_below HOR.out b20 (Nat.le_refl _))
      have HBWY := Lib.hid (bl_trans HBW2.out b20)
      have HBBY := Lib.hid (bl_trans HBB2.out b20)
      have hzY : w2.heap.size ≤ w2.drew.heap.size := b20.size
      rw [← hY0] at HOWY HORY HBWY HBBY hzY hHeld ⊢
      have hgpY : gp < Y0.heap.size := by omega
      have hgY : w1.heap.size < Y0.heap.size := by omega
      clear hY0 b20 e2 p0 p1 p2 HOW HOR HBW2 HBB2
      (refine' wpAnyT_take 12 0 (oi := ?oi1) (v := ?v1) ?hi1 (by kernel_rfl) (by kernel_rfl) (by kernel_rfl) (by kernel_rfl) (by kernel_rfl) (by kernel_rfl) ?hQ1 ?hy1 (by assumption) ?rest1; (case hi1 => simp only [List.getElem?_toArray, List.getElem?_cons_zero, List.getElem?_cons_succ]; rfl); (case hQ1 => exact fun _ _ _ h => h); (case hy1 => refine Or.inl ⟨by rfl, ?_⟩; intro wz hSw; (try dsimp only at hSw); go_simp; try with_reducible rfl); try simp only [Act.put, List.setIfInBounds_toArray, List.set_cons_zero, List.set_cons_succ])
      (refine' wpAnyT_take 12 1 (oi := ?oi2) (v := ?v2) ?hi2 (by kernel_rfl) (by kernel_rfl) (by kernel_rfl) (by kernel_rfl) (by kernel_rfl) (by kernel_rfl) ?hQ2 ?hy2 (by assumption) ?rest2; (case hi2 => simp only [List.getElem?_toArray, List.getElem?_cons_zero, List.getElem?_cons_succ]; rfl); (case hQ2 => exact fun _ _ _ h => h); (case hy2 => refine Or.inl ⟨by rfl, ?_⟩; intro wz hSw; (try dsimp only at hSw); go_simp; try with_reducible rfl); try simp only [Act.put, List.setIfInBounds_toArray, List.set_cons_zero, List.set_cons_succ])
      (refine' wpAnyT_take 12 2 (oi := ?oi3) (v := ?v3) ?hi3 (by kernel_rfl) (by kernel_rfl) (by kernel_rfl) (by kernel_rfl) (by kernel_rfl) (by kernel_rfl) ?hQ3 ?hy3 (by assumption) ?rest3; (case hi3 => simp only [List.getElem?_toArray, List.getElem?_cons_zero, List.getElem?_cons_succ]; rfl); (case hQ3 => exact fun _ _ _ h => h); (case hy3 => refine Or.inl ⟨by rfl, ?_⟩; intro wz hSw; (try dsimp only at hSw); go_simp; try with_reducible rfl); try simp only [Act.put, List.setIfInBounds_toArray, List.set_cons_zero, List.set_cons_succ])
      (refine' wpAnyT_take 12 3 (oi := ?oi4) (v := ?v4) ?hi4 (by kernel_rfl) (by kernel_rfl) (by kernel_rfl) (by kernel_rfl) (by kernel_rfl) (by kernel_rfl) ?hQ4 ?hy4 (by assumption) ?rest4; (case hi4 => simp only [List.getElem?_toArray, List.getElem?_cons_zero, List.getElem?_cons_succ]; rfl); (case hQ4 => exact fun _ _ _ h => h); (case hy4 => refine Or.inl ⟨by rfl, ?_⟩; intro wz hSw; (try dsimp only at hSw); go_simp; try with_reducible rfl); try simp only [Act.put, List.setIfInBounds_toArray, List.set_cons_zero, List.set_cons_succ])
      (refine' wpAnyT_take 12 4 (oi := ?oi5) (v := ?v5) ?hi5 (by kernel_rfl) (by kernel_rfl) (by kernel_rfl) (by kernel_rfl) (by kernel_rfl) (by kernel_rfl) ?hQ5 ?hy5 (by assumption) ?rest5; (case hi5 => simp only [List.getElem?_toArray, List.getElem?_cons_zero, List.getElem?_cons_succ]; rfl); (case hQ5 => exact fun _ _ _ h => h); (case hy5 => refine Or.inl ⟨by rfl, ?_⟩; intro wz hSw; (try dsimp only at hSw); go_simp; try with_reducible rfl); try simp only [Act.put, List.setIfInBounds_toArray, List.set_cons_zero, List.set_cons_succ])
      (refine' wpAnyT_take 12 5 (oi := ?oi6) (v := ?v6) ?hi6 (by kernel_rfl) (by kernel_rfl) (by kernel_rfl) (by kernel_rfl) (by kernel_rfl) (by kernel_rfl) ?hQ6 ?hy6 (by assumption) ?rest6; (case hi6 => simp only [List.getElem?_toArray, List.getElem?_cons_zero, List.getElem?_cons_succ]; rfl); (case hQ6 => exact fun _ _ _ h => h); (case hy6 => refine Or.inl ⟨by rfl, ?_⟩; intro wz hSw; (try dsimp only at hSw); go_simp; try with_reducible rfl); try simp only [Act.put, List.setIfInBounds_toArray, List.set_cons_zero, List.set_cons_succ])
      (refine' wpAnyT_take 12 6 (oi := ?oi7) (v := ?v7) ?hi7 (by kernel_rfl) (by kernel_rfl) (by kernel_rfl) (by kernel_rfl) (by kernel_rfl) (by kernel_rfl) ?hQ7 ?hy7 (by assumption) ?rest7; (case hi7 => simp only [List.getElem?_toArray, List.getElem?_cons_zero, List.getElem?_cons_succ]; rfl); (case hQ7 => exact fun _ _ _ h => h); (case hy7 => refine Or.inl ⟨by rfl, ?_⟩; intro wz hSw; (try dsimp only at hSw); go_simp; try with_reducible rfl); try simp only [Act.put, List.setIfInBounds_toArray, List.set_cons_zero, List.set_cons_succ])
      (refine' wpAnyT_take 12 7 (oi := ?oi8) (v := ?v8) ?hi8 (by kernel_rfl) (by kernel_rfl) (by kernel_rfl) (by kernel_rfl) (by kernel_rfl) (by kernel_rfl) ?hQ8 ?hy8 (by assumption) ?rest8; (case hi8 => simp only [List.getElem?_toArray, List.getElem?_cons_zero, List.getElem?_cons_succ]; rfl); (case hQ8 => exact fun _ _ _ h => h); (case hy8 => refine Or.inl ⟨by rfl, ?_⟩; intro wz hSw; (try dsimp only at hSw); go_simp; try with_reducible rfl); try simp only [Act.put, List.setIfInBounds_toArray, List.set_cons_zero, List.set_cons_succ])
      (refine' wpAnyT_take 12 8 (oi := ?oi9) (v := ?v9) ?hi9 (by kernel_rfl) (by kernel_rfl) (by kernel_rfl) (by kernel_rfl) (by kernel_rfl) (by kernel_rfl) ?hQ9 ?hy9 (by assumption) ?rest9; (case hi9 => simp only [List.getElem?_toArray, List.getElem?_cons_zero, List.getElem?_cons_succ]; rfl); (case hQ9 => exact fun _ _ _ h => h); (case hy9 => refine Or.inl ⟨by rfl, ?_⟩; intro wz hSw; (try dsimp only at hSw); go_simp; try with_reducible rfl); try simp only [Act.put, List.setIfInBounds_toArray, List.set_cons_zero, List.set_cons_succ])
      (refine' wpAnyT_take 12 9 (oi := ?oi10) (v := ?v10) ?hi10 (by kernel_rfl) (by kernel_rfl) (by kernel_rfl) (by kernel_rfl) (by kernel_rfl) (by kernel_rfl) ?hQ10 ?hy10 (by assumption) ?rest10; (case hi10 => simp only [List.getElem?_toArray, List.getElem?_cons_zero, List.getElem?_cons_succ]; rfl); (case hQ10 => exact fun _ _ _ h => h); (case hy10 => refine Or.inl ⟨by rfl, ?_⟩; intro wz hSw; (try dsimp only at hSw); go_simp; try with_reducible rfl); try simp only [Act.put, List.setIfInBounds_toArray, List.set_cons_zero, List.set_cons_succ])
      (refine' wpAnyT_take 12 11 (oi := ?oi11) (v := ?v11) ?hi11 (by kernel_rfl) (by kernel_rfl) (by kernel_rfl) (by kernel_rfl) (by kernel_rfl) (by kernel_rfl) ?hQ11 ?hy11 (by assumption) ?rest11; (case hi11 => simp only [List.getElem?_toArray, List.getElem?_cons_zero, List.getElem?_cons_succ]; rfl); (case hQ11 => exact fun _ _ _ h => h); (case hy11 => refine Or.inl ⟨by rfl, ?_⟩; intro wz hSw; (try dsimp only at hSw); go_simp; try with_reducible rfl); try simp only [Act.put, List.setIfInBounds_toArray, List.set_cons_zero, List.set_cons_succ])
      (refine' wpAnyT_take 12 12 (oi := ?oi12) (v := ?v12) ?hi12 (by kernel_rfl) (by kernel_rfl) (by kernel_rfl) (by kernel_rfl) (by kernel_rfl) (by kernel_rfl) ?hQ12 ?hy12 (by assumption) ?rest12; (case hi12 => simp only [List.getElem?_toArray, List.getElem?_cons_zero, List.getElem?_cons_succ]; rfl); (case hQ12 => exact fun _ _ _ h => h); (case hy12 => refine Or.inl ⟨by rfl, ?_⟩; intro wz hSw; (try dsimp only at hSw); go_simp; try with_reducible rfl); try simp only [Act.put, List.setIfInBounds_toArray, List.set_cons_zero, List.set_cons_succ])
      (refine' wpAnyT_take 12 13 (oi := ?oi13) (v := ?v13) ?hi13 (by kernel_rfl) (by kernel_rfl) (by kernel_rfl) (by kernel_rfl) (by kernel_rfl) (by kernel_rfl) ?hQ13 ?hy13 (by assumption) ?rest13; (case hi13 => simp only [List.getElem?_toArray, List.getElem?_cons_zero, List.getElem?_cons_succ]; rfl); (case hQ13 => exact fun _ _ _ h => h); (case hy13 => refine Or.inl ⟨by rfl, ?_⟩; intro wz hSw; (try dsimp only at hSw); go_simp; try with_reducible rfl); try simp only [Act.put, List.setIfInBounds_toArray, List.set_cons_zero, List.set_cons_succ])
      obtain ⟨e2, p0, p1, p2⟩ := hHeld
      refine wpAnyT_ready (rs := [10]) (by kernel_rfl) (by simp) ?_
      (refine' AllReadyT.cons (o := ?o28) ?ho28 (fun K hK => ?step28) AllReadyT.nil; (case ho28 => simp only [List.getElem?_toArray, List.getElem?_cons_zero, List.getElem?_cons_succ]; rfl))
      go_simp
      refine (HFD.out _ HBWY.out).mono ?_
      rintro e Y1 ⟨rfl, ba⟩
      obtain ⟨hca, hfa⟩ := bcell ba
      have HOW1 := Lib.hid (own_below HOWY.out ba (Nat.le_refl _))
      have HOR1 := Lib.hid (own_below HORY.out ba (Nat.le_refl _))
      have HBW1 := Lib.hid (bl_trans HBWY.out ba)
      have HBB1 := Lib.hid (bl_trans HBBY.out ba)
      have hz1' := ba.size
      have f2 : Y1.cell? ⟨w1.heap.size, 2, none⟩ = some v := by rw [hca _ _ hgY]; exact e2
      have f0 : Y1.cell? ⟨gp, 0, none⟩ = some (.int .i8 P.x) := by rw [hca _ _ hgpY]; exact p0
      have f1 : Y1.cell? ⟨gp, 1, none⟩ = some (.int .i8 P.y) := by rw [hca _ _ hgpY]; exact p1
      have f3 : Y1.cell? ⟨gp, 2, none⟩ = some (.int .i8 P.s) := by rw [hca _ _ hgpY]; exact p2
      refine hK.out _ _ (fun _ _ => ⟨f2, f0, f1, f3⟩) (fun hHd => ?_)
      have hHeld := hHd (by decide) (by decide)
      clear hHd
      have hgp1Y : gp < Y1.heap.size := by omega
      have hg1Y : w1.heap.size < Y1.heap.size := by omega
      clear hK K hca hfa ba e2 p0 p1 p2 f0 f1 f2 f3 HOWY HORY HBWY HBBY
      try simp only [Act.put, List.setIfInBounds_toArray, List.set_cons_zero, List.set_cons_succ]
      (refine' wpAnyT_take 12 14 (oi := ?oi14) (v := ?v14) ?hi14 (by kernel_rfl) (by kernel_rfl) (by kernel_rfl) (by kernel_rfl) (by kernel_rfl) (by kernel_rfl) ?hQ14 ?hy14 (by assumption) ?rest14; (case hi14 => simp only [List.getElem?_toArray, List.getElem?_cons_zero, List.getElem?_cons_succ]; rfl); (case hQ14 => exact fun _ _ _ h => h); (case hy14 => refine Or.inl ⟨by rfl, ?_⟩; intro wz hSw; (try dsimp only at hSw); go_simp; try with_reducible rfl); try simp only [Act.put, List.setIfInBounds_toArray, List.set_cons_zero, List.set_cons_succ])
      refine wpAnyT_ready (rs := [15]) (by kernel_rfl) (by simp) ?_
      (refine' AllReadyT.cons (o := ?o29) ?ho29 (fun K hK => ?step29) AllReadyT.nil; (case ho29 => simp only [List.getElem?_toArray, List.getElem?_cons_zero, List.getElem?_cons_succ]; rfl))
      go_simp
      have o1 := World.news_of_block (cs := #[.int .i64 0, .int .i64 fk, .int .i64 P.s, .int .i64 (-1)]) (t := 161) (fr := (0, 0)) (heap_alloc_new Y1 (.cells #[.int .i64 0, .int .i64 fk, .int .i64 P.s, .int .i64 (-1)] 161))
      have ba2 : Below Y1.heap.size Y1 (Y1.alloc (.cells #[.int .i64 0, .int .i64 fk, .int .i64 P.s, .int .i64 (-1)] 161)) := bl_alloc (Below.refl _ _)
      have HOW2 := Lib.hid (own_below HOW1.out ba2 (Nat.le_refl _))
      have HOR2 := Lib.hid (own_below HOR1.out ba2 (Nat.le_refl _))
      have HBW2 := Lib.hid (bl_trans HBW1.out ba2)
      have HBB2 := Lib.hid (bl_trans HBB1.out ba2)
      obtain ⟨f2, f0, f1, f3⟩ := hHeld
      have S2 : (Y1.alloc (.cells #[.int .i64 0, .int .i64 fk, .int .i64 P.s, .int .i64 (-1)] 161)).cell? ⟨w1.heap.size, 2, none⟩ = some v ∧ (Y1.alloc (.cells #[.int .i64 0, .int .i64 fk, .int .i64 P.s, .int .i64 (-1)] 161)).cell? ⟨gp, 0, none⟩ = some (.int .i8 P.x) ∧ (Y1.alloc (.cells #[.int .i64 0, .int .i64 fk, .int .i64 P.s, .int .i64 (-1)] 161)).cell? ⟨gp, 1, none⟩ = some (.int .i8 P.y) ∧ (Y1.alloc (.cells #[.int .i64 0, .int .i64 fk, .int .i64 P.s, .int .i64 (-1)] 161)).cell? ⟨gp, 2, none⟩ = some (.int .i8 P.s) :=
        ⟨by rw [cell_alloc _ _ _ _ hg1Y]; exact f2, by rw [cell_alloc _ _ _ _ hgp1Y]; exact f0, by rw [cell_alloc _ _ _ _ hgp1Y]; exact f1, by rw [cell_alloc _ _ _ _ hgp1Y]; exact f3⟩
      have hzY2 : Y1.heap.size + 1 = (Y1.alloc (.cells #[.int .i64 0, .int .i64 fk, .int .i64 P.s, .int .i64 (-1)] 161)).heap.size := by simp
      refine hK.out _ _ (fun _ _ => S2) (fun hHd => ?_)
      have hHeld := hHd (by decide) (by decide)
      clear hHd
      obtain ⟨Y2, hY2⟩ : ∃ Y, Y = Y1.alloc (.cells #[.int .i64 0, .int .i64 fk, .int .i64 P.s, .int .i64 (-1)] 161) := ⟨_, rfl⟩
      rw [← hY2] at o1 HOW2 HOR2 HBW2 HBB2 hzY2 hHeld ⊢
      clear hK K S2 hY2 ba2 f0 f1 f2 f3 HOW1 HOR1 HBW1 HBB1
      try simp only [Act.put, List.setIfInBounds_toArray, List.set_cons_zero, List.set_cons_succ]
      refine wpAnyT_ready (rs := [16]) (by kernel_rfl) (by simp) ?_
      (refine' AllReadyT.cons (o := ?o30) ?ho30 (fun K hK => ?step30) AllReadyT.nil; (case ho30 => simp only [List.getElem?_toArray, List.getElem?_cons_zero, List.getElem?_cons_succ]; rfl))
      refine step_append_lies _ (by rfl) _ _ _ (by rfl) (w1.heap.size + 1) 161 i0 _ 4 32 Tryz.underlying105 hi0 hiz0 hiz1 hiz2 rfl (by omega) v k (flat Hi.cells ((m.ins.take k).map (hit0 m.bd.ps))) (by rfl) HOR2.out ⟨Y1.heap.size, 0, none⟩ 1 1 [.int .i64 0, .int .i64 fk, .int .i64 P.s, .int .i64 (-1)] (by rfl) (by rfl) o1 (Hi.one ⟨0, fk, P.s, -1⟩) (by omega) (by unfold maxLen; omega) hk32 (by omega) _ rfl ?_
      intro gg cap3 Y3 hown3 hgrow hat3 hlt3
      obtain ⟨f2, f0, f1, f3⟩ := hHeld
      have S3 : Y3.cell? ⟨w1.heap.size, 2, none⟩ = some v ∧ Y3.cell? ⟨gp, 0, none⟩ = some (.int .i8 P.x) ∧ Y3.cell? ⟨gp, 1, none⟩ = some (.int .i8 P.y) ∧ Y3.cell? ⟨gp, 2, none⟩ = some (.int .i8 P.s) :=
        ⟨hgrow.cell f2 HNG.out, hgrow.cell f0 HNP.out, hgrow.cell f1 HNP.out, hgrow.cell f3 HNP.out⟩
      have how3 := own_kept HOW2.out hgrow (fun q hq e => HNG.out (by cases hq; exact e))
      have hb3 : Below w1.heap.size w1 Y3 := bl_grown HBB2.out hgrow (fun q hq => by have := (HOR2.out.lt q hq).1; omega)
      refine hK.out _ _ (fun _ _ => S3) (fun hHd => ?_)
      have hHeld := hHd (by decide) (by decide)
      clear hK K S3 f0 f1 f2 f3 hHd
      try simp only [Act.put, List.setIfInBounds_toArray, List.set_cons_zero, List.set_cons_succ]
      (refine' wpAnyT_take 12 17 (oi := ?oi15) (v := ?v15) ?hi15 (by kernel_rfl) (by kernel_rfl) (by kernel_rfl) (by kernel_rfl) (by kernel_rfl) (by kernel_rfl) ?hQ15 ?hy15 (by assumption) ?rest15; (case hi15 => simp only [List.getElem?_toArray, List.getElem?_cons_zero, List.getElem?_cons_succ]; rfl); (case hQ15 => exact fun _ _ _ h => h); (case hy15 => refine Or.inl ⟨by rfl, ?_⟩; intro wz hSw; (try dsimp only at hSw); go_simp; try with_reducible rfl); try simp only [Act.put, List.setIfInBounds_toArray, List.set_cons_zero, List.set_cons_succ])
      (refine' wpAnyT_take 12 18 (oi := ?oi16) (v := ?v16) ?hi16 (by kernel_rfl) (by kernel_rfl) (by kernel_rfl) (by kernel_rfl) (by kernel_rfl) (by kernel_rfl) ?hQ16 ?hy16 (by assumption) ?rest16; (case hi16 => simp only [List.getElem?_toArray, List.getElem?_cons_zero, List.getElem?_cons_succ]; rfl); (case hQ16 => exact fun _ _ _ h => h); (case hy16 => refine Or.inl ⟨by rfl, ?_⟩; intro wz hSw; (try dsimp only at hSw); go_simp; try with_reducible rfl); try simp only [Act.put, List.setIfInBounds_toArray, List.set_cons_zero, List.set_cons_succ])
      have e3 : Y3.cell? ⟨w1.heap.size, 2, none⟩ = some v := by rw [how3.cellAt 2 (by omega)]; rfl
      have e3f : Y3.frozen? ⟨w1.heap.size, 2, none⟩ = false := how3.frozenAt 2
      refine wpAnyT_ready (rs := [19]) (by kernel_rfl) (by simp) ?_
      (refine' AllReadyT.cons (o := ?o31) ?ho31 (fun K hK => ?step31) AllReadyT.nil; (case ho31 => simp only [List.getElem?_toArray, List.getElem?_cons_zero, List.getElem?_cons_succ]; rfl))
      go_simp
      refine hK.out _ _ (fun _ h => absurd h (by decide)) (fun _ => ?_)
      clear hK K hHeld
      try simp only [Act.put, List.setIfInBounds_toArray, List.set_cons_zero, List.set_cons_succ]
      refine wpAnyT_done (by kernel_rfl) ?_ _
      have how4 := (how3.stored 2 (.slice (some ⟨gg, 0, none⟩) (k + 1) cap3)).1
      have hg4 := (how3.stored 2 (.slice (some ⟨gg, 0, none⟩) (k + 1) cap3)).2
      have hor4 := own_kept hown3 hg4 (by intro q hq e; have h8 := (hown3.lt q hq).1; cases e; omega)
      have hb4 : Below w1.heap.size w1 (Y3.setCell ⟨w1.heap.size, 2, none⟩ (.slice (some ⟨gg, 0, none⟩) (k + 1) cap3)) := bl_set hb3 (Nat.le_refl _) _
      have hz4 : w1.heap.size + 1 ≤ (Y3.setCell ⟨w1.heap.size, 2, none⟩ (.slice (some ⟨gg, 0, none⟩) (k + 1) cap3)).heap.size := by have := hgrow.size; simp; omega
      have hcells : flat Hi.cells ((m.ins.take k).map (hit0 m.bd.ps)) ++ [.int .i64 0, .int .i64 fk, .int .i64 P.s, .int .i64 (-1)] = flat Hi.cells ((m.ins.take (k + 1)).map (hit0 m.bd.ps)) := by rw [HTK.out, flat_append, flat_cons, flat_nil, List.append_nil, HH0.out]
      rw [hcells] at hor4
      clear how3 hown3 hgrow hat3 hlt3 hg4 e3 e3f
      go_wp2
      go_roundw
      case rel => exact ⟨k + 1, _, by omega, by go_num, how4, hor4, hz4, hb4⟩
      case measure => simp [intOf]; omega
    · have hkn : k = m.ins.length := by omega
      subst hkn
      rw [List.take_length] at hor
      have r4 : wr.cell? ⟨b0, 4, none⟩ = some (.slice oa m.outs.length ocap) := by rw [hbW.cell (p := ⟨_, _, none⟩) hbl]; exact c4
      obtain ⟨W, hW⟩ : ∃ W, W = wr := ⟨_, rfl⟩
      rw [← hW] at how hor hz hb hbW r4 ⊢
      clear hW
      go_wp2
      go_loopw [49] (fun ix wr => ∃ (k : Nat) (v' : Value), k ≤ m.outs.length ∧ ix = .int .i64 k ∧ wr.ownsRow w1.heap.size 108 4 (.slice (some ⟨w1.heap.size, 0, none⟩) 1 1) 1 [.pointer (some ⟨b0, 0, none⟩), .pointer (some ⟨bs, 0, none⟩), v, v'] ∧ wr.ownsRow (w1.heap.size + 1) 161 4 v m.ins.length (flat Hi.cells (m.ins.map (hit0 m.bd.ps))) ∧ wr.ownsRow W.heap.size 3 1 v' k (flat inC ((m.outs.take k).map (outF m.bd.ps))) ∧ W.heap.size ≤ wr.heap.size ∧ Below w1.heap.size w1 wr ∧ (∀ q, v.ownBlock = some q → q < W.heap.size)) (fun ix _ => m.outs.length - (intOf ix).toNat)
      case atStart => exact ⟨0, .slice none 0 0, by omega, rfl, how, hor, World.ownsRow_nil _ _ _ _, Nat.le_refl _, hb, fun q hq => (hor.lt q hq).2⟩
      case round =>
        clear how hor hb hbW r4
        obtain ⟨k, v', hk, rfl, how, hor, hou, hzW, hb, hvW⟩ := hrel
        have hbW := bl_trans HB1.out hb
        by_cases hlt : k < m.outs.length
        · obtain ⟨b, off, rfl, hbi, hat⟩ := ces_get houts hlt
          have q0 : wr.cell? ⟨b, off + k * 2, none⟩ = some (.int .i8 m.outs[k].x) := by rw [hbW.cell (p := ⟨_, _, none⟩) hbi]; exact hat.1
          have q1 : wr.cell? ⟨b, off + k * 2 + 1, none⟩ = some (.int .i8 m.outs[k].y) := by rw [hbW.cell (p := ⟨_, _, none⟩) hbi]; exact hat.2
          have HTK : Hid ((m.outs.take (k + 1)).map (outF m.bd.ps) = (m.outs.take k).map (outF m.bd.ps) ++ [outF m.bd.ps m.outs[k]]) := Lib.hid (by rw [List.take_succ_eq_append_getElem hlt, List.map_append]; rfl)
          obtain ⟨P, hP⟩ : ∃ P, P = m.outs[k] := ⟨_, rfl⟩
          rw [← hP] at q0 q1 HTK
          have hX3 := sl_new wr #[.int .i8 P.x, .int .i8 P.y] 47
          have hal : Below wr.heap.size wr (wr.alloc (.cells #[.int .i8 P.x, .int .i8 P.y] 47)) := bl_alloc (Below.refl _ _)
          have hsz : (wr.alloc (.cells #[.int .i8 P.x, .int .i8 P.y] 47)).heap.size = wr.heap.size + 1 := by simp
          clear hP hat
          go_wp2_with fail
          obtain ⟨w2, hw2⟩ : ∃ w2, w2 = wr.alloc (.cells #[.int .i8 P.x, .int .i8 P.y] 47) := ⟨_, rfl⟩
          rw [← hw2] at hal hX3 hsz ⊢
          obtain ⟨gp, hgp⟩ : ∃ gp, gp = wr.heap.size := ⟨_, rfl⟩
          have how2 := own_below how hal (Nat.le_refl _)
          have hor2 := own_below hor hal (Nat.le_refl _)
          have hou2 := own_below hou hal (Nat.le_refl _)
          have HBW2 := Lib.hid (bl_trans hbW hal)
          have HBB2 := Lib.hid (bl_trans hb hal)
          have hz2 := hal.size
          rw [← hgp] at hX3 hsz ⊢
          have HNP : Hid (some gp ≠ v'.ownBlock) := Lib.hid (fun e => by have := (hou.lt gp e.symm).2; omega)
          have HNG : Hid (some w1.heap.size ≠ v'.ownBlock) := Lib.hid (fun e => by have := (hou.lt _ e.symm).1; omega)
          have HNV : Hid (∀ q, v.ownBlock = some q → some q ≠ v'.ownBlock) := Lib.hid (fun q hq e => by have := (hou.lt q e.symm).1; have := hvW q hq; omega)
          have hgp1 : w1.heap.size < gp := by omega
          have p0 : w2.cell? ⟨gp, 0, none⟩ = some (.int .i8 P.x) := by
            obtain ⟨b9, off9, h1, h2, h3⟩ := hX3 0 (by simp)
            simp only [Option.some.injEq, Addr.mk.injEq, and_true] at h1
            obtain ⟨rfl, rfl⟩ := h1
            exact h3
          have p1 : w2.cell? ⟨gp, 1, none⟩ = some (.int .i8 P.y) := by
            obtain ⟨b9, off9, h1, h2, h3⟩ := hX3 1 (by simp)
            simp only [Option.some.injEq, Addr.mk.injEq, and_true] at h1
            obtain ⟨rfl, rfl⟩ := h1
            exact h3
          have HGP := Lib.hid hgp
          have hp2 : gp < w2.heap.size := by omega
          clear hal hw2 q0 q1 how hor hou hb hbW hgp hX3 hsz
          have e2 : w2.cell? ⟨w1.heap.size, 3, none⟩ = some v' := by rw [how2.cellAt 3 (by omega)]; rfl
          have hgl : w1.heap.size < w2.heap.size := by omega
          have HOW := Lib.hid how2
          have HOR := Lib.hid hor2
          have HOU := Lib.hid hou2
          have HFD := Lib.hid (fun w3 (hb3 : Below w.heap.size w w3) => HAT.out ⟨P.x, P.y⟩ w3 hb3)
          obtain ⟨fk, hfk⟩ : ∃ fk, fk = fnd ⟨P.x, P.y⟩ m.bd.ps := ⟨_, rfl⟩
          rw [← hfk] at HFD
          have HH0 : Hid (outF m.bd.ps P = fk) := Lib.hid (by rw [hfk]; rfl)
          clear how2 hor2 hou2 hfk
          have hk32 : (k + 1) * 8 ≤ 140737488355328 := by omega
          go_upto_region 10 with fail
          refine wp_region_T 0 14 (fun w' => w'.cell? ⟨w1.heap.size, 3, none⟩ = some v' ∧ w'.cell? ⟨gp, 0, none⟩ = some (.int .i8 P.x) ∧ w'.cell? ⟨gp, 1, none⟩ = some (.int .i8 P.y)) (by kernel_rfl) ⟨e2, p0, p1⟩ (fun hHeld => ?_)
          obtain ⟨Y0, hY0⟩ : ∃ Y, Y = w2.drew := ⟨_, rfl⟩
          have b20 : Below w2.heap.size w2 w2.drew := bl_drew (Below.refl _ _)
          have HOWY := Lib.hid (own_below HOW.out b20 (Nat.le_refl _))
          have HORY := Lib.hid (own_below HOR.out b20 (Nat.le_refl _))
          have HOUY := Lib.hid (own_below HOU.out b20 (Nat.le_refl _))
          have HBWY := Lib.hid (bl_trans HBW2.out b20)
          have HBBY := Lib.hid (bl_trans HBB2.out b20)
          have hzY : w2.heap.size ≤ w2.drew.heap.size := b20.size
          rw [← hY0] at HOWY HORY HOUY HBWY HBBY hzY hHeld ⊢
          have hgpY : gp < Y0.heap.size := by omega
          have hgY : w1.heap.size < Y0.heap.size := by omega
          clear hY0 b20 e2 p0 p1 HOW HOR HOU HBW2 HBB2
          (refine' wpAnyT_take 12 0 (oi := ?oi17) (v := ?v17) ?hi17 (by kernel_rfl) (by kernel_rfl) (by kernel_rfl) (by kernel_rfl) (by kernel_rfl) (by kernel_rfl) ?hQ17 ?hy17 (by assumption) ?rest17; (case hi17 => simp only [List.getElem?_toArray, List.getElem?_cons_zero, List.getElem?_cons_succ]; rfl); (case hQ17 => exact fun _ _ _ h => h); (case hy17 => refine Or.inl ⟨by rfl, ?_⟩; intro wz hSw; (try dsimp only at hSw); go_simp; try with_reducible rfl); try simp only [Act.put, List.setIfInBounds_toArray, List.set_cons_zero, List.set_cons_succ])
          (refine' wpAnyT_take 12 1 (oi := ?oi18) (v := ?v18) ?hi18 (by kernel_rfl) (by kernel_rfl) (by kernel_rfl) (by kernel_rfl) (by kernel_rfl) (by kernel_rfl) ?hQ18 ?hy18 (by assumption) ?rest18; (case hi18 => simp only [List.getElem?_toArray, List.getElem?_cons_zero, List.getElem?_cons_succ]; rfl); (case hQ18 => exact fun _ _ _ h => h); (case hy18 => refine Or.inl ⟨by rfl, ?_⟩; intro wz hSw; (try dsimp only at hSw); go_simp; try with_reducible rfl); try simp only [Act.put, List.setIfInBounds_toArray, List.set_cons_zero, List.set_cons_succ])
          (refine' wpAnyT_take 12 2 (oi := ?oi19) (v := ?v19) ?hi19 (by kernel_rfl) (by kernel_rfl) (by kernel_rfl) (by kernel_rfl) (by kernel_rfl) (by kernel_rfl) ?hQ19 ?hy19 (by assumption) ?rest19; (case hi19 => simp only [List.getElem?_toArray, List.getElem?_cons_zero, List.getElem?_cons_succ]; rfl); (case hQ19 => exact fun _ _ _ h => h); (case hy19 => refine Or.inl ⟨by rfl, ?_⟩; intro wz hSw; (try dsimp only at hSw); go_simp; try with_reducible rfl); try simp only [Act.put, List.setIfInBounds_toArray, List.set_cons_zero, List.set_cons_succ])
          (refine' wpAnyT_take 12 3 (oi := ?oi20) (v := ?v20) ?hi20 (by kernel_rfl) (by kernel_rfl) (by kernel_rfl) (by kernel_rfl) (by kernel_rfl) (by kernel_rfl) ?hQ20 ?hy20 (by assumption) ?rest20; (case hi20 => simp only [List.getElem?_toArray, List.getElem?_cons_zero, List.getElem?_cons_succ]; rfl); (case hQ20 => exact fun _ _ _ h => h); (case hy20 => refine Or.inl ⟨by rfl, ?_⟩; intro wz hSw; (try dsimp only at hSw); go_simp; try with_reducible rfl); try simp only [Act.put, List.setIfInBounds_toArray, List.set_cons_zero, List.set_cons_succ])
          (refine' wpAnyT_take 12 4 (oi := ?oi21) (v := ?v21) ?hi21 (by kernel_rfl) (by kernel_rfl) (by kernel_rfl) (by kernel_rfl) (by kernel_rfl) (by kernel_rfl) ?hQ21 ?hy21 (by assumption) ?rest21; (case hi21 => simp only [List.getElem?_toArray, List.getElem?_cons_zero, List.getElem?_cons_succ]; rfl); (case hQ21 => exact fun _ _ _ h => h); (case hy21 => refine Or.inl ⟨by rfl, ?_⟩; intro wz hSw; (try dsimp only at hSw); go_simp; try with_reducible rfl); try simp only [Act.put, List.setIfInBounds_toArray, List.set_cons_zero, List.set_cons_succ])
          (refine' wpAnyT_take 12 5 (oi := ?oi22) (v := ?v22) ?hi22 (by kernel_rfl) (by kernel_rfl) (by kernel_rfl) (by kernel_rfl) (by kernel_rfl) (by kernel_rfl) ?hQ22 ?hy22 (by assumption) ?rest22; (case hi22 => simp only [List.getElem?_toArray, List.getElem?_cons_zero, List.getElem?_cons_succ]; rfl); (case hQ22 => exact fun _ _ _ h => h); (case hy22 => refine Or.inl ⟨by rfl, ?_⟩; intro wz hSw; (try dsimp only at hSw); go_simp; try with_reducible rfl); try simp only [Act.put, List.setIfInBounds_toArray, List.set_cons_zero, List.set_cons_succ])
          (refine' wpAnyT_take 12 6 (oi := ?oi23) (v := ?v23) ?hi23 (by kernel_rfl) (by kernel_rfl) (by kernel_rfl) (by kernel_rfl) (by kernel_rfl) (by kernel_rfl) ?hQ23 ?hy23 (by assumption) ?rest23; (case hi23 => simp only [List.getElem?_toArray, List.getElem?_cons_zero, List.getElem?_cons_succ]; rfl); (case hQ23 => exact fun _ _ _ h => h); (case hy23 => refine Or.inl ⟨by rfl, ?_⟩; intro wz hSw; (try dsimp only at hSw); go_simp; try with_reducible rfl); try simp only [Act.put, List.setIfInBounds_toArray, List.set_cons_zero, List.set_cons_succ])
          (refine' wpAnyT_take 12 7 (oi := ?oi24) (v := ?v24) ?hi24 (by kernel_rfl) (by kernel_rfl) (by kernel_rfl) (by kernel_rfl) (by kernel_rfl) (by kernel_rfl) ?hQ24 ?hy24 (by assumption) ?rest24; (case hi24 => simp only [List.getElem?_toArray, List.getElem?_cons_zero, List.getElem?_cons_succ]; rfl); (case hQ24 => exact fun _ _ _ h => h); (case hy24 => refine Or.inl ⟨by rfl, ?_⟩; intro wz hSw; (try dsimp only at hSw); go_simp; try with_reducible rfl); try simp only [Act.put, List.setIfInBounds_toArray, List.set_cons_zero, List.set_cons_succ])
          (refine' wpAnyT_take 12 8 (oi := ?oi25) (v := ?v25) ?hi25 (by kernel_rfl) (by kernel_rfl) (by kernel_rfl) (by kernel_rfl) (by kernel_rfl) (by kernel_rfl) ?hQ25 ?hy25 (by assumption) ?rest25; (case hi25 => simp only [List.getElem?_toArray, List.getElem?_cons_zero, List.getElem?_cons_succ]; rfl); (case hQ25 => exact fun _ _ _ h => h); (case hy25 => refine Or.inl ⟨by rfl, ?_⟩; intro wz hSw; (try dsimp only at hSw); go_simp; try with_reducible rfl); try simp only [Act.put, List.setIfInBounds_toArray, List.set_cons_zero, List.set_cons_succ])
          obtain ⟨e2, p0, p1⟩ := hHeld
          refine wpAnyT_ready (rs := [9]) (by kernel_rfl) (by simp) ?_
          (refine' AllReadyT.cons (o := ?o32) ?ho32 (fun K hK => ?step32) AllReadyT.nil; (case ho32 => simp only [List.getElem?_toArray, List.getElem?_cons_zero, List.getElem?_cons_succ]; rfl))
          go_simp
          refine (HFD.out _ HBWY.out).mono ?_
          rintro e Y1 ⟨rfl, ba⟩
          obtain ⟨hca, hfa⟩ := bcell ba
          have HOW1 := Lib.hid (own_below HOWY.out ba (Nat.le_refl _))
          have HOR1 := Lib.hid (own_below HORY.out ba (Nat.le_refl _))
          have HOU1 := Lib.hid (own_below HOUY.out ba (Nat.le_refl _))
          have HBW1 := Lib.hid (bl_trans HBWY.out ba)
          have HBB1 := Lib.hid (bl_trans HBBY.out ba)
          have hz1' := ba.size
          have f2 : Y1.cell? ⟨w1.heap.size, 3, none⟩ = some v' := by rw [hca _ _ hgY]; exact e2
          have f0 : Y1.cell? ⟨gp, 0, none⟩ = some (.int .i8 P.x) := by rw [hca _ _ hgpY]; exact p0
          have f1 : Y1.cell? ⟨gp, 1, none⟩ = some (.int .i8 P.y) := by rw [hca _ _ hgpY]; exact p1
          refine hK.out _ _ (fun _ _ => ⟨f2, f0, f1⟩) (fun hHd => ?_)
          have hHeld := hHd (by decide) (by decide)
          have hgp1Y : gp < Y1.heap.size := by omega
          have hg1Y : w1.heap.size < Y1.heap.size := by omega
          clear hHd hK K hca hfa ba e2 p0 p1 f0 f1 f2 HOWY HORY HOUY HBWY HBBY
          try simp only [Act.put, List.setIfInBounds_toArray, List.set_cons_zero, List.set_cons_succ]
          refine wpAnyT_ready (rs := [10]) (by kernel_rfl) (by simp) ?_
          (refine' AllReadyT.cons (o := ?o33) ?ho33 (fun K hK => ?step33) AllReadyT.nil; (case ho33 => simp only [List.getElem?_toArray, List.getElem?_cons_zero, List.getElem?_cons_succ]; rfl))
          go_simp
          have o1 := World.news_of_block (cs := #[.int .i64 fk]) (t := 3) (fr := (0, 0)) (heap_alloc_new Y1 (.cells #[.int .i64 fk] 3))
          have ba2 : Below Y1.heap.size Y1 (Y1.alloc (.cells #[.int .i64 fk] 3)) := bl_alloc (Below.refl _ _)
          have HOW2 := Lib.hid (own_below HOW1.out ba2 (Nat.le_refl _))
          have HOR2 := Lib.hid (own_below HOR1.out ba2 (Nat.le_refl _))
          have HOU2 := Lib.hid (own_below HOU1.out ba2 (Nat.le_refl _))
          have HBW2 := Lib.hid (bl_trans HBW1.out ba2)
          have HBB2 := Lib.hid (bl_trans HBB1.out ba2)
          obtain ⟨f2, f0, f1⟩ := hHeld
          have S2 : (Y1.alloc (.cells #[.int .i64 fk] 3)).cell? ⟨w1.heap.size, 3, none⟩ = some v' ∧ (Y1.alloc (.cells #[.int .i64 fk] 3)).cell? ⟨gp, 0, none⟩ = some (.int .i8 P.x) ∧ (Y1.alloc (.cells #[.int .i64 fk] 3)).cell? ⟨gp, 1, none⟩ = some (.int .i8 P.y) :=
            ⟨by rw [cell_alloc _ _ _ _ hg1Y]; exact f2, by rw [cell_alloc _ _ _ _ hgp1Y]; exact f0, by rw [cell_alloc _ _ _ _ hgp1Y]; exact f1⟩
          have hzY2 : Y1.heap.size + 1 = (Y1.alloc (.cells #[.int .i64 fk] 3)).heap.size := by simp
          refine hK.out _ _ (fun _ _ => S2) (fun hHd => ?_)
          have hHeld := hHd (by decide) (by decide)
          obtain ⟨Y2, hY2⟩ : ∃ Y, Y = Y1.alloc (.cells #[.int .i64 fk] 3) := ⟨_, rfl⟩
          rw [← hY2] at o1 HOW2 HOR2 HOU2 HBW2 HBB2 hzY2 hHeld ⊢
          clear hHd hK K S2 hY2 ba2 f0 f1 f2 HOW1 HOR1 HOU1 HBW1 HBB1
          try simp only [Act.put, List.setIfInBounds_toArray, List.set_cons_zero, List.set_cons_succ]
          refine wpAnyT_ready (rs := [11]) (by kernel_rfl) (by simp) ?_
          (refine' AllReadyT.cons (o := ?o34) ?ho34 (fun K hK => ?step34) AllReadyT.nil; (case ho34 => simp only [List.getElem?_toArray, List.getElem?_cons_zero, List.getElem?_cons_succ]; rfl))
          refine step_append_lies _ (by rfl) _ _ _ (by rfl) W.heap.size 3 j0 _ 1 8 Tryz.underlying106 hj0 hjz0 hjz1 hjz2 rfl (by omega) v' k (flat inC ((m.outs.take k).map (outF m.bd.ps))) (by rfl) HOU2.out ⟨Y1.heap.size, 0, none⟩ 1 1 [.int .i64 fk] (by rfl) (by rfl) o1 (by intro u hu; rw [List.mem_singleton] at hu; subst hu; rfl) (by omega) (by unfold maxLen; omega) hk32 (by omega) _ rfl ?_
          intro gg cap3 Y3 hown3 hgrow hat3 hlt3
          obtain ⟨f2, f0, f1⟩ := hHeld
          have S3 : Y3.cell? ⟨w1.heap.size, 3, none⟩ = some v' ∧ Y3.cell? ⟨gp, 0, none⟩ = some (.int .i8 P.x) ∧ Y3.cell? ⟨gp, 1, none⟩ = some (.int .i8 P.y) :=
            ⟨hgrow.cell f2 HNG.out, hgrow.cell f0 HNP.out, hgrow.cell f1 HNP.out⟩
          have how3 := own_kept HOW2.out hgrow (fun q hq e => HNG.out (by cases hq; exact e))
          have hor3 := own_kept HOR2.out hgrow HNV.out
          have hb3 : Below w1.heap.size w1 Y3 := bl_grown HBB2.out hgrow (fun q hq => by have := (HOU2.out.lt q hq).1; omega)
          refine hK.out _ _ (fun _ _ => S3) (fun hHd => ?_)
          have hHeld := hHd (by decide) (by decide)
          clear hK K S3 f0 f1 f2 hHd
          try simp only [Act.put, List.setIfInBounds_toArray, List.set_cons_zero, List.set_cons_succ]
          (refine' wpAnyT_take 12 12 (oi := ?oi26) (v := ?v26) ?hi26 (by kernel_rfl) (by kernel_rfl) (by kernel_rfl) (by kernel_rfl) (by kernel_rfl) (by kernel_rfl) ?hQ26 ?hy26 (by assumption) ?rest26; (case hi26 => simp only [List.getElem?_toArray, List.getElem?_cons_zero, List.getElem?_cons_succ]; rfl); (case hQ26 => exact fun _ _ _ h => h); (case hy26 => refine Or.inl ⟨by rfl, ?_⟩; intro wz hSw; (try dsimp only at hSw); go_simp; try with_reducible rfl); try simp only [Act.put, List.setIfInBounds_toArray, List.set_cons_zero, List.set_cons_succ])
          (refine' wpAnyT_take 12 13 (oi := ?oi27) (v := ?v27) ?hi27 (by kernel_rfl) (by kernel_rfl) (by kernel_rfl) (by kernel_rfl) (by kernel_rfl) (by kernel_rfl) ?hQ27 ?hy27 (by assumption) ?rest27; (case hi27 => simp only [List.getElem?_toArray, List.getElem?_cons_zero, List.getElem?_cons_succ]; rfl); (case hQ27 => exact fun _ _ _ h => h); (case hy27 => refine Or.inl ⟨by rfl, ?_⟩; intro wz hSw; (try dsimp only at hSw); go_simp; try with_reducible rfl); try simp only [Act.put, List.setIfInBounds_toArray, List.set_cons_zero, List.set_cons_succ])
          have e3 : Y3.cell? ⟨w1.heap.size, 3, none⟩ = some v' := by rw [how3.cellAt 3 (by omega)]; rfl
          have e3f : Y3.frozen? ⟨w1.heap.size, 3, none⟩ = false := how3.frozenAt 3
          refine wpAnyT_ready (rs := [14]) (by kernel_rfl) (by simp) ?_
          (refine' AllReadyT.cons (o := ?o35) ?ho35 (fun K hK => ?step35) AllReadyT.nil; (case ho35 => simp only [List.getElem?_toArray, List.getElem?_cons_zero, List.getElem?_cons_succ]; rfl))
          go_simp
          refine hK.out _ _ (fun _ h => absurd h (by decide)) (fun _ => ?_)
          clear hK K hHeld
          try simp only [Act.put, List.setIfInBounds_toArray, List.set_cons_zero, List.set_cons_succ]
          refine wpAnyT_done (by kernel_rfl) ?_ _
          have how4 := (how3.stored 3 (.slice (some ⟨gg, 0, none⟩) (k + 1) cap3)).1
          have hg4 := (how3.stored 3 (.slice (some ⟨gg, 0, none⟩) (k + 1) cap3)).2
          have hou4 := own_kept hown3 hg4 (by intro q hq e; have h8 := (hown3.lt q hq).1; cases e; omega)
          have hor4 := own_kept hor3 hg4 (by intro q hq e; have h8 := (hor3.lt q hq).1; cases e; omega)
          have hb4 : Below w1.heap.size w1 (Y3.setCell ⟨w1.heap.size, 3, none⟩ (.slice (some ⟨gg, 0, none⟩) (k + 1) cap3)) := bl_set hb3 (Nat.le_refl _) _
          have hz4 : W.heap.size ≤ (Y3.setCell ⟨w1.heap.size, 3, none⟩ (.slice (some ⟨gg, 0, none⟩) (k + 1) cap3)).heap.size := by have := hgrow.size; simp; omega
          have hcells : flat inC ((m.outs.take k).map (outF m.bd.ps)) ++ [.int .i64 fk] = flat inC ((m.outs.take (k + 1)).map (outF m.bd.ps)) := by rw [HTK.out, flat_append, flat_cons, flat_nil, List.append_nil, HH0.out]; rfl
          rw [hcells] at hou4
          clear how3 hor3 hown3 hgrow hat3 hlt3 hg4 e3 e3f
          go_wp2
          go_roundw
          case rel => exact ⟨k + 1, _, by omega, by go_num, how4, hor4, hou4, hz4, hb4, hvW⟩
          case measure => simp [intOf]; omega
        · have hkn : k = m.outs.length := by omega
          subst hkn
          rw [List.take_length] at hou
          have hres : WkAt wr w1.heap.size b0 m ∧ ∀ q, KpPs w b0 m.bd q → ∀ w2, wr.grownBy w2 (some q) → WkAt w2 w1.heap.size b0 m := by
            refine ⟨wk_mk (by omega) how hor hou (HS1.out.step hb), fun q hq w2 hg => ?_⟩
            have hq1 := hq.1
            have how2 := own_kept how hg (by intro k hk e; have := (how.lt k hk).1; cases e; omega)
            have hor2 := own_kept hor hg (by intro k hk e; have := (hor.lt k hk).1; cases e; omega)
            have hou2 := own_kept hou hg (by intro k hk e; have := (hou.lt k hk).1; cases e; omega)
            exact wk_mk (how2.lt _ rfl).2 how2 hor2 hou2 (HSK.out q hq w2 (bl_gb hb hg))
          have HRES := Lib.hid hres
          clear how hor hou hvW hres
          go_wp2
          go_ret
          exact ⟨w1.heap.size, rfl, hz1, HRES.out, hbW⟩
theorem worksOf_any (b0 : Nat) (m : Mc) (w : World) (h : MP w b0 m) (hv : vMc m = true) (hok : m.ok) :
    Calls Tryz.prog 69 #[.pointer (some ⟨b0, 0, none⟩)] w fun e w' => ∃ g, e = .returned (.pointer (some ⟨g, 0, none⟩)) ∧ w.heap.size ≤ g ∧ WkAt w' g b0 m ∧ Below w.heap.size w w' :=
  (worksOf_kp b0 m w h hv hok).mono fun _ _ ⟨g, h1, h2, h3, h4⟩ => ⟨g, h1, h2, h3.1, h4⟩
end Go.Proofs.YtmeefmoblkiebaaGreat
/- Contracts: all tables (the reference). -/
namespace Go.Proofs.YtmeefmoblkiebaaGreat
open Go.RowKit
set_option linter.unusedVariables false
set_option linter.unusedSimpArgs false
set_option maxHeartbeats 400000
set_option maxRecDepth 100000
/-- The tables in the midst of row r: the first i outputs have it. -/
def tabSt (f : Nat → Nat) (n r i : Nat) : List Int := (List.range n).map (fun j => ((tabTo f j (if j < i then r + 1 else r) : Nat) : Int))
theorem tabSt_len (f : Nat → Nat) (n r i : Nat) : (tabSt f n r i).length = n := by simp [tabSt]
theorem tabSt_get (f : Nat → Nat) (n r i j : Nat) (hj : j < n) : (tabSt f n r i)[j]'(by rw [tabSt_len]; exact hj) = ((tabTo f j (if j < i then r + 1 else r) : Nat) : Int) := by simp [tabSt]
theorem tabSt_end (f : Nat → Nat) (n r : Nat) : tabSt f n r n = tabSt f n (r + 1) 0 := by
  unfold tabSt
  apply List.map_congr_left
  intro j hj
  rw [List.mem_range] at hj
  rw [if_pos hj, if_neg (by omega)]
theorem tabSt_zero (f : Nat → Nat) (n : Nat) : tabSt f n 0 0 = zeros n := by
  unfold tabSt zeros
  apply List.ext_getElem
  · simp
  · intro i h1 h2
    simp [tabTo]
theorem tabSt_set (f : Nat → Nat) (n r i : Nat) (hi : i < n) : (tabSt f n r i).set i ((tabTo f i (r + 1) : Nat) : Int) = tabSt f n r (i + 1) := by
  apply List.ext_getElem
  · simp [tabSt]
  · intro j h1 h2
    have hj : j < n := by rw [tabSt_len] at h2; exact h2
    rw [List.getElem_set, tabSt_get f n r (i + 1) j hj]
    by_cases e : i = j
    · subst e; rw [if_pos rfl, if_pos (by omega)]
    · rw [if_neg e, tabSt_get f n r i j hj]
      by_cases h3 : j < i
      · rw [if_pos h3, if_pos (by omega)]
      · rw [if_neg h3, if_neg (by omega)]
theorem flatU (xs : List Int) : flat U64_cells xs = xs.map (Value.int .u64) := by
  induction xs with
  | nil => rfl
  | cons x xs ih => rw [flat_cons, ih]; rfl
theorem flatU_zeros (n : Nat) : flat U64_cells (zeros n) = List.replicate n (.int .u64 0) := by
  rw [flatU]; unfold zeros; rw [List.map_replicate]
theorem u64_cell {w : World} {base g n cap : Nat} {xs : List Int} (h : w.ownsRow base 134 1 (.slice (some ⟨g, 0, none⟩) n cap) n (flat U64_cells xs)) (j : Nat) (hj : j < xs.length) : w.cell? ⟨g, j, none⟩ = some (.int .u64 xs[j]) ∧ w.frozen? ⟨g, j, none⟩ = false := by
  have hl := h.1
  rw [flat_length U64_len] at hl
  have h1 := h.cellAt j (by omega)
  rw [h1, flatU]
  exact ⟨by simp [hj], (own_cell h (j := j) (by omega)).2⟩
theorem u64_set {w : World} {base g n cap : Nat} {xs : List Int} (h : w.ownsRow base 134 1 (.slice (some ⟨g, 0, none⟩) n cap) n (flat U64_cells xs)) (j : Nat) (x : Int) : (w.setCell ⟨g, j, none⟩ (.int .u64 x)).ownsRow base 134 1 (.slice (some ⟨g, 0, none⟩) n cap) n (flat U64_cells (xs.set j x)) := by
  have h1 := (h.stored j (.int .u64 x)).1
  rw [flatU] at h1 ⊢
  rwa [List.map_set]
theorem bit_val (n i : Nat) (hn : n < 9223372036854775808) : bits .and .i64 ((n : Int) / 2 ^ i) 1 = if n.testBit i = true then 1 else 0 := by
  have h1 : n / 2 ^ i < 9223372036854775808 := Nat.lt_of_le_of_lt (Nat.div_le_self _ _) hn
  rw [div_pow]
  have h2 := (bits_i64 (n / 2 ^ i) 1 h1 (by omega)).1
  have h3 : bits .and .i64 ((n / 2 ^ i : Nat) : Int) 1 = ((n / 2 ^ i &&& 1 : Nat) : Int) := h2
  rw [h3, bit_and]
  unfold bitN
  cases n.testBit i <;> rfl
theorem pow_63 (k : Nat) (hk : k < 64) : ∃ p : Int, (2 : Int) ^ k = p ∧ 1 ≤ p ∧ p ≤ 9223372036854775808 ∧ p = ((2 ^ k : Nat) : Int) ∧ IntKind.u64.wrap p = p := by
  have h2 : ((2 ^ k : Nat) : Int) = (2 : Int) ^ k := by push_cast; rfl
  have h1 := Nat.one_le_two_pow (n := k)
  have h3 := pow_mono2 (a := k) (b := 63) (by omega)
  refine ⟨(2 : Int) ^ k, rfl, by omega, by omega, by push_cast; rfl, wrap_u64 _ (by omega) (by omega)⟩
theorem tab_yes (f : Nat → Nat) (i r : Nat) (hr : r < 64) (h : (f r).testBit i = true) : bits .or .u64 (tabTo f i r : Int) ((2 ^ r : Nat) : Int) = (tabTo f i (r + 1) : Int) := by
  have h1 := tabTo_lt f i r
  have h2 := pow_mono2 (a := r) (b := 63) (by omega)
  rw [(bits_u64 (tabTo f i r) (2 ^ r) (by omega) (by omega)).2.1]
  show _ = ((if (f r).testBit i = true then _ else _ : Nat) : Int)
  rw [if_pos h]
theorem tab_no (f : Nat → Nat) (i r : Nat) (h : (f r).testBit i = false) : tabTo f i (r + 1) = tabTo f i r := by
  show (if (f r).testBit i = true then _ else _) = _
  rw [h]; rfl
theorem or_zero (f : Nat → Nat) (i r : Nat) (hr : r ≤ 64) : bits .or .u64 (tabTo f i r : Int) 0 = (tabTo f i r : Int) := by
  have h1 := tabTo_lt f i r
  have h2 := pow_mono2 (a := r) (b := 64) hr
  have h3 := (bits_u64 (tabTo f i r) 0 (by omega) (by omega)).2.1
  rw [Nat.or_zero] at h3
  exact h3
noncomputable def mTabI (m : Mc) : List Int := (mTabs m).map (fun (n : Nat) => (n : Int))
theorem mTabI_st (m : Mc) : mTabI m = tabSt (fun r => mOut m r (zeros m.ins.length)) m.outs.length (mRows m) 0 := by
  unfold mTabI mTabs tabSt
  rw [List.map_map]
  apply List.map_congr_left
  intro j hj
  simp
theorem mTabI_len (m : Mc) : (mTabI m).length = m.outs.length := by rw [mTabI_st, tabSt_len]
set_option maxHeartbeats 1600000 in
theorem l03Tables_any (b0 : Nat) (m : Mc) (w : World) (h : MP w b0 m) (hv : vMc m = true) (hok : m.ok) :
    Calls Tryz.prog 86 #[.pointer (some ⟨b0, 0, none⟩)] w fun e w' => ∃ v, e = .returned v ∧ w'.ownsRow w.heap.size 134 1 v m.outs.length (flat U64_cells (mTabI m)) ∧ Below w.heap.size w w' := by
  obtain ⟨hvb, h60, hi1, hi6, ho1, ho8, -⟩ := vMc_parts m hv
  have HALL := Lib.hid (l03All_any b0 m w h hv hok)
  have HTI := Lib.hid (mTabI_st m)
  have hR64 := mRows_le m hi6
  have HAG : Hid (∀ R r (hr : r < (mAll m R).length), (mAll m R)[r] = ((mOut m r (zeros m.ins.length) : Nat) : Int)) := Lib.hid (by intro R r hr; simp [mAll])
  have HAL := Lib.hid (mAll_len m (mRows m))
  have HOL : Hid (∀ r, mOut m r (zeros m.ins.length) < 256) := Lib.hid (fun r => by
    have h1 := bitsTo_lt (mTk m r (zeros m.ins.length)) m.outs.length
    have h2 := pow_mono2 (a := m.outs.length) (b := 8) ho8
    show bitsTo _ _ < 256
    omega)
  obtain ⟨R, hRR⟩ : ∃ R, R = mRows m := ⟨_, rfl⟩
  rw [← hRR] at HALL HTI hR64 HAL
  have HAGR := Lib.hid (HAG.out R)
  obtain ⟨all, hall⟩ : ∃ all, all = mAll m R := ⟨_, rfl⟩
  rw [← hall] at HALL HAGR HAL
  obtain ⟨f, hf⟩ : ∃ f : Nat → Nat, f = fun r => mOut m r (zeros m.ins.length) := ⟨_, rfl⟩
  rw [← hf] at HTI
  have HAF : Hid (∀ r (hr : r < all.length), all[r] = ((f r : Nat) : Int)) := Lib.hid (by intro r hr; rw [HAGR.out r hr, hf])
  have HFL : Hid (∀ r, f r < 256) := Lib.hid (fun r => by rw [hf]; exact HOL.out r)
  generalize mTabI m = res at HTI ⊢
  clear hRR hall HAG HAGR HOL hf
  obtain ⟨hbl, s, si, so, ⟨hbd, c3, c4⟩, -, -, ⟨oa, ocap, rfl, houts⟩⟩ := h
  obtain ⟨i0, hi0, hiz0, hiz1, hiz2⟩ := info_parts Tryz.infoUint64
  go_enter Tryz.func86, Tryz.ntmps86
  go_wp2_with fail
  refine HALL.out.mono ?_
  rintro e w1 ⟨va, rfl, hownA, hb1⟩
  obtain ⟨aa, acap, rfl, hslA, -, -⟩ := own_at hownA
  have HSA := Lib.hid hslA
  have HB1 := Lib.hid hb1
  have r4 : w1.cell? ⟨b0, 4, none⟩ = some (.slice oa m.outs.length ocap) := by rw [hb1.cell (p := ⟨_, _, none⟩) hbl]; exact c4
  clear hownA hslA hb1 HALL
  go_wp2_with (refine wpList_make_full _ rfl (.tmp 13) (.tmp 13) 115 rfl w1.heap.size 134 i0 _ 1 Tryz.underlying115 hi0 hiz0 hiz1 _ _ _ _ m.outs.length rfl rfl rfl rfl (by rw [hiz2]; omega) (by unfold maxLen; omega) (Nat.le_refl _) ?_; intro w2 hmade hgrow)
  rw [made_rep _ rfl, ← flatU_zeros, ← tabSt_zero f] at hmade
  have hb2 : Below w1.heap.size w1 w2 := bl_grown (Below.refl _ _) hgrow (by simp)
  clear r4 hgrow
  go_loopw [5] (fun rx wr => ∃ r : Nat, r ≤ R ∧ rx = .int .i64 r ∧ wr.ownsRow w1.heap.size 134 1 (.slice (some ⟨w1.heap.size, 0, none⟩) m.outs.length m.outs.length) m.outs.length (flat U64_cells (tabSt f m.outs.length r 0)) ∧ Below w1.heap.size w1 wr) (fun rx _ => R - (intOf rx).toNat)
  case atStart => exact ⟨0, by omega, rfl, hmade, hb2⟩
  case round =>
    clear hmade hb2
    obtain ⟨r, hr, rfl, hown, hb⟩ := hrel
    by_cases hlt : r < R
    · have hltI : (r : Int) < R := by omega
      go_wp2
      go_loopw [6] (fun ix wi => ∃ i : Nat, i ≤ m.outs.length ∧ ix = .int .i64 i ∧ wi.ownsRow w1.heap.size 134 1 (.slice (some ⟨w1.heap.size, 0, none⟩) m.outs.length m.outs.length) m.outs.length (flat U64_cells (tabSt f m.outs.length r i)) ∧ Below w1.heap.size w1 wi) (fun ix _ => m.outs.length - (intOf ix).toNat)
      case atStart => exact ⟨0, by omega, rfl, hown, hb⟩
      case round =>
        clear hown hb
        obtain ⟨i, hi, rfl, hown, hb⟩ := hrel
        by_cases hlti : i < m.outs.length
        · obtain ⟨k0, k1⟩ := u64_cell hown i (by rw [tabSt_len]; exact hlti)
          rw [tabSt_get f _ r i i hlti, if_neg (by omega)] at k0
          have hra : r < all.length := by rw [HAL.out]; exact hlt
          obtain ⟨ba, offa, rfl, hba, hata⟩ := n64s_get HSA.out hra
          unfold N64At at hata
          rw [Nat.mul_one, HAF.out r hra] at hata
          have q0 : wr.cell? ⟨ba, offa + r, none⟩ = some (.int .i64 ((f r : Nat) : Int)) := by rw [hb.cell (p := ⟨_, _, none⟩) hba]; exact hata
          have hlo := HFL.out r
          have hbv := bit_val (f r) i (by omega)
          have HOWN := Lib.hid hown
          have hriI : (r : Int) < R := by omega
          have hiI : (i : Int) < m.outs.length := by omega
          have hi8 : i < 8 := by omega
          have HVAL : Hid (bits .or .u64 ((tabTo f i r : Nat) : Int) (IntKind.u64.wrap (IntKind.u64.wrap (bits .and .i64 (((f r : Nat) : Int) / 2 ^ min i 64) 1) * 2 ^ min r 64)) = ((tabTo f i (r + 1) : Nat) : Int)) := Lib.hid (by
            rw [Nat.min_eq_left (show i ≤ 64 by omega), Nat.min_eq_left (show r ≤ 64 by omega), hbv]
            obtain ⟨p, hp, hp1, hp2, hp3, hp4⟩ := pow_63 r (by omega)
            cases gb : (f r).testBit i with
            | true =>
              rw [if_pos rfl, wrap_u64 1 (by omega) (by omega), Int.one_mul, hp, hp4, hp3]
              exact tab_yes f i r (by omega) gb
            | false =>
              rw [if_neg Bool.false_ne_true, wrap_u64 0 (by omega) (by omega), Int.zero_mul, wrap_u64 0 (by omega) (by omega), or_zero f i r (by omega), tab_no f i r gb])
          obtain ⟨F, hF⟩ : ∃ F, F = f r := ⟨_, rfl⟩
          rw [← hF] at q0 hlo HVAL
          obtain ⟨T, hT⟩ : ∃ T, T = tabTo f i r := ⟨_, rfl⟩
          rw [← hT] at k0 HVAL
          clear hown hata hF hT hra hbv
          go_upto_region 9 with fail
          go_still_tail 18, (by kernel_rfl)
          change wpList _ _ _ _ _ wr.drew
          go_wp2
          have how := u64_set HOWN.out i ((tabTo f i (r + 1) : Nat) : Int)
          rw [tabSt_set f _ r i hlti] at how
          go_roundw
          case rel => exact ⟨i + 1, by omega, by go_num, by rw [HVAL.out]; exact own_below how (bl_drew (Below.refl _ _)) (Nat.le_refl _), bl_drew (bl_set hb (Nat.le_refl _) _)⟩
          case measure => simp [intOf]; omega
        · have hin : i = m.outs.length := by omega
          subst hin
          rw [tabSt_end] at hown
          have HOWN := Lib.hid hown
          clear hown
          go_wp2
          go_roundw
          case rel => exact ⟨r + 1, by omega, by go_num, HOWN.out, hb⟩
          case measure => simp [intOf]; omega
    · have hkn : r = R := by omega
      subst hkn
      have HOWN2 := own_mono (base := w.heap.size) hown HB1.out.size
      rw [← HTI.out] at HOWN2
      have HBF := Lib.hid (bl_trans HB1.out hb)
      clear hown
      go_wp2
      go_ret
      exact ⟨_, rfl, HOWN2, HBF.out⟩
end Go.Proofs.YtmeefmoblkiebaaGreat
/- Contracts: the falls, the outputs and the tables of a machine (the program). -/
namespace Go.Proofs.YtmeefmoblkiebaaGreat
open Go.RowKit
set_option linter.unusedVariables false
set_option linter.unusedSimpArgs false
set_option maxHeartbeats 400000
set_option maxRecDepth 100000
/-- How late the inputs are, as a value: nil says that none is. -/
def LateV (w : World) (v : Value) (n : Nat) (L : List Int) : Prop := L.length = n ∧ lateOk L ∧ ((v = .slice none 0 0 ∧ L = zeros n) ∨ ∃ a cap, v = .slice (some a) n cap ∧ SlAt w.heap.size w (some a) (flat N64_cells L))
theorem LateV.step {w w' : World} {v : Value} {n : Nat} {L : List Int} (h : LateV w v n L) (hb : Below w.heap.size w w') : LateV w' v n L := by
  obtain ⟨h1, h2, h3⟩ := h
  refine ⟨h1, h2, h3.imp id ?_⟩
  rintro ⟨a, cap, e, h⟩
  exact ⟨a, cap, e, (h.below hb (Nat.le_refl _)).mono hb.size⟩
theorem LateV.nil (w : World) (n : Nat) : LateV w (.slice none 0 0) n (zeros n) := ⟨by simp [zeros], zeros_ok n, .inl ⟨rfl, rfl⟩⟩
theorem zeros_get (n i : Nat) : (zeros n).getD i 0 = 0 := by
  unfold zeros
  rw [List.getD_eq_getElem?_getD, List.getElem?_replicate]
  split <;> rfl
theorem hit_of (bd : Bd) (ins : List Po) (L : List Int) (k : Nat) (hk : k < ins.length) : hitOf bd (puOf ins L k) = ⟨L.getD k 0, fnd ⟨ins[k].x, ins[k].y⟩ bd.ps, ins[k].s, -1⟩ := by
  unfold hitOf puOf
  rw [getD_po ins k hk]
set_option maxHeartbeats 3200000 in
theorem wfalls_any (g b0 : Nat) (m : Mc) (row : Nat) (vl : Value) (L : List Int) (w : World) (h : WkAt w g b0 m) (hv : vMc m = true) (hok : m.ok) (hl : LateV w vl m.ins.length L) (hrow : row < 64) :
    Calls Tryz.prog 123 #[.pointer (some ⟨g, 0, none⟩), .int .i64 row, vl] w fun e w' => ∃ v, e = .returned v ∧ w'.ownsRow w.heap.size 43 3 v (mFa m row L).length (flat Fa.cells (mFa m row L)) ∧ Below w.heap.size w w' := by
  obtain ⟨hvb, h60, hi1, hi6, ho1, ho8, -⟩ := vMc_parts m hv
  obtain ⟨hll, hlo, hlv⟩ := hl
  obtain ⟨o1, o2, o3, o4⟩ := mPu_ok m hv hok row L hlo
  have HG := Lib.hid (good_bd m.bd hvb (mPu m row L) o2)
  obtain ⟨hgl, c0, ⟨bs, c1, hst⟩, ⟨ai, capi, c2, hsi⟩, -⟩ := h
  have HRUN := Lib.hid (fun w1 (hb : Below w.heap.size w w1) av cap (hs : SlAt w1.heap.size w1 av (flat Hi.cells ((mPu m row L).map (hitOf m.bd)))) => run_any (B := w1.heap.size) bs m.bd av cap (mPu m row L) w1 (hst.step hb) hvb hs o2 o3 o4 (Nat.le_refl _))
  have HFE : Hid (mFa m row L = runOf m.bd.ps (mPu m row L)) := Lib.hid rfl
  have HPL : Hid (mPu m row L = mPuTo m.ins row L m.ins.length) := Lib.hid rfl
  have HS : Hid (∀ k, mPuTo m.ins row L (k + 1) = mPuTo m.ins row L k ++ (if row.testBit k = true then [puOf m.ins L k] else [])) := Lib.hid (fun k => rfl)
  have HLE := Lib.hid (fun k => mPuTo_len m.ins row L k)
  have HHO := Lib.hid (fun k hk => hit_of m.bd m.ins L k hk)
  obtain ⟨fs, hfs⟩ : ∃ fs, fs = mFa m row L := ⟨_, rfl⟩
  obtain ⟨pl, hpl⟩ : ∃ pl, pl = mPu m row L := ⟨_, rfl⟩
  rw [← hfs] at HFE ⊢
  rw [← hpl] at HG HRUN HFE HPL
  have HLO := Lib.hid hlo
  clear hfs hpl o1 o2 o3 o4 hst hlo
  obtain ⟨i0, hi0, hiz0, hiz1, hiz2⟩ := info_parts Tryz.infoHit
  have hown0 := World.ownsRow_made (e := 161) (size := 4) w #[] 0 (Nat.le_refl _) (by simp [maxLen]) rfl
  have hb0 : Below w.heap.size w (w.alloc (.cells #[] 161)) := bl_alloc (Below.refl _ _)
  have hmi : (m.ins.map (hit0 m.bd.ps)).length = m.ins.length := by simp
  have HHG : Hid (∀ k (hk : k < (m.ins.map (hit0 m.bd.ps)).length) (h2 : k < m.ins.length), (m.ins.map (hit0 m.bd.ps))[k] = ⟨0, fnd ⟨m.ins[k].x, m.ins[k].y⟩ m.bd.ps, m.ins[k].s, -1⟩) := Lib.hid (by intro k hk h2; simp [hit0])
  have HMI := Lib.hid hmi
  clear hmi
  go_enter Tryz.func123, Tryz.ntmps123
  go_wp2
  go_loopw [7, 16] (fun v ix wr => ∃ k : Nat, k ≤ m.ins.length ∧ ix = .int .i64 k ∧ wr.ownsRow w.heap.size 161 4 v (mPuTo m.ins row L k).length (flat Hi.cells ((mPuTo m.ins row L k).map (hitOf m.bd))) ∧ Below w.heap.size w wr) (fun _ ix _ => m.ins.length - (intOf ix).toNat)
  case atStart => exact ⟨0, by omega, rfl, hown0, hb0⟩
  case round =>
    clear hown0 hb0
    obtain ⟨k, hk, rfl, hown, hb⟩ := hrel
    obtain ⟨av, capv, hve, -, -, -⟩ := own_at hown
    subst hve
    have HOWN := Lib.hid hown
    have hzb := hb.size
    have hle := HLE.out k
    have HB := Lib.hid hb
    clear hown
    obtain ⟨n, hnn⟩ : ∃ n, n = (mPuTo m.ins row L k).length := ⟨_, rfl⟩
    rw [← hnn] at HOWN hle ⊢
    have HNN := Lib.hid hnn
    clear hnn
    by_cases hlt : k < m.ins.length
    · have hkm : k < (m.ins.map (hit0 m.bd.ps)).length := by rw [HMI.out]; exact hlt
      obtain ⟨b, off, rfl, hbi, hat⟩ := his_get hsi hkm
      rw [HHG.out k hkm hlt] at hat
      unfold HiAt at hat
      simp only at hat
      obtain ⟨a0, a1, a2, a3⟩ := hat
      have HH := Lib.hid (HHO.out k hlt)
      obtain ⟨fk, hfk⟩ : ∃ fk, fk = fnd ⟨m.ins[k].x, m.ins[k].y⟩ m.bd.ps := ⟨_, rfl⟩
      rw [← hfk] at a1 HH
      obtain ⟨sk, hsk⟩ : ∃ sk, sk = m.ins[k].s := ⟨_, rfl⟩
      rw [← hsk] at a2 HH
      clear hfk hsk
      have q0 : wr.cell? ⟨b, off + k * 4, none⟩ = some (.int .i64 0) := by rw [hb.cell (p := ⟨_, _, none⟩) hbi]; exact a0
      have q1 : wr.cell? ⟨b, off + k * 4 + 1, none⟩ = some (.int .i64 fk) := by rw [hb.cell (p := ⟨_, _, none⟩) hbi]; exact a1
      have q2 : wr.cell? ⟨b, off + k * 4 + 2, none⟩ = some (.int .i64 sk) := by rw [hb.cell (p := ⟨_, _, none⟩) hbi]; exact a2
      have q3 : wr.cell? ⟨b, off + k * 4 + 3, none⟩ = some (.int .i64 (-1)) := by rw [hb.cell (p := ⟨_, _, none⟩) hbi]; exact a3
      have HBI := Lib.hid (fun w1 => bitI_any row k (by omega) (by omega) w1)
      clear a0 a1 a2 a3
      cases gb : row.testBit k with
      | false =>
        rw [gb] at HBI
        have HC2 : Hid (mPuTo m.ins row L (k + 1) = mPuTo m.ins row L k) := Lib.hid (by rw [HS.out, gb]; simp)
        have HO2 := Lib.hid (own_below HOWN.out (bl_alloc (o := .cells #[.int .i64 0, .int .i64 fk, .int .i64 sk, .int .i64 (-1)] 161) (Below.refl wr.heap.size wr)) (Nat.le_refl _))
        clear gb
        go_wp2_with (go_at_call 124; refine (HBI.out _).mono ?_; rintro e w' ⟨rfl, rfl⟩)
        go_roundw
        case rel => exact ⟨k + 1, by omega, by go_num, by rw [HC2.out, ← HNN.out]; exact HO2.out, bl_alloc HB.out⟩
        case measure => simp [intOf]; omega
      | true =>
        rw [gb] at HBI
        have HC2 : Hid (mPuTo m.ins row L (k + 1) = mPuTo m.ins row L k ++ [puOf m.ins L k]) := Lib.hid (by rw [HS.out, gb]; simp)
        clear gb
        rcases hlv with ⟨rfl, hz⟩ | ⟨al, capl, rfl, hsl⟩
        · have HT : Hid (L.getD k 0 = 0) := Lib.hid (by rw [hz]; exact zeros_get _ _)
          have HO2 := Lib.hid (own_below HOWN.out (bl_alloc (o := .cells #[.int .i64 0, .int .i64 fk, .int .i64 sk, .int .i64 (-1)] 161) (Below.refl wr.heap.size wr)) (Nat.le_refl _))
          have hzz : (wr.alloc (.cells #[.int .i64 0, .int .i64 fk, .int .i64 sk, .int .i64 (-1)] 161)).heap.size = wr.heap.size + 1 := by simp
          have HZZ := Lib.hid hzz
          clear hz hzz
          go_wp2_with (first | (go_at_call 124; refine (HBI.out _).mono ?_; rintro e w' ⟨rfl, rfl⟩) | (at_builtin; go_must (refine wpList_append_sl _ rfl _ _ 105 rfl w.heap.size 161 i0 (.agg #[.int .i64 0, .int .i64 0, .int .i64 0, .int .i64 0]) 4 32 Tryz.underlying105 hi0 hiz0 hiz1 hiz2 rfl (by decide) _ _ _ rfl (own_below HO2.out (bl_alloc (Below.refl _ _)) (Nat.le_refl _)) (some ⟨_, 0, none⟩) 1 1 [.int .i64 0, .int .i64 fk, .int .i64 sk, .int .i64 (-1)] rfl (sl_newC (wr.alloc (.cells #[.int .i64 0, .int .i64 fk, .int .i64 sk, .int .i64 (-1)] 161)) #[.int .i64 0, .int .i64 fk, .int .i64 sk, .int .i64 (-1)] 161 _ (by rw [HZZ.out])) rfl (Hi.one ⟨0, fk, sk, -1⟩) (by unfold maxLen; omega) (by omega) (by simp; omega) ?_); intro v3 w3 hown3 hgrow))
          have hb3 : Below w.heap.size w w3 := (bl_alloc (bl_alloc HB.out)).grown hgrow (by simp; omega) (fun q hq => (HO2.out.lt q hq).1)
          have hcells : flat Hi.cells ((mPuTo m.ins row L k).map (hitOf m.bd)) ++ [.int .i64 0, .int .i64 fk, .int .i64 sk, .int .i64 (-1)] = flat Hi.cells ((mPuTo m.ins row L (k + 1)).map (hitOf m.bd)) := by rw [HC2.out, List.map_append, flat_append, List.map_cons, List.map_nil, HH.out, HT.out]; rfl
          have hnn2 : n + 1 = (mPuTo m.ins row L (k + 1)).length := by rw [HC2.out, List.length_append, ← HNN.out]; rfl
          rw [hcells] at hown3
          go_roundw
          case rel => exact ⟨k + 1, by omega, by go_num, by rw [← hnn2]; exact hown3, hb3⟩
          case measure => simp [intOf]; omega
        · have hkl : k < L.length := by rw [hll]; exact hlt
          obtain ⟨bl, offl, he, hbL, hatl⟩ := n64s_get hsl hkl
          simp only [Option.some.injEq] at he
          subst he
          unfold N64At at hatl
          rw [Nat.mul_one] at hatl
          have q4 : wr.cell? ⟨bl, offl + k, none⟩ = some (.int .i64 L[k]) := by rw [hb.cell (p := ⟨_, _, none⟩) hbL]; exact hatl
          have HT : Hid (L.getD k 0 = L[k]) := Lib.hid (getD_n L k hkl)
          obtain ⟨T, hT⟩ : ∃ T, T = L[k] := ⟨_, rfl⟩
          rw [← hT] at q4 HT
          have q5 : (wr.alloc (.cells #[.int .i64 0, .int .i64 fk, .int .i64 sk, .int .i64 (-1)] 161)).cell? ⟨bl, offl + k, none⟩ = some (.int .i64 T) := by rw [cell_alloc _ _ _ _ (by omega)]; exact q4
          have hkI : (k : Int) < m.ins.length := by omega
          clear hatl hT hkl
          have HO2 := Lib.hid (own_below HOWN.out (bl_alloc (o := .cells #[.int .i64 T, .int .i64 fk, .int .i64 sk, .int .i64 (-1)] 161) (Below.refl wr.heap.size wr)) (Nat.le_refl _))
          have hzz : (wr.alloc (.cells #[.int .i64 T, .int .i64 fk, .int .i64 sk, .int .i64 (-1)] 161)).heap.size = wr.heap.size + 1 := by simp
          have HZZ := Lib.hid hzz
          clear hzz
          go_wp2_with (first | (go_at_call 124; refine (HBI.out _).mono ?_; rintro e w' ⟨rfl, rfl⟩) | (at_builtin; go_must (refine wpList_append_sl _ rfl _ _ 105 rfl w.heap.size 161 i0 (.agg #[.int .i64 0, .int .i64 0, .int .i64 0, .int .i64 0]) 4 32 Tryz.underlying105 hi0 hiz0 hiz1 hiz2 rfl (by decide) _ _ _ rfl (own_below HO2.out (bl_alloc (Below.refl _ _)) (Nat.le_refl _)) (some ⟨_, 0, none⟩) 1 1 [.int .i64 T, .int .i64 fk, .int .i64 sk, .int .i64 (-1)] rfl (sl_newC (wr.alloc (.cells #[.int .i64 T, .int .i64 fk, .int .i64 sk, .int .i64 (-1)] 161)) #[.int .i64 T, .int .i64 fk, .int .i64 sk, .int .i64 (-1)] 161 _ (by rw [HZZ.out])) rfl (Hi.one ⟨T, fk, sk, -1⟩) (by unfold maxLen; omega) (by omega) (by simp; omega) ?_); intro v3 w3 hown3 hgrow))
          have hb3 : Below w.heap.size w w3 := (bl_alloc (bl_alloc HB.out)).grown hgrow (by simp; omega) (fun q hq => (HO2.out.lt q hq).1)
          have hcells : flat Hi.cells ((mPuTo m.ins row L k).map (hitOf m.bd)) ++ [.int .i64 T, .int .i64 fk, .int .i64 sk, .int .i64 (-1)] = flat Hi.cells ((mPuTo m.ins row L (k + 1)).map (hitOf m.bd)) := by rw [HC2.out, List.map_append, flat_append, List.map_cons, List.map_nil, HH.out, HT.out]; rfl
          have hnn2 : n + 1 = (mPuTo m.ins row L (k + 1)).length := by rw [HC2.out, List.length_append, ← HNN.out]; rfl
          rw [hcells] at hown3
          go_roundw
          case rel => exact ⟨k + 1, by omega, by go_num, by rw [← hnn2]; exact hown3, hb3⟩
          case measure => simp [intOf]; omega
    · have hkn : k = m.ins.length := by omega
      subst hkn
      have hsl9 : SlAt wr.heap.size wr av (flat Hi.cells (pl.map (hitOf m.bd))) := by
        obtain ⟨a9, cap9, e9, s9, -, -⟩ := own_at HOWN.out
        simp only [Value.slice.injEq] at e9
        obtain ⟨rfl, -, -⟩ := e9
        rw [HPL.out]
        exact s9
      have HNP : Hid (n = pl.length) := Lib.hid (by rw [HNN.out, HPL.out])
      have HRC := Lib.hid (HRUN.out wr HB.out av capv hsl9)
      have d1 : wr.cell? ⟨g, 1, none⟩ = some (.pointer (some ⟨bs, 0, none⟩)) := by rw [hb.cell (p := ⟨_, _, none⟩) hgl]; exact c1
      rw [← HNP.out] at HRC
      clear HRUN hsl9
      go_wp2_with fail
      refine HRC.out.mono ?_
      rintro e w2 ⟨v2, fs2, rfl, hown2, hokf, hb2⟩
      have he : fs = fs2 := by rw [HFE.out]; exact (runOf_eq _ _ _ HG.out hokf).symm
      subst he
      have HO9 := Lib.hid (own_mono (base := w.heap.size) hown2 hzb)
      clear hown2 hokf
      go_wp2
      go_ret
      exact ⟨_, rfl, HO9.out, bl_trans HB.out hb2⟩
end Go.Proofs.YtmeefmoblkiebaaGreat
/- Contracts: the outputs and the tables of a machine, what is asked (the program). -/
namespace Go.Proofs.YtmeefmoblkiebaaGreat
open Go.RowKit
set_option linter.unusedVariables false
set_option linter.unusedSimpArgs false
set_option maxHeartbeats 400000
set_option maxRecDepth 100000
theorem mFa_ge (m : Mc) (row : Nat) (L : List Int) (k : Nat) (hk : k < (mFa m row L).length) : -1 ≤ (mFa m row L)[k].t := runOf_ge _ _ k hk
theorem mTk_at (m : Mc) (row : Nat) (L : List Int) (k : Nat) (hk : k < m.outs.length) (f : Nat) (hf : fnd m.outs[k] m.bd.ps = (f : Int)) (hff : f < (mFa m row L).length) : (mTk m row L).getD k 0 = (mFa m row L)[f].t := by
  have h1 : k < (mTk m row L).length := by rw [mTk_len]; exact hk
  rw [getD_n _ k h1]
  have h2 : (mTk m row L)[k] = tkAt m.bd.ps (mFa m row L) m.outs[k] := by simp [mTk, tkAt]
  rw [h2]
  unfold tkAt
  rw [hf, Int.toNat_natCast, getD_fa _ f hff]
set_option maxHeartbeats 1600000 in
theorem woutputs_any (g b0 : Nat) (m : Mc) (row : Nat) (vl : Value) (L : List Int) (w : World) (h : WkAt w g b0 m) (hv : vMc m = true) (hok : m.ok) (hl : LateV w vl m.ins.length L) (hrow : row < 64) :
    Calls Tryz.prog 71 #[.pointer (some ⟨g, 0, none⟩), .int .i64 row, vl] w fun e w' => e = .returned (.int .i64 ((mOut m row L : Nat) : Int)) ∧ Below w.heap.size w w' := by
  obtain ⟨hvb, h60, hi1, hi6, ho1, ho8, -⟩ := vMc_parts m hv
  have HF := Lib.hid (wfalls_any g b0 m row vl L w h hv hok hl hrow)
  have HOV : Hid (mOut m row L = bitsTo (mTk m row L) m.outs.length) := Lib.hid rfl
  have HTA := Lib.hid (fun k hk f hf hff => mTk_at m row L k hk f hf hff)
  have HOF := Lib.hid (fun k hk => out_fnd m hv k hk)
  have HGE := Lib.hid (mFa_ge m row L)
  have HFL := Lib.hid (mFa_len m row L)
  obtain ⟨fs, hfs⟩ : ∃ fs, fs = mFa m row L := ⟨_, rfl⟩
  obtain ⟨ts, hts⟩ : ∃ ts, ts = mTk m row L := ⟨_, rfl⟩
  obtain ⟨r, hr⟩ : ∃ r, r = mOut m row L := ⟨_, rfl⟩
  rw [← hr] at HOV ⊢
  rw [← hts] at HTA HOV
  rw [← hfs] at HF HGE HFL
  have HTA2 : Hid (∀ k (hk : k < m.outs.length) (f : Nat), fnd m.outs[k] m.bd.ps = (f : Int) → ∀ (hff : f < fs.length), ts.getD k 0 = fs[f].t) := Lib.hid (by intro k hk f hf hff; rw [HTA.out k hk f hf (by rw [← hfs]; exact hff)]; simp only [hfs])
  have HMO : Hid (∀ k (hk : k < (m.outs.map (outF m.bd.ps)).length) (h2 : k < m.outs.length), (m.outs.map (outF m.bd.ps))[k] = fnd m.outs[k] m.bd.ps) := Lib.hid (by intro k hk h2; simp [outF])
  have HML : Hid ((m.outs.map (outF m.bd.ps)).length = m.outs.length) := Lib.hid (by simp)
  clear hfs hts hr HTA
  obtain ⟨hgl, c0, -, -, ⟨ao, capo, c3, hso⟩⟩ := h
  go_enter Tryz.func71, Tryz.ntmps71
  go_wp2_with fail
  refine HF.out.mono ?_
  rintro e w2 ⟨v, rfl, hown, hb2⟩
  obtain ⟨av, capv, hve, hsl, -, -⟩ := own_at hown
  subst hve
  have HB2 := Lib.hid hb2
  have d3 : w2.cell? ⟨g, 3, none⟩ = some (.slice ao m.outs.length capo) := by rw [hb2.cell (p := ⟨_, _, none⟩) hgl]; exact c3
  have hso2 := hso.below hb2 (Nat.le_refl _)
  have hz2 := hb2.size
  clear hown hb2 HF hso
  go_wp2
  go_loopw [8, 20] (fun ox ix wr => ∃ k : Nat, k ≤ m.outs.length ∧ ix = .int .i64 k ∧ ox = .int .i64 (bitsTo ts k : Int) ∧ Below w2.heap.size w2 wr) (fun _ ix _ => m.outs.length - (intOf ix).toNat)
  case atStart => exact ⟨0, by omega, rfl, rfl, Below.refl _ _⟩
  case round =>
    obtain ⟨k, hk, rfl, rfl, hb⟩ := hrel
    by_cases hlt : k < m.outs.length
    · obtain ⟨f, hf, hfl⟩ := HOF.out k hlt
      have hff : f < fs.length := by rw [HFL.out]; exact hfl
      have hkm : k < (m.outs.map (outF m.bd.ps)).length := by rw [HML.out]; exact hlt
      obtain ⟨bo, offo, rfl, hbo, hato⟩ := ints_get hso2 hkm
      rw [HMO.out k hkm hlt, hf] at hato
      have q0 : wr.cell? ⟨bo, offo + k, none⟩ = some (.int .i64 (f : Int)) := by rw [hb.cell (p := ⟨_, _, none⟩) (show bo < w2.heap.size by omega)]; exact hato
      obtain ⟨bf, offf, rfl, hbf, hatf⟩ := fas_get hsl hff
      have q1 : wr.cell? ⟨bf, offf + f * 3, none⟩ = some (.int .i64 fs[f].t) := by rw [hb.cell (p := ⟨_, _, none⟩) hbf]; exact hatf.1
      have HGD := Lib.hid (HTA2.out k hlt f hf hff)
      have hge := HGE.out f hff
      obtain ⟨T, hT⟩ : ∃ T, T = fs[f].t := ⟨_, rfl⟩
      rw [← hT] at q1 HGD hge
      have hfI : (f : Int) < fs.length := by omega
      have hk8 : k < 8 := by omega
      clear hT hato hatf hf hkm
      rcases Int.decEq T (-1) with hne | heq
      · have htc : (T != (-1 : Int)) = true := by simpa using hne
        have HS := Lib.hid (bitsTo_yes ts k (by omega) (by rw [HGD.out]; omega))
        obtain ⟨p, hp, hp1, hp2, hp3⟩ := pow_i k (by omega)
        rw [← hp3] at HS
        clear hne hge hp3
        go_wp2
        go_roundw
        case rel => exact ⟨k + 1, by omega, by go_num, by rw [← HS.out], hb⟩
        case measure => simp [intOf]; omega
      · have htc : (T != (-1 : Int)) = false := by rw [heq]; rfl
        have HS := Lib.hid (bitsTo_no ts k (by rw [HGD.out]; omega))
        clear heq hge
        go_wp2
        go_roundw
        case rel => exact ⟨k + 1, by omega, by go_num, by rw [HS.out], hb⟩
        case measure => simp [intOf]; omega
    · have hkn : k = m.outs.length := by omega
      subst hkn
      rw [← HOV.out]
      go_wp2
      go_ret
      exact ⟨rfl, bl_trans HB2.out hb⟩
theorem wrows_any (g b0 : Nat) (m : Mc) (w : World) (h : WkAt w g b0 m) (hn : m.ins.length ≤ 6) : Calls Tryz.prog 70 #[.pointer (some ⟨g, 0, none⟩)] w fun e w' => e = .returned (.int .i64 ((mRows m : Nat) : Int)) ∧ w = w' := by
  have HR := Lib.hid (fun w => rows_any m.ins.length (by omega) w)
  obtain ⟨hgl, c0, -, ⟨ai, capi, c2, -⟩, -⟩ := h
  go_enter Tryz.func70, Tryz.ntmps70
  go_wp2_with (go_at_call 77; refine (HR.out _).mono ?_; rintro e w' ⟨rfl, rfl⟩)
  go_ret
  exact ⟨rfl, rfl⟩
set_option maxHeartbeats 1600000 in
theorem wtables_any (g b0 : Nat) (m : Mc) (w : World) (h : WkAt w g b0 m) (hv : vMc m = true) (hok : m.ok) :
    Calls Tryz.prog 92 #[.pointer (some ⟨g, 0, none⟩)] w fun e w' => ∃ v, e = .returned v ∧ w'.ownsRow w.heap.size 134 1 v m.outs.length (flat U64_cells (mTabI m)) ∧ Below w.heap.size w w' := by
  obtain ⟨hvb, h60, hi1, hi6, ho1, ho8, -⟩ := vMc_parts m hv
  have HW := Lib.hid h
  have HRO := Lib.hid (fun w1 (hb : Below w.heap.size w w1) => wrows_any g b0 m w1 (h.step hb) hi6)
  have HOU := Lib.hid (fun w1 (hb : Below w.heap.size w w1) (r : Nat) (hr : r < 64) => woutputs_any g b0 m r (.slice none 0 0) (zeros m.ins.length) w1 (h.step hb) hv hok (LateV.nil w1 _) hr)
  have HTI := Lib.hid (mTabI_st m)
  have hR64 := mRows_le m hi6
  have HOL : Hid (∀ r, mOut m r (zeros m.ins.length) < 256) := Lib.hid (fun r => by
    have h1 := bitsTo_lt (mTk m r (zeros m.ins.length)) m.outs.length
    have h2 := pow_mono2 (a := m.outs.length) (b := 8) ho8
    show bitsTo _ _ < 256
    omega)
  obtain ⟨R, hRR⟩ : ∃ R, R = mRows m := ⟨_, rfl⟩
  rw [← hRR] at HTI hR64 HRO
  obtain ⟨f, hf⟩ : ∃ f : Nat → Nat, f = fun r => mOut m r (zeros m.ins.length) := ⟨_, rfl⟩
  rw [← hf] at HTI
  have HF : Hid (∀ r, mOut m r (zeros m.ins.length) = f r) := Lib.hid (fun r => by rw [hf])
  have HFL : Hid (∀ r, f r < 256) := Lib.hid (fun r => by rw [hf]; exact HOL.out r)
  generalize mTabI m = res at HTI ⊢
  clear hRR HOL hf
  obtain ⟨hgl, c0, -, -, ⟨ao, capo, c3, hso⟩⟩ := h
  obtain ⟨i0, hi0, hiz0, hiz1, hiz2⟩ := info_parts Tryz.infoUint64
  go_enter Tryz.func92, Tryz.ntmps92
  go_wp2_with (first | (go_at_call 70; refine (HRO.out _ hb2).mono ?_; rintro e w' ⟨rfl, rfl⟩) | (refine wpList_make_full _ rfl (.tmp 11) (.tmp 11) 115 rfl w.heap.size 134 i0 _ 1 Tryz.underlying115 hi0 hiz0 hiz1 _ _ _ _ m.outs.length rfl rfl rfl rfl (by rw [hiz2]; omega) (by unfold maxLen; omega) (Nat.le_refl _) ?_; intro w2 hmade hgrow; have hb2 : Below w.heap.size w w2 := bl_grown (Below.refl _ _) hgrow (by simp)))
  rw [made_rep _ rfl, ← flatU_zeros, ← tabSt_zero f] at hmade
  clear hgrow
  go_loopw [15] (fun rx wr => ∃ r : Nat, r ≤ R ∧ rx = .int .i64 r ∧ wr.ownsRow w.heap.size 134 1 (.slice (some ⟨w.heap.size, 0, none⟩) m.outs.length m.outs.length) m.outs.length (flat U64_cells (tabSt f m.outs.length r 0)) ∧ Below w.heap.size w wr) (fun rx _ => R - (intOf rx).toNat)
  case atStart => exact ⟨0, by omega, rfl, hmade, hb2⟩
  case round =>
    clear hmade hb2
    obtain ⟨r, hr, rfl, hown, hb⟩ := hrel
    by_cases hlt : r < R
    · have hltI : (r : Int) < R := by omega
      have HOC := Lib.hid (HOU.out wr hb r (by omega))
      rw [HF.out] at HOC
      have HOWN := Lib.hid hown
      have HB := Lib.hid hb
      have hlo := HFL.out r
      clear hown hb
      go_wp2_with fail
      refine HOC.out.mono ?_
      rintro e w3 ⟨rfl, hb3⟩
      have hown3 := own_below HOWN.out hb3 (Nat.le_refl _)
      have hb03 := bl_trans HB.out hb3
      clear hb3
      obtain ⟨F, hF⟩ : ∃ F, F = f r := ⟨_, rfl⟩
      rw [← hF] at hlo ⊢
      have HFF := Lib.hid hF
      clear hF
      go_wp2
      go_loopw [23] (fun ix wi => ∃ i : Nat, i ≤ m.outs.length ∧ ix = .int .i64 i ∧ wi.ownsRow w.heap.size 134 1 (.slice (some ⟨w.heap.size, 0, none⟩) m.outs.length m.outs.length) m.outs.length (flat U64_cells (tabSt f m.outs.length r i)) ∧ Below w.heap.size w wi) (fun ix _ => m.outs.length - (intOf ix).toNat)
      case atStart => exact ⟨0, by omega, rfl, hown3, hb03⟩
      case round =>
        clear hown3 hb03
        obtain ⟨i, hi, rfl, hown, hb⟩ := hrel
        by_cases hlti : i < m.outs.length
        · obtain ⟨k0, k1⟩ := u64_cell hown i (by rw [tabSt_len]; exact hlti)
          rw [tabSt_get f _ r i i hlti, if_neg (by omega)] at k0
          have HOWN := Lib.hid hown
          have hiI : (i : Int) < m.outs.length := by omega
          have hi8 : i < 8 := by omega
          have HBI := Lib.hid (fun w1 => bitI_any F i (by omega) (by omega) w1)
          cases gb : F.testBit i with
          | true =>
            rw [gb] at HBI
            have HVAL : Hid (bits .or .u64 ((tabTo f i r : Nat) : Int) (IntKind.u64.wrap (2 ^ r)) = ((tabTo f i (r + 1) : Nat) : Int)) := Lib.hid (by
              obtain ⟨p, hp, hp1, hp2, hp3, hp4⟩ := pow_63 r (by omega)
              rw [hp, hp4, hp3]
              exact tab_yes f i r (by omega) (by rw [← HFF.out]; exact gb))
            obtain ⟨T, hT⟩ : ∃ T, T = tabTo f i r := ⟨_, rfl⟩
            rw [← hT] at k0 HVAL
            clear hown hT gb
            go_wp2_with (go_at_call 124; refine (HBI.out _).mono ?_; rintro e w' ⟨rfl, rfl⟩)
            go_upto_region 10 with fail
            go_still_tail 8, (by kernel_rfl)
            change wpList _ _ _ _ _ wr.drew
            go_wp2
            have how := u64_set HOWN.out i ((tabTo f i (r + 1) : Nat) : Int)
            rw [tabSt_set f _ r i hlti] at how
            go_roundw
            case rel => exact ⟨i + 1, by omega, by go_num, by rw [HVAL.out]; exact own_below how (bl_drew (Below.refl _ _)) (Nat.le_refl _), bl_drew (bl_set hb (Nat.le_refl _) _)⟩
            case measure => simp [intOf]; omega
          | false =>
            rw [gb] at HBI
            have HNO : Hid (tabSt f m.outs.length r (i + 1) = tabSt f m.outs.length r i) := Lib.hid (by
              rw [← tabSt_set f _ r i hlti, tab_no f i r (by rw [← HFF.out]; exact gb)]
              apply List.ext_getElem (by simp)
              intro j h1 h2
              rw [List.getElem_set]
              split
              · rename_i e; subst e; rw [tabSt_get f _ r _ _ hlti, if_neg (by omega)]
              · rfl)
            clear hown gb k0 k1
            go_wp2_with (go_at_call 124; refine (HBI.out _).mono ?_; rintro e w' ⟨rfl, rfl⟩)
            go_roundw
            case rel => exact ⟨i + 1, by omega, by go_num, by rw [HNO.out]; exact HOWN.out, hb⟩
            case measure => simp [intOf]; omega
        · have hin : i = m.outs.length := by omega
          subst hin
          rw [tabSt_end] at hown
          have HOWN := Lib.hid hown
          clear hown
          go_wp2
          go_roundw
          case rel => exact ⟨r + 1, by omega, by go_num, HOWN.out, hb⟩
          case measure => simp [intOf]; omega
    · have hkn : r = R := by omega
      subst hkn
      rw [← HTI.out] at hown
      have HOWN := Lib.hid hown
      clear hown
      go_wp2
      go_ret
      exact ⟨_, rfl, HOWN.out, hb⟩
end Go.Proofs.YtmeefmoblkiebaaGreat
/- Contracts: functions of package slices over whole numbers and ports. -/
namespace Go.Proofs.YtmeefmoblkiebaaGreat
open Go.RowKit
set_option linter.unusedVariables false
set_option linter.unusedSimpArgs false
set_option maxHeartbeats 400000
set_option maxRecDepth 100000
theorem indexFuncPo_any {B : Nat} (K : Nat) (caps : Array Value) (a : Option Addr) (cap : Nat) (ps : List Po) (w : World) (hps : SlAt B w a (flat Po.cells ps)) (hok : PosOk ps) (hB : B ≤ w.heap.size) (hn : ps.length ≤ 10000000) 
   (eg : ∀ (args : Array Value) (w : World), (callFunc K args).run Tryz.prog w = .ok (.enter K args) w) (q : Po → Bool) (hf : ∀ (p : Po) (w1 : World), p.ok → Below w.heap.size w w1 → Calls Tryz.prog K (#[p.val] ++ caps) w1 fun e w' => e = .returned (.bool (q p)) ∧ Below w1.heap.size w1 w'):
    Calls Tryz.prog 176 #[.slice a ps.length cap, .func (.func K) #[] caps] w fun e w' => e = .returned (.int .i64 ((ps.findIdx? q).elim (-1) (fun n => (n : Int)))) ∧ Below w.heap.size w w' := by
  go_enter Tryz.func176, Tryz.ntmps176
  go_wp2
  go_loopw [8] (fun i wr => ∃ k : Nat, k ≤ ps.length ∧ i = .int .i64 k ∧ (ps.take k).findIdx? q = none ∧ Below w.heap.size w wr) (fun i _ => ps.length - (intOf i).toNat)
  case atStart => exact ⟨0, by omega, rfl, by simp, Below.refl _ _⟩
  case round =>
    obtain ⟨k, hk, rfl, hfi, hb⟩ := hrel
    have Hfi := Lib.hid hfi; clear hfi
    by_cases hlt : k < ps.length
    · obtain ⟨b, off, rfl, hbl, hat⟩ := pos_get (hps.below hb hB) hlt
      unfold PoAt at hat
      have Hf := Lib.hid hf; clear hf
      go_wp2_with (refine (Hf.out ps[k] _ (hok k hlt) hb).mono ?_; rintro e w' ⟨rfl, hb2⟩)
      · have h1 : q ps[k] = true := by assumption
        go_ret
        refine ⟨?_, (by repeat (first | with_reducible exact Below.refl _ _ | with_reducible assumption | with_reducible apply bl_drewN | with_reducible apply bl_drew | with_reducible apply bl_alloc | (with_reducible refine bl_set ?_ (by first | (simp; done) | (simp; omega)) _) | with_reducible refine bl_trans ?_ (by with_reducible assumption)))⟩
        have h2 : ps.findIdx? q = some k := by
          rw [List.findIdx?_eq_some_iff_getElem]
          refine ⟨hlt, h1, fun j hj => ?_⟩
          have h3 := Hfi.out
          rw [List.findIdx?_eq_none_iff] at h3
          have := h3 ps[j] (by rw [List.mem_take_iff_getElem]; exact ⟨j, by omega, rfl⟩)
          simpa using this
        rw [h2]; rfl
      · have h1 : q ps[k] = false := by assumption
        go_roundw
        case rel => exact ⟨k + 1, by omega, by go_num, by have := Hfi.out; rw [List.take_succ_eq_append_getElem hlt, List.findIdx?_append, this]; simp [h1], (by repeat (first | with_reducible exact Below.refl _ _ | with_reducible assumption | with_reducible apply bl_drewN | with_reducible apply bl_drew | with_reducible apply bl_alloc | (with_reducible refine bl_set ?_ (by first | (simp; done) | (simp; omega)) _) | with_reducible refine bl_trans ?_ (by with_reducible assumption)))⟩
        case measure => simp [intOf]; omega
    · go_wp2
      go_ret
      refine ⟨?_, (by repeat (first | with_reducible exact Below.refl _ _ | with_reducible assumption | with_reducible apply bl_drewN | with_reducible apply bl_drew | with_reducible apply bl_alloc | (with_reducible refine bl_set ?_ (by first | (simp; done) | (simp; omega)) _) | with_reducible refine bl_trans ?_ (by with_reducible assumption)))⟩
      have h2 := Hfi.out
      rw [List.take_of_length_le (by omega)] at h2
      rw [h2]; rfl
theorem containsFuncPo_any {B : Nat} (K : Nat) (caps : Array Value) (a : Option Addr) (cap : Nat) (ps : List Po) (w : World) (hps : SlAt B w a (flat Po.cells ps)) (hok : PosOk ps) (hB : B ≤ w.heap.size) (hn : ps.length ≤ 10000000)
   (eg : ∀ (args : Array Value) (w : World), (callFunc K args).run Tryz.prog w = .ok (.enter K args) w) (q : Po → Bool) (hf : ∀ (p : Po) (w1 : World), p.ok → Below w.heap.size w w1 → Calls Tryz.prog K (#[p.val] ++ caps) w1 fun e w' => e = .returned (.bool (q p)) ∧ Below w1.heap.size w1 w') :
    Calls Tryz.prog 135 #[.slice a ps.length cap, .func (.func K) #[] caps] w fun e w' => e = .returned (.bool (ps.any q)) ∧ Below w.heap.size w w' := by
  have H := Lib.hid (indexFuncPo_any K caps a cap ps w hps hok hB hn eg q hf)
  have HV := Lib.hid (show decide (0 ≤ (ps.findIdx? q).elim (-1 : Int) (fun n => (n : Int))) = ps.any q by
    cases hf : ps.findIdx? q with
    | none =>
      rw [List.findIdx?_eq_none_iff] at hf
      have : ps.any q = false := by rw [Bool.eq_false_iff]; intro h; rw [List.any_eq_true] at h; obtain ⟨x, hx, hq⟩ := h; rw [hf x hx] at hq; cases hq
      rw [this]; rfl
    | some k =>
      rw [List.findIdx?_eq_some_iff_getElem] at hf
      obtain ⟨h1, h2, -⟩ := hf
      have : ps.any q = true := by rw [List.any_eq_true]; exact ⟨_, List.getElem_mem h1, h2⟩
      rw [this]; simp)
  go_enter Tryz.func135, Tryz.ntmps135
  go_wp2_with fail
  refine H.out.mono ?_
  rintro e w1 ⟨rfl, hb⟩
  go_wp2
  go_ret
  exact ⟨by rw [← HV.out]; rfl, (by repeat (first | with_reducible exact Below.refl _ _ | with_reducible assumption | with_reducible apply bl_drewN | with_reducible apply bl_drew | with_reducible apply bl_alloc | (with_reducible refine bl_set ?_ (by first | (simp; done) | (simp; omega)) _) | with_reducible refine bl_trans ?_ (by with_reducible assumption)))⟩
end Go.Proofs.YtmeefmoblkiebaaGreat
/- Contracts: OutputsIn, TicksIn, MachineTables (both). -/
namespace Go.Proofs.YtmeefmoblkiebaaGreat
open Go.RowKit
set_option linter.unusedVariables false
set_option linter.unusedSimpArgs false
set_option maxHeartbeats 400000
set_option maxRecDepth 100000
def mCode (m : Mc) : Int := if vMc m = true then 0 else 1
noncomputable def mtList (m : Mc) : List Int := if vMc m = true then mTabI m else []
end Go.Proofs.YtmeefmoblkiebaaGreat
/- Contracts: TicksIn, MachineTables (both). -/
namespace Go.Proofs.YtmeefmoblkiebaaGreat
open Go.RowKit
set_option linter.unusedVariables false
set_option linter.unusedSimpArgs false
set_option maxHeartbeats 400000
set_option maxRecDepth 100000
theorem machineTables_any (m : Mc) (v : Value) (w : World) (h : MVc w v m) (hok : m.ok) (hn : m.bd.ps.length ≤ 10000000) (hn1 : m.ins.length ≤ 10000000) (hn2 : m.outs.length ≤ 10000000) :
    Calls Tryz.prog 82 #[v] w fun e w' => ∃ v, e = .returned (.tuple #[v, .int .i64 (mCode m)]) ∧ w'.ownsRow w.heap.size 134 1 v (mtList m).length (flat U64_cells (mtList m)) ∧ Below w.heap.size w w' := by
  have HVM := Lib.hid (fun w1 (hb : Below w.heap.size w w1) => validMachine_any m v w1 (h.step hb) hok hn hn1 hn2)
  obtain ⟨sa, scap, ia, icap, oa, ocap, rfl, hcap, hps, hins, houts⟩ := h
  have HM := Lib.hid (MP.new (m := m) (w := w) ⟨sa, scap, rfl, hps⟩ ⟨ia, icap, rfl, hins⟩ ⟨oa, ocap, rfl, houts⟩ 55)
  have HBA := Lib.hid (show Below w.heap.size w (w.alloc (.cells #[.int .i8 m.bd.wd, .int .i8 m.bd.hg, .slice sa m.bd.ps.length scap, .slice ia m.ins.length icap, .slice oa m.outs.length ocap] 55)) from bl_alloc (Below.refl _ _))
  rcases Bool.eq_false_or_eq_true (vMc m) with g1 | g1
  · have HC : Hid (mCode m = 0) := Lib.hid (by unfold mCode; rw [if_pos g1])
    have HL : Hid (mtList m = mTabI m) := Lib.hid (by unfold mtList; rw [if_pos g1])
    have HLN : Hid ((mTabI m).length = m.outs.length) := Lib.hid (mTabI_len m)
    rw [HC.out, HL.out, HLN.out]
    rw [g1] at HVM
    have HWK := Lib.hid (fun w1 (hb : Below (w.alloc (.cells #[.int .i8 m.bd.wd, .int .i8 m.bd.hg, .slice sa m.bd.ps.length scap, .slice ia m.ins.length icap, .slice oa m.outs.length ocap] 55)).heap.size (w.alloc (.cells #[.int .i8 m.bd.wd, .int .i8 m.bd.hg, .slice sa m.bd.ps.length scap, .slice ia m.ins.length icap, .slice oa m.outs.length ocap] 55)) w1) => worksOf_any w.heap.size m w1 (HM.out.step hb) g1 hok)
    have HTB := Lib.hid (fun w1 g (hw : WkAt w1 g w.heap.size m) => wtables_any g w.heap.size m w1 hw g1 hok)
    clear g1 HC HL HLN
    go_enter Tryz.func82, Tryz.ntmps82
    go_wp2_with fail
    refine (HVM.out _ HBA.out).mono ?_
    rintro e w1 ⟨rfl, hb1⟩
    have HB1 := Lib.hid (bl_trans HBA.out hb1)
    have HWC := Lib.hid (HWK.out w1 hb1)
    clear hb1
    go_wp2_with fail
    refine HWC.out.mono ?_
    rintro e w2 ⟨g, rfl, hg, hwk, hb2⟩
    have HB2 := Lib.hid (bl_trans HB1.out hb2)
    have HTC := Lib.hid (HTB.out w2 g hwk)
    clear hwk hb2
    go_wp2_with fail
    refine HTC.out.mono ?_
    rintro e w3 ⟨v2, rfl, hown, hb3⟩
    have hown2 := own_mono (base := w.heap.size) hown HB2.out.size
    go_wp2
    go_ret2
    exact ⟨_, rfl, hown2, bl_trans HB2.out hb3⟩
  · have HC : Hid (mCode m = 1) := Lib.hid (by unfold mCode; rw [if_neg (by simp [g1])])
    have HL : Hid (mtList m = []) := Lib.hid (by unfold mtList; rw [if_neg (by simp [g1])])
    rw [HC.out, HL.out]
    rw [g1] at HVM
    clear g1 HC HL
    go_enter Tryz.func82, Tryz.ntmps82
    go_wp2_with fail
    refine (HVM.out _ HBA.out).mono ?_
    rintro e w1 ⟨rfl, hb1⟩
    have hb01 := bl_trans HBA.out hb1
    go_wp2
    go_ret2
    exact ⟨_, rfl, World.ownsRow_nil _ _ _ _, hb01⟩
end Go.Proofs.YtmeefmoblkiebaaGreat
/- Rows that are made and written; the cells outside one block. -/
namespace Go.Proofs.YtmeefmoblkiebaaGreat
open Go.RowKit
set_option linter.unusedVariables false
set_option linter.unusedSimpArgs false
set_option maxHeartbeats 400000
set_option maxRecDepth 100000
/-- The cells outside one block are as they were. -/
def LpK (g : Nat) (a b : World) : Prop := a.heap.size ≤ b.heap.size ∧ ∀ p : Addr, p.block < a.heap.size → p.block ≠ g → b.cell? p = a.cell? p
theorem LpK.refl (g : Nat) (a : World) : LpK g a a := ⟨Nat.le_refl _, fun _ _ _ => rfl⟩
theorem LpK.grown {g : Nat} {a b c : World} {row : Option Nat} (h : LpK g a b) (k : b.grownBy c row) (hr : ∀ q, row = some q → q = g) : LpK g a c :=
  ⟨Nat.le_trans h.1 k.size, fun p hp hn => (k.cell_far p (Nat.lt_of_lt_of_le hp h.1) (fun e => hn (hr _ e.symm))).trans (h.2 p hp hn)⟩
theorem grown_set (w : World) (g j : Nat) (v : Value) : w.grownBy (w.setCell ⟨g, j, none⟩ v) (some g) :=
  ⟨rfl, rfl, rfl, by simp, fun k _ hk => heap_setCell_other w ⟨g, j, none⟩ k v (fun e => hk (by simp [e]))⟩
theorem LpK.set {g : Nat} {a b : World} (h : LpK g a b) (j : Nat) (v : Value) : LpK g a (b.setCell ⟨g, j, none⟩ v) := h.grown (grown_set b g j v) (fun q e => by cases e; rfl)
theorem LpK.below {g : Nat} {a b c : World} (h : LpK g a b) (k : Below b.heap.size b c) : LpK g a c :=
  ⟨Nat.le_trans h.1 k.size, fun p hp hn => (k.cell (p := p) (Nat.lt_of_lt_of_le hp h.1)).trans (h.2 p hp hn)⟩
end Go.Proofs.YtmeefmoblkiebaaGreat
/- Contracts: LoadedParts (the reference). -/
namespace Go.Proofs.YtmeefmoblkiebaaGreat
open Go.RowKit
set_option linter.unusedVariables false
set_option linter.unusedSimpArgs false
set_option maxHeartbeats 400000
set_option maxRecDepth 100000
end Go.Proofs.YtmeefmoblkiebaaGreat
/- Contracts: RowWith (both). -/
namespace Go.Proofs.YtmeefmoblkiebaaGreat
open Go.RowKit
set_option linter.unusedVariables false
set_option linter.unusedSimpArgs false
set_option maxHeartbeats 400000
set_option maxRecDepth 100000
end Go.Proofs.YtmeefmoblkiebaaGreat
/- Contracts: SlowestRow (both). -/
namespace Go.Proofs.YtmeefmoblkiebaaGreat
open Go.RowKit
set_option linter.unusedVariables false
set_option linter.unusedSimpArgs false
set_option maxHeartbeats 400000
set_option maxRecDepth 100000
end Go.Proofs.YtmeefmoblkiebaaGreat
/- Contracts: lateBy (program), one late input (both). -/
namespace Go.Proofs.YtmeefmoblkiebaaGreat
open Go.RowKit
set_option linter.unusedVariables false
set_option linter.unusedSimpArgs false
set_option maxHeartbeats 400000
set_option maxRecDepth 100000
end Go.Proofs.YtmeefmoblkiebaaGreat
/- The places at which something is so; lengths that differ. -/
namespace Go.Proofs.YtmeefmoblkiebaaGreat
open Go.RowKit
set_option linter.unusedVariables false
set_option linter.unusedSimpArgs false
set_option maxHeartbeats 400000
set_option maxRecDepth 100000
def hzTo (p : Nat → Bool) (k : Nat) : List Int := ((List.range k).filter p).map (fun (i : Nat) => (i : Int))
theorem hzTo_yes (p : Nat → Bool) (k : Nat) (h : p k = true) : hzTo p (k + 1) = hzTo p k ++ [(k : Int)] := by
  unfold hzTo
  rw [List.range_succ, List.filter_append, List.map_append]
  simp [h]
theorem hzTo_no (p : Nat → Bool) (k : Nat) (h : p k = false) : hzTo p (k + 1) = hzTo p k := by
  unfold hzTo
  rw [List.range_succ, List.filter_append, List.map_append]
  simp [h]
theorem hzTo_len (p : Nat → Bool) (k : Nat) : (hzTo p k).length ≤ k := by
  unfold hzTo
  rw [List.length_map]
  have := List.length_filter_le p (List.range k)
  simpa using this
theorem mTabs_len (m : Mc) : (mTabs m).length = m.outs.length := by simp [mTabs]
theorem neq_len {a b : Nat} (h : a ≠ b) : (((a : Int) != (b : Int)) = true) := by rw [bne_iff_ne]; omega
theorem eq_len {a b : Nat} (h : a = b) : (((a : Int) != (b : Int)) = false) := by rw [h]; simp
end Go.Proofs.YtmeefmoblkiebaaGreat
/- Contracts: HazardsIn (both). -/
namespace Go.Proofs.YtmeefmoblkiebaaGreat
open Go.RowKit
set_option linter.unusedVariables false
set_option linter.unusedSimpArgs false
set_option maxHeartbeats 400000
set_option maxRecDepth 100000
end Go.Proofs.YtmeefmoblkiebaaGreat
/- Contracts: HazardsIn (the program). -/
namespace Go.Proofs.YtmeefmoblkiebaaGreat
open Go.RowKit
set_option linter.unusedVariables false
set_option linter.unusedSimpArgs false
set_option maxHeartbeats 400000
set_option maxRecDepth 100000
end Go.Proofs.YtmeefmoblkiebaaGreat
/- Plain words and first contracts: FirstUnsteady, IsSteady. -/
namespace Go.Proofs.YtmeefmoblkiebaaGreat
open Go.RowKit
set_option linter.unusedVariables false
set_option linter.unusedSimpArgs false
set_option maxHeartbeats 400000
set_option maxRecDepth 100000
end Go.Proofs.YtmeefmoblkiebaaGreat
/- Contracts: FirstUnsteady (the reference). -/
namespace Go.Proofs.YtmeefmoblkiebaaGreat
open Go.RowKit
set_option linter.unusedVariables false
set_option linter.unusedSimpArgs false
set_option maxHeartbeats 400000
set_option maxRecDepth 100000
end Go.Proofs.YtmeefmoblkiebaaGreat
/- Contracts: FirstUnsteady (the program), IsSteady (both). -/
namespace Go.Proofs.YtmeefmoblkiebaaGreat
open Go.RowKit
set_option linter.unusedVariables false
set_option linter.unusedSimpArgs false
set_option maxHeartbeats 400000
set_option maxRecDepth 100000
end Go.Proofs.YtmeefmoblkiebaaGreat
