import Derived.Test.YtmeefmoblkiebaaGreatK7
import Derived.BigQuiet
import Derived.Deep.RegionHeld3
import Derived.Deep.CutRange
import Derived.Deep.CutBlock
/- Plain law of FnPruned: what a wide machine that is moved asks and gives. -/
namespace Go.Proofs.YtmeefmoblkiebaaGreat
open Go.RowKit
set_option linter.unusedVariables false
set_option linter.unusedSimpArgs false
set_option maxHeartbeats 400000
set_option maxRecDepth 100000
/-- The machine on a board of 20 by 20. -/
def wideM (m : Mc) : Mc := ⟨⟨20, 20, m.bd.ps⟩, m.ins, m.outs⟩
theorem wideM_mv (m : Mc) : mvM m 20 20 0 0 = wideM m := by
  have h1 : ∀ p : Pc, mvPc 0 0 p = p := fun p => by unfold mvPc; simp
  have h2 : ∀ p : Po, mvPo 0 0 p = p := fun p => by unfold mvPo; simp
  have h3 : ∀ p : Ce, mvC 0 0 p = p := fun p => by unfold mvC; simp
  have e1 : m.bd.ps.map (mvPc 0 0) = m.bd.ps := by rw [show mvPc 0 0 = id from funext h1, List.map_id]
  have e2 : m.ins.map (mvPo 0 0) = m.ins := by rw [show mvPo 0 0 = id from funext h2, List.map_id]
  have e3 : m.outs.map (mvC 0 0) = m.outs := by rw [show mvC 0 0 = id from funext h3, List.map_id]
  unfold mvM wideM
  rw [e1, e2, e3]
theorem in_board (m : Mc) (hv : vMc m = true) : (∀ i (hi : i < m.bd.ps.length), (0 ≤ m.bd.ps[i].x ∧ m.bd.ps[i].x ≤ m.bd.wd - 1) ∧ 0 ≤ m.bd.ps[i].y ∧ m.bd.ps[i].y ≤ m.bd.hg - 1) ∧ ∀ c : Ce, decide (0 ≤ fnd c m.bd.ps) = true → ((0 ≤ c.x ∧ c.x ≤ 23) ∧ 0 ≤ c.y ∧ c.y ≤ 23) ∧ 0 < m.bd.ps.length := by
  obtain ⟨hvb, -, -, -, -, -, h7, -, h9⟩ := vMc_parts m hv
  unfold vBd at hvb
  simp only [Bool.and_eq_true, decide_eq_true_eq, List.all_eq_true] at hvb
  obtain ⟨⟨⟨⟨c1, c2⟩, c3⟩, c4⟩, c5⟩ := hvb
  refine ⟨?_, ?_⟩
  · intro i hi
    have h2 := (c4 _ (List.getElem_mem hi)).2
    unfold cIn inB at h2
    simp only [Bool.and_eq_true, decide_eq_true_eq] at h2
    exact h2
  · intro c h
    rw [decide_eq_true_eq] at h
    have hlt := fnd_lt c m.bd.ps h
    have h1 : fnd c m.bd.ps = (((fnd c m.bd.ps).toNat : Nat) : Int) := by omega
    obtain ⟨hk, h2⟩ := (fnd_iff m.bd.ps c5 c _).1 h1
    have h3 := (c4 _ (List.getElem_mem hk)).1
    rw [← h2]
    unfold vPc inB at h3
    simp only [Bool.and_eq_true, decide_eq_true_eq] at h3
    exact ⟨h3.2, by omega⟩
theorem mvOk_wide (m : Mc) (hv : vMc m = true) (hok : m.ok) (e d : Int) (he : 0 ≤ e ∧ e ≤ 10) (hd : 0 ≤ d ∧ d ≤ 10) (hw : m.bd.wd ≤ 10 ∧ m.bd.hg ≤ 10) : MvOk (wideM m) e d := by
  have h0 : (0 : Int) ≤ 0 ∧ (0 : Int) ≤ 10 := by omega
  obtain ⟨hb1, hb2⟩ := in_board m hv
  obtain ⟨-, -, -, -, ho1, -, h7, -, h9⟩ := vMc_parts m hv
  refine ⟨he, hd, ?_, ?_, mvM_ok m hv hok e d he hd, vMc_mv m hv e d he hd hw, ?_, ?_, ?_, ?_⟩
  · rw [← wideM_mv]; exact mvM_ok m hv hok 0 0 h0 h0
  · rw [← wideM_mv]; exact vMc_mv m hv 0 0 h0 h0 hw
  · intro i hi
    have h1 := hb1 i hi
    have w1 := hw.1
    have w2 := hw.2
    show ((0 ≤ m.bd.ps[i].x ∧ m.bd.ps[i].x ≤ 23) ∧ 0 ≤ m.bd.ps[i].y ∧ m.bd.ps[i].y ≤ 23) ∧ m.bd.ps[i].x + e < 20 ∧ m.bd.ps[i].y + d < 20
    have h2 : (0 ≤ m.bd.ps[i].x ∧ m.bd.ps[i].x ≤ m.bd.wd - 1) ∧ 0 ≤ m.bd.ps[i].y ∧ m.bd.ps[i].y ≤ m.bd.hg - 1 := h1
    omega
  · intro i hi
    have h2 := List.all_eq_true.1 h7 _ (List.getElem_mem (l := m.ins) hi)
    unfold poOk at h2
    rw [Bool.and_eq_true] at h2
    exact (hb2 _ h2.2).1
  · intro i hi
    have h2 := List.all_eq_true.1 h9 _ (List.getElem_mem (l := m.outs) hi)
    unfold outOk at h2
    exact (hb2 _ h2).1
  · have hi : 0 < m.outs.length := by omega
    have h2 := List.all_eq_true.1 h9 _ (List.getElem_mem (l := m.outs) hi)
    unfold outOk at h2
    exact (hb2 _ h2).2
theorem da_moved (m : Mc) (hv : vMc m = true) (hok : m.ok) (e d : Int) (he : 0 ≤ e ∧ e ≤ 10) (hd : 0 ≤ d ∧ d ≤ 10) (hw : m.bd.wd ≤ 10 ∧ m.bd.hg ≤ 10) : daVal m (mvM (wideM m) 20 20 e d) = (0, 6) := by
  have h1 : mvM (wideM m) 20 20 e d = mvM m 20 20 e d := rfl
  rw [h1]
  refine da_same m _ hv (vMc_mv m hv e d he hd hw) ?_ ?_ (mTabs_mv m hv hok e d he hd hw)
  · show m.ins.length = (m.ins.map _).length
    rw [List.length_map]
  · show m.outs.length = (m.outs.map _).length
    rw [List.length_map]
/-- All that is asked of what is pruned. -/
theorem pr_all (m : Mc) (hv : vMc m = true) (hok : m.ok) : (prM m).bd.wd = m.bd.wd ∧ (prM m).bd.hg = m.bd.hg ∧ (∃ c : Nat, prC m = (c : Int) ∧ (prM m).bd.ps.length + c = m.bd.ps.length ∧ ((ulList m).length = 0 ↔ c = 0)) ∧ mCode m = 0 ∧ mCode (prM m) = 0 ∧ (prM m).ok ∧ vMc (prM m) = true ∧ ulList (prM m) = [] ∧ daVal m (prM m) = (0, 6) ∧ (prM m).ins.length = m.ins.length ∧ (prM m).outs.length = m.outs.length := by
  obtain ⟨h, -⟩ := prV m hv hok
  have e1 : prM m = (prVal m).m := by unfold prM; rw [if_pos hv]
  have e2 : prC m = ((prVal m).c : Int) := by unfold prC; rw [if_pos hv]
  rw [e1, e2]
  refine ⟨h.wd, h.hg, ⟨_, rfl, h.len, pr_zero m hv hok⟩, ?_, ?_, h.ok, h.v, pr_none m hv hok, ?_, by rw [h.ins], by rw [h.outs]⟩
  · unfold mCode; rw [if_pos hv]
  · unfold mCode; rw [if_pos h.v]
  · exact da_same m _ hv h.v (by rw [h.ins]) (by rw [h.outs]) h.t
theorem ownC_mvc {w : World} {base : Nat} {s si so : Value} {m : Mc} (h : OwnC w base s si so m) : MVc w (mcv m.bd.wd m.bd.hg s si so) m := by
  obtain ⟨h1, h2, h3⟩ := h
  obtain ⟨a, cap, rfl, h1, -⟩ := own_at h1
  obtain ⟨a2, cap2, rfl, h2, hc, -⟩ := own_at h2
  obtain ⟨a3, cap3, rfl, h3, -⟩ := own_at h3
  exact ⟨a, cap, a2, cap2, a3, cap3, rfl, hc, h1, h2, h3⟩
end Go.Proofs.YtmeefmoblkiebaaGreat
/- Contracts: equal machines (spec.SameMachine), where they are the same. -/
namespace Go.Proofs.YtmeefmoblkiebaaGreat
open Go.RowKit
set_option linter.unusedVariables false
set_option linter.unusedSimpArgs false
set_option maxHeartbeats 400000
set_option maxRecDepth 100000
theorem pc_fields : (Tryz.prog.fieldsOf 49).toList.map (fun f => (f.type, f.offset, decide (f.name ≠ "_"))) = [(47, 0, true), (24, 2, true), (24, 3, true), (24, 4, true)] := by kernel_rfl
theorem part_ce5 (x y k t d : Int) (w : World) : (part 47 #[.int .i8 x, .int .i8 y, .int .i8 k, .int .i8 t, .int .i8 d] 0).run Tryz.prog w = .ok (.agg #[.int .i8 x, .int .i8 y]) w := by
  obtain ⟨h, -⟩ := ceTy
  obtain ⟨i, hi⟩ := info_of_underlying h.hk
  have hc : Tryz.prog.cellsOf 47 = 2 := by kernel_rfl
  simp [part, isAgg, run_underlying h.hk, run_sizeOf w hi, hc]
theorem run_neq_pc_self (x y k t d : Int) (w : World) : (binOp .neq 49 (.agg #[.int .i8 x, .int .i8 y, .int .i8 k, .int .i8 t, .int .i8 d]) (.agg #[.int .i8 x, .int .i8 y, .int .i8 k, .int .i8 t, .int .i8 d])).run Tryz.prog w = .ok (.bool false) w := by
  have h := run_equalIn_agg (P := Tryz.prog) (w := w) 9999 49 #[.int .i8 x, .int .i8 y, .int .i8 k, .int .i8 t, .int .i8 d] #[.int .i8 x, .int .i8 y, .int .i8 k, .int .i8 t, .int .i8 d] (by kernel_rfl) (by kernel_rfl)
  have hF := pc_fields
  have e1 : (Op.equalIn 9999 47 (.agg #[.int .i8 x, .int .i8 y]) (.agg #[.int .i8 x, .int .i8 y])).run Tryz.prog w = .ok true w := by
    rw [equal_ce_at 9997 x y x y w]
    simp
  have e3 : ∀ a : Int, (Op.equalIn 9999 24 (.int .i8 a) (.int .i8 a)).run Tryz.prog w = .ok true w := fun a => by
    rw [run_equalIn_int w 9998 24 .i8 .i8 a a Tryz.underlying24]
    simp
  have q2 : Tryz.prog.plainKey 24 = true := by kernel_rfl
  have e4 : ∀ (xs : Array Value) (off : Nat) (v : Value), xs[off]? = some v → (part 24 xs off).run Tryz.prog w = .ok v w := fun xs off v hx => run_part_plain w q2 hx
  generalize (Tryz.prog.fieldsOf 49).toList = fl at h hF
  rw [List.map_eq_cons_iff] at hF
  obtain ⟨f1, fl1, rfl, h1, hF⟩ := hF
  rw [List.map_eq_cons_iff] at hF
  obtain ⟨f2, fl2, rfl, h2, hF⟩ := hF
  rw [List.map_eq_cons_iff] at hF
  obtain ⟨f3, fl3, rfl, h3, hF⟩ := hF
  rw [List.map_eq_cons_iff] at hF
  obtain ⟨f4, fl4, rfl, h4, hF⟩ := hF
  rw [List.map_eq_nil_iff] at hF
  subst hF
  simp only [Prod.mk.injEq, decide_eq_true_eq] at h1 h2 h3 h4
  obtain ⟨t1, o1, n1⟩ := h1
  obtain ⟨t2, o2, n2⟩ := h2
  obtain ⟨t3, o3, n3⟩ := h3
  obtain ⟨t4, o4, n4⟩ := h4
  have key : (Op.equal 49 (.agg #[.int .i8 x, .int .i8 y, .int .i8 k, .int .i8 t, .int .i8 d]) (.agg #[.int .i8 x, .int .i8 y, .int .i8 k, .int .i8 t, .int .i8 d])).run Tryz.prog w = .ok true w := by
    unfold Op.equal
    show (Op.equalIn (9999 + 1) 49 _ _).run Tryz.prog w = _
    rw [h]
    have r1 := part_ce5 x y k t d w
    have r2 : (part 24 #[.int .i8 x, .int .i8 y, .int .i8 k, .int .i8 t, .int .i8 d] 2).run Tryz.prog w = .ok (.int .i8 k) w := e4 _ _ _ rfl
    have r3 : (part 24 #[.int .i8 x, .int .i8 y, .int .i8 k, .int .i8 t, .int .i8 d] 3).run Tryz.prog w = .ok (.int .i8 t) w := e4 _ _ _ rfl
    have r4 : (part 24 #[.int .i8 x, .int .i8 y, .int .i8 k, .int .i8 t, .int .i8 d] 4).run Tryz.prog w = .ok (.int .i8 d) w := e4 _ _ _ rfl
    simp only [Op.eqFields, if_pos n1, if_pos n2, if_pos n3, if_pos n4, t1, t2, t3, t4, o1, o2, o3, o4, Sem.run_bind, r1, r2, r3, r4, Result.andThen_ok, e1, e3, Bool.not_true, Bool.false_eq_true, if_false]
    simp
  simp only [binOp]
  simp [key]
theorem l01Same_eq (b0 b1 : Nat) (l : Bd) (w : World) (h0 : BP w b0 l) (h1 : BP w b1 l) (hn : l.ps.length ≤ 10000000) :
    Calls Tryz.prog 90 #[.pointer (some ⟨b0, 0, none⟩), .pointer (some ⟨b1, 0, none⟩)] w fun e w' => e = .returned (.bool true) ∧ Below w.heap.size w w' := by
  have H0 := Lib.hid h0
  have H1 := Lib.hid h1
  obtain ⟨hl0, s0, hbd0, a0, cap0, rfl, hps0⟩ := h0
  obtain ⟨hl1, s1, hbd1, a1, cap1, rfl, hps1⟩ := h1
  unfold BdAt at hbd0 hbd1
  obtain ⟨c0, c1, c2⟩ := hbd0
  obtain ⟨d0, d1, d2⟩ := hbd1
  clear hps0 hps1
  go_enter Tryz.func90, Tryz.ntmps90
  go_wp2_with fail
  go_quiet (fail)
  generalize hW : World.drewN _ nq = W1
  have HB1 : Hid (Below w.heap.size w W1) := Lib.hid (by rw [← hW]; exact bl_drewN (Below.refl _ _))
  clear hW c0 c1 c2 d0 d1 d2
  go_wp2_with fail
  go_loopw [5] (fun i wr => ∃ k : Nat, k ≤ l.ps.length ∧ i = .int .i64 (k : Int) ∧ Below w.heap.size w wr) (fun i _ => l.ps.length - (intOf i).toNat)
  case atStart => exact ⟨0, by omega, rfl, HB1.out⟩
  case round =>
    clear HB1
    obtain ⟨k, hk, rfl, hb⟩ := hrel
    obtain ⟨W2, hW2⟩ : ∃ W2, W2 = wr := ⟨_, rfl⟩
    subst hW2
    obtain ⟨-, s0, hbd0, a0', cap0', he0, hps0⟩ := H0.out.step hb
    obtain ⟨-, s1, hbd1, a1', cap1', he1, hps1⟩ := H1.out.step hb
    subst he0
    subst he1
    unfold BdAt at hbd0 hbd1
    obtain ⟨c0, c1, c2⟩ := hbd0
    obtain ⟨d0, d1, d2⟩ := hbd1
    have HB := Lib.hid hb
    clear hb
    by_cases hlt : (k : Int) < (l.ps.length : Int)
    · have hlt' : k < l.ps.length := by omega
      obtain ⟨p0, q0, rfl, hp0, hat0⟩ := pcs_get hps0 hlt'
      obtain ⟨p1, q1, rfl, hp1, hat1⟩ := pcs_get hps1 hlt'
      unfold PcAt at hat0 hat1
      obtain ⟨x, hx⟩ : ∃ x, x = l.ps[k] := ⟨_, rfl⟩
      rw [← hx] at hat0 hat1
      have hrun := fun W' : World => run_neq_pc_self x.x x.y x.k x.t x.d W'
      clear hx hps0 hps1
      go_wp2_with fail
      go_quiet (fail)
      generalize hW : World.drewN _ nq = W3
      have HB3 : Hid (Below w.heap.size w W3) := Lib.hid (by rw [← hW]; exact bl_drewN HB.out)
      clear hW hrun hat0 hat1 c0 c1 c2 d0 d1 d2
      go_wp2_with fail
      go_roundw
      case rel => exact ⟨k + 1, by omega, by go_num, HB3.out⟩
      case measure => simp [intOf]; omega
    · clear hps0 hps1
      go_wp2
      go_ret
      exact ⟨rfl, HB.out⟩
set_option maxHeartbeats 1600000 in
theorem sameMachine_eq (m : Mc) (va vb : Value) (w : World) (ha : MV w va m) (hb : MV w vb m) (hn : m.bd.ps.length ≤ 10000000) (hn1 : m.ins.length ≤ 10000000) (hn2 : m.outs.length ≤ 10000000) :
    Calls Tryz.prog 37 #[va, vb] w fun e w' => e = .returned (.bool true) ∧ Below w.heap.size w w' := by
  obtain ⟨sa, ia, oa, rfl, hpa, ⟨iA, iC, rfl, hia⟩, ⟨oA, oC, rfl, hoa⟩⟩ := ha
  obtain ⟨sb, ib, ob, rfl, hpb, ⟨iA', iC', rfl, hib⟩, ⟨oA', oC', rfl, hob⟩⟩ := hb
  obtain ⟨sA, sC, rfl, hsa⟩ := hpa
  obtain ⟨sA', sC', rfl, hsb⟩ := hpb
  obtain ⟨W1, hW1⟩ : ∃ W1, W1 = w.alloc (.cells #[.int .i8 m.bd.wd, .int .i8 m.bd.hg, .slice sA m.bd.ps.length sC, .slice iA m.ins.length iC, .slice oA m.outs.length oC] 55) := ⟨_, rfl⟩
  obtain ⟨W2, hW2⟩ : ∃ W2, W2 = W1.alloc (.cells #[.int .i8 m.bd.wd, .int .i8 m.bd.hg, .slice sA' m.bd.ps.length sC', .slice iA' m.ins.length iC', .slice oA' m.outs.length oC'] 55) := ⟨_, rfl⟩
  have B01 : Below w.heap.size w W1 := by rw [hW1]; exact bl_alloc (Below.refl _ _)
  have B12 : Below W1.heap.size W1 W2 := by rw [hW2]; exact bl_alloc (Below.refl _ _)
  have X1 : BX5 W1 w.heap.size (.int .i8 m.bd.wd) (.int .i8 m.bd.hg) (.slice sA m.bd.ps.length sC) (.slice iA m.ins.length iC) (.slice oA m.outs.length oC) := by rw [hW1]; exact BX5.new _ _ _ _ _ _ _
  have Y2 : BX5 W2 W1.heap.size (.int .i8 m.bd.wd) (.int .i8 m.bd.hg) (.slice sA' m.bd.ps.length sC') (.slice iA' m.ins.length iC') (.slice oA' m.outs.length oC') := by rw [hW2]; exact BX5.new _ _ _ _ _ _ _
  have X2 := X1.step B12
  have B02 := bl_trans B01 B12
  obtain ⟨ba, hba⟩ : ∃ ba, ba = w.heap.size := ⟨_, rfl⟩
  obtain ⟨bb, hbb⟩ : ∃ bb, bb = W1.heap.size := ⟨_, rfl⟩
  have hbb2 : W1.heap.size = w.heap.size + 1 := by rw [hW1]; simp
  rw [← hba] at X2
  rw [← hbb] at Y2
  have HX := Lib.hid X2
  have HY := Lib.hid Y2
  have HPA : Hid (PcsAt W2.heap.size W2 sA m.bd.ps ∧ SlAt W2.heap.size W2 iA (flat Po.cells m.ins) ∧ SlAt W2.heap.size W2 oA (flat Ce.cells m.outs)) := Lib.hid ⟨(hsa.below B02 (Nat.le_refl _)).mono B02.size, (hia.below B02 (Nat.le_refl _)).mono B02.size, (hoa.below B02 (Nat.le_refl _)).mono B02.size⟩
  have HPB : Hid (PcsAt W2.heap.size W2 sA' m.bd.ps ∧ SlAt W2.heap.size W2 iA' (flat Po.cells m.ins) ∧ SlAt W2.heap.size W2 oA' (flat Ce.cells m.outs)) := Lib.hid ⟨(hsb.below B02 (Nat.le_refl _)).mono B02.size, (hib.below B02 (Nat.le_refl _)).mono B02.size, (hob.below B02 (Nat.le_refl _)).mono B02.size⟩
  have HB02 := Lib.hid B02
  have HBA : BP W2 ba m.bd := ⟨X2.1, _, ⟨X2.2.1, X2.2.2.1, X2.2.2.2.1⟩, ⟨sA, sC, rfl, HPA.out.1⟩⟩
  have HBB : BP W2 bb m.bd := ⟨Y2.1, _, ⟨Y2.2.1, Y2.2.2.1, Y2.2.2.2.1⟩, ⟨sA', sC', rfl, HPB.out.1⟩⟩
  have HS := Lib.hid (l01Same_eq ba bb m.bd W2 HBA HBB hn)
  clear hsa hia hoa hsb hib hob X1 X2 Y2 B01 B12 B02 HBA HBB
  go_enter Tryz.func37, Tryz.ntmps37
  go_upto_region 1 with fail
  rw [← hW1, ← hW2, ← hbb2, ← hbb, ← hba]
  clear hW1 hW2 hba hbb hbb2
  go_wp2_with fail
  refine HS.out.mono ?_
  rintro e W3 ⟨rfl, hb3⟩
  have HX3 := Lib.hid (HX.out.step hb3)
  have HY3 := Lib.hid (HY.out.step hb3)
  have HB3 := Lib.hid (bl_trans HB02.out hb3)
  have HA3 : Hid (SlAt W3.heap.size W3 iA (flat Po.cells m.ins) ∧ SlAt W3.heap.size W3 oA (flat Ce.cells m.outs)) := Lib.hid ⟨(HPA.out.2.1.below hb3 (Nat.le_refl _)).mono hb3.size, (HPA.out.2.2.below hb3 (Nat.le_refl _)).mono hb3.size⟩
  have HC3 : Hid (SlAt W3.heap.size W3 iA' (flat Po.cells m.ins) ∧ SlAt W3.heap.size W3 oA' (flat Ce.cells m.outs)) := Lib.hid ⟨(HPB.out.2.1.below hb3 (Nat.le_refl _)).mono hb3.size, (HPB.out.2.2.below hb3 (Nat.le_refl _)).mono hb3.size⟩
  clear hb3 HX HY HPA HPB HB02 HS
  obtain ⟨-, x1, x2, x3, x4, x5⟩ := HX3.out
  obtain ⟨-, y1, y2, y3, y4, y5⟩ := HY3.out
  go_wp2_with fail
  clear x1 x2 x3 x4 x5 y1 y2 y3 y4 y5
  go_loopw [5] (fun i wr => ∃ k : Nat, k ≤ m.ins.length ∧ i = .int .i64 (k : Int) ∧ Below W3.heap.size W3 wr) (fun i _ => m.ins.length - (intOf i).toNat)
  case atStart => exact ⟨0, by omega, rfl, Below.refl _ _⟩
  case round =>
    obtain ⟨k, hk, rfl, hb⟩ := hrel
    obtain ⟨W4, hW4⟩ : ∃ W4, W4 = wr := ⟨_, rfl⟩
    subst hW4
    obtain ⟨-, x1, x2, x3, x4, x5⟩ := HX3.out.step hb
    obtain ⟨-, y1, y2, y3, y4, y5⟩ := HY3.out.step hb
    have hia := HA3.out.1.below hb (Nat.le_refl _)
    have hib := HC3.out.1.below hb (Nat.le_refl _)
    have HB := Lib.hid hb
    clear hb
    by_cases hlt : (k : Int) < (m.ins.length : Int)
    · have hlt' : k < m.ins.length := by omega
      obtain ⟨p0, q0, rfl, hp0, hat0⟩ := pos_get hia hlt'
      obtain ⟨p1, q1, rfl, hp1, hat1⟩ := pos_get hib hlt'
      unfold PoAt at hat0 hat1
      obtain ⟨x, hx⟩ : ∃ x, x = m.ins[k] := ⟨_, rfl⟩
      rw [← hx] at hat0 hat1
      have hrun : ∀ W' : World, (binOp .neq 127 (.agg #[.int .i8 x.x, .int .i8 x.y, .int .i8 x.s]) (.agg #[.int .i8 x.x, .int .i8 x.y, .int .i8 x.s])).run Tryz.prog W' = .ok (.bool false) W' := fun W' => by have := run_neq_po x x W'; simpa using this
      clear hx hia hib
      go_wp2_with fail
      go_quiet (fail)
      generalize hW : World.drewN _ nq = W5
      have HB5 : Hid (Below W3.heap.size W3 W5) := Lib.hid (by rw [← hW]; exact bl_drewN HB.out)
      clear hW hrun hat0 hat1 x1 x2 x3 x4 x5 y1 y2 y3 y4 y5
      go_wp2_with fail
      go_roundw
      case rel => exact ⟨k + 1, by omega, by go_num, HB5.out⟩
      case measure => simp [intOf]; omega
    · clear hia hib
      go_wp2_with fail
      clear x1 x2 x3 x4 x5 y1 y2 y3 y4 y5
      go_loopw [6] (fun i wr => ∃ k : Nat, k ≤ m.outs.length ∧ i = .int .i64 (k : Int) ∧ Below W3.heap.size W3 wr) (fun i _ => m.outs.length - (intOf i).toNat)
      case atStart => exact ⟨0, by omega, rfl, HB.out⟩
      case round =>
        clear HB
        obtain ⟨j, hj, rfl, hb⟩ := hrel
        obtain ⟨W6, hW6⟩ : ∃ W6, W6 = wr := ⟨_, rfl⟩
        subst hW6
        obtain ⟨-, x1, x2, x3, x4, x5⟩ := HX3.out.step hb
        obtain ⟨-, y1, y2, y3, y4, y5⟩ := HY3.out.step hb
        have hoa := HA3.out.2.below hb (Nat.le_refl _)
        have hob := HC3.out.2.below hb (Nat.le_refl _)
        have HB := Lib.hid hb
        clear hb
        by_cases hlt2 : (j : Int) < (m.outs.length : Int)
        · have hlt' : j < m.outs.length := by omega
          obtain ⟨p0, q0, rfl, hp0, hat0⟩ := ces_get hoa hlt'
          obtain ⟨p1, q1, rfl, hp1, hat1⟩ := ces_get hob hlt'
          unfold CeAt at hat0 hat1
          obtain ⟨x, hx⟩ : ∃ x, x = m.outs[j] := ⟨_, rfl⟩
          rw [← hx] at hat0 hat1
          have hrun : ∀ W' : World, (binOp .neq 47 (.agg #[.int .i8 x.x, .int .i8 x.y]) (.agg #[.int .i8 x.x, .int .i8 x.y])).run Tryz.prog W' = .ok (.bool false) W' := fun W' => by have := run_neq_ce x.x x.y x.x x.y W'; simpa using this
          clear hx hoa hob
          go_wp2_with fail
          go_quiet (fail)
          generalize hW : World.drewN _ nq = W7
          have HB7 : Hid (Below W3.heap.size W3 W7) := Lib.hid (by rw [← hW]; exact bl_drewN HB.out)
          clear hW hrun hat0 hat1 x1 x2 x3 x4 x5 y1 y2 y3 y4 y5
          go_wp2_with fail
          go_roundw
          case rel => exact ⟨j + 1, by omega, by go_num, HB7.out⟩
          case measure => simp [intOf]; omega
        · clear hoa hob
          go_wp2
          go_ret
          exact ⟨rfl, bl_trans HB3.out HB.out⟩
end Go.Proofs.YtmeefmoblkiebaaGreat
/- Contracts: equal lists of numbers, a number in a list (the laws' helpers). -/
namespace Go.Proofs.YtmeefmoblkiebaaGreat
open Go.RowKit
set_option linter.unusedVariables false
set_option linter.unusedSimpArgs false
set_option maxHeartbeats 400000
set_option maxRecDepth 100000
theorem l00Same_any {B : Nat} (a a' : Option Addr) (cap cap' : Nat) (ps qs : List Int) (w : World) (hps : SlAt B w a (flat N64_cells ps)) (hqs : SlAt B w a' (flat N64_cells qs)) (hB : B ≤ w.heap.size) (hn : ps.length ≤ 10000000) (hn' : qs.length ≤ 10000000) :
    Calls Tryz.prog 60 #[.slice a ps.length cap, .slice a' qs.length cap'] w fun e w' => e = .returned (.bool (decide (ps = qs))) ∧ Below w.heap.size w w' := by
  by_cases hl : ps.length = qs.length
  · have hl2 : ((ps.length : Int) != (qs.length : Int)) = false := by simp [hl]
    have Hl := Lib.hid hl; clear hl
    go_enter Tryz.func60, Tryz.ntmps60
    go_wp2
    go_loopw [5] (fun i wr => ∃ k : Nat, k ≤ ps.length ∧ i = .int .i64 k ∧ ps.take k = qs.take k ∧ Below w.heap.size w wr) (fun i _ => ps.length - (intOf i).toNat)
    case atStart => exact ⟨0, by omega, rfl, by simp, Below.refl _ _⟩
    case round =>
      obtain ⟨k, hk, rfl, heq, hb⟩ := hrel
      have Heq := Lib.hid heq; clear heq
      by_cases hlt : k < ps.length
      · have hlt' : k < qs.length := by rw [← Hl.out]; exact hlt
        obtain ⟨b, off, rfl, hbl, hat⟩ := n64s_get (hps.below hb hB) hlt
        obtain ⟨b', off', rfl, hbl', hat'⟩ := n64s_get (hqs.below hb hB) hlt'
        unfold N64At at hat hat'
        rw [Nat.mul_one] at hat hat'
        cases g3 : (ps[k] != qs[k]) with
        | false =>
          have G2 : Hid (ps[k] = qs[k]) := Lib.hid (by simpa using g3)
          go_wp2_with fail
          go_quiet (fail)
          go_wp2
          go_roundw
          case rel => exact ⟨k + 1, by omega, by go_num, by rw [List.take_succ_eq_append_getElem hlt, List.take_succ_eq_append_getElem hlt', Heq.out, G2.out], (by repeat (first | with_reducible exact Below.refl _ _ | with_reducible assumption | with_reducible apply bl_drewN | with_reducible apply bl_drew | with_reducible apply bl_alloc | (with_reducible refine bl_set ?_ (by first | (simp; done) | (simp; omega)) _) | with_reducible refine bl_trans ?_ (by with_reducible assumption)))⟩
          case measure => simp [intOf]; omega
        | true =>
          have G2 : Hid (ps ≠ qs) := Lib.hid (by
            intro h
            subst h
            simp at g3)
          go_wp2_with fail
          go_quiet (fail)
          go_wp2
          go_ret
          have hne := G2.out
          exact ⟨by simp [hne], (by repeat (first | with_reducible exact Below.refl _ _ | with_reducible assumption | with_reducible apply bl_drewN | with_reducible apply bl_drew | with_reducible apply bl_alloc | (with_reducible refine bl_set ?_ (by first | (simp; done) | (simp; omega)) _) | with_reducible refine bl_trans ?_ (by with_reducible assumption)))⟩
      · go_wp2
        go_ret
        have hne : ps = qs := by
          have := Heq.out
          rwa [List.take_of_length_le (by omega), List.take_of_length_le (by have := Hl.out; omega)] at this
        exact ⟨by simp [hne], (by repeat (first | with_reducible exact Below.refl _ _ | with_reducible assumption | with_reducible apply bl_drewN | with_reducible apply bl_drew | with_reducible apply bl_alloc | (with_reducible refine bl_set ?_ (by first | (simp; done) | (simp; omega)) _) | with_reducible refine bl_trans ?_ (by with_reducible assumption)))⟩
  · have hl2 : ((ps.length : Int) != (qs.length : Int)) = true := by simp; omega
    have Hl := Lib.hid hl; clear hl
    go_enter Tryz.func60, Tryz.ntmps60
    go_wp2
    go_ret
    have hne : ps ≠ qs := fun h => Hl.out (by rw [h])
    exact ⟨by simp [hne], (by repeat (first | with_reducible exact Below.refl _ _ | with_reducible assumption | with_reducible apply bl_drewN | with_reducible apply bl_drew | with_reducible apply bl_alloc | (with_reducible refine bl_set ?_ (by first | (simp; done) | (simp; omega)) _) | with_reducible refine bl_trans ?_ (by with_reducible assumption)))⟩
end Go.Proofs.YtmeefmoblkiebaaGreat
/- Contracts: the machine and the numbers of the laws. -/
namespace Go.Proofs.YtmeefmoblkiebaaGreat
open Go.RowKit
set_option linter.unusedVariables false
set_option linter.unusedSimpArgs false
set_option maxHeartbeats 400000
set_option maxRecDepth 100000
theorem p6Machine_any (a : Option Addr) (cap : Nat) (code : List Int) (w : World) (h : SlAt w.heap.size w a (flat U8c code)) (hc : BytesOk code) :
    Calls Tryz.prog 23 #[.slice a code.length cap] w fun e w' => ∃ (wd hg : Int) (vP vI vO : Value), e = .returned (mcv wd hg vP vI vO) ∧ ∃ (ps : List Pc) (is : List Po) (os : List Ce), vMc ⟨⟨wd, hg, ps⟩, is, os⟩ = true ∧ (Mc.mk ⟨wd, hg, ps⟩ is os).ok ∧ (is.length ≤ 3 ∧ wd ≤ 5 ∧ hg ≤ 2) ∧ OwnM w' w.heap.size vP vI vO ⟨⟨wd, hg, ps⟩, is, os⟩ ∧ Below w.heap.size w w' := by
  obtain ⟨W, hW⟩ : ∃ W, W = w.alloc (.cells #[.int .i8 0, .int .i8 0, .slice none 0 0, .slice none 0 0, .slice none 0 0] 55) := ⟨_, rfl⟩
  have hWs : w.heap.size < W.heap.size := by rw [hW]; simp
  have hWb : Below w.heap.size w W := by rw [hW]; exact bl_alloc (Below.refl _ _)
  have hWq : W.heap[w.heap.size]? = some (.cells #[.int .i8 0, .int .i8 0, .slice none 0 0, .slice none 0 0, .slice none 0 0] 55 (0, 0)) := by rw [hW]; exact heap_alloc_new _ _
  have HF := Lib.hid (l00From_any a cap code W ((h.below hWb (Nat.le_refl _)).mono (Nat.le_of_lt hWs)))
  have HWb := Lib.hid hWb
  have HWq := Lib.hid hWq
  clear hWb hWq
  go_enter Tryz.func23, Tryz.ntmps23
  go_wp2_with fail
  rw [← hW]
  clear hW
  refine HF.out.mono ?_
  rintro e w1 ⟨rfl, hs1, hb1⟩
  have HD := Lib.hid (l03Drawn_any W.heap.size code 0 w1 hs1 hc (by omega))
  have HB1 := Lib.hid hb1
  clear hs1 hb1
  go_wp2_with fail
  refine HD.out.mono ?_
  rintro e w2 ⟨wd, hg, vP, vI, vO, rfl, ps, is, os, hv, hok, hln, hown, -, hg2⟩
  obtain ⟨aP, cP, rfl, -⟩ := own_at hown.1
  obtain ⟨aI, cI, rfl, -⟩ := own_at hown.2.1
  obtain ⟨aO, cO, rfl, -⟩ := own_at hown.2.2.1
  have hz1 := HB1.out.size
  have hq1 : w1.heap[w.heap.size]? = _ := (HB1.out.block w.heap.size hWs).trans HWq.out
  have hq2 := blk_kept hq1 hg2 (by simp; omega)
  obtain ⟨d0, d1, d2, d3, d4, g0, g1, g2, g3, g4⟩ := five_cells hq2
  have hb2 := below_of_grown (HWb.out.trans (HB1.out.mono (Nat.le_of_lt hWs))) hg2 (Nat.le_of_lt hWs)
  have HOWN := Lib.hid hown
  clear hq1 hown
  go_wp2_with fail
  have hh := five_set hq2 (.int .i8 wd) (.int .i8 hg) (.slice aP ps.length cP) (.slice aI is.length cI) (.slice aO os.length cO)
  refine bodyPost_ret (v := mcv wd hg (.slice aP ps.length cP) (.slice aI is.length cI) (.slice aO os.length cO)) (results_cell_row Tryz.results23 _ _ w.heap.size 55 _ (0, 0) _ rfl hh Tryz.underlying55 rfl (by kernel_rfl)) rfl ⟨wd, hg, .slice aP ps.length cP, .slice aI is.length cI, .slice aO os.length cO, rfl, ps, is, os, hv, hok, hln, ?_, (by repeat (first | with_reducible exact Below.refl _ _ | with_reducible assumption | with_reducible apply bl_drewN | with_reducible apply bl_drew | with_reducible apply bl_alloc | (with_reducible refine bl_set ?_ (by first | (simp; done) | (simp; omega)) _) | with_reducible refine bl_trans ?_ (by with_reducible assumption)))⟩
  have hwb : w.heap.size < w1.heap.size := by omega
  have kp : ∀ (Y : World) (o : Nat) (u : Value), OwnM Y w1.heap.size (.slice aP ps.length cP) (.slice aI is.length cI) (.slice aO os.length cO) ⟨⟨wd, hg, ps⟩, is, os⟩ → OwnM (Y.setCell ⟨w.heap.size, o, none⟩ u) w1.heap.size (.slice aP ps.length cP) (.slice aI is.length cI) (.slice aO os.length cO) ⟨⟨wd, hg, ps⟩, is, os⟩ := fun Y o u hY => hY.kept (grown_set1 Y w.heap.size o u) (fun g e => by cases e; exact .inl hwb)
  have h10 := kp _ 4 (.slice aO os.length cO) (kp _ 3 (.slice aI is.length cI) (kp _ 2 (.slice aP ps.length cP) (kp _ 1 (.int .i8 hg) (kp _ 0 (.int .i8 wd) HOWN.out))))
  exact ⟨own_mono h10.1 (by omega), own_mono h10.2.1 (by omega), own_mono h10.2.2.1 (by omega), h10.2.2.2⟩
theorem f6big_any (a : Option Addr) (n cap : Nat) (w : World) :
    Calls Tryz.prog 22 #[.slice a n cap] w fun e w' => e = .returned (.bool (decide (4096 < n))) ∧ w = w' := by
  rcases dec_cases ((n : Int) > 4096) with ⟨g1, g2⟩ | ⟨g1, g2⟩
  · have h1 : decide (4096 < n) = true := by simp; omega
    go_enter Tryz.func22, Tryz.ntmps22
    go_wp2
    go_ret
    exact ⟨by first | (rw [h1]; rfl) | rfl, rfl⟩
  · have h1 : decide (4096 < n) = false := by simp; omega
    go_enter Tryz.func22, Tryz.ntmps22
    go_wp2
    go_ret
    exact ⟨by first | (rw [h1]; rfl) | rfl, rfl⟩
theorem sameList_any (v v' : Value) (ps qs : List Int) (w : World) (h : ∃ a cap, v = .slice a ps.length cap ∧ SlAt w.heap.size w a (flat N64_cells ps)) (h' : ∃ a cap, v' = .slice a qs.length cap ∧ SlAt w.heap.size w a (flat N64_cells qs)) (hn : ps.length ≤ 10000000) (hn' : qs.length ≤ 10000000) :
    Calls Tryz.prog 28 #[v, v'] w fun e w' => e = .returned (.bool (decide (ps = qs))) ∧ Below w.heap.size w w' := by
  obtain ⟨a, cap, rfl, hs⟩ := h
  obtain ⟨a', cap', rfl, hs'⟩ := h'
  go_enter Tryz.func28, Tryz.ntmps28
  go_wp2_with fail
  refine (l00Same_any a a' cap cap' ps qs w hs hs' (Nat.le_refl _) hn hn').mono ?_
  rintro e w1 ⟨rfl, hb⟩
  go_wp2
  go_ret
  exact ⟨rfl, hb⟩
end Go.Proofs.YtmeefmoblkiebaaGreat
/- Contracts: what a source of choices says first (it hangs on the bytes alone). -/
namespace Go.Proofs.YtmeefmoblkiebaaGreat
open Go.RowKit
set_option linter.unusedVariables false
set_option linter.unusedSimpArgs false
set_option maxHeartbeats 400000
set_option maxRecDepth 100000
def nxE (seed : Int) : Int := wrap64 (bits .and .u64 (IntKind.u64.wrap (IntKind.u64.wrap (IntKind.u64.wrap (seed * 6364136223846793005)) + 1442695040888963407) / 1099511627776) 255)
def nxV (code : List Int) (n : Nat) (seed : Int) : Int := if h : n < code.length then code[n] else nxE seed
theorem srcNextF_any (p : Nat) (code : List Int) (w : World) (a : Option Addr) (cap n : Nat) (seed : Int) (hh : w.heap[p]? = some (.cells #[.slice a code.length cap, .int .i64 (n : Int), .int .u64 seed] 136 (0, 0))) (hsl : SlAt p w a (flat U8c code)) (hc : BytesOk code) (hk : n ≤ 1000000) :
    Calls Tryz.prog 118 #[.pointer (some ⟨p, 0, none⟩)] w fun e w' => e = .returned (.int .i64 (nxV code n seed)) ∧ 0 ≤ nxV code n seed ∧ nxV code n seed ≤ 255 ∧ w.grownBy w' (some p) := by
  have hle : n ≤ n := Nat.le_refl _
  have hlt := lt_of_block hh
  have FACTS := Lib.hid (src_facts (code := code) (k := n) hh hsl hle)
  obtain ⟨c0, c1, c2, hf⟩ := three_cells hh
  have hw : IntKind.i64.wrap ((n : Int) + 1) = (n : Int) + 1 := wrap_i64' _ (by omega) (by omega)
  have hcl := hc.1
  rcases dec_cases ((n : Int) < (code.length : Int)) with ⟨g1, g2⟩ | ⟨g1, g2⟩
  · have hn : n < code.length := by omega
    obtain ⟨b, off, rfl, hbp, hget⟩ := hsl.get U8c_len (by omega) hn
    have hget0 := hget 0 _ rfl
    rw [Nat.mul_one, Nat.add_zero] at hget0
    obtain ⟨b0, b1⟩ := hc.2 n hn
    obtain ⟨v, hv⟩ : ∃ v, v = code[n] := ⟨_, rfl⟩
    have HN : Hid (nxV code n seed = v) := Lib.hid (by unfold nxV; rw [dif_pos hn, hv])
    rw [← hv] at hget0 b0 b1
    have hwv : IntKind.i64.wrap v = v := wrap_i64' _ (by omega) (by omega)
    have g3 : decide ((n : Int) + 1 ≤ (code.length : Int)) = true := by simp; omega
    clear hget hsl hle hv hh
    go_enter Tryz.func118, Tryz.ntmps118
    go_wp2_with fail
    go_quiet (fail)
    go_wp2_with fail
    go_quiet (fail)
    generalize hW : World.drewN _ nq = W
    obtain ⟨hgW, ⟨p0, p1, p2, pf⟩, ⟨d0, d1, d2, hf1⟩, e0, e1, e2, -, key⟩ := FACTS.out W (by rw [← hW]; exact ⟨rfl, rfl, rfl, Nat.le_refl _, fun _ _ _ => rfl⟩)
    clear c0 c1 c2 hf hget0 hW
    go_wp2
    go_quiet (fail)
    go_wp2
    go_ret
    obtain ⟨K1, K2⟩ := key (IntKind.u64.wrap (IntKind.u64.wrap (IntKind.u64.wrap (seed * 6364136223846793005) + v) + 1442695040888963407))
    rw [HN.out]
    exact ⟨rfl, b0, b1, grown_trans K2 ⟨rfl, rfl, rfl, Nat.le_refl _, fun _ _ _ => rfl⟩⟩
  · have g3 : decide ((n : Int) + 1 ≤ (code.length : Int)) = false := by simp; omega
    have HN : Hid (nxV code n seed = nxE seed) := Lib.hid (by unfold nxV; rw [dif_neg (by omega)])
    clear hsl hle hh
    go_enter Tryz.func118, Tryz.ntmps118
    go_wp2_with fail
    go_quiet (fail)
    generalize hW : World.drewN _ nq = W
    obtain ⟨hgW, ⟨p0, p1, p2, pf⟩, ⟨d0, d1, d2, hf1⟩, e0, e1, e2, -, key⟩ := FACTS.out W (by rw [← hW]; exact ⟨rfl, rfl, rfl, Nat.le_refl _, fun _ _ _ => rfl⟩)
    clear c0 c1 c2 hf hW
    go_wp2
    go_quiet (fail)
    go_wp2
    go_ret
    obtain ⟨K1, K2⟩ := key (IntKind.u64.wrap (IntKind.u64.wrap (IntKind.u64.wrap (seed * 6364136223846793005)) + 1442695040888963407))
    have h255 := and255 (IntKind.u64.wrap (IntKind.u64.wrap (IntKind.u64.wrap (seed * 6364136223846793005)) + 1442695040888963407) / 1099511627776)
    have e255 : wrap64 (bits .and .u64 (IntKind.u64.wrap (IntKind.u64.wrap (IntKind.u64.wrap (seed * 6364136223846793005)) + 1442695040888963407) / 1099511627776) 255) = bits .and .u64 (IntKind.u64.wrap (IntKind.u64.wrap (IntKind.u64.wrap (seed * 6364136223846793005)) + 1442695040888963407) / 1099511627776) 255 := wrap_i8' (by omega) (by omega)
    rw [HN.out]
    refine ⟨rfl, ?_, ?_, grown_trans K2 ⟨rfl, rfl, rfl, Nat.le_refl _, fun _ _ _ => rfl⟩⟩
    · unfold nxE; rw [e255]; exact h255.1
    · unfold nxE; rw [e255]; exact h255.2
/-- What P6Pick says of n between 2 and 200. -/
def pkV (code : List Int) (n : Int) : Int := nxV code 0 0 % n
theorem pickF_any (p : Nat) (code : List Int) (w : World) (a : Option Addr) (cap : Nat) (hh : w.heap[p]? = some (.cells #[.slice a code.length cap, .int .i64 0, .int .u64 0] 136 (0, 0))) (hsl : SlAt p w a (flat U8c code)) (hc : BytesOk code) (n : Int) (hn : 2 ≤ n ∧ n ≤ 200) :
    Calls Tryz.prog 67 #[.pointer (some ⟨p, 0, none⟩), .int .i64 n] w fun e w' => e = .returned (.int .i64 (pkV code n)) ∧ w.grownBy w' (some p) := by
  rcases dec_cases (n ≤ 1) with ⟨g1, g2⟩ | ⟨g1, g2⟩
  · omega
  · rcases dec_cases (n > 200) with ⟨g3, g4⟩ | ⟨g3, g4⟩
    · omega
    · have HN := Lib.hid (srcNextF_any p code w a cap 0 0 hh hsl hc (by omega))
      go_enter Tryz.func67, Tryz.ntmps67
      go_wp2_with fail
      refine HN.out.mono ?_
      rintro e w1 ⟨rfl, x0, x1, hg1⟩
      obtain ⟨x, hx⟩ : ∃ x, x = nxV code 0 0 := ⟨_, rfl⟩
      have HP : Hid (pkV code n = x % n) := Lib.hid (by rw [hx]; rfl)
      rw [← hx] at x0 x1 ⊢
      clear hx
      go_wp2
      go_ret
      exact ⟨by rw [HP.out]; rfl, hg1⟩
theorem p6PickF_any (a : Option Addr) (cap : Nat) (code : List Int) (n : Int) (hn : 2 ≤ n ∧ n ≤ 200) (w : World) (h : SlAt w.heap.size w a (flat U8c code)) (hc : BytesOk code) :
    Calls Tryz.prog 24 #[.slice a code.length cap, .int .i64 n] w fun e w' => e = .returned (.int .i64 (pkV code n)) ∧ Below w.heap.size w w' := by
  have hb1 : Below w.heap.size w (w.alloc (.cells #[.slice a code.length cap, .int .i64 0, .int .u64 0] 136)) := bl_alloc (Below.refl _ _)
  have HD := Lib.hid (pickF_any w.heap.size code _ a cap (heap_alloc_new w (.cells #[.slice a code.length cap, .int .i64 0, .int .u64 0] 136)) (h.below hb1 (Nat.le_refl _)) hc n hn)
  have HF : Hid (Calls Tryz.prog 42 #[.slice a code.length cap] w fun e w' => e = .returned (.pointer (some ⟨w.heap.size, 0, none⟩)) ∧ w' = w.alloc (.cells #[.slice a code.length cap, .int .i64 0, .int .u64 0] 136)) := Lib.hid (by
    clear HD hb1
    go_enter Tryz.func42, Tryz.ntmps42
    go_wp2
    go_ret
    exact ⟨rfl, rfl⟩)
  go_enter Tryz.func24, Tryz.ntmps24
  go_wp2_with fail
  refine HF.out.mono ?_
  rintro e w1 ⟨rfl, rfl⟩
  go_wp2_with fail
  refine HD.out.mono ?_
  rintro e w2 ⟨rfl, hg2⟩
  have hb2 := below_of_grown hb1 hg2 (Nat.le_refl _)
  go_wp2
  go_ret
  exact ⟨rfl, hb2⟩
theorem pkV_bounds (code : List Int) (n : Int) (hn : 2 ≤ n ∧ n ≤ 200) : 0 ≤ pkV code n ∧ pkV code n < n := ⟨Int.emod_nonneg _ (by omega), Int.emod_lt_of_pos _ (by omega)⟩
end Go.Proofs.YtmeefmoblkiebaaGreat
/- Bytes out of the claim's open values. -/
namespace Go.Proofs.YtmeefmoblkiebaaGreat
open Go.RowKit
def okU8 (n : Int) : Prop := 0 ≤ n ∧ n ≤ 255
theorem conv_u8 (cs : List Value) (h : Fits [.u8] cs) : ∃ p : Int, okU8 p ∧ cs = U8c p := by
  obtain ⟨a, _, rfl, h0, h⟩ := fits_cons h
  obtain rfl := fits_nil h
  refine ⟨a, ?_, rfl⟩
  have := bounds_u8 h0
  exact ⟨by omega, by omega⟩
end Go.Proofs.YtmeefmoblkiebaaGreat
/- Contracts: whether a part is useless, all such parts (the reference). -/
namespace Go.Proofs.YtmeefmoblkiebaaGreat
open Go.RowKit
set_option linter.unusedVariables false
set_option linter.unusedSimpArgs false
set_option maxHeartbeats 400000
set_option maxRecDepth 100000
theorem ulP_eq (m : Mc) (tabs : List Nat) (i : Nat) : ulP m tabs i = (vMc (woMc m i) && decide (mTabI (woMc m i) = tabs.map (fun (n : Nat) => (n : Int)))) := by
  unfold ulP
  congr 1
  rw [Bool.eq_iff_iff, decide_eq_true_eq, decide_eq_true_eq]
  unfold mTabI
  constructor
  · intro e; rw [e]
  · intro e; exact map_cast_inj _ _ e
set_option maxHeartbeats 1600000 in
theorem l03Useless_any (b0 : Nat) (m : Mc) (i : Nat) (a : Option Addr) (cap : Nat) (tabs : List Nat) (w : World) (h : MP w b0 m) (hv : vMc m = true) (hok : m.ok) (hi : i < m.bd.ps.length) (hco : CapOk w b0) (hs : SlAt w.heap.size w a (flat U64_cells (tabs.map (fun (n : Nat) => (n : Int))))) (htl : tabs.length ≤ 10000000) :
    Calls Tryz.prog 88 #[.pointer (some ⟨b0, 0, none⟩), .slice a tabs.length cap, .int .i64 i] w fun e w' => e = .returned (.bool (ulP m tabs i)) ∧ Below w.heap.size w w' := by
  obtain ⟨hvb, h60, hi1, hi6, ho1, ho8, -⟩ := vMc_parts m hv
  have HWO := Lib.hid (fun w1 (hb : Below w.heap.size w w1) => l03Without_any b0 m i w1 (h.step hb) hi (by omega) (by omega) (by omega) (by omega) (by omega) (hco.step h.1 hb))
  have HOK := Lib.hid (fun g w1 (hm : MP w1 g (woMc m i)) => l03Ok_any g (woMc m i) w1 hm (woMc_ok m i hok) (by show (m.bd.ps.eraseIdx i).length ≤ _; rw [List.length_eraseIdx, if_pos hi]; omega) (by show m.ins.length ≤ _; omega) (by show m.outs.length ≤ _; omega))
  have HST := Lib.hid (fun w3 (hb : Below w.heap.size w w3) a' cap' xs (hx : SlAt w3.heap.size w3 a' (flat U64_cells xs)) (hl : xs.length ≤ 10000000) => sameTables_any (B := w3.heap.size) a' a cap' cap xs (tabs.map (fun (n : Nat) => (n : Int))) w3 hx ((hs.below hb (Nat.le_refl _)).mono hb.size) (Nat.le_refl _) hl (by rw [List.length_map]; exact htl))
  have HUL := Lib.hid (ulP_eq m tabs i)
  have HTB := Lib.hid (fun (hvw : vMc (woMc m i) = true) g w1 (hm : MP w1 g (woMc m i)) => l03Tables_any g (woMc m i) w1 hm hvw (woMc_ok m i hok))
  obtain ⟨res, hres⟩ : ∃ res, res = ulP m tabs i := ⟨_, rfl⟩
  rw [← hres] at HUL ⊢
  clear hres
  rcases Bool.eq_false_or_eq_true (vMc (woMc m i)) with gv | gv
  · have HTC := Lib.hid (HTB.out gv)
    rw [gv] at HOK HUL
    have HF : Hid (res = decide (mTabI (woMc m i) = tabs.map (fun (n : Nat) => (n : Int)))) := Lib.hid (by rw [HUL.out]; rfl)
    clear gv HUL HTB
    go_enter Tryz.func88, Tryz.ntmps88
    go_wp2_with fail
    refine (HWO.out _ (Below.refl _ _)).mono ?_
    rintro e w2 ⟨s2, si2, so2, rfl, OC, hb2⟩
    obtain ⟨as2, cs2, rfl, -⟩ := own_at OC.1
    obtain ⟨ai2, ci2, rfl, -⟩ := own_at OC.2.1
    obtain ⟨ao2, co2, rfl, -⟩ := own_at OC.2.2
    have hmp := MP.new (m := woMc m i) (w := w2) (pv_own OC.1) (own_rv OC.2.1) (own_rv OC.2.2) 55
    have HB2 := Lib.hid hb2
    have HMP := Lib.hid hmp
    have hba : Below w2.heap.size w2 (w2.alloc (.cells #[.int .i8 (woMc m i).bd.wd, .int .i8 (woMc m i).bd.hg, .slice as2 (woMc m i).bd.ps.length cs2, .slice ai2 (woMc m i).ins.length ci2, .slice ao2 (woMc m i).outs.length co2] 55)) := bl_alloc (Below.refl _ _)
    have HB3 := Lib.hid (bl_trans hb2 hba)
    clear OC hb2 hmp hba
    go_wp2_with fail
    refine (HOK.out _ _ HMP.out).mono ?_
    rintro e w4 ⟨rfl, hb4⟩
    have HM4 := Lib.hid (HMP.out.step hb4)
    have HB4 := Lib.hid (bl_trans HB3.out hb4)
    clear hb4
    go_wp2_with fail
    refine (HTC.out _ _ HM4.out).mono ?_
    rintro e w5 ⟨v5, rfl, hown5, hb5⟩
    obtain ⟨a5, cap5, rfl, hsl5, -⟩ := own_at hown5
    have hlx : (mTabI (woMc m i)).length = (woMc m i).outs.length := mTabI_len _
    have hlt : (tabs.map (fun (n : Nat) => (n : Int))).length = tabs.length := by rw [List.length_map]
    have HEC := Lib.hid (HST.out w5 (bl_trans HB4.out hb5) a5 cap5 (mTabI (woMc m i)) hsl5 (by rw [hlx]; show m.outs.length ≤ _; omega))
    rw [hlx, hlt] at HEC
    have HB5 := Lib.hid (bl_trans HB4.out hb5)
    clear hown5 hb5 hsl5 hlx hlt
    go_wp2_with fail
    refine HEC.out.mono ?_
    rintro e w7 ⟨rfl, hb7⟩
    go_wp2
    go_ret
    exact ⟨by rw [HF.out]; rfl, bl_trans HB5.out hb7⟩
  · rw [gv] at HOK HUL
    have HF : Hid (res = false) := Lib.hid (by rw [HUL.out]; rfl)
    clear gv HUL HTB
    go_enter Tryz.func88, Tryz.ntmps88
    go_wp2_with fail
    refine (HWO.out _ (Below.refl _ _)).mono ?_
    rintro e w2 ⟨s2, si2, so2, rfl, OC, hb2⟩
    obtain ⟨as2, cs2, rfl, -⟩ := own_at OC.1
    obtain ⟨ai2, ci2, rfl, -⟩ := own_at OC.2.1
    obtain ⟨ao2, co2, rfl, -⟩ := own_at OC.2.2
    have hmp := MP.new (m := woMc m i) (w := w2) (pv_own OC.1) (own_rv OC.2.1) (own_rv OC.2.2) 55
    have HB2 := Lib.hid hb2
    have HMP := Lib.hid hmp
    have hba : Below w2.heap.size w2 (w2.alloc (.cells #[.int .i8 (woMc m i).bd.wd, .int .i8 (woMc m i).bd.hg, .slice as2 (woMc m i).bd.ps.length cs2, .slice ai2 (woMc m i).ins.length ci2, .slice ao2 (woMc m i).outs.length co2] 55)) := bl_alloc (Below.refl _ _)
    have HB3 := Lib.hid (bl_trans hb2 hba)
    clear OC hb2 hmp hba
    go_wp2_with fail
    refine (HOK.out _ _ HMP.out).mono ?_
    rintro e w4 ⟨rfl, hb4⟩
    have HB4 := Lib.hid (bl_trans HB3.out hb4)
    clear hb4
    go_wp2
    go_ret
    exact ⟨by rw [HF.out]; rfl, HB4.out⟩
/-- A machine by value, its pieces' slice with the room that it says. -/
def MVp (w : World) (v : Value) (m : Mc) : Prop := ∃ sa scap si so, v = mcv m.bd.wd m.bd.hg (.slice sa m.bd.ps.length scap) si so ∧ m.bd.ps.length ≤ scap ∧ PcsAt w.heap.size w sa m.bd.ps ∧ RV Po.cells w si m.ins ∧ RV Ce.cells w so m.outs
theorem MVp.step {w w' : World} {v : Value} {m : Mc} (h : MVp w v m) (hb : Below w.heap.size w w') : MVp w' v m := by
  obtain ⟨sa, scap, si, so, rfl, h0, h1, h2, h3⟩ := h
  exact ⟨sa, scap, si, so, rfl, h0, (h1.below hb (Nat.le_refl _)).mono hb.size, h2.step hb, h3.step hb⟩
theorem OwnM.mvp {w : World} {base : Nat} {s si so : Value} {m : Mc} (h : OwnM w base s si so m) : MVp w (mcv m.bd.wd m.bd.hg s si so) m := by
  obtain ⟨h1, h2, h3, -⟩ := h
  obtain ⟨a, cap, rfl, h4, h5, -⟩ := own_at h1
  exact ⟨a, cap, _, _, rfl, h5, h4, own_rv h2, own_rv h3⟩
set_option maxHeartbeats 1600000 in
theorem specUselessParts_any (m : Mc) (v : Value) (w : World) (h : MVp w v m) (hok : m.ok) (hn : m.bd.ps.length ≤ 10000000) (hn1 : m.ins.length ≤ 10000000) (hn2 : m.outs.length ≤ 10000000) :
    Calls Tryz.prog 36 #[v] w fun e w' => ∃ v, e = .returned (.tuple #[v, .int .i64 (mCode m)]) ∧ w'.ownsRow w.heap.size 2 1 v (ulList m).length (flat N64_cells (ulList m)) ∧ Below w.heap.size w w' := by
  obtain ⟨sa, scap, si, so, rfl, hcap, h0, ⟨ai, capi, rfl, h1⟩, h2⟩ := h
  have HM := Lib.hid (MP.new (m := m) (w := w) ⟨sa, scap, rfl, h0⟩ ⟨ai, capi, rfl, h1⟩ h2 55)
  have HBA := Lib.hid (show Below w.heap.size w (w.alloc (.cells #[.int .i8 m.bd.wd, .int .i8 m.bd.hg, .slice sa m.bd.ps.length scap, .slice ai m.ins.length capi, so] 55)) from bl_alloc (Below.refl _ _))
  have HXB := Lib.hid (BX5.new w (.int .i8 m.bd.wd) (.int .i8 m.bd.hg) (.slice sa m.bd.ps.length scap) (.slice ai m.ins.length capi) so 55)
  have HCO : Hid (CapOk (w.alloc (.cells #[.int .i8 m.bd.wd, .int .i8 m.bd.hg, .slice sa m.bd.ps.length scap, .slice ai m.ins.length capi, so] 55)) w.heap.size) := Lib.hid (by
    intro a n cap hc
    rw [HXB.out.2.2.2.1] at hc
    simp only [Option.some.injEq, Value.slice.injEq] at hc
    omega)
  have HOK := Lib.hid (l03Ok_any w.heap.size m _ HM.out hok hn hn1 hn2)
  rcases Bool.eq_false_or_eq_true (vMc m) with g1 | g1
  · obtain ⟨hvb, h60, hi1, hi6, ho1, ho8, -⟩ := vMc_parts m g1
    have HC : Hid (mCode m = 0) := Lib.hid (by unfold mCode; rw [if_pos g1])
    have HUL : Hid (ulList m = hzTo (ulP m (mTabs m)) m.bd.ps.length) := Lib.hid (by unfold ulList; rw [if_pos g1])
    rw [HC.out, HUL.out]
    rw [g1] at HOK
    have HTA := Lib.hid (fun w1 (hb : Below (w.alloc (.cells #[.int .i8 m.bd.wd, .int .i8 m.bd.hg, .slice sa m.bd.ps.length scap, .slice ai m.ins.length capi, so] 55)).heap.size (w.alloc (.cells #[.int .i8 m.bd.wd, .int .i8 m.bd.hg, .slice sa m.bd.ps.length scap, .slice ai m.ins.length capi, so] 55)) w1) => l03Tables_any w.heap.size m w1 (HM.out.step hb) g1 hok)
    have HTE : Hid (mTabI m = (mTabs m).map (fun (n : Nat) => (n : Int))) := Lib.hid rfl
    have HT8 : Hid ((mTabs m).length = m.outs.length) := Lib.hid (mTabs_len m)
    rw [HTE.out] at HTA
    rw [← HT8.out] at HTA
    have HUS := Lib.hid (fun w1 (hb : Below (w.alloc (.cells #[.int .i8 m.bd.wd, .int .i8 m.bd.hg, .slice sa m.bd.ps.length scap, .slice ai m.ins.length capi, so] 55)).heap.size (w.alloc (.cells #[.int .i8 m.bd.wd, .int .i8 m.bd.hg, .slice sa m.bd.ps.length scap, .slice ai m.ins.length capi, so] 55)) w1) i (hi : i < m.bd.ps.length) a cap (hs : SlAt w1.heap.size w1 a (flat U64_cells ((mTabs m).map (fun (n : Nat) => (n : Int))))) => l03Useless_any w.heap.size m i a cap (mTabs m) w1 (HM.out.step hb) g1 hok hi (HCO.out.step (by simp) hb) hs (by rw [mTabs_len]; omega))
    obtain ⟨tabs, htabs⟩ : ∃ tabs, tabs = mTabs m := ⟨_, rfl⟩
    rw [← htabs] at HTA HUS ⊢
    obtain ⟨p, hp⟩ : ∃ p, p = ulP m tabs := ⟨_, rfl⟩
    rw [← hp] at HUS ⊢
    have HLN := Lib.hid (hzTo_len p)
    clear g1 HC HUL htabs HTE HT8 hp
    obtain ⟨i0, hi0, hiz0, hiz1, hiz2⟩ := info_parts Tryz.infoInt64
    go_enter Tryz.func36, Tryz.ntmps36
    go_wp2_with fail
    refine HOK.out.mono ?_
    rintro e w1 ⟨rfl, hb1⟩
    have HB1 := Lib.hid hb1
    clear hb1
    go_wp2_with fail
    refine (HTA.out _ HB1.out).mono ?_
    rintro e w2 ⟨v2, rfl, hown2, hb2⟩
    obtain ⟨a1, cap1, rfl, hsl1, -, -⟩ := own_at hown2
    have HB2 := Lib.hid (bl_trans HB1.out hb2)
    have HS1 := Lib.hid hsl1
    obtain ⟨X0, -, -, x2, -, -⟩ := HXB.out.step HB2.out
    have hown0 := World.ownsRow_made (e := 2) (size := 1) w2 #[] 0 (Nat.le_refl _) (by simp [maxLen]) rfl
    have hb0 : Below w2.heap.size w2 (w2.alloc (.cells #[] 2)) := bl_alloc (Below.refl _ _)
    have HO0 := Lib.hid hown0
    have HBO := Lib.hid hb0
    clear hown2 hsl1 hb2 hown0 hb0
    go_wp2
    go_loopw [5, 6] (fun v ix wr => ∃ i : Nat, i ≤ m.bd.ps.length ∧ ix = .int .i64 i ∧ wr.ownsRow w2.heap.size 2 1 v (hzTo p i).length (flat N64_cells (hzTo p i)) ∧ Below w2.heap.size w2 wr) (fun _ ix _ => m.bd.ps.length - (intOf ix).toNat)
    case atStart => exact ⟨0, by omega, rfl, HO0.out, HBO.out⟩
    case round =>
      obtain ⟨i, hi, rfl, hown, hb⟩ := hrel
      obtain ⟨av2, capv2, hve, -, -, -⟩ := own_at hown
      subst hve
      have HOWN := Lib.hid hown
      have hzb := hb.size
      have HBB := Lib.hid hb
      have HBW := Lib.hid (bl_trans HB2.out hb)
      have z2 : wr.cell? ⟨w.heap.size, 2, none⟩ = some (.slice sa m.bd.ps.length scap) := by rw [hb.cell (p := ⟨w.heap.size, 2, none⟩) X0]; exact x2
      have hle := HLN.out i
      obtain ⟨nn, hnn⟩ : ∃ nn, nn = (hzTo p i).length := ⟨_, rfl⟩
      rw [← hnn] at HOWN hle ⊢
      have HNN := Lib.hid hnn
      by_cases hlt : i < m.bd.ps.length
      · have hiI : (i : Int) < m.bd.ps.length := by omega
        have HUC := Lib.hid (HUS.out wr HBW.out i hlt a1 cap1 ((HS1.out.below hb (Nat.le_refl _)).mono hzb))
        clear hown hb hnn
        go_wp2_with fail
        refine HUC.out.mono ?_
        rintro e w7 ⟨rfl, hb7⟩
        have HBB7 := Lib.hid (bl_trans HBB.out hb7)
        have HO7 := Lib.hid (own_below HOWN.out hb7 (Nat.le_refl _))
        have hz7 := HBB7.out.size
        clear hb7 HUC
        rcases Bool.eq_false_or_eq_true (p i) with gp | gp
        · have HY : Hid (hzTo p (i + 1) = hzTo p i ++ [(i : Int)]) := Lib.hid (hzTo_yes p i gp)
          go_wp2_with (at_builtin; go_must (refine wpList_append_sl _ rfl _ _ 34 rfl w2.heap.size 2 i0 (.int .i64 0) 1 8 Tryz.underlying34 hi0 hiz0 hiz1 hiz2 rfl (by decide) _ _ _ rfl (own_below HO7.out (bl_alloc (Below.refl _ _)) (Nat.le_refl _)) (some ⟨w7.heap.size, 0, none⟩) 1 1 [.int .i64 (i : Int)] rfl (sl_newC w7 #[.int .i64 (i : Int)] 2 _ rfl) rfl (by intro u hu; rw [List.mem_singleton] at hu; subst hu; rfl) (by unfold maxLen; omega) (by omega) (by simp; omega) ?_); intro v4 w8 hown3 hgrow; obtain ⟨g4, cap4, rfl, hg4⟩ := own_some hown3)
          have hb8 : Below w2.heap.size w2 w8 := (bl_alloc (o := .cells #[.int .i64 (i : Int)] 2) HBB7.out).grown hgrow (by simp; omega) (fun q hq => (HO7.out.lt q hq).1)
          have hown5 : w8.ownsRow w2.heap.size 2 1 (.slice (some ⟨g4, 0, none⟩) (nn + 1) cap4) (hzTo p (i + 1)).length (flat N64_cells (hzTo p (i + 1))) := by
            rw [HY.out, flat_append, List.length_append, ← HNN.out]; exact hown3
          go_roundw
          case rel => exact ⟨i + 1, by omega, by go_num, hown5, hb8⟩
          case measure => simp [intOf]; omega
        · have HY : Hid (hzTo p (i + 1) = hzTo p i) := Lib.hid (hzTo_no p i gp)
          go_wp2
          go_roundw
          case rel => exact ⟨i + 1, by omega, by go_num, by rw [HY.out, ← HNN.out]; exact HO7.out, HBB7.out⟩
          case measure => simp [intOf]; omega
      · have hin : Hid (i = m.bd.ps.length) := Lib.hid (by omega)
        have hiI : ¬ (i : Int) < m.bd.ps.length := by omega
        have hown2 := own_mono (base := w.heap.size) HOWN.out (by have h1 := HB2.out.size; simp only [World.size_alloc] at h1; omega)
        have HOW2 := Lib.hid hown2
        rw [hin.out] at HNN
        clear hown2 hown hnn
        have HOW3 : Hid (wr.ownsRow w.heap.size 2 1 (.slice av2 nn capv2) nn (flat N64_cells (hzTo p m.bd.ps.length))) := Lib.hid (by rw [← hin.out]; exact HOW2.out)
        go_wp2
        go_ret2
        exact ⟨_, rfl, by rw [← HNN.out]; exact HOW3.out, bl_trans HBA.out HBW.out⟩
  · have HC : Hid (mCode m = 1) := Lib.hid (by unfold mCode; rw [if_neg (by simp [g1])])
    have HL : Hid (ulList m = []) := Lib.hid (by unfold ulList; rw [if_neg (by simp [g1])])
    rw [HC.out, HL.out]
    rw [g1] at HOK
    clear g1 HC HL
    go_enter Tryz.func36, Tryz.ntmps36
    go_wp2_with fail
    refine HOK.out.mono ?_
    rintro e w1 ⟨rfl, hb1⟩
    have hb01 := bl_trans HBA.out hb1
    have hown := World.ownsRow_made (e := 2) (size := 1) w1 #[] 0 (Nat.le_refl _) (by simp [maxLen]) rfl
    have hown2 := own_mono (base := w.heap.size) hown hb01.size
    have HRET := Lib.hid (And.intro hown2 (bl_alloc (o := .cells #[] 2) hb01))
    clear hb1 hb01 hown hown2
    go_wp2
    go_ret2
    exact ⟨_, rfl, HRET.out.1, HRET.out.2⟩
end Go.Proofs.YtmeefmoblkiebaaGreat
/- Contracts: PruneMachine (the reference). -/
namespace Go.Proofs.YtmeefmoblkiebaaGreat
open Go.RowKit
set_option linter.unusedVariables false
set_option linter.unusedSimpArgs false
set_option maxHeartbeats 400000
set_option maxRecDepth 100000
theorem nilC (w : World) (base : Nat) : OwnC w base (.slice none 0 0) (.slice none 0 0) (.slice none 0 0) mcNone :=
  ⟨World.ownsRow_nil _ _ _ _, World.ownsRow_nil _ _ _ _, World.ownsRow_nil _ _ _ _⟩
/-- A block that holds a machine, all of it writable. -/
def BW5 (w : World) (g : Nat) (v0 v1 v2 v3 v4 : Value) : Prop := (w.cell? ⟨g, 0, none⟩ = some v0 ∧ w.cell? ⟨g, 1, none⟩ = some v1 ∧ w.cell? ⟨g, 2, none⟩ = some v2 ∧ w.cell? ⟨g, 3, none⟩ = some v3 ∧ w.cell? ⟨g, 4, none⟩ = some v4) ∧ w.frozen? ⟨g, 0, none⟩ = false ∧ w.frozen? ⟨g, 1, none⟩ = false ∧ w.frozen? ⟨g, 2, none⟩ = false ∧ w.frozen? ⟨g, 3, none⟩ = false ∧ w.frozen? ⟨g, 4, none⟩ = false
theorem BW5.step {w w' : World} {g : Nat} {v0 v1 v2 v3 v4 : Value} (h : BW5 w g v0 v1 v2 v3 v4) (hl : g < w.heap.size) (hb : Below w.heap.size w w') : BW5 w' g v0 v1 v2 v3 v4 := by
  obtain ⟨hc, hf⟩ := bcell hb
  unfold BW5
  rw [hc _ _ hl, hc _ _ hl, hc _ _ hl, hc _ _ hl, hc _ _ hl, hf _ _ hl, hf _ _ hl, hf _ _ hl, hf _ _ hl, hf _ _ hl]
  exact h
theorem BW5.of {w : World} {g : Nat} {v0 v1 v2 v3 v4 : Value} (c0 : w.cell? ⟨g, 0, none⟩ = some v0) (c1 : w.cell? ⟨g, 1, none⟩ = some v1) (c2 : w.cell? ⟨g, 2, none⟩ = some v2) (c3 : w.cell? ⟨g, 3, none⟩ = some v3) (c4 : w.cell? ⟨g, 4, none⟩ = some v4) (f0 : w.frozen? ⟨g, 0, none⟩ = false) (f1 : w.frozen? ⟨g, 1, none⟩ = false) (f2 : w.frozen? ⟨g, 2, none⟩ = false) (f3 : w.frozen? ⟨g, 3, none⟩ = false) (f4 : w.frozen? ⟨g, 4, none⟩ = false) : BW5 w g v0 v1 v2 v3 v4 := ⟨⟨c0, c1, c2, c3, c4⟩, f0, f1, f2, f3, f4⟩
set_option maxHeartbeats 3200000 in
theorem specPruneMachine_any (m : Mc) (v : Value) (w : World) (h : MVp w v m) (hok : m.ok) (hn : m.bd.ps.length ≤ 10000000) (hn1 : m.ins.length ≤ 10000000) (hn2 : m.outs.length ≤ 10000000) :
    Calls Tryz.prog 34 #[v] w fun e w' => ∃ s si so, e = .returned (.tuple #[mcv (prM m).bd.wd (prM m).bd.hg s si so, .int .i64 (prC m), .int .i64 (mCode m)]) ∧ OwnC w' w.heap.size s si so (prM m) ∧ Below w.heap.size w w' := by
  obtain ⟨sa, scap, si, so, rfl, hcap, h0, ⟨ai, capi, rfl, h1⟩, ⟨ao, capo, rfl, h2⟩⟩ := h
  have HM := Lib.hid (MP.new (m := m) (w := w) ⟨sa, scap, rfl, h0⟩ ⟨ai, capi, rfl, h1⟩ ⟨ao, capo, rfl, h2⟩ 55)
  have HBA := Lib.hid (show Below w.heap.size w (w.alloc (.cells #[.int .i8 m.bd.wd, .int .i8 m.bd.hg, .slice sa m.bd.ps.length scap, .slice ai m.ins.length capi, .slice ao m.outs.length capo] 55)) from bl_alloc (Below.refl _ _))
  obtain ⟨wA, hwA⟩ : ∃ wA, wA = w.alloc (.cells #[.int .i8 m.bd.wd, .int .i8 m.bd.hg, .slice sa m.bd.ps.length scap, .slice ai m.ins.length capi, .slice ao m.outs.length capo] 55) := ⟨_, rfl⟩
  have hzA : wA.heap.size = w.heap.size + 1 := by rw [hwA]; simp
  rw [← hwA] at HBA HM
  have HWA := Lib.hid hwA
  have HBF := Lib.hid (BF5new wA (.int .i8 0) (.int .i8 0) (.slice none 0 0) (.slice none 0 0) (.slice none 0 0) 55)
  obtain ⟨bA, hbA⟩ : ∃ bA, bA = w.heap.size := ⟨_, rfl⟩
  rw [← hbA] at HM
  have HbA := Lib.hid hbA
  have hbAl : bA < wA.heap.size := by omega
  have hbAz : bA + 1 = wA.heap.size := by omega
  have HBZ := Lib.hid hbAz
  have hwAz : w.heap.size ≤ wA.heap.size := by omega
  clear hwA hbA hbAz h0 h1 h2
  have HOK := Lib.hid (fun w1 (hb : Below wA.heap.size wA w1) => l03Ok_any bA m w1 (HM.out.step hb) hok hn hn1 hn2)
  rcases Bool.eq_false_or_eq_true (vMc m) with g1 | g1
  · obtain ⟨hvb, h60, hi1, hi6, ho1, ho8, -⟩ := vMc_parts m g1
    have HC : Hid (mCode m = 0) := Lib.hid (by unfold mCode; rw [if_pos g1])
    have HPM : Hid (prM m = (prVal m).m ∧ prC m = ((prVal m).c : Int)) := Lib.hid (by unfold prM prC; rw [if_pos g1, if_pos g1]; exact ⟨rfl, rfl⟩)
    rw [HC.out, HPM.out.1, HPM.out.2]
    rw [g1] at HOK
    have HTA := Lib.hid (fun w1 (hb : Below wA.heap.size wA w1) => l03Tables_any bA m w1 (HM.out.step hb) g1 hok)
    have HTE : Hid (mTabI m = (mTabs m).map (fun (n : Nat) => (n : Int))) := Lib.hid rfl
    have HT8 : Hid ((mTabs m).length = m.outs.length) := Lib.hid (mTabs_len m)
    rw [HTE.out] at HTA
    rw [← HT8.out] at HTA
    have hT8 : (mTabs m).length ≤ 8 := by rw [mTabs_len]; exact ho8
    have HCL := Lib.hid (fun w1 (hb : Below wA.heap.size wA w1) => l03Copy_any bA m w1 (HM.out.step hb) (by omega) (by omega) (by omega) (by omega) (by omega))
    have HR0 : Hid (prRun (mTabs m) 4000 ⟨m, 0, 0⟩ = prVal m) := Lib.hid rfl
    have HI0 := Lib.hid (prInv_start m g1 hok)
    obtain ⟨tabs, htabs⟩ : ∃ tabs, tabs = mTabs m := ⟨_, rfl⟩
    rw [← htabs] at HTA hT8 HR0
    obtain ⟨RV', hRV⟩ : ∃ RV', RV' = prVal m := ⟨_, rfl⟩
    rw [← hRV] at HR0 ⊢
    clear g1 HC HPM htabs HTE HT8 hRV
    go_enter Tryz.func34, Tryz.ntmps34
    go_wp2_with fail
    rw [← HWA.out, ← HbA.out]
    obtain ⟨w2, hw2, hz2, hb2, x0, x1, x2, x3, x4, f0, f1, f2, f3, f4⟩ := HBF.out
    rw [← hw2]
    rw [HBZ.out]
    obtain ⟨g2, hg2⟩ : ∃ g2, g2 = wA.heap.size := ⟨_, rfl⟩
    rw [← hg2] at x0 x1 x2 x3 x4 f0 f1 f2 f3 f4 ⊢
    have hg2l : g2 < w2.heap.size := by omega
    have hg2w : w.heap.size ≤ g2 := by omega
    have B2 := Lib.hid (bl_trans HBA.out hb2)
    have BA2 := Lib.hid hb2
    have HX2 := Lib.hid (BW5.of x0 x1 x2 x3 x4 f0 f1 f2 f3 f4)
    clear hw2 hg2 hz2 hb2 x0 x1 x2 x3 x4 f0 f1 f2 f3 f4
    refine (HOK.out _ BA2.out).mono ?_
    rintro e w2' ⟨rfl, hb2'⟩
    have BA2' := Lib.hid (bl_trans BA2.out hb2')
    have B22' := Lib.hid hb2'
    clear hb2'
    go_wp2_with fail
    refine (HTA.out _ BA2'.out).mono ?_
    rintro e w3 ⟨v3, rfl, hown3, hb3⟩
    obtain ⟨a3, cap3, rfl, hsl3, -, -⟩ := own_at hown3
    have HS3 := Lib.hid hsl3
    have B23 := Lib.hid (bl_trans B22'.out hb3)
    have B3 := Lib.hid (bl_trans B2.out B23.out)
    have BA3 := Lib.hid (bl_trans BA2.out B23.out)
    clear hown3 hsl3 hb3
    go_wp2_with fail
    refine (HCL.out _ BA3.out).mono ?_
    rintro e w4 ⟨s4, si4, so4, rfl, OM4, hb4⟩
    obtain ⟨as4, cs4, rfl, hcs4⟩ := own_at OM4.1
    obtain ⟨ai4, ci4, rfl, -⟩ := own_at OM4.2.1
    obtain ⟨ao4, co4, rfl, -⟩ := own_at OM4.2.2
    have B34 := Lib.hid hb4
    have HOM4 := Lib.hid OM4
    have HBF5 := Lib.hid (BF5new w4 (.int .i8 m.bd.wd) (.int .i8 m.bd.hg) (.slice as4 m.bd.ps.length cs4) (.slice ai4 m.ins.length ci4) (.slice ao4 m.outs.length co4) 55)
    clear OM4 hb4
    go_wp2
    obtain ⟨w5, hw5, hz5, hb5, x0, x1, x2, x3, x4, f0, f1, f2, f3, f4⟩ := HBF5.out
    rw [← hw5]
    obtain ⟨g7, hg7⟩ : ∃ g7, g7 = w4.heap.size := ⟨_, rfl⟩
    rw [← hg7] at x0 x1 x2 x3 x4 f0 f1 f2 f3 f4 ⊢
    have hg7l : g7 < w5.heap.size := by omega
    have hz34 := B34.out.size
    have hz23 := B23.out.size
    have hz02 := B2.out.size
    have hg7g : g2 < g7 := by omega
    have hg7w : w.heap.size ≤ g7 := by omega
    have hw3g : w3.heap.size ≤ g7 := by omega
    have HOM5 := Lib.hid (HOM4.out.below hb5)
    have HN5 : Hid ((∀ q, (Value.slice as4 m.bd.ps.length cs4).ownBlock = some q → q ≠ g7) ∧ (∀ q, (Value.slice ai4 m.ins.length ci4).ownBlock = some q → q ≠ g7) ∧ (∀ q, (Value.slice ao4 m.outs.length co4).ownBlock = some q → q ≠ g7)) := Lib.hid ⟨fun q hq => by have := (HOM4.out.1.lt q hq).2; omega, fun q hq => by have := (HOM4.out.2.1.lt q hq).2; omega, fun q hq => by have := (HOM4.out.2.2.lt q hq).2; omega⟩
    have HX5 := Lib.hid (BW5.of x0 x1 x2 x3 x4 f0 f1 f2 f3 f4)
    have B35 := Lib.hid (bl_trans B34.out hb5)
    clear hw5 hg7 hz5 hb5 x0 x1 x2 x3 x4 f0 f1 f2 f3 f4
    go_loopw [7, 8] (fun cx ix wr => ∃ (st : PrS) (fuel : Nat) (pa : Option Addr) (pc : Nat) (ia : Option Addr) (ic : Nat) (oa : Option Addr) (oc : Nat), cx = .int .i64 st.c ∧ ix = .int .i64 st.i ∧ Hid (prInv m st ∧ prMeas st ≤ fuel ∧ prRun tabs fuel st = RV') ∧ st.i ≤ st.m.bd.ps.length ∧ st.m.bd.ps.length + st.c = m.bd.ps.length ∧ st.m.bd.ps.length ≤ 60 ∧
       Hid (BW5 wr g7 (.int .i8 m.bd.wd) (.int .i8 m.bd.hg) (.slice pa st.m.bd.ps.length pc) (.slice ia st.m.ins.length ic) (.slice oa st.m.outs.length oc)) ∧
       Hid (OwnC wr w3.heap.size (.slice pa st.m.bd.ps.length pc) (.slice ia st.m.ins.length ic) (.slice oa st.m.outs.length oc) st.m) ∧ Hid ((∀ q, (Value.slice pa st.m.bd.ps.length pc).ownBlock = some q → q ≠ g7) ∧ (∀ q, (Value.slice ia st.m.ins.length ic).ownBlock = some q → q ≠ g7) ∧ (∀ q, (Value.slice oa st.m.outs.length oc).ownBlock = some q → q ≠ g7)) ∧ g7 < wr.heap.size ∧ Hid (Below w3.heap.size w3 wr)) (fun cx ix _ => (m.bd.ps.length - (intOf cx).toNat) * 62 + (m.bd.ps.length - (intOf cx).toNat - (intOf ix).toNat))
    case atStart => exact ⟨⟨m, 0, 0⟩, 4000, as4, cs4, ai4, ci4, ao4, co4, rfl, rfl, Lib.hid ⟨HI0.out, by show m.bd.ps.length * 62 + (m.bd.ps.length - 0) ≤ 4000; omega, HR0.out⟩, Nat.zero_le _, rfl, h60, HX5, HOM5, HN5, hg7l, B35⟩
    case round =>
      obtain ⟨st, fuel, pa, pc, ia, ic, oa, oc, rfl, rfl, HI, hil, hlc, hl60, HX, HOM, HNP, hgw, HB⟩ := hrel
      have hxx := HX.out
      obtain ⟨⟨c0, c1, c2, c3, c4⟩, f0, f1, f2, f3, f4⟩ := hxx
      by_cases hlt : st.i < st.m.bd.ps.length
      · have hiI : (st.i : Int) < st.m.bd.ps.length := by omega
        have HJ : Hid (st.m.ins = m.ins ∧ st.m.outs = m.outs ∧ st.m.bd.wd = m.bd.wd ∧ st.m.bd.hg = m.bd.hg) := Lib.hid ⟨HI.out.1.2.2.1, HI.out.1.2.2.2.1, HI.out.1.2.2.2.2.1, HI.out.1.2.2.2.2.2.1⟩
        have hmp : MP wr g7 st.m := by
          obtain ⟨o1, o2, o3⟩ := HOM.out
          exact mp_of hgw (by rw [HJ.out.2.2.1]; exact c0) (by rw [HJ.out.2.2.2]; exact c1) c2 c3 c4 (pv_own o1) (own_rv o2) (own_rv o3)
        have hco : CapOk wr g7 := by
          intro a n cap hc
          rw [c2] at hc
          simp only [Option.some.injEq, Value.slice.injEq] at hc
          obtain ⟨a9, cap9, e9, -, l9, -⟩ := own_at HOM.out.1
          simp only [Value.slice.injEq, true_and] at e9
          omega
        obtain ⟨p1, p2, p3, p4, p5, p6, -⟩ := vMc_parts st.m HI.out.1.1
        have HUC := Lib.hid (l03Useless_any g7 st.m st.i a3 cap3 tabs wr hmp HI.out.1.1 HI.out.1.2.1 hlt hco ((HS3.out.below HB.out (Nat.le_refl _)).mono HB.out.size) (by omega))
        have HLC := Lib.hid (fun w1 (hb : Below wr.heap.size wr w1) => l03Without_any g7 st.m st.i w1 (hmp.step hb) hlt (by omega) (by omega) (by omega) (by omega) (by omega) (hco.step hgw hb))
        rw [HJ.out.2.2.1, HJ.out.2.2.2] at HLC
        obtain ⟨f', hf'⟩ : ∃ f', fuel = f' + 1 := ⟨fuel - 1, by have h9 := HI.out.2.1; unfold prMeas at h9; omega⟩
        have HNX : Hid (prInv m (prStep tabs st) ∧ prMeas (prStep tabs st) ≤ f' ∧ prRun tabs f' (prStep tabs st) = RV') := Lib.hid ⟨prInv_step m tabs st HI.out.1 hlt, by have h9 := HI.out.2.1; have h8 := prMeas_step tabs st hlt hl60; omega, by rw [← HI.out.2.2, hf', prRun_step _ _ _ hlt]⟩
        clear hf' hmp hco p1 p2 p3 p4 p5 p6
        go_wp2_with fail
        refine HUC.out.mono ?_
        rintro e w6 ⟨rfl, hb6⟩
        have HX6 := Lib.hid (HX.out.step hgw hb6)
        have HOM6 := Lib.hid (HOM.out.below hb6)
        have HB6 := Lib.hid (bl_trans HB.out hb6)
        have hg6 : g7 < w6.heap.size := Nat.lt_of_lt_of_le hgw hb6.size
        have HLC6 := Lib.hid (HLC.out w6 hb6)
        clear c0 c1 c2 c3 c4 f0 f1 f2 f3 f4 hb6 HUC HLC
        rcases Bool.eq_false_or_eq_true (ulP st.m tabs st.i) with gp | gp
        · rw [prStep_yes tabs st gp] at HNX
          have hle : (st.m.bd.ps.eraseIdx st.i).length = st.m.bd.ps.length - 1 := by rw [List.length_eraseIdx, if_pos hlt]
          have HLEx := Lib.hid hle
          clear hle
          go_wp2_with fail
          refine HLC6.out.mono ?_
          rintro e w7 ⟨sp, ss, st7, rfl, OC, hb7⟩
          obtain ⟨ap, cp, rfl, -⟩ := own_at OC.1
          obtain ⟨as7, cs7, rfl, -⟩ := own_at OC.2.1
          obtain ⟨ao7, co7, rfl, -⟩ := own_at OC.2.2
          have hx7 := HX6.out.step hg6 hb7
          obtain ⟨⟨e0, e1, e2, e3, e4⟩, l0, l1, l2, l3, l4⟩ := hx7
          have hg7' : g7 < w7.heap.size := Nat.lt_of_lt_of_le hg6 hb7.size
          have HOC := Lib.hid OC
          have HB7 := Lib.hid (bl_trans HB6.out hb7)
          have hzs : w3.heap.size ≤ w6.heap.size := HB6.out.size
          clear hb7 OC HLC6
          go_wp2
          have HW : Hid (BW5 (((((w7.setCell ⟨g7, 0, none⟩ (.int .i8 m.bd.wd)).setCell ⟨g7, 1, none⟩ (.int .i8 m.bd.hg)).setCell ⟨g7, 2, none⟩ (.slice ap (woMc st.m st.i).bd.ps.length cp)).setCell ⟨g7, 3, none⟩ (.slice as7 (woMc st.m st.i).ins.length cs7)).setCell ⟨g7, 4, none⟩ (.slice ao7 (woMc st.m st.i).outs.length co7)) g7 (.int .i8 m.bd.wd) (.int .i8 m.bd.hg) (.slice ap (woMc st.m st.i).bd.ps.length cp) (.slice as7 (woMc st.m st.i).ins.length cs7) (.slice ao7 (woMc st.m st.i).outs.length co7)) := Lib.hid (by unfold BW5; simp [go_sem, e0, e1, e2, e3, e4, l0, l1, l2, l3, l4])
          have HOW : Hid (OwnC (((((w7.setCell ⟨g7, 0, none⟩ (.int .i8 m.bd.wd)).setCell ⟨g7, 1, none⟩ (.int .i8 m.bd.hg)).setCell ⟨g7, 2, none⟩ (.slice ap (woMc st.m st.i).bd.ps.length cp)).setCell ⟨g7, 3, none⟩ (.slice as7 (woMc st.m st.i).ins.length cs7)).setCell ⟨g7, 4, none⟩ (.slice ao7 (woMc st.m st.i).outs.length co7)) w3.heap.size (.slice ap (woMc st.m st.i).bd.ps.length cp) (.slice as7 (woMc st.m st.i).ins.length cs7) (.slice ao7 (woMc st.m st.i).outs.length co7) (woMc st.m st.i)) := Lib.hid (by
            refine ⟨?_, ?_, ?_⟩
            · refine own_mono (base' := w6.heap.size) ?_ hzs
              repeat (with_reducible refine ownsRow_setCell_below ?_ (by first | (simp; done) | (simp; omega)) _)
              exact HOC.out.1
            · refine own_mono (base' := w6.heap.size) ?_ hzs
              repeat (with_reducible refine ownsRow_setCell_below ?_ (by first | (simp; done) | (simp; omega)) _)
              exact HOC.out.2.1
            · refine own_mono (base' := w6.heap.size) ?_ hzs
              repeat (with_reducible refine ownsRow_setCell_below ?_ (by first | (simp; done) | (simp; omega)) _)
              exact HOC.out.2.2)
          have hle : (woMc st.m st.i).bd.ps.length = st.m.bd.ps.length - 1 := HLEx.out
          go_roundw
          case rel => exact ⟨⟨woMc st.m st.i, 0, st.c + 1⟩, f', ap, cp, as7, cs7, ao7, co7, by go_num, rfl, HNX, Nat.zero_le _, by show (woMc st.m st.i).bd.ps.length + (st.c + 1) = _; omega, by show (woMc st.m st.i).bd.ps.length ≤ 60; omega, HW, HOW, Lib.hid ⟨fun q hq => by have := (HOC.out.1.lt q hq).1; omega, fun q hq => by have := (HOC.out.2.1.lt q hq).1; omega, fun q hq => by have := (HOC.out.2.2.lt q hq).1; omega⟩, by simp; omega, Lib.hid (bl_set (bl_set (bl_set (bl_set (bl_set HB7.out hw3g _) hw3g _) hw3g _) hw3g _) hw3g _)⟩
          case measure => simp [intOf]; omega
        · rw [prStep_no tabs st gp] at HNX
          clear HLC6
          go_wp2
          go_roundw
          case rel => exact ⟨⟨st.m, st.i + 1, st.c⟩, f', pa, pc, ia, ic, oa, oc, rfl, by go_num, HNX, hlt, hlc, hl60, HX6, HOM6, HNP, hg6, HB6⟩
          case measure => simp [intOf]; omega
      · have hiI : ¬ (st.i : Int) < st.m.bd.ps.length := by omega
        have HE : Hid (RV' = st) := Lib.hid (by rw [← HI.out.2.2]; exact prRun_end tabs st hlt fuel)
        have HJ : Hid (st.m.bd.wd = m.bd.wd ∧ st.m.bd.hg = m.bd.hg) := Lib.hid ⟨HI.out.1.2.2.2.2.1, HI.out.1.2.2.2.2.2.1⟩
        have B2r := Lib.hid (bl_trans B23.out HB.out)
        have hx2 := HX2.out.step hg2l B2r.out
        obtain ⟨⟨u0, u1, u2, u3, u4⟩, v0, v1, v2, v3, v4⟩ := hx2
        have hzz := B2.out.size
        have hne : g2 ≠ g7 := by omega
        go_wp2
        refine bodyPost_ret (v := .tuple #[mcv m.bd.wd m.bd.hg (.slice pa st.m.bd.ps.length pc) (.slice ia st.m.ins.length ic) (.slice oa st.m.outs.length oc), .int .i64 st.c, .int .i64 0]) (by simp [results, Tryz.results34, go_sem, u0, u1, u2, u3, u4]) rfl ⟨_, _, _, by rw [HE.out, HJ.out.1, HJ.out.2], ?_, ?_⟩
        · rw [HE.out]
          obtain ⟨o1, o2, o3⟩ := HOM.out
          have hz3 : w2.heap.size ≤ w3.heap.size := B23.out.size
          refine ⟨?_, ?_, ?_⟩
          · refine own_mono (base' := w3.heap.size) ?_ (by omega)
            repeat (with_reducible refine ownsRow_setCell_below ?_ (by first | (simp; done) | (simp; omega)) _)
            exact o1
          · refine own_mono (base' := w3.heap.size) ?_ (by omega)
            repeat (with_reducible refine ownsRow_setCell_below ?_ (by first | (simp; done) | (simp; omega)) _)
            exact o2
          · refine own_mono (base' := w3.heap.size) ?_ (by omega)
            repeat (with_reducible refine ownsRow_setCell_below ?_ (by first | (simp; done) | (simp; omega)) _)
            exact o3
        · exact bl_set (bl_set (bl_set (bl_set (bl_set (bl_trans B3.out HB.out) hg2w _) hg2w _) hg2w _) hg2w _) hg2w _
  · have HC : Hid (mCode m = 1) := Lib.hid (by unfold mCode; rw [if_neg (by simp [g1])])
    have HPM : Hid (prM m = mcNone ∧ prC m = 0) := Lib.hid (by unfold prM prC; rw [if_neg (by simp [g1]), if_neg (by simp [g1])]; exact ⟨rfl, rfl⟩)
    rw [HC.out, HPM.out.1, HPM.out.2]
    rw [g1] at HOK
    clear g1 HC HPM
    go_enter Tryz.func34, Tryz.ntmps34
    go_wp2_with fail
    rw [← HWA.out, ← HbA.out]
    obtain ⟨w2, hw2, hz2, hb2, x0, x1, x2, x3, x4, f0, f1, f2, f3, f4⟩ := HBF.out
    rw [← hw2]
    rw [HBZ.out]
    obtain ⟨g2, hg2⟩ : ∃ g2, g2 = wA.heap.size := ⟨_, rfl⟩
    rw [← hg2] at x0 x1 x2 x3 x4 f0 f1 f2 f3 f4 ⊢
    have hg2l : g2 < w2.heap.size := by omega
    have hg2w : w.heap.size ≤ g2 := by omega
    have B2 := Lib.hid (bl_trans HBA.out hb2)
    have BA2 := Lib.hid hb2
    have HX2 := Lib.hid (BW5.of x0 x1 x2 x3 x4 f0 f1 f2 f3 f4)
    clear hw2 hg2 hz2 hb2 x0 x1 x2 x3 x4 f0 f1 f2 f3 f4
    refine (HOK.out _ BA2.out).mono ?_
    rintro e w3 ⟨rfl, hb3⟩
    have hx2 := HX2.out.step hg2l hb3
    obtain ⟨⟨u0, u1, u2, u3, u4⟩, v0, v1, v2, v3, v4⟩ := hx2
    have B3 := Lib.hid (bl_trans B2.out hb3)
    clear hb3
    go_wp2
    refine bodyPost_ret (v := .tuple #[mcv 0 0 (.slice none 0 0) (.slice none 0 0) (.slice none 0 0), .int .i64 0, .int .i64 1]) (by simp [results, Tryz.results34, go_sem, u0, u1, u2, u3, u4]) rfl ⟨_, _, _, rfl, nilC _ _, ?_⟩
    exact bl_set (bl_set (bl_set (bl_set (bl_set B3.out hg2w _) hg2w _) hg2w _) hg2w _) hg2w _
end Go.Proofs.YtmeefmoblkiebaaGreat
/- Contracts: DifferAt (the program). -/
namespace Go.Proofs.YtmeefmoblkiebaaGreat
open Go.RowKit
set_option linter.unusedVariables false
set_option linter.unusedSimpArgs false
set_option maxHeartbeats 400000
set_option maxRecDepth 100000
set_option maxHeartbeats 1600000 in
theorem differAt_any (ma mb : Mc) (va vb : Value) (w : World) (ha : MVc w va ma) (hb : MVc w vb mb) (hoka : ma.ok) (hokb : mb.ok) (hna : ma.bd.ps.length ≤ 10000000) (hna1 : ma.ins.length ≤ 10000000) (hna2 : ma.outs.length ≤ 10000000) (hnb : mb.bd.ps.length ≤ 10000000) (hnb1 : mb.ins.length ≤ 10000000) (hnb2 : mb.outs.length ≤ 10000000) :
    Calls Tryz.prog 38 #[va, vb] w fun e w' => e = .returned (.tuple #[.int .i64 (daVal ma mb).1, .int .i64 (daVal ma mb).2]) ∧ Below w.heap.size w w' := by
  have HVA := Lib.hid (fun w1 (hb1 : Below w.heap.size w w1) => validMachine_any ma va w1 (ha.step hb1) hoka hna hna1 hna2)
  have HVB := Lib.hid (fun w1 (hb1 : Below w.heap.size w w1) => validMachine_any mb vb w1 (hb.step hb1) hokb hnb hnb1 hnb2)
  obtain ⟨paa, capp, aia, capia, aoa, capoa, rfl, hcapa, hpsa, hinsa, houtsa⟩ := ha
  obtain ⟨pab, cappb, aib, capib, aob, capob, rfl, hcapb, hpsb, hinsb, houtsb⟩ := hb
  obtain ⟨wA, hwA⟩ : ∃ wA, wA = w.alloc (.cells #[.int .i8 ma.bd.wd, .int .i8 ma.bd.hg, .slice paa ma.bd.ps.length capp, .slice aia ma.ins.length capia, .slice aoa ma.outs.length capoa] 55) := ⟨_, rfl⟩
  have HBA := Lib.hid (show Below w.heap.size w wA by rw [hwA]; exact bl_alloc (Below.refl _ _))
  have HMA := Lib.hid (show MP wA w.heap.size ma by rw [hwA]; exact MP.new (m := ma) (w := w) ⟨paa, capp, rfl, hpsa⟩ ⟨aia, capia, rfl, hinsa⟩ ⟨aoa, capoa, rfl, houtsa⟩ 55)
  have HXA := Lib.hid (show BX5 wA w.heap.size _ _ _ _ _ by rw [hwA]; exact BX5.new w (.int .i8 ma.bd.wd) (.int .i8 ma.bd.hg) (.slice paa ma.bd.ps.length capp) (.slice aia ma.ins.length capia) (.slice aoa ma.outs.length capoa) 55)
  have hzA : wA.heap.size = w.heap.size + 1 := by rw [hwA]; simp
  obtain ⟨wB, hwB⟩ : ∃ wB, wB = wA.alloc (.cells #[.int .i8 mb.bd.wd, .int .i8 mb.bd.hg, .slice pab mb.bd.ps.length cappb, .slice aib mb.ins.length capib, .slice aob mb.outs.length capob] 55) := ⟨_, rfl⟩
  have HBB := Lib.hid (show Below wA.heap.size wA wB by rw [hwB]; exact bl_alloc (Below.refl _ _))
  have HMB := Lib.hid (show MP wB wA.heap.size mb by rw [hwB]; exact MP.new (m := mb) (w := wA) (PV.step ⟨pab, cappb, rfl, hpsb⟩ HBA.out) (RV.step ⟨aib, capib, rfl, hinsb⟩ HBA.out) (RV.step ⟨aob, capob, rfl, houtsb⟩ HBA.out) 55)
  have HXB := Lib.hid (show BX5 wB wA.heap.size _ _ _ _ _ by rw [hwB]; exact BX5.new wA (.int .i8 mb.bd.wd) (.int .i8 mb.bd.hg) (.slice pab mb.bd.ps.length cappb) (.slice aib mb.ins.length capib) (.slice aob mb.outs.length capob) 55)
  have HWE : Hid ((w.alloc (.cells #[.int .i8 ma.bd.wd, .int .i8 ma.bd.hg, .slice paa ma.bd.ps.length capp, .slice aia ma.ins.length capia, .slice aoa ma.outs.length capoa] 55)).alloc (.cells #[.int .i8 mb.bd.wd, .int .i8 mb.bd.hg, .slice pab mb.bd.ps.length cappb, .slice aib mb.ins.length capib, .slice aob mb.outs.length capob] 55) = wB) := Lib.hid (by rw [hwB, hwA])
  rw [hzA] at HMB HXB
  have HMA2 := Lib.hid (HMA.out.step HBB.out)
  have HXA2 := Lib.hid (HXA.out.step HBB.out)
  have HBW := Lib.hid (bl_trans HBA.out HBB.out)
  have hzB : w.heap.size + 1 < wB.heap.size := by rw [hwB]; simp [hzA]
  clear hwA hwB hpsa hinsa houtsa hpsb hinsb houtsb HBA HMA HXA HBB
  have HOA := Lib.hid (fun w1 (hb : Below wB.heap.size wB w1) => HVA.out w1 (bl_trans HBW.out hb))
  have HOB := Lib.hid (fun w1 (hb : Below wB.heap.size wB w1) => HVB.out w1 (bl_trans HBW.out hb))
  obtain ⟨res, hres⟩ : ∃ res, res = daVal ma mb := ⟨_, rfl⟩
  rw [← hres]
  rcases Bool.eq_false_or_eq_true (vMc ma) with ga | ga
  · rcases Bool.eq_false_or_eq_true (vMc mb) with gb | gb
    · rw [ga] at HOA
      rw [gb] at HOB
      by_cases hl : ma.ins.length = mb.ins.length
      · by_cases ho : ma.outs.length = mb.outs.length
        · obtain ⟨-, -, hi1, hi6, ho1, ho8, -⟩ := vMc_parts ma ga
          have hR : Hid (res = dfVal (dfP (mTabs ma) (mTabs mb) ma.outs.length) (mRows ma)) := Lib.hid (by rw [hres]; unfold daVal; rw [if_pos ⟨ga, gb⟩, if_pos (by simp [daSame, hl, ho])])
          have g1 := eq_len hl
          have g2 := eq_len ho
          have HWA := Lib.hid (fun w1 (hb : Below wB.heap.size wB w1) => worksOf_any w.heap.size ma w1 (HMA2.out.step hb) ga hoka)
          have HWB := Lib.hid (fun w1 (hb : Below wB.heap.size wB w1) => worksOf_any (w.heap.size + 1) mb w1 (HMB.out.step hb) gb hokb)
          have HTA := Lib.hid (fun w1 g (hw : WkAt w1 g w.heap.size ma) => wtables_any g w.heap.size ma w1 hw ga hoka)
          have HTB := Lib.hid (fun w1 g (hw : WkAt w1 g (w.heap.size + 1) mb) => wtables_any g (w.heap.size + 1) mb w1 hw gb hokb)
          have hR64 := mRows_le ma hi6
          have HLE := Lib.hid (fun w1 a a' cap cap' (h1 : SlAt w1.heap.size w1 a (flat U64_cells (mTabI ma))) (h2 : SlAt w1.heap.size w1 a' (flat U64_cells (mTabI mb))) => firstDifferent_any (mTabs ma) (mTabs mb) ma.ins.length ma.outs.length a a' cap cap' w1 (by omega) hi6 (mTabs_len ma) (by rw [mTabs_len]; omega) (ltAll_mono (mTabs_lt ma) (pow_mono2 (b := 64) hR64)) (ltAll_mono (mTabs_lt mb) (by have h9 := hR64; unfold mRows at h9 ⊢; rw [← hl]; exact pow_mono2 (b := 64) h9)) h1 h2)
          have HRE : Hid (2 ^ ma.ins.length = mRows ma) := Lib.hid rfl
          rw [HRE.out, ← hR.out] at HLE
          have HO := Lib.hid ho
          obtain ⟨bA, hbA⟩ : ∃ bA, bA = w.heap.size := ⟨_, rfl⟩
          obtain ⟨bB, hbB⟩ : ∃ bB, bB = w.heap.size + 1 := ⟨_, rfl⟩
          rw [← hbA] at HWA HTA HXA2
          rw [← hbB] at HWB HTB HXB
          have HbA := Lib.hid hbA
          have HbB := Lib.hid hbB
          clear hres hl ho ga gb hR HRE hbA hbB
          go_enter Tryz.func38, Tryz.ntmps38
          go_wp2_with fail
          rw [HWE.out]
          refine (HOA.out _ (Below.refl _ _)).mono ?_
          rintro e w1 ⟨rfl, hb1⟩
          have HB1 := Lib.hid hb1
          have xb := HXB.out.step hb1
          rw [HbB.out] at xb
          obtain ⟨-, y0, y1, y2, y3, y4⟩ := xb
          clear hb1
          go_wp2_with fail
          refine (HOB.out _ HB1.out).mono ?_
          rintro e w2 ⟨rfl, hb2⟩
          have HB2 := Lib.hid (bl_trans HB1.out hb2)
          clear hb2 y0 y1 y2 y3 y4
          have xa := HXA2.out.step HB2.out
          have xb := HXB.out.step HB2.out
          rw [HbA.out] at xa
          rw [HbB.out] at xb
          obtain ⟨-, -, -, -, x3, x4⟩ := xa
          obtain ⟨-, -, -, -, y3, y4⟩ := xb
          go_upto_region 5 with fail
          rw [← HbB.out, ← HbA.out]
          rw [← HbA.out] at x3
          have hlA : bA < w2.heap.size := by have := HB2.out.size; have := HbA.out; omega
          clear x4 y3 y4
          go_region_held3 (fun w' => Below w2.heap.size w2 w' ∧ ∀ b o, b < w2.heap.size → w'.cell? ⟨b, o, none⟩ = w2.cell? ⟨b, o, none⟩) ((refine ext_s ?_; exact (by repeat (first | with_reducible exact Below.refl _ _ | with_reducible assumption | with_reducible apply bl_drewN | with_reducible apply bl_drew | with_reducible apply bl_alloc | (with_reducible refine bl_set ?_ (by first | (simp; done) | (simp; omega)) _) | with_reducible refine bl_trans ?_ (by with_reducible assumption))))) (first | (go_at_call 69; with_reducible refine (HWA.out _ ?_).mono ?_; (exact bl_trans HB2.out (by repeat (first | with_reducible exact Below.refl _ _ | with_reducible assumption | with_reducible apply bl_drewN | with_reducible apply bl_drew | with_reducible apply bl_alloc | (with_reducible refine bl_set ?_ (by first | (simp; done) | (simp; omega)) _) | with_reducible refine bl_trans ?_ (by with_reducible assumption)))); rintro e wa ⟨ga, rfl, -, ka, ba⟩; have bA1 : Below w2.heap.size w2 wa := (by repeat (first | with_reducible exact Below.refl _ _ | with_reducible assumption | with_reducible apply bl_drewN | with_reducible apply bl_drew | with_reducible apply bl_alloc | (with_reducible refine bl_set ?_ (by first | (simp; done) | (simp; omega)) _) | with_reducible refine bl_trans ?_ (by with_reducible assumption))); obtain ⟨hca, hfa⟩ := bcell bA1) | (go_at_call 69; with_reducible refine (HWB.out _ ?_).mono ?_; (exact bl_trans HB2.out (by repeat (first | with_reducible exact Below.refl _ _ | with_reducible assumption | with_reducible apply bl_drewN | with_reducible apply bl_drew | with_reducible apply bl_alloc | (with_reducible refine bl_set ?_ (by first | (simp; done) | (simp; omega)) _) | with_reducible refine bl_trans ?_ (by with_reducible assumption)))); rintro e wc ⟨gb, rfl, -, kb, bc⟩; have bC1 : Below w2.heap.size w2 wc := (by repeat (first | with_reducible exact Below.refl _ _ | with_reducible assumption | with_reducible apply bl_drewN | with_reducible apply bl_drew | with_reducible apply bl_alloc | (with_reducible refine bl_set ?_ (by first | (simp; done) | (simp; omega)) _) | with_reducible refine bl_trans ?_ (by with_reducible assumption))); obtain ⟨hcc, hfc⟩ := bcell bC1) | (go_at_call 92; with_reducible refine (HTA.out _ _ ka).mono ?_; rintro e wd ⟨vd, rfl, od, bd⟩; obtain ⟨ad, capd, rfl, sd, -, -⟩ := own_at od; have bD1 : Below w2.heap.size w2 wd := (by repeat (first | with_reducible exact Below.refl _ _ | with_reducible assumption | with_reducible apply bl_drewN | with_reducible apply bl_drew | with_reducible apply bl_alloc | (with_reducible refine bl_set ?_ (by first | (simp; done) | (simp; omega)) _) | with_reducible refine bl_trans ?_ (by with_reducible assumption))); obtain ⟨hcd, hfd⟩ := bcell bD1) | (go_at_call 92; with_reducible refine (HTB.out _ _ kb).mono ?_; rintro e we ⟨ve, rfl, oe, be⟩; obtain ⟨ae, cape, rfl, se, -, -⟩ := own_at oe; have bE1 : Below w2.heap.size w2 we := (by repeat (first | with_reducible exact Below.refl _ _ | with_reducible assumption | with_reducible apply bl_drewN | with_reducible apply bl_drew | with_reducible apply bl_alloc | (with_reducible refine bl_set ?_ (by first | (simp; done) | (simp; omega)) _) | with_reducible refine bl_trans ?_ (by with_reducible assumption))); obtain ⟨hce, hfe⟩ := bcell bE1; have sde := (sd.below (bl_trans bc be) (Nat.le_refl _)).mono (bl_trans bc be).size; rw [← HO.out]) | (go_at_call 91; refine (HLE.out _ _ _ _ _ sde se).mono ?_; rintro e wf ⟨rfl, bf⟩))
          have bfin : Below w2.heap.size w2 wf := (by repeat (first | with_reducible exact Below.refl _ _ | with_reducible assumption | with_reducible apply bl_drewN | with_reducible apply bl_drew | with_reducible apply bl_alloc | (with_reducible refine bl_set ?_ (by first | (simp; done) | (simp; omega)) _) | with_reducible refine bl_trans ?_ (by with_reducible assumption)))
          go_wp2
          go_ret2
          exact ⟨rfl, bl_trans HBW.out (bl_trans HB2.out bfin)⟩
        · have hR : Hid (res = (0, 4)) := Lib.hid (by rw [hres]; unfold daVal; rw [if_pos ⟨ga, gb⟩, if_neg (by simp [daSame, ho])])
          have g1 := eq_len hl
          have g2 := neq_len ho
          rw [hR.out]
          clear hres hl ho ga gb
          go_enter Tryz.func38, Tryz.ntmps38
          go_wp2_with fail
          rw [HWE.out]
          refine (HOA.out _ (Below.refl _ _)).mono ?_
          rintro e w1 ⟨rfl, hb1⟩
          have HB1 := Lib.hid hb1
          obtain ⟨-, y0, y1, y2, y3, y4⟩ := HXB.out.step hb1
          clear hb1
          go_wp2_with fail
          refine (HOB.out _ HB1.out).mono ?_
          rintro e w2 ⟨rfl, hb2⟩
          have HB2 := Lib.hid (bl_trans HB1.out hb2)
          clear y0 y1 y2 y3 y4
          obtain ⟨-, -, -, -, x3, x4⟩ := HXA2.out.step HB2.out
          obtain ⟨-, -, -, -, y3, y4⟩ := HXB.out.step HB2.out
          clear hb2
          go_wp2
          go_ret2
          exact ⟨rfl, bl_trans HBW.out HB2.out⟩
      · have hR : Hid (res = (0, 4)) := Lib.hid (by rw [hres]; unfold daVal; rw [if_pos ⟨ga, gb⟩, if_neg (by simp [daSame, hl])])
        have g1 := neq_len hl
        rw [hR.out]
        clear hres hl ga gb
        go_enter Tryz.func38, Tryz.ntmps38
        go_wp2_with fail
        rw [HWE.out]
        refine (HOA.out _ (Below.refl _ _)).mono ?_
        rintro e w1 ⟨rfl, hb1⟩
        have HB1 := Lib.hid hb1
        obtain ⟨-, y0, y1, y2, y3, y4⟩ := HXB.out.step hb1
        clear hb1
        go_wp2_with fail
        refine (HOB.out _ HB1.out).mono ?_
        rintro e w2 ⟨rfl, hb2⟩
        have HB2 := Lib.hid (bl_trans HB1.out hb2)
        clear y0 y1 y2 y3 y4
        obtain ⟨-, -, -, -, x3, x4⟩ := HXA2.out.step HB2.out
        obtain ⟨-, -, -, -, y3, y4⟩ := HXB.out.step HB2.out
        clear hb2
        go_wp2
        go_ret2
        exact ⟨rfl, bl_trans HBW.out HB2.out⟩
    · have hR : Hid (res = (0, 1)) := Lib.hid (by rw [hres]; unfold daVal; rw [if_neg (by simp [gb])])
      rw [ga] at HOA
      rw [gb] at HOB
      rw [hR.out]
      clear hres ga gb
      go_enter Tryz.func38, Tryz.ntmps38
      go_wp2_with fail
      rw [HWE.out]
      refine (HOA.out _ (Below.refl _ _)).mono ?_
      rintro e w1 ⟨rfl, hb1⟩
      have HB1 := Lib.hid hb1
      obtain ⟨-, y0, y1, y2, y3, y4⟩ := HXB.out.step hb1
      clear hb1
      go_wp2_with fail
      refine (HOB.out _ HB1.out).mono ?_
      rintro e w2 ⟨rfl, hb2⟩
      have HB2 := Lib.hid (bl_trans HB1.out hb2)
      clear hb2
      go_wp2
      go_ret2
      exact ⟨rfl, bl_trans HBW.out HB2.out⟩
  · have hR : Hid (res = (0, 1)) := Lib.hid (by rw [hres]; unfold daVal; rw [if_neg (by simp [ga])])
    rw [ga] at HOA
    rw [hR.out]
    clear hres ga
    go_enter Tryz.func38, Tryz.ntmps38
    go_wp2_with fail
    rw [HWE.out]
    refine (HOA.out _ (Below.refl _ _)).mono ?_
    rintro e w1 ⟨rfl, hb1⟩
    have HB1 := Lib.hid hb1
    clear hb1
    go_wp2
    go_ret2
    exact ⟨rfl, bl_trans HBW.out HB1.out⟩
end Go.Proofs.YtmeefmoblkiebaaGreat
/- The walk of the law FnPruned. -/
namespace Go.Proofs.YtmeefmoblkiebaaGreat
open Go.RowKit
set_option linter.unusedVariables false
set_option linter.unusedSimpArgs false
set_option maxHeartbeats 400000
set_option maxRecDepth 100000
/-- What the law has drawn. -/
structure PnS (W w : World) (bx : Nat) (wd hg : Int) (vP vI vO : Value) (m : Mc) (a0 a1 : Option Addr) (code more : List Int) : Prop where
  b : Below W.heap.size W w
  x : BX5 w bx (.int .i8 wd) (.int .i8 hg) vP vI vO
  mc : MVc w (mcv wd hg vP vI vO) m
  p : MVp w (mcv wd hg vP vI vO) m
  q : SlAt w.heap.size w a0 (flat U8c code)
  r : SlAt w.heap.size w a1 (flat U8c more)
theorem PnS.step {W w w' : World} {bx : Nat} {wd hg : Int} {vP vI vO : Value} {m : Mc} {a0 a1 : Option Addr} {code more : List Int} (h : PnS W w bx wd hg vP vI vO m a0 a1 code more) (hb : Below w.heap.size w w') : PnS W w' bx wd hg vP vI vO m a0 a1 code more :=
  ⟨bl_trans h.b hb, h.x.step hb, h.mc.step hb, h.p.step hb, (h.q.below hb (Nat.le_refl _)).mono hb.size, (h.r.below hb (Nat.le_refl _)).mono hb.size⟩
theorem own_svN2 {w : World} {base : Nat} {v : Value} {xs : List Int} {n : Nat} {e : TypeId} (h : w.ownsRow base e 1 v n (flat N64_cells xs)) (hn : n = xs.length) : SV N64_cells w v xs := by
  subst hn
  obtain ⟨a, cap, rfl, hs, -⟩ := own_at h
  exact ⟨a, cap, rfl, hs⟩
theorem allocB {u w2 : World} {o : Obj} (h : Below (u.alloc o).heap.size (u.alloc o) w2) : w2.heap[u.heap.size]? = some o := (h.block _ (by simp)).trans (heap_alloc_new u o)
theorem allocBD {u w2 : World} {o : Obj} (h : Below (u.alloc o).drew.heap.size (u.alloc o).drew w2) : w2.heap[u.heap.size]? = some o := (h.block _ (by show u.heap.size < (u.alloc o).heap.size; simp)).trans (heap_alloc_new u o)
theorem bx5_of {w : World} {b : Nat} {v0 v1 v2 v3 v4 : Value} {T : TypeId} (h : w.heap[b]? = some (.cells #[v0, v1, v2, v3, v4] T (0, 0))) : BX5 w b v0 v1 v2 v3 v4 := by
  obtain ⟨y0, y1, y2, y3, y4, -⟩ := five_cells h
  exact ⟨lt_of_block h, y0, y1, y2, y3, y4⟩
theorem ownC_set5 {w : World} {base b : Nat} {s si so : Value} {m : Mc} (h : OwnC w base s si so m) (hb : b < base) (u0 u1 u2 u3 u4 : Value) :
    OwnC (((((w.setCell ⟨b, 0, none⟩ u0).setCell ⟨b, 1, none⟩ u1).setCell ⟨b, 2, none⟩ u2).setCell ⟨b, 3, none⟩ u3).setCell ⟨b, 4, none⟩ u4) base s si so m :=
  ⟨own_set5 h.1 (fun q hq e => by have := (h.1.lt q hq).1; simp at e; omega) _ _ _ _ _, own_set5 h.2.1 (fun q hq e => by have := (h.2.1.lt q hq).1; simp at e; omega) _ _ _ _ _, own_set5 h.2.2 (fun q hq e => by have := (h.2.2.lt q hq).1; simp at e; omega) _ _ _ _ _⟩
theorem pn_fin {W wm : World} {q base : Nat} {s si so z0 z1 z2 z3 z4 : Value} {MD : Mc} {T : TypeId} (hmd : MD.bd.wd = 20 ∧ MD.bd.hg = 20) (hbk : wm.heap[q]? = some (.cells #[z0, z1, z2, z3, z4] T (0, 0))) (om : OwnC wm base s si so MD) (hq : q < base)
    (hH : Below W.heap.size W (((((wm.setCell ⟨q, 0, none⟩ (.int .i8 20)).setCell ⟨q, 1, none⟩ (.int .i8 20)).setCell ⟨q, 2, none⟩ s).setCell ⟨q, 3, none⟩ si).setCell ⟨q, 4, none⟩ so)) :
    ∃ (b : Nat) (s' si' so' : Value), Value.pointer (some ⟨q, 0, none⟩) = .pointer (some ⟨b, 0, none⟩) ∧ Value.int .i64 0 = .int .i64 0 ∧ BX5 (((((wm.setCell ⟨q, 0, none⟩ (.int .i8 20)).setCell ⟨q, 1, none⟩ (.int .i8 20)).setCell ⟨q, 2, none⟩ s).setCell ⟨q, 3, none⟩ si).setCell ⟨q, 4, none⟩ so) b (.int .i8 20) (.int .i8 20) s' si' so' ∧ MVc (((((wm.setCell ⟨q, 0, none⟩ (.int .i8 20)).setCell ⟨q, 1, none⟩ (.int .i8 20)).setCell ⟨q, 2, none⟩ s).setCell ⟨q, 3, none⟩ si).setCell ⟨q, 4, none⟩ so) (mcv 20 20 s' si' so') MD ∧ Below W.heap.size W (((((wm.setCell ⟨q, 0, none⟩ (.int .i8 20)).setCell ⟨q, 1, none⟩ (.int .i8 20)).setCell ⟨q, 2, none⟩ s).setCell ⟨q, 3, none⟩ si).setCell ⟨q, 4, none⟩ so) := by
  have h9 := ownC_mvc (ownC_set5 om hq (.int .i8 20) (.int .i8 20) s si so)
  rw [hmd.1, hmd.2] at h9
  exact ⟨q, s, si, so, rfl, rfl, bx5_of (five_set hbk _ _ _ _ _), h9, hH⟩
theorem ownC_at {w : World} {base : Nat} {s si so : Value} {m : Mc} (h : OwnC w base s si so m) : ∃ sm sn im jn pm qn, s = .slice sm m.bd.ps.length sn ∧ si = .slice im m.ins.length jn ∧ so = .slice pm m.outs.length qn := by
  obtain ⟨a, b, h1, -⟩ := own_at h.1
  obtain ⟨c, d, h2, -⟩ := own_at h.2.1
  obtain ⟨e, f, h3, -⟩ := own_at h.2.2
  exact ⟨a, b, c, d, e, f, h1, h2, h3⟩
theorem allocLt {u w2 : World} {o : Obj} (h : Below (u.alloc o).heap.size (u.alloc o) w2) : u.heap.size < (u.alloc o).heap.size := by simp
theorem allocLtD {u w2 : World} {o : Obj} (h : Below (u.alloc o).drew.heap.size (u.alloc o).drew w2) : u.heap.size < (u.alloc o).drew.heap.size := by show u.heap.size < (u.alloc o).heap.size; simp
theorem pn_fin0 {W wm : World} {base : Nat} {s si so : Value} {MD : Mc} {T : TypeId} (hmd : MD.bd.wd = 20 ∧ MD.bd.hg = 20) (om : OwnC wm base s si so MD)
    (hH : Below W.heap.size W (wm.alloc (.cells #[.int .i8 20, .int .i8 20, s, si, so] T))) :
    ∃ (b : Nat) (s' si' so' : Value), Value.pointer (some ⟨wm.heap.size, 0, none⟩) = .pointer (some ⟨b, 0, none⟩) ∧ Value.int .i64 0 = .int .i64 0 ∧ BX5 (wm.alloc (.cells #[.int .i8 20, .int .i8 20, s, si, so] T)) b (.int .i8 20) (.int .i8 20) s' si' so' ∧ MVc (wm.alloc (.cells #[.int .i8 20, .int .i8 20, s, si, so] T)) (mcv 20 20 s' si' so') MD ∧ Below W.heap.size W (wm.alloc (.cells #[.int .i8 20, .int .i8 20, s, si, so] T)) := by
  have h9 := ownC_mvc om
  rw [hmd.1, hmd.2] at h9
  exact ⟨_, s, si, so, rfl, rfl, bx5_of (heap_alloc_new _ _), h9.step (bl_alloc (Below.refl _ _)), hH⟩
set_option maxHeartbeats 6000000 in
set_option maxRecDepth 100000 in
theorem lawPruned_any (a : Option Addr) (cap : Nat) (code : List Int) (a1 : Option Addr) (cap1 : Nat) (more : List Int) (w : World) (h0 : SlAt w.heap.size w a (flat U8c code)) (ok0 : ∀ k (h : k < code.length), okU8 code[k]) (h1 : SlAt w.heap.size w a1 (flat U8c more)) (ok1 : ∀ k (h : k < more.length), okU8 more[k]) :
    Calls Tryz.prog 5 #[.slice a code.length cap, .slice a1 more.length cap1] w fun e w' => e = .returned (.bool true) ∧ Below w.heap.size w w' := by
  by_cases hL : 4096 < code.length
  · have hL1 : decide (4096 < code.length) = true := by simpa using hL
    go_enter Tryz.func5, Tryz.ntmps5
    go_wp2_with fail
    refine (f6big_any a code.length cap _).mono ?_
    rintro e w' ⟨rfl, rfl⟩
    rw [hL1]
    go_wp2
    go_ret
    exact ⟨rfl, Below.refl _ _⟩
  by_cases hM : 4096 < more.length
  · have hL1 : decide (4096 < code.length) = false := by simpa using hL
    have hM1 : decide (4096 < more.length) = true := by simpa using hM
    go_enter Tryz.func5, Tryz.ntmps5
    go_wp2_with fail
    refine (f6big_any a code.length cap _).mono ?_
    rintro e w' ⟨rfl, rfl⟩
    rw [hL1]
    go_wp2_with fail
    refine (f6big_any a1 more.length cap1 _).mono ?_
    rintro e w' ⟨rfl, rfl⟩
    rw [hM1]
    go_wp2
    go_ret
    exact ⟨rfl, Below.refl _ _⟩
  have HL1 := Lib.hid (show decide (4096 < code.length) = false by simpa using hL)
  have HM1 := Lib.hid (show decide (4096 < more.length) = false by simpa using hM)
  have B0 : BytesOk code := ⟨by omega, ok0⟩
  have B1 : BytesOk more := ⟨by omega, ok1⟩
  have hcl : code.length ≤ 4096 ∧ more.length ≤ 4096 := by omega
  have H0 := Lib.hid h0
  have H1 := Lib.hid h1
  have B0' := Lib.hid B0
  have B1' := Lib.hid B1
  have HB := Lib.hid (p6Machine_any a cap code w h0 B0)
  clear hL hM ok0 ok1 h0 h1 B0 B1
  go_enter Tryz.func5, Tryz.ntmps5
  go_wp2_with fail
  refine (f6big_any a code.length cap _).mono ?_
  rintro e w' ⟨rfl, rfl⟩
  rw [HL1.out]
  go_wp2_with fail
  refine (f6big_any a1 more.length cap1 _).mono ?_
  rintro e w' ⟨rfl, rfl⟩
  rw [HM1.out]
  go_wp2_with fail
  refine HB.out.mono ?_
  rintro e w1 ⟨wd, hg, vP, vI, vO, rfl, ps, is, os, hv, hok, ⟨hn3, hwd5, hhg2⟩, hown, hb1⟩
  obtain ⟨pA, pC, rfl, -⟩ := own_at hown.1
  obtain ⟨iA, iC, rfl, -⟩ := own_at hown.2.1
  obtain ⟨oA, oC, rfl, -⟩ := own_at hown.2.2.1
  have hmv0 : MVc w1 (mcv wd hg (.slice pA ps.length pC) (.slice iA is.length iC) (.slice oA os.length oC)) ⟨⟨wd, hg, ps⟩, is, os⟩ := hown.mvc
  have hmp0 : MVp w1 (mcv wd hg (.slice pA ps.length pC) (.slice iA is.length iC) (.slice oA os.length oC)) ⟨⟨wd, hg, ps⟩, is, os⟩ := hown.mvp
  have hb11 : Below w1.heap.size w1 (w1.alloc (.cells #[.int .i8 wd, .int .i8 hg, .slice pA ps.length pC, .slice iA is.length iC, .slice oA os.length oC] 55)) := bl_alloc (Below.refl _ _)
  have X1 : Hid (BX5 (w1.alloc (.cells #[.int .i8 wd, .int .i8 hg, .slice pA ps.length pC, .slice iA is.length iC, .slice oA os.length oC] 55)) w1.heap.size (.int .i8 wd) (.int .i8 hg) (.slice pA ps.length pC) (.slice iA is.length iC) (.slice oA os.length oC)) := Lib.hid (BX5.new _ _ _ _ _ _ _)
  have hmv1 := hmv0.step hb11
  have hmp1 := hmp0.step hb11
  have hb12 := bl_trans hb1 hb11
  have hq0 := (H0.out.below hb12 (Nat.le_refl _)).mono hb12.size
  have hq1 := (H1.out.below hb12 (Nat.le_refl _)).mono hb12.size
  obtain ⟨bx, hbx⟩ : ∃ bx, bx = w1.heap.size := ⟨_, rfl⟩
  obtain ⟨u1, hu1⟩ : ∃ u1, u1 = w1.alloc (.cells #[.int .i8 wd, .int .i8 hg, .slice pA ps.length pC, .slice iA is.length iC, .slice oA os.length oC] 55) := ⟨_, rfl⟩
  rw [← hu1, ← hbx] at X1
  rw [← hu1] at hmv1 hmp1 hb12 hq0 hq1
  have HS : Hid (PnS w u1 bx wd hg (.slice pA ps.length pC) (.slice iA is.length iC) (.slice oA os.length oC) ⟨⟨wd, hg, ps⟩, is, os⟩ a a1 code more) := Lib.hid ⟨hb12, X1.out, hmv1, hmp1, hq0, hq1⟩
  have hparts := vMc_parts _ hv
  have hi1 : 1 ≤ is.length := hparts.2.2.1
  have hps60 : ps.length ≤ 60 := hparts.2.1
  have hos8 : os.length ≤ 8 := hparts.2.2.2.2.2.1
  obtain ⟨pd, ph, ⟨c, pc, pl, pz⟩, pm0, pm1, pok, pv, pu, pda, pin, pout⟩ := pr_all ⟨⟨wd, hg, ps⟩, is, os⟩ hv hok
  obtain ⟨P, hP⟩ : ∃ P, P = prM ⟨⟨wd, hg, ps⟩, is, os⟩ := ⟨_, rfl⟩
  have HP0 := fun u (h : PnS w u bx wd hg (.slice pA ps.length pC) (.slice iA is.length iC) (.slice oA os.length oC) ⟨⟨wd, hg, ps⟩, is, os⟩ a a1 code more) => pruneMachine_any ⟨⟨wd, hg, ps⟩, is, os⟩ (mcv wd hg (.slice pA ps.length pC) (.slice iA is.length iC) (.slice oA os.length oC)) u h.mc hok (by show ps.length ≤ 10000000; omega) (by show is.length ≤ 10000000; omega) (by show os.length ≤ 10000000; omega)
  have HQ0 := fun u (h : PnS w u bx wd hg (.slice pA ps.length pC) (.slice iA is.length iC) (.slice oA os.length oC) ⟨⟨wd, hg, ps⟩, is, os⟩ a a1 code more) => specPruneMachine_any ⟨⟨wd, hg, ps⟩, is, os⟩ (mcv wd hg (.slice pA ps.length pC) (.slice iA is.length iC) (.slice oA os.length oC)) u h.p hok (by show ps.length ≤ 10000000; omega) (by show is.length ≤ 10000000; omega) (by show os.length ≤ 10000000; omega)
  have HU0 := fun u (h : PnS w u bx wd hg (.slice pA ps.length pC) (.slice iA is.length iC) (.slice oA os.length oC) ⟨⟨wd, hg, ps⟩, is, os⟩ a a1 code more) => uselessParts_any ⟨⟨wd, hg, ps⟩, is, os⟩ (mcv wd hg (.slice pA ps.length pC) (.slice iA is.length iC) (.slice oA os.length oC)) u h.mc hok (by show ps.length ≤ 10000000; omega) (by show is.length ≤ 10000000; omega) (by show os.length ≤ 10000000; omega)
  have HV0 := fun u (h : PnS w u bx wd hg (.slice pA ps.length pC) (.slice iA is.length iC) (.slice oA os.length oC) ⟨⟨wd, hg, ps⟩, is, os⟩ a a1 code more) => specUselessParts_any ⟨⟨wd, hg, ps⟩, is, os⟩ (mcv wd hg (.slice pA ps.length pC) (.slice iA is.length iC) (.slice oA os.length oC)) u h.p hok (by show ps.length ≤ 10000000; omega) (by show is.length ≤ 10000000; omega) (by show os.length ≤ 10000000; omega)
  have HD0 := fun u (h : PnS w u bx wd hg (.slice pA ps.length pC) (.slice iA is.length iC) (.slice oA os.length oC) ⟨⟨wd, hg, ps⟩, is, os⟩ a a1 code more) vb (hb : MVc u vb P) => differAt_any ⟨⟨wd, hg, ps⟩, is, os⟩ P (mcv wd hg (.slice pA ps.length pC) (.slice iA is.length iC) (.slice oA os.length oC)) vb u h.mc hb hok (by rw [hP]; exact pok) (by show ps.length ≤ 10000000; omega) (by show is.length ≤ 10000000; omega) (by show os.length ≤ 10000000; omega)
  have hUL := ulList_len ⟨⟨wd, hg, ps⟩, is, os⟩
  obtain ⟨ul, hul⟩ : ∃ x, x = ulList ⟨⟨wd, hg, ps⟩, is, os⟩ := ⟨_, rfl⟩
  simp only [pm0, pc, ← hP] at HP0 HQ0
  simp only [pm0, ← hul] at HU0 HV0
  rw [← hP] at pd ph pl pm1 pok pv pu pda pin pout
  rw [← hul] at pz hUL
  simp only [pda] at HD0
  have hP60 : P.bd.ps.length ≤ 60 ∧ P.ins.length ≤ 60 ∧ P.outs.length ≤ 60 := by
    rw [pin, pout]
    refine ⟨?_, ?_, ?_⟩
    · have : P.bd.ps.length + c = ps.length := pl
      omega
    · show is.length ≤ 60; omega
    · show os.length ≤ 60; omega
  have KP := Lib.hid HP0
  have KQ := Lib.hid HQ0
  have KU := Lib.hid HU0
  have KV := Lib.hid HV0
  have KD := Lib.hid (fun u (h : PnS w u bx wd hg (.slice pA ps.length pC) (.slice iA is.length iC) (.slice oA os.length oC) ⟨⟨wd, hg, ps⟩, is, os⟩ a a1 code more) vb (hb : MVc u vb P) => HD0 u h vb hb (by omega) (by omega) (by omega))
  have hul60 : ul.length ≤ 60 := Nat.le_trans hUL hps60
  have PL : Hid (P.bd.ps.length + c = ps.length) := Lib.hid pl
  have PZ := Lib.hid pz
  have POK := Lib.hid pok
  have PU := Lib.hid pu
  have PM1 := Lib.hid pm1
  have PDH : Hid (P.bd.wd = wd ∧ P.bd.hg = hg) := Lib.hid ⟨pd, ph⟩
  have HV := Lib.hid hv
  have HOK := Lib.hid hok
  have hcP : c ≤ 60 ∧ (P.bd.ps.length : Int) = (ps.length : Int) - (c : Int) := by have : P.bd.ps.length + c = ps.length := pl; omega
  have HCP := Lib.hid hcP.2
  have hc60 := hcP.1
  clear hparts hv hok hown hmv0 hmv1 hmp0 hmp1 hb11 hb12 hq0 hq1 X1 hb1 HB H0 H1 pd ph pc pl pz pm0 pm1 pok pv pu pda pin pout HP0 HQ0 HU0 HV0 HD0 hP hul hUL hcP
  obtain ⟨x0, x1, x2, x3, x4, x5⟩ := HS.out.x
  go_upto_region 4 with fail
  rw [← hu1, ← hbx]
  clear hu1 hbx
  go_wp2_with fail
  refine (KP.out u1 HS.out).mono ?_
  rintro e u2 ⟨s2, i2, o2, rfl, hown2, hb2⟩
  obtain ⟨sA, sC, rfl, -⟩ := own_at hown2.1
  obtain ⟨jA, jC, rfl, -⟩ := own_at hown2.2.1
  obtain ⟨kA, kC, rfl, -⟩ := own_at hown2.2.2.1
  have hb23 : Below u2.heap.size u2 (u2.alloc (.cells #[.int .i8 P.bd.wd, .int .i8 P.bd.hg, .slice sA P.bd.ps.length sC, .slice jA P.ins.length jC, .slice kA P.outs.length kC] 55)) := bl_alloc (Below.refl _ _)
  have X6 : Hid (BX5 (u2.alloc (.cells #[.int .i8 P.bd.wd, .int .i8 P.bd.hg, .slice sA P.bd.ps.length sC, .slice jA P.ins.length jC, .slice kA P.outs.length kC] 55)) u2.heap.size (.int .i8 P.bd.wd) (.int .i8 P.bd.hg) (.slice sA P.bd.ps.length sC) (.slice jA P.ins.length jC) (.slice kA P.outs.length kC)) := Lib.hid (BX5.new _ _ _ _ _ _ _)
  have hm6 := (hown2.mvc.mv).step hb23
  obtain ⟨b6, hb6⟩ : ∃ b6, b6 = u2.heap.size := ⟨_, rfl⟩
  obtain ⟨u3, hu3⟩ : ∃ u3, u3 = u2.alloc (.cells #[.int .i8 P.bd.wd, .int .i8 P.bd.hg, .slice sA P.bd.ps.length sC, .slice jA P.ins.length jC, .slice kA P.outs.length kC] 55) := ⟨_, rfl⟩
  have HS3 := Lib.hid (HS.out.step (bl_trans hb2 hb23))
  rw [← hu3, ← hb6] at X6
  rw [← hu3] at hm6 HS3
  have M6 := Lib.hid hm6
  clear hown2 hb2 hb23 hm6 x0 x1 x2 x3 x4 x5 HS
  obtain ⟨x0, x1, x2, x3, x4, x5⟩ := HS3.out.x
  go_upto_region 5 with fail
  rw [← hu3, ← hb6]
  clear hu3 hb6
  go_wp2_with fail
  refine (KQ.out u3 HS3.out).mono ?_
  rintro e u4 ⟨s2, i2, o2, rfl, hown4, hb4⟩
  obtain ⟨sA9, sC9, rfl, -⟩ := own_at hown4.1
  obtain ⟨jA9, jC9, rfl, -⟩ := own_at hown4.2.1
  obtain ⟨kA9, kC9, rfl, -⟩ := own_at hown4.2.2
  have hb45 : Below u4.heap.size u4 (u4.alloc (.cells #[.int .i8 P.bd.wd, .int .i8 P.bd.hg, .slice sA9 P.bd.ps.length sC9, .slice jA9 P.ins.length jC9, .slice kA9 P.outs.length kC9] 55)) := bl_alloc (Below.refl _ _)
  have X9 : Hid (BX5 (u4.alloc (.cells #[.int .i8 P.bd.wd, .int .i8 P.bd.hg, .slice sA9 P.bd.ps.length sC9, .slice jA9 P.ins.length jC9, .slice kA9 P.outs.length kC9] 55)) u4.heap.size (.int .i8 P.bd.wd) (.int .i8 P.bd.hg) (.slice sA9 P.bd.ps.length sC9) (.slice jA9 P.ins.length jC9) (.slice kA9 P.outs.length kC9)) := Lib.hid (BX5.new _ _ _ _ _ _ _)
  have hm9 := (ownC_mvc hown4).step hb45
  obtain ⟨b9, hb9⟩ : ∃ b9, b9 = u4.heap.size := ⟨_, rfl⟩
  obtain ⟨u5, hu5⟩ : ∃ u5, u5 = u4.alloc (.cells #[.int .i8 P.bd.wd, .int .i8 P.bd.hg, .slice sA9 P.bd.ps.length sC9, .slice jA9 P.ins.length jC9, .slice kA9 P.outs.length kC9] 55) := ⟨_, rfl⟩
  have HS5 := Lib.hid (HS3.out.step (bl_trans hb4 hb45))
  have X6b := Lib.hid (X6.out.step (bl_trans hb4 hb45))
  have M6b := Lib.hid (M6.out.step (bl_trans hb4 hb45))
  rw [← hu5, ← hb9] at X9
  rw [← hu5] at hm9 HS5 X6b M6b
  have M9 := Lib.hid hm9
  clear hown4 hb4 hb45 hm9 x0 x1 x2 x3 x4 x5 HS3 X6 M6
  obtain ⟨x0, x1, x2, x3, x4, x5⟩ := HS5.out.x
  go_upto_region 6 with fail
  rw [← hu5, ← hb9]
  clear hu5 hb9
  go_wp2_with fail
  refine (KU.out u5 HS5.out).mono ?_
  rintro e u6 ⟨vl, rfl, hownl, hb6⟩
  obtain ⟨lA, lC, rfl, -⟩ := own_at hownl
  have HL6 := Lib.hid (own_svN2 hownl rfl)
  have HS6 := Lib.hid (HS5.out.step hb6)
  have X66 := Lib.hid (X6b.out.step hb6)
  have M66 := Lib.hid (M6b.out.step hb6)
  have X96 := Lib.hid (X9.out.step hb6)
  have M96 := Lib.hid (M9.out.step hb6)
  clear hownl hb6 x0 x1 x2 x3 x4 x5 HS5 X6b M6b X9 M9
  obtain ⟨x0, x1, x2, x3, x4, x5⟩ := HS6.out.x
  go_wp2_with fail
  refine (KV.out u6 HS6.out).mono ?_
  rintro e u7 ⟨vt, rfl, hownt, hb7⟩
  obtain ⟨tA, tC, rfl, -⟩ := own_at hownt
  have HT7 := Lib.hid (own_svN2 hownt rfl)
  have HS7 := Lib.hid (HS6.out.step hb7)
  have HL7 := Lib.hid (HL6.out.step hb7)
  have X67 := Lib.hid (X66.out.step hb7)
  have M67 := Lib.hid (M66.out.step hb7)
  have X97 := Lib.hid (X96.out.step hb7)
  have M97 := Lib.hid (M96.out.step hb7)
  clear hownt hb7 x0 x1 x2 x3 x4 x5 HS6 HL6 X66 M66 X96 M96
  have KSM := Lib.hid (sameMachine_eq P _ _ u7 M67.out M97.out.mv (by omega) (by omega) (by omega))
  obtain ⟨x0, x1, x2, x3, x4, x5⟩ := HS7.out.x
  obtain ⟨y0, y1, y2, y3, y4, y5⟩ := X67.out
  obtain ⟨z0, z1, z2, z3, z4, z5⟩ := X97.out
  go_wp2_with fail
  refine KSM.out.mono ?_
  rintro e u8 ⟨rfl, hb8⟩
  have HS8 := Lib.hid (HS7.out.step hb8)
  have HL8 := Lib.hid (HL7.out.step hb8)
  have HT8 := Lib.hid (HT7.out.step hb8)
  have X68 := Lib.hid (X67.out.step hb8)
  have X98 := Lib.hid (X97.out.step hb8)
  have M98 := Lib.hid (M97.out.step hb8)
  clear hb8 x0 x1 x2 x3 x4 x5 y0 y1 y2 y3 y4 y5 z0 z1 z2 z3 z4 z5 HS7 HL7 HT7 X67 M67 X97 M97 KSM
  have HSL : Hid (Calls Tryz.prog 28 #[.slice lA ul.length lC, .slice tA ul.length tC] u8 fun e w' => e = .returned (.bool true) ∧ Below u8.heap.size u8 w') := Lib.hid (by
    have := sameList_any (.slice lA ul.length lC) (.slice tA ul.length tC) ul ul u8 HL8.out HT8.out (by omega) (by omega)
    rw [decide_eq_true rfl] at this
    exact this)
  obtain ⟨x0, x1, x2, x3, x4, x5⟩ := HS8.out.x
  obtain ⟨z0, z1, z2, z3, z4, z5⟩ := X98.out
  go_wp2_with fail
  refine HSL.out.mono ?_
  rintro e u9 ⟨rfl, hb9⟩
  have HS9 := Lib.hid (HS8.out.step hb9)
  have X99 := Lib.hid (X98.out.step hb9)
  have M99 := Lib.hid (M98.out.step hb9)
  clear hb9 x0 x1 x2 x3 x4 x5 z0 z1 z2 z3 z4 z5 HS8 HL8 HT8 X68 X98 M98 HSL
  obtain ⟨x0, x1, x2, x3, x4, x5⟩ := HS9.out.x
  obtain ⟨z0, z1, z2, z3, z4, z5⟩ := X99.out
  have hw1 : IntKind.i64.wrap ((ps.length : Int) - (c : Int)) = (P.bd.ps.length : Int) := by rw [HCP.out]; exact wrap_i64' _ (by omega) (by omega)
  obtain ⟨zz, hz1, hz2⟩ : ∃ zz, ((ul.length : Int) == 0) = zz ∧ ((c : Int) == 0) = zz := by
    refine ⟨_, rfl, ?_⟩
    have h9 := PZ.out
    by_cases hc : c = 0
    · have := h9.2 hc
      rw [hc, this]
    · have h8 : ul.length ≠ 0 := fun e => hc (h9.1 e)
      have e1 : ((c : Int) == 0) = false := beq_false_of_ne (by omega)
      have e2 : ((ul.length : Int) == 0) = false := beq_false_of_ne (by omega)
      rw [e1, e2]
  have hz3 : (zz != zz) = false := by simp
  go_upto_region 10 with fail
  have HDD := Lib.hid (KD.out u9 HS9.out _ M99.out)
  clear hw1 hz1 hz2 hz3
  go_wp2_with fail
  refine HDD.out.mono ?_
  rintro e v1 ⟨rfl, hb⟩
  have HSa := Lib.hid (HS9.out.step hb)
  have X9a := Lib.hid (X99.out.step hb)
  have M9a := Lib.hid (M99.out.step hb)
  clear hb x0 x1 x2 x3 x4 x5 z0 z1 z2 z3 z4 z5 HS9 X99 M99 HDD
  obtain ⟨z0, z1, z2, z3, z4, z5⟩ := X9a.out
  have HUP : Hid (Calls Tryz.prog 35 #[mcv P.bd.wd P.bd.hg (.slice sA9 P.bd.ps.length sC9) (.slice jA9 P.ins.length jC9) (.slice kA9 P.outs.length kC9)] v1 fun e w' => ∃ nA nC, e = .returned (.tuple #[.slice nA 0 nC, .int .i64 0]) ∧ Below v1.heap.size v1 w') := Lib.hid (by
    have h9 := uselessParts_any P _ v1 M9a.out POK.out (by omega) (by omega) (by omega)
    rw [PM1.out, PU.out] at h9
    refine h9.mono ?_
    rintro e w' ⟨v, rfl, hown, hb⟩
    obtain ⟨nA, nC, rfl, -⟩ := own_at hown
    exact ⟨nA, nC, rfl, hb⟩)
  go_wp2_with fail
  refine HUP.out.mono ?_
  rintro e v2 ⟨nA, nC, rfl, hb⟩
  have HSb := Lib.hid (HSa.out.step hb)
  clear hb z0 z1 z2 z3 z4 z5 HSa X9a M9a HUP
  obtain ⟨x0, x1, x2, x3, x4, x5⟩ := HSb.out.x
  go_upto_region 14 with fail
  clear KP KQ KU KV KD
  go_upto_region 17 with fail
  have hq := heap_alloc_new v2 (.cells #[.int .i8 20, .int .i8 20, .slice pA ps.length pC, .slice iA is.length iC, .slice oA os.length oC] 55)
  have hbw : Below v2.heap.size v2 (v2.alloc (.cells #[.int .i8 20, .int .i8 20, .slice pA ps.length pC, .slice iA is.length iC, .slice oA os.length oC] 55)) := bl_alloc (Below.refl _ _)
  obtain ⟨b20, hB20⟩ : ∃ b20, b20 = v2.heap.size := ⟨_, rfl⟩
  obtain ⟨W, hW⟩ : ∃ W, W = v2.alloc (.cells #[.int .i8 20, .int .i8 20, .slice pA ps.length pC, .slice iA is.length iC, .slice oA os.length oC] 55) := ⟨_, rfl⟩
  rw [← hW] at hq hbw
  rw [← hB20] at hq
  rw [← hW, ← hB20]
  have HSc := Lib.hid (HSb.out.step hbw)
  clear hbw hB20 hW x0 x1 x2 x3 x4 x5 HSb
  have hmw : MVc W (mcv 20 20 (.slice pA ps.length pC) (.slice iA is.length iC) (.slice oA os.length oC)) (wideM ⟨⟨wd, hg, ps⟩, is, os⟩) := by
    obtain ⟨sa, scap, ia, icap, oa, ocap, he, h0, h1, h2, h3⟩ := HSc.out.mc
    simp only [mcv, Value.agg.injEq, Array.mk.injEq, List.cons.injEq, Value.slice.injEq, and_true, true_and] at he
    obtain ⟨⟨rfl, rfl⟩, ⟨rfl, rfl⟩, rfl, rfl⟩ := he
    exact ⟨_, _, _, _, _, _, rfl, h0, h1, h2, h3⟩
  obtain ⟨e, he⟩ : ∃ e, e = pkV more 9 := ⟨_, rfl⟩
  obtain ⟨d, hd⟩ : ∃ d, d = pkV code 9 := ⟨_, rfl⟩
  have hed : (0 ≤ e ∧ e < 9) ∧ 0 ≤ d ∧ d < 9 := by rw [he, hd]; exact ⟨pkV_bounds _ _ (by omega), pkV_bounds _ _ (by omega)⟩
  have HMO := mvOk_wide ⟨⟨wd, hg, ps⟩, is, os⟩ HV.out HOK.out e d (by omega) (by omega) (by show wd ≤ 10 ∧ hg ≤ 10; omega)
  have HDA := da_moved ⟨⟨wd, hg, ps⟩, is, os⟩ HV.out HOK.out e d (by omega) (by omega) (by show wd ≤ 10 ∧ hg ≤ 10; omega)
  have HMok := mvM_ok ⟨⟨wd, hg, ps⟩, is, os⟩ HV.out HOK.out e d (by omega) (by omega)
  obtain ⟨MD, hMD⟩ : ∃ MD, MD = mvM (wideM ⟨⟨wd, hg, ps⟩, is, os⟩) 20 20 e d := ⟨_, rfl⟩
  have MDW : Hid (MD.bd.wd = 20 ∧ MD.bd.hg = 20 ∧ MD.bd.ps.length = ps.length ∧ MD.ins.length = is.length ∧ MD.outs.length = os.length ∧ MD.ok ∧ daVal ⟨⟨wd, hg, ps⟩, is, os⟩ MD = (0, 6)) := Lib.hid (by
    rw [hMD]
    exact ⟨rfl, rfl, List.length_map _, List.length_map _, List.length_map _, HMok, HDA⟩)
  have KM : Hid (∀ u, Below W.heap.size W u → Calls Tryz.prog 39 #[mcv 20 20 (.slice pA ps.length pC) (.slice iA is.length iC) (.slice oA os.length oC), .int .i64 e, .int .i64 d] u fun r w' => ∃ s si so, r = .returned (.tuple #[mcv 20 20 s si so, .int .i64 0]) ∧ OwnC w' u.heap.size s si so MD ∧ Below u.heap.size u w') := Lib.hid (fun u hb => by
    rw [hMD]
    exact moveMachine_ok (wideM ⟨⟨wd, hg, ps⟩, is, os⟩) e d _ u (hmw.step hb) HMO)
  have KN : Hid (∀ u, Below W.heap.size W u → Calls Tryz.prog 40 #[mcv 20 20 (.slice pA ps.length pC) (.slice iA is.length iC) (.slice oA os.length oC), .int .i64 e, .int .i64 d] u fun r w' => ∃ s si so, r = .returned (.tuple #[mcv 20 20 s si so, .int .i64 0]) ∧ OwnC w' u.heap.size s si so MD ∧ Below u.heap.size u w') := Lib.hid (fun u hb => by
    rw [hMD]
    exact specMoveMachine_ok (wideM ⟨⟨wd, hg, ps⟩, is, os⟩) e d _ u (hmw.step hb) HMO)
  have KE : Hid (∀ u, Below W.heap.size W u → Calls Tryz.prog 24 #[.slice a1 more.length cap1, .int .i64 9] u fun r w' => r = .returned (.int .i64 e) ∧ Below u.heap.size u w') := Lib.hid (fun u hb => by
    rw [he]
    exact p6PickF_any a1 cap1 more 9 (by omega) u ((HSc.out.r.below hb (Nat.le_refl _)).mono hb.size) B1'.out)
  have KF : Hid (∀ u, Below W.heap.size W u → Calls Tryz.prog 24 #[.slice a code.length cap, .int .i64 9] u fun r w' => r = .returned (.int .i64 d) ∧ Below u.heap.size u w') := Lib.hid (fun u hb => by
    rw [hd]
    exact p6PickF_any a cap code 9 (by omega) u ((HSc.out.q.below hb (Nat.le_refl _)).mono hb.size) B0'.out)
  have HQ := Lib.hid hq
  have hbl := lt_of_block hq
  obtain ⟨y0, y1, y2, y3, y4, -⟩ := five_cells hq
  clear hq hmw he hd HMO HDA HMok hMD
  go_cut [21, 22] from 138 (fun p cd wx => ∃ (b : Nat) (s si so : Value), p = .pointer (some ⟨b, 0, none⟩) ∧ cd = .int .i64 0 ∧ BX5 wx b (.int .i8 20) (.int .i8 20) s si so ∧ MVc wx (mcv 20 20 s si so) MD ∧ Below W.heap.size W wx)
  case first =>
    go_region_held3 (fun w' => Below W.heap.size W w' ∧ ∀ b o, b < W.heap.size → w'.cell? ⟨b, o, none⟩ = W.cell? ⟨b, o, none⟩) ((refine ext_s ?_; exact (by repeat (first | with_reducible exact Below.refl _ _ | with_reducible assumption | with_reducible apply bl_drewN | with_reducible apply bl_drew | with_reducible apply bl_alloc | (with_reducible refine bl_set ?_ (by first | (simp; done) | (simp; omega)) _) | with_reducible refine bl_trans ?_ (by with_reducible assumption))))) (first | (go_at_call 24; with_reducible (show Calls _ _ _ (World.alloc _ _) _); refine (KE.out _ ?_).mono ?_; (exact (by repeat (first | with_reducible exact Below.refl _ _ | with_reducible assumption | with_reducible apply bl_drewN | with_reducible apply bl_drew | with_reducible apply bl_alloc | (with_reducible refine bl_set ?_ (by first | (simp; done) | (simp; omega)) _) | with_reducible refine bl_trans ?_ (by with_reducible assumption)))); rintro r wa ⟨rfl, ba⟩; obtain ⟨hca, hfa⟩ := bcell ba; have hbk := Lib.hid (allocB ba); have hqb := allocLt ba; have hlk := lt_of_block hbk.out; obtain ⟨z0, z1, z2, z3, z4, g0, g1, g2, g3, g4⟩ := five_cells hbk.out) | (go_at_call 24; with_reducible (show Calls _ _ _ (World.drew (World.alloc _ _)) _); refine (KE.out _ ?_).mono ?_; (exact (by repeat (first | with_reducible exact Below.refl _ _ | with_reducible assumption | with_reducible apply bl_drewN | with_reducible apply bl_drew | with_reducible apply bl_alloc | (with_reducible refine bl_set ?_ (by first | (simp; done) | (simp; omega)) _) | with_reducible refine bl_trans ?_ (by with_reducible assumption)))); rintro r wa ⟨rfl, ba⟩; obtain ⟨hca, hfa⟩ := bcell ba; have hbk := Lib.hid (allocBD ba); have hqb := allocLtD ba; have hlk := lt_of_block hbk.out; obtain ⟨z0, z1, z2, z3, z4, g0, g1, g2, g3, g4⟩ := five_cells hbk.out) | (go_at_call 24; have hbk2 := hbk; refine (KE.out _ ?_).mono ?_; (exact (by repeat (first | with_reducible exact Below.refl _ _ | with_reducible assumption | with_reducible apply bl_drewN | with_reducible apply bl_drew | with_reducible apply bl_alloc | (with_reducible refine bl_set ?_ (by first | (simp; done) | (simp; omega)) _) | with_reducible refine bl_trans ?_ (by with_reducible assumption)))); rintro r wa ⟨rfl, ba⟩; obtain ⟨hca, hfa⟩ := bcell ba; have hqb := lt_of_block hbk2.out; have hbk := Lib.hid ((ba.block _ (lt_of_block hbk2.out)).trans hbk2.out); have hlk := lt_of_block hbk.out; obtain ⟨z0, z1, z2, z3, z4, g0, g1, g2, g3, g4⟩ := five_cells hbk.out) | (go_at_call 24; refine (KE.out _ ?_).mono ?_; (exact (by repeat (first | with_reducible exact Below.refl _ _ | with_reducible assumption | with_reducible apply bl_drewN | with_reducible apply bl_drew | with_reducible apply bl_alloc | (with_reducible refine bl_set ?_ (by first | (simp; done) | (simp; omega)) _) | with_reducible refine bl_trans ?_ (by with_reducible assumption)))); rintro r wa ⟨rfl, ba⟩; obtain ⟨hca, hfa⟩ := bcell ba; have hza := ba.size; (try simp [Nat.succ_le_iff] at hza)) | (go_at_call 24; with_reducible (show Calls _ _ _ (World.alloc _ _) _); refine (KF.out _ ?_).mono ?_; (exact (by repeat (first | with_reducible exact Below.refl _ _ | with_reducible assumption | with_reducible apply bl_drewN | with_reducible apply bl_drew | with_reducible apply bl_alloc | (with_reducible refine bl_set ?_ (by first | (simp; done) | (simp; omega)) _) | with_reducible refine bl_trans ?_ (by with_reducible assumption)))); rintro r wb ⟨rfl, bb⟩; obtain ⟨hcb, hfb⟩ := bcell bb; have hbk := Lib.hid (allocB bb); have hqb := allocLt bb; have hlk := lt_of_block hbk.out; obtain ⟨z0, z1, z2, z3, z4, g0, g1, g2, g3, g4⟩ := five_cells hbk.out) | (go_at_call 24; with_reducible (show Calls _ _ _ (World.drew (World.alloc _ _)) _); refine (KF.out _ ?_).mono ?_; (exact (by repeat (first | with_reducible exact Below.refl _ _ | with_reducible assumption | with_reducible apply bl_drewN | with_reducible apply bl_drew | with_reducible apply bl_alloc | (with_reducible refine bl_set ?_ (by first | (simp; done) | (simp; omega)) _) | with_reducible refine bl_trans ?_ (by with_reducible assumption)))); rintro r wb ⟨rfl, bb⟩; obtain ⟨hcb, hfb⟩ := bcell bb; have hbk := Lib.hid (allocBD bb); have hqb := allocLtD bb; have hlk := lt_of_block hbk.out; obtain ⟨z0, z1, z2, z3, z4, g0, g1, g2, g3, g4⟩ := five_cells hbk.out) | (go_at_call 24; have hbk2 := hbk; refine (KF.out _ ?_).mono ?_; (exact (by repeat (first | with_reducible exact Below.refl _ _ | with_reducible assumption | with_reducible apply bl_drewN | with_reducible apply bl_drew | with_reducible apply bl_alloc | (with_reducible refine bl_set ?_ (by first | (simp; done) | (simp; omega)) _) | with_reducible refine bl_trans ?_ (by with_reducible assumption)))); rintro r wb ⟨rfl, bb⟩; obtain ⟨hcb, hfb⟩ := bcell bb; have hqb := lt_of_block hbk2.out; have hbk := Lib.hid ((bb.block _ (lt_of_block hbk2.out)).trans hbk2.out); have hlk := lt_of_block hbk.out; obtain ⟨z0, z1, z2, z3, z4, g0, g1, g2, g3, g4⟩ := five_cells hbk.out) | (go_at_call 24; refine (KF.out _ ?_).mono ?_; (exact (by repeat (first | with_reducible exact Below.refl _ _ | with_reducible assumption | with_reducible apply bl_drewN | with_reducible apply bl_drew | with_reducible apply bl_alloc | (with_reducible refine bl_set ?_ (by first | (simp; done) | (simp; omega)) _) | with_reducible refine bl_trans ?_ (by with_reducible assumption)))); rintro r wb ⟨rfl, bb⟩; obtain ⟨hcb, hfb⟩ := bcell bb; have hzb := bb.size; (try simp [Nat.succ_le_iff] at hzb)) | (go_at_call 39; with_reducible (show Calls _ _ _ (World.alloc _ _) _); refine (KM.out _ ?_).mono ?_; (exact (by repeat (first | with_reducible exact Below.refl _ _ | with_reducible assumption | with_reducible apply bl_drewN | with_reducible apply bl_drew | with_reducible apply bl_alloc | (with_reducible refine bl_set ?_ (by first | (simp; done) | (simp; omega)) _) | with_reducible refine bl_trans ?_ (by with_reducible assumption)))); rintro r wm ⟨s', si', so', rfl, om, bm⟩; obtain ⟨hcm, hfm⟩ := bcell bm; obtain ⟨sm, sn, im, jn, pm, qn, rfl, rfl, rfl⟩ := ownC_at om; have hbk := Lib.hid (allocB bm); have hqb := allocLt bm; have hlk := lt_of_block hbk.out; obtain ⟨z0, z1, z2, z3, z4, g0, g1, g2, g3, g4⟩ := five_cells hbk.out) | (go_at_call 39; with_reducible (show Calls _ _ _ (World.drew (World.alloc _ _)) _); refine (KM.out _ ?_).mono ?_; (exact (by repeat (first | with_reducible exact Below.refl _ _ | with_reducible assumption | with_reducible apply bl_drewN | with_reducible apply bl_drew | with_reducible apply bl_alloc | (with_reducible refine bl_set ?_ (by first | (simp; done) | (simp; omega)) _) | with_reducible refine bl_trans ?_ (by with_reducible assumption)))); rintro r wm ⟨s', si', so', rfl, om, bm⟩; obtain ⟨hcm, hfm⟩ := bcell bm; obtain ⟨sm, sn, im, jn, pm, qn, rfl, rfl, rfl⟩ := ownC_at om; have hbk := Lib.hid (allocBD bm); have hqb := allocLtD bm; have hlk := lt_of_block hbk.out; obtain ⟨z0, z1, z2, z3, z4, g0, g1, g2, g3, g4⟩ := five_cells hbk.out) | (go_at_call 39; have hbk2 := hbk; refine (KM.out _ ?_).mono ?_; (exact (by repeat (first | with_reducible exact Below.refl _ _ | with_reducible assumption | with_reducible apply bl_drewN | with_reducible apply bl_drew | with_reducible apply bl_alloc | (with_reducible refine bl_set ?_ (by first | (simp; done) | (simp; omega)) _) | with_reducible refine bl_trans ?_ (by with_reducible assumption)))); rintro r wm ⟨s', si', so', rfl, om, bm⟩; obtain ⟨hcm, hfm⟩ := bcell bm; obtain ⟨sm, sn, im, jn, pm, qn, rfl, rfl, rfl⟩ := ownC_at om; have hqb := lt_of_block hbk2.out; have hbk := Lib.hid ((bm.block _ (lt_of_block hbk2.out)).trans hbk2.out); have hlk := lt_of_block hbk.out; obtain ⟨z0, z1, z2, z3, z4, g0, g1, g2, g3, g4⟩ := five_cells hbk.out) | (go_at_call 39; refine (KM.out _ ?_).mono ?_; (exact (by repeat (first | with_reducible exact Below.refl _ _ | with_reducible assumption | with_reducible apply bl_drewN | with_reducible apply bl_drew | with_reducible apply bl_alloc | (with_reducible refine bl_set ?_ (by first | (simp; done) | (simp; omega)) _) | with_reducible refine bl_trans ?_ (by with_reducible assumption)))); rintro r wm ⟨s', si', so', rfl, om, bm⟩; obtain ⟨hcm, hfm⟩ := bcell bm; obtain ⟨sm, sn, im, jn, pm, qn, rfl, rfl, rfl⟩ := ownC_at om; have hzm := bm.size; (try simp [Nat.succ_le_iff] at hzm)))
    · go_wp2_with fail
      go_meet
      rename_i hH
      have hmd := MDW.out
      with_reducible exact pn_fin0 ⟨hmd.1, hmd.2.1⟩ om hH.1
    all_goals
      go_wp2_with fail
      go_meet
      rename_i hH
      have hmd := MDW.out
      with_reducible exact pn_fin ⟨hmd.1, hmd.2.1⟩ hbk.out om hqb hH.1
  case rest =>
    obtain ⟨bm, s, si, so, rfl, rfl, hxm, hmm, hbm⟩ := hcut
    have HSd := Lib.hid (HSc.out.step hbm)
    have XM := Lib.hid hxm
    have MM1 := Lib.hid hmm
    have hq2 := (hbm.block b20 hbl).trans HQ.out
    have hbl2 := lt_of_block hq2
    have BWC := Lib.hid hbm
    clear hxm hmm hbm y0 y1 y2 y3 y4 HSc KM HQ hbl
    obtain ⟨y0, y1, y2, y3, y4, -⟩ := five_cells hq2
    clear hq2
    obtain ⟨V, hV⟩ : ∃ V, V = wc := ⟨_, rfl⟩
    subst hV
    go_upto_region 18 with fail
    go_cut [23, 24] from 147 (fun p cd wx => ∃ (b : Nat) (s si so : Value), p = .pointer (some ⟨b, 0, none⟩) ∧ cd = .int .i64 0 ∧ BX5 wx b (.int .i8 20) (.int .i8 20) s si so ∧ MVc wx (mcv 20 20 s si so) MD ∧ Below V.heap.size V wx)
    case first =>
      go_region_held3 (fun w' => Below V.heap.size V w' ∧ ∀ b o, b < V.heap.size → w'.cell? ⟨b, o, none⟩ = V.cell? ⟨b, o, none⟩) ((refine ext_s ?_; exact (by repeat (first | with_reducible exact Below.refl _ _ | with_reducible assumption | with_reducible apply bl_drewN | with_reducible apply bl_drew | with_reducible apply bl_alloc | (with_reducible refine bl_set ?_ (by first | (simp; done) | (simp; omega)) _) | with_reducible refine bl_trans ?_ (by with_reducible assumption))))) (first | (go_at_call 24; with_reducible (show Calls _ _ _ (World.alloc _ _) _); refine (KE.out _ ?_).mono ?_; (exact bl_trans BWC.out (by repeat (first | with_reducible exact Below.refl _ _ | with_reducible assumption | with_reducible apply bl_drewN | with_reducible apply bl_drew | with_reducible apply bl_alloc | (with_reducible refine bl_set ?_ (by first | (simp; done) | (simp; omega)) _) | with_reducible refine bl_trans ?_ (by with_reducible assumption)))); rintro r wa ⟨rfl, ba⟩; obtain ⟨hca, hfa⟩ := bcell ba; have hbk := Lib.hid (allocB ba); have hqb := allocLt ba; have hlk := lt_of_block hbk.out; obtain ⟨z0, z1, z2, z3, z4, g0, g1, g2, g3, g4⟩ := five_cells hbk.out) | (go_at_call 24; with_reducible (show Calls _ _ _ (World.drew (World.alloc _ _)) _); refine (KE.out _ ?_).mono ?_; (exact bl_trans BWC.out (by repeat (first | with_reducible exact Below.refl _ _ | with_reducible assumption | with_reducible apply bl_drewN | with_reducible apply bl_drew | with_reducible apply bl_alloc | (with_reducible refine bl_set ?_ (by first | (simp; done) | (simp; omega)) _) | with_reducible refine bl_trans ?_ (by with_reducible assumption)))); rintro r wa ⟨rfl, ba⟩; obtain ⟨hca, hfa⟩ := bcell ba; have hbk := Lib.hid (allocBD ba); have hqb := allocLtD ba; have hlk := lt_of_block hbk.out; obtain ⟨z0, z1, z2, z3, z4, g0, g1, g2, g3, g4⟩ := five_cells hbk.out) | (go_at_call 24; have hbk2 := hbk; refine (KE.out _ ?_).mono ?_; (exact bl_trans BWC.out (by repeat (first | with_reducible exact Below.refl _ _ | with_reducible assumption | with_reducible apply bl_drewN | with_reducible apply bl_drew | with_reducible apply bl_alloc | (with_reducible refine bl_set ?_ (by first | (simp; done) | (simp; omega)) _) | with_reducible refine bl_trans ?_ (by with_reducible assumption)))); rintro r wa ⟨rfl, ba⟩; obtain ⟨hca, hfa⟩ := bcell ba; have hqb := lt_of_block hbk2.out; have hbk := Lib.hid ((ba.block _ (lt_of_block hbk2.out)).trans hbk2.out); have hlk := lt_of_block hbk.out; obtain ⟨z0, z1, z2, z3, z4, g0, g1, g2, g3, g4⟩ := five_cells hbk.out) | (go_at_call 24; refine (KE.out _ ?_).mono ?_; (exact bl_trans BWC.out (by repeat (first | with_reducible exact Below.refl _ _ | with_reducible assumption | with_reducible apply bl_drewN | with_reducible apply bl_drew | with_reducible apply bl_alloc | (with_reducible refine bl_set ?_ (by first | (simp; done) | (simp; omega)) _) | with_reducible refine bl_trans ?_ (by with_reducible assumption)))); rintro r wa ⟨rfl, ba⟩; obtain ⟨hca, hfa⟩ := bcell ba; have hza := ba.size; (try simp [Nat.succ_le_iff] at hza)) | (go_at_call 24; with_reducible (show Calls _ _ _ (World.alloc _ _) _); refine (KF.out _ ?_).mono ?_; (exact bl_trans BWC.out (by repeat (first | with_reducible exact Below.refl _ _ | with_reducible assumption | with_reducible apply bl_drewN | with_reducible apply bl_drew | with_reducible apply bl_alloc | (with_reducible refine bl_set ?_ (by first | (simp; done) | (simp; omega)) _) | with_reducible refine bl_trans ?_ (by with_reducible assumption)))); rintro r wb ⟨rfl, bb⟩; obtain ⟨hcb, hfb⟩ := bcell bb; have hbk := Lib.hid (allocB bb); have hqb := allocLt bb; have hlk := lt_of_block hbk.out; obtain ⟨z0, z1, z2, z3, z4, g0, g1, g2, g3, g4⟩ := five_cells hbk.out) | (go_at_call 24; with_reducible (show Calls _ _ _ (World.drew (World.alloc _ _)) _); refine (KF.out _ ?_).mono ?_; (exact bl_trans BWC.out (by repeat (first | with_reducible exact Below.refl _ _ | with_reducible assumption | with_reducible apply bl_drewN | with_reducible apply bl_drew | with_reducible apply bl_alloc | (with_reducible refine bl_set ?_ (by first | (simp; done) | (simp; omega)) _) | with_reducible refine bl_trans ?_ (by with_reducible assumption)))); rintro r wb ⟨rfl, bb⟩; obtain ⟨hcb, hfb⟩ := bcell bb; have hbk := Lib.hid (allocBD bb); have hqb := allocLtD bb; have hlk := lt_of_block hbk.out; obtain ⟨z0, z1, z2, z3, z4, g0, g1, g2, g3, g4⟩ := five_cells hbk.out) | (go_at_call 24; have hbk2 := hbk; refine (KF.out _ ?_).mono ?_; (exact bl_trans BWC.out (by repeat (first | with_reducible exact Below.refl _ _ | with_reducible assumption | with_reducible apply bl_drewN | with_reducible apply bl_drew | with_reducible apply bl_alloc | (with_reducible refine bl_set ?_ (by first | (simp; done) | (simp; omega)) _) | with_reducible refine bl_trans ?_ (by with_reducible assumption)))); rintro r wb ⟨rfl, bb⟩; obtain ⟨hcb, hfb⟩ := bcell bb; have hqb := lt_of_block hbk2.out; have hbk := Lib.hid ((bb.block _ (lt_of_block hbk2.out)).trans hbk2.out); have hlk := lt_of_block hbk.out; obtain ⟨z0, z1, z2, z3, z4, g0, g1, g2, g3, g4⟩ := five_cells hbk.out) | (go_at_call 24; refine (KF.out _ ?_).mono ?_; (exact bl_trans BWC.out (by repeat (first | with_reducible exact Below.refl _ _ | with_reducible assumption | with_reducible apply bl_drewN | with_reducible apply bl_drew | with_reducible apply bl_alloc | (with_reducible refine bl_set ?_ (by first | (simp; done) | (simp; omega)) _) | with_reducible refine bl_trans ?_ (by with_reducible assumption)))); rintro r wb ⟨rfl, bb⟩; obtain ⟨hcb, hfb⟩ := bcell bb; have hzb := bb.size; (try simp [Nat.succ_le_iff] at hzb)) | (go_at_call 40; with_reducible (show Calls _ _ _ (World.alloc _ _) _); refine (KN.out _ ?_).mono ?_; (exact bl_trans BWC.out (by repeat (first | with_reducible exact Below.refl _ _ | with_reducible assumption | with_reducible apply bl_drewN | with_reducible apply bl_drew | with_reducible apply bl_alloc | (with_reducible refine bl_set ?_ (by first | (simp; done) | (simp; omega)) _) | with_reducible refine bl_trans ?_ (by with_reducible assumption)))); rintro r wm ⟨s', si', so', rfl, om, bm⟩; obtain ⟨hcm, hfm⟩ := bcell bm; obtain ⟨sm, sn, im, jn, pm, qn, rfl, rfl, rfl⟩ := ownC_at om; have hbk := Lib.hid (allocB bm); have hqb := allocLt bm; have hlk := lt_of_block hbk.out; obtain ⟨z0, z1, z2, z3, z4, g0, g1, g2, g3, g4⟩ := five_cells hbk.out) | (go_at_call 40; with_reducible (show Calls _ _ _ (World.drew (World.alloc _ _)) _); refine (KN.out _ ?_).mono ?_; (exact bl_trans BWC.out (by repeat (first | with_reducible exact Below.refl _ _ | with_reducible assumption | with_reducible apply bl_drewN | with_reducible apply bl_drew | with_reducible apply bl_alloc | (with_reducible refine bl_set ?_ (by first | (simp; done) | (simp; omega)) _) | with_reducible refine bl_trans ?_ (by with_reducible assumption)))); rintro r wm ⟨s', si', so', rfl, om, bm⟩; obtain ⟨hcm, hfm⟩ := bcell bm; obtain ⟨sm, sn, im, jn, pm, qn, rfl, rfl, rfl⟩ := ownC_at om; have hbk := Lib.hid (allocBD bm); have hqb := allocLtD bm; have hlk := lt_of_block hbk.out; obtain ⟨z0, z1, z2, z3, z4, g0, g1, g2, g3, g4⟩ := five_cells hbk.out) | (go_at_call 40; have hbk2 := hbk; refine (KN.out _ ?_).mono ?_; (exact bl_trans BWC.out (by repeat (first | with_reducible exact Below.refl _ _ | with_reducible assumption | with_reducible apply bl_drewN | with_reducible apply bl_drew | with_reducible apply bl_alloc | (with_reducible refine bl_set ?_ (by first | (simp; done) | (simp; omega)) _) | with_reducible refine bl_trans ?_ (by with_reducible assumption)))); rintro r wm ⟨s', si', so', rfl, om, bm⟩; obtain ⟨hcm, hfm⟩ := bcell bm; obtain ⟨sm, sn, im, jn, pm, qn, rfl, rfl, rfl⟩ := ownC_at om; have hqb := lt_of_block hbk2.out; have hbk := Lib.hid ((bm.block _ (lt_of_block hbk2.out)).trans hbk2.out); have hlk := lt_of_block hbk.out; obtain ⟨z0, z1, z2, z3, z4, g0, g1, g2, g3, g4⟩ := five_cells hbk.out) | (go_at_call 40; refine (KN.out _ ?_).mono ?_; (exact bl_trans BWC.out (by repeat (first | with_reducible exact Below.refl _ _ | with_reducible assumption | with_reducible apply bl_drewN | with_reducible apply bl_drew | with_reducible apply bl_alloc | (with_reducible refine bl_set ?_ (by first | (simp; done) | (simp; omega)) _) | with_reducible refine bl_trans ?_ (by with_reducible assumption)))); rintro r wm ⟨s', si', so', rfl, om, bm⟩; obtain ⟨hcm, hfm⟩ := bcell bm; obtain ⟨sm, sn, im, jn, pm, qn, rfl, rfl, rfl⟩ := ownC_at om; have hzm := bm.size; (try simp [Nat.succ_le_iff] at hzm)))
      · go_wp2_with fail
        go_meet
        rename_i hH
        have hmd := MDW.out
        with_reducible exact pn_fin0 ⟨hmd.1, hmd.2.1⟩ om hH.1
      all_goals
        go_wp2_with fail
        go_meet
        rename_i hH
        have hmd := MDW.out
        with_reducible exact pn_fin ⟨hmd.1, hmd.2.1⟩ hbk.out om hqb hH.1
    case rest =>
      obtain ⟨bn, s2, si2, so2, rfl, rfl, hxn, hmn, hbn⟩ := hcut
      have HSe := Lib.hid (HSd.out.step hbn)
      have XM2 := Lib.hid (XM.out.step hbn)
      have MM2 := Lib.hid (MM1.out.step hbn)
      have XN := Lib.hid hxn
      have MN := Lib.hid hmn
      clear hxn hmn hbn y0 y1 y2 y3 y4 HSd XM MM1 KN KE KF BWC hbl2
      obtain ⟨x0, x1, x2, x3, x4, x5⟩ := HSe.out.x
      obtain ⟨z0, z1, z2, z3, z4, z5⟩ := XN.out
      have hlens : MD.bd.ps.length ≤ 10000000 ∧ MD.ins.length ≤ 10000000 ∧ MD.outs.length ≤ 10000000 := by
        obtain ⟨-, -, h1, h2, h3, -⟩ := MDW.out
        omega
      obtain ⟨V2, hV2⟩ : ∃ V2, V2 = wc := ⟨_, rfl⟩
      subst hV2
      have HDD : Hid (Calls Tryz.prog 38 #[(mcv wd hg (.slice pA ps.length pC) (.slice iA is.length iC) (.slice oA os.length oC)), mcv 20 20 s2 si2 so2] V2 fun e w' => e = .returned (.tuple #[.int .i64 0, .int .i64 6]) ∧ Below V2.heap.size V2 w') := Lib.hid (by
        have h9 := differAt_any ⟨⟨wd, hg, ps⟩, is, os⟩ MD (mcv wd hg (.slice pA ps.length pC) (.slice iA is.length iC) (.slice oA os.length oC)) (mcv 20 20 s2 si2 so2) V2 HSe.out.mc MN.out HOK.out MDW.out.2.2.2.2.2.1 (by show ps.length ≤ 10000000; omega) (by show is.length ≤ 10000000; omega) (by show os.length ≤ 10000000; omega) hlens.1 hlens.2.1 hlens.2.2
        rw [MDW.out.2.2.2.2.2.2] at h9
        exact h9)
      have HL := Lib.hid hlens
      clear hlens
      go_wp2_with fail
      refine HDD.out.mono ?_
      rintro e V3 ⟨rfl, hb⟩
      have HSf := Lib.hid (HSe.out.step hb)
      have XM3 := Lib.hid (XM2.out.step hb)
      have MM3 := Lib.hid (MM2.out.step hb)
      have XN3 := Lib.hid (XN.out.step hb)
      have MN3 := Lib.hid (MN.out.step hb)
      clear hb x0 x1 x2 x3 x4 x5 z0 z1 z2 z3 z4 z5 HSe XM2 MM2 XN MN HDD
      have KSM : Hid (∀ u, Below V3.heap.size V3 u → Calls Tryz.prog 37 #[mcv 20 20 s si so, mcv 20 20 s2 si2 so2] u fun e w' => e = .returned (.bool true) ∧ Below u.heap.size u w') := Lib.hid (fun u hb => sameMachine_eq MD _ _ u (MM3.out.step hb).mv (MN3.out.step hb).mv (by have := HL.out; omega) (by have := HL.out; omega) (by have := HL.out; omega))
      obtain ⟨x0, x1, x2, x3, x4, x5⟩ := XM3.out
      obtain ⟨z0, z1, z2, z3, z4, z5⟩ := XN3.out
      go_wp2_with fail
      refine (KSM.out V3 (Below.refl _ _)).mono ?_
      rintro e V4 ⟨rfl, hb⟩
      have HSg := Lib.hid (HSf.out.step hb)
      clear hb x0 x1 x2 x3 x4 x5 z0 z1 z2 z3 z4 z5 HSf XM3 MM3 XN3 MN3 KSM
      go_wp2
      go_ret
      exact ⟨rfl, HSg.out.b⟩
end Go.Proofs.YtmeefmoblkiebaaGreat
