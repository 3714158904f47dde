import Derived.Test.YtdhjhnbmecbaaaaGreatK7
import Derived.OwnWalk
import Derived.Deep.RegionHeld3
/- Contracts: copies of machines (the program). -/
namespace Go.Proofs.YtdhjhnbmecbaaaaGreat
open Go.RowKit
set_option linter.unusedVariables false
set_option linter.unusedSimpArgs false
set_option maxHeartbeats 400000
set_option maxRecDepth 100000
theorem clonePo_any {B : Nat} (a : Option Addr) (cap : Nat) (ps : List Po) (w : World) (hps : SlAt B w a (flat Po.cells ps)) (hB : B ≤ w.heap.size) (hn : ps.length ≤ 10000000) :
    Calls Tryz.prog 141 #[.slice a ps.length cap] w fun e w' => ∃ v, e = .returned v ∧ w'.ownsRow w.heap.size 136 3 v ps.length (flat Po.cells ps) ∧ Below w.heap.size w w' := by
  obtain ⟨i0, hi, hz0, hz1, hz2⟩ := info_parts Tryz.infoPortU
  have heq := fun (w : World) => Lib.run_eql_slice_nil (P := Tryz.prog) w 37 136 a ps.length cap 0 0 Tryz.underlying37
  cases a with
  | none =>
    have hp : ps = [] := by
      cases ps with
      | nil => rfl
      | cons p ps => obtain ⟨b, off, h0, -⟩ := hps 0 (by simp [flat, Po.cells]); cases h0
    have Hp := Lib.hid hp
    clear hi hz0 hz1 hz2 hp
    go_enter Tryz.func141, Tryz.ntmps141
    go_wp2
    go_ret
    exact ⟨_, rfl, by rw [Hp.out]; exact World.ownsRow_nil w w.heap.size 136 3, Below.refl _ _⟩
  | some ad =>
    go_enter Tryz.func141, Tryz.ntmps141
    go_wp2_with (at_builtin; refine wpList_append_sl _ rfl _ _ 37 rfl w.heap.size 136 i0 (.agg #[.int .i8 0, .int .i8 0, .int .i8 0]) 3 3 Tryz.underlying37 hi hz0 hz1 hz2 rfl (by decide) _ 0 [] rfl (World.ownsRow_made w _ 0 (Nat.le_refl _) (by simp [maxLen]) rfl) (some ad) ps.length cap (flat Po.cells ps) rfl (hps.below (bl_alloc (Below.refl _ _)) hB) (flat_length Po.len ps) (one_cells Po.one ps) (by unfold maxLen; omega) (by omega) (by simp) ?_; intro v1 w1 hown hgrow)
    go_ret
    rw [Nat.zero_add, List.nil_append] at hown
    exact ⟨_, rfl, hown, bl_grown (bl_alloc (Below.refl _ _)) hgrow (by intro k hk; have : some w.heap.size = some k := hk; cases this; exact Nat.le_refl _)⟩
theorem cloneCe_any {B : Nat} (a : Option Addr) (cap : Nat) (ps : List Ce) (w : World) (hps : SlAt B w a (flat Ce.cells ps)) (hB : B ≤ w.heap.size) (hn : ps.length ≤ 10000000) :
    Calls Tryz.prog 142 #[.slice a ps.length cap] w fun e w' => ∃ v, e = .returned v ∧ w'.ownsRow w.heap.size 134 2 v ps.length (flat Ce.cells ps) ∧ Below w.heap.size w w' := by
  obtain ⟨i0, hi, hz0, hz1, hz2⟩ := info_parts Tryz.infoCellU
  have heq := fun (w : World) => Lib.run_eql_slice_nil (P := Tryz.prog) w 38 134 a ps.length cap 0 0 Tryz.underlying38
  cases a with
  | none =>
    have hp : ps = [] := by
      cases ps with
      | nil => rfl
      | cons p ps => obtain ⟨b, off, h0, -⟩ := hps 0 (by simp [flat, Ce.cells]); cases h0
    have Hp := Lib.hid hp
    clear hi hz0 hz1 hz2 hp
    go_enter Tryz.func142, Tryz.ntmps142
    go_wp2
    go_ret
    exact ⟨_, rfl, by rw [Hp.out]; exact World.ownsRow_nil w w.heap.size 134 2, Below.refl _ _⟩
  | some ad =>
    go_enter Tryz.func142, Tryz.ntmps142
    go_wp2_with (at_builtin; refine wpList_append_sl _ rfl _ _ 38 rfl w.heap.size 134 i0 (.agg #[.int .i8 0, .int .i8 0]) 2 2 Tryz.underlying38 hi hz0 hz1 hz2 rfl (by decide) _ 0 [] rfl (World.ownsRow_made w _ 0 (Nat.le_refl _) (by simp [maxLen]) rfl) (some ad) ps.length cap (flat Ce.cells ps) rfl (hps.below (bl_alloc (Below.refl _ _)) hB) (flat_length Ce.len ps) (one_cells Ce.one ps) (by unfold maxLen; omega) (by omega) (by simp) ?_; intro v1 w1 hown hgrow)
    go_ret
    rw [Nat.zero_add, List.nil_append] at hown
    exact ⟨_, rfl, hown, bl_grown (bl_alloc (Below.refl _ _)) hgrow (by intro k hk; have : some w.heap.size = some k := hk; cases this; exact Nat.le_refl _)⟩
set_option maxHeartbeats 1600000 in
theorem cloneMachine_any (m : Mc) (v : Value) (w : World) (h : MV w v m) (hn : m.bd.ps.length ≤ 10000) (hn1 : m.ins.length ≤ 10000) (hn2 : m.outs.length ≤ 10000) :
    Calls Tryz.prog 98 #[v] w fun e w' => ∃ s si so, e = .returned (mcv m.bd.wd m.bd.hg s si so) ∧ OwnM w' w.heap.size s si so m ∧ Below w.heap.size w w' := by
  obtain ⟨s, si, so, rfl, ⟨pa, pcap, rfl, hps⟩, ⟨ia, icap, rfl, hins⟩, ⟨oa, ocap, rfl, houts⟩⟩ := h
  have HM := Lib.hid (MP.new (m := m) (w := w) ⟨pa, pcap, rfl, hps⟩ ⟨ia, icap, rfl, hins⟩ ⟨oa, ocap, rfl, houts⟩ 40)
  have HXB := Lib.hid (BX5.new w (.int .i8 m.bd.wd) (.int .i8 m.bd.hg) (.slice pa m.bd.ps.length pcap) (.slice ia m.ins.length icap) (.slice oa m.outs.length ocap) 40)
  have hbA : Below w.heap.size w (w.alloc (.cells #[.int .i8 m.bd.wd, .int .i8 m.bd.hg, .slice pa m.bd.ps.length pcap, .slice ia m.ins.length icap, .slice oa m.outs.length ocap] 40)) := bl_alloc (Below.refl _ _)
  obtain ⟨w1, hw1⟩ : ∃ w1, w1 = w.alloc (.cells #[.int .i8 m.bd.wd, .int .i8 m.bd.hg, .slice pa m.bd.ps.length pcap, .slice ia m.ins.length icap, .slice oa m.outs.length ocap] 40) := ⟨_, rfl⟩
  have hz1 : w1.heap.size = w.heap.size + 1 := by rw [hw1]; simp
  rw [← hw1] at HM HXB hbA
  have HW1 := Lib.hid hw1
  have HBF := Lib.hid (BF5new w1 (.int .i8 0) (.int .i8 0) (.slice none 0 0) (.slice none 0 0) (.slice none 0 0) 40)
  obtain ⟨b1, hb1⟩ : ∃ b1, b1 = w.heap.size := ⟨_, rfl⟩
  rw [← hb1] at HM HXB
  have HB1 := Lib.hid hb1
  have hb1l : b1 < w1.heap.size := by omega
  have hb1z : b1 + 1 = w1.heap.size := by omega
  have HB1Z := Lib.hid hb1z
  have HCP := Lib.hid (fun w2 (hb : Below w1.heap.size w1 w2) => clonePc_any (B := w.heap.size) pa pcap m.bd.ps w2 (hps.below (bl_trans hbA hb) (Nat.le_refl _)) (bl_trans hbA hb).size (by omega))
  have HCI := Lib.hid (fun w2 (hb : Below w1.heap.size w1 w2) => clonePo_any (B := w.heap.size) ia icap m.ins w2 (hins.below (bl_trans hbA hb) (Nat.le_refl _)) (bl_trans hbA hb).size (by omega))
  have HCO := Lib.hid (fun w2 (hb : Below w1.heap.size w1 w2) => cloneCe_any (B := w.heap.size) oa ocap m.outs w2 (houts.below (bl_trans hbA hb) (Nat.le_refl _)) (bl_trans hbA hb).size (by omega))
  have HWI := Lib.hid (fun w2 (hb : Below w1.heap.size w1 w2) a n cap => with_any b1 m.bd a n cap w2 (HM.out.step hb).bp)
  have HBA := Lib.hid hbA
  clear hw1 hb1 hb1z hbA hps hins houts
  go_enter Tryz.func98, Tryz.ntmps98
  go_wp2_with fail
  rw [← HW1.out]
  rw [← HB1.out]
  obtain ⟨w2, hw2, hz2, hb2, x0, x1, x2, x3, x4, f0, f1, f2, f3, f4⟩ := HBF.out
  rw [← hw2]
  obtain ⟨g, hg⟩ : ∃ g, g = w1.heap.size := ⟨_, rfl⟩
  rw [← hg] at x0 x1 x2 x3 x4 f0 f1 f2 f3 f4
  have hg2 : b1 + 1 = g := by rw [hg]; exact HB1Z.out
  rw [hg2]
  have hgl2 : g < w2.heap.size := by omega
  have hgl : w1.heap.size ≤ g := by omega
  obtain ⟨-, y0, y1, y2, y3, y4⟩ := HXB.out
  clear hw2 hg hz2 hz1 hg2
  go_region_held3 (fun w' => Below w1.heap.size w1 w' ∧ ∀ b o, b < w1.heap.size → w'.cell? ⟨b, o, none⟩ = w1.cell? ⟨b, o, none⟩) ((refine ext_s ?_; exact (by repeat (first | with_reducible exact Below.refl _ _ | with_reducible assumption | with_reducible apply bl_drewN | with_reducible apply bl_drew | with_reducible apply bl_alloc | (with_reducible refine bl_set ?_ (by first | (simp; done) | (simp; omega)) _) | with_reducible refine bl_trans ?_ (by with_reducible assumption))))) (first | (go_at_call 140; refine (HCP.out _ ?_).mono ?_; (exact (by repeat (first | with_reducible exact Below.refl _ _ | with_reducible assumption | with_reducible apply bl_drewN | with_reducible apply bl_drew | with_reducible apply bl_alloc | (with_reducible refine bl_set ?_ (by first | (simp; done) | (simp; omega)) _) | with_reducible refine bl_trans ?_ (by with_reducible assumption)))); rintro e wa ⟨va, rfl, Oa, ba⟩; obtain ⟨aa, capa, rfl, -⟩ := own_at Oa; have bA : Below w2.heap.size w2 wa := (by repeat (first | with_reducible exact Below.refl _ _ | with_reducible assumption | with_reducible apply bl_drewN | with_reducible apply bl_drew | with_reducible apply bl_alloc | (with_reducible refine bl_set ?_ (by first | (simp; done) | (simp; omega)) _) | with_reducible refine bl_trans ?_ (by with_reducible assumption))); obtain ⟨hca, hfa⟩ := bcell bA; have hzA := bA.size; clear bA) | (go_at_call 139; refine (HWI.out _ ?_ _ _ _).mono ?_; (exact (by repeat (first | with_reducible exact Below.refl _ _ | with_reducible assumption | with_reducible apply bl_drewN | with_reducible apply bl_drew | with_reducible apply bl_alloc | (with_reducible refine bl_set ?_ (by first | (simp; done) | (simp; omega)) _) | with_reducible refine bl_trans ?_ (by with_reducible assumption)))); rintro e wv ⟨rfl, bv⟩; have bV : Below w2.heap.size w2 wv := (by repeat (first | with_reducible exact Below.refl _ _ | with_reducible assumption | with_reducible apply bl_drewN | with_reducible apply bl_drew | with_reducible apply bl_alloc | (with_reducible refine bl_set ?_ (by first | (simp; done) | (simp; omega)) _) | with_reducible refine bl_trans ?_ (by with_reducible assumption))); obtain ⟨hcv, hfv⟩ := bcell bV; have hzV := bv.size; clear bV) | (go_at_call 141; refine (HCI.out _ ?_).mono ?_; (exact (by repeat (first | with_reducible exact Below.refl _ _ | with_reducible assumption | with_reducible apply bl_drewN | with_reducible apply bl_drew | with_reducible apply bl_alloc | (with_reducible refine bl_set ?_ (by first | (simp; done) | (simp; omega)) _) | with_reducible refine bl_trans ?_ (by with_reducible assumption)))); rintro e wi ⟨vi, rfl, Oi, bi⟩; obtain ⟨ai, capi, rfl, -⟩ := own_at Oi; have bI : Below w2.heap.size w2 wi := (by repeat (first | with_reducible exact Below.refl _ _ | with_reducible assumption | with_reducible apply bl_drewN | with_reducible apply bl_drew | with_reducible apply bl_alloc | (with_reducible refine bl_set ?_ (by first | (simp; done) | (simp; omega)) _) | with_reducible refine bl_trans ?_ (by with_reducible assumption))); obtain ⟨hci, hfi⟩ := bcell bI; have hzI := bi.size; clear bI) | (go_at_call 142; refine (HCO.out _ ?_).mono ?_; (exact (by repeat (first | with_reducible exact Below.refl _ _ | with_reducible assumption | with_reducible apply bl_drewN | with_reducible apply bl_drew | with_reducible apply bl_alloc | (with_reducible refine bl_set ?_ (by first | (simp; done) | (simp; omega)) _) | with_reducible refine bl_trans ?_ (by with_reducible assumption)))); rintro e wo ⟨vo, rfl, Oo, bo⟩; obtain ⟨ao, capo, rfl, -⟩ := own_at Oo; have bO : Below w2.heap.size w2 wo := (by repeat (first | with_reducible exact Below.refl _ _ | with_reducible assumption | with_reducible apply bl_drewN | with_reducible apply bl_drew | with_reducible apply bl_alloc | (with_reducible refine bl_set ?_ (by first | (simp; done) | (simp; omega)) _) | with_reducible refine bl_trans ?_ (by with_reducible assumption))); obtain ⟨hco, hfo⟩ := bcell bO; clear bO))
  have HN := Lib.hid (And.intro (show Apart (.slice aa m.bd.ps.length capa) (.slice ai m.ins.length capi) from ⟨own_apart Oa Oi (by omega), own_apart' Oa Oi (by omega)⟩) (And.intro (show Apart (.slice aa m.bd.ps.length capa) (.slice ao m.outs.length capo) from ⟨own_apart Oa Oo (by omega), own_apart' Oa Oo (by omega)⟩) (show Apart (.slice ai m.ins.length capi) (.slice ao m.outs.length capo) from ⟨own_apart Oi Oo (by omega), own_apart' Oi Oo (by omega)⟩)))
  have e0 : wo.cell? ⟨g, 0, none⟩ = some (.int .i8 0) := by rw [hco _ _ hgl2]; exact x0
  have e1 : wo.cell? ⟨g, 1, none⟩ = some (.int .i8 0) := by rw [hco _ _ hgl2]; exact x1
  have e2 : wo.cell? ⟨g, 2, none⟩ = some (.slice none 0 0) := by rw [hco _ _ hgl2]; exact x2
  have e3 : wo.cell? ⟨g, 3, none⟩ = some (.slice none 0 0) := by rw [hco _ _ hgl2]; exact x3
  have e4 : wo.cell? ⟨g, 4, none⟩ = some (.slice none 0 0) := by rw [hco _ _ hgl2]; exact x4
  have hwz : w.heap.size ≤ w1.heap.size := HBA.out.size
  have hgw : w.heap.size ≤ g := by omega
  have HBO : Below w2.heap.size w2 wo := (by repeat (first | with_reducible exact Below.refl _ _ | with_reducible assumption | with_reducible apply bl_drewN | with_reducible apply bl_drew | with_reducible apply bl_alloc | (with_reducible refine bl_set ?_ (by first | (simp; done) | (simp; omega)) _) | with_reducible refine bl_trans ?_ (by with_reducible assumption)))
  have OA := own_mono (base := w2.heap.size) (own_below (own_below (own_below Oa bv (Nat.le_refl _)) bi (Nat.le_refl _)) bo (Nat.le_refl _)) (by first | exact Nat.le_refl _ | omega | (simp; done) | (simp; omega))
  have OI := own_mono (base := w2.heap.size) (own_below Oi bo (Nat.le_refl _)) (by omega)
  have OO := own_mono (base := w2.heap.size) Oo (by omega)
  clear hca hfa hcv hfv hci hfi hco hfo
  go_wp2
  refine bodyPost_ret (v := mcv m.bd.wd m.bd.hg (.slice aa m.bd.ps.length capa) (.slice ai m.ins.length capi) (.slice ao m.outs.length capo)) (by simp [results, Tryz.results98, go_sem, e0, e1, e2, e3, e4]) rfl ⟨_, _, _, rfl, ⟨?_, ?_, ?_, HN.out⟩, ?_⟩
  · refine own_mono (base' := w2.heap.size) ?_ (by omega)
    repeat (with_reducible refine ownsRow_setCell_below ?_ (by first | (simp; done) | (simp; omega)) _)
    exact OA
  · refine own_mono (base' := w2.heap.size) ?_ (by omega)
    repeat (with_reducible refine ownsRow_setCell_below ?_ (by first | (simp; done) | (simp; omega)) _)
    exact OI
  · refine own_mono (base' := w2.heap.size) ?_ (by omega)
    repeat (with_reducible refine ownsRow_setCell_below ?_ (by first | (simp; done) | (simp; omega)) _)
    exact OO
  · exact bl_set (bl_set (bl_set (bl_set (bl_set (bl_trans HBA.out (bl_trans hb2 HBO)) hgw _) hgw _) hgw _) hgw _) hgw _
end Go.Proofs.YtdhjhnbmecbaaaaGreat
/- Contracts: PruneMachine (the program). -/
namespace Go.Proofs.YtdhjhnbmecbaaaaGreat
open Go.RowKit
set_option linter.unusedVariables false
set_option linter.unusedSimpArgs false
set_option maxHeartbeats 400000
set_option maxRecDepth 100000
def mcNone : Mc := ⟨⟨0, 0, []⟩, [], []⟩
noncomputable def prM (m : Mc) : Mc := if vMc m = true then (prVal m).m else mcNone
noncomputable def prC (m : Mc) : Int := if vMc m = true then ((prVal m).c : Int) else 0
/-- What pruning keeps of the state. -/
def prInv (m : Mc) (s : PrS) : Prop := vMc s.m = true ∧ s.m.ok ∧ s.m.ins = m.ins ∧ s.m.outs = m.outs ∧ s.m.bd.wd = m.bd.wd ∧ s.m.bd.hg = m.bd.hg ∧ s.m.bd.ps.length + s.c = m.bd.ps.length
theorem prInv_start (m : Mc) (h : vMc m = true) (hok : m.ok) : prInv m ⟨m, 0, 0⟩ := ⟨h, hok, rfl, rfl, rfl, rfl, rfl⟩
theorem prInv_step (m : Mc) (tabs : List Nat) (s : PrS) (h : prInv m s) (hi : s.i < s.m.bd.ps.length) : prInv m (prStep tabs s) := by
  unfold prStep
  split
  · rename_i hu
    have hv : vMc (woMc s.m s.i) = true := by unfold ulP at hu; rw [Bool.and_eq_true] at hu; exact hu.1
    obtain ⟨h1, h2, h3, h4, h5, h6, h7⟩ := h
    refine ⟨hv, woMc_ok _ _ h2, h3, h4, h5, h6, ?_⟩
    show (s.m.bd.ps.eraseIdx s.i).length + (s.c + 1) = _
    rw [List.length_eraseIdx, if_pos hi]
    omega
  · exact h
theorem prRun_end (tabs : List Nat) (s : PrS) (h : ¬ s.i < s.m.bd.ps.length) : ∀ n, prRun tabs n s = s
  | 0 => rfl
  | n + 1 => if_neg h
theorem prRun_step (tabs : List Nat) (n : Nat) (s : PrS) (h : s.i < s.m.bd.ps.length) : prRun tabs (n + 1) s = prRun tabs n (prStep tabs s) := if_pos h
theorem prStep_yes (tabs : List Nat) (s : PrS) (h : ulP s.m tabs s.i = true) : prStep tabs s = ⟨woMc s.m s.i, 0, s.c + 1⟩ := if_pos h
theorem prStep_no (tabs : List Nat) (s : PrS) (h : ulP s.m tabs s.i = false) : prStep tabs s = ⟨s.m, s.i + 1, s.c⟩ := if_neg (by simp [h])
theorem nilApart : Apart (.slice none 0 0) (.slice none 0 0) := ⟨fun k hk => (by cases hk), fun k hk => (by cases hk)⟩
theorem nilM (w : World) (base : Nat) : OwnM w base (.slice none 0 0) (.slice none 0 0) (.slice none 0 0) mcNone :=
  ⟨World.ownsRow_nil _ _ _ _, World.ownsRow_nil _ _ _ _, World.ownsRow_nil _ _ _ _, nilApart, nilApart, nilApart⟩
set_option maxHeartbeats 3200000 in
theorem pruneMachine_any (m : Mc) (v : Value) (w : World) (h : MVc w v m) (hok : m.ok) (hn : m.bd.ps.length ≤ 10000000) (hn1 : m.ins.length ≤ 10000000) (hn2 : m.outs.length ≤ 10000000) :
    Calls Tryz.prog 55 #[v] w fun e w' => ∃ s si so, e = .returned (.tuple #[mcv (prM m).bd.wd (prM m).bd.hg s si so, .int .i64 (prC m), .int .i64 (mCode m)]) ∧ OwnM w' w.heap.size s si so (prM m) ∧ Below w.heap.size w w' := by
  have HMT := Lib.hid (fun w1 (hb : Below w.heap.size w w1) => machineTables_any m v w1 (h.step hb) hok hn hn1 hn2)
  have HMV := Lib.hid (fun w1 (hb : Below w.heap.size w w1) => h.mv.step hb)
  obtain ⟨sa, scap, ia, icap, oa, ocap, rfl, hcap, hps, hins, houts⟩ := h
  have HBA := Lib.hid (show Below w.heap.size w (w.alloc (.cells #[.int .i8 m.bd.wd, .int .i8 m.bd.hg, .slice sa m.bd.ps.length scap, .slice ia m.ins.length icap, .slice oa m.outs.length ocap] 40)) from bl_alloc (Below.refl _ _))
  have HXB := Lib.hid (BX5.new w (.int .i8 m.bd.wd) (.int .i8 m.bd.hg) (.slice sa m.bd.ps.length scap) (.slice ia m.ins.length icap) (.slice oa m.outs.length ocap) 40)
  obtain ⟨wA, hwA⟩ : ∃ wA, wA = w.alloc (.cells #[.int .i8 m.bd.wd, .int .i8 m.bd.hg, .slice sa m.bd.ps.length scap, .slice ia m.ins.length icap, .slice oa m.outs.length ocap] 40) := ⟨_, rfl⟩
  have hzA : wA.heap.size = w.heap.size + 1 := by rw [hwA]; simp
  rw [← hwA] at HBA HXB
  have HWA := Lib.hid hwA
  have HBF := Lib.hid (BF5new wA (.int .i8 0) (.int .i8 0) (.slice none 0 0) (.slice none 0 0) (.slice none 0 0) 40)
  obtain ⟨bA, hbA⟩ : ∃ bA, bA = w.heap.size := ⟨_, rfl⟩
  rw [← hbA] at HXB
  have HbA := Lib.hid hbA
  have hbAl : bA < wA.heap.size := by omega
  have hbAz : bA + 1 = wA.heap.size := by omega
  have HBZ := Lib.hid hbAz
  have hwAz : w.heap.size ≤ wA.heap.size := by omega
  clear hwA hbA hbAz hps hins houts
  rcases Bool.eq_false_or_eq_true (vMc m) with g1 | g1
  · obtain ⟨hvb, h60, hi1, hi6, ho1, ho8, -⟩ := vMc_parts m g1
    have HC : Hid (mCode m = 0) := Lib.hid (by unfold mCode; rw [if_pos g1])
    have HL : Hid (mtList m = mTabI m) := Lib.hid (by unfold mtList; rw [if_pos g1])
    have HPM : Hid (prM m = (prVal m).m ∧ prC m = ((prVal m).c : Int)) := Lib.hid (by unfold prM prC; rw [if_pos g1, if_pos g1]; exact ⟨rfl, rfl⟩)
    rw [HC.out, HPM.out.1, HPM.out.2]
    rw [HC.out, HL.out] at HMT
    have HTE : Hid (mTabI m = (mTabs m).map (fun (n : Nat) => (n : Int))) := Lib.hid rfl
    have HTL : Hid ((mTabI m).length = (mTabs m).length) := Lib.hid (by rw [HTE.out, List.length_map])
    rw [HTL.out, HTE.out] at HMT
    have HT8 : (mTabs m).length ≤ 8 := by rw [mTabs_len]; exact ho8
    have HCL := Lib.hid (fun w1 (hb : Below w.heap.size w w1) => cloneMachine_any m _ w1 (HMV.out w1 hb) (by omega) (by omega) (by omega))
    have HR0 : Hid (prRun (mTabs m) 4000 ⟨m, 0, 0⟩ = prVal m) := Lib.hid rfl
    have HI0 := Lib.hid (prInv_start m g1 hok)
    obtain ⟨tabs, htabs⟩ : ∃ tabs, tabs = mTabs m := ⟨_, rfl⟩
    rw [← htabs] at HMT HT8 HR0
    obtain ⟨RV', hRV⟩ : ∃ RV', RV' = prVal m := ⟨_, rfl⟩
    rw [← hRV] at HR0 ⊢
    clear g1 HC HL HPM htabs HTE HTL hRV
    go_enter Tryz.func55, Tryz.ntmps55
    go_wp2_with fail
    rw [← HWA.out, ← HbA.out]
    obtain ⟨w2, hw2, hz2, hb2, x0, x1, x2, x3, x4, f0, f1, f2, f3, f4⟩ := HBF.out
    rw [← hw2]
    rw [HBZ.out]
    obtain ⟨g2, hg2⟩ : ∃ g2, g2 = wA.heap.size := ⟨_, rfl⟩
    rw [← hg2] at x0 x1 x2 x3 x4 f0 f1 f2 f3 f4 ⊢
    have hg2l : g2 < w2.heap.size := by omega
    have hg2w : w.heap.size ≤ g2 := by omega
    have B2 := Lib.hid (bl_trans HBA.out hb2)
    have HX2 := Lib.hid (And.intro x0 (And.intro x1 (And.intro x2 (And.intro x3 x4))))
    have HF2 := Lib.hid (And.intro f0 (And.intro f1 (And.intro f2 (And.intro f3 f4))))
    have HXB2 := Lib.hid (HXB.out.step hb2)
    clear hw2 hg2 hz2 hb2 x0 x1 x2 x3 x4 f0 f1 f2 f3 f4
    refine (HMT.out _ B2.out).mono ?_
    rintro e w3 ⟨v3, rfl, hown3, hb3⟩
    obtain ⟨a3, cap3, rfl, hsl3, -, -⟩ := own_at hown3
    have HS3 := Lib.hid hsl3
    have B23 := Lib.hid hb3
    have B3 := Lib.hid (bl_trans B2.out hb3)
    obtain ⟨X0, y0, y1, y2, y3, y4⟩ := HXB2.out.step hb3
    clear hown3 hsl3 hb3 HMT
    go_wp2_with fail
    refine (HCL.out _ B3.out).mono ?_
    rintro e w4 ⟨s4, si4, so4, rfl, OM4, hb4⟩
    obtain ⟨as4, cs4, rfl, -⟩ := own_at OM4.1
    obtain ⟨ai4, ci4, rfl, -⟩ := own_at OM4.2.1
    obtain ⟨ao4, co4, rfl, -⟩ := own_at OM4.2.2.1
    have B24 := Lib.hid (bl_trans B23.out hb4)
    have B34 := Lib.hid hb4
    have HOM4 := Lib.hid OM4
    have HBF5 := Lib.hid (BF5new w4 (.int .i8 m.bd.wd) (.int .i8 m.bd.hg) (.slice as4 m.bd.ps.length cs4) (.slice ai4 m.ins.length ci4) (.slice ao4 m.outs.length co4) 40)
    clear OM4 hb4 y0 y1 y2 y3 y4
    go_wp2
    obtain ⟨w5, hw5, hz5, hb5, x0, x1, x2, x3, x4, f0, f1, f2, f3, f4⟩ := HBF5.out
    rw [← hw5]
    obtain ⟨g7, hg7⟩ : ∃ g7, g7 = w4.heap.size := ⟨_, rfl⟩
    rw [← hg7] at x0 x1 x2 x3 x4 f0 f1 f2 f3 f4 ⊢
    have hg7l : g7 < w5.heap.size := by omega
    have hz24 := B24.out.size
    have hz34 := B34.out.size
    have hz23 := B23.out.size
    have hz02 := B2.out.size
    have hg7g : g2 < g7 := by omega
    have hg7w : w.heap.size ≤ g7 := by omega
    have hw3g : w3.heap.size ≤ g7 := by omega
    have HOM5 := Lib.hid (HOM4.out.below hb5)
    have HN5 : Hid ((∀ q, (Value.slice as4 m.bd.ps.length cs4).ownBlock = some q → q ≠ g7) ∧ (∀ q, (Value.slice ai4 m.ins.length ci4).ownBlock = some q → q < g7) ∧ (∀ q, (Value.slice ao4 m.outs.length co4).ownBlock = some q → q < g7)) := Lib.hid ⟨fun q hq => by have := (HOM4.out.1.lt q hq).2; omega, fun q hq => by have := (HOM4.out.2.1.lt q hq).2; omega, fun q hq => by have := (HOM4.out.2.2.1.lt q hq).2; omega⟩
    have HX5 := Lib.hid (And.intro (And.intro x0 (And.intro x1 (And.intro x2 (And.intro x3 x4)))) (And.intro f0 (And.intro f1 f2)))
    have B35 := Lib.hid (bl_trans B34.out hb5)
    clear hw5 hg7 hz5 hb5 x0 x1 x2 x3 x4 f0 f1 f2 f3 f4
    go_loopw [8, 9] (fun cx ix wr => ∃ (st : PrS) (fuel : Nat) (pa : Option Addr) (pc : Nat), cx = .int .i64 st.c ∧ ix = .int .i64 st.i ∧ Hid (prInv m st ∧ prMeas st ≤ fuel ∧ prRun tabs fuel st = RV') ∧ st.i ≤ st.m.bd.ps.length ∧ st.m.bd.ps.length + st.c = m.bd.ps.length ∧ st.m.bd.ps.length ≤ 60 ∧
       Hid ((wr.cell? ⟨g7, 0, none⟩ = some (.int .i8 m.bd.wd) ∧ wr.cell? ⟨g7, 1, none⟩ = some (.int .i8 m.bd.hg) ∧ wr.cell? ⟨g7, 2, none⟩ = some (.slice pa st.m.bd.ps.length pc) ∧ wr.cell? ⟨g7, 3, none⟩ = some (.slice ai4 m.ins.length ci4) ∧ wr.cell? ⟨g7, 4, none⟩ = some (.slice ao4 m.outs.length co4)) ∧ (wr.frozen? ⟨g7, 0, none⟩ = false ∧ wr.frozen? ⟨g7, 1, none⟩ = false ∧ wr.frozen? ⟨g7, 2, none⟩ = false)) ∧
       Hid (OwnM wr w3.heap.size (.slice pa st.m.bd.ps.length pc) (.slice ai4 m.ins.length ci4) (.slice ao4 m.outs.length co4) st.m) ∧ Hid (∀ q, (Value.slice pa st.m.bd.ps.length pc).ownBlock = some q → q ≠ g7) ∧ g7 < wr.heap.size ∧ Hid (Below w3.heap.size w3 wr)) (fun cx ix _ => (m.bd.ps.length - (intOf cx).toNat) * 62 + (m.bd.ps.length - (intOf cx).toNat - (intOf ix).toNat))
    case atStart => exact ⟨⟨m, 0, 0⟩, 4000, as4, cs4, rfl, rfl, Lib.hid ⟨HI0.out, by show m.bd.ps.length * 62 + (m.bd.ps.length - 0) ≤ 4000; omega, HR0.out⟩, Nat.zero_le _, rfl, h60, HX5, HOM5, Lib.hid HN5.out.1, hg7l, B35⟩
    case round =>
      obtain ⟨st, fuel, pa, pc, rfl, rfl, HI, hil, hlc, hl60, HX, HOM, HNP, hgw, HB⟩ := hrel
      obtain ⟨⟨c0, c1, c2, c3, c4⟩, f0, f1, f2⟩ := HX.out
      by_cases hlt : st.i < st.m.bd.ps.length
      · have hiI : (st.i : Int) < st.m.bd.ps.length := by omega
        have hmp : MP wr g7 st.m := by
          obtain ⟨j1, j2, j3, j4, j5, j6, j7⟩ := HI.out.1
          obtain ⟨o1, o2, o3, -⟩ := HOM.out
          exact mp_of hgw (by rw [j5]; exact c0) (by rw [j6]; exact c1) c2 c3 c4 (pv_own o1) (own_rv o2) (own_rv o3)
        have HUC := Lib.hid (useless_any g7 st.m st.i a3 cap3 tabs wr hmp HI.out.1.1 HI.out.1.2.1 hlt ((HS3.out.below HB.out (Nat.le_refl _)).mono HB.out.size) (by omega))
        have HLC := Lib.hid (fun w1 (hb : Below wr.heap.size wr w1) => less_any g7 st.m.bd st.i w1 (hmp.step hb).bp hlt (by omega))
        obtain ⟨f', hf'⟩ : ∃ f', fuel = f' + 1 := ⟨fuel - 1, by have h9 := HI.out.2.1; unfold prMeas at h9; omega⟩
        have HNX : Hid (prInv m (prStep tabs st) ∧ prMeas (prStep tabs st) ≤ f' ∧ prRun tabs f' (prStep tabs st) = RV') := Lib.hid ⟨prInv_step m tabs st HI.out.1 hlt, by have h9 := HI.out.2.1; have h8 := prMeas_step tabs st hlt hl60; omega, by rw [← HI.out.2.2, hf', prRun_step _ _ _ hlt]⟩
        clear hf' hmp
        go_wp2_with fail
        refine HUC.out.mono ?_
        rintro e w6 ⟨rfl, hb6⟩
        rcases Bool.eq_false_or_eq_true (ulP st.m tabs st.i) with gp | gp
        · rw [prStep_yes tabs st gp] at HNX
          have HOM6 := Lib.hid (HOM.out.below hb6)
          have HB6 := Lib.hid (bl_trans HB.out hb6)
          have hg6 : g7 < w6.heap.size := Nat.lt_of_lt_of_le hgw hb6.size
          have d0 : w6.cell? ⟨g7, 0, none⟩ = some (.int .i8 m.bd.wd) := by rw [hb6.cell (p := ⟨g7, 0, none⟩) hgw]; exact c0
          have d1 : w6.cell? ⟨g7, 1, none⟩ = some (.int .i8 m.bd.hg) := by rw [hb6.cell (p := ⟨g7, 1, none⟩) hgw]; exact c1
          have d2 : w6.cell? ⟨g7, 2, none⟩ = some (.slice pa st.m.bd.ps.length pc) := by rw [hb6.cell (p := ⟨g7, 2, none⟩) hgw]; exact c2
          have d3 : w6.cell? ⟨g7, 3, none⟩ = some (.slice ai4 m.ins.length ci4) := by rw [hb6.cell (p := ⟨g7, 3, none⟩) hgw]; exact c3
          have d4 : w6.cell? ⟨g7, 4, none⟩ = some (.slice ao4 m.outs.length co4) := by rw [hb6.cell (p := ⟨g7, 4, none⟩) hgw]; exact c4
          have k0 : w6.frozen? ⟨g7, 0, none⟩ = false := by rw [hb6.frozen (p := ⟨g7, 0, none⟩) hgw]; exact f0
          have k1 : w6.frozen? ⟨g7, 1, none⟩ = false := by rw [hb6.frozen (p := ⟨g7, 1, none⟩) hgw]; exact f1
          have k2 : w6.frozen? ⟨g7, 2, none⟩ = false := by rw [hb6.frozen (p := ⟨g7, 2, none⟩) hgw]; exact f2
          have HLC6 := Lib.hid (HLC.out w6 hb6)
          have HJ : Hid (st.m.ins = m.ins ∧ st.m.outs = m.outs ∧ st.m.bd.wd = m.bd.wd ∧ st.m.bd.hg = m.bd.hg) := Lib.hid ⟨HI.out.1.2.2.1, HI.out.1.2.2.2.1, HI.out.1.2.2.2.2.1, HI.out.1.2.2.2.2.2.1⟩
          rw [HJ.out.2.2.1, HJ.out.2.2.2] at HLC6
          have HLE : Hid ((woMc st.m st.i).bd.ps.length = (st.m.bd.ps.eraseIdx st.i).length ∧ (st.m.bd.ps.eraseIdx st.i).length = st.m.bd.ps.length - 1) := Lib.hid ⟨rfl, by rw [List.length_eraseIdx, if_pos hlt]⟩
          clear c0 c1 c2 c3 c4 f0 f1 f2 hb6 HUC
          go_wp2_with fail
          refine HLC6.out.mono ?_
          rintro e w7 ⟨vp, rfl, Op, hb7⟩
          obtain ⟨ap, cp, rfl, -⟩ := own_at Op
          have HAP := Lib.hid (And.intro (show Apart (.slice ap (st.m.bd.ps.eraseIdx st.i).length cp) (.slice ai4 m.ins.length ci4) from ⟨own_apart' HOM6.out.2.1 Op (Nat.le_refl _), own_apart HOM6.out.2.1 Op (Nat.le_refl _)⟩) (show Apart (.slice ap (st.m.bd.ps.eraseIdx st.i).length cp) (.slice ao4 m.outs.length co4) from ⟨own_apart' HOM6.out.2.2.1 Op (Nat.le_refl _), own_apart HOM6.out.2.2.1 Op (Nat.le_refl _)⟩))
          have e0 : w7.cell? ⟨g7, 0, none⟩ = some (.int .i8 m.bd.wd) := by rw [hb7.cell (p := ⟨g7, 0, none⟩) hg6]; exact d0
          have e1 : w7.cell? ⟨g7, 1, none⟩ = some (.int .i8 m.bd.hg) := by rw [hb7.cell (p := ⟨g7, 1, none⟩) hg6]; exact d1
          have e2 : w7.cell? ⟨g7, 2, none⟩ = some (.slice pa st.m.bd.ps.length pc) := by rw [hb7.cell (p := ⟨g7, 2, none⟩) hg6]; exact d2
          have e3 : w7.cell? ⟨g7, 3, none⟩ = some (.slice ai4 m.ins.length ci4) := by rw [hb7.cell (p := ⟨g7, 3, none⟩) hg6]; exact d3
          have e4 : w7.cell? ⟨g7, 4, none⟩ = some (.slice ao4 m.outs.length co4) := by rw [hb7.cell (p := ⟨g7, 4, none⟩) hg6]; exact d4
          have l0 : w7.frozen? ⟨g7, 0, none⟩ = false := by rw [hb7.frozen (p := ⟨g7, 0, none⟩) hg6]; exact k0
          have l1 : w7.frozen? ⟨g7, 1, none⟩ = false := by rw [hb7.frozen (p := ⟨g7, 1, none⟩) hg6]; exact k1
          have l2 : w7.frozen? ⟨g7, 2, none⟩ = false := by rw [hb7.frozen (p := ⟨g7, 2, none⟩) hg6]; exact k2
          have HOM7 := Lib.hid (HOM6.out.below hb7)
          have hg7' : g7 < w7.heap.size := Nat.lt_of_lt_of_le hg6 hb7.size
          have HOP := Lib.hid Op
          have HB7 := Lib.hid (bl_trans HB6.out hb7)
          have hzs : w3.heap.size ≤ w6.heap.size := HB6.out.size
          clear d0 d1 d2 d3 d4 k0 k1 k2 hb7 Op HLC6 HLC
          go_wp2
          have HW : Hid ((let W := ((w7.setCell ⟨g7, 0, none⟩ (.int .i8 m.bd.wd)).setCell ⟨g7, 1, none⟩ (.int .i8 m.bd.hg)).setCell ⟨g7, 2, none⟩ (.slice ap (st.m.bd.ps.eraseIdx st.i).length cp); (W.cell? ⟨g7, 0, none⟩ = some (.int .i8 m.bd.wd) ∧ W.cell? ⟨g7, 1, none⟩ = some (.int .i8 m.bd.hg) ∧ W.cell? ⟨g7, 2, none⟩ = some (.slice ap (st.m.bd.ps.eraseIdx st.i).length cp) ∧ W.cell? ⟨g7, 3, none⟩ = some (.slice ai4 m.ins.length ci4) ∧ W.cell? ⟨g7, 4, none⟩ = some (.slice ao4 m.outs.length co4)) ∧ (W.frozen? ⟨g7, 0, none⟩ = false ∧ W.frozen? ⟨g7, 1, none⟩ = false ∧ W.frozen? ⟨g7, 2, none⟩ = false))) := Lib.hid (by simp [go_sem, e0, e1, e2, e3, e4, l0, l1, l2])
          have HOW : Hid (OwnM (((w7.setCell ⟨g7, 0, none⟩ (.int .i8 m.bd.wd)).setCell ⟨g7, 1, none⟩ (.int .i8 m.bd.hg)).setCell ⟨g7, 2, none⟩ (.slice ap (st.m.bd.ps.eraseIdx st.i).length cp)) w3.heap.size (.slice ap (st.m.bd.ps.eraseIdx st.i).length cp) (.slice ai4 m.ins.length ci4) (.slice ao4 m.outs.length co4) (woMc st.m st.i)) := Lib.hid (by
            refine ⟨?_, ?_, ?_, HAP.out.1, HAP.out.2, HOM7.out.2.2.2.2.2⟩
            · refine own_mono (base' := w6.heap.size) ?_ hzs
              repeat (with_reducible refine ownsRow_setCell_below ?_ (by first | (simp; done) | (simp; omega)) _)
              exact HOP.out
            · repeat (with_reducible refine own_setNe ?_ _ _ _ (fun q hq => by have := HN5.out.2.1 q hq; omega))
              exact HOM7.out.2.1
            · repeat (with_reducible refine own_setNe ?_ _ _ _ (fun q hq => by have := HN5.out.2.2 q hq; omega))
              exact HOM7.out.2.2.1)
          have hle := HLE.out.2
          go_roundw
          case rel => exact ⟨⟨woMc st.m st.i, 0, st.c + 1⟩, f', ap, cp, by go_num, rfl, HNX, Nat.zero_le _, by show (st.m.bd.ps.eraseIdx st.i).length + (st.c + 1) = _; omega, by show (st.m.bd.ps.eraseIdx st.i).length ≤ 60; omega, HW, HOW, Lib.hid (fun q hq => by have := (HOP.out.lt q hq).1; omega), by simp; omega, Lib.hid (bl_set (bl_set (bl_set HB7.out hw3g _) hw3g _) hw3g _)⟩
          case measure => simp [intOf]; omega
        · rw [prStep_no tabs st gp] at HNX
          have HOM6 := Lib.hid (HOM.out.below hb6)
          have HB6 := Lib.hid (bl_trans HB.out hb6)
          have HX6 : Hid ((w6.cell? ⟨g7, 0, none⟩ = some (.int .i8 m.bd.wd) ∧ w6.cell? ⟨g7, 1, none⟩ = some (.int .i8 m.bd.hg) ∧ w6.cell? ⟨g7, 2, none⟩ = some (.slice pa st.m.bd.ps.length pc) ∧ w6.cell? ⟨g7, 3, none⟩ = some (.slice ai4 m.ins.length ci4) ∧ w6.cell? ⟨g7, 4, none⟩ = some (.slice ao4 m.outs.length co4)) ∧ (w6.frozen? ⟨g7, 0, none⟩ = false ∧ w6.frozen? ⟨g7, 1, none⟩ = false ∧ w6.frozen? ⟨g7, 2, none⟩ = false)) := Lib.hid (by
            obtain ⟨hc, hf⟩ := bcell hb6
            rw [hc _ _ hgw, hc _ _ hgw, hc _ _ hgw, hc _ _ hgw, hc _ _ hgw, hf _ _ hgw, hf _ _ hgw, hf _ _ hgw]
            exact HX.out)
          have hg6 : g7 < w6.heap.size := Nat.lt_of_lt_of_le hgw hb6.size
          clear c0 c1 c2 c3 c4 f0 f1 f2 hb6 HUC
          go_wp2
          go_roundw
          case rel => exact ⟨⟨st.m, st.i + 1, st.c⟩, f', pa, pc, rfl, by go_num, HNX, hlt, hlc, hl60, HX6, HOM6, HNP, hg6, HB6⟩
          case measure => simp [intOf]; omega
      · have hiI : ¬ (st.i : Int) < st.m.bd.ps.length := by omega
        have HE : Hid (RV' = st) := Lib.hid (by rw [← HI.out.2.2]; exact prRun_end tabs st hlt fuel)
        have HJ : Hid (st.m.bd.wd = m.bd.wd ∧ st.m.bd.hg = m.bd.hg) := Lib.hid ⟨HI.out.1.2.2.2.2.1, HI.out.1.2.2.2.2.2.1⟩
        have B2r := Lib.hid (bl_trans B23.out HB.out)
        obtain ⟨hcr, hfr⟩ := bcell B2r.out
        obtain ⟨u0, u1, u2, u3, u4⟩ := HX2.out
        obtain ⟨v0, v1, v2, v3, v4⟩ := HF2.out
        rw [← hcr _ _ hg2l] at u0 u1 u2 u3 u4
        rw [← hfr _ _ hg2l] at v0 v1 v2 v3 v4
        have hzz := B2.out.size
        have hne : g2 ≠ g7 := by omega
        clear hcr hfr
        go_wp2
        refine bodyPost_ret (v := .tuple #[mcv m.bd.wd m.bd.hg (.slice pa st.m.bd.ps.length pc) (.slice ai4 m.ins.length ci4) (.slice ao4 m.outs.length co4), .int .i64 st.c, .int .i64 0]) (by simp [results, Tryz.results55, go_sem, u0, u1, u2, u3, u4]) rfl ⟨_, _, _, by rw [HE.out, HJ.out.1, HJ.out.2], ?_, ?_⟩
        · rw [HE.out]
          obtain ⟨o1, o2, o3, o4⟩ := HOM.out
          have hz3 : w2.heap.size ≤ w3.heap.size := B23.out.size
          refine ⟨?_, ?_, ?_, o4⟩
          · refine own_mono (base' := w3.heap.size) ?_ (by omega)
            repeat (with_reducible refine ownsRow_setCell_below ?_ (by first | (simp; done) | (simp; omega)) _)
            exact o1
          · refine own_mono (base' := w3.heap.size) ?_ (by omega)
            repeat (with_reducible refine ownsRow_setCell_below ?_ (by first | (simp; done) | (simp; omega)) _)
            exact o2
          · refine own_mono (base' := w3.heap.size) ?_ (by omega)
            repeat (with_reducible refine ownsRow_setCell_below ?_ (by first | (simp; done) | (simp; omega)) _)
            exact o3
        · exact bl_set (bl_set (bl_set (bl_set (bl_set (bl_trans B3.out HB.out) hg2w _) hg2w _) hg2w _) hg2w _) hg2w _
  · have HC : Hid (mCode m = 1) := Lib.hid (by unfold mCode; rw [if_neg (by simp [g1])])
    have HPM : Hid (prM m = mcNone ∧ prC m = 0) := Lib.hid (by unfold prM prC; rw [if_neg (by simp [g1]), if_neg (by simp [g1])]; exact ⟨rfl, rfl⟩)
    rw [HC.out, HPM.out.1, HPM.out.2]
    rw [HC.out] at HMT
    clear g1 HC HPM
    go_enter Tryz.func55, Tryz.ntmps55
    go_wp2_with fail
    rw [← HWA.out, ← HbA.out]
    obtain ⟨w2, hw2, hz2, hb2, x0, x1, x2, x3, x4, f0, f1, f2, f3, f4⟩ := HBF.out
    rw [← hw2]
    rw [HBZ.out]
    obtain ⟨g2, hg2⟩ : ∃ g2, g2 = wA.heap.size := ⟨_, rfl⟩
    rw [← hg2] at x0 x1 x2 x3 x4 f0 f1 f2 f3 f4 ⊢
    have hg2l : g2 < w2.heap.size := by omega
    have hg2w : w.heap.size ≤ g2 := by omega
    have B2 := Lib.hid (bl_trans HBA.out hb2)
    have HX2 := Lib.hid (And.intro x0 (And.intro x1 (And.intro x2 (And.intro x3 x4))))
    have HF2 := Lib.hid (And.intro f0 (And.intro f1 (And.intro f2 (And.intro f3 f4))))
    clear hw2 hg2 hz2 hb2 x0 x1 x2 x3 x4 f0 f1 f2 f3 f4
    refine (HMT.out _ B2.out).mono ?_
    rintro e w3 ⟨v3, rfl, -, hb3⟩
    obtain ⟨hcr, hfr⟩ := bcell hb3
    obtain ⟨u0, u1, u2, u3, u4⟩ := HX2.out
    obtain ⟨v0, v1, v2, v3, v4⟩ := HF2.out
    rw [← hcr _ _ hg2l] at u0 u1 u2 u3 u4
    rw [← hfr _ _ hg2l] at v0 v1 v2 v3 v4
    have B3 := Lib.hid (bl_trans B2.out hb3)
    clear hcr hfr hb3
    go_wp2
    refine bodyPost_ret (v := .tuple #[mcv 0 0 (.slice none 0 0) (.slice none 0 0) (.slice none 0 0), .int .i64 0, .int .i64 1]) (by simp [results, Tryz.results55, go_sem, u0, u1, u2, u3, u4]) rfl ⟨_, _, _, rfl, nilM _ _, ?_⟩
    exact bl_set (bl_set (bl_set (bl_set (bl_set B3.out hg2w _) hg2w _) hg2w _) hg2w _) hg2w _
end Go.Proofs.YtdhjhnbmecbaaaaGreat
/- Contracts: PruneMachine (the reference). -/
namespace Go.Proofs.YtdhjhnbmecbaaaaGreat
open Go.RowKit
set_option linter.unusedVariables false
set_option linter.unusedSimpArgs false
set_option maxHeartbeats 400000
set_option maxRecDepth 100000
theorem nilC (w : World) (base : Nat) : OwnC w base (.slice none 0 0) (.slice none 0 0) (.slice none 0 0) mcNone :=
  ⟨World.ownsRow_nil _ _ _ _, World.ownsRow_nil _ _ _ _, World.ownsRow_nil _ _ _ _⟩
/-- A block that holds a machine, all of it writable. -/
def BW5 (w : World) (g : Nat) (v0 v1 v2 v3 v4 : Value) : Prop := (w.cell? ⟨g, 0, none⟩ = some v0 ∧ w.cell? ⟨g, 1, none⟩ = some v1 ∧ w.cell? ⟨g, 2, none⟩ = some v2 ∧ w.cell? ⟨g, 3, none⟩ = some v3 ∧ w.cell? ⟨g, 4, none⟩ = some v4) ∧ w.frozen? ⟨g, 0, none⟩ = false ∧ w.frozen? ⟨g, 1, none⟩ = false ∧ w.frozen? ⟨g, 2, none⟩ = false ∧ w.frozen? ⟨g, 3, none⟩ = false ∧ w.frozen? ⟨g, 4, none⟩ = false
theorem BW5.step {w w' : World} {g : Nat} {v0 v1 v2 v3 v4 : Value} (h : BW5 w g v0 v1 v2 v3 v4) (hl : g < w.heap.size) (hb : Below w.heap.size w w') : BW5 w' g v0 v1 v2 v3 v4 := by
  obtain ⟨hc, hf⟩ := bcell hb
  unfold BW5
  rw [hc _ _ hl, hc _ _ hl, hc _ _ hl, hc _ _ hl, hc _ _ hl, hf _ _ hl, hf _ _ hl, hf _ _ hl, hf _ _ hl, hf _ _ hl]
  exact h
theorem BW5.of {w : World} {g : Nat} {v0 v1 v2 v3 v4 : Value} (c0 : w.cell? ⟨g, 0, none⟩ = some v0) (c1 : w.cell? ⟨g, 1, none⟩ = some v1) (c2 : w.cell? ⟨g, 2, none⟩ = some v2) (c3 : w.cell? ⟨g, 3, none⟩ = some v3) (c4 : w.cell? ⟨g, 4, none⟩ = some v4) (f0 : w.frozen? ⟨g, 0, none⟩ = false) (f1 : w.frozen? ⟨g, 1, none⟩ = false) (f2 : w.frozen? ⟨g, 2, none⟩ = false) (f3 : w.frozen? ⟨g, 3, none⟩ = false) (f4 : w.frozen? ⟨g, 4, none⟩ = false) : BW5 w g v0 v1 v2 v3 v4 := ⟨⟨c0, c1, c2, c3, c4⟩, f0, f1, f2, f3, f4⟩
set_option maxHeartbeats 3200000 in
theorem specPruneMachine_any (m : Mc) (v : Value) (w : World) (h : MVp w v m) (hok : m.ok) (hn : m.bd.ps.length ≤ 10000000) (hn1 : m.ins.length ≤ 10000000) (hn2 : m.outs.length ≤ 10000000) :
    Calls Tryz.prog 54 #[v] w fun e w' => ∃ s si so, e = .returned (.tuple #[mcv (prM m).bd.wd (prM m).bd.hg s si so, .int .i64 (prC m), .int .i64 (mCode m)]) ∧ OwnC w' w.heap.size s si so (prM m) ∧ Below w.heap.size w w' := by
  obtain ⟨sa, scap, si, so, rfl, hcap, h0, ⟨ai, capi, rfl, h1⟩, ⟨ao, capo, rfl, h2⟩⟩ := h
  have HM := Lib.hid (MP.new (m := m) (w := w) ⟨sa, scap, rfl, h0⟩ ⟨ai, capi, rfl, h1⟩ ⟨ao, capo, rfl, h2⟩ 40)
  have HBA := Lib.hid (show Below w.heap.size w (w.alloc (.cells #[.int .i8 m.bd.wd, .int .i8 m.bd.hg, .slice sa m.bd.ps.length scap, .slice ai m.ins.length capi, .slice ao m.outs.length capo] 40)) from bl_alloc (Below.refl _ _))
  obtain ⟨wA, hwA⟩ : ∃ wA, wA = w.alloc (.cells #[.int .i8 m.bd.wd, .int .i8 m.bd.hg, .slice sa m.bd.ps.length scap, .slice ai m.ins.length capi, .slice ao m.outs.length capo] 40) := ⟨_, rfl⟩
  have hzA : wA.heap.size = w.heap.size + 1 := by rw [hwA]; simp
  rw [← hwA] at HBA HM
  have HWA := Lib.hid hwA
  have HBF := Lib.hid (BF5new wA (.int .i8 0) (.int .i8 0) (.slice none 0 0) (.slice none 0 0) (.slice none 0 0) 40)
  obtain ⟨bA, hbA⟩ : ∃ bA, bA = w.heap.size := ⟨_, rfl⟩
  rw [← hbA] at HM
  have HbA := Lib.hid hbA
  have hbAl : bA < wA.heap.size := by omega
  have hbAz : bA + 1 = wA.heap.size := by omega
  have HBZ := Lib.hid hbAz
  have hwAz : w.heap.size ≤ wA.heap.size := by omega
  clear hwA hbA hbAz h0 h1 h2
  have HOK := Lib.hid (fun w1 (hb : Below wA.heap.size wA w1) => l03Ok_any bA m w1 (HM.out.step hb) hok hn hn1 hn2)
  rcases Bool.eq_false_or_eq_true (vMc m) with g1 | g1
  · obtain ⟨hvb, h60, hi1, hi6, ho1, ho8, -⟩ := vMc_parts m g1
    have HC : Hid (mCode m = 0) := Lib.hid (by unfold mCode; rw [if_pos g1])
    have HPM : Hid (prM m = (prVal m).m ∧ prC m = ((prVal m).c : Int)) := Lib.hid (by unfold prM prC; rw [if_pos g1, if_pos g1]; exact ⟨rfl, rfl⟩)
    rw [HC.out, HPM.out.1, HPM.out.2]
    rw [g1] at HOK
    have HTA := Lib.hid (fun w1 (hb : Below wA.heap.size wA w1) => l03Tables_any bA m w1 (HM.out.step hb) g1 hok)
    have HTE : Hid (mTabI m = (mTabs m).map (fun (n : Nat) => (n : Int))) := Lib.hid rfl
    have HT8 : Hid ((mTabs m).length = m.outs.length) := Lib.hid (mTabs_len m)
    rw [HTE.out] at HTA
    rw [← HT8.out] at HTA
    have hT8 : (mTabs m).length ≤ 8 := by rw [mTabs_len]; exact ho8
    have HCL := Lib.hid (fun w1 (hb : Below wA.heap.size wA w1) => l03Copy_any bA m w1 (HM.out.step hb) (by omega) (by omega) (by omega) (by omega) (by omega))
    have HR0 : Hid (prRun (mTabs m) 4000 ⟨m, 0, 0⟩ = prVal m) := Lib.hid rfl
    have HI0 := Lib.hid (prInv_start m g1 hok)
    obtain ⟨tabs, htabs⟩ : ∃ tabs, tabs = mTabs m := ⟨_, rfl⟩
    rw [← htabs] at HTA hT8 HR0
    obtain ⟨RV', hRV⟩ : ∃ RV', RV' = prVal m := ⟨_, rfl⟩
    rw [← hRV] at HR0 ⊢
    clear g1 HC HPM htabs HTE HT8 hRV
    go_enter Tryz.func54, Tryz.ntmps54
    go_wp2_with fail
    rw [← HWA.out, ← HbA.out]
    obtain ⟨w2, hw2, hz2, hb2, x0, x1, x2, x3, x4, f0, f1, f2, f3, f4⟩ := HBF.out
    rw [← hw2]
    rw [HBZ.out]
    obtain ⟨g2, hg2⟩ : ∃ g2, g2 = wA.heap.size := ⟨_, rfl⟩
    rw [← hg2] at x0 x1 x2 x3 x4 f0 f1 f2 f3 f4 ⊢
    have hg2l : g2 < w2.heap.size := by omega
    have hg2w : w.heap.size ≤ g2 := by omega
    have B2 := Lib.hid (bl_trans HBA.out hb2)
    have BA2 := Lib.hid hb2
    have HX2 := Lib.hid (BW5.of x0 x1 x2 x3 x4 f0 f1 f2 f3 f4)
    clear hw2 hg2 hz2 hb2 x0 x1 x2 x3 x4 f0 f1 f2 f3 f4
    refine (HOK.out _ BA2.out).mono ?_
    rintro e w2' ⟨rfl, hb2'⟩
    have BA2' := Lib.hid (bl_trans BA2.out hb2')
    have B22' := Lib.hid hb2'
    clear hb2'
    go_wp2_with fail
    refine (HTA.out _ BA2'.out).mono ?_
    rintro e w3 ⟨v3, rfl, hown3, hb3⟩
    obtain ⟨a3, cap3, rfl, hsl3, -, -⟩ := own_at hown3
    have HS3 := Lib.hid hsl3
    have B23 := Lib.hid (bl_trans B22'.out hb3)
    have B3 := Lib.hid (bl_trans B2.out B23.out)
    have BA3 := Lib.hid (bl_trans BA2.out B23.out)
    clear hown3 hsl3 hb3
    go_wp2_with fail
    refine (HCL.out _ BA3.out).mono ?_
    rintro e w4 ⟨s4, si4, so4, rfl, OM4, hb4⟩
    obtain ⟨as4, cs4, rfl, hcs4⟩ := own_at OM4.1
    obtain ⟨ai4, ci4, rfl, -⟩ := own_at OM4.2.1
    obtain ⟨ao4, co4, rfl, -⟩ := own_at OM4.2.2
    have B34 := Lib.hid hb4
    have HOM4 := Lib.hid OM4
    have HBF5 := Lib.hid (BF5new w4 (.int .i8 m.bd.wd) (.int .i8 m.bd.hg) (.slice as4 m.bd.ps.length cs4) (.slice ai4 m.ins.length ci4) (.slice ao4 m.outs.length co4) 40)
    clear OM4 hb4
    go_wp2
    obtain ⟨w5, hw5, hz5, hb5, x0, x1, x2, x3, x4, f0, f1, f2, f3, f4⟩ := HBF5.out
    rw [← hw5]
    obtain ⟨g7, hg7⟩ : ∃ g7, g7 = w4.heap.size := ⟨_, rfl⟩
    rw [← hg7] at x0 x1 x2 x3 x4 f0 f1 f2 f3 f4 ⊢
    have hg7l : g7 < w5.heap.size := by omega
    have hz34 := B34.out.size
    have hz23 := B23.out.size
    have hz02 := B2.out.size
    have hg7g : g2 < g7 := by omega
    have hg7w : w.heap.size ≤ g7 := by omega
    have hw3g : w3.heap.size ≤ g7 := by omega
    have HOM5 := Lib.hid (HOM4.out.below hb5)
    have HN5 : Hid ((∀ q, (Value.slice as4 m.bd.ps.length cs4).ownBlock = some q → q ≠ g7) ∧ (∀ q, (Value.slice ai4 m.ins.length ci4).ownBlock = some q → q ≠ g7) ∧ (∀ q, (Value.slice ao4 m.outs.length co4).ownBlock = some q → q ≠ g7)) := Lib.hid ⟨fun q hq => by have := (HOM4.out.1.lt q hq).2; omega, fun q hq => by have := (HOM4.out.2.1.lt q hq).2; omega, fun q hq => by have := (HOM4.out.2.2.lt q hq).2; omega⟩
    have HX5 := Lib.hid (BW5.of x0 x1 x2 x3 x4 f0 f1 f2 f3 f4)
    have B35 := Lib.hid (bl_trans B34.out hb5)
    clear hw5 hg7 hz5 hb5 x0 x1 x2 x3 x4 f0 f1 f2 f3 f4
    go_loopw [7, 8] (fun cx ix wr => ∃ (st : PrS) (fuel : Nat) (pa : Option Addr) (pc : Nat) (ia : Option Addr) (ic : Nat) (oa : Option Addr) (oc : Nat), cx = .int .i64 st.c ∧ ix = .int .i64 st.i ∧ Hid (prInv m st ∧ prMeas st ≤ fuel ∧ prRun tabs fuel st = RV') ∧ st.i ≤ st.m.bd.ps.length ∧ st.m.bd.ps.length + st.c = m.bd.ps.length ∧ st.m.bd.ps.length ≤ 60 ∧
       Hid (BW5 wr g7 (.int .i8 m.bd.wd) (.int .i8 m.bd.hg) (.slice pa st.m.bd.ps.length pc) (.slice ia st.m.ins.length ic) (.slice oa st.m.outs.length oc)) ∧
       Hid (OwnC wr w3.heap.size (.slice pa st.m.bd.ps.length pc) (.slice ia st.m.ins.length ic) (.slice oa st.m.outs.length oc) st.m) ∧ Hid ((∀ q, (Value.slice pa st.m.bd.ps.length pc).ownBlock = some q → q ≠ g7) ∧ (∀ q, (Value.slice ia st.m.ins.length ic).ownBlock = some q → q ≠ g7) ∧ (∀ q, (Value.slice oa st.m.outs.length oc).ownBlock = some q → q ≠ g7)) ∧ g7 < wr.heap.size ∧ Hid (Below w3.heap.size w3 wr)) (fun cx ix _ => (m.bd.ps.length - (intOf cx).toNat) * 62 + (m.bd.ps.length - (intOf cx).toNat - (intOf ix).toNat))
    case atStart => exact ⟨⟨m, 0, 0⟩, 4000, as4, cs4, ai4, ci4, ao4, co4, rfl, rfl, Lib.hid ⟨HI0.out, by show m.bd.ps.length * 62 + (m.bd.ps.length - 0) ≤ 4000; omega, HR0.out⟩, Nat.zero_le _, rfl, h60, HX5, HOM5, HN5, hg7l, B35⟩
    case round =>
      obtain ⟨st, fuel, pa, pc, ia, ic, oa, oc, rfl, rfl, HI, hil, hlc, hl60, HX, HOM, HNP, hgw, HB⟩ := hrel
      have hxx := HX.out
      obtain ⟨⟨c0, c1, c2, c3, c4⟩, f0, f1, f2, f3, f4⟩ := hxx
      by_cases hlt : st.i < st.m.bd.ps.length
      · have hiI : (st.i : Int) < st.m.bd.ps.length := by omega
        have HJ : Hid (st.m.ins = m.ins ∧ st.m.outs = m.outs ∧ st.m.bd.wd = m.bd.wd ∧ st.m.bd.hg = m.bd.hg) := Lib.hid ⟨HI.out.1.2.2.1, HI.out.1.2.2.2.1, HI.out.1.2.2.2.2.1, HI.out.1.2.2.2.2.2.1⟩
        have hmp : MP wr g7 st.m := by
          obtain ⟨o1, o2, o3⟩ := HOM.out
          exact mp_of hgw (by rw [HJ.out.2.2.1]; exact c0) (by rw [HJ.out.2.2.2]; exact c1) c2 c3 c4 (pv_own o1) (own_rv o2) (own_rv o3)
        have hco : CapOk wr g7 := by
          intro a n cap hc
          rw [c2] at hc
          simp only [Option.some.injEq, Value.slice.injEq] at hc
          obtain ⟨a9, cap9, e9, -, l9, -⟩ := own_at HOM.out.1
          simp only [Value.slice.injEq, true_and] at e9
          omega
        obtain ⟨p1, p2, p3, p4, p5, p6, -⟩ := vMc_parts st.m HI.out.1.1
        have HUC := Lib.hid (l03Useless_any g7 st.m st.i a3 cap3 tabs wr hmp HI.out.1.1 HI.out.1.2.1 hlt hco ((HS3.out.below HB.out (Nat.le_refl _)).mono HB.out.size) (by omega))
        have HLC := Lib.hid (fun w1 (hb : Below wr.heap.size wr w1) => l03Without_any g7 st.m st.i w1 (hmp.step hb) hlt (by omega) (by omega) (by omega) (by omega) (by omega) (hco.step hgw hb))
        rw [HJ.out.2.2.1, HJ.out.2.2.2] at HLC
        obtain ⟨f', hf'⟩ : ∃ f', fuel = f' + 1 := ⟨fuel - 1, by have h9 := HI.out.2.1; unfold prMeas at h9; omega⟩
        have HNX : Hid (prInv m (prStep tabs st) ∧ prMeas (prStep tabs st) ≤ f' ∧ prRun tabs f' (prStep tabs st) = RV') := Lib.hid ⟨prInv_step m tabs st HI.out.1 hlt, by have h9 := HI.out.2.1; have h8 := prMeas_step tabs st hlt hl60; omega, by rw [← HI.out.2.2, hf', prRun_step _ _ _ hlt]⟩
        clear hf' hmp hco p1 p2 p3 p4 p5 p6
        go_wp2_with fail
        refine HUC.out.mono ?_
        rintro e w6 ⟨rfl, hb6⟩
        have HX6 := Lib.hid (HX.out.step hgw hb6)
        have HOM6 := Lib.hid (HOM.out.below hb6)
        have HB6 := Lib.hid (bl_trans HB.out hb6)
        have hg6 : g7 < w6.heap.size := Nat.lt_of_lt_of_le hgw hb6.size
        have HLC6 := Lib.hid (HLC.out w6 hb6)
        clear c0 c1 c2 c3 c4 f0 f1 f2 f3 f4 hb6 HUC HLC
        rcases Bool.eq_false_or_eq_true (ulP st.m tabs st.i) with gp | gp
        · rw [prStep_yes tabs st gp] at HNX
          have hle : (st.m.bd.ps.eraseIdx st.i).length = st.m.bd.ps.length - 1 := by rw [List.length_eraseIdx, if_pos hlt]
          have HLEx := Lib.hid hle
          clear hle
          go_wp2_with fail
          refine HLC6.out.mono ?_
          rintro e w7 ⟨sp, ss, st7, rfl, OC, hb7⟩
          obtain ⟨ap, cp, rfl, -⟩ := own_at OC.1
          obtain ⟨as7, cs7, rfl, -⟩ := own_at OC.2.1
          obtain ⟨ao7, co7, rfl, -⟩ := own_at OC.2.2
          have hx7 := HX6.out.step hg6 hb7
          obtain ⟨⟨e0, e1, e2, e3, e4⟩, l0, l1, l2, l3, l4⟩ := hx7
          have hg7' : g7 < w7.heap.size := Nat.lt_of_lt_of_le hg6 hb7.size
          have HOC := Lib.hid OC
          have HB7 := Lib.hid (bl_trans HB6.out hb7)
          have hzs : w3.heap.size ≤ w6.heap.size := HB6.out.size
          clear hb7 OC HLC6
          go_wp2
          have HW : Hid (BW5 (((((w7.setCell ⟨g7, 0, none⟩ (.int .i8 m.bd.wd)).setCell ⟨g7, 1, none⟩ (.int .i8 m.bd.hg)).setCell ⟨g7, 2, none⟩ (.slice ap (woMc st.m st.i).bd.ps.length cp)).setCell ⟨g7, 3, none⟩ (.slice as7 (woMc st.m st.i).ins.length cs7)).setCell ⟨g7, 4, none⟩ (.slice ao7 (woMc st.m st.i).outs.length co7)) g7 (.int .i8 m.bd.wd) (.int .i8 m.bd.hg) (.slice ap (woMc st.m st.i).bd.ps.length cp) (.slice as7 (woMc st.m st.i).ins.length cs7) (.slice ao7 (woMc st.m st.i).outs.length co7)) := Lib.hid (by unfold BW5; simp [go_sem, e0, e1, e2, e3, e4, l0, l1, l2, l3, l4])
          have HOW : Hid (OwnC (((((w7.setCell ⟨g7, 0, none⟩ (.int .i8 m.bd.wd)).setCell ⟨g7, 1, none⟩ (.int .i8 m.bd.hg)).setCell ⟨g7, 2, none⟩ (.slice ap (woMc st.m st.i).bd.ps.length cp)).setCell ⟨g7, 3, none⟩ (.slice as7 (woMc st.m st.i).ins.length cs7)).setCell ⟨g7, 4, none⟩ (.slice ao7 (woMc st.m st.i).outs.length co7)) w3.heap.size (.slice ap (woMc st.m st.i).bd.ps.length cp) (.slice as7 (woMc st.m st.i).ins.length cs7) (.slice ao7 (woMc st.m st.i).outs.length co7) (woMc st.m st.i)) := Lib.hid (by
            refine ⟨?_, ?_, ?_⟩
            · refine own_mono (base' := w6.heap.size) ?_ hzs
              repeat (with_reducible refine ownsRow_setCell_below ?_ (by first | (simp; done) | (simp; omega)) _)
              exact HOC.out.1
            · refine own_mono (base' := w6.heap.size) ?_ hzs
              repeat (with_reducible refine ownsRow_setCell_below ?_ (by first | (simp; done) | (simp; omega)) _)
              exact HOC.out.2.1
            · refine own_mono (base' := w6.heap.size) ?_ hzs
              repeat (with_reducible refine ownsRow_setCell_below ?_ (by first | (simp; done) | (simp; omega)) _)
              exact HOC.out.2.2)
          have hle : (woMc st.m st.i).bd.ps.length = st.m.bd.ps.length - 1 := HLEx.out
          go_roundw
          case rel => exact ⟨⟨woMc st.m st.i, 0, st.c + 1⟩, f', ap, cp, as7, cs7, ao7, co7, by go_num, rfl, HNX, Nat.zero_le _, by show (woMc st.m st.i).bd.ps.length + (st.c + 1) = _; omega, by show (woMc st.m st.i).bd.ps.length ≤ 60; omega, HW, HOW, Lib.hid ⟨fun q hq => by have := (HOC.out.1.lt q hq).1; omega, fun q hq => by have := (HOC.out.2.1.lt q hq).1; omega, fun q hq => by have := (HOC.out.2.2.lt q hq).1; omega⟩, by simp; omega, Lib.hid (bl_set (bl_set (bl_set (bl_set (bl_set HB7.out hw3g _) hw3g _) hw3g _) hw3g _) hw3g _)⟩
          case measure => simp [intOf]; omega
        · rw [prStep_no tabs st gp] at HNX
          clear HLC6
          go_wp2
          go_roundw
          case rel => exact ⟨⟨st.m, st.i + 1, st.c⟩, f', pa, pc, ia, ic, oa, oc, rfl, by go_num, HNX, hlt, hlc, hl60, HX6, HOM6, HNP, hg6, HB6⟩
          case measure => simp [intOf]; omega
      · have hiI : ¬ (st.i : Int) < st.m.bd.ps.length := by omega
        have HE : Hid (RV' = st) := Lib.hid (by rw [← HI.out.2.2]; exact prRun_end tabs st hlt fuel)
        have HJ : Hid (st.m.bd.wd = m.bd.wd ∧ st.m.bd.hg = m.bd.hg) := Lib.hid ⟨HI.out.1.2.2.2.2.1, HI.out.1.2.2.2.2.2.1⟩
        have B2r := Lib.hid (bl_trans B23.out HB.out)
        have hx2 := HX2.out.step hg2l B2r.out
        obtain ⟨⟨u0, u1, u2, u3, u4⟩, v0, v1, v2, v3, v4⟩ := hx2
        have hzz := B2.out.size
        have hne : g2 ≠ g7 := by omega
        go_wp2
        refine bodyPost_ret (v := .tuple #[mcv m.bd.wd m.bd.hg (.slice pa st.m.bd.ps.length pc) (.slice ia st.m.ins.length ic) (.slice oa st.m.outs.length oc), .int .i64 st.c, .int .i64 0]) (by simp [results, Tryz.results54, go_sem, u0, u1, u2, u3, u4]) rfl ⟨_, _, _, by rw [HE.out, HJ.out.1, HJ.out.2], ?_, ?_⟩
        · rw [HE.out]
          obtain ⟨o1, o2, o3⟩ := HOM.out
          have hz3 : w2.heap.size ≤ w3.heap.size := B23.out.size
          refine ⟨?_, ?_, ?_⟩
          · refine own_mono (base' := w3.heap.size) ?_ (by omega)
            repeat (with_reducible refine ownsRow_setCell_below ?_ (by first | (simp; done) | (simp; omega)) _)
            exact o1
          · refine own_mono (base' := w3.heap.size) ?_ (by omega)
            repeat (with_reducible refine ownsRow_setCell_below ?_ (by first | (simp; done) | (simp; omega)) _)
            exact o2
          · refine own_mono (base' := w3.heap.size) ?_ (by omega)
            repeat (with_reducible refine ownsRow_setCell_below ?_ (by first | (simp; done) | (simp; omega)) _)
            exact o3
        · exact bl_set (bl_set (bl_set (bl_set (bl_set (bl_trans B3.out HB.out) hg2w _) hg2w _) hg2w _) hg2w _) hg2w _
  · have HC : Hid (mCode m = 1) := Lib.hid (by unfold mCode; rw [if_neg (by simp [g1])])
    have HPM : Hid (prM m = mcNone ∧ prC m = 0) := Lib.hid (by unfold prM prC; rw [if_neg (by simp [g1]), if_neg (by simp [g1])]; exact ⟨rfl, rfl⟩)
    rw [HC.out, HPM.out.1, HPM.out.2]
    rw [g1] at HOK
    clear g1 HC HPM
    go_enter Tryz.func54, Tryz.ntmps54
    go_wp2_with fail
    rw [← HWA.out, ← HbA.out]
    obtain ⟨w2, hw2, hz2, hb2, x0, x1, x2, x3, x4, f0, f1, f2, f3, f4⟩ := HBF.out
    rw [← hw2]
    rw [HBZ.out]
    obtain ⟨g2, hg2⟩ : ∃ g2, g2 = wA.heap.size := ⟨_, rfl⟩
    rw [← hg2] at x0 x1 x2 x3 x4 f0 f1 f2 f3 f4 ⊢
    have hg2l : g2 < w2.heap.size := by omega
    have hg2w : w.heap.size ≤ g2 := by omega
    have B2 := Lib.hid (bl_trans HBA.out hb2)
    have BA2 := Lib.hid hb2
    have HX2 := Lib.hid (BW5.of x0 x1 x2 x3 x4 f0 f1 f2 f3 f4)
    clear hw2 hg2 hz2 hb2 x0 x1 x2 x3 x4 f0 f1 f2 f3 f4
    refine (HOK.out _ BA2.out).mono ?_
    rintro e w3 ⟨rfl, hb3⟩
    have hx2 := HX2.out.step hg2l hb3
    obtain ⟨⟨u0, u1, u2, u3, u4⟩, v0, v1, v2, v3, v4⟩ := hx2
    have B3 := Lib.hid (bl_trans B2.out hb3)
    clear hb3
    go_wp2
    refine bodyPost_ret (v := .tuple #[mcv 0 0 (.slice none 0 0) (.slice none 0 0) (.slice none 0 0), .int .i64 0, .int .i64 1]) (by simp [results, Tryz.results54, go_sem, u0, u1, u2, u3, u4]) rfl ⟨_, _, _, rfl, nilC _ _, ?_⟩
    exact bl_set (bl_set (bl_set (bl_set (bl_set B3.out hg2w _) hg2w _) hg2w _) hg2w _) hg2w _
end Go.Proofs.YtdhjhnbmecbaaaaGreat
/- Contracts: marks of a machine that are held; what a block holds while rows turn. -/
namespace Go.Proofs.YtdhjhnbmecbaaaaGreat
open Go.RowKit
set_option linter.unusedVariables false
set_option linter.unusedSimpArgs false
set_option maxHeartbeats 400000
set_option maxRecDepth 100000
theorem markMachine_own {w : World} {base : Nat} {s si so : Value} {m : Mc} (h : OwnM w base s si so m) (hn : m.bd.ps.length ≤ 10000000) (hn1 : m.ins.length ≤ 10000000) (hn2 : m.outs.length ≤ 10000000) :
    Calls Tryz.prog 25 #[mcv m.bd.wd m.bd.hg s si so, .int .i64 1] w fun e w' => e = .returned (.int .i64 (1 + 5 * m.bd.ps.length + 3 * m.ins.length + 2 * m.outs.length)) ∧ ∃ a b, w.grownBy a s.ownBlock ∧ a.grownBy b si.ownBlock ∧ b.grownBy w' so.ownBlock ∧ w'.ownsRow base 167 5 s m.bd.ps.length (flat Pc.cells (mkPc 1 m.bd.ps.length)) ∧ w'.ownsRow base 136 3 si m.ins.length (flat Po.cells (mkPo (1 + 5 * m.bd.ps.length) m.ins.length)) ∧ w'.ownsRow base 134 2 so m.outs.length (flat Ce.cells (mkCe (1 + 5 * m.bd.ps.length + 3 * m.ins.length) m.outs.length)) := by
  obtain ⟨o1, o2, o3, n12, n13, n23⟩ := h
  have hl1 : ∀ k, s.ownBlock = some k → k < w.heap.size := fun k hk => (o1.lt k hk).2
  have hl2 : ∀ k, si.ownBlock = some k → k < w.heap.size := fun k hk => (o2.lt k hk).2
  have g0 : w.grownBy (w.alloc (.cells #[.int .i8 m.bd.wd, .int .i8 m.bd.hg, s, si, so] 40)) s.ownBlock := ⟨rfl, rfl, rfl, by simp, fun k hk _ => Below.heap_alloc w _ k hk⟩
  have X := BX5.new w (.int .i8 m.bd.wd) (.int .i8 m.bd.hg) s si so 40
  have H1 := Lib.hid (markBoard_any (wd := m.bd.wd) (hg := m.bd.hg) 1 (w.alloc (.cells #[.int .i8 m.bd.wd, .int .i8 m.bd.hg, s, si, so] 40)) (own_below o1 (bl_alloc (Below.refl _ _)) (Nat.le_refl _)) hn (by omega) (by omega))
  have P2 := own_kept o2 g0 n12.2
  have P3 := own_kept o3 g0 n13.2
  clear o1 o2 o3
  go_enter Tryz.func25, Tryz.ntmps25
  go_wp2_with fail
  refine H1.out.mono ?_
  rintro e w1 ⟨rfl, ho1, g1⟩
  obtain ⟨X0, X1, X2, X3, X4, X5⟩ := X
  have hn0 : some w.heap.size ≠ s.ownBlock := fun e => by have := hl1 _ e.symm; omega
  have hn9 : some w.heap.size ≠ si.ownBlock := fun e => by have := hl2 _ e.symm; omega
  have x3 : w1.cell? ⟨w.heap.size, 3, none⟩ = some si := g1.cell X4 hn0
  have x4 : w1.cell? ⟨w.heap.size, 4, none⟩ = some so := g1.cell X5 hn0
  have y2 := own_kept P2 g1 n12.2
  have y3 := own_kept P3 g1 n13.2
  have hs1 := g1.size
  simp only [World.size_alloc] at hs1
  have q0 : w.heap.size < w1.heap.size := by omega
  clear X1 X2 X3 X4 X5 P2 P3
  have H2 := Lib.hid (markPortS_any (1 + 5 * m.bd.ps.length) w1 y2 hn1 (by omega) (by omega))
  go_wp2_with fail
  refine H2.out.mono ?_
  rintro e w2 ⟨rfl, ho2, g2⟩
  have z4 : w2.cell? ⟨w.heap.size, 4, none⟩ = some so := g2.cell x4 hn9
  have z3 := own_kept y3 g2 n23.2
  have hs2 := g2.size
  have q1 : w.heap.size < w2.heap.size := by omega
  have H3 := Lib.hid (markCellS_any (1 + 5 * m.bd.ps.length + 3 * m.ins.length) w2 z3 hn2 (by omega) (by omega))
  go_wp2_with fail
  refine H3.out.mono ?_
  rintro e w3 ⟨rfl, ho3, g3⟩
  go_wp2
  go_ret
  exact ⟨rfl, _, _, grown_trans g0 g1, g2, g3, own_kept (own_kept ho1 g2 n12.1) g3 n13.1, own_kept ho2 g3 n23.1, ho3⟩
theorem heldBoard_own {base n : Nat} {wd hg : Int} {v : Value} (k0 : Int) (w : World) (h : w.ownsRow base 167 5 v n (flat Pc.cells (mkPc k0 n))) (hn : n ≤ 10000000) (h1 : 0 ≤ k0) (h2 : k0 ≤ 1000000000) :
    Calls Tryz.prog 100 #[bdv wd hg v, .int .i64 k0] w fun e w' => e = .returned (.int .i64 (k0 + 5 * n)) ∧ Below w.heap.size w w' := by
  have H := Lib.hid (heldPieceS_own k0 (own_below h (bl_alloc (o := .cells #[.int .i8 wd, .int .i8 hg, v] 36) (Below.refl _ _)) (Nat.le_refl _)) hn h1 h2)
  have hk : ¬ k0 + 5 * (n : Int) < 0 := by omega
  go_enter Tryz.func100, Tryz.ntmps100
  go_wp2_with fail
  refine H.out.mono ?_
  rintro e w1 ⟨rfl, rfl⟩
  go_wp2
  go_ret
  exact ⟨rfl, (by repeat (first | with_reducible exact Below.refl _ _ | with_reducible assumption | with_reducible apply bl_drewN | with_reducible apply bl_drew | with_reducible apply bl_alloc | (with_reducible refine bl_set ?_ (by first | (simp; done) | (simp; omega)) _) | with_reducible refine bl_trans ?_ (by with_reducible assumption)))⟩
theorem heldMachine_own {b1 n n1 n2 : Nat} {wd hg : Int} {s si so : Value} (w : World) (h1 : w.ownsRow b1 167 5 s n (flat Pc.cells (mkPc 1 n))) (h2 : w.ownsRow b1 136 3 si n1 (flat Po.cells (mkPo (1 + 5 * n) n1))) (h3 : w.ownsRow b1 134 2 so n2 (flat Ce.cells (mkCe (1 + 5 * n + 3 * n1) n2))) (hn : n ≤ 10000000) (hn1 : n1 ≤ 10000000) (hn2 : n2 ≤ 10000000) :
    Calls Tryz.prog 56 #[mcv wd hg s si so, .int .i64 1] w fun e w' => e = .returned (.int .i64 (1 + 5 * n + 3 * n1 + 2 * n2)) ∧ Below w.heap.size w w' := by
  obtain ⟨wA, hwA⟩ : ∃ wA, wA = w.alloc (.cells #[.int .i8 wd, .int .i8 hg, s, si, so] 40) := ⟨_, rfl⟩
  have hbA : Below w.heap.size w wA := by rw [hwA]; exact bl_alloc (Below.refl _ _)
  have HX := Lib.hid (show BX5 wA w.heap.size _ _ _ _ _ by rw [hwA]; exact BX5.new w (.int .i8 wd) (.int .i8 hg) s si so 40)
  have HWA := Lib.hid hwA
  have HB := Lib.hid (heldBoard_own (wd := wd) (hg := hg) 1 wA (own_below h1 hbA (Nat.le_refl _)) hn (by omega) (by omega))
  have HP := Lib.hid (fun w1 (hb : Below wA.heap.size wA w1) => heldPortS_own (1 + 5 * (n : Int)) (own_below (own_below h2 hbA (Nat.le_refl _)) hb (Nat.le_refl _)) hn1 (by omega) (by omega))
  have HC := Lib.hid (fun w1 (hb : Below wA.heap.size wA w1) => heldCellS_own (1 + 5 * (n : Int) + 3 * n1) (own_below (own_below h3 hbA (Nat.le_refl _)) hb (Nat.le_refl _)) hn2 (by omega) (by omega))
  have HBA := Lib.hid hbA
  clear hwA hbA
  obtain ⟨as1, cs1, rfl, -⟩ := own_at h1
  obtain ⟨ai1, ci1, rfl, -⟩ := own_at h2
  obtain ⟨ao1, co1, rfl, -⟩ := own_at h3
  go_enter Tryz.func56, Tryz.ntmps56
  go_wp2_with fail
  rw [← HWA.out]
  refine HB.out.mono ?_
  rintro e w1 ⟨rfl, hb1⟩
  obtain ⟨-, x0, x1, x2, x3, x4⟩ := HX.out.step hb1
  have HB1 := Lib.hid hb1
  clear hb1
  go_wp2_with fail
  refine (HP.out _ HB1.out).mono ?_
  rintro e w' ⟨rfl, rfl⟩
  go_wp2_with fail
  refine (HC.out _ HB1.out).mono ?_
  rintro e w' ⟨rfl, rfl⟩
  go_wp2
  go_ret
  exact ⟨rfl, bl_trans HBA.out HB1.out⟩
theorem BX5.grown {w w' : World} {b : Nat} {v0 v1 v2 v3 v4 : Value} {row : Option Nat} (h : BX5 w b v0 v1 v2 v3 v4) (hg : w.grownBy w' row) (hne : some b ≠ row) : BX5 w' b v0 v1 v2 v3 v4 := by
  obtain ⟨h1, c0, c1, c2, c3, c4⟩ := h
  exact ⟨Nat.lt_of_lt_of_le h1 hg.size, hg.cell c0 hne, hg.cell c1 hne, hg.cell c2 hne, hg.cell c3 hne, hg.cell c4 hne⟩
theorem OwnM.kept3 {w a b w' : World} {base base' : Nat} {s si so t ti to' : Value} {m m' : Mc} (h : OwnM w base s si so m) (h' : OwnM w base' t ti to' m') (g1 : w.grownBy a t.ownBlock) (g2 : a.grownBy b ti.ownBlock) (g3 : b.grownBy w' to'.ownBlock) (hz : ∀ q, t.ownBlock = some q ∨ ti.ownBlock = some q ∨ to'.ownBlock = some q → q < base) : OwnM w' base s si so m := by
  obtain ⟨o1, o2, o3, n1, n2, n3⟩ := h
  have K : ∀ {e k n : Nat} {v : Value} {xs : List Value}, w.ownsRow base e k v n xs → w'.ownsRow base e k v n xs := by
    intro e k n v xs o
    have hl := o.lt
    refine own_kept (own_kept (own_kept o g1 ?_) g2 ?_) g3 ?_
    · intro q hq he; have := hl q hq; have := hz q (.inl he.symm); omega
    · intro q hq he; have := hl q hq; have := hz q (.inr (.inl he.symm)); omega
    · intro q hq he; have := hl q hq; have := hz q (.inr (.inr he.symm)); omega
  exact ⟨K o1, K o2, K o3, n1, n2, n3⟩
theorem BX5.kept3 {w a b w' : World} {p base : Nat} {s si so : Value} {m : Mc} {v0 v1 v2 v3 v4 : Value} (h : BX5 w p v0 v1 v2 v3 v4) (hm : OwnM w base s si so m) (g1 : w.grownBy a s.ownBlock) (g2 : a.grownBy b si.ownBlock) (g3 : b.grownBy w' so.ownBlock) (hz : ∀ q, s.ownBlock = some q ∨ si.ownBlock = some q ∨ so.ownBlock = some q → q ≠ p) : BX5 w' p v0 v1 v2 v3 v4 :=
  ((h.grown g1 (fun e => hz p (.inl e.symm) rfl)).grown g2 (fun e => hz p (.inr (.inl e.symm)) rfl)).grown g3 (fun e => hz p (.inr (.inr e.symm)) rfl)
theorem OwnM.lt {w : World} {base : Nat} {s si so : Value} {m : Mc} (h : OwnM w base s si so m) : ∀ q, s.ownBlock = some q ∨ si.ownBlock = some q ∨ so.ownBlock = some q → base ≤ q ∧ q < w.heap.size := by
  obtain ⟨o1, o2, o3, -⟩ := h
  rintro q (e | e | e)
  · exact o1.lt q e
  · exact o2.lt q e
  · exact o3.lt q e
theorem prInv_run (m : Mc) (tabs : List Nat) : ∀ (n : Nat) (s : PrS), prInv m s → prInv m (prRun tabs n s)
  | 0, s, h => h
  | n + 1, s, h => by
    by_cases hi : s.i < s.m.bd.ps.length
    · rw [prRun_step _ _ _ hi]; exact prInv_run m tabs n _ (prInv_step m tabs s h hi)
    · rw [prRun_end _ _ hi]; exact h
theorem prM_len (m : Mc) (hok : m.ok) : (prM m).bd.ps.length ≤ 60 ∧ (prM m).ins.length ≤ 6 ∧ (prM m).outs.length ≤ 8 := by
  unfold prM
  split
  · rename_i h
    obtain ⟨h1, -⟩ := prInv_run m (mTabs m) 4000 _ (prInv_start m h hok)
    obtain ⟨-, p1, -, p2, -, p3, -⟩ := vMc_parts _ h1
    exact ⟨p1, p2, p3⟩
  · exact ⟨Nat.zero_le _, Nat.zero_le _, Nat.zero_le _⟩
end Go.Proofs.YtdhjhnbmecbaaaaGreat
/- The walk of the law FnExactPruneMachine. -/
namespace Go.Proofs.YtdhjhnbmecbaaaaGreat
open Go.RowKit
set_option linter.unusedVariables false
set_option linter.unusedSimpArgs false
set_option maxHeartbeats 400000
set_option maxRecDepth 100000
set_option maxHeartbeats 1600000 in
set_option maxRecDepth 100000 in
theorem lawPruneMachine_any (mc : Mc) (a a1 a2 : Option Addr) (cap cap1 cap2 : Nat) (w : World) (h0 : PcsAt w.heap.size w a mc.bd.ps) (h1 : SlAt w.heap.size w a1 (flat Po.cells mc.ins)) (h2 : SlAt w.heap.size w a2 (flat Ce.cells mc.outs)) (hok : mc.ok)
    (l0 : mc.bd.ps.length ≤ 9223372036854775807) (l1 : mc.ins.length ≤ 9223372036854775807) (l2 : mc.outs.length ≤ 9223372036854775807) :
    Calls Tryz.prog 15 #[mcv mc.bd.wd mc.bd.hg (.slice a mc.bd.ps.length cap) (.slice a1 mc.ins.length cap1) (.slice a2 mc.outs.length cap2)] w fun e w' => e = .returned (.bool true) ∧ Below w.heap.size w w' := by
  by_cases hn : (mc.bd.ps.length : Int) + mc.ins.length + mc.outs.length ≤ 1048576
  · obtain ⟨lf, Hs, hlf, hlf2⟩ : ∃ lf : Int, Hid (sz3 mc.bd.ps.length mc.ins.length mc.outs.length 1048576 = lf) ∧ 0 ≤ lf ∧ lf ≤ 1048576 := ⟨_, Lib.hid rfl, by unfold sz3; rw [if_pos hn]; omega, by unfold sz3; rw [if_pos hn]; omega⟩
    have M0 : MV w (mcv mc.bd.wd mc.bd.hg (.slice a mc.bd.ps.length cap) (.slice a1 mc.ins.length cap1) (.slice a2 mc.outs.length cap2)) mc := ⟨_, _, _, rfl, ⟨a, cap, rfl, h0⟩, ⟨a1, cap1, rfl, h1⟩, a2, cap2, rfl, h2⟩
    have X0 := BX5.new w (.int .i8 mc.bd.wd) (.int .i8 mc.bd.hg) (.slice a mc.bd.ps.length cap) (.slice a1 mc.ins.length cap1) (.slice a2 mc.outs.length cap2) 29
    obtain ⟨hP1, hP2, hP3⟩ := prM_len mc hok
    have CS := fun v w' (h : MVp w' v mc) => specPruneMachine_any mc v w' h hok (by omega) (by omega) (by omega)
    have CI := fun v w' (h : MVc w' v mc) => pruneMachine_any mc v w' h hok (by omega) (by omega) (by omega)
    obtain ⟨P, hP⟩ : ∃ P, P = prM mc := ⟨_, rfl⟩
    obtain ⟨rc, hrc⟩ : ∃ rc, rc = prC mc := ⟨_, rfl⟩
    obtain ⟨cd, hcd⟩ : ∃ cd, cd = mCode mc := ⟨_, rfl⟩
    simp only [← hP, ← hrc, ← hcd] at CS CI hP1 hP2 hP3
    have CS := Lib.hid CS
    have CI := Lib.hid CI
    clear hP hrc hcd h0 h1 h2
    go_enter Tryz.func15, Tryz.ntmps15
    go_wp2_with fail
    refine (szMachine_any mc.bd.wd mc.bd.hg a _ cap a1 _ cap1 a2 _ cap2 _ _ (by omega) (by omega) (by omega) (by omega) (by omega)).mono ?_
    rintro e u ⟨rfl, bu⟩
    rw [Hs.out]
    have bu0 : Below w.heap.size w u := bl_trans (bl_alloc (Below.refl _ _)) bu
    have A0 := (M0.step (bl_alloc (Below.refl _ _))).step bu
    have AX := X0.step bu
    have HA0 := Lib.hid A0
    have HAX := Lib.hid AX
    have hwu : w.heap.size < u.heap.size := AX.1
    clear M0 X0 bu A0
    obtain ⟨bA, hbA⟩ : ∃ bA, bA = w.heap.size := ⟨_, rfl⟩
    rw [← hbA] at HAX AX hwu ⊢
    have HbA := Lib.hid hbA
    obtain ⟨-, x0, x1, x2, x3, x4⟩ := AX
    clear hbA
    go_wp2_with fail
    refine (toMachine_mv HA0.out (by omega) (by omega) (by omega)).mono ?_
    rintro e w1 ⟨sm, im, om, rfl, Om1, b1⟩
    obtain ⟨asm, capsm, rfl, -⟩ := own_at Om1.1
    obtain ⟨aim, capim, rfl, -⟩ := own_at Om1.2.1
    obtain ⟨aom, capom, rfl, -⟩ := own_at Om1.2.2.1
    have B1 := Lib.hid b1
    clear x0 x1 x2 x3 x4 b1
    go_wp2_with fail
    refine (CS.out _ _ Om1.mvp).mono ?_
    rintro e w2 ⟨sR, iR, oR, rfl, OR, b2⟩
    obtain ⟨asR, csR, rfl, -⟩ := own_at OR.1
    obtain ⟨aiR, ciR, rfl, -⟩ := own_at OR.2.1
    obtain ⟨aoR, coR, rfl, -⟩ := own_at OR.2.2
    have B2 := Lib.hid (bl_trans B1.out b2)
    have HOR := Lib.hid OR
    have HBF := Lib.hid (BF5new w2 (.int .i8 P.bd.wd) (.int .i8 P.bd.hg) (.slice asR P.bd.ps.length csR) (.slice aiR P.ins.length ciR) (.slice aoR P.outs.length coR) 40)
    clear OR b2 Om1
    go_upto_region 6 with fail
    obtain ⟨w2b, hw2, hz2, hb2, x0, x1, x2, x3, x4, -⟩ := HBF.out
    rw [← hw2]
    obtain ⟨bW, hbW⟩ : ∃ bW, bW = w2.heap.size := ⟨_, rfl⟩
    rw [← hbW] at x0 x1 x2 x3 x4 ⊢
    have XW := Lib.hid (show BX5 w2b bW _ _ _ _ _ from ⟨by omega, x0, x1, x2, x3, x4⟩)
    have B2b := Lib.hid (bl_trans B2.out hb2)
    have MR := Lib.hid (HOR.out.below hb2).mv
    clear hw2 hbW hz2 hb2 x0 x1 x2 x3 x4
    obtain ⟨-, x0, x1, x2, x3, x4⟩ := HAX.out.step B2b.out
    go_wp2_with fail
    refine (toMachine_mv (HA0.out.step B2b.out) (by omega) (by omega) (by omega)).mono ?_
    rintro e w3 ⟨sx, ix, ox, rfl, Ox3, b3⟩
    obtain ⟨asx, capsx, rfl, -⟩ := own_at Ox3.1
    obtain ⟨aix, capix, rfl, -⟩ := own_at Ox3.2.1
    obtain ⟨aox, capox, rfl, -⟩ := own_at Ox3.2.2.1
    have C3 := Lib.hid b3
    have HOX := Lib.hid Ox3
    have HBF := Lib.hid (BF5new w3 (.int .i8 mc.bd.wd) (.int .i8 mc.bd.hg) (.slice asx mc.bd.ps.length capsx) (.slice aix mc.ins.length capix) (.slice aox mc.outs.length capox) 40)
    clear x0 x1 x2 x3 x4 b3 Ox3
    go_upto_region 7 with fail
    obtain ⟨w3b, hw3, hz3, hb3, x0, x1, x2, x3, x4, -⟩ := HBF.out
    rw [← hw3]
    obtain ⟨bX, hbX⟩ : ∃ bX, bX = w3.heap.size := ⟨_, rfl⟩
    rw [← hbX] at x0 x1 x2 x3 x4 ⊢
    have XX := Lib.hid (show BX5 w3b bX _ _ _ _ _ from ⟨by omega, x0, x1, x2, x3, x4⟩)
    have C3b := Lib.hid (bl_trans C3.out hb3)
    have HOXb := Lib.hid (HOX.out.below hb3)
    have HXL : Hid (∀ q, (Value.slice asx mc.bd.ps.length capsx).ownBlock = some q ∨ (Value.slice aix mc.ins.length capix).ownBlock = some q ∨ (Value.slice aox mc.outs.length capox).ownBlock = some q → w2b.heap.size ≤ q ∧ q < bX) := Lib.hid (fun q hq => by have := HOX.out.lt q hq; omega)
    have hbXl : bX < w3b.heap.size := by omega
    clear hw3 hbX hz3 hb3
    go_wp2_with fail
    refine (CI.out _ _ HOXb.out.mvc).mono ?_
    rintro e w4 ⟨sg, ig, og, rfl, Og4, b4⟩
    obtain ⟨asg, capsg, rfl, -⟩ := own_at Og4.1
    obtain ⟨aig, capig, rfl, -⟩ := own_at Og4.2.1
    obtain ⟨aog, capog, rfl, -⟩ := own_at Og4.2.2.1
    have C4 := Lib.hid (bl_trans C3b.out b4)
    have D4 := Lib.hid b4
    have HOG := Lib.hid Og4
    have HBF := Lib.hid (BF5new w4 (.int .i8 P.bd.wd) (.int .i8 P.bd.hg) (.slice asg P.bd.ps.length capsg) (.slice aig P.ins.length capig) (.slice aog P.outs.length capog) 40)
    clear x0 x1 x2 x3 x4 b4 Og4
    go_upto_region 8 with fail
    obtain ⟨w4b, hw4, hz4, hb4, x0, x1, x2, x3, x4, -⟩ := HBF.out
    rw [← hw4]
    obtain ⟨bG, hbG⟩ : ∃ bG, bG = w4.heap.size := ⟨_, rfl⟩
    rw [← hbG] at x0 x1 x2 x3 x4 ⊢
    have XG := Lib.hid (show BX5 w4b bG _ _ _ _ _ from ⟨by omega, x0, x1, x2, x3, x4⟩)
    have C4b := Lib.hid (bl_trans C4.out hb4)
    have D4b := Lib.hid (bl_trans D4.out hb4)
    have HOGb := Lib.hid (HOG.out.below hb4)
    have hz34 := D4.out.size
    have HGL : Hid (∀ q, (Value.slice asg P.bd.ps.length capsg).ownBlock = some q ∨ (Value.slice aig P.ins.length capig).ownBlock = some q ∨ (Value.slice aog P.outs.length capog).ownBlock = some q → w3b.heap.size ≤ q ∧ q < bG) := Lib.hid (fun q hq => by have := HOG.out.lt q hq; omega)
    have hbGl : bG < w4b.heap.size := by omega
    have hXG : bX < bG := by omega
    clear hw4 hbG hz4 hb4
    obtain ⟨-, y0, y1, y2, y3, y4⟩ := XW.out.step C4b.out
    go_wp2_with fail
    refine (eqMachine_yes HOGb.out.mv (MR.out.step C4b.out) (by omega) (by omega) (by omega)).mono ?_
    rintro e w5 ⟨rfl, b5⟩
    have C5 := Lib.hid (bl_trans C4b.out b5)
    have D5 := Lib.hid (bl_trans D4b.out b5)
    have HOG5 := Lib.hid (HOGb.out.below b5)
    have XG5 := Lib.hid (XG.out.step b5)
    clear x0 x1 x2 x3 x4 y0 y1 y2 y3 y4 b5
    go_upto_region 10 with fail
    have AM5 := HA0.out.step (bl_trans B2b.out C5.out)
    have MX5 := HOXb.out.mv.step D5.out
    obtain ⟨hl1, x0, x1, x2, x3, x4⟩ := XX.out.step D5.out
    obtain ⟨hl2, y0, y1, y2, y3, y4⟩ := HAX.out.step (bl_trans B2b.out C5.out)
    have CK := Lib.hid (fun w' (h : Below w5.heap.size w5 w') => toMachine_mv (w := w') (AM5.step h) (by omega) (by omega) (by omega))
    have CL := Lib.hid (fun w' v' (h : Below w5.heap.size w5 w') (h' : MV w' v' mc) => eqMachine_yes (w := w') (MX5.step h) h' (by omega) (by omega) (by omega))
    go_region_held3 (fun w' => Below w5.heap.size w5 w' ∧ ∀ b o, b < w5.heap.size → w'.cell? ⟨b, o, none⟩ = w5.cell? ⟨b, o, none⟩) ((refine ext_s ?_; exact (by repeat (first | with_reducible exact Below.refl _ _ | with_reducible assumption | with_reducible apply bl_drewN | with_reducible apply bl_drew | with_reducible apply bl_alloc | (with_reducible refine bl_set ?_ (by first | (simp; done) | (simp; omega)) _) | with_reducible refine bl_trans ?_ (by with_reducible assumption))))) (first | (go_at_call 18; refine (CK.out _ ?_).mono ?_; (exact (by repeat (first | with_reducible exact Below.refl _ _ | with_reducible assumption | with_reducible apply bl_drewN | with_reducible apply bl_drew | with_reducible apply bl_alloc | (with_reducible refine bl_set ?_ (by first | (simp; done) | (simp; omega)) _) | with_reducible refine bl_trans ?_ (by with_reducible assumption)))); rintro e wa ⟨sa, ia, oa, rfl, Oa, ba⟩; obtain ⟨hca, hfa⟩ := bcell ba) | (go_at_call 21; refine (CL.out _ _ ?_ Oa.mv).mono ?_; (exact (by repeat (first | with_reducible exact Below.refl _ _ | with_reducible assumption | with_reducible apply bl_drewN | with_reducible apply bl_drew | with_reducible apply bl_alloc | (with_reducible refine bl_set ?_ (by first | (simp; done) | (simp; omega)) _) | with_reducible refine bl_trans ?_ (by with_reducible assumption)))); rintro e w6 ⟨rfl, be⟩))
    have b6 : Below w5.heap.size w5 w6 := (by repeat (first | with_reducible exact Below.refl _ _ | with_reducible assumption | with_reducible apply bl_drewN | with_reducible apply bl_drew | with_reducible apply bl_alloc | (with_reducible refine bl_set ?_ (by first | (simp; done) | (simp; omega)) _) | with_reducible refine bl_trans ?_ (by with_reducible assumption)))
    have C6 := Lib.hid (bl_trans C5.out b6)
    have D6 := Lib.hid (bl_trans D5.out b6)
    have HOG6 := Lib.hid (HOG5.out.below b6)
    have XG6 := Lib.hid (XG5.out.step b6)
    have HOX6 := Lib.hid (HOXb.out.below D6.out)
    clear CK CL AM5 MX5 x0 x1 x2 x3 x4 y0 y1 y2 y3 y4 hl1 hl2 b6
    obtain ⟨hl1, x0, x1, x2, x3, x4⟩ := XX.out.step D6.out
    go_wp2_with fail
    refine (markMachine_any HOX6.out (by omega) (by omega) (by omega)).mono ?_
    rintro e w7 ⟨rfl, xa, xb, ga, gb, gc⟩
    have C7 := Lib.hid (bl_grown3 C6.out ga gb gc HOX6.out (Nat.le_refl _))
    have HOG7 := Lib.hid (HOG6.out.kept3 HOX6.out ga gb gc (fun q hq => by have := HXL.out q hq; omega))
    have XG7 := Lib.hid (XG6.out.kept3 HOX6.out ga gb gc (fun q hq => by have := HXL.out q hq; omega))
    clear x0 x1 x2 x3 x4 hl1 ga gb gc
    obtain ⟨-, x0, x1, x2, x3, x4⟩ := XG7.out
    obtain ⟨-, y0, y1, y2, y3, y4⟩ := XW.out.step C7.out
    go_wp2_with fail
    refine (eqMachine_yes HOG7.out.mv (MR.out.step C7.out) (by omega) (by omega) (by omega)).mono ?_
    rintro e w8 ⟨rfl, b8⟩
    have C8 := Lib.hid (bl_trans C7.out b8)
    have HOG8 := Lib.hid (HOG7.out.below b8)
    have XG8 := Lib.hid (XG7.out.step b8)
    clear x0 x1 x2 x3 x4 y0 y1 y2 y3 y4 b8
    obtain ⟨-, x0, x1, x2, x3, x4⟩ := XG8.out
    go_wp2_with fail
    refine (markMachine_own HOG8.out (by omega) (by omega) (by omega)).mono ?_
    rintro e w9 ⟨rfl, xa2, xb2, ga, gb, gc, o1, o2, o3⟩
    have C9 := Lib.hid (bl_grown3 C8.out ga gb gc HOG8.out (by have := C3b.out.size; omega))
    have XG9 := Lib.hid (XG8.out.kept3 HOG8.out ga gb gc (fun q hq => by have := HGL.out q hq; omega))
    have HO9 := Lib.hid (And.intro o1 (And.intro o2 o3))
    clear x0 x1 x2 x3 x4 ga gb gc o1 o2 o3
    obtain ⟨-, x0, x1, x2, x3, x4⟩ := XG9.out
    go_wp2_with fail
    refine (heldMachine_own _ HO9.out.1 HO9.out.2.1 HO9.out.2.2 (by omega) (by omega) (by omega)).mono ?_
    rintro e w10 ⟨rfl, b10⟩
    have C10 := Lib.hid (bl_trans C9.out b10)
    have XG10 := Lib.hid (XG9.out.step b10)
    have HO10 := Lib.hid (And.intro (own_below HO9.out.1 b10 (Nat.le_refl _)) (And.intro (own_below HO9.out.2.1 b10 (Nat.le_refl _)) (own_below HO9.out.2.2 b10 (Nat.le_refl _))))
    clear x0 x1 x2 x3 x4 b10
    obtain ⟨-, x0, x1, x2, x3, x4⟩ := HAX.out.step (bl_trans B2b.out C10.out)
    go_wp2_with fail
    refine (toMachine_mv (HA0.out.step (bl_trans B2b.out C10.out)) (by omega) (by omega) (by omega)).mono ?_
    rintro e w11 ⟨sz, iz, oz, rfl, Oz, b11⟩
    obtain ⟨asz, capsz, rfl, -⟩ := own_at Oz.1
    obtain ⟨aiz, capiz, rfl, -⟩ := own_at Oz.2.1
    obtain ⟨aoz, capoz, rfl, -⟩ := own_at Oz.2.2.1
    have E11 := Lib.hid b11
    clear x0 x1 x2 x3 x4 b11
    go_wp2_with fail
    refine (CI.out _ _ Oz.mvc).mono ?_
    rintro e w12 ⟨sh, ih, oh, rfl, Oh, b12⟩
    obtain ⟨ash, capsh, rfl, -⟩ := own_at Oh.1
    obtain ⟨aih, capih, rfl, -⟩ := own_at Oh.2.1
    obtain ⟨aoh, capoh, rfl, -⟩ := own_at Oh.2.2.1
    have E12 := Lib.hid (bl_trans E11.out b12)
    have HOH := Lib.hid Oh
    have HBF := Lib.hid (BF5new w12 (.int .i8 P.bd.wd) (.int .i8 P.bd.hg) (.slice ash P.bd.ps.length capsh) (.slice aih P.ins.length capih) (.slice aoh P.outs.length capoh) 40)
    clear b12 Oz Oh
    go_upto_region 25 with fail
    obtain ⟨w12b, hw12, hz12, hb12, x0, x1, x2, x3, x4, -⟩ := HBF.out
    rw [← hw12]
    obtain ⟨bH, hbH⟩ : ∃ bH, bH = w12.heap.size := ⟨_, rfl⟩
    rw [← hbH] at x0 x1 x2 x3 x4 ⊢
    have E12b := Lib.hid (bl_trans E12.out hb12)
    have C12b := Lib.hid (bl_trans C10.out E12b.out)
    have HOHb := Lib.hid (HOH.out.below hb12)
    clear hw12 hbH hz12 hb12
    obtain ⟨-, y0, y1, y2, y3, y4⟩ := XW.out.step C12b.out
    go_wp2_with fail
    refine (eqMachine_yes HOHb.out.mv (MR.out.step C12b.out) (by omega) (by omega) (by omega)).mono ?_
    rintro e w13 ⟨rfl, b13⟩
    have E13 := Lib.hid (bl_trans E12b.out b13)
    clear x0 x1 x2 x3 x4 y0 y1 y2 y3 y4 b13
    obtain ⟨-, x0, x1, x2, x3, x4⟩ := XG10.out.step E13.out
    go_wp2_with fail
    refine (heldMachine_own _ (own_below HO10.out.1 E13.out (Nat.le_refl _)) (own_below HO10.out.2.1 E13.out (Nat.le_refl _)) (own_below HO10.out.2.2 E13.out (Nat.le_refl _)) (by omega) (by omega) (by omega)).mono ?_
    rintro e w14 ⟨rfl, b14⟩
    have BF := Lib.hid (bl_trans bu0 (bl_trans B2b.out (bl_trans C10.out (bl_trans E13.out b14))))
    clear x0 x1 x2 x3 x4 b14
    go_wp2
    go_ret
    exact ⟨rfl, BF.out⟩
  · have Hs : Hid (sz3 mc.bd.ps.length mc.ins.length mc.outs.length 1048576 = -1) := Lib.hid (by unfold sz3; rw [if_neg hn])
    go_enter Tryz.func15, Tryz.ntmps15
    go_wp2_with fail
    refine (szMachine_any mc.bd.wd mc.bd.hg a _ cap a1 _ cap1 a2 _ cap2 _ _ (by omega) (by omega) (by omega) (by omega) (by omega)).mono ?_
    rintro e u ⟨rfl, bu⟩
    rw [Hs.out]
    have bu0 : Below w.heap.size w u := bl_trans (bl_alloc (Below.refl _ _)) bu
    go_wp2
    go_ret
    exact ⟨rfl, bu0⟩
end Go.Proofs.YtdhjhnbmecbaaaaGreat
