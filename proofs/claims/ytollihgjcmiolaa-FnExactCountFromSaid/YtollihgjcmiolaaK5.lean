import Derived.Test.YtollihgjcmiolaaK4
import Derived.Deep.RegionHeld3
import Derived.Deep.CutRange
import Derived.StillTailTactics
import Derived.Deep.Strs
import Derived.Carry
import Derived.Deep.DeepFit
/- Contracts: PushOne (both). -/
namespace Go.Proofs.Ytollihgjcmiolaa
open Go.RowKit
set_option linter.unusedVariables false
set_option linter.unusedSimpArgs false
set_option maxHeartbeats 400000
set_option maxRecDepth 100000
open Classical in
/-- How all pieces fall. -/
noncomputable def runOf (ps : List Pc) (pl : List Pu) : List Fa := if h : ∃ fs, okFa ps pl fs then h.choose else []
theorem runOf_eq (ps : List Pc) (pl : List Pu) (fs : List Fa) (G : Good ps pl) (h : okFa ps pl fs) : fs = runOf ps pl := by
  have hx : ∃ fs, okFa ps pl fs := ⟨fs, h⟩
  unfold runOf
  rw [dif_pos hx]
  exact due_unique ps pl fs _ G.d1 G.t0 h hx.choose_spec
def poCode (l : Bd) (i s : Int) : Int := if vBd l = true then (if inB i 0 (l.ps.length - 1) = true then (if inB s 0 3 = true then 0 else 2) else 2) else 1
def pushOf (l : Bd) (i : Nat) (s : Int) : Pu := ⟨(l.ps.getD i default).x, (l.ps.getD i default).y, s, 0⟩
noncomputable def poList (l : Bd) (i s : Int) : List Fa := if poCode l i s = 0 then runOf l.ps [pushOf l i.toNat s] else []
theorem poCode_0 (l : Bd) (i s : Int) (h : poCode l i s = 0) : vBd l = true ∧ ∃ n k : Nat, i = (n : Int) ∧ n < l.ps.length ∧ s = (k : Int) ∧ k < 4 := by
  unfold poCode inB at h
  split at h
  · rename_i hv
    split at h
    · rename_i h1
      split at h
      · rename_i h2
        simp only [Bool.and_eq_true, decide_eq_true_eq] at h1 h2
        exact ⟨hv, i.toNat, s.toNat, by omega, by omega, by omega, by omega⟩
      · omega
    · omega
  · omega
theorem pushOf_ok (l : Bd) (hv : vBd l = true) (hlok : l.ok) (n : Nat) (hn : n < l.ps.length) (k : Nat) (hk : k < 4) : PusOk [pushOf l n k] ∧ [pushOf l n k].all plainPu = true ∧ [pushOf l n k].all (fun p => decide (0 ≤ fnd ⟨p.x, p.y⟩ l.ps)) = true ∧ hitOf l (pushOf l n k) = ⟨0, n, k, -1⟩ := by
  have G := good_bd l hv [] rfl
  have e1 : fnd ⟨(pushOf l n k).x, (pushOf l n k).y⟩ l.ps = (n : Int) := by
    rw [fnd_iff l.ps G.nd]
    exact ⟨hn, by unfold pushOf; rw [getD_pc l.ps n hn]; rfl⟩
  refine ⟨?_, ?_, ?_, ?_⟩
  · intro j hj
    have hj0 : j = 0 := by simp at hj; omega
    subst hj0
    have h9 := G.ce n hn
    show (pushOf l n k).ok
    unfold Pu.ok
    unfold pushOf
    unfold Ce.ok at h9
    exact ⟨h9.1, h9.2, by unfold I8; simp only; omega, by simp only; omega⟩
  · simp only [List.all_cons, List.all_nil, Bool.and_true]
    unfold plainPu inB pushOf
    simp only [Bool.and_eq_true, decide_eq_true_eq]
    omega
  · simp only [List.all_cons, List.all_nil, Bool.and_true, decide_eq_true_eq]
    rw [e1]; omega
  · unfold hitOf
    rw [e1]; rfl
theorem l02One_any (b0 : Nat) (l : Bd) (i s : Int) (w : World) (hbp : BP w b0 l) (hlok : l.ok) (hn : l.ps.length ≤ 10000000) :
    Calls Try.prog 44 #[.pointer (some ⟨b0, 0, none⟩), .int .i64 i, .int .i64 s] w fun e w' => e = .returned (.int .i64 (poCode l i s)) ∧ Below w.heap.size w w' := by
  have HV := Lib.hid (l01Ok_any b0 l w hbp hlok hn)
  obtain ⟨hbl, sv, hbd, sa, scap, rfl, hps⟩ := hbp
  unfold BdAt at hbd
  cases g1 : vBd l with
  | false =>
    rw [g1] at HV
    have HC : Hid (poCode l i s = 1) := Lib.hid (by unfold poCode; rw [g1]; rfl)
    clear g1
    go_enter Try.func44, Try.ntmps44
    go_wp2_with fail
    refine HV.out.mono ?_
    rintro e w1 ⟨rfl, hb1⟩
    go_wp2
    go_ret
    exact ⟨by rw [HC.out]; rfl, hb1⟩
  | true =>
    rw [g1] at HV
    have HC : Hid (poCode l i s = (if inB i 0 (l.ps.length - 1) = true then (if inB s 0 3 = true then 0 else 2) else 2)) := Lib.hid (by unfold poCode; rw [g1]; rfl)
    clear g1
    have s1 : IntKind.i64.wrap ((l.ps.length : Int) - 1) = (l.ps.length : Int) - 1 := by rw [IntKind.wrap_i64]; omega
    have hc := hbd.2.2
    cases g2 : inB i 0 ((l.ps.length : Int) - 1) with
    | false =>
      have HC2 : Hid (poCode l i s = 2) := Lib.hid (by rw [HC.out, g2]; rfl)
      go_enter Try.func44, Try.ntmps44
      go_wp2_with fail
      refine HV.out.mono ?_
      rintro e w1 ⟨rfl, hb1⟩
      have c3 : w1.cell? ⟨b0, 2, none⟩ = some (.slice sa l.ps.length scap) := by rw [hb1.cell (p := ⟨_, _, none⟩) hbl]; exact hc
      go_wp2_with (go_at_call 53; refine (l00In_any _ _ _ _).mono ?_; rintro e w' ⟨rfl, rfl⟩)
      go_ret
      exact ⟨by rw [HC2.out]; rfl, hb1⟩
    | true =>
      cases g3 : inB s 0 3 with
      | false =>
        have HC2 : Hid (poCode l i s = 2) := Lib.hid (by rw [HC.out, g2, g3]; rfl)
        go_enter Try.func44, Try.ntmps44
        go_wp2_with fail
        refine HV.out.mono ?_
        rintro e w1 ⟨rfl, hb1⟩
        have c3 : w1.cell? ⟨b0, 2, none⟩ = some (.slice sa l.ps.length scap) := by rw [hb1.cell (p := ⟨_, _, none⟩) hbl]; exact hc
        go_wp2_with (first | (go_at_call 53; refine (l00In_any _ _ _ _).mono ?_; rintro e w' ⟨rfl, rfl⟩) | (go_at_call 54; refine (l01Side_any _ _).mono ?_; rintro e w' ⟨rfl, rfl⟩))
        go_ret
        exact ⟨by rw [HC2.out]; rfl, hb1⟩
      | true =>
        have HC2 : Hid (poCode l i s = 0) := Lib.hid (by rw [HC.out, g2, g3]; rfl)
        go_enter Try.func44, Try.ntmps44
        go_wp2_with fail
        refine HV.out.mono ?_
        rintro e w1 ⟨rfl, hb1⟩
        have c3 : w1.cell? ⟨b0, 2, none⟩ = some (.slice sa l.ps.length scap) := by rw [hb1.cell (p := ⟨_, _, none⟩) hbl]; exact hc
        go_wp2_with (first | (go_at_call 53; refine (l00In_any _ _ _ _).mono ?_; rintro e w' ⟨rfl, rfl⟩) | (go_at_call 54; refine (l01Side_any _ _).mono ?_; rintro e w' ⟨rfl, rfl⟩))
        go_ret
        exact ⟨by rw [HC2.out]; rfl, hb1⟩
theorem l02From_any (b0 : Nat) (l : Bd) (n k : Nat) (w : World) (hbp : BP w b0 l) (hlok : l.ok) (hv : vBd l = true) (hi : n < l.ps.length) (hk : k < 4) :
    Calls Try.prog 46 #[.pointer (some ⟨b0, 0, none⟩), .int .i64 n, .int .i64 k] w fun e w' => ∃ v, e = .returned v ∧ w'.ownsRow w.heap.size 66 3 v (runOf l.ps [pushOf l n k]).length (flat Fa.cells (runOf l.ps [pushOf l n k])) ∧ Below w.heap.size w w' := by
  have HB := Lib.hid hbp
  obtain ⟨hbl, sv, hbd, sa, scap, rfl, hps⟩ := hbp
  unfold BdAt at hbd
  have hc := hbd.2.2
  obtain ⟨o1, o2, o3, -⟩ := pushOf_ok l hv hlok n hi k hk
  obtain ⟨b, off, rfl, hb2, hat⟩ := pcs_get hps hi
  have q0 := hat.1
  have q1 := hat.2.1
  have hbw : b < w.heap.size := by omega
  have s4 := wrap8_side' (k : Int) (by omega) (by omega)
  have hG := Lib.hid (good_bd l hv [pushOf l n k] o2)
  have hgi := getD_pc l.ps n hi
  have hcs : flat Pu.cells [pushOf l n k] = [.int .i8 l.ps[n].x, .int .i8 l.ps[n].y, .int .i8 (k : Int), .int .i16 0] := by
    unfold pushOf; rw [hgi]; rfl
  have HRUN := Lib.hid (fun w1 (hb1 : Below w.heap.size w w1) a1 (B : Nat) (hs : SlAt B w1 a1 (flat Pu.cells [pushOf l n k])) (hB : B ≤ w1.heap.size) => l02Run_any (B := B) b0 l a1 1 [pushOf l n k] w1 (HB.out.step hb1) hv hs o1 o2 o3 (by simp) hB)
  rw [hcs] at HRUN
  clear hcs hgi hat hbd hps o1 o2 o3
  go_enter Try.func46, Try.ntmps46
  go_wp2_with fail
  refine (HRUN.out _ (bl_alloc (Below.refl _ _)) _ _ (sl_new w #[.int .i8 l.ps[n].x, .int .i8 l.ps[n].y, .int .i8 (k : Int), .int .i16 0] 61) (by simp)).mono ?_
  rintro e w2 ⟨v, fs, rfl, hown, hok, -, hb⟩
  have he := runOf_eq _ _ _ hG.out hok
  subst he
  have hown2 := own_mono (base := w.heap.size) hown (by simp)
  go_wp2
  go_ret
  exact ⟨_, rfl, hown2, bl_trans (bl_alloc (Below.refl _ _)) hb⟩
theorem specPushOne_any (wd hg : Int) (s : Value) (ps : List Pc) (i sd : Int) (w : World) (hps : PV w s ps) (hok : (Bd.mk wd hg ps).ok) (hn : ps.length ≤ 9000000) :
    Calls Try.prog 22 #[bdv wd hg s, .int .i64 i, .int .i64 sd] w fun e w' => ∃ v, e = .returned (.tuple #[v, .int .i64 (poCode ⟨wd, hg, ps⟩ i sd)]) ∧ w'.ownsRow w.heap.size 66 3 v (poList ⟨wd, hg, ps⟩ i sd).length (flat Fa.cells (poList ⟨wd, hg, ps⟩ i sd)) ∧ Below w.heap.size w w' := by
  have HB := Lib.hid (BP.new (l := ⟨wd, hg, ps⟩) (w := w) hps 35)
  have hba : Below w.heap.size w (w.alloc (.cells #[.int .i8 wd, .int .i8 hg, s] 35)) := bl_alloc (Below.refl _ _)
  have H1 := Lib.hid (l02One_any w.heap.size ⟨wd, hg, ps⟩ i sd _ HB.out hok (show ps.length ≤ 10000000 by omega))
  have HBA := Lib.hid hba
  obtain ⟨a, cap, rfl, -⟩ := hps
  by_cases hc : poCode ⟨wd, hg, ps⟩ i sd = 0
  · obtain ⟨hv, n, k, hi, hnl, hsk, hk⟩ := poCode_0 _ _ _ hc
    have HL : Hid (poList ⟨wd, hg, ps⟩ i sd = runOf ps [pushOf ⟨wd, hg, ps⟩ n k]) := Lib.hid (by unfold poList; rw [if_pos hc, hi, hsk]; rfl)
    rw [hc] at H1 ⊢
    rw [HL.out]
    clear hc HL
    subst hi hsk
    go_enter Try.func22, Try.ntmps22
    go_wp2_with fail
    refine H1.out.mono ?_
    rintro e w1 ⟨rfl, hb1⟩
    have hb01 := bl_trans HBA.out hb1
    have HF := Lib.hid (l02From_any w.heap.size ⟨wd, hg, ps⟩ n k w1 (HB.out.step hb1) hok hv hnl hk)
    have HB01 := Lib.hid hb01
    clear hb01 hb1 hba
    go_wp2_with fail
    refine HF.out.mono ?_
    rintro e w2 ⟨v, rfl, hown, hb2⟩
    have hown2 := own_mono (base := w.heap.size) hown HB01.out.size
    have hb02 := bl_trans HB01.out hb2
    go_wp2
    go_ret2
    exact ⟨v, rfl, hown2, hb02⟩
  · have HL : Hid (poList ⟨wd, hg, ps⟩ i sd = []) := Lib.hid (by unfold poList; rw [if_neg hc])
    rw [HL.out]
    obtain ⟨c, hce⟩ : ∃ c, c = poCode ⟨wd, hg, ps⟩ i sd := ⟨_, rfl⟩
    rw [← hce] at hc H1 ⊢
    have gne : (c != 0) = true := by simpa using hc
    clear hce HL hc
    go_enter Try.func22, Try.ntmps22
    go_wp2_with fail
    refine H1.out.mono ?_
    rintro e w1 ⟨rfl, hb1⟩
    have hb01 := bl_trans HBA.out hb1
    have hown := World.ownsRow_made (e := 66) (size := 3) w1 #[] 0 (Nat.le_refl _) (by simp [maxLen]) rfl
    have hown2 := own_mono (base := w.heap.size) hown hb01.size
    go_wp2
    go_ret2
    exact ⟨_, rfl, hown2, bl_alloc hb01⟩
theorem indexOk_any (b0 : Nat) (l : Bd) (i : Int) (w : World) (hbp : BP w b0 l) (hn : l.ps.length ≤ 10000000) :
    Calls Try.prog 48 #[.pointer (some ⟨b0, 0, none⟩), .int .i64 i] w fun e w' => e = .returned (.bool (inB i 0 (l.ps.length - 1))) ∧ w = w' := by
  obtain ⟨hbl, sv, hbd, sa, scap, rfl, hps⟩ := hbp
  unfold BdAt at hbd
  have hc := hbd.2.2
  have s1 : IntKind.i64.wrap ((l.ps.length : Int) - 1) = (l.ps.length : Int) - 1 := by rw [IntKind.wrap_i64]; omega
  go_enter Try.func48, Try.ntmps48
  go_wp2_with (go_at_call 36; refine (in_any _ _ _ _).mono ?_; rintro e w' ⟨rfl, rfl⟩)
  go_ret
  exact ⟨rfl, rfl⟩
theorem pushOne_any (wd hg : Int) (s : Value) (ps : List Pc) (i sd : Int) (w : World) (hps : PV w s ps) (hok : (Bd.mk wd hg ps).ok) (hn : ps.length ≤ 9000000) :
    Calls Try.prog 23 #[bdv wd hg s, .int .i64 i, .int .i64 sd] w fun e w' => ∃ v, e = .returned (.tuple #[v, .int .i64 (poCode ⟨wd, hg, ps⟩ i sd)]) ∧ w'.ownsRow w.heap.size 66 3 v (poList ⟨wd, hg, ps⟩ i sd).length (flat Fa.cells (poList ⟨wd, hg, ps⟩ i sd)) ∧ Below w.heap.size w w' := by
  have HB := Lib.hid (BP.new (l := ⟨wd, hg, ps⟩) (w := w) hps 35)
  have hba : Below w.heap.size w (w.alloc (.cells #[.int .i8 wd, .int .i8 hg, s] 35)) := bl_alloc (Below.refl _ _)
  have HBA := Lib.hid hba
  have hps1 := hps.step hba
  obtain ⟨a, cap, rfl, -⟩ := hps
  have HVB := Lib.hid (validBoard_any wd hg a cap ps (w.alloc (.cells #[.int .i8 wd, .int .i8 hg, .slice a ps.length cap] 35)) (by obtain ⟨a', cap', e, h⟩ := hps1; cases e; exact h) hok (by omega))
  clear hps1
  cases g1 : vBd ⟨wd, hg, ps⟩ with
  | false =>
    rw [g1] at HVB
    have HC : Hid (poCode ⟨wd, hg, ps⟩ i sd = 1) := Lib.hid (by unfold poCode; rw [g1]; rfl)
    have HL : Hid (poList ⟨wd, hg, ps⟩ i sd = []) := Lib.hid (by unfold poList; rw [HC.out]; rfl)
    rw [HL.out, HC.out]
    clear g1 HL HC hba
    go_enter Try.func23, Try.ntmps23
    go_wp2_with fail
    refine HVB.out.mono ?_
    rintro e w1 ⟨rfl, hb1⟩
    go_wp2
    go_ret2
    exact ⟨_, rfl, World.ownsRow_nil _ _ _ _, bl_trans HBA.out hb1⟩
  | true =>
    rw [g1] at HVB
    have HC : Hid (poCode ⟨wd, hg, ps⟩ i sd = (if inB i 0 (ps.length - 1) = true then (if inB sd 0 3 = true then 0 else 2) else 2)) := Lib.hid (by unfold poCode; rw [g1]; rfl)
    have HIO := Lib.hid (fun w1 (hb : Below (w.alloc (.cells #[.int .i8 wd, .int .i8 hg, .slice a ps.length cap] 35)).heap.size (w.alloc (.cells #[.int .i8 wd, .int .i8 hg, .slice a ps.length cap] 35)) w1) => indexOk_any w.heap.size ⟨wd, hg, ps⟩ i w1 (HB.out.step hb) (show ps.length ≤ 10000000 by omega))
    have HV := Lib.hid g1
    clear g1 hba
    cases g2 : (inB i 0 ((ps.length : Int) - 1) && inB sd 0 3) with
    | false =>
      have HC2 : Hid (poCode ⟨wd, hg, ps⟩ i sd = 2) := Lib.hid (by
        rw [HC.out]
        rw [Bool.and_eq_false_iff] at g2
        rcases g2 with g | g <;> rw [g]
        · rfl
        · split <;> rfl)
      have HL : Hid (poList ⟨wd, hg, ps⟩ i sd = []) := Lib.hid (by unfold poList; rw [HC2.out]; rfl)
      rw [HL.out, HC2.out]
      clear HL HC
      rcases Bool.eq_false_or_eq_true (inB i 0 ((ps.length : Int) - 1)) with g3 | g3
      · have g4 : inB sd 0 3 = false := by rw [g3, Bool.true_and] at g2; exact g2
        have HIO2 := Lib.hid (fun w1 hb => g3 ▸ HIO.out w1 hb)
        clear g2
        go_enter Try.func23, Try.ntmps23
        go_wp2_with fail
        refine HVB.out.mono ?_
        rintro e w1 ⟨rfl, hb1⟩
        go_wp2_with (first | (go_at_call 48; refine (HIO.out _ ?_).mono ?_; (first | exact hb1 | exact (by repeat (first | with_reducible exact Below.refl _ _ | with_reducible assumption | with_reducible apply bl_drewN | with_reducible apply bl_drew | with_reducible apply bl_alloc | (with_reducible refine bl_set ?_ (by first | (simp; done) | (simp; omega)) _) | with_reducible refine bl_trans ?_ (by with_reducible assumption)))); rintro e w' ⟨rfl, rfl⟩) | (go_at_call 37; refine (isSide_any _ _).mono ?_; rintro e w' ⟨rfl, rfl⟩))
        go_ret2
        exact ⟨_, rfl, World.ownsRow_nil _ _ _ _, bl_trans HBA.out hb1⟩
      · clear g2
        go_enter Try.func23, Try.ntmps23
        go_wp2_with fail
        refine HVB.out.mono ?_
        rintro e w1 ⟨rfl, hb1⟩
        go_wp2_with (first | (go_at_call 48; refine (HIO.out _ ?_).mono ?_; (first | exact hb1 | exact (by repeat (first | with_reducible exact Below.refl _ _ | with_reducible assumption | with_reducible apply bl_drewN | with_reducible apply bl_drew | with_reducible apply bl_alloc | (with_reducible refine bl_set ?_ (by first | (simp; done) | (simp; omega)) _) | with_reducible refine bl_trans ?_ (by with_reducible assumption)))); rintro e w' ⟨rfl, rfl⟩) | (go_at_call 37; refine (isSide_any _ _).mono ?_; rintro e w' ⟨rfl, rfl⟩))
        go_ret2
        exact ⟨_, rfl, World.ownsRow_nil _ _ _ _, bl_trans HBA.out hb1⟩
    | true =>
      rw [Bool.and_eq_true] at g2
      obtain ⟨g3, g4⟩ := g2
      have HC2 : Hid (poCode ⟨wd, hg, ps⟩ i sd = 0) := Lib.hid (by rw [HC.out, g3, g4]; rfl)
      obtain ⟨hv, n, k, hi, hnl, hsk, hk⟩ := poCode_0 _ _ _ HC2.out
      have HL : Hid (poList ⟨wd, hg, ps⟩ i sd = runOf ps [pushOf ⟨wd, hg, ps⟩ n k]) := Lib.hid (by unfold poList; rw [if_pos HC2.out, hi, hsk]; rfl)
      rw [HL.out, HC2.out]
      clear HL HC HC2
      subst hi hsk
      obtain ⟨o1, o2, o3, o4⟩ := pushOf_ok ⟨wd, hg, ps⟩ hv hok n hnl k hk
      have hG := Lib.hid (good_bd ⟨wd, hg, ps⟩ hv [pushOf ⟨wd, hg, ps⟩ n k] o2)
      have hcs : flat Hi.cells ([pushOf ⟨wd, hg, ps⟩ n k].map (hitOf ⟨wd, hg, ps⟩)) = [.int .i64 0, .int .i64 (n : Int), .int .i64 (k : Int), .int .i64 (-1)] := by
        rw [List.map_cons, List.map_nil, o4]; rfl
      have HST := Lib.hid (fun w1 (hb : Below (w.alloc (.cells #[.int .i8 wd, .int .i8 hg, .slice a ps.length cap] 35)).heap.size (w.alloc (.cells #[.int .i8 wd, .int .i8 hg, .slice a ps.length cap] 35)) w1) => stageOf_any w.heap.size ⟨wd, hg, ps⟩ w1 (HB.out.step hb) hv)
      have HRUN := Lib.hid (fun g w1 a1 (B : Nat) (hst : StAt w1 g ⟨wd, hg, ps⟩) (hs : SlAt B w1 a1 (flat Hi.cells ([pushOf ⟨wd, hg, ps⟩ n k].map (hitOf ⟨wd, hg, ps⟩)))) (hB : B ≤ w1.heap.size) => run_any (B := B) g ⟨wd, hg, ps⟩ a1 1 [pushOf ⟨wd, hg, ps⟩ n k] w1 hst hv hs o2 o3 (by simp) hB)
      rw [hcs] at HRUN
      clear o1 o2 o3 o4 hcs hv
      go_enter Try.func23, Try.ntmps23
      go_wp2_with fail
      refine HVB.out.mono ?_
      rintro e w1 ⟨rfl, hb1⟩
      have HB1 := Lib.hid hb1
      go_upto_region 5 with (first | (go_at_call 48; refine (HIO.out _ HB1.out).mono ?_; rintro e w' ⟨rfl, rfl⟩) | (go_at_call 37; refine (isSide_any _ _).mono ?_; rintro e w' ⟨rfl, rfl⟩))
      go_wp2_with fail
      refine (HST.out _ HB1.out).mono ?_
      rintro e w2 ⟨g, rfl, hgl, hst, hb2⟩
      have hb02 := bl_trans (bl_trans HBA.out hb1) hb2
      have HB02 := Lib.hid hb02
      have HSTG := Lib.hid hst
      clear hb1 hb2 hb02 hst
      go_wp2_with fail
      refine (HRUN.out g _ _ _ (HSTG.out.step (bl_alloc (Below.refl _ _))) (sl_new w2 #[.int .i64 0, .int .i64 (n : Int), .int .i64 (k : Int), .int .i64 (-1)] 89) (by simp)).mono ?_
      rintro e w3 ⟨v, fs, rfl, hown, hokf, hb3⟩
      have he := runOf_eq _ _ _ hG.out hokf
      subst he
      have hown2 := own_mono (base := w.heap.size) hown (by have := HB02.out.size; simp; omega)
      have hb03 := bl_trans (bl_trans HB02.out (bl_alloc (o := .cells #[.int .i64 0, .int .i64 (n : Int), .int .i64 (k : Int), .int .i64 (-1)] 89) (Below.refl _ w2))) hb3
      go_wp2
      go_ret2
      exact ⟨v, rfl, hown2, hb03⟩
end Go.Proofs.Ytollihgjcmiolaa
/- The walk of the law FnExactValidWay. -/
namespace Go.Proofs.Ytollihgjcmiolaa
open Go.RowKit
set_option linter.unusedVariables false
set_option linter.unusedSimpArgs false
set_option maxHeartbeats 400000
set_option maxRecDepth 100000
theorem ext_s {w w' : World} (h : Below w.heap.size w w') : Below w.heap.size w w' ∧ ∀ b o, b < w.heap.size → w'.cell? ⟨b, o, none⟩ = w.cell? ⟨b, o, none⟩ := ⟨h, (bcell h).1⟩
end Go.Proofs.Ytollihgjcmiolaa
/- The walk of the law FnExactFreeCells. -/
namespace Go.Proofs.Ytollihgjcmiolaa
open Go.RowKit
set_option linter.unusedVariables false
set_option linter.unusedSimpArgs false
set_option maxHeartbeats 400000
set_option maxRecDepth 100000

/-- A block's first cells. -/
abbrev BX3 (w : World) (b : Nat) (v0 v1 v2 : Value) : Prop := b < w.heap.size ∧ w.cell? ⟨b, 0, none⟩ = some v0 ∧ w.cell? ⟨b, 1, none⟩ = some v1 ∧ w.cell? ⟨b, 2, none⟩ = some v2
theorem BX3.step {w w' : World} {b : Nat} {v0 v1 v2 : Value} (h : BX3 w b v0 v1 v2) (hb : Below w.heap.size w w') : BX3 w' b v0 v1 v2 := by
  obtain ⟨h1, h2⟩ := h
  refine ⟨Nat.lt_of_lt_of_le h1 hb.size, ?_⟩
  simp only [hb.cell (p := ⟨b, _, none⟩) h1]
  exact h2
theorem BX3.new (w : World) (v0 v1 v2 : Value) (T : TypeId) : BX3 (w.alloc (.cells #[v0, v1, v2] T)) w.heap.size v0 v1 v2 := by
  have hh := heap_alloc_new w (.cells #[v0, v1, v2] T)
  refine ⟨by simp, ?_, ?_, ?_⟩ <;> (rw [cell_of_row _ _ _ _ _ _ hh]; rfl)

theorem markBoard_any {base n : Nat} {wd hg : Int} {v : Value} {cs : List Value} (k0 : Int) (w : World) (hown : w.ownsRow base 95 5 v n cs) (hn : n ≤ 10000000) (h1 : 0 ≤ k0) (h2 : k0 ≤ 1000000000) :
    Calls Try.prog 24 #[bdv wd hg v, .int .i64 k0] w fun e w' => e = .returned (.int .i64 (k0 + 5 * n)) ∧ w'.ownsRow base 95 5 v n (flat Pc.cells (mkPc k0 n)) ∧ w.grownBy w' v.ownBlock := by
  have g0 : w.grownBy (w.alloc (.cells #[.int .i8 wd, .int .i8 hg, v] 35)) v.ownBlock := ⟨rfl, rfl, rfl, by simp, fun k hk _ => Below.heap_alloc w _ k hk⟩
  have h3 := own_kept hown g0
  have H := Lib.hid (markPieceS_any k0 (w.alloc (.cells #[.int .i8 wd, .int .i8 hg, v] 35)) (own_below hown (bl_alloc (Below.refl _ _)) (Nat.le_refl _)) hn h1 h2)
  clear h3
  go_enter Try.func24, Try.ntmps24
  go_wp2_with fail
  refine H.out.mono ?_
  rintro e w1 ⟨rfl, ho, hg⟩
  go_wp2
  go_ret
  exact ⟨rfl, ho, grown_trans g0 hg⟩
end Go.Proofs.Ytollihgjcmiolaa
/- The walk of the law FnExactPushOne. -/
namespace Go.Proofs.Ytollihgjcmiolaa
open Go.RowKit
set_option linter.unusedVariables false
set_option linter.unusedSimpArgs false
set_option maxHeartbeats 400000
set_option maxRecDepth 100000
theorem poList_len (l : Bd) (i s : Int) : (poList l i s).length ≤ l.ps.length := by
  unfold poList
  split
  · unfold runOf
    split
    · rename_i h
      exact Nat.le_of_eq h.choose_spec.1
    · exact Nat.zero_le _
  · exact Nat.zero_le _
set_option maxRecDepth 100000 in
theorem lawPushOne_any (wd hg : Int) (a : Option Addr) (cap : Nat) (ps : List Pc) (i sd : Int) (w : World) (hps : PcsAt w.heap.size w a ps) (hok : (Bd.mk wd hg ps).ok) (hl : ps.length ≤ 9223372036854775807) :
    Calls Try.prog 6 #[bdv wd hg (.slice a ps.length cap), .int .i64 i, .int .i64 sd] w fun e w' => e = .returned (.bool true) ∧ Below w.heap.size w w' := by
  by_cases hn : ps.length ≤ 1048576
  · have Hs := Lib.hid (show szv ps.length 1048576 = 1048576 - ps.length by unfold szv; rw [if_neg (by omega)])
    have P0 : PV w (.slice a ps.length cap) ps := ⟨a, cap, rfl, hps⟩
    have X0 := BX3.new w (.int .i8 wd) (.int .i8 hg) (.slice a ps.length cap) 25
    have hln := poList_len ⟨wd, hg, ps⟩ i sd
    have hln : (poList ⟨wd, hg, ps⟩ i sd).length ≤ 1048576 := Nat.le_trans hln hn
    obtain ⟨fl, hfl⟩ : ∃ fl, fl = poList ⟨wd, hg, ps⟩ i sd := ⟨_, rfl⟩
    obtain ⟨fc, hfc⟩ : ∃ fc, fc = poCode ⟨wd, hg, ps⟩ i sd := ⟨_, rfl⟩
    have CS := fun s w' (h : PV w' s ps) => specPushOne_any wd hg s ps i sd w' h hok (by omega)
    have CI := fun s w' (h : PV w' s ps) => pushOne_any wd hg s ps i sd w' h hok (by omega)
    rw [← hfl, ← hfc] at CS CI
    rw [← hfl] at hln
    have CS := Lib.hid CS
    have CI := Lib.hid CI
    clear hfl hfc
    go_enter Try.func6, Try.ntmps6
    go_wp2_with fail
    refine (szBoard_any wd hg a ps.length cap _ _ (by omega) (by omega) (by omega)).mono ?_
    rintro e u ⟨rfl, bu⟩
    rw [Hs.out]
    have A0 := (P0.step (bl_alloc (Below.refl _ _))).step bu
    have AX := X0.step bu
    have bu0 : Below w.heap.size w u := bl_trans (bl_alloc (Below.refl _ _)) bu
    go_wp2_with fail
    refine (toBoard_pv (b := ⟨wd, hg, ps⟩) ⟨_, rfl, A0⟩ (by simp; omega)).mono ?_
    rintro e w1 ⟨vt, rfl, Ot1, b1⟩
    have AP1 := A0.step b1
    have AX1 := AX.step b1
    have B1 := b1
    go_wp2_with fail
    refine (CS.out _ _ (own_pv Ot1)).mono ?_
    rintro e w2 ⟨vw, rfl, Ow2, b2⟩
    have AP2 := AP1.step b2
    have AX2 := AX1.step b2
    have Ntw := own_apart Ot1 Ow2 (by first | exact Nat.le_refl _ | simp)
    have Nwt := own_apart' Ot1 Ow2 (by first | exact Nat.le_refl _ | simp)
    have Ot2 := own_below Ot1 b2 (Nat.le_refl _)
    have B2 := bl_trans B1 b2
    go_wp2_with fail
    refine (toBoard_pv (b := ⟨wd, hg, ps⟩) ⟨_, rfl, AP2⟩ (by simp; omega)).mono ?_
    rintro e w3 ⟨vx, rfl, Ox3, b3⟩
    have AP3 := AP2.step b3
    have AX3 := AX2.step b3
    have Nwx := own_apart Ow2 Ox3 (by first | exact Nat.le_refl _ | simp)
    have Nxw := own_apart' Ow2 Ox3 (by first | exact Nat.le_refl _ | simp)
    have Ow3 := own_below Ow2 b3 (Nat.le_refl _)
    have B3 := bl_trans B2 b3
    obtain ⟨ax, capx, rfl, -⟩ := own_at Ox3
    go_wp2_with fail
    refine (CI.out _ _ (own_pv (own_below Ox3 (bl_alloc (Below.refl _ _)) (Nat.le_refl _)))).mono ?_
    rintro e w4 ⟨vg, rfl, Og4, c4⟩
    have b4 := bl_trans (bl_alloc (o := .cells #[.int .i8 wd, .int .i8 hg, .slice ax ps.length capx] 35) (Below.refl w3.heap.size w3)) c4
    have AY4 := (BX3.new w3 (.int .i8 wd) (.int .i8 hg) (.slice ax ps.length capx) 35).step c4
    have AP4 := AP3.step b4
    have AX4 := AX3.step b4
    have Nwg := own_apart Ow3 Og4 (by first | exact Nat.le_refl _ | simp)
    have Ngw := own_apart' Ow3 Og4 (by first | exact Nat.le_refl _ | simp)
    have Nxg := own_apart Ox3 Og4 (by first | exact Nat.le_refl _ | simp)
    have Ngx := own_apart' Ox3 Og4 (by first | exact Nat.le_refl _ | simp)
    have Ow4 := own_below Ow3 b4 (Nat.le_refl _)
    have Ox4 := own_below Ox3 b4 (Nat.le_refl _)
    have B4 := bl_trans B3 b4
    go_wp2_with fail
    refine (eqFallS_yes (own_rv Og4) (own_rv Ow4) (by omega)).mono ?_
    rintro e w5 ⟨rfl, b5⟩
    have AP5 := AP4.step b5
    have AX5 := AX4.step b5
    have AY5 := AY4.step b5
    have Ow5 := own_below Ow4 b5 (Nat.le_refl _)
    have Ox5 := own_below Ox4 b5 (Nat.le_refl _)
    have Og5 := own_below Og4 b5 (Nat.le_refl _)
    have B5 := bl_trans B4 b5
    go_upto_region 10 with fail
    have CK := Lib.hid (fun w' (h : Below w5.heap.size w5 w') => toBoard_pv (b := ⟨wd, hg, ps⟩) (w := w') ⟨_, rfl, AP5.step h⟩ (by simp; omega))
    have CL := Lib.hid (fun w' s' (h : Below w5.heap.size w5 w') (h' : PV w' s' ps) => eqBoard_yes (b := ⟨wd, hg, ps⟩) (w := w') ⟨_, rfl, (own_pv Ox5).step h⟩ ⟨s', rfl, h'⟩ (by simp; omega))
    go_region_held3 (fun w' => Below w5.heap.size w5 w' ∧ ∀ b o, b < w5.heap.size → w'.cell? ⟨b, o, none⟩ = w5.cell? ⟨b, o, none⟩) ((refine ext_s ?_; exact (by repeat (first | with_reducible exact Below.refl _ _ | with_reducible assumption | with_reducible apply bl_drewN | with_reducible apply bl_drew | with_reducible apply bl_alloc | (with_reducible refine bl_set ?_ (by first | (simp; done) | (simp; omega)) _) | with_reducible refine bl_trans ?_ (by with_reducible assumption))))) (first | (go_at_call 11; refine (CK.out _ ?_).mono ?_; (exact (by repeat (first | with_reducible exact Below.refl _ _ | with_reducible assumption | with_reducible apply bl_drewN | with_reducible apply bl_drew | with_reducible apply bl_alloc | (with_reducible refine bl_set ?_ (by first | (simp; done) | (simp; omega)) _) | with_reducible refine bl_trans ?_ (by with_reducible assumption)))); rintro e wa ⟨sa, rfl, Oa, ba⟩; obtain ⟨hca, hfa⟩ := bcell ba) | (go_at_call 15; refine (CL.out _ _ ?_ (own_pv Oa)).mono ?_; (exact (by repeat (first | with_reducible exact Below.refl _ _ | with_reducible assumption | with_reducible apply bl_drewN | with_reducible apply bl_drew | with_reducible apply bl_alloc | (with_reducible refine bl_set ?_ (by first | (simp; done) | (simp; omega)) _) | with_reducible refine bl_trans ?_ (by with_reducible assumption)))); rintro e w6 ⟨rfl, be⟩))
    have b6 : Below w5.heap.size w5 w6 := (by repeat (first | with_reducible exact Below.refl _ _ | with_reducible assumption | with_reducible apply bl_drewN | with_reducible apply bl_drew | with_reducible apply bl_alloc | (with_reducible refine bl_set ?_ (by first | (simp; done) | (simp; omega)) _) | with_reducible refine bl_trans ?_ (by with_reducible assumption)))
    have AP6 := AP5.step b6
    have AX6 := AX5.step b6
    have AY6 := AY5.step b6
    have Ow6 := own_below Ow5 b6 (Nat.le_refl _)
    have Ox6 := own_below Ox5 b6 (Nat.le_refl _)
    have Og6 := own_below Og5 b6 (Nat.le_refl _)
    have B6 := bl_trans B5 b6
    go_wp2_with fail
    refine (markBoard_any 1 _ Ox6 (by omega) (by omega) (by omega)).mono ?_
    rintro e w7 ⟨rfl, Mx7, g7⟩
    have Ow7 := own_kept Ow6 g7 Nwx
    have Og7 := own_kept Og6 g7 Ngx
    have B7 := bl_grown B6 g7 (fun k hk => by have h1 := B2.size; have h2 := (Ox6.lt k hk).1; (try simp only [World.size_alloc] at h2); omega)
    have AP7 := A0.step B7
    have AX7 := AX.step B7
    go_wp2_with fail
    refine (eqFallS_yes (own_rv Og7) (own_rv Ow7) (by omega)).mono ?_
    rintro e w8 ⟨rfl, b8⟩
    have AP8 := AP7.step b8
    have AX8 := AX7.step b8
    have Ow8 := own_below Ow7 b8 (Nat.le_refl _)
    have Og8 := own_below Og7 b8 (Nat.le_refl _)
    have B8 := bl_trans B7 b8
    go_wp2_with fail
    refine (markFallS_any 1 _ Og8 (by omega) (by omega) (by omega)).mono ?_
    rintro e w9 ⟨rfl, Mg9, g9⟩
    have Ow9 := own_kept Ow8 g9 Nwg
    have B9 := bl_grown B8 g9 (fun k hk => by have h1 := B3.size; have h2 := (Og8.lt k hk).1; (try simp only [World.size_alloc] at h2); omega)
    have AP9 := A0.step B9
    have AX9 := AX.step B9
    go_wp2_with fail
    refine (heldFallS_own 1 Mg9 (by omega) (by omega) (by omega)).mono ?_
    rintro e w' ⟨rfl, rfl⟩
    go_wp2_with fail
    refine (toBoard_pv (b := ⟨wd, hg, ps⟩) ⟨_, rfl, AP9⟩ (by simp; omega)).mono ?_
    rintro e w10 ⟨vz, rfl, Oz10, b10⟩
    have AP10 := AP9.step b10
    have AX10 := AX9.step b10
    have Nwz := own_apart Ow9 Oz10 (by first | exact Nat.le_refl _ | simp)
    have Nzw := own_apart' Ow9 Oz10 (by first | exact Nat.le_refl _ | simp)
    have Ngz := own_apart Mg9 Oz10 (by first | exact Nat.le_refl _ | simp)
    have Nzg := own_apart' Mg9 Oz10 (by first | exact Nat.le_refl _ | simp)
    have Ow10 := own_below Ow9 b10 (Nat.le_refl _)
    have Og10 := own_below Mg9 b10 (Nat.le_refl _)
    have B10 := bl_trans B9 b10
    go_wp2_with fail
    refine (CI.out _ _ (own_pv Oz10)).mono ?_
    rintro e w11 ⟨vh, rfl, Oh11, b11⟩
    have AP11 := AP10.step b11
    have AX11 := AX10.step b11
    have Nwh := own_apart Ow10 Oh11 (by first | exact Nat.le_refl _ | simp)
    have Nhw := own_apart' Ow10 Oh11 (by first | exact Nat.le_refl _ | simp)
    have Ngh := own_apart Og10 Oh11 (by first | exact Nat.le_refl _ | simp)
    have Nhg := own_apart' Og10 Oh11 (by first | exact Nat.le_refl _ | simp)
    have Nzh := own_apart Oz10 Oh11 (by first | exact Nat.le_refl _ | simp)
    have Nhz := own_apart' Oz10 Oh11 (by first | exact Nat.le_refl _ | simp)
    have Ow11 := own_below Ow10 b11 (Nat.le_refl _)
    have Og11 := own_below Og10 b11 (Nat.le_refl _)
    have Oz11 := own_below Oz10 b11 (Nat.le_refl _)
    have B11 := bl_trans B10 b11
    go_wp2_with fail
    refine (eqFallS_yes (own_rv Oh11) (own_rv Ow11) (by omega)).mono ?_
    rintro e w12 ⟨rfl, b12⟩
    have AP12 := AP11.step b12
    have AX12 := AX11.step b12
    have Ow12 := own_below Ow11 b12 (Nat.le_refl _)
    have Og12 := own_below Og11 b12 (Nat.le_refl _)
    have Oz12 := own_below Oz11 b12 (Nat.le_refl _)
    have Oh12 := own_below Oh11 b12 (Nat.le_refl _)
    have B12 := bl_trans B11 b12
    go_wp2_with fail
    refine (heldFallS_own 1 Og12 (by omega) (by omega) (by omega)).mono ?_
    rintro e w' ⟨rfl, rfl⟩
    go_wp2
    go_ret
    exact ⟨rfl, bl_trans bu0 B12⟩
  · have Hs := Lib.hid (show szv ps.length 1048576 = -1 by unfold szv; rw [if_pos (by omega)])
    go_enter Try.func6, Try.ntmps6
    go_wp2_with fail
    refine (szBoard_any wd hg a ps.length cap _ _ (by omega) (by omega) (by omega)).mono ?_
    rintro e w1 ⟨rfl, b1⟩
    rw [Hs.out]
    go_wp2
    go_ret
    exact ⟨rfl, (by repeat (first | with_reducible exact Below.refl _ _ | with_reducible assumption | with_reducible apply bl_drewN | with_reducible apply bl_drew | with_reducible apply bl_alloc | (with_reducible refine bl_set ?_ (by first | (simp; done) | (simp; omega)) _) | with_reducible refine bl_trans ?_ (by with_reducible assumption)))⟩
end Go.Proofs.Ytollihgjcmiolaa
/- Opening arguments: boards and ways. -/
namespace Go.Proofs.Ytollihgjcmiolaa
open Go.RowKit Go.ChangeShapes Go.WideShapes Go.ChangeAt
set_option linter.unusedVariables false
set_option maxHeartbeats 400000
set_option maxRecDepth 100000
set_option linter.unusedSimpArgs false
theorem open_bd {H : Type} {enc : TypeId × Value → H} {w : World} {base : Nat} {r : Reach} {b0 : Nat} {spare : Nat → Bool} {held : Bool} {v : Value} {d : DataW H} {p : List MemPlace}
    (hv : Value.okWide Try.prog w r b0 25 v) (h : DataW.Trod enc Try.prog w base spare held 25 v d p) :
    ∃ wd hg a cap ps, v = bdv wd hg (.slice a (ps : List Pc).length cap) ∧ (Bd.mk wd hg ps).ok ∧ PcsAt w.heap.size w a ps ∧ ps.length ≤ maxLen := by
  obtain ⟨cs, rfl, hsz⟩ := okWide_struct Try.underlying25 hv
  obtain ⟨fuel, h⟩ := h
  obtain ⟨y0, y1, y2, n, -, hl, h0, h1, h2⟩ := Go.Deep.trod_struct3 Try.underlying25 h
  have hsz : cs.size = 3 := hsz
  obtain ⟨c0, c1, c2, rfl⟩ : ∃ c0 c1 c2, cs = #[c0, c1, c2] := by
    obtain ⟨l⟩ := cs
    match l, hsz with
    | [c0, c1, c2], _ => exact ⟨c0, c1, c2, rfl⟩
  have f0 := trod_kinds (P := Try.prog) 2 22 [.i8] (by kernel_rfl) _ [c0] _ h0
  have f1 := trod_kinds (P := Try.prog) 2 22 [.i8] (by kernel_rfl) _ [c1] _ h1
  obtain ⟨a, cap, ps, e2, ok, sl, ln⟩ := sl_of_trod (s := 5) (cs := [c2]) (ok := Pc.ok) (f := Pc.cells) rfl (by omega) conv_pc Try.underlying23 (by kernel_rfl) (by kernel_rfl) h2
  obtain ⟨wd, _, e0, k0, -⟩ := fits_cons f0
  obtain ⟨hg, _, e1, k1, -⟩ := fits_cons f1
  simp only [List.cons.injEq] at e0 e1 e2
  obtain ⟨rfl, -⟩ := e0
  obtain ⟨rfl, -⟩ := e1
  obtain ⟨rfl, -⟩ := e2
  exact ⟨wd, hg, a, cap, ps, rfl, ⟨bounds_i8 k0, bounds_i8 k1, ok⟩, sl, ln⟩
theorem open_ce {H : Type} {enc : TypeId × Value → H} {w : World} {base : Nat} {r : Reach} {b0 : Nat} {spare : Nat → Bool} {held : Bool} {v : Value} {d : DataW H} {p : List MemPlace}
    (hv : Value.okWide Try.prog w r b0 57 v) (h : DataW.Trod enc Try.prog w base spare held 57 v d p) : ∃ c : Ce, v = c.val ∧ c.ok := by
  simp only [Value.okWide, Try.underlying57] at hv
  obtain ⟨cs, rfl, hsz, _⟩ := hv
  have hf : Fits [.i8, .i8] cs.toList := fits_of_trod (P := Try.prog) (by kernel_rfl) h
  obtain ⟨l⟩ := cs
  obtain ⟨a, _, e, h0, hf⟩ := fits_cons hf
  obtain ⟨b, _, rfl, h1, hf⟩ := fits_cons hf
  obtain rfl := fits_nil hf
  simp only at e
  subst e
  exact ⟨⟨a, b⟩, rfl, bounds_i8 h0, bounds_i8 h1⟩
end Go.Proofs.Ytollihgjcmiolaa
/- Contracts: CountFrom (both). -/
namespace Go.Proofs.Ytollihgjcmiolaa
open Go.RowKit
set_option linter.unusedVariables false
set_option linter.unusedSimpArgs false
set_option maxHeartbeats 400000
set_option maxRecDepth 100000
theorem sl_newC (w : World) (cs : Array Value) (T : TypeId) (g : Nat) (hg : g = w.heap.size) : SlAt (g + 1) (w.alloc (.cells cs T)) (some ⟨g, 0, none⟩) cs.toList := by
  subst hg
  exact sl_new w cs T
/-- How many pieces fall. -/
def cntF (fs : List Fa) : Int := (fs.filter (fun f => decide (0 ≤ f.t))).length
theorem cntF_nil : cntF [] = 0 := rfl
theorem cntF_take (fs : List Fa) (k : Nat) (hk : k < fs.length) : cntF (fs.take (k + 1)) = cntF (fs.take k) + (if 0 ≤ fs[k].t then 1 else 0) := by
  rw [List.take_succ_eq_append_getElem hk]
  unfold cntF
  rw [List.filter_append, List.length_append]
  by_cases h : 0 ≤ fs[k].t
  · rw [if_pos h, List.filter_cons_of_pos (by simpa using h), List.filter_nil]; push_cast; rfl
  · rw [if_neg h, List.filter_cons_of_neg (by simpa using h), List.filter_nil]; push_cast; rfl
theorem cntF_le (fs : List Fa) : 0 ≤ cntF fs ∧ cntF fs ≤ fs.length := by
  unfold cntF
  have := List.length_filter_le (fun f : Fa => decide (0 ≤ f.t)) fs
  omega
/-- A push on a side from which the piece does not fall: nobody falls. -/
theorem runOf_none (ps : List Pc) (G : ∀ pl, (∀ p ∈ pl, 0 ≤ p.t ∧ p.t ≤ 1000) → Good ps pl) (p : Pu) (hp : 0 ≤ p.t ∧ p.t ≤ 1000) (n : Nat) (hn : n < ps.length) (hpn : (⟨p.x, p.y⟩ : Ce) = (ps.getD n default).at_) (hc : canH ps n (p.t, p.s, -1) = false) : runOf ps [p] = List.replicate ps.length (faOf none) := by
  have hG := G [p] (fun q hq => by rw [List.mem_singleton] at hq; subst hq; exact hp)
  refine (runOf_eq ps [p] _ hG ?_).symm
  refine okFa_least ps [p] _ (by simp) (fun i hi => ?_) (fun i hi => ⟨none, rep_get ps i hi, fun m hm => ?_⟩)
  · rw [rep_get ps i hi]; show (-1 : Int) ≤ -1; omega
  · obtain ⟨h1, h2⟩ := (mem_rep ps [p] i m).1 hm
    unfold candP at h2
    rw [List.mem_filterMap] at h2
    obtain ⟨q, hq, h3⟩ := h2
    rw [List.mem_singleton] at hq
    subst hq
    split at h3
    · rename_i e
      simp only [Option.some.injEq] at h3
      have e2 : (ps.getD i default).at_ = (ps.getD n default).at_ := by rw [← e, hpn]
      rw [getD_pc ps i hi, getD_pc ps n hn] at e2
      have e3 := (fnd_iff ps hG.nd (ps[n].at_) i).2 ⟨hi, e2⟩
      have e4 := (fnd_iff ps hG.nd (ps[n].at_) n).2 ⟨hn, rfl⟩
      have : i = n := by omega
      subst this
      rw [← h3, hc] at h1
      cases h1
    · cases h3
theorem cntF_rep (n : Nat) : cntF (List.replicate n (faOf none)) = 0 := by
  unfold cntF
  rw [List.filter_eq_nil_iff.2]
  · rfl
  · intro x hx
    rw [List.eq_of_mem_replicate hx]
    show ¬ decide ((0 : Int) ≤ -1) = true
    decide
noncomputable def cntV (l : Bd) (i s : Int) : Int := cntF (poList l i s)
theorem l02Count_any {B : Nat} (a : Option Addr) (cap : Nat) (fs : List Fa) (w : World) (h : SlAt B w a (flat Fa.cells fs)) (hB : B ≤ w.heap.size) (hn : fs.length ≤ 10000) :
    Calls Try.prog 45 #[.slice a fs.length cap] w fun e w' => e = .returned (.int .i64 (cntF fs)) ∧ Below w.heap.size w w' := by
  have HCT := Lib.hid (fun k hk => cntF_take fs k hk)
  have HCL := Lib.hid (fun k => cntF_le (fs.take k))
  go_enter Try.func45, Try.ntmps45
  go_wp2
  go_loopw [3, 4] (fun cx ix wr => ∃ k : Nat, k ≤ fs.length ∧ ix = .int .i64 k ∧ cx = .int .i64 (cntF (fs.take k)) ∧ Below w.heap.size w wr) (fun _ ix _ => fs.length - (intOf ix).toNat)
  case atStart => exact ⟨0, by omega, rfl, rfl, (by repeat (first | with_reducible exact Below.refl _ _ | with_reducible assumption | with_reducible apply bl_drewN | with_reducible apply bl_drew | with_reducible apply bl_alloc | (with_reducible refine bl_set ?_ (by first | (simp; done) | (simp; omega)) _) | with_reducible refine bl_trans ?_ (by with_reducible assumption)))⟩
  case round =>
    obtain ⟨k, hk, rfl, rfl, hb⟩ := hrel
    by_cases hlt : k < fs.length
    · obtain ⟨b, off, rfl, hbl, hat⟩ := fas_get h hlt
      have hbw : b < w.heap.size := by omega
      have r0 : wr.cell? ⟨b, off + k * 3, none⟩ = some (.int .i64 fs[k].t) := by rw [hb.cell (p := ⟨_, _, none⟩) hbw]; exact hat.1
      have HC := Lib.hid (HCT.out k hlt)
      have hcl := HCL.out k
      have hcl2 : (fs.take k).length ≤ 10000 := by rw [List.length_take]; omega
      obtain ⟨c, hc⟩ : ∃ c, c = cntF (fs.take k) := ⟨_, rfl⟩
      rw [← hc] at HC hcl ⊢
      obtain ⟨ft, hft⟩ : ∃ ft, ft = fs[k].t := ⟨_, rfl⟩
      rw [← hft] at HC r0
      obtain ⟨c0, c1⟩ := hcl
      clear hc hft hat
      have s1 : IntKind.i64.wrap (c + 1) = c + 1 := by rw [IntKind.wrap_i64]; omega
      by_cases hf : 0 ≤ ft
      · have hd : decide (0 ≤ ft) = true := decide_eq_true hf
        have HC2 : Hid (cntF (fs.take (k + 1)) = c + 1) := Lib.hid (by rw [HC.out, if_pos hf])
        go_wp2
        go_roundw
        case rel => exact ⟨k + 1, by omega, by go_num, by rw [HC2.out], hb⟩
        case measure => simp [intOf]; omega
      · have hd : decide (0 ≤ ft) = false := decide_eq_false hf
        have HC2 : Hid (cntF (fs.take (k + 1)) = c) := Lib.hid (by rw [HC.out, if_neg hf, Int.add_zero])
        go_wp2
        go_roundw
        case rel => exact ⟨k + 1, by omega, by go_num, by rw [HC2.out], hb⟩
        case measure => simp [intOf]; omega
    · have hkn : k = fs.length := by omega
      subst hkn
      rw [List.take_length]
      go_wp2
      go_ret
      exact ⟨rfl, hb⟩
theorem specCountFrom_any (wd hg : Int) (s : Value) (ps : List Pc) (i sd : Int) (w : World) (hps : PV w s ps) (hok : (Bd.mk wd hg ps).ok) (hn : ps.length ≤ 9000000) :
    Calls Try.prog 20 #[bdv wd hg s, .int .i64 i, .int .i64 sd] w fun e w' => e = .returned (.tuple #[.int .i64 (cntV ⟨wd, hg, ps⟩ i sd), .int .i64 (poCode ⟨wd, hg, ps⟩ i sd)]) ∧ Below w.heap.size w w' := by
  have HB := Lib.hid (BP.new (l := ⟨wd, hg, ps⟩) (w := w) hps 35)
  have hba : Below w.heap.size w (w.alloc (.cells #[.int .i8 wd, .int .i8 hg, s] 35)) := bl_alloc (Below.refl _ _)
  have H1 := Lib.hid (l02One_any w.heap.size ⟨wd, hg, ps⟩ i sd _ HB.out hok (show ps.length ≤ 10000000 by omega))
  have HBA := Lib.hid hba
  obtain ⟨a, cap, rfl, -⟩ := hps
  by_cases hc : poCode ⟨wd, hg, ps⟩ i sd = 0
  · obtain ⟨hv, n, k, hi, hnl, hsk, hk⟩ := poCode_0 _ _ _ hc
    have c5 : ps.length ≤ 200 := (vBd_bounds _ hv).2.2.2.2
    have HL : Hid (cntV ⟨wd, hg, ps⟩ i sd = cntF (runOf ps [pushOf ⟨wd, hg, ps⟩ n k])) := Lib.hid (by unfold cntV poList; rw [if_pos hc, hi, hsk]; rfl)
    have hlen : (runOf ps [pushOf ⟨wd, hg, ps⟩ n k]).length ≤ 10000 := by
      unfold runOf
      split
      · rename_i h
        have := h.choose_spec.1
        omega
      · simp
    rw [hc] at H1 ⊢
    rw [HL.out]
    clear hc HL
    subst hi hsk
    go_enter Try.func20, Try.ntmps20
    go_wp2_with fail
    refine H1.out.mono ?_
    rintro e w1 ⟨rfl, hb1⟩
    have hb01 := bl_trans HBA.out hb1
    have HF := Lib.hid (l02From_any w.heap.size ⟨wd, hg, ps⟩ n k w1 (HB.out.step hb1) hok hv hnl hk)
    have HB01 := Lib.hid hb01
    clear hb01 hb1 hba
    go_wp2_with fail
    refine HF.out.mono ?_
    rintro e w2 ⟨v, rfl, hown, hb2⟩
    have hb02 := bl_trans HB01.out hb2
    obtain ⟨av, capv, hve, hsl, -, -⟩ := own_at hown
    subst hve
    have HCN := Lib.hid (l02Count_any av capv _ w2 hsl (Nat.le_refl _) hlen)
    have HB02 := Lib.hid hb02
    clear hsl hown hb02 hb2
    go_wp2_with fail
    refine HCN.out.mono ?_
    rintro e w3 ⟨rfl, hb3⟩
    have hb03 := bl_trans HB02.out hb3
    go_wp2
    go_ret2
    exact ⟨rfl, hb03⟩
  · have HL : Hid (cntV ⟨wd, hg, ps⟩ i sd = 0) := Lib.hid (by unfold cntV poList; rw [if_neg hc]; rfl)
    rw [HL.out]
    obtain ⟨c, hce⟩ : ∃ c, c = poCode ⟨wd, hg, ps⟩ i sd := ⟨_, rfl⟩
    rw [← hce] at hc H1 ⊢
    have gne : (c != 0) = true := by simpa using hc
    clear hce HL hc
    go_enter Try.func20, Try.ntmps20
    go_wp2_with fail
    refine H1.out.mono ?_
    rintro e w1 ⟨rfl, hb1⟩
    have hb01 := bl_trans HBA.out hb1
    go_wp2
    go_ret2
    exact ⟨rfl, hb01⟩
theorem Try.infoI64c : (Try.prog.info? 2).map (fun i => (i.zero, i.size, i.bytes)) = some (some (.int .i64 0), 1, 8) := by kernel_rfl
theorem cost1_any (f : Fa) (w : World) : Calls Try.prog 81 #[f.val] w fun e w' => e = .returned (.bool (f.t != -1)) ∧ Below w.heap.size w w' := by
  go_enter Try.func81, Try.ntmps81
  go_wp2
  go_ret
  exact ⟨rfl, (by repeat (first | with_reducible exact Below.refl _ _ | with_reducible assumption | with_reducible apply bl_drewN | with_reducible apply bl_drew | with_reducible apply bl_alloc | (with_reducible refine bl_set ?_ (by first | (simp; done) | (simp; omega)) _) | with_reducible refine bl_trans ?_ (by with_reducible assumption)))⟩
theorem indices_any {B : Nat} (a : Option Addr) (cap : Nat) (fs : List Fa) (w : World) (h : SlAt B w a (flat Fa.cells fs)) (hB : B ≤ w.heap.size) (hn : fs.length ≤ 10000) (h1 : ∀ k (hk : k < fs.length), -1 ≤ fs[k].t) :
    Calls Try.prog 80 #[.slice a fs.length cap, (.func (.func 81) #[] #[])] w fun e w' => ∃ av cv n, e = .returned (.slice av n cv) ∧ ((n : Nat) : Int) = cntF fs ∧ Below w.heap.size w w' := by
  have HCT := Lib.hid (fun k hk => cntF_take fs k hk)
  have HCL := Lib.hid (fun k => cntF_le (fs.take k))
  have H1 := Lib.hid h1
  clear h1
  obtain ⟨i0, hi0, hiz0, hiz1, hiz2⟩ := info_parts Try.infoI64c
  have hown0 := World.ownsRow_made (e := 2) (size := 1) w #[] 0 (Nat.le_refl _) (by simp [maxLen]) rfl
  have hb0 : Below w.heap.size w (w.alloc (.cells #[] 2)) := bl_alloc (Below.refl _ _)
  go_enter Try.func80, Try.ntmps80
  go_wp2
  go_loopw [5, 11] (fun v ix wr => ∃ (k n : Nat) (xs : List Value), k ≤ fs.length ∧ n ≤ k ∧ ix = .int .i64 k ∧ wr.ownsRow w.heap.size 2 1 v n xs ∧ ((n : Nat) : Int) = cntF (fs.take k) ∧ Below w.heap.size w wr) (fun _ ix _ => fs.length - (intOf ix).toNat)
  case atStart => exact ⟨0, 0, [], by omega, by omega, rfl, hown0, rfl, hb0⟩
  case round =>
    clear hown0 hb0
    obtain ⟨k, n, xs, hk, hnk, rfl, hown, hcn, hb⟩ := hrel
    obtain ⟨av, capv, hve, -, -, -⟩ := own_at hown
    subst hve
    have HOWN := Lib.hid hown
    have HCN := Lib.hid hcn
    have hzb := hb.size
    clear hown hcn
    by_cases hlt : k < fs.length
    · obtain ⟨b, off, rfl, hbl, hat⟩ := fas_get h hlt
      have hbw : b < w.heap.size := by omega
      unfold FaAt at hat
      obtain ⟨a0, a1, a2⟩ := hat
      have r0 : wr.cell? ⟨b, off + k * 3, none⟩ = some (.int .i64 fs[k].t) := by rw [hb.cell (p := ⟨_, _, none⟩) hbw]; exact a0
      have r1 : wr.cell? ⟨b, off + k * 3 + 1, none⟩ = some (.int .i8 fs[k].f) := by rw [hb.cell (p := ⟨_, _, none⟩) hbw]; exact a1
      have r2 : wr.cell? ⟨b, off + k * 3 + 2, none⟩ = some (.int .i64 fs[k].b) := by rw [hb.cell (p := ⟨_, _, none⟩) hbw]; exact a2
      have HC := Lib.hid (HCT.out k hlt)
      have h9 := H1.out k hlt
      obtain ⟨F, hF⟩ : ∃ F, F = fs[k] := ⟨_, rfl⟩
      rw [← hF] at r0 r1 r2 HC h9
      have HCO := Lib.hid (fun w1 => cost1_any F w1)
      clear a0 a1 a2 hF
      rcases Int.decEq F.t (-1) with hne | heq
      · have htc : (F.t != (-1 : Int)) = true := by simpa using hne
        have HC2 : Hid (cntF (fs.take (k + 1)) = n + 1) := Lib.hid (by rw [HC.out, if_pos (by omega), HCN.out])
        rw [htc] at HCO
        have hb1 : Below w.heap.size w (wr.alloc (.cells #[.int .i64 F.t, .int .i8 F.f, .int .i64 F.b] 66)) := bl_alloc hb
        have HB1 := Lib.hid hb1
        clear hb1 hne h9
        go_wp2_with fail
        refine (HCO.out _).mono ?_
        rintro e w2 ⟨rfl, hb2⟩
        have hb02 := bl_trans HB1.out hb2
        have own2 := own_below HOWN.out (bl_trans (bl_alloc (o := .cells #[.int .i64 F.t, .int .i8 F.f, .int .i64 F.b] 66) (Below.refl wr.heap.size wr)) hb2) (Nat.le_refl _)
        have HB2 := Lib.hid hb02
        have HO2 := Lib.hid own2
        have hz2 := hb02.size
        clear hb02 own2 hb2
        go_wp2_with (at_builtin; refine wpList_append_sl _ rfl _ _ 131 rfl w.heap.size 2 i0 (.int .i64 0) 1 8 Try.underlying131 hi0 hiz0 hiz1 hiz2 rfl (by decide) _ _ _ rfl (own_below HO2.out (bl_alloc (Below.refl _ _)) (Nat.le_refl _)) (some ⟨w2.heap.size, 0, none⟩) 1 1 [.int .i64 (k : Int)] rfl (sl_newC w2 #[.int .i64 (k : Int)] 2 _ rfl) rfl (by intro u hu; rw [List.mem_singleton] at hu; subst hu; rfl) (by unfold maxLen; omega) (by omega) (by simp; omega) ?_; intro v3 w3 hown3 hgrow)
        have hb3 : Below w.heap.size w w3 := (bl_alloc (o := .cells #[.int .i64 (k : Int)] 2) HB2.out).grown hgrow (by simp; omega) (fun q hq => (HO2.out.lt q hq).1)
        go_roundw
        case rel => exact ⟨k + 1, n + 1, _, by omega, by omega, by go_num, hown3, by rw [HC2.out]; push_cast; rfl, hb3⟩
        case measure => simp [intOf]; omega
      · have htc : (F.t != (-1 : Int)) = false := by rw [heq]; rfl
        have HC2 : Hid (cntF (fs.take (k + 1)) = n) := Lib.hid (by rw [HC.out, if_neg (by omega), HCN.out, Int.add_zero])
        rw [htc] at HCO
        have hb1 : Below w.heap.size w (wr.alloc (.cells #[.int .i64 F.t, .int .i8 F.f, .int .i64 F.b] 66)) := bl_alloc hb
        have HB1 := Lib.hid hb1
        clear hb1 heq h9 htc
        go_wp2_with fail
        refine (HCO.out _).mono ?_
        rintro e w2 ⟨rfl, hb2⟩
        have hb02 := bl_trans HB1.out hb2
        have own2 := own_below HOWN.out (bl_trans (bl_alloc (o := .cells #[.int .i64 F.t, .int .i8 F.f, .int .i64 F.b] 66) (Below.refl wr.heap.size wr)) hb2) (Nat.le_refl _)
        go_wp2
        go_roundw
        case rel => exact ⟨k + 1, n, _, by omega, by omega, by go_num, own2, by rw [HC2.out], hb02⟩
        case measure => simp [intOf]; omega
    · have hkn : k = fs.length := by omega
      subst hkn
      have HCN2 : Hid ((n : Int) = cntF fs) := Lib.hid (by rw [HCN.out, List.take_length])
      go_wp2
      go_ret
      exact ⟨_, _, n, rfl, HCN2.out, hb⟩
theorem cost_any (g : Nat) (l : Bd) (n k : Nat) (w : World) (hst : StAt w g l) (hv : vBd l = true) (hlok : l.ok) (hi : n < l.ps.length) (hk : k < 4) :
    Calls Try.prog 49 #[.pointer (some ⟨g, 0, none⟩), .int .i64 n, .int .i64 k] w fun e w' => e = .returned (.int .i64 (cntF (runOf l.ps [pushOf l n k]))) ∧ Below w.heap.size w w' := by
  have HST := Lib.hid hst
  have hgl := hst.1
  have c5 : l.ps.length ≤ 200 := (vBd_bounds _ hv).2.2.2.2
  obtain ⟨o1, o2, o3, o4⟩ := pushOf_ok l hv hlok n hi k hk
  have HG := Lib.hid (good_bd l hv [pushOf l n k] o2)
  obtain ⟨bc, oc, cc, q1, q2, q3⟩ := stAt_can hst hi
  obtain ⟨hcv0, hcv1⟩ := canV_bd l.ps[n]
  have hch := canV_has l.ps[n] (k : Int) (by omega) (by omega)
  obtain ⟨cv, hcv⟩ : ∃ cv, cv = canV l.ps[n] := ⟨_, rfl⟩
  rw [← hcv] at hcv0 hcv1 hch q3
  have hcan : canH l.ps n ((0 : Int), (k : Int), (-1 : Int)) = decide (cv / 2 ^ (k : Int).toNat % 2 = 1) := by
    rw [hch, ← getD_pc l.ps n hi]; rfl
  have HHA := Lib.hid (fun w' => hasSide_any cv (k : Int) w' (by omega) (by omega) hcv0 hcv1)
  have hnI : (n : Int) < l.ps.length := by omega
  clear hcv hch hst
  rcases dec_cases (cv / 2 ^ (k : Int).toNat % 2 = 1) with ⟨g1, g1'⟩ | ⟨g1, g1'⟩
  · rw [g1] at HHA
    have hcs : flat Hi.cells ([pushOf l n k].map (hitOf l)) = [.int .i64 0, .int .i64 (n : Int), .int .i64 (k : Int), .int .i64 (-1)] := by
      rw [List.map_cons, List.map_nil, o4]; rfl
    have HRUN := Lib.hid (fun w1 a1 (B : Nat) (hst : StAt w1 g l) (hs : SlAt B w1 a1 (flat Hi.cells ([pushOf l n k].map (hitOf l)))) (hB : B ≤ w1.heap.size) => run_any (B := B) g l a1 1 [pushOf l n k] w1 hst hv hs o2 o3 (by simp) hB)
    rw [hcs] at HRUN
    clear o1 o2 o3 o4 hcs hv g1 g1' hcan
    go_enter Try.func49, Try.ntmps49
    go_wp2_with (first | (go_at_call 67; refine (HHA.out _).mono ?_; rintro e w' ⟨rfl, rfl⟩) | fail)
    refine (HRUN.out _ _ _ (HST.out.step (by repeat (first | with_reducible exact Below.refl _ _ | with_reducible assumption | with_reducible apply bl_drewN | with_reducible apply bl_drew | with_reducible apply bl_alloc | (with_reducible refine bl_set ?_ (by first | (simp; done) | (simp; omega)) _) | with_reducible refine bl_trans ?_ (by with_reducible assumption)))) (sl_newC _ #[.int .i64 0, .int .i64 (n : Int), .int .i64 (k : Int), .int .i64 (-1)] 89 _ rfl) (by simp)).mono ?_
    rintro e w3 ⟨v, fs, rfl, hown, hokf, hb3⟩
    have he := runOf_eq _ _ _ HG.out hokf
    have hb03 : Below w.heap.size w w3 := (by repeat (first | with_reducible exact Below.refl _ _ | with_reducible assumption | with_reducible apply bl_drewN | with_reducible apply bl_drew | with_reducible apply bl_alloc | (with_reducible refine bl_set ?_ (by first | (simp; done) | (simp; omega)) _) | with_reducible refine bl_trans ?_ (by with_reducible assumption)))
    obtain ⟨av, capv, hve, hsl, -, -⟩ := own_at hown
    subst hve
    have HIN := Lib.hid (indices_any av capv fs w3 hsl (Nat.le_refl _) (by have := hokf.1; omega) (fun j hj => by
      have := hokf.2.1 j (by have := hokf.1; omega)
      rw [getD_fa fs j hj] at this
      exact this))
    have HE := Lib.hid he
    have HB3 := Lib.hid hb03
    clear hb03 hb3 hokf hsl hown he
    go_wp2_with fail
    refine HIN.out.mono ?_
    rintro e w4 ⟨ai, ci, m, rfl, hm, hb4⟩
    have hb04 := bl_trans HB3.out hb4
    rw [HE.out] at hm
    have HM := Lib.hid hm
    clear hm
    go_wp2
    go_ret
    exact ⟨by rw [← HM.out]; rfl, hb04⟩
  · rw [g1] at HHA hcan
    have g := good_bd l hv [] rfl
    have hN := runOf_none l.ps (fun pl h => ⟨g.nd, g.ce, g.d1, g.d9, fun p hp => (h p hp).1, fun p hp => (h p hp).2⟩) (pushOf l n k) ⟨Int.le_refl _, by show (0 : Int) ≤ 1000; omega⟩ n hi rfl hcan
    rw [hN, cntF_rep]
    clear o1 o2 o3 o4 g1 g1' hcan hN g
    go_enter Try.func49, Try.ntmps49
    go_wp2_with (go_at_call 67; refine (HHA.out _).mono ?_; rintro e w' ⟨rfl, rfl⟩)
    go_ret
    exact ⟨rfl, (by repeat (first | with_reducible exact Below.refl _ _ | with_reducible assumption | with_reducible apply bl_drewN | with_reducible apply bl_drew | with_reducible apply bl_alloc | (with_reducible refine bl_set ?_ (by first | (simp; done) | (simp; omega)) _) | with_reducible refine bl_trans ?_ (by with_reducible assumption)))⟩
theorem countFrom_any (wd hg : Int) (s : Value) (ps : List Pc) (i sd : Int) (w : World) (hps : PV w s ps) (hok : (Bd.mk wd hg ps).ok) (hn : ps.length ≤ 9000000) :
    Calls Try.prog 21 #[bdv wd hg s, .int .i64 i, .int .i64 sd] w fun e w' => e = .returned (.tuple #[.int .i64 (cntV ⟨wd, hg, ps⟩ i sd), .int .i64 (poCode ⟨wd, hg, ps⟩ i sd)]) ∧ Below w.heap.size w w' := by
  have HB := Lib.hid (BP.new (l := ⟨wd, hg, ps⟩) (w := w) hps 35)
  have hba : Below w.heap.size w (w.alloc (.cells #[.int .i8 wd, .int .i8 hg, s] 35)) := bl_alloc (Below.refl _ _)
  have HBA := Lib.hid hba
  have hps1 := hps.step hba
  obtain ⟨a, cap, rfl, -⟩ := hps
  have HVB := Lib.hid (validBoard_any wd hg a cap ps (w.alloc (.cells #[.int .i8 wd, .int .i8 hg, .slice a ps.length cap] 35)) (by obtain ⟨a', cap', e, h⟩ := hps1; cases e; exact h) hok (by omega))
  clear hps1
  cases g1 : vBd ⟨wd, hg, ps⟩ with
  | false =>
    rw [g1] at HVB
    have HC : Hid (poCode ⟨wd, hg, ps⟩ i sd = 1) := Lib.hid (by unfold poCode; rw [g1]; rfl)
    have HL : Hid (cntV ⟨wd, hg, ps⟩ i sd = 0) := Lib.hid (by unfold cntV poList; rw [HC.out]; rfl)
    rw [HL.out, HC.out]
    clear g1 HL HC hba
    go_enter Try.func21, Try.ntmps21
    go_wp2_with fail
    refine HVB.out.mono ?_
    rintro e w1 ⟨rfl, hb1⟩
    go_wp2
    go_ret2
    exact ⟨rfl, bl_trans HBA.out hb1⟩
  | true =>
    rw [g1] at HVB
    have HC : Hid (poCode ⟨wd, hg, ps⟩ i sd = (if inB i 0 (ps.length - 1) = true then (if inB sd 0 3 = true then 0 else 2) else 2)) := Lib.hid (by unfold poCode; rw [g1]; rfl)
    have HIO := Lib.hid (fun w1 (hb : Below (w.alloc (.cells #[.int .i8 wd, .int .i8 hg, .slice a ps.length cap] 35)).heap.size (w.alloc (.cells #[.int .i8 wd, .int .i8 hg, .slice a ps.length cap] 35)) w1) => indexOk_any w.heap.size ⟨wd, hg, ps⟩ i w1 (HB.out.step hb) (show ps.length ≤ 10000000 by omega))
    have HV := Lib.hid g1
    clear g1 hba
    cases g2 : (inB i 0 ((ps.length : Int) - 1) && inB sd 0 3) with
    | false =>
      have HC2 : Hid (poCode ⟨wd, hg, ps⟩ i sd = 2) := Lib.hid (by
        rw [HC.out]
        rw [Bool.and_eq_false_iff] at g2
        rcases g2 with g | g <;> rw [g]
        · rfl
        · split <;> rfl)
      have HL : Hid (cntV ⟨wd, hg, ps⟩ i sd = 0) := Lib.hid (by unfold cntV poList; rw [HC2.out]; rfl)
      rw [HL.out, HC2.out]
      clear HL HC
      rcases Bool.eq_false_or_eq_true (inB i 0 ((ps.length : Int) - 1)) with g3 | g3
      · have g4 : inB sd 0 3 = false := by rw [g3, Bool.true_and] at g2; exact g2
        clear g2
        go_enter Try.func21, Try.ntmps21
        go_wp2_with fail
        refine HVB.out.mono ?_
        rintro e w1 ⟨rfl, hb1⟩
        go_wp2_with (first | (go_at_call 48; refine (HIO.out _ ?_).mono ?_; (first | exact hb1 | exact (by repeat (first | with_reducible exact Below.refl _ _ | with_reducible assumption | with_reducible apply bl_drewN | with_reducible apply bl_drew | with_reducible apply bl_alloc | (with_reducible refine bl_set ?_ (by first | (simp; done) | (simp; omega)) _) | with_reducible refine bl_trans ?_ (by with_reducible assumption)))); rintro e w' ⟨rfl, rfl⟩) | (go_at_call 37; refine (isSide_any _ _).mono ?_; rintro e w' ⟨rfl, rfl⟩))
        go_ret2
        exact ⟨rfl, bl_trans HBA.out hb1⟩
      · clear g2
        go_enter Try.func21, Try.ntmps21
        go_wp2_with fail
        refine HVB.out.mono ?_
        rintro e w1 ⟨rfl, hb1⟩
        go_wp2_with (first | (go_at_call 48; refine (HIO.out _ ?_).mono ?_; (first | exact hb1 | exact (by repeat (first | with_reducible exact Below.refl _ _ | with_reducible assumption | with_reducible apply bl_drewN | with_reducible apply bl_drew | with_reducible apply bl_alloc | (with_reducible refine bl_set ?_ (by first | (simp; done) | (simp; omega)) _) | with_reducible refine bl_trans ?_ (by with_reducible assumption)))); rintro e w' ⟨rfl, rfl⟩) | (go_at_call 37; refine (isSide_any _ _).mono ?_; rintro e w' ⟨rfl, rfl⟩))
        go_ret2
        exact ⟨rfl, bl_trans HBA.out hb1⟩
    | true =>
      rw [Bool.and_eq_true] at g2
      obtain ⟨g3, g4⟩ := g2
      have HC2 : Hid (poCode ⟨wd, hg, ps⟩ i sd = 0) := Lib.hid (by rw [HC.out, g3, g4]; rfl)
      obtain ⟨hv, n, k, hi, hnl, hsk, hk⟩ := poCode_0 _ _ _ HC2.out
      have HL : Hid (cntV ⟨wd, hg, ps⟩ i sd = cntF (runOf ps [pushOf ⟨wd, hg, ps⟩ n k])) := Lib.hid (by unfold cntV poList; rw [if_pos HC2.out, hi, hsk]; rfl)
      rw [HL.out, HC2.out]
      clear HL HC HC2
      subst hi hsk
      have HST := Lib.hid (fun w1 (hb : Below (w.alloc (.cells #[.int .i8 wd, .int .i8 hg, .slice a ps.length cap] 35)).heap.size (w.alloc (.cells #[.int .i8 wd, .int .i8 hg, .slice a ps.length cap] 35)) w1) => stageOf_any w.heap.size ⟨wd, hg, ps⟩ w1 (HB.out.step hb) hv)
      have HCO := Lib.hid (fun g w1 (hst : StAt w1 g ⟨wd, hg, ps⟩) => cost_any g ⟨wd, hg, ps⟩ n k w1 hst hv hok hnl hk)
      clear hv
      go_enter Try.func21, Try.ntmps21
      go_wp2_with fail
      refine HVB.out.mono ?_
      rintro e w1 ⟨rfl, hb1⟩
      have HB1 := Lib.hid hb1
      go_upto_region 5 with (first | (go_at_call 48; refine (HIO.out _ HB1.out).mono ?_; rintro e w' ⟨rfl, rfl⟩) | (go_at_call 37; refine (isSide_any _ _).mono ?_; rintro e w' ⟨rfl, rfl⟩))
      go_wp2_with fail
      refine (HST.out _ HB1.out).mono ?_
      rintro e w2 ⟨g, rfl, hgl, hst, hb2⟩
      have hb02 := bl_trans (bl_trans HBA.out hb1) hb2
      have HB02 := Lib.hid hb02
      have HCG := Lib.hid (HCO.out g w2 hst)
      clear hb1 hb2 hb02 hst
      go_wp2_with fail
      refine HCG.out.mono ?_
      rintro e w3 ⟨rfl, hb3⟩
      have hb03 := bl_trans HB02.out hb3
      go_wp2
      go_ret2
      exact ⟨rfl, hb03⟩
end Go.Proofs.Ytollihgjcmiolaa
/- The walk of the law FnExactCountFrom. -/
namespace Go.Proofs.Ytollihgjcmiolaa
open Go.RowKit
set_option linter.unusedVariables false
set_option linter.unusedSimpArgs false
set_option maxHeartbeats 400000
set_option maxRecDepth 100000
set_option maxRecDepth 100000 in
theorem lawCountFrom_any (wd hg : Int) (a : Option Addr) (cap : Nat) (ps : List Pc) (i sd : Int) (w : World) (hps : PcsAt w.heap.size w a ps) (hok : (Bd.mk wd hg ps).ok) (hl : ps.length ≤ 9223372036854775807) :
    Calls Try.prog 5 #[bdv wd hg (.slice a ps.length cap), .int .i64 i, .int .i64 sd] w fun e w' => e = .returned (.bool true) ∧ Below w.heap.size w w' := by
  by_cases hn : ps.length ≤ 1048576
  · have Hs := Lib.hid (show szv ps.length 1048576 = 1048576 - ps.length by unfold szv; rw [if_neg (by omega)])
    have P0 : PV w (.slice a ps.length cap) ps := ⟨a, cap, rfl, hps⟩
    have X0 := BX3.new w (.int .i8 wd) (.int .i8 hg) (.slice a ps.length cap) 25
    obtain ⟨fl, hfl⟩ : ∃ fl, fl = cntV ⟨wd, hg, ps⟩ i sd := ⟨_, rfl⟩
    obtain ⟨fc, hfc⟩ : ∃ fc, fc = poCode ⟨wd, hg, ps⟩ i sd := ⟨_, rfl⟩
    have CS := fun s w' (h : PV w' s ps) => specCountFrom_any wd hg s ps i sd w' h hok (by omega)
    have CI := fun s w' (h : PV w' s ps) => countFrom_any wd hg s ps i sd w' h hok (by omega)
    rw [← hfl, ← hfc] at CS CI
    have CS := Lib.hid CS
    have CI := Lib.hid CI
    clear hfl hfc
    go_enter Try.func5, Try.ntmps5
    go_wp2_with fail
    refine (szBoard_any wd hg a ps.length cap _ _ (by omega) (by omega) (by omega)).mono ?_
    rintro e u ⟨rfl, bu⟩
    rw [Hs.out]
    have A0 := (P0.step (bl_alloc (Below.refl _ _))).step bu
    have AX := X0.step bu
    have bu0 : Below w.heap.size w u := bl_trans (bl_alloc (Below.refl _ _)) bu
    go_wp2_with fail
    refine (toBoard_pv (b := ⟨wd, hg, ps⟩) ⟨_, rfl, A0⟩ (by simp; omega)).mono ?_
    rintro e w1 ⟨vt, rfl, Ot1, b1⟩
    have AP1 := A0.step b1
    have AX1 := AX.step b1
    have B1 := b1
    go_wp2_with fail
    refine (CS.out _ _ (own_pv Ot1)).mono ?_
    rintro e w2 ⟨rfl, b2⟩
    have AP2 := AP1.step b2
    have AX2 := AX1.step b2
    have Ot2 := own_below Ot1 b2 (Nat.le_refl _)
    have B2 := bl_trans B1 b2
    go_wp2_with fail
    refine (toBoard_pv (b := ⟨wd, hg, ps⟩) ⟨_, rfl, AP2⟩ (by simp; omega)).mono ?_
    rintro e w3 ⟨vx, rfl, Ox3, b3⟩
    have AP3 := AP2.step b3
    have AX3 := AX2.step b3
    have B3 := bl_trans B2 b3
    obtain ⟨ax, capx, rfl, -⟩ := own_at Ox3
    go_wp2_with fail
    refine (CI.out _ _ (own_pv (own_below Ox3 (bl_alloc (Below.refl _ _)) (Nat.le_refl _)))).mono ?_
    rintro e w4 ⟨rfl, c4⟩
    have b4 := bl_trans (bl_alloc (o := .cells #[.int .i8 wd, .int .i8 hg, .slice ax ps.length capx] 35) (Below.refl w3.heap.size w3)) c4
    have AY4 := (BX3.new w3 (.int .i8 wd) (.int .i8 hg) (.slice ax ps.length capx) 35).step c4
    have AP4 := AP3.step b4
    have AX4 := AX3.step b4
    have Ox4 := own_below Ox3 b4 (Nat.le_refl _)
    have B4 := bl_trans B3 b4
    go_upto_region 10 with fail
    have CK := Lib.hid (fun w' (h : Below w4.heap.size w4 w') => toBoard_pv (b := ⟨wd, hg, ps⟩) (w := w') ⟨_, rfl, AP4.step h⟩ (by simp; omega))
    have CL := Lib.hid (fun w' s' (h : Below w4.heap.size w4 w') (h' : PV w' s' ps) => eqBoard_yes (b := ⟨wd, hg, ps⟩) (w := w') ⟨_, rfl, (own_pv Ox4).step h⟩ ⟨s', rfl, h'⟩ (by simp; omega))
    go_region_held3 (fun w' => Below w4.heap.size w4 w' ∧ ∀ b o, b < w4.heap.size → w'.cell? ⟨b, o, none⟩ = w4.cell? ⟨b, o, none⟩) ((refine ext_s ?_; exact (by repeat (first | with_reducible exact Below.refl _ _ | with_reducible assumption | with_reducible apply bl_drewN | with_reducible apply bl_drew | with_reducible apply bl_alloc | (with_reducible refine bl_set ?_ (by first | (simp; done) | (simp; omega)) _) | with_reducible refine bl_trans ?_ (by with_reducible assumption))))) (first | (go_at_call 11; refine (CK.out _ ?_).mono ?_; (exact (by repeat (first | with_reducible exact Below.refl _ _ | with_reducible assumption | with_reducible apply bl_drewN | with_reducible apply bl_drew | with_reducible apply bl_alloc | (with_reducible refine bl_set ?_ (by first | (simp; done) | (simp; omega)) _) | with_reducible refine bl_trans ?_ (by with_reducible assumption)))); rintro e wa ⟨sa, rfl, Oa, ba⟩; obtain ⟨hca, hfa⟩ := bcell ba) | (go_at_call 15; refine (CL.out _ _ ?_ (own_pv Oa)).mono ?_; (exact (by repeat (first | with_reducible exact Below.refl _ _ | with_reducible assumption | with_reducible apply bl_drewN | with_reducible apply bl_drew | with_reducible apply bl_alloc | (with_reducible refine bl_set ?_ (by first | (simp; done) | (simp; omega)) _) | with_reducible refine bl_trans ?_ (by with_reducible assumption)))); rintro e w5 ⟨rfl, be⟩))
    have b5 : Below w4.heap.size w4 w5 := (by repeat (first | with_reducible exact Below.refl _ _ | with_reducible assumption | with_reducible apply bl_drewN | with_reducible apply bl_drew | with_reducible apply bl_alloc | (with_reducible refine bl_set ?_ (by first | (simp; done) | (simp; omega)) _) | with_reducible refine bl_trans ?_ (by with_reducible assumption)))
    have AP5 := AP4.step b5
    have AX5 := AX4.step b5
    have AY5 := AY4.step b5
    have Ox5 := own_below Ox4 b5 (Nat.le_refl _)
    have B5 := bl_trans B4 b5
    go_wp2
    go_ret
    exact ⟨rfl, bl_trans bu0 B5⟩
  · have Hs := Lib.hid (show szv ps.length 1048576 = -1 by unfold szv; rw [if_pos (by omega)])
    go_enter Try.func5, Try.ntmps5
    go_wp2_with fail
    refine (szBoard_any wd hg a ps.length cap _ _ (by omega) (by omega) (by omega)).mono ?_
    rintro e w1 ⟨rfl, b1⟩
    rw [Hs.out]
    go_wp2
    go_ret
    exact ⟨rfl, (by repeat (first | with_reducible exact Below.refl _ _ | with_reducible assumption | with_reducible apply bl_drewN | with_reducible apply bl_drew | with_reducible apply bl_alloc | (with_reducible refine bl_set ?_ (by first | (simp; done) | (simp; omega)) _) | with_reducible refine bl_trans ?_ (by with_reducible assumption)))⟩
end Go.Proofs.Ytollihgjcmiolaa
