import Derived.Test.YtollihgjcmiolaaK1
import Derived.StillTailTactics
import Derived.Deep.RegionHeld3
import Derived.Test.YtollihgjcmiolaaShf
import Derived.Deep.OwnRows
import Derived.Maps.OwnOps
import Derived.DeepKeys3
/- Contracts: FirstWrong's reference: which fall comes first, the fall that follows. -/
namespace Go.Proofs.Ytollihgjcmiolaa
open Go.RowKit
set_option linter.unusedVariables false
set_option linter.unusedSimpArgs false
set_option maxHeartbeats 400000
set_option maxRecDepth 100000
theorem vPus_spec (l : Bd) (hv : vBd l = true) (pl : List Pu) : ((pl.all plainIn && decide (pl.length ≤ 20)) && pl.all (fun p => decide (0 ≤ fnd ⟨p.x, p.y⟩ l.ps))) = vPus l pl := by
  unfold vPus
  have hin : ∀ p ∈ pl, decide (0 ≤ fnd ⟨p.x, p.y⟩ l.ps) = true → plainIn p = plainPu p := by
    intro p hp h
    have h0 : 0 ≤ fnd ⟨p.x, p.y⟩ l.ps := by simpa using h
    have h1 : cIn 24 24 ⟨p.x, p.y⟩ = true := by
      unfold fnd at h0
      cases hf : l.ps.findIdx? (fun q => decide (q.at_ = ⟨p.x, p.y⟩)) with
      | none => rw [hf] at h0; simp at h0
      | some k =>
        rw [List.findIdx?_eq_some_iff_getElem] at hf
        obtain ⟨g1, g2, -⟩ := hf
        have g3 : l.ps[k].at_ = ⟨p.x, p.y⟩ := by simpa using g2
        have g4 : cIn l.wd l.hg l.ps[k].at_ = true := by
          unfold vBd at hv
          simp only [Bool.and_eq_true] at hv
          have := hv.1.2
          rw [List.all_eq_true] at this
          have h5 := this _ (List.getElem_mem g1)
          simp only [Bool.and_eq_true] at h5
          exact h5.2
        obtain ⟨c1, c2, c3, c4, -⟩ := vBd_bounds l hv
        rw [g3] at g4
        unfold cIn inB at *
        simp only [Bool.and_eq_true, decide_eq_true_eq] at *
        omega
    unfold plainIn
    rw [h1, Bool.and_true]
  by_cases hall : pl.all (fun p => decide (0 ≤ fnd ⟨p.x, p.y⟩ l.ps)) = true
  · have e : pl.all plainIn = pl.all plainPu := by
      rw [Bool.eq_iff_iff, List.all_eq_true, List.all_eq_true]
      rw [List.all_eq_true] at hall
      constructor
      · intro h p hp; rw [← hin p hp (hall p hp)]; exact h p hp
      · intro h p hp; rw [hin p hp (hall p hp)]; exact h p hp
    rw [e, hall, Bool.and_true, Bool.and_true, Bool.and_comm]
  · have hf : pl.all (fun p => decide (0 ≤ fnd ⟨p.x, p.y⟩ l.ps)) = false := by simpa using hall
    rw [hf, Bool.and_false, Bool.and_false]
def askV (l : Bd) (pl : List Pu) : Int := if (vBd l && vPus l pl) = true then 0 else 1
theorem l02Asked_any {B : Nat} (b0 : Nat) (l : Bd) (a : Option Addr) (cap : Nat) (pl : List Pu) (w : World) (hbp : BP w b0 l) (hlok : l.ok) (hln : l.ps.length ≤ 10000000) (h : SlAt B w a (flat Pu.cells pl)) (hok : PusOk pl) (hB : B ≤ w.heap.size) (hn : pl.length ≤ 10000000) :
    Calls Try.prog 52 #[.pointer (some ⟨b0, 0, none⟩), .slice a pl.length cap] w fun e w' => e = .returned (.int .i64 (askV l pl)) ∧ Below w.heap.size w w' := by
  have HBP := Lib.hid hbp
  have HV := Lib.hid (l01Ok_any b0 l w hbp hlok hln)
  have HP := Lib.hid (fun (w' : World) (hb : Below w.heap.size w w') => l02Ok_any b0 l a cap pl w' (HBP.out.step hb) hlok hln (h.below hb hB) hok (Nat.le_trans hB hb.size) hn)
  clear hbp
  rcases Bool.eq_false_or_eq_true (vBd l) with g0 | g0
  · have HE := Lib.hid (vPus_spec l g0 pl)
    rcases Bool.eq_false_or_eq_true (vPus l pl) with g1 | g1
    · have HA := Lib.hid (show askV l pl = 0 by unfold askV; rw [g0, g1]; rfl)
      go_enter Try.func52, Try.ntmps52
      go_wp2_with fail
      refine HV.out.mono ?_
      rintro e w1 ⟨rfl, hb1⟩
      rw [g0]
      go_wp2_with fail
      refine (HP.out _ hb1).mono ?_
      rintro e w2 ⟨rfl, hb2⟩
      rw [HE.out, g1]
      go_wp2
      go_ret
      exact ⟨by rw [HA.out]; rfl, bl_trans hb1 hb2⟩
    · have HA := Lib.hid (show askV l pl = 1 by unfold askV; rw [g0, g1]; rfl)
      go_enter Try.func52, Try.ntmps52
      go_wp2_with fail
      refine HV.out.mono ?_
      rintro e w1 ⟨rfl, hb1⟩
      rw [g0]
      go_wp2_with fail
      refine (HP.out _ hb1).mono ?_
      rintro e w2 ⟨rfl, hb2⟩
      rw [HE.out, g1]
      go_wp2
      go_ret
      exact ⟨by rw [HA.out]; rfl, bl_trans hb1 hb2⟩
  · have HA := Lib.hid (show askV l pl = 1 by unfold askV; rw [g0]; rfl)
    go_enter Try.func52, Try.ntmps52
    go_wp2_with fail
    refine HV.out.mono ?_
    rintro e w1 ⟨rfl, hb1⟩
    rw [g0]
    go_wp2
    go_ret
    exact ⟨by rw [HA.out]; rfl, hb1⟩
def okFall (f : Fa) : Bool := inB f.t (-1) 1000000 && inB f.f 0 3
theorem vFas_eq (fs : List Fa) : vFas fs = fs.all okFall := rfl
def givenV (l : Bd) (pl : List Pu) (fs : List Fa) : Int := if (vBd l && vPus l pl) = true then (if vFas fs = true then 0 else 2) else 1
theorem l02Given_any {B : Nat} (b0 : Nat) (l : Bd) (a : Option Addr) (cap : Nat) (pl : List Pu) (a2 : Option Addr) (cap2 : Nat) (fs : List Fa) (w : World) (hbp : BP w b0 l) (hlok : l.ok) (hln : l.ps.length ≤ 10000000) (h : SlAt B w a (flat Pu.cells pl)) (hok : PusOk pl) (h2 : SlAt B w a2 (flat Fa.cells fs)) (hok2 : FasOk fs) (hB : B ≤ w.heap.size) (hn : pl.length ≤ 10000000) (hn2 : fs.length ≤ 10000000) :
    Calls Try.prog 28 #[.pointer (some ⟨b0, 0, none⟩), .slice a pl.length cap, .slice a2 fs.length cap2] w fun e w' => e = .returned (.int .i64 (givenV l pl fs)) ∧ Below w.heap.size w w' := by
  have HP := Lib.hid (l02Asked_any b0 l a cap pl w hbp hlok hln h hok hB hn)
  have HNO := Lib.hid (fun k hk h1 => all_not okFall fs k hk h1)
  have HYES := Lib.hid (fun k hk h0 h1 => all_take okFall fs k hk h0 h1)
  clear hbp
  rcases Bool.eq_false_or_eq_true (vBd l && vPus l pl) with g0 | g0
  · have HG := Lib.hid (show givenV l pl fs = if vFas fs = true then 0 else 2 by unfold givenV; rw [if_pos g0])
    go_enter Try.func28, Try.ntmps28
    go_wp2_with fail
    refine HP.out.mono ?_
    rintro e w1 ⟨rfl, hb1⟩
    rw [show askV l pl = 0 by unfold askV; rw [if_pos g0]]
    go_wp2
    go_loopw [8] (fun i wr => ∃ k : Nat, k ≤ fs.length ∧ i = .int .i64 k ∧ Hid ((fs.take k).all okFall = true) ∧ Below w.heap.size w wr) (fun i _ => fs.length - (intOf i).toNat)
    case atStart => exact ⟨0, by omega, rfl, Lib.hid (by simp), hb1⟩
    case round =>
      clear hb1
      obtain ⟨k, hk, rfl, hall, hb⟩ := hrel
      by_cases hlt : k < fs.length
      · obtain ⟨b, off, rfl, hbl, hat⟩ := fas_get (h2.below hb hB) hlt
        unfold FaAt at hat
        obtain ⟨-, ⟨f1, f2⟩, -⟩ := hok2 k hlt
        have s1 := wrap_i8 f1 f2
        have hoe : okFall fs[k] = (inB fs[k].t (-1) 1000000 && inB fs[k].f 0 3) := rfl
        have HOE := Lib.hid hoe
        clear hoe
        rcases Bool.eq_false_or_eq_true (inB fs[k].t (-1) 1000000) with g1 | g1
        · rcases Bool.eq_false_or_eq_true (inB fs[k].f 0 3) with g2 | g2
          · have HY := Lib.hid (HYES.out k hlt hall.out (by rw [HOE.out, g1, g2]; rfl))
            go_wp2_with fail
            refine (l00In_any _ _ _ _).mono ?_
            rintro e w' ⟨rfl, rfl⟩
            rw [g1]
            go_wp2_with fail
            refine (l01Side_any _ _).mono ?_
            rintro e w' ⟨rfl, rfl⟩
            rw [g2]
            go_wp2
            go_roundw
            case rel => exact ⟨k + 1, by omega, by go_num, HY, hb⟩
            case measure => simp [intOf]; omega
          · have HN := Lib.hid (HNO.out k hlt (by rw [HOE.out, g1, g2]; rfl))
            go_wp2_with fail
            refine (l00In_any _ _ _ _).mono ?_
            rintro e w' ⟨rfl, rfl⟩
            rw [g1]
            go_wp2_with fail
            refine (l01Side_any _ _).mono ?_
            rintro e w' ⟨rfl, rfl⟩
            rw [g2]
            go_wp2
            go_ret
            exact ⟨by rw [HG.out, vFas_eq, HN.out]; rfl, hb⟩
        · have HN := Lib.hid (HNO.out k hlt (by rw [HOE.out, g1]; rfl))
          go_wp2_with fail
          refine (l00In_any _ _ _ _).mono ?_
          rintro e w' ⟨rfl, rfl⟩
          rw [g1]
          go_wp2
          go_ret
          exact ⟨by rw [HG.out, vFas_eq, HN.out]; rfl, hb⟩
      · have hall2 := hall.out
        rw [List.take_of_length_le (by omega)] at hall2
        have HA := Lib.hid hall2
        clear hall2
        go_wp2
        go_ret
        exact ⟨by rw [HG.out, vFas_eq, HA.out]; rfl, hb⟩
  · have HG := Lib.hid (show givenV l pl fs = 1 by unfold givenV; rw [if_neg (by rw [g0]; decide)])
    go_enter Try.func28, Try.ntmps28
    go_wp2_with fail
    refine HP.out.mono ?_
    rintro e w1 ⟨rfl, hb1⟩
    rw [show askV l pl = 1 by unfold askV; rw [if_neg (by rw [g0]; decide)]]
    go_wp2
    go_ret
    exact ⟨by rw [HG.out]; rfl, hb1⟩
theorem l01Near_any (b0 : Nat) (l : Bd) (i : Nat) (s : Int) (w : World) (h : BP w b0 l) (hn : l.ps.length ≤ 10000000) (hi : i < l.ps.length) (h5 : 0 ≤ s) (h6 : s ≤ 3) :
    Calls Try.prog 90 #[.pointer (some ⟨b0, 0, none⟩), .int .i64 i, .int .i64 s] w fun e w' => e = .returned (.int .i64 (fnd (nxt l.ps[i].at_ s) l.ps)) ∧ Below w.heap.size w w' := by
  have HB := Lib.hid h
  obtain ⟨hbl, sv, hbd, a, cap, rfl, hps⟩ := h
  unfold BdAt at hbd
  obtain ⟨b, off, rfl, hb2, hat⟩ := pcs_get hps hi
  unfold PcAt at hat
  have HN := Lib.hid (l01Next_any l.ps[i].at_ s h5 h6 w)
  have hat2 : l.ps[i].at_ = ⟨l.ps[i].x, l.ps[i].y⟩ := rfl
  go_enter Try.func90, Try.ntmps90
  go_wp2_with fail
  refine HN.out.mono ?_
  rintro e w1 ⟨rfl, hb1⟩
  go_wp2_with fail
  refine (l01Find_any b0 l (nxt l.ps[i].at_ s) _ (HB.out.step hb1) hn).mono ?_
  rintro e w2 ⟨rfl, hb3⟩
  go_wp2
  go_ret
  exact ⟨rfl, bl_trans hb1 hb3⟩
/-- Whether a hit comes before a fall. -/
def betterV (x : Ht) (o : Option Ht) : Bool := match o with | none => true | some m => ltH x m
theorem l02Better_any (t s by_ : Int) (b off : Nat) (o : Option Ht) (w : World) (h : FaAt w b off (faOf o)) (ho : ∀ m, o = some m → 0 ≤ m.1 ∧ I8 m.2.1) :
    Calls Try.prog 89 #[.int .i64 t, .int .i64 s, .int .i64 by_, .pointer (some ⟨b, off, none⟩)] w fun e w' => e = .returned (.bool (betterV (t, s, by_) o)) ∧ w = w' := by
  unfold FaAt at h
  cases o with
  | none =>
    simp only [faOf] at h
    go_enter Try.func89, Try.ntmps89
    go_wp2
    go_ret
    exact ⟨rfl, rfl⟩
  | some m =>
    obtain ⟨m1, m2, m3⟩ := m
    obtain ⟨h1, ⟨h2, h3⟩⟩ := ho _ rfl
    simp only at h1 h2 h3
    have s1 := wrap_i8 h2 h3
    simp only [faOf] at h
    have HV := Lib.hid (show betterV (t, s, by_) (some (m1, m2, m3)) = ltH (t, s, by_) (m1, m2, m3) from rfl)
    have HL := Lib.hid (ltH_iff (t, s, by_) (m1, m2, m3))
    simp only at HL
    have a1 : decide (m1 < 0) = false := decide_eq_false (by omega)
    rcases Int.lt_trichotomy t m1 with g1 | g1 | g1
    · have HT := Lib.hid (HL.out.2 (.inl g1))
      have a2 : (t != m1) = true := by simp; omega
      have a3 : decide (t < m1) = true := decide_eq_true g1
      clear g1
      go_enter Try.func89, Try.ntmps89
      go_wp2
      go_ret
      exact ⟨by rw [HV.out, HT.out]; rfl, rfl⟩
    · have G1 := Lib.hid g1
      have a2 : (t != m1) = false := by simp [g1]
      clear g1
      rcases Int.lt_trichotomy s m2 with g2 | g2 | g2
      · have HT := Lib.hid (HL.out.2 (.inr ⟨G1.out, .inl g2⟩))
        have a4 : (s != m2) = true := by simp; omega
        have a5 : decide (s < m2) = true := decide_eq_true g2
        clear g2
        go_enter Try.func89, Try.ntmps89
        go_wp2
        go_ret
        exact ⟨by rw [HV.out, HT.out]; rfl, rfl⟩
      · have HT := Lib.hid (show ltH (t, s, by_) (m1, m2, m3) = decide (by_ < m3) by
          rw [Bool.eq_iff_iff, decide_eq_true_eq]
          have := G1.out
          constructor
          · intro h; have := HL.out.1 h; omega
          · intro h; exact HL.out.2 (.inr ⟨G1.out, .inr ⟨g2, h⟩⟩))
        have a4 : (s != m2) = false := by simp [g2]
        clear g2
        go_enter Try.func89, Try.ntmps89
        go_wp2
        go_ret
        exact ⟨by rw [HV.out, HT.out]; rfl, rfl⟩
      · have HT := Lib.hid (show ltH (t, s, by_) (m1, m2, m3) = false by rw [Bool.eq_false_iff]; intro h; have := HL.out.1 h; have := G1.out; omega)
        have a4 : (s != m2) = true := by simp; omega
        have a5 : decide (s < m2) = false := decide_eq_false (by omega)
        clear g2
        go_enter Try.func89, Try.ntmps89
        go_wp2
        go_ret
        exact ⟨by rw [HV.out, HT.out]; rfl, rfl⟩
    · have HT := Lib.hid (show ltH (t, s, by_) (m1, m2, m3) = false by rw [Bool.eq_false_iff]; intro h; have := HL.out.1 h; omega)
      have a2 : (t != m1) = true := by simp; omega
      have a3 : decide (t < m1) = false := decide_eq_false (by omega)
      clear g1
      go_enter Try.func89, Try.ntmps89
      go_wp2
      go_ret
      exact ⟨by rw [HV.out, HT.out]; rfl, rfl⟩
end Go.Proofs.Ytollihgjcmiolaa
/- Contracts: the reference's fall that follows. -/
namespace Go.Proofs.Ytollihgjcmiolaa
open Go.RowKit
set_option linter.unusedVariables false
set_option linter.unusedSimpArgs false
set_option maxHeartbeats 400000
set_option maxRecDepth 100000
theorem stepH_yes (o : Option Ht) (x : Ht) (h : betterV x o = true) : stepH o x = some x := by
  unfold betterV at h
  unfold stepH
  cases o with
  | none => rfl
  | some m => simp only at h ⊢; rw [if_pos h]
theorem stepH_no (o : Option Ht) (x : Ht) (h : betterV x o = false) : stepH o x = o := by
  unfold betterV at h
  unfold stepH
  cases o with
  | none => cases h
  | some m => simp only at h ⊢; rw [if_neg (by rw [h]; decide)]
/-- What pushes and neighbours so far give. -/
def dueL (ps : List Pc) (pl : List Pu) (fs : List Fa) (i m : Nat) : List Ht := (candP ps pl i ++ candN ps fs i m).filter (canH ps i)
theorem dueL_push (ps : List Pc) (pl : List Pu) (fs : List Fa) (i : Nat) (p : Pu) : dueL ps (pl ++ [p]) fs i 0 = dueL ps pl fs i 0 ++ (if (⟨p.x, p.y⟩ : Ce) = (ps.getD i default).at_ then (if 0 ≤ hitsV (ps.getD i default).k (ps.getD i default).t p.s then [(p.t, p.s, -1)] else []) else []) := by
  unfold dueL
  rw [candP_snoc]
  have e0 : candN ps fs i 0 = [] := rfl
  rw [e0, List.append_nil, List.append_nil, List.filter_append]
  congr 1
  by_cases h : (⟨p.x, p.y⟩ : Ce) = (ps.getD i default).at_
  · rw [if_pos h, if_pos h]
    unfold canH
    by_cases h2 : 0 ≤ hitsV (ps.getD i default).k (ps.getD i default).t p.s
    · rw [if_pos h2, List.filter_cons, if_pos (decide_eq_true h2)]; rfl
    · rw [if_neg h2, List.filter_cons, if_neg (by rw [decide_eq_false h2]; decide)]; rfl
  · rw [if_neg h, if_neg h]; rfl
theorem dueL_side (ps : List Pc) (pl : List Pu) (fs : List Fa) (i m : Nat) : dueL ps pl fs i (m + 1) = dueL ps pl fs i m ++ ((candN1 ps fs i (m : Int)).toList.filter (canH ps i)) := by
  unfold dueL
  rw [candN_succ, ← List.append_assoc, List.filter_append]
theorem due_end (ps : List Pc) (pl : List Pu) (fs : List Fa) (i : Nat) : due ps pl fs i = faOf (bestH (dueL ps pl fs i 4)) := rfl
theorem vBd_piece2 (l : Bd) (h : vBd l = true) (k : Nat) (hk : k < l.ps.length) : 0 ≤ l.ps[k].k ∧ l.ps[k].k ≤ 5 ∧ 0 ≤ l.ps[k].t ∧ l.ps[k].t ≤ 3 ∧ 1 ≤ l.ps[k].d ∧ l.ps[k].d ≤ 9 := by
  unfold vBd at h
  simp only [Bool.and_eq_true] at h
  have := h.1.2
  rw [List.all_eq_true] at this
  have h5 := this _ (List.getElem_mem hk)
  simp only [Bool.and_eq_true] at h5
  have h6 := h5.1
  unfold vPc inB at h6
  simp only [Bool.and_eq_true, decide_eq_true_eq] at h6
  omega
theorem fnd_lt (c : Ce) (ps : List Pc) (h : 0 ≤ fnd c ps) : (fnd c ps).toNat < ps.length := by
  unfold fnd at *
  cases hf : ps.findIdx? (fun p => decide (p.at_ = c)) with
  | none => rw [hf] at h; simp at h
  | some k =>
    rw [List.findIdx?_eq_some_iff_getElem] at hf
    obtain ⟨g1, -, -⟩ := hf
    simpa using g1
theorem getD_pc (ps : List Pc) (k : Nat) (h : k < ps.length) : ps.getD k default = ps[k] := by rw [List.getD_eq_getElem?_getD, List.getElem?_eq_getElem h]; rfl
theorem getD_fa (ps : List Fa) (k : Nat) (h : k < ps.length) : ps.getD k default = ps[k] := by rw [List.getD_eq_getElem?_getD, List.getElem?_eq_getElem h]; rfl
/-- What one side gives, when the neighbour is the piece k. -/
theorem candN1_at (ps : List Pc) (fs : List Fa) (i : Nat) (s : Int) (k : Nat) (hi : i < ps.length) (hk : k < ps.length) (hf : k < fs.length) (he : fnd (nxt ps[i].at_ s) ps = k) : candN1 ps fs i s = if fs[k].t ≠ -1 ∧ max (hitsV ps[k].k ps[k].t fs[k].f) 0 / 2 ^ ((s + 2) % 4).toNat % 2 = 1 then some (fs[k].t + ps[k].d, s, (k : Int)) else none := by
  unfold candN1
  simp only
  rw [getD_pc ps i hi, he, Int.toNat_natCast, getD_pc ps k hk, getD_fa fs k hf]
  by_cases h : fs[k].t ≠ -1 ∧ max (hitsV ps[k].k ps[k].t fs[k].f) 0 / 2 ^ ((s + 2) % 4).toNat % 2 = 1
  · rw [if_pos h, if_pos ⟨by omega, by omega, h.1, h.2⟩]
  · rw [if_neg h, if_neg (fun hh => h ⟨hh.2.2.1, hh.2.2.2⟩)]
theorem candN1_no (ps : List Pc) (fs : List Fa) (i : Nat) (s : Int) (hi : i < ps.length) (he : fnd (nxt ps[i].at_ s) ps < 0) : candN1 ps fs i s = none := by
  unfold candN1
  simp only
  rw [getD_pc ps i hi, if_neg (fun hh => by omega)]
theorem l02None_any (w : World) : Calls Try.prog 55 #[] w fun e w' => e = .returned (.agg #[.int .i64 (-1), .int .i8 0, .int .i64 (-1)]) ∧ Below w.heap.size w w' := by
  go_enter Try.func55, Try.ntmps55
  go_wp2
  first
    | (go_ret; exact ⟨rfl, (by repeat (first | with_reducible exact Below.refl _ _ | with_reducible assumption | with_reducible apply bl_drewN | with_reducible apply bl_drew | with_reducible apply bl_alloc | (with_reducible refine bl_set ?_ (by first | (simp; done) | (simp; omega)) _) | with_reducible refine bl_trans ?_ (by with_reducible assumption)))⟩)
    | (exact bodyPost_ret (v := .agg #[.int .i64 (-1), .int .i8 0, .int .i64 (-1)]) (by simp [results, Try.results55, go_sem]) rfl ⟨rfl, (by repeat (first | with_reducible exact Below.refl _ _ | with_reducible assumption | with_reducible apply bl_drewN | with_reducible apply bl_drew | with_reducible apply bl_alloc | (with_reducible refine bl_set ?_ (by first | (simp; done) | (simp; omega)) _) | with_reducible refine bl_trans ?_ (by with_reducible assumption)))⟩)
theorem own_faAt {w : World} {base e g : Nat} {f : Fa} (h : w.ownsRow base e 3 (.slice (some ⟨g, 0, none⟩) 1 1) 1 (Fa.cells f)) : FaAt w g 0 f :=
  ⟨by rw [h.cellAt _ (by omega)]; rfl, by rw [h.cellAt _ (by omega)]; rfl, by rw [h.cellAt _ (by omega)]; rfl⟩
theorem own_one2 {w : World} {base : Nat} {e : TypeId} {size g : Nat} {xs : List Value} (h : w.ownsRow base e size (.slice (some ⟨g, 0, none⟩) 1 1) 1 xs) : ∃ cur, w.heap[g]? = some (.cells cur e (0, 0)) ∧ cur = xs.toArray := by
  rcases h.2 with ⟨h', _⟩ | ⟨g', cap', cur, h', _, hg, _, _, hs, ht⟩
  · simp at h'
  · simp only [Value.slice.injEq, Option.some.injEq, Addr.mk.injEq, and_true, true_and] at h'
    obtain ⟨rfl, rfl⟩ := h'
    refine ⟨cur, hg, ?_⟩
    rw [List.take_of_length_le (by simp [hs])] at ht
    rw [← ht]
set_option maxHeartbeats 3200000 in
theorem l02Due_any {B : Nat} (b0 : Nat) (l : Bd) (a : Option Addr) (cap : Nat) (pl : List Pu) (a2 : Option Addr) (cap2 : Nat) (fs : List Fa) (i : Nat) (w : World) (hbp : BP w b0 l) (hv : vBd l = true) (h : SlAt B w a (flat Pu.cells pl)) (hok : PusOk pl) (hpl : pl.all plainPu = true) (hn : pl.length ≤ 20) (h2 : SlAt B w a2 (flat Fa.cells fs)) (hfs : fs.all okFall = true) (hn2 : fs.length ≤ 10000000) (hfl : l.ps.length ≤ fs.length) (hB : B ≤ w.heap.size) (hi : i < l.ps.length) :
    Calls Try.prog 56 #[.pointer (some ⟨b0, 0, none⟩), .slice a pl.length cap, .slice a2 fs.length cap2, .int .i64 i] w fun e w' => e = .returned (due l.ps pl fs i).val ∧ Below w.heap.size w w' := by
  have HBP := Lib.hid hbp
  obtain ⟨hbl, sv, hbd, sa, scap, rfl, hps⟩ := hbp
  unfold BdAt at hbd
  obtain ⟨c1, c2, c3, c4, c5⟩ := vBd_bounds l hv
  obtain ⟨bp, offp, rfl, hb2, hatp⟩ := pcs_get hps hi
  have hvi := vBd_piece2 l hv i hi
  obtain ⟨k1, k2, k3, k4, k5, k6⟩ := hvi
  have hgi : l.ps.getD i default = l.ps[i] := by rw [List.getD_eq_getElem?_getD, List.getElem?_eq_getElem hi]; rfl
  have HPUSH := Lib.hid (fun p pl' => dueL_push l.ps pl' fs i p)
  rw [hgi] at HPUSH
  have hgi := Lib.hid hgi
  have HDUE := Lib.hid (due_end l.ps pl fs i)
  have HATP := Lib.hid hatp
  have hatp2 := hatp
  unfold PcAt at hatp2
  have HPL := Lib.hid hpl
  clear hpl
  go_enter Try.func56, Try.ntmps56
  go_wp2_with fail
  refine (l02None_any _).mono ?_
  rintro e w1 ⟨rfl, hb1⟩
  have hz1 := hb1.size
  simp only [World.size_alloc] at hz1
  obtain ⟨g, hg⟩ : ∃ g, g = w1.heap.size := ⟨_, rfl⟩
  have hgl : w.heap.size + 1 ≤ g := by omega
  have o8 := own_newAt w #[.int .i64 0, .int .i8 0, .int .i64 0] 66 3 w.heap.size w.heap.size rfl (Nat.le_refl _) rfl _ rfl
  have o8b := own_below (own_below o8 hb1 (Nat.le_refl _)) (bl_alloc (o := .cells #[.int .i64 (-1), .int .i8 0, .int .i64 (-1)] 66) (Below.refl _ _)) (Nat.le_refl _)
  have o10 := own_newAt w1 #[.int .i64 (-1), .int .i8 0, .int .i64 (-1)] 66 3 (w.heap.size + 1) w1.heap.size rfl (by omega) rfl _ rfl
  have hbw : Below w.heap.size w (w1.alloc (.cells #[.int .i64 (-1), .int .i8 0, .int .i64 (-1)] 66)) := bl_alloc (bl_trans (bl_alloc (Below.refl _ _)) hb1)
  have O8 := Lib.hid o8b
  have O10 := Lib.hid o10
  have HBW := Lib.hid hbw
  clear o8 o8b o10 hbw hb1
  rw [← hg] at O10
  go_wp2
  rw [← hg]
  clear hg
  go_loopw [11, 12] (fun k _ wr => ∃ j : Nat, ∃ o : Option Ht, j ≤ pl.length ∧ k = .int .i64 j ∧ Hid (bestH (dueL l.ps (pl.take j) fs i 0) = o) ∧ (∀ m, o = some m → 0 ≤ m.1 ∧ I8 m.2.1) ∧ wr.ownsRow w.heap.size 66 3 (.slice (some ⟨w.heap.size, 0, none⟩) 1 1) 1 (Fa.cells ⟨0, 0, 0⟩) ∧ wr.ownsRow (w.heap.size + 1) 66 3 (.slice (some ⟨g, 0, none⟩) 1 1) 1 (Fa.cells (faOf o)) ∧ Below w.heap.size w wr) (fun k _ _ => pl.length - (intOf k).toNat)
  case atStart => exact ⟨0, none, by omega, rfl, Lib.hid (by simp [dueL, candP, candN, bestH]), (fun m h => by cases h), O8.out, O10.out, HBW.out⟩
  case round =>
    clear O8 O10 HBW
    obtain ⟨j, o, hj, rfl, hbest, hom, h8, h10, hb⟩ := hrel
    have hzb := hb.size
    obtain ⟨hc, hf⟩ := bcell hb
    have hgw := (h10.lt _ rfl).2
    by_cases hlt : j < pl.length
    · obtain ⟨b, off, rfl, hbl2, hat⟩ := pus_get (h.below hb hB) hlt
      have hplj : plainPu pl[j] = true := by
        have := HPL.out
        rw [List.all_eq_true] at this
        exact this _ (List.getElem_mem hlt)
      unfold plainPu inB at hplj
      simp only [Bool.and_eq_true, decide_eq_true_eq] at hplj
      obtain ⟨⟨e1, e2⟩, e3, e4⟩ := hplj
      have s1 : IntKind.i64.wrap pl[j].s = pl[j].s := by rw [IntKind.wrap_i64]; omega
      have s2 : IntKind.i64.wrap pl[j].t = pl[j].t := by rw [IntKind.wrap_i64]; omega
      unfold PuAt at hat
      have htk : pl.take (j + 1) = pl.take j ++ [pl[j]] := List.take_succ_eq_append_getElem hlt
      have HP := Lib.hid (HPUSH.out pl[j] (pl.take j))
      rw [← htk] at HP
      have he0 := run_eql_ce pl[j].x pl[j].y l.ps[i].x l.ps[i].y
      have hate : l.ps[i].at_ = ⟨l.ps[i].x, l.ps[i].y⟩ := rfl
      rw [hate] at HP
      have hbw3 : b < wr.heap.size := by omega
      have hbpw : bp < wr.heap.size := by omega
      rcases dec_cases ((⟨pl[j].x, pl[j].y⟩ : Ce) = ⟨l.ps[i].x, l.ps[i].y⟩) with ⟨g1, g1'⟩ | ⟨g1, g1'⟩
      · rw [g1] at he0
        rw [if_pos g1'] at HP
        clear g1'
        have hHH : ∀ u : Ext wr, Calls Try.prog 88 #[.pointer (some ⟨bp, offp + i * 5, none⟩), .int .i64 pl[j].s] u.w fun e w' => e = .returned (.int .i64 (hitsV l.ps[i].k l.ps[i].t pl[j].s)) ∧ Below u.w.heap.size u.w w' := fun u =>
          l01Hits_any l.ps[i].x l.ps[i].y l.ps[i].k l.ps[i].t l.ps[i].d pl[j].s u.w bp (offp + i * 5) (HATP.out.step (bl_trans hb u.b) (by omega)) (by have := u.b.size; omega) k1 k2 k3 k4 e1 e2
        have hHB : ∀ u : Ext wr, Calls Try.prog 89 #[.int .i64 pl[j].t, .int .i64 pl[j].s, .int .i64 (-1), .pointer (some ⟨g, 0, none⟩)] u.w fun e w' => e = .returned (.bool (betterV (pl[j].t, pl[j].s, -1) o)) ∧ u.w = w' := fun u =>
          l02Better_any pl[j].t pl[j].s (-1) g 0 o u.w (own_faAt (own_below h10 u.b (Nat.le_refl _))) hom
        have hnew : 0 ≤ pl[j].t ∧ I8 pl[j].s := ⟨e3, by constructor <;> omega⟩
        generalize hitsV l.ps[i].k l.ps[i].t pl[j].s = hv at hHH HP
        have HH := Lib.hid hHH
        clear hHH
        rcases dec_cases (0 ≤ hv) with ⟨g2, g2'⟩ | ⟨g2, g2'⟩
        · rw [if_pos g2'] at HP
          clear g2'
          rcases Bool.eq_false_or_eq_true (betterV (pl[j].t, pl[j].s, -1) o) with g3 | g3
          · rw [g3] at hHB
            have HBt := Lib.hid hHB
            have HN := Lib.hid (show bestH (dueL l.ps (pl.take (j + 1)) fs i 0) = some (pl[j].t, pl[j].s, -1) by rw [HP.out, bestH_snoc, hbest.out]; exact stepH_yes o _ g3)
            clear hHB g3
            go_wp2
            (refine wp_region_ext (by kernel_rfl) (by kernel_rfl) ?_; have hX := @ext_cell; (repeat (go_big_quiet_step (first | (go_at_call 88; exact ext_call (HH.out _)) | (go_at_call 89; exact ext_same (HBt.out _))))); refine wpQuiet_nil ?_; clear hX; intro wx hw'; obtain ⟨⟨wx, hbx⟩, rfl⟩ := hw'; obtain ⟨hcx, hfx⟩ := bcell hbx)
            have r0 : wx.cell? ⟨b, off + j * 4 + 2, none⟩ = some (.int .i8 pl[j].s) := by rw [hbx.cell (p := ⟨_, _, none⟩) hbw3]; exact hat.2.2.1
            have r1 : wx.cell? ⟨b, off + j * 4 + 3, none⟩ = some (.int .i16 pl[j].t) := by rw [hbx.cell (p := ⟨_, _, none⟩) hbw3]; exact hat.2.2.2
            have h10d := (own_below h10 hbx (Nat.le_refl _)).drew
            have h8d := (own_below h8 hbx (Nat.le_refl _)).drew
            have hbd : Below w.heap.size w wx.drew := bl_drew (bl_trans hb hbx)
            have H10 := Lib.hid h10d
            have H8 := Lib.hid h8d
            have HBD := Lib.hid hbd
            clear h10 h8 h10d h8d hbd
            go_upto_region 8 with fail
            go_still_tail 12, (by kernel_rfl)
            change wpList _ _ _ _ _ wx.drew
            obtain ⟨wy, hwy⟩ : ∃ wy, wy = wx.drew := ⟨_, rfl⟩
            rw [← hwy] at H10 H8 HBD ⊢
            clear hwy
            obtain ⟨⟨v0, c0⟩, f0⟩ := own_cell H10.out (j := 0) (by omega)
            obtain ⟨⟨v1, c1⟩, f1⟩ := own_cell H10.out (j := 1) (by omega)
            obtain ⟨⟨v2, c2⟩, f2⟩ := own_cell H10.out (j := 2) (by omega)
            go_wp2
            have hs := own_setCells [.int .i64 pl[j].t, .int .i8 pl[j].s, .int .i64 (-1)] (A := []) (R := Fa.cells (faOf o)) (j := 0) H10.out rfl (Nat.le_refl _)
            have h8s := own_kept H8.out (grown_setCells g [.int .i64 pl[j].t, .int .i8 pl[j].s, .int .i64 (-1)] wy 0) (by intro k hk e; have h9 : some w.heap.size = some k := hk; rw [← h9] at e; simp at e; omega)
            have hbs : Below w.heap.size w (setCells wy g 0 [.int .i64 pl[j].t, .int .i8 pl[j].s, .int .i64 (-1)]) := bl_grown HBD.out (grown_setCells _ _ _ _) (fun k hk => by cases hk; omega)
            clear c0 c1 c2 f0 f1 f2 r0 r1
            go_roundw
            case rel => exact ⟨j + 1, some (pl[j].t, pl[j].s, -1), by omega, by go_num, HN, (fun m hm => by cases hm; exact hnew), h8s, hs, hbs⟩
            case measure => simp [intOf]; omega
          · rw [g3] at hHB
            have HBt := Lib.hid hHB
            have HN := Lib.hid (show bestH (dueL l.ps (pl.take (j + 1)) fs i 0) = o by rw [HP.out, bestH_snoc, hbest.out]; exact stepH_no o _ g3)
            clear hHB g3
            go_wp2
            (refine wp_region_ext (by kernel_rfl) (by kernel_rfl) ?_; have hX := @ext_cell; (repeat (go_big_quiet_step (first | (go_at_call 88; exact ext_call (HH.out _)) | (go_at_call 89; exact ext_same (HBt.out _))))); refine wpQuiet_nil ?_; clear hX; intro wx hw'; obtain ⟨⟨wx, hbx⟩, rfl⟩ := hw'; obtain ⟨hcx, hfx⟩ := bcell hbx)
            go_wp2
            go_roundw
            case rel => exact ⟨j + 1, o, by omega, by go_num, HN, hom, own_below h8 hbx (Nat.le_refl _), own_below h10 hbx (Nat.le_refl _), bl_trans hb hbx⟩
            case measure => simp [intOf]; omega
        · rw [if_neg g2', List.append_nil] at HP
          have HN := Lib.hid (show bestH (dueL l.ps (pl.take (j + 1)) fs i 0) = o by rw [HP.out]; exact hbest.out)
          clear g2' hHB
          go_wp2
          (refine wp_region_ext (by kernel_rfl) (by kernel_rfl) ?_; have hX := @ext_cell; (repeat (go_big_quiet_step ((go_at_call 88; exact ext_call (HH.out _))))); refine wpQuiet_nil ?_; clear hX; intro wx hw'; obtain ⟨⟨wx, hbx⟩, rfl⟩ := hw'; obtain ⟨hcx, hfx⟩ := bcell hbx)
          go_wp2
          go_roundw
          case rel => exact ⟨j + 1, o, by omega, by go_num, HN, hom, own_below h8 hbx (Nat.le_refl _), own_below h10 hbx (Nat.le_refl _), bl_trans hb hbx⟩
          case measure => simp [intOf]; omega
      · rw [g1] at he0
        rw [if_neg g1', List.append_nil] at HP
        have HN := Lib.hid (show bestH (dueL l.ps (pl.take (j + 1)) fs i 0) = o by rw [HP.out]; exact hbest.out)
        clear g1'
        go_wp2
        (refine wp_region_ext (by kernel_rfl) (by kernel_rfl) ?_; have hX := @ext_cell; (repeat (go_big_quiet_step (fail))); refine wpQuiet_nil ?_; clear hX; intro wx hw'; obtain ⟨⟨wx, hbx⟩, rfl⟩ := hw'; obtain ⟨hcx, hfx⟩ := bcell hbx)
        go_wp2
        go_roundw
        case rel => exact ⟨j + 1, o, by omega, by go_num, HN, hom, own_below h8 hbx (Nat.le_refl _), own_below h10 hbx (Nat.le_refl _), bl_trans hb hbx⟩
        case measure => simp [intOf]; omega
    · have hjl : j = pl.length := by omega
      subst hjl
      have HBEST := Lib.hid (show bestH (dueL l.ps pl fs i 0) = o by have := hbest.out; rwa [List.take_length] at this)
      have H8 := Lib.hid h8
      have H10 := Lib.hid h10
      clear hbest h8 h10 hc hf hgw
      go_wp2
      go_loopw [13] (fun s wr => ∃ m : Nat, ∃ o : Option Ht, m ≤ 4 ∧ s = .int .i64 m ∧ Hid (bestH (dueL l.ps pl fs i m) = o) ∧ (∀ m, o = some m → 0 ≤ m.1 ∧ I8 m.2.1) ∧ wr.ownsRow w.heap.size 66 3 (.slice (some ⟨w.heap.size, 0, none⟩) 1 1) 1 (Fa.cells ⟨0, 0, 0⟩) ∧ wr.ownsRow (w.heap.size + 1) 66 3 (.slice (some ⟨g, 0, none⟩) 1 1) 1 (Fa.cells (faOf o)) ∧ Below w.heap.size w wr) (fun s _ => 4 - (intOf s).toNat)
      case atStart => exact ⟨0, o, by omega, rfl, HBEST, hom, H8.out, H10.out, hb⟩
      case round =>
        clear HBEST H8 H10 hom hb hzb
        obtain ⟨m, o, hm, rfl, hbest, hom, h8, h10, hb⟩ := hrel
        have hzb := hb.size
        by_cases hlm : m < 4
        · have HS := Lib.hid (dueL_side l.ps pl fs i m)
          have HNR := Lib.hid (fun w' (hb' : Below w.heap.size w w') => l01Near_any b0 l i m w' (HBP.out.step hb') (by omega) hi (by omega) (by omega))
          have hcan : canH l.ps i = fun x => decide (0 ≤ hitsV l.ps[i].k l.ps[i].t x.2.1) := by funext x; unfold canH; rw [hgi.out]
          have HCAN := Lib.hid hcan
          have HNO := Lib.hid (fun he => candN1_no l.ps fs i m hi he)
          have HAT := Lib.hid (fun k hk hf he => candN1_at l.ps fs i m k hi hk hf he)
          have HLT := Lib.hid (fnd_lt (nxt l.ps[i].at_ m) l.ps)
          clear hcan
          go_wp2_with fail
          refine (HNR.out _ hb).mono ?_
          rintro e w2 ⟨rfl, hb2⟩
          have hb12 := bl_trans hb hb2
          have h8b := own_below h8 hb2 (Nat.le_refl _)
          have h10b := own_below h10 hb2 (Nat.le_refl _)
          have H8 := Lib.hid h8b
          have H10 := Lib.hid h10b
          have HB12 := Lib.hid hb12
          have hz12 := hb12.size
          obtain ⟨hc2, hf2⟩ := bcell hb12
          clear h8 h10 h8b h10b hb2 hb
          generalize hkk : fnd (nxt l.ps[i].at_ m) l.ps = kk at HNO HAT HLT
          clear hkk
          by_cases hk0 : kk < 0
          · have HN := Lib.hid (show bestH (dueL l.ps pl fs i (m + 1)) = o by rw [HS.out, HNO.out hk0]; simpa using hbest.out)
            go_wp2
            go_roundw
            case rel => exact ⟨m + 1, o, by omega, by go_num, HN, hom, H8.out, H10.out, HB12.out⟩
            case measure => simp [intOf]; omega
          · obtain ⟨kn, hkn⟩ : ∃ kn : Nat, kk = (kn : Int) := ⟨kk.toNat, by omega⟩
            subst hkn
            have hknl : kn < l.ps.length := by have := HLT.out (by omega); simpa using this
            have hknf : kn < fs.length := by omega
            have hAT := HAT.out kn hknl hknf rfl
            obtain ⟨bf, offf, rfl, hbf, hatf⟩ := fas_get h2 hknf
            have hokf : okFall fs[kn] = true := by rw [List.all_eq_true] at hfs; exact hfs _ (List.getElem_mem hknf)
            unfold okFall inB at hokf
            simp only [Bool.and_eq_true, decide_eq_true_eq] at hokf
            obtain ⟨⟨f1, f2⟩, f3, f4⟩ := hokf
            obtain ⟨bq, offq, hbq, hbq2, hatq⟩ := pcs_get hps hknl
            cases hbq
            obtain ⟨n1, n2, n3, n4, n5, n6⟩ := vBd_piece2 l hv kn hknl
            have hbfw : bf < w.heap.size := by omega
            have hbfw2 : bf < w2.heap.size := by omega
            have hatfu := hatf
            unfold FaAt at hatfu
            have rel0 := Lib.hid (fun (hN : bestH (dueL l.ps pl fs i (m + 1)) = o) => hN)
            by_cases hft : fs[kn].t < 0
            · have hfe : fs[kn].t = -1 := by omega
              rw [if_neg (fun hh => hh.1 hfe)] at hAT
              have HN := Lib.hid (show bestH (dueL l.ps pl fs i (m + 1)) = o by rw [HS.out, hAT]; simpa using hbest.out)
              go_wp2
              go_roundw
              case rel => exact ⟨m + 1, o, by omega, by go_num, HN, hom, H8.out, H10.out, HB12.out⟩
              case measure => simp [intOf]; omega
            · have hfe : fs[kn].t ≠ -1 := by omega
              have HH1 := Lib.hid (fun (w' : World) (hb' : Below w.heap.size w w') => l01Hits_any l.ps[i].x l.ps[i].y l.ps[i].k l.ps[i].t l.ps[i].d m w' bp (offp + i * 5) (HATP.out.step hb' (by omega)) (by have := hb'.size; omega) k1 k2 k3 k4 (by omega) (by omega))
              have HH2 := Lib.hid (fun (w' : World) (hb' : Below w.heap.size w w') => l01Hits_any l.ps[kn].x l.ps[kn].y l.ps[kn].k l.ps[kn].t l.ps[kn].d fs[kn].f w' bp (offp + kn * 5) (hatq.step hb' (by omega)) (by have := hb'.size; omega) n1 n2 n3 n4 f3 f4)
              have hC2 := HCAN.out
              have hcm : canH l.ps i (fs[kn].t + l.ps[kn].d, (m : Int), (kn : Int)) = decide (0 ≤ hitsV l.ps[i].k l.ps[i].t m) := by rw [hC2]
              generalize hitsV l.ps[i].k l.ps[i].t m = hv1 at HH1 hcm
              generalize hitsV l.ps[kn].k l.ps[kn].t fs[kn].f = hv2 at HH2 hAT
              clear hC2
              go_wp2_with fail
              refine (HH1.out _ HB12.out).mono ?_
              rintro e w3 ⟨rfl, hb3⟩
              have hb13 := bl_trans HB12.out hb3
              have HB13 := Lib.hid hb13
              have h8c := own_below H8.out hb3 (Nat.le_refl _)
              have h10c := own_below H10.out hb3 (Nat.le_refl _)
              have H8c := Lib.hid h8c
              have H10c := Lib.hid h10c
              obtain ⟨hc3, hf3b⟩ := bcell hb13
              have hz13 := hb13.size
              have hbfw3 : bf < w3.heap.size := by omega
              clear h8c h10c hb3 hb13
              by_cases hv1n : hv1 < 0
              · have HN := Lib.hid (show bestH (dueL l.ps pl fs i (m + 1)) = o by
                  rw [HS.out]
                  have hz : (candN1 l.ps fs i (m : Int)).toList.filter (canH l.ps i) = [] := by
                    rw [hAT]
                    split
                    · simp only [Option.toList_some, List.filter_cons, List.filter_nil]
                      rw [hcm, decide_eq_false (by omega)]; rfl
                    · rfl
                  rw [hz, List.append_nil]; exact hbest.out)
                go_wp2
                go_roundw
                case rel => exact ⟨m + 1, o, by omega, by go_num, HN, hom, H8c.out, H10c.out, HB13.out⟩
                case measure => simp [intOf]; omega
              · rw [decide_eq_true (by omega : 0 ≤ hv1)] at hcm
                have s3 : IntKind.i64.wrap fs[kn].f = fs[kn].f := by rw [IntKind.wrap_i64]; omega
                have s4 := wrap_i8 (n := fs[kn].f) (by omega) (by omega)
                go_wp2_with fail
                refine (HH2.out _ HB13.out).mono ?_
                rintro e w4 ⟨rfl, hb4⟩
                have hb14 := bl_trans HB13.out hb4
                have HB14 := Lib.hid hb14
                have h8d := own_below H8c.out hb4 (Nat.le_refl _)
                have h10d := own_below H10c.out hb4 (Nat.le_refl _)
                have H8d := Lib.hid h8d
                have H10d := Lib.hid h10d
                have hz14 := hb14.size
                have hbfw4 : bf < w4.heap.size := by omega
                have hbpw4 : bp < w4.heap.size := by omega
                have u0 : w4.cell? ⟨bf, offf + kn * 3, none⟩ = some (.int .i64 fs[kn].t) := by rw [hb14.cell (p := ⟨_, _, none⟩) hbfw]; exact hatfu.1
                have u1 : w4.cell? ⟨bp, offp + kn * 5 + 4, none⟩ = some (.int .i8 l.ps[kn].d) := by rw [hb14.cell (p := ⟨_, _, none⟩) (by show bp < w.heap.size; omega)]; exact hatq.2.2.2.2
                have s5 : IntKind.i64.wrap l.ps[kn].d = l.ps[kn].d := by rw [IntKind.wrap_i64]; omega
                have s6 : IntKind.i64.wrap (fs[kn].t + l.ps[kn].d) = fs[kn].t + l.ps[kn].d := by rw [IntKind.wrap_i64]; omega
                clear h8d h10d hb4 hb14
                have hm4 : 0 ≤ ((m : Int) + 2) % 4 ∧ ((m : Int) + 2) % 4 ≤ 3 := by omega
                obtain ⟨m41, m42⟩ := hm4
                go_wp2
                (refine wp_region_ext (by kernel_rfl) (by kernel_rfl) ?_; have hX := @ext_cell; (repeat (go_big_quiet_step (fail))); refine wpQuiet_nil ?_; clear hX; intro wx hw'; obtain ⟨⟨wx, hbx⟩, rfl⟩ := hw'; obtain ⟨hcx, hfx⟩ := bcell hbx)
                have hbx4 := bl_trans HB14.out hbx
                have H8x := Lib.hid (own_below H8d.out hbx (Nat.le_refl _))
                have H10x := Lib.hid (own_below H10d.out hbx (Nat.le_refl _))
                have HBx := Lib.hid hbx4
                clear u0 u1 hcx hfx hbx4
                by_cases hpos : 0 < hv2
                · have hmx : max hv2 0 = hv2 := by omega
                  rw [hmx] at hAT
                  have hmt : (((m : Int) + 2) % 4).toNat = (m + 2) % 4 := by omega
                  rw [hmt] at hAT
                  have hb0 : 0 ≤ hv2 / 2 ^ ((m + 2) % 4) := Int.ediv_nonneg (by omega) (Int.le_of_lt (Int.pow_pos (by decide)))
                  have ht : ((hv2 / 2 ^ ((m + 2) % 4)).tmod 2 == 1) = decide (hv2 / 2 ^ ((m + 2) % 4) % 2 = 1) := by
                    rw [Int.tmod_eq_emod_of_nonneg hb0]; rfl
                  rcases dec_cases (hv2 / 2 ^ ((m + 2) % 4) % 2 = 1) with ⟨g3, g3'⟩ | ⟨g3, g3'⟩
                  · rw [g3] at ht
                    rw [if_pos ⟨hfe, g3'⟩] at hAT
                    have HL := Lib.hid (show dueL l.ps pl fs i (m + 1) = dueL l.ps pl fs i m ++ [(fs[kn].t + l.ps[kn].d, (m : Int), (kn : Int))] by
                      rw [HS.out, hAT]
                      simp only [Option.toList_some, List.filter_cons, List.filter_nil]
                      rw [hcm, if_pos rfl])
                    clear g3' hb0 hAT
                    have hsn := bestH_snoc (dueL l.ps pl fs i m) (fs[kn].t + l.ps[kn].d, (m : Int), (kn : Int))
                    rw [← HL.out, hbest.out] at hsn
                    have HBT := Lib.hid (l02Better_any (fs[kn].t + l.ps[kn].d) m kn g 0 o wx (own_faAt H10x.out) hom)
                    have hnew : 0 ≤ fs[kn].t + l.ps[kn].d ∧ I8 (m : Int) := ⟨by omega, by constructor <;> omega⟩
                    rcases Bool.eq_false_or_eq_true (betterV (fs[kn].t + l.ps[kn].d, (m : Int), (kn : Int)) o) with g4 | g4
                    · rw [stepH_yes o _ g4] at hsn
                      rw [g4] at HBT
                      have HN := Lib.hid hsn
                      clear hsn g4
                      go_wp2_with fail
                      refine HBT.out.mono ?_
                      rintro e w5 ⟨rfl, rfl⟩
                      clear HBT
                      obtain ⟨⟨v0, c0⟩, f0⟩ := own_cell H10x.out (j := 0) (by omega)
                      obtain ⟨⟨v1, c1⟩, f1⟩ := own_cell H10x.out (j := 1) (by omega)
                      obtain ⟨⟨v2, c2⟩, f2⟩ := own_cell H10x.out (j := 2) (by omega)
                      go_wp2
                      have hs := own_setCells [.int .i64 (fs[kn].t + l.ps[kn].d), .int .i8 (m : Int), .int .i64 (kn : Int)] (A := []) (R := Fa.cells (faOf o)) (j := 0) H10x.out rfl (Nat.le_refl _)
                      have h8s := own_kept H8x.out (grown_setCells g [.int .i64 (fs[kn].t + l.ps[kn].d), .int .i8 (m : Int), .int .i64 (kn : Int)] wx 0) (by intro k hk e; have h9 : some w.heap.size = some k := hk; rw [← h9] at e; simp at e; omega)
                      have hbs : Below w.heap.size w (setCells wx g 0 [.int .i64 (fs[kn].t + l.ps[kn].d), .int .i8 (m : Int), .int .i64 (kn : Int)]) := bl_grown HBx.out (grown_setCells _ _ _ _) (fun k hk => by cases hk; omega)
                      go_roundw
                      case rel => exact ⟨m + 1, some (fs[kn].t + l.ps[kn].d, m, kn), by omega, by go_num, HN, (fun m hm => by cases hm; exact hnew), h8s, hs, hbs⟩
                      case measure => simp [intOf]; omega
                    · rw [stepH_no o _ g4] at hsn
                      rw [g4] at HBT
                      have HN := Lib.hid hsn
                      clear hsn g4
                      go_wp2_with fail
                      refine HBT.out.mono ?_
                      rintro e w5 ⟨rfl, rfl⟩
                      clear HBT
                      go_wp2
                      go_roundw
                      case rel => exact ⟨m + 1, o, by omega, by go_num, HN, hom, H8x.out, H10x.out, HBx.out⟩
                      case measure => simp [intOf]; omega
                  · rw [g3] at ht
                    rw [if_neg (fun hh => g3' hh.2)] at hAT
                    have HN := Lib.hid (show bestH (dueL l.ps pl fs i (m + 1)) = o by rw [HS.out, hAT]; simpa using hbest.out)
                    clear g3' hb0 hAT
                    go_wp2
                    go_roundw
                    case rel => exact ⟨m + 1, o, by omega, by go_num, HN, hom, H8x.out, H10x.out, HBx.out⟩
                    case measure => simp [intOf]; omega
                · have hmx : max hv2 0 = 0 := by omega
                  rw [hmx, if_neg (fun hh => by have := hh.2; simp at this)] at hAT
                  have HN := Lib.hid (show bestH (dueL l.ps pl fs i (m + 1)) = o by rw [HS.out, hAT]; simpa using hbest.out)
                  go_wp2
                  go_roundw
                  case rel => exact ⟨m + 1, o, by omega, by go_num, HN, hom, H8x.out, H10x.out, HBx.out⟩
                  case measure => simp [intOf]; omega
        · have hm4 : m = 4 := by omega
          subst hm4
          obtain ⟨hc, hf⟩ := bcell hb
          obtain ⟨q0, q1, q2⟩ := own_faAt h10
          obtain ⟨⟨v0, c0⟩, g0⟩ := own_cell h8 (j := 0) (by omega)
          obtain ⟨⟨v1, c1⟩, g1⟩ := own_cell h8 (j := 1) (by omega)
          obtain ⟨⟨v2, c2⟩, g2⟩ := own_cell h8 (j := 2) (by omega)
          go_wp2
          have hs := own_setCells (Fa.cells (faOf o)) (A := []) (R := Fa.cells ⟨0, 0, 0⟩) (j := 0) h8 rfl (Nat.le_refl _)
          obtain ⟨cur, hh, hcur⟩ := own_one2 hs
          have hbs : Below w.heap.size w (setCells wr w.heap.size 0 (Fa.cells (faOf o))) := bl_grown hb (grown_setCells _ _ _ _) (fun k hk => by cases hk; omega)
          have hval : due l.ps pl fs i = faOf o := by rw [HDUE.out, hbest.out]
          refine bodyPost_ret (v := .agg cur) (results_cell_row Try.results56 _ _ w.heap.size 66 cur (0, 0) _ rfl hh Try.underlying66 rfl (by rw [hcur]; kernel_rfl)) rfl ⟨?_, hbs⟩
          rw [hval, hcur]; rfl
end Go.Proofs.Ytollihgjcmiolaa
/- Falls as values of the language: equality. -/
namespace Go.Proofs.Ytollihgjcmiolaa
open Go.RowKit
set_option maxHeartbeats 400000
set_option maxRecDepth 100000
theorem fa_fields : (Try.prog.fieldsOf 66).toList.map (fun f => (f.type, f.offset, decide (f.name ≠ "_"))) = [(2, 0, true), (22, 1, true), (2, 2, true)] := by kernel_rfl
theorem run_equal_fa (f g : Fa) (w : World) : (Op.equal 66 f.val g.val).run Try.prog w = .ok (decide (f = g)) w := by
  obtain ⟨t, f, b⟩ := f
  obtain ⟨t', f', b'⟩ := g
  have h := run_equalIn_agg (P := Try.prog) (w := w) 9999 66 #[.int .i64 t, .int .i8 f, .int .i64 b] #[.int .i64 t', .int .i8 f', .int .i64 b'] (by kernel_rfl) (by kernel_rfl)
  have hF := fa_fields
  have e1 : ∀ a b : Int, (Op.equalIn 9999 2 (.int .i64 a) (.int .i64 b)).run Try.prog w = .ok (a == b) w := fun a b => run_equalIn_int w 9998 2 .i64 .i64 a b Try.underlying2
  have e3 : ∀ a b : Int, (Op.equalIn 9999 22 (.int .i8 a) (.int .i8 b)).run Try.prog w = .ok (a == b) w := fun a b => run_equalIn_int w 9998 22 .i8 .i8 a b Try.underlying22
  have q1 : Try.prog.plainKey 2 = true := by kernel_rfl
  have q2 : Try.prog.plainKey 22 = true := by kernel_rfl
  have e2 : ∀ (xs : Array Value) (off : Nat) (v : Value), xs[off]? = some v → (part 2 xs off).run Try.prog w = .ok v w := fun xs off v hx => run_part_plain w q1 hx
  have e4 : ∀ (xs : Array Value) (off : Nat) (v : Value), xs[off]? = some v → (part 22 xs off).run Try.prog w = .ok v w := fun xs off v hx => run_part_plain w q2 hx
  generalize (Try.prog.fieldsOf 66).toList = fl at h hF
  rw [List.map_eq_cons_iff] at hF
  obtain ⟨f1, fl1, rfl, h1, hF⟩ := hF
  rw [List.map_eq_cons_iff] at hF
  obtain ⟨f2, fl2, rfl, h2, hF⟩ := hF
  rw [List.map_eq_cons_iff] at hF
  obtain ⟨f3, fl3, rfl, h3, hF⟩ := hF
  rw [List.map_eq_nil_iff] at hF
  subst hF
  simp only [Prod.mk.injEq, decide_eq_true_eq] at h1 h2 h3
  obtain ⟨t1, o1, n1⟩ := h1
  obtain ⟨t2, o2, n2⟩ := h2
  obtain ⟨t3, o3, n3⟩ := h3
  unfold Op.equal
  show (Op.equalIn (9999 + 1) 66 _ _).run Try.prog w = _
  rw [h]
  have r1 : ∀ x y z : Int, (part 2 #[.int .i64 x, .int .i8 y, .int .i64 z] 0).run Try.prog w = .ok (.int .i64 x) w := fun x y z => e2 _ _ _ rfl
  have r2 : ∀ x y z : Int, (part 22 #[.int .i64 x, .int .i8 y, .int .i64 z] 1).run Try.prog w = .ok (.int .i8 y) w := fun x y z => e4 _ _ _ rfl
  have r3 : ∀ x y z : Int, (part 2 #[.int .i64 x, .int .i8 y, .int .i64 z] 2).run Try.prog w = .ok (.int .i64 z) w := fun x y z => e2 _ _ _ rfl
  simp only [Op.eqFields, if_pos n1, if_pos n2, if_pos n3, t1, t2, t3, o1, o2, o3, Sem.run_bind, r1, Result.andThen_ok, e1]
  by_cases g1 : t = t'
  · subst g1
    simp only [beq_self_eq_true, Bool.not_true, Bool.false_eq_true, if_false, Sem.run_bind, r2, Result.andThen_ok, e3]
    by_cases g2 : f = f'
    · subst g2
      simp only [beq_self_eq_true, Bool.not_true, Bool.false_eq_true, if_false, Sem.run_bind, r3, Result.andThen_ok, e1]
      by_cases g3 : b = b'
      · subst g3; simp
      · simp [g3]
    · simp [g2]
  · simp [g1]
theorem run_neq_fa (t f b t' f' b' : Int) (w : World) : (binOp .neq 66 (.agg #[.int .i64 t, .int .i8 f, .int .i64 b]) (.agg #[.int .i64 t', .int .i8 f', .int .i64 b'])).run Try.prog w = .ok (.bool (decide ((⟨t, f, b⟩ : Fa) ≠ ⟨t', f', b'⟩))) w := by
  have := run_equal_fa ⟨t, f, b⟩ ⟨t', f', b'⟩ w
  simp only [binOp]
  simp [this]
end Go.Proofs.Ytollihgjcmiolaa
/- Contracts: slices of Fall, element for element. -/
namespace Go.Proofs.Ytollihgjcmiolaa
open Go.RowKit
set_option linter.unusedVariables false
set_option linter.unusedSimpArgs false
set_option maxHeartbeats 400000
set_option maxRecDepth 100000

theorem toFall_any (p : Fa) (w : World) :
    Calls Try.prog 32 #[p.val] w fun e w' => e = .returned p.val ∧ Below w.heap.size w w' := by
  go_enter Try.func32, Try.ntmps32
  go_wp2
  refine bodyPost_ret (v := p.val) (by simp [results, Try.results32, go_sem]) rfl ⟨rfl, ?_⟩
  exact (by repeat (first | with_reducible exact Below.refl _ _ | with_reducible assumption | with_reducible apply bl_drewN | with_reducible apply bl_drew | with_reducible apply bl_alloc | (with_reducible refine bl_set ?_ (by first | (simp; done) | (simp; omega)) _) | with_reducible refine bl_trans ?_ (by with_reducible assumption)))
theorem eqFall_any (p q : Fa) (w : World) :
    Calls Try.prog 43 #[p.val, q.val] w fun e w' => e = .returned (.bool (decide (p = q))) ∧ Below w.heap.size w w' := by
  obtain ⟨t, f, b⟩ := p
  obtain ⟨t', f', b'⟩ := q
  go_enter Try.func43, Try.ntmps43
  go_wp2
  all_goals
    go_ret
    exact ⟨by go_light; (try simp_all) <;> grind, (by repeat (first | with_reducible exact Below.refl _ _ | with_reducible assumption | with_reducible apply bl_drewN | with_reducible apply bl_drew | with_reducible apply bl_alloc | (with_reducible refine bl_set ?_ (by first | (simp; done) | (simp; omega)) _) | with_reducible refine bl_trans ?_ (by with_reducible assumption)))⟩
theorem szFallS_any (a : Option Addr) (n cap : Nat) (left : Int) (w : World) (hn : n ≤ 9223372036854775807) (h1 : -1 ≤ left) (h2 : left ≤ 1048576) :
    Calls Try.prog 9 #[.slice a n cap, .int .i64 left] w fun e w' => e = .returned (.int .i64 (szv n left)) ∧ w = w' := by
  unfold szv
  by_cases h : left - n < 0
  all_goals
    go_enter Try.func9, Try.ntmps9
    go_wp2
    go_ret
    exact ⟨ret_int (by simp [h]), rfl⟩
def mkFa1 (k : Int) : Fa := ⟨k, (IntKind.i8.wrap (k + 1)), k + 1 + 1⟩
def mkFa (k : Int) (n : Nat) : List Fa := (List.range n).map fun (i : Nat) => mkFa1 (k + 3 * (i : Int))
theorem mkFa_succ (k : Int) (n : Nat) : mkFa k (n + 1) = mkFa k n ++ [mkFa1 (k + 3 * n)] := by simp [mkFa, List.range_succ]
theorem mkFa_len (k : Int) (n : Nat) : (mkFa k n).length = n := by simp [mkFa]
theorem markFallS_any {base n : Nat} {v : Value} {cs : List Value} (k0 : Int) (w : World) (hown : w.ownsRow base 66 3 v n cs) (hn : n ≤ 10000000) (h1 : 0 ≤ k0) (h2 : k0 ≤ 1000000000) :
    Calls Try.prog 25 #[v, .int .i64 k0] w fun e w' => e = .returned (.int .i64 (k0 + 3 * n)) ∧ w'.ownsRow base 66 3 v n (flat Fa.cells (mkFa k0 n)) ∧ w.grownBy w' v.ownBlock := by
  have hlen := hown.1
  rcases id hown.2 with ⟨rfl, rfl⟩ | ⟨g, cap, cur, rfl, -⟩
  · go_enter Try.func25, Try.ntmps25
    go_wp2
    refine wp_loop_rounds 1 ?_
    rw [rounds_succ]; go_wp2
    go_ret
    exact ⟨ret_int (by simp), by simpa [mkFa, flat_nil] using World.ownsRow_nil w base 66 3, World.grownBy.refl _ _⟩
  · go_enter Try.func25, Try.ntmps25
    go_wp2
    go_loopw [1, 5] (fun kk i wr => ∃ j : Nat, ∃ R : List Value, j ≤ n ∧ i = .int .i64 j ∧ kk = .int .i64 (k0 + 3 * j) ∧ R.length = (n - j) * 3 ∧ wr.ownsRow base 66 3 (Value.slice (some { block := g, off := 0 }) n cap) n (flat Fa.cells (mkFa k0 j) ++ R) ∧ w.grownBy wr (some g)) (fun _ i _ => n - (intOf i).toNat)
    case atStart => exact ⟨0, cs, by omega, rfl, by simp, by simpa using hlen, by simpa [mkFa, flat_nil] using hown, World.grownBy.refl _ _⟩
    case round =>
      clear hown hlen
      obtain ⟨j, R, hj, rfl, rfl, hR, hown, hg⟩ := hrel
      by_cases hlt : j < n
      · skip
        obtain ⟨⟨v0, c0⟩, f0⟩ := own_cell hown (j := j * 3) (by omega)
        obtain ⟨⟨v1, c1⟩, f1⟩ := own_cell hown (j := j * 3 + 1) (by omega)
        obtain ⟨⟨v2, c2⟩, f2⟩ := own_cell hown (j := j * 3 + 2) (by omega)
        go_wp2
        have hown3 := own_setCells (Fa.cells (mkFa1 (k0 + 3 * (j : Int)))) hown (j := j * 3) (by rw [flat_length Fa.len, mkFa_len]) (by rw [hR]; simp [Fa.cells]; omega)
        have hg3 := grown_trans hg (grown_setCells g (Fa.cells (mkFa1 (k0 + 3 * (j : Int)))) wr (j * 3))
        clear c0 f0 c1 f1 c2 f2 hown hg
        go_roundw
        case rel => exact ⟨j + 1, R.drop 3, by omega, by go_num, by simp; omega, by simp [hR]; omega, by rw [mkFa_succ, flat_append, flat_cons, flat_nil, List.append_nil]; exact hown3, hg3⟩
        case measure => simp [intOf]; omega
      · go_wp2
        go_ret
        have hjn : j = n := by omega
        have hR0 : R = [] := by apply List.eq_nil_of_length_eq_zero; rw [hR, hjn]; simp
        rw [hR0, List.append_nil, hjn] at hown
        exact ⟨ret_int (by rw [hjn]), hown, hg⟩
theorem heldFallS_any {B : Nat} (a : Option Addr) (n cap : Nat) (k0 : Int) (w : World) (h : SlAt B w a (flat Fa.cells (mkFa k0 n))) (hn : n ≤ 10000000) (h1 : 0 ≤ k0) (h2 : k0 ≤ 1000000000) :
    Calls Try.prog 26 #[.slice a n cap, .int .i64 k0] w fun e w' => e = .returned (.int .i64 (k0 + 3 * n)) ∧ w = w' := by
  go_enter Try.func26, Try.ntmps26
  go_wp2
  go_loopw [1, 5] (fun kk i wr => ∃ j : Nat, j ≤ n ∧ i = .int .i64 j ∧ kk = .int .i64 (k0 + 3 * j) ∧ wr = w) (fun _ i _ => n - (intOf i).toNat)
  case atStart => exact ⟨0, by omega, rfl, by simp, rfl⟩
  case round =>
    obtain ⟨j, hj, rfl, rfl, rfl⟩ := hrel
    by_cases hlt : j < n
    · obtain ⟨b, off, rfl, hbl, hat⟩ := fas_get h (k := j) (by rw [mkFa_len]; exact hlt)
      have hj5 : (mkFa k0 n)[j]'(by rw [mkFa_len]; exact hlt) = mkFa1 (k0 + 3 * (j : Int)) := by simp [mkFa]
      rw [hj5] at hat
      clear hj5
      unfold FaAt at hat
      simp only [mkFa1] at hat
      obtain ⟨c0, c1, c2⟩ := hat
      go_wp2
      go_roundw
      case rel => exact ⟨j + 1, by omega, by go_num, by simp; omega, by trivial⟩
      case measure => simp [intOf]; omega
    · go_wp2
      go_ret
      have hjn : j = n := by omega
      first | exact ⟨ret_int (by rw [hjn]), rfl⟩ | exact ⟨ret_int (by rw [hjn]), trivial⟩
theorem eqFallS_any {B : Nat} (a a' : Option Addr) (cap cap' : Nat) (ps qs : List Fa) (w : World) (hps : SlAt B w a (flat Fa.cells ps)) (hqs : SlAt B w a' (flat Fa.cells qs)) (hB : B ≤ w.heap.size) (hn : ps.length ≤ 10000000) (hn' : qs.length ≤ 10000000) :
    Calls Try.prog 17 #[.slice a ps.length cap, .slice a' qs.length cap'] w fun e w' => e = .returned (.bool (decide (ps = qs))) ∧ Below w.heap.size w w' := by
  by_cases hl : ps.length = qs.length
  · have hl2 : ((ps.length : Int) != (qs.length : Int)) = false := by simp [hl]
    have Hl := Lib.hid hl; clear hl
    go_enter Try.func17, Try.ntmps17
    go_wp2
    go_loopw [5] (fun i wr => ∃ k : Nat, k ≤ ps.length ∧ i = .int .i64 k ∧ ps.take k = qs.take k ∧ Below w.heap.size w wr) (fun i _ => ps.length - (intOf i).toNat)
    case atStart => exact ⟨0, by omega, rfl, by simp, Below.refl _ _⟩
    case round =>
      obtain ⟨k, hk, rfl, heq, hb⟩ := hrel
      have Heq := Lib.hid heq; clear heq
      by_cases hlt : k < ps.length
      · have hlt' : k < qs.length := by rw [← Hl.out]; exact hlt
        obtain ⟨b, off, rfl, hbl, hat⟩ := fas_get (hps.below hb hB) hlt
        obtain ⟨b', off', rfl, hbl', hat'⟩ := fas_get (hqs.below hb hB) hlt'
        unfold FaAt at hat hat'
        go_wp2
        go_still_tail 8, (by kernel_rfl)
        change wpList _ _ _ _ _ wr.drew
        go_wp2_with (go_at_call 43; refine (eqFall_any ps[k] qs[k] _).mono ?_; rintro e w' ⟨rfl, hb2⟩)
        · have h1 : (!decide (ps[k] = qs[k])) = true := by assumption
          go_ret
          have hne : ps ≠ qs := by rintro rfl; simp at h1
          exact ⟨by simp [hne], (by repeat (first | with_reducible exact Below.refl _ _ | with_reducible assumption | with_reducible apply bl_drewN | with_reducible apply bl_drew | with_reducible apply bl_alloc | (with_reducible refine bl_set ?_ (by first | (simp; done) | (simp; omega)) _) | with_reducible refine bl_trans ?_ (by with_reducible assumption)))⟩
        · have h1 : (!decide (ps[k] = qs[k])) = false := by assumption
          have h2 : ps[k] = qs[k] := by simpa using h1
          go_roundw
          case rel => exact ⟨k + 1, by omega, by go_num, by rw [List.take_succ_eq_append_getElem hlt, List.take_succ_eq_append_getElem hlt', Heq.out, h2], (by repeat (first | with_reducible exact Below.refl _ _ | with_reducible assumption | with_reducible apply bl_drewN | with_reducible apply bl_drew | with_reducible apply bl_alloc | (with_reducible refine bl_set ?_ (by first | (simp; done) | (simp; omega)) _) | with_reducible refine bl_trans ?_ (by with_reducible assumption)))⟩
          case measure => simp [intOf]; omega
      · go_wp2
        go_ret
        have hne : ps = qs := by
          have := Heq.out
          rwa [List.take_of_length_le (by omega), List.take_of_length_le (by have := Hl.out; omega)] at this
        exact ⟨by simp [hne], (by repeat (first | with_reducible exact Below.refl _ _ | with_reducible assumption | with_reducible apply bl_drewN | with_reducible apply bl_drew | with_reducible apply bl_alloc | (with_reducible refine bl_set ?_ (by first | (simp; done) | (simp; omega)) _) | with_reducible refine bl_trans ?_ (by with_reducible assumption)))⟩
  · have hl2 : ((ps.length : Int) != (qs.length : Int)) = true := by simp; omega
    have Hl := Lib.hid hl; clear hl
    go_enter Try.func17, Try.ntmps17
    go_wp2
    go_ret
    have hne : ps ≠ qs := fun h => Hl.out (by rw [h])
    exact ⟨by simp [hne], (by repeat (first | with_reducible exact Below.refl _ _ | with_reducible assumption | with_reducible apply bl_drewN | with_reducible apply bl_drew | with_reducible apply bl_alloc | (with_reducible refine bl_set ?_ (by first | (simp; done) | (simp; omega)) _) | with_reducible refine bl_trans ?_ (by with_reducible assumption)))⟩
theorem Try.infoFall : (Try.prog.info? 66).map (fun i => (i.zero, i.size, i.bytes)) = some (some (.agg #[.int .i64 0, .int .i8 0, .int .i64 0]), 3, 24) := by kernel_rfl
theorem toFallS_any {B : Nat} (a : Option Addr) (cap : Nat) (ps : List Fa) (w : World) (hps : SlAt B w a (flat Fa.cells ps)) (hB : B ≤ w.heap.size) (hn : ps.length ≤ 10000000) :
    Calls Try.prog 13 #[.slice a ps.length cap] w fun e w' => ∃ v, e = .returned v ∧ w'.ownsRow w.heap.size 66 3 v ps.length (flat Fa.cells ps) ∧ Below w.heap.size w w' := by
  obtain ⟨i0, hi, hz0, hz1, hz2⟩ := info_parts Try.infoFall
  go_enter Try.func13, Try.ntmps13
  go_wp2_with (refine wpList_make_full _ rfl (.tmp 6) (.tmp 6) 39 rfl w.heap.size 66 i0 _ 3 Try.underlying39 hi hz0 hz1 _ _ _ _ ps.length rfl rfl rfl rfl (by rw [hz2]; omega) (by unfold maxLen; omega) (Nat.le_refl _) ?_; intro w1 hown hgrow)
  have hm : (madeCells (Value.cells (.agg #[.int .i64 0, .int .i8 0, .int .i64 0] : Value)) (ps.length * 3)).toList.length = ps.length * 3 := by simp [size_madeCells]
  generalize (madeCells (Value.cells (.agg #[.int .i64 0, .int .i8 0, .int .i64 0] : Value)) (ps.length * 3)).toList = R at hown hm
  have hb0 : Below w.heap.size w w1 := bl_grown (Below.refl _ _) hgrow (by simp)
  have hlt0 := (hown.lt _ rfl).2
  clear hgrow hi hz0 hz1 hz2
  go_loopw [4] (fun i wr => ∃ k : Nat, ∃ R : List Value, k ≤ ps.length ∧ i = .int .i64 k ∧ R.length = (ps.length - k) * 3 ∧ wr.ownsRow w.heap.size 66 3 (Value.slice (some { block := w.heap.size, off := 0 }) ps.length ps.length) ps.length (flat Fa.cells (ps.take k) ++ R) ∧ w.heap.size < wr.heap.size ∧ Below w.heap.size w wr) (fun i _ => ps.length - (intOf i).toNat)
  case atStart => exact ⟨0, R, by omega, rfl, by simpa using hm, by simpa [flat_nil] using hown, hlt0, hb0⟩
  case round =>
    clear hown hm hb0 hlt0
    obtain ⟨k, R, hk, rfl, hR, hown, hsz, hb⟩ := hrel
    by_cases hlt : k < ps.length
    · obtain ⟨b, off, rfl, hbl, hat⟩ := fas_get (hps.below hb hB) hlt
      unfold FaAt at hat
      go_wp2_with (go_at_call 32; refine (toFall_any ps[k] _).mono ?_; rintro e w' ⟨rfl, hb2⟩; have hown2 := own_below hown hb2 (Nat.le_refl _); obtain ⟨⟨v0, c0⟩, f0⟩ := own_cell hown2 (j := k * 3) (by omega); obtain ⟨⟨v1, c1⟩, f1⟩ := own_cell hown2 (j := k * 3 + 1) (by omega); obtain ⟨⟨v2, c2⟩, f2⟩ := own_cell hown2 (j := k * 3 + 2) (by omega))
      have hz := hb2.size
      have hz2 := hb.size
      have hown3 := own_setCells (Fa.cells ps[k]) hown2 (j := k * 3) (by rw [flat_length Fa.len, List.length_take]; congr 1; omega) (by rw [hR]; simp [Fa.cells]; omega)
      clear c0 f0 c1 f1 c2 f2 hown hat
      go_roundw
      case rel => exact ⟨k + 1, R.drop 3, by omega, by go_num, by simp [hR]; omega, by rw [List.take_succ_eq_append_getElem hlt, flat_append, flat_cons, flat_nil, List.append_nil]; exact hown3, by simp; omega, (by repeat (first | with_reducible exact Below.refl _ _ | with_reducible assumption | with_reducible apply bl_drewN | with_reducible apply bl_drew | with_reducible apply bl_alloc | (with_reducible refine bl_set ?_ (by first | (simp; done) | (simp; omega)) _) | with_reducible refine bl_trans ?_ (by with_reducible assumption)))⟩
      case measure => simp [intOf]; omega
    · go_wp2
      go_ret
      have hkl : k = ps.length := by omega
      have hR0 : R = [] := by apply List.eq_nil_of_length_eq_zero; rw [hR, hkl]; simp
      refine ⟨_, rfl, ?_, (by repeat (first | with_reducible exact Below.refl _ _ | with_reducible assumption | with_reducible apply bl_drewN | with_reducible apply bl_drew | with_reducible apply bl_alloc | (with_reducible refine bl_set ?_ (by first | (simp; done) | (simp; omega)) _) | with_reducible refine bl_trans ?_ (by with_reducible assumption)))⟩
      rw [hR0, List.append_nil, hkl, List.take_length] at hown
      exact hown
theorem eqFallS_rv {w : World} {v v' : Value} {ps qs : List Fa} (h : RV Fa.cells w v ps) (h' : RV Fa.cells w v' qs) (hn : ps.length ≤ 10000000) (hn' : qs.length ≤ 10000000) :
    Calls Try.prog 17 #[v, v'] w fun e w' => e = .returned (.bool (decide (ps = qs))) ∧ Below w.heap.size w w' := by
  obtain ⟨a, cap, rfl, h⟩ := h
  obtain ⟨a', cap', rfl, h'⟩ := h'
  exact eqFallS_any a a' cap cap' ps qs w h h' (Nat.le_refl _) hn hn'
theorem eqFallS_yes {w : World} {v v' : Value} {ps : List Fa} (h : RV Fa.cells w v ps) (h' : RV Fa.cells w v' ps) (hn : ps.length ≤ 10000000) :
    Calls Try.prog 17 #[v, v'] w fun e w' => e = .returned (.bool true) ∧ Below w.heap.size w w' := by
  have := eqFallS_rv h h' hn hn
  simpa using this
theorem toFallS_rv {w : World} {v : Value} {ps : List Fa} (h : RV Fa.cells w v ps) (hn : ps.length ≤ 10000000) :
    Calls Try.prog 13 #[v] w fun e w' => ∃ v', e = .returned v' ∧ w'.ownsRow w.heap.size 66 3 v' ps.length (flat Fa.cells ps) ∧ Below w.heap.size w w' := by
  obtain ⟨a, cap, rfl, h⟩ := h
  exact toFallS_any a cap ps w h (Nat.le_refl _) hn
theorem heldFallS_own {w : World} {base n : Nat} {v : Value} (k0 : Int) (h : w.ownsRow base 66 3 v n (flat Fa.cells (mkFa k0 n))) (hn : n ≤ 10000000) (h1 : 0 ≤ k0) (h2 : k0 ≤ 1000000000) :
    Calls Try.prog 26 #[v, .int .i64 k0] w fun e w' => e = .returned (.int .i64 (k0 + 3 * n)) ∧ w = w' := by
  obtain ⟨a, cap, rfl, h, -⟩ := own_at h
  exact heldFallS_any a n cap k0 w h hn h1 h2
end Go.Proofs.Ytollihgjcmiolaa
/- Contracts: the first wrong fall (the reference). -/
namespace Go.Proofs.Ytollihgjcmiolaa
open Go.RowKit
set_option linter.unusedVariables false
set_option linter.unusedSimpArgs false
set_option maxHeartbeats 400000
set_option maxRecDepth 100000
def slN (v : Value) : Nat := match v with | .slice _ n _ => n | _ => 0
theorem own_slN {w : World} {base e s n : Nat} {v : Value} {xs : List Value} (h : w.ownsRow base e s v n xs) : slN v = n := by
  obtain ⟨a, cap, rfl, -⟩ := own_at h
  rfl
def stF : Fa := ⟨-1, 0, -1⟩
def padF (fs : List Fa) (m : Nat) : List Fa := fs ++ List.replicate m stF
theorem SlAt.wide {B B' : Nat} {w : World} {a : Option Addr} {xs : List Value} (h : SlAt B w a xs) (hB : B ≤ B') : SlAt B' w a xs := by
  intro j hj
  obtain ⟨b, off, h1, h2, h3⟩ := h j hj
  exact ⟨b, off, h1, Nat.lt_of_lt_of_le h2 hB, h3⟩
theorem padF_len (fs : List Fa) (m : Nat) : (padF fs m).length = fs.length + m := by simp [padF]
theorem padF_zero (fs : List Fa) : padF fs 0 = fs := by simp [padF]
theorem padF_succ (fs : List Fa) (m : Nat) : padF fs (m + 1) = padF fs m ++ [stF] := by simp [padF, List.replicate_succ']
theorem padF_ok (fs : List Fa) (m : Nat) (h : fs.all okFall = true) : (padF fs m).all okFall = true := by
  unfold padF
  rw [List.all_append, h, Bool.true_and, List.all_eq_true]
  intro x hx
  rw [List.eq_of_mem_replicate hx]
  rfl
theorem candN1_pad (ps : List Pc) (fs : List Fa) (i : Nat) (s : Int) (m : Nat) : candN1 ps (padF fs m) i s = candN1 ps fs i s := by
  unfold candN1
  simp only
  generalize fnd (nxt (ps.getD i default).at_ s) ps = k
  by_cases h0 : 0 ≤ k
  · by_cases h1 : k < fs.length
    · have e : (padF fs m).getD k.toNat default = fs.getD k.toNat default := by
        unfold padF
        rw [List.getD_eq_getElem?_getD, List.getD_eq_getElem?_getD, List.getElem?_append_left (by omega)]
      rw [e, padF_len]
      have e1 : (k < ((fs.length + m : Nat) : Int)) ↔ (k < (fs.length : Int)) := by omega
      simp only [e1]
    · rw [if_neg (c := 0 ≤ k ∧ k < (fs.length : Int) ∧ _) (fun h => h1 h.2.1)]
      rw [if_neg]
      rintro ⟨g0, g1, g2, g3⟩
      rw [padF_len] at g1
      apply g2
      unfold padF
      rw [List.getD_eq_getElem?_getD, List.getElem?_append_right (by omega), List.getElem?_replicate, if_pos (by omega)]
      rfl
  · rw [if_neg (fun h => h0 h.1), if_neg (fun h => h0 h.1)]
theorem due_pad (ps : List Pc) (pl : List Pu) (fs : List Fa) (i m : Nat) : due ps pl (padF fs m) i = due ps pl fs i := by
  have e : ∀ s : Nat, candN1 ps (padF fs m) i (s : Int) = candN1 ps fs i (s : Int) := fun s => candN1_pad ps fs i s m
  unfold due dueC candN
  simp only [e]
theorem wrong_in (ps : List Pc) (pl : List Pu) (fs : List Fa) (k : Nat) (h : k < fs.length) : wrongAt ps pl fs k = decide (fs[k] ≠ due ps pl fs k) := by
  unfold wrongAt
  rw [decide_eq_false (by omega : ¬ fs.length ≤ k), Bool.false_or, getD_fa fs k h]
set_option maxHeartbeats 1600000 in
theorem l02Wrong_any {B : Nat} (b0 : Nat) (l : Bd) (a : Option Addr) (cap : Nat) (pl : List Pu) (a2 : Option Addr) (cap2 : Nat) (fs : List Fa) (w : World) (hbp : BP w b0 l) (hv : vBd l = true) (h : SlAt B w a (flat Pu.cells pl)) (hok : PusOk pl) (hpl : pl.all plainPu = true) (hn : pl.length ≤ 20) (h2 : SlAt B w a2 (flat Fa.cells fs)) (hfs : fs.all okFall = true) (hn2 : fs.length ≤ 9000000) (hB : B ≤ w.heap.size) :
    Calls Try.prog 29 #[.pointer (some ⟨b0, 0, none⟩), .slice a pl.length cap, .slice a2 fs.length cap2] w fun e w' => e = .returned (.int .i64 (firstWrong l.ps pl fs)) ∧ Below w.heap.size w w' := by
  have HBP := Lib.hid hbp
  obtain ⟨hbl, sv, hbd, sa, scap, rfl, hps⟩ := hbp
  unfold BdAt at hbd
  obtain ⟨c1, c2, c3, c4, c5⟩ := vBd_bounds l hv
  have HPL := Lib.hid hpl
  clear hpl
  obtain ⟨i0, hi, hiz0, hiz1, hiz2⟩ := info_parts Try.infoFall
  have HHIT := Lib.hid (firstWrong_hit l.ps pl fs)
  have HNONE := Lib.hid (firstWrong_none l.ps pl fs)
  generalize hfw : firstWrong l.ps pl fs = FW at HHIT HNONE
  clear hfw
  go_enter Try.func29, Try.ntmps29
  go_wp2_with (at_builtin; refine wpList_append_sl _ rfl _ _ 39 rfl w.heap.size 66 i0 (.agg #[.int .i64 0, .int .i8 0, .int .i64 0]) 3 24 Try.underlying39 hi hiz0 hiz1 hiz2 rfl (by decide) _ 0 [] rfl (World.ownsRow_made w _ 0 (Nat.le_refl _) (by simp [maxLen]) rfl) a2 fs.length cap2 (flat Fa.cells fs) rfl (h2.below (bl_alloc (Below.refl _ _)) hB) (flat_length Fa.len fs) (one_cells Fa.one fs) (by unfold maxLen; omega) (by omega) (by simp) ?_; intro v1 w1 hown hgrow)
  rw [Nat.zero_add, List.nil_append] at hown
  have hb0 : Below w.heap.size w w1 := bl_grown (bl_alloc (Below.refl _ _)) hgrow (by intro k hk; have : some w.heap.size = some k := hk; cases this; exact Nat.le_refl _)
  clear hgrow
  go_loopw [8] (fun v wr => ∃ m : Nat, (m = 0 ∨ fs.length + m ≤ l.ps.length) ∧ wr.ownsRow w.heap.size 66 3 v (fs.length + m) (flat Fa.cells (padF fs m)) ∧ Below w.heap.size w wr) (fun v _ => l.ps.length - slN v)
  case atStart => exact ⟨0, .inl rfl, by rw [padF_zero]; exact hown, hb0⟩
  case round =>
    clear hown hb0
    obtain ⟨m, hm, hown, hb⟩ := hrel
    have hme := own_slN hown
    have hzb := hb.size
    have HME := Lib.hid hme
    clear hme
    have hpl0 := padF_len fs m
    have HPL0 := Lib.hid hpl0
    clear hpl0
    have hm2 : fs.length + m ≤ 9000200 := by omega
    obtain ⟨av, capv, hve, hsl, -, -⟩ := own_at hown
    have HVE := Lib.hid hve
    subst hve
    by_cases hlt : fs.length + m < l.ps.length
    · go_wp2_with fail
      refine (l02None_any _).mono ?_
      rintro e w2 ⟨rfl, hb2⟩
      have hown2 := own_below hown hb2 (Nat.le_refl _)
      have hb12 := bl_trans hb hb2
      have hz2 := hb12.size
      go_wp2_with (at_builtin; refine wpList_append_sl _ rfl _ _ 39 rfl w.heap.size 66 i0 (.agg #[.int .i64 0, .int .i8 0, .int .i64 0]) 3 24 Try.underlying39 hi hiz0 hiz1 hiz2 rfl (by decide) _ _ _ rfl (own_below hown2 (bl_alloc (Below.refl _ _)) (Nat.le_refl _)) (some ⟨_, 0, none⟩) 1 1 [.int .i64 (-1), .int .i8 0, .int .i64 (-1)] rfl (sl_new _ #[.int .i64 (-1), .int .i8 0, .int .i64 (-1)] _) rfl (Fa.one ⟨-1, 0, -1⟩) (by unfold maxLen; omega) (by omega) (by simp; omega) ?_; intro v3 w3 hown3 hgrow)
      have hb13 : Below w.heap.size w w3 := bl_grown (bl_alloc hb12) hgrow (fun k hk => (hown.lt k hk).1)
      have hme3 := own_slN hown3
      go_roundw
      case rel =>
        refine ⟨m + 1, .inr (by omega), ?_, hb13⟩
        rw [padF_succ, flat_append]
        exact hown3
      case measure => have := HME.out; omega
    · have hlen : l.ps.length ≤ (padF fs m).length := by rw [HPL0.out]; omega
      have hall := padF_ok fs m hfs
      have HALL := Lib.hid hall
      have HD := Lib.hid (fun i => due_pad l.ps pl fs i m)
      have HP0 := HPL0.out
      rw [← HP0] at hown ⊢
      clear HME HVE hall HP0 HPL0
      obtain ⟨W, hW⟩ : ∃ W, W = wr := ⟨_, rfl⟩
      rw [← hW] at hown hb hsl
      have hql0 : (padF fs m).length ≤ 9000200 := by rw [padF_len]; omega
      generalize padF fs m = qs at hql0 hown hlen HALL HD hsl ⊢
      go_wp2
      go_loopw [9] (fun i wr => ∃ k : Nat, k ≤ l.ps.length ∧ i = .int .i64 k ∧ Hid (∀ j, j < k → wrongAt l.ps pl fs j = false) ∧ Below W.heap.size W wr) (fun i _ => l.ps.length - (intOf i).toNat)
      case atStart => exact ⟨0, by omega, rfl, Lib.hid (fun j hj => by omega), by subst hW; exact Below.refl _ _⟩
      case round =>
        obtain ⟨k, hk, rfl, hno, hbW⟩ := hrel
        have hb2 := bl_trans hb hbW
        have HB2 := Lib.hid hb2
        have hz2 := hb2.size
        by_cases hlt2 : k < l.ps.length
        · by_cases hin : k < fs.length
          · have hgd : decide (fs.length ≤ k) = false := decide_eq_false (by omega)
            have HBP2 := Lib.hid (fun (w' : World) (h' : Below w.heap.size w w') => HBP.out.step h')
            obtain ⟨bf, offf, rfl, hbf, hatf⟩ := fas_get h2 hin
            have hbfw : bf < w.heap.size := by omega
            have hbfr : bf < wr.heap.size := by omega
            unfold FaAt at hatf
            have w0 : wr.cell? ⟨bf, offf + k * 3, none⟩ = some (.int .i64 fs[k].t) := by rw [hb2.cell (p := ⟨_, _, none⟩) hbfw]; exact hatf.1
            have w1' : wr.cell? ⟨bf, offf + k * 3 + 1, none⟩ = some (.int .i8 fs[k].f) := by rw [hb2.cell (p := ⟨_, _, none⟩) hbfw]; exact hatf.2.1
            have w2' : wr.cell? ⟨bf, offf + k * 3 + 2, none⟩ = some (.int .i64 fs[k].b) := by rw [hb2.cell (p := ⟨_, _, none⟩) hbfw]; exact hatf.2.2
            have hwi := wrong_in l.ps pl fs k hin
            have HDC : ∀ u : Ext wr, Calls Try.prog 56 #[.pointer (some ⟨b0, 0, none⟩), .slice a pl.length cap, .slice av qs.length capv, .int .i64 k] u.w fun e w' => e = .returned (due l.ps pl fs k).val ∧ Below u.w.heap.size u.w w' := by
              intro u
              have hu := bl_trans hb2 u.b
              have hd := l02Due_any b0 l a cap pl av capv qs k u.w (HBP2.out _ hu) hv ((h.below hu hB).wide (Nat.le_trans hB hb.size)) hok HPL.out hn (hsl.below (bl_trans hbW u.b) (Nat.le_refl _)) HALL.out (by omega) hlen (by have := hbW.size; have := u.b.size; omega) hlt2
              rw [HD.out k] at hd
              exact hd
            generalize due l.ps pl fs k = d at HDC hwi
            generalize fs[k] = f at w0 w1' w2' hwi
            obtain ⟨dt, df, db⟩ := d
            obtain ⟨ft, ff, fb⟩ := f
            simp only at w0 w1' w2'
            have HDC2 := Lib.hid HDC
            have hne := run_neq_fa ft ff fb dt df db
            clear HDC hatf HB2 HBP2
            rcases dec_cases ((⟨ft, ff, fb⟩ : Fa) ≠ ⟨dt, df, db⟩) with ⟨g1, -⟩ | ⟨g1, -⟩
            · rw [g1] at hne hwi
              have HW := Lib.hid (HHIT.out k hlt2 hno.out hwi)
              clear g1 hwi
              go_wp2
              (refine wp_region_ext (by kernel_rfl) (by kernel_rfl) ?_; have hX := @ext_cell; (repeat (go_big_quiet_step ((go_at_call 56; exact ext_call (HDC2.out _))))); refine wpQuiet_nil ?_; clear hX; intro wx hw'; obtain ⟨⟨wx, hbx⟩, rfl⟩ := hw'; obtain ⟨hcx, hfx⟩ := bcell hbx)
              go_wp2
              go_ret
              exact ⟨by rw [HW.out]; rfl, bl_trans hb2 hbx⟩
            · rw [g1] at hne hwi
              have HW : Hid (∀ j, j < k + 1 → wrongAt l.ps pl fs j = false) := Lib.hid (by
                intro j hj
                rcases Nat.lt_succ_iff_lt_or_eq.1 hj with h' | rfl
                · exact hno.out j h'
                · exact hwi)
              clear g1 hwi
              go_wp2
              (refine wp_region_ext (by kernel_rfl) (by kernel_rfl) ?_; have hX := @ext_cell; (repeat (go_big_quiet_step ((go_at_call 56; exact ext_call (HDC2.out _))))); refine wpQuiet_nil ?_; clear hX; intro wx hw'; obtain ⟨⟨wx, hbx⟩, rfl⟩ := hw'; obtain ⟨hcx, hfx⟩ := bcell hbx)
              go_wp2
              go_roundw
              case rel => exact ⟨k + 1, by omega, by go_num, HW, bl_trans hbW hbx⟩
              case measure => simp [intOf]; omega
          · have HW := Lib.hid (HHIT.out k hlt2 hno.out (by unfold wrongAt; rw [decide_eq_true (by omega), Bool.true_or]))
            have hgd : decide (fs.length ≤ k) = true := decide_eq_true (by omega)
            go_wp2
            (refine wp_region_ext (by kernel_rfl) (by kernel_rfl) ?_; have hX := @ext_cell; (repeat (go_big_quiet_step (fail))); refine wpQuiet_nil ?_; clear hX; intro wx hw'; obtain ⟨⟨wx, hbx⟩, rfl⟩ := hw'; obtain ⟨hcx, hfx⟩ := bcell hbx)
            go_wp2
            go_ret
            exact ⟨by rw [HW.out]; rfl, bl_trans hb2 hbx⟩
        · have hkn : k = l.ps.length := by omega
          subst hkn
          have hN := HNONE.out hno.out
          by_cases hmore : l.ps.length < fs.length
          · rw [if_pos hmore] at hN
            have HN := Lib.hid hN
            clear hN
            go_wp2
            go_ret
            exact ⟨by rw [HN.out]; rfl, hb2⟩
          · rw [if_neg hmore] at hN
            have HN := Lib.hid hN
            clear hN
            go_wp2
            go_ret
            exact ⟨by rw [HN.out]; rfl, hb2⟩
end Go.Proofs.Ytollihgjcmiolaa
/- Contracts: FirstWrong and CheckFalls (the reference). -/
namespace Go.Proofs.Ytollihgjcmiolaa
open Go.RowKit
set_option linter.unusedVariables false
set_option linter.unusedSimpArgs false
set_option maxHeartbeats 400000
set_option maxRecDepth 100000
/-- A value that reads as a list of rows. -/
def SV {α : Type} (f : α → List Value) (w : World) (v : Value) (xs : List α) : Prop := ∃ a cap, v = .slice a xs.length cap ∧ SlAt w.heap.size w a (flat f xs)
theorem SV.step {α : Type} {f : α → List Value} {w w' : World} {v : Value} {xs : List α} (h : SV f w v xs) (hb : Below w.heap.size w w') : SV f w' v xs := by
  obtain ⟨a, cap, rfl, h⟩ := h
  exact ⟨a, cap, rfl, (h.below hb (Nat.le_refl _)).wide hb.size⟩
def cfVal (l : Bd) (pl : List Pu) (fs : List Fa) : Bool := (vBd l && vPus l pl) && vFas fs && decide (firstWrong l.ps pl fs < 0)
theorem gv_0 (l : Bd) (pl : List Pu) (fs : List Fa) (h : ((vBd l && vPus l pl) && vFas fs) = true) : givenV l pl fs = 0 := by
  rw [Bool.and_eq_true] at h
  unfold givenV; rw [if_pos h.1, if_pos h.2]
theorem gv_1 (l : Bd) (pl : List Pu) (fs : List Fa) (h : ((vBd l && vPus l pl) && vFas fs) = false) : (givenV l pl fs = 1 ∨ givenV l pl fs = 2) ∧ fwCode l pl fs = givenV l pl fs ∧ fwVal l pl fs = 0 ∧ cfVal l pl fs = false := by
  unfold givenV fwCode fwVal cfVal
  rw [h]
  by_cases g : (vBd l && vPus l pl) = true
  · rw [g, Bool.true_and] at h
    have h' : ¬ vFas fs = true := by rw [h]; decide
    simp only [if_pos g, if_neg h']
    exact ⟨by simp, by simp, by simp, by simp⟩
  · simp only [if_neg g]
    exact ⟨by simp, by simp, by simp, by simp⟩
theorem gv_fw (l : Bd) (pl : List Pu) (fs : List Fa) (h : ((vBd l && vPus l pl) && vFas fs) = true) : fwCode l pl fs = (if firstWrong l.ps pl fs < 0 then 6 else 0) ∧ fwVal l pl fs = (if firstWrong l.ps pl fs < 0 then 0 else firstWrong l.ps pl fs) ∧ cfVal l pl fs = decide (firstWrong l.ps pl fs < 0) := by
  have h2 := h
  rw [Bool.and_eq_true] at h
  unfold fwCode fwVal cfVal
  rw [h2, if_pos h.1, if_pos h.2, if_pos h.1, if_pos h.2]
  exact ⟨rfl, rfl, rfl⟩
theorem gv_all (l : Bd) (pl : List Pu) (fs : List Fa) (h : ((vBd l && vPus l pl) && vFas fs) = true) : vBd l = true ∧ pl.length ≤ 20 ∧ pl.all plainPu = true ∧ fs.all okFall = true ∧ pl.all (fun p => decide (0 ≤ fnd ⟨p.x, p.y⟩ l.ps)) = true := by
  simp only [Bool.and_eq_true] at h
  obtain ⟨⟨h1, h2⟩, h3⟩ := h
  unfold vPus at h2
  simp only [Bool.and_eq_true, decide_eq_true_eq] at h2
  exact ⟨h1, h2.1.1, h2.1.2, h3, h2.2⟩
theorem specFirstWrong_any (wd hg : Int) (s : Value) (ps : List Pc) (v1 : Value) (pl : List Pu) (v2 : Value) (fs : List Fa) (w : World) (hps : PV w s ps) (hok : (Bd.mk wd hg ps).ok) (hn : ps.length ≤ 9000000)
    (h1 : SV Pu.cells w v1 pl) (ok1 : PusOk pl) (n1 : pl.length ≤ 9000000) (h2 : SV Fa.cells w v2 fs) (ok2 : FasOk fs) (n2 : fs.length ≤ 9000000) :
    Calls Try.prog 10 #[bdv wd hg s, v1, v2] w fun e w' => e = .returned (.tuple #[.int .i64 (fwVal ⟨wd, hg, ps⟩ pl fs), .int .i64 (fwCode ⟨wd, hg, ps⟩ pl fs)]) ∧ Below w.heap.size w w' := by
  obtain ⟨a, cap, rfl, hps⟩ := hps
  obtain ⟨a1, cap1, rfl, h1⟩ := h1
  obtain ⟨a2, cap2, rfl, h2⟩ := h2
  have HB := Lib.hid (BP.new (l := ⟨wd, hg, ps⟩) (w := w) ⟨a, cap, rfl, hps⟩ 35)
  rcases Bool.eq_false_or_eq_true ((vBd ⟨wd, hg, ps⟩ && vPus ⟨wd, hg, ps⟩ pl) && vFas fs) with g0 | g0
  · have HG := Lib.hid (gv_fw _ _ _ g0)
    have HA := Lib.hid (gv_all _ _ _ g0)
    have HV := Lib.hid (gv_0 _ _ _ g0)
    clear g0
    go_enter Try.func10, Try.ntmps10
    go_wp2_with fail
    refine (l02Given_any (B := w.heap.size) w.heap.size ⟨wd, hg, ps⟩ a1 cap1 pl a2 cap2 fs _ HB.out hok (show ps.length ≤ 10000000 by omega) (h1.below (bl_alloc (Below.refl _ _)) (Nat.le_refl _)) ok1 (h2.below (bl_alloc (Below.refl _ _)) (Nat.le_refl _)) ok2 (by simp) (by omega) (by omega)).mono ?_
    rintro e w1 ⟨rfl, hb1⟩
    have HB1 := Lib.hid (HB.out.step hb1)
    have hb01 : Below w.heap.size w w1 := bl_trans (bl_alloc (Below.refl _ _)) hb1
    have HB01 := Lib.hid hb01
    rw [HV.out]
    have hz := hb1.size
    clear hb01
    go_wp2_with fail
    refine (l02Wrong_any (B := w.heap.size) w.heap.size ⟨wd, hg, ps⟩ a1 cap1 pl a2 cap2 fs _ HB1.out HA.out.1 (h1.below HB01.out (Nat.le_refl _)) ok1 HA.out.2.2.1 HA.out.2.1 (h2.below HB01.out (Nat.le_refl _)) HA.out.2.2.2.1 n2 HB01.out.size).mono ?_
    rintro e w2 ⟨rfl, hb2⟩
    have hb02 := bl_trans HB01.out hb2
    simp only
    have HC := Lib.hid HG.out.1
    have HVv := Lib.hid HG.out.2.1
    clear HG
    generalize firstWrong ps pl fs = fw at HC HVv ⊢
    by_cases hneg : fw < 0
    · rw [if_pos hneg] at HC HVv
      go_wp2
      go_ret2
      exact ⟨by rw [HC.out, HVv.out]; rfl, hb02⟩
    · rw [if_neg hneg] at HC HVv
      go_wp2
      go_ret2
      exact ⟨by rw [HC.out, HVv.out]; rfl, hb02⟩
  · have HG := Lib.hid (gv_1 _ _ _ g0)
    clear g0
    go_enter Try.func10, Try.ntmps10
    go_wp2_with fail
    refine (l02Given_any (B := w.heap.size) w.heap.size ⟨wd, hg, ps⟩ a1 cap1 pl a2 cap2 fs _ HB.out hok (show ps.length ≤ 10000000 by omega) (h1.below (bl_alloc (Below.refl _ _)) (Nat.le_refl _)) ok1 (h2.below (bl_alloc (Below.refl _ _)) (Nat.le_refl _)) ok2 (by simp) (by omega) (by omega)).mono ?_
    rintro e w1 ⟨rfl, hb1⟩
    have hb01 : Below w.heap.size w w1 := bl_trans (bl_alloc (Below.refl _ _)) hb1
    have hg12 := HG.out.1
    have HC := Lib.hid HG.out.2.1
    have HVv := Lib.hid HG.out.2.2.1
    clear HG
    generalize givenV ⟨wd, hg, ps⟩ pl fs = gv at hg12 HC ⊢
    have gne : (gv != 0) = true := by rcases hg12 with rfl | rfl <;> rfl
    clear hg12
    go_wp2
    go_ret2
    exact ⟨by rw [HC.out, HVv.out]; rfl, hb01⟩
theorem specCheckFalls_any (wd hg : Int) (s : Value) (ps : List Pc) (v1 : Value) (pl : List Pu) (v2 : Value) (fs : List Fa) (w : World) (hps : PV w s ps) (hok : (Bd.mk wd hg ps).ok) (hn : ps.length ≤ 9000000)
    (h1 : SV Pu.cells w v1 pl) (ok1 : PusOk pl) (n1 : pl.length ≤ 9000000) (h2 : SV Fa.cells w v2 fs) (ok2 : FasOk fs) (n2 : fs.length ≤ 9000000) :
    Calls Try.prog 18 #[bdv wd hg s, v1, v2] w fun e w' => e = .returned (.tuple #[.bool (cfVal ⟨wd, hg, ps⟩ pl fs), .int .i64 (givenV ⟨wd, hg, ps⟩ pl fs)]) ∧ Below w.heap.size w w' := by
  obtain ⟨a, cap, rfl, hps⟩ := hps
  obtain ⟨a1, cap1, rfl, h1⟩ := h1
  obtain ⟨a2, cap2, rfl, h2⟩ := h2
  have HB := Lib.hid (BP.new (l := ⟨wd, hg, ps⟩) (w := w) ⟨a, cap, rfl, hps⟩ 35)
  rcases Bool.eq_false_or_eq_true ((vBd ⟨wd, hg, ps⟩ && vPus ⟨wd, hg, ps⟩ pl) && vFas fs) with g0 | g0
  · have HG := Lib.hid (gv_fw _ _ _ g0)
    have HA := Lib.hid (gv_all _ _ _ g0)
    have HV := Lib.hid (gv_0 _ _ _ g0)
    clear g0
    go_enter Try.func18, Try.ntmps18
    go_wp2_with fail
    refine (l02Given_any (B := w.heap.size) w.heap.size ⟨wd, hg, ps⟩ a1 cap1 pl a2 cap2 fs _ HB.out hok (show ps.length ≤ 10000000 by omega) (h1.below (bl_alloc (Below.refl _ _)) (Nat.le_refl _)) ok1 (h2.below (bl_alloc (Below.refl _ _)) (Nat.le_refl _)) ok2 (by simp) (by omega) (by omega)).mono ?_
    rintro e w1 ⟨rfl, hb1⟩
    have HB1 := Lib.hid (HB.out.step hb1)
    have hb01 : Below w.heap.size w w1 := bl_trans (bl_alloc (Below.refl _ _)) hb1
    have HB01 := Lib.hid hb01
    have hv0 := HV.out
    rw [hv0]
    have hz := hb1.size
    clear hb01 hv0
    go_wp2_with fail
    refine (l02Wrong_any (B := w.heap.size) w.heap.size ⟨wd, hg, ps⟩ a1 cap1 pl a2 cap2 fs _ HB1.out HA.out.1 (h1.below HB01.out (Nat.le_refl _)) ok1 HA.out.2.2.1 HA.out.2.1 (h2.below HB01.out (Nat.le_refl _)) HA.out.2.2.2.1 n2 HB01.out.size).mono ?_
    rintro e w2 ⟨rfl, hb2⟩
    have hb02 := bl_trans HB01.out hb2
    simp only
    have HVv := Lib.hid HG.out.2.2
    clear HG
    generalize firstWrong ps pl fs = fw at HVv ⊢
    go_wp2
    go_ret2
    exact ⟨by rw [HV.out, HVv.out]; rfl, hb02⟩
  · have HG := Lib.hid (gv_1 _ _ _ g0)
    clear g0
    go_enter Try.func18, Try.ntmps18
    go_wp2_with fail
    refine (l02Given_any (B := w.heap.size) w.heap.size ⟨wd, hg, ps⟩ a1 cap1 pl a2 cap2 fs _ HB.out hok (show ps.length ≤ 10000000 by omega) (h1.below (bl_alloc (Below.refl _ _)) (Nat.le_refl _)) ok1 (h2.below (bl_alloc (Below.refl _ _)) (Nat.le_refl _)) ok2 (by simp) (by omega) (by omega)).mono ?_
    rintro e w1 ⟨rfl, hb1⟩
    have hb01 : Below w.heap.size w w1 := bl_trans (bl_alloc (Below.refl _ _)) hb1
    have hg12 := HG.out.1
    have HVv := Lib.hid HG.out.2.2.2
    clear HG
    generalize hgv : givenV ⟨wd, hg, ps⟩ pl fs = gv at hg12 ⊢
    have HGV := Lib.hid hgv
    clear hgv
    have gne : (gv != 0) = true := by rcases hg12 with rfl | rfl <;> rfl
    clear hg12
    go_wp2
    go_ret2
    exact ⟨by rw [HVv.out, HGV.out]; rfl, hb01⟩
end Go.Proofs.Ytollihgjcmiolaa
/- Hits as rows of four numbers. -/
namespace Go.Proofs.Ytollihgjcmiolaa
open Go.RowKit
set_option linter.unusedVariables false
set_option linter.unusedSimpArgs false
set_option maxHeartbeats 400000
set_option maxRecDepth 100000
structure Hi where
  t : Int
  p : Int
  s : Int
  b : Int
  deriving Inhabited, DecidableEq
/-- What a hit of the program holds: a tick, a piece, a side, by whom. -/
def Hi.ok (h : Hi) : Prop := (-9223372036854775808 ≤ h.t ∧ h.t ≤ 9223372036854775807) ∧ (-1 ≤ h.p ∧ h.p ≤ 1000) ∧ (0 ≤ h.s ∧ h.s ≤ 3) ∧ (-1 ≤ h.b ∧ h.b ≤ 1000)
def HisOk (ps : List Hi) : Prop := ∀ k (h : k < ps.length), ps[k].ok
def Hi.cells (p : Hi) : List Value := [.int .i64 p.t, .int .i64 p.p, .int .i64 p.s, .int .i64 p.b]
abbrev Hi.val (p : Hi) : Value := .agg #[.int .i64 p.t, .int .i64 p.p, .int .i64 p.s, .int .i64 p.b]
theorem Hi.len (p : Hi) : (Hi.cells p).length = 4 := rfl
theorem Hi.one (p : Hi) : ∀ u ∈ Hi.cells p, u.oneCell' = true := by
  intro u hu
  simp only [Hi.cells, List.mem_cons, List.not_mem_nil, or_false] at hu
  rcases hu with rfl | rfl | rfl | rfl <;> rfl
def HiAt (w : World) (b off : Nat) (p : Hi) : Prop :=
  w.cell? ⟨b, off, none⟩ = some (.int .i64 p.t) ∧ w.cell? ⟨b, off + 1, none⟩ = some (.int .i64 p.p) ∧ w.cell? ⟨b, off + 2, none⟩ = some (.int .i64 p.s) ∧ w.cell? ⟨b, off + 3, none⟩ = some (.int .i64 p.b)
theorem his_get {B : Nat} {w : World} {a : Option Addr} {ps : List Hi} (h : SlAt B w a (flat Hi.cells ps)) {k : Nat} (hk : k < ps.length) :
    ∃ b off, a = some ⟨b, off, none⟩ ∧ b < B ∧ HiAt w b (off + k * 4) ps[k] := by
  obtain ⟨b, off, h1, h2, h3⟩ := SlAt.get Hi.len (by omega) h hk
  exact ⟨b, off, h1, h2, h3 0 _ rfl, h3 1 _ rfl, h3 2 _ rfl, h3 3 _ rfl⟩
theorem Try.infoHit : (Try.prog.info? 89).map (fun i => (i.zero, i.size, i.bytes)) = some (some (.agg #[.int .i64 0, .int .i64 0, .int .i64 0, .int .i64 0]), 4, 32) := by kernel_rfl
end Go.Proofs.Ytollihgjcmiolaa
/- Contracts: functions of package slices over pushes, falls, hits. -/
namespace Go.Proofs.Ytollihgjcmiolaa
open Go.RowKit
set_option linter.unusedVariables false
set_option linter.unusedSimpArgs false
set_option maxHeartbeats 400000
set_option maxRecDepth 100000

theorem indexFuncPu_any {B : Nat} (K : Nat) (caps : Array Value) (a : Option Addr) (cap : Nat) (ps : List Pu) (w : World) (hps : SlAt B w a (flat Pu.cells ps)) (hok : PusOk ps) (hB : B ≤ w.heap.size) (hn : ps.length ≤ 10000000) 
   (eg : ∀ (args : Array Value) (w : World), (callFunc K args).run Try.prog w = .ok (.enter K args) w) (q : Pu → Bool) (hf : ∀ (p : Pu) (w1 : World), p.ok → Below w.heap.size w w1 → Calls Try.prog K (#[p.val] ++ caps) w1 fun e w' => e = .returned (.bool (q p)) ∧ Below w1.heap.size w1 w'):
    Calls Try.prog 91 #[.slice a ps.length cap, .func (.func K) #[] caps] w fun e w' => e = .returned (.int .i64 ((ps.findIdx? q).elim (-1) (fun n => (n : Int)))) ∧ Below w.heap.size w w' := by
  go_enter Try.func91, Try.ntmps91
  go_wp2
  go_loopw [8] (fun i wr => ∃ k : Nat, k ≤ ps.length ∧ i = .int .i64 k ∧ (ps.take k).findIdx? q = none ∧ Below w.heap.size w wr) (fun i _ => ps.length - (intOf i).toNat)
  case atStart => exact ⟨0, by omega, rfl, by simp, Below.refl _ _⟩
  case round =>
    obtain ⟨k, hk, rfl, hfi, hb⟩ := hrel
    have Hfi := Lib.hid hfi; clear hfi
    by_cases hlt : k < ps.length
    · obtain ⟨b, off, rfl, hbl, hat⟩ := pus_get (hps.below hb hB) hlt
      unfold PuAt at hat
      have Hf := Lib.hid hf; clear hf
      go_wp2_with (refine (Hf.out ps[k] _ (hok k hlt) hb).mono ?_; rintro e w' ⟨rfl, hb2⟩)
      · have h1 : q ps[k] = true := by assumption
        go_ret
        refine ⟨?_, (by repeat (first | with_reducible exact Below.refl _ _ | with_reducible assumption | with_reducible apply bl_drewN | with_reducible apply bl_drew | with_reducible apply bl_alloc | (with_reducible refine bl_set ?_ (by first | (simp; done) | (simp; omega)) _) | with_reducible refine bl_trans ?_ (by with_reducible assumption)))⟩
        have h2 : ps.findIdx? q = some k := by
          rw [List.findIdx?_eq_some_iff_getElem]
          refine ⟨hlt, h1, fun j hj => ?_⟩
          have h3 := Hfi.out
          rw [List.findIdx?_eq_none_iff] at h3
          have := h3 ps[j] (by rw [List.mem_take_iff_getElem]; exact ⟨j, by omega, rfl⟩)
          simpa using this
        rw [h2]; rfl
      · have h1 : q ps[k] = false := by assumption
        go_roundw
        case rel => exact ⟨k + 1, by omega, by go_num, by have := Hfi.out; rw [List.take_succ_eq_append_getElem hlt, List.findIdx?_append, this]; simp [h1], (by repeat (first | with_reducible exact Below.refl _ _ | with_reducible assumption | with_reducible apply bl_drewN | with_reducible apply bl_drew | with_reducible apply bl_alloc | (with_reducible refine bl_set ?_ (by first | (simp; done) | (simp; omega)) _) | with_reducible refine bl_trans ?_ (by with_reducible assumption)))⟩
        case measure => simp [intOf]; omega
    · go_wp2
      go_ret
      refine ⟨?_, (by repeat (first | with_reducible exact Below.refl _ _ | with_reducible assumption | with_reducible apply bl_drewN | with_reducible apply bl_drew | with_reducible apply bl_alloc | (with_reducible refine bl_set ?_ (by first | (simp; done) | (simp; omega)) _) | with_reducible refine bl_trans ?_ (by with_reducible assumption)))⟩
      have h2 := Hfi.out
      rw [List.take_of_length_le (by omega)] at h2
      rw [h2]; rfl
theorem containsFuncPu_any {B : Nat} (K : Nat) (caps : Array Value) (a : Option Addr) (cap : Nat) (ps : List Pu) (w : World) (hps : SlAt B w a (flat Pu.cells ps)) (hok : PusOk ps) (hB : B ≤ w.heap.size) (hn : ps.length ≤ 10000000)
   (eg : ∀ (args : Array Value) (w : World), (callFunc K args).run Try.prog w = .ok (.enter K args) w) (q : Pu → Bool) (hf : ∀ (p : Pu) (w1 : World), p.ok → Below w.heap.size w w1 → Calls Try.prog K (#[p.val] ++ caps) w1 fun e w' => e = .returned (.bool (q p)) ∧ Below w1.heap.size w1 w') :
    Calls Try.prog 59 #[.slice a ps.length cap, .func (.func K) #[] caps] w fun e w' => e = .returned (.bool (ps.any q)) ∧ Below w.heap.size w w' := by
  have H := Lib.hid (indexFuncPu_any K caps a cap ps w hps hok hB hn eg q hf)
  have HV := Lib.hid (show decide (0 ≤ (ps.findIdx? q).elim (-1 : Int) (fun n => (n : Int))) = ps.any q by
    cases hf : ps.findIdx? q with
    | none =>
      rw [List.findIdx?_eq_none_iff] at hf
      have : ps.any q = false := by rw [Bool.eq_false_iff]; intro h; rw [List.any_eq_true] at h; obtain ⟨x, hx, hq⟩ := h; rw [hf x hx] at hq; cases hq
      rw [this]; rfl
    | some k =>
      rw [List.findIdx?_eq_some_iff_getElem] at hf
      obtain ⟨h1, h2, -⟩ := hf
      have : ps.any q = true := by rw [List.any_eq_true]; exact ⟨_, List.getElem_mem h1, h2⟩
      rw [this]; simp)
  go_enter Try.func59, Try.ntmps59
  go_wp2_with fail
  refine H.out.mono ?_
  rintro e w1 ⟨rfl, hb⟩
  go_wp2
  go_ret
  exact ⟨by rw [← HV.out]; rfl, (by repeat (first | with_reducible exact Below.refl _ _ | with_reducible assumption | with_reducible apply bl_drewN | with_reducible apply bl_drew | with_reducible apply bl_alloc | (with_reducible refine bl_set ?_ (by first | (simp; done) | (simp; omega)) _) | with_reducible refine bl_trans ?_ (by with_reducible assumption)))⟩
theorem indexFuncFa_any {B : Nat} (K : Nat) (caps : Array Value) (a : Option Addr) (cap : Nat) (ps : List Fa) (w : World) (hps : SlAt B w a (flat Fa.cells ps)) (hok : FasOk ps) (hB : B ≤ w.heap.size) (hn : ps.length ≤ 10000000) 
   (eg : ∀ (args : Array Value) (w : World), (callFunc K args).run Try.prog w = .ok (.enter K args) w) (q : Fa → Bool) (hf : ∀ (p : Fa) (w1 : World), p.ok → Below w.heap.size w w1 → Calls Try.prog K (#[p.val] ++ caps) w1 fun e w' => e = .returned (.bool (q p)) ∧ Below w1.heap.size w1 w'):
    Calls Try.prog 63 #[.slice a ps.length cap, .func (.func K) #[] caps] w fun e w' => e = .returned (.int .i64 ((ps.findIdx? q).elim (-1) (fun n => (n : Int)))) ∧ Below w.heap.size w w' := by
  go_enter Try.func63, Try.ntmps63
  go_wp2
  go_loopw [8] (fun i wr => ∃ k : Nat, k ≤ ps.length ∧ i = .int .i64 k ∧ (ps.take k).findIdx? q = none ∧ Below w.heap.size w wr) (fun i _ => ps.length - (intOf i).toNat)
  case atStart => exact ⟨0, by omega, rfl, by simp, Below.refl _ _⟩
  case round =>
    obtain ⟨k, hk, rfl, hfi, hb⟩ := hrel
    have Hfi := Lib.hid hfi; clear hfi
    by_cases hlt : k < ps.length
    · obtain ⟨b, off, rfl, hbl, hat⟩ := fas_get (hps.below hb hB) hlt
      unfold FaAt at hat
      have Hf := Lib.hid hf; clear hf
      go_wp2_with (refine (Hf.out ps[k] _ (hok k hlt) hb).mono ?_; rintro e w' ⟨rfl, hb2⟩)
      · have h1 : q ps[k] = true := by assumption
        go_ret
        refine ⟨?_, (by repeat (first | with_reducible exact Below.refl _ _ | with_reducible assumption | with_reducible apply bl_drewN | with_reducible apply bl_drew | with_reducible apply bl_alloc | (with_reducible refine bl_set ?_ (by first | (simp; done) | (simp; omega)) _) | with_reducible refine bl_trans ?_ (by with_reducible assumption)))⟩
        have h2 : ps.findIdx? q = some k := by
          rw [List.findIdx?_eq_some_iff_getElem]
          refine ⟨hlt, h1, fun j hj => ?_⟩
          have h3 := Hfi.out
          rw [List.findIdx?_eq_none_iff] at h3
          have := h3 ps[j] (by rw [List.mem_take_iff_getElem]; exact ⟨j, by omega, rfl⟩)
          simpa using this
        rw [h2]; rfl
      · have h1 : q ps[k] = false := by assumption
        go_roundw
        case rel => exact ⟨k + 1, by omega, by go_num, by have := Hfi.out; rw [List.take_succ_eq_append_getElem hlt, List.findIdx?_append, this]; simp [h1], (by repeat (first | with_reducible exact Below.refl _ _ | with_reducible assumption | with_reducible apply bl_drewN | with_reducible apply bl_drew | with_reducible apply bl_alloc | (with_reducible refine bl_set ?_ (by first | (simp; done) | (simp; omega)) _) | with_reducible refine bl_trans ?_ (by with_reducible assumption)))⟩
        case measure => simp [intOf]; omega
    · go_wp2
      go_ret
      refine ⟨?_, (by repeat (first | with_reducible exact Below.refl _ _ | with_reducible assumption | with_reducible apply bl_drewN | with_reducible apply bl_drew | with_reducible apply bl_alloc | (with_reducible refine bl_set ?_ (by first | (simp; done) | (simp; omega)) _) | with_reducible refine bl_trans ?_ (by with_reducible assumption)))⟩
      have h2 := Hfi.out
      rw [List.take_of_length_le (by omega)] at h2
      rw [h2]; rfl
theorem containsFuncFa_any {B : Nat} (K : Nat) (caps : Array Value) (a : Option Addr) (cap : Nat) (ps : List Fa) (w : World) (hps : SlAt B w a (flat Fa.cells ps)) (hok : FasOk ps) (hB : B ≤ w.heap.size) (hn : ps.length ≤ 10000000)
   (eg : ∀ (args : Array Value) (w : World), (callFunc K args).run Try.prog w = .ok (.enter K args) w) (q : Fa → Bool) (hf : ∀ (p : Fa) (w1 : World), p.ok → Below w.heap.size w w1 → Calls Try.prog K (#[p.val] ++ caps) w1 fun e w' => e = .returned (.bool (q p)) ∧ Below w1.heap.size w1 w') :
    Calls Try.prog 34 #[.slice a ps.length cap, .func (.func K) #[] caps] w fun e w' => e = .returned (.bool (ps.any q)) ∧ Below w.heap.size w w' := by
  have H := Lib.hid (indexFuncFa_any K caps a cap ps w hps hok hB hn eg q hf)
  have HV := Lib.hid (show decide (0 ≤ (ps.findIdx? q).elim (-1 : Int) (fun n => (n : Int))) = ps.any q by
    cases hf : ps.findIdx? q with
    | none =>
      rw [List.findIdx?_eq_none_iff] at hf
      have : ps.any q = false := by rw [Bool.eq_false_iff]; intro h; rw [List.any_eq_true] at h; obtain ⟨x, hx, hq⟩ := h; rw [hf x hx] at hq; cases hq
      rw [this]; rfl
    | some k =>
      rw [List.findIdx?_eq_some_iff_getElem] at hf
      obtain ⟨h1, h2, -⟩ := hf
      have : ps.any q = true := by rw [List.any_eq_true]; exact ⟨_, List.getElem_mem h1, h2⟩
      rw [this]; simp)
  go_enter Try.func34, Try.ntmps34
  go_wp2_with fail
  refine H.out.mono ?_
  rintro e w1 ⟨rfl, hb⟩
  go_wp2
  go_ret
  exact ⟨by rw [← HV.out]; rfl, (by repeat (first | with_reducible exact Below.refl _ _ | with_reducible assumption | with_reducible apply bl_drewN | with_reducible apply bl_drew | with_reducible apply bl_alloc | (with_reducible refine bl_set ?_ (by first | (simp; done) | (simp; omega)) _) | with_reducible refine bl_trans ?_ (by with_reducible assumption)))⟩
theorem indexFuncHi_any {B : Nat} (K : Nat) (caps : Array Value) (a : Option Addr) (cap : Nat) (ps : List Hi) (w : World) (hps : SlAt B w a (flat Hi.cells ps)) (hok : HisOk ps) (hB : B ≤ w.heap.size) (hn : ps.length ≤ 10000000) 
   (eg : ∀ (args : Array Value) (w : World), (callFunc K args).run Try.prog w = .ok (.enter K args) w) (q : Hi → Bool) (hf : ∀ (p : Hi) (w1 : World), p.ok → Below w.heap.size w w1 → Calls Try.prog K (#[p.val] ++ caps) w1 fun e w' => e = .returned (.bool (q p)) ∧ Below w1.heap.size w1 w'):
    Calls Try.prog 96 #[.slice a ps.length cap, .func (.func K) #[] caps] w fun e w' => e = .returned (.int .i64 ((ps.findIdx? q).elim (-1) (fun n => (n : Int)))) ∧ Below w.heap.size w w' := by
  go_enter Try.func96, Try.ntmps96
  go_wp2
  go_loopw [8] (fun i wr => ∃ k : Nat, k ≤ ps.length ∧ i = .int .i64 k ∧ (ps.take k).findIdx? q = none ∧ Below w.heap.size w wr) (fun i _ => ps.length - (intOf i).toNat)
  case atStart => exact ⟨0, by omega, rfl, by simp, Below.refl _ _⟩
  case round =>
    obtain ⟨k, hk, rfl, hfi, hb⟩ := hrel
    have Hfi := Lib.hid hfi; clear hfi
    by_cases hlt : k < ps.length
    · obtain ⟨b, off, rfl, hbl, hat⟩ := his_get (hps.below hb hB) hlt
      unfold HiAt at hat
      have Hf := Lib.hid hf; clear hf
      go_wp2_with (refine (Hf.out ps[k] _ (hok k hlt) hb).mono ?_; rintro e w' ⟨rfl, hb2⟩)
      · have h1 : q ps[k] = true := by assumption
        go_ret
        refine ⟨?_, (by repeat (first | with_reducible exact Below.refl _ _ | with_reducible assumption | with_reducible apply bl_drewN | with_reducible apply bl_drew | with_reducible apply bl_alloc | (with_reducible refine bl_set ?_ (by first | (simp; done) | (simp; omega)) _) | with_reducible refine bl_trans ?_ (by with_reducible assumption)))⟩
        have h2 : ps.findIdx? q = some k := by
          rw [List.findIdx?_eq_some_iff_getElem]
          refine ⟨hlt, h1, fun j hj => ?_⟩
          have h3 := Hfi.out
          rw [List.findIdx?_eq_none_iff] at h3
          have := h3 ps[j] (by rw [List.mem_take_iff_getElem]; exact ⟨j, by omega, rfl⟩)
          simpa using this
        rw [h2]; rfl
      · have h1 : q ps[k] = false := by assumption
        go_roundw
        case rel => exact ⟨k + 1, by omega, by go_num, by have := Hfi.out; rw [List.take_succ_eq_append_getElem hlt, List.findIdx?_append, this]; simp [h1], (by repeat (first | with_reducible exact Below.refl _ _ | with_reducible assumption | with_reducible apply bl_drewN | with_reducible apply bl_drew | with_reducible apply bl_alloc | (with_reducible refine bl_set ?_ (by first | (simp; done) | (simp; omega)) _) | with_reducible refine bl_trans ?_ (by with_reducible assumption)))⟩
        case measure => simp [intOf]; omega
    · go_wp2
      go_ret
      refine ⟨?_, (by repeat (first | with_reducible exact Below.refl _ _ | with_reducible assumption | with_reducible apply bl_drewN | with_reducible apply bl_drew | with_reducible apply bl_alloc | (with_reducible refine bl_set ?_ (by first | (simp; done) | (simp; omega)) _) | with_reducible refine bl_trans ?_ (by with_reducible assumption)))⟩
      have h2 := Hfi.out
      rw [List.take_of_length_le (by omega)] at h2
      rw [h2]; rfl
theorem zeroHi (w : World) : (zeroValue 89).run Try.prog w = .ok (Hi.val ⟨0, 0, 0, 0⟩) w := by kernel_rfl
theorem Hi.one0 : ∀ u ∈ (Hi.val ⟨0, 0, 0, 0⟩).cells.toList, u.oneCell' = true := by
  intro u hu
  exact Hi.one ⟨0, 0, 0, 0⟩ u hu
set_option maxRecDepth 100000 in
theorem deleteFuncHi_any (K : Nat) (caps : Array Value) (base : Nat) (v : Value) (ps : List Hi) (w : World) (hown : w.ownsRow base 89 4 v ps.length (flat Hi.cells ps)) (hok : HisOk ps) (hn : ps.length ≤ 10000000) (hbw : base ≤ w.heap.size)
   (eg : ∀ (args : Array Value) (w : World), (callFunc K args).run Try.prog w = .ok (.enter K args) w) (q : Hi → Bool) (hf : ∀ (p : Hi) (w1 : World), p.ok → Below base w w1 → Calls Try.prog K (#[p.val] ++ caps) w1 fun e w' => e = .returned (.bool (q p)) ∧ Below w1.heap.size w1 w'):
    Calls Try.prog 69 #[v, .func (.func K) #[] caps] w fun e w' => ∃ v', e = .returned v' ∧ w'.ownsRow base 89 4 v' (ps.filter (fun p => !q p)).length (flat Hi.cells (ps.filter (fun p => !q p))) ∧ Below base w w' := by
  rcases id hown.2 with ⟨rfl, hnil⟩ | ⟨g, cap, cur, rfl, -⟩
  · have hp : ps = [] := List.eq_nil_of_length_eq_zero hnil
    subst hp
    have CI := Lib.hid (indexFuncHi_any K caps none 0 ([] : List Hi) w (fun j hj => by simp [flat] at hj) hok (Nat.le_refl _) (by simp) eg q (fun p w1 hp hb => hf p w1 hp (hb.mono hbw)))
    go_enter Try.func69, Try.ntmps69
    go_wp2_with fail
    refine CI.out.mono ?_
    rintro e w1 ⟨rfl, hb1⟩
    go_wp2
    go_ret
    exact ⟨_, rfl, World.ownsRow_nil w1 base 89 4, hb1.mono hbw⟩
  · have hown0 := hown
    obtain ⟨hl1, hl2⟩ := hown.lt g rfl
    have hsl : SlAt w.heap.size w (some ⟨g, 0, none⟩) (flat Hi.cells ps) := by obtain ⟨a', cap', he, h, -⟩ := own_at hown; cases he; exact h
    have CI := Lib.hid (indexFuncHi_any K caps (some ⟨g, 0, none⟩) cap ps w hsl hok (Nat.le_refl _) hn eg q (fun p w1 hp hb => hf p w1 hp (hb.mono (by omega))))
    have Hf := Lib.hid hf; clear hf
    cases hfi : ps.findIdx? q with
    | none =>
      rw [hfi] at CI
      simp only [Option.elim] at CI
      go_enter Try.func69, Try.ntmps69
      go_wp2_with fail
      refine CI.out.mono ?_
      rintro e w1 ⟨rfl, hb1⟩
      go_wp2
      go_ret
      have hall : ps.filter (fun p => !q p) = ps := by
        rw [List.findIdx?_eq_none_iff] at hfi
        rw [List.filter_eq_self]
        intro x hx; simpa using hfi x hx
      refine ⟨_, rfl, ?_, hb1.mono (by omega)⟩
      rw [hall]
      exact own_below hown hb1 (Nat.le_refl _)
    | some k0 =>
      rw [hfi] at CI
      simp only [Option.elim] at CI
      rw [List.findIdx?_eq_some_iff_getElem] at hfi
      obtain ⟨hk0, hq0, hpre⟩ := hfi
      have hstart : (ps.take (k0 + 1)).filter (fun p => !q p) = ps.take k0 := by
        rw [List.take_succ_eq_append_getElem hk0, List.filter_append, List.filter_cons, List.filter_nil, hq0]
        simp only [Bool.not_true, Bool.false_eq_true, if_false, List.append_nil]
        rw [List.filter_eq_self]
        intro x hx
        rw [List.mem_take_iff_getElem] at hx
        obtain ⟨i, hi, rfl⟩ := hx
        simpa using hpre i (by omega)
      have Hst := Lib.hid hstart
      have Hq := Lib.hid hpre
      clear hstart hpre hq0
      go_enter Try.func69, Try.ntmps69
      go_wp2_with fail
      refine CI.out.mono ?_
      rintro e w1 ⟨rfl, hb1⟩
      have hown1 := own_below hown hb1 (Nat.le_refl _)
      have hz1 := hb1.size
      go_wp2
      go_loopw [5, 6, 7] (fun i j _ wr => ∃ j' : Nat, ∃ A M : List Hi, j' ≤ ps.length ∧ j = .int .i64 j' ∧ i = .int .i64 A.length ∧ A = (ps.take j').filter (fun p => !q p) ∧ A.length + M.length = j' ∧ 1 ≤ M.length ∧ wr.ownsRow base 89 4 (Value.slice (some { block := g, off := 0 }) ps.length cap) ps.length (flat Hi.cells (A ++ M ++ ps.drop j')) ∧ Below base w wr ∧ g < wr.heap.size ∧ base ≤ wr.heap.size) (fun _ j _ _ => ps.length - (intOf j).toNat)
      case atStart => exact ⟨k0 + 1, ps.take k0, [ps[k0]], by omega, by go_num, by rw [List.length_take, Nat.min_eq_left (by omega)], Hst.out.symm, by simp; omega, by simp, by rw [List.append_assoc, List.singleton_append, ← List.drop_eq_getElem_cons hk0, List.take_append_drop]; exact hown1, hb1.mono (by omega), by omega, by omega⟩
      case round =>
        clear hown hown0 hown1 hb1 hsl
        obtain ⟨j, A, M, hj, rfl, rfl, hA, hAM, hM, hown, hb, hg, hbz⟩ := hrel
        have HA := Lib.hid hA; clear hA
        by_cases hlt : j < ps.length
        · have hat : HiAt wr g (j * 4) ps[j] := by
            have hL : (A ++ M ++ ps.drop j)[j]? = some ps[j] := by
              rw [List.getElem?_append_right (by simp; omega)]
              simp [hAM, List.getElem?_eq_getElem hlt]
            have hL2 : j < (A ++ M ++ ps.drop j).length := by simp; omega
            have hL3 : (A ++ M ++ ps.drop j)[j] = ps[j] := by
              rw [List.getElem?_eq_getElem hL2] at hL; exact Option.some.inj hL
            have c0 := flat_get Hi.len (A ++ M ++ ps.drop j) j 0 hL2 (by omega)
            have c1 := flat_get Hi.len (A ++ M ++ ps.drop j) j 1 hL2 (by omega)
            have c2 := flat_get Hi.len (A ++ M ++ ps.drop j) j 2 hL2 (by omega)
            have c3 := flat_get Hi.len (A ++ M ++ ps.drop j) j 3 hL2 (by omega)
            rw [hL3] at c0 c1 c2 c3
            refine ⟨?_, ?_, ?_, ?_⟩
            · rw [hown.cellAt (j * 4) (by omega)]; simpa [Hi.cells] using c0
            · rw [hown.cellAt (j * 4 + 1) (by omega)]; simpa [Hi.cells] using c1
            · rw [hown.cellAt (j * 4 + 2) (by omega)]; simpa [Hi.cells] using c2
            · rw [hown.cellAt (j * 4 + 3) (by omega)]; simpa [Hi.cells] using c3
          have hat0 := hat
          unfold HiAt at hat
          go_wp2_with fail
          refine (Hf.out ps[j] _ (hok j hlt) ?_).mono ?_
          · exact (hb.alloc hbz _)
          rintro e w2 ⟨rfl, hb2⟩
          have hown2 := own_below (own_below hown (bl_alloc (o := .cells #[.int .i64 ps[j].t, .int .i64 ps[j].p, .int .i64 ps[j].s, .int .i64 ps[j].b] 89) (Below.refl _ wr)) (Nat.le_refl _)) hb2 (Nat.le_refl _)
          have hz2 := hb2.size
          simp at hz2
          have hB2 : Below base w w2 := (hb.alloc hbz _).trans (hb2.mono (by simp; omega))
          obtain ⟨hc2, hf2⟩ := bcell hb2
          have hh := heap_alloc_new wr (.cells #[.int .i64 ps[j].t, .int .i64 ps[j].p, .int .i64 ps[j].s, .int .i64 ps[j].b] 89)
          have x0 : w2.cell? ⟨wr.heap.size, 0, none⟩ = some (.int .i64 ps[j].t) := by rw [hc2 _ _ (by simp), cell_of_row _ _ _ _ _ _ hh]; rfl
          have x1 : w2.cell? ⟨wr.heap.size, 1, none⟩ = some (.int .i64 ps[j].p) := by rw [hc2 _ _ (by simp), cell_of_row _ _ _ _ _ _ hh]; rfl
          have x2 : w2.cell? ⟨wr.heap.size, 2, none⟩ = some (.int .i64 ps[j].s) := by rw [hc2 _ _ (by simp), cell_of_row _ _ _ _ _ _ hh]; rfl
          have x3 : w2.cell? ⟨wr.heap.size, 3, none⟩ = some (.int .i64 ps[j].b) := by rw [hc2 _ _ (by simp), cell_of_row _ _ _ _ _ _ hh]; rfl
          clear hh hc2 hf2
          have hne : g ≠ wr.heap.size := by omega
          have hle : A.length < ps.length := by omega
          obtain ⟨⟨v0, c0⟩, f0⟩ := own_cell hown2 (j := A.length * 4) (by omega)
          obtain ⟨⟨v1, c1⟩, f1⟩ := own_cell hown2 (j := A.length * 4 + 1) (by omega)
          obtain ⟨⟨v2, c2⟩, f2⟩ := own_cell hown2 (j := A.length * 4 + 2) (by omega)
          obtain ⟨⟨v3, c3⟩, f3⟩ := own_cell hown2 (j := A.length * 4 + 3) (by omega)
          go_wp2
          · have h1 : (!q ps[j]) = true := by assumption
            have hown3 := own_setCells (ps[j].cells) (A := flat Hi.cells A) (R := flat Hi.cells (M ++ ps.drop j)) (j := A.length * 4) (by rw [← flat_append, ← List.append_assoc]; exact hown2) (by rw [flat_length Hi.len]) (by rw [flat_length Hi.len]; simp [Hi.cells]; omega)
            cases M with
            | nil => simp at hM
            | cons m M =>
              rw [List.cons_append, flat_cons, List.drop_left' (by rfl), List.drop_eq_getElem_cons hlt] at hown3
              clear c0 c1 c2 c3 f0 f1 f2 f3 hown hown2 hat hat0 x0 x1 x2 x3
              refine ⟨?_, ?measure⟩; (repeat apply Exists.intro); refine ⟨?rel, rfl⟩
              case rel =>
                refine ⟨j + 1, A ++ [ps[j]], M ++ [ps[j]], by omega, by go_num, by simp, ?_, by simp only [List.length_append, List.length_cons, List.length_nil] at hAM ⊢; omega, by simp, ?_, ?_, by simp; omega, by simp; omega⟩
                · rw [List.take_succ_eq_append_getElem hlt, List.filter_append, List.filter_cons, List.filter_nil, h1, ← HA.out]; rfl
                · have e : flat Hi.cells (A ++ [ps[j]] ++ (M ++ [ps[j]]) ++ ps.drop (j + 1)) = flat Hi.cells A ++ ps[j].cells ++ flat Hi.cells (M ++ ps[j] :: ps.drop (j + 1)) := by
                    simp [flat_append, flat_cons, flat_nil]
                  rw [e]; exact hown3
                · exact (((hB2.setCell (by simpa using hl1) _).setCell (by simpa using hl1) _).setCell (by simpa using hl1) _).setCell (by simpa using hl1) _
              case measure => simp [intOf]; omega
          · have h1 : (!q ps[j]) = false := by assumption
            clear c0 c1 c2 c3 f0 f1 f2 f3 hown hat hat0 x0 x1 x2 x3
            refine ⟨?_, ?measure⟩; (repeat apply Exists.intro); refine ⟨?rel, rfl⟩
            case rel =>
              refine ⟨j + 1, A, M ++ [ps[j]], by omega, by go_num, rfl, ?_, by simp; omega, by simp, ?_, hB2, by omega, by omega⟩
              · rw [List.take_succ_eq_append_getElem hlt, List.filter_append, List.filter_cons, List.filter_nil, h1, ← HA.out]; simp
              · have e : A ++ (M ++ [ps[j]]) ++ ps.drop (j + 1) = A ++ M ++ ps.drop j := by rw [List.drop_eq_getElem_cons hlt]; simp
                rw [e]; exact hown2
            case measure => simp [intOf]; omega
        · have hjn : j = ps.length := by omega
          subst hjn
          rw [List.drop_length, List.append_nil, flat_append] at hown
          have HA' := HA.out
          rw [List.take_length] at HA'
          have HB := Lib.hid HA'; clear HA'
          have hle : A.length ≤ ps.length := by omega
          have hcap : ps.length ≤ cap := by obtain ⟨a', cap', he, -, h, -⟩ := own_at hown; cases he; exact h
          have hcap2 : A.length ≤ cap := by omega
          obtain ⟨w3, hcl, hown3, hgr⟩ := own_clear (P := Try.prog) (ty := 0) (c := cap - A.length) Try.underlying76 zeroHi (by rfl) Hi.one0 hown (flat_length Hi.len A) hle (by omega)
          have hb3 : Below base w w3 := hb.grown hgr hbz (by intro k hk; cases hk; exact hl1)
          clear hown hb hgr
          go_wp2
          go_ret
          exact ⟨_, rfl, by rw [← HB.out]; exact hown3, hb3⟩
end Go.Proofs.Ytollihgjcmiolaa
/- The run of a board: plain laws about least hits and about a piece that falls. -/
namespace Go.Proofs.Ytollihgjcmiolaa
open Go.RowKit
set_option linter.unusedVariables false
set_option linter.unusedSimpArgs false
set_option maxHeartbeats 400000
set_option maxRecDepth 100000
/-- o is the least of those in S, none where there is none. -/
def Least (S : Ht → Prop) (o : Option Ht) : Prop :=
  match o with
  | none => ∀ m, ¬ S m
  | some m => S m ∧ ∀ x, S x → ltH x m = false
theorem least_best (xs : List Ht) : Least (fun m => m ∈ xs) (bestH xs) := by
  cases h : bestH xs with
  | none => intro m hm; rw [bestH_none xs h] at hm; cases hm
  | some m => exact ⟨bestH_mem xs m h, bestH_le xs m h⟩
theorem least_one {S : Ht → Prop} {o o' : Option Ht} (h : Least S o) (h' : Least S o') : o = o' := by
  cases o with
  | none =>
    cases o' with
    | none => rfl
    | some m => exact absurd h'.1 (h m)
  | some m =>
    cases o' with
    | none => exact absurd h.1 (h' m)
    | some m' => rw [ltH_total (h'.2 m h.1) (h.2 m' h'.1)]
theorem least_iff {S S' : Ht → Prop} {o : Option Ht} (hs : ∀ m, S m ↔ S' m) (h : Least S o) : Least S' o := by
  cases o with
  | none => exact fun m hm => h m ((hs m).2 hm)
  | some m => exact ⟨(hs m).1 h.1, fun x hx => h.2 x ((hs x).2 hx)⟩
theorem ltH_asymm {a b : Ht} (h : ltH a b = true) : ltH b a = false := by
  rw [Bool.eq_false_iff]; intro h2
  have := ltH_trans h h2
  rw [ltH_irrefl] at this; cases this
theorem ltH_ge_trans {x m y : Ht} (h1 : ltH x m = false) (h2 : ltH m y = false) : ltH x y = false := by
  rw [Bool.eq_false_iff] at *
  rw [ne_eq, ltH_iff] at *
  omega
theorem least_add {S : Ht → Prop} {o : Option Ht} (x : Ht) (h : Least S o) : Least (fun m => S m ∨ m = x) (stepH o x) := by
  cases o with
  | none =>
    refine ⟨.inr rfl, fun y hy => ?_⟩
    rcases hy with hy | rfl
    · exact absurd hy (h y)
    · exact ltH_irrefl _
  | some m =>
    unfold stepH
    by_cases hl : ltH x m = true
    · simp only [hl, if_true]
      refine ⟨.inr rfl, fun y hy => ?_⟩
      rcases hy with hy | rfl
      · exact ltH_ge_trans (h.2 y hy) (ltH_asymm hl)
      · exact ltH_irrefl _
    · simp only [hl, if_false, Bool.false_eq_true]
      refine ⟨.inl h.1, fun y hy => ?_⟩
      rcases hy with hy | rfl
      · exact h.2 y hy
      · simpa using hl
theorem least_late {S S' : Ht → Prop} {m : Ht} (h : Least S (some m)) (hS : ∀ x, S x → S' x) (hs : ∀ x, S' x → S x ∨ m.1 < x.1) : Least S' (some m) := by
  refine ⟨hS _ h.1, fun x hx => ?_⟩
  rcases hs x hx with h1 | h1
  · exact h.2 x h1
  · rw [Bool.eq_false_iff, ne_eq, ltH_iff]; omega
theorem nxt_nxt (c : Ce) (hc : c.ok) (s : Int) (h0 : 0 ≤ s) (h3 : s ≤ 3) : nxt (nxt c s) ((s + 2) % 4) = c := nxt_back c _ hc s h0 h3 rfl
theorem fnd_iff (ps : List Pc) (hnd : (ps.map Pc.at_).Nodup) (c : Ce) (k : Nat) : fnd c ps = (k : Int) ↔ ∃ h : k < ps.length, ps[k].at_ = c := by
  unfold fnd
  constructor
  · intro h
    cases hf : ps.findIdx? (fun p => decide (p.at_ = c)) with
    | none => rw [hf] at h; simp only [Option.elim] at h; omega
    | some j =>
      rw [hf] at h
      simp only [Option.elim] at h
      have : j = k := by omega
      subst this
      rw [List.findIdx?_eq_some_iff_getElem] at hf
      obtain ⟨g1, g2, -⟩ := hf
      exact ⟨g1, by simpa using g2⟩
  · rintro ⟨h, hc⟩
    have : ps.findIdx? (fun p => decide (p.at_ = c)) = some k := by
      rw [List.findIdx?_eq_some_iff_getElem]
      refine ⟨h, by simpa using hc, fun j hj => ?_⟩
      simp only [decide_eq_true_eq]
      intro he
      have h1 : (ps.map Pc.at_)[j]'(by simp; omega) = (ps.map Pc.at_)[k]'(by simpa using h) := by simp [he, hc]
      exact List.pairwise_iff_getElem.1 hnd j k (by simp; omega) (by simpa using h) hj h1
    rw [this]; rfl
/-- What falls of the piece a gives its neighbours: over its side s, the piece i the hit m. -/
def newC (ps : List Pc) (a : Nat) (f : Fa) (s i : Nat) (m : Ht) : Prop :=
  max (hitsV (ps.getD a default).k (ps.getD a default).t f.f) 0 / 2 ^ s % 2 = 1 ∧ fnd (nxt (ps.getD a default).at_ (s : Int)) ps = (i : Int) ∧ canH ps i m = true ∧ m = (f.t + (ps.getD a default).d, ((s : Int) + 2) % 4, (a : Int))
theorem getD_set (fs : List Fa) (a k : Nat) (f : Fa) (ha : a < fs.length) : (fs.set a f).getD k default = if k = a then f else fs.getD k default := by
  rw [List.getD_eq_getElem?_getD, List.getD_eq_getElem?_getD, List.getElem?_set]
  by_cases h : a = k
  · rw [if_pos h, if_pos h.symm, if_pos (by omega)]; rfl
  · rw [if_neg h, if_neg (fun e => h e.symm)]
theorem candN1_set (ps : List Pc) (fs : List Fa) (a : Nat) (f : Fa) (hl : fs.length = ps.length) (ha : a < ps.length) (h0 : (fs.getD a default).t = -1) (hf : f.t ≠ -1) (i : Nat) (s : Int) (m : Ht) :
    candN1 ps (fs.set a f) i s = some m ↔ candN1 ps fs i s = some m ∨ (fnd (nxt (ps.getD i default).at_ s) ps = (a : Int) ∧ max (hitsV (ps.getD a default).k (ps.getD a default).t f.f) 0 / 2 ^ ((s + 2) % 4).toNat % 2 = 1 ∧ m = (f.t + (ps.getD a default).d, s, (a : Int))) := by
  unfold candN1
  simp only
  rw [List.length_set, getD_set fs a _ f (by omega)]
  by_cases hk : fnd (nxt (ps.getD i default).at_ s) ps = (a : Int)
  · rw [hk, Int.toNat_natCast, if_pos rfl, h0]
    rw [if_neg (c := 0 ≤ (a : Int) ∧ _ ∧ (-1 : Int) ≠ -1 ∧ _) (fun h => h.2.2.1 rfl)]
    by_cases hb : max (hitsV (ps.getD a default).k (ps.getD a default).t f.f) 0 / 2 ^ ((s + 2) % 4).toNat % 2 = 1
    · rw [if_pos ⟨by omega, by omega, hf, hb⟩]
      simp only [Option.some.injEq, reduceCtorEq, false_or, true_and, hb]
      exact eq_comm
    · rw [if_neg (fun h => hb h.2.2.2)]
      simp only [reduceCtorEq, false_or, hb, false_and, and_false]
  · by_cases hz : 0 ≤ fnd (nxt (ps.getD i default).at_ s) ps
    · rw [if_neg (c := (fnd (nxt (ps.getD i default).at_ s) ps).toNat = a) (fun h => hk (by omega))]
      simp only [hk, false_and, or_false]
    · rw [if_neg (fun h => hz h.1), if_neg (fun h => hz h.1)]
      simp only [hk, false_and, or_false]
theorem dueC_fall (ps : List Pc) (pl : List Pu) (fs : List Fa) (a : Nat) (f : Fa) (hnd : (ps.map Pc.at_).Nodup) (hce : ∀ k, k < ps.length → (ps.getD k default).at_.ok) (hl : fs.length = ps.length) (ha : a < ps.length) (h0 : (fs.getD a default).t = -1) (hf : f.t ≠ -1) (i : Nat) (hi : i < ps.length) (m : Ht) :
    m ∈ dueC ps pl (fs.set a f) i ↔ m ∈ dueC ps pl fs i ∨ ∃ s : Nat, s < 4 ∧ newC ps a f s i m := by
  rw [cand_mem, cand_mem]
  have hga : ps.getD a default = ps[a] := by rw [List.getD_eq_getElem?_getD, List.getElem?_eq_getElem ha]; rfl
  have hgi : ps.getD i default = ps[i] := by rw [List.getD_eq_getElem?_getD, List.getElem?_eq_getElem hi]; rfl
  constructor
  · rintro ⟨h1, h2 | ⟨s, hs, h2⟩⟩
    · exact .inl ⟨h1, .inl h2⟩
    · rw [candN1_set ps fs a f hl ha h0 hf] at h2
      rcases h2 with h2 | ⟨h3, h4, h5⟩
      · exact .inl ⟨h1, .inr ⟨s, hs, h2⟩⟩
      · right
        obtain ⟨_, h6⟩ := (fnd_iff ps hnd _ _).1 h3
        refine ⟨(((s : Int) + 2) % 4).toNat, by omega, ?_⟩
        have e1 : (((((s : Int) + 2) % 4).toNat : Nat) : Int) = ((s : Int) + 2) % 4 := by omega
        refine ⟨h4, ?_, h1, ?_⟩
        · rw [e1, fnd_iff ps hnd]
          refine ⟨hi, ?_⟩
          rw [hga, h6, nxt_nxt _ (hce i hi) _ (by omega) (by omega), hgi]
        · rw [h5, e1, show (((s : Int) + 2) % 4 + 2) % 4 = s by omega]
  · rintro (⟨h1, h2 | ⟨s, hs, h2⟩⟩ | ⟨s, hs, h3, h4, h5, h6⟩)
    · exact ⟨h1, .inl h2⟩
    · exact ⟨h1, .inr ⟨s, hs, (candN1_set ps fs a f hl ha h0 hf i s m).2 (.inl h2)⟩⟩
    · refine ⟨h5, .inr ⟨(((s : Int) + 2) % 4).toNat, by omega, ?_⟩⟩
      have e1 : (((((s : Int) + 2) % 4).toNat : Nat) : Int) = ((s : Int) + 2) % 4 := by omega
      rw [e1, candN1_set ps fs a f hl ha h0 hf]
      right
      obtain ⟨_, h7⟩ := (fnd_iff ps hnd _ _).1 h4
      refine ⟨?_, ?_, ?_⟩
      · rw [fnd_iff ps hnd]
        refine ⟨ha, ?_⟩
        rw [hgi, h7, nxt_nxt _ (hce a ha) _ (by omega) (by omega), hga]
      · rw [show ((((s : Int) + 2) % 4 + 2) % 4).toNat = s by omega]; exact h3
      · rw [h6]
/-- No hit comes later than nine ticks behind what has fallen. -/
theorem due_top (ps : List Pc) (pl : List Pu) (fs : List Fa) (K : Int) (hl : fs.length = ps.length) (hK : 1000 ≤ K) (hp : ∀ p ∈ pl, p.t ≤ 1000) (hd : ∀ k, k < ps.length → (ps.getD k default).d ≤ 9) (h : ∀ k, k < ps.length → (fs.getD k default).t ≤ K) (i : Nat) (m : Ht) (hm : m ∈ dueC ps pl fs i) : m.1 ≤ K + 9 := by
  rw [cand_mem] at hm
  rcases hm.2 with h1 | ⟨s, hs, h1⟩
  · unfold candP at h1
    rw [List.mem_filterMap] at h1
    obtain ⟨p, hpm, h1⟩ := h1
    split at h1
    · simp only [Option.some.injEq] at h1
      rw [← h1]; have := hp p hpm; simp only; omega
    · cases h1
  · obtain ⟨k, hk, -, h2, h3, -⟩ := candN1_some ps fs i s m h1 hl
    have h4 := h k hk
    have h5 := hd k hk
    omega
theorem due_low (ps : List Pc) (pl : List Pu) (fs : List Fa) (hl : fs.length = ps.length) (hp : ∀ p ∈ pl, 0 ≤ p.t) (hd : ∀ k, k < ps.length → 1 ≤ (ps.getD k default).d) (h : ∀ k, k < ps.length → -1 ≤ (fs.getD k default).t) (i : Nat) (m : Ht) (hm : m ∈ dueC ps pl fs i) : 0 ≤ m.1 := by
  rw [cand_mem] at hm
  rcases hm.2 with h1 | ⟨s, hs, h1⟩
  · exact candP_tick ps pl hp i m h1
  · obtain ⟨k, hk, -, h2, h3, -⟩ := candN1_some ps fs i s m h1 hl
    have h4 := h k hk
    have h5 := hd k hk
    omega
/-- Falls of which each is the least of what is due are those that follow. -/
theorem okFa_least (ps : List Pc) (pl : List Pu) (fs : List Fa) (hl : fs.length = ps.length) (h : ∀ k, k < ps.length → -1 ≤ (fs.getD k default).t) (hb : ∀ i, i < ps.length → ∃ o, fs.getD i default = faOf o ∧ Least (fun m => m ∈ dueC ps pl fs i) o) : okFa ps pl fs := by
  refine ⟨hl, h, fun i hi => ?_⟩
  obtain ⟨o, h1, h2⟩ := hb i hi
  rw [h1]
  unfold due
  rw [least_one h2 (least_best _)]
end Go.Proofs.Ytollihgjcmiolaa
/- Contracts: the order of hits, the least hit of a list. -/
namespace Go.Proofs.Ytollihgjcmiolaa
open Go.RowKit
set_option linter.unusedVariables false
set_option linter.unusedSimpArgs false
set_option maxHeartbeats 400000
set_option maxRecDepth 100000
def cmpI (a b : Int) : Int := if a < b then -1 else if b < a then 1 else 0
theorem cmpNaN_any (a : Int) (w : World) : Calls Try.prog 113 #[.int .i64 a] w fun e w' => e = .returned (.bool false) ∧ w = w' := by
  go_enter Try.func113, Try.ntmps113
  go_wp2
  exact bodyPost_ret (v := .bool false) (by simp [results, Try.results113, go_sem]) rfl ⟨rfl, rfl⟩
theorem compare_any (a b : Int) (w : World) : Calls Try.prog 98 #[.int .i64 a, .int .i64 b] w fun e w' => e = .returned (.int .i64 (cmpI a b)) ∧ w = w' := by
  have HV := Lib.hid (show (a < b → cmpI a b = -1) ∧ (¬ a < b → b < a → cmpI a b = 1) ∧ (¬ a < b → ¬ b < a → cmpI a b = 0) from ⟨fun h => if_pos h, fun h h2 => by unfold cmpI; rw [if_neg h, if_pos h2], fun h h2 => by unfold cmpI; rw [if_neg h, if_neg h2]⟩)
  generalize cmpI a b = r at HV ⊢
  by_cases h1 : a < b
  · have H := HV.out.1 h1
    subst H
    go_enter Try.func98, Try.ntmps98
    go_wp2_with (go_at_call 113; refine (cmpNaN_any _ _).mono ?_; rintro e w' ⟨rfl, rfl⟩)
    go_ret
    exact ⟨rfl, rfl⟩
  · by_cases h2 : b < a
    · have H := HV.out.2.1 h1 h2
      subst H
      go_enter Try.func98, Try.ntmps98
      go_wp2_with (go_at_call 113; refine (cmpNaN_any _ _).mono ?_; rintro e w' ⟨rfl, rfl⟩)
      go_ret
      exact ⟨rfl, rfl⟩
    · have H := HV.out.2.2 h1 h2
      subst H
      go_enter Try.func98, Try.ntmps98
      go_wp2_with (go_at_call 113; refine (cmpNaN_any _ _).mono ?_; rintro e w' ⟨rfl, rfl⟩)
      go_ret
      exact ⟨rfl, rfl⟩
/-- The first of numbers that is not zero. -/
def orI : List Int → Int
  | [] => 0
  | x :: r => if x ≠ 0 then x else orI r
theorem orI_skip : ∀ (xs ys : List Int), (∀ x ∈ xs, x = 0) → orI (xs ++ ys) = orI ys := by
  intro xs
  induction xs with
  | nil => intro ys _; rfl
  | cons x xs ih =>
    intro ys h
    have h0 : x = 0 := h x List.mem_cons_self
    subst h0
    show (if (0 : Int) ≠ 0 then 0 else orI (xs ++ ys)) = _
    rw [if_neg (by simp)]
    exact ih ys (fun y hy => h y (List.mem_cons_of_mem _ hy))
def inC (n : Int) : List Value := [.int .i64 n]
theorem inC_len (n : Int) : (inC n).length = 1 := rfl
theorem ints_get {B : Nat} {w : World} {a : Option Addr} {xs : List Int} (h : SlAt B w a (flat inC xs)) {k : Nat} (hk : k < xs.length) : ∃ b off, a = some ⟨b, off, none⟩ ∧ b < B ∧ w.cell? ⟨b, off + k, none⟩ = some (.int .i64 xs[k]) := by
  obtain ⟨b, off, h1, h2, h3⟩ := SlAt.get inC_len (by omega) h hk
  refine ⟨b, off, h1, h2, ?_⟩
  have := h3 0 _ rfl
  rwa [Nat.mul_one, Nat.add_zero] at this
theorem or_any {B : Nat} (a : Option Addr) (cap : Nat) (xs : List Int) (w : World) (h : SlAt B w a (flat inC xs)) (hB : B ≤ w.heap.size) (hn : xs.length ≤ 1000) : Calls Try.prog 97 #[.slice a xs.length cap] w fun e w' => e = .returned (.int .i64 (orI xs)) ∧ w = w' := by
  have HV : Hid (∀ k (hk : k < xs.length), (∀ x ∈ xs.take k, x = 0) → orI xs = if xs[k] ≠ 0 then xs[k] else orI (xs.drop (k + 1))) := Lib.hid (by
    intro k hk h0
    have := orI_skip (xs.take k) (xs.drop k) h0
    rw [List.take_append_drop, List.drop_eq_getElem_cons hk] at this
    exact this)
  have HE : Hid ((∀ x ∈ xs, x = 0) → orI xs = 0) := Lib.hid (by
    intro h0
    have := orI_skip xs [] h0
    rw [List.append_nil] at this
    exact this)
  generalize orI xs = r at HV HE ⊢
  go_enter Try.func97, Try.ntmps97
  go_wp2
  go_loopw [8] (fun i wr => ∃ k : Nat, k ≤ xs.length ∧ i = .int .i64 k ∧ Hid (∀ x ∈ xs.take k, x = 0) ∧ w = wr) (fun i _ => xs.length - (intOf i).toNat)
  case atStart => exact ⟨0, by omega, rfl, Lib.hid (by simp), rfl⟩
  case round =>
    obtain ⟨k, hk, rfl, h0, rfl⟩ := hrel
    by_cases hlt : k < xs.length
    · obtain ⟨b, off, rfl, hb, hat⟩ := ints_get h hlt
      have HK := Lib.hid (HV.out k hlt h0.out)
      have HT : Hid (xs[k] = 0 → ∀ x ∈ xs.take (k + 1), x = 0) := Lib.hid (by
        intro hz x hx
        rw [List.take_succ_eq_append_getElem hlt, List.mem_append] at hx
        rcases hx with hx | hx
        · exact h0.out x hx
        · rw [List.mem_singleton] at hx; rw [hx]; exact hz)
      generalize xs[k] = x at hat HK HT
      by_cases hx : x = 0
      · subst hx
        have HT2 := Lib.hid (HT.out rfl)
        go_wp2
        go_roundw
        case rel => exact ⟨k + 1, by omega, by go_num, HT2, by simp⟩
        case measure => simp [intOf]; omega
      · have HK2 := HK.out
        rw [if_pos hx] at HK2
        subst HK2
        go_wp2
        go_ret
        exact ⟨rfl, rfl⟩
    · have hkn : k = xs.length := by omega
      subst hkn
      have H := HE.out (by have := h0.out; rwa [List.take_length] at this)
      subst H
      go_wp2
      go_ret
      exact ⟨rfl, rfl⟩
/-- How two hits compare. -/
def hoV (a b : Hi) : Int := orI [cmpI a.t b.t, cmpI a.p b.p, cmpI a.s b.s, cmpI a.b b.b]
theorem hoV_lt (a b : Hi) : hoV a b < 0 ↔ a.t < b.t ∨ (a.t = b.t ∧ (a.p < b.p ∨ (a.p = b.p ∧ (a.s < b.s ∨ (a.s = b.s ∧ a.b < b.b))))) := by
  unfold hoV orI orI orI orI orI cmpI
  repeat' split
  all_goals omega
theorem hoV_bd (a b : Hi) : -1 ≤ hoV a b ∧ hoV a b ≤ 1 := by
  unfold hoV orI orI orI orI orI cmpI
  repeat' split
  all_goals omega
set_option maxHeartbeats 1600000 in
theorem hitOrder_any (a b : Hi) (w : World) : Calls Try.prog 73 #[a.val, b.val] w fun e w' => e = .returned (.int .i64 (hoV a b)) ∧
    w' = (((w.alloc (.cells #[.int .i64 a.t, .int .i64 a.p, .int .i64 a.s, .int .i64 a.b] 89)).alloc (.cells #[.int .i64 b.t, .int .i64 b.p, .int .i64 b.s, .int .i64 b.b] 89)).alloc (.cells #[.int .i64 (cmpI a.t b.t), .int .i64 (cmpI a.p b.p), .int .i64 (cmpI a.s b.s), .int .i64 (cmpI a.b b.b)] 3)).drew := by
  have h2 := heap_alloc_new (w.alloc (.cells #[.int .i64 a.t, .int .i64 a.p, .int .i64 a.s, .int .i64 a.b] 89)) (.cells #[.int .i64 b.t, .int .i64 b.p, .int .i64 b.s, .int .i64 b.b] 89)
  have h1 := Below.heap_alloc (w.alloc (.cells #[.int .i64 a.t, .int .i64 a.p, .int .i64 a.s, .int .i64 a.b] 89)) (.cells #[.int .i64 b.t, .int .i64 b.p, .int .i64 b.s, .int .i64 b.b] 89) w.heap.size (by simp)
  rw [heap_alloc_new] at h1
  simp only [World.size_alloc] at h2
  have HC := Lib.hid (fun x y w' => compare_any x y w')
  have HV := Lib.hid (show hoV a b = orI [cmpI a.t b.t, cmpI a.p b.p, cmpI a.s b.s, cmpI a.b b.b] from rfl)
  generalize hoV a b = r at HV ⊢
  have HO := Lib.hid (fun (c1 c2 c3 c4 : Int) (w' : World) (g : Nat) (hh : w'.heap[g]? = some (.cells #[.int .i64 c1, .int .i64 c2, .int .i64 c3, .int .i64 c4] 3 (0, 0))) => (show Calls Try.prog 97 #[.slice (some ⟨g, 0, none⟩) 4 4] w' (fun e w'' => e = .returned (.int .i64 (orI [c1, c2, c3, c4])) ∧ w' = w'') from or_any (B := w'.heap.size) (some ⟨g, 0, none⟩) 4 [c1, c2, c3, c4] w' (by
    intro j hj
    have hj4 : j < 4 := hj
    refine ⟨g, 0, rfl, (Array.getElem?_eq_some_iff.1 hh).1, ?_⟩
    rw [cell_of_row _ _ _ _ _ _ hh, Nat.zero_add]
    have : j = 0 ∨ j = 1 ∨ j = 2 ∨ j = 3 := by omega
    rcases this with rfl | rfl | rfl | rfl <;> rfl) (Nat.le_refl _) (by simp)))
  go_enter Try.func73, Try.ntmps73
  go_upto_region 1 with fail
  obtain ⟨W, hW⟩ : ∃ W, W = (w.alloc (.cells #[.int .i64 a.t, .int .i64 a.p, .int .i64 a.s, .int .i64 a.b] 89)).alloc (.cells #[.int .i64 b.t, .int .i64 b.p, .int .i64 b.s, .int .i64 b.b] 89) := ⟨_, rfl⟩
  rw [← hW] at h1 h2 ⊢
  have x0 : W.cell? ⟨w.heap.size, 0, none⟩ = some (.int .i64 a.t) := by rw [cell_of_row _ _ _ _ _ _ h1]; rfl
  have x1 : W.cell? ⟨w.heap.size, 1, none⟩ = some (.int .i64 a.p) := by rw [cell_of_row _ _ _ _ _ _ h1]; rfl
  have x2 : W.cell? ⟨w.heap.size, 2, none⟩ = some (.int .i64 a.s) := by rw [cell_of_row _ _ _ _ _ _ h1]; rfl
  have x3 : W.cell? ⟨w.heap.size, 3, none⟩ = some (.int .i64 a.b) := by rw [cell_of_row _ _ _ _ _ _ h1]; rfl
  have y0 : W.cell? ⟨w.heap.size + 1, 0, none⟩ = some (.int .i64 b.t) := by rw [cell_of_row _ _ _ _ _ _ h2]; rfl
  have y1 : W.cell? ⟨w.heap.size + 1, 1, none⟩ = some (.int .i64 b.p) := by rw [cell_of_row _ _ _ _ _ _ h2]; rfl
  have y2 : W.cell? ⟨w.heap.size + 1, 2, none⟩ = some (.int .i64 b.s) := by rw [cell_of_row _ _ _ _ _ _ h2]; rfl
  have y3 : W.cell? ⟨w.heap.size + 1, 3, none⟩ = some (.int .i64 b.b) := by rw [cell_of_row _ _ _ _ _ _ h2]; rfl
  have hsz : w.heap.size + 1 < W.heap.size := (Array.getElem?_eq_some_iff.1 h2).1
  have HW := Lib.hid hW
  clear h1 h2 hW
  go_region_held3 (fun w' => w'.cell? ⟨w.heap.size, 0, none⟩ = some (.int .i64 a.t) ∧ w'.cell? ⟨w.heap.size, 1, none⟩ = some (.int .i64 a.p) ∧ w'.cell? ⟨w.heap.size, 2, none⟩ = some (.int .i64 a.s) ∧ w'.cell? ⟨w.heap.size, 3, none⟩ = some (.int .i64 a.b) ∧ w'.cell? ⟨w.heap.size + 1, 0, none⟩ = some (.int .i64 b.t) ∧ w'.cell? ⟨w.heap.size + 1, 1, none⟩ = some (.int .i64 b.p) ∧ w'.cell? ⟨w.heap.size + 1, 2, none⟩ = some (.int .i64 b.s) ∧ w'.cell? ⟨w.heap.size + 1, 3, none⟩ = some (.int .i64 b.b)) (go_keep) (first | (go_at_call 98; refine (HC.out _ _ _).mono ?_; rintro e w' ⟨rfl, rfl⟩) | (go_at_call 97; refine (HO.out _ _ _ _ (World.drew (W.alloc _)) W.heap.size (heap_alloc_new W _)).mono ?_; rintro e w' ⟨rfl, rfl⟩))
  go_wp2
  go_ret
  exact ⟨by rw [HV.out]; rfl, by rw [HW.out]⟩
end Go.Proofs.Ytollihgjcmiolaa
/- The run of a board, piece by piece (the reference): plain laws. -/
namespace Go.Proofs.Ytollihgjcmiolaa
open Go.RowKit
set_option linter.unusedVariables false
set_option linter.unusedSimpArgs false
set_option maxHeartbeats 400000
set_option maxRecDepth 100000
/-- What is asked of a board and of pushes. -/
structure Good (ps : List Pc) (pl : List Pu) : Prop where
  nd : (ps.map Pc.at_).Nodup
  ce : ∀ k, k < ps.length → (ps.getD k default).at_.ok
  d1 : ∀ k, k < ps.length → 1 ≤ (ps.getD k default).d
  d9 : ∀ k, k < ps.length → (ps.getD k default).d ≤ 9
  t0 : ∀ p ∈ pl, 0 ≤ p.t
  t1 : ∀ p ∈ pl, p.t ≤ 1000
def nT (dn : List Bool) : Int := (dn.filter id).length
theorem nT_nonneg (dn : List Bool) : 0 ≤ nT dn := by unfold nT; omega
theorem nT_set : ∀ (dn : List Bool) (a : Nat), a < dn.length → dn.getD a false = false → nT (dn.set a true) = nT dn + 1 := by
  intro dn
  induction dn with
  | nil => intro a h; simp at h
  | cons b dn ih =>
    intro a h h0
    cases a with
    | zero =>
      have h1 : b = false := h0
      subst h1
      simp [nT]
    | succ a =>
      have h1 := ih a (by simpa using h) (by simpa using h0)
      unfold nT at h1 ⊢
      cases b <;> simp_all <;> omega
theorem nT_le (dn : List Bool) : nT dn ≤ dn.length := by
  unfold nT; have := List.length_filter_le id dn; omega
theorem getD_setB (dn : List Bool) (a k : Nat) (b : Bool) (ha : a < dn.length) : (dn.set a b).getD k false = if k = a then b else dn.getD k false := by
  rw [List.getD_eq_getElem?_getD, List.getD_eq_getElem?_getD, List.getElem?_set]
  by_cases h : a = k
  · rw [if_pos h, if_pos h.symm, if_pos (by omega)]; rfl
  · rw [if_neg h, if_neg (fun e => h e.symm)]
structure RunS (ps : List Pc) (pl : List Pu) (dn : List Bool) (fs nx : List Fa) : Prop where
  ld : dn.length = ps.length
  lf : fs.length = ps.length
  ln : nx.length = ps.length
  und : ∀ i, i < ps.length → dn.getD i false = false → fs.getD i default = faOf none
  isd : ∀ i, i < ps.length → dn.getD i false = true → fs.getD i default = nx.getD i default ∧ 0 ≤ (nx.getD i default).t
  best : ∀ i, i < ps.length → ∃ o, nx.getD i default = faOf o ∧ Least (fun m => m ∈ dueC ps pl fs i) o
  mono : ∀ i j, i < ps.length → j < ps.length → dn.getD i false = true → dn.getD j false = false → 0 ≤ (nx.getD j default).t → (nx.getD i default).t ≤ (nx.getD j default).t
  top : ∀ i, i < ps.length → (fs.getD i default).t ≤ 1000 + 9 * nT dn
theorem RunS.low {ps : List Pc} {pl : List Pu} {dn : List Bool} {fs nx : List Fa} (h : RunS ps pl dn fs nx) (i : Nat) (hi : i < ps.length) : -1 ≤ (fs.getD i default).t := by
  cases hd : dn.getD i false with
  | false => rw [h.und i hi hd]; show (-1 : Int) ≤ -1; omega
  | true => obtain ⟨e, g⟩ := h.isd i hi hd; rw [e]; omega
theorem RunS.nlow {ps : List Pc} {pl : List Pu} {dn : List Bool} {fs nx : List Fa} (G : Good ps pl) (h : RunS ps pl dn fs nx) (i : Nat) (hi : i < ps.length) : -1 ≤ (nx.getD i default).t ∧ (nx.getD i default).t ≤ 1009 + 9 * nT dn := by
  obtain ⟨o, e, hL⟩ := h.best i hi
  have hn := nT_nonneg dn
  cases o with
  | none => rw [e]; show (-1 : Int) ≤ -1 ∧ (-1 : Int) ≤ _; omega
  | some m =>
    have h1 := due_low ps pl fs h.lf G.t0 G.d1 h.low i m hL.1
    have h2 := due_top ps pl fs _ h.lf (by omega) G.t1 G.d9 h.top i m hL.1
    rw [e]
    show -1 ≤ m.1 ∧ m.1 ≤ _
    omega
/-- The end: nothing is left to fall. -/
theorem RunS.ok {ps : List Pc} {pl : List Pu} {dn : List Bool} {fs nx : List Fa} (G : Good ps pl) (h : RunS ps pl dn fs nx) (hend : ∀ i, i < ps.length → dn.getD i false = false → (nx.getD i default).t < 0) : okFa ps pl fs := by
  refine okFa_least ps pl fs h.lf h.low fun i hi => ?_
  obtain ⟨o, e, hL⟩ := h.best i hi
  cases hd : dn.getD i false with
  | true => exact ⟨o, by rw [(h.isd i hi hd).1, e], hL⟩
  | false =>
    refine ⟨none, h.und i hi hd, ?_⟩
    cases o with
    | none => exact hL
    | some m =>
      have h1 := due_low ps pl fs h.lf G.t0 G.d1 h.low i m hL.1
      have h2 := hend i hi hd
      rw [e] at h2
      have h3 : m.1 < 0 := h2
      omega
/-- While the neighbours of the piece a that falls are told. -/
structure SideS (ps : List Pc) (pl : List Pu) (dn : List Bool) (fs nx : List Fa) (a : Nat) (s : Nat) (nx' : List Fa) : Prop where
  ln : nx'.length = ps.length
  old : ∀ i, i < ps.length → (dn.set a true).getD i false = true → nx'.getD i default = nx.getD i default
  new : ∀ i, i < ps.length → (dn.set a true).getD i false = false → ∃ o, nx'.getD i default = faOf o ∧ Least (fun m => m ∈ dueC ps pl fs i ∨ ∃ s', s' < s ∧ newC ps a (nx.getD a default) s' i m) o
theorem SideS.start {ps : List Pc} {pl : List Pu} {dn : List Bool} {fs nx : List Fa} (h : RunS ps pl dn fs nx) (a : Nat) : SideS ps pl dn fs nx a 0 nx := by
  refine ⟨h.ln, fun i hi _ => rfl, fun i hi _ => ?_⟩
  obtain ⟨o, e, hL⟩ := h.best i hi
  exact ⟨o, e, least_iff (fun m => ⟨.inl, fun hm => hm.elim id (fun ⟨s', hs, _⟩ => by omega)⟩) hL⟩
/-- A side over which nobody is told. -/
theorem SideS.skip {ps : List Pc} {pl : List Pu} {dn : List Bool} {fs nx nx' : List Fa} {a s : Nat} (h : SideS ps pl dn fs nx a s nx') (hno : ∀ i m, i < ps.length → (dn.set a true).getD i false = false → ¬ newC ps a (nx.getD a default) s i m) : SideS ps pl dn fs nx a (s + 1) nx' := by
  refine ⟨h.ln, h.old, fun i hi hd => ?_⟩
  obtain ⟨o, e, hL⟩ := h.new i hi hd
  refine ⟨o, e, least_iff (fun m => ?_) hL⟩
  constructor
  · rintro (h1 | ⟨s', h1, h2⟩)
    · exact .inl h1
    · exact .inr ⟨s', by omega, h2⟩
  · rintro (h1 | ⟨s', h1, h2⟩)
    · exact .inl h1
    · rcases Nat.lt_succ_iff_lt_or_eq.1 h1 with h3 | rfl
      · exact .inr ⟨s', h3, h2⟩
      · exact absurd h2 (hno i m hi hd)
/-- A side over which the piece k is told. -/
theorem SideS.tell {ps : List Pc} {pl : List Pu} {dn : List Bool} {fs nx nx' : List Fa} {a s k : Nat} (h : SideS ps pl dn fs nx a s nx') (hk : k < ps.length) (hdk : (dn.set a true).getD k false = false)
    (hbit : max (hitsV (ps.getD a default).k (ps.getD a default).t (nx.getD a default).f) 0 / 2 ^ s % 2 = 1) (hf : fnd (nxt (ps.getD a default).at_ (s : Int)) ps = (k : Int))
    (hcan : 0 ≤ hitsV (ps.getD k default).k (ps.getD k default).t (((s : Int) + 2) % 4)) (o : Option Ht) (ho : nx'.getD k default = faOf o) (hT : ∀ m, o = some m → 0 ≤ m.1) (f' : Fa)
    (hf' : f' = faOf (stepH o ((nx.getD a default).t + (ps.getD a default).d, ((s : Int) + 2) % 4, (a : Int)))) (hL0 : Least (fun m => m ∈ dueC ps pl fs k ∨ ∃ s', s' < s ∧ newC ps a (nx.getD a default) s' k m) o) : SideS ps pl dn fs nx a (s + 1) (nx'.set k f') := by
  refine ⟨by rw [List.length_set]; exact h.ln, fun i hi hd => ?_, fun i hi hd => ?_⟩
  · rw [getD_set nx' k i f' (by rw [h.ln]; exact hk)]
    by_cases hik : i = k
    · subst hik; rw [hdk] at hd; cases hd
    · rw [if_neg hik]; exact h.old i hi hd
  · rw [getD_set nx' k i f' (by rw [h.ln]; exact hk)]
    by_cases hik : i = k
    · subst hik
      rw [if_pos rfl]
      refine ⟨_, hf', least_iff (fun m => ?_) (least_add _ hL0)⟩
      constructor
      · rintro ((h1 | ⟨s', h1, h2⟩) | h1)
        · exact .inl h1
        · exact .inr ⟨s', by omega, h2⟩
        · exact .inr ⟨s, by omega, hbit, hf, by rw [h1]; unfold canH; exact decide_eq_true hcan, h1⟩
      · rintro (h1 | ⟨s', h1, h2⟩)
        · exact .inl (.inl h1)
        · rcases Nat.lt_succ_iff_lt_or_eq.1 h1 with h3 | rfl
          · exact .inl (.inr ⟨s', h3, h2⟩)
          · exact .inr h2.2.2.2
    · rw [if_neg hik]
      obtain ⟨o', e, hL⟩ := h.new i hi hd
      refine ⟨o', e, least_iff (fun m => ?_) hL⟩
      constructor
      · rintro (h1 | ⟨s', h1, h2⟩)
        · exact .inl h1
        · exact .inr ⟨s', by omega, h2⟩
      · rintro (h1 | ⟨s', h1, h2⟩)
        · exact .inl h1
        · rcases Nat.lt_succ_iff_lt_or_eq.1 h1 with h3 | rfl
          · exact .inr ⟨s', h3, h2⟩
          · have := h2.2.1
            rw [hf] at this
            exact absurd (by omega) hik
/-- The piece a has fallen, and its neighbours are told. -/
theorem SideS.done {ps : List Pc} {pl : List Pu} {dn : List Bool} {fs nx nx' : List Fa} {a : Nat} (G : Good ps pl) (h0 : RunS ps pl dn fs nx) (ha : a < ps.length) (hda : dn.getD a false = false) (hta : 0 ≤ (nx.getD a default).t)
    (hmin : ∀ j, j < ps.length → dn.getD j false = false → 0 ≤ (nx.getD j default).t → (nx.getD a default).t ≤ (nx.getD j default).t) (h : SideS ps pl dn fs nx a 4 nx') : RunS ps pl (dn.set a true) (fs.set a (nx.getD a default)) nx' := by
  have hal : a < dn.length := by rw [h0.ld]; exact ha
  have hfa : (fs.getD a default).t = -1 := by rw [h0.und a ha hda]; rfl
  have hfall : ∀ i, i < ps.length → ∀ m, m ∈ dueC ps pl (fs.set a (nx.getD a default)) i ↔ m ∈ dueC ps pl fs i ∨ ∃ s : Nat, s < 4 ∧ newC ps a (nx.getD a default) s i m :=
    fun i hi m => dueC_fall ps pl fs a _ G.nd G.ce h0.lf ha hfa (by omega) i hi m
  have hda' := G.d1 a ha
  have hdone : ∀ i, i < ps.length → (dn.set a true).getD i false = true → nx'.getD i default = nx.getD i default ∧ 0 ≤ (nx.getD i default).t ∧ (nx.getD i default).t ≤ (nx.getD a default).t := by
    intro i hi hd
    refine ⟨h.old i hi hd, ?_⟩
    rw [getD_setB dn a i true hal] at hd
    by_cases hia : i = a
    · subst hia; omega
    · rw [if_neg hia] at hd
      exact ⟨(h0.isd i hi hd).2, h0.mono i a hi ha hd hda hta⟩
  have hnd' : ∀ i, (dn.set a true).getD i false = false → i ≠ a ∧ dn.getD i false = false := by
    intro i hd
    rw [getD_setB dn a i true hal] at hd
    by_cases hia : i = a
    · rw [if_pos hia] at hd; cases hd
    · rw [if_neg hia] at hd; exact ⟨hia, hd⟩
  refine ⟨by rw [List.length_set]; exact h0.ld, by rw [List.length_set]; exact h0.lf, h.ln, ?_, ?_, ?_, ?_, ?_⟩
  · intro i hi hd
    obtain ⟨hia, hd'⟩ := hnd' i hd
    rw [getD_set fs a i _ (by rw [h0.lf]; exact ha), if_neg hia]
    exact h0.und i hi hd'
  · intro i hi hd
    obtain ⟨e1, e2, e3⟩ := hdone i hi hd
    rw [e1]
    refine ⟨?_, e2⟩
    rw [getD_set fs a i _ (by rw [h0.lf]; exact ha)]
    rw [getD_setB dn a i true hal] at hd
    by_cases hia : i = a
    · rw [if_pos hia, hia]
    · rw [if_neg hia] at hd ⊢
      exact (h0.isd i hi hd).1
  · intro i hi
    cases hd : (dn.set a true).getD i false with
    | true =>
      obtain ⟨e1, e2, e3⟩ := hdone i hi hd
      obtain ⟨o, e, hL⟩ := h0.best i hi
      refine ⟨o, by rw [e1, e], ?_⟩
      cases o with
      | none => rw [e] at e2; have e4 : (0 : Int) ≤ -1 := e2; omega
      | some m =>
        have e4 : m.1 ≤ (nx.getD a default).t := by rw [e] at e3; exact e3
        refine least_late hL (fun x hx => (hfall i hi x).2 (.inl hx)) (fun x hx => ?_)
        rcases (hfall i hi x).1 hx with h1 | ⟨s, hs, h1⟩
        · exact .inl h1
        · right
          rw [h1.2.2.2]
          show m.1 < (nx.getD a default).t + (ps.getD a default).d
          omega
    | false =>
      obtain ⟨o, e, hL⟩ := h.new i hi hd
      exact ⟨o, e, least_iff (fun m => (hfall i hi m).symm) hL⟩
  · intro i j hi hj hd1 hd2 hj0
    obtain ⟨e1, e2, e3⟩ := hdone i hi hd1
    obtain ⟨hja, hdj⟩ := hnd' j hd2
    rw [e1]
    refine Int.le_trans e3 ?_
    obtain ⟨o, e, hL⟩ := h.new j hj hd2
    cases o with
    | none => rw [e] at hj0; have e4 : (0 : Int) ≤ -1 := hj0; omega
    | some m =>
      rw [e]
      show (nx.getD a default).t ≤ m.1
      rcases hL.1 with h1 | ⟨s, hs, h1⟩
      · obtain ⟨o', e', hL'⟩ := h0.best j hj
        cases o' with
        | none => exact absurd h1 (hL' m)
        | some m' =>
          have h2 := hL'.2 m h1
          have h3 := due_low ps pl fs h0.lf G.t0 G.d1 h0.low j m' hL'.1
          have h4 := hmin j hj hdj (by rw [e']; exact h3)
          rw [e'] at h4
          have h5 : (nx.getD a default).t ≤ m'.1 := h4
          rw [Bool.eq_false_iff, ne_eq, ltH_iff] at h2
          omega
      · rw [h1.2.2.2]
        show (nx.getD a default).t ≤ (nx.getD a default).t + (ps.getD a default).d
        omega
  · intro i hi
    have h1 := (h0.nlow G a ha).2
    rw [nT_set dn a hal hda, getD_set fs a i _ (by rw [h0.lf]; exact ha)]
    by_cases hia : i = a
    · rw [if_pos hia]; omega
    · rw [if_neg hia]; have := h0.top i hi; omega
end Go.Proofs.Ytollihgjcmiolaa
/- The run of a board (the reference): what pushes give at the start. -/
namespace Go.Proofs.Ytollihgjcmiolaa
open Go.RowKit
set_option linter.unusedVariables false
set_option linter.unusedSimpArgs false
set_option maxHeartbeats 400000
set_option maxRecDepth 100000
/-- What comes next of each piece, by pushes alone. -/
def oP (ps : List Pc) (pl : List Pu) (i : Nat) : Option Ht := bestH (dueL ps pl [] i 0)
def nxP (ps : List Pc) (pl : List Pu) : List Fa := (List.range ps.length).map fun i => faOf (oP ps pl i)
theorem nxP_len (ps : List Pc) (pl : List Pu) : (nxP ps pl).length = ps.length := by simp [nxP]
theorem nxP_get (ps : List Pc) (pl : List Pu) (i : Nat) (h : i < ps.length) : (nxP ps pl).getD i default = faOf (oP ps pl i) := by
  rw [List.getD_eq_getElem?_getD]; simp [nxP, h]
theorem nxP_nil (ps : List Pc) : nxP ps [] = List.replicate ps.length (faOf none) := by
  apply List.ext_getElem
  · simp [nxP]
  · intro i h1 h2
    simp only [nxP, List.getElem_map, List.getElem_range, List.getElem_replicate]
    rfl
theorem oP_push (ps : List Pc) (pl : List Pu) (p : Pu) (hnd : (ps.map Pc.at_).Nodup) (k : Nat) (hk : k < ps.length) (hf : fnd ⟨p.x, p.y⟩ ps = (k : Int)) (i : Nat) (hi : i < ps.length) :
    oP ps (pl ++ [p]) i = if i = k then (if 0 ≤ hitsV (ps.getD k default).k (ps.getD k default).t p.s then stepH (oP ps pl k) (p.t, p.s, -1) else oP ps pl k) else oP ps pl i := by
  unfold oP
  rw [dueL_push]
  obtain ⟨_, hk2⟩ := (fnd_iff ps hnd _ _).1 hf
  by_cases hik : i = k
  · subst hik
    rw [if_pos rfl, if_pos (by rw [getD_pc ps i hi]; exact hk2.symm)]
    by_cases h : 0 ≤ hitsV (ps.getD i default).k (ps.getD i default).t p.s
    · rw [if_pos h, if_pos h, bestH_snoc]
    · rw [if_neg h, if_neg h, List.append_nil]
  · rw [if_neg hik, if_neg, List.append_nil]
    intro e
    have := (fnd_iff ps hnd ⟨p.x, p.y⟩ i).2 ⟨hi, by rw [← getD_pc ps i hi]; exact e.symm⟩
    omega
theorem nxP_push (ps : List Pc) (pl : List Pu) (p : Pu) (hnd : (ps.map Pc.at_).Nodup) (k : Nat) (hk : k < ps.length) (hf : fnd ⟨p.x, p.y⟩ ps = (k : Int)) :
    nxP ps (pl ++ [p]) = if 0 ≤ hitsV (ps.getD k default).k (ps.getD k default).t p.s then (nxP ps pl).set k (faOf (stepH (oP ps pl k) (p.t, p.s, -1))) else nxP ps pl := by
  have key : ∀ xs : List Fa, xs.length = ps.length → (∀ i, i < ps.length → xs.getD i default = faOf (oP ps (pl ++ [p]) i)) → nxP ps (pl ++ [p]) = xs := by
    intro xs h1 h2
    apply List.ext_getElem
    · rw [nxP_len, h1]
    · intro i h3 h4
      have h5 : i < ps.length := by rw [← h1]; exact h4
      rw [← getD_fa _ i h3, ← getD_fa _ i h4, h2 i h5, nxP_get ps _ i h5]
  by_cases h : 0 ≤ hitsV (ps.getD k default).k (ps.getD k default).t p.s
  · rw [if_pos h]
    apply key
    · rw [List.length_set, nxP_len]
    · intro i hi
      rw [getD_set _ _ _ _ (by rw [nxP_len]; exact hk), oP_push ps pl p hnd k hk hf i hi, if_pos h]
      by_cases hik : i = k
      · rw [if_pos hik, if_pos hik]
      · rw [if_neg hik, if_neg hik, nxP_get ps pl i hi]
  · rw [if_neg h]
    apply key
    · rw [nxP_len]
    · intro i hi
      rw [oP_push ps pl p hnd k hk hf i hi, if_neg h, nxP_get ps pl i hi]
      by_cases hik : i = k
      · rw [if_pos hik, hik]
      · rw [if_neg hik]
theorem getD_rep {α : Type} (n i : Nat) (x d : α) (h : i < n) : (List.replicate n x).getD i d = x := by
  rw [List.getD_eq_getElem?_getD, List.getElem?_replicate, if_pos h]; rfl
theorem RunS.start (ps : List Pc) (pl : List Pu) : RunS ps pl (List.replicate ps.length false) (List.replicate ps.length (faOf none)) (nxP ps pl) := by
  have hT : ∀ i, i < ps.length → ((List.replicate ps.length (faOf none)).getD i default).t = -1 := by
    intro i hi; rw [getD_rep _ _ _ _ hi]; rfl
  refine ⟨by simp, by simp, nxP_len ps pl, fun i hi _ => getD_rep _ _ _ _ hi, fun i hi h => ?_, fun i hi => ?_, fun i j hi _ h => ?_, fun i hi => ?_⟩
  · rw [getD_rep _ _ _ _ hi] at h; cases h
  · refine ⟨oP ps pl i, nxP_get ps pl i hi, least_iff (fun m => ?_) (least_best _)⟩
    rw [cand_mem]
    unfold dueL
    have e0 : candN ps [] i 0 = [] := rfl
    rw [e0, List.append_nil, List.mem_filter]
    constructor
    · rintro ⟨h1, h2⟩; exact ⟨h2, .inl h1⟩
    · rintro ⟨h1, h2 | ⟨s, hs, h2⟩⟩
      · exact ⟨h2, h1⟩
      · obtain ⟨k, hk, -, h3, -⟩ := candN1_some ps _ i s m h2 (by simp)
        exact absurd (hT k hk) h3
  · rw [getD_rep _ _ _ _ hi] at h; cases h
  · rw [hT i hi]; have := nT_nonneg (List.replicate ps.length false); omega
end Go.Proofs.Ytollihgjcmiolaa
/- Three rows of the reference's run: what is done, what has fallen, what comes next. -/
namespace Go.Proofs.Ytollihgjcmiolaa
open Go.RowKit
set_option linter.unusedVariables false
set_option linter.unusedSimpArgs false
set_option maxHeartbeats 400000
set_option maxRecDepth 100000
def BoC (b : Bool) : List Value := [.bool b]
theorem BoC_len (b : Bool) : (BoC b).length = 1 := rfl
theorem flat_bo (xs : List Bool) : flat BoC xs = xs.map Value.bool := by
  induction xs with
  | nil => rfl
  | cons x xs ih => rw [flat_cons, ih]; rfl
theorem rep_set {α : Type} (N j : Nat) (h : j < N) (x z : α) : (List.replicate j x ++ List.replicate (N - j) z).set j x = List.replicate (j + 1) x ++ List.replicate (N - (j + 1)) z := by
  apply List.ext_getElem
  · simp; omega
  · intro i h1 h2
    simp only [List.getElem_set, List.getElem_append, List.length_replicate, List.getElem_replicate]
    by_cases e : j = i
    · subst e; simp
    · by_cases e2 : i < j
      · simp [e, e2, show i < j + 1 by omega]
      · simp [e, e2, show ¬ i < j + 1 by omega]
theorem flat_set {α : Type} {f : α → List Value} {s : Nat} (hs : ∀ x, (f x).length = s) (xs : List α) (i : Nat) (h : i < xs.length) (x : α) : flat f (xs.set i x) = flat f (xs.take i) ++ f x ++ (flat f (xs.drop i)).drop s := by
  rw [List.set_eq_take_append_cons_drop, if_pos h, flat_append, flat_cons, List.drop_eq_getElem_cons h, flat_cons, List.append_assoc, List.drop_append_of_le_length (by rw [hs]; exact Nat.le_refl _)]
  have : (f xs[i]).drop s = [] := by apply List.drop_of_length_le; rw [hs]; exact Nat.le_refl _
  rw [this, List.nil_append]
theorem own_faSet {w : World} {base e g n cap : Nat} {fs : List Fa} (h : w.ownsRow base e 3 (.slice (some ⟨g, 0, none⟩) n cap) n (flat Fa.cells fs)) (hl : fs.length = n) (i : Nat) (hi : i < n) (f : Fa) :
    (setCells w g (i * 3) f.cells).ownsRow base e 3 (.slice (some ⟨g, 0, none⟩) n cap) n (flat Fa.cells (fs.set i f)) := by
  have e1 : flat Fa.cells fs = flat Fa.cells (fs.take i) ++ flat Fa.cells (fs.drop i) := by rw [← flat_append, List.take_append_drop]
  rw [e1] at h
  have h2 := own_setCells f.cells h (j := i * 3) (by rw [flat_length Fa.len, List.length_take]; congr 1; omega) (by rw [flat_length Fa.len, List.length_drop, Fa.len]; omega)
  rw [flat_set Fa.len fs i (by omega) f]
  exact h2
theorem own_faAt3 {w : World} {base e g n cap : Nat} {fs : List Fa} (h : w.ownsRow base e 3 (.slice (some ⟨g, 0, none⟩) n cap) n (flat Fa.cells fs)) (hl : fs.length = n) (i : Nat) (hi : i < n) : FaAt w g (i * 3) (fs.getD i default) := by
  rw [getD_fa fs i (by omega)]
  have hg := fun c (hc : c < 3) => flat_get Fa.len fs i c (by omega) hc
  refine ⟨?_, ?_, ?_⟩
  · rw [h.cellAt _ (by omega)]; exact hg 0 (by omega)
  · rw [h.cellAt _ (by omega)]; exact hg 1 (by omega)
  · rw [h.cellAt _ (by omega)]; exact hg 2 (by omega)
structure T3 (B g0 g1 g2 N : Nat) (wr : World) (dn : List Bool) (fs nx : List Fa) : Prop where
  d : wr.ownsRow B 4 1 (.slice (some ⟨g0, 0, none⟩) N N) N (flat BoC dn)
  f : wr.ownsRow B 66 3 (.slice (some ⟨g1, 0, none⟩) N N) N (flat Fa.cells fs)
  x : wr.ownsRow B 66 3 (.slice (some ⟨g2, 0, none⟩) N N) N (flat Fa.cells nx)
  ld : dn.length = N
  lf : fs.length = N
  lx : nx.length = N
  n01 : g0 ≠ g1
  n02 : g0 ≠ g2
  n12 : g1 ≠ g2
section
variable {B g0 g1 g2 N : Nat} {w w' : World} {dn : List Bool} {fs nx : List Fa}
theorem T3.step (h : T3 B g0 g1 g2 N w dn fs nx) (hb : Below w.heap.size w w') : T3 B g0 g1 g2 N w' dn fs nx :=
  ⟨own_below h.d hb (Nat.le_refl _), own_below h.f hb (Nat.le_refl _), own_below h.x hb (Nat.le_refl _), h.ld, h.lf, h.lx, h.n01, h.n02, h.n12⟩
theorem own_far {w w' : World} {base e s g n cap k : Nat} {xs : List Value} (h : w.ownsRow base e s (.slice (some ⟨g, 0, none⟩) n cap) n xs) (hg : w.grownBy w' (some k)) (hne : g ≠ k) : w'.ownsRow base e s (.slice (some ⟨g, 0, none⟩) n cap) n xs :=
  own_kept h hg (fun q hq e => by have h9 : some g = some q := hq; rw [← h9] at e; simp at e; exact hne e)
theorem T3.setD (h : T3 B g0 g1 g2 N w dn fs nx) (i : Nat) (b : Bool) : T3 B g0 g1 g2 N (w.setCell ⟨g0, i, none⟩ (.bool b)) (dn.set i b) fs nx := by
  have hg := (h.d.stored i (.bool b)).2
  refine ⟨?_, own_far h.f hg (fun e => h.n01 e.symm), own_far h.x hg (fun e => h.n02 e.symm), by rw [List.length_set]; exact h.ld, h.lf, h.lx, h.n01, h.n02, h.n12⟩
  have := (h.d.stored i (.bool b)).1
  rw [flat_bo] at this ⊢
  rwa [List.map_set]
theorem T3.setF (h : T3 B g0 g1 g2 N w dn fs nx) (i : Nat) (hi : i < N) (f : Fa) : T3 B g0 g1 g2 N (setCells w g1 (i * 3) f.cells) dn (fs.set i f) nx := by
  have hg := grown_setCells g1 f.cells w (i * 3)
  exact ⟨own_far h.d hg h.n01, own_faSet h.f h.lf i hi f, own_far h.x hg (fun e => h.n12 e.symm), h.ld, by rw [List.length_set]; exact h.lf, h.lx, h.n01, h.n02, h.n12⟩
theorem T3.setX (h : T3 B g0 g1 g2 N w dn fs nx) (i : Nat) (hi : i < N) (f : Fa) : T3 B g0 g1 g2 N (setCells w g2 (i * 3) f.cells) dn fs (nx.set i f) := by
  have hg := grown_setCells g2 f.cells w (i * 3)
  exact ⟨own_far h.d hg h.n02, own_far h.f hg h.n12, own_faSet h.x h.lx i hi f, h.ld, h.lf, by rw [List.length_set]; exact h.lx, h.n01, h.n02, h.n12⟩
theorem T3.dAt (h : T3 B g0 g1 g2 N w dn fs nx) (i : Nat) (hi : i < N) : w.cell? ⟨g0, i, none⟩ = some (.bool (dn.getD i false)) := by
  rw [h.d.cellAt i (by omega), flat_bo, List.getElem?_map, List.getElem?_eq_getElem (by rw [h.ld]; exact hi), List.getD_eq_getElem?_getD, List.getElem?_eq_getElem (by rw [h.ld]; exact hi)]
  rfl
theorem T3.fAt (h : T3 B g0 g1 g2 N w dn fs nx) (i : Nat) (hi : i < N) : FaAt w g1 (i * 3) (fs.getD i default) := own_faAt3 h.f h.lf i hi
theorem T3.xAt (h : T3 B g0 g1 g2 N w dn fs nx) (i : Nat) (hi : i < N) : FaAt w g2 (i * 3) (nx.getD i default) := own_faAt3 h.x h.lx i hi
/-- What may be stored to. -/
theorem T3.dS (h : T3 B g0 g1 g2 N w dn fs nx) (i : Nat) (hi : i < N) : (∃ v, w.cell? ⟨g0, i, none⟩ = some v) ∧ w.frozen? ⟨g0, i, none⟩ = false := own_cell h.d (by omega)
theorem T3.fS (h : T3 B g0 g1 g2 N w dn fs nx) (i : Nat) (hi : i < N) (c : Nat) (hc : c < 3) : (∃ v, w.cell? ⟨g1, i * 3 + c, none⟩ = some v) ∧ w.frozen? ⟨g1, i * 3 + c, none⟩ = false := own_cell h.f (by omega)
theorem T3.xS (h : T3 B g0 g1 g2 N w dn fs nx) (i : Nat) (hi : i < N) (c : Nat) (hc : c < 3) : (∃ v, w.cell? ⟨g2, i * 3 + c, none⟩ = some v) ∧ w.frozen? ⟨g2, i * 3 + c, none⟩ = false := own_cell h.x (by omega)
theorem T3.lt (h : T3 B g0 g1 g2 N w dn fs nx) : B ≤ g0 ∧ B ≤ g1 ∧ B ≤ g2 ∧ g0 < w.heap.size ∧ g1 < w.heap.size ∧ g2 < w.heap.size := ⟨(h.d.lt _ rfl).1, (h.f.lt _ rfl).1, (h.x.lt _ rfl).1, (h.d.lt _ rfl).2, (h.f.lt _ rfl).2, (h.x.lt _ rfl).2⟩
end
/-- How many are not done, by what the memory holds. -/
def undone (w : World) (g N : Nat) : Nat := (List.range N).countP fun j => match w.cell? ⟨g, j, none⟩ with | some (.bool false) => true | _ => false
theorem count_false : ∀ dn : List Bool, ((List.range dn.length).countP (fun j => !dn.getD j false) : Int) = dn.length - nT dn := by
  intro dn
  induction dn with
  | nil => rfl
  | cons b dn ih =>
    rw [List.length_cons, List.range_succ_eq_map, List.countP_cons, List.countP_map]
    have e : ((fun j => !(b :: dn).getD j false) ∘ Nat.succ) = fun j => !dn.getD j false := by funext j; simp
    rw [e]
    unfold nT at ih ⊢
    cases b <;> simp at ih ⊢ <;> omega
theorem T3.undone {B g0 g1 g2 N : Nat} {w : World} {dn : List Bool} {fs nx : List Fa} (h : T3 B g0 g1 g2 N w dn fs nx) : (undone w g0 N : Int) = N - nT dn := by
  rw [← h.ld, ← count_false]
  unfold Go.Proofs.Ytollihgjcmiolaa.undone
  congr 1
  apply List.countP_congr
  intro j hj
  rw [List.mem_range] at hj
  rw [h.dAt j (by rw [← h.ld]; exact hj)]
  cases dn.getD j false <;> simp
theorem madeCells_fall (n : Nat) : (madeCells (Value.agg #[.int .i64 0, .int .i8 0, .int .i64 0]).cells (n * 3)).toList = flat Fa.cells (List.replicate n ⟨0, 0, 0⟩) := by
  apply List.ext_getElem?
  intro i
  by_cases h : i < n * 3
  · have h1 : i / 3 < n := by omega
    have h2 := flat_get Fa.len (List.replicate n (⟨0, 0, 0⟩ : Fa)) (i / 3) (i % 3) (by simpa using h1) (by omega)
    rw [show i / 3 * 3 + i % 3 = i by omega] at h2
    rw [h2, List.getElem_replicate]
    have h3 : i % 3 = 0 ∨ i % 3 = 1 ∨ i % 3 = 2 := by omega
    rcases h3 with e | e | e <;> (simp [madeCells, Value.cells, e, Fa.cells]; exact ⟨i, by simp [h], by rw [e]; rfl⟩)
  · have : (flat Fa.cells (List.replicate n (⟨0, 0, 0⟩ : Fa))).length ≤ i := by rw [flat_length Fa.len, List.length_replicate]; omega
    rw [List.getElem?_eq_none this, List.getElem?_eq_none (by simp [madeCells]; omega)]
theorem madeCells_bool (n : Nat) : (madeCells (Value.bool false).cells (n * 1)).toList = flat BoC (List.replicate n false) := by
  rw [flat_bo]
  apply List.ext_getElem
  · simp [madeCells]
  · intro i h1 h2
    simp [madeCells, Value.cells, Nat.mod_one]
end Go.Proofs.Ytollihgjcmiolaa
/- Contracts: slices.Insert, slices.BinarySearch over rising ticks. -/
namespace Go.Proofs.Ytollihgjcmiolaa
open Go.RowKit
set_option linter.unusedVariables false
set_option linter.unusedSimpArgs false
set_option maxHeartbeats 400000
set_option maxRecDepth 100000
theorem rowIs_cells {b : Nat} {t : TypeId} {n : Nat} : ∀ (vs : List Value) (o : Nat) (w : World) (f : Nat → Value), w.rowIs b t n f → (w.setCells b o vs).rowIs b t n (fun j => if o ≤ j ∧ j < o + vs.length then vs[j - o]?.getD default else f j) := by
  intro vs
  induction vs with
  | nil =>
    intro o w f h
    exact h.congr (fun i hi => by rw [if_neg (by simp only [List.length_nil]; omega)])
  | cons v r ih =>
    intro o w f h
    have h1 := ih (o + 1) _ _ (h.set o v)
    refine World.rowIs.congr h1 (fun i hi => ?_)
    simp only [List.length_cons]
    by_cases h2 : i = o
    · subst h2
      rw [if_neg (by omega), if_pos rfl, if_pos (by omega)]; simp
    · by_cases h3 : o + 1 ≤ i ∧ i < o + 1 + r.length
      · rw [if_pos h3, if_pos (by omega), show i - o = (i - (o + 1)) + 1 by omega]; rfl
      · rw [if_neg h3, if_neg h2, if_neg (by omega)]
theorem grown_cells (g : Nat) : ∀ (vs : List Value) (o : Nat) (w : World), w.grownBy (w.setCells g o vs) (some g)
  | [], o, w => World.grownBy.refl _ _
  | v :: r, o, w => by
    have h1 : w.grownBy (w.setCell ⟨g, o, none⟩ v) (some g) := ⟨rfl, rfl, rfl, by simp, fun k _ hk => heap_setCell_other w ⟨g, o, none⟩ k v (fun e => hk (by simp [e]))⟩
    exact grown_trans h1 (grown_cells g r (o + 1) _)
theorem grown_far {w W : World} {row : Option Nat} (h : w.grownBy W row) (g : Nat) (hg : w.heap.size ≤ g) (os : List Value) (o : Nat) : w.grownBy (W.setCells g o os) row :=
  have k := grown_cells g os o W
  ⟨k.os.trans h.os, k.tape.trans h.tape, k.output.trans h.output, Nat.le_trans h.size k.size, fun i hi hne => by rw [k.block i (Nat.lt_of_lt_of_le hi h.size) (fun e => by cases e; omega)]; exact h.block i hi hne⟩
theorem grown_drew (w : World) (row : Option Nat) : w.grownBy w.drew row := ⟨rfl, rfl, rfl, Nat.le_refl _, fun _ _ _ => rfl⟩
theorem grown_drewN (w : World) (n : Nat) (row : Option Nat) : w.grownBy (w.drewN n) row := ⟨rfl, rfl, rfl, Nat.le_refl _, fun _ _ _ => rfl⟩
theorem grown_alloc (w : World) (o : Obj) (row : Option Nat) : w.grownBy (w.alloc o) row := ⟨rfl, rfl, rfl, by simp, fun k hk _ => Below.heap_alloc w o k hk⟩
/-- A row of ints of one's own, cut anywhere. -/
def OffI (B : Nat) (w : World) (v : Value) (xs : List Int) (g : Nat) : Prop :=
  B ≤ g ∧ ∃ off cap N f, v = .slice (some ⟨g, off, none⟩) xs.length cap ∧ w.rowIs g 3 N f ∧ xs.length ≤ cap ∧ cap ≤ 9223372036854775807 ∧ off + cap ≤ N ∧ ∀ j (h : j < xs.length), f (off + j) = .int .i64 xs[j]
section
variable {B : Nat} {w w' : World} {v : Value} {xs : List Int} {g : Nat}
theorem OffI.lt (h : OffI B w v xs g) : g < w.heap.size := by
  obtain ⟨-, off, cap, N, f, -, h1, -⟩ := h
  exact h1.lt
theorem OffI.kept {row : Option Nat} (h : OffI B w v xs g) (hg : w.grownBy w' row) (hne : some g ≠ row) : OffI B w' v xs g := by
  have hl := h.lt
  obtain ⟨h1, off, cap, N, f, h2, h3, h4⟩ := h
  exact ⟨h1, off, cap, N, f, h2, h3.of_block (hg.block g hl hne), h4⟩
theorem OffI.below {B' : Nat} (h : OffI B w v xs g) (hb : Below B' w w') (hB : w.heap.size ≤ B') : OffI B w' v xs g := by
  have hl := h.lt
  obtain ⟨h1, off, cap, N, f, h2, h3, h4⟩ := h
  exact ⟨h1, off, cap, N, f, h2, h3.of_block (hb.block g (by omega)), h4⟩
theorem OffI.head {x : Int} (h : OffI B w v (x :: xs) g) : ∃ off cap, v = .slice (some ⟨g, off, none⟩) (xs.length + 1) (cap + 1) ∧ w.cell? ⟨g, off, none⟩ = some (.int .i64 x) ∧ xs.length ≤ cap ∧ cap < 9223372036854775807 := by
  obtain ⟨h1, off, cap, N, f, h2, h3, h4, h5, h6, h7⟩ := h
  rw [List.length_cons] at h4
  refine ⟨off, cap - 1, ?_, ?_, by omega, by omega⟩
  · rw [h2, List.length_cons, show cap - 1 + 1 = cap by omega]
  · rw [h3.cell (by omega)]
    have := h7 0 (by simp)
    rw [Nat.add_zero] at this
    rw [this]; rfl
/-- The rest. -/
theorem OffI.tail {x : Int} {off cap : Nat} (h : OffI B w (.slice (some ⟨g, off, none⟩) (xs.length + 1) (cap + 1)) (x :: xs) g) : OffI B w (.slice (some ⟨g, off + 1, none⟩) xs.length cap) xs g ∧ (cap = 0 → OffI B w (.slice (some ⟨g, off, none⟩) xs.length cap) xs g) := by
  obtain ⟨h1, off', cap', N, f, h2, h3, h4, h5, h6, h7⟩ := h
  cases h2
  rw [List.length_cons] at h4
  refine ⟨⟨h1, off + 1, cap, N, f, rfl, h3, by omega, by omega, by omega, fun j hj => ?_⟩, fun hc => ⟨h1, off, cap, N, f, rfl, h3, by omega, by omega, by omega, fun j hj => by omega⟩⟩
  have := h7 (j + 1) (by simp; omega)
  rw [show off + 1 + j = off + (j + 1) by omega, this]; rfl
theorem OffI.new (w : World) (hB : B ≤ w.heap.size) : OffI B (w.alloc (.cells #[] 3)) (.slice (some ⟨w.heap.size, 0, none⟩) 0 0) [] w.heap.size :=
  ⟨hB, 0, 0, 0, fun _ => default, rfl, World.rowIs_alloc w #[] 3 _ (fun i hi => by simp at hi), by simp, by omega, by simp, fun j hj => by simp at hj⟩
end
theorem insert_mid (xs : List Int) (i : Nat) (hi : i ≤ xs.length) (x : Int) (j : Nat) (hj : j < (xs.take i ++ x :: xs.drop i).length) : (xs.take i ++ x :: xs.drop i)[j] = if h1 : j < i then xs[j]'(by omega) else if h2 : j = i then x else xs[j - 1]'(by simp at hj; omega) := by
  rw [List.getElem_append]
  simp only [List.length_take, Nat.min_eq_left hi]
  by_cases h1 : j < i
  · rw [dif_pos h1, dif_pos h1, List.getElem_take]
  · rw [dif_neg h1, dif_neg h1]
    by_cases h2 : j = i
    · subst h2
      rw [dif_pos rfl]; simp
    · rw [dif_neg h2]
      obtain ⟨k, hk⟩ : ∃ k, j - i = k + 1 := ⟨j - i - 1, by omega⟩
      simp only [hk, List.getElem_cons_succ, List.getElem_drop]
      congr 1
      omega
set_option maxHeartbeats 1600000 in
theorem insert_any {B : Nat} (v : Value) (xs : List Int) (g : Nat) (x : Int) (i : Nat) (hi : i ≤ xs.length) (w : World) (h : OffI B w v xs g) (hn : xs.length ≤ 100000) (vb : Nat) (hvb : w.heap[vb]? = some (.cells #[.int .i64 x] 3 (0, 0))) (hne : vb ≠ g) (hB : B ≤ w.heap.size) :
    Calls Try.prog 85 #[v, .int .i64 i, .slice (some ⟨vb, 0, none⟩) 1 1] w fun e w' => ∃ v' g', e = .returned v' ∧ OffI B w' v' (xs.take i ++ x :: xs.drop i) g' ∧ w.grownBy w' (some g) ∧ (g' = g ∨ w.heap.size ≤ g') := by
  have hlg := h.lt
  obtain ⟨hBg, off, cap, N, f, rfl, hrow, hcap, hc63, hN, hf⟩ := h
  have hcs : ∀ j u, (xs.map (Value.int .i64))[j]? = some u → w.cell? ⟨g, off + j, none⟩ = some u := by
    intro j u hu
    have hj : j < xs.length := by have := (List.getElem?_eq_some_iff.1 hu).1; simpa using this
    rw [hrow.cell (by omega), hf j hj]
    rw [List.getElem?_map, List.getElem?_eq_getElem hj] at hu
    simpa using hu
  have hvs : ∀ j u, [Value.int .i64 x][j]? = some u → w.cell? ⟨vb, 0 + j, none⟩ = some u := by
    intro j u hu
    have hj : j < 1 := by have := (List.getElem?_eq_some_iff.1 hu).1; simpa using this
    have : j = 0 := by omega
    subst this
    rw [cell_of_row _ _ _ _ _ _ hvb]
    simpa using hu
  have h1v : ∀ u ∈ [Value.int .i64 x], u.oneCell' = true := by intro u hu; simp at hu; subst hu; rfl
  have h1c : ∀ u ∈ xs.map (Value.int .i64), u.oneCell' = true := by intro u hu; simp at hu; obtain ⟨y, -, rfl⟩ := hu; rfl
  have hlen : (xs.take i ++ x :: xs.drop i).length = xs.length + 1 := by simp; omega
  have hmid := fun j hj => insert_mid xs i hi x j hj
  by_cases hend : i = xs.length
  · subst hend
    by_cases hroom : xs.length + 1 ≤ cap
    · have hC := Any2.slices_Insert_int_end_room Try.laysIns g off xs.length cap vb 0 1 1 [.int .i64 x] w (by omega) hroom hc63 rfl
        (fun k hk => by rw [hrow.cell (by omega)]; rfl) (fun k hk => hrow.frozen _) hvs h1v
      refine Calls.mono hC ?_
      rintro e w' ⟨rfl, rfl⟩
      have hr := rowIs_cells [Value.int .i64 x] (off + xs.length) w f hrow
      refine ⟨_, g, rfl, ⟨hBg, off, cap, N, _, by rw [hlen], hr, by omega, hc63, hN, fun k hk => ?_⟩, grown_cells g _ _ _, .inl rfl⟩
      rw [hmid k hk]
      rw [hlen] at hk
      simp only [List.length_cons, List.length_nil]
      by_cases h1 : k < xs.length
      · rw [if_neg (by omega), dif_pos h1, hf k h1]
      · have : k = xs.length := by omega
        subst this
        rw [if_pos (by omega), dif_neg h1, dif_pos rfl]; simp
    · have hC := Any2.slices_Insert_int_end_grow Try.laysIns (some ⟨g, off, none⟩) xs.length cap vb 0 1 1 (xs.map (Value.int .i64)) [.int .i64 x] w (by omega) hcap (by omega) (by omega) (by simp) rfl (fun h9 => by cases h9)
        (fun a ha k u hk => by cases ha; rw [Addr.add_lit]; exact hcs k u hk) hvs h1v
      refine Calls.mono hC ?_
      rintro e w' ⟨rfl, rfl⟩
      have hge := grownCap_ge w (xs.length + 1) cap 3
      have hle := grownCap_le_maxLen w (xs.length + 1) cap 3 (by unfold maxLen; omega)
      change xs.length + 1 ≤ grownCap w (xs.length + 1) cap (Try.laysIns_ren.t 3) at hge
      change grownCap w (xs.length + 1) cap (Try.laysIns_ren.t 3) ≤ maxLen at hle
      generalize grownCap w (xs.length + 1) cap (Try.laysIns_ren.t 3) = gc at hge hle ⊢
      obtain ⟨Z, hZ⟩ : ∃ Z, Z = Builtin.zeroCells (Value.int .i64 0).cells (gc - (xs.length + 1)) := ⟨_, rfl⟩
      have hZs : Z.size = gc - (xs.length + 1) := by rw [hZ, size_zeroCells]; simp [Value.cells]
      rw [← hZ]
      refine ⟨_, w.heap.size, rfl, ⟨hB, 0, gc, ((xs.map (Value.int .i64) ++ [Value.int .i64 x]).toArray ++ Z).size, fun k => ((xs.map (Value.int .i64) ++ [Value.int .i64 x]).toArray ++ Z)[k]?.getD default, by rw [hlen], World.rowIs_alloc w.drew _ 3 _ (fun k hk => by rw [Array.getElem?_eq_getElem hk]; rfl), by omega, by unfold maxLen at hle; omega, by simp [hZs]; omega, fun k hk => ?_⟩, grown_trans (grown_drew w _) (grown_alloc _ _ _), .inr (Nat.le_refl _)⟩
      rw [hmid k hk]
      rw [hlen] at hk
      dsimp only
      rw [Nat.zero_add, Array.getElem?_append_left (by simp; omega), List.getElem?_toArray]
      by_cases h1 : k < xs.length
      · rw [dif_pos h1, List.getElem?_append_left (by simpa using h1), List.getElem?_map, List.getElem?_eq_getElem h1]; rfl
      · have : k = xs.length := by omega
        subst this
        rw [dif_neg h1, dif_pos rfl, List.getElem?_append_right (by simp)]; simp
  · have hil : i < xs.length := by omega
    have hdl : ((xs.map (Value.int .i64)).drop i).length = xs.length - i := by simp
    by_cases hroom : xs.length + 1 ≤ cap
    · have hshb : w.shape? vb = some (3, 1) := by unfold World.shape?; rw [hvb]; rfl
      have hshg : ∃ cs, w.heap[g]? = some (.cells cs 3 (0, 0)) ∧ cs.size = N := by obtain ⟨c, e1, e2, -⟩ := hrow; exact ⟨c, e1, e2⟩
      obtain ⟨cs, e1, e2⟩ := hshg
      have hshg : w.shape? g = some (3, N) := by unfold World.shape?; rw [e1]; simp [e2]
      have hfv : ∀ k, w.frozen? ⟨vb, k, none⟩ = false := by intro k; unfold World.frozen?; rw [hvb]; simp
      have hC := Any2.slices_Insert_int_shift Try.laysIns g off xs.length cap i vb 0 1 1 (xs.map (Value.int .i64)) [.int .i64 x] w hil (by omega) hroom hc63 hne (by simp) rfl hcs
        (fun k hk => by rw [hrow.cell (by omega)]; rfl) (fun k hk => hrow.frozen _) hvs h1c h1v 3 3 1 N hshb hshg (by omega) (hfv 0) (hfv 1)
      refine Calls.mono hC ?_
      rintro e w' ⟨rfl, rfl⟩
      have hr := rowIs_cells [Value.int .i64 x] (off + i) _ _ (rowIs_cells ((xs.map (Value.int .i64)).drop i) (off + (i + 1)) w.drew f hrow.drew)
      refine ⟨_, g, rfl, ⟨hBg, off, cap, N, _, by rw [hlen], hr, by omega, hc63, hN, fun k hk => ?_⟩, grown_trans (grown_drew w _) (grown_trans (grown_cells g _ _ _) (grown_cells g _ _ _)), .inl rfl⟩
      rw [hmid k hk]
      rw [hlen] at hk
      rw [hdl]
      simp only [List.length_cons, List.length_nil]
      by_cases h1 : k < i
      · rw [dif_pos h1, if_neg (by omega), if_neg (by omega), hf k (by omega)]
      · by_cases h2 : k = i
        · subst h2
          rw [dif_neg h1, dif_pos rfl, if_pos (by omega)]; simp
        · rw [dif_neg h1, dif_neg h2, if_neg (by omega), if_pos (by omega), List.getElem?_drop, List.getElem?_map, show i + (off + k - (off + (i + 1))) = k - 1 by omega, List.getElem?_eq_getElem (by omega)]; rfl
    · have hC := Any2.slices_Insert_int_grow Try.laysIns g off xs.length cap i vb 0 1 1 (xs.map (Value.int .i64)) [.int .i64 x] w hil (by omega) hcap (by omega) (by omega) (by simp) rfl hcs hvs h1c h1v
      refine Calls.mono hC ?_
      rintro e w' ⟨rfl, rfl⟩
      have hge := grownCap_ge w (xs.length + 1) cap 3
      have hle := grownCap_le_maxLen w (xs.length + 1) cap 3 (by unfold maxLen; omega)
      change xs.length + 1 ≤ grownCap w (xs.length + 1) cap (Try.laysIns_ren.t 3) at hge
      change grownCap w (xs.length + 1) cap (Try.laysIns_ren.t 3) ≤ maxLen at hle
      generalize grownCap w (xs.length + 1) cap (Try.laysIns_ren.t 3) = gc at hge hle ⊢
      obtain ⟨Z, hZ⟩ : ∃ Z, Z = Builtin.zeroCells (Value.int .i64 0).cells (xs.length + 1 - i) := ⟨_, rfl⟩
      obtain ⟨Z2, hZ2⟩ : ∃ Z, Z = Builtin.zeroCells (Value.int .i64 0).cells (gc - (xs.length + 1)) := ⟨_, rfl⟩
      have hZs : Z.size = xs.length + 1 - i := by rw [hZ, size_zeroCells]; simp [Value.cells]
      have hZs2 : Z2.size = gc - (xs.length + 1) := by rw [hZ2, size_zeroCells]; simp [Value.cells]
      rw [← hZ, ← hZ2]
      have hr0 := World.rowIs_alloc w (((xs.map (Value.int .i64)).take i).toArray ++ Z ++ Z2) 3 (fun k => (((xs.map (Value.int .i64)).take i).toArray ++ Z ++ Z2)[k]?.getD default) (fun k hk => by rw [Array.getElem?_eq_getElem hk]; rfl)
      have hr := rowIs_cells ((xs.map (Value.int .i64)).drop i) (i + 1) _ _ (World.rowIs.drew (rowIs_cells [Value.int .i64 x] i _ _ hr0.drew))
      refine ⟨_, w.heap.size, rfl, ⟨hB, 0, gc, _, _, by rw [hlen], hr, by omega, by unfold maxLen at hle; omega, by simp [hZs, hZs2]; omega, fun k hk => ?_⟩, ?_, .inr (Nat.le_refl _)⟩
      · rw [hmid k hk]
        rw [hlen] at hk
        rw [hdl]
        simp only [List.length_cons, List.length_nil, Nat.zero_add]
        by_cases h1 : k < i
        · rw [dif_pos h1, if_neg (by omega), if_neg (by omega), Array.append_assoc, Array.getElem?_append_left (by simp; omega), List.getElem?_toArray, List.getElem?_take, if_pos h1, List.getElem?_map, List.getElem?_eq_getElem (by omega)]; rfl
        · by_cases h2 : k = i
          · subst h2
            rw [dif_neg h1, dif_pos rfl, if_neg (by omega), if_pos (by omega)]; simp
          · rw [dif_neg h1, dif_neg h2, if_pos (by omega), List.getElem?_drop, List.getElem?_map, show i + (k - (i + 1)) = k - 1 by omega, List.getElem?_eq_getElem (by omega)]; rfl
      · exact grown_far (grown_trans (grown_far (grown_trans (grown_alloc w _ _) (grown_drew _ _)) w.heap.size (Nat.le_refl _) _ _) (grown_drew _ _)) w.heap.size (Nat.le_refl _) _ _
end Go.Proofs.Ytollihgjcmiolaa
/- Maps whose keys are ints: look-ups and stores. -/
namespace Go.Proofs.Ytollihgjcmiolaa
open Go.RowKit
set_option linter.unusedVariables false
/-- The type int. -/
def ITy (P : Program) (k : TypeId) : Prop := P.underlying k = some (.int .i64)
/-- Block m of w is a map from cells to values. -/
def IMapAt (w : World) (m : Nat) (kv : List (Int × Value)) : Prop :=
  ∃ es clock, w.heap[m]? = some (.map es clock) ∧ es.toList.map (fun e => (e.key, e.val)) = kv.map (fun p => (Value.int .i64 p.1, p.2))

/-- What a look-up finds, with its place. -/
def imfind (c : Int) : List (Int × Value) → Nat → Option (Nat × Value)
  | [], _ => none
  | p :: r, i => if c = p.1 then some (i, p.2) else imfind c r (i + 1)

theorem now_i (c : Int) : ∀ (es : List MapEntry) (kv : List (Int × Value)) (i : Nat), es.map (fun e => (e.key, e.val)) = kv.map (fun p => (Value.int .i64 p.1, p.2)) → Instr.findNow (.int .i64) (.int .i64 c) es i = some (imfind c kv i) := by
  intro es
  induction es with
  | nil =>
    intro kv i he
    cases kv with
    | nil => rfl
    | cons p r => simp at he
  | cons e es ih =>
    intro kv i he
    cases kv with
    | nil => simp at he
    | cons p r =>
      simp only [List.map_cons, List.cons.injEq, Prod.mk.injEq] at he
      obtain ⟨⟨hk, hv⟩, hr⟩ := he
      unfold Instr.findNow
      rw [hk]
      by_cases hc : c = p.1
      · simp [Instr.sameNow, imfind, hc, hv]
      · simp only [Instr.sameNow, imfind, hc, if_true, if_false, beq_eq_false_iff_ne, ne_eq, not_false_eq_true, (show (c == p.1) = false by simpa using hc)]
        exact ih r (i + 1) hr
theorem key_i {P : Program} {k : TypeId} (h : ITy P k) (c : Int) (w : World) (es : List MapEntry) (kv : List (Int × Value)) (he : es.map (fun e => (e.key, e.val)) = kv.map (fun p => (Value.int .i64 p.1, p.2))) :
    (Instr.findKey k (.int .i64 c) es).run P w = .ok (imfind c kv 0) w := by
  unfold Instr.findKey
  simp only [Sem.run_bind, run_underlying h, Result.andThen_ok, now_i c es kv 0 he]
  rfl
theorem check_i {P : Program} {k : TypeId} (h : ITy P k) (em : Bool) (c : Int) (w : World) : (Instr.checkKey em 10000 k (.int .i64 c)).run P w = .ok () w := by
  have : ∀ n, (Instr.checkKey em (n + 1) k (.int .i64 c)).run P w = .ok () w := by intro n; simp [Instr.checkKey, run_underlying h]
  exact this 9999
/-- 'm[c]', 'v, ok := m[c]'. -/
theorem run_lookup_i {P : Program} {k t et : TypeId} (h : ITy P k) (ht : P.underlying t = some (.map k et)) (z : Value) (hz : ∀ w, (zeroValue et).run P w = .ok z w) {w : World} {m : Nat} {kv : List (Int × Value)} (hm : IMapAt w m kv) (c : Int) (ok : Bool) :
    (Instr.lookup t (.map (some m)) (.int .i64 c) ok).run P w = .ok (if ok then .tuple #[((imfind c kv 0).map (·.2)).getD z, .bool (imfind c kv 0).isSome] else ((imfind c kv 0).map (·.2)).getD z) w := by
  obtain ⟨es, clock, hb, he⟩ := hm
  have hg : (getObj m).run P w = .ok (.map es clock) w := by simp [getObj, Sem.run, hb]
  unfold Instr.lookup
  simp only [Sem.run_bind, run_underlying ht, Result.andThen_ok, hg, Sem.run_pure, check_i h, key_i h c w es.toList kv he]
  cases hf : imfind c kv 0 with
  | none => cases ok <;> simp [hz]
  | some p => cases ok <;> simp

def imget (c : Int) (kv : List (Int × Value)) : Option Value := (imfind c kv 0).map (·.2)
def imput (c : Int) (v : Value) : List (Int × Value) → List (Int × Value)
  | [] => [(c, v)]
  | p :: r => if c = p.1 then (c, v) :: r else p :: imput c v r

theorem imfind_off (c : Int) : ∀ (kv : List (Int × Value)) (i j : Nat), imfind c kv (i + j) = (imfind c kv i).map (fun p => (p.1 + j, p.2)) := by
  intro kv
  induction kv with
  | nil => intro i j; rfl
  | cons p r ih =>
    intro i j
    simp only [imfind]
    by_cases h : c = p.1
    · simp [h]
    · simp only [h, if_false]; rw [show i + j + 1 = (i + 1) + j by omega]; exact ih (i + 1) j

theorem imget_cons (c : Int) (p : Int × Value) (r : List (Int × Value)) : imget c (p :: r) = if c = p.1 then some p.2 else imget c r := by
  unfold imget
  simp only [imfind]
  by_cases h : c = p.1
  · simp [h]
  · simp only [h, if_false]; rw [imfind_off c r 0 1]; cases imfind c r 0 <;> rfl

theorem imget_nil (c : Int) : imget c [] = none := rfl

theorem imget_put (c d : Int) (v : Value) : ∀ kv : List (Int × Value), imget d (imput c v kv) = if d = c then some v else imget d kv := by
  intro kv
  induction kv with
  | nil => simp [imput, imget_cons, imget_nil]
  | cons p r ih =>
    simp only [imput]
    by_cases h : c = p.1
    · rw [if_pos h, imget_cons, imget_cons]
      by_cases h2 : d = c
      · simp [h2]
      · simp only [h2, if_false]; rw [if_neg (by rw [← h]; exact h2)]
    · rw [if_neg h, imget_cons, imget_cons, ih]
      by_cases h2 : d = p.1
      · rw [if_pos h2, if_pos h2, if_neg (by rw [h2]; exact fun e => h e.symm)]
      · rw [if_neg h2, if_neg h2]

theorem imput_some (c : Int) (v : Value) : ∀ (kv : List (Int × Value)) (i : Nat) (u : Value), imfind c kv 0 = some (i, u) → imput c v kv = kv.modify i (fun p => (p.1, v)) ∧ ∃ p, kv[i]? = some p ∧ p.1 = c := by
  intro kv
  induction kv with
  | nil => intro i u h; simp [imfind] at h
  | cons p r ih =>
    intro i u h
    simp only [imfind] at h
    by_cases hc : c = p.1
    · simp only [hc, if_true, Option.some.injEq, Prod.mk.injEq] at h
      obtain ⟨rfl, rfl⟩ := h
      exact ⟨by simp [imput, hc], p, rfl, hc.symm⟩
    · rw [if_neg hc, imfind_off c r 0 1] at h
      cases hm : imfind c r 0 with
      | none => simp [hm] at h
      | some q =>
        simp only [hm, Option.map_some, Option.some.injEq, Prod.mk.injEq] at h
        obtain ⟨rfl, rfl⟩ := h
        obtain ⟨h1, h2⟩ := ih q.1 q.2 hm
        exact ⟨by simp [imput, hc, h1], by simpa using h2⟩

theorem imput_none (c : Int) (v : Value) : ∀ (kv : List (Int × Value)), imfind c kv 0 = none → imput c v kv = kv ++ [(c, v)] := by
  intro kv
  induction kv with
  | nil => intro _; rfl
  | cons p r ih =>
    intro h
    simp only [imfind] at h
    by_cases hc : c = p.1
    · simp [hc] at h
    · rw [if_neg hc, imfind_off c r 0 1] at h
      simp only [imput, hc, if_false, List.cons_append]
      rw [ih (by cases hm : imfind c r 0 <;> simp_all)]

theorem same_i (c : Int) : Instr.sameBits 10000 (.int .i64 c) (.int .i64 c) = true := by
  have : ∀ n, Instr.sameBits (n + 1) (.int .i64 c) (.int .i64 c) = true := by intro n; simp [Instr.sameBits]
  exact this 9999

/-- 'm[c] = v'. -/
theorem run_update_i {P : Program} {k t et : TypeId} (h : ITy P k) (ht : P.underlying t = some (.map k et)) {w : World} {m : Nat} {kv : List (Int × Value)} (hm : IMapAt w m kv) (c : Int) (v : Value) :
    ∃ w', (Instr.mapUpdate t (.map (some m)) (.int .i64 c) v).run P w = .ok () w' ∧ IMapAt w' m (imput c v kv) ∧ w.grownBy w' (some m) ∧ w'.heap.size = w.heap.size := by
  obtain ⟨es, clock, hb, he⟩ := hm
  have hlt : m < w.heap.size := (Array.getElem?_eq_some_iff.1 hb).1
  have hg : (getObj m).run P w = .ok (.map es clock) w := by simp [getObj, Sem.run, hb]
  have hs : ∀ o, (setObj m o).run P w = .ok () { w with heap := w.heap.setIfInBounds m o } := by intro o; simp [setObj, Sem.run, hb]
  have hgr : ∀ o, w.grownBy { w with heap := w.heap.setIfInBounds m o } (some m) := fun o =>
    ⟨rfl, rfl, rfl, by simp, fun j _ hj => by
      have : m ≠ j := fun e => hj (by rw [e])
      simp [this]⟩
  unfold Instr.mapUpdate
  simp only [Sem.run_bind, run_underlying ht, Result.andThen_ok, hg, check_i h, key_i h c w es.toList kv he]
  cases hf : imfind c kv 0 with
  | none =>
    refine ⟨{ w with heap := w.heap.setIfInBounds m (.map (es.push ⟨(.int .i64 c), v, clock⟩) (clock + 1)) }, by simp [hs], ?_, hgr _, by simp⟩
    refine ⟨es.push ⟨(.int .i64 c), v, clock⟩, clock + 1, by simp [hlt], ?_⟩
    rw [imput_none c v kv hf]
    simp [he]
  | some q =>
    obtain ⟨i, u⟩ := q
    obtain ⟨h1, p, h2, h3⟩ := imput_some c v kv i u hf
    have hl : es.toList.length = kv.length := by have := congrArg List.length he; simpa using this
    have hi : i < kv.length := (List.getElem?_eq_some_iff.1 h2).1
    have hie : i < es.size := by rw [← hl] at hi; simpa using hi
    have hkey : es[i]? = some es[i] := Array.getElem?_eq_getElem hie
    have hk2 : es[i].key = (.int .i64 c) := by
      have := congrArg (fun l => l[i]?) he
      simp only [List.getElem?_map, h2] at this
      rw [show es.toList[i]? = some es[i] by simp] at this
      simp only [Option.map_some, Option.some.injEq, Prod.mk.injEq] at this
      rw [this.1, h3]
    refine ⟨{ w with heap := w.heap.setIfInBounds m (.map (es.modify i fun e => { e with key := (.int .i64 c), val := v }) clock) }, ?_, ?_, hgr _, by simp⟩
    · simp [hkey, hk2, Instr.keyThatStays, same_i, hs]
    · refine ⟨es.modify i fun e => { e with key := (.int .i64 c), val := v }, clock, by simp [hlt], ?_⟩
      rw [h1]
      apply List.ext_getElem?
      intro j
      have hej := congrArg (fun l => l[j]?) he
      simp only [List.getElem?_map] at hej
      simp only [Array.toList_modify, List.getElem?_map, List.getElem?_modify]
      by_cases hij : i = j
      · subst hij
        rw [h2] at hej ⊢
        rw [show es.toList[i]? = some es[i] by simp] at hej ⊢
        simp [h3]
      · simp only [hij, if_false]
        simpa using hej

theorem imap_below {B : Nat} {w w' : World} {m : Nat} {kv : List (Int × Value)} (hm : IMapAt w m kv) (hb : Below B w w') (h : m < B) : IMapAt w' m kv := by
  obtain ⟨es, clock, h1, h2⟩ := hm
  exact ⟨es, clock, by rw [hb.block m h]; exact h1, h2⟩
theorem imap_new (w : World) : IMapAt (w.alloc (.map #[] 0)) w.heap.size [] := ⟨#[], 0, heap_alloc_new w _, by simp⟩
theorem imap_alloc {w : World} {m : Nat} {kv : List (Int × Value)} (hm : IMapAt w m kv) (o : Obj) : IMapAt (w.alloc o) m kv := by
  obtain ⟨es, clock, h1, h2⟩ := hm
  exact ⟨es, clock, by rw [Below.heap_alloc w o m (Array.getElem?_eq_some_iff.1 h1).1]; exact h1, h2⟩
theorem imap_lt {w : World} {m : Nat} {kv : List (Int × Value)} (hm : IMapAt w m kv) : m < w.heap.size := by
  obtain ⟨es, clock, h1, h2⟩ := hm
  exact (Array.getElem?_eq_some_iff.1 h1).1

/-- 'm[c] = v' for the walk. -/
theorem wpList_update_i {P : Program} (w : World) {ops : Array Oper} {rest : List Oper} {o : Oper} {a : Act} {Q : Exit → Act → World → Prop}
    (hg : o.guard = none) (m x v : Operand) (t : TypeId) (hop : o.op = Op.mapUpdate t m x v) {k et : TypeId} (h : ITy P k) (ht : P.underlying t = some (.map k et)) (b : Nat) (kv : List (Int × Value))
    (hm : a.eval m = .map (some b)) (hown : IMapAt w b kv) (c : Int) (val : Value) (hx : a.eval x = (.int .i64 c)) (hv : a.eval v = val)
    (hK : ∀ w', IMapAt w' b (imput c val kv) → w.grownBy w' (some b) → w'.heap.size = w.heap.size → wpList P ops Q rest (a.put o.dst undef) w') :
    wpList P ops Q (o :: rest) a w := by
  refine wpList_plain hg fun K' hK' => ?_
  obtain ⟨w', hrun, r1, r2, r3⟩ := run_update_i h ht hown c val
  unfold Oper.wp
  simp [execOp, hop, hm, hx, hv, hrun, Result.andThen]
  exact hK' _ _ (hK w' r1 r2 r3)

end Go.Proofs.Ytollihgjcmiolaa
/- The run of a board (the reference): plain laws of its inner loops. -/
namespace Go.Proofs.Ytollihgjcmiolaa
open Go.RowKit
set_option linter.unusedVariables false
set_option linter.unusedSimpArgs false
set_option maxHeartbeats 400000
set_option maxRecDepth 100000
/-- What the search for the next piece knows of the first j. -/
def AtOk (dn : List Bool) (nx : List Fa) (j : Nat) (at_ : Int) : Prop :=
  (at_ = -1 ∧ ∀ i, i < j → dn.getD i false = false → (nx.getD i default).t < 0) ∨
  ∃ a : Nat, a < j ∧ at_ = (a : Int) ∧ dn.getD a false = false ∧ 0 ≤ (nx.getD a default).t ∧ ∀ i, i < j → dn.getD i false = false → 0 ≤ (nx.getD i default).t → (nx.getD a default).t ≤ (nx.getD i default).t
theorem AtOk.zero (dn : List Bool) (nx : List Fa) : AtOk dn nx 0 (-1) := .inl ⟨rfl, fun i hi => by omega⟩
theorem lt_succ {j i : Nat} (h : i < j + 1) : i < j ∨ i = j := Nat.lt_succ_iff_lt_or_eq.1 h
theorem AtOk.skipD {dn : List Bool} {nx : List Fa} {j : Nat} {at_ : Int} (h : AtOk dn nx j at_) (hd : dn.getD j false = true) : AtOk dn nx (j + 1) at_ := by
  rcases h with ⟨h1, h2⟩ | ⟨a, h1, h2, h3, h4, h5⟩
  · refine .inl ⟨h1, fun i hi hdi => ?_⟩
    rcases lt_succ hi with h | rfl
    · exact h2 i h hdi
    · rw [hd] at hdi; cases hdi
  · refine .inr ⟨a, by omega, h2, h3, h4, fun i hi hdi h0 => ?_⟩
    rcases lt_succ hi with h | rfl
    · exact h5 i h hdi h0
    · rw [hd] at hdi; cases hdi
theorem AtOk.skipX {dn : List Bool} {nx : List Fa} {j : Nat} {at_ : Int} (h : AtOk dn nx j at_) (hx : (nx.getD j default).t < 0) : AtOk dn nx (j + 1) at_ := by
  rcases h with ⟨h1, h2⟩ | ⟨a, h1, h2, h3, h4, h5⟩
  · refine .inl ⟨h1, fun i hi hdi => ?_⟩
    rcases lt_succ hi with h | rfl
    · exact h2 i h hdi
    · exact hx
  · refine .inr ⟨a, by omega, h2, h3, h4, fun i hi hdi h0 => ?_⟩
    rcases lt_succ hi with h | rfl
    · exact h5 i h hdi h0
    · omega
theorem AtOk.first {dn : List Bool} {nx : List Fa} {j : Nat} (h : ∀ i, i < j → dn.getD i false = false → (nx.getD i default).t < 0) (hd : dn.getD j false = false) (hx : 0 ≤ (nx.getD j default).t) : AtOk dn nx (j + 1) (j : Int) := by
  refine .inr ⟨j, by omega, rfl, hd, hx, fun i hi hdi h0 => ?_⟩
  rcases lt_succ hi with h' | rfl
  · have := h i h' hdi; omega
  · exact Int.le_refl _
theorem AtOk.less {dn : List Bool} {nx : List Fa} {j a : Nat} (h5 : ∀ i, i < j → dn.getD i false = false → 0 ≤ (nx.getD i default).t → (nx.getD a default).t ≤ (nx.getD i default).t) (hd : dn.getD j false = false) (hx : 0 ≤ (nx.getD j default).t) (hl : (nx.getD j default).t < (nx.getD a default).t) : AtOk dn nx (j + 1) (j : Int) := by
  refine .inr ⟨j, by omega, rfl, hd, hx, fun i hi hdi h0 => ?_⟩
  rcases lt_succ hi with h' | rfl
  · have := h5 i h' hdi h0; omega
  · exact Int.le_refl _
theorem AtOk.keep {dn : List Bool} {nx : List Fa} {j a : Nat} (h1 : a < j) (h3 : dn.getD a false = false) (h4 : 0 ≤ (nx.getD a default).t) (h5 : ∀ i, i < j → dn.getD i false = false → 0 ≤ (nx.getD i default).t → (nx.getD a default).t ≤ (nx.getD i default).t) (hl : ¬ (nx.getD j default).t < (nx.getD a default).t) : AtOk dn nx (j + 1) (a : Int) := by
  refine .inr ⟨a, by omega, rfl, h3, h4, fun i hi hdi h0 => ?_⟩
  rcases lt_succ hi with h' | rfl
  · exact h5 i h' hdi h0
  · omega
/-- From which sides hits come. -/
theorem due_side (ps : List Pc) (pl : List Pu) (fs : List Fa) (hp : ∀ p ∈ pl, 0 ≤ p.s ∧ p.s ≤ 3) (i : Nat) (m : Ht) (hm : m ∈ dueC ps pl fs i) : 0 ≤ m.2.1 ∧ m.2.1 ≤ 3 := by
  rw [cand_mem] at hm
  rcases hm.2 with h1 | ⟨s, hs, h1⟩
  · unfold candP at h1
    rw [List.mem_filterMap] at h1
    obtain ⟨p, hpm, h1⟩ := h1
    split at h1
    · simp only [Option.some.injEq] at h1
      rw [← h1]; exact hp p hpm
    · cases h1
  · unfold candN1 at h1
    simp only at h1
    split at h1
    · simp only [Option.some.injEq] at h1
      rw [← h1]; simp only; omega
    · cases h1
theorem due_can (ps : List Pc) (pl : List Pu) (fs : List Fa) (i : Nat) (m : Ht) (hm : m ∈ dueC ps pl fs i) : 0 ≤ hitsV (ps.getD i default).k (ps.getD i default).t m.2.1 := by
  rw [cand_mem] at hm
  have := hm.1
  unfold canH at this
  exact of_decide_eq_true this
/-- The piece that falls next. -/
theorem RunS.pick {ps : List Pc} {pl : List Pu} {dn : List Bool} {fs nx : List Fa} (G : Good ps pl) (hp : ∀ p ∈ pl, 0 ≤ p.s ∧ p.s ≤ 3) (h : RunS ps pl dn fs nx) (hlen : ps.length ≤ 200) (a : Nat) (ha : a < ps.length) (h0 : 0 ≤ (nx.getD a default).t) :
    0 ≤ hitsV (ps.getD a default).k (ps.getD a default).t (nx.getD a default).f ∧ 0 ≤ (nx.getD a default).f ∧ (nx.getD a default).f ≤ 3 ∧ (nx.getD a default).t ≤ 3000 := by
  obtain ⟨o, e, hL⟩ := h.best a ha
  cases o with
  | none => rw [e] at h0; have e4 : (0 : Int) ≤ -1 := h0; omega
  | some m =>
    rw [e]
    have h1 := due_side ps pl fs hp a m hL.1
    have h2 := due_can ps pl fs a m hL.1
    refine ⟨h2, h1.1, h1.2, ?_⟩
    have h3 := (h.nlow G a ha).2
    rw [e] at h3
    have h4 := nT_le dn
    rw [h.ld] at h4
    have h5 : m.1 ≤ 1009 + 9 * nT dn := h3
    show m.1 ≤ 3000
    omega
theorem RunS.max {ps : List Pc} {pl : List Pu} {dn : List Bool} {fs nx : List Fa} (h : RunS ps pl dn fs nx) (hlen : ps.length ≤ 200) (i : Nat) (hi : i < ps.length) : (fs.getD i default).t ≤ 3000 := by
  have h1 := h.top i hi
  have h4 := nT_le dn
  rw [h.ld] at h4
  omega
/-- What comes next of a piece that is not done. -/
theorem SideS.bd {ps : List Pc} {pl : List Pu} {dn : List Bool} {fs nx nx' : List Fa} {a s : Nat} (G : Good ps pl) (hp : ∀ p ∈ pl, 0 ≤ p.s ∧ p.s ≤ 3) (h0 : RunS ps pl dn fs nx) (ha : a < ps.length) (hta : 0 ≤ (nx.getD a default).t) (k : Nat) (o : Option Ht)
    (hL : Least (fun m => m ∈ dueC ps pl fs k ∨ ∃ s', s' < s ∧ newC ps a (nx.getD a default) s' k m) o) (m : Ht) (hm : o = some m) : 0 ≤ m.1 ∧ I8 m.2.1 := by
  subst hm
  rcases hL.1 with h1 | ⟨s', hs', h1⟩
  · have h2 := due_low ps pl fs h0.lf G.t0 G.d1 h0.low k m h1
    have h3 := due_side ps pl fs hp k m h1
    exact ⟨h2, by constructor <;> omega⟩
  · have h2 := G.d1 a ha
    rw [h1.2.2.2]
    refine ⟨?_, ?_, ?_⟩ <;> simp only <;> omega
theorem SideS.skipBit {ps : List Pc} {pl : List Pu} {dn : List Bool} {fs nx nx' : List Fa} {a s : Nat} (h : SideS ps pl dn fs nx a s nx') (hb : ¬ max (hitsV (ps.getD a default).k (ps.getD a default).t (nx.getD a default).f) 0 / 2 ^ s % 2 = 1) : SideS ps pl dn fs nx a (s + 1) nx' :=
  h.skip fun i m hi hd hc => hb hc.1
theorem SideS.skipNone {ps : List Pc} {pl : List Pu} {dn : List Bool} {fs nx nx' : List Fa} {a s : Nat} (h : SideS ps pl dn fs nx a s nx') (hb : fnd (nxt (ps.getD a default).at_ (s : Int)) ps < 0) : SideS ps pl dn fs nx a (s + 1) nx' :=
  h.skip fun i m hi hd hc => by have := hc.2.1; omega
theorem SideS.skipDone {ps : List Pc} {pl : List Pu} {dn : List Bool} {fs nx nx' : List Fa} {a s k : Nat} (h : SideS ps pl dn fs nx a s nx') (hf : fnd (nxt (ps.getD a default).at_ (s : Int)) ps = (k : Int)) (hd : (dn.set a true).getD k false = true) : SideS ps pl dn fs nx a (s + 1) nx' :=
  h.skip fun i m hi hdi hc => by
    have e := hc.2.1
    rw [hf] at e
    have : k = i := by omega
    subst this
    rw [hd] at hdi; cases hdi
theorem SideS.skipCan {ps : List Pc} {pl : List Pu} {dn : List Bool} {fs nx nx' : List Fa} {a s k : Nat} (h : SideS ps pl dn fs nx a s nx') (hf : fnd (nxt (ps.getD a default).at_ (s : Int)) ps = (k : Int)) (hc : ¬ 0 ≤ hitsV (ps.getD k default).k (ps.getD k default).t (((s : Int) + 2) % 4)) : SideS ps pl dn fs nx a (s + 1) nx' :=
  h.skip fun i m hi hdi hn => by
    have e := hn.2.1
    rw [hf] at e
    have : k = i := by omega
    subst this
    have h1 := hn.2.2.1
    rw [hn.2.2.2] at h1
    unfold canH at h1
    exact hc (of_decide_eq_true h1)
end Go.Proofs.Ytollihgjcmiolaa
