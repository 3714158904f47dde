import Derived.Test.YtmeefmoblkiebaaK1
import Derived.StillTailTactics
import Derived.Laws.MakeOwn
import Derived.Deep.RegionHeld3
import Derived.Deep.AppendLies
/- Contracts: the reference's fall that follows. -/
namespace Go.Proofs.Ytmeefmoblkiebaa
open Go.RowKit
set_option linter.unusedVariables false
set_option linter.unusedSimpArgs false
set_option maxHeartbeats 400000
set_option maxRecDepth 100000
theorem stepH_yes (o : Option Ht) (x : Ht) (h : betterV x o = true) : stepH o x = some x := by
  unfold betterV at h
  unfold stepH
  cases o with
  | none => rfl
  | some m => simp only at h ⊢; rw [if_pos h]
theorem stepH_no (o : Option Ht) (x : Ht) (h : betterV x o = false) : stepH o x = o := by
  unfold betterV at h
  unfold stepH
  cases o with
  | none => cases h
  | some m => simp only at h ⊢; rw [if_neg (by rw [h]; decide)]
/-- What pushes and neighbours so far give. -/
def dueL (ps : List Pc) (pl : List Pu) (fs : List Fa) (i m : Nat) : List Ht := (candP ps pl i ++ candN ps fs i m).filter (canH ps i)
theorem dueL_push (ps : List Pc) (pl : List Pu) (fs : List Fa) (i : Nat) (p : Pu) : dueL ps (pl ++ [p]) fs i 0 = dueL ps pl fs i 0 ++ (if (⟨p.x, p.y⟩ : Ce) = (ps.getD i default).at_ then (if 0 ≤ hitsV (ps.getD i default).k (ps.getD i default).t p.s then [(p.t, p.s, -1)] else []) else []) := by
  unfold dueL
  rw [candP_snoc]
  have e0 : candN ps fs i 0 = [] := rfl
  rw [e0, List.append_nil, List.append_nil, List.filter_append]
  congr 1
  by_cases h : (⟨p.x, p.y⟩ : Ce) = (ps.getD i default).at_
  · rw [if_pos h, if_pos h]
    unfold canH
    by_cases h2 : 0 ≤ hitsV (ps.getD i default).k (ps.getD i default).t p.s
    · rw [if_pos h2, List.filter_cons, if_pos (decide_eq_true h2)]; rfl
    · rw [if_neg h2, List.filter_cons, if_neg (by rw [decide_eq_false h2]; decide)]; rfl
  · rw [if_neg h, if_neg h]; rfl
theorem dueL_side (ps : List Pc) (pl : List Pu) (fs : List Fa) (i m : Nat) : dueL ps pl fs i (m + 1) = dueL ps pl fs i m ++ ((candN1 ps fs i (m : Int)).toList.filter (canH ps i)) := by
  unfold dueL
  rw [candN_succ, ← List.append_assoc, List.filter_append]
theorem due_end (ps : List Pc) (pl : List Pu) (fs : List Fa) (i : Nat) : due ps pl fs i = faOf (bestH (dueL ps pl fs i 4)) := rfl
theorem vBd_piece2 (l : Bd) (h : vBd l = true) (k : Nat) (hk : k < l.ps.length) : 0 ≤ l.ps[k].k ∧ l.ps[k].k ≤ 5 ∧ 0 ≤ l.ps[k].t ∧ l.ps[k].t ≤ 3 ∧ 1 ≤ l.ps[k].d ∧ l.ps[k].d ≤ 9 := by
  unfold vBd at h
  simp only [Bool.and_eq_true] at h
  have := h.1.2
  rw [List.all_eq_true] at this
  have h5 := this _ (List.getElem_mem hk)
  simp only [Bool.and_eq_true] at h5
  have h6 := h5.1
  unfold vPc inB at h6
  simp only [Bool.and_eq_true, decide_eq_true_eq] at h6
  omega
theorem fnd_lt (c : Ce) (ps : List Pc) (h : 0 ≤ fnd c ps) : (fnd c ps).toNat < ps.length := by
  unfold fnd at *
  cases hf : ps.findIdx? (fun p => decide (p.at_ = c)) with
  | none => rw [hf] at h; simp at h
  | some k =>
    rw [List.findIdx?_eq_some_iff_getElem] at hf
    obtain ⟨g1, -, -⟩ := hf
    simpa using g1
theorem getD_pc (ps : List Pc) (k : Nat) (h : k < ps.length) : ps.getD k default = ps[k] := by rw [List.getD_eq_getElem?_getD, List.getElem?_eq_getElem h]; rfl
theorem getD_fa (ps : List Fa) (k : Nat) (h : k < ps.length) : ps.getD k default = ps[k] := by rw [List.getD_eq_getElem?_getD, List.getElem?_eq_getElem h]; rfl
/-- What one side gives, when the neighbour is the piece k. -/
theorem candN1_at (ps : List Pc) (fs : List Fa) (i : Nat) (s : Int) (k : Nat) (hi : i < ps.length) (hk : k < ps.length) (hf : k < fs.length) (he : fnd (nxt ps[i].at_ s) ps = k) : candN1 ps fs i s = if fs[k].t ≠ -1 ∧ max (hitsV ps[k].k ps[k].t fs[k].f) 0 / 2 ^ ((s + 2) % 4).toNat % 2 = 1 then some (fs[k].t + ps[k].d, s, (k : Int)) else none := by
  unfold candN1
  simp only
  rw [getD_pc ps i hi, he, Int.toNat_natCast, getD_pc ps k hk, getD_fa fs k hf]
  by_cases h : fs[k].t ≠ -1 ∧ max (hitsV ps[k].k ps[k].t fs[k].f) 0 / 2 ^ ((s + 2) % 4).toNat % 2 = 1
  · rw [if_pos h, if_pos ⟨by omega, by omega, h.1, h.2⟩]
  · rw [if_neg h, if_neg (fun hh => h ⟨hh.2.2.1, hh.2.2.2⟩)]
theorem candN1_no (ps : List Pc) (fs : List Fa) (i : Nat) (s : Int) (hi : i < ps.length) (he : fnd (nxt ps[i].at_ s) ps < 0) : candN1 ps fs i s = none := by
  unfold candN1
  simp only
  rw [getD_pc ps i hi, if_neg (fun hh => by omega)]
theorem l02None_any (w : World) : Calls Try.prog 34 #[] w fun e w' => e = .returned (.agg #[.int .i64 (-1), .int .i8 0, .int .i64 (-1)]) ∧ Below w.heap.size w w' := by
  go_enter Try.func34, Try.ntmps34
  go_wp2
  first
    | (go_ret; exact ⟨rfl, (by repeat (first | with_reducible exact Below.refl _ _ | with_reducible assumption | with_reducible apply bl_drewN | with_reducible apply bl_drew | with_reducible apply bl_alloc | (with_reducible refine bl_set ?_ (by first | (simp; done) | (simp; omega)) _) | with_reducible refine bl_trans ?_ (by with_reducible assumption)))⟩)
    | (exact bodyPost_ret (v := .agg #[.int .i64 (-1), .int .i8 0, .int .i64 (-1)]) (by simp [results, Try.results34, go_sem]) rfl ⟨rfl, (by repeat (first | with_reducible exact Below.refl _ _ | with_reducible assumption | with_reducible apply bl_drewN | with_reducible apply bl_drew | with_reducible apply bl_alloc | (with_reducible refine bl_set ?_ (by first | (simp; done) | (simp; omega)) _) | with_reducible refine bl_trans ?_ (by with_reducible assumption)))⟩)
theorem own_faAt {w : World} {base e g : Nat} {f : Fa} (h : w.ownsRow base e 3 (.slice (some ⟨g, 0, none⟩) 1 1) 1 (Fa.cells f)) : FaAt w g 0 f :=
  ⟨by rw [h.cellAt _ (by omega)]; rfl, by rw [h.cellAt _ (by omega)]; rfl, by rw [h.cellAt _ (by omega)]; rfl⟩
theorem own_one2 {w : World} {base : Nat} {e : TypeId} {size g : Nat} {xs : List Value} (h : w.ownsRow base e size (.slice (some ⟨g, 0, none⟩) 1 1) 1 xs) : ∃ cur, w.heap[g]? = some (.cells cur e (0, 0)) ∧ cur = xs.toArray := by
  rcases h.2 with ⟨h', _⟩ | ⟨g', cap', cur, h', _, hg, _, _, hs, ht⟩
  · simp at h'
  · simp only [Value.slice.injEq, Option.some.injEq, Addr.mk.injEq, and_true, true_and] at h'
    obtain ⟨rfl, rfl⟩ := h'
    refine ⟨cur, hg, ?_⟩
    rw [List.take_of_length_le (by simp [hs])] at ht
    rw [← ht]
set_option maxHeartbeats 3200000 in
theorem l02Due_any {B : Nat} (b0 : Nat) (l : Bd) (a : Option Addr) (cap : Nat) (pl : List Pu) (a2 : Option Addr) (cap2 : Nat) (fs : List Fa) (i : Nat) (w : World) (hbp : BP w b0 l) (hv : vBd l = true) (h : SlAt B w a (flat Pu.cells pl)) (hok : PusOk pl) (hpl : pl.all plainPu = true) (hn : pl.length ≤ 20) (h2 : SlAt B w a2 (flat Fa.cells fs)) (hfs : fs.all okFall = true) (hn2 : fs.length ≤ 10000000) (hfl : l.ps.length ≤ fs.length) (hB : B ≤ w.heap.size) (hi : i < l.ps.length) :
    Calls Try.prog 57 #[.pointer (some ⟨b0, 0, none⟩), .slice a pl.length cap, .slice a2 fs.length cap2, .int .i64 i] w fun e w' => e = .returned (due l.ps pl fs i).val ∧ Below w.heap.size w w' := by
  have HBP := Lib.hid hbp
  obtain ⟨hbl, sv, hbd, sa, scap, rfl, hps⟩ := hbp
  unfold BdAt at hbd
  obtain ⟨c1, c2, c3, c4, c5⟩ := vBd_bounds l hv
  obtain ⟨bp, offp, rfl, hb2, hatp⟩ := pcs_get hps hi
  have hvi := vBd_piece2 l hv i hi
  obtain ⟨k1, k2, k3, k4, k5, k6⟩ := hvi
  have hgi : l.ps.getD i default = l.ps[i] := by rw [List.getD_eq_getElem?_getD, List.getElem?_eq_getElem hi]; rfl
  have HPUSH := Lib.hid (fun p pl' => dueL_push l.ps pl' fs i p)
  rw [hgi] at HPUSH
  have hgi := Lib.hid hgi
  have HDUE := Lib.hid (due_end l.ps pl fs i)
  have HATP := Lib.hid hatp
  have hatp2 := hatp
  unfold PcAt at hatp2
  have HPL := Lib.hid hpl
  clear hpl
  go_enter Try.func57, Try.ntmps57
  go_wp2_with fail
  refine (l02None_any _).mono ?_
  rintro e w1 ⟨rfl, hb1⟩
  have hz1 := hb1.size
  simp only [World.size_alloc] at hz1
  obtain ⟨g, hg⟩ : ∃ g, g = w1.heap.size := ⟨_, rfl⟩
  have hgl : w.heap.size + 1 ≤ g := by omega
  have o8 := own_newAt w #[.int .i64 0, .int .i8 0, .int .i64 0] 40 3 w.heap.size w.heap.size rfl (Nat.le_refl _) rfl _ rfl
  have o8b := own_below (own_below o8 hb1 (Nat.le_refl _)) (bl_alloc (o := .cells #[.int .i64 (-1), .int .i8 0, .int .i64 (-1)] 40) (Below.refl _ _)) (Nat.le_refl _)
  have o10 := own_newAt w1 #[.int .i64 (-1), .int .i8 0, .int .i64 (-1)] 40 3 (w.heap.size + 1) w1.heap.size rfl (by omega) rfl _ rfl
  have hbw : Below w.heap.size w (w1.alloc (.cells #[.int .i64 (-1), .int .i8 0, .int .i64 (-1)] 40)) := bl_alloc (bl_trans (bl_alloc (Below.refl _ _)) hb1)
  have O8 := Lib.hid o8b
  have O10 := Lib.hid o10
  have HBW := Lib.hid hbw
  clear o8 o8b o10 hbw hb1
  rw [← hg] at O10
  go_wp2
  rw [← hg]
  clear hg
  go_loopw [11, 12] (fun k _ wr => ∃ j : Nat, ∃ o : Option Ht, j ≤ pl.length ∧ k = .int .i64 j ∧ Hid (bestH (dueL l.ps (pl.take j) fs i 0) = o) ∧ (∀ m, o = some m → 0 ≤ m.1 ∧ I8 m.2.1) ∧ wr.ownsRow w.heap.size 40 3 (.slice (some ⟨w.heap.size, 0, none⟩) 1 1) 1 (Fa.cells ⟨0, 0, 0⟩) ∧ wr.ownsRow (w.heap.size + 1) 40 3 (.slice (some ⟨g, 0, none⟩) 1 1) 1 (Fa.cells (faOf o)) ∧ Below w.heap.size w wr) (fun k _ _ => pl.length - (intOf k).toNat)
  case atStart => exact ⟨0, none, by omega, rfl, Lib.hid (by simp [dueL, candP, candN, bestH]), (fun m h => by cases h), O8.out, O10.out, HBW.out⟩
  case round =>
    clear O8 O10 HBW
    obtain ⟨j, o, hj, rfl, hbest, hom, h8, h10, hb⟩ := hrel
    have hzb := hb.size
    obtain ⟨hc, hf⟩ := bcell hb
    have hgw := (h10.lt _ rfl).2
    by_cases hlt : j < pl.length
    · obtain ⟨b, off, rfl, hbl2, hat⟩ := pus_get (h.below hb hB) hlt
      have hplj : plainPu pl[j] = true := by
        have := HPL.out
        rw [List.all_eq_true] at this
        exact this _ (List.getElem_mem hlt)
      unfold plainPu inB at hplj
      simp only [Bool.and_eq_true, decide_eq_true_eq] at hplj
      obtain ⟨⟨e1, e2⟩, e3, e4⟩ := hplj
      have s1 : IntKind.i64.wrap pl[j].s = pl[j].s := by rw [IntKind.wrap_i64]; omega
      have s2 : IntKind.i64.wrap pl[j].t = pl[j].t := by rw [IntKind.wrap_i64]; omega
      unfold PuAt at hat
      have htk : pl.take (j + 1) = pl.take j ++ [pl[j]] := List.take_succ_eq_append_getElem hlt
      have HP := Lib.hid (HPUSH.out pl[j] (pl.take j))
      rw [← htk] at HP
      have he0 := run_eql_ce pl[j].x pl[j].y l.ps[i].x l.ps[i].y
      have hate : l.ps[i].at_ = ⟨l.ps[i].x, l.ps[i].y⟩ := rfl
      rw [hate] at HP
      have hbw3 : b < wr.heap.size := by omega
      have hbpw : bp < wr.heap.size := by omega
      rcases dec_cases ((⟨pl[j].x, pl[j].y⟩ : Ce) = ⟨l.ps[i].x, l.ps[i].y⟩) with ⟨g1, g1'⟩ | ⟨g1, g1'⟩
      · rw [g1] at he0
        rw [if_pos g1'] at HP
        clear g1'
        have hHH : ∀ u : Ext wr, Calls Try.prog 36 #[.pointer (some ⟨bp, offp + i * 5, none⟩), .int .i64 pl[j].s] u.w fun e w' => e = .returned (.int .i64 (hitsV l.ps[i].k l.ps[i].t pl[j].s)) ∧ Below u.w.heap.size u.w w' := fun u =>
          l01Hits_any l.ps[i].x l.ps[i].y l.ps[i].k l.ps[i].t l.ps[i].d pl[j].s u.w bp (offp + i * 5) (HATP.out.step (bl_trans hb u.b) (by omega)) (by have := u.b.size; omega) k1 k2 k3 k4 e1 e2
        have hHB : ∀ u : Ext wr, Calls Try.prog 37 #[.int .i64 pl[j].t, .int .i64 pl[j].s, .int .i64 (-1), .pointer (some ⟨g, 0, none⟩)] u.w fun e w' => e = .returned (.bool (betterV (pl[j].t, pl[j].s, -1) o)) ∧ u.w = w' := fun u =>
          l02Better_any pl[j].t pl[j].s (-1) g 0 o u.w (own_faAt (own_below h10 u.b (Nat.le_refl _))) hom
        have hnew : 0 ≤ pl[j].t ∧ I8 pl[j].s := ⟨e3, by constructor <;> omega⟩
        generalize hitsV l.ps[i].k l.ps[i].t pl[j].s = hv at hHH HP
        have HH := Lib.hid hHH
        clear hHH
        rcases dec_cases (0 ≤ hv) with ⟨g2, g2'⟩ | ⟨g2, g2'⟩
        · rw [if_pos g2'] at HP
          clear g2'
          rcases Bool.eq_false_or_eq_true (betterV (pl[j].t, pl[j].s, -1) o) with g3 | g3
          · rw [g3] at hHB
            have HBt := Lib.hid hHB
            have HN := Lib.hid (show bestH (dueL l.ps (pl.take (j + 1)) fs i 0) = some (pl[j].t, pl[j].s, -1) by rw [HP.out, bestH_snoc, hbest.out]; exact stepH_yes o _ g3)
            clear hHB g3
            go_wp2
            (refine wp_region_ext (by kernel_rfl) (by kernel_rfl) ?_; have hX := @ext_cell; (repeat (go_big_quiet_step (first | (go_at_call 36; exact ext_call (HH.out _)) | (go_at_call 37; exact ext_same (HBt.out _))))); refine wpQuiet_nil ?_; clear hX; intro wx hw'; obtain ⟨⟨wx, hbx⟩, rfl⟩ := hw'; obtain ⟨hcx, hfx⟩ := bcell hbx)
            have r0 : wx.cell? ⟨b, off + j * 4 + 2, none⟩ = some (.int .i8 pl[j].s) := by rw [hbx.cell (p := ⟨_, _, none⟩) hbw3]; exact hat.2.2.1
            have r1 : wx.cell? ⟨b, off + j * 4 + 3, none⟩ = some (.int .i16 pl[j].t) := by rw [hbx.cell (p := ⟨_, _, none⟩) hbw3]; exact hat.2.2.2
            have h10d := (own_below h10 hbx (Nat.le_refl _)).drew
            have h8d := (own_below h8 hbx (Nat.le_refl _)).drew
            have hbd : Below w.heap.size w wx.drew := bl_drew (bl_trans hb hbx)
            have H10 := Lib.hid h10d
            have H8 := Lib.hid h8d
            have HBD := Lib.hid hbd
            clear h10 h8 h10d h8d hbd
            go_upto_region 8 with fail
            go_still_tail 12, (by kernel_rfl)
            change wpList _ _ _ _ _ wx.drew
            obtain ⟨wy, hwy⟩ : ∃ wy, wy = wx.drew := ⟨_, rfl⟩
            rw [← hwy] at H10 H8 HBD ⊢
            clear hwy
            obtain ⟨⟨v0, c0⟩, f0⟩ := own_cell H10.out (j := 0) (by omega)
            obtain ⟨⟨v1, c1⟩, f1⟩ := own_cell H10.out (j := 1) (by omega)
            obtain ⟨⟨v2, c2⟩, f2⟩ := own_cell H10.out (j := 2) (by omega)
            go_wp2
            have hs := own_setCells [.int .i64 pl[j].t, .int .i8 pl[j].s, .int .i64 (-1)] (A := []) (R := Fa.cells (faOf o)) (j := 0) H10.out rfl (Nat.le_refl _)
            have h8s := own_kept H8.out (grown_setCells g [.int .i64 pl[j].t, .int .i8 pl[j].s, .int .i64 (-1)] wy 0) (by intro k hk e; have h9 : some w.heap.size = some k := hk; rw [← h9] at e; simp at e; omega)
            have hbs : Below w.heap.size w (setCells wy g 0 [.int .i64 pl[j].t, .int .i8 pl[j].s, .int .i64 (-1)]) := bl_grown HBD.out (grown_setCells _ _ _ _) (fun k hk => by cases hk; omega)
            clear c0 c1 c2 f0 f1 f2 r0 r1
            go_roundw
            case rel => exact ⟨j + 1, some (pl[j].t, pl[j].s, -1), by omega, by go_num, HN, (fun m hm => by cases hm; exact hnew), h8s, hs, hbs⟩
            case measure => simp [intOf]; omega
          · rw [g3] at hHB
            have HBt := Lib.hid hHB
            have HN := Lib.hid (show bestH (dueL l.ps (pl.take (j + 1)) fs i 0) = o by rw [HP.out, bestH_snoc, hbest.out]; exact stepH_no o _ g3)
            clear hHB g3
            go_wp2
            (refine wp_region_ext (by kernel_rfl) (by kernel_rfl) ?_; have hX := @ext_cell; (repeat (go_big_quiet_step (first | (go_at_call 36; exact ext_call (HH.out _)) | (go_at_call 37; exact ext_same (HBt.out _))))); refine wpQuiet_nil ?_; clear hX; intro wx hw'; obtain ⟨⟨wx, hbx⟩, rfl⟩ := hw'; obtain ⟨hcx, hfx⟩ := bcell hbx)
            go_wp2
            go_roundw
            case rel => exact ⟨j + 1, o, by omega, by go_num, HN, hom, own_below h8 hbx (Nat.le_refl _), own_below h10 hbx (Nat.le_refl _), bl_trans hb hbx⟩
            case measure => simp [intOf]; omega
        · rw [if_neg g2', List.append_nil] at HP
          have HN := Lib.hid (show bestH (dueL l.ps (pl.take (j + 1)) fs i 0) = o by rw [HP.out]; exact hbest.out)
          clear g2' hHB
          go_wp2
          (refine wp_region_ext (by kernel_rfl) (by kernel_rfl) ?_; have hX := @ext_cell; (repeat (go_big_quiet_step ((go_at_call 36; exact ext_call (HH.out _))))); refine wpQuiet_nil ?_; clear hX; intro wx hw'; obtain ⟨⟨wx, hbx⟩, rfl⟩ := hw'; obtain ⟨hcx, hfx⟩ := bcell hbx)
          go_wp2
          go_roundw
          case rel => exact ⟨j + 1, o, by omega, by go_num, HN, hom, own_below h8 hbx (Nat.le_refl _), own_below h10 hbx (Nat.le_refl _), bl_trans hb hbx⟩
          case measure => simp [intOf]; omega
      · rw [g1] at he0
        rw [if_neg g1', List.append_nil] at HP
        have HN := Lib.hid (show bestH (dueL l.ps (pl.take (j + 1)) fs i 0) = o by rw [HP.out]; exact hbest.out)
        clear g1'
        go_wp2
        (refine wp_region_ext (by kernel_rfl) (by kernel_rfl) ?_; have hX := @ext_cell; (repeat (go_big_quiet_step (fail))); refine wpQuiet_nil ?_; clear hX; intro wx hw'; obtain ⟨⟨wx, hbx⟩, rfl⟩ := hw'; obtain ⟨hcx, hfx⟩ := bcell hbx)
        go_wp2
        go_roundw
        case rel => exact ⟨j + 1, o, by omega, by go_num, HN, hom, own_below h8 hbx (Nat.le_refl _), own_below h10 hbx (Nat.le_refl _), bl_trans hb hbx⟩
        case measure => simp [intOf]; omega
    · have hjl : j = pl.length := by omega
      subst hjl
      have HBEST := Lib.hid (show bestH (dueL l.ps pl fs i 0) = o by have := hbest.out; rwa [List.take_length] at this)
      have H8 := Lib.hid h8
      have H10 := Lib.hid h10
      clear hbest h8 h10 hc hf hgw
      go_wp2
      go_loopw [13] (fun s wr => ∃ m : Nat, ∃ o : Option Ht, m ≤ 4 ∧ s = .int .i64 m ∧ Hid (bestH (dueL l.ps pl fs i m) = o) ∧ (∀ m, o = some m → 0 ≤ m.1 ∧ I8 m.2.1) ∧ wr.ownsRow w.heap.size 40 3 (.slice (some ⟨w.heap.size, 0, none⟩) 1 1) 1 (Fa.cells ⟨0, 0, 0⟩) ∧ wr.ownsRow (w.heap.size + 1) 40 3 (.slice (some ⟨g, 0, none⟩) 1 1) 1 (Fa.cells (faOf o)) ∧ Below w.heap.size w wr) (fun s _ => 4 - (intOf s).toNat)
      case atStart => exact ⟨0, o, by omega, rfl, HBEST, hom, H8.out, H10.out, hb⟩
      case round =>
        clear HBEST H8 H10 hom hb hzb
        obtain ⟨m, o, hm, rfl, hbest, hom, h8, h10, hb⟩ := hrel
        have hzb := hb.size
        by_cases hlm : m < 4
        · have HS := Lib.hid (dueL_side l.ps pl fs i m)
          have HNR := Lib.hid (fun w' (hb' : Below w.heap.size w w') => l01Near_any b0 l i m w' (HBP.out.step hb') (by omega) hi (by omega) (by omega))
          have hcan : canH l.ps i = fun x => decide (0 ≤ hitsV l.ps[i].k l.ps[i].t x.2.1) := by funext x; unfold canH; rw [hgi.out]
          have HCAN := Lib.hid hcan
          have HNO := Lib.hid (fun he => candN1_no l.ps fs i m hi he)
          have HAT := Lib.hid (fun k hk hf he => candN1_at l.ps fs i m k hi hk hf he)
          have HLT := Lib.hid (fnd_lt (nxt l.ps[i].at_ m) l.ps)
          clear hcan
          go_wp2_with fail
          refine (HNR.out _ hb).mono ?_
          rintro e w2 ⟨rfl, hb2⟩
          have hb12 := bl_trans hb hb2
          have h8b := own_below h8 hb2 (Nat.le_refl _)
          have h10b := own_below h10 hb2 (Nat.le_refl _)
          have H8 := Lib.hid h8b
          have H10 := Lib.hid h10b
          have HB12 := Lib.hid hb12
          have hz12 := hb12.size
          obtain ⟨hc2, hf2⟩ := bcell hb12
          clear h8 h10 h8b h10b hb2 hb
          generalize hkk : fnd (nxt l.ps[i].at_ m) l.ps = kk at HNO HAT HLT
          clear hkk
          by_cases hk0 : kk < 0
          · have HN := Lib.hid (show bestH (dueL l.ps pl fs i (m + 1)) = o by rw [HS.out, HNO.out hk0]; simpa using hbest.out)
            go_wp2
            go_roundw
            case rel => exact ⟨m + 1, o, by omega, by go_num, HN, hom, H8.out, H10.out, HB12.out⟩
            case measure => simp [intOf]; omega
          · obtain ⟨kn, hkn⟩ : ∃ kn : Nat, kk = (kn : Int) := ⟨kk.toNat, by omega⟩
            subst hkn
            have hknl : kn < l.ps.length := by have := HLT.out (by omega); simpa using this
            have hknf : kn < fs.length := by omega
            have hAT := HAT.out kn hknl hknf rfl
            obtain ⟨bf, offf, rfl, hbf, hatf⟩ := fas_get h2 hknf
            have hokf : okFall fs[kn] = true := by rw [List.all_eq_true] at hfs; exact hfs _ (List.getElem_mem hknf)
            unfold okFall inB at hokf
            simp only [Bool.and_eq_true, decide_eq_true_eq] at hokf
            obtain ⟨⟨f1, f2⟩, f3, f4⟩ := hokf
            obtain ⟨bq, offq, hbq, hbq2, hatq⟩ := pcs_get hps hknl
            cases hbq
            obtain ⟨n1, n2, n3, n4, n5, n6⟩ := vBd_piece2 l hv kn hknl
            have hbfw : bf < w.heap.size := by omega
            have hbfw2 : bf < w2.heap.size := by omega
            have hatfu := hatf
            unfold FaAt at hatfu
            have rel0 := Lib.hid (fun (hN : bestH (dueL l.ps pl fs i (m + 1)) = o) => hN)
            by_cases hft : fs[kn].t < 0
            · have hfe : fs[kn].t = -1 := by omega
              rw [if_neg (fun hh => hh.1 hfe)] at hAT
              have HN := Lib.hid (show bestH (dueL l.ps pl fs i (m + 1)) = o by rw [HS.out, hAT]; simpa using hbest.out)
              go_wp2
              go_roundw
              case rel => exact ⟨m + 1, o, by omega, by go_num, HN, hom, H8.out, H10.out, HB12.out⟩
              case measure => simp [intOf]; omega
            · have hfe : fs[kn].t ≠ -1 := by omega
              have HH1 := Lib.hid (fun (w' : World) (hb' : Below w.heap.size w w') => l01Hits_any l.ps[i].x l.ps[i].y l.ps[i].k l.ps[i].t l.ps[i].d m w' bp (offp + i * 5) (HATP.out.step hb' (by omega)) (by have := hb'.size; omega) k1 k2 k3 k4 (by omega) (by omega))
              have HH2 := Lib.hid (fun (w' : World) (hb' : Below w.heap.size w w') => l01Hits_any l.ps[kn].x l.ps[kn].y l.ps[kn].k l.ps[kn].t l.ps[kn].d fs[kn].f w' bp (offp + kn * 5) (hatq.step hb' (by omega)) (by have := hb'.size; omega) n1 n2 n3 n4 f3 f4)
              have hC2 := HCAN.out
              have hcm : canH l.ps i (fs[kn].t + l.ps[kn].d, (m : Int), (kn : Int)) = decide (0 ≤ hitsV l.ps[i].k l.ps[i].t m) := by rw [hC2]
              generalize hitsV l.ps[i].k l.ps[i].t m = hv1 at HH1 hcm
              generalize hitsV l.ps[kn].k l.ps[kn].t fs[kn].f = hv2 at HH2 hAT
              clear hC2
              go_wp2_with fail
              refine (HH1.out _ HB12.out).mono ?_
              rintro e w3 ⟨rfl, hb3⟩
              have hb13 := bl_trans HB12.out hb3
              have HB13 := Lib.hid hb13
              have h8c := own_below H8.out hb3 (Nat.le_refl _)
              have h10c := own_below H10.out hb3 (Nat.le_refl _)
              have H8c := Lib.hid h8c
              have H10c := Lib.hid h10c
              obtain ⟨hc3, hf3b⟩ := bcell hb13
              have hz13 := hb13.size
              have hbfw3 : bf < w3.heap.size := by omega
              clear h8c h10c hb3 hb13
              by_cases hv1n : hv1 < 0
              · have HN := Lib.hid (show bestH (dueL l.ps pl fs i (m + 1)) = o by
                  rw [HS.out]
                  have hz : (candN1 l.ps fs i (m : Int)).toList.filter (canH l.ps i) = [] := by
                    rw [hAT]
                    split
                    · simp only [Option.toList_some, List.filter_cons, List.filter_nil]
                      rw [hcm, decide_eq_false (by omega)]; rfl
                    · rfl
                  rw [hz, List.append_nil]; exact hbest.out)
                go_wp2
                go_roundw
                case rel => exact ⟨m + 1, o, by omega, by go_num, HN, hom, H8c.out, H10c.out, HB13.out⟩
                case measure => simp [intOf]; omega
              · rw [decide_eq_true (by omega : 0 ≤ hv1)] at hcm
                have s3 : IntKind.i64.wrap fs[kn].f = fs[kn].f := by rw [IntKind.wrap_i64]; omega
                have s4 := wrap_i8 (n := fs[kn].f) (by omega) (by omega)
                go_wp2_with fail
                refine (HH2.out _ HB13.out).mono ?_
                rintro e w4 ⟨rfl, hb4⟩
                have hb14 := bl_trans HB13.out hb4
                have HB14 := Lib.hid hb14
                have h8d := own_below H8c.out hb4 (Nat.le_refl _)
                have h10d := own_below H10c.out hb4 (Nat.le_refl _)
                have H8d := Lib.hid h8d
                have H10d := Lib.hid h10d
                have hz14 := hb14.size
                have hbfw4 : bf < w4.heap.size := by omega
                have hbpw4 : bp < w4.heap.size := by omega
                have u0 : w4.cell? ⟨bf, offf + kn * 3, none⟩ = some (.int .i64 fs[kn].t) := by rw [hb14.cell (p := ⟨_, _, none⟩) hbfw]; exact hatfu.1
                have u1 : w4.cell? ⟨bp, offp + kn * 5 + 4, none⟩ = some (.int .i8 l.ps[kn].d) := by rw [hb14.cell (p := ⟨_, _, none⟩) (by show bp < w.heap.size; omega)]; exact hatq.2.2.2.2
                have s5 : IntKind.i64.wrap l.ps[kn].d = l.ps[kn].d := by rw [IntKind.wrap_i64]; omega
                have s6 : IntKind.i64.wrap (fs[kn].t + l.ps[kn].d) = fs[kn].t + l.ps[kn].d := by rw [IntKind.wrap_i64]; omega
                clear h8d h10d hb4 hb14
                have hm4 : 0 ≤ ((m : Int) + 2) % 4 ∧ ((m : Int) + 2) % 4 ≤ 3 := by omega
                obtain ⟨m41, m42⟩ := hm4
                go_wp2
                (refine wp_region_ext (by kernel_rfl) (by kernel_rfl) ?_; have hX := @ext_cell; (repeat (go_big_quiet_step (fail))); refine wpQuiet_nil ?_; clear hX; intro wx hw'; obtain ⟨⟨wx, hbx⟩, rfl⟩ := hw'; obtain ⟨hcx, hfx⟩ := bcell hbx)
                have hbx4 := bl_trans HB14.out hbx
                have H8x := Lib.hid (own_below H8d.out hbx (Nat.le_refl _))
                have H10x := Lib.hid (own_below H10d.out hbx (Nat.le_refl _))
                have HBx := Lib.hid hbx4
                clear u0 u1 hcx hfx hbx4
                by_cases hpos : 0 < hv2
                · have hmx : max hv2 0 = hv2 := by omega
                  rw [hmx] at hAT
                  have hmt : (((m : Int) + 2) % 4).toNat = (m + 2) % 4 := by omega
                  rw [hmt] at hAT
                  have hb0 : 0 ≤ hv2 / 2 ^ ((m + 2) % 4) := Int.ediv_nonneg (by omega) (Int.le_of_lt (Int.pow_pos (by decide)))
                  have ht : ((hv2 / 2 ^ ((m + 2) % 4)).tmod 2 == 1) = decide (hv2 / 2 ^ ((m + 2) % 4) % 2 = 1) := by
                    rw [Int.tmod_eq_emod_of_nonneg hb0]; rfl
                  rcases dec_cases (hv2 / 2 ^ ((m + 2) % 4) % 2 = 1) with ⟨g3, g3'⟩ | ⟨g3, g3'⟩
                  · rw [g3] at ht
                    rw [if_pos ⟨hfe, g3'⟩] at hAT
                    have HL := Lib.hid (show dueL l.ps pl fs i (m + 1) = dueL l.ps pl fs i m ++ [(fs[kn].t + l.ps[kn].d, (m : Int), (kn : Int))] by
                      rw [HS.out, hAT]
                      simp only [Option.toList_some, List.filter_cons, List.filter_nil]
                      rw [hcm, if_pos rfl])
                    clear g3' hb0 hAT
                    have hsn := bestH_snoc (dueL l.ps pl fs i m) (fs[kn].t + l.ps[kn].d, (m : Int), (kn : Int))
                    rw [← HL.out, hbest.out] at hsn
                    have HBT := Lib.hid (l02Better_any (fs[kn].t + l.ps[kn].d) m kn g 0 o wx (own_faAt H10x.out) hom)
                    have hnew : 0 ≤ fs[kn].t + l.ps[kn].d ∧ I8 (m : Int) := ⟨by omega, by constructor <;> omega⟩
                    rcases Bool.eq_false_or_eq_true (betterV (fs[kn].t + l.ps[kn].d, (m : Int), (kn : Int)) o) with g4 | g4
                    · rw [stepH_yes o _ g4] at hsn
                      rw [g4] at HBT
                      have HN := Lib.hid hsn
                      clear hsn g4
                      go_wp2_with fail
                      refine HBT.out.mono ?_
                      rintro e w5 ⟨rfl, rfl⟩
                      clear HBT
                      obtain ⟨⟨v0, c0⟩, f0⟩ := own_cell H10x.out (j := 0) (by omega)
                      obtain ⟨⟨v1, c1⟩, f1⟩ := own_cell H10x.out (j := 1) (by omega)
                      obtain ⟨⟨v2, c2⟩, f2⟩ := own_cell H10x.out (j := 2) (by omega)
                      go_wp2
                      have hs := own_setCells [.int .i64 (fs[kn].t + l.ps[kn].d), .int .i8 (m : Int), .int .i64 (kn : Int)] (A := []) (R := Fa.cells (faOf o)) (j := 0) H10x.out rfl (Nat.le_refl _)
                      have h8s := own_kept H8x.out (grown_setCells g [.int .i64 (fs[kn].t + l.ps[kn].d), .int .i8 (m : Int), .int .i64 (kn : Int)] wx 0) (by intro k hk e; have h9 : some w.heap.size = some k := hk; rw [← h9] at e; simp at e; omega)
                      have hbs : Below w.heap.size w (setCells wx g 0 [.int .i64 (fs[kn].t + l.ps[kn].d), .int .i8 (m : Int), .int .i64 (kn : Int)]) := bl_grown HBx.out (grown_setCells _ _ _ _) (fun k hk => by cases hk; omega)
                      go_roundw
                      case rel => exact ⟨m + 1, some (fs[kn].t + l.ps[kn].d, m, kn), by omega, by go_num, HN, (fun m hm => by cases hm; exact hnew), h8s, hs, hbs⟩
                      case measure => simp [intOf]; omega
                    · rw [stepH_no o _ g4] at hsn
                      rw [g4] at HBT
                      have HN := Lib.hid hsn
                      clear hsn g4
                      go_wp2_with fail
                      refine HBT.out.mono ?_
                      rintro e w5 ⟨rfl, rfl⟩
                      clear HBT
                      go_wp2
                      go_roundw
                      case rel => exact ⟨m + 1, o, by omega, by go_num, HN, hom, H8x.out, H10x.out, HBx.out⟩
                      case measure => simp [intOf]; omega
                  · rw [g3] at ht
                    rw [if_neg (fun hh => g3' hh.2)] at hAT
                    have HN := Lib.hid (show bestH (dueL l.ps pl fs i (m + 1)) = o by rw [HS.out, hAT]; simpa using hbest.out)
                    clear g3' hb0 hAT
                    go_wp2
                    go_roundw
                    case rel => exact ⟨m + 1, o, by omega, by go_num, HN, hom, H8x.out, H10x.out, HBx.out⟩
                    case measure => simp [intOf]; omega
                · have hmx : max hv2 0 = 0 := by omega
                  rw [hmx, if_neg (fun hh => by have := hh.2; simp at this)] at hAT
                  have HN := Lib.hid (show bestH (dueL l.ps pl fs i (m + 1)) = o by rw [HS.out, hAT]; simpa using hbest.out)
                  go_wp2
                  go_roundw
                  case rel => exact ⟨m + 1, o, by omega, by go_num, HN, hom, H8x.out, H10x.out, HBx.out⟩
                  case measure => simp [intOf]; omega
        · have hm4 : m = 4 := by omega
          subst hm4
          obtain ⟨hc, hf⟩ := bcell hb
          obtain ⟨q0, q1, q2⟩ := own_faAt h10
          obtain ⟨⟨v0, c0⟩, g0⟩ := own_cell h8 (j := 0) (by omega)
          obtain ⟨⟨v1, c1⟩, g1⟩ := own_cell h8 (j := 1) (by omega)
          obtain ⟨⟨v2, c2⟩, g2⟩ := own_cell h8 (j := 2) (by omega)
          go_wp2
          have hs := own_setCells (Fa.cells (faOf o)) (A := []) (R := Fa.cells ⟨0, 0, 0⟩) (j := 0) h8 rfl (Nat.le_refl _)
          obtain ⟨cur, hh, hcur⟩ := own_one2 hs
          have hbs : Below w.heap.size w (setCells wr w.heap.size 0 (Fa.cells (faOf o))) := bl_grown hb (grown_setCells _ _ _ _) (fun k hk => by cases hk; omega)
          have hval : due l.ps pl fs i = faOf o := by rw [HDUE.out, hbest.out]
          refine bodyPost_ret (v := .agg cur) (results_cell_row Try.results57 _ _ w.heap.size 40 cur (0, 0) _ rfl hh Try.underlying40 rfl (by rw [hcur]; kernel_rfl)) rfl ⟨?_, hbs⟩
          rw [hval, hcur]; rfl
end Go.Proofs.Ytmeefmoblkiebaa
/- The run of a board, piece by piece (the reference): plain laws. -/
namespace Go.Proofs.Ytmeefmoblkiebaa
open Go.RowKit
set_option linter.unusedVariables false
set_option linter.unusedSimpArgs false
set_option maxHeartbeats 400000
set_option maxRecDepth 100000
/-- What is asked of a board and of pushes. -/
structure Good (ps : List Pc) (pl : List Pu) : Prop where
  nd : (ps.map Pc.at_).Nodup
  ce : ∀ k, k < ps.length → (ps.getD k default).at_.ok
  d1 : ∀ k, k < ps.length → 1 ≤ (ps.getD k default).d
  d9 : ∀ k, k < ps.length → (ps.getD k default).d ≤ 9
  t0 : ∀ p ∈ pl, 0 ≤ p.t
  t1 : ∀ p ∈ pl, p.t ≤ 1000
def nT (dn : List Bool) : Int := (dn.filter id).length
theorem nT_nonneg (dn : List Bool) : 0 ≤ nT dn := by unfold nT; omega
theorem nT_set : ∀ (dn : List Bool) (a : Nat), a < dn.length → dn.getD a false = false → nT (dn.set a true) = nT dn + 1 := by
  intro dn
  induction dn with
  | nil => intro a h; simp at h
  | cons b dn ih =>
    intro a h h0
    cases a with
    | zero =>
      have h1 : b = false := h0
      subst h1
      simp [nT]
    | succ a =>
      have h1 := ih a (by simpa using h) (by simpa using h0)
      unfold nT at h1 ⊢
      cases b <;> simp_all <;> omega
theorem nT_le (dn : List Bool) : nT dn ≤ dn.length := by
  unfold nT; have := List.length_filter_le id dn; omega
theorem getD_setB (dn : List Bool) (a k : Nat) (b : Bool) (ha : a < dn.length) : (dn.set a b).getD k false = if k = a then b else dn.getD k false := by
  rw [List.getD_eq_getElem?_getD, List.getD_eq_getElem?_getD, List.getElem?_set]
  by_cases h : a = k
  · rw [if_pos h, if_pos h.symm, if_pos (by omega)]; rfl
  · rw [if_neg h, if_neg (fun e => h e.symm)]
structure RunS (ps : List Pc) (pl : List Pu) (dn : List Bool) (fs nx : List Fa) : Prop where
  ld : dn.length = ps.length
  lf : fs.length = ps.length
  ln : nx.length = ps.length
  und : ∀ i, i < ps.length → dn.getD i false = false → fs.getD i default = faOf none
  isd : ∀ i, i < ps.length → dn.getD i false = true → fs.getD i default = nx.getD i default ∧ 0 ≤ (nx.getD i default).t
  best : ∀ i, i < ps.length → ∃ o, nx.getD i default = faOf o ∧ Least (fun m => m ∈ dueC ps pl fs i) o
  mono : ∀ i j, i < ps.length → j < ps.length → dn.getD i false = true → dn.getD j false = false → 0 ≤ (nx.getD j default).t → (nx.getD i default).t ≤ (nx.getD j default).t
  top : ∀ i, i < ps.length → (fs.getD i default).t ≤ 1000 + 9 * nT dn
theorem RunS.low {ps : List Pc} {pl : List Pu} {dn : List Bool} {fs nx : List Fa} (h : RunS ps pl dn fs nx) (i : Nat) (hi : i < ps.length) : -1 ≤ (fs.getD i default).t := by
  cases hd : dn.getD i false with
  | false => rw [h.und i hi hd]; show (-1 : Int) ≤ -1; omega
  | true => obtain ⟨e, g⟩ := h.isd i hi hd; rw [e]; omega
theorem RunS.nlow {ps : List Pc} {pl : List Pu} {dn : List Bool} {fs nx : List Fa} (G : Good ps pl) (h : RunS ps pl dn fs nx) (i : Nat) (hi : i < ps.length) : -1 ≤ (nx.getD i default).t ∧ (nx.getD i default).t ≤ 1009 + 9 * nT dn := by
  obtain ⟨o, e, hL⟩ := h.best i hi
  have hn := nT_nonneg dn
  cases o with
  | none => rw [e]; show (-1 : Int) ≤ -1 ∧ (-1 : Int) ≤ _; omega
  | some m =>
    have h1 := due_low ps pl fs h.lf G.t0 G.d1 h.low i m hL.1
    have h2 := due_top ps pl fs _ h.lf (by omega) G.t1 G.d9 h.top i m hL.1
    rw [e]
    show -1 ≤ m.1 ∧ m.1 ≤ _
    omega
/-- The end: nothing is left to fall. -/
theorem RunS.ok {ps : List Pc} {pl : List Pu} {dn : List Bool} {fs nx : List Fa} (G : Good ps pl) (h : RunS ps pl dn fs nx) (hend : ∀ i, i < ps.length → dn.getD i false = false → (nx.getD i default).t < 0) : okFa ps pl fs := by
  refine okFa_least ps pl fs h.lf h.low fun i hi => ?_
  obtain ⟨o, e, hL⟩ := h.best i hi
  cases hd : dn.getD i false with
  | true => exact ⟨o, by rw [(h.isd i hi hd).1, e], hL⟩
  | false =>
    refine ⟨none, h.und i hi hd, ?_⟩
    cases o with
    | none => exact hL
    | some m =>
      have h1 := due_low ps pl fs h.lf G.t0 G.d1 h.low i m hL.1
      have h2 := hend i hi hd
      rw [e] at h2
      have h3 : m.1 < 0 := h2
      omega
/-- While the neighbours of the piece a that falls are told. -/
structure SideS (ps : List Pc) (pl : List Pu) (dn : List Bool) (fs nx : List Fa) (a : Nat) (s : Nat) (nx' : List Fa) : Prop where
  ln : nx'.length = ps.length
  old : ∀ i, i < ps.length → (dn.set a true).getD i false = true → nx'.getD i default = nx.getD i default
  new : ∀ i, i < ps.length → (dn.set a true).getD i false = false → ∃ o, nx'.getD i default = faOf o ∧ Least (fun m => m ∈ dueC ps pl fs i ∨ ∃ s', s' < s ∧ newC ps a (nx.getD a default) s' i m) o
theorem SideS.start {ps : List Pc} {pl : List Pu} {dn : List Bool} {fs nx : List Fa} (h : RunS ps pl dn fs nx) (a : Nat) : SideS ps pl dn fs nx a 0 nx := by
  refine ⟨h.ln, fun i hi _ => rfl, fun i hi _ => ?_⟩
  obtain ⟨o, e, hL⟩ := h.best i hi
  exact ⟨o, e, least_iff (fun m => ⟨.inl, fun hm => hm.elim id (fun ⟨s', hs, _⟩ => by omega)⟩) hL⟩
/-- A side over which nobody is told. -/
theorem SideS.skip {ps : List Pc} {pl : List Pu} {dn : List Bool} {fs nx nx' : List Fa} {a s : Nat} (h : SideS ps pl dn fs nx a s nx') (hno : ∀ i m, i < ps.length → (dn.set a true).getD i false = false → ¬ newC ps a (nx.getD a default) s i m) : SideS ps pl dn fs nx a (s + 1) nx' := by
  refine ⟨h.ln, h.old, fun i hi hd => ?_⟩
  obtain ⟨o, e, hL⟩ := h.new i hi hd
  refine ⟨o, e, least_iff (fun m => ?_) hL⟩
  constructor
  · rintro (h1 | ⟨s', h1, h2⟩)
    · exact .inl h1
    · exact .inr ⟨s', by omega, h2⟩
  · rintro (h1 | ⟨s', h1, h2⟩)
    · exact .inl h1
    · rcases Nat.lt_succ_iff_lt_or_eq.1 h1 with h3 | rfl
      · exact .inr ⟨s', h3, h2⟩
      · exact absurd h2 (hno i m hi hd)
/-- A side over which the piece k is told. -/
theorem SideS.tell {ps : List Pc} {pl : List Pu} {dn : List Bool} {fs nx nx' : List Fa} {a s k : Nat} (h : SideS ps pl dn fs nx a s nx') (hk : k < ps.length) (hdk : (dn.set a true).getD k false = false)
    (hbit : max (hitsV (ps.getD a default).k (ps.getD a default).t (nx.getD a default).f) 0 / 2 ^ s % 2 = 1) (hf : fnd (nxt (ps.getD a default).at_ (s : Int)) ps = (k : Int))
    (hcan : 0 ≤ hitsV (ps.getD k default).k (ps.getD k default).t (((s : Int) + 2) % 4)) (o : Option Ht) (ho : nx'.getD k default = faOf o) (hT : ∀ m, o = some m → 0 ≤ m.1) (f' : Fa)
    (hf' : f' = faOf (stepH o ((nx.getD a default).t + (ps.getD a default).d, ((s : Int) + 2) % 4, (a : Int)))) (hL0 : Least (fun m => m ∈ dueC ps pl fs k ∨ ∃ s', s' < s ∧ newC ps a (nx.getD a default) s' k m) o) : SideS ps pl dn fs nx a (s + 1) (nx'.set k f') := by
  refine ⟨by rw [List.length_set]; exact h.ln, fun i hi hd => ?_, fun i hi hd => ?_⟩
  · rw [getD_set nx' k i f' (by rw [h.ln]; exact hk)]
    by_cases hik : i = k
    · subst hik; rw [hdk] at hd; cases hd
    · rw [if_neg hik]; exact h.old i hi hd
  · rw [getD_set nx' k i f' (by rw [h.ln]; exact hk)]
    by_cases hik : i = k
    · subst hik
      rw [if_pos rfl]
      refine ⟨_, hf', least_iff (fun m => ?_) (least_add _ hL0)⟩
      constructor
      · rintro ((h1 | ⟨s', h1, h2⟩) | h1)
        · exact .inl h1
        · exact .inr ⟨s', by omega, h2⟩
        · exact .inr ⟨s, by omega, hbit, hf, by rw [h1]; unfold canH; exact decide_eq_true hcan, h1⟩
      · rintro (h1 | ⟨s', h1, h2⟩)
        · exact .inl (.inl h1)
        · rcases Nat.lt_succ_iff_lt_or_eq.1 h1 with h3 | rfl
          · exact .inl (.inr ⟨s', h3, h2⟩)
          · exact .inr h2.2.2.2
    · rw [if_neg hik]
      obtain ⟨o', e, hL⟩ := h.new i hi hd
      refine ⟨o', e, least_iff (fun m => ?_) hL⟩
      constructor
      · rintro (h1 | ⟨s', h1, h2⟩)
        · exact .inl h1
        · exact .inr ⟨s', by omega, h2⟩
      · rintro (h1 | ⟨s', h1, h2⟩)
        · exact .inl h1
        · rcases Nat.lt_succ_iff_lt_or_eq.1 h1 with h3 | rfl
          · exact .inr ⟨s', h3, h2⟩
          · have := h2.2.1
            rw [hf] at this
            exact absurd (by omega) hik
/-- The piece a has fallen, and its neighbours are told. -/
theorem SideS.done {ps : List Pc} {pl : List Pu} {dn : List Bool} {fs nx nx' : List Fa} {a : Nat} (G : Good ps pl) (h0 : RunS ps pl dn fs nx) (ha : a < ps.length) (hda : dn.getD a false = false) (hta : 0 ≤ (nx.getD a default).t)
    (hmin : ∀ j, j < ps.length → dn.getD j false = false → 0 ≤ (nx.getD j default).t → (nx.getD a default).t ≤ (nx.getD j default).t) (h : SideS ps pl dn fs nx a 4 nx') : RunS ps pl (dn.set a true) (fs.set a (nx.getD a default)) nx' := by
  have hal : a < dn.length := by rw [h0.ld]; exact ha
  have hfa : (fs.getD a default).t = -1 := by rw [h0.und a ha hda]; rfl
  have hfall : ∀ i, i < ps.length → ∀ m, m ∈ dueC ps pl (fs.set a (nx.getD a default)) i ↔ m ∈ dueC ps pl fs i ∨ ∃ s : Nat, s < 4 ∧ newC ps a (nx.getD a default) s i m :=
    fun i hi m => dueC_fall ps pl fs a _ G.nd G.ce h0.lf ha hfa (by omega) i hi m
  have hda' := G.d1 a ha
  have hdone : ∀ i, i < ps.length → (dn.set a true).getD i false = true → nx'.getD i default = nx.getD i default ∧ 0 ≤ (nx.getD i default).t ∧ (nx.getD i default).t ≤ (nx.getD a default).t := by
    intro i hi hd
    refine ⟨h.old i hi hd, ?_⟩
    rw [getD_setB dn a i true hal] at hd
    by_cases hia : i = a
    · subst hia; omega
    · rw [if_neg hia] at hd
      exact ⟨(h0.isd i hi hd).2, h0.mono i a hi ha hd hda hta⟩
  have hnd' : ∀ i, (dn.set a true).getD i false = false → i ≠ a ∧ dn.getD i false = false := by
    intro i hd
    rw [getD_setB dn a i true hal] at hd
    by_cases hia : i = a
    · rw [if_pos hia] at hd; cases hd
    · rw [if_neg hia] at hd; exact ⟨hia, hd⟩
  refine ⟨by rw [List.length_set]; exact h0.ld, by rw [List.length_set]; exact h0.lf, h.ln, ?_, ?_, ?_, ?_, ?_⟩
  · intro i hi hd
    obtain ⟨hia, hd'⟩ := hnd' i hd
    rw [getD_set fs a i _ (by rw [h0.lf]; exact ha), if_neg hia]
    exact h0.und i hi hd'
  · intro i hi hd
    obtain ⟨e1, e2, e3⟩ := hdone i hi hd
    rw [e1]
    refine ⟨?_, e2⟩
    rw [getD_set fs a i _ (by rw [h0.lf]; exact ha)]
    rw [getD_setB dn a i true hal] at hd
    by_cases hia : i = a
    · rw [if_pos hia, hia]
    · rw [if_neg hia] at hd ⊢
      exact (h0.isd i hi hd).1
  · intro i hi
    cases hd : (dn.set a true).getD i false with
    | true =>
      obtain ⟨e1, e2, e3⟩ := hdone i hi hd
      obtain ⟨o, e, hL⟩ := h0.best i hi
      refine ⟨o, by rw [e1, e], ?_⟩
      cases o with
      | none => rw [e] at e2; have e4 : (0 : Int) ≤ -1 := e2; omega
      | some m =>
        have e4 : m.1 ≤ (nx.getD a default).t := by rw [e] at e3; exact e3
        refine least_late hL (fun x hx => (hfall i hi x).2 (.inl hx)) (fun x hx => ?_)
        rcases (hfall i hi x).1 hx with h1 | ⟨s, hs, h1⟩
        · exact .inl h1
        · right
          rw [h1.2.2.2]
          show m.1 < (nx.getD a default).t + (ps.getD a default).d
          omega
    | false =>
      obtain ⟨o, e, hL⟩ := h.new i hi hd
      exact ⟨o, e, least_iff (fun m => (hfall i hi m).symm) hL⟩
  · intro i j hi hj hd1 hd2 hj0
    obtain ⟨e1, e2, e3⟩ := hdone i hi hd1
    obtain ⟨hja, hdj⟩ := hnd' j hd2
    rw [e1]
    refine Int.le_trans e3 ?_
    obtain ⟨o, e, hL⟩ := h.new j hj hd2
    cases o with
    | none => rw [e] at hj0; have e4 : (0 : Int) ≤ -1 := hj0; omega
    | some m =>
      rw [e]
      show (nx.getD a default).t ≤ m.1
      rcases hL.1 with h1 | ⟨s, hs, h1⟩
      · obtain ⟨o', e', hL'⟩ := h0.best j hj
        cases o' with
        | none => exact absurd h1 (hL' m)
        | some m' =>
          have h2 := hL'.2 m h1
          have h3 := due_low ps pl fs h0.lf G.t0 G.d1 h0.low j m' hL'.1
          have h4 := hmin j hj hdj (by rw [e']; exact h3)
          rw [e'] at h4
          have h5 : (nx.getD a default).t ≤ m'.1 := h4
          rw [Bool.eq_false_iff, ne_eq, ltH_iff] at h2
          omega
      · rw [h1.2.2.2]
        show (nx.getD a default).t ≤ (nx.getD a default).t + (ps.getD a default).d
        omega
  · intro i hi
    have h1 := (h0.nlow G a ha).2
    rw [nT_set dn a hal hda, getD_set fs a i _ (by rw [h0.lf]; exact ha)]
    by_cases hia : i = a
    · rw [if_pos hia]; omega
    · rw [if_neg hia]; have := h0.top i hi; omega
end Go.Proofs.Ytmeefmoblkiebaa
/- The run of a board (the reference): what pushes give at the start. -/
namespace Go.Proofs.Ytmeefmoblkiebaa
open Go.RowKit
set_option linter.unusedVariables false
set_option linter.unusedSimpArgs false
set_option maxHeartbeats 400000
set_option maxRecDepth 100000
/-- What comes next of each piece, by pushes alone. -/
def oP (ps : List Pc) (pl : List Pu) (i : Nat) : Option Ht := bestH (dueL ps pl [] i 0)
def nxP (ps : List Pc) (pl : List Pu) : List Fa := (List.range ps.length).map fun i => faOf (oP ps pl i)
theorem nxP_len (ps : List Pc) (pl : List Pu) : (nxP ps pl).length = ps.length := by simp [nxP]
theorem nxP_get (ps : List Pc) (pl : List Pu) (i : Nat) (h : i < ps.length) : (nxP ps pl).getD i default = faOf (oP ps pl i) := by
  rw [List.getD_eq_getElem?_getD]; simp [nxP, h]
theorem nxP_nil (ps : List Pc) : nxP ps [] = List.replicate ps.length (faOf none) := by
  apply List.ext_getElem
  · simp [nxP]
  · intro i h1 h2
    simp only [nxP, List.getElem_map, List.getElem_range, List.getElem_replicate]
    rfl
theorem oP_push (ps : List Pc) (pl : List Pu) (p : Pu) (hnd : (ps.map Pc.at_).Nodup) (k : Nat) (hk : k < ps.length) (hf : fnd ⟨p.x, p.y⟩ ps = (k : Int)) (i : Nat) (hi : i < ps.length) :
    oP ps (pl ++ [p]) i = if i = k then (if 0 ≤ hitsV (ps.getD k default).k (ps.getD k default).t p.s then stepH (oP ps pl k) (p.t, p.s, -1) else oP ps pl k) else oP ps pl i := by
  unfold oP
  rw [dueL_push]
  obtain ⟨_, hk2⟩ := (fnd_iff ps hnd _ _).1 hf
  by_cases hik : i = k
  · subst hik
    rw [if_pos rfl, if_pos (by rw [getD_pc ps i hi]; exact hk2.symm)]
    by_cases h : 0 ≤ hitsV (ps.getD i default).k (ps.getD i default).t p.s
    · rw [if_pos h, if_pos h, bestH_snoc]
    · rw [if_neg h, if_neg h, List.append_nil]
  · rw [if_neg hik, if_neg, List.append_nil]
    intro e
    have := (fnd_iff ps hnd ⟨p.x, p.y⟩ i).2 ⟨hi, by rw [← getD_pc ps i hi]; exact e.symm⟩
    omega
theorem nxP_push (ps : List Pc) (pl : List Pu) (p : Pu) (hnd : (ps.map Pc.at_).Nodup) (k : Nat) (hk : k < ps.length) (hf : fnd ⟨p.x, p.y⟩ ps = (k : Int)) :
    nxP ps (pl ++ [p]) = if 0 ≤ hitsV (ps.getD k default).k (ps.getD k default).t p.s then (nxP ps pl).set k (faOf (stepH (oP ps pl k) (p.t, p.s, -1))) else nxP ps pl := by
  have key : ∀ xs : List Fa, xs.length = ps.length → (∀ i, i < ps.length → xs.getD i default = faOf (oP ps (pl ++ [p]) i)) → nxP ps (pl ++ [p]) = xs := by
    intro xs h1 h2
    apply List.ext_getElem
    · rw [nxP_len, h1]
    · intro i h3 h4
      have h5 : i < ps.length := by rw [← h1]; exact h4
      rw [← getD_fa _ i h3, ← getD_fa _ i h4, h2 i h5, nxP_get ps _ i h5]
  by_cases h : 0 ≤ hitsV (ps.getD k default).k (ps.getD k default).t p.s
  · rw [if_pos h]
    apply key
    · rw [List.length_set, nxP_len]
    · intro i hi
      rw [getD_set _ _ _ _ (by rw [nxP_len]; exact hk), oP_push ps pl p hnd k hk hf i hi, if_pos h]
      by_cases hik : i = k
      · rw [if_pos hik, if_pos hik]
      · rw [if_neg hik, if_neg hik, nxP_get ps pl i hi]
  · rw [if_neg h]
    apply key
    · rw [nxP_len]
    · intro i hi
      rw [oP_push ps pl p hnd k hk hf i hi, if_neg h, nxP_get ps pl i hi]
      by_cases hik : i = k
      · rw [if_pos hik, hik]
      · rw [if_neg hik]
theorem getD_rep {α : Type} (n i : Nat) (x d : α) (h : i < n) : (List.replicate n x).getD i d = x := by
  rw [List.getD_eq_getElem?_getD, List.getElem?_replicate, if_pos h]; rfl
theorem RunS.start (ps : List Pc) (pl : List Pu) : RunS ps pl (List.replicate ps.length false) (List.replicate ps.length (faOf none)) (nxP ps pl) := by
  have hT : ∀ i, i < ps.length → ((List.replicate ps.length (faOf none)).getD i default).t = -1 := by
    intro i hi; rw [getD_rep _ _ _ _ hi]; rfl
  refine ⟨by simp, by simp, nxP_len ps pl, fun i hi _ => getD_rep _ _ _ _ hi, fun i hi h => ?_, fun i hi => ?_, fun i j hi _ h => ?_, fun i hi => ?_⟩
  · rw [getD_rep _ _ _ _ hi] at h; cases h
  · refine ⟨oP ps pl i, nxP_get ps pl i hi, least_iff (fun m => ?_) (least_best _)⟩
    rw [cand_mem]
    unfold dueL
    have e0 : candN ps [] i 0 = [] := rfl
    rw [e0, List.append_nil, List.mem_filter]
    constructor
    · rintro ⟨h1, h2⟩; exact ⟨h2, .inl h1⟩
    · rintro ⟨h1, h2 | ⟨s, hs, h2⟩⟩
      · exact ⟨h2, h1⟩
      · obtain ⟨k, hk, -, h3, -⟩ := candN1_some ps _ i s m h2 (by simp)
        exact absurd (hT k hk) h3
  · rw [getD_rep _ _ _ _ hi] at h; cases h
  · rw [hT i hi]; have := nT_nonneg (List.replicate ps.length false); omega
end Go.Proofs.Ytmeefmoblkiebaa
/- Falls as values of the language: equality. -/
namespace Go.Proofs.Ytmeefmoblkiebaa
open Go.RowKit
set_option maxHeartbeats 400000
set_option maxRecDepth 100000
theorem fa_fields : (Try.prog.fieldsOf 40).toList.map (fun f => (f.type, f.offset, decide (f.name ≠ "_"))) = [(2, 0, true), (24, 1, true), (2, 2, true)] := by kernel_rfl
theorem run_equal_fa (f g : Fa) (w : World) : (Op.equal 40 f.val g.val).run Try.prog w = .ok (decide (f = g)) w := by
  obtain ⟨t, f, b⟩ := f
  obtain ⟨t', f', b'⟩ := g
  have h := run_equalIn_agg (P := Try.prog) (w := w) 9999 40 #[.int .i64 t, .int .i8 f, .int .i64 b] #[.int .i64 t', .int .i8 f', .int .i64 b'] (by kernel_rfl) (by kernel_rfl)
  have hF := fa_fields
  have e1 : ∀ a b : Int, (Op.equalIn 9999 2 (.int .i64 a) (.int .i64 b)).run Try.prog w = .ok (a == b) w := fun a b => run_equalIn_int w 9998 2 .i64 .i64 a b Try.underlying2
  have e3 : ∀ a b : Int, (Op.equalIn 9999 24 (.int .i8 a) (.int .i8 b)).run Try.prog w = .ok (a == b) w := fun a b => run_equalIn_int w 9998 24 .i8 .i8 a b Try.underlying24
  have q1 : Try.prog.plainKey 2 = true := by kernel_rfl
  have q2 : Try.prog.plainKey 24 = true := by kernel_rfl
  have e2 : ∀ (xs : Array Value) (off : Nat) (v : Value), xs[off]? = some v → (part 2 xs off).run Try.prog w = .ok v w := fun xs off v hx => run_part_plain w q1 hx
  have e4 : ∀ (xs : Array Value) (off : Nat) (v : Value), xs[off]? = some v → (part 24 xs off).run Try.prog w = .ok v w := fun xs off v hx => run_part_plain w q2 hx
  generalize (Try.prog.fieldsOf 40).toList = fl at h hF
  rw [List.map_eq_cons_iff] at hF
  obtain ⟨f1, fl1, rfl, h1, hF⟩ := hF
  rw [List.map_eq_cons_iff] at hF
  obtain ⟨f2, fl2, rfl, h2, hF⟩ := hF
  rw [List.map_eq_cons_iff] at hF
  obtain ⟨f3, fl3, rfl, h3, hF⟩ := hF
  rw [List.map_eq_nil_iff] at hF
  subst hF
  simp only [Prod.mk.injEq, decide_eq_true_eq] at h1 h2 h3
  obtain ⟨t1, o1, n1⟩ := h1
  obtain ⟨t2, o2, n2⟩ := h2
  obtain ⟨t3, o3, n3⟩ := h3
  unfold Op.equal
  show (Op.equalIn (9999 + 1) 40 _ _).run Try.prog w = _
  rw [h]
  have r1 : ∀ x y z : Int, (part 2 #[.int .i64 x, .int .i8 y, .int .i64 z] 0).run Try.prog w = .ok (.int .i64 x) w := fun x y z => e2 _ _ _ rfl
  have r2 : ∀ x y z : Int, (part 24 #[.int .i64 x, .int .i8 y, .int .i64 z] 1).run Try.prog w = .ok (.int .i8 y) w := fun x y z => e4 _ _ _ rfl
  have r3 : ∀ x y z : Int, (part 2 #[.int .i64 x, .int .i8 y, .int .i64 z] 2).run Try.prog w = .ok (.int .i64 z) w := fun x y z => e2 _ _ _ rfl
  simp only [Op.eqFields, if_pos n1, if_pos n2, if_pos n3, t1, t2, t3, o1, o2, o3, Sem.run_bind, r1, Result.andThen_ok, e1]
  by_cases g1 : t = t'
  · subst g1
    simp only [beq_self_eq_true, Bool.not_true, Bool.false_eq_true, if_false, Sem.run_bind, r2, Result.andThen_ok, e3]
    by_cases g2 : f = f'
    · subst g2
      simp only [beq_self_eq_true, Bool.not_true, Bool.false_eq_true, if_false, Sem.run_bind, r3, Result.andThen_ok, e1]
      by_cases g3 : b = b'
      · subst g3; simp
      · simp [g3]
    · simp [g2]
  · simp [g1]
theorem run_neq_fa (t f b t' f' b' : Int) (w : World) : (binOp .neq 40 (.agg #[.int .i64 t, .int .i8 f, .int .i64 b]) (.agg #[.int .i64 t', .int .i8 f', .int .i64 b'])).run Try.prog w = .ok (.bool (decide ((⟨t, f, b⟩ : Fa) ≠ ⟨t', f', b'⟩))) w := by
  have := run_equal_fa ⟨t, f, b⟩ ⟨t', f', b'⟩ w
  simp only [binOp]
  simp [this]
end Go.Proofs.Ytmeefmoblkiebaa
/- Contracts: slices of Fall, element for element. -/
namespace Go.Proofs.Ytmeefmoblkiebaa
open Go.RowKit
set_option linter.unusedVariables false
set_option linter.unusedSimpArgs false
set_option maxHeartbeats 400000
set_option maxRecDepth 100000

theorem Try.infoFall : (Try.prog.info? 40).map (fun i => (i.zero, i.size, i.bytes)) = some (some (.agg #[.int .i64 0, .int .i8 0, .int .i64 0]), 3, 24) := by kernel_rfl
def mkFa1 (k : Int) : Fa := ⟨k, (IntKind.i8.wrap (k + 1)), k + 1 + 1⟩
def mkFa (k : Int) (n : Nat) : List Fa := (List.range n).map fun (i : Nat) => mkFa1 (k + 3 * (i : Int))
theorem mkFa_succ (k : Int) (n : Nat) : mkFa k (n + 1) = mkFa k n ++ [mkFa1 (k + 3 * n)] := by simp [mkFa, List.range_succ]
theorem mkFa_len (k : Int) (n : Nat) : (mkFa k n).length = n := by simp [mkFa]
end Go.Proofs.Ytmeefmoblkiebaa
/- Contracts: the first wrong fall (the reference). -/
namespace Go.Proofs.Ytmeefmoblkiebaa
open Go.RowKit
set_option linter.unusedVariables false
set_option linter.unusedSimpArgs false
set_option maxHeartbeats 400000
set_option maxRecDepth 100000
def slN (v : Value) : Nat := match v with | .slice _ n _ => n | _ => 0
theorem own_slN {w : World} {base e s n : Nat} {v : Value} {xs : List Value} (h : w.ownsRow base e s v n xs) : slN v = n := by
  obtain ⟨a, cap, rfl, -⟩ := own_at h
  rfl
def stF : Fa := ⟨-1, 0, -1⟩
def padF (fs : List Fa) (m : Nat) : List Fa := fs ++ List.replicate m stF
theorem SlAt.wide {B B' : Nat} {w : World} {a : Option Addr} {xs : List Value} (h : SlAt B w a xs) (hB : B ≤ B') : SlAt B' w a xs := by
  intro j hj
  obtain ⟨b, off, h1, h2, h3⟩ := h j hj
  exact ⟨b, off, h1, Nat.lt_of_lt_of_le h2 hB, h3⟩
theorem padF_len (fs : List Fa) (m : Nat) : (padF fs m).length = fs.length + m := by simp [padF]
theorem padF_zero (fs : List Fa) : padF fs 0 = fs := by simp [padF]
theorem padF_succ (fs : List Fa) (m : Nat) : padF fs (m + 1) = padF fs m ++ [stF] := by simp [padF, List.replicate_succ']
theorem padF_ok (fs : List Fa) (m : Nat) (h : fs.all okFall = true) : (padF fs m).all okFall = true := by
  unfold padF
  rw [List.all_append, h, Bool.true_and, List.all_eq_true]
  intro x hx
  rw [List.eq_of_mem_replicate hx]
  rfl
theorem candN1_pad (ps : List Pc) (fs : List Fa) (i : Nat) (s : Int) (m : Nat) : candN1 ps (padF fs m) i s = candN1 ps fs i s := by
  unfold candN1
  simp only
  generalize fnd (nxt (ps.getD i default).at_ s) ps = k
  by_cases h0 : 0 ≤ k
  · by_cases h1 : k < fs.length
    · have e : (padF fs m).getD k.toNat default = fs.getD k.toNat default := by
        unfold padF
        rw [List.getD_eq_getElem?_getD, List.getD_eq_getElem?_getD, List.getElem?_append_left (by omega)]
      rw [e, padF_len]
      have e1 : (k < ((fs.length + m : Nat) : Int)) ↔ (k < (fs.length : Int)) := by omega
      simp only [e1]
    · rw [if_neg (c := 0 ≤ k ∧ k < (fs.length : Int) ∧ _) (fun h => h1 h.2.1)]
      rw [if_neg]
      rintro ⟨g0, g1, g2, g3⟩
      rw [padF_len] at g1
      apply g2
      unfold padF
      rw [List.getD_eq_getElem?_getD, List.getElem?_append_right (by omega), List.getElem?_replicate, if_pos (by omega)]
      rfl
  · rw [if_neg (fun h => h0 h.1), if_neg (fun h => h0 h.1)]
theorem due_pad (ps : List Pc) (pl : List Pu) (fs : List Fa) (i m : Nat) : due ps pl (padF fs m) i = due ps pl fs i := by
  have e : ∀ s : Nat, candN1 ps (padF fs m) i (s : Int) = candN1 ps fs i (s : Int) := fun s => candN1_pad ps fs i s m
  unfold due dueC candN
  simp only [e]
theorem wrong_in (ps : List Pc) (pl : List Pu) (fs : List Fa) (k : Nat) (h : k < fs.length) : wrongAt ps pl fs k = decide (fs[k] ≠ due ps pl fs k) := by
  unfold wrongAt
  rw [decide_eq_false (by omega : ¬ fs.length ≤ k), Bool.false_or, getD_fa fs k h]
set_option maxHeartbeats 1600000 in
theorem l02Wrong_any {B : Nat} (b0 : Nat) (l : Bd) (a : Option Addr) (cap : Nat) (pl : List Pu) (a2 : Option Addr) (cap2 : Nat) (fs : List Fa) (w : World) (hbp : BP w b0 l) (hv : vBd l = true) (h : SlAt B w a (flat Pu.cells pl)) (hok : PusOk pl) (hpl : pl.all plainPu = true) (hn : pl.length ≤ 20) (h2 : SlAt B w a2 (flat Fa.cells fs)) (hfs : fs.all okFall = true) (hn2 : fs.length ≤ 9000000) (hB : B ≤ w.heap.size) :
    Calls Try.prog 27 #[.pointer (some ⟨b0, 0, none⟩), .slice a pl.length cap, .slice a2 fs.length cap2] w fun e w' => e = .returned (.int .i64 (firstWrong l.ps pl fs)) ∧ Below w.heap.size w w' := by
  have HBP := Lib.hid hbp
  obtain ⟨hbl, sv, hbd, sa, scap, rfl, hps⟩ := hbp
  unfold BdAt at hbd
  obtain ⟨c1, c2, c3, c4, c5⟩ := vBd_bounds l hv
  have HPL := Lib.hid hpl
  clear hpl
  obtain ⟨i0, hi, hiz0, hiz1, hiz2⟩ := info_parts Try.infoFall
  have HHIT := Lib.hid (firstWrong_hit l.ps pl fs)
  have HNONE := Lib.hid (firstWrong_none l.ps pl fs)
  generalize hfw : firstWrong l.ps pl fs = FW at HHIT HNONE
  clear hfw
  go_enter Try.func27, Try.ntmps27
  go_wp2_with (at_builtin; refine wpList_append_sl _ rfl _ _ 31 rfl w.heap.size 40 i0 (.agg #[.int .i64 0, .int .i8 0, .int .i64 0]) 3 24 Try.underlying31 hi hiz0 hiz1 hiz2 rfl (by decide) _ 0 [] rfl (World.ownsRow_made w _ 0 (Nat.le_refl _) (by simp [maxLen]) rfl) a2 fs.length cap2 (flat Fa.cells fs) rfl (h2.below (bl_alloc (Below.refl _ _)) hB) (flat_length Fa.len fs) (one_cells Fa.one fs) (by unfold maxLen; omega) (by omega) (by simp) ?_; intro v1 w1 hown hgrow)
  rw [Nat.zero_add, List.nil_append] at hown
  have hb0 : Below w.heap.size w w1 := bl_grown (bl_alloc (Below.refl _ _)) hgrow (by intro k hk; have : some w.heap.size = some k := hk; cases this; exact Nat.le_refl _)
  clear hgrow
  go_loopw [8] (fun v wr => ∃ m : Nat, (m = 0 ∨ fs.length + m ≤ l.ps.length) ∧ wr.ownsRow w.heap.size 40 3 v (fs.length + m) (flat Fa.cells (padF fs m)) ∧ Below w.heap.size w wr) (fun v _ => l.ps.length - slN v)
  case atStart => exact ⟨0, .inl rfl, by rw [padF_zero]; exact hown, hb0⟩
  case round =>
    clear hown hb0
    obtain ⟨m, hm, hown, hb⟩ := hrel
    have hme := own_slN hown
    have hzb := hb.size
    have HME := Lib.hid hme
    clear hme
    have hpl0 := padF_len fs m
    have HPL0 := Lib.hid hpl0
    clear hpl0
    have hm2 : fs.length + m ≤ 9000200 := by omega
    obtain ⟨av, capv, hve, hsl, -, -⟩ := own_at hown
    have HVE := Lib.hid hve
    subst hve
    by_cases hlt : fs.length + m < l.ps.length
    · go_wp2_with fail
      refine (l02None_any _).mono ?_
      rintro e w2 ⟨rfl, hb2⟩
      have hown2 := own_below hown hb2 (Nat.le_refl _)
      have hb12 := bl_trans hb hb2
      have hz2 := hb12.size
      go_wp2_with (at_builtin; refine wpList_append_sl _ rfl _ _ 31 rfl w.heap.size 40 i0 (.agg #[.int .i64 0, .int .i8 0, .int .i64 0]) 3 24 Try.underlying31 hi hiz0 hiz1 hiz2 rfl (by decide) _ _ _ rfl (own_below hown2 (bl_alloc (Below.refl _ _)) (Nat.le_refl _)) (some ⟨_, 0, none⟩) 1 1 [.int .i64 (-1), .int .i8 0, .int .i64 (-1)] rfl (sl_new _ #[.int .i64 (-1), .int .i8 0, .int .i64 (-1)] _) rfl (Fa.one ⟨-1, 0, -1⟩) (by unfold maxLen; omega) (by omega) (by simp; omega) ?_; intro v3 w3 hown3 hgrow)
      have hb13 : Below w.heap.size w w3 := bl_grown (bl_alloc hb12) hgrow (fun k hk => (hown.lt k hk).1)
      have hme3 := own_slN hown3
      go_roundw
      case rel =>
        refine ⟨m + 1, .inr (by omega), ?_, hb13⟩
        rw [padF_succ, flat_append]
        exact hown3
      case measure => have := HME.out; omega
    · have hlen : l.ps.length ≤ (padF fs m).length := by rw [HPL0.out]; omega
      have hall := padF_ok fs m hfs
      have HALL := Lib.hid hall
      have HD := Lib.hid (fun i => due_pad l.ps pl fs i m)
      have HP0 := HPL0.out
      rw [← HP0] at hown ⊢
      clear HME HVE hall HP0 HPL0
      obtain ⟨W, hW⟩ : ∃ W, W = wr := ⟨_, rfl⟩
      rw [← hW] at hown hb hsl
      have hql0 : (padF fs m).length ≤ 9000200 := by rw [padF_len]; omega
      generalize padF fs m = qs at hql0 hown hlen HALL HD hsl ⊢
      go_wp2
      go_loopw [9] (fun i wr => ∃ k : Nat, k ≤ l.ps.length ∧ i = .int .i64 k ∧ Hid (∀ j, j < k → wrongAt l.ps pl fs j = false) ∧ Below W.heap.size W wr) (fun i _ => l.ps.length - (intOf i).toNat)
      case atStart => exact ⟨0, by omega, rfl, Lib.hid (fun j hj => by omega), by subst hW; exact Below.refl _ _⟩
      case round =>
        obtain ⟨k, hk, rfl, hno, hbW⟩ := hrel
        have hb2 := bl_trans hb hbW
        have HB2 := Lib.hid hb2
        have hz2 := hb2.size
        by_cases hlt2 : k < l.ps.length
        · by_cases hin : k < fs.length
          · have hgd : decide (fs.length ≤ k) = false := decide_eq_false (by omega)
            have HBP2 := Lib.hid (fun (w' : World) (h' : Below w.heap.size w w') => HBP.out.step h')
            obtain ⟨bf, offf, rfl, hbf, hatf⟩ := fas_get h2 hin
            have hbfw : bf < w.heap.size := by omega
            have hbfr : bf < wr.heap.size := by omega
            unfold FaAt at hatf
            have w0 : wr.cell? ⟨bf, offf + k * 3, none⟩ = some (.int .i64 fs[k].t) := by rw [hb2.cell (p := ⟨_, _, none⟩) hbfw]; exact hatf.1
            have w1' : wr.cell? ⟨bf, offf + k * 3 + 1, none⟩ = some (.int .i8 fs[k].f) := by rw [hb2.cell (p := ⟨_, _, none⟩) hbfw]; exact hatf.2.1
            have w2' : wr.cell? ⟨bf, offf + k * 3 + 2, none⟩ = some (.int .i64 fs[k].b) := by rw [hb2.cell (p := ⟨_, _, none⟩) hbfw]; exact hatf.2.2
            have hwi := wrong_in l.ps pl fs k hin
            have HDC : ∀ u : Ext wr, Calls Try.prog 57 #[.pointer (some ⟨b0, 0, none⟩), .slice a pl.length cap, .slice av qs.length capv, .int .i64 k] u.w fun e w' => e = .returned (due l.ps pl fs k).val ∧ Below u.w.heap.size u.w w' := by
              intro u
              have hu := bl_trans hb2 u.b
              have hd := l02Due_any b0 l a cap pl av capv qs k u.w (HBP2.out _ hu) hv ((h.below hu hB).wide (Nat.le_trans hB hb.size)) hok HPL.out hn (hsl.below (bl_trans hbW u.b) (Nat.le_refl _)) HALL.out (by omega) hlen (by have := hbW.size; have := u.b.size; omega) hlt2
              rw [HD.out k] at hd
              exact hd
            generalize due l.ps pl fs k = d at HDC hwi
            generalize fs[k] = f at w0 w1' w2' hwi
            obtain ⟨dt, df, db⟩ := d
            obtain ⟨ft, ff, fb⟩ := f
            simp only at w0 w1' w2'
            have HDC2 := Lib.hid HDC
            have hne := run_neq_fa ft ff fb dt df db
            clear HDC hatf HB2 HBP2
            rcases dec_cases ((⟨ft, ff, fb⟩ : Fa) ≠ ⟨dt, df, db⟩) with ⟨g1, -⟩ | ⟨g1, -⟩
            · rw [g1] at hne hwi
              have HW := Lib.hid (HHIT.out k hlt2 hno.out hwi)
              clear g1 hwi
              go_wp2
              (refine wp_region_ext (by kernel_rfl) (by kernel_rfl) ?_; have hX := @ext_cell; (repeat (go_big_quiet_step ((go_at_call 57; exact ext_call (HDC2.out _))))); refine wpQuiet_nil ?_; clear hX; intro wx hw'; obtain ⟨⟨wx, hbx⟩, rfl⟩ := hw'; obtain ⟨hcx, hfx⟩ := bcell hbx)
              go_wp2
              go_ret
              exact ⟨by rw [HW.out]; rfl, bl_trans hb2 hbx⟩
            · rw [g1] at hne hwi
              have HW : Hid (∀ j, j < k + 1 → wrongAt l.ps pl fs j = false) := Lib.hid (by
                intro j hj
                rcases Nat.lt_succ_iff_lt_or_eq.1 hj with h' | rfl
                · exact hno.out j h'
                · exact hwi)
              clear g1 hwi
              go_wp2
              (refine wp_region_ext (by kernel_rfl) (by kernel_rfl) ?_; have hX := @ext_cell; (repeat (go_big_quiet_step ((go_at_call 57; exact ext_call (HDC2.out _))))); refine wpQuiet_nil ?_; clear hX; intro wx hw'; obtain ⟨⟨wx, hbx⟩, rfl⟩ := hw'; obtain ⟨hcx, hfx⟩ := bcell hbx)
              go_wp2
              go_roundw
              case rel => exact ⟨k + 1, by omega, by go_num, HW, bl_trans hbW hbx⟩
              case measure => simp [intOf]; omega
          · have HW := Lib.hid (HHIT.out k hlt2 hno.out (by unfold wrongAt; rw [decide_eq_true (by omega), Bool.true_or]))
            have hgd : decide (fs.length ≤ k) = true := decide_eq_true (by omega)
            go_wp2
            (refine wp_region_ext (by kernel_rfl) (by kernel_rfl) ?_; have hX := @ext_cell; (repeat (go_big_quiet_step (fail))); refine wpQuiet_nil ?_; clear hX; intro wx hw'; obtain ⟨⟨wx, hbx⟩, rfl⟩ := hw'; obtain ⟨hcx, hfx⟩ := bcell hbx)
            go_wp2
            go_ret
            exact ⟨by rw [HW.out]; rfl, bl_trans hb2 hbx⟩
        · have hkn : k = l.ps.length := by omega
          subst hkn
          have hN := HNONE.out hno.out
          by_cases hmore : l.ps.length < fs.length
          · rw [if_pos hmore] at hN
            have HN := Lib.hid hN
            clear hN
            go_wp2
            go_ret
            exact ⟨by rw [HN.out]; rfl, hb2⟩
          · rw [if_neg hmore] at hN
            have HN := Lib.hid hN
            clear hN
            go_wp2
            go_ret
            exact ⟨by rw [HN.out]; rfl, hb2⟩
end Go.Proofs.Ytmeefmoblkiebaa
/- Three rows of the reference's run: what is done, what has fallen, what comes next. -/
namespace Go.Proofs.Ytmeefmoblkiebaa
open Go.RowKit
set_option linter.unusedVariables false
set_option linter.unusedSimpArgs false
set_option maxHeartbeats 400000
set_option maxRecDepth 100000
def BoC (b : Bool) : List Value := [.bool b]
theorem BoC_len (b : Bool) : (BoC b).length = 1 := rfl
theorem flat_bo (xs : List Bool) : flat BoC xs = xs.map Value.bool := by
  induction xs with
  | nil => rfl
  | cons x xs ih => rw [flat_cons, ih]; rfl
theorem rep_set {α : Type} (N j : Nat) (h : j < N) (x z : α) : (List.replicate j x ++ List.replicate (N - j) z).set j x = List.replicate (j + 1) x ++ List.replicate (N - (j + 1)) z := by
  apply List.ext_getElem
  · simp; omega
  · intro i h1 h2
    simp only [List.getElem_set, List.getElem_append, List.length_replicate, List.getElem_replicate]
    by_cases e : j = i
    · subst e; simp
    · by_cases e2 : i < j
      · simp [e, e2, show i < j + 1 by omega]
      · simp [e, e2, show ¬ i < j + 1 by omega]
theorem flat_set {α : Type} {f : α → List Value} {s : Nat} (hs : ∀ x, (f x).length = s) (xs : List α) (i : Nat) (h : i < xs.length) (x : α) : flat f (xs.set i x) = flat f (xs.take i) ++ f x ++ (flat f (xs.drop i)).drop s := by
  rw [List.set_eq_take_append_cons_drop, if_pos h, flat_append, flat_cons, List.drop_eq_getElem_cons h, flat_cons, List.append_assoc, List.drop_append_of_le_length (by rw [hs]; exact Nat.le_refl _)]
  have : (f xs[i]).drop s = [] := by apply List.drop_of_length_le; rw [hs]; exact Nat.le_refl _
  rw [this, List.nil_append]
theorem own_faSet {w : World} {base e g n cap : Nat} {fs : List Fa} (h : w.ownsRow base e 3 (.slice (some ⟨g, 0, none⟩) n cap) n (flat Fa.cells fs)) (hl : fs.length = n) (i : Nat) (hi : i < n) (f : Fa) :
    (setCells w g (i * 3) f.cells).ownsRow base e 3 (.slice (some ⟨g, 0, none⟩) n cap) n (flat Fa.cells (fs.set i f)) := by
  have e1 : flat Fa.cells fs = flat Fa.cells (fs.take i) ++ flat Fa.cells (fs.drop i) := by rw [← flat_append, List.take_append_drop]
  rw [e1] at h
  have h2 := own_setCells f.cells h (j := i * 3) (by rw [flat_length Fa.len, List.length_take]; congr 1; omega) (by rw [flat_length Fa.len, List.length_drop, Fa.len]; omega)
  rw [flat_set Fa.len fs i (by omega) f]
  exact h2
theorem own_faAt3 {w : World} {base e g n cap : Nat} {fs : List Fa} (h : w.ownsRow base e 3 (.slice (some ⟨g, 0, none⟩) n cap) n (flat Fa.cells fs)) (hl : fs.length = n) (i : Nat) (hi : i < n) : FaAt w g (i * 3) (fs.getD i default) := by
  rw [getD_fa fs i (by omega)]
  have hg := fun c (hc : c < 3) => flat_get Fa.len fs i c (by omega) hc
  refine ⟨?_, ?_, ?_⟩
  · rw [h.cellAt _ (by omega)]; exact hg 0 (by omega)
  · rw [h.cellAt _ (by omega)]; exact hg 1 (by omega)
  · rw [h.cellAt _ (by omega)]; exact hg 2 (by omega)
structure T3 (B g0 g1 g2 N : Nat) (wr : World) (dn : List Bool) (fs nx : List Fa) : Prop where
  d : wr.ownsRow B 4 1 (.slice (some ⟨g0, 0, none⟩) N N) N (flat BoC dn)
  f : wr.ownsRow B 40 3 (.slice (some ⟨g1, 0, none⟩) N N) N (flat Fa.cells fs)
  x : wr.ownsRow B 40 3 (.slice (some ⟨g2, 0, none⟩) N N) N (flat Fa.cells nx)
  ld : dn.length = N
  lf : fs.length = N
  lx : nx.length = N
  n01 : g0 ≠ g1
  n02 : g0 ≠ g2
  n12 : g1 ≠ g2
section
variable {B g0 g1 g2 N : Nat} {w w' : World} {dn : List Bool} {fs nx : List Fa}
theorem T3.step (h : T3 B g0 g1 g2 N w dn fs nx) (hb : Below w.heap.size w w') : T3 B g0 g1 g2 N w' dn fs nx :=
  ⟨own_below h.d hb (Nat.le_refl _), own_below h.f hb (Nat.le_refl _), own_below h.x hb (Nat.le_refl _), h.ld, h.lf, h.lx, h.n01, h.n02, h.n12⟩
theorem own_far {w w' : World} {base e s g n cap k : Nat} {xs : List Value} (h : w.ownsRow base e s (.slice (some ⟨g, 0, none⟩) n cap) n xs) (hg : w.grownBy w' (some k)) (hne : g ≠ k) : w'.ownsRow base e s (.slice (some ⟨g, 0, none⟩) n cap) n xs :=
  own_kept h hg (fun q hq e => by have h9 : some g = some q := hq; rw [← h9] at e; simp at e; exact hne e)
theorem T3.setD (h : T3 B g0 g1 g2 N w dn fs nx) (i : Nat) (b : Bool) : T3 B g0 g1 g2 N (w.setCell ⟨g0, i, none⟩ (.bool b)) (dn.set i b) fs nx := by
  have hg := (h.d.stored i (.bool b)).2
  refine ⟨?_, own_far h.f hg (fun e => h.n01 e.symm), own_far h.x hg (fun e => h.n02 e.symm), by rw [List.length_set]; exact h.ld, h.lf, h.lx, h.n01, h.n02, h.n12⟩
  have := (h.d.stored i (.bool b)).1
  rw [flat_bo] at this ⊢
  rwa [List.map_set]
theorem T3.setF (h : T3 B g0 g1 g2 N w dn fs nx) (i : Nat) (hi : i < N) (f : Fa) : T3 B g0 g1 g2 N (setCells w g1 (i * 3) f.cells) dn (fs.set i f) nx := by
  have hg := grown_setCells g1 f.cells w (i * 3)
  exact ⟨own_far h.d hg h.n01, own_faSet h.f h.lf i hi f, own_far h.x hg (fun e => h.n12 e.symm), h.ld, by rw [List.length_set]; exact h.lf, h.lx, h.n01, h.n02, h.n12⟩
theorem T3.setX (h : T3 B g0 g1 g2 N w dn fs nx) (i : Nat) (hi : i < N) (f : Fa) : T3 B g0 g1 g2 N (setCells w g2 (i * 3) f.cells) dn fs (nx.set i f) := by
  have hg := grown_setCells g2 f.cells w (i * 3)
  exact ⟨own_far h.d hg h.n02, own_far h.f hg h.n12, own_faSet h.x h.lx i hi f, h.ld, h.lf, by rw [List.length_set]; exact h.lx, h.n01, h.n02, h.n12⟩
theorem T3.dAt (h : T3 B g0 g1 g2 N w dn fs nx) (i : Nat) (hi : i < N) : w.cell? ⟨g0, i, none⟩ = some (.bool (dn.getD i false)) := by
  rw [h.d.cellAt i (by omega), flat_bo, List.getElem?_map, List.getElem?_eq_getElem (by rw [h.ld]; exact hi), List.getD_eq_getElem?_getD, List.getElem?_eq_getElem (by rw [h.ld]; exact hi)]
  rfl
theorem T3.fAt (h : T3 B g0 g1 g2 N w dn fs nx) (i : Nat) (hi : i < N) : FaAt w g1 (i * 3) (fs.getD i default) := own_faAt3 h.f h.lf i hi
theorem T3.xAt (h : T3 B g0 g1 g2 N w dn fs nx) (i : Nat) (hi : i < N) : FaAt w g2 (i * 3) (nx.getD i default) := own_faAt3 h.x h.lx i hi
/-- What may be stored to. -/
theorem T3.dS (h : T3 B g0 g1 g2 N w dn fs nx) (i : Nat) (hi : i < N) : (∃ v, w.cell? ⟨g0, i, none⟩ = some v) ∧ w.frozen? ⟨g0, i, none⟩ = false := own_cell h.d (by omega)
theorem T3.fS (h : T3 B g0 g1 g2 N w dn fs nx) (i : Nat) (hi : i < N) (c : Nat) (hc : c < 3) : (∃ v, w.cell? ⟨g1, i * 3 + c, none⟩ = some v) ∧ w.frozen? ⟨g1, i * 3 + c, none⟩ = false := own_cell h.f (by omega)
theorem T3.xS (h : T3 B g0 g1 g2 N w dn fs nx) (i : Nat) (hi : i < N) (c : Nat) (hc : c < 3) : (∃ v, w.cell? ⟨g2, i * 3 + c, none⟩ = some v) ∧ w.frozen? ⟨g2, i * 3 + c, none⟩ = false := own_cell h.x (by omega)
theorem T3.lt (h : T3 B g0 g1 g2 N w dn fs nx) : B ≤ g0 ∧ B ≤ g1 ∧ B ≤ g2 ∧ g0 < w.heap.size ∧ g1 < w.heap.size ∧ g2 < w.heap.size := ⟨(h.d.lt _ rfl).1, (h.f.lt _ rfl).1, (h.x.lt _ rfl).1, (h.d.lt _ rfl).2, (h.f.lt _ rfl).2, (h.x.lt _ rfl).2⟩
end
/-- How many are not done, by what the memory holds. -/
def undone (w : World) (g N : Nat) : Nat := (List.range N).countP fun j => match w.cell? ⟨g, j, none⟩ with | some (.bool false) => true | _ => false
theorem count_false : ∀ dn : List Bool, ((List.range dn.length).countP (fun j => !dn.getD j false) : Int) = dn.length - nT dn := by
  intro dn
  induction dn with
  | nil => rfl
  | cons b dn ih =>
    rw [List.length_cons, List.range_succ_eq_map, List.countP_cons, List.countP_map]
    have e : ((fun j => !(b :: dn).getD j false) ∘ Nat.succ) = fun j => !dn.getD j false := by funext j; simp
    rw [e]
    unfold nT at ih ⊢
    cases b <;> simp at ih ⊢ <;> omega
theorem T3.undone {B g0 g1 g2 N : Nat} {w : World} {dn : List Bool} {fs nx : List Fa} (h : T3 B g0 g1 g2 N w dn fs nx) : (undone w g0 N : Int) = N - nT dn := by
  rw [← h.ld, ← count_false]
  unfold Go.Proofs.Ytmeefmoblkiebaa.undone
  congr 1
  apply List.countP_congr
  intro j hj
  rw [List.mem_range] at hj
  rw [h.dAt j (by rw [← h.ld]; exact hj)]
  cases dn.getD j false <;> simp
theorem madeCells_fall (n : Nat) : (madeCells (Value.agg #[.int .i64 0, .int .i8 0, .int .i64 0]).cells (n * 3)).toList = flat Fa.cells (List.replicate n ⟨0, 0, 0⟩) := by
  apply List.ext_getElem?
  intro i
  by_cases h : i < n * 3
  · have h1 : i / 3 < n := by omega
    have h2 := flat_get Fa.len (List.replicate n (⟨0, 0, 0⟩ : Fa)) (i / 3) (i % 3) (by simpa using h1) (by omega)
    rw [show i / 3 * 3 + i % 3 = i by omega] at h2
    rw [h2, List.getElem_replicate]
    have h3 : i % 3 = 0 ∨ i % 3 = 1 ∨ i % 3 = 2 := by omega
    rcases h3 with e | e | e <;> (simp [madeCells, Value.cells, e, Fa.cells]; exact ⟨i, by simp [h], by rw [e]; rfl⟩)
  · have : (flat Fa.cells (List.replicate n (⟨0, 0, 0⟩ : Fa))).length ≤ i := by rw [flat_length Fa.len, List.length_replicate]; omega
    rw [List.getElem?_eq_none this, List.getElem?_eq_none (by simp [madeCells]; omega)]
theorem madeCells_bool (n : Nat) : (madeCells (Value.bool false).cells (n * 1)).toList = flat BoC (List.replicate n false) := by
  rw [flat_bo]
  apply List.ext_getElem
  · simp [madeCells]
  · intro i h1 h2
    simp [madeCells, Value.cells, Nat.mod_one]
end Go.Proofs.Ytmeefmoblkiebaa
/- The run of a board (the reference): plain laws of its inner loops. -/
namespace Go.Proofs.Ytmeefmoblkiebaa
open Go.RowKit
set_option linter.unusedVariables false
set_option linter.unusedSimpArgs false
set_option maxHeartbeats 400000
set_option maxRecDepth 100000
/-- What the search for the next piece knows of the first j. -/
def AtOk (dn : List Bool) (nx : List Fa) (j : Nat) (at_ : Int) : Prop :=
  (at_ = -1 ∧ ∀ i, i < j → dn.getD i false = false → (nx.getD i default).t < 0) ∨
  ∃ a : Nat, a < j ∧ at_ = (a : Int) ∧ dn.getD a false = false ∧ 0 ≤ (nx.getD a default).t ∧ ∀ i, i < j → dn.getD i false = false → 0 ≤ (nx.getD i default).t → (nx.getD a default).t ≤ (nx.getD i default).t
theorem AtOk.zero (dn : List Bool) (nx : List Fa) : AtOk dn nx 0 (-1) := .inl ⟨rfl, fun i hi => by omega⟩
theorem lt_succ {j i : Nat} (h : i < j + 1) : i < j ∨ i = j := Nat.lt_succ_iff_lt_or_eq.1 h
theorem AtOk.skipD {dn : List Bool} {nx : List Fa} {j : Nat} {at_ : Int} (h : AtOk dn nx j at_) (hd : dn.getD j false = true) : AtOk dn nx (j + 1) at_ := by
  rcases h with ⟨h1, h2⟩ | ⟨a, h1, h2, h3, h4, h5⟩
  · refine .inl ⟨h1, fun i hi hdi => ?_⟩
    rcases lt_succ hi with h | rfl
    · exact h2 i h hdi
    · rw [hd] at hdi; cases hdi
  · refine .inr ⟨a, by omega, h2, h3, h4, fun i hi hdi h0 => ?_⟩
    rcases lt_succ hi with h | rfl
    · exact h5 i h hdi h0
    · rw [hd] at hdi; cases hdi
theorem AtOk.skipX {dn : List Bool} {nx : List Fa} {j : Nat} {at_ : Int} (h : AtOk dn nx j at_) (hx : (nx.getD j default).t < 0) : AtOk dn nx (j + 1) at_ := by
  rcases h with ⟨h1, h2⟩ | ⟨a, h1, h2, h3, h4, h5⟩
  · refine .inl ⟨h1, fun i hi hdi => ?_⟩
    rcases lt_succ hi with h | rfl
    · exact h2 i h hdi
    · exact hx
  · refine .inr ⟨a, by omega, h2, h3, h4, fun i hi hdi h0 => ?_⟩
    rcases lt_succ hi with h | rfl
    · exact h5 i h hdi h0
    · omega
theorem AtOk.first {dn : List Bool} {nx : List Fa} {j : Nat} (h : ∀ i, i < j → dn.getD i false = false → (nx.getD i default).t < 0) (hd : dn.getD j false = false) (hx : 0 ≤ (nx.getD j default).t) : AtOk dn nx (j + 1) (j : Int) := by
  refine .inr ⟨j, by omega, rfl, hd, hx, fun i hi hdi h0 => ?_⟩
  rcases lt_succ hi with h' | rfl
  · have := h i h' hdi; omega
  · exact Int.le_refl _
theorem AtOk.less {dn : List Bool} {nx : List Fa} {j a : Nat} (h5 : ∀ i, i < j → dn.getD i false = false → 0 ≤ (nx.getD i default).t → (nx.getD a default).t ≤ (nx.getD i default).t) (hd : dn.getD j false = false) (hx : 0 ≤ (nx.getD j default).t) (hl : (nx.getD j default).t < (nx.getD a default).t) : AtOk dn nx (j + 1) (j : Int) := by
  refine .inr ⟨j, by omega, rfl, hd, hx, fun i hi hdi h0 => ?_⟩
  rcases lt_succ hi with h' | rfl
  · have := h5 i h' hdi h0; omega
  · exact Int.le_refl _
theorem AtOk.keep {dn : List Bool} {nx : List Fa} {j a : Nat} (h1 : a < j) (h3 : dn.getD a false = false) (h4 : 0 ≤ (nx.getD a default).t) (h5 : ∀ i, i < j → dn.getD i false = false → 0 ≤ (nx.getD i default).t → (nx.getD a default).t ≤ (nx.getD i default).t) (hl : ¬ (nx.getD j default).t < (nx.getD a default).t) : AtOk dn nx (j + 1) (a : Int) := by
  refine .inr ⟨a, by omega, rfl, h3, h4, fun i hi hdi h0 => ?_⟩
  rcases lt_succ hi with h' | rfl
  · exact h5 i h' hdi h0
  · omega
/-- From which sides hits come. -/
theorem due_side (ps : List Pc) (pl : List Pu) (fs : List Fa) (hp : ∀ p ∈ pl, 0 ≤ p.s ∧ p.s ≤ 3) (i : Nat) (m : Ht) (hm : m ∈ dueC ps pl fs i) : 0 ≤ m.2.1 ∧ m.2.1 ≤ 3 := by
  rw [cand_mem] at hm
  rcases hm.2 with h1 | ⟨s, hs, h1⟩
  · unfold candP at h1
    rw [List.mem_filterMap] at h1
    obtain ⟨p, hpm, h1⟩ := h1
    split at h1
    · simp only [Option.some.injEq] at h1
      rw [← h1]; exact hp p hpm
    · cases h1
  · unfold candN1 at h1
    simp only at h1
    split at h1
    · simp only [Option.some.injEq] at h1
      rw [← h1]; simp only; omega
    · cases h1
theorem due_can (ps : List Pc) (pl : List Pu) (fs : List Fa) (i : Nat) (m : Ht) (hm : m ∈ dueC ps pl fs i) : 0 ≤ hitsV (ps.getD i default).k (ps.getD i default).t m.2.1 := by
  rw [cand_mem] at hm
  have := hm.1
  unfold canH at this
  exact of_decide_eq_true this
/-- The piece that falls next. -/
theorem RunS.pick {ps : List Pc} {pl : List Pu} {dn : List Bool} {fs nx : List Fa} (G : Good ps pl) (hp : ∀ p ∈ pl, 0 ≤ p.s ∧ p.s ≤ 3) (h : RunS ps pl dn fs nx) (hlen : ps.length ≤ 200) (a : Nat) (ha : a < ps.length) (h0 : 0 ≤ (nx.getD a default).t) :
    0 ≤ hitsV (ps.getD a default).k (ps.getD a default).t (nx.getD a default).f ∧ 0 ≤ (nx.getD a default).f ∧ (nx.getD a default).f ≤ 3 ∧ (nx.getD a default).t ≤ 3000 := by
  obtain ⟨o, e, hL⟩ := h.best a ha
  cases o with
  | none => rw [e] at h0; have e4 : (0 : Int) ≤ -1 := h0; omega
  | some m =>
    rw [e]
    have h1 := due_side ps pl fs hp a m hL.1
    have h2 := due_can ps pl fs a m hL.1
    refine ⟨h2, h1.1, h1.2, ?_⟩
    have h3 := (h.nlow G a ha).2
    rw [e] at h3
    have h4 := nT_le dn
    rw [h.ld] at h4
    have h5 : m.1 ≤ 1009 + 9 * nT dn := h3
    show m.1 ≤ 3000
    omega
theorem RunS.max {ps : List Pc} {pl : List Pu} {dn : List Bool} {fs nx : List Fa} (h : RunS ps pl dn fs nx) (hlen : ps.length ≤ 200) (i : Nat) (hi : i < ps.length) : (fs.getD i default).t ≤ 3000 := by
  have h1 := h.top i hi
  have h4 := nT_le dn
  rw [h.ld] at h4
  omega
/-- What comes next of a piece that is not done. -/
theorem SideS.bd {ps : List Pc} {pl : List Pu} {dn : List Bool} {fs nx nx' : List Fa} {a s : Nat} (G : Good ps pl) (hp : ∀ p ∈ pl, 0 ≤ p.s ∧ p.s ≤ 3) (h0 : RunS ps pl dn fs nx) (ha : a < ps.length) (hta : 0 ≤ (nx.getD a default).t) (k : Nat) (o : Option Ht)
    (hL : Least (fun m => m ∈ dueC ps pl fs k ∨ ∃ s', s' < s ∧ newC ps a (nx.getD a default) s' k m) o) (m : Ht) (hm : o = some m) : 0 ≤ m.1 ∧ I8 m.2.1 := by
  subst hm
  rcases hL.1 with h1 | ⟨s', hs', h1⟩
  · have h2 := due_low ps pl fs h0.lf G.t0 G.d1 h0.low k m h1
    have h3 := due_side ps pl fs hp k m h1
    exact ⟨h2, by constructor <;> omega⟩
  · have h2 := G.d1 a ha
    rw [h1.2.2.2]
    refine ⟨?_, ?_, ?_⟩ <;> simp only <;> omega
theorem SideS.skipBit {ps : List Pc} {pl : List Pu} {dn : List Bool} {fs nx nx' : List Fa} {a s : Nat} (h : SideS ps pl dn fs nx a s nx') (hb : ¬ max (hitsV (ps.getD a default).k (ps.getD a default).t (nx.getD a default).f) 0 / 2 ^ s % 2 = 1) : SideS ps pl dn fs nx a (s + 1) nx' :=
  h.skip fun i m hi hd hc => hb hc.1
theorem SideS.skipNone {ps : List Pc} {pl : List Pu} {dn : List Bool} {fs nx nx' : List Fa} {a s : Nat} (h : SideS ps pl dn fs nx a s nx') (hb : fnd (nxt (ps.getD a default).at_ (s : Int)) ps < 0) : SideS ps pl dn fs nx a (s + 1) nx' :=
  h.skip fun i m hi hd hc => by have := hc.2.1; omega
theorem SideS.skipDone {ps : List Pc} {pl : List Pu} {dn : List Bool} {fs nx nx' : List Fa} {a s k : Nat} (h : SideS ps pl dn fs nx a s nx') (hf : fnd (nxt (ps.getD a default).at_ (s : Int)) ps = (k : Int)) (hd : (dn.set a true).getD k false = true) : SideS ps pl dn fs nx a (s + 1) nx' :=
  h.skip fun i m hi hdi hc => by
    have e := hc.2.1
    rw [hf] at e
    have : k = i := by omega
    subst this
    rw [hd] at hdi; cases hdi
theorem SideS.skipCan {ps : List Pc} {pl : List Pu} {dn : List Bool} {fs nx nx' : List Fa} {a s k : Nat} (h : SideS ps pl dn fs nx a s nx') (hf : fnd (nxt (ps.getD a default).at_ (s : Int)) ps = (k : Int)) (hc : ¬ 0 ≤ hitsV (ps.getD k default).k (ps.getD k default).t (((s : Int) + 2) % 4)) : SideS ps pl dn fs nx a (s + 1) nx' :=
  h.skip fun i m hi hdi hn => by
    have e := hn.2.1
    rw [hf] at e
    have : k = i := by omega
    subst this
    have h1 := hn.2.2.1
    rw [hn.2.2.2] at h1
    unfold canH at h1
    exact hc (of_decide_eq_true h1)
end Go.Proofs.Ytmeefmoblkiebaa
/- Contracts: the reference's run. -/
namespace Go.Proofs.Ytmeefmoblkiebaa
open Go.RowKit
set_option linter.unusedVariables false
set_option linter.unusedSimpArgs false
set_option maxHeartbeats 400000
set_option maxRecDepth 100000
theorem run_make_bool (n : Nat) (hn : n ≤ 100000) (w : World) : (Instr.makeSlice 74 (.int .i64 (n : Int)) (.int .i64 (n : Int))).run Try.prog w = .ok (.slice (some ⟨w.heap.size, 0, none⟩) n n) (w.alloc (.cells (madeCells (Value.bool false).cells (n * 1)) 4)) := by
  have hb : (Try.prog.info? 4).map (fun i => (i.zero, i.size, i.bytes)) = some (some (.bool false), 1, 1) := by kernel_rfl
  obtain ⟨i0, hi, hz0, hz1, hz2⟩ := info_parts hb
  have h := run_make (P := Try.prog) w 74 4 i0 (.bool false) Try.underlying74 hi hz0 .i64 .i64 n n (by omega) (by omega) (by rw [hz2]; omega) (by omega)
  rw [hz1] at h
  simpa using h
theorem run_make_fall (n : Nat) (hn : n ≤ 100000) (w : World) : (Instr.makeSlice 31 (.int .i64 (n : Int)) (.int .i64 (n : Int))).run Try.prog w = .ok (.slice (some ⟨w.heap.size, 0, none⟩) n n) (w.alloc (.cells (madeCells (Value.agg #[.int .i64 0, .int .i8 0, .int .i64 0]).cells (n * 3)) 40)) := by
  obtain ⟨i0, hi, hz0, hz1, hz2⟩ := info_parts Try.infoFall
  have h := run_make (P := Try.prog) w 31 40 i0 _ Try.underlying31 hi hz0 .i64 .i64 n n (by omega) (by omega) (by rw [hz2]; omega) (by omega)
  rw [hz1] at h
  simpa using h
theorem good_bd (l : Bd) (hv : vBd l = true) (pl : List Pu) (hpl : pl.all plainPu = true) : Good l.ps pl := by
  have hnd : (l.ps.map Pc.at_).Nodup := by
    have h9 := hv
    unfold vBd at h9
    simp only [Bool.and_eq_true, decide_eq_true_eq] at h9
    exact h9.2
  have hp : ∀ p ∈ pl, 0 ≤ p.t ∧ p.t ≤ 1000 := by
    intro p hp
    rw [List.all_eq_true] at hpl
    have := hpl p hp
    unfold plainPu inB at this
    simp only [Bool.and_eq_true, decide_eq_true_eq] at this
    exact this.2
  refine ⟨hnd, fun k hk => ?_, fun k hk => ?_, fun k hk => ?_, fun p h => (hp p h).1, fun p h => (hp p h).2⟩
  · rw [getD_pc l.ps k hk]
    have hc : 0 ≤ l.ps[k].x ∧ l.ps[k].x < 24 ∧ 0 ≤ l.ps[k].y ∧ l.ps[k].y < 24 := by
      obtain ⟨c1, c2, c3, c4, -⟩ := vBd_bounds l hv
      unfold vBd at hv
      simp only [Bool.and_eq_true] at hv
      have := hv.1.2
      rw [List.all_eq_true] at this
      have h5 := this _ (List.getElem_mem hk)
      simp only [Bool.and_eq_true] at h5
      have h6 := h5.2
      unfold cIn inB Pc.at_ at h6
      simp only [Bool.and_eq_true, decide_eq_true_eq] at h6
      omega
    constructor <;> constructor <;> simp only [Pc.at_] <;> omega
  · rw [getD_pc l.ps k hk]; exact (vBd_piece2 l hv k hk).2.2.2.2.1
  · rw [getD_pc l.ps k hk]; exact (vBd_piece2 l hv k hk).2.2.2.2.2
theorem oP_bd (ps : List Pc) (pl : List Pu) (i : Nat) (h : pl.all plainPu = true) (m : Ht) (hm : oP ps pl i = some m) : 0 ≤ m.1 ∧ I8 m.2.1 := by
  have h1 := bestH_mem _ m hm
  unfold dueL at h1
  rw [List.mem_filter, List.mem_append] at h1
  obtain ⟨h1 | h1, -⟩ := h1
  · unfold candP at h1
    rw [List.mem_filterMap] at h1
    obtain ⟨p, hp, hx⟩ := h1
    rw [List.all_eq_true] at h
    have h2 := h p hp
    unfold plainPu inB at h2
    simp only [Bool.and_eq_true, decide_eq_true_eq] at h2
    split at hx
    · simp only [Option.some.injEq] at hx
      rw [← hx]; exact ⟨h2.2.1, by constructor <;> simp only <;> omega⟩
    · cases hx
  · cases h1
theorem wrap8_side' (n : Int) (h0 : 0 ≤ n) (h3 : n ≤ 3) : IntKind.i8.wrap n = n := by
  have : n = 0 ∨ n = 1 ∨ n = 2 ∨ n = 3 := by omega
  rcases this with rfl | rfl | rfl | rfl <;> rfl
theorem set_same (xs : List Fa) (k : Nat) (h : k < xs.length) (x : Fa) (hx : xs.getD k default = x) : xs.set k x = xs := by
  rw [← hx, getD_fa xs k h, List.set_getElem_self]
theorem all_take2 {α : Type} (q : α → Bool) (xs : List α) (k : Nat) (h : xs.all q = true) : (xs.take k).all q = true := by
  rw [List.all_eq_true] at *
  exact fun x hx => h x (List.mem_of_mem_take hx)
set_option maxHeartbeats 3200000 in
theorem l02Run_any {B : Nat} (b0 : Nat) (l : Bd) (a : Option Addr) (cap : Nat) (pl : List Pu) (w : World) (hbp : BP w b0 l) (hv : vBd l = true) (h : SlAt B w a (flat Pu.cells pl)) (hok : PusOk pl) (hpl : pl.all plainPu = true) (hin : pl.all (fun p => decide (0 ≤ fnd ⟨p.x, p.y⟩ l.ps)) = true) (hn : pl.length ≤ 20) (hB : B ≤ w.heap.size) :
    Calls Try.prog 17 #[.pointer (some ⟨b0, 0, none⟩), .slice a pl.length cap] w fun e w' => ∃ v fs, e = .returned v ∧ w'.ownsRow w.heap.size 40 3 v fs.length (flat Fa.cells fs) ∧ okFa l.ps pl fs ∧ (∀ i, i < l.ps.length → (fs.getD i default).t ≤ 3000) ∧ Below w.heap.size w w' := by
  have HBP := Lib.hid hbp
  obtain ⟨hbl, sv, hbd, sa, scap, rfl, hps⟩ := hbp
  unfold BdAt at hbd
  obtain ⟨-, -, -, -, c5⟩ := vBd_bounds l hv
  have HG := Lib.hid (good_bd l hv pl hpl)
  have HPL := Lib.hid hpl
  have HIN := Lib.hid hin
  clear hpl hin
  have hmkB := run_make_bool l.ps.length (by omega)
  have hmkF := run_make_fall l.ps.length (by omega)
  obtain ⟨AB, hAB⟩ : ∃ A : Array Value, A = madeCells (Value.bool false).cells (l.ps.length * 1) := ⟨_, rfl⟩
  obtain ⟨AF, hAF⟩ : ∃ A : Array Value, A = madeCells (Value.agg #[.int .i64 0, .int .i8 0, .int .i64 0]).cells (l.ps.length * 3) := ⟨_, rfl⟩
  have HABs := Lib.hid (show AB.size = l.ps.length * 1 by rw [hAB]; exact size_madeCells _ _)
  have HAFs := Lib.hid (show AF.size = l.ps.length * 3 by rw [hAF]; exact size_madeCells _ _)
  have HABl := Lib.hid (show AB.toList = flat BoC (List.replicate l.ps.length false) by rw [hAB]; exact madeCells_bool _)
  have HAFl := Lib.hid (show AF.toList = flat Fa.cells (List.replicate l.ps.length ⟨0, 0, 0⟩) by rw [hAF]; exact madeCells_fall _)
  rw [← hAB] at hmkB
  rw [← hAF] at hmkF
  clear hAB hAF
  go_enter Try.func17, Try.ntmps17
  go_wp2
  have od := World.ownsRow_lit (base := w.heap.size) (e := 4) (size := 1) w AB l.ps.length (Nat.le_refl _) (by unfold maxLen; omega) HABs.out
  have of_ := World.ownsRow_lit (base := w.heap.size) (e := 40) (size := 3) (w.alloc (.cells AB 4)) AF l.ps.length (by simp) (by unfold maxLen; omega) HAFs.out
  have ox := World.ownsRow_lit (base := w.heap.size) (e := 40) (size := 3) ((w.alloc (.cells AB 4)).alloc (.cells AF 40)) AF l.ps.length (by simp; omega) (by unfold maxLen; omega) HAFs.out
  rw [HABl.out] at od
  rw [HAFl.out] at of_ ox
  simp only [World.size_alloc] at of_ ox
  have h0 : T3 w.heap.size w.heap.size (w.heap.size + 1) (w.heap.size + 1 + 1) l.ps.length (((w.alloc (.cells AB 4)).alloc (.cells AF 40)).alloc (.cells AF 40)) (List.replicate l.ps.length false) (List.replicate l.ps.length ⟨0, 0, 0⟩) (List.replicate l.ps.length ⟨0, 0, 0⟩) :=
    ⟨own_below od (bl_alloc (bl_alloc (Below.refl _ _))) (Nat.le_refl _), own_below of_ (bl_alloc (Below.refl _ _)) (Nat.le_refl _), ox, by simp, by simp, by simp, by omega, by omega, by omega⟩
  have hb0 : Below w.heap.size w (((w.alloc (.cells AB 4)).alloc (.cells AF 40)).alloc (.cells AF 40)) := (by repeat (first | with_reducible exact Below.refl _ _ | with_reducible assumption | with_reducible apply bl_drewN | with_reducible apply bl_drew | with_reducible apply bl_alloc | (with_reducible refine bl_set ?_ (by first | (simp; done) | (simp; omega)) _) | with_reducible refine bl_trans ?_ (by with_reducible assumption)))
  clear od of_ ox hmkB hmkF
  obtain ⟨W, hW⟩ : ∃ W, W = ((w.alloc (.cells AB 4)).alloc (.cells AF 40)).alloc (.cells AF 40) := ⟨_, rfl⟩
  rw [← hW] at h0 hb0 ⊢
  clear hW
  obtain ⟨g0, hg0⟩ : ∃ g, g = w.heap.size := ⟨_, rfl⟩
  obtain ⟨g1, hg1⟩ : ∃ g, g = w.heap.size + 1 := ⟨_, rfl⟩
  obtain ⟨g2, hg2⟩ : ∃ g, g = w.heap.size + 1 + 1 := ⟨_, rfl⟩
  have h1 : T3 w.heap.size g0 g1 g2 l.ps.length W (List.replicate l.ps.length false) (List.replicate l.ps.length ⟨0, 0, 0⟩) (List.replicate l.ps.length ⟨0, 0, 0⟩) := by rw [hg0, hg1, hg2]; exact h0
  rw [← hg2, ← hg1, ← hg0]
  have hw01 : w.heap.size ≤ g0 := by omega
  have hw02 : g0 ≤ w.heap.size := by omega
  clear h0 hg0 hg1 hg2
  go_loopw [9] (fun ix wr => ∃ j : Nat, j ≤ l.ps.length ∧ ix = .int .i64 j ∧ T3 w.heap.size g0 g1 g2 l.ps.length wr (List.replicate l.ps.length false) (List.replicate j (faOf none) ++ List.replicate (l.ps.length - j) ⟨0, 0, 0⟩) (List.replicate j (faOf none) ++ List.replicate (l.ps.length - j) ⟨0, 0, 0⟩) ∧ Below w.heap.size w wr) (fun ix _ => l.ps.length - (intOf ix).toNat)
  case atStart => exact ⟨0, by omega, rfl, by simpa using h1, hb0⟩
  case round =>
    clear h1 hb0
    obtain ⟨j, hj, rfl, h1, hb⟩ := hrel
    by_cases hlt : j < l.ps.length
    · have hjl : (j : Int) < l.ps.length := by omega
      obtain ⟨hl0, hl1, hl2, -, -, -⟩ := h1.lt
      go_wp2_with fail
      refine (l02None_any _).mono ?_
      rintro e w2 ⟨rfl, hb2⟩
      have H2 := Lib.hid (h1.step hb2)
      have hb02 := bl_trans hb hb2
      have HB02 := Lib.hid hb02
      have k0 := H2.out.fS j hlt 0 (by omega)
      rw [Nat.add_zero] at k0
      obtain ⟨⟨v0, c0⟩, f0⟩ := k0
      obtain ⟨⟨v1, c1⟩, f1⟩ := H2.out.fS j hlt 1 (by omega)
      obtain ⟨⟨v2, c2⟩, f2⟩ := H2.out.fS j hlt 2 (by omega)
      clear h1 hb hb2 hb02
      go_wp2_with fail
      refine (l02None_any _).mono ?_
      rintro e w3 ⟨rfl, hb3⟩
      have h3 := (H2.out.setF j hlt (faOf none)).step hb3
      rw [rep_set l.ps.length j hlt] at h3
      have hb03 : Below w.heap.size w w3 := bl_trans (bl_grown HB02.out (grown_setCells g1 (faOf none).cells w2 (j * 3)) (fun q hq => by cases hq; exact hl1)) hb3
      have H3 := Lib.hid h3
      have HB03 := Lib.hid hb03
      clear c0 c1 c2 f0 f1 f2 h3 hb03 hb3
      have k0 := H3.out.xS j hlt 0 (by omega)
      rw [Nat.add_zero] at k0
      obtain ⟨⟨v0, c0⟩, f0⟩ := k0
      obtain ⟨⟨v1, c1⟩, f1⟩ := H3.out.xS j hlt 1 (by omega)
      obtain ⟨⟨v2, c2⟩, f2⟩ := H3.out.xS j hlt 2 (by omega)
      go_wp2
      have h4 := H3.out.setX j hlt (faOf none)
      rw [rep_set l.ps.length j hlt] at h4
      have hb04 : Below w.heap.size w (setCells w3 g2 (j * 3) (faOf none).cells) := bl_grown HB03.out (grown_setCells g2 (faOf none).cells w3 (j * 3)) (fun q hq => by cases hq; exact hl2)
      clear c0 c1 c2 f0 f1 f2
      go_roundw
      case rel => exact ⟨j + 1, by omega, by go_num, h4, hb04⟩
      case measure => simp [intOf]; omega
    · have hjn : j = l.ps.length := by omega
      subst hjn
      rw [Nat.sub_self, List.replicate_zero, List.append_nil] at h1
      obtain ⟨W1, hW1⟩ : ∃ W1, W1 = wr := ⟨_, rfl⟩
      subst hW1
      go_wp2
      go_loopw [10] (fun ix wr => ∃ k : Nat, k ≤ pl.length ∧ ix = .int .i64 k ∧ T3 w.heap.size g0 g1 g2 l.ps.length wr (List.replicate l.ps.length false) (List.replicate l.ps.length (faOf none)) (nxP l.ps (pl.take k)) ∧ Below w.heap.size w wr) (fun ix _ => pl.length - (intOf ix).toNat)
      case atStart => exact ⟨0, by omega, rfl, by rw [List.take_zero, nxP_nil]; exact h1, hb⟩
      case round =>
        clear h1 hb
        obtain ⟨k, hk, rfl, h1, hb⟩ := hrel
        by_cases hlt : k < pl.length
        · obtain ⟨b, off, rfl, hbl2, hat⟩ := pus_get (h.below hb hB) hlt
          have hplj : plainPu pl[k] = true := by
            have := HPL.out
            rw [List.all_eq_true] at this
            exact this _ (List.getElem_mem hlt)
          unfold plainPu inB at hplj
          simp only [Bool.and_eq_true, decide_eq_true_eq] at hplj
          obtain ⟨⟨e1, e2⟩, e3, e4⟩ := hplj
          have hfin : 0 ≤ fnd ⟨pl[k].x, pl[k].y⟩ l.ps := by
            have := HIN.out
            rw [List.all_eq_true] at this
            simpa using this _ (List.getElem_mem hlt)
          have hkl := fnd_lt _ _ hfin
          obtain ⟨kn, hkn⟩ : ∃ kn : Nat, fnd ⟨pl[k].x, pl[k].y⟩ l.ps = (kn : Int) := ⟨(fnd ⟨pl[k].x, pl[k].y⟩ l.ps).toNat, by omega⟩
          rw [hkn, Int.toNat_natCast] at hkl
          have hgk := getD_pc l.ps kn hkl
          have htk : pl.take (k + 1) = pl.take k ++ [pl[k]] := List.take_succ_eq_append_getElem hlt
          have HP := Lib.hid (show nxP l.ps (pl.take (k + 1)) = _ from by rw [htk, nxP_push l.ps (pl.take k) pl[k] HG.out.nd kn hkl hkn])
          rw [hgk] at HP
          have hom := oP_bd l.ps (pl.take k) kn (all_take2 _ _ _ HPL.out)
          have hng := nxP_get l.ps (pl.take k) kn hkl
          obtain ⟨o, ho⟩ : ∃ o, o = oP l.ps (pl.take k) kn := ⟨_, rfl⟩
          rw [← ho] at HP hom hng
          clear ho htk hfin
          have s1 : IntKind.i64.wrap pl[k].s = pl[k].s := by rw [IntKind.wrap_i64]; omega
          have s2 : IntKind.i64.wrap pl[k].t = pl[k].t := by rw [IntKind.wrap_i64]; omega
          unfold PuAt at hat
          obtain ⟨bp, offp, hsa, hbp2, hatp⟩ := pcs_get hps hkl
          cases hsa
          obtain ⟨k1, k2, k3, k4, k5, k6⟩ := vBd_piece2 l hv kn hkl
          have HF := Lib.hid (l01Find_any b0 l ⟨pl[k].x, pl[k].y⟩ wr (HBP.out.step hb) (by omega))
          rw [hkn] at HF
          have hknl : (kn : Int) < l.ps.length := by omega
          obtain ⟨hl0, hl1, hl2, hm0, hm1, hm2⟩ := h1.lt
          clear hkn
          go_wp2_with fail
          refine HF.out.mono ?_
          rintro e w2 ⟨rfl, hb2⟩
          have H2 := Lib.hid (h1.step hb2)
          have hb02 := bl_trans hb hb2
          have HB02 := Lib.hid hb02
          have hz2 := hb2.size
          have hbw : b < w2.heap.size := by have := hb.size; omega
          have hbpw : bp < w2.heap.size := by have := hb02.size; omega
          have hb0w : b0 < w2.heap.size := by have := hb02.size; omega
          have hg2w : g2 < w2.heap.size := by omega
          have q1 : w2.cell? ⟨b, off + k * 4 + 2, none⟩ = some (.int .i8 pl[k].s) := by rw [hb2.cell (p := ⟨_, _, none⟩) (show b < wr.heap.size by have := hb.size; omega)]; exact hat.2.2.1
          have q2 : w2.cell? ⟨b, off + k * 4 + 3, none⟩ = some (.int .i16 pl[k].t) := by rw [hb2.cell (p := ⟨_, _, none⟩) (show b < wr.heap.size by have := hb.size; omega)]; exact hat.2.2.2
          have q3 : w2.cell? ⟨b0, 2, none⟩ = some (.slice (some ⟨bp, offp, none⟩) l.ps.length scap) := by rw [hb02.cell (p := ⟨_, _, none⟩) hbl]; exact hbd.2.2
          have HATP := Lib.hid (fun (w' : World) (h' : Below w.heap.size w w') => hatp.step h' hbp2)
          have HNG := Lib.hid hng
          have hHH : ∀ u : Ext w2, Calls Try.prog 36 #[.pointer (some ⟨bp, offp + kn * 5, none⟩), .int .i64 pl[k].s] u.w fun e w' => e = .returned (.int .i64 (hitsV l.ps[kn].k l.ps[kn].t pl[k].s)) ∧ Below u.w.heap.size u.w w' := fun u =>
            l01Hits_any l.ps[kn].x l.ps[kn].y l.ps[kn].k l.ps[kn].t l.ps[kn].d pl[k].s u.w bp (offp + kn * 5) (HATP.out _ (bl_trans HB02.out u.b)) (by have := u.b.size; omega) k1 k2 k3 k4 e1 e2
          have hHB : ∀ u : Ext w2, Calls Try.prog 37 #[.int .i64 pl[k].t, .int .i64 pl[k].s, .int .i64 (-1), .pointer (some ⟨g2, kn * 3, none⟩)] u.w fun e w' => e = .returned (.bool (betterV (pl[k].t, pl[k].s, -1) o)) ∧ u.w = w' := fun u =>
            l02Better_any pl[k].t pl[k].s (-1) g2 (kn * 3) o u.w (by have h9 := (H2.out.step u.b).xAt kn hkl; rw [hng] at h9; exact h9) hom
          generalize hitsV l.ps[kn].k l.ps[kn].t pl[k].s = hv' at hHH HP
          have HH := Lib.hid hHH
          clear hHH h1 hb hb2 hb02 hat hatp hng hom
          rcases dec_cases (0 ≤ hv') with ⟨c2, c2'⟩ | ⟨c2, c2'⟩
          · rw [if_pos c2'] at HP
            clear c2'
            rcases Bool.eq_false_or_eq_true (betterV (pl[k].t, pl[k].s, -1) o) with c3 | c3
            · rw [c3] at hHB
              have HBt := Lib.hid hHB
              rw [stepH_yes o _ c3] at HP
              clear hHB c3
              go_wp2
              (refine wp_region_ext (by kernel_rfl) (by kernel_rfl) ?_; have hX := @ext_cell; (repeat (go_big_quiet_step (first | (go_at_call 36; exact ext_call (HH.out _)) | (go_at_call 37; exact ext_same (HBt.out _))))); refine wpQuiet_nil ?_; clear hX; intro wx hw'; obtain ⟨⟨wx, hbx⟩, rfl⟩ := hw'; obtain ⟨hcx, hfx⟩ := bcell hbx)
              have r0 : wx.cell? ⟨b, off + k * 4 + 2, none⟩ = some (.int .i8 pl[k].s) := by rw [hbx.cell (p := ⟨_, _, none⟩) hbw]; exact q1
              have r1 : wx.cell? ⟨b, off + k * 4 + 3, none⟩ = some (.int .i16 pl[k].t) := by rw [hbx.cell (p := ⟨_, _, none⟩) hbw]; exact q2
              have H3 := Lib.hid ((H2.out.step hbx).step (bl_drew (Below.refl _ _)))
              have HB03 := Lib.hid (bl_drew (bl_trans HB02.out hbx))
              clear q1 q2 q3 hcx hfx
              go_upto_region 16 with fail
              go_still_tail 15, (by kernel_rfl)
              change wpList _ _ _ _ _ wx.drew
              obtain ⟨wy, hwy⟩ : ∃ wy, wy = wx.drew := ⟨_, rfl⟩
              rw [← hwy] at H3 HB03 ⊢
              clear hwy
              have k0 := H3.out.xS kn hkl 0 (by omega)
              rw [Nat.add_zero] at k0
              obtain ⟨⟨v0, c0⟩, f0⟩ := k0
              obtain ⟨⟨v1, c1⟩, f1⟩ := H3.out.xS kn hkl 1 (by omega)
              obtain ⟨⟨v2, c2⟩, f2⟩ := H3.out.xS kn hkl 2 (by omega)
              go_wp2
              have h4 := H3.out.setX kn hkl (faOf (some (pl[k].t, pl[k].s, -1)))
              have hb04 : Below w.heap.size w (setCells wy g2 (kn * 3) (faOf (some (pl[k].t, pl[k].s, -1))).cells) := bl_grown HB03.out (grown_setCells g2 _ wy (kn * 3)) (fun q hq => by cases hq; exact hl2)
              clear c0 c1 c2 f0 f1 f2 r0 r1
              go_roundw
              case rel => exact ⟨k + 1, by omega, by go_num, by rw [HP.out]; exact h4, hb04⟩
              case measure => simp [intOf]; omega
            · rw [c3] at hHB
              have HBt := Lib.hid hHB
              rw [stepH_no o _ c3, set_same _ kn (by rw [nxP_len]; exact hkl) _ HNG.out] at HP
              clear hHB c3
              go_wp2
              (refine wp_region_ext (by kernel_rfl) (by kernel_rfl) ?_; have hX := @ext_cell; (repeat (go_big_quiet_step (first | (go_at_call 36; exact ext_call (HH.out _)) | (go_at_call 37; exact ext_same (HBt.out _))))); refine wpQuiet_nil ?_; clear hX; intro wx hw'; obtain ⟨⟨wx, hbx⟩, rfl⟩ := hw'; obtain ⟨hcx, hfx⟩ := bcell hbx)
              go_wp2
              go_roundw
              case rel => exact ⟨k + 1, by omega, by go_num, by rw [HP.out]; exact H2.out.step hbx, bl_trans HB02.out hbx⟩
              case measure => simp [intOf]; omega
          · rw [if_neg c2'] at HP
            clear c2' hHB
            go_wp2
            (refine wp_region_ext (by kernel_rfl) (by kernel_rfl) ?_; have hX := @ext_cell; (repeat (go_big_quiet_step ((go_at_call 36; exact ext_call (HH.out _))))); refine wpQuiet_nil ?_; clear hX; intro wx hw'; obtain ⟨⟨wx, hbx⟩, rfl⟩ := hw'; obtain ⟨hcx, hfx⟩ := bcell hbx)
            go_wp2
            go_roundw
            case rel => exact ⟨k + 1, by omega, by go_num, by rw [HP.out]; exact H2.out.step hbx, bl_trans HB02.out hbx⟩
            case measure => simp [intOf]; omega
        · have hkn : k = pl.length := by omega
          subst hkn
          -- LOOP3
          rw [List.take_length] at h1
          have HRS := Lib.hid (RunS.start l.ps pl)
          have HSD : Hid (∀ p ∈ pl, 0 ≤ p.s ∧ p.s ≤ 3) := Lib.hid (fun p hp => by
            have := HPL.out
            rw [List.all_eq_true] at this
            have h9 := this p hp
            unfold plainPu inB at h9
            simp only [Bool.and_eq_true, decide_eq_true_eq] at h9
            exact h9.1)
          go_wp2
          go_loopw [] (fun wr => ∃ dn fs nx, T3 w.heap.size g0 g1 g2 l.ps.length wr dn fs nx ∧ Hid (RunS l.ps pl dn fs nx) ∧ Below w.heap.size w wr) (fun wr => undone wr g0 l.ps.length)
          case atStart => exact ⟨_, _, _, h1, HRS, hb⟩
          case round =>
            clear h1 HRS hb
            obtain ⟨dn, fs, nx, h1, HRS, hb⟩ := hrel
            obtain ⟨hl0, hl1, hl2, hm0, hm1, hm2⟩ := h1.lt
            have n01 := h1.n01
            have n02 := h1.n02
            have n12 := h1.n12
            have HT := Lib.hid h1
            clear h1
            obtain ⟨W3, hW3⟩ : ∃ W3, W3 = wr := ⟨_, rfl⟩
            subst hW3
            go_wp2
            go_loopw [13, 14] (fun atv ix wq => ∃ j : Nat, ∃ at_ : Int, j ≤ l.ps.length ∧ ix = .int .i64 j ∧ atv = .int .i64 at_ ∧ Hid (AtOk dn nx j at_) ∧ Below W3.heap.size W3 wq) (fun _ ix _ => l.ps.length - (intOf ix).toNat)
            case atStart => exact ⟨0, -1, by omega, rfl, rfl, Lib.hid (AtOk.zero dn nx), Below.refl _ _⟩
            case round =>
              obtain ⟨j, at_, hj, rfl, rfl, hat, hbq⟩ := hrel
              have hzq := hbq.size
              have p0 : g0 < wr.heap.size := by omega
              have p1 : g1 < wr.heap.size := by omega
              have p2 : g2 < wr.heap.size := by omega
              by_cases hlt : j < l.ps.length
              · have hT := HT.out.step hbq
                have d0 := hT.dAt j hlt
                obtain ⟨x0, -, -⟩ := hT.xAt j hlt
                have hjl : (j : Int) < l.ps.length := by omega
                cases hd : dn.getD j false with
                | true =>
                  rw [hd] at d0
                  have HN := Lib.hid (hat.out.skipD hd)
                  clear hd hT x0
                  go_wp2
                  (refine wp_region_ext (by kernel_rfl) (by kernel_rfl) ?_; have hX := @ext_cell; (repeat (go_big_quiet_step (fail))); refine wpQuiet_nil ?_; clear hX; intro wx hw'; obtain ⟨⟨wx, hbx⟩, rfl⟩ := hw'; obtain ⟨hcx, hfx⟩ := bcell hbx)
                  go_wp2
                  go_roundw
                  case rel => exact ⟨j + 1, at_, by omega, by go_num, rfl, HN, bl_trans hbq hbx⟩
                  case measure => simp [intOf]; omega

                | false =>
                  rw [hd] at d0
                  by_cases hx : (nx.getD j default).t < 0
                  · have HN := Lib.hid (hat.out.skipX hx)
                    have hd1 : decide (0 ≤ (nx.getD j default).t) = false := decide_eq_false (by omega)
                    generalize (nx.getD j default).t = xt at x0 hx hd1
                    clear hd hT
                    go_wp2
                    (refine wp_region_ext (by kernel_rfl) (by kernel_rfl) ?_; have hX := @ext_cell; (repeat (go_big_quiet_step (fail))); refine wpQuiet_nil ?_; clear hX; intro wx hw'; obtain ⟨⟨wx, hbx⟩, rfl⟩ := hw'; obtain ⟨hcx, hfx⟩ := bcell hbx)
                    go_wp2
                    go_roundw
                    case rel => exact ⟨j + 1, at_, by omega, by go_num, rfl, HN, bl_trans hbq hbx⟩
                    case measure => simp [intOf]; omega

                  · have hd1 : decide (0 ≤ (nx.getD j default).t) = true := decide_eq_true (by omega)
                    rcases hat.out with ⟨e1, e2⟩ | ⟨a, e1, e2, e3, e4, e5⟩
                    · subst e1
                      have HN := Lib.hid (AtOk.first e2 hd (by omega))
                      generalize (nx.getD j default).t = xt at x0 hx hd1
                      clear hd hT hat e2
                      go_wp2
                      (refine wp_region_ext (by kernel_rfl) (by kernel_rfl) ?_; have hX := @ext_cell; (repeat (go_big_quiet_step (fail))); refine wpQuiet_nil ?_; clear hX; intro wx hw'; obtain ⟨⟨wx, hbx⟩, rfl⟩ := hw'; obtain ⟨hcx, hfx⟩ := bcell hbx)
                      go_wp2
                      go_roundw
                      case rel => exact ⟨j + 1, (j : Int), by omega, by go_num, rfl, HN, bl_trans hbq hbx⟩
                      case measure => simp [intOf]; omega

                    · subst e2
                      have hal : (a : Int) < l.ps.length := by omega
                      have hd2 : decide ((a : Int) < 0) = false := decide_eq_false (by omega)
                      obtain ⟨y0, -, -⟩ := hT.xAt a (by omega)
                      by_cases hl : (nx.getD j default).t < (nx.getD a default).t
                      · have HN := Lib.hid (AtOk.less e5 hd (by omega) hl)
                        have hd3 : decide ((nx.getD j default).t < (nx.getD a default).t) = true := decide_eq_true hl
                        clear e5 e3
                        generalize (nx.getD j default).t = xt at x0 hx hd1 hl hd3
                        generalize (nx.getD a default).t = yt at y0 hl hd3 e4
                        clear hd hT hat
                        go_wp2
                        (refine wp_region_ext (by kernel_rfl) (by kernel_rfl) ?_; have hX := @ext_cell; (repeat (go_big_quiet_step (fail))); refine wpQuiet_nil ?_; clear hX; intro wx hw'; obtain ⟨⟨wx, hbx⟩, rfl⟩ := hw'; obtain ⟨hcx, hfx⟩ := bcell hbx)
                        go_wp2
                        go_roundw
                        case rel => exact ⟨j + 1, (j : Int), by omega, by go_num, rfl, HN, bl_trans hbq hbx⟩
                        case measure => simp [intOf]; omega

                      · have HN := Lib.hid (AtOk.keep e1 e3 e4 e5 hl)
                        have hd3 : decide ((nx.getD j default).t < (nx.getD a default).t) = false := decide_eq_false hl
                        clear e5 e3
                        generalize (nx.getD j default).t = xt at x0 hx hd1 hl hd3
                        generalize (nx.getD a default).t = yt at y0 hl hd3 e4
                        clear hd hT hat
                        go_wp2
                        (refine wp_region_ext (by kernel_rfl) (by kernel_rfl) ?_; have hX := @ext_cell; (repeat (go_big_quiet_step (fail))); refine wpQuiet_nil ?_; clear hX; intro wx hw'; obtain ⟨⟨wx, hbx⟩, rfl⟩ := hw'; obtain ⟨hcx, hfx⟩ := bcell hbx)
                        go_wp2
                        go_roundw
                        case rel => exact ⟨j + 1, (a : Int), by omega, by go_num, rfl, HN, bl_trans hbq hbx⟩
                        case measure => simp [intOf]; omega

              · have hjn : j = l.ps.length := by omega
                subst hjn
                rcases hat.out with ⟨e1, e2⟩ | ⟨a, e1, e2, e3, e4, e5⟩
                · subst e1
                  have hT := HT.out.step hbq
                  have hokf := Lib.hid (HRS.out.ok HG.out (fun i hi hd => e2 i hi hd))
                  have HTq := Lib.hid hT
                  clear e2 hat hT
                  go_wp2
                  go_ret
                  exact ⟨_, fs, rfl, by rw [HTq.out.lf]; exact HTq.out.f, hokf.out, fun i hi => HRS.out.max c5 i hi, bl_trans hb hbq⟩
                · subst e2
                  have hal : (a : Int) < l.ps.length := by omega
                  have hd2 : decide ((a : Int) < 0) = false := decide_eq_false (by omega)
                  have hT := HT.out.step hbq
                  obtain ⟨r1, r2, r3, r4⟩ := HRS.out.pick HG.out HSD.out c5 a e1 e4
                  have SS := Lib.hid (SideS.start HRS.out a)
                  have HDONE := Lib.hid (fun nx' h => SideS.done (nx' := nx') HG.out HRS.out e1 e3 e4 e5 h)
                  have HUD := Lib.hid (nT_set dn a (by rw [HT.out.ld]; exact e1) e3)
                  have HBD := Lib.hid (fun s k o hL m hm => SideS.bd (nx' := nx) (s := s) HG.out HSD.out HRS.out e1 e4 k o hL m hm)
                  have hga := getD_pc l.ps a e1
                  rw [hga] at r1
                  obtain ⟨X, hX⟩ : ∃ X, X = nx.getD a default := ⟨_, rfl⟩
                  rw [← hX] at r1 r2 r3 r4 e4
                  have HX := Lib.hid hX
                  obtain ⟨bp, offp, hsa, hbp2, hatp⟩ := pcs_get hps e1
                  cases hsa
                  obtain ⟨k1, k2, k3, k4, k5, k6⟩ := vBd_piece2 l hv a e1
                  obtain ⟨⟨vd, cd⟩, fd⟩ := hT.dS a e1
                  have HTQ := Lib.hid hT
                  clear e3 e5 hat hT hX
                  go_upto_region 26 with fail
                  have h25 := HTQ.out.setD a true
                  have hb25 : Below w.heap.size w (wr.setCell ⟨g0, a, none⟩ (.bool true)) := bl_set (bl_trans hb hbq) (by simp; omega) _
                  obtain ⟨W25, hW25⟩ : ∃ W, W = wr.setCell ⟨g0, a, none⟩ (.bool true) := ⟨_, rfl⟩
                  rw [← hW25] at h25 hb25 ⊢
                  clear hW25 cd fd HTQ hbq hzq
                  have H25 := Lib.hid h25
                  have HB25 := Lib.hid hb25
                  have xx := h25.xAt a e1
                  rw [← HX.out] at xx
                  obtain ⟨x0, x1, x2⟩ := xx
                  have kk0 := h25.fS a e1 0 (by omega)
                  rw [Nat.add_zero] at kk0
                  obtain ⟨⟨v0, c0⟩, f0⟩ := kk0
                  obtain ⟨⟨v1, c1⟩, f1⟩ := h25.fS a e1 1 (by omega)
                  obtain ⟨⟨v2, c2⟩, f2⟩ := h25.fS a e1 2 (by omega)
                  obtain ⟨-, -, -, p0, p1, p2⟩ := h25.lt
                  clear h25 hb25
                  go_upto_region 27 with fail
                  have h26 := H25.out.setF a e1 X
                  have hb26 : Below w.heap.size w (setCells W25 g1 (a * 3) X.cells) := bl_grown HB25.out (grown_setCells g1 _ W25 (a * 3)) (fun q hq => by cases hq; exact hl1)
                  obtain ⟨W26, hW26⟩ : ∃ W, W = setCells W25 g1 (a * 3) X.cells := ⟨_, rfl⟩
                  have hW26' : W26 = ((W25.setCell ⟨g1, a * 3, none⟩ (.int .i64 X.t)).setCell ⟨g1, a * 3 + 1, none⟩ (.int .i8 X.f)).setCell ⟨g1, a * 3 + 1 + 1, none⟩ (.int .i64 X.b) := hW26
                  rw [← hW26] at h26 hb26
                  rw [← hW26']
                  clear hW26 hW26' c0 c1 c2 f0 f1 f2 x0 x1 x2
                  have H26 := Lib.hid h26
                  have HB26 := Lib.hid hb26
                  have yy := h26.fAt a e1
                  rw [getD_set fs a a X (by rw [HT.out.lf]; exact e1), if_pos rfl] at yy
                  obtain ⟨y0, y1, -⟩ := yy
                  obtain ⟨-, -, -, p0, p1, p2⟩ := h26.lt
                  have z3 : W26.cell? ⟨b0, 2, none⟩ = some (.slice (some ⟨bp, offp, none⟩) l.ps.length scap) := by rw [hb26.cell (p := ⟨_, _, none⟩) hbl]; exact hbd.2.2
                  have z4 : W26.cell? ⟨bp, offp + a * 5 + 4, none⟩ = some (.int .i8 l.ps[a].d) := by rw [hb26.cell (p := ⟨_, _, none⟩) hbp2]; exact hatp.2.2.2.2
                  have hz26 := hb26.size
                  have p3 : b0 < W26.heap.size := by omega
                  have p4 : bp < W26.heap.size := by omega
                  have s1 : IntKind.i64.wrap X.f = X.f := by rw [IntKind.wrap_i64]; omega
                  have HATP := Lib.hid (fun (w' : World) (h' : Below w.heap.size w w') => hatp.step h' hbp2)
                  have HH : Hid (∀ u : Ext W26, Calls Try.prog 36 #[.pointer (some ⟨bp, offp + a * 5, none⟩), .int .i64 X.f] u.w fun e w' => e = .returned (.int .i64 (hitsV l.ps[a].k l.ps[a].t X.f)) ∧ Below u.w.heap.size u.w w') := Lib.hid (fun u =>
                    l01Hits_any l.ps[a].x l.ps[a].y l.ps[a].k l.ps[a].t l.ps[a].d X.f u.w bp (offp + a * 5) (HATP.out _ (bl_trans HB26.out u.b)) (by have := u.b.size; omega) k1 k2 k3 k4 r2 r3)
                  have HHV : Hid (max (hitsV (l.ps.getD a default).k (l.ps.getD a default).t (nx.getD a default).f) 0 = hitsV l.ps[a].k l.ps[a].t X.f) := Lib.hid (by rw [← HX.out, hga]; omega)
                  generalize hitsV l.ps[a].k l.ps[a].t X.f = hv' at HH HHV r1
                  have HDV : Hid ((l.ps.getD a default).d = l.ps[a].d) := Lib.hid (by rw [hga])
                  have s5 : IntKind.i64.wrap l.ps[a].d = l.ps[a].d := by rw [IntKind.wrap_i64]; omega
                  have s6 : IntKind.i64.wrap (X.t + l.ps[a].d) = X.t + l.ps[a].d := by rw [IntKind.wrap_i64]; omega
                  have HATE : Hid ((l.ps.getD a default).at_ = l.ps[a].at_) := Lib.hid (by rw [hga])
                  have HNR := Lib.hid (fun (s : Int) (w' : World) (hb' : Below w.heap.size w w') (h5 : 0 ≤ s) (h6 : s ≤ 3) => l01Near_any b0 l a s w' (HBP.out.step hb') (by omega) e1 h5 h6)
                  generalize l.ps[a].d = d at z4 s5 s6 k5 k6 HDV HATP
                  clear h26 hb26 hatp hga
                  (refine wp_region_ext (by kernel_rfl) (by kernel_rfl) ?_; have hX := @ext_cell; (repeat (go_big_quiet_step ((go_at_call 36; exact ext_call (HH.out _))))); refine wpQuiet_nil ?_; clear hX; intro wx hw'; obtain ⟨⟨wx, hbx⟩, rfl⟩ := hw'; obtain ⟨hcx, hfx⟩ := bcell hbx)
                  have z0 : wx.cell? ⟨g1, a * 3, none⟩ = some (.int .i64 X.t) := by rw [hbx.cell (p := ⟨_, _, none⟩) p1]; exact y0
                  have z3' : wx.cell? ⟨b0, 2, none⟩ = some (.slice (some ⟨bp, offp, none⟩) l.ps.length scap) := by rw [hbx.cell (p := ⟨_, _, none⟩) p3]; exact z3
                  have z4' : wx.cell? ⟨bp, offp + a * 5 + 4, none⟩ = some (.int .i8 d) := by rw [hbx.cell (p := ⟨_, _, none⟩) p4]; exact z4
                  have H27 := Lib.hid (H26.out.step hbx)
                  have HB27 := Lib.hid (bl_trans HB26.out hbx)
                  have hz27 := hbx.size
                  have p1' : g1 < wx.heap.size := by omega
                  have p3' : b0 < wx.heap.size := by omega
                  have p4' : bp < wx.heap.size := by omega
                  clear hcx hfx hbx y0 y1 z3 z4 p0 p1 p2 p3 p4 HH
                  obtain ⟨W27, hW27⟩ : ∃ W27, W27 = wx := ⟨_, rfl⟩
                  subst hW27
                  go_wp2
                  (refine wp_region_ext (by kernel_rfl) (by kernel_rfl) ?_; have hX := @ext_cell; (repeat (go_big_quiet_step (fail))); refine wpQuiet_nil ?_; clear hX; intro wx hw'; obtain ⟨⟨wx, hbx⟩, rfl⟩ := hw'; obtain ⟨hcx, hfx⟩ := bcell hbx)
                  have h28 := H27.out.step hbx
                  have hb28 := bl_trans HB27.out hbx
                  clear hcx hfx z0 z3' z4'
                  go_wp2
                  go_loopw [17] (fun ix wy => ∃ s : Nat, ∃ nx' : List Fa, s ≤ 4 ∧ ix = .int .i64 s ∧ T3 w.heap.size g0 g1 g2 l.ps.length wy (dn.set a true) (fs.set a X) nx' ∧ Hid (SideS l.ps pl dn fs nx a s nx') ∧ Below w.heap.size w wy) (fun ix _ => 4 - (intOf ix).toNat)
                  case atStart => exact ⟨0, nx, by omega, rfl, h28, SS, hb28⟩
                  case round =>
                    clear h28 hb28 hbx
                    obtain ⟨s, nx', hs, rfl, h5, hside, hb5⟩ := hrel
                    by_cases hls : s < 4
                    · have hq0 : 0 ≤ hv' / 2 ^ s := Int.ediv_nonneg r1 (Int.le_of_lt (Int.pow_pos (by decide)))
                      have ht : ((hv' / 2 ^ s).tmod 2 == 0) = decide (hv' / 2 ^ s % 2 = 0) := by rw [Int.tmod_eq_emod_of_nonneg hq0]; rfl
                      have hsl : (s : Int) < 4 := by omega
                      rcases dec_cases (hv' / 2 ^ s % 2 = 0) with ⟨c1, c1'⟩ | ⟨c1, c1'⟩
                      · rw [c1] at ht
                        have HN := Lib.hid (hside.out.skipBit (by rw [HHV.out]; omega))
                        clear c1 c1' hq0
                        go_wp2
                        go_roundw
                        case rel => exact ⟨s + 1, nx', by omega, by go_num, h5, HN, hb5⟩
                        case measure => simp [intOf]; omega

                      · rw [c1] at ht
                        have HBIT : Hid (max (hitsV (l.ps.getD a default).k (l.ps.getD a default).t (nx.getD a default).f) 0 / 2 ^ s % 2 = 1) := Lib.hid (by rw [HHV.out]; omega)
                        clear c1 c1' hq0
                        have HNR2 := Lib.hid (HNR.out s _ hb5 (by omega) (by omega))
                        have HF0 : Hid (fnd (nxt (l.ps.getD a default).at_ (s : Int)) l.ps = fnd (nxt l.ps[a].at_ s) l.ps) := Lib.hid (by rw [HATE.out])
                        have HLT := Lib.hid (fnd_lt (nxt l.ps[a].at_ s) l.ps)
                        generalize fnd (nxt l.ps[a].at_ s) l.ps = kk at HNR2 HF0 HLT
                        have HT5 := Lib.hid h5
                        clear h5
                        go_wp2_with fail
                        refine HNR2.out.mono ?_
                        rintro e w6 ⟨rfl, hb6⟩
                        have H6 := Lib.hid (HT5.out.step hb6)
                        have hb06 := bl_trans hb5 hb6
                        have HB06 := Lib.hid hb06
                        have hz6 := hb06.size
                        obtain ⟨-, -, -, p0, p1, p2⟩ := H6.out.lt
                        clear hb6 hb5 hb06
                        by_cases hk0 : kk < 0
                        · have HN := Lib.hid (hside.out.skipNone (by rw [HF0.out]; exact hk0))
                          have hd4 : decide (0 ≤ kk) = false := decide_eq_false (by omega)
                          go_wp2
                          go_roundw
                          case rel => exact ⟨s + 1, nx', by omega, by go_num, H6.out, HN, HB06.out⟩
                          case measure => simp [intOf]; omega

                        · obtain ⟨kn, hkn⟩ : ∃ kn : Nat, kk = (kn : Int) := ⟨kk.toNat, by omega⟩
                          subst hkn
                          have hknl : kn < l.ps.length := by have := HLT.out (by omega); simpa using this
                          have hkni : (kn : Int) < l.ps.length := by omega
                          have d0 := H6.out.dAt kn hknl
                          have hd4 : decide (0 ≤ (kn : Int)) = true := decide_eq_true (by omega)
                          cases hd : (dn.set a true).getD kn false with
                          | true =>
                            rw [hd] at d0
                            have HN := Lib.hid (hside.out.skipDone HF0.out hd)
                            clear hd
                            go_wp2
                            go_roundw
                            case rel => exact ⟨s + 1, nx', by omega, by go_num, H6.out, HN, HB06.out⟩
                            case measure => simp [intOf]; omega

                          | false =>
                            rw [hd] at d0
                            obtain ⟨bq, offq, hbq0, hbq2, hatq⟩ := pcs_get hps hknl
                            cases hbq0
                            obtain ⟨m1, m2, m3, m4, m5, m6⟩ := vBd_piece2 l hv kn hknl
                            have z3 : w6.cell? ⟨b0, 2, none⟩ = some (.slice (some ⟨bp, offp, none⟩) l.ps.length scap) := by rw [HB06.out.cell (p := ⟨_, _, none⟩) hbl]; exact hbd.2.2
                            have p3 : b0 < w6.heap.size := by omega
                            have HH := Lib.hid (l01Hits_any l.ps[kn].x l.ps[kn].y l.ps[kn].k l.ps[kn].t l.ps[kn].d (((s : Int) + 2) % 4) w6 bp (offp + kn * 5) (hatq.step HB06.out hbq2) (by omega) m1 m2 m3 m4 (by omega) (by omega))
                            have HCK : Hid (hitsV (l.ps.getD kn default).k (l.ps.getD kn default).t (((s : Int) + 2) % 4) = hitsV l.ps[kn].k l.ps[kn].t (((s : Int) + 2) % 4)) := Lib.hid (by rw [getD_pc l.ps kn hknl])
                            generalize hitsV l.ps[kn].k l.ps[kn].t (((s : Int) + 2) % 4) = hw at HH HCK
                            clear hatq m1 m2 m3 m4 m5 m6
                            rcases dec_cases (0 ≤ hw) with ⟨c2, c2'⟩ | ⟨c2, c2'⟩
                            · obtain ⟨o, ho, hL⟩ := hside.out.new kn hknl hd
                              have hbo := HBD.out s kn o hL
                              have HTELL := Lib.hid (fun f' hf' => hside.out.tell hknl hd HBIT.out HF0.out (by rw [HCK.out]; exact c2') o ho (fun m hm => (hbo m hm).1) f' hf' hL)
                              rw [HDV.out, ← HX.out] at HTELL
                              have HLN := Lib.hid hside.out.ln
                              have HHO := Lib.hid ho
                              have hHB : ∀ u (hu : Below w6.heap.size w6 u), Calls Try.prog 37 #[.int .i64 (X.t + d), .int .i64 (((s : Int) + 2) % 4), .int .i64 a, .pointer (some ⟨g2, kn * 3, none⟩)] u fun e w' => e = .returned (.bool (betterV (X.t + d, ((s : Int) + 2) % 4, (a : Int)) o)) ∧ u = w' := fun u hu =>
                                l02Better_any (X.t + d) (((s : Int) + 2) % 4) a g2 (kn * 3) o u (by have h9 := (H6.out.step hu).xAt kn hknl; rw [ho] at h9; exact h9) hbo
                              clear c2' hd hL ho
                              rcases Bool.eq_false_or_eq_true (betterV (X.t + d, ((s : Int) + 2) % 4, (a : Int)) o) with c3 | c3
                              · rw [c3] at hHB
                                have HBt := Lib.hid hHB
                                have HN := Lib.hid (HTELL.out (faOf (some (X.t + d, ((s : Int) + 2) % 4, (a : Int)))) (by rw [stepH_yes o _ c3]))
                                have s7 := wrap8_side' (((s : Int) + 2) % 4) (by omega) (by omega)
                                clear hHB c3 HTELL
                                go_wp2_with fail
                                refine HH.out.mono ?_
                                rintro e w7 ⟨rfl, hb7⟩
                                have H7 := Lib.hid (H6.out.step hb7)
                                have HB07 := Lib.hid (bl_trans HB06.out hb7)
                                have hz7 := hb7.size
                                have p2' : g2 < w7.heap.size := by omega
                                go_wp2_with fail
                                refine (HBt.out _ hb7).mono ?_
                                rintro e w8 ⟨rfl, rfl⟩
                                have kk0 := H7.out.xS kn hknl 0 (by omega)
                                rw [Nat.add_zero] at kk0
                                obtain ⟨⟨v0, c0⟩, f0⟩ := kk0
                                obtain ⟨⟨v1, c1⟩, f1⟩ := H7.out.xS kn hknl 1 (by omega)
                                obtain ⟨⟨v2, c2⟩, f2⟩ := H7.out.xS kn hknl 2 (by omega)
                                go_wp2
                                have h8 := H7.out.setX kn hknl (faOf (some (X.t + d, ((s : Int) + 2) % 4, (a : Int))))
                                have hb08 : Below w.heap.size w (setCells w7 g2 (kn * 3) (faOf (some (X.t + d, ((s : Int) + 2) % 4, (a : Int)))).cells) := bl_grown HB07.out (grown_setCells g2 _ w7 (kn * 3)) (fun q hq => by cases hq; exact hl2)
                                clear c0 c1 c2 f0 f1 f2
                                go_roundw
                                case rel => exact ⟨s + 1, _, by omega, by go_num, h8, HN, hb08⟩
                                case measure => simp [intOf]; omega

                              · rw [c3] at hHB
                                have HBt := Lib.hid hHB
                                have hN := HTELL.out (faOf o) (by rw [stepH_no o _ c3])
                                rw [set_same _ kn (by rw [HLN.out]; exact hknl) _ HHO.out] at hN
                                have HN := Lib.hid hN
                                clear hHB c3 HTELL hN
                                go_wp2_with fail
                                refine HH.out.mono ?_
                                rintro e w7 ⟨rfl, hb7⟩
                                have H7 := Lib.hid (H6.out.step hb7)
                                have HB07 := Lib.hid (bl_trans HB06.out hb7)
                                have hz7 := hb7.size
                                have p2' : g2 < w7.heap.size := by omega
                                go_wp2_with fail
                                refine (HBt.out _ hb7).mono ?_
                                rintro e w8 ⟨rfl, rfl⟩
                                go_wp2
                                go_roundw
                                case rel => exact ⟨s + 1, nx', by omega, by go_num, H7.out, HN, HB07.out⟩
                                case measure => simp [intOf]; omega

                            · have HN := Lib.hid (hside.out.skipCan HF0.out (by rw [HCK.out]; exact c2'))
                              clear c2' hd
                              go_wp2_with fail
                              refine HH.out.mono ?_
                              rintro e w7 ⟨rfl, hb7⟩
                              go_wp2
                              go_roundw
                              case rel => exact ⟨s + 1, nx', by omega, by go_num, H6.out.step hb7, HN, bl_trans HB06.out hb7⟩
                              case measure => simp [intOf]; omega

                    · have hs4 : s = 4 := by omega
                      subst hs4
                      have HNEW := Lib.hid (HDONE.out nx' hside.out)
                      rw [← HX.out] at HNEW
                      have H5 := Lib.hid h5
                      clear h5
                      go_wp2
                      go_roundw
                      case rel => exact ⟨_, _, _, H5.out, HNEW, hb5⟩
                      case measure => have u1 := H5.out.undone; have u2 := HT.out.undone; have u3 := HUD.out; omega
end Go.Proofs.Ytmeefmoblkiebaa
/- Contracts: FirstWrong and CheckFalls (the reference). -/
namespace Go.Proofs.Ytmeefmoblkiebaa
open Go.RowKit
set_option linter.unusedVariables false
set_option linter.unusedSimpArgs false
set_option maxHeartbeats 400000
set_option maxRecDepth 100000
/-- A value that reads as a list of rows. -/
def SV {α : Type} (f : α → List Value) (w : World) (v : Value) (xs : List α) : Prop := ∃ a cap, v = .slice a xs.length cap ∧ SlAt w.heap.size w a (flat f xs)
theorem SV.step {α : Type} {f : α → List Value} {w w' : World} {v : Value} {xs : List α} (h : SV f w v xs) (hb : Below w.heap.size w w') : SV f w' v xs := by
  obtain ⟨a, cap, rfl, h⟩ := h
  exact ⟨a, cap, rfl, (h.below hb (Nat.le_refl _)).wide hb.size⟩
def cfVal (l : Bd) (pl : List Pu) (fs : List Fa) : Bool := (vBd l && vPus l pl) && vFas fs && decide (firstWrong l.ps pl fs < 0)
theorem gv_0 (l : Bd) (pl : List Pu) (fs : List Fa) (h : ((vBd l && vPus l pl) && vFas fs) = true) : givenV l pl fs = 0 := by
  rw [Bool.and_eq_true] at h
  unfold givenV; rw [if_pos h.1, if_pos h.2]
theorem gv_1 (l : Bd) (pl : List Pu) (fs : List Fa) (h : ((vBd l && vPus l pl) && vFas fs) = false) : (givenV l pl fs = 1 ∨ givenV l pl fs = 2) ∧ fwCode l pl fs = givenV l pl fs ∧ fwVal l pl fs = 0 ∧ cfVal l pl fs = false := by
  unfold givenV fwCode fwVal cfVal
  rw [h]
  by_cases g : (vBd l && vPus l pl) = true
  · rw [g, Bool.true_and] at h
    have h' : ¬ vFas fs = true := by rw [h]; decide
    simp only [if_pos g, if_neg h']
    exact ⟨by simp, by simp, by simp, by simp⟩
  · simp only [if_neg g]
    exact ⟨by simp, by simp, by simp, by simp⟩
theorem gv_fw (l : Bd) (pl : List Pu) (fs : List Fa) (h : ((vBd l && vPus l pl) && vFas fs) = true) : fwCode l pl fs = (if firstWrong l.ps pl fs < 0 then 6 else 0) ∧ fwVal l pl fs = (if firstWrong l.ps pl fs < 0 then 0 else firstWrong l.ps pl fs) ∧ cfVal l pl fs = decide (firstWrong l.ps pl fs < 0) := by
  have h2 := h
  rw [Bool.and_eq_true] at h
  unfold fwCode fwVal cfVal
  rw [h2, if_pos h.1, if_pos h.2, if_pos h.1, if_pos h.2]
  exact ⟨rfl, rfl, rfl⟩
theorem gv_all (l : Bd) (pl : List Pu) (fs : List Fa) (h : ((vBd l && vPus l pl) && vFas fs) = true) : vBd l = true ∧ pl.length ≤ 20 ∧ pl.all plainPu = true ∧ fs.all okFall = true ∧ pl.all (fun p => decide (0 ≤ fnd ⟨p.x, p.y⟩ l.ps)) = true := by
  simp only [Bool.and_eq_true] at h
  obtain ⟨⟨h1, h2⟩, h3⟩ := h
  unfold vPus at h2
  simp only [Bool.and_eq_true, decide_eq_true_eq] at h2
  exact ⟨h1, h2.1.1, h2.1.2, h3, h2.2⟩
theorem specFirstWrong_any (wd hg : Int) (s : Value) (ps : List Pc) (v1 : Value) (pl : List Pu) (v2 : Value) (fs : List Fa) (w : World) (hps : PV w s ps) (hok : (Bd.mk wd hg ps).ok) (hn : ps.length ≤ 9000000)
    (h1 : SV Pu.cells w v1 pl) (ok1 : PusOk pl) (n1 : pl.length ≤ 9000000) (h2 : SV Fa.cells w v2 fs) (ok2 : FasOk fs) (n2 : fs.length ≤ 9000000) :
    Calls Try.prog 11 #[bdv wd hg s, v1, v2] w fun e w' => e = .returned (.tuple #[.int .i64 (fwVal ⟨wd, hg, ps⟩ pl fs), .int .i64 (fwCode ⟨wd, hg, ps⟩ pl fs)]) ∧ Below w.heap.size w w' := by
  obtain ⟨a, cap, rfl, hps⟩ := hps
  obtain ⟨a1, cap1, rfl, h1⟩ := h1
  obtain ⟨a2, cap2, rfl, h2⟩ := h2
  have HB := Lib.hid (BP.new (l := ⟨wd, hg, ps⟩) (w := w) ⟨a, cap, rfl, hps⟩ 27)
  rcases Bool.eq_false_or_eq_true ((vBd ⟨wd, hg, ps⟩ && vPus ⟨wd, hg, ps⟩ pl) && vFas fs) with g0 | g0
  · have HG := Lib.hid (gv_fw _ _ _ g0)
    have HA := Lib.hid (gv_all _ _ _ g0)
    have HV := Lib.hid (gv_0 _ _ _ g0)
    clear g0
    go_enter Try.func11, Try.ntmps11
    go_wp2_with fail
    refine (l02Given_any (B := w.heap.size) w.heap.size ⟨wd, hg, ps⟩ a1 cap1 pl a2 cap2 fs _ HB.out hok (show ps.length ≤ 10000000 by omega) (h1.below (bl_alloc (Below.refl _ _)) (Nat.le_refl _)) ok1 (h2.below (bl_alloc (Below.refl _ _)) (Nat.le_refl _)) ok2 (by simp) (by omega) (by omega)).mono ?_
    rintro e w1 ⟨rfl, hb1⟩
    have HB1 := Lib.hid (HB.out.step hb1)
    have hb01 : Below w.heap.size w w1 := bl_trans (bl_alloc (Below.refl _ _)) hb1
    have HB01 := Lib.hid hb01
    rw [HV.out]
    have hz := hb1.size
    clear hb01
    go_wp2_with fail
    refine (l02Wrong_any (B := w.heap.size) w.heap.size ⟨wd, hg, ps⟩ a1 cap1 pl a2 cap2 fs _ HB1.out HA.out.1 (h1.below HB01.out (Nat.le_refl _)) ok1 HA.out.2.2.1 HA.out.2.1 (h2.below HB01.out (Nat.le_refl _)) HA.out.2.2.2.1 n2 HB01.out.size).mono ?_
    rintro e w2 ⟨rfl, hb2⟩
    have hb02 := bl_trans HB01.out hb2
    simp only
    have HC := Lib.hid HG.out.1
    have HVv := Lib.hid HG.out.2.1
    clear HG
    generalize firstWrong ps pl fs = fw at HC HVv ⊢
    by_cases hneg : fw < 0
    · rw [if_pos hneg] at HC HVv
      go_wp2
      go_ret2
      exact ⟨by rw [HC.out, HVv.out]; rfl, hb02⟩
    · rw [if_neg hneg] at HC HVv
      go_wp2
      go_ret2
      exact ⟨by rw [HC.out, HVv.out]; rfl, hb02⟩
  · have HG := Lib.hid (gv_1 _ _ _ g0)
    clear g0
    go_enter Try.func11, Try.ntmps11
    go_wp2_with fail
    refine (l02Given_any (B := w.heap.size) w.heap.size ⟨wd, hg, ps⟩ a1 cap1 pl a2 cap2 fs _ HB.out hok (show ps.length ≤ 10000000 by omega) (h1.below (bl_alloc (Below.refl _ _)) (Nat.le_refl _)) ok1 (h2.below (bl_alloc (Below.refl _ _)) (Nat.le_refl _)) ok2 (by simp) (by omega) (by omega)).mono ?_
    rintro e w1 ⟨rfl, hb1⟩
    have hb01 : Below w.heap.size w w1 := bl_trans (bl_alloc (Below.refl _ _)) hb1
    have hg12 := HG.out.1
    have HC := Lib.hid HG.out.2.1
    have HVv := Lib.hid HG.out.2.2.1
    clear HG
    generalize givenV ⟨wd, hg, ps⟩ pl fs = gv at hg12 HC ⊢
    have gne : (gv != 0) = true := by rcases hg12 with rfl | rfl <;> rfl
    clear hg12
    go_wp2
    go_ret2
    exact ⟨by rw [HC.out, HVv.out]; rfl, hb01⟩
end Go.Proofs.Ytmeefmoblkiebaa
/- Hits as rows of four numbers. -/
namespace Go.Proofs.Ytmeefmoblkiebaa
open Go.RowKit
set_option linter.unusedVariables false
set_option linter.unusedSimpArgs false
set_option maxHeartbeats 400000
set_option maxRecDepth 100000
structure Hi where
  t : Int
  p : Int
  s : Int
  b : Int
  deriving Inhabited, DecidableEq
/-- What a hit of the program holds: a tick, a piece, a side, by whom. -/
def Hi.ok (h : Hi) : Prop := (-9223372036854775808 ≤ h.t ∧ h.t ≤ 9223372036854775807) ∧ (-1 ≤ h.p ∧ h.p ≤ 1000) ∧ (0 ≤ h.s ∧ h.s ≤ 3) ∧ (-1 ≤ h.b ∧ h.b ≤ 1000)
def HisOk (ps : List Hi) : Prop := ∀ k (h : k < ps.length), ps[k].ok
def Hi.cells (p : Hi) : List Value := [.int .i64 p.t, .int .i64 p.p, .int .i64 p.s, .int .i64 p.b]
abbrev Hi.val (p : Hi) : Value := .agg #[.int .i64 p.t, .int .i64 p.p, .int .i64 p.s, .int .i64 p.b]
theorem Hi.len (p : Hi) : (Hi.cells p).length = 4 := rfl
theorem Hi.one (p : Hi) : ∀ u ∈ Hi.cells p, u.oneCell' = true := by
  intro u hu
  simp only [Hi.cells, List.mem_cons, List.not_mem_nil, or_false] at hu
  rcases hu with rfl | rfl | rfl | rfl <;> rfl
def HiAt (w : World) (b off : Nat) (p : Hi) : Prop :=
  w.cell? ⟨b, off, none⟩ = some (.int .i64 p.t) ∧ w.cell? ⟨b, off + 1, none⟩ = some (.int .i64 p.p) ∧ w.cell? ⟨b, off + 2, none⟩ = some (.int .i64 p.s) ∧ w.cell? ⟨b, off + 3, none⟩ = some (.int .i64 p.b)
theorem his_get {B : Nat} {w : World} {a : Option Addr} {ps : List Hi} (h : SlAt B w a (flat Hi.cells ps)) {k : Nat} (hk : k < ps.length) :
    ∃ b off, a = some ⟨b, off, none⟩ ∧ b < B ∧ HiAt w b (off + k * 4) ps[k] := by
  obtain ⟨b, off, h1, h2, h3⟩ := SlAt.get Hi.len (by omega) h hk
  exact ⟨b, off, h1, h2, h3 0 _ rfl, h3 1 _ rfl, h3 2 _ rfl, h3 3 _ rfl⟩
theorem Try.infoHit : (Try.prog.info? 103).map (fun i => (i.zero, i.size, i.bytes)) = some (some (.agg #[.int .i64 0, .int .i64 0, .int .i64 0, .int .i64 0]), 4, 32) := by kernel_rfl
end Go.Proofs.Ytmeefmoblkiebaa
/- Contracts: functions of package slices over pushes, falls, hits. -/
namespace Go.Proofs.Ytmeefmoblkiebaa
open Go.RowKit
set_option linter.unusedVariables false
set_option linter.unusedSimpArgs false
set_option maxHeartbeats 400000
set_option maxRecDepth 100000

theorem indexFuncPu_any {B : Nat} (K : Nat) (caps : Array Value) (a : Option Addr) (cap : Nat) (ps : List Pu) (w : World) (hps : SlAt B w a (flat Pu.cells ps)) (hok : PusOk ps) (hB : B ≤ w.heap.size) (hn : ps.length ≤ 10000000) 
   (eg : ∀ (args : Array Value) (w : World), (callFunc K args).run Try.prog w = .ok (.enter K args) w) (q : Pu → Bool) (hf : ∀ (p : Pu) (w1 : World), p.ok → Below w.heap.size w w1 → Calls Try.prog K (#[p.val] ++ caps) w1 fun e w' => e = .returned (.bool (q p)) ∧ Below w1.heap.size w1 w'):
    Calls Try.prog 66 #[.slice a ps.length cap, .func (.func K) #[] caps] w fun e w' => e = .returned (.int .i64 ((ps.findIdx? q).elim (-1) (fun n => (n : Int)))) ∧ Below w.heap.size w w' := by
  go_enter Try.func66, Try.ntmps66
  go_wp2
  go_loopw [8] (fun i wr => ∃ k : Nat, k ≤ ps.length ∧ i = .int .i64 k ∧ (ps.take k).findIdx? q = none ∧ Below w.heap.size w wr) (fun i _ => ps.length - (intOf i).toNat)
  case atStart => exact ⟨0, by omega, rfl, by simp, Below.refl _ _⟩
  case round =>
    obtain ⟨k, hk, rfl, hfi, hb⟩ := hrel
    have Hfi := Lib.hid hfi; clear hfi
    by_cases hlt : k < ps.length
    · obtain ⟨b, off, rfl, hbl, hat⟩ := pus_get (hps.below hb hB) hlt
      unfold PuAt at hat
      have Hf := Lib.hid hf; clear hf
      go_wp2_with (refine (Hf.out ps[k] _ (hok k hlt) hb).mono ?_; rintro e w' ⟨rfl, hb2⟩)
      · have h1 : q ps[k] = true := by assumption
        go_ret
        refine ⟨?_, (by repeat (first | with_reducible exact Below.refl _ _ | with_reducible assumption | with_reducible apply bl_drewN | with_reducible apply bl_drew | with_reducible apply bl_alloc | (with_reducible refine bl_set ?_ (by first | (simp; done) | (simp; omega)) _) | with_reducible refine bl_trans ?_ (by with_reducible assumption)))⟩
        have h2 : ps.findIdx? q = some k := by
          rw [List.findIdx?_eq_some_iff_getElem]
          refine ⟨hlt, h1, fun j hj => ?_⟩
          have h3 := Hfi.out
          rw [List.findIdx?_eq_none_iff] at h3
          have := h3 ps[j] (by rw [List.mem_take_iff_getElem]; exact ⟨j, by omega, rfl⟩)
          simpa using this
        rw [h2]; rfl
      · have h1 : q ps[k] = false := by assumption
        go_roundw
        case rel => exact ⟨k + 1, by omega, by go_num, by have := Hfi.out; rw [List.take_succ_eq_append_getElem hlt, List.findIdx?_append, this]; simp [h1], (by repeat (first | with_reducible exact Below.refl _ _ | with_reducible assumption | with_reducible apply bl_drewN | with_reducible apply bl_drew | with_reducible apply bl_alloc | (with_reducible refine bl_set ?_ (by first | (simp; done) | (simp; omega)) _) | with_reducible refine bl_trans ?_ (by with_reducible assumption)))⟩
        case measure => simp [intOf]; omega
    · go_wp2
      go_ret
      refine ⟨?_, (by repeat (first | with_reducible exact Below.refl _ _ | with_reducible assumption | with_reducible apply bl_drewN | with_reducible apply bl_drew | with_reducible apply bl_alloc | (with_reducible refine bl_set ?_ (by first | (simp; done) | (simp; omega)) _) | with_reducible refine bl_trans ?_ (by with_reducible assumption)))⟩
      have h2 := Hfi.out
      rw [List.take_of_length_le (by omega)] at h2
      rw [h2]; rfl
theorem containsFuncPu_any {B : Nat} (K : Nat) (caps : Array Value) (a : Option Addr) (cap : Nat) (ps : List Pu) (w : World) (hps : SlAt B w a (flat Pu.cells ps)) (hok : PusOk ps) (hB : B ≤ w.heap.size) (hn : ps.length ≤ 10000000)
   (eg : ∀ (args : Array Value) (w : World), (callFunc K args).run Try.prog w = .ok (.enter K args) w) (q : Pu → Bool) (hf : ∀ (p : Pu) (w1 : World), p.ok → Below w.heap.size w w1 → Calls Try.prog K (#[p.val] ++ caps) w1 fun e w' => e = .returned (.bool (q p)) ∧ Below w1.heap.size w1 w') :
    Calls Try.prog 40 #[.slice a ps.length cap, .func (.func K) #[] caps] w fun e w' => e = .returned (.bool (ps.any q)) ∧ Below w.heap.size w w' := by
  have H := Lib.hid (indexFuncPu_any K caps a cap ps w hps hok hB hn eg q hf)
  have HV := Lib.hid (show decide (0 ≤ (ps.findIdx? q).elim (-1 : Int) (fun n => (n : Int))) = ps.any q by
    cases hf : ps.findIdx? q with
    | none =>
      rw [List.findIdx?_eq_none_iff] at hf
      have : ps.any q = false := by rw [Bool.eq_false_iff]; intro h; rw [List.any_eq_true] at h; obtain ⟨x, hx, hq⟩ := h; rw [hf x hx] at hq; cases hq
      rw [this]; rfl
    | some k =>
      rw [List.findIdx?_eq_some_iff_getElem] at hf
      obtain ⟨h1, h2, -⟩ := hf
      have : ps.any q = true := by rw [List.any_eq_true]; exact ⟨_, List.getElem_mem h1, h2⟩
      rw [this]; simp)
  go_enter Try.func40, Try.ntmps40
  go_wp2_with fail
  refine H.out.mono ?_
  rintro e w1 ⟨rfl, hb⟩
  go_wp2
  go_ret
  exact ⟨by rw [← HV.out]; rfl, (by repeat (first | with_reducible exact Below.refl _ _ | with_reducible assumption | with_reducible apply bl_drewN | with_reducible apply bl_drew | with_reducible apply bl_alloc | (with_reducible refine bl_set ?_ (by first | (simp; done) | (simp; omega)) _) | with_reducible refine bl_trans ?_ (by with_reducible assumption)))⟩
theorem indexFuncFa_any {B : Nat} (K : Nat) (caps : Array Value) (a : Option Addr) (cap : Nat) (ps : List Fa) (w : World) (hps : SlAt B w a (flat Fa.cells ps)) (hok : FasOk ps) (hB : B ≤ w.heap.size) (hn : ps.length ≤ 10000000) 
   (eg : ∀ (args : Array Value) (w : World), (callFunc K args).run Try.prog w = .ok (.enter K args) w) (q : Fa → Bool) (hf : ∀ (p : Fa) (w1 : World), p.ok → Below w.heap.size w w1 → Calls Try.prog K (#[p.val] ++ caps) w1 fun e w' => e = .returned (.bool (q p)) ∧ Below w1.heap.size w1 w'):
    Calls Try.prog 44 #[.slice a ps.length cap, .func (.func K) #[] caps] w fun e w' => e = .returned (.int .i64 ((ps.findIdx? q).elim (-1) (fun n => (n : Int)))) ∧ Below w.heap.size w w' := by
  go_enter Try.func44, Try.ntmps44
  go_wp2
  go_loopw [8] (fun i wr => ∃ k : Nat, k ≤ ps.length ∧ i = .int .i64 k ∧ (ps.take k).findIdx? q = none ∧ Below w.heap.size w wr) (fun i _ => ps.length - (intOf i).toNat)
  case atStart => exact ⟨0, by omega, rfl, by simp, Below.refl _ _⟩
  case round =>
    obtain ⟨k, hk, rfl, hfi, hb⟩ := hrel
    have Hfi := Lib.hid hfi; clear hfi
    by_cases hlt : k < ps.length
    · obtain ⟨b, off, rfl, hbl, hat⟩ := fas_get (hps.below hb hB) hlt
      unfold FaAt at hat
      have Hf := Lib.hid hf; clear hf
      go_wp2_with (refine (Hf.out ps[k] _ (hok k hlt) hb).mono ?_; rintro e w' ⟨rfl, hb2⟩)
      · have h1 : q ps[k] = true := by assumption
        go_ret
        refine ⟨?_, (by repeat (first | with_reducible exact Below.refl _ _ | with_reducible assumption | with_reducible apply bl_drewN | with_reducible apply bl_drew | with_reducible apply bl_alloc | (with_reducible refine bl_set ?_ (by first | (simp; done) | (simp; omega)) _) | with_reducible refine bl_trans ?_ (by with_reducible assumption)))⟩
        have h2 : ps.findIdx? q = some k := by
          rw [List.findIdx?_eq_some_iff_getElem]
          refine ⟨hlt, h1, fun j hj => ?_⟩
          have h3 := Hfi.out
          rw [List.findIdx?_eq_none_iff] at h3
          have := h3 ps[j] (by rw [List.mem_take_iff_getElem]; exact ⟨j, by omega, rfl⟩)
          simpa using this
        rw [h2]; rfl
      · have h1 : q ps[k] = false := by assumption
        go_roundw
        case rel => exact ⟨k + 1, by omega, by go_num, by have := Hfi.out; rw [List.take_succ_eq_append_getElem hlt, List.findIdx?_append, this]; simp [h1], (by repeat (first | with_reducible exact Below.refl _ _ | with_reducible assumption | with_reducible apply bl_drewN | with_reducible apply bl_drew | with_reducible apply bl_alloc | (with_reducible refine bl_set ?_ (by first | (simp; done) | (simp; omega)) _) | with_reducible refine bl_trans ?_ (by with_reducible assumption)))⟩
        case measure => simp [intOf]; omega
    · go_wp2
      go_ret
      refine ⟨?_, (by repeat (first | with_reducible exact Below.refl _ _ | with_reducible assumption | with_reducible apply bl_drewN | with_reducible apply bl_drew | with_reducible apply bl_alloc | (with_reducible refine bl_set ?_ (by first | (simp; done) | (simp; omega)) _) | with_reducible refine bl_trans ?_ (by with_reducible assumption)))⟩
      have h2 := Hfi.out
      rw [List.take_of_length_le (by omega)] at h2
      rw [h2]; rfl
theorem containsFuncFa_any {B : Nat} (K : Nat) (caps : Array Value) (a : Option Addr) (cap : Nat) (ps : List Fa) (w : World) (hps : SlAt B w a (flat Fa.cells ps)) (hok : FasOk ps) (hB : B ≤ w.heap.size) (hn : ps.length ≤ 10000000)
   (eg : ∀ (args : Array Value) (w : World), (callFunc K args).run Try.prog w = .ok (.enter K args) w) (q : Fa → Bool) (hf : ∀ (p : Fa) (w1 : World), p.ok → Below w.heap.size w w1 → Calls Try.prog K (#[p.val] ++ caps) w1 fun e w' => e = .returned (.bool (q p)) ∧ Below w1.heap.size w1 w') :
    Calls Try.prog 19 #[.slice a ps.length cap, .func (.func K) #[] caps] w fun e w' => e = .returned (.bool (ps.any q)) ∧ Below w.heap.size w w' := by
  have H := Lib.hid (indexFuncFa_any K caps a cap ps w hps hok hB hn eg q hf)
  have HV := Lib.hid (show decide (0 ≤ (ps.findIdx? q).elim (-1 : Int) (fun n => (n : Int))) = ps.any q by
    cases hf : ps.findIdx? q with
    | none =>
      rw [List.findIdx?_eq_none_iff] at hf
      have : ps.any q = false := by rw [Bool.eq_false_iff]; intro h; rw [List.any_eq_true] at h; obtain ⟨x, hx, hq⟩ := h; rw [hf x hx] at hq; cases hq
      rw [this]; rfl
    | some k =>
      rw [List.findIdx?_eq_some_iff_getElem] at hf
      obtain ⟨h1, h2, -⟩ := hf
      have : ps.any q = true := by rw [List.any_eq_true]; exact ⟨_, List.getElem_mem h1, h2⟩
      rw [this]; simp)
  go_enter Try.func19, Try.ntmps19
  go_wp2_with fail
  refine H.out.mono ?_
  rintro e w1 ⟨rfl, hb⟩
  go_wp2
  go_ret
  exact ⟨by rw [← HV.out]; rfl, (by repeat (first | with_reducible exact Below.refl _ _ | with_reducible assumption | with_reducible apply bl_drewN | with_reducible apply bl_drew | with_reducible apply bl_alloc | (with_reducible refine bl_set ?_ (by first | (simp; done) | (simp; omega)) _) | with_reducible refine bl_trans ?_ (by with_reducible assumption)))⟩
theorem indexFuncHi_any {B : Nat} (K : Nat) (caps : Array Value) (a : Option Addr) (cap : Nat) (ps : List Hi) (w : World) (hps : SlAt B w a (flat Hi.cells ps)) (hok : HisOk ps) (hB : B ≤ w.heap.size) (hn : ps.length ≤ 10000000) 
   (eg : ∀ (args : Array Value) (w : World), (callFunc K args).run Try.prog w = .ok (.enter K args) w) (q : Hi → Bool) (hf : ∀ (p : Hi) (w1 : World), p.ok → Below w.heap.size w w1 → Calls Try.prog K (#[p.val] ++ caps) w1 fun e w' => e = .returned (.bool (q p)) ∧ Below w1.heap.size w1 w'):
    Calls Try.prog 71 #[.slice a ps.length cap, .func (.func K) #[] caps] w fun e w' => e = .returned (.int .i64 ((ps.findIdx? q).elim (-1) (fun n => (n : Int)))) ∧ Below w.heap.size w w' := by
  go_enter Try.func71, Try.ntmps71
  go_wp2
  go_loopw [8] (fun i wr => ∃ k : Nat, k ≤ ps.length ∧ i = .int .i64 k ∧ (ps.take k).findIdx? q = none ∧ Below w.heap.size w wr) (fun i _ => ps.length - (intOf i).toNat)
  case atStart => exact ⟨0, by omega, rfl, by simp, Below.refl _ _⟩
  case round =>
    obtain ⟨k, hk, rfl, hfi, hb⟩ := hrel
    have Hfi := Lib.hid hfi; clear hfi
    by_cases hlt : k < ps.length
    · obtain ⟨b, off, rfl, hbl, hat⟩ := his_get (hps.below hb hB) hlt
      unfold HiAt at hat
      have Hf := Lib.hid hf; clear hf
      go_wp2_with (refine (Hf.out ps[k] _ (hok k hlt) hb).mono ?_; rintro e w' ⟨rfl, hb2⟩)
      · have h1 : q ps[k] = true := by assumption
        go_ret
        refine ⟨?_, (by repeat (first | with_reducible exact Below.refl _ _ | with_reducible assumption | with_reducible apply bl_drewN | with_reducible apply bl_drew | with_reducible apply bl_alloc | (with_reducible refine bl_set ?_ (by first | (simp; done) | (simp; omega)) _) | with_reducible refine bl_trans ?_ (by with_reducible assumption)))⟩
        have h2 : ps.findIdx? q = some k := by
          rw [List.findIdx?_eq_some_iff_getElem]
          refine ⟨hlt, h1, fun j hj => ?_⟩
          have h3 := Hfi.out
          rw [List.findIdx?_eq_none_iff] at h3
          have := h3 ps[j] (by rw [List.mem_take_iff_getElem]; exact ⟨j, by omega, rfl⟩)
          simpa using this
        rw [h2]; rfl
      · have h1 : q ps[k] = false := by assumption
        go_roundw
        case rel => exact ⟨k + 1, by omega, by go_num, by have := Hfi.out; rw [List.take_succ_eq_append_getElem hlt, List.findIdx?_append, this]; simp [h1], (by repeat (first | with_reducible exact Below.refl _ _ | with_reducible assumption | with_reducible apply bl_drewN | with_reducible apply bl_drew | with_reducible apply bl_alloc | (with_reducible refine bl_set ?_ (by first | (simp; done) | (simp; omega)) _) | with_reducible refine bl_trans ?_ (by with_reducible assumption)))⟩
        case measure => simp [intOf]; omega
    · go_wp2
      go_ret
      refine ⟨?_, (by repeat (first | with_reducible exact Below.refl _ _ | with_reducible assumption | with_reducible apply bl_drewN | with_reducible apply bl_drew | with_reducible apply bl_alloc | (with_reducible refine bl_set ?_ (by first | (simp; done) | (simp; omega)) _) | with_reducible refine bl_trans ?_ (by with_reducible assumption)))⟩
      have h2 := Hfi.out
      rw [List.take_of_length_le (by omega)] at h2
      rw [h2]; rfl
theorem zeroHi (w : World) : (zeroValue 103).run Try.prog w = .ok (Hi.val ⟨0, 0, 0, 0⟩) w := by kernel_rfl
theorem Hi.one0 : ∀ u ∈ (Hi.val ⟨0, 0, 0, 0⟩).cells.toList, u.oneCell' = true := by
  intro u hu
  exact Hi.one ⟨0, 0, 0, 0⟩ u hu
set_option maxRecDepth 100000 in
theorem deleteFuncHi_any (K : Nat) (caps : Array Value) (base : Nat) (v : Value) (ps : List Hi) (w : World) (hown : w.ownsRow base 103 4 v ps.length (flat Hi.cells ps)) (hok : HisOk ps) (hn : ps.length ≤ 10000000) (hbw : base ≤ w.heap.size)
   (eg : ∀ (args : Array Value) (w : World), (callFunc K args).run Try.prog w = .ok (.enter K args) w) (q : Hi → Bool) (hf : ∀ (p : Hi) (w1 : World), p.ok → Below base w w1 → Calls Try.prog K (#[p.val] ++ caps) w1 fun e w' => e = .returned (.bool (q p)) ∧ Below w1.heap.size w1 w'):
    Calls Try.prog 50 #[v, .func (.func K) #[] caps] w fun e w' => ∃ v', e = .returned v' ∧ w'.ownsRow base 103 4 v' (ps.filter (fun p => !q p)).length (flat Hi.cells (ps.filter (fun p => !q p))) ∧ Below base w w' := by
  rcases id hown.2 with ⟨rfl, hnil⟩ | ⟨g, cap, cur, rfl, -⟩
  · have hp : ps = [] := List.eq_nil_of_length_eq_zero hnil
    subst hp
    have CI := Lib.hid (indexFuncHi_any K caps none 0 ([] : List Hi) w (fun j hj => by simp [flat] at hj) hok (Nat.le_refl _) (by simp) eg q (fun p w1 hp hb => hf p w1 hp (hb.mono hbw)))
    go_enter Try.func50, Try.ntmps50
    go_wp2_with fail
    refine CI.out.mono ?_
    rintro e w1 ⟨rfl, hb1⟩
    go_wp2
    go_ret
    exact ⟨_, rfl, World.ownsRow_nil w1 base 103 4, hb1.mono hbw⟩
  · have hown0 := hown
    obtain ⟨hl1, hl2⟩ := hown.lt g rfl
    have hsl : SlAt w.heap.size w (some ⟨g, 0, none⟩) (flat Hi.cells ps) := by obtain ⟨a', cap', he, h, -⟩ := own_at hown; cases he; exact h
    have CI := Lib.hid (indexFuncHi_any K caps (some ⟨g, 0, none⟩) cap ps w hsl hok (Nat.le_refl _) hn eg q (fun p w1 hp hb => hf p w1 hp (hb.mono (by omega))))
    have Hf := Lib.hid hf; clear hf
    cases hfi : ps.findIdx? q with
    | none =>
      rw [hfi] at CI
      simp only [Option.elim] at CI
      go_enter Try.func50, Try.ntmps50
      go_wp2_with fail
      refine CI.out.mono ?_
      rintro e w1 ⟨rfl, hb1⟩
      go_wp2
      go_ret
      have hall : ps.filter (fun p => !q p) = ps := by
        rw [List.findIdx?_eq_none_iff] at hfi
        rw [List.filter_eq_self]
        intro x hx; simpa using hfi x hx
      refine ⟨_, rfl, ?_, hb1.mono (by omega)⟩
      rw [hall]
      exact own_below hown hb1 (Nat.le_refl _)
    | some k0 =>
      rw [hfi] at CI
      simp only [Option.elim] at CI
      rw [List.findIdx?_eq_some_iff_getElem] at hfi
      obtain ⟨hk0, hq0, hpre⟩ := hfi
      have hstart : (ps.take (k0 + 1)).filter (fun p => !q p) = ps.take k0 := by
        rw [List.take_succ_eq_append_getElem hk0, List.filter_append, List.filter_cons, List.filter_nil, hq0]
        simp only [Bool.not_true, Bool.false_eq_true, if_false, List.append_nil]
        rw [List.filter_eq_self]
        intro x hx
        rw [List.mem_take_iff_getElem] at hx
        obtain ⟨i, hi, rfl⟩ := hx
        simpa using hpre i (by omega)
      have Hst := Lib.hid hstart
      have Hq := Lib.hid hpre
      clear hstart hpre hq0
      go_enter Try.func50, Try.ntmps50
      go_wp2_with fail
      refine CI.out.mono ?_
      rintro e w1 ⟨rfl, hb1⟩
      have hown1 := own_below hown hb1 (Nat.le_refl _)
      have hz1 := hb1.size
      go_wp2
      go_loopw [5, 6, 7] (fun i j _ wr => ∃ j' : Nat, ∃ A M : List Hi, j' ≤ ps.length ∧ j = .int .i64 j' ∧ i = .int .i64 A.length ∧ A = (ps.take j').filter (fun p => !q p) ∧ A.length + M.length = j' ∧ 1 ≤ M.length ∧ wr.ownsRow base 103 4 (Value.slice (some { block := g, off := 0 }) ps.length cap) ps.length (flat Hi.cells (A ++ M ++ ps.drop j')) ∧ Below base w wr ∧ g < wr.heap.size ∧ base ≤ wr.heap.size) (fun _ j _ _ => ps.length - (intOf j).toNat)
      case atStart => exact ⟨k0 + 1, ps.take k0, [ps[k0]], by omega, by go_num, by rw [List.length_take, Nat.min_eq_left (by omega)], Hst.out.symm, by simp; omega, by simp, by rw [List.append_assoc, List.singleton_append, ← List.drop_eq_getElem_cons hk0, List.take_append_drop]; exact hown1, hb1.mono (by omega), by omega, by omega⟩
      case round =>
        clear hown hown0 hown1 hb1 hsl
        obtain ⟨j, A, M, hj, rfl, rfl, hA, hAM, hM, hown, hb, hg, hbz⟩ := hrel
        have HA := Lib.hid hA; clear hA
        by_cases hlt : j < ps.length
        · have hat : HiAt wr g (j * 4) ps[j] := by
            have hL : (A ++ M ++ ps.drop j)[j]? = some ps[j] := by
              rw [List.getElem?_append_right (by simp; omega)]
              simp [hAM, List.getElem?_eq_getElem hlt]
            have hL2 : j < (A ++ M ++ ps.drop j).length := by simp; omega
            have hL3 : (A ++ M ++ ps.drop j)[j] = ps[j] := by
              rw [List.getElem?_eq_getElem hL2] at hL; exact Option.some.inj hL
            have c0 := flat_get Hi.len (A ++ M ++ ps.drop j) j 0 hL2 (by omega)
            have c1 := flat_get Hi.len (A ++ M ++ ps.drop j) j 1 hL2 (by omega)
            have c2 := flat_get Hi.len (A ++ M ++ ps.drop j) j 2 hL2 (by omega)
            have c3 := flat_get Hi.len (A ++ M ++ ps.drop j) j 3 hL2 (by omega)
            rw [hL3] at c0 c1 c2 c3
            refine ⟨?_, ?_, ?_, ?_⟩
            · rw [hown.cellAt (j * 4) (by omega)]; simpa [Hi.cells] using c0
            · rw [hown.cellAt (j * 4 + 1) (by omega)]; simpa [Hi.cells] using c1
            · rw [hown.cellAt (j * 4 + 2) (by omega)]; simpa [Hi.cells] using c2
            · rw [hown.cellAt (j * 4 + 3) (by omega)]; simpa [Hi.cells] using c3
          have hat0 := hat
          unfold HiAt at hat
          go_wp2_with fail
          refine (Hf.out ps[j] _ (hok j hlt) ?_).mono ?_
          · exact (hb.alloc hbz _)
          rintro e w2 ⟨rfl, hb2⟩
          have hown2 := own_below (own_below hown (bl_alloc (o := .cells #[.int .i64 ps[j].t, .int .i64 ps[j].p, .int .i64 ps[j].s, .int .i64 ps[j].b] 103) (Below.refl _ wr)) (Nat.le_refl _)) hb2 (Nat.le_refl _)
          have hz2 := hb2.size
          simp at hz2
          have hB2 : Below base w w2 := (hb.alloc hbz _).trans (hb2.mono (by simp; omega))
          obtain ⟨hc2, hf2⟩ := bcell hb2
          have hh := heap_alloc_new wr (.cells #[.int .i64 ps[j].t, .int .i64 ps[j].p, .int .i64 ps[j].s, .int .i64 ps[j].b] 103)
          have x0 : w2.cell? ⟨wr.heap.size, 0, none⟩ = some (.int .i64 ps[j].t) := by rw [hc2 _ _ (by simp), cell_of_row _ _ _ _ _ _ hh]; rfl
          have x1 : w2.cell? ⟨wr.heap.size, 1, none⟩ = some (.int .i64 ps[j].p) := by rw [hc2 _ _ (by simp), cell_of_row _ _ _ _ _ _ hh]; rfl
          have x2 : w2.cell? ⟨wr.heap.size, 2, none⟩ = some (.int .i64 ps[j].s) := by rw [hc2 _ _ (by simp), cell_of_row _ _ _ _ _ _ hh]; rfl
          have x3 : w2.cell? ⟨wr.heap.size, 3, none⟩ = some (.int .i64 ps[j].b) := by rw [hc2 _ _ (by simp), cell_of_row _ _ _ _ _ _ hh]; rfl
          clear hh hc2 hf2
          have hne : g ≠ wr.heap.size := by omega
          have hle : A.length < ps.length := by omega
          obtain ⟨⟨v0, c0⟩, f0⟩ := own_cell hown2 (j := A.length * 4) (by omega)
          obtain ⟨⟨v1, c1⟩, f1⟩ := own_cell hown2 (j := A.length * 4 + 1) (by omega)
          obtain ⟨⟨v2, c2⟩, f2⟩ := own_cell hown2 (j := A.length * 4 + 2) (by omega)
          obtain ⟨⟨v3, c3⟩, f3⟩ := own_cell hown2 (j := A.length * 4 + 3) (by omega)
          go_wp2
          · have h1 : (!q ps[j]) = true := by assumption
            have hown3 := own_setCells (ps[j].cells) (A := flat Hi.cells A) (R := flat Hi.cells (M ++ ps.drop j)) (j := A.length * 4) (by rw [← flat_append, ← List.append_assoc]; exact hown2) (by rw [flat_length Hi.len]) (by rw [flat_length Hi.len]; simp [Hi.cells]; omega)
            cases M with
            | nil => simp at hM
            | cons m M =>
              rw [List.cons_append, flat_cons, List.drop_left' (by rfl), List.drop_eq_getElem_cons hlt] at hown3
              clear c0 c1 c2 c3 f0 f1 f2 f3 hown hown2 hat hat0 x0 x1 x2 x3
              refine ⟨?_, ?measure⟩; (repeat apply Exists.intro); refine ⟨?rel, rfl⟩
              case rel =>
                refine ⟨j + 1, A ++ [ps[j]], M ++ [ps[j]], by omega, by go_num, by simp, ?_, by simp only [List.length_append, List.length_cons, List.length_nil] at hAM ⊢; omega, by simp, ?_, ?_, by simp; omega, by simp; omega⟩
                · rw [List.take_succ_eq_append_getElem hlt, List.filter_append, List.filter_cons, List.filter_nil, h1, ← HA.out]; rfl
                · have e : flat Hi.cells (A ++ [ps[j]] ++ (M ++ [ps[j]]) ++ ps.drop (j + 1)) = flat Hi.cells A ++ ps[j].cells ++ flat Hi.cells (M ++ ps[j] :: ps.drop (j + 1)) := by
                    simp [flat_append, flat_cons, flat_nil]
                  rw [e]; exact hown3
                · exact (((hB2.setCell (by simpa using hl1) _).setCell (by simpa using hl1) _).setCell (by simpa using hl1) _).setCell (by simpa using hl1) _
              case measure => simp [intOf]; omega
          · have h1 : (!q ps[j]) = false := by assumption
            clear c0 c1 c2 c3 f0 f1 f2 f3 hown hat hat0 x0 x1 x2 x3
            refine ⟨?_, ?measure⟩; (repeat apply Exists.intro); refine ⟨?rel, rfl⟩
            case rel =>
              refine ⟨j + 1, A, M ++ [ps[j]], by omega, by go_num, rfl, ?_, by simp; omega, by simp, ?_, hB2, by omega, by omega⟩
              · rw [List.take_succ_eq_append_getElem hlt, List.filter_append, List.filter_cons, List.filter_nil, h1, ← HA.out]; simp
              · have e : A ++ (M ++ [ps[j]]) ++ ps.drop (j + 1) = A ++ M ++ ps.drop j := by rw [List.drop_eq_getElem_cons hlt]; simp
                rw [e]; exact hown2
            case measure => simp [intOf]; omega
        · have hjn : j = ps.length := by omega
          subst hjn
          rw [List.drop_length, List.append_nil, flat_append] at hown
          have HA' := HA.out
          rw [List.take_length] at HA'
          have HB := Lib.hid HA'; clear HA'
          have hle : A.length ≤ ps.length := by omega
          have hcap : ps.length ≤ cap := by obtain ⟨a', cap', he, -, h, -⟩ := own_at hown; cases he; exact h
          have hcap2 : A.length ≤ cap := by omega
          obtain ⟨w3, hcl, hown3, hgr⟩ := own_clear (P := Try.prog) (ty := 0) (c := cap - A.length) Try.underlying56 zeroHi (by rfl) Hi.one0 hown (flat_length Hi.len A) hle (by omega)
          have hb3 : Below base w w3 := hb.grown hgr hbz (by intro k hk; cases hk; exact hl1)
          clear hown hb hgr
          go_wp2
          go_ret
          exact ⟨_, rfl, by rw [← HB.out]; exact hown3, hb3⟩
end Go.Proofs.Ytmeefmoblkiebaa
/- Contracts: which pushes and falls are valid (the program). -/
namespace Go.Proofs.Ytmeefmoblkiebaa
open Go.RowKit
set_option linter.unusedVariables false
set_option linter.unusedSimpArgs false
set_option maxHeartbeats 400000
set_option maxRecDepth 100000
theorem pushOk_any (p : Pu) (hp : p.ok) (w : World) :
    Calls Try.prog 67 #[p.val] w fun e w' => e = .returned (.bool (plainPu p)) ∧ Below w.heap.size w w' := by
  obtain ⟨h1, h2, ⟨h3, h4⟩, ⟨h5, h6⟩⟩ := hp
  have s1 := wrap_i8 h3 h4
  have s2 := wrap_i16 h5 h6
  rcases Bool.eq_false_or_eq_true (inB p.s 0 3) with g1 | g1
  · have HV := Lib.hid (show plainPu p = inB p.t 0 1000 by unfold plainPu; rw [g1]; rfl)
    go_enter Try.func67, Try.ntmps67
    go_wp2_with fail
    refine (isSide_any p.s _).mono ?_
    rintro e w' ⟨rfl, rfl⟩
    rw [g1]
    go_wp2_with fail
    refine (in_any p.t 0 1000 _).mono ?_
    rintro e w' ⟨rfl, rfl⟩
    go_wp2
    go_ret
    exact ⟨by rw [HV.out]; rfl, (by repeat (first | with_reducible exact Below.refl _ _ | with_reducible assumption | with_reducible apply bl_drewN | with_reducible apply bl_drew | with_reducible apply bl_alloc | (with_reducible refine bl_set ?_ (by first | (simp; done) | (simp; omega)) _) | with_reducible refine bl_trans ?_ (by with_reducible assumption)))⟩
  · have HV := Lib.hid (show plainPu p = false by unfold plainPu; rw [g1]; rfl)
    go_enter Try.func67, Try.ntmps67
    go_wp2_with fail
    refine (isSide_any p.s _).mono ?_
    rintro e w' ⟨rfl, rfl⟩
    rw [g1]
    go_wp2
    go_ret
    exact ⟨by rw [HV.out]; rfl, (by repeat (first | with_reducible exact Below.refl _ _ | with_reducible assumption | with_reducible apply bl_drewN | with_reducible apply bl_drew | with_reducible apply bl_alloc | (with_reducible refine bl_set ?_ (by first | (simp; done) | (simp; omega)) _) | with_reducible refine bl_trans ?_ (by with_reducible assumption)))⟩
theorem badPush_any (p : Pu) (hp : p.ok) (w : World) :
    Calls Try.prog 41 #[p.val] w fun e w' => e = .returned (.bool (!plainPu p)) ∧ Below w.heap.size w w' := by
  have H := Lib.hid (fun w' => pushOk_any p hp w')
  go_enter Try.func41, Try.ntmps41
  go_wp2_with fail
  refine (H.out _).mono ?_
  rintro e w1 ⟨rfl, hb1⟩
  go_wp2
  go_ret
  exact ⟨rfl, (by repeat (first | with_reducible exact Below.refl _ _ | with_reducible assumption | with_reducible apply bl_drewN | with_reducible apply bl_drew | with_reducible apply bl_alloc | (with_reducible refine bl_set ?_ (by first | (simp; done) | (simp; omega)) _) | with_reducible refine bl_trans ?_ (by with_reducible assumption)))⟩
theorem eg_badPush (args : Array Value) (w : World) : (callFunc 41 args).run Try.prog w = .ok (.enter 41 args) w := by kernel_rfl
theorem validPushes1_any (b : Nat) (l : Bd) (p : Pu) (w : World) (h : BP w b l) (hok : l.ok) (hn : l.ps.length ≤ 10000000) :
    Calls Try.prog 42 #[p.val, .pointer (some ⟨b, 0, none⟩)] w fun e w' => e = .returned (.bool (decide (fnd ⟨p.x, p.y⟩ l.ps < 0))) ∧ Below w.heap.size w w' := by
  have H := Lib.hid (at_any b l ⟨p.x, p.y⟩ _ (h.step (bl_alloc (o := .cells #[.int .i8 p.x, .int .i8 p.y, .int .i8 p.s, .int .i16 p.t] 71) (Below.refl _ _))) hok hn)
  go_enter Try.func42, Try.ntmps42
  go_wp2_with fail
  refine H.out.mono ?_
  rintro e w1 ⟨rfl, hb⟩
  go_wp2
  go_ret
  exact ⟨rfl, (by repeat (first | with_reducible exact Below.refl _ _ | with_reducible assumption | with_reducible apply bl_drewN | with_reducible apply bl_drew | with_reducible apply bl_alloc | (with_reducible refine bl_set ?_ (by first | (simp; done) | (simp; omega)) _) | with_reducible refine bl_trans ?_ (by with_reducible assumption)))⟩
theorem eg_ValidPushes1 (args : Array Value) (w : World) : (callFunc 42 args).run Try.prog w = .ok (.enter 42 args) w := by kernel_rfl
theorem any_not {α : Type} (f : α → Bool) (xs : List α) : xs.any (fun x => !f x) = !xs.all f := by
  induction xs with
  | nil => rfl
  | cons x xs ih => rw [List.any_cons, List.all_cons, ih, Bool.not_and]
theorem validPushes_any (wd hg : Int) (s : Value) (ps : List Pc) (v1 : Value) (pl : List Pu) (w : World) (hps : PV w s ps) (hok : (Bd.mk wd hg ps).ok) (hn : ps.length ≤ 9000000)
    (h1 : SV Pu.cells w v1 pl) (ok1 : PusOk pl) (n1 : pl.length ≤ 9000000) :
    Calls Try.prog 18 #[bdv wd hg s, v1] w fun e w' => e = .returned (.bool (vBd ⟨wd, hg, ps⟩ && vPus ⟨wd, hg, ps⟩ pl)) ∧ Below w.heap.size w w' := by
  obtain ⟨a, cap, rfl, hps⟩ := hps
  obtain ⟨a1, cap1, rfl, h1⟩ := h1
  have HB := Lib.hid (BP.new (l := ⟨wd, hg, ps⟩) (w := w) ⟨a, cap, rfl, hps⟩ 27)
  have HV := Lib.hid (fun w1 (hb : Below w.heap.size w w1) => validBoard_any wd hg a cap ps w1 ((hps.below hb (Nat.le_refl _)).mono hb.size) hok (by omega))
  have HC1 := Lib.hid (fun w1 (hb : Below w.heap.size w w1) => containsFuncPu_any (B := w.heap.size) 41 #[] a1 cap1 pl w1 (h1.below hb (Nat.le_refl _)) ok1 hb.size (by omega) eg_badPush (fun p => !plainPu p) (fun p w2 hp hb2 => badPush_any p hp w2))
  have HC2 := Lib.hid (fun w1 (hb : Below w.heap.size w w1) (hB : BP w1 w.heap.size ⟨wd, hg, ps⟩) => containsFuncPu_any (B := w.heap.size) 42 #[.pointer (some ⟨w.heap.size, 0, none⟩)] a1 cap1 pl w1 (h1.below hb (Nat.le_refl _)) ok1 hb.size (by omega) eg_ValidPushes1 (fun p => decide (fnd ⟨p.x, p.y⟩ ps < 0)) (fun p w2 hp hb2 => validPushes1_any w.heap.size ⟨wd, hg, ps⟩ p w2 (hB.step hb2) hok (show ps.length ≤ 10000000 by omega)))
  have e1 : pl.any (fun p => !plainPu p) = !pl.all plainPu := any_not _ _
  have e2 : pl.any (fun p => decide (fnd ⟨p.x, p.y⟩ ps < 0)) = !pl.all (fun p => decide (0 ≤ fnd ⟨p.x, p.y⟩ ps)) := by
    rw [← any_not]
    congr 1
    funext p
    by_cases h : fnd ⟨p.x, p.y⟩ ps < 0
    · rw [decide_eq_true h, decide_eq_false (by omega)]; rfl
    · rw [decide_eq_false h, decide_eq_true (by omega)]; rfl
  rw [e1] at HC1
  rw [e2] at HC2
  have HR : Hid (∀ r, r = (vBd ⟨wd, hg, ps⟩ && ((decide (pl.length ≤ 20) && pl.all plainPu) && pl.all (fun p => decide (0 ≤ fnd ⟨p.x, p.y⟩ ps)))) → r = (vBd ⟨wd, hg, ps⟩ && vPus ⟨wd, hg, ps⟩ pl)) := Lib.hid (fun r h => h)
  clear e1 e2 h1 hps
  generalize hvb : (vBd ⟨wd, hg, ps⟩ && vPus ⟨wd, hg, ps⟩ pl) = RR at HR
  clear hvb
  generalize vBd ⟨wd, hg, ps⟩ = g0 at HV HR
  generalize pl.all plainPu = g1 at HC1 HR
  generalize pl.all (fun p => decide (0 ≤ fnd ⟨p.x, p.y⟩ ps)) = g2 at HC2 HR
  have hba : Below w.heap.size w (w.alloc (.cells #[.int .i8 wd, .int .i8 hg, .slice a ps.length cap] 27)) := bl_alloc (Below.refl _ _)
  have HBA := Lib.hid hba
  clear hba
  cases g0 with
  | false =>
    have HRR := Lib.hid (HR.out false rfl)
    go_enter Try.func18, Try.ntmps18
    go_wp2_with fail
    refine (HV.out _ HBA.out).mono ?_
    rintro e w1 ⟨rfl, hb1⟩
    go_wp2
    go_ret
    exact ⟨by rw [← HRR.out]; rfl, bl_trans HBA.out hb1⟩
  | true =>
    by_cases hle : pl.length ≤ 20
    · have hgd : decide (20 < pl.length) = false := decide_eq_false (by omega)
      cases g1 with
      | false =>
        have HRR := Lib.hid (HR.out false (by rw [Bool.and_false]; rfl))
        go_enter Try.func18, Try.ntmps18
        go_wp2_with fail
        refine (HV.out _ HBA.out).mono ?_
        rintro e w1 ⟨rfl, hb1⟩
        have hb01 := bl_trans HBA.out hb1
        have HB01 := Lib.hid hb01
        clear hb01
        go_wp2_with fail
        refine (HC1.out _ HB01.out).mono ?_
        rintro e w2 ⟨rfl, hb2⟩
        go_wp2
        go_ret
        exact ⟨by rw [← HRR.out]; rfl, bl_trans HB01.out hb2⟩
      | true =>
        have HRR := Lib.hid (HR.out g2 (by rw [decide_eq_true hle]; simp))
        go_enter Try.func18, Try.ntmps18
        go_wp2_with fail
        refine (HV.out _ HBA.out).mono ?_
        rintro e w1 ⟨rfl, hb1⟩
        have hb01 := bl_trans HBA.out hb1
        have HB01 := Lib.hid hb01
        have HB1 := Lib.hid (HB.out.step hb1)
        clear hb01
        go_wp2_with fail
        refine (HC1.out _ HB01.out).mono ?_
        rintro e w2 ⟨rfl, hb2⟩
        have hb02 := bl_trans HB01.out hb2
        have HB02 := Lib.hid hb02
        have HB2 := Lib.hid (HB1.out.step hb2)
        clear hb02
        go_wp2_with fail
        refine (HC2.out _ HB02.out HB2.out).mono ?_
        rintro e w3 ⟨rfl, hb3⟩
        go_wp2
        go_ret
        exact ⟨by rw [← HRR.out]; simp, bl_trans HB02.out hb3⟩
    · have HRR := Lib.hid (HR.out false (by rw [decide_eq_false hle]; rfl))
      have hgd : decide (20 < pl.length) = true := decide_eq_true (by omega)
      go_enter Try.func18, Try.ntmps18
      go_wp2_with fail
      refine (HV.out _ HBA.out).mono ?_
      rintro e w1 ⟨rfl, hb1⟩
      go_wp2
      go_ret
      exact ⟨by rw [← HRR.out]; rfl, bl_trans HBA.out hb1⟩
theorem firstWrong1_any (f : Fa) (hp : f.ok) (w : World) :
    Calls Try.prog 20 #[f.val] w fun e w' => e = .returned (.bool (!okFall f)) ∧ Below w.heap.size w w' := by
  obtain ⟨-, ⟨h3, h4⟩, -⟩ := hp
  have s1 := wrap_i8 h3 h4
  rcases Bool.eq_false_or_eq_true (inB f.t (-1) 1000000) with g1 | g1
  · have HV := Lib.hid (show okFall f = inB f.f 0 3 by unfold okFall; rw [g1]; rfl)
    go_enter Try.func20, Try.ntmps20
    go_wp2_with fail
    refine (in_any f.t (-1) 1000000 _).mono ?_
    rintro e w' ⟨rfl, rfl⟩
    rw [g1]
    go_wp2_with fail
    refine (isSide_any f.f _).mono ?_
    rintro e w' ⟨rfl, rfl⟩
    go_wp2
    go_ret
    exact ⟨by rw [HV.out]; rfl, (by repeat (first | with_reducible exact Below.refl _ _ | with_reducible assumption | with_reducible apply bl_drewN | with_reducible apply bl_drew | with_reducible apply bl_alloc | (with_reducible refine bl_set ?_ (by first | (simp; done) | (simp; omega)) _) | with_reducible refine bl_trans ?_ (by with_reducible assumption)))⟩
  · have HV := Lib.hid (show okFall f = false by unfold okFall; rw [g1]; rfl)
    go_enter Try.func20, Try.ntmps20
    go_wp2_with fail
    refine (in_any f.t (-1) 1000000 _).mono ?_
    rintro e w' ⟨rfl, rfl⟩
    rw [g1]
    go_wp2
    go_ret
    exact ⟨by rw [HV.out]; rfl, (by repeat (first | with_reducible exact Below.refl _ _ | with_reducible assumption | with_reducible apply bl_drewN | with_reducible apply bl_drew | with_reducible apply bl_alloc | (with_reducible refine bl_set ?_ (by first | (simp; done) | (simp; omega)) _) | with_reducible refine bl_trans ?_ (by with_reducible assumption)))⟩
theorem eg_FirstWrong1 (args : Array Value) (w : World) : (callFunc 20 args).run Try.prog w = .ok (.enter 20 args) w := by kernel_rfl
end Go.Proofs.Ytmeefmoblkiebaa
/- Contracts: the hits of pushes. -/
namespace Go.Proofs.Ytmeefmoblkiebaa
open Go.RowKit
set_option linter.unusedVariables false
set_option linter.unusedSimpArgs false
set_option maxHeartbeats 400000
set_option maxRecDepth 100000
def hitOf (l : Bd) (p : Pu) : Hi := ⟨p.t, fnd ⟨p.x, p.y⟩ l.ps, p.s, -1⟩
set_option maxHeartbeats 1600000 in
theorem hitsOf_any {B : Nat} (b0 : Nat) (l : Bd) (a : Option Addr) (cap : Nat) (pl : List Pu) (w : World) (hbp : BP w b0 l) (hlok : l.ok) (hln : l.ps.length ≤ 10000000) (h : SlAt B w a (flat Pu.cells pl)) (hpl : pl.all plainPu = true) (hB : B ≤ w.heap.size) (hn : pl.length ≤ 20) :
    Calls Try.prog 24 #[.pointer (some ⟨b0, 0, none⟩), .slice a pl.length cap] w fun e w' => ∃ v, e = .returned v ∧
      w'.ownsRow w.heap.size 103 4 v pl.length (flat Hi.cells (pl.map (hitOf l))) ∧ Below w.heap.size w w' := by
  have HBP := Lib.hid hbp
  have hbl := hbp.1
  have HPL := Lib.hid hpl
  clear hpl hbp
  obtain ⟨i0, hi, hiz0, hiz1, hiz2⟩ := info_parts Try.infoHit
  go_enter Try.func24, Try.ntmps24
  go_wp2
  go_loopw [5, 11] (fun v i wr => ∃ k : Nat, k ≤ pl.length ∧ i = .int .i64 k ∧ wr.ownsRow w.heap.size 103 4 v k (flat Hi.cells ((pl.take k).map (hitOf l))) ∧ Below w.heap.size w wr) (fun _ i _ => pl.length - (intOf i).toNat)
  case atStart => exact ⟨0, by omega, rfl, World.ownsRow_made w _ 0 (Nat.le_refl _) (by simp [maxLen]) rfl, (by repeat (first | with_reducible exact Below.refl _ _ | with_reducible assumption | with_reducible apply bl_drewN | with_reducible apply bl_drew | with_reducible apply bl_alloc | (with_reducible refine bl_set ?_ (by first | (simp; done) | (simp; omega)) _) | with_reducible refine bl_trans ?_ (by with_reducible assumption)))⟩
  case round =>
    obtain ⟨k, hk, rfl, hown, hb⟩ := hrel
    have hzb := hb.size
    by_cases hlt : k < pl.length
    · obtain ⟨b, off, rfl, hbl2, hat⟩ := pus_get (h.below hb hB) hlt
      have hplj : plainPu pl[k] = true := by
        have := HPL.out
        rw [List.all_eq_true] at this
        exact this _ (List.getElem_mem hlt)
      unfold plainPu inB at hplj
      simp only [Bool.and_eq_true, decide_eq_true_eq] at hplj
      obtain ⟨⟨e1, e2⟩, e3, e4⟩ := hplj
      unfold PuAt at hat
      have HA := Lib.hid (fun (w' : World) (hb' : Below w.heap.size w w') => at_any b0 l ⟨pl[k].x, pl[k].y⟩ w' (HBP.out.step hb') hlok hln)
      have s1 : IntKind.i64.wrap pl[k].s = pl[k].s := by rw [IntKind.wrap_i64]; omega
      have s2 : IntKind.i64.wrap pl[k].t = pl[k].t := by rw [IntKind.wrap_i64]; omega
      go_upto_region 5 with fail
      have HNE : Hid (some wr.heap.size ≠ u5.ownBlock) := Lib.hid (fun e => by have := (hown.lt _ e.symm).2; omega)
      have hh := heap_alloc_new wr (.cells #[.int .i8 pl[k].x, .int .i8 pl[k].y, .int .i8 pl[k].s, .int .i16 pl[k].t] 71)
      have hbW : Below w.heap.size w (wr.alloc (.cells #[.int .i8 pl[k].x, .int .i8 pl[k].y, .int .i8 pl[k].s, .int .i16 pl[k].t] 71)) := bl_alloc hb
      have hoW := own_below hown (bl_alloc (o := .cells #[.int .i8 pl[k].x, .int .i8 pl[k].y, .int .i8 pl[k].s, .int .i16 pl[k].t] 71) (Below.refl _ wr)) (Nat.le_refl _)
      have hsW : wr.heap.size < (wr.alloc (.cells #[.int .i8 pl[k].x, .int .i8 pl[k].y, .int .i8 pl[k].s, .int .i16 pl[k].t] 71)).heap.size := by simp
      obtain ⟨W, hW⟩ : ∃ W, W = wr.alloc (.cells #[.int .i8 pl[k].x, .int .i8 pl[k].y, .int .i8 pl[k].s, .int .i16 pl[k].t] 71) := ⟨_, rfl⟩
      rw [← hW] at hh hbW hoW hsW ⊢
      clear hW hown hb hat h
      obtain ⟨g7, hg7⟩ : ∃ g, g = wr.heap.size := ⟨_, rfl⟩
      rw [← hg7] at hh hsW hzb HNE ⊢
      clear hg7
      have m0 : W.cell? ⟨g7, 0, none⟩ = some (.int .i8 pl[k].x) := by rw [cell_of_row _ _ _ _ _ _ hh]; rfl
      have m1 : W.cell? ⟨g7, 1, none⟩ = some (.int .i8 pl[k].y) := by rw [cell_of_row _ _ _ _ _ _ hh]; rfl
      have m2 : W.cell? ⟨g7, 2, none⟩ = some (.int .i8 pl[k].s) := by rw [cell_of_row _ _ _ _ _ _ hh]; rfl
      have m3 : W.cell? ⟨g7, 3, none⟩ = some (.int .i16 pl[k].t) := by rw [cell_of_row _ _ _ _ _ _ hh]; rfl
      clear hh
      have HOW := Lib.hid hoW
      have HBW := Lib.hid hbW
      clear hoW hbW
      have hk32 : (k + 1) * 32 ≤ 140737488355328 := by omega
      go_region_held3 (fun w' => w'.cell? ⟨g7, 0, none⟩ = some (.int .i8 pl[k].x) ∧ w'.cell? ⟨g7, 1, none⟩ = some (.int .i8 pl[k].y) ∧ w'.cell? ⟨g7, 2, none⟩ = some (.int .i8 pl[k].s) ∧ w'.cell? ⟨g7, 3, none⟩ = some (.int .i16 pl[k].t)) (first | go_keep | (go_split_ands; refine ⟨?_, ?_, ?_, ?_⟩ <;> (rw [hgrow.cell_far _ (by simp; omega) HNE.out]; assumption))) (first | (go_at_call 43; refine (HA.out _ ?_).mono ?_; (exact bl_trans HBW.out (by repeat (first | with_reducible exact Below.refl _ _ | with_reducible assumption | with_reducible apply bl_drewN | with_reducible apply bl_drew | with_reducible apply bl_alloc | (with_reducible refine bl_set ?_ (by first | (simp; done) | (simp; omega)) _) | with_reducible refine bl_trans ?_ (by with_reducible assumption)))); rintro e wa ⟨rfl, ba⟩; have bwa : Below W.heap.size W wa := (by repeat (first | with_reducible exact Below.refl _ _ | with_reducible assumption | with_reducible apply bl_drewN | with_reducible apply bl_drew | with_reducible apply bl_alloc | (with_reducible refine bl_set ?_ (by first | (simp; done) | (simp; omega)) _) | with_reducible refine bl_trans ?_ (by with_reducible assumption))); obtain ⟨hca, hfa⟩ := bcell bwa; have hza := bwa.size) | (refine step_append_lies _ (by rfl) _ _ _ (by rfl) w.heap.size 103 i0 _ 4 32 Try.underlying56 hi hiz0 hiz1 hiz2 rfl (by omega) u5 k (flat Hi.cells ((pl.take k).map (hitOf l))) (by rfl) (own_below HOW.out (bl_trans (by repeat (first | with_reducible exact Below.refl _ _ | with_reducible assumption | with_reducible apply bl_drewN | with_reducible apply bl_drew | with_reducible apply bl_alloc | (with_reducible refine bl_set ?_ (by first | (simp; done) | (simp; omega)) _) | with_reducible refine bl_trans ?_ (by with_reducible assumption))) (bl_alloc (Below.refl _ _))) (Nat.le_refl _)) ⟨wa.heap.size, 0, none⟩ 1 1 (Hi.cells (hitOf l pl[k])) (by rfl) (by rfl) (World.news_of_block (cs := #[.int .i64 pl[k].t, .int .i64 (fnd ⟨pl[k].x, pl[k].y⟩ l.ps), .int .i64 pl[k].s, .int .i64 (-1)]) (t := 103) (fr := (0, 0)) (heap_alloc_new _ _)) (Hi.one _) (by omega) (by unfold maxLen; omega) hk32 (by simp; omega) _ rfl ?_; intro gg cap3 w3 hown3 hgrow hat3 hlt3))
      have hb3 : Below w.heap.size w w3 := bl_grown (bl_trans HBW.out (by repeat (first | with_reducible exact Below.refl _ _ | with_reducible assumption | with_reducible apply bl_drewN | with_reducible apply bl_drew | with_reducible apply bl_alloc | (with_reducible refine bl_set ?_ (by first | (simp; done) | (simp; omega)) _) | with_reducible refine bl_trans ?_ (by with_reducible assumption)))) hgrow (fun q hq => (HOW.out.lt q hq).1)
      have htk : pl.take (k + 1) = pl.take k ++ [pl[k]] := List.take_succ_eq_append_getElem hlt
      go_wp2
      go_roundw
      case rel => exact ⟨k + 1, by omega, by go_num, by rw [htk, List.map_append, flat_append]; exact hown3, hb3⟩
      case measure => simp [intOf]; omega
    · have hkn : k = pl.length := by omega
      subst hkn
      rw [List.take_length] at hown
      go_wp2
      go_ret
      exact ⟨_, rfl, hown, hb⟩
end Go.Proofs.Ytmeefmoblkiebaa
/- A board that is ready to be run: plain words. -/
namespace Go.Proofs.Ytmeefmoblkiebaa
open Go.RowKit
set_option linter.unusedVariables false
set_option linter.unusedSimpArgs false
set_option maxHeartbeats 400000
set_option maxRecDepth 100000
theorem fnd_lo (c : Ce) (ps : List Pc) : fnd c ps = -1 ∨ (0 ≤ fnd c ps ∧ fnd c ps < ps.length) := by
  unfold fnd
  cases hf : ps.findIdx? (fun p => decide (p.at_ = c)) with
  | none => left; rfl
  | some k =>
    rw [List.findIdx?_eq_some_iff_getElem] at hf
    obtain ⟨g1, -, -⟩ := hf
    right
    simp only [Option.elim]
    omega
theorem fnd_snoc (c : Ce) (ps : List Pc) (p : Pc) : fnd c (ps ++ [p]) = if 0 ≤ fnd c ps then fnd c ps else if p.at_ = c then (ps.length : Int) else -1 := by
  unfold fnd
  rw [List.findIdx?_append]
  cases hf : ps.findIdx? (fun p => decide (p.at_ = c)) with
  | none =>
    by_cases h : p.at_ = c
    · simp [h]
    · simp [h]
  | some k => simp
theorem fnd_mem (c : Ce) (ps : List Pc) (h : 0 ≤ fnd c ps) : c ∈ ps.map Pc.at_ := by
  unfold fnd at h
  cases hf : ps.findIdx? (fun p => decide (p.at_ = c)) with
  | none => rw [hf] at h; simp at h
  | some k =>
    rw [List.findIdx?_eq_some_iff_getElem] at hf
    obtain ⟨g1, g2, -⟩ := hf
    exact List.mem_map.2 ⟨ps[k], List.getElem_mem g1, by simpa using g2⟩
/-- A map from cells to the places of pieces. -/
def PlaceOk (ps : List Pc) (kv : List (Ce × Value)) : Prop := ∀ c, mget c kv = if 0 ≤ fnd c ps then some (.int .i64 (fnd c ps)) else none
theorem placeOk_nil : PlaceOk [] [] := by intro c; rfl
theorem placeOk_succ (ps : List Pc) (hnd : (ps.map Pc.at_).Nodup) (k : Nat) (h : k < ps.length) (kv : List (Ce × Value)) (h0 : PlaceOk (ps.take k) kv) : PlaceOk (ps.take (k + 1)) (mput ps[k].at_ (.int .i64 k) kv) := by
  intro d
  rw [mget_put, List.take_succ_eq_append_getElem h, fnd_snoc, h0 d]
  have hl : (ps.take k).length = k := by rw [List.length_take, Nat.min_eq_left (by omega)]
  rw [hl]
  by_cases hd : d = ps[k].at_
  · subst hd
    have hno : ¬ 0 ≤ fnd ps[k].at_ (ps.take k) := by
      intro h1
      have h2 := fnd_mem _ _ h1
      have e : ps.map Pc.at_ = (ps.take k).map Pc.at_ ++ (ps.drop k).map Pc.at_ := by rw [← List.map_append, List.take_append_drop]
      rw [e, List.nodup_append] at hnd
      exact hnd.2.2 _ h2 _ (List.mem_map.2 ⟨ps[k], by rw [List.drop_eq_getElem_cons h]; exact List.mem_cons_self, rfl⟩) rfl
    rw [if_pos rfl, if_neg hno, if_pos rfl, if_pos (by omega)]
  · rw [if_neg hd]
    by_cases h1 : 0 ≤ fnd d (ps.take k)
    · simp only [if_pos h1]
    · have e2 : ¬ ps[k].at_ = d := fun e => hd e.symm
      simp only [if_neg h1, if_neg e2]
      rfl
/-- The bits of the sides from which a piece can fall, of the first m sides. -/
def canTo (p : Pc) (m : Nat) : Int := (List.range m).foldl (fun (n : Int) (s : Nat) => if 0 ≤ hitsV p.k p.t s then bits .or .u8 n (orL [(s : Int)]) else n) 0
theorem canTo_succ (p : Pc) (m : Nat) : canTo p (m + 1) = if 0 ≤ hitsV p.k p.t m then bits .or .u8 (canTo p m) (orL [(m : Int)]) else canTo p m := by
  unfold canTo
  rw [List.range_succ, List.foldl_append]
  rfl
def orB (b0 b1 b2 b3 : Bool) : Int :=
  let n0 : Int := if b0 then bits .or .u8 0 (orL [0]) else 0
  let n1 : Int := if b1 then bits .or .u8 n0 (orL [1]) else n0
  let n2 : Int := if b2 then bits .or .u8 n1 (orL [2]) else n1
  if b3 then bits .or .u8 n2 (orL [3]) else n2
theorem canTo_orB (p : Pc) : canTo p 4 = orB (decide (0 ≤ hitsV p.k p.t 0)) (decide (0 ≤ hitsV p.k p.t 1)) (decide (0 ≤ hitsV p.k p.t 2)) (decide (0 ≤ hitsV p.k p.t 3)) := by
  rw [canTo_succ, canTo_succ, canTo_succ, canTo_succ]
  unfold orB
  simp only [decide_eq_true_eq]
  rfl
theorem orB_bits : ∀ b0 b1 b2 b3 : Bool, 0 ≤ orB b0 b1 b2 b3 ∧ orB b0 b1 b2 b3 ≤ 15 ∧ decide (orB b0 b1 b2 b3 / 2 ^ 0 % 2 = 1) = b0 ∧ decide (orB b0 b1 b2 b3 / 2 ^ 1 % 2 = 1) = b1 ∧ decide (orB b0 b1 b2 b3 / 2 ^ 2 % 2 = 1) = b2 ∧ decide (orB b0 b1 b2 b3 / 2 ^ 3 % 2 = 1) = b3 := by decide +kernel
def canV (p : Pc) : Int := canTo p 4
theorem canV_bd (p : Pc) : 0 ≤ canV p ∧ canV p ≤ 15 := by
  unfold canV
  rw [canTo_orB]
  exact ⟨(orB_bits _ _ _ _).1, (orB_bits _ _ _ _).2.1⟩
theorem canV_has (p : Pc) (s : Int) (h1 : 0 ≤ s) (h2 : s ≤ 3) : decide (canV p / 2 ^ s.toNat % 2 = 1) = decide (0 ≤ hitsV p.k p.t s) := by
  unfold canV
  rw [canTo_orB]
  obtain ⟨-, -, e0, e1, e2, e3⟩ := orB_bits (decide (0 ≤ hitsV p.k p.t 0)) (decide (0 ≤ hitsV p.k p.t 1)) (decide (0 ≤ hitsV p.k p.t 2)) (decide (0 ≤ hitsV p.k p.t 3))
  have hs : s = 0 ∨ s = 1 ∨ s = 2 ∨ s = 3 := by omega
  rcases hs with rfl | rfl | rfl | rfl
  · exact e0
  · exact e1
  · exact e2
  · exact e3
theorem hits_le : ∀ k : Fin 6, ∀ t : Fin 4, ∀ s : Fin 4, hitsV ((k : Nat) : Int) ((t : Nat) : Int) ((s : Nat) : Int) ≤ 15 := by decide +kernel
theorem hitsV_le (k t s : Int) (h1 : 0 ≤ k) (h2 : k ≤ 5) (h3 : 0 ≤ t) (h4 : t ≤ 3) (h5 : 0 ≤ s) (h6 : s ≤ 3) : hitsV k t s ≤ 15 := by
  have := hits_le ⟨k.toNat, by omega⟩ ⟨t.toNat, by omega⟩ ⟨s.toNat, by omega⟩
  simpa [Int.toNat_of_nonneg h1, Int.toNat_of_nonneg h3, Int.toNat_of_nonneg h5] using this
def hv0 (p : Pc) (s : Int) : Int := max (hitsV p.k p.t s) 0
/-- The rows of a stage. -/
def canC (p : Pc) : List Value := [.int .u8 (canV p)]
def hitC (p : Pc) : List Value := [.int .u8 (hv0 p 0), .int .u8 (hv0 p 1), .int .u8 (hv0 p 2), .int .u8 (hv0 p 3)]
def besV (ps : List Pc) (p : Pc) (s : Int) : Int := fnd (nxt p.at_ s) ps
def besC (ps : List Pc) (p : Pc) : List Value := [.int .i64 (besV ps p 0), .int .i64 (besV ps p 1), .int .i64 (besV ps p 2), .int .i64 (besV ps p 3)]
theorem canC_len (p : Pc) : (canC p).length = 1 := rfl
theorem hitC_len (p : Pc) : (hitC p).length = 4 := rfl
theorem besC_len (ps : List Pc) (p : Pc) : (besC ps p).length = 4 := rfl
theorem canC_one (p : Pc) : ∀ u ∈ canC p, u.oneCell' = true := by
  intro u hu
  simp only [canC, List.mem_cons, List.not_mem_nil, or_false] at hu
  subst hu; rfl
theorem hitC_one (p : Pc) : ∀ u ∈ hitC p, u.oneCell' = true := by
  intro u hu
  simp only [hitC, List.mem_cons, List.not_mem_nil, or_false] at hu
  rcases hu with rfl | rfl | rfl | rfl <;> rfl
theorem besC_one (ps : List Pc) (p : Pc) : ∀ u ∈ besC ps p, u.oneCell' = true := by
  intro u hu
  simp only [besC, List.mem_cons, List.not_mem_nil, or_false] at hu
  rcases hu with rfl | rfl | rfl | rfl <;> rfl
/-- The first m of a row of four. -/
def hitTo (p : Pc) (m : Nat) : List Value := ((hitC p).take m) ++ List.replicate (4 - m) (.int .u8 0)
def besTo (ps : List Pc) (p : Pc) (m : Nat) : List Value := ((besC ps p).take m) ++ List.replicate (4 - m) (.int .i64 0)
theorem hitTo_len (p : Pc) (m : Nat) (h : m ≤ 4) : (hitTo p m).length = 4 := by unfold hitTo; rw [List.length_append, List.length_take, List.length_replicate, hitC_len]; omega
theorem besTo_len (ps : List Pc) (p : Pc) (m : Nat) (h : m ≤ 4) : (besTo ps p m).length = 4 := by unfold besTo; rw [List.length_append, List.length_take, List.length_replicate, besC_len]; omega
theorem hitTo_all (p : Pc) : hitTo p 4 = hitC p := rfl
theorem besTo_all (ps : List Pc) (p : Pc) : besTo ps p 4 = besC ps p := rfl
theorem hitTo_set (p : Pc) (m : Nat) (h : m < 4) : (hitTo p m).set m (.int .u8 (hv0 p m)) = hitTo p (m + 1) := by
  have : m = 0 ∨ m = 1 ∨ m = 2 ∨ m = 3 := by omega
  rcases this with rfl | rfl | rfl | rfl <;> rfl
theorem besTo_set (ps : List Pc) (p : Pc) (m : Nat) (h : m < 4) : (besTo ps p m).set m (.int .i64 (besV ps p m)) = besTo ps p (m + 1) := by
  have : m = 0 ∨ m = 1 ∨ m = 2 ∨ m = 3 := by omega
  rcases this with rfl | rfl | rfl | rfl <;> rfl
/-- A stage in memory. -/
def StAt (w : World) (g : Nat) (l : Bd) : Prop :=
  g < w.heap.size ∧ ∃ v0 v1 v2 v3, (w.cell? ⟨g, 0, none⟩ = some v0 ∧ w.cell? ⟨g, 1, none⟩ = some v1 ∧ w.cell? ⟨g, 2, none⟩ = some v2 ∧ w.cell? ⟨g, 3, none⟩ = some v3) ∧
    PV w v0 l.ps ∧ SV canC w v1 l.ps ∧ SV hitC w v2 l.ps ∧ SV (besC l.ps) w v3 l.ps
theorem StAt.step {w w' : World} {g : Nat} {l : Bd} (h : StAt w g l) (hb : Below w.heap.size w w') : StAt w' g l := by
  obtain ⟨h1, v0, v1, v2, v3, ⟨c0, c1, c2, c3⟩, p0, p1, p2, p3⟩ := h
  refine ⟨Nat.lt_of_lt_of_le h1 hb.size, v0, v1, v2, v3, ⟨?_, ?_, ?_, ?_⟩, p0.step hb, p1.step hb, p2.step hb, p3.step hb⟩
  · rw [hb.cell (p := ⟨g, _, none⟩) h1]; exact c0
  · rw [hb.cell (p := ⟨g, _, none⟩) h1]; exact c1
  · rw [hb.cell (p := ⟨g, _, none⟩) h1]; exact c2
  · rw [hb.cell (p := ⟨g, _, none⟩) h1]; exact c3
end Go.Proofs.Ytmeefmoblkiebaa
