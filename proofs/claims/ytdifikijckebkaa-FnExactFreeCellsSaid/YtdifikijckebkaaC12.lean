/- Contracts for FreeCells: all cells of a board, its free cells. -/
import Derived.Test.YtdifikijckebkaaC11
namespace Go.Proofs.Ytdifikijckebkaa
open Go.RowKit
set_option linter.unusedVariables false
set_option linter.unusedSimpArgs false
set_option maxHeartbeats 400000

/-- The cells of the rows below y, and of row y those left of x. -/
def cellsTo (wd : Nat) (y x : Nat) : List Ce := ((List.range y).flatMap fun (j : Nat) => (List.range wd).map fun (i : Nat) => (⟨(i : Int), (j : Int)⟩ : Ce)) ++ (List.range x).map fun (i : Nat) => (⟨(i : Int), (y : Int)⟩ : Ce)
theorem cellsTo_snoc (wd y x : Nat) : cellsTo wd y (x + 1) = cellsTo wd y x ++ [⟨(x : Int), (y : Int)⟩] := by simp [cellsTo, List.range_succ]
theorem cellsTo_row (wd y : Nat) : cellsTo wd (y + 1) 0 = cellsTo wd y wd := by simp [cellsTo, List.range_succ]
theorem cellsTo_len (wd y x : Nat) : (cellsTo wd y x).length = y * wd + x := by
  induction y with
  | zero => simp [cellsTo]
  | succ y ih =>
    have e : cellsTo wd (y + 1) x = cellsTo wd y wd ++ (List.range x).map fun (i : Nat) => (⟨(i : Int), ((y + 1 : Nat) : Int)⟩ : Ce) := by
      rw [← cellsTo_row]; simp [cellsTo]
    have e2 : (cellsTo wd y wd).length = y * wd + wd := by
      have : (cellsTo wd y wd).length = (cellsTo wd y 0).length + wd := by simp [cellsTo]
      have h3 : (cellsTo wd y x).length = (cellsTo wd y 0).length + x := by simp [cellsTo]
      omega
    rw [e, List.length_append, e2, List.length_map, List.length_range, Nat.succ_mul]
def allC (l : Bd) : List Ce := cellsTo l.wd.toNat l.hg.toNat 0
/-- The free cells, in the order of rows. -/
def freeC (l : Bd) : List Ce := if vBd l = true then (allC l).filter (fun c => decide (fnd c l.ps < 0)) else []
def freeCode (l : Bd) : Int := if vBd l = true then 0 else 1

set_option maxRecDepth 100000 in
theorem cells_any (b : Nat) (l : Bd) (w : World) (h : BP w b l) (h1 : 1 ≤ l.wd) (h2 : l.wd ≤ 24) (h3 : 1 ≤ l.hg) (h4 : l.hg ≤ 24) :
    Calls Try.prog 50 #[.pointer (some ⟨b, 0, none⟩)] w fun e w' => ∃ v, e = .returned v ∧ w'.ownsRow w.heap.size 41 2 v (allC l).length (flat Ce.cells (allC l)) ∧ Below w.heap.size w w' := by
  have h0 := h
  obtain ⟨hbl, s, hbd, -⟩ := h
  unfold BdAt at hbd
  obtain ⟨i0, hi, hz0, hz1, hz2⟩ := info_parts Try.infoCell
  obtain ⟨wn, hwn⟩ : ∃ wn : Nat, (wn : Int) = l.wd := ⟨l.wd.toNat, by omega⟩
  obtain ⟨hn, hhn⟩ : ∃ hn : Nat, (hn : Int) = l.hg := ⟨l.hg.toNat, by omega⟩
  have hL := Lib.hid (show allC l = cellsTo wn hn 0 by unfold allC; congr 1 <;> omega)
  rw [← hwn, ← hhn] at hbd
  have hwn1 : 1 ≤ wn := by omega
  have hwn2 : wn ≤ 24 := by omega
  have hhn1 : 1 ≤ hn := by omega
  have hhn2 : hn ≤ 24 := by omega
  clear hwn hhn h1 h2 h3 h4
  go_enter Try.func50, Try.ntmps50
  go_wp2
  go_loopw [3, 11] (fun o y wr => ∃ k : Nat, k ≤ hn ∧ y = .int .i8 k ∧ wr.ownsRow w.heap.size 41 2 o (cellsTo wn k 0).length (flat Ce.cells (cellsTo wn k 0)) ∧ Below w.heap.size w wr) (fun _ y _ => hn - (intOf y).toNat)
  case atStart => exact ⟨0, by omega, rfl, World.ownsRow_made _ _ 0 (Nat.le_refl _) (by simp [maxLen]) rfl, (by repeat (first | with_reducible exact Below.refl _ _ | with_reducible assumption | with_reducible apply bl_drewN | with_reducible apply bl_drew | with_reducible apply bl_alloc | (with_reducible refine bl_set ?_ (by first | (simp; done) | (simp; omega)) _) | with_reducible refine bl_trans ?_ (by with_reducible assumption)))⟩
  case round =>
    obtain ⟨k, hk, rfl, hown, hb⟩ := hrel
    obtain ⟨hc, hf⟩ := bcell hb
    have hq := hb.size
    by_cases hlt : k < hn
    · go_wp2
      go_loopw [3, 18] (fun o x wr => ∃ j : Nat, j ≤ wn ∧ x = .int .i8 j ∧ wr.ownsRow w.heap.size 41 2 o (cellsTo wn k j).length (flat Ce.cells (cellsTo wn k j)) ∧ Below w.heap.size w wr) (fun _ x _ => wn - (intOf x).toNat)
      case atStart => exact ⟨0, by omega, rfl, hown, hb⟩
      case round =>
        clear hown hb hc hf
        obtain ⟨j, hj, rfl, hown, hb⟩ := hrel
        by_cases hlt2 : j < wn
        · have hkw : k * wn ≤ 24 * 24 := Nat.mul_le_mul (by omega) (by omega)
          have hlen := Lib.hid (cellsTo_len wn k j)
          have hq2 := hb.size
          go_wp2_with (at_builtin; refine wpList_append_sl _ rfl _ _ 51 rfl w.heap.size 41 i0 (.agg #[.int .i8 0, .int .i8 0]) 2 2 Try.underlying51 hi hz0 hz1 hz2 rfl (by decide) _ _ _ rfl (own_below hown (bl_alloc (Below.refl _ _)) (Nat.le_refl _)) (some ⟨_, 0, none⟩) 1 1 [.int .i8 j, .int .i8 k] rfl (sl_new _ #[.int .i8 j, .int .i8 k] _) rfl (Ce.one ⟨j, k⟩) (by rw [hlen.out]; unfold maxLen; omega) (by rw [hlen.out]; omega) (by simp; omega) ?_; intro v1 w1 hown1 hgrow)
          refine ⟨⟨j + 1, by omega, by go_num, ?_, bl_grown (bl_alloc hb) hgrow (fun k hk => (hown.lt k hk).1)⟩, by simp [intOf]; omega⟩
          rw [cellsTo_snoc, List.length_append, flat_append]
          exact hown1
        · go_wp2
          have hjn : j = wn := by omega
          rw [hjn, ← cellsTo_row] at hown
          refine ⟨⟨k + 1, by omega, by go_num, hown, hb⟩, by simp [intOf]; omega⟩
    · go_wp2
      go_ret
      have hkn : k = hn := by omega
      rw [hkn] at hown
      exact ⟨_, rfl, by rw [hL.out]; exact hown, hb⟩
theorem cellsTo_mem (wn y x : Nat) (c : Ce) (h : c ∈ cellsTo wn y x) (hx : x ≤ wn) : 0 ≤ c.x ∧ c.x < wn ∧ 0 ≤ c.y ∧ c.y ≤ y ∧ (c.y < y ∨ 0 < x) := by
  simp only [cellsTo, List.mem_append, List.mem_flatMap, List.mem_map, List.mem_range] at h
  rcases h with ⟨j, hj, i, hi, rfl⟩ | ⟨i, hi, rfl⟩
  · simp; omega
  · simp; omega
theorem allC_in (l : Bd) (c : Ce) (h : c ∈ allC l) : cIn l.wd l.hg c = true := by
  obtain ⟨h1, h2, h3, h4, h5⟩ := cellsTo_mem _ _ _ c h (by omega)
  simp only [cIn, inB, Bool.and_eq_true, decide_eq_true_eq]
  omega
theorem allC_ok (l : Bd) (h1 : l.wd ≤ 24) (h2 : l.hg ≤ 24) : CesOk (allC l) := by
  intro k hk
  obtain ⟨h1, h2, h3, h4, h5⟩ := cellsTo_mem _ _ _ _ (List.getElem_mem hk) (by omega)
  exact ⟨⟨by omega, by omega⟩, ⟨by omega, by omega⟩⟩
theorem vBd_bounds (l : Bd) (h : vBd l = true) : 1 ≤ l.wd ∧ l.wd ≤ 24 ∧ 1 ≤ l.hg ∧ l.hg ≤ 24 ∧ l.ps.length ≤ 200 := by
  simp only [vBd, inB, Bool.and_eq_true, decide_eq_true_eq] at h
  omega
theorem allC_len (l : Bd) (h1 : 1 ≤ l.wd) (h2 : l.wd ≤ 24) (h3 : 1 ≤ l.hg) (h4 : l.hg ≤ 24) : (allC l).length ≤ 576 := by
  unfold allC
  rw [cellsTo_len]
  have : l.hg.toNat * l.wd.toNat ≤ 24 * 24 := Nat.mul_le_mul (by omega) (by omega)
  omega
theorem freeC_len (l : Bd) : (freeC l).length ≤ 576 := by
  unfold freeC
  split
  · rename_i h
    obtain ⟨h1, h2, h3, h4, -⟩ := vBd_bounds l h
    exact Nat.le_trans (List.length_filter_le _ _) (allC_len l h1 h2 h3 h4)
  · simp

theorem freeCells1_any (b : Nat) (l : Bd) (c : Ce) (w : World) (h : BP w b l) (hok : l.ok) (hn : l.ps.length ≤ 10000000) :
    Calls Try.prog 51 #[c.val, .pointer (some ⟨b, 0, none⟩)] w fun e w' => e = .returned (.bool (!fr l c)) ∧ Below w.heap.size w w' := by
  have H := Lib.hid (free_any b l c _ (h.step (bl_alloc (o := .cells #[.int .i8 c.x, .int .i8 c.y] 41) (Below.refl _ _))) hok hn)
  go_enter Try.func51, Try.ntmps51
  go_wp2_with fail
  refine H.out.mono ?_
  rintro e w1 ⟨rfl, hb⟩
  rw [show (cIn l.wd l.hg c && decide (fnd c l.ps < 0)) = fr l c from rfl]
  go_wp2
  go_ret
  exact ⟨rfl, (by repeat (first | with_reducible exact Below.refl _ _ | with_reducible assumption | with_reducible apply bl_drewN | with_reducible apply bl_drew | with_reducible apply bl_alloc | (with_reducible refine bl_set ?_ (by first | (simp; done) | (simp; omega)) _) | with_reducible refine bl_trans ?_ (by with_reducible assumption)))⟩
theorem eg_FreeCells1 (args : Array Value) (w : World) : (callFunc 51 args).run Try.prog w = .ok (.enter 51 args) w := by kernel_rfl
theorem impl_FreeCells_any (wd hg : Int) (s : Value) (ps : List Pc) (w : World) (hps : PV w s ps) (hok : (Bd.mk wd hg ps).ok) (hn : ps.length ≤ 10000000) :
    Calls Try.prog 26 #[bdv wd hg s] w fun e w' => ∃ v, e = .returned (.tuple #[v, .int .i64 (freeCode ⟨wd, hg, ps⟩)]) ∧
      w'.ownsRow w.heap.size 41 2 v (freeC ⟨wd, hg, ps⟩).length (flat Ce.cells (freeC ⟨wd, hg, ps⟩)) ∧ Below w.heap.size w w' := by
  obtain ⟨a, cap, rfl, hps⟩ := hps
  have HB := Lib.hid (BP.new (l := ⟨wd, hg, ps⟩) (w := w) ⟨a, cap, rfl, hps⟩ 39)
  have HV := Lib.hid (fun w1 (hb : Below w.heap.size w w1) => validBoard_any wd hg a cap ps w1 ((hps.below hb (Nat.le_refl _)).mono hb.size) hok hn)
  rcases Bool.eq_false_or_eq_true (vBd ⟨wd, hg, ps⟩) with hv | hv
  · have HC := Lib.hid (show freeCode ⟨wd, hg, ps⟩ = 0 by unfold freeCode; rw [if_pos hv])
    have HF := Lib.hid (show freeC ⟨wd, hg, ps⟩ = (allC ⟨wd, hg, ps⟩).filter (fun c => !(!fr ⟨wd, hg, ps⟩ c)) by
      unfold freeC
      rw [if_pos hv]
      refine List.filter_congr fun c hc => ?_
      have := allC_in _ c hc
      simp [fr, this])
    obtain ⟨b1, b2, b3, b4, b5⟩ := vBd_bounds _ hv
    have HL := Lib.hid (allC_len _ b1 b2 b3 b4)
    have HO := Lib.hid (allC_ok _ b2 b4)
    have CD := Lib.hid (fun (base : Nat) (v : Value) (w2 : World) (hown : w2.ownsRow base 41 2 v (allC ⟨wd, hg, ps⟩).length (flat Ce.cells (allC ⟨wd, hg, ps⟩))) (hbw : base ≤ w2.heap.size) (hbp : ∀ w1, Below base w2 w1 → BP w1 w.heap.size ⟨wd, hg, ps⟩) =>
      deleteFuncCe_any 51 #[.pointer (some ⟨w.heap.size, 0, none⟩)] base v (allC ⟨wd, hg, ps⟩) w2 hown HO.out (by have := HL.out; omega) hbw eg_FreeCells1 (fun c => !fr ⟨wd, hg, ps⟩ c) (fun c w1 _ hb => freeCells1_any w.heap.size ⟨wd, hg, ps⟩ c w1 (hbp w1 hb) hok hn))
    have CC := Lib.hid (fun w1 (h : BP w1 w.heap.size ⟨wd, hg, ps⟩) => cells_any w.heap.size ⟨wd, hg, ps⟩ w1 h b1 b2 b3 b4)
    clear b1 b2 b3 b4 b5
    go_enter Try.func26, Try.ntmps26
    go_wp2_with fail
    refine (HV.out _ (by repeat (first | with_reducible exact Below.refl _ _ | with_reducible assumption | with_reducible apply bl_drewN | with_reducible apply bl_drew | with_reducible apply bl_alloc | (with_reducible refine bl_set ?_ (by first | (simp; done) | (simp; omega)) _) | with_reducible refine bl_trans ?_ (by with_reducible assumption)))).mono ?_
    rintro e w1 ⟨rfl, hb1⟩
    rw [hv]
    have hz := hb1.size
    simp at hz
    have hB1 := (HB.out.step (by repeat (first | with_reducible exact Below.refl _ _ | with_reducible assumption | with_reducible apply bl_drewN | with_reducible apply bl_drew | with_reducible apply bl_alloc | (with_reducible refine bl_set ?_ (by first | (simp; done) | (simp; omega)) _) | with_reducible refine bl_trans ?_ (by with_reducible assumption)))).step hb1
    have HB1 := Lib.hid hB1; clear hB1
    go_wp2_with fail
    refine (CC.out _ HB1.out).mono ?_
    rintro e w2 ⟨v2, rfl, hown2, hb2⟩
    go_wp2_with fail
    refine (CD.out w1.heap.size v2 w2 hown2 hb2.size (fun w3 h3 => HB1.out.step ⟨h3.os.trans hb2.os, h3.tape.trans hb2.tape, h3.output.trans hb2.output, Nat.le_trans hb2.size h3.size, fun k hk => (h3.block k hk).trans (hb2.block k hk)⟩)).mono ?_
    rintro e w3 ⟨v3, rfl, hown3, hb3⟩
    go_wp2
    go_ret2
    refine ⟨_, by rw [HC.out]; rfl, ?_, ?_⟩
    · rw [HF.out]; exact own_mono hown3 (by omega)
    · have hb5 : Below w.heap.size w w2 := (by repeat (first | with_reducible exact Below.refl _ _ | with_reducible assumption | with_reducible apply bl_drewN | with_reducible apply bl_drew | with_reducible apply bl_alloc | (with_reducible refine bl_set ?_ (by first | (simp; done) | (simp; omega)) _) | with_reducible refine bl_trans ?_ (by with_reducible assumption)))
      exact ⟨hb3.os.trans hb5.os, hb3.tape.trans hb5.tape, hb3.output.trans hb5.output, Nat.le_trans hb5.size hb3.size, fun k hk => (hb3.block k (by omega)).trans (hb5.block k hk)⟩
  · have HC := Lib.hid (show freeCode ⟨wd, hg, ps⟩ = 1 by unfold freeCode; rw [if_neg (by simp [hv])])
    have HF := Lib.hid (show freeC ⟨wd, hg, ps⟩ = [] by unfold freeC; rw [if_neg (by simp [hv])])
    go_enter Try.func26, Try.ntmps26
    go_wp2_with fail
    refine (HV.out _ (by repeat (first | with_reducible exact Below.refl _ _ | with_reducible assumption | with_reducible apply bl_drewN | with_reducible apply bl_drew | with_reducible apply bl_alloc | (with_reducible refine bl_set ?_ (by first | (simp; done) | (simp; omega)) _) | with_reducible refine bl_trans ?_ (by with_reducible assumption)))).mono ?_
    rintro e w1 ⟨rfl, hb1⟩
    rw [hv]
    go_wp2
    go_ret2
    exact ⟨_, by rw [HC.out]; rfl, by rw [HF.out]; exact World.ownsRow_nil _ _ _ _, (by repeat (first | with_reducible exact Below.refl _ _ | with_reducible assumption | with_reducible apply bl_drewN | with_reducible apply bl_drew | with_reducible apply bl_alloc | (with_reducible refine bl_set ?_ (by first | (simp; done) | (simp; omega)) _) | with_reducible refine bl_trans ?_ (by with_reducible assumption)))⟩
theorem free_snoc (f : Ce → Bool) (wn k j : Nat) : (cellsTo wn k (j + 1)).filter f = (cellsTo wn k j).filter f ++ (if f ⟨(j : Int), (k : Int)⟩ = true then [⟨(j : Int), (k : Int)⟩] else []) := by
  rw [cellsTo_snoc, List.filter_append, List.filter_cons, List.filter_nil]
set_option maxRecDepth 100000 in
theorem spec_FreeCells_any (wd hg : Int) (s : Value) (ps : List Pc) (w : World) (hps : PV w s ps) (hok : (Bd.mk wd hg ps).ok) (hn : ps.length ≤ 10000000) :
    Calls Try.prog 25 #[bdv wd hg s] w fun e w' => ∃ v, e = .returned (.tuple #[v, .int .i64 (freeCode ⟨wd, hg, ps⟩)]) ∧
      w'.ownsRow w.heap.size 41 2 v (freeC ⟨wd, hg, ps⟩).length (flat Ce.cells (freeC ⟨wd, hg, ps⟩)) ∧ Below w.heap.size w w' := by
  obtain ⟨a, cap, rfl, hps⟩ := hps
  obtain ⟨i0, hi, hz0, hz1, hz2⟩ := info_parts Try.infoCell
  have HB := Lib.hid (BP.new (l := ⟨wd, hg, ps⟩) (w := w) ⟨a, cap, rfl, hps⟩ 39)
  rcases Bool.eq_false_or_eq_true (vBd ⟨wd, hg, ps⟩) with hv | hv
  · have HC := Lib.hid (show freeCode ⟨wd, hg, ps⟩ = 0 by unfold freeCode; rw [if_pos hv])
    obtain ⟨b1, b2, b3, b4, b5⟩ := vBd_bounds _ hv
    simp only at b1 b2 b3 b4 b5
    obtain ⟨wn, hwn⟩ : ∃ wn : Nat, (wn : Int) = wd := ⟨wd.toNat, by omega⟩
    obtain ⟨hn', hhn⟩ : ∃ hn : Nat, (hn : Int) = hg := ⟨hg.toNat, by omega⟩
    subst hwn hhn
    have HF := Lib.hid (show freeC ⟨wn, hn', ps⟩ = (cellsTo wn hn' 0).filter (fun c => decide (fnd c ps < 0)) by
      unfold freeC allC
      rw [if_pos hv]
      simp only
      congr 2)
    go_enter Try.func25, Try.ntmps25
    go_wp2_with fail
    refine (l01Ok_any w.heap.size ⟨wn, hn', ps⟩ _ (HB.out.step (by repeat (first | with_reducible exact Below.refl _ _ | with_reducible assumption | with_reducible apply bl_drewN | with_reducible apply bl_drew | with_reducible apply bl_alloc | (with_reducible refine bl_set ?_ (by first | (simp; done) | (simp; omega)) _) | with_reducible refine bl_trans ?_ (by with_reducible assumption)))) hok hn).mono ?_
    rintro e w1 ⟨rfl, hb1⟩
    rw [hv]
    have hz := hb1.size
    simp at hz
    have HB1 := Lib.hid ((HB.out.step (by repeat (first | with_reducible exact Below.refl _ _ | with_reducible assumption | with_reducible apply bl_drewN | with_reducible apply bl_drew | with_reducible apply bl_alloc | (with_reducible refine bl_set ?_ (by first | (simp; done) | (simp; omega)) _) | with_reducible refine bl_trans ?_ (by with_reducible assumption)))).step hb1)
    obtain ⟨hc1, hf1⟩ := bcell hb1
    have hbw1 : Below w.heap.size w w1 := (by repeat (first | with_reducible exact Below.refl _ _ | with_reducible assumption | with_reducible apply bl_drewN | with_reducible apply bl_drew | with_reducible apply bl_alloc | (with_reducible refine bl_set ?_ (by first | (simp; done) | (simp; omega)) _) | with_reducible refine bl_trans ?_ (by with_reducible assumption)))
    have hfl := Lib.hid (fun k j => List.length_filter_le (fun c => decide (fnd c ps < 0)) (cellsTo wn k j))
    go_wp2
    go_loopw [4, 5] (fun o y wr => ∃ k : Nat, k ≤ hn' ∧ y = .int .i8 k ∧ wr.ownsRow w1.heap.size 41 2 o ((cellsTo wn k 0).filter (fun c => decide (fnd c ps < 0))).length (flat Ce.cells ((cellsTo wn k 0).filter (fun c => decide (fnd c ps < 0)))) ∧ Below w1.heap.size w1 wr ∧ Below w.heap.size w wr) (fun _ y _ => hn' - (intOf y).toNat)
    case atStart => exact ⟨0, by omega, rfl, World.ownsRow_made _ _ 0 (Nat.le_refl _) (by simp [maxLen]) rfl, (by repeat (first | with_reducible exact Below.refl _ _ | with_reducible assumption | with_reducible apply bl_drewN | with_reducible apply bl_drew | with_reducible apply bl_alloc | (with_reducible refine bl_set ?_ (by first | (simp; done) | (simp; omega)) _) | with_reducible refine bl_trans ?_ (by with_reducible assumption))), (by repeat (first | with_reducible exact Below.refl _ _ | with_reducible assumption | with_reducible apply bl_drewN | with_reducible apply bl_drew | with_reducible apply bl_alloc | (with_reducible refine bl_set ?_ (by first | (simp; done) | (simp; omega)) _) | with_reducible refine bl_trans ?_ (by with_reducible assumption)))⟩
    case round =>
      obtain ⟨k, hk, rfl, hown, hb, hbw⟩ := hrel
      obtain ⟨hc, hf⟩ := bcell hb
      have hq := hb.size
      have l0 : w.heap.size < w1.heap.size := by omega
      by_cases hlt : k < hn'
      · go_wp2
        go_loopw [4, 6] (fun o x wr => ∃ j : Nat, j ≤ wn ∧ x = .int .i8 j ∧ wr.ownsRow w1.heap.size 41 2 o ((cellsTo wn k j).filter (fun c => decide (fnd c ps < 0))).length (flat Ce.cells ((cellsTo wn k j).filter (fun c => decide (fnd c ps < 0)))) ∧ Below w1.heap.size w1 wr ∧ Below w.heap.size w wr) (fun _ x _ => wn - (intOf x).toNat)
        case atStart => exact ⟨0, by omega, rfl, hown, hb, hbw⟩
        case round =>
          clear hown hb hc hf hbw
          obtain ⟨j, hj, rfl, hown, hb, hbw⟩ := hrel
          obtain ⟨hc, hf⟩ := bcell hb
          by_cases hlt2 : j < wn
          · have hkw : k * wn ≤ 24 * 24 := Nat.mul_le_mul (by omega) (by omega)
            have hlen := Lib.hid (cellsTo_len wn k j)
            have hq2 := hb.size
            go_wp2_with fail
            refine (l01Find_any w.heap.size ⟨wn, hn', ps⟩ ⟨j, k⟩ wr (HB1.out.step hb) hn).mono ?_
            rintro e w2 ⟨rfl, hb2⟩
            have hown2 := own_below hown hb2 (Nat.le_refl _)
            have hbb2 := hb2.size
            have hle3 := Lib.hid (hfl.out k j)
            rcases dec_cases (fnd ⟨j, k⟩ ps < 0) with ⟨g1, -⟩ | ⟨g1, -⟩
            · have hs := free_snoc (fun c => decide (fnd c ps < 0)) wn k j
              simp only [g1, if_true] at hs
              have HS := Lib.hid hs; clear hs
              go_wp2_with (at_builtin; refine wpList_append_sl _ rfl _ _ 51 rfl w1.heap.size 41 i0 (.agg #[.int .i8 0, .int .i8 0]) 2 2 Try.underlying51 hi hz0 hz1 hz2 rfl (by decide) _ _ _ rfl (own_below hown2 (bl_alloc (Below.refl _ _)) (Nat.le_refl _)) (some ⟨_, 0, none⟩) 1 1 [.int .i8 j, .int .i8 k] rfl (sl_new _ #[.int .i8 j, .int .i8 k] _) rfl (Ce.one ⟨j, k⟩) (by have := hle3.out; rw [hlen.out] at this; unfold maxLen; omega) (by have := hle3.out; rw [hlen.out] at this; omega) (by simp; omega) ?_; intro v1 w3 hown1 hgrow)
              have b5 : Below w1.heap.size w1 w3 := bl_grown (bl_alloc (bl_trans hb hb2)) hgrow (fun k hk => (hown2.lt k hk).1)
              refine ⟨⟨j + 1, by omega, by go_num, ?_, b5, bl_trans hbw1 b5⟩, by simp [intOf]; omega⟩
              rw [HS.out, List.length_append, flat_append]
              exact hown1
            · have hs := free_snoc (fun c => decide (fnd c ps < 0)) wn k j
              simp only [g1, Bool.false_eq_true, if_false, List.append_nil] at hs
              have HS := Lib.hid hs; clear hs
              have b5 : Below w1.heap.size w1 w2 := bl_trans hb hb2
              go_wp2
              refine ⟨⟨j + 1, by omega, by go_num, ?_, b5, bl_trans hbw1 b5⟩, by simp [intOf]; omega⟩
              rw [HS.out]
              exact hown2
          · go_wp2
            have hjn : j = wn := by omega
            rw [hjn, ← cellsTo_row] at hown
            exact ⟨⟨k + 1, by omega, by go_num, hown, hb, hbw⟩, by simp [intOf]; omega⟩
      · go_wp2
        go_ret2
        have hkn : k = hn' := by omega
        rw [hkn] at hown
        exact ⟨_, by rw [HC.out]; rfl, by rw [HF.out]; exact own_mono hown (by omega), hbw⟩
  · have HC := Lib.hid (show freeCode ⟨wd, hg, ps⟩ = 1 by unfold freeCode; rw [if_neg (by simp [hv])])
    have HF := Lib.hid (show freeC ⟨wd, hg, ps⟩ = [] by unfold freeC; rw [if_neg (by simp [hv])])
    go_enter Try.func25, Try.ntmps25
    go_wp2_with fail
    refine (l01Ok_any w.heap.size ⟨wd, hg, ps⟩ _ (HB.out.step (by repeat (first | with_reducible exact Below.refl _ _ | with_reducible assumption | with_reducible apply bl_drewN | with_reducible apply bl_drew | with_reducible apply bl_alloc | (with_reducible refine bl_set ?_ (by first | (simp; done) | (simp; omega)) _) | with_reducible refine bl_trans ?_ (by with_reducible assumption)))) hok hn).mono ?_
    rintro e w1 ⟨rfl, hb1⟩
    rw [hv]
    have hz := hb1.size
    simp at hz
    go_wp2
    go_ret2
    exact ⟨_, by rw [HC.out]; rfl, by rw [HF.out]; exact World.ownsRow_made _ _ 0 (by omega) (by simp [maxLen]) rfl, (by repeat (first | with_reducible exact Below.refl _ _ | with_reducible assumption | with_reducible apply bl_drewN | with_reducible apply bl_drew | with_reducible apply bl_alloc | (with_reducible refine bl_set ?_ (by first | (simp; done) | (simp; omega)) _) | with_reducible refine bl_trans ?_ (by with_reducible assumption)))⟩
end Go.Proofs.Ytdifikijckebkaa
