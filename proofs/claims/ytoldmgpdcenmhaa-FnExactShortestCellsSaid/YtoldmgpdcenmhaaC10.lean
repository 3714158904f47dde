/- Contracts: valid ways. -/
import Derived.Test.YtoldmgpdcenmhaaC9
import Derived.Carry
namespace Go.Proofs.Ytoldmgpdcenmhaa
open Go.RowKit
set_option linter.unusedVariables false
set_option linter.unusedSimpArgs false
set_option maxHeartbeats 400000
set_option maxRecDepth 100000
/-- A cell of the board without a piece. -/
def fr (l : Bd) (c : Ce) : Bool := cIn l.wd l.hg c && decide (fnd c l.ps < 0)
def Wy.from_ (y : Wy) : Ce := ⟨y.fx, y.fy⟩
def Wy.to_ (y : Wy) : Ce := ⟨y.tx, y.ty⟩
def vWy (l : Bd) (y : Wy) : Bool := fr l ⟨y.fx, y.fy⟩ && fr l ⟨y.tx, y.ty⟩ && inB y.sd 0 3 && inB y.out 0 3 && (!decide ((⟨y.fx, y.fy⟩ : Ce) = ⟨y.tx, y.ty⟩) || decide (y.sd ≠ y.out))
def WyAt (w : World) (b : Nat) (y : Wy) : Prop :=
  w.cell? ⟨b, 0, none⟩ = some (.int .i8 y.fx) ∧ w.cell? ⟨b, 1, none⟩ = some (.int .i8 y.fy) ∧ w.cell? ⟨b, 2, none⟩ = some (.int .i8 y.sd) ∧
  w.cell? ⟨b, 3, none⟩ = some (.int .i8 y.tx) ∧ w.cell? ⟨b, 4, none⟩ = some (.int .i8 y.ty) ∧ w.cell? ⟨b, 5, none⟩ = some (.int .i8 y.out)
theorem WyAt.step {w w' : World} {b : Nat} {y : Wy} (h : WyAt w b y) (hb : Below w.heap.size w w') (hl : b < w.heap.size) : WyAt w' b y := by
  unfold WyAt at *
  simp only [hb.cell (p := ⟨b, _, none⟩) hl]
  exact h
theorem WyAt.new (w : World) (y : Wy) (T : TypeId) : WyAt (w.alloc (.cells #[.int .i8 y.fx, .int .i8 y.fy, .int .i8 y.sd, .int .i8 y.tx, .int .i8 y.ty, .int .i8 y.out] T)) w.heap.size y := by
  have hh := heap_alloc_new w (.cells #[.int .i8 y.fx, .int .i8 y.fy, .int .i8 y.sd, .int .i8 y.tx, .int .i8 y.ty, .int .i8 y.out] T)
  refine ⟨?_, ?_, ?_, ?_, ?_, ?_⟩ <;> (rw [cell_of_row _ _ _ _ _ _ hh]; rfl)

set_option maxRecDepth 100000 in
theorem l05Ok_any (b : Nat) (l : Bd) (b1 : Nat) (y : Wy) (w : World) (h : BP w b l) (hok : l.ok) (hn : l.ps.length ≤ 10000000) (hy : WyAt w b1 y) (hyo : y.ok) (hyl : b1 < w.heap.size) :
    Calls Try.prog 49 #[.pointer (some ⟨b, 0, none⟩), .pointer (some ⟨b1, 0, none⟩)] w fun e w' => e = .returned (.bool (vWy l y)) ∧ Below w.heap.size w w' := by
  obtain ⟨⟨y1, y2⟩, y3, ⟨y4, y5⟩, y6⟩ := hyo
  have s3 := wrap_i8 y3.1 y3.2
  have s6 := wrap_i8 y6.1 y6.2
  have hy' := hy
  unfold WyAt at hy
  have HC := fun w1 (hb : Below w.heap.size w w1) => l05Free_any b l ⟨y.fx, y.fy⟩ w1 (h.step hb) hok ⟨y1, y2⟩ hn
  have HD := fun w1 (hb : Below w.heap.size w w1) => l05Free_any b l ⟨y.tx, y.ty⟩ w1 (h.step hb) hok ⟨y4, y5⟩ hn
  have hq := run_neq_ce y.fx y.fy y.tx y.ty
  have e1 : (cIn l.wd l.hg ⟨y.fx, y.fy⟩ && decide (fnd ⟨y.fx, y.fy⟩ l.ps < 0)) = fr l ⟨y.fx, y.fy⟩ := rfl
  have e2 : (cIn l.wd l.hg ⟨y.tx, y.ty⟩ && decide (fnd ⟨y.tx, y.ty⟩ l.ps < 0)) = fr l ⟨y.tx, y.ty⟩ := rfl
  rw [e1] at HC
  rw [e2] at HD
  clear e1 e2
  rcases Bool.eq_false_or_eq_true (fr l ⟨y.fx, y.fy⟩) with g1 | g1
  · rcases Bool.eq_false_or_eq_true (fr l ⟨y.tx, y.ty⟩) with g2 | g2
    · rcases Bool.eq_false_or_eq_true (inB y.sd 0 3) with g3 | g3
      · rcases Bool.eq_false_or_eq_true (inB y.out 0 3) with g4 | g4
        · rcases dec_cases ((⟨y.fx, y.fy⟩ : Ce) = ⟨y.tx, y.ty⟩) with ⟨g5, -⟩ | ⟨g5, -⟩
          all_goals
            rw [g1] at HC
            rw [g2] at HD
            rw [g5] at hq
            have V := Lib.hid (show vWy l y = _ from by unfold vWy; rw [g1, g2, g3, g4, g5])
            have HC := Lib.hid HC
            have HD := Lib.hid HD
            go_enter Try.func49, Try.ntmps49
            go_wp2_with fail
            refine (HC.out _ (by repeat (first | with_reducible exact Below.refl _ _ | with_reducible assumption | with_reducible apply bl_drewN | with_reducible apply bl_drew | with_reducible apply bl_alloc | (with_reducible refine bl_set ?_ (by first | (simp; done) | (simp; omega)) _) | with_reducible refine bl_trans ?_ (by with_reducible assumption)))).mono ?_
            rintro e w1 ⟨rfl, hb1⟩
            obtain ⟨hc1, hf1⟩ := bcell hb1
            go_wp2_with fail
            refine (HD.out _ (by repeat (first | with_reducible exact Below.refl _ _ | with_reducible assumption | with_reducible apply bl_drewN | with_reducible apply bl_drew | with_reducible apply bl_alloc | (with_reducible refine bl_set ?_ (by first | (simp; done) | (simp; omega)) _) | with_reducible refine bl_trans ?_ (by with_reducible assumption)))).mono ?_
            rintro e w2 ⟨rfl, hb2⟩
            have hb3 : Below w.heap.size w w2 := (by repeat (first | with_reducible exact Below.refl _ _ | with_reducible assumption | with_reducible apply bl_drewN | with_reducible apply bl_drew | with_reducible apply bl_alloc | (with_reducible refine bl_set ?_ (by first | (simp; done) | (simp; omega)) _) | with_reducible refine bl_trans ?_ (by with_reducible assumption)))
            clear hc1 hf1
            obtain ⟨hc1, hf1⟩ := bcell hb3
            go_wp2_with (go_at_call 41; refine (l01Side_any _ _).mono ?_; rintro e w' ⟨rfl, rfl⟩)
            go_quiet (fail)
            go_wp2
            go_ret
            refine ⟨?_, (by repeat (first | with_reducible exact Below.refl _ _ | with_reducible assumption | with_reducible apply bl_drewN | with_reducible apply bl_drew | with_reducible apply bl_alloc | (with_reducible refine bl_set ?_ (by first | (simp; done) | (simp; omega)) _) | with_reducible refine bl_trans ?_ (by with_reducible assumption)))⟩
            rw [V.out]
            first | rfl | (refine ret_bool ?_; simp)
        · skip
          rw [g1] at HC
          rw [g2] at HD
          have V := Lib.hid (show vWy l y = _ from by unfold vWy; rw [g1, g2, g3, g4])
          have HC := Lib.hid HC
          have HD := Lib.hid HD
          go_enter Try.func49, Try.ntmps49
          go_wp2_with fail
          refine (HC.out _ (by repeat (first | with_reducible exact Below.refl _ _ | with_reducible assumption | with_reducible apply bl_drewN | with_reducible apply bl_drew | with_reducible apply bl_alloc | (with_reducible refine bl_set ?_ (by first | (simp; done) | (simp; omega)) _) | with_reducible refine bl_trans ?_ (by with_reducible assumption)))).mono ?_
          rintro e w1 ⟨rfl, hb1⟩
          obtain ⟨hc1, hf1⟩ := bcell hb1
          go_wp2_with fail
          refine (HD.out _ (by repeat (first | with_reducible exact Below.refl _ _ | with_reducible assumption | with_reducible apply bl_drewN | with_reducible apply bl_drew | with_reducible apply bl_alloc | (with_reducible refine bl_set ?_ (by first | (simp; done) | (simp; omega)) _) | with_reducible refine bl_trans ?_ (by with_reducible assumption)))).mono ?_
          rintro e w2 ⟨rfl, hb2⟩
          have hb3 : Below w.heap.size w w2 := (by repeat (first | with_reducible exact Below.refl _ _ | with_reducible assumption | with_reducible apply bl_drewN | with_reducible apply bl_drew | with_reducible apply bl_alloc | (with_reducible refine bl_set ?_ (by first | (simp; done) | (simp; omega)) _) | with_reducible refine bl_trans ?_ (by with_reducible assumption)))
          clear hc1 hf1
          obtain ⟨hc1, hf1⟩ := bcell hb3
          go_wp2_with (go_at_call 41; refine (l01Side_any _ _).mono ?_; rintro e w' ⟨rfl, rfl⟩)
          go_ret
          refine ⟨?_, (by repeat (first | with_reducible exact Below.refl _ _ | with_reducible assumption | with_reducible apply bl_drewN | with_reducible apply bl_drew | with_reducible apply bl_alloc | (with_reducible refine bl_set ?_ (by first | (simp; done) | (simp; omega)) _) | with_reducible refine bl_trans ?_ (by with_reducible assumption)))⟩
          rw [V.out]
          first | rfl | (refine ret_bool ?_; simp)
      · skip
        rw [g1] at HC
        rw [g2] at HD
        have V := Lib.hid (show vWy l y = _ from by unfold vWy; rw [g1, g2, g3])
        have HC := Lib.hid HC
        have HD := Lib.hid HD
        go_enter Try.func49, Try.ntmps49
        go_wp2_with fail
        refine (HC.out _ (by repeat (first | with_reducible exact Below.refl _ _ | with_reducible assumption | with_reducible apply bl_drewN | with_reducible apply bl_drew | with_reducible apply bl_alloc | (with_reducible refine bl_set ?_ (by first | (simp; done) | (simp; omega)) _) | with_reducible refine bl_trans ?_ (by with_reducible assumption)))).mono ?_
        rintro e w1 ⟨rfl, hb1⟩
        obtain ⟨hc1, hf1⟩ := bcell hb1
        go_wp2_with fail
        refine (HD.out _ (by repeat (first | with_reducible exact Below.refl _ _ | with_reducible assumption | with_reducible apply bl_drewN | with_reducible apply bl_drew | with_reducible apply bl_alloc | (with_reducible refine bl_set ?_ (by first | (simp; done) | (simp; omega)) _) | with_reducible refine bl_trans ?_ (by with_reducible assumption)))).mono ?_
        rintro e w2 ⟨rfl, hb2⟩
        have hb3 : Below w.heap.size w w2 := (by repeat (first | with_reducible exact Below.refl _ _ | with_reducible assumption | with_reducible apply bl_drewN | with_reducible apply bl_drew | with_reducible apply bl_alloc | (with_reducible refine bl_set ?_ (by first | (simp; done) | (simp; omega)) _) | with_reducible refine bl_trans ?_ (by with_reducible assumption)))
        clear hc1 hf1
        obtain ⟨hc1, hf1⟩ := bcell hb3
        go_wp2_with (go_at_call 41; refine (l01Side_any _ _).mono ?_; rintro e w' ⟨rfl, rfl⟩)
        go_ret
        refine ⟨?_, (by repeat (first | with_reducible exact Below.refl _ _ | with_reducible assumption | with_reducible apply bl_drewN | with_reducible apply bl_drew | with_reducible apply bl_alloc | (with_reducible refine bl_set ?_ (by first | (simp; done) | (simp; omega)) _) | with_reducible refine bl_trans ?_ (by with_reducible assumption)))⟩
        rw [V.out]
        first | rfl | (refine ret_bool ?_; simp)
    · skip
      rw [g1] at HC
      rw [g2] at HD
      have V := Lib.hid (show vWy l y = _ from by unfold vWy; rw [g1, g2])
      have HC := Lib.hid HC
      have HD := Lib.hid HD
      go_enter Try.func49, Try.ntmps49
      go_wp2_with fail
      refine (HC.out _ (by repeat (first | with_reducible exact Below.refl _ _ | with_reducible assumption | with_reducible apply bl_drewN | with_reducible apply bl_drew | with_reducible apply bl_alloc | (with_reducible refine bl_set ?_ (by first | (simp; done) | (simp; omega)) _) | with_reducible refine bl_trans ?_ (by with_reducible assumption)))).mono ?_
      rintro e w1 ⟨rfl, hb1⟩
      obtain ⟨hc1, hf1⟩ := bcell hb1
      go_wp2_with fail
      refine (HD.out _ (by repeat (first | with_reducible exact Below.refl _ _ | with_reducible assumption | with_reducible apply bl_drewN | with_reducible apply bl_drew | with_reducible apply bl_alloc | (with_reducible refine bl_set ?_ (by first | (simp; done) | (simp; omega)) _) | with_reducible refine bl_trans ?_ (by with_reducible assumption)))).mono ?_
      rintro e w2 ⟨rfl, hb2⟩
      have hb3 : Below w.heap.size w w2 := (by repeat (first | with_reducible exact Below.refl _ _ | with_reducible assumption | with_reducible apply bl_drewN | with_reducible apply bl_drew | with_reducible apply bl_alloc | (with_reducible refine bl_set ?_ (by first | (simp; done) | (simp; omega)) _) | with_reducible refine bl_trans ?_ (by with_reducible assumption)))
      clear hc1 hf1
      obtain ⟨hc1, hf1⟩ := bcell hb3
      go_wp2
      go_ret
      refine ⟨?_, (by repeat (first | with_reducible exact Below.refl _ _ | with_reducible assumption | with_reducible apply bl_drewN | with_reducible apply bl_drew | with_reducible apply bl_alloc | (with_reducible refine bl_set ?_ (by first | (simp; done) | (simp; omega)) _) | with_reducible refine bl_trans ?_ (by with_reducible assumption)))⟩
      rw [V.out]
      first | rfl | (refine ret_bool ?_; simp)
  · skip
    rw [g1] at HC
    have V := Lib.hid (show vWy l y = _ from by unfold vWy; rw [g1])
    have HC := Lib.hid HC
    have HD := Lib.hid HD
    go_enter Try.func49, Try.ntmps49
    go_wp2_with fail
    refine (HC.out _ (by repeat (first | with_reducible exact Below.refl _ _ | with_reducible assumption | with_reducible apply bl_drewN | with_reducible apply bl_drew | with_reducible apply bl_alloc | (with_reducible refine bl_set ?_ (by first | (simp; done) | (simp; omega)) _) | with_reducible refine bl_trans ?_ (by with_reducible assumption)))).mono ?_
    rintro e w1 ⟨rfl, hb1⟩
    obtain ⟨hc1, hf1⟩ := bcell hb1
    go_wp2
    go_ret
    refine ⟨?_, (by repeat (first | with_reducible exact Below.refl _ _ | with_reducible assumption | with_reducible apply bl_drewN | with_reducible apply bl_drew | with_reducible apply bl_alloc | (with_reducible refine bl_set ?_ (by first | (simp; done) | (simp; omega)) _) | with_reducible refine bl_trans ?_ (by with_reducible assumption)))⟩
    rw [V.out]
    first | rfl | (refine ret_bool ?_; simp)
set_option maxRecDepth 100000 in
theorem impl_ValidWay_any (wd hg : Int) (a : Option Addr) (cap : Nat) (ps : List Pc) (y : Wy) (w : World) (hps : PcsAt w.heap.size w a ps) (hok : (Bd.mk wd hg ps).ok) (hyo : y.ok) (hn : ps.length ≤ 10000000) :
    Calls Try.prog 51 #[bdv wd hg (.slice a ps.length cap), y.val] w fun e w' => e = .returned (.bool (vBd ⟨wd, hg, ps⟩ && vWy ⟨wd, hg, ps⟩ y)) ∧ Below w.heap.size w w' := by
  have HB := Lib.hid (BP.new (l := ⟨wd, hg, ps⟩) (w := w) ⟨a, cap, rfl, hps⟩ 33)
  have HY := Lib.hid (WyAt.new (w.alloc (.cells #[.int .i8 wd, .int .i8 hg, .slice a ps.length cap] 33)) y 58)
  have hyo' := hyo
  obtain ⟨⟨y1, y2⟩, y3, ⟨y4, y5⟩, y6⟩ := hyo
  have s3 := wrap_i8 y3.1 y3.2
  have s6 := wrap_i8 y6.1 y6.2
  have HV := fun w1 (hb : Below w.heap.size w w1) => validBoard_any wd hg a cap ps w1 ((hps.below hb (Nat.le_refl _)).mono hb.size) hok hn
  have hq := run_neq_ce y.fx y.fy y.tx y.ty
  rcases Bool.eq_false_or_eq_true (vBd ⟨wd, hg, ps⟩) with g0 | g0
  · rcases Bool.eq_false_or_eq_true (cIn wd hg ⟨y.fx, y.fy⟩ && decide (fnd ⟨y.fx, y.fy⟩ ps < 0)) with g1 | g1
    · rcases Bool.eq_false_or_eq_true (cIn wd hg ⟨y.tx, y.ty⟩ && decide (fnd ⟨y.tx, y.ty⟩ ps < 0)) with g2 | g2
      · rcases Bool.eq_false_or_eq_true (inB y.sd 0 3) with g3 | g3
        · rcases Bool.eq_false_or_eq_true (inB y.out 0 3) with g4 | g4
          · rcases dec_cases ((⟨y.fx, y.fy⟩ : Ce) = ⟨y.tx, y.ty⟩) with ⟨g5, -⟩ | ⟨g5, -⟩
            all_goals
              rw [g0] at HV
              rw [g5] at hq
              have V := Lib.hid (show (vBd ⟨wd, hg, ps⟩ && vWy ⟨wd, hg, ps⟩ y) = _ from by unfold vWy fr; rw [g0, g1, g2, g3, g4, g5])
              have HV := Lib.hid HV
              go_enter Try.func51, Try.ntmps51
              go_wp2_with fail
              refine (HV.out _ (by repeat (first | with_reducible exact Below.refl _ _ | with_reducible assumption | with_reducible apply bl_drewN | with_reducible apply bl_drew | with_reducible apply bl_alloc | (with_reducible refine bl_set ?_ (by first | (simp; done) | (simp; omega)) _) | with_reducible refine bl_trans ?_ (by with_reducible assumption)))).mono ?_
              rintro e w0 ⟨rfl, hb0⟩
              have hz := hb0.size
              simp at hz
              have hy0 := HY.out.step hb0 (by simp)
              have hB0 := Lib.hid ((HB.out.step (by repeat (first | with_reducible exact Below.refl _ _ | with_reducible assumption | with_reducible apply bl_drewN | with_reducible apply bl_drew | with_reducible apply bl_alloc | (with_reducible refine bl_set ?_ (by first | (simp; done) | (simp; omega)) _) | with_reducible refine bl_trans ?_ (by with_reducible assumption)))).step hb0)
              simp only [World.size_alloc] at hy0
              have hY0 := Lib.hid hy0
              unfold WyAt at hy0
              have l0 : w.heap.size < w0.heap.size := by omega
              have l1 : w.heap.size + 1 < w0.heap.size := by omega
              go_wp2_with fail
              refine (free_any w.heap.size ⟨wd, hg, ps⟩ ⟨y.fx, y.fy⟩ w0 hB0.out hok hn).mono ?_
              rintro e w1 ⟨rfl, hb1⟩
              rw [g1]
              have hy1 := hY0.out.step hb1 l1
              have hY1 := Lib.hid hy1
              unfold WyAt at hy1
              have l2 : w.heap.size + 1 < w1.heap.size := Nat.lt_of_lt_of_le l1 hb1.size
              go_wp2_with fail
              refine (free_any w.heap.size ⟨wd, hg, ps⟩ ⟨y.tx, y.ty⟩ w1 (hB0.out.step hb1) hok hn).mono ?_
              rintro e w2 ⟨rfl, hb2⟩
              rw [g2]
              have hy2 := hY1.out.step hb2 l2
              have hY2 := Lib.hid hy2
              unfold WyAt at hy2
              have l3 : w.heap.size + 1 < w2.heap.size := Nat.lt_of_lt_of_le l2 hb2.size
              go_wp2_with (go_at_call 44; refine (isSide_any _ _).mono ?_; rintro e w' ⟨rfl, rfl⟩)
              go_ret
              refine ⟨?_, (by repeat (first | with_reducible exact Below.refl _ _ | with_reducible assumption | with_reducible apply bl_drewN | with_reducible apply bl_drew | with_reducible apply bl_alloc | (with_reducible refine bl_set ?_ (by first | (simp; done) | (simp; omega)) _) | with_reducible refine bl_trans ?_ (by with_reducible assumption)))⟩
              rw [V.out]
              first | rfl | (refine ret_bool ?_; simp)
          · skip
            rw [g0] at HV
            have V := Lib.hid (show (vBd ⟨wd, hg, ps⟩ && vWy ⟨wd, hg, ps⟩ y) = _ from by unfold vWy fr; rw [g0, g1, g2, g3, g4])
            have HV := Lib.hid HV
            go_enter Try.func51, Try.ntmps51
            go_wp2_with fail
            refine (HV.out _ (by repeat (first | with_reducible exact Below.refl _ _ | with_reducible assumption | with_reducible apply bl_drewN | with_reducible apply bl_drew | with_reducible apply bl_alloc | (with_reducible refine bl_set ?_ (by first | (simp; done) | (simp; omega)) _) | with_reducible refine bl_trans ?_ (by with_reducible assumption)))).mono ?_
            rintro e w0 ⟨rfl, hb0⟩
            have hz := hb0.size
            simp at hz
            have hy0 := HY.out.step hb0 (by simp)
            have hB0 := Lib.hid ((HB.out.step (by repeat (first | with_reducible exact Below.refl _ _ | with_reducible assumption | with_reducible apply bl_drewN | with_reducible apply bl_drew | with_reducible apply bl_alloc | (with_reducible refine bl_set ?_ (by first | (simp; done) | (simp; omega)) _) | with_reducible refine bl_trans ?_ (by with_reducible assumption)))).step hb0)
            simp only [World.size_alloc] at hy0
            have hY0 := Lib.hid hy0
            unfold WyAt at hy0
            have l0 : w.heap.size < w0.heap.size := by omega
            have l1 : w.heap.size + 1 < w0.heap.size := by omega
            go_wp2_with fail
            refine (free_any w.heap.size ⟨wd, hg, ps⟩ ⟨y.fx, y.fy⟩ w0 hB0.out hok hn).mono ?_
            rintro e w1 ⟨rfl, hb1⟩
            rw [g1]
            have hy1 := hY0.out.step hb1 l1
            have hY1 := Lib.hid hy1
            unfold WyAt at hy1
            have l2 : w.heap.size + 1 < w1.heap.size := Nat.lt_of_lt_of_le l1 hb1.size
            go_wp2_with fail
            refine (free_any w.heap.size ⟨wd, hg, ps⟩ ⟨y.tx, y.ty⟩ w1 (hB0.out.step hb1) hok hn).mono ?_
            rintro e w2 ⟨rfl, hb2⟩
            rw [g2]
            have hy2 := hY1.out.step hb2 l2
            have hY2 := Lib.hid hy2
            unfold WyAt at hy2
            have l3 : w.heap.size + 1 < w2.heap.size := Nat.lt_of_lt_of_le l2 hb2.size
            go_wp2_with (go_at_call 44; refine (isSide_any _ _).mono ?_; rintro e w' ⟨rfl, rfl⟩)
            go_ret
            refine ⟨?_, (by repeat (first | with_reducible exact Below.refl _ _ | with_reducible assumption | with_reducible apply bl_drewN | with_reducible apply bl_drew | with_reducible apply bl_alloc | (with_reducible refine bl_set ?_ (by first | (simp; done) | (simp; omega)) _) | with_reducible refine bl_trans ?_ (by with_reducible assumption)))⟩
            rw [V.out]
            first | rfl | (refine ret_bool ?_; simp)
        · skip
          rw [g0] at HV
          have V := Lib.hid (show (vBd ⟨wd, hg, ps⟩ && vWy ⟨wd, hg, ps⟩ y) = _ from by unfold vWy fr; rw [g0, g1, g2, g3])
          have HV := Lib.hid HV
          go_enter Try.func51, Try.ntmps51
          go_wp2_with fail
          refine (HV.out _ (by repeat (first | with_reducible exact Below.refl _ _ | with_reducible assumption | with_reducible apply bl_drewN | with_reducible apply bl_drew | with_reducible apply bl_alloc | (with_reducible refine bl_set ?_ (by first | (simp; done) | (simp; omega)) _) | with_reducible refine bl_trans ?_ (by with_reducible assumption)))).mono ?_
          rintro e w0 ⟨rfl, hb0⟩
          have hz := hb0.size
          simp at hz
          have hy0 := HY.out.step hb0 (by simp)
          have hB0 := Lib.hid ((HB.out.step (by repeat (first | with_reducible exact Below.refl _ _ | with_reducible assumption | with_reducible apply bl_drewN | with_reducible apply bl_drew | with_reducible apply bl_alloc | (with_reducible refine bl_set ?_ (by first | (simp; done) | (simp; omega)) _) | with_reducible refine bl_trans ?_ (by with_reducible assumption)))).step hb0)
          simp only [World.size_alloc] at hy0
          have hY0 := Lib.hid hy0
          unfold WyAt at hy0
          have l0 : w.heap.size < w0.heap.size := by omega
          have l1 : w.heap.size + 1 < w0.heap.size := by omega
          go_wp2_with fail
          refine (free_any w.heap.size ⟨wd, hg, ps⟩ ⟨y.fx, y.fy⟩ w0 hB0.out hok hn).mono ?_
          rintro e w1 ⟨rfl, hb1⟩
          rw [g1]
          have hy1 := hY0.out.step hb1 l1
          have hY1 := Lib.hid hy1
          unfold WyAt at hy1
          have l2 : w.heap.size + 1 < w1.heap.size := Nat.lt_of_lt_of_le l1 hb1.size
          go_wp2_with fail
          refine (free_any w.heap.size ⟨wd, hg, ps⟩ ⟨y.tx, y.ty⟩ w1 (hB0.out.step hb1) hok hn).mono ?_
          rintro e w2 ⟨rfl, hb2⟩
          rw [g2]
          have hy2 := hY1.out.step hb2 l2
          have hY2 := Lib.hid hy2
          unfold WyAt at hy2
          have l3 : w.heap.size + 1 < w2.heap.size := Nat.lt_of_lt_of_le l2 hb2.size
          go_wp2_with (go_at_call 44; refine (isSide_any _ _).mono ?_; rintro e w' ⟨rfl, rfl⟩)
          go_ret
          refine ⟨?_, (by repeat (first | with_reducible exact Below.refl _ _ | with_reducible assumption | with_reducible apply bl_drewN | with_reducible apply bl_drew | with_reducible apply bl_alloc | (with_reducible refine bl_set ?_ (by first | (simp; done) | (simp; omega)) _) | with_reducible refine bl_trans ?_ (by with_reducible assumption)))⟩
          rw [V.out]
          first | rfl | (refine ret_bool ?_; simp)
      · skip
        rw [g0] at HV
        have V := Lib.hid (show (vBd ⟨wd, hg, ps⟩ && vWy ⟨wd, hg, ps⟩ y) = _ from by unfold vWy fr; rw [g0, g1, g2])
        have HV := Lib.hid HV
        go_enter Try.func51, Try.ntmps51
        go_wp2_with fail
        refine (HV.out _ (by repeat (first | with_reducible exact Below.refl _ _ | with_reducible assumption | with_reducible apply bl_drewN | with_reducible apply bl_drew | with_reducible apply bl_alloc | (with_reducible refine bl_set ?_ (by first | (simp; done) | (simp; omega)) _) | with_reducible refine bl_trans ?_ (by with_reducible assumption)))).mono ?_
        rintro e w0 ⟨rfl, hb0⟩
        have hz := hb0.size
        simp at hz
        have hy0 := HY.out.step hb0 (by simp)
        have hB0 := Lib.hid ((HB.out.step (by repeat (first | with_reducible exact Below.refl _ _ | with_reducible assumption | with_reducible apply bl_drewN | with_reducible apply bl_drew | with_reducible apply bl_alloc | (with_reducible refine bl_set ?_ (by first | (simp; done) | (simp; omega)) _) | with_reducible refine bl_trans ?_ (by with_reducible assumption)))).step hb0)
        simp only [World.size_alloc] at hy0
        have hY0 := Lib.hid hy0
        unfold WyAt at hy0
        have l0 : w.heap.size < w0.heap.size := by omega
        have l1 : w.heap.size + 1 < w0.heap.size := by omega
        go_wp2_with fail
        refine (free_any w.heap.size ⟨wd, hg, ps⟩ ⟨y.fx, y.fy⟩ w0 hB0.out hok hn).mono ?_
        rintro e w1 ⟨rfl, hb1⟩
        rw [g1]
        have hy1 := hY0.out.step hb1 l1
        have hY1 := Lib.hid hy1
        unfold WyAt at hy1
        have l2 : w.heap.size + 1 < w1.heap.size := Nat.lt_of_lt_of_le l1 hb1.size
        go_wp2_with fail
        refine (free_any w.heap.size ⟨wd, hg, ps⟩ ⟨y.tx, y.ty⟩ w1 (hB0.out.step hb1) hok hn).mono ?_
        rintro e w2 ⟨rfl, hb2⟩
        rw [g2]
        have hy2 := hY1.out.step hb2 l2
        have hY2 := Lib.hid hy2
        unfold WyAt at hy2
        have l3 : w.heap.size + 1 < w2.heap.size := Nat.lt_of_lt_of_le l2 hb2.size
        go_wp2_with (go_at_call 44; refine (isSide_any _ _).mono ?_; rintro e w' ⟨rfl, rfl⟩)
        go_ret
        refine ⟨?_, (by repeat (first | with_reducible exact Below.refl _ _ | with_reducible assumption | with_reducible apply bl_drewN | with_reducible apply bl_drew | with_reducible apply bl_alloc | (with_reducible refine bl_set ?_ (by first | (simp; done) | (simp; omega)) _) | with_reducible refine bl_trans ?_ (by with_reducible assumption)))⟩
        rw [V.out]
        first | rfl | (refine ret_bool ?_; simp)
    · skip
      rw [g0] at HV
      have V := Lib.hid (show (vBd ⟨wd, hg, ps⟩ && vWy ⟨wd, hg, ps⟩ y) = _ from by unfold vWy fr; rw [g0, g1])
      have HV := Lib.hid HV
      go_enter Try.func51, Try.ntmps51
      go_wp2_with fail
      refine (HV.out _ (by repeat (first | with_reducible exact Below.refl _ _ | with_reducible assumption | with_reducible apply bl_drewN | with_reducible apply bl_drew | with_reducible apply bl_alloc | (with_reducible refine bl_set ?_ (by first | (simp; done) | (simp; omega)) _) | with_reducible refine bl_trans ?_ (by with_reducible assumption)))).mono ?_
      rintro e w0 ⟨rfl, hb0⟩
      have hz := hb0.size
      simp at hz
      have hy0 := HY.out.step hb0 (by simp)
      have hB0 := Lib.hid ((HB.out.step (by repeat (first | with_reducible exact Below.refl _ _ | with_reducible assumption | with_reducible apply bl_drewN | with_reducible apply bl_drew | with_reducible apply bl_alloc | (with_reducible refine bl_set ?_ (by first | (simp; done) | (simp; omega)) _) | with_reducible refine bl_trans ?_ (by with_reducible assumption)))).step hb0)
      simp only [World.size_alloc] at hy0
      have hY0 := Lib.hid hy0
      unfold WyAt at hy0
      have l0 : w.heap.size < w0.heap.size := by omega
      have l1 : w.heap.size + 1 < w0.heap.size := by omega
      go_wp2_with fail
      refine (free_any w.heap.size ⟨wd, hg, ps⟩ ⟨y.fx, y.fy⟩ w0 hB0.out hok hn).mono ?_
      rintro e w1 ⟨rfl, hb1⟩
      rw [g1]
      have hy1 := hY0.out.step hb1 l1
      have hY1 := Lib.hid hy1
      unfold WyAt at hy1
      have l2 : w.heap.size + 1 < w1.heap.size := Nat.lt_of_lt_of_le l1 hb1.size
      go_wp2
      go_ret
      refine ⟨?_, (by repeat (first | with_reducible exact Below.refl _ _ | with_reducible assumption | with_reducible apply bl_drewN | with_reducible apply bl_drew | with_reducible apply bl_alloc | (with_reducible refine bl_set ?_ (by first | (simp; done) | (simp; omega)) _) | with_reducible refine bl_trans ?_ (by with_reducible assumption)))⟩
      rw [V.out]
      first | rfl | (refine ret_bool ?_; simp)
  · skip
    rw [g0] at HV
    have V := Lib.hid (show (vBd ⟨wd, hg, ps⟩ && vWy ⟨wd, hg, ps⟩ y) = _ from by unfold vWy fr; rw [g0])
    have HV := Lib.hid HV
    go_enter Try.func51, Try.ntmps51
    go_wp2_with fail
    refine (HV.out _ (by repeat (first | with_reducible exact Below.refl _ _ | with_reducible assumption | with_reducible apply bl_drewN | with_reducible apply bl_drew | with_reducible apply bl_alloc | (with_reducible refine bl_set ?_ (by first | (simp; done) | (simp; omega)) _) | with_reducible refine bl_trans ?_ (by with_reducible assumption)))).mono ?_
    rintro e w0 ⟨rfl, hb0⟩
    have hz := hb0.size
    simp at hz
    have hy0 := HY.out.step hb0 (by simp)
    have hB0 := Lib.hid ((HB.out.step (by repeat (first | with_reducible exact Below.refl _ _ | with_reducible assumption | with_reducible apply bl_drewN | with_reducible apply bl_drew | with_reducible apply bl_alloc | (with_reducible refine bl_set ?_ (by first | (simp; done) | (simp; omega)) _) | with_reducible refine bl_trans ?_ (by with_reducible assumption)))).step hb0)
    simp only [World.size_alloc] at hy0
    have hY0 := Lib.hid hy0
    unfold WyAt at hy0
    have l0 : w.heap.size < w0.heap.size := by omega
    have l1 : w.heap.size + 1 < w0.heap.size := by omega
    go_wp2
    go_ret
    refine ⟨?_, (by repeat (first | with_reducible exact Below.refl _ _ | with_reducible assumption | with_reducible apply bl_drewN | with_reducible apply bl_drew | with_reducible apply bl_alloc | (with_reducible refine bl_set ?_ (by first | (simp; done) | (simp; omega)) _) | with_reducible refine bl_trans ?_ (by with_reducible assumption)))⟩
    rw [V.out]
    first | rfl | (refine ret_bool ?_; simp)
theorem impl_ValidWay_pv (wd hg : Int) (s : Value) (ps : List Pc) (y : Wy) (w : World) (hps : PV w s ps) (hok : (Bd.mk wd hg ps).ok) (hyo : y.ok) (hn : ps.length ≤ 10000000) :
    Calls Try.prog 51 #[bdv wd hg s, y.val] w fun e w' => e = .returned (.bool (vBd ⟨wd, hg, ps⟩ && vWy ⟨wd, hg, ps⟩ y)) ∧ Below w.heap.size w w' := by
  obtain ⟨a, cap, rfl, h⟩ := hps
  exact impl_ValidWay_any wd hg a cap ps y w h hok hyo hn
end Go.Proofs.Ytoldmgpdcenmhaa
