/- Contracts: boards and ways in the statements' own file. -/
import Derived.Test.YtoldmgpdcenmhaaL2
namespace Go.Proofs.Ytoldmgpdcenmhaa
open Go.RowKit
set_option linter.unusedVariables false
set_option linter.unusedSimpArgs false
set_option maxHeartbeats 400000
set_option maxRecDepth 100000

structure Bd where
  wd : Int
  hg : Int
  ps : List Pc

def Bd.ok (b : Bd) : Prop := I8 b.wd ∧ I8 b.hg ∧ PcsOk b.ps
abbrev bdv (wd hg : Int) (s : Value) : Value := .agg #[.int .i8 wd, .int .i8 hg, s]
/-- A value that reads as a board. -/
def BV (w : World) (v : Value) (b : Bd) : Prop := ∃ s, v = bdv b.wd b.hg s ∧ PV w s b.ps
theorem BV.step {w w' : World} {v : Value} {l : Bd} (h : BV w v l) (hb : Below w.heap.size w w') : BV w' v l := by
  obtain ⟨s, rfl, h⟩ := h
  exact ⟨s, rfl, h.step hb⟩

structure Wy where
  fx : Int
  fy : Int
  sd : Int
  tx : Int
  ty : Int
  out : Int
  deriving Inhabited, DecidableEq
def Wy.ok (p : Wy) : Prop := (I8 p.fx ∧ I8 p.fy) ∧ I8 p.sd ∧ (I8 p.tx ∧ I8 p.ty) ∧ I8 p.out
abbrev Wy.val (p : Wy) : Value := .agg #[.int .i8 p.fx, .int .i8 p.fy, .int .i8 p.sd, .int .i8 p.tx, .int .i8 p.ty, .int .i8 p.out]

theorem szBoard_any (wd hg : Int) (a : Option Addr) (n cap : Nat) (left : Int) (w : World) (hn : n ≤ 9223372036854775807) (h1 : -1 ≤ left) (h2 : left ≤ 1048576) :
    Calls Try.prog 6 #[bdv wd hg (.slice a n cap), .int .i64 left] w fun e w' => e = .returned (.int .i64 (szv n left)) ∧ Below w.heap.size w w' := by
  have Hs := Lib.hid (show szv n left = if left - n < 0 then -1 else left - n from rfl)
  by_cases h : left - n < 0
  · have hz : szv n left = -1 := by rw [Hs.out, if_pos h]
    have HZ := Lib.hid hz; clear hz
    go_enter Try.func6, Try.ntmps6
    go_wp2_with (go_at_call 29; refine (szPieceS_any a n cap left _ hn h1 h2).mono ?_; rintro e w' ⟨rfl, rfl⟩; rw [HZ.out])
    go_ret
    exact ⟨by rw [HZ.out]; rfl, (by repeat (first | with_reducible exact Below.refl _ _ | with_reducible assumption | with_reducible apply bl_drewN | with_reducible apply bl_drew | with_reducible apply bl_alloc | (with_reducible refine bl_set ?_ (by first | (simp; done) | (simp; omega)) _) | with_reducible refine bl_trans ?_ (by with_reducible assumption)))⟩
  · have hz : szv n left = left - n := by rw [Hs.out, if_neg h]
    have HZ := Lib.hid hz; clear hz
    go_enter Try.func6, Try.ntmps6
    go_wp2_with (go_at_call 29; refine (szPieceS_any a n cap left _ hn h1 h2).mono ?_; rintro e w' ⟨rfl, rfl⟩; rw [HZ.out])
    go_ret
    exact ⟨by rw [HZ.out]; rfl, (by repeat (first | with_reducible exact Below.refl _ _ | with_reducible assumption | with_reducible apply bl_drewN | with_reducible apply bl_drew | with_reducible apply bl_alloc | (with_reducible refine bl_set ?_ (by first | (simp; done) | (simp; omega)) _) | with_reducible refine bl_trans ?_ (by with_reducible assumption)))⟩
theorem toBoard_pv {w : World} {v : Value} {b : Bd} (h : BV w v b) (hn : b.ps.length ≤ 10000000) :
    Calls Try.prog 8 #[v] w fun e w' => ∃ s, e = .returned (bdv b.wd b.hg s) ∧ w'.ownsRow w.heap.size 78 5 s b.ps.length (flat Pc.cells b.ps) ∧ Below w.heap.size w w' := by
  obtain ⟨s, rfl, h⟩ := h
  go_enter Try.func8, Try.ntmps8
  go_wp2_with fail
  refine (toPieceS_pv (h.step (by repeat (first | with_reducible exact Below.refl _ _ | with_reducible assumption | with_reducible apply bl_drewN | with_reducible apply bl_drew | with_reducible apply bl_alloc | (with_reducible refine bl_set ?_ (by first | (simp; done) | (simp; omega)) _) | with_reducible refine bl_trans ?_ (by with_reducible assumption)))) hn).mono ?_
  rintro e w1 ⟨v1, rfl, hown, hb⟩
  obtain ⟨hc, hf⟩ := bcell hb
  have hz := hb.size; simp at hz
  obtain ⟨a1, cap1, rfl, -⟩ := own_at hown
  go_wp2
  refine bodyPost_ret (v := bdv b.wd b.hg (.slice a1 b.ps.length cap1)) (by simp [results, Try.results8, go_sem, hc]) rfl ⟨_, rfl, ?_, (by repeat (first | with_reducible exact Below.refl _ _ | with_reducible assumption | with_reducible apply bl_drewN | with_reducible apply bl_drew | with_reducible apply bl_alloc | (with_reducible refine bl_set ?_ (by first | (simp; done) | (simp; omega)) _) | with_reducible refine bl_trans ?_ (by with_reducible assumption)))⟩
  refine own_mono (base' := w.heap.size + 3) ?_ (by omega)
  repeat (with_reducible refine ownsRow_setCell_below ?_ (by first | (simp; done) | (simp; omega)) _)
  simpa using hown
theorem toWay_any (p : Wy) (w : World) :
    Calls Try.prog 26 #[p.val] w fun e w' => e = .returned p.val ∧ Below w.heap.size w w' := by
  go_enter Try.func26, Try.ntmps26
  go_wp2_with fail
  refine (toCell_any ⟨p.fx, p.fy⟩ _).mono ?_
  rintro e w1 ⟨rfl, hb⟩
  obtain ⟨hc, hf⟩ := bcell hb
  have hz := hb.size; simp at hz
  have q0 : w.heap.size < w1.heap.size := by omega
  have q1 : w.heap.size + 1 < w1.heap.size := by omega
  have q2 : w.heap.size + 1 + 1 < w1.heap.size := by omega
  go_wp2_with fail
  refine (toCell_any ⟨p.tx, p.ty⟩ _).mono ?_
  rintro e w2 ⟨rfl, hb2⟩
  obtain ⟨hc2, hf2⟩ := bcell hb2
  have hz2 := hb2.size; simp at hz2
  go_wp2
  refine bodyPost_ret (v := p.val) (by simp [results, Try.results26, go_sem, hc, hc2, q0, q1, q2]) rfl ⟨rfl, (by repeat (first | with_reducible exact Below.refl _ _ | with_reducible assumption | with_reducible apply bl_drewN | with_reducible apply bl_drew | with_reducible apply bl_alloc | (with_reducible refine bl_set ?_ (by first | (simp; done) | (simp; omega)) _) | with_reducible refine bl_trans ?_ (by with_reducible assumption)))⟩
theorem eqBoard_pv {w : World} {v v' : Value} {b c : Bd} (h : BV w v b) (h' : BV w v' c) (hn : b.ps.length ≤ 10000000) (hn' : c.ps.length ≤ 10000000) :
    Calls Try.prog 12 #[v, v'] w fun e w' => e = .returned (.bool (decide (b.wd = c.wd ∧ b.hg = c.hg ∧ b.ps = c.ps))) ∧ Below w.heap.size w w' := by
  obtain ⟨s, rfl, h⟩ := h
  obtain ⟨s', rfl, h'⟩ := h'
  go_enter Try.func12, Try.ntmps12
  go_wp2_with (go_at_call 20; refine (eqPieceS_pv (h.step (by repeat (first | with_reducible exact Below.refl _ _ | with_reducible assumption | with_reducible apply bl_drewN | with_reducible apply bl_drew | with_reducible apply bl_alloc | (with_reducible refine bl_set ?_ (by first | (simp; done) | (simp; omega)) _) | with_reducible refine bl_trans ?_ (by with_reducible assumption)))) (h'.step (by repeat (first | with_reducible exact Below.refl _ _ | with_reducible assumption | with_reducible apply bl_drewN | with_reducible apply bl_drew | with_reducible apply bl_alloc | (with_reducible refine bl_set ?_ (by first | (simp; done) | (simp; omega)) _) | with_reducible refine bl_trans ?_ (by with_reducible assumption)))) hn hn').mono ?_; rintro e w1 ⟨rfl, hb⟩)
  all_goals
    go_ret
    exact ⟨ret_bool (by go_light; (try simp_all) <;> grind), (by repeat (first | with_reducible exact Below.refl _ _ | with_reducible assumption | with_reducible apply bl_drewN | with_reducible apply bl_drew | with_reducible apply bl_alloc | (with_reducible refine bl_set ?_ (by first | (simp; done) | (simp; omega)) _) | with_reducible refine bl_trans ?_ (by with_reducible assumption)))⟩
theorem eqBoard_yes {w : World} {v v' : Value} {b : Bd} (h : BV w v b) (h' : BV w v' b) (hn : b.ps.length ≤ 10000000) :
    Calls Try.prog 12 #[v, v'] w fun e w' => e = .returned (.bool true) ∧ Below w.heap.size w w' := by
  have := eqBoard_pv h h' hn hn
  simpa using this
end Go.Proofs.Ytoldmgpdcenmhaa
