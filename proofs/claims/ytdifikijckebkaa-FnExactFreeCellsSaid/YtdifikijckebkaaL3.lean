/- The walk of the law FnExactValidWay. -/
import Derived.Test.YtdifikijckebkaaC10
import Derived.Deep.RegionHeld3
import Derived.Deep.CutRange
import Derived.StillTailTactics
namespace Go.Proofs.Ytdifikijckebkaa
open Go.RowKit
set_option linter.unusedVariables false
set_option linter.unusedSimpArgs false
set_option maxHeartbeats 400000
theorem ext_s {w w' : World} (h : Below w.heap.size w w') : Below w.heap.size w w' ∧ ∀ b o, b < w.heap.size → w'.cell? ⟨b, o, none⟩ = w.cell? ⟨b, o, none⟩ := ⟨h, (bcell h).1⟩
set_option maxRecDepth 100000 in
theorem lawValidWay_any (wd hg : Int) (a : Option Addr) (cap : Nat) (ps : List Pc) (y : Wy) (w : World) (hps : PcsAt w.heap.size w a ps) (hok : (Bd.mk wd hg ps).ok) (hyo : y.ok) (hl : ps.length ≤ 9223372036854775807) :
    Calls Try.prog 5 #[bdv wd hg (.slice a ps.length cap), y.val] w fun e w' => e = .returned (.bool true) ∧ Below w.heap.size w w' := by
  by_cases hn : ps.length ≤ 1048576
  · have Hs := Lib.hid (show szv ps.length 1048576 = 1048576 - ps.length by unfold szv; rw [if_neg (by omega)])
    obtain ⟨W0, HW0⟩ : ∃ W0, W0 = (w.alloc (.cells #[.int .i8 wd, .int .i8 hg, .slice a ps.length cap] 32)).alloc (.cells #[.int .i8 y.fx, .int .i8 y.fy, .int .i8 y.sd, .int .i8 y.tx, .int .i8 y.ty, .int .i8 y.out] 35) := ⟨_, rfl⟩
    have A0 : PV w (.slice a ps.length cap) ps := ⟨a, cap, rfl, hps⟩
    go_enter Try.func5, Try.ntmps5
    go_wp2_with fail
    refine (szBoard_any wd hg a ps.length cap _ _ (by omega) (by omega) (by omega)).mono ?_
    rintro e w1 ⟨rfl, b1⟩
    rw [Hs.out]
    obtain ⟨hc1, hf1⟩ := bcell b1
    go_upto_region 5 with fail
    have A1 : PV w1 (.slice a ps.length cap) ps := (A0.step (bl_alloc (bl_alloc (Below.refl _ _)))).step b1
    have S1 : Below (w.heap.size + 2) W0 w1 := by simpa [HW0] using b1
    have CT := Lib.hid (fun w' (h : Below w1.heap.size w1 w') => toBoard_pv (b := ⟨wd, hg, ps⟩) ⟨_, rfl, A1.step h⟩ (by simp; omega))
    have CS := Lib.hid (fun s w' (h : PV w' s ps) => spec_ValidWay_pv wd hg s ps y w' h hok hyo (by omega))
    have CI := Lib.hid (fun s w' (h : PV w' s ps) => impl_ValidWay_pv wd hg s ps y w' h hok hyo (by omega))
    have CE := Lib.hid (fun s s' w' (h : PV w' s ps) (h' : PV w' s' ps) => eqBoard_yes (b := ⟨wd, hg, ps⟩) (w := w') ⟨s, rfl, h⟩ ⟨s', rfl, h'⟩ (by simp; omega))
    have q0 : w.heap.size < w1.heap.size := by have := b1.size; simp at this; omega
    have q1 : w.heap.size + 1 < w1.heap.size := by have := b1.size; simp at this; omega
    go_region_held3 (fun w' => Below w1.heap.size w1 w' ∧ ∀ b o, b < w1.heap.size → w'.cell? ⟨b, o, none⟩ = w1.cell? ⟨b, o, none⟩) ((refine ext_s ?_; exact (by repeat (first | with_reducible exact Below.refl _ _ | with_reducible assumption | with_reducible apply bl_drewN | with_reducible apply bl_drew | with_reducible apply bl_alloc | (with_reducible refine bl_set ?_ (by first | (simp; done) | (simp; omega)) _) | with_reducible refine bl_trans ?_ (by with_reducible assumption))))) (first | (go_at_call 17; refine (CT.out _ (by repeat (first | with_reducible exact Below.refl _ _ | with_reducible assumption | with_reducible apply bl_drewN | with_reducible apply bl_drew | with_reducible apply bl_alloc | (with_reducible refine bl_set ?_ (by first | (simp; done) | (simp; omega)) _) | with_reducible refine bl_trans ?_ (by with_reducible assumption)))).mono ?_; rintro e w2 ⟨s2, rfl, Ot, b2⟩; obtain ⟨hc2, hf2⟩ := bcell b2) | (go_at_call 18; refine (toWay_any y _).mono ?_; rintro e w3 ⟨rfl, b3⟩) | (go_at_call 16; refine (CS.out _ _ ((own_pv Ot).step b3)).mono ?_; rintro e w4 ⟨rfl, b4⟩))
    have b5 : Below w1.heap.size w1 w4 := (by repeat (first | with_reducible exact Below.refl _ _ | with_reducible assumption | with_reducible apply bl_drewN | with_reducible apply bl_drew | with_reducible apply bl_alloc | (with_reducible refine bl_set ?_ (by first | (simp; done) | (simp; omega)) _) | with_reducible refine bl_trans ?_ (by with_reducible assumption)))
    obtain ⟨hc5, hf5⟩ := bcell b5
    go_wp2_with fail
    refine (CT.out _ (by repeat (first | with_reducible exact Below.refl _ _ | with_reducible assumption | with_reducible apply bl_drewN | with_reducible apply bl_drew | with_reducible apply bl_alloc | (with_reducible refine bl_set ?_ (by first | (simp; done) | (simp; omega)) _) | with_reducible refine bl_trans ?_ (by with_reducible assumption)))).mono ?_
    rintro e w5 ⟨s5, rfl, Og, b6⟩
    have P5 := own_pv Og
    obtain ⟨a5, cap5, rfl, -⟩ := own_at Og
    have q5 := b5.size
    have q6 := b6.size
    have b7 : Below w1.heap.size w1 w5 := (by repeat (first | with_reducible exact Below.refl _ _ | with_reducible assumption | with_reducible apply bl_drewN | with_reducible apply bl_drew | with_reducible apply bl_alloc | (with_reducible refine bl_set ?_ (by first | (simp; done) | (simp; omega)) _) | with_reducible refine bl_trans ?_ (by with_reducible assumption)))
    obtain ⟨hc7, hf7⟩ := bcell b7
    have l0 : w.heap.size < w5.heap.size := by omega
    have l1 : w.heap.size + 1 < w5.heap.size := by omega
    have l2 : w.heap.size + 1 < w5.heap.size + 1 := by omega
    have CJ := Lib.hid (fun w' (h : Below w5.heap.size w5 w') => CI.out _ w' (P5.step h))
    go_upto_region 7 with fail
    go_region_held3 (fun w' => Below (w5.alloc (.cells #[.int .i8 wd, .int .i8 hg, .slice a5 ps.length cap5] 39)).heap.size (w5.alloc (.cells #[.int .i8 wd, .int .i8 hg, .slice a5 ps.length cap5] 39)) w' ∧ ∀ b o, b < (w5.alloc (.cells #[.int .i8 wd, .int .i8 hg, .slice a5 ps.length cap5] 39)).heap.size → w'.cell? ⟨b, o, none⟩ = (w5.alloc (.cells #[.int .i8 wd, .int .i8 hg, .slice a5 ps.length cap5] 39)).cell? ⟨b, o, none⟩) ((refine ext_s ?_; exact (by repeat (first | with_reducible exact Below.refl _ _ | with_reducible assumption | with_reducible apply bl_drewN | with_reducible apply bl_drew | with_reducible apply bl_alloc | (with_reducible refine bl_set ?_ (by first | (simp; done) | (simp; omega)) _) | with_reducible refine bl_trans ?_ (by with_reducible assumption))))) (first | (go_at_call 18; refine (toWay_any y _).mono ?_; rintro e w8 ⟨rfl, b8⟩) | (go_at_call 19; refine (CJ.out _ ?_).mono ?_; (exact (by repeat (first | with_reducible exact Below.refl _ _ | with_reducible assumption | with_reducible apply bl_drewN | with_reducible apply bl_drew | with_reducible apply bl_alloc | (with_reducible refine bl_set ?_ (by first | (simp; done) | (simp; omega)) _) | with_reducible refine bl_trans ?_ (by with_reducible assumption)))); rintro e w9 ⟨rfl, b9⟩))
    have b10 : Below w5.heap.size w5 w9 := (by repeat (first | with_reducible exact Below.refl _ _ | with_reducible assumption | with_reducible apply bl_drewN | with_reducible apply bl_drew | with_reducible apply bl_alloc | (with_reducible refine bl_set ?_ (by first | (simp; done) | (simp; omega)) _) | with_reducible refine bl_trans ?_ (by with_reducible assumption)))
    have HW := Lib.hid (b8.size)
    obtain ⟨hc9, hf9⟩ := bcell (bl_trans b8 b9)
    have q9 := (bl_trans b8 b9).size
    simp at q9
    have l3 : w.heap.size < w9.heap.size := by omega
    have l4 : w5.heap.size < w9.heap.size := by omega
    have l5 : w.heap.size < w5.heap.size + 1 := by omega
    have hcs : ∀ o, w9.cell? ⟨w5.heap.size, o, none⟩ = (w5.alloc (.cells #[.int .i8 wd, .int .i8 hg, .slice a5 ps.length cap5] 39)).cell? ⟨w5.heap.size, o, none⟩ := by
      intro o; rw [hc9 _ _ (by simp)]; simp
    have CK := Lib.hid (fun w' (h : Below w5.heap.size w5 w') => toBoard_pv (b := ⟨wd, hg, ps⟩) (w := w') ⟨_, rfl, (A1.step b7).step h⟩ (by simp; omega))
    have CL := Lib.hid (fun w' s' (h : Below w5.heap.size w5 w') (h' : PV w' s' ps) => CE.out _ s' w' (P5.step h) h')
    go_upto_region 10 with fail
    go_region_held3 (fun w' => Below w9.heap.size w9 w' ∧ ∀ b o, b < w9.heap.size → w'.cell? ⟨b, o, none⟩ = w9.cell? ⟨b, o, none⟩) ((refine ext_s ?_; exact (by repeat (first | with_reducible exact Below.refl _ _ | with_reducible assumption | with_reducible apply bl_drewN | with_reducible apply bl_drew | with_reducible apply bl_alloc | (with_reducible refine bl_set ?_ (by first | (simp; done) | (simp; omega)) _) | with_reducible refine bl_trans ?_ (by with_reducible assumption))))) (first | (go_at_call 17; refine (CK.out _ ?_).mono ?_; (exact (by repeat (first | with_reducible exact Below.refl _ _ | with_reducible assumption | with_reducible apply bl_drewN | with_reducible apply bl_drew | with_reducible apply bl_alloc | (with_reducible refine bl_set ?_ (by first | (simp; done) | (simp; omega)) _) | with_reducible refine bl_trans ?_ (by with_reducible assumption)))); rintro e w11 ⟨s11, rfl, Oe, b11⟩; obtain ⟨hc11, hf11⟩ := bcell b11) | (go_at_call 20; refine (CL.out _ _ ?_ (own_pv Oe)).mono ?_; (exact (by repeat (first | with_reducible exact Below.refl _ _ | with_reducible assumption | with_reducible apply bl_drewN | with_reducible apply bl_drew | with_reducible apply bl_alloc | (with_reducible refine bl_set ?_ (by first | (simp; done) | (simp; omega)) _) | with_reducible refine bl_trans ?_ (by with_reducible assumption)))); rintro e w12 ⟨rfl, b12⟩))
    go_wp2
    go_ret
    have b13 : Below w9.heap.size w9 w12 := (by repeat (first | with_reducible exact Below.refl _ _ | with_reducible assumption | with_reducible apply bl_drewN | with_reducible apply bl_drew | with_reducible apply bl_alloc | (with_reducible refine bl_set ?_ (by first | (simp; done) | (simp; omega)) _) | with_reducible refine bl_trans ?_ (by with_reducible assumption)))
    exact ⟨rfl, (by repeat (first | with_reducible exact Below.refl _ _ | with_reducible assumption | with_reducible apply bl_drewN | with_reducible apply bl_drew | with_reducible apply bl_alloc | (with_reducible refine bl_set ?_ (by first | (simp; done) | (simp; omega)) _) | with_reducible refine bl_trans ?_ (by with_reducible assumption)))⟩
  · have Hs := Lib.hid (show szv ps.length 1048576 = -1 by unfold szv; rw [if_pos (by omega)])
    go_enter Try.func5, Try.ntmps5
    go_wp2_with fail
    refine (szBoard_any wd hg a ps.length cap _ _ (by omega) (by omega) (by omega)).mono ?_
    rintro e w1 ⟨rfl, b1⟩
    rw [Hs.out]
    go_wp2
    go_ret
    exact ⟨rfl, (by repeat (first | with_reducible exact Below.refl _ _ | with_reducible assumption | with_reducible apply bl_drewN | with_reducible apply bl_drew | with_reducible apply bl_alloc | (with_reducible refine bl_set ?_ (by first | (simp; done) | (simp; omega)) _) | with_reducible refine bl_trans ?_ (by with_reducible assumption)))⟩
end Go.Proofs.Ytdifikijckebkaa
