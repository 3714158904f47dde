/- The statements' own functions, walked. -/
import Derived.Test.YtdifikijckebkaaC3
namespace Go.Proofs.Ytdifikijckebkaa
open Go.RowKit
set_option linter.unusedVariables false
set_option linter.unusedSimpArgs false
set_option maxHeartbeats 400000

theorem lawDelayOfLine_any (a : Option Addr) (cap : Nat) (ps : List Pc) (w : World) (hps : PcsAt w.heap.size w a ps) (hok : PcsOk ps) (hl : ps.length ≤ 9223372036854775807) :
    Calls Try.prog 3 #[.slice a ps.length cap] w fun e w' => e = .returned (.bool true) ∧ Below w.heap.size w w' := by
  by_cases hn : ps.length ≤ 1048576
  · have hs : szv ps.length 1048576 = 1048576 - ps.length := by unfold szv; rw [if_neg (by omega)]
    have Hs := Lib.hid hs; clear hs
    go_enter Try.func3, Try.ntmps3
    go_wp2_with fail
    refine (szPieceS_any a _ cap _ _ (by omega) (by omega) (by omega)).mono ?_
    rintro e w' ⟨rfl, rfl⟩
    rw [Hs.out]
    go_wp2_with fail
    refine (toPieceS_any a cap ps _ hps (Nat.le_refl _) (by omega)).mono ?_
    rintro e w1 ⟨v1, rfl, hown1, hb1⟩
    obtain ⟨a1, cap1, rfl, hsl1, -, -⟩ := own_at hown1
    go_wp2_with fail
    refine (specDelayOfLine_any a1 cap1 ps _ hsl1 hok (Nat.le_refl _) (by omega)).mono ?_
    rintro e w2 ⟨rfl, hb2⟩
    have B2 := bl_trans hb1 hb2
    go_wp2_with fail
    refine (toPieceS_any a cap ps _ (hps.below B2 (Nat.le_refl _)) B2.size (by omega)).mono ?_
    rintro e w3 ⟨v3, rfl, hown3, hb3⟩
    have B3 := bl_trans B2 hb3
    obtain ⟨a3, cap3, rfl, hsl3, -, -⟩ := own_at hown3
    go_wp2_with fail
    refine (delayOfLine_any a3 cap3 ps _ hsl3 hok (Nat.le_refl _) (by omega)).mono ?_
    rintro e w4 ⟨rfl, hb4⟩
    have B4 := bl_trans B3 hb4
    go_wp2_with fail
    refine (toPieceS_any a cap ps _ (hps.below B4 (Nat.le_refl _)) B4.size (by omega)).mono ?_
    rintro e w5 ⟨v5, rfl, hown5, hb5⟩
    have B5 := bl_trans B4 hb5
    obtain ⟨a5, cap5, rfl, hsl5, -, -⟩ := own_at hown5
    have hz4 := hb4.size
    have hz5 := hb5.size
    go_wp2_with fail
    refine (eqPieceS_any a3 a5 cap3 cap5 ps ps _ (((hsl3.below hb4 (Nat.le_refl _)).below hb5 hz4).mono (B' := w5.heap.size) (by omega)) hsl5 (Nat.le_refl _) (by omega) (by omega)).mono ?_
    rintro e w6 ⟨rfl, hb6⟩
    have B6 := bl_trans B5 hb6
    have ht : decide (ps = ps) = true := by simp
    rw [ht]
    go_wp2
    go_ret
    exact ⟨rfl, B6⟩
  · have hs : szv ps.length 1048576 = -1 := by unfold szv; rw [if_pos (by omega)]
    have Hs := Lib.hid hs; clear hs
    go_enter Try.func3, Try.ntmps3
    go_wp2_with fail
    refine (szPieceS_any a _ cap _ _ (by omega) (by omega) (by omega)).mono ?_
    rintro e w' ⟨rfl, rfl⟩
    rw [Hs.out]
    go_wp2
    go_ret
    exact ⟨rfl, Below.refl _ _⟩
end Go.Proofs.Ytdifikijckebkaa
