/- Contracts: (Piece).falls. -/
import Derived.Test.YtoldmgpdcenmhaaHits3
namespace Go.Proofs.Ytoldmgpdcenmhaa
open Go.RowKit
set_option linter.unusedVariables false
set_option linter.unusedSimpArgs false
set_option maxHeartbeats 400000
set_option maxRecDepth 100000
/-- The bits of the sides of 'v' below j, turned, as the program gathers them. -/
def osum (v t : Int) : Nat → Int
  | 0 => 0
  | j + 1 => if v / 2 ^ j % 2 = 1 then bits .or .u8 (osum v t j) (orL [((j : Int) + t) % 4]) else osum v t j
theorem osum_succ (v t : Int) (j : Nat) : osum v t (j + 1) = if v / 2 ^ j % 2 = 1 then bits .or .u8 (osum v t j) (orL [((j : Int) + t) % 4]) else osum v t j := rfl
theorem osum_fin : ∀ v : Fin 16, ∀ t : Fin 4, osum ((v : Nat) : Int) ((t : Nat) : Int) 4 = hsum ((v : Nat) : Int) ((t : Nat) : Int) 4 := by decide +kernel
theorem osum_eq (v t : Int) (h1 : 0 ≤ v) (h2 : v ≤ 15) (h3 : 0 ≤ t) (h4 : t ≤ 3) : osum v t 4 = hsum v t 4 := by
  have := osum_fin ⟨v.toNat, by omega⟩ ⟨t.toNat, by omega⟩
  simpa [Int.toNat_of_nonneg h1, Int.toNat_of_nonneg h3] using this
theorem falls_any (x y k t d s : Int) (h1 : 0 ≤ k) (h2 : k ≤ 5) (h3 : 0 ≤ t) (h4 : t ≤ 3) (h5 : 0 ≤ s) (h6 : s ≤ 3) (w : World) :
    Calls Try.prog 73 #[.agg #[.int .i8 x, .int .i8 y, .int .i8 k, .int .i8 t, .int .i8 d], .int .i64 s] w fun e w' => e = .returned (.tuple #[.bool (decide (0 ≤ hitsV k t s)), .int .u8 (max (hitsV k t s) 0)]) ∧ Below w.heap.size w w' := by
  have w3 := wrap_i8 (n := t) (by omega) (by omega)
  have hr1 : 0 ≤ (s - t) % 4 := by omega
  have hr2 : (s - t) % 4 ≤ 3 := by omega
  have hre : (s + 4 - t) % 4 = (s - t) % 4 := by omega
  have V : hitsV k t s = (if tbl k ((s - t) % 4) < 0 then -1 else hsum (tbl k ((s - t) % 4)) t 4) := by unfold hitsV; rw [hre]
  have HU := Lib.hid (fun w' => unturned_any k ((s - t) % 4) h1 h2 hr1 hr2 w')
  clear hre
  rcases dec_cases (0 ≤ tbl k ((s - t) % 4)) with ⟨g, g'⟩ | ⟨g, g'⟩
  · have V2 := Lib.hid (V.trans (if_neg (by omega)))
    have G := Lib.hid g'
    clear V g'
    go_enter Try.func73, Try.ntmps73
    go_wp2_with fail
    refine (HU.out _).mono ?_
    rintro e w1 ⟨⟨v, v1, v2, v3, rfl⟩, hb⟩
    have hv := v3 G.out
    rw [g]
    have HV := Lib.hid hv
    clear hv v3
    go_wp2
    go_loopw [9, 27] (fun o i wr => ∃ j : Nat, ∃ n : Int, j ≤ 4 ∧ i = .int .i64 j ∧ o = .int .u8 n ∧ n = osum v t j ∧ Below w.heap.size w wr) (fun _ i _ => 4 - (intOf i).toNat)
    case atStart => exact ⟨0, 0, by omega, rfl, rfl, rfl, (by repeat (first | with_reducible exact Below.refl _ _ | with_reducible assumption | with_reducible apply bl_drewN | with_reducible apply bl_drew | with_reducible apply bl_alloc | (with_reducible refine bl_set ?_ (by first | (simp; done) | (simp; omega)) _) | with_reducible refine bl_trans ?_ (by with_reducible assumption)))⟩
    case round =>
      clear hb
      obtain ⟨j, n, hj, rfl, rfl, hn0, hb⟩ := hrel
      have HN := Lib.hid hn0; clear hn0
      by_cases hlt : j < 4
      · have H1 := Lib.hid (hasSide_any v j wr (by omega) (by omega) v1 v2)
        have HS := Lib.hid (osum_succ v t j)
        rcases dec_cases (v / 2 ^ j % 2 = 1) with ⟨q, q'⟩ | ⟨q, q'⟩
        · go_wp2_with fail
          refine H1.out.mono ?_
          rintro e w2 ⟨rfl, rfl⟩
          simp only [Int.toNat_natCast, q]
          go_wp2_with fail
          refine (sides1_any wr (((j : Int) + t) % 4) _ (by omega) (by omega)).mono ?_
          rintro e w2 ⟨rfl, hw⟩
          have hb2 : Below w.heap.size w w2 := hw ▸ bl_alloc hb
          clear hw
          have HS' := HS.out
          rw [if_pos q', ← HN.out] at HS'
          have HT := Lib.hid HS'; clear HS'
          go_wp2
          exact ⟨⟨j + 1, _, by omega, by go_num, rfl, HT.out.symm, hb2⟩, by simp [intOf]; omega⟩
        · go_wp2_with fail
          refine H1.out.mono ?_
          rintro e w2 ⟨rfl, rfl⟩
          simp only [Int.toNat_natCast, q]
          have HS' := HS.out
          rw [if_neg q', ← HN.out] at HS'
          have HT := Lib.hid HS'; clear HS'
          go_wp2
          exact ⟨⟨j + 1, _, by omega, by go_num, rfl, HT.out.symm, hb⟩, by simp [intOf]; omega⟩
      · go_wp2
        go_ret2
        have hj4 : j = 4 := by omega
        have e1 : n = hitsV k t s := by rw [HN.out, hj4, osum_eq v t v1 v2 h3 h4, HV.out, V2.out]
        have e2 : 0 ≤ hitsV k t s := by rw [V2.out]; exact (hsum_bd _ _ 4 (by omega)).1
        refine ⟨?_, hb⟩
        rw [show max (hitsV k t s) 0 = n by omega, show decide (0 ≤ hitsV k t s) = true by simpa using e2]
        rfl
  · have V2 := Lib.hid (V.trans (if_pos (by omega)))
    clear V g'
    go_enter Try.func73, Try.ntmps73
    go_wp2_with fail
    refine (HU.out _).mono ?_
    rintro e w1 ⟨⟨v, v1, v2, v3, rfl⟩, hb⟩
    rw [g]
    clear v3
    go_wp2
    go_ret2
    exact ⟨by rw [V2.out]; rfl, (by repeat (first | with_reducible exact Below.refl _ _ | with_reducible assumption | with_reducible apply bl_drewN | with_reducible apply bl_drew | with_reducible apply bl_alloc | (with_reducible refine bl_set ?_ (by first | (simp; done) | (simp; omega)) _) | with_reducible refine bl_trans ?_ (by with_reducible assumption)))⟩
end Go.Proofs.Ytoldmgpdcenmhaa
