/- Contracts for SlowLine. -/
import Derived.Test.YtdifikijckebkaaC4
namespace Go.Proofs.Ytdifikijckebkaa
open Go.RowKit
set_option linter.unusedVariables false
set_option linter.unusedSimpArgs false
set_option maxHeartbeats 400000

/-- The delay of the piece k of a line of which so many ticks are left to give. -/
def slowD (left : Int) (k : Nat) : Int := 1 + min (max (left - 8 * k) 0) 8
def slowP (left : Int) (k : Nat) (p : Pc) : Pc := { p with d := slowD left k }
def slowed (left : Int) (ps : List Pc) : List Pc := ps.mapIdx (slowP left)
theorem slowed_length (left : Int) (ps : List Pc) : (slowed left ps).length = ps.length := by simp [slowed]
/-- The line when k pieces have been made slow. -/
def slowTo (left : Int) (ps : List Pc) (k : Nat) : List Pc := (slowed left ps).take k ++ ps.drop k
theorem slowTo_zero (left : Int) (ps : List Pc) : slowTo left ps 0 = ps := by simp [slowTo]
theorem slowTo_all (left : Int) (ps : List Pc) : slowTo left ps ps.length = slowed left ps := by
  rw [slowTo, List.take_of_length_le (by rw [slowed_length]; exact Nat.le_refl _)]; simp
theorem slowTo_cells (left : Int) (ps : List Pc) (k : Nat) (h : k < ps.length) :
    flat Pc.cells (slowTo left ps k) = (flat Pc.cells ((slowed left ps).take k) ++ [.int .i8 ps[k].x, .int .i8 ps[k].y, .int .i8 ps[k].k, .int .i8 ps[k].t]) ++ (.int .i8 ps[k].d :: flat Pc.cells (ps.drop (k + 1))) := by
  rw [slowTo, flat_append, List.drop_eq_getElem_cons h, flat_cons]
  simp [Pc.cells]
theorem slowTo_succ (left : Int) (ps : List Pc) (k : Nat) (h : k < ps.length) :
    flat Pc.cells (slowTo left ps (k + 1)) = ((flat Pc.cells ((slowed left ps).take k) ++ [.int .i8 ps[k].x, .int .i8 ps[k].y, .int .i8 ps[k].k, .int .i8 ps[k].t]) ++ [.int .i8 (slowD left k)]) ++ flat Pc.cells (ps.drop (k + 1)) := by
  rw [slowTo, flat_append, List.take_succ_eq_append_getElem (by rw [slowed_length]; exact h), flat_append, flat_cons, flat_nil]
  simp [slowed, slowP, Pc.cells]

def slowC (n : Nat) (delay : Int) : Int := if inB delay n (9 * n) = true then 0 else 6
def slowL (ps : List Pc) (delay : Int) : List Pc := if inB delay ps.length (9 * ps.length) = true then slowed (delay - ps.length) ps else []
def slowCode (ps : List Pc) (delay : Int) : Int := if given ps = 0 then (if inB delay 0 100000 = true then slowC ps.length delay else 2) else given ps
def slowList (ps : List Pc) (delay : Int) : List Pc := if given ps = 0 then (if inB delay 0 100000 = true then slowL ps delay else []) else []

theorem l05Slow_any {B : Nat} (a : Option Addr) (cap : Nat) (ps : List Pc) (delay : Int) (w : World) (hps : PcsAt B w a ps) (hB : B ≤ w.heap.size) (hn : ps.length ≤ 10000000) (h0 : 0 ≤ delay) (h1 : delay ≤ 100000) :
    Calls Try.prog 44 #[.slice a ps.length cap, .int .i64 delay] w fun e w' => ∃ v, e = .returned (.tuple #[v, .int .i64 (slowC ps.length delay)]) ∧
      w'.ownsRow w.heap.size 60 5 v (slowL ps delay).length (flat Pc.cells (slowL ps delay)) ∧ Below w.heap.size w w' := by
  obtain ⟨i0, hi, hz0, hz1, hz2⟩ := info_parts Try.infoPiece
  by_cases hin : inB delay ps.length (9 * ps.length) = true
  · have HC := Lib.hid (show slowC ps.length delay = 0 by rw [slowC, if_pos hin])
    have HLL := Lib.hid (show slowL ps delay = slowed (delay - ps.length) ps by rw [slowL, if_pos hin])
    simp only [inB, Bool.and_eq_true, decide_eq_true_eq] at hin
    obtain ⟨d1, d2⟩ := hin
    go_enter Try.func44, Try.ntmps44
    go_wp2_with (at_builtin; refine wpList_append_sl _ rfl _ _ 26 rfl w.heap.size 60 i0 (.agg #[.int .i8 0, .int .i8 0, .int .i8 0, .int .i8 0, .int .i8 0]) 5 5 Try.underlying26 hi hz0 hz1 hz2 rfl (by decide) _ 0 [] rfl (World.ownsRow_made w _ 0 (Nat.le_refl _) (by simp [maxLen]) rfl) a ps.length cap (flat Pc.cells ps) rfl (hps.below (bl_alloc (Below.refl _ _)) hB) (flat_length Pc.len ps) (one_cells Pc.one ps) (by unfold maxLen; omega) (by omega) (by simp) ?_; intro v1 w1 hown hgrow)
    rw [Nat.zero_add, List.nil_append] at hown
    have hb0 : Below w.heap.size w w1 := bl_grown (bl_alloc (Below.refl _ _)) hgrow (by intro k hk; have : some w.heap.size = some k := hk; cases this; exact Nat.le_refl _)
    clear hgrow hi hz0 hz1 hz2
    rcases id hown.2 with ⟨rfl, hnil⟩ | ⟨g, cap1, cur, rfl, -⟩
    · have Hn := Lib.hid hnil
      have hle : ps.length ≤ 0 := by omega
      clear hnil
      refine wp_loop_rounds 1 ?_
      rw [rounds_succ]; go_wp2
      go_ret2
      have hp : slowed (delay - ps.length) ps = [] := by apply List.eq_nil_of_length_eq_zero; rw [slowed_length]; exact Hn.out
      refine ⟨_, by rw [HC.out]; rfl, ?_, hb0⟩
      rw [HLL.out, hp]
      exact World.ownsRow_nil _ _ _ _
    · have hsz0 := (hown.lt g rfl).2
      have hlo := (hown.lt g rfl).1
      obtain ⟨left, hleft⟩ : ∃ left : Int, left = delay - ps.length := ⟨_, rfl⟩
      have hl0 : 0 ≤ left := by omega
      have hl1 : left ≤ 8 * ps.length := by omega
      have hl2 : left ≤ 100000 := by omega
      have HL := Lib.hid hleft
      have Hd := Lib.hid (show delay = left + ps.length by omega)
      clear hleft
      go_loopw [1, 8] (fun dd i wr => ∃ k : Nat, k ≤ ps.length ∧ i = .int .i64 k ∧ dd = .int .i64 (max (left - 8 * k) 0 + (ps.length - k)) ∧ wr.ownsRow w.heap.size 60 5 (Value.slice (some { block := g, off := 0 }) ps.length cap1) ps.length (flat Pc.cells (slowTo left ps k)) ∧ Below w.heap.size w wr) (fun _ i _ => ps.length - (intOf i).toNat)
      case atStart => exact ⟨0, by omega, rfl, by rw [Hd.out]; congr 1; omega, by rw [slowTo_zero]; exact hown, hb0⟩
      case round =>
        clear hown hb0
        obtain ⟨k, hk, rfl, rfl, hown, hb⟩ := hrel
        have hr : max (left - 8 * k) 0 ≤ 100000 := by omega
        have hr0 : 0 ≤ max (left - 8 * k) 0 := by omega
        by_cases hlt : k < ps.length
        · obtain ⟨⟨v4, c4⟩, f4⟩ := own_cell hown (j := k * 5 + 4) (by omega)
          have hmx : min 9 (max (left - 8 * (k : Int)) 0 + (ps.length - k) - (ps.length - 1 - k)) = slowD left k := by unfold slowD; omega
          have Hmx := Lib.hid hmx; clear hmx
          have hsd : 1 ≤ slowD left k ∧ slowD left k ≤ 9 := by unfold slowD; omega
          obtain ⟨hs1, hs2⟩ := hsd
          go_wp2_with (go_at_call 60; refine (l00Min_any _ _ _).mono ?_; rintro e w' ⟨rfl, rfl⟩; rw [Hmx.out])
          rw [slowTo_cells left ps k hlt] at hown
          have hown3 := own_setCells [.int .i8 (slowD left k)] hown (j := k * 5 + 4) (by rw [List.length_append, flat_length Pc.len, List.length_take, slowed_length, Nat.min_eq_left hk]; rfl) (by simp)
          clear c4 f4 hown
          go_roundw
          case rel => exact ⟨k + 1, by omega, by go_num, by congr 1; unfold slowD; omega, by rw [slowTo_succ left ps k hlt]; exact hown3, (by repeat (first | with_reducible exact Below.refl _ _ | with_reducible assumption | with_reducible apply bl_drewN | with_reducible apply bl_drew | with_reducible apply bl_alloc | (with_reducible refine bl_set ?_ (by first | (simp; done) | (simp; omega)) _) | with_reducible refine bl_trans ?_ (by with_reducible assumption)))⟩
          case measure => simp [intOf]; omega
        · go_wp2
          go_ret2
          have hkn : k = ps.length := by omega
          rw [hkn, slowTo_all] at hown
          exact ⟨_, by rw [HC.out]; rfl, by rw [HLL.out, slowed_length, ← HL.out]; exact hown, (by repeat (first | with_reducible exact Below.refl _ _ | with_reducible assumption | with_reducible apply bl_drewN | with_reducible apply bl_drew | with_reducible apply bl_alloc | (with_reducible refine bl_set ?_ (by first | (simp; done) | (simp; omega)) _) | with_reducible refine bl_trans ?_ (by with_reducible assumption)))⟩
  · have HC := Lib.hid (show slowC ps.length delay = 6 by rw [slowC, if_neg hin])
    have HLL := Lib.hid (show slowL ps delay = [] by rw [slowL, if_neg hin])
    have hin2 : ¬ (ps.length ≤ delay ∧ delay ≤ 9 * ps.length) := by simpa [inB] using hin
    clear hin
    by_cases h2 : delay < ps.length
    all_goals
      go_enter Try.func44, Try.ntmps44
      go_wp2
      go_ret2
      exact ⟨_, by rw [HC.out]; rfl, by rw [HLL.out]; exact World.ownsRow_made _ _ 0 (Nat.le_refl _) (by simp [maxLen]) rfl, (by repeat (first | with_reducible exact Below.refl _ _ | with_reducible assumption | with_reducible apply bl_drewN | with_reducible apply bl_drew | with_reducible apply bl_alloc | (with_reducible refine bl_set ?_ (by first | (simp; done) | (simp; omega)) _) | with_reducible refine bl_trans ?_ (by with_reducible assumption)))⟩
theorem specSlowLine_any {B : Nat} (a : Option Addr) (cap : Nat) (ps : List Pc) (delay : Int) (w : World) (hps : PcsAt B w a ps) (hok : PcsOk ps) (hB : B ≤ w.heap.size) (hn : ps.length ≤ 10000000) :
    Calls Try.prog 21 #[.slice a ps.length cap, .int .i64 delay] w fun e w' => ∃ v, e = .returned (.tuple #[v, .int .i64 (slowCode ps delay)]) ∧
      (w'.ownsRow w.heap.size 60 5 v (slowList ps delay).length (flat Pc.cells (slowList ps delay))) ∧ Below w.heap.size w w' := by
  by_cases hg : given ps = 0
  · have hg' : (given ps == 0) = true := by simp [hg]
    have hg2 : (given ps != 0) = false := by simp [hg]
    by_cases hd : inB delay 0 100000 = true
    · have hd2 : 0 ≤ delay ∧ delay ≤ 100000 := by simpa [inB] using hd
      obtain ⟨d1, d2⟩ := hd2
      have HC := Lib.hid (show slowCode ps delay = slowC ps.length delay by rw [slowCode, if_pos hg, if_pos hd])
      have HL := Lib.hid (show slowList ps delay = slowL ps delay by rw [slowList, if_pos hg, if_pos hd])
      clear hg
      go_enter Try.func21, Try.ntmps21
      go_wp2_with (first | (go_at_call 31; refine (l05Given_any a cap ps _ hps hok hB hn).mono ?_; rintro e w1 ⟨rfl, hb1⟩) | (go_at_call 43; refine (l00In_any _ _ _ _).mono ?_; rintro e w' ⟨rfl, rfl⟩) | (go_at_call 44; refine (l05Slow_any a cap ps delay _ (hps.below hb1 hB) (Nat.le_trans hB hb1.size) hn d1 d2).mono ?_; rintro e w2 ⟨v, rfl, hown, hb2⟩))
      go_ret2
      exact ⟨v, by rw [HC.out]; rfl, by rw [HL.out]; exact own_mono hown hb1.size, (by repeat (first | with_reducible exact Below.refl _ _ | with_reducible assumption | with_reducible apply bl_drewN | with_reducible apply bl_drew | with_reducible apply bl_alloc | (with_reducible refine bl_set ?_ (by first | (simp; done) | (simp; omega)) _) | with_reducible refine bl_trans ?_ (by with_reducible assumption)))⟩
    · have hd3 : inB delay 0 100000 = false := by simpa using hd
      have HC := Lib.hid (show slowCode ps delay = 2 by rw [slowCode, if_pos hg, if_neg hd])
      have HL := Lib.hid (show slowList ps delay = [] by rw [slowList, if_pos hg, if_neg hd])
      clear hg hd
      go_enter Try.func21, Try.ntmps21
      go_wp2_with (first | (go_at_call 31; refine (l05Given_any a cap ps _ hps hok hB hn).mono ?_; rintro e w1 ⟨rfl, hb1⟩) | (go_at_call 43; refine (l00In_any _ _ _ _).mono ?_; rintro e w' ⟨rfl, rfl⟩))
      go_ret2
      exact ⟨_, by rw [HC.out]; rfl, by rw [HL.out]; exact World.ownsRow_made _ _ 0 (by have := hb1.size; omega) (by simp [maxLen]) rfl, (by repeat (first | with_reducible exact Below.refl _ _ | with_reducible assumption | with_reducible apply bl_drewN | with_reducible apply bl_drew | with_reducible apply bl_alloc | (with_reducible refine bl_set ?_ (by first | (simp; done) | (simp; omega)) _) | with_reducible refine bl_trans ?_ (by with_reducible assumption)))⟩
  · have hg' : (given ps == 0) = false := by simp [hg]
    have hg2 : (given ps != 0) = true := by simp [hg]
    have HC := Lib.hid (show slowCode ps delay = given ps by rw [slowCode, if_neg hg])
    have HL := Lib.hid (show slowList ps delay = [] by rw [slowList, if_neg hg])
    clear hg
    go_enter Try.func21, Try.ntmps21
    go_wp2_with (first | (go_at_call 31; refine (l05Given_any a cap ps _ hps hok hB hn).mono ?_; rintro e w1 ⟨rfl, hb1⟩) | (go_at_call 43; refine (l00In_any _ _ _ _).mono ?_; rintro e w' ⟨rfl, rfl⟩))
    go_ret2
    exact ⟨_, by rw [HC.out]; rfl, by rw [HL.out]; exact World.ownsRow_made _ _ 0 (by have := hb1.size; omega) (by simp [maxLen]) rfl, (by repeat (first | with_reducible exact Below.refl _ _ | with_reducible assumption | with_reducible apply bl_drewN | with_reducible apply bl_drew | with_reducible apply bl_alloc | (with_reducible refine bl_set ?_ (by first | (simp; done) | (simp; omega)) _) | with_reducible refine bl_trans ?_ (by with_reducible assumption)))⟩
theorem slowLine_any {B : Nat} (a : Option Addr) (cap : Nat) (ps : List Pc) (delay : Int) (w : World) (hps : PcsAt B w a ps) (hok : PcsOk ps) (hB : B ≤ w.heap.size) (hn : ps.length ≤ 10000000) :
    Calls Try.prog 22 #[.slice a ps.length cap, .int .i64 delay] w fun e w' => ∃ v, e = .returned (.tuple #[v, .int .i64 (slowCode ps delay)]) ∧
      w'.ownsRow w.heap.size 60 5 v (slowList ps delay).length (flat Pc.cells (slowList ps delay)) ∧ Below w.heap.size w w' := by
  by_cases hg : given ps = 0
  · have hg2 : (given ps != 0) = false := by simp [hg]
    by_cases hd : inB delay 0 100000 = true
    · have hd2 : 0 ≤ delay ∧ delay ≤ 100000 := by simpa [inB] using hd
      obtain ⟨d1, d2⟩ := hd2
      by_cases hin : inB delay ps.length (9 * ps.length) = true
      · have HC := Lib.hid (show slowCode ps delay = 0 by rw [slowCode, if_pos hg, if_pos hd, slowC, if_pos hin])
        have HL := Lib.hid (show slowList ps delay = slowed (delay - ps.length) ps by rw [slowList, if_pos hg, if_pos hd, slowL, if_pos hin])
        have hin2 : ps.length ≤ delay ∧ delay ≤ 9 * ps.length := by simpa [inB] using hin
        obtain ⟨d3, d4⟩ := hin2
        clear hg
        go_enter Try.func22, Try.ntmps22
        go_wp2_with (first | (go_at_call 45; refine (piecesOk_any a cap ps _ hps hok hB hn).mono ?_; rintro e w1 ⟨rfl, hb1⟩) | (go_at_call 46; refine (in_any _ _ _ _).mono ?_; rintro e w' ⟨rfl, rfl⟩) | (go_at_call 47; refine (clonePc_any a cap ps _ (hps.below hb1 hB) (Nat.le_trans hB hb1.size) hn).mono ?_; rintro e w2 ⟨v, rfl, hown, hb2⟩; obtain ⟨a2, cap2, rfl, -⟩ := own_at hown))
        have hb0 := bl_trans hb1 hb2
        have hown := own_mono hown hb1.size
        rcases id hown.2 with ⟨h2, hnil⟩ | ⟨g, cap1, cur, h2, -⟩
        · simp only [Value.slice.injEq] at h2
          obtain ⟨rfl, -, rfl⟩ := h2
          have Hn := Lib.hid hnil
          have hle : ps.length ≤ 0 := by omega
          clear hnil hown
          refine wp_loop_rounds 1 ?_
          rw [rounds_succ]; go_wp2
          go_ret2
          have hp : slowed (delay - ps.length) ps = [] := by apply List.eq_nil_of_length_eq_zero; rw [slowed_length]; exact Hn.out
          refine ⟨_, by rw [HC.out]; rfl, ?_, hb0⟩
          rw [HL.out, hp]
          have e : (Value.slice none ps.length 0) = Value.slice none 0 0 := by rw [Hn.out]
          show World.ownsRow _ _ _ _ (Value.slice none ps.length 0) _ _
          rw [e]
          exact World.ownsRow_nil _ _ _ _
        · cases h2
          have hsz0 := (hown.lt g rfl).2
          have hlo := (hown.lt g rfl).1
          obtain ⟨left, hleft⟩ : ∃ left : Int, left = delay - ps.length := ⟨_, rfl⟩
          have hl0 : 0 ≤ left := by omega
          have hl1 : left ≤ 8 * ps.length := by omega
          have hl2 : left ≤ 100000 := by omega
          have HLL := Lib.hid hleft
          clear hleft
          go_loopw [9, 37] (fun dd i wr => ∃ k : Nat, k ≤ ps.length ∧ i = .int .i64 k ∧ dd = .int .i64 (max (left - 8 * k) 0) ∧ wr.ownsRow w.heap.size 60 5 (Value.slice (some { block := g, off := 0 }) ps.length cap2) ps.length (flat Pc.cells (slowTo left ps k)) ∧ Below w.heap.size w wr) (fun _ i _ => ps.length - (intOf i).toNat)
          case atStart => exact ⟨0, by omega, rfl, by rw [← HLL.out]; congr 1; omega, by rw [slowTo_zero]; exact hown, hb0⟩
          case round =>
            clear hown hb0 hb1 hb2
            obtain ⟨k, hk, rfl, rfl, hown, hb⟩ := hrel
            have hr : max (left - 8 * k) 0 ≤ 100000 := by omega
            have hr0 : 0 ≤ max (left - 8 * k) 0 := by omega
            by_cases hlt : k < ps.length
            · obtain ⟨⟨v4, c4⟩, f4⟩ := own_cell hown (j := k * 5 + 4) (by omega)
              have hsd : 1 ≤ slowD left k ∧ slowD left k ≤ 9 := by unfold slowD; omega
              obtain ⟨hs1, hs2⟩ := hsd
              go_wp2
              have hv : (1 + if 8 < max (left - 8 * (k : Int)) 0 then 8 else max (left - 8 * (k : Int)) 0) = slowD left k := by unfold slowD; split <;> omega
              have hv2 : (max (left - 8 * (k : Int)) 0 - if 8 < max (left - 8 * (k : Int)) 0 then 8 else max (left - 8 * (k : Int)) 0) = max (left - 8 * ((k : Int) + 1)) 0 := by split <;> omega
              rw [slowTo_cells left ps k hlt] at hown
              have hown3 := own_setCells [.int .i8 (slowD left k)] hown (j := k * 5 + 4) (by rw [List.length_append, flat_length Pc.len, List.length_take, slowed_length, Nat.min_eq_left hk]; rfl) (by simp)
              clear c4 f4 hown
              rw [hv, hv2]
              go_roundw
              case rel => exact ⟨k + 1, by omega, by go_num, by go_num, by rw [slowTo_succ left ps k hlt]; exact hown3, (by repeat (first | with_reducible exact Below.refl _ _ | with_reducible assumption | with_reducible apply bl_drewN | with_reducible apply bl_drew | with_reducible apply bl_alloc | (with_reducible refine bl_set ?_ (by first | (simp; done) | (simp; omega)) _) | with_reducible refine bl_trans ?_ (by with_reducible assumption)))⟩
              case measure => simp [intOf]; omega
            · go_wp2
              go_ret2
              have hkn : k = ps.length := by omega
              rw [hkn, slowTo_all] at hown
              exact ⟨_, by rw [HC.out]; rfl, by rw [HL.out, slowed_length, ← HLL.out]; exact hown, (by repeat (first | with_reducible exact Below.refl _ _ | with_reducible assumption | with_reducible apply bl_drewN | with_reducible apply bl_drew | with_reducible apply bl_alloc | (with_reducible refine bl_set ?_ (by first | (simp; done) | (simp; omega)) _) | with_reducible refine bl_trans ?_ (by with_reducible assumption)))⟩
      · have HC := Lib.hid (show slowCode ps delay = 6 by rw [slowCode, if_pos hg, if_pos hd, slowC, if_neg hin])
        have HL := Lib.hid (show slowList ps delay = [] by rw [slowList, if_pos hg, if_pos hd, slowL, if_neg hin])
        have hin3 : inB delay ps.length (9 * ps.length) = false := by simpa using hin
        clear hg hin
        go_enter Try.func22, Try.ntmps22
        go_wp2_with (first | (go_at_call 45; refine (piecesOk_any a cap ps _ hps hok hB hn).mono ?_; rintro e w1 ⟨rfl, hb1⟩) | (go_at_call 46; refine (in_any _ _ _ _).mono ?_; rintro e w' ⟨rfl, rfl⟩))
        go_ret2
        exact ⟨_, by rw [HC.out]; rfl, by rw [HL.out]; exact World.ownsRow_nil _ _ _ _, (by repeat (first | with_reducible exact Below.refl _ _ | with_reducible assumption | with_reducible apply bl_drewN | with_reducible apply bl_drew | with_reducible apply bl_alloc | (with_reducible refine bl_set ?_ (by first | (simp; done) | (simp; omega)) _) | with_reducible refine bl_trans ?_ (by with_reducible assumption)))⟩
    · have hd3 : inB delay 0 100000 = false := by simpa using hd
      have HC := Lib.hid (show slowCode ps delay = 2 by rw [slowCode, if_pos hg, if_neg hd])
      have HL := Lib.hid (show slowList ps delay = [] by rw [slowList, if_pos hg, if_neg hd])
      clear hg hd
      go_enter Try.func22, Try.ntmps22
      go_wp2_with (first | (go_at_call 45; refine (piecesOk_any a cap ps _ hps hok hB hn).mono ?_; rintro e w1 ⟨rfl, hb1⟩) | (go_at_call 46; refine (in_any _ _ _ _).mono ?_; rintro e w' ⟨rfl, rfl⟩))
      go_ret2
      exact ⟨_, by rw [HC.out]; rfl, by rw [HL.out]; exact World.ownsRow_nil _ _ _ _, (by repeat (first | with_reducible exact Below.refl _ _ | with_reducible assumption | with_reducible apply bl_drewN | with_reducible apply bl_drew | with_reducible apply bl_alloc | (with_reducible refine bl_set ?_ (by first | (simp; done) | (simp; omega)) _) | with_reducible refine bl_trans ?_ (by with_reducible assumption)))⟩
  · have hg2 : (given ps != 0) = true := by simp [hg]
    have HC := Lib.hid (show slowCode ps delay = given ps by rw [slowCode, if_neg hg])
    have HL := Lib.hid (show slowList ps delay = [] by rw [slowList, if_neg hg])
    clear hg
    go_enter Try.func22, Try.ntmps22
    go_wp2_with (first | (go_at_call 45; refine (piecesOk_any a cap ps _ hps hok hB hn).mono ?_; rintro e w1 ⟨rfl, hb1⟩))
    go_ret2
    exact ⟨_, by rw [HC.out]; rfl, by rw [HL.out]; exact World.ownsRow_nil _ _ _ _, (by repeat (first | with_reducible exact Below.refl _ _ | with_reducible assumption | with_reducible apply bl_drewN | with_reducible apply bl_drew | with_reducible apply bl_alloc | (with_reducible refine bl_set ?_ (by first | (simp; done) | (simp; omega)) _) | with_reducible refine bl_trans ?_ (by with_reducible assumption)))⟩
end Go.Proofs.Ytdifikijckebkaa
