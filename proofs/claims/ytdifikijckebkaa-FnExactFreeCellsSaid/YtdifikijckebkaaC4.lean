/- Contracts for CornersIn and SlowLine. -/
import Derived.Test.YtdifikijckebkaaC3
import Derived.Lib.SliceRun
namespace Go.Proofs.Ytdifikijckebkaa
open Go.RowKit
set_option linter.unusedVariables false
set_option linter.unusedSimpArgs false
set_option maxHeartbeats 400000

def isCorner (p : Pc) : Int := if p.k = 1 then 1 else 0
theorem isCorner_bd (p : Pc) : -128 ≤ isCorner p ∧ isCorner p ≤ 127 := by unfold isCorner; split <;> omega

theorem eg_CornersIn1 (args : Array Value) (w : World) : (callFunc 36 args).run Try.prog w = .ok (.enter 36 args) w := by kernel_rfl
theorem cornersIn1_any (p : Pc) (hp : p.ok) (w : World) :
    Calls Try.prog 36 #[p.val] w fun e w' => e = .returned (.int .i64 (isCorner p)) ∧ Below w.heap.size w w' := by
  by_cases h : (p.k == 1) = true
  · have H := Lib.hid (show isCorner p = 1 by rw [isCorner, if_pos (by simpa using h)])
    go_enter Try.func36, Try.ntmps36
    go_wp2
    go_ret
    exact ⟨ret_int H.out.symm, (by repeat (first | with_reducible exact Below.refl _ _ | with_reducible assumption | with_reducible apply bl_drewN | with_reducible apply bl_drew | with_reducible apply bl_alloc | (with_reducible refine bl_set ?_ (by first | (simp; done) | (simp; omega)) _) | with_reducible refine bl_trans ?_ (by with_reducible assumption)))⟩
  · have h : (p.k == 1) = false := by simpa using h
    have H := Lib.hid (show isCorner p = 0 by rw [isCorner, if_neg (by simpa using h)])
    go_enter Try.func36, Try.ntmps36
    go_wp2
    go_ret
    exact ⟨ret_int H.out.symm, (by repeat (first | with_reducible exact Below.refl _ _ | with_reducible assumption | with_reducible apply bl_drewN | with_reducible apply bl_drew | with_reducible apply bl_alloc | (with_reducible refine bl_set ?_ (by first | (simp; done) | (simp; omega)) _) | with_reducible refine bl_trans ?_ (by with_reducible assumption)))⟩
theorem cornersIn_any {B : Nat} (a : Option Addr) (cap : Nat) (ps : List Pc) (w : World) (hps : PcsAt B w a ps) (hok : PcsOk ps) (hB : B ≤ w.heap.size) (hn : ps.length ≤ 10000000) :
    Calls Try.prog 14 #[.slice a ps.length cap] w fun e w' => e = .returned (.tuple #[.int .i64 (summedV isCorner ps), .int .i64 (given ps)]) ∧ Below w.heap.size w w' := by
  have C := Lib.hid (summed_any 36 a cap ps w hps hok hB hn eg_CornersIn1 isCorner (fun p hp => isCorner_bd p) (fun p w1 hp => cornersIn1_any p hp w1))
  go_enter Try.func14, Try.ntmps14
  go_wp2_with (go_at_call 33; refine C.out.mono ?_; rintro e w' ⟨rfl, hb⟩)
  go_ret2
  exact ⟨rfl, (by repeat (first | with_reducible exact Below.refl _ _ | with_reducible assumption | with_reducible apply bl_drewN | with_reducible apply bl_drew | with_reducible apply bl_alloc | (with_reducible refine bl_set ?_ (by first | (simp; done) | (simp; omega)) _) | with_reducible refine bl_trans ?_ (by with_reducible assumption)))⟩
theorem specCornersIn_any {B : Nat} (a : Option Addr) (cap : Nat) (ps : List Pc) (w : World) (hps : PcsAt B w a ps) (hok : PcsOk ps) (hB : B ≤ w.heap.size) (hn : ps.length ≤ 10000000) :
    Calls Try.prog 13 #[.slice a ps.length cap] w fun e w' => e = .returned (.tuple #[.int .i64 (summedV isCorner ps), .int .i64 (given ps)]) ∧ Below w.heap.size w w' := by
  have Hfb := Lib.hid (fun k => sumBy_bd isCorner (fun p hp => isCorner_bd p) (ps.take k) (hok.take k))
  unfold summedV
  by_cases hg : given ps = 0
  · have hg' : (given ps != 0) = false := by simp [hg]
    have Hg := Lib.hid hg; clear hg
    go_enter Try.func13, Try.ntmps13
    go_wp2_with (go_at_call 31; refine (l05Given_any a cap ps _ hps hok hB hn).mono ?_; rintro e w' ⟨rfl, hb⟩)
    go_loopw [5, 6] (fun s i wr => ∃ k : Nat, k ≤ ps.length ∧ i = .int .i64 k ∧ s = .int .i64 (sumBy isCorner (ps.take k)) ∧ Below w.heap.size w wr) (fun _ i _ => ps.length - (intOf i).toNat)
    case atStart => exact ⟨0, by omega, rfl, by simp [sumBy], hb⟩
    case round =>
      clear hb
      obtain ⟨k, hk, rfl, rfl, hb⟩ := hrel
      obtain ⟨s1, s2⟩ := Hfb.out k
      have hl : (ps.take k).length ≤ k := List.length_take_le _ _
      by_cases hlt : k < ps.length
      · obtain ⟨b, off, rfl, hbl, hat⟩ := pcs_get (hps.below hb hB) hlt
        unfold PcAt at hat
        go_wp2
        · have hc : (ps[k].k == 1) = true := by assumption
          go_roundw
          case rel => exact ⟨k + 1, by omega, by go_num, by rw [sumBy_snoc _ ps k hlt, isCorner, if_pos (by simpa using hc)], (by repeat (first | with_reducible exact Below.refl _ _ | with_reducible assumption | with_reducible apply bl_drewN | with_reducible apply bl_drew | with_reducible apply bl_alloc | (with_reducible refine bl_set ?_ (by first | (simp; done) | (simp; omega)) _) | with_reducible refine bl_trans ?_ (by with_reducible assumption)))⟩
          case measure => simp [intOf]; omega
        · have hc : (ps[k].k == 1) = false := by assumption
          go_roundw
          case rel => exact ⟨k + 1, by omega, by go_num, by rw [sumBy_snoc _ ps k hlt, isCorner, if_neg (by simpa using hc), Int.add_zero], (by repeat (first | with_reducible exact Below.refl _ _ | with_reducible assumption | with_reducible apply bl_drewN | with_reducible apply bl_drew | with_reducible apply bl_alloc | (with_reducible refine bl_set ?_ (by first | (simp; done) | (simp; omega)) _) | with_reducible refine bl_trans ?_ (by with_reducible assumption)))⟩
          case measure => simp [intOf]; omega
      · go_wp2
        go_ret2
        exact ⟨by rw [List.take_of_length_le (by omega)]; (try rw [Hg.out]); rfl, (by repeat (first | with_reducible exact Below.refl _ _ | with_reducible assumption | with_reducible apply bl_drewN | with_reducible apply bl_drew | with_reducible apply bl_alloc | (with_reducible refine bl_set ?_ (by first | (simp; done) | (simp; omega)) _) | with_reducible refine bl_trans ?_ (by with_reducible assumption)))⟩
  · have hg' : (given ps != 0) = true := by simp [hg]
    have Hg := Lib.hid hg; clear hg
    go_enter Try.func13, Try.ntmps13
    go_wp2_with (go_at_call 31; refine (l05Given_any a cap ps _ hps hok hB hn).mono ?_; rintro e w' ⟨rfl, hb⟩)
    go_ret2
    exact ⟨by (try rw [if_neg Hg.out]); rfl, (by repeat (first | with_reducible exact Below.refl _ _ | with_reducible assumption | with_reducible apply bl_drewN | with_reducible apply bl_drew | with_reducible apply bl_alloc | (with_reducible refine bl_set ?_ (by first | (simp; done) | (simp; omega)) _) | with_reducible refine bl_trans ?_ (by with_reducible assumption)))⟩

theorem clonePc_any {B : Nat} (a : Option Addr) (cap : Nat) (ps : List Pc) (w : World) (hps : PcsAt B w a ps) (hB : B ≤ w.heap.size) (hn : ps.length ≤ 10000000) :
    Calls Try.prog 47 #[.slice a ps.length cap] w fun e w' => ∃ v, e = .returned v ∧ w'.ownsRow w.heap.size 60 5 v ps.length (flat Pc.cells ps) ∧ Below w.heap.size w w' := by
  obtain ⟨i0, hi, hz0, hz1, hz2⟩ := info_parts Try.infoPiece
  have heq := fun (w : World) => Lib.run_eql_slice_nil (P := Try.prog) w 26 60 a ps.length cap 0 0 Try.underlying26
  cases a with
  | none =>
    have hp : ps = [] := by
      cases ps with
      | nil => rfl
      | cons p ps => obtain ⟨b, off, h0, -⟩ := hps 0 (by simp [flat, Pc.cells]); cases h0
    have Hp := Lib.hid hp
    clear hi hz0 hz1 hz2 hp
    go_enter Try.func47, Try.ntmps47
    go_wp2
    go_ret
    exact ⟨_, rfl, by rw [Hp.out]; exact World.ownsRow_nil w w.heap.size 60 5, Below.refl _ _⟩
  | some ad =>
    go_enter Try.func47, Try.ntmps47
    go_wp2_with (at_builtin; refine wpList_append_sl _ rfl _ _ 26 rfl w.heap.size 60 i0 (.agg #[.int .i8 0, .int .i8 0, .int .i8 0, .int .i8 0, .int .i8 0]) 5 5 Try.underlying26 hi hz0 hz1 hz2 rfl (by decide) _ 0 [] rfl (World.ownsRow_made w _ 0 (Nat.le_refl _) (by simp [maxLen]) rfl) (some ad) ps.length cap (flat Pc.cells ps) rfl (hps.below (bl_alloc (Below.refl _ _)) hB) (flat_length Pc.len ps) (one_cells Pc.one ps) (by unfold maxLen; omega) (by omega) (by simp) ?_; intro v1 w1 hown hgrow)
    go_ret
    rw [Nat.zero_add, List.nil_append] at hown
    exact ⟨_, rfl, hown, bl_grown (bl_alloc (Below.refl _ _)) hgrow (by intro k hk; have : some w.heap.size = some k := hk; cases this; exact Nat.le_refl _)⟩
end Go.Proofs.Ytdifikijckebkaa
