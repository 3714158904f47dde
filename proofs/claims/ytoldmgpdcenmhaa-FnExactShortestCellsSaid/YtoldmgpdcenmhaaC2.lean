/- Contracts of the loops over slices of pieces in the statements' own file. -/
import Derived.Test.YtoldmgpdcenmhaaC1
namespace Go.Proofs.Ytoldmgpdcenmhaa
open Go.RowKit
set_option linter.unusedVariables false
set_option linter.unusedSimpArgs false
set_option maxHeartbeats 400000
set_option maxRecDepth 100000

abbrev w8 (n : Int) : Int := IntKind.i8.wrap n

def mkPc1 (k : Int) : Pc := ⟨w8 k, w8 (k + 1), w8 (k + 1 + 1), w8 (k + 1 + 1 + 1), w8 (k + 1 + 1 + 1 + 1)⟩
def mkPc (k : Int) (n : Nat) : List Pc := (List.range n).map fun (i : Nat) => mkPc1 (k + 5 * (i : Int))
theorem mkPc_succ (k : Int) (n : Nat) : mkPc k (n + 1) = mkPc k n ++ [mkPc1 (k + 5 * n)] := by simp [mkPc, List.range_succ]
theorem mkPc_len (k : Int) (n : Nat) : (mkPc k n).length = n := by simp [mkPc]

theorem markPieceS_any {base n : Nat} {v : Value} {cs : List Value} (k0 : Int) (w : World) (hown : w.ownsRow base 78 5 v n cs) (hn : n ≤ 10000000) (h1 : 0 ≤ k0) (h2 : k0 ≤ 1000000000) :
    Calls Try.prog 23 #[v, .int .i64 k0] w fun e w' => e = .returned (.int .i64 (k0 + 5 * n)) ∧ w'.ownsRow base 78 5 v n (flat Pc.cells (mkPc k0 n)) ∧ w.grownBy w' v.ownBlock := by
  have hlen := hown.1
  rcases id hown.2 with ⟨rfl, rfl⟩ | ⟨g, cap, cur, rfl, -⟩
  · go_enter Try.func23, Try.ntmps23
    go_wp2
    refine wp_loop_rounds 1 ?_
    rw [rounds_succ]; go_wp2
    go_ret
    exact ⟨ret_int (by simp), by simpa [mkPc, flat_nil] using World.ownsRow_nil w base 78 5, World.grownBy.refl _ _⟩
  · go_enter Try.func23, Try.ntmps23
    go_wp2
    go_loopw [1, 5] (fun kk i wr => ∃ j : Nat, ∃ R : List Value, j ≤ n ∧ i = .int .i64 j ∧ kk = .int .i64 (k0 + 5 * j) ∧ R.length = (n - j) * 5 ∧ wr.ownsRow base 78 5 (Value.slice (some { block := g, off := 0 }) n cap) n (flat Pc.cells (mkPc k0 j) ++ R) ∧ w.grownBy wr (some g)) (fun _ i _ => n - (intOf i).toNat)
    case atStart => exact ⟨0, cs, by omega, rfl, by simp, by simpa using hlen, by simpa [mkPc, flat_nil] using hown, World.grownBy.refl _ _⟩
    case round =>
      clear hown hlen
      obtain ⟨j, R, hj, rfl, rfl, hR, hown, hg⟩ := hrel
      by_cases hlt : j < n
      · obtain ⟨⟨v0, c0⟩, f0⟩ := own_cell hown (j := j * 5) (by omega)
        obtain ⟨⟨v1, c1⟩, f1⟩ := own_cell hown (j := j * 5 + 1) (by omega)
        obtain ⟨⟨v2, c2⟩, f2⟩ := own_cell hown (j := j * 5 + 2) (by omega)
        obtain ⟨⟨v3, c3⟩, f3⟩ := own_cell hown (j := j * 5 + 3) (by omega)
        obtain ⟨⟨v4, c4⟩, f4⟩ := own_cell hown (j := j * 5 + 4) (by omega)
        go_wp2
        refine wp_loop_rounds 3 ?_
        rw [rounds_succ]; go_wp2
        rw [rounds_succ]; go_wp2
        rw [rounds_succ]; go_wp2
        have hown3 := own_setCells (mkPc1 (k0 + 5 * (j : Int))).cells hown (j := j * 5) (by rw [flat_length Pc.len, mkPc_len]) (by rw [hR]; simp [Pc.cells]; omega)
        have hg3 := grown_trans hg (grown_setCells g (mkPc1 (k0 + 5 * (j : Int))).cells wr (j * 5))
        clear c0 c1 c2 c3 c4 f0 f1 f2 f3 f4 hown hg
        go_roundw
        case rel => exact ⟨j + 1, R.drop 5, by omega, by go_num, by simp; omega, by simp [hR]; omega, by rw [mkPc_succ, flat_append, flat_cons, flat_nil, List.append_nil]; exact hown3, hg3⟩
        case measure => simp [intOf]; omega
      · go_wp2
        go_ret
        have hjn : j = n := by omega
        have hR0 : R = [] := by apply List.eq_nil_of_length_eq_zero; rw [hR, hjn]; simp
        rw [hR0, List.append_nil, hjn] at hown
        exact ⟨ret_int (by rw [hjn]), hown, hg⟩
theorem heldPieceS_any {B : Nat} (a : Option Addr) (n cap : Nat) (k0 : Int) (w : World) (h : SlAt B w a (flat Pc.cells (mkPc k0 n))) (hn : n ≤ 10000000) (h1 : 0 ≤ k0) (h2 : k0 ≤ 1000000000) :
    Calls Try.prog 24 #[.slice a n cap, .int .i64 k0] w fun e w' => e = .returned (.int .i64 (k0 + 5 * n)) ∧ w = w' := by
  go_enter Try.func24, Try.ntmps24
  go_wp2
  go_loopw [1, 5] (fun kk i wr => ∃ j : Nat, j ≤ n ∧ i = .int .i64 j ∧ kk = .int .i64 (k0 + 5 * j) ∧ wr = w) (fun _ i _ => n - (intOf i).toNat)
  case atStart => exact ⟨0, by omega, rfl, by simp, rfl⟩
  case round =>
    obtain ⟨j, hj, rfl, rfl, rfl⟩ := hrel
    by_cases hlt : j < n
    · obtain ⟨b, off, rfl, hbl, hat⟩ := pcs_get h (k := j) (by rw [mkPc_len]; exact hlt)
      have hj5 : (mkPc k0 n)[j]'(by rw [mkPc_len]; exact hlt) = mkPc1 (k0 + 5 * (j : Int)) := by simp [mkPc]
      rw [hj5] at hat
      clear hj5
      unfold PcAt at hat
      simp only [mkPc1] at hat
      obtain ⟨c0, c1, c2, c3, c4⟩ := hat
      go_wp2
      refine wp_loop_rounds 3 ?_
      rw [rounds_succ]; go_wp2
      rw [rounds_succ]; go_wp2
      rw [rounds_succ]; go_wp2
      go_roundw
      case rel => exact ⟨j + 1, by omega, by go_num, by simp; omega, by trivial⟩
      case measure => simp [intOf]; omega
    · go_wp2
      go_ret
      have hjn : j = n := by omega
      first | exact ⟨ret_int (by rw [hjn]), rfl⟩ | exact ⟨ret_int (by rw [hjn]), trivial⟩
theorem eqPieceS_any {B : Nat} (a a' : Option Addr) (cap cap' : Nat) (ps qs : List Pc) (w : World) (hps : PcsAt B w a ps) (hqs : PcsAt B w a' qs) (hB : B ≤ w.heap.size) (hn : ps.length ≤ 10000000) (hn' : qs.length ≤ 10000000) :
    Calls Try.prog 20 #[.slice a ps.length cap, .slice a' qs.length cap'] w fun e w' => e = .returned (.bool (decide (ps = qs))) ∧ Below w.heap.size w w' := by
  by_cases hl : ps.length = qs.length
  · have hl2 : ((ps.length : Int) != (qs.length : Int)) = false := by simp [hl]
    have Hl := Lib.hid hl; clear hl
    go_enter Try.func20, Try.ntmps20
    go_wp2
    go_loopw [5] (fun i wr => ∃ k : Nat, k ≤ ps.length ∧ i = .int .i64 k ∧ ps.take k = qs.take k ∧ Below w.heap.size w wr) (fun i _ => ps.length - (intOf i).toNat)
    case atStart => exact ⟨0, by omega, rfl, by simp, Below.refl _ _⟩
    case round =>
      obtain ⟨k, hk, rfl, heq, hb⟩ := hrel
      have Heq := Lib.hid heq; clear heq
      by_cases hlt : k < ps.length
      · have hlt' : k < qs.length := by rw [← Hl.out]; exact hlt
        obtain ⟨b, off, rfl, hbl, hat⟩ := pcs_get (hps.below hb hB) hlt
        obtain ⟨b', off', rfl, hbl', hat'⟩ := pcs_get (hqs.below hb hB) hlt'
        unfold PcAt at hat hat'
        go_wp2
        go_still_tail 8, (by kernel_rfl)
        change wpList _ _ _ _ _ wr.drew
        go_wp2_with (go_at_call 47; refine (eqPiece_any ps[k] qs[k] _).mono ?_; rintro e w' ⟨rfl, hb2⟩)
        · have h1 : (!decide (ps[k] = qs[k])) = true := by assumption
          go_ret
          have hne : ps ≠ qs := by rintro rfl; simp at h1
          exact ⟨by simp [hne], (by repeat (first | with_reducible exact Below.refl _ _ | with_reducible assumption | with_reducible apply bl_drewN | with_reducible apply bl_drew | with_reducible apply bl_alloc | (with_reducible refine bl_set ?_ (by first | (simp; done) | (simp; omega)) _) | with_reducible refine bl_trans ?_ (by with_reducible assumption)))⟩
        · have h1 : (!decide (ps[k] = qs[k])) = false := by assumption
          have h2 : ps[k] = qs[k] := by simpa using h1
          go_roundw
          case rel => exact ⟨k + 1, by omega, by go_num, by rw [List.take_succ_eq_append_getElem hlt, List.take_succ_eq_append_getElem hlt', Heq.out, h2], (by repeat (first | with_reducible exact Below.refl _ _ | with_reducible assumption | with_reducible apply bl_drewN | with_reducible apply bl_drew | with_reducible apply bl_alloc | (with_reducible refine bl_set ?_ (by first | (simp; done) | (simp; omega)) _) | with_reducible refine bl_trans ?_ (by with_reducible assumption)))⟩
          case measure => simp [intOf]; omega
      · go_wp2
        go_ret
        have hne : ps = qs := by
          have := Heq.out
          rwa [List.take_of_length_le (by omega), List.take_of_length_le (by have := Hl.out; omega)] at this
        exact ⟨by simp [hne], (by repeat (first | with_reducible exact Below.refl _ _ | with_reducible assumption | with_reducible apply bl_drewN | with_reducible apply bl_drew | with_reducible apply bl_alloc | (with_reducible refine bl_set ?_ (by first | (simp; done) | (simp; omega)) _) | with_reducible refine bl_trans ?_ (by with_reducible assumption)))⟩
  · have hl2 : ((ps.length : Int) != (qs.length : Int)) = true := by simp; omega
    have Hl := Lib.hid hl; clear hl
    go_enter Try.func20, Try.ntmps20
    go_wp2
    go_ret
    have hne : ps ≠ qs := fun h => Hl.out (by rw [h])
    exact ⟨by simp [hne], (by repeat (first | with_reducible exact Below.refl _ _ | with_reducible assumption | with_reducible apply bl_drewN | with_reducible apply bl_drew | with_reducible apply bl_alloc | (with_reducible refine bl_set ?_ (by first | (simp; done) | (simp; omega)) _) | with_reducible refine bl_trans ?_ (by with_reducible assumption)))⟩
theorem Try.infoPiece : (Try.prog.info? 78).map (fun i => (i.zero, i.size, i.bytes)) = some (some (.agg #[.int .i8 0, .int .i8 0, .int .i8 0, .int .i8 0, .int .i8 0]), 5, 5) := by kernel_rfl

theorem toPieceS_any {B : Nat} (a : Option Addr) (cap : Nat) (ps : List Pc) (w : World) (hps : PcsAt B w a ps) (hB : B ≤ w.heap.size) (hn : ps.length ≤ 10000000) :
    Calls Try.prog 34 #[.slice a ps.length cap] w fun e w' => ∃ v, e = .returned v ∧ w'.ownsRow w.heap.size 78 5 v ps.length (flat Pc.cells ps) ∧ Below w.heap.size w w' := by
  obtain ⟨i0, hi, hz0, hz1, hz2⟩ := info_parts Try.infoPiece
  go_enter Try.func34, Try.ntmps34
  go_wp2_with (refine wpList_make_full _ rfl (.tmp 6) (.tmp 6) 31 rfl w.heap.size 78 i0 _ 5 Try.underlying31 hi hz0 hz1 _ _ _ _ ps.length rfl rfl rfl rfl (by rw [hz2]; omega) (by unfold maxLen; omega) (Nat.le_refl _) ?_; intro w1 hown hgrow)
  have hm : (madeCells (Value.agg #[.int .i8 0, .int .i8 0, .int .i8 0, .int .i8 0, .int .i8 0]).cells (ps.length * 5)).toList.length = ps.length * 5 := by simp [size_madeCells]
  generalize (madeCells (Value.agg #[.int .i8 0, .int .i8 0, .int .i8 0, .int .i8 0, .int .i8 0]).cells (ps.length * 5)).toList = R at hown hm
  have hb0 : Below w.heap.size w w1 := bl_grown (Below.refl _ _) hgrow (by simp)
  have hlt0 := (hown.lt _ rfl).2
  clear hgrow hi hz0 hz1 hz2
  go_loopw [4] (fun i wr => ∃ k : Nat, ∃ R : List Value, k ≤ ps.length ∧ i = .int .i64 k ∧ R.length = (ps.length - k) * 5 ∧ wr.ownsRow w.heap.size 78 5 (Value.slice (some { block := w.heap.size, off := 0 }) ps.length ps.length) ps.length (flat Pc.cells (ps.take k) ++ R) ∧ w.heap.size < wr.heap.size ∧ Below w.heap.size w wr) (fun i _ => ps.length - (intOf i).toNat)
  case atStart => exact ⟨0, R, by omega, rfl, by simpa using hm, by simpa [flat_nil] using hown, hlt0, hb0⟩
  case round =>
    clear hown hm hb0 hlt0
    obtain ⟨k, R, hk, rfl, hR, hown, hsz, hb⟩ := hrel
    by_cases hlt : k < ps.length
    · obtain ⟨b, off, rfl, hbl, hat⟩ := pcs_get (hps.below hb hB) hlt
      unfold PcAt at hat
      go_wp2_with (go_at_call 63; refine (toPiece_any ps[k] _).mono ?_; rintro e w' ⟨rfl, hb2⟩; have hown2 := own_below hown hb2 (Nat.le_refl _); obtain ⟨⟨v0, c0⟩, f0⟩ := own_cell hown2 (j := k * 5) (by omega); obtain ⟨⟨v1, c1⟩, f1⟩ := own_cell hown2 (j := k * 5 + 1) (by omega); obtain ⟨⟨v2, c2⟩, f2⟩ := own_cell hown2 (j := k * 5 + 2) (by omega); obtain ⟨⟨v3, c3⟩, f3⟩ := own_cell hown2 (j := k * 5 + 3) (by omega); obtain ⟨⟨v4, c4⟩, f4⟩ := own_cell hown2 (j := k * 5 + 4) (by omega))
      have hz := hb2.size
      have hz2 := hb.size
      have hown3 := own_setCells (ps[k].cells) hown2 (j := k * 5) (by rw [flat_length Pc.len, List.length_take]; congr 1; omega) (by rw [hR]; simp [Pc.cells]; omega)
      clear c0 c1 c2 c3 c4 f0 f1 f2 f3 f4 hown hat
      go_roundw
      case rel => exact ⟨k + 1, R.drop 5, by omega, by go_num, by simp [hR]; omega, by rw [List.take_succ_eq_append_getElem hlt, flat_append, flat_cons, flat_nil, List.append_nil]; exact hown3, by simp; omega, (by repeat (first | with_reducible exact Below.refl _ _ | with_reducible assumption | with_reducible apply bl_drewN | with_reducible apply bl_drew | with_reducible apply bl_alloc | (with_reducible refine bl_set ?_ (by first | (simp; done) | (simp; omega)) _) | with_reducible refine bl_trans ?_ (by with_reducible assumption)))⟩
      case measure => simp [intOf]; omega
    · go_wp2
      go_ret
      have hkl : k = ps.length := by omega
      have hR0 : R = [] := by apply List.eq_nil_of_length_eq_zero; rw [hR, hkl]; simp
      refine ⟨_, rfl, ?_, (by repeat (first | with_reducible exact Below.refl _ _ | with_reducible assumption | with_reducible apply bl_drewN | with_reducible apply bl_drew | with_reducible apply bl_alloc | (with_reducible refine bl_set ?_ (by first | (simp; done) | (simp; omega)) _) | with_reducible refine bl_trans ?_ (by with_reducible assumption)))⟩
      rw [hR0, List.append_nil, hkl, List.take_length] at hown
      exact hown
end Go.Proofs.Ytoldmgpdcenmhaa
