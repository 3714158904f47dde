/- Contracts: slices of Int64, element for element. -/
import Derived.Test.YtoldmgpdcenmhaaFB
namespace Go.Proofs.Ytoldmgpdcenmhaa
open Go.RowKit
set_option linter.unusedVariables false
set_option linter.unusedSimpArgs false
set_option maxHeartbeats 400000
set_option maxRecDepth 100000

def N64_ok (p : Int) : Prop := (-9223372036854775808 ≤ p ∧ p ≤ 9223372036854775807)
def N64_cells (p : Int) : List Value := [.int .i64 p]
theorem N64_len (p : Int) : (N64_cells p).length = 1 := rfl
theorem N64_one (p : Int) : ∀ u ∈ N64_cells p, u.oneCell' = true := by
  intro u hu
  simp only [N64_cells, List.mem_cons, List.not_mem_nil, or_false] at hu
  subst hu; rfl
def N64At (w : World) (b off : Nat) (p : Int) : Prop :=
  w.cell? ⟨b, off, none⟩ = some (.int .i64 p)
theorem n64s_get {B : Nat} {w : World} {a : Option Addr} {ps : List Int} (h : SlAt B w a (flat N64_cells ps)) {k : Nat} (hk : k < ps.length) :
    ∃ b off, a = some ⟨b, off, none⟩ ∧ b < B ∧ N64At w b (off + k * 1) ps[k] := by
  obtain ⟨b, off, h1, h2, h3⟩ := SlAt.get N64_len (by omega) h hk
  exact ⟨b, off, h1, h2, h3 0 _ rfl⟩
def mkN641 (k : Int) : Int := k
def mkN64 (k : Int) (n : Nat) : List Int := (List.range n).map fun (i : Nat) => (k + (i : Int))
theorem mkN64_succ (k : Int) (n : Nat) : mkN64 k (n + 1) = mkN64 k n ++ [k + n] := by simp [mkN64, List.range_succ]
theorem mkN64_len (k : Int) (n : Nat) : (mkN64 k n).length = n := by simp [mkN64]
theorem markInt64S_any {base n : Nat} {v : Value} {cs : List Value} (k0 : Int) (w : World) (hown : w.ownsRow base 2 1 v n cs) (hn : n ≤ 10000000) (h1 : 0 ≤ k0) (h2 : k0 ≤ 1000000000) :
    Calls Try.prog 14 #[v, .int .i64 k0] w fun e w' => e = .returned (.int .i64 (k0 + n)) ∧ w'.ownsRow base 2 1 v n (flat N64_cells (mkN64 k0 n)) ∧ w.grownBy w' v.ownBlock := by
  have hlen := hown.1
  rcases id hown.2 with ⟨rfl, rfl⟩ | ⟨g, cap, cur, rfl, -⟩
  · go_enter Try.func14, Try.ntmps14
    go_wp2
    refine wp_loop_rounds 1 ?_
    rw [rounds_succ]; go_wp2
    go_ret
    exact ⟨ret_int (by simp), by simpa [mkN64, flat_nil] using World.ownsRow_nil w base 2 1, World.grownBy.refl _ _⟩
  · go_enter Try.func14, Try.ntmps14
    go_wp2
    go_loopw [1, 5] (fun kk i wr => ∃ j : Nat, ∃ R : List Value, j ≤ n ∧ i = .int .i64 j ∧ kk = .int .i64 (k0 + j) ∧ R.length = (n - j) * 1 ∧ wr.ownsRow base 2 1 (Value.slice (some { block := g, off := 0 }) n cap) n (flat N64_cells (mkN64 k0 j) ++ R) ∧ w.grownBy wr (some g)) (fun _ i _ => n - (intOf i).toNat)
    case atStart => exact ⟨0, cs, by omega, rfl, by simp, by simpa using hlen, by simpa [mkN64, flat_nil] using hown, World.grownBy.refl _ _⟩
    case round =>
      clear hown hlen
      obtain ⟨j, R, hj, rfl, rfl, hR, hown, hg⟩ := hrel
      by_cases hlt : j < n
      · skip
        obtain ⟨⟨v0, c0⟩, f0⟩ := own_cell hown (j := j * 1) (by omega)
        simp only [Nat.mul_one] at c0 f0
        go_wp2
        have hown3 := own_setCells ([.int .i64 (k0 + (j : Int))]) hown (j := j * 1) (by rw [flat_length N64_len, mkN64_len]) (by rw [hR]; simp; omega)
        have hg3 := grown_trans hg (grown_setCells g ([.int .i64 (k0 + (j : Int))]) wr (j * 1))
        simp only [Nat.mul_one] at hown3 hg3
        clear c0 f0 hown hg
        go_roundw
        case rel => exact ⟨j + 1, R.drop 1, by omega, by go_num, by simp; omega, by simp [hR]; omega, by rw [mkN64_succ, flat_append, flat_cons, flat_nil, List.append_nil]; exact hown3, hg3⟩
        case measure => simp [intOf]; omega
      · go_wp2
        go_ret
        have hjn : j = n := by omega
        have hR0 : R = [] := by apply List.eq_nil_of_length_eq_zero; rw [hR, hjn]; simp
        rw [hR0, List.append_nil, hjn] at hown
        exact ⟨ret_int (by rw [hjn]), hown, hg⟩
theorem heldInt64S_any {B : Nat} (a : Option Addr) (n cap : Nat) (k0 : Int) (w : World) (h : SlAt B w a (flat N64_cells (mkN64 k0 n))) (hn : n ≤ 10000000) (h1 : 0 ≤ k0) (h2 : k0 ≤ 1000000000) :
    Calls Try.prog 15 #[.slice a n cap, .int .i64 k0] w fun e w' => e = .returned (.int .i64 (k0 + n)) ∧ w = w' := by
  go_enter Try.func15, Try.ntmps15
  go_wp2
  go_loopw [1, 5] (fun kk i wr => ∃ j : Nat, j ≤ n ∧ i = .int .i64 j ∧ kk = .int .i64 (k0 + j) ∧ wr = w) (fun _ i _ => n - (intOf i).toNat)
  case atStart => exact ⟨0, by omega, rfl, by simp, rfl⟩
  case round =>
    obtain ⟨j, hj, rfl, rfl, rfl⟩ := hrel
    by_cases hlt : j < n
    · obtain ⟨b, off, rfl, hbl, hat⟩ := n64s_get h (k := j) (by rw [mkN64_len]; exact hlt)
      have hj5 : (mkN64 k0 n)[j]'(by rw [mkN64_len]; exact hlt) = k0 + (j : Int) := by simp [mkN64]
      rw [hj5] at hat
      clear hj5
      unfold N64At at hat
      simp only [Nat.mul_one] at hat
      go_wp2
      go_roundw
      case rel => exact ⟨j + 1, by omega, by go_num, by simp; omega, by trivial⟩
      case measure => simp [intOf]; omega
    · go_wp2
      go_ret
      have hjn : j = n := by omega
      first | exact ⟨ret_int (by rw [hjn]), rfl⟩ | exact ⟨ret_int (by rw [hjn]), trivial⟩
theorem eqInt64S_any {B : Nat} (a a' : Option Addr) (cap cap' : Nat) (ps qs : List Int) (w : World) (hps : SlAt B w a (flat N64_cells ps)) (hqs : SlAt B w a' (flat N64_cells qs)) (hB : B ≤ w.heap.size) (hn : ps.length ≤ 10000000) (hn' : qs.length ≤ 10000000) :
    Calls Try.prog 11 #[.slice a ps.length cap, .slice a' qs.length cap'] w fun e w' => e = .returned (.bool (decide (ps = qs))) ∧ Below w.heap.size w w' := by
  by_cases hl : ps.length = qs.length
  · have hl2 : ((ps.length : Int) != (qs.length : Int)) = false := by simp [hl]
    have Hl := Lib.hid hl; clear hl
    go_enter Try.func11, Try.ntmps11
    go_wp2
    go_loopw [5] (fun i wr => ∃ k : Nat, k ≤ ps.length ∧ i = .int .i64 k ∧ ps.take k = qs.take k ∧ Below w.heap.size w wr) (fun i _ => ps.length - (intOf i).toNat)
    case atStart => exact ⟨0, by omega, rfl, by simp, Below.refl _ _⟩
    case round =>
      obtain ⟨k, hk, rfl, heq, hb⟩ := hrel
      have Heq := Lib.hid heq; clear heq
      by_cases hlt : k < ps.length
      · have hlt' : k < qs.length := by rw [← Hl.out]; exact hlt
        obtain ⟨b, off, rfl, hbl, hat⟩ := n64s_get (hps.below hb hB) hlt
        obtain ⟨b', off', rfl, hbl', hat'⟩ := n64s_get (hqs.below hb hB) hlt'
        unfold N64At at hat hat'
        simp only [Nat.mul_one] at hat hat'
        go_wp2
        go_quiet (fail)
        go_wp2
        · have h1 : (ps[k] != qs[k]) = true := by assumption
          go_ret
          have hne : ps ≠ qs := by rintro rfl; simp at h1
          exact ⟨by simp [hne], (by repeat (first | with_reducible exact Below.refl _ _ | with_reducible assumption | with_reducible apply bl_drewN | with_reducible apply bl_drew | with_reducible apply bl_alloc | (with_reducible refine bl_set ?_ (by first | (simp; done) | (simp; omega)) _) | with_reducible refine bl_trans ?_ (by with_reducible assumption)))⟩
        · have h1 : (ps[k] != qs[k]) = false := by assumption
          have h2 : ps[k] = qs[k] := by simpa using h1
          go_roundw
          case rel => exact ⟨k + 1, by omega, by go_num, by rw [List.take_succ_eq_append_getElem hlt, List.take_succ_eq_append_getElem hlt', Heq.out, h2], (by repeat (first | with_reducible exact Below.refl _ _ | with_reducible assumption | with_reducible apply bl_drewN | with_reducible apply bl_drew | with_reducible apply bl_alloc | (with_reducible refine bl_set ?_ (by first | (simp; done) | (simp; omega)) _) | with_reducible refine bl_trans ?_ (by with_reducible assumption)))⟩
          case measure => simp [intOf]; omega
      · go_wp2
        go_ret
        have hne : ps = qs := by
          have := Heq.out
          rwa [List.take_of_length_le (by omega), List.take_of_length_le (by have := Hl.out; omega)] at this
        exact ⟨by simp [hne], (by repeat (first | with_reducible exact Below.refl _ _ | with_reducible assumption | with_reducible apply bl_drewN | with_reducible apply bl_drew | with_reducible apply bl_alloc | (with_reducible refine bl_set ?_ (by first | (simp; done) | (simp; omega)) _) | with_reducible refine bl_trans ?_ (by with_reducible assumption)))⟩
  · have hl2 : ((ps.length : Int) != (qs.length : Int)) = true := by simp; omega
    have Hl := Lib.hid hl; clear hl
    go_enter Try.func11, Try.ntmps11
    go_wp2
    go_ret
    have hne : ps ≠ qs := fun h => Hl.out (by rw [h])
    exact ⟨by simp [hne], (by repeat (first | with_reducible exact Below.refl _ _ | with_reducible assumption | with_reducible apply bl_drewN | with_reducible apply bl_drew | with_reducible apply bl_alloc | (with_reducible refine bl_set ?_ (by first | (simp; done) | (simp; omega)) _) | with_reducible refine bl_trans ?_ (by with_reducible assumption)))⟩
theorem Try.infoInt64 : (Try.prog.info? 2).map (fun i => (i.zero, i.size, i.bytes)) = some (some (.int .i64 0), 1, 8) := by kernel_rfl
theorem eqInt64S_rv {w : World} {v v' : Value} {ps qs : List Int} (h : RV N64_cells w v ps) (h' : RV N64_cells w v' qs) (hn : ps.length ≤ 10000000) (hn' : qs.length ≤ 10000000) :
    Calls Try.prog 11 #[v, v'] w fun e w' => e = .returned (.bool (decide (ps = qs))) ∧ Below w.heap.size w w' := by
  obtain ⟨a, cap, rfl, h⟩ := h
  obtain ⟨a', cap', rfl, h'⟩ := h'
  exact eqInt64S_any a a' cap cap' ps qs w h h' (Nat.le_refl _) hn hn'
theorem eqInt64S_yes {w : World} {v v' : Value} {ps : List Int} (h : RV N64_cells w v ps) (h' : RV N64_cells w v' ps) (hn : ps.length ≤ 10000000) :
    Calls Try.prog 11 #[v, v'] w fun e w' => e = .returned (.bool true) ∧ Below w.heap.size w w' := by
  have := eqInt64S_rv h h' hn hn
  simpa using this
theorem heldInt64S_own {w : World} {base n : Nat} {v : Value} (k0 : Int) (h : w.ownsRow base 2 1 v n (flat N64_cells (mkN64 k0 n))) (hn : n ≤ 10000000) (h1 : 0 ≤ k0) (h2 : k0 ≤ 1000000000) :
    Calls Try.prog 15 #[v, .int .i64 k0] w fun e w' => e = .returned (.int .i64 (k0 + n)) ∧ w = w' := by
  obtain ⟨a, cap, rfl, h, -⟩ := own_at h
  exact heldInt64S_any a n cap k0 w h hn h1 h2
end Go.Proofs.Ytoldmgpdcenmhaa
