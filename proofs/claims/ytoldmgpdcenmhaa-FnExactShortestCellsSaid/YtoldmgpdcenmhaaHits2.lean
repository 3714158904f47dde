/- Contracts: from which sides a piece falls, and what it hits: the program's. -/
import Derived.Test.YtoldmgpdcenmhaaHits
import Derived.Test.YtoldmgpdcenmhaaDel
namespace Go.Proofs.Ytoldmgpdcenmhaa
open Go.RowKit
set_option linter.unusedVariables false
set_option linter.unusedSimpArgs false
set_option maxHeartbeats 400000
set_option maxRecDepth 100000

theorem opposite_any (s : Int) (w : World) (h1 : 0 ≤ s) (h2 : s ≤ 3) :
    Calls Try.prog 72 #[.int .i64 s] w fun e w' => e = .returned (.int .i64 ((s + 2) % 4)) ∧ w = w' := by
  go_enter Try.func72, Try.ntmps72
  go_wp2
  go_ret
  exact ⟨rfl, rfl⟩
theorem and_fin : ∀ x : Fin 16, ∀ s : Fin 4, (bits .and .u8 (((x : Nat) : Int) / 2 ^ (s : Nat)) 1 == 1) = decide (((x : Nat) : Int) / 2 ^ (s : Nat) % 2 = 1) := by decide +kernel
theorem or_fin : ∀ x : Fin 16, ∀ s : Fin 4, 0 ≤ bits .or .u8 ((x : Nat) : Int) (2 ^ (s : Nat)) ∧ bits .or .u8 ((x : Nat) : Int) (2 ^ (s : Nat)) ≤ 15 := by decide +kernel
theorem and_eq (x s : Int) (h1 : 0 ≤ s) (h2 : s ≤ 3) (h3 : 0 ≤ x) (h4 : x ≤ 15) : (bits .and .u8 (x / 2 ^ s.toNat) 1 == 1) = decide (x / 2 ^ s.toNat % 2 = 1) := by
  have := and_fin ⟨x.toNat, by omega⟩ ⟨s.toNat, by omega⟩
  simpa [Int.toNat_of_nonneg h3] using this
theorem or_bd (x s : Int) (h1 : 0 ≤ s) (h2 : s ≤ 3) (h3 : 0 ≤ x) (h4 : x ≤ 15) : 0 ≤ bits .or .u8 x (2 ^ s.toNat) ∧ bits .or .u8 x (2 ^ s.toNat) ≤ 15 := by
  have := or_fin ⟨x.toNat, by omega⟩ ⟨s.toNat, by omega⟩
  simpa [Int.toNat_of_nonneg h3] using this
/-- The bits of sides. -/
def orL (xs : List Int) : Int := xs.foldl (fun n x => bits .or .u8 n (2 ^ x.toNat)) 0
theorem orL_snoc (xs : List Int) (x : Int) : orL (xs ++ [x]) = bits .or .u8 (orL xs) (2 ^ x.toNat) := by simp [orL]
theorem hasSide_any (x s : Int) (w : World) (h1 : 0 ≤ s) (h2 : s ≤ 3) (h3 : 0 ≤ x) (h4 : x ≤ 15) :
    Calls Try.prog 74 #[.int .u8 x, .int .i64 s] w fun e w' => e = .returned (.bool (decide (x / 2 ^ s.toNat % 2 = 1))) ∧ w = w' := by
  have H := Lib.hid (and_eq x s h1 h2 h3 h4)
  go_enter Try.func74, Try.ntmps74
  go_wp2
  go_ret
  exact ⟨by rw [← H.out]; rfl, rfl⟩
theorem sidesOf_any {B : Nat} (a : Option Addr) (cap : Nat) (xs : List Int) (w : World) (h : SlAt B w a (flat (fun n => [Value.int .i64 n]) xs)) (hx : ∀ k (h : k < xs.length), 0 ≤ xs[k] ∧ xs[k] ≤ 3) (hn : xs.length ≤ 10) :
    Calls Try.prog 80 #[.slice a xs.length cap] w fun e w' => e = .returned (.int .u8 (orL xs)) ∧ w = w' := by
  go_enter Try.func80, Try.ntmps80
  go_wp2
  go_loopw [3, 8] (fun o i wr => ∃ j : Nat, ∃ n : Int, j ≤ xs.length ∧ i = .int .i64 j ∧ o = .int .u8 n ∧ n = orL (xs.take j) ∧ 0 ≤ n ∧ n ≤ 15 ∧ w = wr) (fun _ i _ => xs.length - (intOf i).toNat)
  case atStart => exact ⟨0, 0, by omega, rfl, rfl, rfl, by omega, by omega, rfl⟩
  case round =>
    obtain ⟨j, n, hj, rfl, rfl, hn0, n1, n2, rfl⟩ := hrel
    have HN := Lib.hid hn0; clear hn0
    by_cases hlt : j < xs.length
    · obtain ⟨b, off, rfl, hbl, hat⟩ := SlAt.get (f := fun n => [Value.int .i64 n]) (s := 1) (fun _ => rfl) (by omega) h hlt
      have hat := hat 0 _ rfl
      simp only [Nat.mul_one, Nat.add_zero] at hat
      obtain ⟨x1, x2⟩ := hx j hlt
      obtain ⟨o1, o2⟩ := or_bd n xs[j] x1 x2 n1 n2
      obtain ⟨p, hp, u3, u4⟩ := pow_bd xs[j] x1 x2
      have hs : orL (xs.take (j + 1)) = bits .or .u8 n p := by rw [List.take_succ_eq_append_getElem hlt, orL_snoc, ← HN.out, hp]
      rw [hp] at o1 o2
      have HS := Lib.hid hs; clear hs
      have O1 := Lib.hid o1; clear o1
      have O2 := Lib.hid o2; clear o2
      go_wp2
      exact ⟨⟨j + 1, _, by omega, by go_num, rfl, HS.out.symm, O1.out, O2.out, by trivial⟩, by simp [intOf]; omega⟩
    · go_wp2
      go_ret
      have := HN.out
      rw [List.take_of_length_le (by omega)] at this
      exact ⟨by rw [← this]; rfl, by trivial⟩
def UntP (k r : Int) (w : World) (e : Ending) (w' : World) : Prop :=
  (∃ v : Int, 0 ≤ v ∧ v ≤ 15 ∧ (0 ≤ tbl k r → v = tbl k r) ∧ e = .returned (.tuple #[.bool (decide (0 ≤ tbl k r)), .int .u8 v])) ∧ Below w.heap.size w w'
theorem one_side (s : Int) (h1 : 0 ≤ s) (h2 : s ≤ 3) : ∀ k (h : k < [s].length), 0 ≤ [s][k] ∧ [s][k] ≤ 3 := by
  intro k hk
  have : k = 0 := by simpa using hk
  subst this; exact ⟨h1, h2⟩
theorem three_sides : ∀ k (h : k < [(0 : Int), 2, 3].length), 0 ≤ [(0 : Int), 2, 3][k] ∧ [(0 : Int), 2, 3][k] ≤ 3 := by decide
set_option maxHeartbeats 2000000 in
theorem unturned0 (r : Int) (h3 : 0 ≤ r) (h4 : r ≤ 3) (w : World) : Calls Try.prog 79 #[.int .i8 0, .int .i64 r] w (UntP 0 r w) := by
  have hr : r = 0 ∨ r = 1 ∨ r = 2 ∨ r = 3 := by omega
  rcases hr with rfl | rfl | rfl | rfl
  all_goals
    go_enter Try.func79, Try.ntmps79
    go_wp2_with (first | (go_at_call 72; refine (opposite_any _ _ (by omega) (by omega)).mono ?_; rintro e w' ⟨rfl, rfl⟩) | (go_at_call 80; refine (sidesOf_any _ 1 [_] _ (sl_new _ #[.int .i64 _] _) (one_side _ (by omega) (by omega)) (by decide)).mono ?_; rintro e w' ⟨rfl, rfl⟩))
    go_ret2
    exact ⟨⟨_, by decide, by decide, by decide, rfl⟩, (by repeat (first | with_reducible exact Below.refl _ _ | with_reducible assumption | with_reducible apply bl_drewN | with_reducible apply bl_drew | with_reducible apply bl_alloc | (with_reducible refine bl_set ?_ (by first | (simp; done) | (simp; omega)) _) | with_reducible refine bl_trans ?_ (by with_reducible assumption)))⟩
set_option maxHeartbeats 2000000 in
theorem unturned1 (r : Int) (h3 : 0 ≤ r) (h4 : r ≤ 3) (w : World) : Calls Try.prog 79 #[.int .i8 1, .int .i64 r] w (UntP 1 r w) := by
  have hr : r = 0 ∨ r = 1 ∨ r = 2 ∨ r = 3 := by omega
  rcases hr with rfl | rfl | rfl | rfl
  all_goals
    go_enter Try.func79, Try.ntmps79
    go_wp2_with (go_at_call 80; refine (sidesOf_any _ 1 [_] _ (sl_new _ #[.int .i64 _] _) (one_side _ (by omega) (by omega)) (by decide)).mono ?_; rintro e w' ⟨rfl, rfl⟩)
    go_ret2
    exact ⟨⟨_, by decide, by decide, by decide, rfl⟩, (by repeat (first | with_reducible exact Below.refl _ _ | with_reducible assumption | with_reducible apply bl_drewN | with_reducible apply bl_drew | with_reducible apply bl_alloc | (with_reducible refine bl_set ?_ (by first | (simp; done) | (simp; omega)) _) | with_reducible refine bl_trans ?_ (by with_reducible assumption)))⟩
theorem sl_one (w : World) (n : Int) (T : TypeId) : SlAt (w.heap.size + 1) (w.alloc (.cells #[.int .i64 n] T)) (some ⟨w.heap.size, 0, none⟩) (flat (fun n => [Value.int .i64 n]) [n]) := by simpa [flat] using sl_new w #[.int .i64 n] T
theorem sl_three (w : World) (T : TypeId) : SlAt (w.heap.size + 1) (w.alloc (.cells #[.int .i64 0, .int .i64 2, .int .i64 3] T)) (some ⟨w.heap.size, 0, none⟩) (flat (fun n => [Value.int .i64 n]) [0, 2, 3]) := by simpa [flat] using sl_new w #[.int .i64 0, .int .i64 2, .int .i64 3] T
theorem sides3_any (w : World) (T : TypeId) : Calls Try.prog 80 #[.slice (some ⟨w.heap.size, 0, none⟩) 3 3] (w.alloc (.cells #[.int .i64 0, .int .i64 2, .int .i64 3] T)) fun e w' => e = .returned (.int .u8 13) ∧ (w.alloc (.cells #[.int .i64 0, .int .i64 2, .int .i64 3] T)) = w' := by
  have := sidesOf_any _ 3 [0, 2, 3] _ (sl_three w T) three_sides (by decide)
  rwa [show orL [0, 2, 3] = 13 from by decide +kernel] at this
theorem sides1_any (w : World) (n : Int) (T : TypeId) (h1 : 0 ≤ n) (h2 : n ≤ 3) : Calls Try.prog 80 #[.slice (some ⟨w.heap.size, 0, none⟩) 1 1] (w.alloc (.cells #[.int .i64 n] T)) fun e w' => e = .returned (.int .u8 (orL [n])) ∧ (w.alloc (.cells #[.int .i64 n] T)) = w' :=
  sidesOf_any _ 1 [n] _ (sl_one w n T) (one_side n h1 h2) (by simp)
set_option maxHeartbeats 2000000 in
theorem unturned3 (r : Int) (h3 : 0 ≤ r) (h4 : r ≤ 3) (w : World) : Calls Try.prog 79 #[.int .i8 3, .int .i64 r] w (UntP 3 r w) := by
  have hr : r = 0 ∨ r = 1 ∨ r = 2 ∨ r = 3 := by omega
  rcases hr with rfl | rfl | rfl | rfl
  all_goals
    go_enter Try.func79, Try.ntmps79
    go_wp2_with (go_at_call 80; refine (sidesOf_any _ 1 [_] _ (sl_new _ #[.int .i64 _] _) (one_side _ (by omega) (by omega)) (by decide)).mono ?_; rintro e w' ⟨rfl, rfl⟩)
    go_ret2
    exact ⟨⟨_, by decide, by decide, by decide, rfl⟩, (by repeat (first | with_reducible exact Below.refl _ _ | with_reducible assumption | with_reducible apply bl_drewN | with_reducible apply bl_drew | with_reducible apply bl_alloc | (with_reducible refine bl_set ?_ (by first | (simp; done) | (simp; omega)) _) | with_reducible refine bl_trans ?_ (by with_reducible assumption)))⟩
set_option maxHeartbeats 2000000 in
theorem unturned4 (r : Int) (h3 : 0 ≤ r) (h4 : r ≤ 3) (w : World) : Calls Try.prog 79 #[.int .i8 4, .int .i64 r] w (UntP 4 r w) := by
  have hr : r = 0 ∨ r = 1 ∨ r = 2 ∨ r = 3 := by omega
  rcases hr with rfl | rfl | rfl | rfl
  all_goals
    go_enter Try.func79, Try.ntmps79
    go_wp2_with (first | (go_at_call 72; refine (opposite_any _ _ (by omega) (by omega)).mono ?_; rintro e w' ⟨rfl, rfl⟩) | (go_at_call 80; refine (sidesOf_any _ 1 [_] _ (sl_new _ #[.int .i64 _] _) (one_side _ (by omega) (by omega)) (by decide)).mono ?_; rintro e w' ⟨rfl, rfl⟩))
    go_ret2
    exact ⟨⟨_, by decide, by decide, by decide, rfl⟩, (by repeat (first | with_reducible exact Below.refl _ _ | with_reducible assumption | with_reducible apply bl_drewN | with_reducible apply bl_drew | with_reducible apply bl_alloc | (with_reducible refine bl_set ?_ (by first | (simp; done) | (simp; omega)) _) | with_reducible refine bl_trans ?_ (by with_reducible assumption)))⟩
set_option maxHeartbeats 2000000 in
theorem unturned5 (r : Int) (h3 : 0 ≤ r) (h4 : r ≤ 3) (w : World) : Calls Try.prog 79 #[.int .i8 5, .int .i64 r] w (UntP 5 r w) := by
  have hr : r = 0 ∨ r = 1 ∨ r = 2 ∨ r = 3 := by omega
  rcases hr with rfl | rfl | rfl | rfl
  all_goals
    go_enter Try.func79, Try.ntmps79
    go_wp2_with (first | (go_at_call 72; refine (opposite_any _ _ (by omega) (by omega)).mono ?_; rintro e w' ⟨rfl, rfl⟩) | (go_at_call 80; refine (sidesOf_any _ 1 [_] _ (sl_new _ #[.int .i64 _] _) (one_side _ (by omega) (by omega)) (by decide)).mono ?_; rintro e w' ⟨rfl, rfl⟩))
    go_ret2
    exact ⟨⟨_, by decide, by decide, by decide, rfl⟩, (by repeat (first | with_reducible exact Below.refl _ _ | with_reducible assumption | with_reducible apply bl_drewN | with_reducible apply bl_drew | with_reducible apply bl_alloc | (with_reducible refine bl_set ?_ (by first | (simp; done) | (simp; omega)) _) | with_reducible refine bl_trans ?_ (by with_reducible assumption)))⟩
end Go.Proofs.Ytoldmgpdcenmhaa
