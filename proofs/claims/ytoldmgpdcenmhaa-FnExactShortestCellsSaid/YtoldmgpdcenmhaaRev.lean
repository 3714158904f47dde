/- Contracts: slices.Reverse over cells. -/
import Derived.Test.YtoldmgpdcenmhaaOff
import Derived.BigRegion
namespace Go.Proofs.Ytoldmgpdcenmhaa
open Go.RowKit
set_option linter.unusedVariables false
set_option linter.unusedSimpArgs false
set_option maxHeartbeats 400000
set_option maxRecDepth 100000
/-- A list of which the first i and the last i elements have been exchanged. -/
def revTo (xs : List Ce) (i : Nat) : List Ce := (xs.drop (xs.length - i)).reverse ++ ((xs.take (xs.length - i)).drop i ++ (xs.take i).reverse)
theorem revTo_zero (xs : List Ce) : revTo xs 0 = xs := by simp [revTo]
theorem revTo_end (xs : List Ce) (i : Nat) (h : xs.length ≤ 2 * i + 1) (hi : 2 * i ≤ xs.length) : revTo xs i = xs.reverse := by
  unfold revTo
  have e : xs = xs.take i ++ ((xs.take (xs.length - i)).drop i ++ xs.drop (xs.length - i)) := by
    have h1 : xs.take i = (xs.take (xs.length - i)).take i := by rw [List.take_take]; congr 1; omega
    rw [h1, ← List.append_assoc, List.take_append_drop, List.take_append_drop]
  have hm : ((xs.take (xs.length - i)).drop i).length ≤ 1 := by simp; omega
  have hr : ((xs.take (xs.length - i)).drop i).reverse = (xs.take (xs.length - i)).drop i := by
    generalize (xs.take (xs.length - i)).drop i = m at hm
    match m, hm with
    | [], _ => rfl
    | [x], _ => rfl
  conv => rhs; rw [e]
  simp only [List.reverse_append, hr, List.append_assoc]
theorem revTo_parts (xs : List Ce) (i : Nat) (h : 2 * i + 1 < xs.length) : ∃ A M C : List Ce, A.length = i ∧ M.length = xs.length - 2 * i - 2 ∧
    revTo xs i = A ++ (xs[i] :: (M ++ (xs[xs.length - 1 - i]'(by omega) :: C))) ∧ revTo xs (i + 1) = A ++ (xs[xs.length - 1 - i]'(by omega) :: (M ++ (xs[i] :: C))) := by
  have hj : xs.length - 1 - i < xs.length := by omega
  refine ⟨(xs.drop (xs.length - i)).reverse, (xs.take (xs.length - 1 - i)).drop (i + 1), (xs.take i).reverse, by simp; omega, by simp; omega, ?_, ?_⟩
  · unfold revTo
    have e1 : xs.take (xs.length - i) = xs.take (xs.length - 1 - i) ++ [xs[xs.length - 1 - i]] := by
      have := List.take_succ_eq_append_getElem hj
      rw [← this]; congr 1; omega
    have e2 : (xs.take (xs.length - 1 - i)).drop i = xs[i] :: (xs.take (xs.length - 1 - i)).drop (i + 1) := by
      rw [List.drop_eq_getElem_cons (by simp; omega)]
      simp
    rw [e1, List.drop_append_of_le_length (by simp; omega), e2]
    simp
  · unfold revTo
    have e1 : xs.drop (xs.length - (i + 1)) = xs[xs.length - 1 - i] :: xs.drop (xs.length - i) := by
      have := List.drop_eq_getElem_cons hj
      rw [show xs.length - (i + 1) = xs.length - 1 - i by omega, this]
      congr 2; omega
    have e2 : xs.take (i + 1) = xs.take i ++ [xs[i]] := List.take_succ_eq_append_getElem (by omega)
    rw [e1, e2, show xs.length - (i + 1) = xs.length - 1 - i by omega]
    simp
set_option maxHeartbeats 1600000 in
theorem reverseCe_any {base g cap : Nat} (xs : List Ce) (w : World) (hown : w.ownsRow base 35 2 (.slice (some ⟨g, 0, none⟩) xs.length cap) xs.length (flat Ce.cells xs)) (hn : xs.length ≤ 10000000) :
    Calls Try.prog 53 #[.slice (some ⟨g, 0, none⟩) xs.length cap] w fun e w' => e = .returned (.tuple #[]) ∧ w'.ownsRow base 35 2 (.slice (some ⟨g, 0, none⟩) xs.length cap) xs.length (flat Ce.cells xs.reverse) ∧ w.grownBy w' (some g) := by
  go_enter Try.func53, Try.ntmps53
  go_wp2
  go_loopw [2, 3] (fun i j wr => ∃ k : Nat, 2 * k ≤ xs.length ∧ i = .int .i64 k ∧ j = .int .i64 (xs.length - 1 - k) ∧ wr.ownsRow base 35 2 (.slice (some ⟨g, 0, none⟩) xs.length cap) xs.length (flat Ce.cells (revTo xs k)) ∧ w.grownBy wr (some g)) (fun i _ _ => xs.length - (intOf i).toNat)
  case atStart => exact ⟨0, by omega, rfl, by go_num, by rw [revTo_zero]; exact hown, World.grownBy.refl _ _⟩
  case round =>
    clear hown
    obtain ⟨k, hk, rfl, rfl, hown, hg⟩ := hrel
    by_cases hlt : 2 * k + 1 < xs.length
    · obtain ⟨A, M, C, hA, hM, e1, e2⟩ := revTo_parts xs k hlt
      rw [e1, flat_append, flat_cons, flat_append, flat_cons] at hown
      have hAl : (flat Ce.cells A).length = k * 2 := by rw [flat_length Ce.len, hA]
      have hMl : (flat Ce.cells M).length = (xs.length - 2 * k - 2) * 2 := by rw [flat_length Ce.len, hM]
      generalize hx : xs[k] = ck at hown e2
      generalize hy : xs[xs.length - 1 - k] = cj at hown e2
      have i0 : wr.cell? ⟨g, k * 2, none⟩ = some (.int .i8 ck.x) := by
        rw [hown.cellAt _ (by omega), List.getElem?_append_right (by omega), hAl]; simp [Ce.cells]
      have i1 : wr.cell? ⟨g, k * 2 + 1, none⟩ = some (.int .i8 ck.y) := by
        rw [hown.cellAt _ (by omega), List.getElem?_append_right (by omega), hAl]; simp [Ce.cells]
      have j0 : wr.cell? ⟨g, (xs.length - 1 - k) * 2, none⟩ = some (.int .i8 cj.x) := by
        rw [hown.cellAt _ (by omega), List.getElem?_append_right (by omega), hAl, List.getElem?_append_right (by simp [Ce.cells]; omega), List.getElem?_append_right (by rw [hMl]; simp [Ce.cells]; omega), hMl]
        rw [show (xs.length - 1 - k) * 2 - k * 2 - (Ce.cells ck).length - (xs.length - 2 * k - 2) * 2 = 0 by simp [Ce.cells]; omega]
        rfl
      have j1 : wr.cell? ⟨g, (xs.length - 1 - k) * 2 + 1, none⟩ = some (.int .i8 cj.y) := by
        rw [hown.cellAt _ (by omega), List.getElem?_append_right (by omega), hAl, List.getElem?_append_right (by simp [Ce.cells]; omega), List.getElem?_append_right (by rw [hMl]; simp [Ce.cells]; omega), hMl]
        rw [show (xs.length - 1 - k) * 2 + 1 - k * 2 - (Ce.cells ck).length - (xs.length - 2 * k - 2) * 2 = 1 by simp [Ce.cells]; omega]
        rfl
      have fi0 := (own_cell hown (j := k * 2) (by omega)).2
      have fi1 := (own_cell hown (j := k * 2 + 1) (by omega)).2
      have fj0 := (own_cell hown (j := (xs.length - 1 - k) * 2) (by omega)).2
      have fj1 := (own_cell hown (j := (xs.length - 1 - k) * 2 + 1) (by omega)).2
      obtain ⟨jj, hjj⟩ : ∃ jj : Nat, jj = xs.length - 1 - k := ⟨_, rfl⟩
      have hji : (xs.length : Int) - 1 - k = (jj : Int) := by omega
      rw [hji]
      rw [← hjj] at j0 j1 fj0 fj1
      have hlt1 : (k : Int) < (jj : Int) := by omega
      have hlt2 : (jj : Int) < xs.length := by omega
      have hlt3 : jj < xs.length := by omega
      have hlt4 : k < xs.length := by omega
      have HJ := Lib.hid hjj
      clear hjj hji
      have HO := Lib.hid hown
      have HE := Lib.hid e2
      clear hown e1 e2 hx hy
      go_wp2_with fail
      go_region
      have h1 := own_setCells (Ce.cells cj) HO.out hAl (by simp [Ce.cells])
      rw [show (Ce.cells cj).length = 2 from rfl] at h1
      have hd : (Ce.cells ck ++ (flat Ce.cells M ++ (Ce.cells cj ++ flat Ce.cells C))).drop 2 = flat Ce.cells M ++ (Ce.cells cj ++ flat Ce.cells C) := rfl
      rw [hd, ← List.append_assoc] at h1
      have h2 := own_setCells (j := jj * 2) (Ce.cells ck) h1 (by rw [List.length_append, List.length_append, hAl, hMl, HJ.out]; simp [Ce.cells]; omega) (by simp [Ce.cells])
      have hd2 : (Ce.cells cj ++ flat Ce.cells C).drop (Ce.cells ck).length = flat Ce.cells C := rfl
      rw [hd2] at h2
      have hg2 := grown_trans (grown_trans hg (grown_setCells g (Ce.cells cj) wr (k * 2))) (grown_setCells g (Ce.cells ck) (setCells wr g (k * 2) (Ce.cells cj)) (jj * 2))
      clear i0 i1 j0 j1 fi0 fi1 fj0 fj1
      have hend : (flat Ce.cells A ++ Ce.cells cj ++ flat Ce.cells M) ++ Ce.cells ck ++ flat Ce.cells C = flat Ce.cells (revTo xs (k + 1)) := by
        rw [HE.out, flat_append, flat_cons, flat_append, flat_cons]
        simp only [List.append_assoc]
      rw [hend] at h2
      have h3 := h2.drew
      have hg3 : w.grownBy (setCells (setCells wr g (k * 2) (Ce.cells cj)) g (jj * 2) (Ce.cells ck)).drew (some g) := ⟨hg2.os, hg2.tape, hg2.output, hg2.size, hg2.block⟩
      clear HO HE hg2 h1 h2 hlt3 hlt4
      go_wp2
      exact ⟨⟨k + 1, by omega, by go_num, by have := HJ.out; congr 1; omega, h3, hg3⟩, by simp [intOf]; omega⟩
    · rw [revTo_end xs k (by omega) hk] at hown
      have HO := Lib.hid hown
      clear hown
      go_wp2
      go_end0
      exact ⟨rfl, HO.out, hg⟩
end Go.Proofs.Ytoldmgpdcenmhaa
