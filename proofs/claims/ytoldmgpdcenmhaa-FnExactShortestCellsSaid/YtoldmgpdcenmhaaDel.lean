/- Rows that are cut short, cleared; one element appended; functions of package slices over cells. -/
import Derived.Test.YtoldmgpdcenmhaaFCell
import Derived.Test.YtoldmgpdcenmhaaC10
namespace Go.Proofs.Ytoldmgpdcenmhaa
open Go.RowKit
set_option linter.unusedVariables false
set_option linter.unusedSimpArgs false
set_option maxHeartbeats 400000
set_option maxRecDepth 100000

/-- A new block reads as what it was made of. -/
theorem sl_new (w : World) (cs : Array Value) (T : TypeId) : SlAt (w.heap.size + 1) (w.alloc (.cells cs T)) (some ⟨w.heap.size, 0, none⟩) cs.toList := by
  intro j hj
  refine ⟨w.heap.size, 0, rfl, by omega, ?_⟩
  have hh := heap_alloc_new w (.cells cs T)
  rw [Nat.zero_add, cell_of_row _ _ _ _ _ _ hh, ← Array.getElem?_toList, List.getElem?_eq_getElem hj]

/-- The first part of an owned row is owned. -/
theorem own_prefix {w : World} {base : Nat} {e : TypeId} {size g n cap : Nat} {A R : List Value} (h : w.ownsRow base e size (.slice (some ⟨g, 0, none⟩) n cap) n (A ++ R)) {i : Nat} (hA : A.length = i * size) (hi : i ≤ n) :
    w.ownsRow base e size (.slice (some ⟨g, 0, none⟩) i cap) i A := by
  refine ⟨hA, .inr ?_⟩
  rcases h.2 with ⟨h', _⟩ | ⟨g', cap', cur, h', hb, hg, hnc, hcm, hcs, htake⟩
  · simp at h'
  · simp only [Value.slice.injEq, Option.some.injEq, Addr.mk.injEq, and_true, true_and] at h'
    obtain ⟨rfl, rfl⟩ := h'
    refine ⟨g, cap, cur, rfl, hb, hg, by omega, hcm, hcs, ?_⟩
    have : (cur.toList.take (n * size)).take (i * size) = A := by rw [htake, List.take_append_of_le_length (by omega), List.take_of_length_le (by omega)]
    rw [List.take_take, Nat.min_eq_left (Nat.mul_le_mul_right _ hi)] at this
    exact this

theorem setCells_same (b : Nat) : ∀ (us : List Value) (w : World) (o : Nat), w.setCells b o us = setCells w b o us
  | [], _, _ => rfl
  | u :: us, w, o => setCells_same b us _ _

/-- 'clear' of the end of an owned row. -/
theorem own_clear {P : Program} {w : World} {base : Nat} {t e ty : TypeId} {size g n cap i c : Nat} {z : Value} {A R : List Value} (ht : P.underlying t = some (.slice e)) (hv : ∀ w, (zeroValue e).run P w = .ok z w) (hz : z.cells.size = size)
    (h1 : ∀ u ∈ z.cells.toList, u.oneCell' = true) (h : w.ownsRow base e size (.slice (some ⟨g, 0, none⟩) n cap) n (A ++ R)) (hA : A.length = i * size) (hi : i ≤ n) (hs : 0 < size) :
    ∃ w', (Builtin.clear_ #[t] ty #[.slice (some ⟨g, i * size, none⟩) (n - i) c]).run P w = .ok (.tuple #[]) w' ∧ w'.ownsRow base e size (.slice (some ⟨g, 0, none⟩) i cap) i A ∧ w.grownBy w' (some g) := by
  by_cases hn : i = n
  · subst hn
    refine ⟨w, ?_, own_prefix h hA (Nat.le_refl _), World.grownBy.refl _ _⟩
    simp [Builtin.clear_, run_underlying ht]
  · obtain ⟨m, hm⟩ : ∃ m, n - i = m + 1 := ⟨n - i - 1, by omega⟩
    have hlen : (Builtin.zeroCells z.cells (n - i)).toList.length = (n - i) * size := by rw [Array.length_toList, size_zeroCells, hz]
    have hle : i * size + (n - i) * size = n * size := by rw [← Nat.add_mul]; congr 1; omega
    have hst := run_storeCells_cells (P := P) g (i * size) (Builtin.zeroCells z.cells (n - i)).toList 0 w
      (by intro j hj; rw [hlen] at hj; obtain ⟨⟨v, hv⟩, -⟩ := own_cell h (j := i * size + 0 + j) (by omega); rw [hv]; rfl)
      (by intro j hj; rw [hlen] at hj; obtain ⟨-, hf⟩ := own_cell h (j := i * size + 0 + j) (by omega); exact hf)
      (by
        intro u hu
        apply h1
        simp only [Builtin.zeroCells, Array.toList_map, List.mem_map] at hu
        obtain ⟨k, hk, rfl⟩ := hu
        have hlt : k % z.cells.size < z.cells.size := Nat.mod_lt _ (by omega)
        rw [getElem!_pos z.cells _ hlt]
        exact Array.getElem_mem_toList hlt)
    rw [Nat.add_zero, setCells_same] at hst
    have hRl : R.length = (n - i) * size := by have := h.1; rw [List.length_append] at this; omega
    have hown := own_setCells (Builtin.zeroCells z.cells (n - i)).toList h hA (by rw [hlen, hRl]; exact Nat.le_refl _)
    rw [List.append_assoc] at hown
    refine ⟨_, ?_, own_prefix hown hA hi, grown_setCells g _ w (i * size)⟩
    rw [hm] at hst ⊢
    simp [Builtin.clear_, run_underlying ht, hv, hst]
end Go.Proofs.Ytoldmgpdcenmhaa
