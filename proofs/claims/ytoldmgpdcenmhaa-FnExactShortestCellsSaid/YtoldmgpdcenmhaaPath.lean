/- Lines of cells: plain laws. -/
import Derived.Test.YtoldmgpdcenmhaaHas
import Derived.IntWalk
namespace Go.Proofs.Ytoldmgpdcenmhaa
open Go.RowKit
set_option linter.unusedVariables false
set_option linter.unusedSimpArgs false
set_option maxHeartbeats 400000
set_option maxRecDepth 100000
theorem sl_take {α : Type} {f : α → List Value} {B : Nat} {w : World} {a : Option Addr} {l : List α} (h : SlAt B w a (flat f l)) (i : Nat) : SlAt B w a (flat f (l.take i)) := by
  intro j hj
  have e : flat f l = flat f (l.take i) ++ flat f (l.drop i) := by rw [← flat_append, List.take_append_drop]
  have hj2 : j < (flat f l).length := by rw [e, List.length_append]; omega
  obtain ⟨b, off, h1, h2, h3⟩ := h j hj2
  refine ⟨b, off, h1, h2, ?_⟩
  rw [h3]
  have h4 : (flat f l)[j]? = (flat f (l.take i))[j]? := by rw [e, List.getElem?_append_left hj]
  rw [List.getElem?_eq_getElem hj2, List.getElem?_eq_getElem hj] at h4
  exact h4
theorem w8_eq (n : Int) : w8 n = if n % 256 ≥ 128 then n % 256 - 256 else n % 256 := by
  simp only [w8, IntKind.wrap]
  rw [show IntKind.i8.signed = true from rfl, show IntKind.i8.bits = 8 from rfl]
  simp
theorem w8_back (n : Int) (h : I8 n) (d : Int) : w8 (w8 (n + d) - d) = n := by
  obtain ⟨h1, h2⟩ := h
  simp only [w8_eq]
  split <;> split <;> omega
/-- The opposite side. -/
theorem nxt_back (a c : Ce) (ha : a.ok) (s : Int) (h5 : 0 ≤ s) (h6 : s ≤ 3) (h : nxt a s = c) : nxt c ((s + 2) % 4) = a := by
  subst h
  obtain ⟨x, y⟩ := a
  have hs : s = 0 ∨ s = 1 ∨ s = 2 ∨ s = 3 := by omega
  have b1 := w8_back x ha.1 1
  have b2 := w8_back y ha.2 1
  have b3 := w8_back x ha.1 (-1)
  have b4 := w8_back y ha.2 (-1)
  simp only [Int.sub_neg, ← Int.sub_eq_add_neg] at b3 b4
  rcases hs with rfl | rfl | rfl | rfl <;> simp [nxt, b1, b2, b3, b4]
theorem sideTo_neg (a c : Ce) : sideTo a c < 0 ↔ ∀ s : Int, 0 ≤ s → s ≤ 3 → nxt a s ≠ c := by
  constructor
  · intro h s h1 h2 e
    have hs : s = 0 ∨ s = 1 ∨ s = 2 ∨ s = 3 := by omega
    unfold sideTo at h
    rcases hs with rfl | rfl | rfl | rfl <;> (simp only [e, if_true] at h; (repeat' split at h) <;> omega)
  · intro h
    rw [sideTo_none a c (fun i hi => h i (by omega) (by omega))]
    omega
theorem sideTo_sym (a c : Ce) (ha : a.ok) (hc : c.ok) : sideTo a c < 0 ↔ sideTo c a < 0 := by
  rw [sideTo_neg, sideTo_neg]
  constructor
  · intro h s h1 h2 e
    exact h _ (by omega) (by omega) (nxt_back c a hc s h1 h2 e)
  · intro h s h1 h2 e
    exact h _ (by omega) (by omega) (nxt_back a c ha s h1 h2 e)
/-- What is wrong with the cell at a place of a line. -/
def badAt (cs : List Ce) (i : Nat) : Bool := !cIn 24 24 (cs.getD i default) || decide (cs.getD i default ∈ cs.take i) || (decide (0 < i) && decide (sideTo (cs.getD (i - 1) default) (cs.getD i default) < 0))
def okUpto (cs : List Ce) (j : Nat) : Prop := ∀ i, i < j → badAt cs i = false
/-- The cells of a line. -/
def vPath (cs : List Ce) : Bool := inB cs.length 1 120 && (List.range cs.length).all (fun i => !badAt cs i)
theorem vPath_bad (cs : List Ce) (j : Nat) (h : j < cs.length) (hb : badAt cs j = true) : vPath cs = false := by
  unfold vPath
  have : (List.range cs.length).all (fun i => !badAt cs i) = false := by
    rw [Bool.eq_false_iff]
    intro h2
    rw [List.all_eq_true] at h2
    have := h2 j (List.mem_range.2 h)
    simp [hb] at this
  rw [this, Bool.and_false]
theorem vPath_good (cs : List Ce) (h : okUpto cs cs.length) : vPath cs = inB cs.length 1 120 := by
  unfold vPath
  have : (List.range cs.length).all (fun i => !badAt cs i) = true := by
    rw [List.all_eq_true]
    intro i hi
    simp [h i (List.mem_range.1 hi)]
  rw [this, Bool.and_true]
end Go.Proofs.Ytoldmgpdcenmhaa
