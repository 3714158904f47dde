/- What reads as a list of a type that is whole numbers alone. -/
import Derived.Test.YtoldmgpdcenmhaaL2
namespace Go.Proofs.Ytoldmgpdcenmhaa
open Go.RowKit
def RV {α : Type} (f : α → List Value) (w : World) (v : Value) (l : List α) : Prop := ∃ a cap, v = .slice a l.length cap ∧ SlAt w.heap.size w a (flat f l)
theorem RV.step {α : Type} {f : α → List Value} {w w' : World} {v : Value} {l : List α} (h : RV f w v l) (hb : Below w.heap.size w w') : RV f w' v l := by
  obtain ⟨a, cap, rfl, h⟩ := h
  exact ⟨a, cap, rfl, (h.below hb (Nat.le_refl _)).mono hb.size⟩
theorem own_rv {α : Type} {f : α → List Value} {w : World} {base e s : Nat} {v : Value} {l : List α} (h : w.ownsRow base e s v l.length (flat f l)) : RV f w v l := by
  obtain ⟨a, cap, rfl, h, -⟩ := own_at h
  exact ⟨a, cap, rfl, h⟩
end Go.Proofs.Ytoldmgpdcenmhaa
