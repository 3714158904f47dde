/- The statements CornersIn and SlowLine, walked. -/
import Derived.Test.YtoldmgpdcenmhaaC5
namespace Go.Proofs.Ytoldmgpdcenmhaa
open Go.RowKit
set_option linter.unusedVariables false
set_option linter.unusedSimpArgs false
set_option maxHeartbeats 400000
set_option maxRecDepth 100000

/-- A value that reads as a list of pieces. -/
def PV (w : World) (v : Value) (l : List Pc) : Prop := ∃ a cap, v = .slice a l.length cap ∧ PcsAt w.heap.size w a l
theorem PV.step {w w' : World} {v : Value} {l : List Pc} (h : PV w v l) (hb : Below w.heap.size w w') : PV w' v l := by
  obtain ⟨a, cap, rfl, h⟩ := h
  exact ⟨a, cap, rfl, (h.below hb (Nat.le_refl _)).mono hb.size⟩
theorem own_pv {w : World} {base e : Nat} {v : Value} {l : List Pc} (h : w.ownsRow base e 5 v l.length (flat Pc.cells l)) : PV w v l := by
  obtain ⟨a, cap, rfl, h, -⟩ := own_at h
  exact ⟨a, cap, rfl, h⟩
/-- Two rows of which one is younger. -/
theorem own_apart {w w' : World} {base base' e e' s s' n n' : Nat} {v v' : Value} {xs xs' : List Value} (h : w.ownsRow base e s v n xs) (h' : w'.ownsRow base' e' s' v' n' xs') (hb : w.heap.size ≤ base') : ∀ k, v.ownBlock = some k → some k ≠ v'.ownBlock := by
  intro k hk e
  have h1 := (h.lt k hk).2
  have h2 := (h'.lt k e.symm).1
  omega
theorem own_apart' {w w' : World} {base base' e e' s s' n n' : Nat} {v v' : Value} {xs xs' : List Value} (h : w.ownsRow base e s v n xs) (h' : w'.ownsRow base' e' s' v' n' xs') (hb : w.heap.size ≤ base') : ∀ k, v'.ownBlock = some k → some k ≠ v.ownBlock := by
  intro k hk e
  have h1 := (h.lt k e.symm).2
  have h2 := (h'.lt k hk).1
  omega

theorem eqPieceS_pv {w : World} {v v' : Value} {ps qs : List Pc} (h : PV w v ps) (h' : PV w v' qs) (hn : ps.length ≤ 10000000) (hn' : qs.length ≤ 10000000) :
    Calls Try.prog 20 #[v, v'] w fun e w' => e = .returned (.bool (decide (ps = qs))) ∧ Below w.heap.size w w' := by
  obtain ⟨a, cap, rfl, h⟩ := h
  obtain ⟨a', cap', rfl, h'⟩ := h'
  exact eqPieceS_any a a' cap cap' ps qs w h h' (Nat.le_refl _) hn hn'
theorem eqPieceS_yes {w : World} {v v' : Value} {ps : List Pc} (h : PV w v ps) (h' : PV w v' ps) (hn : ps.length ≤ 10000000) :
    Calls Try.prog 20 #[v, v'] w fun e w' => e = .returned (.bool true) ∧ Below w.heap.size w w' := by
  have := eqPieceS_pv h h' hn hn
  simpa using this
theorem toPieceS_pv {w : World} {v : Value} {ps : List Pc} (h : PV w v ps) (hn : ps.length ≤ 10000000) :
    Calls Try.prog 34 #[v] w fun e w' => ∃ v', e = .returned v' ∧ w'.ownsRow w.heap.size 78 5 v' ps.length (flat Pc.cells ps) ∧ Below w.heap.size w w' := by
  obtain ⟨a, cap, rfl, h⟩ := h
  exact toPieceS_any a cap ps w h (Nat.le_refl _) hn
theorem heldPieceS_own {w : World} {base n : Nat} {v : Value} (k0 : Int) (h : w.ownsRow base 78 5 v n (flat Pc.cells (mkPc k0 n))) (hn : n ≤ 10000000) (h1 : 0 ≤ k0) (h2 : k0 ≤ 1000000000) :
    Calls Try.prog 24 #[v, .int .i64 k0] w fun e w' => e = .returned (.int .i64 (k0 + 5 * n)) ∧ w = w' := by
  obtain ⟨a, cap, rfl, h, -⟩ := own_at h
  exact heldPieceS_any a n cap k0 w h hn h1 h2

end Go.Proofs.Ytoldmgpdcenmhaa
