/- Opening arguments: boards and ways. -/
import Derived.Test.YtoldmgpdcenmhaaOpen
import Derived.Test.YtoldmgpdcenmhaaC6
import Derived.Deep.Strs
import Derived.Carry
namespace Go.Proofs.Ytoldmgpdcenmhaa
open Go.RowKit Go.ChangeShapes Go.WideShapes Go.ChangeAt
set_option linter.unusedVariables false
set_option maxHeartbeats 400000
set_option maxRecDepth 100000
set_option linter.unusedSimpArgs false
theorem open_bd {H : Type} {enc : TypeId × Value → H} {w : World} {base : Nat} {r : Reach} {b0 : Nat} {spare : Nat → Bool} {held : Bool} {v : Value} {d : DataW H} {p : List MemPlace}
    (hv : Value.okWide Try.prog w r b0 25 v) (h : DataW.Trod enc Try.prog w base spare held 25 v d p) :
    ∃ wd hg a cap ps, v = bdv wd hg (.slice a (ps : List Pc).length cap) ∧ (Bd.mk wd hg ps).ok ∧ PcsAt w.heap.size w a ps ∧ ps.length ≤ maxLen := by
  obtain ⟨cs, rfl, hsz⟩ := okWide_struct Try.underlying25 hv
  obtain ⟨fuel, h⟩ := h
  obtain ⟨y0, y1, y2, n, -, hl, h0, h1, h2⟩ := Go.Deep.trod_struct3 Try.underlying25 h
  have hsz : cs.size = 3 := hsz
  obtain ⟨c0, c1, c2, rfl⟩ : ∃ c0 c1 c2, cs = #[c0, c1, c2] := by
    obtain ⟨l⟩ := cs
    match l, hsz with
    | [c0, c1, c2], _ => exact ⟨c0, c1, c2, rfl⟩
  have f0 := trod_kinds (P := Try.prog) 2 22 [.i8] (by kernel_rfl) _ [c0] _ h0
  have f1 := trod_kinds (P := Try.prog) 2 22 [.i8] (by kernel_rfl) _ [c1] _ h1
  obtain ⟨a, cap, ps, e2, ok, sl, ln⟩ := sl_of_trod (s := 5) (cs := [c2]) (ok := Pc.ok) (f := Pc.cells) rfl (by omega) conv_pc Try.underlying23 (by kernel_rfl) (by kernel_rfl) h2
  obtain ⟨wd, _, e0, k0, -⟩ := fits_cons f0
  obtain ⟨hg, _, e1, k1, -⟩ := fits_cons f1
  simp only [List.cons.injEq] at e0 e1 e2
  obtain ⟨rfl, -⟩ := e0
  obtain ⟨rfl, -⟩ := e1
  obtain ⟨rfl, -⟩ := e2
  exact ⟨wd, hg, a, cap, ps, rfl, ⟨bounds_i8 k0, bounds_i8 k1, ok⟩, sl, ln⟩
theorem open_wy {H : Type} {enc : TypeId × Value → H} {w : World} {base : Nat} {r : Reach} {b0 : Nat} {spare : Nat → Bool} {held : Bool} {v : Value} {d : DataW H} {p : List MemPlace}
    (hv : Value.okWide Try.prog w r b0 54 v) (h : DataW.Trod enc Try.prog w base spare held 54 v d p) : ∃ y : Wy, v = y.val ∧ y.ok := by
  obtain ⟨cs, rfl, hsz⟩ := okWide_struct Try.underlying54 hv
  have hf : Fits [.i8, .i8, .i8, .i8, .i8, .i8] cs.toList := fits_of_trod (P := Try.prog) (by kernel_rfl) h
  obtain ⟨l⟩ := cs
  obtain ⟨a, _, e, h0, hf⟩ := fits_cons hf
  obtain ⟨b, _, rfl, h1, hf⟩ := fits_cons hf
  obtain ⟨c, _, rfl, h2, hf⟩ := fits_cons hf
  obtain ⟨d, _, rfl, h3, hf⟩ := fits_cons hf
  obtain ⟨x, _, rfl, h4, hf⟩ := fits_cons hf
  obtain ⟨f, _, rfl, h5, hf⟩ := fits_cons hf
  obtain rfl := fits_nil hf
  simp only at e
  subst e
  exact ⟨⟨a, b, c, d, x, f⟩, rfl, ⟨bounds_i8 h0, bounds_i8 h1⟩, bounds_i8 h2, ⟨bounds_i8 h3, bounds_i8 h4⟩, bounds_i8 h5⟩
theorem open_ce {H : Type} {enc : TypeId × Value → H} {w : World} {base : Nat} {r : Reach} {b0 : Nat} {spare : Nat → Bool} {held : Bool} {v : Value} {d : DataW H} {p : List MemPlace}
    (hv : Value.okWide Try.prog w r b0 26 v) (h : DataW.Trod enc Try.prog w base spare held 26 v d p) : ∃ c : Ce, v = c.val ∧ c.ok := by
  simp only [Value.okWide, Try.underlying26] at hv
  obtain ⟨cs, rfl, hsz, _⟩ := hv
  have hf : Fits [.i8, .i8] cs.toList := fits_of_trod (P := Try.prog) (by kernel_rfl) h
  obtain ⟨l⟩ := cs
  obtain ⟨a, _, e, h0, hf⟩ := fits_cons hf
  obtain ⟨b, _, rfl, h1, hf⟩ := fits_cons hf
  obtain rfl := fits_nil hf
  simp only at e
  subst e
  exact ⟨⟨a, b⟩, rfl, bounds_i8 h0, bounds_i8 h1⟩
end Go.Proofs.Ytoldmgpdcenmhaa
