/-
  FnExactFreeCells: for every board, however many pieces it has, the program's FreeCells and the reference's give the same cells and the same code, in memory that is shared with nothing, and leave the board as it was.
-/
import Derived.Test.YtdifikijckebkaaRows
import Derived.Test.YtdifikijckebkaaOpen
import Derived.Test.YtdifikijckebkaaL4
import Derived.Test.YtdifikijckebkaaOpenBd
import Derived.ShutString
import Derived.ChangeOld
namespace Go.Proofs.Ytdifikijckebkaa.RFnExactFreeCells
open Go.ChangeShapes Go.WideShapes Go.ChangeAt Go.RowKit
open Go.ChangeMaps (open_string shut_string)
set_option linter.unusedVariables false

theorem own : ownKnob Try.prog.godebug = none := by kernel_rfl
theorem laidOut : laidOutB Try.prog = true := by kernel_rfl

set_option maxRecDepth 100000 in
theorem lifted (os : Os) (started : os.Started) (H : Type) (enc : TypeId × Value → H) :
    ReturnsInHanded {} Try.checked os 7 .any (Rows.fnExactFreeCellsSpec.pre6 enc Try.prog Try.f7 Rows.fnExactFreeCellsRow.domain false) (Rows.fnExactFreeCellsSpec.post enc Try.prog Try.f7 false true false false) := by
  refine returnsInHanded_of_change (C := Try.checked) own started (by kernel_rfl) Try.func7
    (ChangeSpec.witness6 (enc := enc) (C := Try.checked) false ⟨#[], #[.agg #[.int .i8 0, .int .i8 0, .slice none 0 0]], []⟩ 8 (by kernel_rfl) (by kernel_rfl) (by kernel_rfl) (by kernel_rfl)) ?_
  intro W base args ds gs before hval0 hW hcnd _
  have hval : ∀ (j : Nat) t v, Try.f7.params[j]? = some t → args[j]? = some v → Value.okWide Try.prog W .any base t v := hval0
  have hW' := hW
  obtain ⟨p, q, hA0, hV, rfl, hfz, hnd⟩ := hW
  have hA : DataW.TrodAll enc Try.prog W 0 (fun _ => true) true Try.f7.params.toList args.toList ds p := hA0
  rw [Try.params7] at hA hval
  obtain ⟨v0, vs0, d0, ds0, p0, q0, hargs, rfl, rfl, h0, r0⟩ := trodAll_cons hA
  obtain ⟨rfl, rfl, rfl⟩ := trodAll_nil r0
  obtain rfl : args = #[v0] := by cases args; simp_all
  obtain ⟨rfl, rfl⟩ := trodVars_none hV
  have k0 := h0
  have lt0 : ∀ x ∈ p0, x.block < W.heap.size := by obtain ⟨m, hm⟩ := k0; exact DataW.trod_lt m _ _ _ hm
  obtain ⟨wd, hg, a0, cap0, ps, rfl, ok0, sl0, len0⟩ := open_bd (hval 0 32 v0 rfl rfl) h0
  have ln0 : ps.length ≤ 9223372036854775807 := by unfold maxLen at len0; omega
  clear hA0 hval0
  refine (lawFreeCells_any wd hg a0 cap0 ps W sl0 ok0 ln0).mono fun e W' ⟨he, bel⟩ => ?_
  subst he
  exact ⟨_, rfl, _, _, _, [], _, [], hW', trodAll_mk1 (shut_bool Try.underlying4 _), (trodAll_cons_mk (Below.trod laidOut (by kernel_rfl) (of_decide_eq_true (by kernel_rfl)) k0 bel lt0) trodAll_mk0), rfl, bel.frame _, fun h => by cases h⟩

theorem over : Rows.fnExactFreeCellsRow.holds Try.pinned (OpenSpec.ofChange Rows.fnExactFreeCellsSpec) :=
  OpenClaim.holds_of_wide 7 Try.f7 rfl rfl rfl rfl rfl rfl rfl ⟨rfl, rfl, rfl, rfl, rfl⟩ rfl rfl rfl rfl rfl (by kernel_rfl) Try.func7 (by kernel_rfl)
    (of_decide_eq_true (by kernel_rfl)) (by unfold Func.isWrapper; first | (rw [if_pos (by decide +kernel)]; kernel_rfl) | (rw [if_neg (by decide +kernel)]; exact ⟨rfl, rfl⟩))
    (fun os started H enc _ => lifted os started H enc)

end Go.Proofs.Ytdifikijckebkaa.RFnExactFreeCells
namespace Go.Proofs.Ytdifikijckebkaa
theorem freeCells_holds : Rows.FnExactFreeCellsSaid := RFnExactFreeCells.over
#print axioms freeCells_holds
end Go.Proofs.Ytdifikijckebkaa
