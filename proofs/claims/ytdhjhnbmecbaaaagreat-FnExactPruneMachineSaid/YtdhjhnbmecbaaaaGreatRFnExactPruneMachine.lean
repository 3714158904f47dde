/-
  FnExactPruneMachine: for every machine, however large, the program's PruneMachine and the reference's give the same machine, the same number and the same code, in memory that is shared with nothing, and leave what was given as it was.
-/
import Derived.Test.YtdhjhnbmecbaaaaGreatK8
import Derived.Test.YtdhjhnbmecbaaaaGreatRows
import Derived.ShutString
import Derived.ChangeOld
namespace Go.Proofs.YtdhjhnbmecbaaaaGreat.RFnExactPruneMachine
open Go.ChangeShapes Go.WideShapes Go.ChangeAt Go.RowKit
open Go.ChangeMaps (open_string shut_string)
set_option linter.unusedVariables false

theorem own : ownKnob Tryz.prog.godebug = none := by kernel_rfl
theorem laidOut : laidOutB Tryz.prog = true := by kernel_rfl

set_option maxRecDepth 100000 in
theorem lifted (os : Os) (started : os.Started) (H : Type) (enc : TypeId × Value → H) :
    ReturnsInHanded {} Tryz.checked os 15 .any (Rows.fnExactPruneMachineSpec.pre6 enc Tryz.prog Tryz.f15 Rows.fnExactPruneMachineRow.domain false) (Rows.fnExactPruneMachineSpec.post enc Tryz.prog Tryz.f15 false true false false) := by
  refine returnsInHanded_of_change (C := Tryz.checked) own started (by kernel_rfl) Tryz.func15
    (ChangeSpec.witness6 (enc := enc) (C := Tryz.checked) false ⟨#[], #[.agg #[.int .i8 0, .int .i8 0, .slice none 0 0, .slice none 0 0, .slice none 0 0]], []⟩ 8 (by kernel_rfl) (by kernel_rfl) (by kernel_rfl) (by kernel_rfl)) ?_
  intro W base args ds gs before hval0 hW hcnd _
  have hval : ∀ (j : Nat) t v, Tryz.f15.params[j]? = some t → args[j]? = some v → Value.okWide Tryz.prog W .any base t v := hval0
  have hW' := hW
  obtain ⟨p, q, hA0, hV, rfl, hfz, hnd⟩ := hW
  have hA : DataW.TrodAll enc Tryz.prog W 0 (fun _ => true) true Tryz.f15.params.toList args.toList ds p := hA0
  rw [Tryz.params15] at hA hval
  obtain ⟨v0, vs0, d0, ds0, p0, q0, hargs, rfl, rfl, h0, r0⟩ := trodAll_cons hA
  obtain ⟨rfl, rfl, rfl⟩ := trodAll_nil r0
  obtain rfl : args = #[v0] := by cases args; simp_all
  obtain ⟨rfl, rfl⟩ := trodVars_none hV
  have k0 := h0
  have lt0 : ∀ x ∈ p0, x.block < W.heap.size := by obtain ⟨m, hm⟩ := k0; exact DataW.trod_lt m _ _ _ hm
  obtain ⟨mc, a0, b0, c0, cap0, capb0, capc0, rfl, ok0, sl0, sb0, sc0, len0, lenb0, lenc0⟩ := open_mc (hval 0 29 v0 rfl rfl) h0
  have ln0 : mc.bd.ps.length ≤ 9223372036854775807 := by unfold maxLen at len0; omega
  have lnb0 : mc.ins.length ≤ 9223372036854775807 := by unfold maxLen at lenb0; omega
  have lnc0 : mc.outs.length ≤ 9223372036854775807 := by unfold maxLen at lenc0; omega
  clear hA0 hval0
  refine (lawPruneMachine_any mc a0 b0 c0 cap0 capb0 capc0 W sl0 sb0 sc0 ok0 ln0 lnb0 lnc0).mono fun e W' ⟨he, bel⟩ => ?_
  subst he
  exact ⟨_, rfl, _, _, _, [], _, [], hW', trodAll_mk1 (shut_bool Tryz.underlying4 _), (trodAll_cons_mk (Below.trod laidOut (by kernel_rfl) (of_decide_eq_true (by kernel_rfl)) k0 bel lt0) trodAll_mk0), rfl, bel.frame _, fun h => by cases h⟩

theorem andT {a b : Bool} (h : a = true) (k : b = true) : (a && b) = true := by rw [h, k]; rfl
set_option maxHeartbeats 4000000 in
theorem joined : joinedFacts Tryz.pinned.checked.prog 15 Tryz.f15 Rows.fnExactPruneMachineSpec Rows.fnExactPruneMachineRow = true := by
  unfold joinedFacts
  (repeat' (with_reducible refine andT ?_ ?_)) <;> as_aux_lemma => kernel_rfl
theorem over : Rows.fnExactPruneMachineRow.holds Tryz.pinned (OpenSpec.ofChange Rows.fnExactPruneMachineSpec) :=
  OpenClaim.holds_of_wide 15 Tryz.f15 rfl rfl rfl rfl rfl rfl rfl ⟨rfl, rfl, rfl, rfl, rfl⟩ rfl rfl rfl rfl rfl (by as_aux_lemma => kernel_rfl) Tryz.func15 joined
    (of_decide_eq_true (by kernel_rfl)) (by unfold Func.isWrapper; first | (rw [if_pos (by decide +kernel)]; kernel_rfl) | (rw [if_neg (by decide +kernel)]; exact ⟨rfl, rfl⟩))
    (fun os started H enc _ => lifted os started H enc)

end Go.Proofs.YtdhjhnbmecbaaaaGreat.RFnExactPruneMachine
namespace Go.Proofs.YtdhjhnbmecbaaaaGreat
theorem pruneMachine_holds : Rows.FnExactPruneMachineSaid := RFnExactPruneMachine.over
#print axioms pruneMachine_holds
end Go.Proofs.YtdhjhnbmecbaaaaGreat
