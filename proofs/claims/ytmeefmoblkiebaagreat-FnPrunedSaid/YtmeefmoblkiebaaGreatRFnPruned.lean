/-
  FnPruned: whatever the bytes, a machine that is pruned does the same and none of its parts is useless alone, a useless part can be left out, and what is moved does the same: the law returns true, and leaves its arguments as they were.
-/
import Derived.Test.YtmeefmoblkiebaaGreatK8
import Derived.Test.YtmeefmoblkiebaaGreatRows
import Derived.ShutString
import Derived.ChangeOld
namespace Go.Proofs.YtmeefmoblkiebaaGreat.RFnPruned
open Go.ChangeShapes Go.WideShapes Go.ChangeAt Go.RowKit
open Go.ChangeMaps (open_string shut_string)
set_option linter.unusedVariables false

theorem own : ownKnob Tryz.prog.godebug = none := by kernel_rfl
theorem laidOut : laidOutB Tryz.prog = true := by kernel_rfl

set_option maxRecDepth 100000 in
theorem lifted (os : Os) (started : os.Started) (H : Type) (enc : TypeId × Value → H) :
    ReturnsInHanded {} Tryz.checked os 5 .any (Rows.fnPrunedSpec.pre6 enc Tryz.prog Tryz.f5 Rows.fnPrunedRow.domain false) (Rows.fnPrunedSpec.post enc Tryz.prog Tryz.f5 false true false false) := by
  refine returnsInHanded_of_change (C := Tryz.checked) own started (by kernel_rfl) Tryz.func5
    (ChangeSpec.witness6 (enc := enc) (C := Tryz.checked) false ⟨#[], #[.slice none 0 0, .slice none 0 0], []⟩ 8 (by kernel_rfl) (by kernel_rfl) (by kernel_rfl) (by kernel_rfl)) ?_
  intro W base args ds gs before hval0 hW hcnd _
  have hval : ∀ (j : Nat) t v, Tryz.f5.params[j]? = some t → args[j]? = some v → Value.okWide Tryz.prog W .any base t v := hval0
  have hW' := hW
  obtain ⟨p, q, hA0, hV, rfl, hfz, hnd⟩ := hW
  have hA : DataW.TrodAll enc Tryz.prog W 0 (fun _ => true) true Tryz.f5.params.toList args.toList ds p := hA0
  rw [Tryz.params5] at hA hval
  obtain ⟨v0, vs0, d0, ds0, p0, q0, hargs, rfl, rfl, h0, r0⟩ := trodAll_cons hA
  obtain ⟨v1, vs1, d1, ds1, p1, q1, rfl, rfl, rfl, h1, r1⟩ := trodAll_cons r0
  obtain ⟨rfl, rfl, rfl⟩ := trodAll_nil r1
  obtain rfl : args = #[v0, v1] := by cases args; simp_all
  obtain ⟨rfl, rfl⟩ := trodVars_none hV
  have k0 := h0
  have lt0 : ∀ x ∈ p0, x.block < W.heap.size := by obtain ⟨m, hm⟩ := k0; exact DataW.trod_lt m _ _ _ hm
  obtain ⟨a0, len0, cap0, rfl⟩ := okWide_slice Tryz.underlying22 (hval 0 22 v0 rfl rfl)
  obtain ⟨code, rfl, ok0, sl0, len0⟩ : ∃ l : List Int, l.length = len0 ∧ (∀ k (h : k < l.length), okU8 l[k]) ∧ SlAt W.heap.size W a0 (flat U8c l) ∧ len0 ≤ maxLen := by
    obtain ⟨fuel, hf⟩ := h0
    exact sl_of_open (s := 1) rfl (by omega) conv_u8 Tryz.underlying22 (by kernel_rfl) (by kernel_rfl) hf
  have ln0 : code.length ≤ 9223372036854775807 := by unfold maxLen at len0; omega
  have k1 := h1
  have lt1 : ∀ x ∈ p1, x.block < W.heap.size := by obtain ⟨m, hm⟩ := k1; exact DataW.trod_lt m _ _ _ hm
  obtain ⟨a1, len1, cap1, rfl⟩ := okWide_slice Tryz.underlying22 (hval 1 22 v1 rfl rfl)
  obtain ⟨more, rfl, ok1, sl1, len1⟩ : ∃ l : List Int, l.length = len1 ∧ (∀ k (h : k < l.length), okU8 l[k]) ∧ SlAt W.heap.size W a1 (flat U8c l) ∧ len1 ≤ maxLen := by
    obtain ⟨fuel, hf⟩ := h1
    exact sl_of_open (s := 1) rfl (by omega) conv_u8 Tryz.underlying22 (by kernel_rfl) (by kernel_rfl) hf
  have ln1 : more.length ≤ 9223372036854775807 := by unfold maxLen at len1; omega
  clear hA0 hval0
  refine (lawPruned_any a0 cap0 code a1 cap1 more W sl0 ok0 sl1 ok1).mono fun e W' ⟨he, bel⟩ => ?_
  subst he
  exact ⟨_, rfl, _, _, _, [], _, [], hW', trodAll_mk1 (shut_bool Tryz.underlying4 _), (trodAll_cons_mk (Below.trod laidOut (by kernel_rfl) (of_decide_eq_true (by kernel_rfl)) k0 bel lt0) (trodAll_cons_mk (Below.trod laidOut (by kernel_rfl) (of_decide_eq_true (by kernel_rfl)) k1 bel lt1) trodAll_mk0)), rfl, bel.frame _, fun h => by cases h⟩

theorem andT {a b : Bool} (h : a = true) (k : b = true) : (a && b) = true := by rw [h, k]; rfl
set_option maxHeartbeats 4000000 in
theorem joined : joinedFacts Tryz.pinned.checked.prog 5 Tryz.f5 Rows.fnPrunedSpec Rows.fnPrunedRow = true := by
  unfold joinedFacts
  (repeat' (with_reducible refine andT ?_ ?_)) <;> as_aux_lemma => kernel_rfl
theorem over : Rows.fnPrunedRow.holds Tryz.pinned (OpenSpec.ofChange Rows.fnPrunedSpec) :=
  OpenClaim.holds_of_wide 5 Tryz.f5 rfl rfl rfl rfl rfl rfl rfl ⟨rfl, rfl, rfl, rfl, rfl⟩ rfl rfl rfl rfl rfl (by as_aux_lemma => kernel_rfl) Tryz.func5 joined
    (of_decide_eq_true (by kernel_rfl)) (by unfold Func.isWrapper; first | (rw [if_pos (by decide +kernel)]; kernel_rfl) | (rw [if_neg (by decide +kernel)]; exact ⟨rfl, rfl⟩))
    (fun os started H enc _ => lifted os started H enc)

end Go.Proofs.YtmeefmoblkiebaaGreat.RFnPruned
namespace Go.Proofs.YtmeefmoblkiebaaGreat
theorem fnPruned_holds : Rows.FnPrunedSaid := RFnPruned.over
#print axioms fnPruned_holds
end Go.Proofs.YtmeefmoblkiebaaGreat
