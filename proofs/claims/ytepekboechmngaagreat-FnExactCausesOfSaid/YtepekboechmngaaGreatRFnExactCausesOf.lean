/-
  FnExactCausesOf: for every board, however many pieces it has, all pushes and every number, the program's CausesOf and the reference's give the same places and the same code, in memory that is shared with nothing, and leave board and pushes as they were.
-/
import Derived.Test.YtepekboechmngaaGreatK6
import Derived.Test.YtepekboechmngaaGreatRows
import Derived.ShutString
import Derived.ChangeOld
namespace Go.Proofs.YtepekboechmngaaGreat.RFnExactCausesOf
open Go.ChangeShapes Go.WideShapes Go.ChangeAt Go.RowKit
open Go.ChangeMaps (open_string shut_string)
set_option linter.unusedVariables false

theorem own : ownKnob Tryz.prog.godebug = none := by kernel_rfl
theorem laidOut : laidOutB Tryz.prog = true := by kernel_rfl

set_option maxRecDepth 100000 in
theorem lifted (os : Os) (started : os.Started) (H : Type) (enc : TypeId × Value → H) :
    ReturnsInHanded {} Tryz.checked os 8 .any (Rows.fnExactCausesOfSpec.pre6 enc Tryz.prog Tryz.f8 Rows.fnExactCausesOfRow.domain false) (Rows.fnExactCausesOfSpec.post enc Tryz.prog Tryz.f8 false true false false) := by
  refine returnsInHanded_of_change (C := Tryz.checked) own started (by kernel_rfl) Tryz.func8
    (ChangeSpec.witness6 (enc := enc) (C := Tryz.checked) false ⟨#[], #[.agg #[.int .i8 0, .int .i8 0, .slice none 0 0], .slice none 0 0, .int .i64 0], []⟩ 8 (by kernel_rfl) (by kernel_rfl) (by kernel_rfl) (by kernel_rfl)) ?_
  intro W base args ds gs before hval0 hW hcnd _
  have hval : ∀ (j : Nat) t v, Tryz.f8.params[j]? = some t → args[j]? = some v → Value.okWide Tryz.prog W .any base t v := hval0
  have hW' := hW
  obtain ⟨p, q, hA0, hV, rfl, hfz, hnd⟩ := hW
  have hA : DataW.TrodAll enc Tryz.prog W 0 (fun _ => true) true Tryz.f8.params.toList args.toList ds p := hA0
  rw [Tryz.params8] at hA hval
  obtain ⟨v0, vs0, d0, ds0, p0, q0, hargs, rfl, rfl, h0, r0⟩ := trodAll_cons hA
  obtain ⟨v1, vs1, d1, ds1, p1, q1, rfl, rfl, rfl, h1, r1⟩ := trodAll_cons r0
  obtain ⟨v2, vs2, d2, ds2, p2, q2, rfl, rfl, rfl, h2, r2⟩ := trodAll_cons r1
  obtain ⟨rfl, rfl, rfl⟩ := trodAll_nil r2
  obtain rfl : args = #[v0, v1, v2] := by cases args; simp_all
  obtain ⟨rfl, rfl⟩ := trodVars_none hV
  have k0 := h0
  have lt0 : ∀ x ∈ p0, x.block < W.heap.size := by obtain ⟨m, hm⟩ := k0; exact DataW.trod_lt m _ _ _ hm
  obtain ⟨wd, hg, a0, cap0, ps, rfl, ok0, sl0, len0⟩ := open_bd (hval 0 25 v0 rfl rfl) h0
  have ln0 : ps.length ≤ 9223372036854775807 := by unfold maxLen at len0; omega
  have k1 := h1
  have lt1 : ∀ x ∈ p1, x.block < W.heap.size := by obtain ⟨m, hm⟩ := k1; exact DataW.trod_lt m _ _ _ hm
  obtain ⟨a1, len1, cap1, rfl⟩ := okWide_slice Tryz.underlying26 (hval 1 26 v1 rfl rfl)
  obtain ⟨pl, rfl, ok1, sl1, len1⟩ : ∃ l : List Pu, l.length = len1 ∧ (∀ k (h : k < l.length), Pu.ok l[k]) ∧ SlAt W.heap.size W a1 (flat Pu.cells l) ∧ len1 ≤ maxLen := by
    obtain ⟨fuel, hf⟩ := h1
    exact sl_of_open (s := 4) rfl (by omega) conv_pu Tryz.underlying26 (by kernel_rfl) (by kernel_rfl) hf
  have ln1 : pl.length ≤ 9223372036854775807 := by unfold maxLen at len1; omega
  obtain ⟨i, rfl, rfl, rfl, wf2⟩ := open_int Tryz.underlying2 (hval 2 2 v2 rfl rfl) h2
  have bd2 := bounds_i64 wf2
  clear hA0 hval0
  refine (lawCausesOf_any wd hg a0 cap0 ps a1 cap1 pl i W sl0 ok0 ln0 sl1 ok1 ln1).mono fun e W' ⟨he, bel⟩ => ?_
  subst he
  exact ⟨_, rfl, _, _, _, [], _, [], hW', trodAll_mk1 (shut_bool Tryz.underlying4 _), (trodAll_cons_mk (Below.trod laidOut (by kernel_rfl) (of_decide_eq_true (by kernel_rfl)) k0 bel lt0) (trodAll_cons_mk (Below.trod laidOut (by kernel_rfl) (of_decide_eq_true (by kernel_rfl)) k1 bel lt1) (trodAll_cons_mk (shut_int Tryz.underlying2 wf2) trodAll_mk0))), rfl, bel.frame _, fun h => by cases h⟩

theorem over : Rows.fnExactCausesOfRow.holds Tryz.pinned (OpenSpec.ofChange Rows.fnExactCausesOfSpec) :=
  OpenClaim.holds_of_wide 8 Tryz.f8 rfl rfl rfl rfl rfl rfl rfl ⟨rfl, rfl, rfl, rfl, rfl⟩ rfl rfl rfl rfl rfl (by kernel_rfl) Tryz.func8 (by kernel_rfl)
    (of_decide_eq_true (by kernel_rfl)) (by unfold Func.isWrapper; first | (rw [if_pos (by decide +kernel)]; kernel_rfl) | (rw [if_neg (by decide +kernel)]; exact ⟨rfl, rfl⟩))
    (fun os started H enc _ => lifted os started H enc)

end Go.Proofs.YtepekboechmngaaGreat.RFnExactCausesOf
namespace Go.Proofs.YtepekboechmngaaGreat
theorem causesOf_holds : Rows.FnExactCausesOfSaid := RFnExactCausesOf.over
#print axioms causesOf_holds
end Go.Proofs.YtepekboechmngaaGreat
