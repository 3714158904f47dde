/- Contracts: the side on which a cell lies. -/
import Derived.Test.YtoldmgpdcenmhaaNext
namespace Go.Proofs.Ytoldmgpdcenmhaa
open Go.RowKit
set_option linter.unusedVariables false
set_option linter.unusedSimpArgs false
set_option maxHeartbeats 400000
set_option maxRecDepth 100000
/-- The first side of a on which c lies, -1: on none. -/
def sideTo (a c : Ce) : Int := if nxt a 0 = c then 0 else if nxt a 1 = c then 1 else if nxt a 2 = c then 2 else if nxt a 3 = c then 3 else -1
theorem sideTo_hit (a c : Ce) (j : Nat) (h : j < 4) (h0 : ∀ i : Nat, i < j → nxt a i ≠ c) (h1 : nxt a j = c) : sideTo a c = j := by
  unfold sideTo
  match j, h with
  | 0, _ =>
    have g : nxt a 0 = c := h1
    rw [if_pos g]; rfl
  | 1, _ =>
    have f0 : nxt a 0 ≠ c := h0 0 (by omega)
    have g : nxt a 1 = c := h1
    rw [if_neg f0, if_pos g]; rfl
  | 2, _ =>
    have f0 : nxt a 0 ≠ c := h0 0 (by omega)
    have f1 : nxt a 1 ≠ c := h0 1 (by omega)
    have g : nxt a 2 = c := h1
    rw [if_neg f0, if_neg f1, if_pos g]; rfl
  | 3, _ =>
    have f0 : nxt a 0 ≠ c := h0 0 (by omega)
    have f1 : nxt a 1 ≠ c := h0 1 (by omega)
    have f2 : nxt a 2 ≠ c := h0 2 (by omega)
    have g : nxt a 3 = c := h1
    rw [if_neg f0, if_neg f1, if_neg f2, if_pos g]; rfl
theorem sideTo_none (a c : Ce) (h0 : ∀ i : Nat, i < 4 → nxt a i ≠ c) : sideTo a c = -1 := by
  have f0 : nxt a 0 ≠ c := h0 0 (by omega)
  have f1 : nxt a 1 ≠ c := h0 1 (by omega)
  have f2 : nxt a 2 ≠ c := h0 2 (by omega)
  have f3 : nxt a 3 ≠ c := h0 3 (by omega)
  unfold sideTo
  rw [if_neg f0, if_neg f1, if_neg f2, if_neg f3]
theorem l05Side_any (a c : Ce) (w : World) :
    Calls Try.prog 69 #[a.val, c.val] w fun e w' => e = .returned (.int .i64 (sideTo a c)) ∧ Below w.heap.size w w' := by
  have HN := Lib.hid (fun (s : Int) (w1 : World) (h5 : 0 ≤ s) (h6 : s ≤ 3) => l01Next_any a s h5 h6 w1)
  go_enter Try.func69, Try.ntmps69
  go_wp2
  go_loopw [5] (fun i wr => ∃ j : Nat, j ≤ 4 ∧ i = .int .i64 j ∧ Hid (∀ i : Nat, i < j → nxt a i ≠ c) ∧ Below ((w.alloc (.cells #[.int .i8 a.x, .int .i8 a.y] 35)).alloc (.cells #[.int .i8 c.x, .int .i8 c.y] 35)).heap.size ((w.alloc (.cells #[.int .i8 a.x, .int .i8 a.y] 35)).alloc (.cells #[.int .i8 c.x, .int .i8 c.y] 35)) wr) (fun i _ => 4 - (intOf i).toNat)
  case atStart => exact ⟨0, by omega, rfl, Lib.hid (fun i hi => by omega), Below.refl _ _⟩
  case round =>
    obtain ⟨j, hj, rfl, hno, hb⟩ := hrel
    obtain ⟨hc, hf⟩ := bcell hb
    have hz := hb.size
    simp at hz
    have l0 : w.heap.size < wr.heap.size := by omega
    have l1 : w.heap.size + 1 < wr.heap.size := by omega
    have hbw : Below w.heap.size w wr := bl_trans (bl_alloc (bl_alloc (Below.refl _ _))) hb
    by_cases hlt : j < 4
    · have he : ∀ w, (binOp .eql 35 (nxt a j).val c.val).run Try.prog w = .ok (.bool (decide (nxt a j = c))) w := run_eql_ce (nxt a j).x (nxt a j).y c.x c.y
      have HH := Lib.hid (sideTo_hit a c j hlt hno.out)
      rcases dec_cases (nxt a j = c) with ⟨q, q'⟩ | ⟨q, q'⟩
      · rw [q] at he
        have HQ := Lib.hid (HH.out q')
        clear q'
        go_wp2
        (refine wp_region_ext (by kernel_rfl) (by kernel_rfl) ?_; have hX := @ext_cell; (repeat (go_big_quiet_step ((go_at_call 61; exact ext_call (HN.out _ _ (by omega) (by omega)))))); refine wpQuiet_nil ?_; clear hX; intro _ hw'; obtain ⟨⟨wx, hbx⟩, rfl⟩ := hw'; obtain ⟨hcx, hfx⟩ := bcell hbx)
        go_wp2
        go_ret
        exact ⟨by rw [HQ.out]; rfl, bl_trans hbw hbx⟩
      · rw [q] at he
        have HQ := Lib.hid q'
        clear q'
        go_wp2
        (refine wp_region_ext (by kernel_rfl) (by kernel_rfl) ?_; have hX := @ext_cell; (repeat (go_big_quiet_step ((go_at_call 61; exact ext_call (HN.out _ _ (by omega) (by omega)))))); refine wpQuiet_nil ?_; clear hX; intro _ hw'; obtain ⟨⟨wx, hbx⟩, rfl⟩ := hw'; obtain ⟨hcx, hfx⟩ := bcell hbx)
        go_wp2
        go_roundw
        case rel => exact ⟨j + 1, by omega, by go_num, Lib.hid (fun i hi => by by_cases e : i = j; · subst e; exact HQ.out
                                                                               · exact hno.out i (by omega)), bl_trans hb hbx⟩
        case measure => simp [intOf]; omega
    · go_wp2
      go_ret
      exact ⟨by rw [sideTo_none a c (fun i hi => hno.out i (by omega))]; rfl, hbw⟩
theorem toward_any (a c : Ce) (hac : a.ok) (w : World) :
    Calls Try.prog 45 #[a.val, c.val] w fun e w' => e = .returned (.int .i64 (sideTo a c)) ∧ Below w.heap.size w w' := by
  have HN := Lib.hid (fun (s : Int) (w1 : World) (h5 : 0 ≤ s) (h6 : s ≤ 3) => next_any a hac s h5 h6 w1)
  go_enter Try.func45, Try.ntmps45
  go_wp2
  go_loopw [6] (fun i wr => ∃ j : Nat, j ≤ 4 ∧ i = .int .i64 j ∧ Hid (∀ i : Nat, i < j → nxt a i ≠ c) ∧ Below ((w.alloc (.cells #[.int .i8 a.x, .int .i8 a.y] 35)).alloc (.cells #[.int .i8 c.x, .int .i8 c.y] 35)).heap.size ((w.alloc (.cells #[.int .i8 a.x, .int .i8 a.y] 35)).alloc (.cells #[.int .i8 c.x, .int .i8 c.y] 35)) wr) (fun i _ => 4 - (intOf i).toNat)
  case atStart => exact ⟨0, by omega, rfl, Lib.hid (fun i hi => by omega), Below.refl _ _⟩
  case round =>
    obtain ⟨j, hj, rfl, hno, hb⟩ := hrel
    obtain ⟨hc, hf⟩ := bcell hb
    have hz := hb.size
    simp at hz
    have l0 : w.heap.size < wr.heap.size := by omega
    have l1 : w.heap.size + 1 < wr.heap.size := by omega
    have hbw : Below w.heap.size w wr := bl_trans (bl_alloc (bl_alloc (Below.refl _ _))) hb
    by_cases hlt : j < 4
    · have he : ∀ w, (binOp .eql 35 (nxt a j).val c.val).run Try.prog w = .ok (.bool (decide (nxt a j = c))) w := run_eql_ce (nxt a j).x (nxt a j).y c.x c.y
      have HH := Lib.hid (sideTo_hit a c j hlt hno.out)
      rcases dec_cases (nxt a j = c) with ⟨q, q'⟩ | ⟨q, q'⟩
      · rw [q] at he
        have HQ := Lib.hid (HH.out q')
        clear q'
        go_wp2
        (refine wp_region_ext (by kernel_rfl) (by kernel_rfl) ?_; have hX := @ext_cell; (repeat (go_big_quiet_step ((go_at_call 52; exact ext_call (HN.out _ _ (by omega) (by omega)))))); refine wpQuiet_nil ?_; clear hX; intro _ hw'; obtain ⟨⟨wx, hbx⟩, rfl⟩ := hw'; obtain ⟨hcx, hfx⟩ := bcell hbx)
        go_wp2
        go_ret
        exact ⟨by rw [HQ.out]; rfl, bl_trans hbw hbx⟩
      · rw [q] at he
        have HQ := Lib.hid q'
        clear q'
        go_wp2
        (refine wp_region_ext (by kernel_rfl) (by kernel_rfl) ?_; have hX := @ext_cell; (repeat (go_big_quiet_step ((go_at_call 52; exact ext_call (HN.out _ _ (by omega) (by omega)))))); refine wpQuiet_nil ?_; clear hX; intro _ hw'; obtain ⟨⟨wx, hbx⟩, rfl⟩ := hw'; obtain ⟨hcx, hfx⟩ := bcell hbx)
        go_wp2
        go_roundw
        case rel => exact ⟨j + 1, by omega, by go_num, Lib.hid (fun i hi => by by_cases e : i = j; · subst e; exact HQ.out
                                                                               · exact hno.out i (by omega)), bl_trans hb hbx⟩
        case measure => simp [intOf]; omega
    · go_wp2
      go_ret
      exact ⟨by rw [sideTo_none a c (fun i hi => hno.out i (by omega))]; rfl, hbw⟩
end Go.Proofs.Ytoldmgpdcenmhaa
