/- Contracts: whether a cell is in a list. -/
import Derived.Test.YtoldmgpdcenmhaaSide
namespace Go.Proofs.Ytoldmgpdcenmhaa
open Go.RowKit
set_option linter.unusedVariables false
set_option linter.unusedSimpArgs false
set_option maxHeartbeats 400000
set_option maxRecDepth 100000
/-- A new block, as a row of one element. -/
theorem own_new (w : World) (cs : Array Value) (T : TypeId) (size base : Nat) (hb : base ≤ w.heap.size) (hs : cs.size = size) : (w.alloc (.cells cs T)).ownsRow base T size (.slice (some ⟨w.heap.size, 0, none⟩) 1 1) 1 cs.toList := by
  refine ⟨by simp [hs], .inr ⟨w.heap.size, 1, cs, rfl, hb, heap_alloc_new w _, Nat.le_refl _, by simp [maxLen], by simp [hs], ?_⟩⟩
  rw [List.take_of_length_le (by simp [hs])]
theorem own_newAt (w : World) (cs : Array Value) (T : TypeId) (size base g : Nat) (hg : g = w.heap.size) (hb : base ≤ g) (hs : cs.size = size) (xs : List Value) (hx : xs = cs.toList) : (w.alloc (.cells cs T)).ownsRow base T size (.slice (some ⟨g, 0, none⟩) 1 1) 1 xs := by
  subst hg hx
  exact own_new w cs T size base hb hs
theorem l05Has_any {B : Nat} (a : Option Addr) (cap : Nat) (cs : List Ce) (c : Ce) (w : World) (h : CesAt B w a cs) (hB : B ≤ w.heap.size) (hn : cs.length ≤ 10000000) :
    Calls Try.prog 68 #[.slice a cs.length cap, c.val] w fun e w' => e = .returned (.bool (decide (c ∈ cs))) ∧ Below w.heap.size w w' := by
  go_enter Try.func68, Try.ntmps68
  go_wp2
  go_loopw [5] (fun i wr => ∃ j : Nat, j ≤ cs.length ∧ i = .int .i64 j ∧ Hid (c ∉ cs.take j) ∧ Below (w.alloc (.cells #[.int .i8 c.x, .int .i8 c.y] 35)).heap.size (w.alloc (.cells #[.int .i8 c.x, .int .i8 c.y] 35)) wr) (fun i _ => cs.length - (intOf i).toNat)
  case atStart => exact ⟨0, by omega, rfl, Lib.hid (by simp), Below.refl _ _⟩
  case round =>
    obtain ⟨j, hj, rfl, hno, hb⟩ := hrel
    obtain ⟨hc, hf⟩ := bcell hb
    have hz := hb.size
    simp at hz
    have l0 : w.heap.size < wr.heap.size := by omega
    have hbw : Below w.heap.size w wr := bl_trans (bl_alloc (Below.refl _ _)) hb
    by_cases hlt : j < cs.length
    · obtain ⟨b, off, rfl, hbl, hat⟩ := ces_get h hlt
      unfold CeAt at hat
      have l1 : b < w.heap.size + 1 := by omega
      have l2 : b < w.heap.size := by omega
      have hne : b ≠ w.heap.size := by omega
      have he : ∀ w, (binOp .eql 35 (.agg #[.int .i8 cs[j].x, .int .i8 cs[j].y]) c.val).run Try.prog w = .ok (.bool (decide (cs[j] = c))) w := run_eql_ce cs[j].x cs[j].y c.x c.y
      rcases dec_cases (cs[j] = c) with ⟨q, q'⟩ | ⟨q, q'⟩
      · rw [q] at he
        have HQ := Lib.hid (show decide (c ∈ cs) = true by simp; rw [← q']; exact List.getElem_mem hlt)
        clear q'
        go_wp2
        go_quiet (fail)
        go_wp2
        go_ret
        exact ⟨by rw [HQ.out]; rfl, (by repeat (first | with_reducible exact Below.refl _ _ | with_reducible assumption | with_reducible apply bl_drewN | with_reducible apply bl_drew | with_reducible apply bl_alloc | (with_reducible refine bl_set ?_ (by first | (simp; done) | (simp; omega)) _) | with_reducible refine bl_trans ?_ (by with_reducible assumption)))⟩
      · rw [q] at he
        have HQ := Lib.hid q'
        clear q'
        go_wp2
        go_quiet (fail)
        go_wp2
        go_roundw
        case rel => exact ⟨j + 1, by omega, by go_num, Lib.hid (by rw [List.take_succ_eq_append_getElem hlt]; simp only [List.mem_append, List.mem_singleton, not_or]; exact ⟨hno.out, fun e => HQ.out e.symm⟩), (by repeat (first | with_reducible exact Below.refl _ _ | with_reducible assumption | with_reducible apply bl_drewN | with_reducible apply bl_drew | with_reducible apply bl_alloc | (with_reducible refine bl_set ?_ (by first | (simp; done) | (simp; omega)) _) | with_reducible refine bl_trans ?_ (by with_reducible assumption)))⟩
        case measure => simp [intOf]; omega
    · go_wp2
      go_ret
      have := hno.out
      rw [List.take_of_length_le (by omega)] at this
      exact ⟨by simp [this], hbw⟩
/-- The first place of a cell, -1: none. -/
def idxC (c : Ce) (cs : List Ce) : Int := (cs.findIdx? (fun x => decide (c = x))).elim (-1) (fun n => (n : Int))
theorem idxC_mem (c : Ce) (cs : List Ce) : decide (0 ≤ idxC c cs) = decide (c ∈ cs) := by
  unfold idxC
  cases hf : cs.findIdx? (fun x => decide (c = x)) with
  | none =>
    rw [List.findIdx?_eq_none_iff] at hf
    have : c ∉ cs := fun h => by have := hf c h; simp at this
    simp [this]
  | some k =>
    rw [List.findIdx?_eq_some_iff_getElem] at hf
    obtain ⟨h1, h2, -⟩ := hf
    have h3 : c = cs[k] := by simpa using h2
    have : c ∈ cs := h3 ▸ List.getElem_mem h1
    simp [this]
theorem indexCe_any {B : Nat} (a : Option Addr) (cap : Nat) (cs : List Ce) (c : Ce) (w : World) (h : CesAt B w a cs) (hB : B ≤ w.heap.size) (hn : cs.length ≤ 10000000) :
    Calls Try.prog 77 #[.slice a cs.length cap, c.val] w fun e w' => e = .returned (.int .i64 (idxC c cs)) ∧ Below w.heap.size w w' := by
  go_enter Try.func77, Try.ntmps77
  go_wp2
  go_loopw [8] (fun i wr => ∃ j : Nat, j ≤ cs.length ∧ i = .int .i64 j ∧ Hid ((cs.take j).findIdx? (fun x => decide (c = x)) = none) ∧ Below (w.alloc (.cells #[.int .i8 c.x, .int .i8 c.y] 35)).heap.size (w.alloc (.cells #[.int .i8 c.x, .int .i8 c.y] 35)) wr) (fun i _ => cs.length - (intOf i).toNat)
  case atStart => exact ⟨0, by omega, rfl, Lib.hid (by simp), Below.refl _ _⟩
  case round =>
    obtain ⟨j, hj, rfl, hno, hb⟩ := hrel
    obtain ⟨hc, hf⟩ := bcell hb
    have hz := hb.size
    simp at hz
    have l0 : w.heap.size < wr.heap.size := by omega
    have hbw : Below w.heap.size w wr := bl_trans (bl_alloc (Below.refl _ _)) hb
    by_cases hlt : j < cs.length
    · obtain ⟨b, off, rfl, hbl, hat⟩ := ces_get h hlt
      unfold CeAt at hat
      have l1 : b < w.heap.size + 1 := by omega
      have l2 : b < w.heap.size := by omega
      have hne : b ≠ w.heap.size := by omega
      have he : ∀ w, (binOp .eql 35 c.val (.agg #[.int .i8 cs[j].x, .int .i8 cs[j].y])).run Try.prog w = .ok (.bool (decide (c = cs[j]))) w := run_eql_ce c.x c.y cs[j].x cs[j].y
      rcases dec_cases (c = cs[j]) with ⟨q, q'⟩ | ⟨q, q'⟩
      · rw [q] at he
        have hi : cs.findIdx? (fun x => decide (c = x)) = some j := by
          rw [List.findIdx?_eq_some_iff_getElem]
          refine ⟨hlt, q, fun i hi => ?_⟩
          have h3 := hno.out
          rw [List.findIdx?_eq_none_iff] at h3
          have := h3 cs[i] (by rw [List.mem_take_iff_getElem]; exact ⟨i, by omega, rfl⟩)
          simpa using this
        have HQ := Lib.hid (show idxC c cs = j by unfold idxC; rw [hi]; rfl)
        clear q' hi
        go_wp2
        go_quiet (fail)
        go_wp2
        go_ret
        exact ⟨by rw [HQ.out]; rfl, (by repeat (first | with_reducible exact Below.refl _ _ | with_reducible assumption | with_reducible apply bl_drewN | with_reducible apply bl_drew | with_reducible apply bl_alloc | (with_reducible refine bl_set ?_ (by first | (simp; done) | (simp; omega)) _) | with_reducible refine bl_trans ?_ (by with_reducible assumption)))⟩
      · rw [q] at he
        have HQ := Lib.hid q; clear q q'
        go_wp2
        go_quiet (fail)
        go_wp2
        go_roundw
        case rel => exact ⟨j + 1, by omega, by go_num, Lib.hid (by rw [List.take_succ_eq_append_getElem hlt, List.findIdx?_append, hno.out]; simp only [List.findIdx?_cons, HQ.out]; simp), (by repeat (first | with_reducible exact Below.refl _ _ | with_reducible assumption | with_reducible apply bl_drewN | with_reducible apply bl_drew | with_reducible apply bl_alloc | (with_reducible refine bl_set ?_ (by first | (simp; done) | (simp; omega)) _) | with_reducible refine bl_trans ?_ (by with_reducible assumption)))⟩
        case measure => simp [intOf]; omega
    · go_wp2
      go_ret
      have := hno.out
      rw [List.take_of_length_le (by omega)] at this
      exact ⟨by unfold idxC; rw [this]; rfl, hbw⟩
theorem containsCe_any {B : Nat} (a : Option Addr) (cap : Nat) (cs : List Ce) (c : Ce) (w : World) (h : CesAt B w a cs) (hB : B ≤ w.heap.size) (hn : cs.length ≤ 10000000) :
    Calls Try.prog 57 #[.slice a cs.length cap, c.val] w fun e w' => e = .returned (.bool (decide (c ∈ cs))) ∧ Below w.heap.size w w' := by
  have HM := Lib.hid (idxC_mem c cs)
  have HI := Lib.hid (fun w' (hb : Below w.heap.size w w') => indexCe_any a cap cs c w' (h.below hb hB) (Nat.le_trans hB hb.size) hn)
  go_enter Try.func57, Try.ntmps57
  go_wp2_with fail
  refine (HI.out _ (by repeat (first | with_reducible exact Below.refl _ _ | with_reducible assumption | with_reducible apply bl_drewN | with_reducible apply bl_drew | with_reducible apply bl_alloc | (with_reducible refine bl_set ?_ (by first | (simp; done) | (simp; omega)) _) | with_reducible refine bl_trans ?_ (by with_reducible assumption)))).mono ?_
  rintro e w1 ⟨rfl, hb⟩
  go_wp2
  go_ret
  exact ⟨by rw [← HM.out]; rfl, (by repeat (first | with_reducible exact Below.refl _ _ | with_reducible assumption | with_reducible apply bl_drewN | with_reducible apply bl_drew | with_reducible apply bl_alloc | (with_reducible refine bl_set ?_ (by first | (simp; done) | (simp; omega)) _) | with_reducible refine bl_trans ?_ (by with_reducible assumption)))⟩
end Go.Proofs.Ytoldmgpdcenmhaa
