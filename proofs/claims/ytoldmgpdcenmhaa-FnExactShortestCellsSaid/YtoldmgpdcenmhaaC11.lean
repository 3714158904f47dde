/- Contracts for FreeCells. -/
import Derived.Test.YtoldmgpdcenmhaaDel
namespace Go.Proofs.Ytoldmgpdcenmhaa
open Go.RowKit
set_option linter.unusedVariables false
set_option linter.unusedSimpArgs false
set_option maxHeartbeats 400000
set_option maxRecDepth 100000

theorem indexFuncCe_any {B : Nat} (K : Nat) (caps : Array Value) (a : Option Addr) (cap : Nat) (ps : List Ce) (w : World) (hps : CesAt B w a ps) (hok : CesOk ps) (hB : B ≤ w.heap.size) (hn : ps.length ≤ 10000000) 
   (eg : ∀ (args : Array Value) (w : World), (callFunc K args).run Try.prog w = .ok (.enter K args) w) (q : Ce → Bool) (hf : ∀ (p : Ce) (w1 : World), p.ok → Below w.heap.size w w1 → Calls Try.prog K (#[p.val] ++ caps) w1 fun e w' => e = .returned (.bool (q p)) ∧ Below w1.heap.size w1 w'):
    Calls Try.prog 76 #[.slice a ps.length cap, .func (.func K) #[] caps] w fun e w' => e = .returned (.int .i64 ((ps.findIdx? q).elim (-1) (fun n => (n : Int)))) ∧ Below w.heap.size w w' := by
  go_enter Try.func76, Try.ntmps76
  go_wp2
  go_loopw [8] (fun i wr => ∃ k : Nat, k ≤ ps.length ∧ i = .int .i64 k ∧ (ps.take k).findIdx? q = none ∧ Below w.heap.size w wr) (fun i _ => ps.length - (intOf i).toNat)
  case atStart => exact ⟨0, by omega, rfl, by simp, Below.refl _ _⟩
  case round =>
    obtain ⟨k, hk, rfl, hfi, hb⟩ := hrel
    have Hfi := Lib.hid hfi; clear hfi
    by_cases hlt : k < ps.length
    · obtain ⟨b, off, rfl, hbl, hat⟩ := ces_get (hps.below hb hB) hlt
      unfold CeAt at hat
      have Hf := Lib.hid hf; clear hf
      go_wp2_with (refine (Hf.out ps[k] _ (hok k hlt) hb).mono ?_; rintro e w' ⟨rfl, hb2⟩)
      · have h1 : q ps[k] = true := by assumption
        go_ret
        refine ⟨?_, (by repeat (first | with_reducible exact Below.refl _ _ | with_reducible assumption | with_reducible apply bl_drewN | with_reducible apply bl_drew | with_reducible apply bl_alloc | (with_reducible refine bl_set ?_ (by first | (simp; done) | (simp; omega)) _) | with_reducible refine bl_trans ?_ (by with_reducible assumption)))⟩
        have h2 : ps.findIdx? q = some k := by
          rw [List.findIdx?_eq_some_iff_getElem]
          refine ⟨hlt, h1, fun j hj => ?_⟩
          have h3 := Hfi.out
          rw [List.findIdx?_eq_none_iff] at h3
          have := h3 ps[j] (by rw [List.mem_take_iff_getElem]; exact ⟨j, by omega, rfl⟩)
          simpa using this
        rw [h2]; rfl
      · have h1 : q ps[k] = false := by assumption
        go_roundw
        case rel => exact ⟨k + 1, by omega, by go_num, by have := Hfi.out; rw [List.take_succ_eq_append_getElem hlt, List.findIdx?_append, this]; simp [h1], (by repeat (first | with_reducible exact Below.refl _ _ | with_reducible assumption | with_reducible apply bl_drewN | with_reducible apply bl_drew | with_reducible apply bl_alloc | (with_reducible refine bl_set ?_ (by first | (simp; done) | (simp; omega)) _) | with_reducible refine bl_trans ?_ (by with_reducible assumption)))⟩
        case measure => simp [intOf]; omega
    · go_wp2
      go_ret
      refine ⟨?_, (by repeat (first | with_reducible exact Below.refl _ _ | with_reducible assumption | with_reducible apply bl_drewN | with_reducible apply bl_drew | with_reducible apply bl_alloc | (with_reducible refine bl_set ?_ (by first | (simp; done) | (simp; omega)) _) | with_reducible refine bl_trans ?_ (by with_reducible assumption)))⟩
      have h2 := Hfi.out
      rw [List.take_of_length_le (by omega)] at h2
      rw [h2]; rfl
end Go.Proofs.Ytoldmgpdcenmhaa
