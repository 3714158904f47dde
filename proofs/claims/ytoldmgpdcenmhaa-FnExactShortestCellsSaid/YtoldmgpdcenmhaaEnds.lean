/- Contracts: the ends of a way, and whether one of them is on a line. -/
import Derived.Test.YtoldmgpdcenmhaaSh
import Derived.Test.YtoldmgpdcenmhaaC11
import Derived.Test.YtoldmgpdcenmhaaL3
import Derived.Test.YtoldmgpdcenmhaaRev
namespace Go.Proofs.Ytoldmgpdcenmhaa
open Go.RowKit
set_option linter.unusedVariables false
set_option linter.unusedSimpArgs false
set_option maxHeartbeats 400000
set_option maxRecDepth 100000
theorem ends_any (y : Wy) (hyo : y.ok) (w : World) (p1 : 0 ≤ y.sd) (p2 : y.sd ≤ 3) (p3 : 0 ≤ y.out) (p4 : y.out ≤ 3) :
    Calls Try.prog 55 #[y.val] w fun e w' => ∃ v, e = .returned v ∧ w'.ownsRow w.heap.size 35 2 v 2 (flat Ce.cells [nxt ⟨y.fx, y.fy⟩ y.sd, nxt ⟨y.tx, y.ty⟩ y.out]) ∧ Below w.heap.size w w' := by
  obtain ⟨⟨y1, y2⟩, y3, ⟨y4, y5⟩, y6⟩ := hyo
  have HN := Lib.hid (fun (w' : World) (x z s : Int) (hc : (⟨x, z⟩ : Ce).ok) (h5 : 0 ≤ s) (h6 : s ≤ 3) => next_any ⟨x, z⟩ hc s h5 h6 w')
  have hz1 : (w.alloc (.cells #[.int .i8 y.fx, .int .i8 y.fy, .int .i8 y.sd, .int .i8 y.tx, .int .i8 y.ty, .int .i8 y.out] 58)).heap.size = w.heap.size + 1 := by simp
  have hwy := WyAt.new w y 58
  have hbw1 : Below w.heap.size w (w.alloc (.cells #[.int .i8 y.fx, .int .i8 y.fy, .int .i8 y.sd, .int .i8 y.tx, .int .i8 y.ty, .int .i8 y.out] 58)) := bl_alloc (Below.refl _ _)
  have hws : IntKind.i64.wrap y.sd = y.sd := by rw [IntKind.wrap_i64]; omega
  have hwo : IntKind.i64.wrap y.out = y.out := by rw [IntKind.wrap_i64]; omega
  go_enter Try.func55, Try.ntmps55
  go_upto_region 1 with fail
  generalize (w.alloc (.cells #[.int .i8 y.fx, .int .i8 y.fy, .int .i8 y.sd, .int .i8 y.tx, .int .i8 y.ty, .int .i8 y.out] 58)) = w1 at *
  unfold WyAt at hwy
  have hlt : w.heap.size < w1.heap.size := by omega
  go_region_held3 (fun w' => Below w1.heap.size w1 w' ∧ ∀ b o, b < w1.heap.size → w'.cell? ⟨b, o, none⟩ = w1.cell? ⟨b, o, none⟩) ((refine ext_s ?_; exact (by repeat (first | with_reducible exact Below.refl _ _ | with_reducible assumption | with_reducible apply bl_drewN | with_reducible apply bl_drew | with_reducible apply bl_alloc | (with_reducible refine bl_set ?_ (by first | (simp; done) | (simp; omega)) _) | with_reducible refine bl_trans ?_ (by with_reducible assumption))))) (first | (go_at_call 52; refine (HN.out _ _ _ _ (by first | exact ⟨y1, y2⟩ | exact ⟨y4, y5⟩) (by assumption) (by assumption)).mono ?_; rintro e wa ⟨rfl, ba⟩; have bwa : Below w1.heap.size w1 wa := (by repeat (first | with_reducible exact Below.refl _ _ | with_reducible assumption | with_reducible apply bl_drewN | with_reducible apply bl_drew | with_reducible apply bl_alloc | (with_reducible refine bl_set ?_ (by first | (simp; done) | (simp; omega)) _) | with_reducible refine bl_trans ?_ (by with_reducible assumption))); obtain ⟨hca, hfa⟩ := bcell bwa))
  have hbe := bl_trans hbw1 bwa
  have hze := hbe.size
  go_wp2
  go_ret
  refine ⟨_, rfl, ?_, bl_alloc hbe⟩
  exact World.ownsRow_lit (base := w.heap.size) (e := 35) (size := 2) wa #[.int .i8 (nxt ⟨y.fx, y.fy⟩ y.sd).x, .int .i8 (nxt ⟨y.fx, y.fy⟩ y.sd).y, .int .i8 (nxt ⟨y.tx, y.ty⟩ y.out).x, .int .i8 (nxt ⟨y.tx, y.ty⟩ y.out).y] 2 hze (by simp [maxLen]) rfl
theorem containsFuncCe_any {B : Nat} (K : Nat) (caps : Array Value) (a : Option Addr) (cap : Nat) (ps : List Ce) (w : World) (hps : CesAt B w a ps) (hok : CesOk ps) (hB : B ≤ w.heap.size) (hn : ps.length ≤ 10000000)
   (eg : ∀ (args : Array Value) (w : World), (callFunc K args).run Try.prog w = .ok (.enter K args) w) (q : Ce → Bool) (hf : ∀ (p : Ce) (w1 : World), p.ok → Below w.heap.size w w1 → Calls Try.prog K (#[p.val] ++ caps) w1 fun e w' => e = .returned (.bool (q p)) ∧ Below w1.heap.size w1 w') :
    Calls Try.prog 54 #[.slice a ps.length cap, .func (.func K) #[] caps] w fun e w' => e = .returned (.bool (ps.any q)) ∧ Below w.heap.size w w' := by
  have H := Lib.hid (indexFuncCe_any K caps a cap ps w hps hok hB hn eg q hf)
  have HV := Lib.hid (show decide (0 ≤ (ps.findIdx? q).elim (-1 : Int) (fun n => (n : Int))) = ps.any q by
    cases hf : ps.findIdx? q with
    | none =>
      rw [List.findIdx?_eq_none_iff] at hf
      have : ps.any q = false := by rw [Bool.eq_false_iff]; intro h; rw [List.any_eq_true] at h; obtain ⟨x, hx, hq⟩ := h; rw [hf x hx] at hq; cases hq
      rw [this]; rfl
    | some k =>
      rw [List.findIdx?_eq_some_iff_getElem] at hf
      obtain ⟨h1, h2, -⟩ := hf
      have : ps.any q = true := by rw [List.any_eq_true]; exact ⟨_, List.getElem_mem h1, h2⟩
      rw [this]; simp)
  go_enter Try.func54, Try.ntmps54
  go_wp2_with fail
  refine H.out.mono ?_
  rintro e w1 ⟨rfl, hb⟩
  go_wp2
  go_ret
  exact ⟨by rw [← HV.out]; rfl, (by repeat (first | with_reducible exact Below.refl _ _ | with_reducible assumption | with_reducible apply bl_drewN | with_reducible apply bl_drew | with_reducible apply bl_alloc | (with_reducible refine bl_set ?_ (by first | (simp; done) | (simp; omega)) _) | with_reducible refine bl_trans ?_ (by with_reducible assumption)))⟩
theorem eg_Shortest1 (args : Array Value) (w : World) : (callFunc 56 args).run Try.prog w = .ok (.enter 56 args) w := by kernel_rfl
theorem shortest1_any (c : Ce) (bo : Nat) (a : Option Addr) (cap : Nat) (cs : List Ce) (w : World) (hb : bo < w.heap.size) (hc : w.cell? ⟨bo, 0, none⟩ = some (.slice a cs.length cap)) (hcs : CesAt w.heap.size w a cs) (hn : cs.length ≤ 10000000) :
    Calls Try.prog 56 #[c.val, .pointer (some ⟨bo, 0, none⟩)] w fun e w' => e = .returned (.bool (decide (c ∈ cs))) ∧ Below w.heap.size w w' := by
  have H := Lib.hid (containsCe_any a cap cs c (w.alloc (.cells #[.int .i8 c.x, .int .i8 c.y] 35)) (hcs.below (bl_alloc (Below.refl _ _)) (Nat.le_refl _)) (by simp) hn)
  have hne : bo ≠ w.heap.size := by omega
  go_enter Try.func56, Try.ntmps56
  go_wp2_with fail
  refine H.out.mono ?_
  rintro e w1 ⟨rfl, hb1⟩
  go_wp2
  go_ret
  exact ⟨rfl, (by repeat (first | with_reducible exact Below.refl _ _ | with_reducible assumption | with_reducible apply bl_drewN | with_reducible apply bl_drew | with_reducible apply bl_alloc | (with_reducible refine bl_set ?_ (by first | (simp; done) | (simp; omega)) _) | with_reducible refine bl_trans ?_ (by with_reducible assumption)))⟩
end Go.Proofs.Ytoldmgpdcenmhaa
