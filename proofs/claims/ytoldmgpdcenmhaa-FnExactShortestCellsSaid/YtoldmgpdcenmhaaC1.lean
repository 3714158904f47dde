/- Contracts of the small functions: numbers, cells, pieces; what the statements' own file makes, compares and marks. -/
import Derived.Test.YtoldmgpdcenmhaaProg
import Derived.WalkKit
import Derived.WalkSpells
import Derived.WalkLawsBesides
import Derived.StillTailTactics
import Derived.Test.YtoldmgpdcenmhaaBase
namespace Go.Proofs.Ytoldmgpdcenmhaa
open Go.RowKit
set_option linter.unusedVariables false
set_option linter.unusedSimpArgs false
set_option maxHeartbeats 400000
set_option maxRecDepth 100000

def vPc (p : Pc) : Bool := inB p.k 0 5 && inB p.t 0 3 && inB p.d 1 9 && (inB p.x 0 23 && inB p.y 0 23)
def cIn (wd hg : Int) (c : Ce) : Bool := inB c.x 0 (wd - 1) && inB c.y 0 (hg - 1)

theorem in_any (n lo hi : Int) (w : World) :
    Calls Try.prog 64 #[.int .i64 n, .int .i64 lo, .int .i64 hi] w fun e w' => e = .returned (.bool (inB n lo hi)) ∧ w = w' := by
  unfold inB
  by_cases h1 : lo ≤ n <;> by_cases h2 : n ≤ hi <;>
  · go_enter Try.func64, Try.ntmps64
    go_wp2
    go_ret
    exact ⟨by simp [h1, h2], rfl⟩
theorem l00In_any (n lo hi : Int) (w : World) :
    Calls Try.prog 58 #[.int .i64 n, .int .i64 lo, .int .i64 hi] w fun e w' => e = .returned (.bool (inB n lo hi)) ∧ w = w' := by
  unfold inB
  by_cases h1 : lo ≤ n <;> by_cases h2 : n ≤ hi <;>
  · go_enter Try.func58, Try.ntmps58
    go_wp2
    go_ret
    exact ⟨by simp [h1, h2], rfl⟩
theorem isSide_any (n : Int) (w : World) :
    Calls Try.prog 44 #[.int .i64 n] w fun e w' => e = .returned (.bool (inB n 0 3)) ∧ w = w' := by
  go_enter Try.func44, Try.ntmps44
  go_wp2_with (go_at_call 64; refine (in_any _ _ _ _).mono ?_; rintro e w' ⟨rfl, rfl⟩)
  go_ret
  exact ⟨rfl, rfl⟩
theorem l01Side_any (n : Int) (w : World) :
    Calls Try.prog 41 #[.int .i64 n] w fun e w' => e = .returned (.bool (inB n 0 3)) ∧ w = w' := by
  go_enter Try.func41, Try.ntmps41
  go_wp2_with (go_at_call 58; refine (l00In_any _ _ _ _).mono ?_; rintro e w' ⟨rfl, rfl⟩)
  go_ret
  exact ⟨rfl, rfl⟩
theorem l01In_any (c : Ce) (hc : c.ok) (wd hg : Int) (w : World) (h1 : -1000 ≤ wd) (h2 : wd ≤ 1000) (h3 : -1000 ≤ hg) (h4 : hg ≤ 1000) :
    Calls Try.prog 31 #[c.val, .int .i64 wd, .int .i64 hg] w fun e w' => e = .returned (.bool (cIn wd hg c)) ∧ Below w.heap.size w w' := by
  obtain ⟨⟨x1, x2⟩, ⟨y1, y2⟩⟩ := hc
  go_enter Try.func31, Try.ntmps31
  go_wp2_with (go_at_call 58; refine (l00In_any _ _ _ _).mono ?_; rintro e w' ⟨rfl, rfl⟩)
  all_goals
    go_ret
    exact ⟨by simp_all [cIn], (by repeat (first | with_reducible exact Below.refl _ _ | with_reducible assumption | with_reducible apply bl_drewN | with_reducible apply bl_drew | with_reducible apply bl_alloc | (with_reducible refine bl_set ?_ (by first | (simp; done) | (simp; omega)) _) | with_reducible refine bl_trans ?_ (by with_reducible assumption)))⟩
theorem placed_any (c : Ce) (hc : c.ok) (w : World) :
    Calls Try.prog 71 #[c.val] w fun e w' => e = .returned (.bool (inB c.x 0 23 && inB c.y 0 23)) ∧ Below w.heap.size w w' := by
  obtain ⟨⟨x1, x2⟩, ⟨y1, y2⟩⟩ := hc
  go_enter Try.func71, Try.ntmps71
  go_wp2_with (go_at_call 64; refine (in_any _ _ _ _).mono ?_; rintro e w' ⟨rfl, rfl⟩)
  all_goals
    go_ret
    exact ⟨by simp_all, (by repeat (first | with_reducible exact Below.refl _ _ | with_reducible assumption | with_reducible apply bl_drewN | with_reducible apply bl_drew | with_reducible apply bl_alloc | (with_reducible refine bl_set ?_ (by first | (simp; done) | (simp; omega)) _) | with_reducible refine bl_trans ?_ (by with_reducible assumption)))⟩
theorem l01Piece_any (p : Pc) (hp : p.ok) (w : World) (b off : Nat) (h : PcAt w b off p) :
    Calls Try.prog 59 #[.pointer (some ⟨b, off, none⟩)] w fun e w' => e = .returned (.bool (vPc p)) ∧ Below w.heap.size w w' := by
  obtain ⟨⟨⟨x1, x2⟩, ⟨y1, y2⟩⟩, ⟨k1, k2⟩, ⟨t1, t2⟩, ⟨d1, d2⟩⟩ := hp
  unfold PcAt at h
  go_enter Try.func59, Try.ntmps59
  go_wp2_with (first | (go_at_call 58; refine (l00In_any _ _ _ _).mono ?_; rintro e w' ⟨rfl, rfl⟩) | (go_at_call 31; refine (l01In_any ⟨p.x, p.y⟩ ⟨⟨x1, x2⟩, ⟨y1, y2⟩⟩ _ _ _ (by omega) (by omega) (by omega) (by omega)).mono ?_; rintro e w' ⟨rfl, hb⟩))
  all_goals
    go_ret
    exact ⟨by simp_all [vPc, cIn], (by repeat (first | with_reducible exact Below.refl _ _ | with_reducible assumption | with_reducible apply bl_drewN | with_reducible apply bl_drew | with_reducible apply bl_alloc | (with_reducible refine bl_set ?_ (by first | (simp; done) | (simp; omega)) _) | with_reducible refine bl_trans ?_ (by with_reducible assumption)))⟩
theorem validPiece_any (p : Pc) (hp : p.ok) (w : World) :
    Calls Try.prog 65 #[p.val] w fun e w' => e = .returned (.bool (vPc p)) ∧ Below w.heap.size w w' := by
  obtain ⟨⟨⟨x1, x2⟩, ⟨y1, y2⟩⟩, ⟨k1, k2⟩, ⟨t1, t2⟩, ⟨d1, d2⟩⟩ := hp
  go_enter Try.func65, Try.ntmps65
  go_wp2_with (first | (go_at_call 64; refine (in_any _ _ _ _).mono ?_; rintro e w' ⟨rfl, rfl⟩) | (go_at_call 71; refine (placed_any ⟨p.x, p.y⟩ ⟨⟨x1, x2⟩, ⟨y1, y2⟩⟩ _).mono ?_; rintro e w' ⟨rfl, hb⟩))
  all_goals
    go_ret
    exact ⟨by simp_all [vPc], (by repeat (first | with_reducible exact Below.refl _ _ | with_reducible assumption | with_reducible apply bl_drewN | with_reducible apply bl_drew | with_reducible apply bl_alloc | (with_reducible refine bl_set ?_ (by first | (simp; done) | (simp; omega)) _) | with_reducible refine bl_trans ?_ (by with_reducible assumption)))⟩
theorem toCell_any (c : Ce) (w : World) :
    Calls Try.prog 9 #[c.val] w fun e w' => e = .returned c.val ∧ Below w.heap.size w w' := by
  go_enter Try.func9, Try.ntmps9
  go_wp2
  refine wp_loop_rounds 3 ?_
  rw [rounds_succ]; go_wp2
  rw [rounds_succ]; go_wp2
  rw [rounds_succ]; go_wp2
  exact bodyPost_ret (v := c.val) (by simp [results, Try.results9, go_sem]) rfl ⟨rfl, (by repeat (first | with_reducible exact Below.refl _ _ | with_reducible assumption | with_reducible apply bl_drewN | with_reducible apply bl_drew | with_reducible apply bl_alloc | (with_reducible refine bl_set ?_ (by first | (simp; done) | (simp; omega)) _) | with_reducible refine bl_trans ?_ (by with_reducible assumption)))⟩
theorem toPiece_any (p : Pc) (w : World) :
    Calls Try.prog 63 #[p.val] w fun e w' => e = .returned p.val ∧ Below w.heap.size w w' := by
  go_enter Try.func63, Try.ntmps63
  go_wp2_with (go_at_call 9; refine (toCell_any ⟨p.x, p.y⟩ _).mono ?_; rintro e w' ⟨rfl, hb⟩; obtain ⟨hc, hf⟩ := bcell hb)
  have hz := hb.size; simp at hz
  refine bodyPost_ret (v := p.val) (by simp [results, Try.results63, go_sem, hc]) rfl ⟨rfl, ?_⟩
  exact (by repeat (first | with_reducible exact Below.refl _ _ | with_reducible assumption | with_reducible apply bl_drewN | with_reducible apply bl_drew | with_reducible apply bl_alloc | (with_reducible refine bl_set ?_ (by first | (simp; done) | (simp; omega)) _) | with_reducible refine bl_trans ?_ (by with_reducible assumption)))
theorem eqCell_any (p q : Ce) (w : World) :
    Calls Try.prog 48 #[p.val, q.val] w fun e w' => e = .returned (.bool (decide (p = q))) ∧ Below w.heap.size w w' := by
  obtain ⟨x, y⟩ := p
  obtain ⟨x', y'⟩ := q
  go_enter Try.func48, Try.ntmps48
  go_wp2
  refine wp_loop_rounds 3 ?_
  rw [rounds_succ]; go_wp2
  go_quiet (fail)
  go_wp2
  · go_ret
    exact ⟨by simp_all, (by repeat (first | with_reducible exact Below.refl _ _ | with_reducible assumption | with_reducible apply bl_drewN | with_reducible apply bl_drew | with_reducible apply bl_alloc | (with_reducible refine bl_set ?_ (by first | (simp; done) | (simp; omega)) _) | with_reducible refine bl_trans ?_ (by with_reducible assumption)))⟩
  rw [rounds_succ]; go_wp2
  go_quiet (fail)
  go_wp2
  · go_ret
    exact ⟨by simp_all, (by repeat (first | with_reducible exact Below.refl _ _ | with_reducible assumption | with_reducible apply bl_drewN | with_reducible apply bl_drew | with_reducible apply bl_alloc | (with_reducible refine bl_set ?_ (by first | (simp; done) | (simp; omega)) _) | with_reducible refine bl_trans ?_ (by with_reducible assumption)))⟩
  rw [rounds_succ]; go_wp2
  go_ret
  exact ⟨by simp_all, (by repeat (first | with_reducible exact Below.refl _ _ | with_reducible assumption | with_reducible apply bl_drewN | with_reducible apply bl_drew | with_reducible apply bl_alloc | (with_reducible refine bl_set ?_ (by first | (simp; done) | (simp; omega)) _) | with_reducible refine bl_trans ?_ (by with_reducible assumption)))⟩
theorem eqPiece_any (p q : Pc) (w : World) :
    Calls Try.prog 47 #[p.val, q.val] w fun e w' => e = .returned (.bool (decide (p = q))) ∧ Below w.heap.size w w' := by
  obtain ⟨x, y, k, t, d⟩ := p
  obtain ⟨x', y', k', t', d'⟩ := q
  go_enter Try.func47, Try.ntmps47
  go_wp2_with (go_at_call 48; refine (eqCell_any ⟨x, y⟩ ⟨x', y'⟩ _).mono ?_; rintro e w' ⟨rfl, hb⟩; obtain ⟨hc, hf⟩ := bcell hb)
  all_goals
    go_ret
    exact ⟨by go_light; (try simp_all) <;> grind, (by repeat (first | with_reducible exact Below.refl _ _ | with_reducible assumption | with_reducible apply bl_drewN | with_reducible apply bl_drew | with_reducible apply bl_alloc | (with_reducible refine bl_set ?_ (by first | (simp; done) | (simp; omega)) _) | with_reducible refine bl_trans ?_ (by with_reducible assumption)))⟩
theorem szPieceS_any (a : Option Addr) (n cap : Nat) (left : Int) (w : World) (hn : n ≤ 9223372036854775807) (h1 : -1 ≤ left) (h2 : left ≤ 1048576) :
    Calls Try.prog 29 #[.slice a n cap, .int .i64 left] w fun e w' => e = .returned (.int .i64 (szv n left)) ∧ w = w' := by
  unfold szv
  by_cases h : left - n < 0
  all_goals
    go_enter Try.func29, Try.ntmps29
    go_wp2
    go_ret
    exact ⟨ret_int (by simp [h]), rfl⟩
end Go.Proofs.Ytoldmgpdcenmhaa
