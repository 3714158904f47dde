/- Contracts of the small functions: numbers, cells, pieces; what the statements' own file makes, compares and marks. -/
import Derived.Test.YtdifikijckebkaaProg
import Derived.WalkKit
import Derived.WalkSpells
import Derived.WalkLawsBesides
import Derived.StillTailTactics
import Derived.Test.YtdifikijckebkaaBase
namespace Go.Proofs.Ytdifikijckebkaa
open Go.RowKit
set_option linter.unusedVariables false
set_option linter.unusedSimpArgs false
set_option maxHeartbeats 400000

def vPc (p : Pc) : Bool := inB p.k 0 5 && inB p.t 0 3 && inB p.d 1 9 && (inB p.x 0 23 && inB p.y 0 23)
def cIn (wd hg : Int) (c : Ce) : Bool := inB c.x 0 (wd - 1) && inB c.y 0 (hg - 1)

theorem in_any (n lo hi : Int) (w : World) :
    Calls Try.prog 46 #[.int .i64 n, .int .i64 lo, .int .i64 hi] w fun e w' => e = .returned (.bool (inB n lo hi)) ∧ w = w' := by
  unfold inB
  by_cases h1 : lo ≤ n <;> by_cases h2 : n ≤ hi <;>
  · go_enter Try.func46, Try.ntmps46
    go_wp2
    go_ret
    exact ⟨by simp [h1, h2], rfl⟩
theorem l00In_any (n lo hi : Int) (w : World) :
    Calls Try.prog 43 #[.int .i64 n, .int .i64 lo, .int .i64 hi] w fun e w' => e = .returned (.bool (inB n lo hi)) ∧ w = w' := by
  unfold inB
  by_cases h1 : lo ≤ n <;> by_cases h2 : n ≤ hi <;>
  · go_enter Try.func43, Try.ntmps43
    go_wp2
    go_ret
    exact ⟨by simp [h1, h2], rfl⟩
theorem isSide_any (n : Int) (w : World) :
    Calls Try.prog 42 #[.int .i64 n] w fun e w' => e = .returned (.bool (inB n 0 3)) ∧ w = w' := by
  go_enter Try.func42, Try.ntmps42
  go_wp2_with (go_at_call 46; refine (in_any _ _ _ _).mono ?_; rintro e w' ⟨rfl, rfl⟩)
  go_ret
  exact ⟨rfl, rfl⟩
theorem l01Side_any (n : Int) (w : World) :
    Calls Try.prog 56 #[.int .i64 n] w fun e w' => e = .returned (.bool (inB n 0 3)) ∧ w = w' := by
  go_enter Try.func56, Try.ntmps56
  go_wp2_with (go_at_call 43; refine (l00In_any _ _ _ _).mono ?_; rintro e w' ⟨rfl, rfl⟩)
  go_ret
  exact ⟨rfl, rfl⟩
theorem l00Min_any (a b : Int) (w : World) :
    Calls Try.prog 60 #[.int .i64 a, .int .i64 b] w fun e w' => e = .returned (.int .i64 (min a b)) ∧ w = w' := by
  by_cases h : a < b <;>
  · go_enter Try.func60, Try.ntmps60
    go_wp2
    go_ret
    exact ⟨ret_int (by omega), rfl⟩
theorem l01In_any (c : Ce) (hc : c.ok) (wd hg : Int) (w : World) (h1 : -1000 ≤ wd) (h2 : wd ≤ 1000) (h3 : -1000 ≤ hg) (h4 : hg ≤ 1000) :
    Calls Try.prog 54 #[c.val, .int .i64 wd, .int .i64 hg] w fun e w' => e = .returned (.bool (cIn wd hg c)) ∧ Below w.heap.size w w' := by
  obtain ⟨⟨x1, x2⟩, ⟨y1, y2⟩⟩ := hc
  go_enter Try.func54, Try.ntmps54
  go_wp2_with (go_at_call 43; refine (l00In_any _ _ _ _).mono ?_; rintro e w' ⟨rfl, rfl⟩)
  all_goals
    go_ret
    exact ⟨by simp_all [cIn], (by repeat (first | with_reducible exact Below.refl _ _ | with_reducible assumption | with_reducible apply bl_drewN | with_reducible apply bl_drew | with_reducible apply bl_alloc | (with_reducible refine bl_set ?_ (by first | (simp; done) | (simp; omega)) _) | with_reducible refine bl_trans ?_ (by with_reducible assumption)))⟩
theorem placed_any (c : Ce) (hc : c.ok) (w : World) :
    Calls Try.prog 64 #[c.val] w fun e w' => e = .returned (.bool (inB c.x 0 23 && inB c.y 0 23)) ∧ Below w.heap.size w w' := by
  obtain ⟨⟨x1, x2⟩, ⟨y1, y2⟩⟩ := hc
  go_enter Try.func64, Try.ntmps64
  go_wp2_with (go_at_call 46; refine (in_any _ _ _ _).mono ?_; rintro e w' ⟨rfl, rfl⟩)
  all_goals
    go_ret
    exact ⟨by simp_all, (by repeat (first | with_reducible exact Below.refl _ _ | with_reducible assumption | with_reducible apply bl_drewN | with_reducible apply bl_drew | with_reducible apply bl_alloc | (with_reducible refine bl_set ?_ (by first | (simp; done) | (simp; omega)) _) | with_reducible refine bl_trans ?_ (by with_reducible assumption)))⟩
theorem l01Piece_any (p : Pc) (hp : p.ok) (w : World) (b off : Nat) (h : PcAt w b off p) :
    Calls Try.prog 53 #[.pointer (some ⟨b, off, none⟩)] w fun e w' => e = .returned (.bool (vPc p)) ∧ Below w.heap.size w w' := by
  obtain ⟨⟨⟨x1, x2⟩, ⟨y1, y2⟩⟩, ⟨k1, k2⟩, ⟨t1, t2⟩, ⟨d1, d2⟩⟩ := hp
  unfold PcAt at h
  go_enter Try.func53, Try.ntmps53
  go_wp2_with (first | (go_at_call 43; refine (l00In_any _ _ _ _).mono ?_; rintro e w' ⟨rfl, rfl⟩) | (go_at_call 54; refine (l01In_any ⟨p.x, p.y⟩ ⟨⟨x1, x2⟩, ⟨y1, y2⟩⟩ _ _ _ (by omega) (by omega) (by omega) (by omega)).mono ?_; rintro e w' ⟨rfl, hb⟩))
  all_goals
    go_ret
    exact ⟨by simp_all [vPc, cIn], (by repeat (first | with_reducible exact Below.refl _ _ | with_reducible assumption | with_reducible apply bl_drewN | with_reducible apply bl_drew | with_reducible apply bl_alloc | (with_reducible refine bl_set ?_ (by first | (simp; done) | (simp; omega)) _) | with_reducible refine bl_trans ?_ (by with_reducible assumption)))⟩
theorem validPiece_any (p : Pc) (hp : p.ok) (w : World) :
    Calls Try.prog 57 #[p.val] w fun e w' => e = .returned (.bool (vPc p)) ∧ Below w.heap.size w w' := by
  obtain ⟨⟨⟨x1, x2⟩, ⟨y1, y2⟩⟩, ⟨k1, k2⟩, ⟨t1, t2⟩, ⟨d1, d2⟩⟩ := hp
  go_enter Try.func57, Try.ntmps57
  go_wp2_with (first | (go_at_call 46; refine (in_any _ _ _ _).mono ?_; rintro e w' ⟨rfl, rfl⟩) | (go_at_call 64; refine (placed_any ⟨p.x, p.y⟩ ⟨⟨x1, x2⟩, ⟨y1, y2⟩⟩ _).mono ?_; rintro e w' ⟨rfl, hb⟩))
  all_goals
    go_ret
    exact ⟨by simp_all [vPc], (by repeat (first | with_reducible exact Below.refl _ _ | with_reducible assumption | with_reducible apply bl_drewN | with_reducible apply bl_drew | with_reducible apply bl_alloc | (with_reducible refine bl_set ?_ (by first | (simp; done) | (simp; omega)) _) | with_reducible refine bl_trans ?_ (by with_reducible assumption)))⟩
theorem toCell_any (c : Ce) (w : World) :
    Calls Try.prog 39 #[c.val] w fun e w' => e = .returned c.val ∧ Below w.heap.size w w' := by
  go_enter Try.func39, Try.ntmps39
  go_wp2
  refine wp_loop_rounds 3 ?_
  rw [rounds_succ]; go_wp2
  rw [rounds_succ]; go_wp2
  rw [rounds_succ]; go_wp2
  exact bodyPost_ret (v := c.val) (by simp [results, Try.results39, go_sem]) rfl ⟨rfl, (by repeat (first | with_reducible exact Below.refl _ _ | with_reducible assumption | with_reducible apply bl_drewN | with_reducible apply bl_drew | with_reducible apply bl_alloc | (with_reducible refine bl_set ?_ (by first | (simp; done) | (simp; omega)) _) | with_reducible refine bl_trans ?_ (by with_reducible assumption)))⟩
theorem toPiece_any (p : Pc) (w : World) :
    Calls Try.prog 32 #[p.val] w fun e w' => e = .returned p.val ∧ Below w.heap.size w w' := by
  go_enter Try.func32, Try.ntmps32
  go_wp2_with (go_at_call 39; refine (toCell_any ⟨p.x, p.y⟩ _).mono ?_; rintro e w' ⟨rfl, hb⟩; obtain ⟨hc, hf⟩ := bcell hb)
  have hz := hb.size; simp at hz
  refine bodyPost_ret (v := p.val) (by simp [results, Try.results32, go_sem, hc]) rfl ⟨rfl, ?_⟩
  exact (by repeat (first | with_reducible exact Below.refl _ _ | with_reducible assumption | with_reducible apply bl_drewN | with_reducible apply bl_drew | with_reducible apply bl_alloc | (with_reducible refine bl_set ?_ (by first | (simp; done) | (simp; omega)) _) | with_reducible refine bl_trans ?_ (by with_reducible assumption)))
theorem eqCell_any (p q : Ce) (w : World) :
    Calls Try.prog 52 #[p.val, q.val] w fun e w' => e = .returned (.bool (decide (p = q))) ∧ Below w.heap.size w w' := by
  obtain ⟨x, y⟩ := p
  obtain ⟨x', y'⟩ := q
  go_enter Try.func52, Try.ntmps52
  go_wp2
  refine wp_loop_rounds 3 ?_
  rw [rounds_succ]; go_wp2
  go_quiet (fail)
  go_wp2
  · go_ret
    exact ⟨by simp_all, (by repeat (first | with_reducible exact Below.refl _ _ | with_reducible assumption | with_reducible apply bl_drewN | with_reducible apply bl_drew | with_reducible apply bl_alloc | (with_reducible refine bl_set ?_ (by first | (simp; done) | (simp; omega)) _) | with_reducible refine bl_trans ?_ (by with_reducible assumption)))⟩
  rw [rounds_succ]; go_wp2
  go_quiet (fail)
  go_wp2
  · go_ret
    exact ⟨by simp_all, (by repeat (first | with_reducible exact Below.refl _ _ | with_reducible assumption | with_reducible apply bl_drewN | with_reducible apply bl_drew | with_reducible apply bl_alloc | (with_reducible refine bl_set ?_ (by first | (simp; done) | (simp; omega)) _) | with_reducible refine bl_trans ?_ (by with_reducible assumption)))⟩
  rw [rounds_succ]; go_wp2
  go_ret
  exact ⟨by simp_all, (by repeat (first | with_reducible exact Below.refl _ _ | with_reducible assumption | with_reducible apply bl_drewN | with_reducible apply bl_drew | with_reducible apply bl_alloc | (with_reducible refine bl_set ?_ (by first | (simp; done) | (simp; omega)) _) | with_reducible refine bl_trans ?_ (by with_reducible assumption)))⟩
theorem eqPiece_any (p q : Pc) (w : World) :
    Calls Try.prog 35 #[p.val, q.val] w fun e w' => e = .returned (.bool (decide (p = q))) ∧ Below w.heap.size w w' := by
  obtain ⟨x, y, k, t, d⟩ := p
  obtain ⟨x', y', k', t', d'⟩ := q
  go_enter Try.func35, Try.ntmps35
  go_wp2_with (go_at_call 52; refine (eqCell_any ⟨x, y⟩ ⟨x', y'⟩ _).mono ?_; rintro e w' ⟨rfl, hb⟩; obtain ⟨hc, hf⟩ := bcell hb)
  all_goals
    go_ret
    exact ⟨by go_light; (try simp_all) <;> grind, (by repeat (first | with_reducible exact Below.refl _ _ | with_reducible assumption | with_reducible apply bl_drewN | with_reducible apply bl_drew | with_reducible apply bl_alloc | (with_reducible refine bl_set ?_ (by first | (simp; done) | (simp; omega)) _) | with_reducible refine bl_trans ?_ (by with_reducible assumption)))⟩
def szv (n : Nat) (left : Int) : Int := if left - n < 0 then -1 else left - n
theorem szPieceS_any (a : Option Addr) (n cap : Nat) (left : Int) (w : World) (hn : n ≤ 9223372036854775807) (h1 : -1 ≤ left) (h2 : left ≤ 1048576) :
    Calls Try.prog 8 #[.slice a n cap, .int .i64 left] w fun e w' => e = .returned (.int .i64 (szv n left)) ∧ w = w' := by
  unfold szv
  by_cases h : left - n < 0
  all_goals
    go_enter Try.func8, Try.ntmps8
    go_wp2
    go_ret
    exact ⟨ret_int (by simp [h]), rfl⟩
end Go.Proofs.Ytdifikijckebkaa
