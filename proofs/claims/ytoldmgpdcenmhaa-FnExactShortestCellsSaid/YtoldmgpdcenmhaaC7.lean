/- Contracts: which boards are valid; what stands in a cell. -/
import Derived.Test.YtoldmgpdcenmhaaC6
import Derived.Test.YtoldmgpdcenmhaaMaps
namespace Go.Proofs.Ytoldmgpdcenmhaa
open Go.RowKit
set_option linter.unusedVariables false
set_option linter.unusedSimpArgs false
set_option maxHeartbeats 400000
set_option maxRecDepth 100000

/-- A board's head in memory. -/
def BdAt (w : World) (b : Nat) (wd hg : Int) (s : Value) : Prop :=
  w.cell? ⟨b, 0, none⟩ = some (.int .i8 wd) ∧ w.cell? ⟨b, 1, none⟩ = some (.int .i8 hg) ∧ w.cell? ⟨b, 2, none⟩ = some s
/-- A pointer's block that holds a board. -/
def BP (w : World) (b : Nat) (l : Bd) : Prop := b < w.heap.size ∧ ∃ s, BdAt w b l.wd l.hg s ∧ PV w s l.ps
theorem BP.step {w w' : World} {b : Nat} {l : Bd} (h : BP w b l) (hb : Below w.heap.size w w') : BP w' b l := by
  obtain ⟨h1, s, h2, h3⟩ := h
  refine ⟨Nat.lt_of_lt_of_le h1 hb.size, s, ?_, h3.step hb⟩
  unfold BdAt at *
  simp only [hb.cell (p := ⟨b, _, none⟩) h1]
  exact h2
theorem BP.new {w : World} {l : Bd} {s : Value} (h : PV w s l.ps) (T : TypeId) : BP (w.alloc (.cells #[.int .i8 l.wd, .int .i8 l.hg, s] T)) w.heap.size l := by
  refine ⟨by simp, s, ?_, h.step (bl_alloc (Below.refl _ _))⟩
  have hh := heap_alloc_new w (.cells #[.int .i8 l.wd, .int .i8 l.hg, s] T)
  refine ⟨?_, ?_, ?_⟩ <;> (rw [cell_of_row _ _ _ _ _ _ hh]; rfl)

theorem ceTy : ∃ h : CeTy Try.prog 35, h.e = 22 := ⟨{ e := 22, hk := Try.underlying35, he := Try.underlying22, hs := by kernel_rfl, hp := by kernel_rfl }, rfl⟩

theorem run_eql_ce (x y x' y' : Int) (w : World) : (binOp .eql 35 (.agg #[.int .i8 x, .int .i8 y]) (.agg #[.int .i8 x', .int .i8 y'])).run Try.prog w = .ok (.bool (decide ((⟨x, y⟩ : Ce) = ⟨x', y'⟩))) w := by
  obtain ⟨h, -⟩ := ceTy
  have := equal_ce h ⟨x, y⟩ ⟨x', y'⟩ w
  simp only [binOp]
  simp [this]
theorem run_neq_ce (x y x' y' : Int) (w : World) : (binOp .neq 35 (.agg #[.int .i8 x, .int .i8 y]) (.agg #[.int .i8 x', .int .i8 y'])).run Try.prog w = .ok (.bool (!decide ((⟨x, y⟩ : Ce) = ⟨x', y'⟩))) w := by
  obtain ⟨h, -⟩ := ceTy
  have := equal_ce h ⟨x, y⟩ ⟨x', y'⟩ w
  simp only [binOp]
  simp [this]

/-- The place of the first piece in a cell; -1 where there is none. -/
def fnd (c : Ce) (ps : List Pc) : Int := (ps.findIdx? (fun p => decide (p.at_ = c))).elim (-1) (fun n => (n : Int))

theorem l01Find_any (b : Nat) (l : Bd) (c : Ce) (w : World) (h : BP w b l) (hn : l.ps.length ≤ 10000000) :
    Calls Try.prog 32 #[.pointer (some ⟨b, 0, none⟩), c.val] w fun e w' => e = .returned (.int .i64 (fnd c l.ps)) ∧ Below w.heap.size w w' := by
  obtain ⟨hbl, s, hbd, a, cap, rfl, hps⟩ := h
  obtain ⟨wd, hg, ps⟩ := l
  obtain ⟨cx, cy⟩ := c
  unfold BdAt at hbd
  simp only at hbd hps hn ⊢
  have heq := run_eql_ce
  go_enter Try.func32, Try.ntmps32
  go_wp2
  go_loopw [5] (fun i wr => ∃ k : Nat, k ≤ ps.length ∧ i = .int .i64 k ∧ (ps.take k).findIdx? (fun p => decide (p.at_ = ⟨cx, cy⟩)) = none ∧ Below (w.heap.size + 1) (w.alloc (.cells #[.int .i8 cx, .int .i8 cy] 35)) wr) (fun i _ => ps.length - (intOf i).toNat)
  case atStart => exact ⟨0, by omega, rfl, by simp, Below.refl _ _⟩
  case round =>
    obtain ⟨k, hk, rfl, hfi, hb⟩ := hrel
    have hb2 : Below (w.alloc (.cells #[.int .i8 cx, .int .i8 cy] 35)).heap.size (w.alloc (.cells #[.int .i8 cx, .int .i8 cy] 35)) wr := by simpa using hb
    have Hfi := Lib.hid hfi; clear hfi
    obtain ⟨hc, hf⟩ := bcell hb2
    simp at hc hf
    have hwz : w.heap.size + 1 ≤ wr.heap.size := by simpa using hb2.size
    clear hb2
    have hbw : Below w.heap.size w wr := bl_trans (bl_alloc (Below.refl _ _)) (by simpa using hb)
    by_cases hlt : k < ps.length
    · obtain ⟨b', off, rfl, hbl', hat⟩ := pcs_get hps hlt
      unfold PcAt at hat
      have l1 : b < wr.heap.size := by omega
      have l2 : b' < wr.heap.size := by omega
      have l3 : w.heap.size < wr.heap.size := by omega
      go_wp2
      (refine wp_region_ext (by kernel_rfl) (by kernel_rfl) ?_; have hX := @ext_cell; (repeat (go_big_quiet_step (fail))); refine wpQuiet_nil ?_; clear hX; intro _ hw'; obtain ⟨⟨wx, hbx⟩, rfl⟩ := hw'; obtain ⟨hcx, hfx⟩ := bcell hbx)
      go_wp2
      · have h1 : ps[k].x = cx ∧ ps[k].y = cy := by assumption
        go_ret
        have h2 : ps.findIdx? (fun p => decide (p.at_ = ⟨cx, cy⟩)) = some k := by
          rw [List.findIdx?_eq_some_iff_getElem]
          refine ⟨hlt, by simp [Pc.at_, h1], fun j hj => ?_⟩
          have h3 := Hfi.out
          rw [List.findIdx?_eq_none_iff] at h3
          have := h3 ps[j] (by rw [List.mem_take_iff_getElem]; exact ⟨j, by omega, rfl⟩)
          simpa using this
        exact ⟨by unfold fnd; rw [h2]; rfl, (by repeat (first | with_reducible exact Below.refl _ _ | with_reducible assumption | with_reducible apply bl_drewN | with_reducible apply bl_drew | with_reducible apply bl_alloc | (with_reducible refine bl_set ?_ (by first | (simp; done) | (simp; omega)) _) | with_reducible refine bl_trans ?_ (by with_reducible assumption)))⟩
      · have h1 : ¬ ps[k].x = cx ∨ ¬ ps[k].y = cy := by assumption
        go_roundw
        case rel => exact ⟨k + 1, by omega, by go_num, by have := Hfi.out; rw [List.take_succ_eq_append_getElem hlt, List.findIdx?_append, this]; simp [Pc.at_]; omega, hb.trans (hbx.mono (by omega))⟩
        case measure => simp [intOf]; omega
    · go_wp2
      go_ret
      have h2 := Hfi.out
      rw [List.take_of_length_le (by omega)] at h2
      exact ⟨by unfold fnd; rw [h2]; rfl, (by repeat (first | with_reducible exact Below.refl _ _ | with_reducible assumption | with_reducible apply bl_drewN | with_reducible apply bl_drew | with_reducible apply bl_alloc | (with_reducible refine bl_set ?_ (by first | (simp; done) | (simp; omega)) _) | with_reducible refine bl_trans ?_ (by with_reducible assumption)))⟩
theorem eg_at1 (args : Array Value) (w : World) : (callFunc 67 args).run Try.prog w = .ok (.enter 67 args) w := by kernel_rfl
theorem at1_any (p : Pc) (c : Ce) (b : Nat) (w : World) (hb : b < w.heap.size) (h : CeAt w b 0 c) :
    Calls Try.prog 67 #[p.val, .pointer (some ⟨b, 0, none⟩)] w fun e w' => e = .returned (.bool (decide (p.at_ = c))) ∧ Below w.heap.size w w' := by
  obtain ⟨cx, cy⟩ := c
  unfold CeAt at h
  simp only at h
  have heq := run_eql_ce
  go_enter Try.func67, Try.ntmps67
  go_wp2
  go_ret
  exact ⟨ret_bool (by simp [Pc.at_]), (by repeat (first | with_reducible exact Below.refl _ _ | with_reducible assumption | with_reducible apply bl_drewN | with_reducible apply bl_drew | with_reducible apply bl_alloc | (with_reducible refine bl_set ?_ (by first | (simp; done) | (simp; omega)) _) | with_reducible refine bl_trans ?_ (by with_reducible assumption)))⟩
theorem at_any (b : Nat) (l : Bd) (c : Ce) (w : World) (h : BP w b l) (hok : l.ok) (hn : l.ps.length ≤ 10000000) :
    Calls Try.prog 37 #[.pointer (some ⟨b, 0, none⟩), c.val] w fun e w' => e = .returned (.int .i64 (fnd c l.ps)) ∧ Below w.heap.size w w' := by
  obtain ⟨hbl, s, hbd, a, cap, rfl, hps⟩ := h
  obtain ⟨wd, hg, ps⟩ := l
  unfold BdAt at hbd
  simp only at hbd hps hn ⊢
  have hok3 : PcsOk ps := hok.2.2
  have hbox : ∀ w1, Below (w.alloc (.cells #[.int .i8 c.x, .int .i8 c.y] 35)).heap.size (w.alloc (.cells #[.int .i8 c.x, .int .i8 c.y] 35)) w1 → w.heap.size < w1.heap.size ∧ CeAt w1 w.heap.size 0 c := by
    intro w1 hb
    refine ⟨by have := hb.size; simp at this; omega, ?_⟩
    have hh := heap_alloc_new w (.cells #[.int .i8 c.x, .int .i8 c.y] 35)
    unfold CeAt
    simp only [hb.cell (p := ⟨w.heap.size, _, none⟩) (by simp)]
    refine ⟨?_, ?_⟩ <;> (rw [cell_of_row _ _ _ _ _ _ hh]; rfl)
  have C := indexFuncPc_any 67 #[.pointer (some ⟨w.heap.size, 0, none⟩)] a cap ps (w.alloc (.cells #[.int .i8 c.x, .int .i8 c.y] 35)) (hps.below (bl_alloc (Below.refl _ _)) (Nat.le_refl _)) hok3 (by simp) hn eg_at1 (fun p => decide (p.at_ = c)) (fun p w1 hp hb => at1_any p c w.heap.size w1 (hbox w1 hb).1 (hbox w1 hb).2)
  have HC := Lib.hid C; clear C hbox
  go_enter Try.func37, Try.ntmps37
  go_wp2_with (go_at_call 66; refine HC.out.mono ?_; rintro e w' ⟨rfl, hb⟩)
  go_ret
  exact ⟨rfl, (by repeat (first | with_reducible exact Below.refl _ _ | with_reducible assumption | with_reducible apply bl_drewN | with_reducible apply bl_drew | with_reducible apply bl_alloc | (with_reducible refine bl_set ?_ (by first | (simp; done) | (simp; omega)) _) | with_reducible refine bl_trans ?_ (by with_reducible assumption)))⟩
theorem has_any (b : Nat) (l : Bd) (c : Ce) (w : World) (h : BP w b l) :
    Calls Try.prog 36 #[.pointer (some ⟨b, 0, none⟩), c.val] w fun e w' => e = .returned (.bool (cIn l.wd l.hg c)) ∧ Below w.heap.size w w' := by
  obtain ⟨hbl, s, hw, -⟩ := h
  obtain ⟨wd, hg, ps⟩ := l
  obtain ⟨x, y⟩ := c
  unfold BdAt at hw
  simp only at hw ⊢
  unfold cIn
  rcases dec_cases (0 ≤ x) with ⟨g1, h1⟩ | ⟨g1, h1⟩
  · rcases dec_cases (x < wd) with ⟨g2, h2⟩ | ⟨g2, h2⟩
    · rcases dec_cases (0 ≤ y) with ⟨g3, h3⟩ | ⟨g3, h3⟩
      · go_enter Try.func36, Try.ntmps36
        go_wp2
        (refine wp_region_ext (by kernel_rfl) (by kernel_rfl) ?_; have hX := @ext_cell; (repeat (go_big_quiet_step (fail))); refine wpQuiet_nil ?_; clear hX; intro _ hw'; obtain ⟨⟨wx, hbx⟩, rfl⟩ := hw'; obtain ⟨hcx, hfx⟩ := bcell hbx)
        go_wp2
        go_ret
        exact ⟨ret_bool (by simp [inB]; omega), (by repeat (first | with_reducible exact Below.refl _ _ | with_reducible assumption | with_reducible apply bl_drewN | with_reducible apply bl_drew | with_reducible apply bl_alloc | (with_reducible refine bl_set ?_ (by first | (simp; done) | (simp; omega)) _) | with_reducible refine bl_trans ?_ (by with_reducible assumption)))⟩
      · go_enter Try.func36, Try.ntmps36
        go_wp2
        (refine wp_region_ext (by kernel_rfl) (by kernel_rfl) ?_; have hX := @ext_cell; (repeat (go_big_quiet_step (fail))); refine wpQuiet_nil ?_; clear hX; intro _ hw'; obtain ⟨⟨wx, hbx⟩, rfl⟩ := hw'; obtain ⟨hcx, hfx⟩ := bcell hbx)
        go_wp2
        go_ret
        exact ⟨ret_bool (by simp [inB]; omega), (by repeat (first | with_reducible exact Below.refl _ _ | with_reducible assumption | with_reducible apply bl_drewN | with_reducible apply bl_drew | with_reducible apply bl_alloc | (with_reducible refine bl_set ?_ (by first | (simp; done) | (simp; omega)) _) | with_reducible refine bl_trans ?_ (by with_reducible assumption)))⟩
    · go_enter Try.func36, Try.ntmps36
      go_wp2
      (refine wp_region_ext (by kernel_rfl) (by kernel_rfl) ?_; have hX := @ext_cell; (repeat (go_big_quiet_step (fail))); refine wpQuiet_nil ?_; clear hX; intro _ hw'; obtain ⟨⟨wx, hbx⟩, rfl⟩ := hw'; obtain ⟨hcx, hfx⟩ := bcell hbx)
      go_wp2
      go_ret
      exact ⟨ret_bool (by simp [inB]; omega), (by repeat (first | with_reducible exact Below.refl _ _ | with_reducible assumption | with_reducible apply bl_drewN | with_reducible apply bl_drew | with_reducible apply bl_alloc | (with_reducible refine bl_set ?_ (by first | (simp; done) | (simp; omega)) _) | with_reducible refine bl_trans ?_ (by with_reducible assumption)))⟩
  · go_enter Try.func36, Try.ntmps36
    go_wp2
    (refine wp_region_ext (by kernel_rfl) (by kernel_rfl) ?_; have hX := @ext_cell; (repeat (go_big_quiet_step (fail))); refine wpQuiet_nil ?_; clear hX; intro _ hw'; obtain ⟨⟨wx, hbx⟩, rfl⟩ := hw'; obtain ⟨hcx, hfx⟩ := bcell hbx)
    go_wp2
    go_ret
    exact ⟨ret_bool (by simp [inB]; omega), (by repeat (first | with_reducible exact Below.refl _ _ | with_reducible assumption | with_reducible apply bl_drewN | with_reducible apply bl_drew | with_reducible apply bl_alloc | (with_reducible refine bl_set ?_ (by first | (simp; done) | (simp; omega)) _) | with_reducible refine bl_trans ?_ (by with_reducible assumption)))⟩
theorem free_any (b : Nat) (l : Bd) (c : Ce) (w : World) (h : BP w b l) (hok : l.ok) (hn : l.ps.length ≤ 10000000) :
    Calls Try.prog 75 #[.pointer (some ⟨b, 0, none⟩), c.val] w fun e w' => e = .returned (.bool (cIn l.wd l.hg c && decide (fnd c l.ps < 0))) ∧ Below w.heap.size w w' := by
  rcases Bool.eq_false_or_eq_true (cIn l.wd l.hg c) with h1 | h1
  all_goals
    go_enter Try.func75, Try.ntmps75
    go_wp2_with (first | (go_at_call 36; refine (has_any b l c _ (h.step (by repeat (first | with_reducible exact Below.refl _ _ | with_reducible assumption | with_reducible apply bl_drewN | with_reducible apply bl_drew | with_reducible apply bl_alloc | (with_reducible refine bl_set ?_ (by first | (simp; done) | (simp; omega)) _) | with_reducible refine bl_trans ?_ (by with_reducible assumption))))).mono ?_; rintro e w1 ⟨rfl, hb1⟩; obtain ⟨hc, hf⟩ := bcell hb1; rw [h1]) | (go_at_call 37; refine (at_any b l c _ ((h.step (by repeat (first | with_reducible exact Below.refl _ _ | with_reducible assumption | with_reducible apply bl_drewN | with_reducible apply bl_drew | with_reducible apply bl_alloc | (with_reducible refine bl_set ?_ (by first | (simp; done) | (simp; omega)) _) | with_reducible refine bl_trans ?_ (by with_reducible assumption)))).step hb1) hok hn).mono ?_; rintro e w2 ⟨rfl, hb2⟩))
    go_ret
    exact ⟨by rw [h1]; rfl, (by repeat (first | with_reducible exact Below.refl _ _ | with_reducible assumption | with_reducible apply bl_drewN | with_reducible apply bl_drew | with_reducible apply bl_alloc | (with_reducible refine bl_set ?_ (by first | (simp; done) | (simp; omega)) _) | with_reducible refine bl_trans ?_ (by with_reducible assumption)))⟩
theorem l05Free_any (b : Nat) (l : Bd) (c : Ce) (w : World) (h : BP w b l) (hok : l.ok) (hc : c.ok) (hn : l.ps.length ≤ 10000000) :
    Calls Try.prog 62 #[.pointer (some ⟨b, 0, none⟩), c.val] w fun e w' => e = .returned (.bool (cIn l.wd l.hg c && decide (fnd c l.ps < 0))) ∧ Below w.heap.size w w' := by
  obtain ⟨⟨d1, d2⟩, ⟨d3, d4⟩, -⟩ := hok
  have hbl := h.1
  obtain ⟨s, hbd, -⟩ := h.2
  unfold BdAt at hbd
  have l1 : b < w.heap.size + 1 := by omega
  rcases Bool.eq_false_or_eq_true (cIn l.wd l.hg c) with h1 | h1
  all_goals
    have C1 := fun w1 => (l01In_any c hc l.wd l.hg w1 (by omega) (by omega) (by omega) (by omega))
    rw [h1] at C1
    have HC := Lib.hid C1; clear C1
    have HA := Lib.hid (h.step (bl_alloc (o := .cells #[.int .i8 c.x, .int .i8 c.y] 35) (Below.refl _ _)))
    go_enter Try.func62, Try.ntmps62
    go_wp2
    (refine wp_region_ext (by kernel_rfl) (by kernel_rfl) ?_; have hX := @ext_cell; (repeat (go_big_quiet_step (first | (go_at_call 31; exact ext_call (HC.out _)) | (go_at_call 32; exact ext_call (l01Find_any b l c _ (HA.out.step (Ext.b _)) hn))))); refine wpQuiet_nil ?_; clear hX; intro _ hw'; obtain ⟨⟨wx, hbx⟩, rfl⟩ := hw'; obtain ⟨hcx, hfx⟩ := bcell hbx)
    go_wp2
    go_ret
    exact ⟨by rw [h1]; rfl, (by repeat (first | with_reducible exact Below.refl _ _ | with_reducible assumption | with_reducible apply bl_drewN | with_reducible apply bl_drew | with_reducible apply bl_alloc | (with_reducible refine bl_set ?_ (by first | (simp; done) | (simp; omega)) _) | with_reducible refine bl_trans ?_ (by with_reducible assumption)))⟩
end Go.Proofs.Ytoldmgpdcenmhaa
