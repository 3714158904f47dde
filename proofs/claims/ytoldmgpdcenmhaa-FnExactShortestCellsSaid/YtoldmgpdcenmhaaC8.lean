/- Contracts: valid boards. -/
import Derived.Test.YtoldmgpdcenmhaaC7
import Derived.Carry
namespace Go.Proofs.Ytoldmgpdcenmhaa
open Go.RowKit
set_option linter.unusedVariables false
set_option linter.unusedSimpArgs false
set_option maxHeartbeats 400000
set_option maxRecDepth 100000

/-- Whether a board is valid. -/
def vBd (l : Bd) : Bool := inB l.wd 1 24 && inB l.hg 1 24 && decide (l.ps.length ≤ 200) && l.ps.all (fun p => vPc p && cIn l.wd l.hg p.at_) && decide ((l.ps.map Pc.at_).Nodup)

/-- The first k pieces are as they have to be. -/
def okTo (l : Bd) (k : Nat) : Prop := (l.ps.take k).all (fun p => vPc p && cIn l.wd l.hg p.at_) = true ∧ ((l.ps.take k).map Pc.at_).Nodup
theorem okTo_zero (l : Bd) : okTo l 0 := by simp [okTo]
theorem okTo_succ (l : Bd) (k : Nat) (h : k < l.ps.length) (h0 : okTo l k) (h1 : vPc l.ps[k] = true) (h2 : cIn l.wd l.hg l.ps[k].at_ = true) (h3 : l.ps[k].at_ ∉ (l.ps.take k).map Pc.at_) : okTo l (k + 1) := by
  obtain ⟨a1, a2⟩ := h0
  rw [okTo, List.take_succ_eq_append_getElem h]
  refine ⟨by simp only [List.all_append, a1, List.all_cons, h1, h2, List.all_nil]; rfl, ?_⟩
  rw [List.map_append, List.nodup_append]
  refine ⟨a2, by simp, ?_⟩
  intro a ha b hb
  simp only [List.map_cons, List.map_nil, List.mem_singleton] at hb
  rintro rfl
  exact h3 (hb ▸ ha)
theorem vBd_all (l : Bd) (h0 : okTo l l.ps.length) (h1 : inB l.wd 1 24 = true) (h2 : inB l.hg 1 24 = true) (h3 : l.ps.length ≤ 200) : vBd l = true := by
  obtain ⟨a1, a2⟩ := h0
  rw [List.take_length] at a1 a2
  simp [vBd, h1, h2, h3, a1, a2]
theorem vBd_head (l : Bd) (h : ¬ (inB l.wd 1 24 = true ∧ inB l.hg 1 24 = true ∧ l.ps.length ≤ 200)) : vBd l = false := by
  unfold vBd
  rw [Bool.eq_false_iff]
  intro h2
  simp only [Bool.and_eq_true, decide_eq_true_eq] at h2
  exact h ⟨h2.1.1.1.1, h2.1.1.1.2, h2.1.1.2⟩
theorem vBd_piece (l : Bd) (k : Nat) (h : k < l.ps.length) (h1 : (vPc l.ps[k] && cIn l.wd l.hg l.ps[k].at_) = false) : vBd l = false := by
  unfold vBd
  have : l.ps.all (fun p => vPc p && cIn l.wd l.hg p.at_) = false := by
    rw [Bool.eq_false_iff]
    intro h2
    have := List.all_eq_true.1 h2 l.ps[k] (List.getElem_mem h)
    rw [h1] at this; cases this
  simp [this]
theorem vBd_twice (l : Bd) (k : Nat) (h : k < l.ps.length) (h1 : l.ps[k].at_ ∈ (l.ps.take k).map Pc.at_) : vBd l = false := by
  unfold vBd
  have : ¬ (l.ps.map Pc.at_).Nodup := by
    intro hn
    have e : l.ps.map Pc.at_ = (l.ps.take k).map Pc.at_ ++ (l.ps.drop k).map Pc.at_ := by rw [← List.map_append, List.take_append_drop]
    rw [e, List.nodup_append] at hn
    exact hn.2.2 _ h1 _ (List.mem_map.2 ⟨l.ps[k], by rw [List.drop_eq_getElem_cons h]; exact List.mem_cons_self, rfl⟩) rfl
  simp [this]

theorem zeroBool (w : World) : (zeroValue 4).run Try.prog w = .ok (.bool false) w := by kernel_rfl
theorem run_seen {w : World} {m : Nat} {l : List Ce} (hm : MapAt w m (marks l)) (x y : Int) : (Instr.lookup 98 (.map (some m)) (.agg #[.int .i8 x, .int .i8 y]) false).run Try.prog w = .ok (.bool (decide ((⟨x, y⟩ : Ce) ∈ l))) w := by
  obtain ⟨h, -⟩ := ceTy
  have := run_lookup_ce h Try.underlying98 (.bool false) zeroBool hm ⟨x, y⟩ false
  rw [mget_marks] at this
  exact this

set_option maxRecDepth 100000 in
theorem validBoard_any (wd hg : Int) (a : Option Addr) (cap : Nat) (ps : List Pc) (w : World) (hps : PcsAt w.heap.size w a ps) (hok : (Bd.mk wd hg ps).ok) (hn : ps.length ≤ 10000000) :
    Calls Try.prog 35 #[bdv wd hg (.slice a ps.length cap)] w fun e w' => e = .returned (.bool (vBd ⟨wd, hg, ps⟩)) ∧ Below w.heap.size w w' := by
  obtain ⟨⟨d1, d2⟩, ⟨d3, d4⟩, hok3⟩ := hok
  obtain ⟨hcty, -⟩ := ceTy
  by_cases hhd : inB wd 1 24 = true ∧ inB hg 1 24 = true ∧ ps.length ≤ 200
  · obtain ⟨h1, h2, h3⟩ := hhd
    have hmm := @run_makeMap Try.prog
    have w1 := wrap_i8 d1 d2
    have w2 := wrap_i8 d3 d4
    go_enter Try.func35, Try.ntmps35
    go_wp2_with (go_at_call 64; refine (in_any _ _ _ _).mono ?_; rintro e w' ⟨rfl, rfl⟩)
    have hps0 := hps.below (bl_alloc (o := .cells #[.int .i8 wd, .int .i8 hg, .slice a ps.length cap] 33) (Below.refl _ _)) (Nat.le_refl _)
    go_loopw [28] (fun i wr => ∃ k : Nat, k ≤ ps.length ∧ i = .int .i64 k ∧ okTo ⟨wd, hg, ps⟩ k ∧ MapAt wr (w.heap.size + 1) (marks ((ps.take k).map Pc.at_)) ∧ BdAt wr w.heap.size wd hg (.slice a ps.length cap) ∧ w.heap.size + 1 < wr.heap.size ∧ Below w.heap.size w wr) (fun i _ => ps.length - (intOf i).toNat)
    case atStart =>
      refine ⟨0, by omega, rfl, okTo_zero _, ?_, ?_, by simp, (by repeat (first | with_reducible exact Below.refl _ _ | with_reducible assumption | with_reducible apply bl_drewN | with_reducible apply bl_drew | with_reducible apply bl_alloc | (with_reducible refine bl_set ?_ (by first | (simp; done) | (simp; omega)) _) | with_reducible refine bl_trans ?_ (by with_reducible assumption)))⟩
      · have := map_new (w.alloc (.cells #[.int .i8 wd, .int .i8 hg, .slice a ps.length cap] 33))
        simpa [marks] using this
      · refine ⟨?_, ?_, ?_⟩ <;> (rw [cell_alloc _ _ _ _ (by simp)]; rw [cell_of_row _ _ _ _ _ _ (heap_alloc_new w _)]; rfl)
    case round =>
      clear hps0
      obtain ⟨k, hk, rfl, hto, hmap, hbd, hsz, hb⟩ := hrel
      have hbp : BP wr w.heap.size ⟨wd, hg, ps⟩ := ⟨by omega, _, hbd, a, cap, rfl, (hps.below hb (Nat.le_refl _)).mono hb.size⟩
      by_cases hlt : k < ps.length
      · obtain ⟨b, off, rfl, hbl, hat⟩ := pcs_get (hps.below hb (Nat.le_refl _)) hlt
        unfold PcAt at hat
        go_wp2_with (first | (go_at_call 65; refine (validPiece_any ps[k] (hok3 k hlt) _).mono ?_; rintro e w3 ⟨rfl, hb3⟩; obtain ⟨hc3, hf3⟩ := bcell hb3; have hz3 := hb3.size; simp at hz3; have q3 : wr.heap.size < w3.heap.size := by omega) | (go_at_call 36; refine (has_any w.heap.size ⟨wd, hg, ps⟩ ⟨ps[k].x, ps[k].y⟩ _ (hbp.step (by repeat (first | with_reducible exact Below.refl _ _ | with_reducible assumption | with_reducible apply bl_drewN | with_reducible apply bl_drew | with_reducible apply bl_alloc | (with_reducible refine bl_set ?_ (by first | (simp; done) | (simp; omega)) _) | with_reducible refine bl_trans ?_ (by with_reducible assumption))))).mono ?_; rintro e w4 ⟨rfl, hb4⟩; obtain ⟨hc4, hf4⟩ := bcell hb4; have hm4 := map_below (map_below (map_alloc hmap _) hb3 (by simp; omega)) hb4 (by omega); have hrun := run_seen hm4 ps[k].x ps[k].y) | (at_mapUpdate; refine wpList_update_ce _ rfl _ _ _ 98 rfl hcty Try.underlying98 _ _ rfl hm4 ⟨ps[k].x, ps[k].y⟩ (.bool true) rfl rfl ?_; intro w5 hm5 hg5 hz5))
        · have hin : (⟨ps[k].x, ps[k].y⟩ : Ce) ∈ (ps.map Pc.at_).take k := by assumption
          go_ret
          rw [← List.map_take] at hin
          exact ⟨by rw [vBd_twice ⟨wd, hg, ps⟩ k hlt hin]; rfl, (by repeat (first | with_reducible exact Below.refl _ _ | with_reducible assumption | with_reducible apply bl_drewN | with_reducible apply bl_drew | with_reducible apply bl_alloc | (with_reducible refine bl_set ?_ (by first | (simp; done) | (simp; omega)) _) | with_reducible refine bl_trans ?_ (by with_reducible assumption)))⟩
        · have hv : vPc ps[k] = true := by assumption
          have hc : cIn wd hg ⟨ps[k].x, ps[k].y⟩ = true := by assumption
          have hin : ¬ (⟨ps[k].x, ps[k].y⟩ : Ce) ∈ (ps.map Pc.at_).take k := by assumption
          rw [← List.map_take] at hin
          rw [mput_marks, if_neg hin] at hm5
          have hz4 := hb4.size
          have hb9 : Below w.heap.size w w5 := bl_grown (by repeat (first | with_reducible exact Below.refl _ _ | with_reducible assumption | with_reducible apply bl_drewN | with_reducible apply bl_drew | with_reducible apply bl_alloc | (with_reducible refine bl_set ?_ (by first | (simp; done) | (simp; omega)) _) | with_reducible refine bl_trans ?_ (by with_reducible assumption))) hg5 (by intro j hj; cases hj; omega)
          have hbd4 : BdAt w4 w.heap.size wd hg (.slice (some ⟨b, off, none⟩) ps.length cap) := by
            have h1 := hbd
            unfold BdAt at h1 ⊢
            have e : ∀ o, w4.cell? ⟨w.heap.size, o, none⟩ = wr.cell? ⟨w.heap.size, o, none⟩ := by
              intro o
              rw [hc4 _ _ (by omega), hc3 _ _ (by simp; omega), cell_alloc _ _ _ _ (by omega)]
            simpa only [e] using h1
          clear hc3 hf3 hc4 hf4 hrun hm4 hbp hmap hat
          go_roundw
          case rel =>
            refine ⟨k + 1, by omega, by go_num, okTo_succ ⟨wd, hg, ps⟩ k hlt hto hv hc hin, ?_, ?_, by omega, hb9⟩
            · rw [List.take_succ_eq_append_getElem hlt, List.map_append]; exact hm5
            · unfold BdAt at hbd4 ⊢
              obtain ⟨e0, e1, e2⟩ := hbd4
              exact ⟨hg5.cell e0 (by simp), hg5.cell e1 (by simp), hg5.cell e2 (by simp)⟩
          case measure => simp [intOf]; omega
        · have hc : ¬ cIn wd hg ⟨ps[k].x, ps[k].y⟩ = true := by assumption
          go_ret
          exact ⟨by rw [vBd_piece ⟨wd, hg, ps⟩ k hlt (by simp only [Bool.and_eq_false_iff]; exact .inr (Bool.eq_false_iff.2 hc))]; rfl, (by repeat (first | with_reducible exact Below.refl _ _ | with_reducible assumption | with_reducible apply bl_drewN | with_reducible apply bl_drew | with_reducible apply bl_alloc | (with_reducible refine bl_set ?_ (by first | (simp; done) | (simp; omega)) _) | with_reducible refine bl_trans ?_ (by with_reducible assumption)))⟩
        · have hc : ¬ vPc ps[k] = true := by assumption
          go_ret
          exact ⟨by rw [vBd_piece ⟨wd, hg, ps⟩ k hlt (by simp only [Bool.and_eq_false_iff]; exact .inl (Bool.eq_false_iff.2 hc))]; rfl, (by repeat (first | with_reducible exact Below.refl _ _ | with_reducible assumption | with_reducible apply bl_drewN | with_reducible apply bl_drew | with_reducible apply bl_alloc | (with_reducible refine bl_set ?_ (by first | (simp; done) | (simp; omega)) _) | with_reducible refine bl_trans ?_ (by with_reducible assumption)))⟩
      · go_wp2
        go_ret
        have hkn : k = ps.length := by omega
        rw [hkn] at hto
        exact ⟨by rw [vBd_all ⟨wd, hg, ps⟩ hto h1 h2 h3]; rfl, (by repeat (first | with_reducible exact Below.refl _ _ | with_reducible assumption | with_reducible apply bl_drewN | with_reducible apply bl_drew | with_reducible apply bl_alloc | (with_reducible refine bl_set ?_ (by first | (simp; done) | (simp; omega)) _) | with_reducible refine bl_trans ?_ (by with_reducible assumption)))⟩
  · have hv : vBd ⟨wd, hg, ps⟩ = false := vBd_head _ hhd
    have HV := Lib.hid hv; clear hv
    have w1 := wrap_i8 d1 d2
    have w2 := wrap_i8 d3 d4
    by_cases h1 : inB wd 1 24 = true
    · by_cases h2 : inB hg 1 24 = true
      · have h3 : 200 < ps.length := by
          by_cases h : ps.length ≤ 200
          · exact absurd ⟨h1, h2, h⟩ hhd
          · omega
        go_enter Try.func35, Try.ntmps35
        go_wp2_with (go_at_call 64; refine (in_any _ _ _ _).mono ?_; rintro e w' ⟨rfl, rfl⟩)
        go_ret
        exact ⟨by rw [HV.out]; rfl, (by repeat (first | with_reducible exact Below.refl _ _ | with_reducible assumption | with_reducible apply bl_drewN | with_reducible apply bl_drew | with_reducible apply bl_alloc | (with_reducible refine bl_set ?_ (by first | (simp; done) | (simp; omega)) _) | with_reducible refine bl_trans ?_ (by with_reducible assumption)))⟩
      · have h2 : inB hg 1 24 = false := by simpa using h2
        go_enter Try.func35, Try.ntmps35
        go_wp2_with (go_at_call 64; refine (in_any _ _ _ _).mono ?_; rintro e w' ⟨rfl, rfl⟩)
        go_ret
        exact ⟨by rw [HV.out]; rfl, (by repeat (first | with_reducible exact Below.refl _ _ | with_reducible assumption | with_reducible apply bl_drewN | with_reducible apply bl_drew | with_reducible apply bl_alloc | (with_reducible refine bl_set ?_ (by first | (simp; done) | (simp; omega)) _) | with_reducible refine bl_trans ?_ (by with_reducible assumption)))⟩
    · have h1 : inB wd 1 24 = false := by simpa using h1
      go_enter Try.func35, Try.ntmps35
      go_wp2_with (go_at_call 64; refine (in_any _ _ _ _).mono ?_; rintro e w' ⟨rfl, rfl⟩)
      go_ret
      exact ⟨by rw [HV.out]; rfl, (by repeat (first | with_reducible exact Below.refl _ _ | with_reducible assumption | with_reducible apply bl_drewN | with_reducible apply bl_drew | with_reducible apply bl_alloc | (with_reducible refine bl_set ?_ (by first | (simp; done) | (simp; omega)) _) | with_reducible refine bl_trans ?_ (by with_reducible assumption)))⟩
theorem PcAt.step {w w' : World} {b off : Nat} {p : Pc} (h : PcAt w b off p) (hb : Below w.heap.size w w') (hl : b < w.heap.size) : PcAt w' b off p := by
  unfold PcAt at *
  simp only [hb.cell (p := ⟨b, _, none⟩) hl]
  exact h
theorem fnd_at (ps : List Pc) (k : Nat) (h : k < ps.length) : (fnd ps[k].at_ ps != (k : Int)) = decide (ps[k].at_ ∈ (ps.take k).map Pc.at_) := by
  rw [Bool.eq_iff_iff]
  simp only [bne_iff_ne, ne_eq, decide_eq_true_eq]
  unfold fnd
  cases hf : ps.findIdx? (fun p => decide (p.at_ = ps[k].at_)) with
  | none =>
    rw [List.findIdx?_eq_none_iff] at hf
    have := hf ps[k] (List.getElem_mem h)
    simp at this
  | some j =>
    rw [List.findIdx?_eq_some_iff_getElem] at hf
    obtain ⟨h1, h2, h3⟩ := hf
    have hjk : j ≤ k := by
      by_cases hlt : j ≤ k
      · exact hlt
      · exact absurd (h3 k (by omega)) (by simp)
    simp only [Option.elim]
    constructor
    · intro hne
      have hlt : j < k := by omega
      have h4 : ps[j].at_ = ps[k].at_ := by simpa using h2
      rw [← h4]
      exact List.mem_map.2 ⟨ps[j], by rw [List.mem_take_iff_getElem]; exact ⟨j, by omega, rfl⟩, rfl⟩
    · intro hm
      obtain ⟨p, hp, he⟩ := List.mem_map.1 hm
      rw [List.mem_take_iff_getElem] at hp
      obtain ⟨i, hi, rfl⟩ := hp
      intro hjk2
      have : j = k := by omega
      subst this
      have := h3 i (by omega)
      simp [he] at this

end Go.Proofs.Ytoldmgpdcenmhaa
