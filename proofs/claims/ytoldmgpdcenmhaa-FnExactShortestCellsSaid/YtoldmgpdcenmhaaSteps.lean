/- Contracts: the program's steps. -/
import Derived.Test.YtoldmgpdcenmhaaFar
import Derived.Test.YtoldmgpdcenmhaaOff
namespace Go.Proofs.Ytoldmgpdcenmhaa
open Go.RowKit
set_option linter.unusedVariables false
set_option linter.unusedSimpArgs false
set_option maxHeartbeats 400000
set_option maxRecDepth 100000
theorem fnd_neg (c : Ce) (ps : List Pc) : decide (fnd c ps < 0) = !decide (c ∈ ps.map Pc.at_) := by
  unfold fnd
  cases hf : ps.findIdx? (fun p => decide (p.at_ = c)) with
  | none =>
    rw [List.findIdx?_eq_none_iff] at hf
    have : c ∉ ps.map Pc.at_ := by
      intro h
      obtain ⟨p, hp, e⟩ := List.mem_map.1 h
      have := hf p hp
      simp [e] at this
    simp [this]
  | some k =>
    rw [List.findIdx?_eq_some_iff_getElem] at hf
    obtain ⟨h1, h2, -⟩ := hf
    have h3 : ps[k].at_ = c := by simpa using h2
    have : c ∈ ps.map Pc.at_ := List.mem_map.2 ⟨_, List.getElem_mem h1, h3⟩
    simp only [Option.elim, this, decide_true, Bool.not_true]
    exact decide_eq_false (by omega)
theorem run_mark {w : World} {m : Nat} {L : List Ce} (hm : MapAt w m (marks L)) (c : Ce) : (Instr.lookup 98 (.map (some m)) c.val false).run Try.prog w = .ok (.bool (decide (c ∈ L))) w := by
  obtain ⟨h, -⟩ := ceTy
  have := run_lookup_ce h Try.underlying98 (.bool false) (fun w => by kernel_rfl) hm c false
  rw [mget_marks] at this
  exact this
def mapLen (w : World) (m : Nat) : Nat := match w.heap[m]? with | some (.map es _) => es.size | _ => 0
def slLen (v : Value) : Nat := match v with | .slice _ n _ => n | _ => 0
theorem mapLen_eq {w : World} {m : Nat} {kv : List (Ce × Value)} (h : MapAt w m kv) : mapLen w m = kv.length := by
  obtain ⟨es, clock, h1, h2⟩ := h
  unfold mapLen
  rw [h1]
  have := congrArg List.length h2
  simpa using this
theorem qkv_len (q : List (Ce × Int)) : (qkv q).length = q.length := by simp [qkv]
theorem dget_isSome (q : List (Ce × Int)) (c : Ce) : (dget q c).isSome = decide (c ∈ qcs q) := by
  by_cases h : c ∈ qcs q
  · obtain ⟨p, hp, e, h2⟩ := dget_some q c h
    rw [h2]; simp [h]
  · rw [dget_none q c h]; simp [h]
theorem run_far_ok {w : World} {m : Nat} {q : List (Ce × Int)} (hm : MapAt w m (qkv q)) (c : Ce) : (Instr.lookup 71 (.map (some m)) c.val true).run Try.prog w = .ok (.tuple #[.int .i64 ((dget q c).getD 0), .bool (decide (c ∈ qcs q))]) w := by
  obtain ⟨h, -⟩ := ceTy
  have h1 := run_lookup_ce h Try.underlying71 (.int .i64 0) (fun w => by kernel_rfl) hm c true
  have h2 := mget_qkv c q
  unfold mget at h2
  have h3 : (mfind c (qkv q) 0).isSome = (dget q c).isSome := by
    have := congrArg Option.isSome h2
    simpa using this
  rw [h2, h3, dget_isSome] at h1
  simp only [if_true] at h1
  rw [h1]
  cases dget q c <;> rfl
theorem run_far {w : World} {m : Nat} {q : List (Ce × Int)} (hm : MapAt w m (qkv q)) (c : Ce) : (Instr.lookup 71 (.map (some m)) c.val false).run Try.prog w = .ok (.int .i64 ((dget q c).getD 0)) w := by
  obtain ⟨h, -⟩ := ceTy
  have h1 := run_lookup_ce h Try.underlying71 (.int .i64 0) (fun w => by kernel_rfl) hm c false
  have h2 := mget_qkv c q
  unfold mget at h2
  rw [h2] at h1
  rw [h1]
  cases dget q c <;> rfl
set_option maxHeartbeats 1600000 in
theorem steps_any (b : Nat) (l : Bd) (c : Ce) (w : World) (h : BP w b l) (hok : l.ok) (hn : l.ps.length ≤ 10000000) (hc : fr l c = true) (hw : l.wd ≤ 24) (hh : l.hg ≤ 24) :
    Calls Try.prog 38 #[.pointer (some ⟨b, 0, none⟩), c.val] w fun e w' => ∃ m, e = .returned (.map (some m)) ∧ w.heap.size ≤ m ∧ MapAt w' m (qkv (bfs l c)) ∧ Below w.heap.size w w' := by
  have HB0 := Lib.hid h
  obtain ⟨hbl, s, hbd, sa, scap, rfl, hps⟩ := h
  unfold BdAt at hbd
  obtain ⟨hcty, -⟩ := ceTy
  obtain ⟨i0, hi, hiz0, hiz1, hiz2⟩ := info_parts Try.infoCell
  have hmm := @run_makeMap Try.prog
  have HHAS := Lib.hid (fun (d : Ce) (w' : World) (hb : BP w' b l) => has_any b l d w' hb)
  have HLEN := Lib.hid (fun n => bq_len l c hc n hw hh)
  have HG := Lib.hid (fun n => goodq_bq l c hc n)
  have HF := Lib.hid hc
  have HEQ := Lib.hid (fun k (h1 : k ≤ 600) (h2 : (bq l c (4 * k)).length ≤ k) => show qkv (bq l c (4 * k)) = qkv (bfs l c) by rw [bfs_end l c k h1 h2])
  generalize qkv (bfs l c) = fin at HEQ ⊢
  have HFR := Lib.hid (fun d => show fr l d = (cIn l.wd l.hg d && !decide (d ∈ l.ps.map Pc.at_)) by unfold fr; rw [fnd_neg])
  clear hc
  have hne : b ≠ w.heap.size := by omega
  have hbw1 : Below w.heap.size w (w.alloc (.cells #[.int .i8 c.x, .int .i8 c.y] 35)) := bl_alloc (Below.refl _ _)
  have hz1 : (w.alloc (.cells #[.int .i8 c.x, .int .i8 c.y] 35)).heap.size = w.heap.size + 1 := by simp
  have d0 : (w.alloc (.cells #[.int .i8 c.x, .int .i8 c.y] 35)).cell? ⟨w.heap.size, 0, none⟩ = some (.int .i8 c.x) := by rw [cell_of_row _ _ _ _ _ _ (heap_alloc_new w _)]; rfl
  have d1 : (w.alloc (.cells #[.int .i8 c.x, .int .i8 c.y] 35)).cell? ⟨w.heap.size, 1, none⟩ = some (.int .i8 c.y) := by rw [cell_of_row _ _ _ _ _ _ (heap_alloc_new w _)]; rfl
  go_enter Try.func38, Try.ntmps38
  go_wp2
  go_loopw [20] (fun i wr => ∃ k : Nat, ∃ L : List Ce, k ≤ l.ps.length ∧ i = .int .i64 k ∧ Hid (∀ d, d ∈ L ↔ d ∈ (l.ps.take k).map Pc.at_) ∧ MapAt wr (w.heap.size + 1) (marks L) ∧ w.heap.size + 1 < wr.heap.size ∧ Below (w.alloc (.cells #[.int .i8 c.x, .int .i8 c.y] 35)).heap.size (w.alloc (.cells #[.int .i8 c.x, .int .i8 c.y] 35)) wr) (fun i _ => l.ps.length - (intOf i).toNat)
  case atStart =>
    refine ⟨0, [], by omega, rfl, Lib.hid (by simp), ?_, by simp, (by repeat (first | with_reducible exact Below.refl _ _ | with_reducible assumption | with_reducible apply bl_drewN | with_reducible apply bl_drew | with_reducible apply bl_alloc | (with_reducible refine bl_set ?_ (by first | (simp; done) | (simp; omega)) _) | with_reducible refine bl_trans ?_ (by with_reducible assumption)))⟩
    have := map_new (w.alloc (.cells #[.int .i8 c.x, .int .i8 c.y] 35))
    simpa [marks] using this
  case round =>
    obtain ⟨k, L, hk, rfl, hL, hmap, hsz, hb⟩ := hrel
    have hbw := bl_trans hbw1 hb
    by_cases hlt : k < l.ps.length
    · obtain ⟨b', off, rfl, hbl', hat⟩ := pcs_get (hps.below hbw (Nat.le_refl _)) hlt
      unfold PcAt at hat
      have hm0 := map_alloc hmap (.cells #[.int .i8 l.ps[k].x, .int .i8 l.ps[k].y, .int .i8 l.ps[k].k, .int .i8 l.ps[k].t, .int .i8 l.ps[k].d] 78)
      go_wp2_with (at_mapUpdate; refine wpList_update_ce _ rfl _ _ _ 98 rfl hcty Try.underlying98 _ _ rfl hm0 ⟨l.ps[k].x, l.ps[k].y⟩ (.bool true) rfl rfl ?_; intro w5 hm5 hg5 hz5)
      simp at hz5
      rw [mput_marks] at hm5
      have hb5 : Below (w.alloc (.cells #[.int .i8 c.x, .int .i8 c.y] 35)).heap.size (w.alloc (.cells #[.int .i8 c.x, .int .i8 c.y] 35)) w5 := bl_grown (bl_alloc hb) hg5 (fun j hj => by cases hj; simp)
      refine ⟨⟨k + 1, _, by omega, by go_num, Lib.hid ?_, hm5, by omega, hb5⟩, by simp [intOf]; omega⟩
      intro d
      have h1 := hL.out d
      rw [List.take_succ_eq_append_getElem hlt, List.map_append, List.mem_append, ← h1]
      have e1 : l.ps[k].at_ = ⟨l.ps[k].x, l.ps[k].y⟩ := rfl
      simp only [List.map_cons, List.map_nil, List.mem_singleton, e1]
      by_cases hin : (⟨l.ps[k].x, l.ps[k].y⟩ : Ce) ∈ L
      · rw [if_pos hin]
        exact ⟨.inl, fun h => h.elim id (fun e => e ▸ hin)⟩
      · rw [if_neg hin, List.mem_append, List.mem_singleton]
    · have hkn : k = l.ps.length := by omega
      subst hkn
      obtain ⟨W2, hW2⟩ : ∃ W2, W2 = wr := ⟨_, rfl⟩
      subst hW2
      have HL := Lib.hid (show ∀ d, d ∈ L ↔ d ∈ l.ps.map Pc.at_ by have := hL.out; rwa [List.take_length] at this)
      have HBR := Lib.hid (HB0.out.step hbw)
      have HMR := Lib.hid hmap
      have x0 : W2.cell? ⟨w.heap.size, 0, none⟩ = some (.int .i8 c.x) := by rw [hb.cell (p := ⟨_, _, none⟩) (by simp)]; exact d0
      have x1 : W2.cell? ⟨w.heap.size, 1, none⟩ = some (.int .i8 c.y) := by rw [hb.cell (p := ⟨_, _, none⟩) (by simp)]; exact d1
      have hbwr := Lib.hid hbw
      obtain ⟨w4, hrun, hm4, hg4, hz4⟩ := run_update_ce hcty Try.underlying71 (map_new W2) c (.int .i64 0)
      have hmq : MapAt w4 W2.heap.size (qkv (bq l c 0)) := by simpa [mput, qkv, bq] using hm4
      have y0 : w4.cell? ⟨w.heap.size, 0, none⟩ = some (.int .i8 c.x) := hg4.cell (by rw [cell_alloc _ _ _ _ (by omega)]; exact x0) (by simp; omega)
      have y1 : w4.cell? ⟨w.heap.size, 1, none⟩ = some (.int .i8 c.y) := hg4.cell (by rw [cell_alloc _ _ _ _ (by omega)]; exact x1) (by simp; omega)
      have hb4 : Below W2.heap.size W2 w4 := bl_grown (bl_alloc (Below.refl _ _)) hg4 (fun j hj => by cases hj; simp)
      simp only [World.size_alloc] at hz4
      have hlt1 : w.heap.size < W2.heap.size := by omega
      have hne1 : w.heap.size ≠ W2.heap.size := by omega
      have hne4 : w.heap.size ≠ w4.heap.size := by omega
      clear hm4 hL hmap d0 d1 hz1 hps hbd hb hbw
      go_wp2
      clear hrun hg4
      have hq0 : OffRow (w4.alloc (.cells #[.int .i8 c.x, .int .i8 c.y] 35)) (W2.heap.size + 1) 35 2 (.slice (some ⟨W2.heap.size + 1, 0, none⟩) 1 1) 1 (flat Ce.cells [c]) (W2.heap.size + 1) := own_off (own_newAt w4 #[.int .i8 c.x, .int .i8 c.y] 35 2 (W2.heap.size + 1) (W2.heap.size + 1) (by omega) (by omega) rfl _ rfl)
      have hmq0 := map_alloc hmq (.cells #[.int .i8 c.x, .int .i8 c.y] 35)
      have HQ0 := Lib.hid hq0
      have HM0 := Lib.hid hmq0
      have hbq0 : Below W2.heap.size W2 (w4.alloc (.cells #[.int .i8 c.x, .int .i8 c.y] 35)) := bl_alloc hb4
      have HBQ := Lib.hid hbq0
      clear hq0 hmq0 hmq hb4 hbq0 y0 y1 hne4
      generalize (w4.alloc (.cells #[.int .i8 c.x, .int .i8 c.y] 35)) = w5 at HQ0 HM0 HBQ ⊢
      clear hz4
      go_loopw [9] (fun v wx => ∃ k g : Nat, k ≤ (bq l c (4 * k)).length ∧ OffRow wx (W2.heap.size + 1) 35 2 v ((bq l c (4 * k)).length - k) (flat Ce.cells ((qcs (bq l c (4 * k))).drop k)) g ∧ MapAt wx W2.heap.size (qkv (bq l c (4 * k))) ∧ Below W2.heap.size W2 wx) (fun v wx => 600 - (mapLen wx W2.heap.size - slLen v))
      case atStart => exact ⟨0, _, by simp, HQ0.out, HM0.out, HBQ.out⟩
      case round =>
        clear HQ0 HM0 HBQ
        obtain ⟨k, g, hk, hq, hm, hb⟩ := hrel
        have hkl := HLEN.out (4 * k)
        obtain ⟨off, cap, rfl, slq, hcap, hmax⟩ := hq.sl
        by_cases hlt : k < (bq l c (4 * k)).length
        · have hlen1 : 0 < (bq l c (4 * k)).length - k := by omega
          have HMES := Lib.hid (mapLen_eq hm)
          go_wp2
          go_loopw [9, 38] (fun v s wx => ∃ m g : Nat, m ≤ 4 ∧ s = .int .i64 m ∧ OffRow wx (W2.heap.size + 1) 35 2 v ((bq l c (4 * k + m)).length - k) (flat Ce.cells ((qcs (bq l c (4 * k + m))).drop k)) g ∧ MapAt wx W2.heap.size (qkv (bq l c (4 * k + m))) ∧ Below W2.heap.size W2 wx) (fun _ s _ => 4 - (intOf s).toNat)
          case atStart => exact ⟨0, g, by omega, rfl, hq, hm, hb⟩
          case round =>
            clear hq hm hb slq hcap hmax
            obtain ⟨m, g, hm4, rfl, hq, hm, hb⟩ := hrel
            by_cases hlm : m < 4
            · have hkl2 := HLEN.out (4 * k + m)
              have hgq := HG.out (4 * k + m)
              have hkq : k < (bq l c (4 * k + m)).length := Nat.lt_of_lt_of_le hlt (bq_mono _ _ _ _)
              have HNXT := Lib.hid (bq_next l c k m hlm)
              obtain ⟨q, hqe⟩ : ∃ q, q = bq l c (4 * k + m) := ⟨_, rfl⟩
              rw [← hqe] at hq hm hkl2 hgq hkq HNXT
              clear hqe
              obtain ⟨off, cap, rfl, slq, hcap, hmax⟩ := hq.sl
              have hdr : (qcs q).drop k = q[k].1 :: (qcs q).drop (k + 1) := by rw [List.drop_eq_getElem_cons (by rw [qcs_len]; exact hkq), qcs_get q k hkq]
              rw [hdr] at slq
              obtain ⟨b', off', e, hbl', hat⟩ := ces_get slq (k := 0) (by simp)
              cases e
              unfold CeAt at hat
              simp only [List.getElem_cons_zero, Nat.zero_mul, Nat.add_zero] at hat
              have hfd : fr l q[k].1 = true := hgq.2.1 _ (List.getElem_mem hkq)
              have hdd := hgq.2.2.1 k hkq
              have hda := dOf_at l c q hgq k hkq
              have HNO := Lib.hid (fun hn => HNXT.out.trans (stepq_no l q k m hkq hn))
              have HYES := Lib.hid (fun h1 h2 => HNXT.out.trans (stepq_yes l q k m hkq h1 h2))
              clear hdr
              obtain ⟨d, hd⟩ : ∃ d, d = q[k].1 := ⟨_, rfl⟩
              obtain ⟨dd, hdv⟩ : ∃ dd, dd = q[k].2 := ⟨_, rfl⟩
              rw [← hd] at hat hfd hda HNO HYES slq
              rw [← hdv] at hdd hda HYES
              obtain ⟨dd1, dd2⟩ := hdd
              have hdb := fr_in l d hfd
              have hdok : d.ok := ⟨by constructor <;> omega, by constructor <;> omega⟩
              have HNX := Lib.hid (fun w' => next_any d hdok m (by omega) (by omega) w')
              generalize nxt d m = nx at HNO HYES HNX
              have H1 : ∀ w' (h : Below W2.heap.size W2 w'), Calls Try.prog 36 #[.pointer (some ⟨b, 0, none⟩), nx.val] w' fun e w'' => e = .returned (.bool (cIn l.wd l.hg nx)) ∧ Below w'.heap.size w' w'' := fun w' h => HHAS.out nx w' (HBR.out.step h)
              have HQ := Lib.hid hq
              have HM := Lib.hid hm
              have HDA := Lib.hid hda
              have hgl := hq.lt
              have hg2 : W2.heap.size + 1 ≤ g := hq.2.1
              have hzb := hb.size
              have hnl : 0 < q.length - k := by omega
              have hqn : q.length ≤ 576 := hkl2
              have hfx := HFR.out nx
              have hlx := HL.out nx
              clear hgq hda hd hdv slq hdok hdb hkl hkl2 hq hm hfd
              rcases dec_cases (nx ∈ qcs q) with ⟨g1, g1'⟩ | ⟨g1, g1'⟩
              · have HS := Lib.hid (HNO.out (.inr g1'))
                have H1 := Lib.hid H1
                clear g1' hfx hlx
                go_wp2_with fail
                refine (HNX.out _).mono ?_
                rintro e w2 ⟨rfl, hb2⟩
                have hbl2 : Below W2.heap.size W2 (w2.alloc (.cells #[.int .i8 nx.x, .int .i8 nx.y] 35)) := bl_alloc (bl_trans hb hb2)
                have hbr2 : Below wr.heap.size wr (w2.alloc (.cells #[.int .i8 nx.x, .int .i8 nx.y] 35)) := bl_alloc hb2
                have hm3 := map_below HM.out hbr2 (map_lt HM.out)
                have hk3 : (Instr.lookup 71 (.map (some W2.heap.size)) (.agg #[.int .i8 nx.x, .int .i8 nx.y]) true).run Try.prog (w2.alloc (.cells #[.int .i8 nx.x, .int .i8 nx.y] 35)) = _ := run_far_ok hm3 nx
                have HBL2 := Lib.hid hbl2
                have HBR2 := Lib.hid hbr2
                have hz2 := hb2.size
                clear hbl2 hbr2 hm3
                rw [g1] at hk3
                go_wp2
                refine ⟨⟨m + 1, g, by omega, by go_num, ?_, ?_, HBL2.out⟩, by simp [intOf]; omega⟩
                · show OffRow _ _ _ _ _ ((bq l c (4 * k + m + 1)).length - k) (flat Ce.cells ((qcs (bq l c (4 * k + m + 1))).drop k)) g
                  rw [HS.out]
                  exact HQ.out.below HBR2.out (Nat.le_refl _)
                · show MapAt _ _ (qkv (bq l c (4 * k + m + 1)))
                  rw [HS.out]
                  exact map_below HM.out HBR2.out (map_lt HM.out)
              · have G1 := Lib.hid g1'
                rcases Bool.eq_false_or_eq_true (cIn l.wd l.hg nx) with g2 | g2
                · rw [g2] at H1 hfx
                  have H1 := Lib.hid H1
                  rcases dec_cases (nx ∈ L) with ⟨g3, g3'⟩ | ⟨g3, g3'⟩
                  · have HS := Lib.hid (HNO.out (.inl (by rw [hfx, decide_eq_true (hlx.1 g3')]; rfl)))
                    clear g1' g3' hfx hlx
                    go_wp2_with fail
                    refine (HNX.out _).mono ?_
                    rintro e w2 ⟨rfl, hb2⟩
                    have hbl2 : Below W2.heap.size W2 (w2.alloc (.cells #[.int .i8 nx.x, .int .i8 nx.y] 35)) := bl_alloc (bl_trans hb hb2)
                    have hbr2 : Below wr.heap.size wr (w2.alloc (.cells #[.int .i8 nx.x, .int .i8 nx.y] 35)) := bl_alloc hb2
                    have hm3 := map_below HM.out hbr2 (map_lt HM.out)
                    have hk3 : (Instr.lookup 71 (.map (some W2.heap.size)) (.agg #[.int .i8 nx.x, .int .i8 nx.y]) true).run Try.prog (w2.alloc (.cells #[.int .i8 nx.x, .int .i8 nx.y] 35)) = _ := run_far_ok hm3 nx
                    have HBL2 := Lib.hid hbl2
                    have HBR2 := Lib.hid hbr2
                    have hz2 := hb2.size
                    clear hbl2 hbr2 hm3
                    rw [g1] at hk3
                    go_wp2_with fail
                    refine (H1.out _ HBL2.out).mono ?_
                    rintro e w4 ⟨rfl, hb4⟩
                    have HBL4 := Lib.hid (bl_trans HBL2.out hb4)
                    have HBR4 := Lib.hid (bl_trans HBR2.out hb4)
                    have hmk4 := map_below HMR.out HBL4.out (map_lt HMR.out)
                    have hk4 : (Instr.lookup 98 (.map (some (w.heap.size + 1))) (.agg #[.int .i8 nx.x, .int .i8 nx.y]) false).run Try.prog w4 = _ := run_mark hmk4 nx
                    have e0 : w4.cell? ⟨w2.heap.size, 0, none⟩ = some (.int .i8 nx.x) := by rw [hb4.cell (p := ⟨_, _, none⟩) (by simp), cell_of_row _ _ _ _ _ _ (heap_alloc_new w2 _)]; rfl
                    have e1 : w4.cell? ⟨w2.heap.size, 1, none⟩ = some (.int .i8 nx.y) := by rw [hb4.cell (p := ⟨_, _, none⟩) (by simp), cell_of_row _ _ _ _ _ _ (heap_alloc_new w2 _)]; rfl
                    rw [g3] at hk4
                    go_wp2
                    refine ⟨⟨m + 1, g, by omega, by go_num, ?_, ?_, HBL4.out⟩, by simp [intOf]; omega⟩
                    · show OffRow _ _ _ _ _ ((bq l c (4 * k + m + 1)).length - k) (flat Ce.cells ((qcs (bq l c (4 * k + m + 1))).drop k)) g
                      rw [HS.out]
                      exact HQ.out.below HBR4.out (Nat.le_refl _)
                    · show MapAt _ _ (qkv (bq l c (4 * k + m + 1)))
                      rw [HS.out]
                      exact map_below HM.out HBR4.out (map_lt HM.out)
                  · have hfree : fr l nx = true := by rw [hfx, decide_eq_false (fun h => g3' (hlx.2 h))]; rfl
                    have HS := Lib.hid (HYES.out hfree g1')
                    clear g1' g3' hfx hlx hfree
                    go_wp2_with fail
                    refine (HNX.out _).mono ?_
                    rintro e w2 ⟨rfl, hb2⟩
                    have hbl2 : Below W2.heap.size W2 (w2.alloc (.cells #[.int .i8 nx.x, .int .i8 nx.y] 35)) := bl_alloc (bl_trans hb hb2)
                    have hbr2 : Below wr.heap.size wr (w2.alloc (.cells #[.int .i8 nx.x, .int .i8 nx.y] 35)) := bl_alloc hb2
                    have hm3 := map_below HM.out hbr2 (map_lt HM.out)
                    have hk3 : (Instr.lookup 71 (.map (some W2.heap.size)) (.agg #[.int .i8 nx.x, .int .i8 nx.y]) true).run Try.prog (w2.alloc (.cells #[.int .i8 nx.x, .int .i8 nx.y] 35)) = _ := run_far_ok hm3 nx
                    have HBL2 := Lib.hid hbl2
                    have HBR2 := Lib.hid hbr2
                    have hz2 := hb2.size
                    clear hbl2 hbr2 hm3
                    rw [g1] at hk3
                    go_wp2_with fail
                    refine (H1.out _ HBL2.out).mono ?_
                    rintro e w4 ⟨rfl, hb4⟩
                    have HBL4 := Lib.hid (bl_trans HBL2.out hb4)
                    have HBR4 := Lib.hid (bl_trans HBR2.out hb4)
                    have hmk4 := map_below HMR.out HBL4.out (map_lt HMR.out)
                    have hk4 : (Instr.lookup 98 (.map (some (w.heap.size + 1))) (.agg #[.int .i8 nx.x, .int .i8 nx.y]) false).run Try.prog w4 = _ := run_mark hmk4 nx
                    have e0 : w4.cell? ⟨w2.heap.size, 0, none⟩ = some (.int .i8 nx.x) := by rw [hb4.cell (p := ⟨_, _, none⟩) (by simp), cell_of_row _ _ _ _ _ _ (heap_alloc_new w2 _)]; rfl
                    have e1 : w4.cell? ⟨w2.heap.size, 1, none⟩ = some (.int .i8 nx.y) := by rw [hb4.cell (p := ⟨_, _, none⟩) (by simp), cell_of_row _ _ _ _ _ _ (heap_alloc_new w2 _)]; rfl
                    rw [g3] at hk4
                    clear hk3
                    have hwr : IntKind.i64.wrap (dd + 1) = dd + 1 := by rw [IntKind.wrap_i64]; omega
                    have hm4q := map_below HM.out HBR4.out (map_lt HM.out)
                    have hk5 : (Instr.lookup 71 (.map (some W2.heap.size)) (.agg #[.int .i8 d.x, .int .i8 d.y]) false).run Try.prog w4.drew = .ok (.int .i64 dd) w4.drew := by
                      have h1 := run_far (w := w4.drew) (m := W2.heap.size) (q := q) hm4q d
                      rw [HDA.out] at h1
                      exact h1
                    have f0 : w4.cell? ⟨g, off, none⟩ = some (.int .i8 d.x) := by rw [HBR4.out.cell (p := ⟨_, _, none⟩) hgl]; exact hat.1
                    have f1 : w4.cell? ⟨g, off + 1, none⟩ = some (.int .i8 d.y) := by rw [HBR4.out.cell (p := ⟨_, _, none⟩) hgl]; exact hat.2
                    clear hat
                    go_upto_region 17 with fail
                    clear hk4
                    go_still_tail 8, (by kernel_rfl)
                    change wpList _ _ _ _ _ w4.drew
                    try rw [hwr]
                    clear hwr hk5 f0 f1
                    have hm4d : MapAt w4.drew W2.heap.size (qkv q) := hm4q
                    have hz4 := HBR4.out.size
                    have hz24 := hb4.size
                    simp only [World.size_alloc] at hz24
                    have hq4 := HQ.out.below HBR4.out (Nat.le_refl _)
                    have hq4d : OffRow w4.drew (W2.heap.size + 1) 35 2 (.slice (some ⟨g, off, none⟩) (q.length - k) cap) (q.length - k) (flat Ce.cells ((qcs q).drop k)) g := hq4
                    have HQ4 := Lib.hid hq4d
                    have E0 := Lib.hid e0
                    have E1 := Lib.hid e1
                    clear e0 e1 hq4 hq4d hm4q
                    have HK := Lib.hid (fun (w5 : World) (hm5 : MapAt w5 W2.heap.size (mput nx (.int .i64 (dd + 1)) (qkv q))) (hg5 : w4.drew.grownBy w5 (some W2.heap.size)) (hz5 : w5.heap.size = w4.drew.heap.size) => show w5.cell? ⟨w2.heap.size, 0, none⟩ = some (.int .i8 nx.x) ∧ w5.cell? ⟨w2.heap.size, 1, none⟩ = some (.int .i8 nx.y) ∧ OffRow w5 (W2.heap.size + 1) 35 2 (.slice (some ⟨g, off, none⟩) (q.length - k) cap) (q.length - k) (flat Ce.cells ((qcs q).drop k)) g ∧ Below W2.heap.size W2 w5 ∧ MapAt w5 W2.heap.size (qkv (q ++ [(nx, dd + 1)])) ∧ w2.heap.size < w5.heap.size ∧ W2.heap.size < w5.heap.size from by
                      rw [mput_qkv nx (dd + 1) q G1.out] at hm5
                      have hz5' : w5.heap.size = w4.heap.size := hz5
                      have x0 : w5.cell? ⟨w2.heap.size, 0, none⟩ = some (.int .i8 nx.x) := hg5.cell E0.out (by simp; omega)
                      have x1 : w5.cell? ⟨w2.heap.size, 1, none⟩ = some (.int .i8 nx.y) := hg5.cell E1.out (by simp; omega)
                      have hq5 := HQ4.out.kept hg5 (by simp; omega)
                      have hb5 : Below W2.heap.size W2 w5 := bl_grown (bl_drew HBL4.out) hg5 (fun j hj => by cases hj; exact Nat.le_refl _)
                      have hlt2 : w2.heap.size < w5.heap.size := by omega
                      have HQ5 := Lib.hid hq5
                      have HB5 := Lib.hid hb5
                      have HM5 := Lib.hid hm5
                      have hmlt := map_lt hm5
                      exact ⟨x0, x1, hq5, hb5, hm5, hlt2, map_lt hm5⟩)
                    have HE := E0
                    go_wp2_with (first | (at_mapUpdate; refine wpList_update_ce _ rfl _ _ _ 71 rfl hcty Try.underlying71 _ _ rfl hm4d nx (.int .i64 (dd + 1)) rfl rfl ?_; intro w5 hm5 hg5 hz5; obtain ⟨x0, x1, hq5, hb5, hm6, hlt2, hmlt⟩ := HK.out w5 hm5 hg5 hz5; have HQ5 := Lib.hid hq5; have HB5 := Lib.hid hb5; have HM5 := Lib.hid hm6; clear hq5 hb5 hm5 hm6 hg5 hz5 hm4d) | (at_builtin; refine wpList_append_off _ rfl _ _ 46 rfl (W2.heap.size + 1) 35 i0 (.agg #[.int .i8 0, .int .i8 0]) 2 2 Try.underlying46 hi hiz0 hiz1 hiz2 rfl (by decide) _ _ _ g rfl (HQ5.out.below (bl_alloc (Below.refl _ _)) (Nat.le_refl _)) ⟨_, 0, none⟩ 1 1 [.int .i8 nx.x, .int .i8 nx.y] rfl (sl_new _ #[.int .i8 nx.x, .int .i8 nx.y] _) rfl (Ce.one nx) (by unfold maxLen; omega) (by omega) (by simp; omega) ?_; intro v1 w6 g' hown1 hgrow))
                    have hb6 : Below W2.heap.size W2 w6 := bl_grown (bl_alloc HB5.out) hgrow (fun j hj => by cases hj; omega)
                    refine ⟨⟨m + 1, g', by omega, by go_num, ?_, ?_, hb6⟩, by simp [intOf]; omega⟩
                    · show OffRow _ _ _ _ _ ((bq l c (4 * k + m + 1)).length - k) (flat Ce.cells ((qcs (bq l c (4 * k + m + 1))).drop k)) g'
                      rw [HS.out, qcs_snoc, List.length_append, List.drop_append_of_le_length (by rw [qcs_len]; omega), flat_append]
                      rw [show q.length + [(nx, dd + 1)].length - k = q.length - k + 1 by simp; omega]
                      exact hown1
                    · show MapAt _ _ (qkv (bq l c (4 * k + m + 1)))
                      rw [HS.out]
                      obtain ⟨es, clock, h1, h2⟩ := map_alloc HM5.out (.cells #[.int .i8 nx.x, .int .i8 nx.y] 35)
                      exact ⟨es, clock, by rw [hgrow.block _ (by simp; omega) (by simp; omega)]; exact h1, h2⟩
                · rw [g2] at H1 hfx
                  have H1 := Lib.hid H1
                  have HS := Lib.hid (HNO.out (.inl (by rw [hfx]; rfl)))
                  clear g1' hfx hlx
                  go_wp2_with fail
                  refine (HNX.out _).mono ?_
                  rintro e w2 ⟨rfl, hb2⟩
                  have hbl2 : Below W2.heap.size W2 (w2.alloc (.cells #[.int .i8 nx.x, .int .i8 nx.y] 35)) := bl_alloc (bl_trans hb hb2)
                  have hbr2 : Below wr.heap.size wr (w2.alloc (.cells #[.int .i8 nx.x, .int .i8 nx.y] 35)) := bl_alloc hb2
                  have hm3 := map_below HM.out hbr2 (map_lt HM.out)
                  have hk3 : (Instr.lookup 71 (.map (some W2.heap.size)) (.agg #[.int .i8 nx.x, .int .i8 nx.y]) true).run Try.prog (w2.alloc (.cells #[.int .i8 nx.x, .int .i8 nx.y] 35)) = _ := run_far_ok hm3 nx
                  have HBL2 := Lib.hid hbl2
                  have HBR2 := Lib.hid hbr2
                  have hz2 := hb2.size
                  clear hbl2 hbr2 hm3
                  rw [g1] at hk3
                  go_wp2_with fail
                  refine (H1.out _ HBL2.out).mono ?_
                  rintro e w4 ⟨rfl, hb4⟩
                  have HBL4 := Lib.hid (bl_trans HBL2.out hb4)
                  have HBR4 := Lib.hid (bl_trans HBR2.out hb4)
                  have hmk4 := map_below HMR.out HBL4.out (map_lt HMR.out)
                  have hk4 : (Instr.lookup 98 (.map (some (w.heap.size + 1))) (.agg #[.int .i8 nx.x, .int .i8 nx.y]) false).run Try.prog w4 = _ := run_mark hmk4 nx
                  have e0 : w4.cell? ⟨w2.heap.size, 0, none⟩ = some (.int .i8 nx.x) := by rw [hb4.cell (p := ⟨_, _, none⟩) (by simp), cell_of_row _ _ _ _ _ _ (heap_alloc_new w2 _)]; rfl
                  have e1 : w4.cell? ⟨w2.heap.size, 1, none⟩ = some (.int .i8 nx.y) := by rw [hb4.cell (p := ⟨_, _, none⟩) (by simp), cell_of_row _ _ _ _ _ _ (heap_alloc_new w2 _)]; rfl
                  clear hk4
                  go_wp2
                  refine ⟨⟨m + 1, g, by omega, by go_num, ?_, ?_, HBL4.out⟩, by simp [intOf]; omega⟩
                  · show OffRow _ _ _ _ _ ((bq l c (4 * k + m + 1)).length - k) (flat Ce.cells ((qcs (bq l c (4 * k + m + 1))).drop k)) g
                    rw [HS.out]
                    exact HQ.out.below HBR4.out (Nat.le_refl _)
                  · show MapAt _ _ (qkv (bq l c (4 * k + m + 1)))
                    rw [HS.out]
                    exact map_below HM.out HBR4.out (map_lt HM.out)
            · have hm4' : m = 4 := by omega
              subst hm4'
              obtain ⟨off, cap, rfl, slq, hcap, hmax⟩ := hq.sl
              have hml := mapLen_eq hm
              rw [qkv_len] at hml
              have hgr := bq_mono l c (4 * k) 4
              have HSN := Lib.hid (show bq l c (4 * (k + 1)) = bq l c (4 * k + 4) from rfl)
              have HQ := Lib.hid hq
              have HM := Lib.hid hm
              have hcp : 1 ≤ cap := by omega
              clear slq hq hm
              go_wp2
              have hqt : OffRow wr (W2.heap.size + 1) 35 2 (Value.slice (if cap = 1 then some { block := g, off := off } else some { block := g, off := off + 2 }) ((bq l c (4 * k + 4)).length - k - 1) (cap - 1)) ((bq l c (4 * (k + 1))).length - (k + 1)) (flat Ce.cells ((qcs (bq l c (4 * (k + 1)))).drop (k + 1))) g := by
                rw [HSN.out, show (bq l c (4 * k + 4)).length - (k + 1) = (bq l c (4 * k + 4)).length - k - 1 by omega]
                refine OffRow.tail (A := Ce.cells ((qcs (bq l c (4 * k + 4)))[k]'(by rw [qcs_len]; omega))) ?_ rfl (by omega) hcap
                rw [← flat_cons, ← List.drop_eq_getElem_cons]
                exact HQ.out
              refine ⟨⟨k + 1, g, by rw [HSN.out]; omega, hqt, by rw [HSN.out]; exact HM.out, hb⟩, ?_⟩
              rw [hml, HMES.out, qkv_len]
              simp only [slLen]
              omega
        · have hke := HEQ.out k (by omega) (by omega)
          rw [hke] at hm
          have hln0 : (bq l c (4 * k)).length - k = 0 := by omega
          have HBE := Lib.hid (bl_trans hbwr.out hb)
          have HME := Lib.hid hm
          clear hke hm hq slq
          go_wp2
          go_ret
          exact ⟨_, rfl, by have := hbwr.out.size; omega, HME.out, HBE.out⟩
end Go.Proofs.Ytoldmgpdcenmhaa
