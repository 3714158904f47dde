/- Contracts: the reference's distances. -/
import Derived.Test.YtoldmgpdcenmhaaBfs
import Derived.Test.YtoldmgpdcenmhaaFInt64
import Derived.Test.YtoldmgpdcenmhaaL3
import Derived.Deep.RegionHeld
import Derived.StillTailTactics
import Derived.Laws.MakeOwn
namespace Go.Proofs.Ytoldmgpdcenmhaa
open Go.RowKit
set_option linter.unusedVariables false
set_option linter.unusedSimpArgs false
set_option maxHeartbeats 400000
set_option maxRecDepth 100000
theorem flat_n64 (xs : List Int) : flat N64_cells xs = xs.map (Value.int .i64) := by
  induction xs with
  | nil => rfl
  | cons x xs ih => rw [flat_cons, ih]; rfl
theorem madeCells_i64 (n : Nat) : (madeCells (Value.int .i64 0).cells (n * 1)).toList = flat N64_cells (List.replicate n 0) := by
  rw [flat_n64]
  apply List.ext_getElem
  · simp [madeCells]
  · intro i h1 h2
    simp [madeCells, Value.cells, Nat.mod_one]
theorem run_make_i64 (n : Nat) (hn : n ≤ 100000) (w : World) : (Instr.makeSlice 28 (.int .i64 (n : Int)) (.int .i64 (n : Int))).run Try.prog w = .ok (.slice (some ⟨w.heap.size, 0, none⟩) n n) (w.alloc (.cells (madeCells (Value.int .i64 0).cells (n * 1)) 2)) := by
  obtain ⟨i0, hi, hz0, hz1, hz2⟩ := info_parts Try.infoInt64
  have h := run_make (P := Try.prog) w 28 2 i0 (.int .i64 0) Try.underlying28 hi hz0 .i64 .i64 n n (by omega) (by omega) (by rw [hz2]; omega) (by omega)
  rw [hz1] at h
  simpa using h
theorem l05Index_any (b : Nat) (l : Bd) (c : Ce) (w : World) (h : BP w b l) (hc : fr l c = true) (hw : l.wd ≤ 24) (hh : l.hg ≤ 24) :
    Calls Try.prog 60 #[.pointer (some ⟨b, 0, none⟩), c.val] w fun e w' => e = .returned (.int .i64 (idx l c)) ∧ Below w.heap.size w w' := by
  obtain ⟨hbl, s, hbd, -⟩ := h
  unfold BdAt at hbd
  obtain ⟨b1, b2, b3, b4⟩ := fr_in l c hc
  have hm1 : 0 ≤ c.y * l.wd := Int.mul_nonneg b3 (by omega)
  have hm2 : c.y * l.wd ≤ 24 * 24 := Int.mul_le_mul (by omega) hw (by omega) (by omega)
  have hne : b ≠ w.heap.size := by omega
  have HI := Lib.hid (show idx l c = c.y * l.wd + c.x from rfl)
  clear hc
  go_enter Try.func60, Try.ntmps60
  go_wp2
  go_quiet (fail)
  go_wp2
  go_ret
  exact ⟨by rw [HI.out]; rfl, (by repeat (first | with_reducible exact Below.refl _ _ | with_reducible assumption | with_reducible apply bl_drewN | with_reducible apply bl_drew | with_reducible apply bl_alloc | (with_reducible refine bl_set ?_ (by first | (simp; done) | (simp; omega)) _) | with_reducible refine bl_trans ?_ (by with_reducible assumption)))⟩
theorem own_set {w : World} {base e g n cap : Nat} {xs : List Int} (h : w.ownsRow base e 1 (.slice (some ⟨g, 0, none⟩) n cap) n (flat N64_cells xs)) (j : Nat) (u : Int) : (w.setCell ⟨g, j, none⟩ (.int .i64 u)).ownsRow base e 1 (.slice (some ⟨g, 0, none⟩) n cap) n (flat N64_cells (xs.set j u)) := by
  rw [flat_n64] at *
  have := (h.stored j (.int .i64 u)).1
  rwa [List.map_set]
theorem own_read {w : World} {base e g n cap : Nat} {xs : List Int} (h : w.ownsRow base e 1 (.slice (some ⟨g, 0, none⟩) n cap) n (flat N64_cells xs)) (j : Nat) (u : Int) (hj : xs[j]? = some u) (hn : xs.length = n) : w.cell? ⟨g, j, none⟩ = some (.int .i64 u) := by
  have hl : j < n := by
    have := (List.getElem?_eq_some_iff.1 hj).1
    omega
  rw [h.cellAt j (by omega), flat_n64, List.getElem?_map, hj]
  rfl
theorem fill_set (N j : Nat) (h : j < N) : (List.replicate j (-1 : Int) ++ List.replicate (N - j) 0).set j (-1) = List.replicate (j + 1) (-1) ++ List.replicate (N - (j + 1)) 0 := by
  apply List.ext_getElem
  · simp; omega
  · intro i h1 h2
    simp only [List.getElem_set, List.getElem_append, List.length_replicate, List.getElem_replicate]
    by_cases e : j = i
    · subst e; simp
    · by_cases e2 : i < j
      · simp [e, e2, show i < j + 1 by omega]
      · simp [e, e2, show ¬ i < j + 1 by omega]
theorem nxt_ok (c : Ce) (hc : c.ok) (s : Int) : (nxt c s).ok := by
  obtain ⟨h1, h2⟩ := hc
  have hw : ∀ n, I8 (w8 n) := fun n => by rw [w8_eq]; constructor <;> split <;> omega
  unfold nxt
  repeat' split
  all_goals exact ⟨by first | exact h1 | exact hw _, by first | exact h2 | exact hw _⟩
theorem stepq_len (l : Bd) (q : List (Ce × Int)) (k : Nat) (s : Int) : q.length ≤ (stepq l q k s).length := by
  unfold stepq
  split
  · split
    · simp
    · exact Nat.le_refl _
  · exact Nat.le_refl _
theorem bq_mono (l : Bd) (c : Ce) (n m : Nat) : (bq l c n).length ≤ (bq l c (n + m)).length := by
  induction m with
  | zero => exact Nat.le_refl _
  | succ m ih => exact Nat.le_trans ih (stepq_len _ _ _ _)
/-- The own row of distances, the own row of cells to visit. -/
def FarAt (w : World) (B g N : Nat) (l : Bd) (q : List (Ce × Int)) (v : Value) : Prop :=
  w.ownsRow B 2 1 (.slice (some ⟨g, 0, none⟩) N N) N (flat N64_cells (outL l q)) ∧ w.ownsRow (g + 1) 35 2 v q.length (flat Ce.cells (qcs q))
set_option maxHeartbeats 1600000 in
theorem l05Far_any (b : Nat) (l : Bd) (c : Ce) (w : World) (h : BP w b l) (hok : l.ok) (hn : l.ps.length ≤ 10000000) (hc : fr l c = true) (hw : l.wd ≤ 24) (hh : l.hg ≤ 24) :
    Calls Try.prog 33 #[.pointer (some ⟨b, 0, none⟩), c.val] w fun e w' => ∃ v, e = .returned v ∧ w'.ownsRow w.heap.size 2 1 v (outL l (bfs l c)).length (flat N64_cells (outL l (bfs l c))) ∧ Below w.heap.size w w' := by
  have h0 := h
  obtain ⟨hbl, s, hbd, -⟩ := h
  unfold BdAt at hbd
  obtain ⟨b1, b2, b3, b4⟩ := fr_in l c hc
  obtain ⟨N, hN⟩ : ∃ N : Nat, N = l.hg.toNat * l.wd.toNat := ⟨_, rfl⟩
  have hNi : l.wd * l.hg = (N : Int) := by
    rw [hN, Int.natCast_mul, Int.toNat_of_nonneg (by omega), Int.toNat_of_nonneg (by omega), Int.mul_comm]
  have hN1 : N ≤ 576 := by
    have : l.hg.toNat * l.wd.toNat ≤ 24 * 24 := Nat.mul_le_mul (by omega) (by omega)
    omega
  have hmk := Lib.hid (run_make_i64 N (by omega))
  have HN := Lib.hid hN
  have HFREE := Lib.hid (fun (d : Ce) (hd : d.ok) (w' : World) (hb : BP w' b l) => l05Free_any b l d w' hb hok hd hn)
  have HIDX := Lib.hid (fun (d : Ce) (hd : fr l d = true) (w' : World) (hb : BP w' b l) => l05Index_any b l d w' hb hd hw hh)
  have HLEN := Lib.hid (fun n => bq_len l c hc n hw hh)
  have HG := Lib.hid (fun n => goodq_bq l c hc n)
  have HIN := Lib.hid (fun (d : Ce) (hd : fr l d = true) => show 0 ≤ idx l d ∧ (idx l d).toNat < N by
    have hb := fr_in l d hd
    obtain ⟨x, y, e, h1, h2, h3, h4⟩ := idx_nat l d l.wd.toNat l.hg.toNat (by omega) (by omega) hd
    rw [h3, hN]
    exact ⟨Int.natCast_nonneg _, by rw [Int.toNat_natCast]; exact h4⟩)
  have HF := Lib.hid hc
  have HB0 := Lib.hid h0
  have HEQ := Lib.hid (fun k (h1 : k ≤ 600) (h2 : (bq l c (4 * k)).length ≤ k) => show outL l (bq l c (4 * k)) = outL l (bfs l c) by rw [bfs_end l c k h1 h2])
  have hfl := outL_len l (bfs l c)
  generalize outL l (bfs l c) = fin at HEQ hfl ⊢
  rw [← hN] at hfl
  clear hN h0 hc
  obtain ⟨i0, hi, hiz0, hiz1, hiz2⟩ := info_parts Try.infoCell
  have hmk2 : ∀ W : World, (Instr.makeSlice 28 (.int .i64 (l.wd * l.hg)) (.int .i64 (l.wd * l.hg))).run Try.prog W = .ok (.slice (some ⟨W.heap.size, 0, none⟩) N N) (W.alloc (.cells (madeCells (Value.int .i64 0).cells (N * 1)) 2)) := by
    intro W; rw [hNi]; exact hmk.out W
  have hp0 : -9223372036854775808 ≤ l.wd * l.hg := by omega
  have hp1 : l.wd * l.hg ≤ 9223372036854775807 := by omega
  obtain ⟨A, hA⟩ : ∃ A : Array Value, A = madeCells (Value.int .i64 0).cells (N * 1) := ⟨_, rfl⟩
  have HA := Lib.hid (show A.toList = flat N64_cells (List.replicate N 0) by rw [hA]; exact madeCells_i64 N)
  have HAs := Lib.hid (show A.size = N * 1 by rw [hA]; exact size_madeCells _ _)
  rw [← hA] at hmk2
  clear hA
  have hne : b ≠ w.heap.size := by omega
  have e0 : (w.alloc (.cells #[.int .i8 c.x, .int .i8 c.y] 35)).cell? ⟨b, 0, none⟩ = some (.int .i8 l.wd) := by rw [cell_alloc _ _ _ _ hbl]; exact hbd.1
  have e1 : (w.alloc (.cells #[.int .i8 c.x, .int .i8 c.y] 35)).cell? ⟨b, 1, none⟩ = some (.int .i8 l.hg) := by rw [cell_alloc _ _ _ _ hbl]; exact hbd.2.1
  go_enter Try.func33, Try.ntmps33
  go_wp2
  have hbw1 : Below w.heap.size w (w.alloc (.cells #[.int .i8 c.x, .int .i8 c.y] 35)) := bl_alloc (Below.refl _ _)
  have hz1 : (w.alloc (.cells #[.int .i8 c.x, .int .i8 c.y] 35)).heap.size = w.heap.size + 1 := by simp
  have d0 : (w.alloc (.cells #[.int .i8 c.x, .int .i8 c.y] 35)).cell? ⟨w.heap.size, 0, none⟩ = some (.int .i8 c.x) := by rw [cell_of_row _ _ _ _ _ _ (heap_alloc_new w _)]; rfl
  have d1 : (w.alloc (.cells #[.int .i8 c.x, .int .i8 c.y] 35)).cell? ⟨w.heap.size, 1, none⟩ = some (.int .i8 c.y) := by rw [cell_of_row _ _ _ _ _ _ (heap_alloc_new w _)]; rfl
  generalize w.alloc (.cells #[.int .i8 c.x, .int .i8 c.y] 35) = w1 at *
  go_still_tail 11, (by kernel_rfl)
  change wpList _ _ _ _ _ w1.drew
  go_wp2
  rw [hmk2]
  have hwd : IntKind.i64.wrap l.wd = l.wd := by rw [IntKind.wrap_i64]; omega
  have hhg : IntKind.i64.wrap l.hg = l.hg := by rw [IntKind.wrap_i64]; omega
  have hpr : IntKind.i64.wrap (l.wd * l.hg) = l.wd * l.hg := by rw [IntKind.wrap_i64]; omega
  simp only [hwd, hhg, hpr]
  clear hwd hhg hpr
  go_wp2
  have l0 : w.heap.size < w1.heap.size := by omega
  go_loopw [6] (fun i wr => ∃ j : Nat, j ≤ N ∧ i = .int .i64 j ∧ wr.ownsRow (w.heap.size + 1) 2 1 (.slice (some ⟨w.heap.size + 1, 0, none⟩) N N) N (flat N64_cells (List.replicate j (-1) ++ List.replicate (N - j) 0)) ∧ Below w1.heap.size w1 wr) (fun i _ => N - (intOf i).toNat)
  case atStart =>
    refine ⟨0, by omega, rfl, ?_, (by repeat (first | with_reducible exact Below.refl _ _ | with_reducible assumption | with_reducible apply bl_drewN | with_reducible apply bl_drew | with_reducible apply bl_alloc | (with_reducible refine bl_set ?_ (by first | (simp; done) | (simp; omega)) _) | with_reducible refine bl_trans ?_ (by with_reducible assumption)))⟩
    have h1 := (World.ownsRow_lit (base := w.heap.size + 1) (e := 2) (size := 1) w1 A N (by omega) (by unfold maxLen; omega) HAs.out).drew
    rw [HA.out, hz1] at h1
    simpa using h1
  case round =>
    obtain ⟨j, hj, rfl, hown, hb⟩ := hrel
    by_cases hlt : j < N
    · obtain ⟨⟨v0, c0⟩, f0⟩ := own_cell hown (j := j) (by omega)
      go_wp2
      have hown2 := own_set hown j (-1)
      rw [fill_set N j hlt] at hown2
      have hb2 : Below w1.heap.size w1 (wr.setCell ⟨w.heap.size + 1, j, none⟩ (.int .i64 (-1))) := hb.setCell (by simp; omega) _
      clear c0 f0
      refine ⟨⟨j + 1, by omega, by go_num, hown2, hb2⟩, by simp [intOf]; omega⟩
    · have hjn : j = N := by omega
      subst hjn
      have hown : wr.ownsRow (w.heap.size + 1) 2 1 (.slice (some ⟨w.heap.size + 1, 0, none⟩) j j) j (flat N64_cells (outL l [])) := by
        rw [outL_nil, ← HN.out]; simpa using hown
      obtain ⟨hc, hf⟩ := bcell hb
      have hzr := hb.size
      have hbw := bl_trans hbw1 hb
      have HBR := Lib.hid (HB0.out.step hbw)
      have hbl2 : b < wr.heap.size := by omega
      have ho1 := (hown.lt _ rfl).2
      have hne1 : w.heap.size ≠ wr.heap.size := by omega
      have hne2 : w.heap.size < wr.heap.size := by omega
      have hne3 : w.heap.size < wr.heap.size + 1 := by omega
      obtain ⟨ix1, ix2⟩ := HIN.out c HF.out
      have HX := Lib.hid (fun (w' : World) (hb' : Below wr.heap.size wr w') => HIDX.out c HF.out w' (HBR.out.step hb'))
      have HO0 := Lib.hid (outL_snoc l [] c 0 HF.out (by simp [qcs]))
      go_wp2_with fail
      refine (HX.out _ (by repeat (first | with_reducible exact Below.refl _ _ | with_reducible assumption | with_reducible apply bl_drewN | with_reducible apply bl_drew | with_reducible apply bl_alloc | (with_reducible refine bl_set ?_ (by first | (simp; done) | (simp; omega)) _) | with_reducible refine bl_trans ?_ (by with_reducible assumption)))).mono ?_
      rintro e w3 ⟨rfl, hb3⟩
      have hbr3 : Below wr.heap.size wr w3 := (by repeat (first | with_reducible exact Below.refl _ _ | with_reducible assumption | with_reducible apply bl_drewN | with_reducible apply bl_drew | with_reducible apply bl_alloc | (with_reducible refine bl_set ?_ (by first | (simp; done) | (simp; omega)) _) | with_reducible refine bl_trans ?_ (by with_reducible assumption)))
      have hown3 := own_below hown hbr3 (Nat.le_refl _)
      have hq3 : w3.ownsRow (w.heap.size + 2) 35 2 (.slice (some ⟨wr.heap.size, 0, none⟩) 1 1) 1 (flat Ce.cells [c]) := own_below (own_newAt wr #[.int .i8 c.x, .int .i8 c.y] 35 2 (w.heap.size + 2) wr.heap.size rfl (by omega) rfl _ rfl) hb3 (Nat.le_refl _)
      have HOWN3 := Lib.hid hown3
      obtain ⟨⟨v0, c0⟩, f0⟩ := own_cell hown3 (j := (idx l c).toNat) (by omega)
      clear hown hown3 hc hf
      go_wp2
      have hown4 := own_set HOWN3.out (idx l c).toNat 0
      rw [← HO0.out] at hown4
      have hq4 := own_kept hq3 ((HOWN3.out.stored (idx l c).toNat (.int .i64 0)).2) (by intro k hk e; have h1 : some wr.heap.size = some k := hk; rw [← h1] at e; simp at e; omega)
      have hb4 : Below w1.heap.size w1 (w3.setCell ⟨w.heap.size + 1, (idx l c).toNat, none⟩ (.int .i64 0)) := (hb.trans (hbr3.mono hzr)).setCell (by simp; omega) _
      have hfar : FarAt (w3.setCell ⟨w.heap.size + 1, (idx l c).toNat, none⟩ (.int .i64 0)) (w.heap.size + 1) (w.heap.size + 1) j l (bq l c 0) (.slice (some ⟨wr.heap.size, 0, none⟩) 1 1) := ⟨hown4, hq4⟩
      clear c0 f0 hown4 hq4 hq3
      have HFAR := Lib.hid hfar
      have HB4 := Lib.hid hb4
      clear hne1 hne2 hne3 hfar hb4 HOWN3 HO0 HX HBR hbl2 ho1 ix1 ix2 hb3 hbr3 hb hbw hzr
      generalize (w3.setCell ⟨w.heap.size + 1, (idx l c).toNat, none⟩ (.int .i64 0)) = w4 at HFAR HB4 ⊢
      go_loopw [7, 8] (fun v i wr => ∃ k : Nat, k ≤ (bq l c (4 * k)).length ∧ i = .int .i64 k ∧ FarAt wr (w.heap.size + 1) (w.heap.size + 1) j l (bq l c (4 * k)) v ∧ Below w1.heap.size w1 wr) (fun _ i _ => 600 - (intOf i).toNat)
      case atStart => exact ⟨0, by simp, rfl, HFAR.out, HB4.out⟩
      case round =>
        clear HFAR HB4
        obtain ⟨k, hk, rfl, ⟨ho, hq⟩, hb⟩ := hrel
        have hkl := HLEN.out (4 * k)
        obtain ⟨aq, capq, rfl, slq, -, -⟩ := own_at hq
        by_cases hlt : k < (bq l c (4 * k)).length
        · have hlt' : (k : Int) < (bq l c (4 * k)).length := by omega
          go_wp2
          go_loopw [7, 9] (fun v s wr => ∃ m : Nat, m ≤ 4 ∧ s = .int .i64 m ∧ FarAt wr (w.heap.size + 1) (w.heap.size + 1) j l (bq l c (4 * k + m)) v ∧ Below w1.heap.size w1 wr) (fun _ s _ => 4 - (intOf s).toNat)
          case atStart => exact ⟨0, by omega, rfl, ⟨ho, hq⟩, hb⟩
          case round =>
            clear ho hq hb slq
            obtain ⟨m, hm, rfl, ⟨ho, hq⟩, hb⟩ := hrel
            by_cases hlm : m < 4
            · have hkl2 := HLEN.out (4 * k + m)
              have hgq := HG.out (4 * k + m)
              have hkq : k < (bq l c (4 * k + m)).length := Nat.lt_of_lt_of_le hlt (bq_mono _ _ _ _)
              have HNXT := Lib.hid (bq_next l c k m hlm)
              have HEND := Lib.hid hlt
              obtain ⟨q, hqe⟩ : ∃ q, q = bq l c (4 * k + m) := ⟨_, rfl⟩
              rw [← hqe] at ho hq hkl2 hgq hkq HNXT
              clear hqe
              obtain ⟨aq, capq, rfl, slq, -, -⟩ := own_at hq
              have hkq2 : k < (qcs q).length := by rw [qcs_len]; exact hkq
              obtain ⟨b', off, rfl, hbl', hat⟩ := ces_get slq hkq2
              rw [qcs_get q k hkq] at hat
              unfold CeAt at hat
              have hfd : fr l q[k].1 = true := hgq.2.1 _ (List.getElem_mem hkq)
              have hdd := hgq.2.2.1 k hkq
              have hda : dOf q q[k].1 = q[k].2 := by unfold dOf; rw [dOf_at l c q hgq k hkq]; rfl
              have hdq : q[k].1 ∈ qcs q := List.mem_map.2 ⟨_, List.getElem_mem hkq, rfl⟩
              have hb'2 : w.heap.size + 1 + 1 ≤ b' := by
                rcases id hq.2 with ⟨h', _⟩ | ⟨g', _, _, h', hb', _⟩
                · cases h'
                · cases h'; exact hb'
              have HNO := Lib.hid (fun hn => HNXT.out.trans (stepq_no l q k m hkq hn))
              have HYES := Lib.hid (fun h1 h2 => HNXT.out.trans (stepq_yes l q k m hkq h1 h2))
              obtain ⟨d, hd⟩ : ∃ d, d = q[k].1 := ⟨_, rfl⟩
              obtain ⟨dd, hdv⟩ : ∃ dd, dd = q[k].2 := ⟨_, rfl⟩
              rw [← hd] at hat hfd hda HNO HYES hdq
              have HDQ := Lib.hid hdq
              clear hdq
              rw [← hdv] at hdd hda HYES
              obtain ⟨dd1, dd2⟩ := hdd
              have hdb := fr_in l d hfd
              have hdok : d.ok := ⟨by constructor <;> omega, by constructor <;> omega⟩
              have hnxo := nxt_ok d hdok m
              have HNX := Lib.hid (fun w' => l01Next_any d m (by omega) (by omega) w')
              generalize nxt d m = nx at HNO HYES hnxo HNX
              have H1 : ∀ w' (h : Below w1.heap.size w1 w'), Calls Try.prog 62 #[.pointer (some ⟨b, 0, none⟩), nx.val] w' fun e w'' => e = .returned (.bool (fr l nx)) ∧ Below w'.heap.size w' w'' := fun w' h => HFREE.out nx hnxo w' (HB0.out.step (bl_trans hbw1 h))
              have HHO := Lib.hid ho
              have HHQ := Lib.hid hq
              have HGQ := Lib.hid hgq
              have HDA := Lib.hid hda
              have HFD := Lib.hid hfd
              have hbq : b' < wr.heap.size := hbl'
              have hzb := hb.size
              have hqn : q.length ≤ 576 := hkl2
              clear hgq hda hd hdv hkq2 slq hdok hnxo hdb hkl hkl2
              rcases Bool.eq_false_or_eq_true (fr l nx) with g1 | g1
              · rw [g1] at H1
                have H1 := Lib.hid H1
                have G1 := Lib.hid g1
                obtain ⟨ix1, ix2⟩ := HIN.out nx g1
                have HX := Lib.hid (fun (w' : World) (h : Below w1.heap.size w1 w') => HIDX.out nx G1.out w' (HB0.out.step (bl_trans hbw1 h)))
                have HXD := Lib.hid (fun (w' : World) (h : Below w1.heap.size w1 w') => HIDX.out d HFD.out w' (HB0.out.step (bl_trans hbw1 h)))
                obtain ⟨iy1, iy2⟩ := HIN.out d HFD.out
                have hrd := outL_get l q nx g1
                have hrdd := outL_get l q d HFD.out
                rw [HDA.out] at hrdd
                have HSN := Lib.hid (fun n h2 => outL_snoc l q nx n G1.out h2)
                have hneg := dOf_neg l c q HGQ.out nx
                have hbdd := dOf_bd l c q HGQ.out hqn nx
                have HNE := Lib.hid (show nx ∉ qcs q → (idx l nx).toNat ≠ (idx l d).toNat from fun h1 h2 => h1 ((idx_inj l nx d G1.out HFD.out (by omega)) ▸ HDQ.out))
                generalize idx l nx = ix at HX HSN ix1 ix2 hrd HNE
                generalize idx l d = iy at HXD iy1 iy2 hrdd HNE
                generalize dOf q nx = dn at hrd hneg hbdd
                have HNEG := Lib.hid hneg
                have HRD := Lib.hid hrd
                have HRDD := Lib.hid hrdd
                have holn := Lib.hid (outL_len l q)
                clear hneg hrd hrdd g1
                go_wp2_with fail
                refine (HNX.out _).mono ?_
                rintro e w2 ⟨rfl, hb2⟩
                have hbl2 : Below w1.heap.size w1 (w2.alloc (.cells #[.int .i8 nx.x, .int .i8 nx.y] 35)) := bl_alloc (bl_trans hb hb2)
                have hbr2 : Below wr.heap.size wr (w2.alloc (.cells #[.int .i8 nx.x, .int .i8 nx.y] 35)) := bl_alloc hb2
                have HBL2 := Lib.hid hbl2
                have HBR2 := Lib.hid hbr2
                have hz2 := hb2.size
                clear hbl2 hbr2
                go_wp2_with fail
                refine (H1.out _ HBL2.out).mono ?_
                rintro e w3 ⟨rfl, hb3⟩
                have HBL3 := Lib.hid (bl_trans HBL2.out hb3)
                have e0 : w3.cell? ⟨w2.heap.size, 0, none⟩ = some (.int .i8 nx.x) := by rw [hb3.cell (p := ⟨_, _, none⟩) (by simp), cell_of_row _ _ _ _ _ _ (heap_alloc_new w2 _)]; rfl
                have e1 : w3.cell? ⟨w2.heap.size, 1, none⟩ = some (.int .i8 nx.y) := by rw [hb3.cell (p := ⟨_, _, none⟩) (by simp), cell_of_row _ _ _ _ _ _ (heap_alloc_new w2 _)]; rfl
                go_wp2_with fail
                refine (HX.out _ HBL3.out).mono ?_
                rintro e w4 ⟨rfl, hb4⟩
                have HBL4 := Lib.hid (bl_trans HBL3.out hb4)
                have HBR4 := Lib.hid (bl_trans (bl_trans HBR2.out hb3) hb4)
                have hb24 := bl_trans hb3 hb4
                clear e0 e1
                have e0 : w4.cell? ⟨w2.heap.size, 0, none⟩ = some (.int .i8 nx.x) := by rw [hb24.cell (p := ⟨_, _, none⟩) (by simp), cell_of_row _ _ _ _ _ _ (heap_alloc_new w2 _)]; rfl
                have e1 : w4.cell? ⟨w2.heap.size, 1, none⟩ = some (.int .i8 nx.y) := by rw [hb24.cell (p := ⟨_, _, none⟩) (by simp), cell_of_row _ _ _ _ _ _ (heap_alloc_new w2 _)]; rfl
                have q0 : w4.cell? ⟨b', off + k * 2, none⟩ = some (.int .i8 d.x) := by rw [HBR4.out.cell (p := ⟨_, _, none⟩) hbq]; exact hat.1
                have q1 : w4.cell? ⟨b', off + k * 2 + 1, none⟩ = some (.int .i8 d.y) := by rw [HBR4.out.cell (p := ⟨_, _, none⟩) hbq]; exact hat.2
                have ho4 := own_below HHO.out HBR4.out (Nat.le_refl _)
                have hq4 := own_below HHQ.out HBR4.out (Nat.le_refl _)
                have r0 := own_read ho4 ix.toNat dn HRD.out (by rw [holn.out, ← HN.out])
                have r1 := own_read ho4 iy.toNat dd HRDD.out (by rw [holn.out, ← HN.out])
                have hz4 := HBR4.out.size
                have hz24 := hb24.size
                simp only [World.size_alloc] at hz24
                have HHO4 := Lib.hid ho4
                have HHQ4 := Lib.hid hq4
                obtain ⟨⟨v0, c0⟩, f0⟩ := own_cell ho4 (j := ix.toNat) (by omega)
                clear c0 hat hb2 hb3 hb4 hb24 ho4 hq4 ho hq
                rcases dec_cases (0 ≤ dn) with ⟨g2, g2'⟩ | ⟨g2, g2'⟩
                · have HS := Lib.hid (HNO.out (.inr (HNEG.out.1 g2')))
                  clear g2'
                  go_wp2
                  refine ⟨⟨m + 1, by omega, by go_num, ?_, HBL4.out⟩, by simp [intOf]; omega⟩
                  show FarAt _ _ _ _ _ (bq l c (4 * k + m + 1)) _
                  rw [HS.out]
                  exact ⟨HHO4.out, HHQ4.out⟩
                · have HNI := Lib.hid (show nx ∉ qcs q from fun h => g2' (HNEG.out.2 h))
                  clear g2'
                  have hwr : IntKind.i64.wrap (dd + 1) = dd + 1 := by rw [IntKind.wrap_i64]; omega
                  have ix3 : ix < (j : Int) := by omega
                  have iy3 : iy < (j : Int) := by omega
                  have n1 : w.heap.size + 1 ≠ w2.heap.size := by omega
                  have n2 : w.heap.size + 1 ≠ b' := by omega
                  have hixy : ix.toNat ≠ iy.toNat := HNE.out HNI.out
                  have l2 : w2.heap.size < w4.heap.size := by omega
                  have l3 : b' < w4.heap.size := by omega
                  have l4 : w.heap.size + 1 < w4.heap.size := (HHO4.out.lt _ rfl).2
                  go_upto_region 16 with fail
                  go_region_held3 (fun w' => w'.cell? ⟨w2.heap.size, 0, none⟩ = some (.int .i8 nx.x) ∧ w'.cell? ⟨w2.heap.size, 1, none⟩ = some (.int .i8 nx.y) ∧ w'.cell? ⟨b', off + k * 2, none⟩ = some (.int .i8 d.x) ∧ w'.cell? ⟨b', off + k * 2 + 1, none⟩ = some (.int .i8 d.y) ∧ w'.cell? ⟨w.heap.size + 1, iy.toNat, none⟩ = some (.int .i64 dd)) (go_keep) (first | (go_at_call 60; with_reducible refine (HX.out _ ?_).mono ?_; (exact bl_trans HBL4.out (by repeat (first | with_reducible exact Below.refl _ _ | with_reducible assumption | with_reducible apply bl_drewN | with_reducible apply bl_drew | with_reducible apply bl_alloc | (with_reducible refine bl_set ?_ (by first | (simp; done) | (simp; omega)) _) | with_reducible refine bl_trans ?_ (by with_reducible assumption)))); rintro e wa ⟨rfl, ba⟩; have bwa : Below w4.heap.size w4 wa := (by repeat (first | with_reducible exact Below.refl _ _ | with_reducible assumption | with_reducible apply bl_drewN | with_reducible apply bl_drew | with_reducible apply bl_alloc | (with_reducible refine bl_set ?_ (by first | (simp; done) | (simp; omega)) _) | with_reducible refine bl_trans ?_ (by with_reducible assumption))); obtain ⟨hca, hfa⟩ := bcell bwa) | (go_at_call 60; with_reducible refine (HXD.out _ ?_).mono ?_; (exact bl_trans HBL4.out (by repeat (first | with_reducible exact Below.refl _ _ | with_reducible assumption | with_reducible apply bl_drewN | with_reducible apply bl_drew | with_reducible apply bl_alloc | (with_reducible refine bl_set ?_ (by first | (simp; done) | (simp; omega)) _) | with_reducible refine bl_trans ?_ (by with_reducible assumption)))); rintro e wb ⟨rfl, bb⟩; have bwb : Below w4.heap.size w4 wb := (by repeat (first | with_reducible exact Below.refl _ _ | with_reducible assumption | with_reducible apply bl_drewN | with_reducible apply bl_drew | with_reducible apply bl_alloc | (with_reducible refine bl_set ?_ (by first | (simp; done) | (simp; omega)) _) | with_reducible refine bl_trans ?_ (by with_reducible assumption))); obtain ⟨hcb, hfb⟩ := bcell bwb; have k1 : ∀ v, (wb.setCell ⟨w.heap.size + 1, ix.toNat, none⟩ v).cell? ⟨w.heap.size + 1, iy.toNat, none⟩ = some (.int .i64 dd) := fun v => ((World.cell?_setCell_other wb ⟨w.heap.size + 1, ix.toNat, none⟩ ⟨w.heap.size + 1, iy.toNat, none⟩ v (fun e => absurd (congrArg Addr.off e) hixy)).trans (hcb _ _ l4)).trans r1))
                  try rw [hwr]
                  clear hwr
                  have ho5 := own_set (own_below HHO4.out bwb (Nat.le_refl _)) ix.toNat (dd + 1)
                  rw [← HSN.out (dd + 1) HNI.out] at ho5
                  have hq5 := own_kept (own_below HHQ4.out bwb (Nat.le_refl _)) (((own_below HHO4.out bwb (Nat.le_refl _)).stored ix.toNat (.int .i64 (dd + 1))).2) (by intro k hk e; have h1 := (HHQ4.out.lt k hk).1; simp at e; omega)
                  have hb5 : Below w1.heap.size w1 (wb.setCell ⟨w.heap.size + 1, ix.toNat, none⟩ (.int .i64 (dd + 1))) := (bl_trans HBL4.out bwb).setCell (by simp; omega) _
                  have x0 : (wb.setCell ⟨w.heap.size + 1, ix.toNat, none⟩ (.int .i64 (dd + 1))).cell? ⟨w2.heap.size, 0, none⟩ = some (.int .i8 nx.x) := ((World.cell?_setCell_far wb _ _ _ n1).trans (hcb _ _ l2)).trans e0
                  have x1 : (wb.setCell ⟨w.heap.size + 1, ix.toNat, none⟩ (.int .i64 (dd + 1))).cell? ⟨w2.heap.size, 1, none⟩ = some (.int .i8 nx.y) := ((World.cell?_setCell_far wb _ _ _ n1).trans (hcb _ _ l2)).trans e1
                  have hz5 : w4.heap.size ≤ (wb.setCell ⟨w.heap.size + 1, ix.toNat, none⟩ (.int .i64 (dd + 1))).heap.size := by have := bwb.size; simpa using this
                  have HO5 := Lib.hid ho5
                  have HQ5 := Lib.hid hq5
                  have HB5 := Lib.hid hb5
                  have HS := Lib.hid (HYES.out G1.out HNI.out)
                  clear ho5 hq5 hb5 hca hfa hcb hfb k1 ba bb bwa bwb r0 r1 q0 q1 e0 e1
                  obtain ⟨w5, hw5⟩ : ∃ w5, w5 = wb.setCell ⟨w.heap.size + 1, ix.toNat, none⟩ (.int .i64 (dd + 1)) := ⟨_, rfl⟩
                  rw [← hw5] at HO5 HQ5 HB5 x0 x1 hz5 ⊢
                  clear hw5
                  go_wp2_with (at_builtin; refine wpList_append_sl _ rfl _ _ 46 rfl (w.heap.size + 1 + 1) 35 i0 (.agg #[.int .i8 0, .int .i8 0]) 2 2 Try.underlying46 hi hiz0 hiz1 hiz2 rfl (by decide) _ _ _ rfl (own_below HQ5.out (bl_alloc (Below.refl _ _)) (Nat.le_refl _)) (some ⟨_, 0, none⟩) 1 1 [.int .i8 nx.x, .int .i8 nx.y] rfl (sl_new _ #[.int .i8 nx.x, .int .i8 nx.y] _) rfl (Ce.one nx) (by unfold maxLen; omega) (by omega) (by simp; omega) ?_; intro v1 w6 hown1 hgrow)
                  have hb6 : Below w1.heap.size w1 w6 := bl_grown (bl_alloc HB5.out) hgrow (fun k hk => by have := (HQ5.out.lt k hk).1; omega)
                  refine ⟨⟨m + 1, by omega, by go_num, ?_, hb6⟩, by simp [intOf]; omega⟩
                  show FarAt _ _ _ _ _ (bq l c (4 * k + m + 1)) _
                  rw [HS.out]
                  refine ⟨?_, ?_⟩
                  · exact own_kept (own_below HO5.out (bl_alloc (Below.refl _ _)) (Nat.le_refl _)) hgrow (by intro k hk e; have h1 := HQ5.out.lt k e.symm; have h2 : some (w.heap.size + 1) = some k := hk; simp at h2; omega)
                  · rw [List.length_append, qcs_snoc, flat_append]
                    exact hown1
              · rw [g1] at H1
                have H1 := Lib.hid H1
                have HS := Lib.hid (HNO.out (.inl g1))
                go_wp2_with fail
                refine (HNX.out _).mono ?_
                rintro e w2 ⟨rfl, hb2⟩
                have hbl2 : Below w1.heap.size w1 (w2.alloc (.cells #[.int .i8 nx.x, .int .i8 nx.y] 35)) := bl_alloc (bl_trans hb hb2)
                have hbr2 : Below wr.heap.size wr (w2.alloc (.cells #[.int .i8 nx.x, .int .i8 nx.y] 35)) := bl_alloc hb2
                have HBL2 := Lib.hid hbl2
                have HBR2 := Lib.hid hbr2
                clear hbl2 hbr2
                go_wp2_with fail
                refine (H1.out _ HBL2.out).mono ?_
                rintro e w3 ⟨rfl, hb3⟩
                go_wp2
                refine ⟨⟨m + 1, by omega, by go_num, ?_, bl_trans HBL2.out hb3⟩, by simp [intOf]; omega⟩
                show FarAt _ _ _ _ _ (bq l c (4 * k + m + 1)) _
                rw [HS.out]
                exact ⟨own_below HHO.out (bl_trans HBR2.out hb3) (Nat.le_refl _), own_below HHQ.out (bl_trans HBR2.out hb3) (Nat.le_refl _)⟩
            · have hm4 : m = 4 := by omega
              subst hm4
              go_wp2
              exact ⟨⟨k + 1, by have := bq_mono l c (4 * k) 4; rw [show 4 * (k + 1) = 4 * k + 4 by omega]; omega, by go_num, ⟨ho, hq⟩, hb⟩, by simp [intOf]; omega⟩
        · have hke := HEQ.out k (by omega) (by omega)
          have hok2 : wr.ownsRow w.heap.size 2 1 (.slice (some ⟨w.heap.size + 1, 0, none⟩) j j) fin.length (flat N64_cells fin) := by
            have h1 := own_mono ho (show w.heap.size ≤ w.heap.size + 1 by omega)
            rw [hke] at h1
            rwa [hfl]
          clear hke
          have HOK2 := Lib.hid hok2
          clear hok2 ho
          go_wp2
          go_ret
          exact ⟨_, rfl, HOK2.out, bl_trans hbw1 hb⟩
end Go.Proofs.Ytoldmgpdcenmhaa
