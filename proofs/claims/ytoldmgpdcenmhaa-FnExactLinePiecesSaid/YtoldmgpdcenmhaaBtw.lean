/- Contracts: the piece between two sides. -/
import Derived.Test.YtoldmgpdcenmhaaPath2
namespace Go.Proofs.Ytoldmgpdcenmhaa
open Go.RowKit
set_option linter.unusedVariables false
set_option linter.unusedSimpArgs false
set_option maxHeartbeats 400000
set_option maxRecDepth 100000
/-- Whether a piece of a kind, turned, falls from f and hits on g. -/
def okT (k t f g : Int) : Bool := decide (0 < hitsV k t f) && decide (hitsV k t f / 2 ^ g.toNat % 2 = 1)
def trn (k f g : Int) : Int := if okT k 0 f g = true then 0 else if okT k 1 f g = true then 1 else if okT k 2 f g = true then 2 else 3
def kd (f g : Int) : Int := if (f + 2) % 4 = g then 0 else 1
def btw (c : Ce) (f g : Int) : Pc := ⟨c.x, c.y, kd f g, trn (kd f g) f g, 1⟩
theorem okT_fin : ∀ f g : Fin 4, f ≠ g → (okT (kd ((f : Nat) : Int) ((g : Nat) : Int)) 0 ((f : Nat) : Int) ((g : Nat) : Int) || okT (kd ((f : Nat) : Int) ((g : Nat) : Int)) 1 ((f : Nat) : Int) ((g : Nat) : Int) || okT (kd ((f : Nat) : Int) ((g : Nat) : Int)) 2 ((f : Nat) : Int) ((g : Nat) : Int) || okT (kd ((f : Nat) : Int) ((g : Nat) : Int)) 3 ((f : Nat) : Int) ((g : Nat) : Int)) = true := by decide +kernel
theorem okT_some (f g : Int) (h1 : 0 ≤ f) (h2 : f ≤ 3) (h3 : 0 ≤ g) (h4 : g ≤ 3) (h5 : f ≠ g) : (okT (kd f g) 0 f g || okT (kd f g) 1 f g || okT (kd f g) 2 f g || okT (kd f g) 3 f g) = true := by
  have := okT_fin ⟨f.toNat, by omega⟩ ⟨g.toNat, by omega⟩ (by intro h; have := congrArg Fin.val h; simp at this; omega)
  simpa only [Int.toNat_of_nonneg h1, Int.toNat_of_nonneg h3] using this
theorem trn_hit (k f g : Int) (j : Nat) (h : j < 4) (h0 : ∀ i : Nat, i < j → okT k i f g = false) (h1 : okT k j f g = true) : trn k f g = j := by
  unfold trn
  match j, h with
  | 0, _ =>
    have e : okT k 0 f g = true := h1
    rw [if_pos e]; rfl
  | 1, _ =>
    have f0 : okT k 0 f g = false := h0 0 (by omega)
    have e : okT k 1 f g = true := h1
    rw [if_neg (by rw [f0]; decide), if_pos e]; rfl
  | 2, _ =>
    have f0 : okT k 0 f g = false := h0 0 (by omega)
    have f1 : okT k 1 f g = false := h0 1 (by omega)
    have e : okT k 2 f g = true := h1
    rw [if_neg (by rw [f0]; decide), if_neg (by rw [f1]; decide), if_pos e]; rfl
  | 3, _ =>
    have f0 : okT k 0 f g = false := h0 0 (by omega)
    have f1 : okT k 1 f g = false := h0 1 (by omega)
    have f2 : okT k 2 f g = false := h0 2 (by omega)
    rw [if_neg (by rw [f0]; decide), if_neg (by rw [f1]; decide), if_neg (by rw [f2]; decide)]; rfl
theorem okT_no (f g : Int) (h1 : 0 ≤ f) (h2 : f ≤ 3) (h3 : 0 ≤ g) (h4 : g ≤ 3) (h5 : f ≠ g) (h0 : ∀ i : Nat, i < 4 → okT (kd f g) i f g = false) : False := by
  have h := okT_some f g h1 h2 h3 h4 h5
  have f0 : okT (kd f g) 0 f g = false := h0 0 (by omega)
  have f1 : okT (kd f g) 1 f g = false := h0 1 (by omega)
  have f2 : okT (kd f g) 2 f g = false := h0 2 (by omega)
  have f3 : okT (kd f g) 3 f g = false := h0 3 (by omega)
  rw [f0, f1, f2, f3] at h
  exact absurd h (by decide)
theorem own_one {w : World} {base : Nat} {e : TypeId} {size g : Nat} {xs : List Value} (h : w.ownsRow base e size (.slice (some ⟨g, 0, none⟩) 1 1) 1 xs) : ∃ cur, w.heap[g]? = some (.cells cur e (0, 0)) ∧ cur = xs.toArray := by
  rcases h.2 with ⟨h', _⟩ | ⟨g', cap', cur, h', _, hg, _, _, hs, ht⟩
  · simp at h'
  · simp only [Value.slice.injEq, Option.some.injEq, Addr.mk.injEq, and_true, true_and] at h'
    obtain ⟨rfl, rfl⟩ := h'
    refine ⟨cur, hg, ?_⟩
    rw [List.take_of_length_le (by simp [hs])] at ht
    rw [← ht]
theorem l05Piece0 (c : Ce) (f g : Int) (w : World) (h1 : 0 ≤ f) (h2 : f ≤ 3) (h3 : 0 ≤ g) (h4 : g ≤ 3) (h5 : f ≠ g) (hK : kd f g = 0) (hg : ((f + 2) % 4 != g) = false) :
    Calls Try.prog 70 #[c.val, .int .i64 f, .int .i64 g] w fun e w' => e = .returned (btw c f g).val ∧ Below w.heap.size w w' := by
  have HNO := Lib.hid (okT_no f g h1 h2 h3 h4 h5)
  have HTR := Lib.hid (trn_hit (kd f g) f g)
  rw [hK] at HNO HTR
  have HB := Lib.hid (show btw c f g = ⟨c.x, c.y, 0, trn 0 f g, 1⟩ from by unfold btw; rw [hK])
  clear hK
  go_enter Try.func70, Try.ntmps70
  go_wp2
  go_loopw [8, 9] (fun i _ wr => ∃ j : Nat, ∃ tc : Int, j ≤ 4 ∧ i = .int .i8 j ∧ Hid (∀ i : Nat, i < j → okT 0 i f g = false) ∧ wr.ownsRow (w.heap.size + 1) 78 5 (.slice (some ⟨w.heap.size + 1, 0, none⟩) 1 1) 1 (Pc.cells ⟨0, 0, 0, 0, 0⟩) ∧ wr.ownsRow (w.heap.size + 1) 78 5 (.slice (some ⟨w.heap.size + 1 + 1, 0, none⟩) 1 1) 1 (Pc.cells ⟨c.x, c.y, 0, tc, 1⟩) ∧ Below w.heap.size w wr) (fun i _ _ => 4 - (intOf i).toNat)
  case atStart =>
    refine ⟨0, 0, by omega, rfl, Lib.hid (fun i hi => by omega), ?_, ?_, (by repeat (first | with_reducible exact Below.refl _ _ | with_reducible assumption | with_reducible apply bl_drewN | with_reducible apply bl_drew | with_reducible apply bl_alloc | (with_reducible refine bl_set ?_ (by first | (simp; done) | (simp; omega)) _) | with_reducible refine bl_trans ?_ (by with_reducible assumption)))⟩
    · exact own_below (own_newAt _ _ _ 5 (w.heap.size + 1) (w.heap.size + 1) (by simp) (Nat.le_refl _) rfl _ rfl) (bl_alloc (Below.refl _ _)) (Nat.le_refl _)
    · exact own_newAt _ _ _ 5 (w.heap.size + 1) (w.heap.size + 1 + 1) (by simp) (by omega) rfl _ rfl
  case round =>
    obtain ⟨j, tc, hj, rfl, hno, hz0, hp, hb⟩ := hrel
    by_cases hlt : j < 4
    · obtain ⟨⟨v3, c3⟩, f3⟩ := own_cell hp (j := 3) (by omega)
      have hp2 := own_setCells [.int .i8 (j : Int)] (A := [.int .i8 c.x, .int .i8 c.y, .int .i8 0]) (R := [.int .i8 tc, .int .i8 1]) (j := 3) hp rfl (by simp)
      have hz2 := own_kept hz0 (grown_setCells (w.heap.size + 1 + 1) [.int .i8 (j : Int)] wr 3) (by intro k hk e; have h1 : some (w.heap.size + 1) = some k := hk; rw [← h1] at e; simp at e)
      have hb2 : Below w.heap.size w (setCells wr (w.heap.size + 1 + 1) 3 [.int .i8 (j : Int)]) := hb.setCell (by simp; omega) _
      have hsz := (hp2.lt _ rfl).2
      have HP : PcAt (setCells wr (w.heap.size + 1 + 1) 3 [.int .i8 (j : Int)]) (w.heap.size + 1 + 1) 0 ⟨c.x, c.y, 0, j, 1⟩ := by
        refine ⟨?_, ?_, ?_, ?_, ?_⟩ <;> (rw [hp2.cellAt _ (by omega)]; rfl)
      have HH := Lib.hid (l01Hits_any c.x c.y 0 j 1 f _ (w.heap.size + 1 + 1) 0 HP hsz (by omega) (by omega) (by omega) (by omega) h1 h2)
      have HP2 := Lib.hid hp2
      have HZ2 := Lib.hid hz2
      have HB2 := Lib.hid hb2
      clear hp2 hz2 hb2 HP hsz
      go_wp2_with fail
      refine HH.out.mono ?_
      rintro e w1 ⟨rfl, hb1⟩
      have hp3 := own_below HP2.out hb1 (Nat.le_refl _)
      have hz3 := own_below HZ2.out hb1 (Nat.le_refl _)
      have hb3 := bl_trans HB2.out hb1
      clear c3 f3 hp hz0 hb hb1
      have hbv : -1 ≤ hitsV 0 j f ∧ hitsV 0 j f ≤ 32 := by
        unfold hitsV
        split
        · omega
        · have := hsum_bd (tbl 0 ((f + 4 - j) % 4)) j 4 (by omega); omega
      obtain ⟨v1, v2⟩ := hbv
      have hok : okT 0 j f g = (decide (0 < hitsV 0 j f) && decide (hitsV 0 j f / 2 ^ g.toNat % 2 = 1)) := rfl
      generalize hitsV 0 j f = bits at v1 v2 hok ⊢
      have HOK := Lib.hid hok
      clear hok
      have c0 : w1.cell? ⟨w.heap.size + 1 + 1, 0, none⟩ = some (.int .i8 c.x) := by rw [hp3.cellAt _ (by omega)]; rfl
      have c1 : w1.cell? ⟨w.heap.size + 1 + 1, 1, none⟩ = some (.int .i8 c.y) := by rw [hp3.cellAt _ (by omega)]; rfl
      have c2 : w1.cell? ⟨w.heap.size + 1 + 1, 2, none⟩ = some (.int .i8 0) := by rw [hp3.cellAt _ (by omega)]; rfl
      have c3 : w1.cell? ⟨w.heap.size + 1 + 1, 3, none⟩ = some (.int .i8 j) := by rw [hp3.cellAt _ (by omega)]; rfl
      have c4 : w1.cell? ⟨w.heap.size + 1 + 1, 4, none⟩ = some (.int .i8 1) := by rw [hp3.cellAt _ (by omega)]; rfl
      obtain ⟨⟨z0, d0⟩, e0⟩ := own_cell hz3 (j := 0) (by omega)
      obtain ⟨⟨z1, d1⟩, e1⟩ := own_cell hz3 (j := 1) (by omega)
      obtain ⟨⟨z2, d2⟩, e2⟩ := own_cell hz3 (j := 2) (by omega)
      obtain ⟨⟨z3, d3⟩, e3⟩ := own_cell hz3 (j := 3) (by omega)
      obtain ⟨⟨z4, d4⟩, e4⟩ := own_cell hz3 (j := 4) (by omega)
      have gno : ∀ b, okT 0 j f g = b → b = false → Hid (∀ i : Nat, i < j + 1 → okT 0 i f g = false) := fun b h h' => Lib.hid (fun i hi => by
        by_cases e : i = j
        · rw [e, h, h']
        · exact hno.out i (by omega))
      have GNO := Lib.hid gno; clear gno
      rcases dec_cases (0 < bits) with ⟨q1, q1'⟩ | ⟨q1, q1'⟩
      · have hb0 : 0 ≤ bits / 2 ^ g.toNat := Int.ediv_nonneg (by omega) (Int.le_of_lt (Int.pow_pos (by decide)))
        have ht : ((bits / 2 ^ g.toNat).tmod 2 == 1) = decide (bits / 2 ^ g.toNat % 2 = 1) := by
          rw [Int.tmod_eq_emod_of_nonneg hb0]; rfl
        rcases dec_cases (bits / 2 ^ g.toNat % 2 = 1) with ⟨q2, q2'⟩ | ⟨q2, q2'⟩
        · rw [q2] at ht
          have HT := Lib.hid (HTR.out j hlt hno.out (by rw [HOK.out, q1, q2]; rfl))
          clear q2' hb0
          go_wp2
          have hp4 := own_setCells (Pc.cells ⟨c.x, c.y, 0, j, 1⟩) (A := []) (R := Pc.cells ⟨0, 0, 0, 0, 0⟩) (j := 0) hz3 rfl (Nat.le_refl _)
          obtain ⟨cur, hh, hcur⟩ := own_one hp4
          have hbe : Below w.heap.size w (setCells w1 (w.heap.size + 1) 0 (Pc.cells ⟨c.x, c.y, 0, j, 1⟩)) := bl_grown hb3 (grown_setCells _ _ _ _) (by intro k hk; cases hk; omega)
          refine bodyPost_ret (v := .agg cur) (results_cell_row Try.results70 _ _ (w.heap.size + 1) 78 cur (0, 0) _ rfl hh Try.underlying78 rfl (by rw [hcur]; kernel_rfl)) rfl ⟨?_, hbe⟩
          rw [HB.out, HT.out, hcur]
          rfl
        · rw [q2] at ht
          have HG := GNO.out _ HOK.out (by rw [q1, q2]; rfl)
          clear q2' hb0
          go_wp2
          clear c0 c1 c2 c3 c4 d0 d1 d2 d3 d4 e0 e1 e2 e3 e4 ht
          go_roundw
          case rel => exact ⟨j + 1, j, by omega, by go_num, HG, hz3, hp3, hb3⟩
          case measure => simp [intOf]; omega
      · have HG := GNO.out _ HOK.out (by rw [q1]; rfl)
        go_wp2
        clear c0 c1 c2 c3 c4 d0 d1 d2 d3 d4 e0 e1 e2 e3 e4
        go_roundw
        case rel => exact ⟨j + 1, j, by omega, by go_num, HG, hz3, hp3, hb3⟩
        case measure => simp [intOf]; omega
    · exact (HNO.out (fun i hi => hno.out i (by omega))).elim
theorem l05Piece1 (c : Ce) (f g : Int) (w : World) (h1 : 0 ≤ f) (h2 : f ≤ 3) (h3 : 0 ≤ g) (h4 : g ≤ 3) (h5 : f ≠ g) (hK : kd f g = 1) (hg : ((f + 2) % 4 != g) = true) :
    Calls Try.prog 70 #[c.val, .int .i64 f, .int .i64 g] w fun e w' => e = .returned (btw c f g).val ∧ Below w.heap.size w w' := by
  have HNO := Lib.hid (okT_no f g h1 h2 h3 h4 h5)
  have HTR := Lib.hid (trn_hit (kd f g) f g)
  rw [hK] at HNO HTR
  have HB := Lib.hid (show btw c f g = ⟨c.x, c.y, 1, trn 1 f g, 1⟩ from by unfold btw; rw [hK])
  clear hK
  go_enter Try.func70, Try.ntmps70
  go_wp2
  go_loopw [8, 9] (fun i _ wr => ∃ j : Nat, ∃ tc : Int, j ≤ 4 ∧ i = .int .i8 j ∧ Hid (∀ i : Nat, i < j → okT 1 i f g = false) ∧ wr.ownsRow (w.heap.size + 1) 78 5 (.slice (some ⟨w.heap.size + 1, 0, none⟩) 1 1) 1 (Pc.cells ⟨0, 0, 0, 0, 0⟩) ∧ wr.ownsRow (w.heap.size + 1) 78 5 (.slice (some ⟨w.heap.size + 1 + 1, 0, none⟩) 1 1) 1 (Pc.cells ⟨c.x, c.y, 1, tc, 1⟩) ∧ Below w.heap.size w wr) (fun i _ _ => 4 - (intOf i).toNat)
  case atStart =>
    refine ⟨0, 0, by omega, rfl, Lib.hid (fun i hi => by omega), ?_, ?_, (by repeat (first | with_reducible exact Below.refl _ _ | with_reducible assumption | with_reducible apply bl_drewN | with_reducible apply bl_drew | with_reducible apply bl_alloc | (with_reducible refine bl_set ?_ (by first | (simp; done) | (simp; omega)) _) | with_reducible refine bl_trans ?_ (by with_reducible assumption)))⟩
    · exact own_below (own_newAt _ _ _ 5 (w.heap.size + 1) (w.heap.size + 1) (by simp) (Nat.le_refl _) rfl _ rfl) (bl_alloc (Below.refl _ _)) (Nat.le_refl _)
    · exact own_newAt _ _ _ 5 (w.heap.size + 1) (w.heap.size + 1 + 1) (by simp) (by omega) rfl _ rfl
  case round =>
    obtain ⟨j, tc, hj, rfl, hno, hz0, hp, hb⟩ := hrel
    by_cases hlt : j < 4
    · obtain ⟨⟨v3, c3⟩, f3⟩ := own_cell hp (j := 3) (by omega)
      have hp2 := own_setCells [.int .i8 (j : Int)] (A := [.int .i8 c.x, .int .i8 c.y, .int .i8 1]) (R := [.int .i8 tc, .int .i8 1]) (j := 3) hp rfl (by simp)
      have hz2 := own_kept hz0 (grown_setCells (w.heap.size + 1 + 1) [.int .i8 (j : Int)] wr 3) (by intro k hk e; have h1 : some (w.heap.size + 1) = some k := hk; rw [← h1] at e; simp at e)
      have hb2 : Below w.heap.size w (setCells wr (w.heap.size + 1 + 1) 3 [.int .i8 (j : Int)]) := hb.setCell (by simp; omega) _
      have hsz := (hp2.lt _ rfl).2
      have HP : PcAt (setCells wr (w.heap.size + 1 + 1) 3 [.int .i8 (j : Int)]) (w.heap.size + 1 + 1) 0 ⟨c.x, c.y, 1, j, 1⟩ := by
        refine ⟨?_, ?_, ?_, ?_, ?_⟩ <;> (rw [hp2.cellAt _ (by omega)]; rfl)
      have HH := Lib.hid (l01Hits_any c.x c.y 1 j 1 f _ (w.heap.size + 1 + 1) 0 HP hsz (by omega) (by omega) (by omega) (by omega) h1 h2)
      have HP2 := Lib.hid hp2
      have HZ2 := Lib.hid hz2
      have HB2 := Lib.hid hb2
      clear hp2 hz2 hb2 HP hsz
      go_wp2_with fail
      refine HH.out.mono ?_
      rintro e w1 ⟨rfl, hb1⟩
      have hp3 := own_below HP2.out hb1 (Nat.le_refl _)
      have hz3 := own_below HZ2.out hb1 (Nat.le_refl _)
      have hb3 := bl_trans HB2.out hb1
      clear c3 f3 hp hz0 hb hb1
      have hbv : -1 ≤ hitsV 1 j f ∧ hitsV 1 j f ≤ 32 := by
        unfold hitsV
        split
        · omega
        · have := hsum_bd (tbl 1 ((f + 4 - j) % 4)) j 4 (by omega); omega
      obtain ⟨v1, v2⟩ := hbv
      have hok : okT 1 j f g = (decide (0 < hitsV 1 j f) && decide (hitsV 1 j f / 2 ^ g.toNat % 2 = 1)) := rfl
      generalize hitsV 1 j f = bits at v1 v2 hok ⊢
      have HOK := Lib.hid hok
      clear hok
      have c0 : w1.cell? ⟨w.heap.size + 1 + 1, 0, none⟩ = some (.int .i8 c.x) := by rw [hp3.cellAt _ (by omega)]; rfl
      have c1 : w1.cell? ⟨w.heap.size + 1 + 1, 1, none⟩ = some (.int .i8 c.y) := by rw [hp3.cellAt _ (by omega)]; rfl
      have c2 : w1.cell? ⟨w.heap.size + 1 + 1, 2, none⟩ = some (.int .i8 1) := by rw [hp3.cellAt _ (by omega)]; rfl
      have c3 : w1.cell? ⟨w.heap.size + 1 + 1, 3, none⟩ = some (.int .i8 j) := by rw [hp3.cellAt _ (by omega)]; rfl
      have c4 : w1.cell? ⟨w.heap.size + 1 + 1, 4, none⟩ = some (.int .i8 1) := by rw [hp3.cellAt _ (by omega)]; rfl
      obtain ⟨⟨z0, d0⟩, e0⟩ := own_cell hz3 (j := 0) (by omega)
      obtain ⟨⟨z1, d1⟩, e1⟩ := own_cell hz3 (j := 1) (by omega)
      obtain ⟨⟨z2, d2⟩, e2⟩ := own_cell hz3 (j := 2) (by omega)
      obtain ⟨⟨z3, d3⟩, e3⟩ := own_cell hz3 (j := 3) (by omega)
      obtain ⟨⟨z4, d4⟩, e4⟩ := own_cell hz3 (j := 4) (by omega)
      have gno : ∀ b, okT 1 j f g = b → b = false → Hid (∀ i : Nat, i < j + 1 → okT 1 i f g = false) := fun b h h' => Lib.hid (fun i hi => by
        by_cases e : i = j
        · rw [e, h, h']
        · exact hno.out i (by omega))
      have GNO := Lib.hid gno; clear gno
      rcases dec_cases (0 < bits) with ⟨q1, q1'⟩ | ⟨q1, q1'⟩
      · have hb0 : 0 ≤ bits / 2 ^ g.toNat := Int.ediv_nonneg (by omega) (Int.le_of_lt (Int.pow_pos (by decide)))
        have ht : ((bits / 2 ^ g.toNat).tmod 2 == 1) = decide (bits / 2 ^ g.toNat % 2 = 1) := by
          rw [Int.tmod_eq_emod_of_nonneg hb0]; rfl
        rcases dec_cases (bits / 2 ^ g.toNat % 2 = 1) with ⟨q2, q2'⟩ | ⟨q2, q2'⟩
        · rw [q2] at ht
          have HT := Lib.hid (HTR.out j hlt hno.out (by rw [HOK.out, q1, q2]; rfl))
          clear q2' hb0
          go_wp2
          have hp4 := own_setCells (Pc.cells ⟨c.x, c.y, 1, j, 1⟩) (A := []) (R := Pc.cells ⟨0, 0, 0, 0, 0⟩) (j := 0) hz3 rfl (Nat.le_refl _)
          obtain ⟨cur, hh, hcur⟩ := own_one hp4
          have hbe : Below w.heap.size w (setCells w1 (w.heap.size + 1) 0 (Pc.cells ⟨c.x, c.y, 1, j, 1⟩)) := bl_grown hb3 (grown_setCells _ _ _ _) (by intro k hk; cases hk; omega)
          refine bodyPost_ret (v := .agg cur) (results_cell_row Try.results70 _ _ (w.heap.size + 1) 78 cur (0, 0) _ rfl hh Try.underlying78 rfl (by rw [hcur]; kernel_rfl)) rfl ⟨?_, hbe⟩
          rw [HB.out, HT.out, hcur]
          rfl
        · rw [q2] at ht
          have HG := GNO.out _ HOK.out (by rw [q1, q2]; rfl)
          clear q2' hb0
          go_wp2
          clear c0 c1 c2 c3 c4 d0 d1 d2 d3 d4 e0 e1 e2 e3 e4 ht
          go_roundw
          case rel => exact ⟨j + 1, j, by omega, by go_num, HG, hz3, hp3, hb3⟩
          case measure => simp [intOf]; omega
      · have HG := GNO.out _ HOK.out (by rw [q1]; rfl)
        go_wp2
        clear c0 c1 c2 c3 c4 d0 d1 d2 d3 d4 e0 e1 e2 e3 e4
        go_roundw
        case rel => exact ⟨j + 1, j, by omega, by go_num, HG, hz3, hp3, hb3⟩
        case measure => simp [intOf]; omega
    · exact (HNO.out (fun i hi => hno.out i (by omega))).elim
theorem l05Piece_any (c : Ce) (f g : Int) (w : World) (h1 : 0 ≤ f) (h2 : f ≤ 3) (h3 : 0 ≤ g) (h4 : g ≤ 3) (h5 : f ≠ g) :
    Calls Try.prog 70 #[c.val, .int .i64 f, .int .i64 g] w fun e w' => e = .returned (btw c f g).val ∧ Below w.heap.size w w' := by
  by_cases h : (f + 2) % 4 = g
  · exact l05Piece0 c f g w h1 h2 h3 h4 h5 (by unfold kd; rw [if_pos h]) (by simp [h])
  · exact l05Piece1 c f g w h1 h2 h3 h4 h5 (by unfold kd; rw [if_neg h]) (by simp [h])
end Go.Proofs.Ytoldmgpdcenmhaa
