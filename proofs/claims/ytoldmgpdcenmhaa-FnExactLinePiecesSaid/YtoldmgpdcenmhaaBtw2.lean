/- Contracts: the program's piece between two sides. -/
import Derived.Test.YtoldmgpdcenmhaaBtw
namespace Go.Proofs.Ytoldmgpdcenmhaa
open Go.RowKit
set_option linter.unusedVariables false
set_option linter.unusedSimpArgs false
set_option maxHeartbeats 400000
set_option maxRecDepth 100000
def tcOf (w : World) (b : Nat) : Nat := match w.cell? ⟨b, 3, none⟩ with | some v => (intOf v).toNat | none => 0
theorem tcOf_eq {w : World} {b : Nat} {n : Int} (h : w.cell? ⟨b, 3, none⟩ = some (.int .i8 n)) : tcOf w b = n.toNat := by
  unfold tcOf; rw [h]; rfl
theorem ok_alt (k t f g : Int) : (decide (0 ≤ hitsV k t f) && decide (max (hitsV k t f) 0 / 2 ^ g.toNat % 2 = 1)) = okT k t f g := by
  unfold okT
  rcases Int.lt_trichotomy 0 (hitsV k t f) with h | h | h
  · rw [Int.max_eq_left (by omega), decide_eq_true (by omega : 0 ≤ hitsV k t f), decide_eq_true h]
  · rw [← h]; simp
  · rw [decide_eq_false (by omega : ¬ 0 ≤ hitsV k t f), decide_eq_false (by omega : ¬ 0 < hitsV k t f)]; rfl
theorem hitsV_fin : ∀ k : Fin 2, ∀ t f : Fin 4, -1 ≤ hitsV ((k : Nat) : Int) ((t : Nat) : Int) ((f : Nat) : Int) ∧ hitsV ((k : Nat) : Int) ((t : Nat) : Int) ((f : Nat) : Int) ≤ 15 := by decide +kernel
theorem hitsV_bd (k t f : Int) (h1 : 0 ≤ k) (h2 : k ≤ 1) (h3 : 0 ≤ t) (h4 : t ≤ 3) (h5 : 0 ≤ f) (h6 : f ≤ 3) : -1 ≤ hitsV k t f ∧ hitsV k t f ≤ 15 := by
  have := hitsV_fin ⟨k.toNat, by omega⟩ ⟨t.toNat, by omega⟩ ⟨f.toNat, by omega⟩
  simpa only [Int.toNat_of_nonneg h1, Int.toNat_of_nonneg h3, Int.toNat_of_nonneg h5] using this
theorem between0 (c : Ce) (f g : Int) (w : World) (h1 : 0 ≤ f) (h2 : f ≤ 3) (h3 : 0 ≤ g) (h4 : g ≤ 3) (h5 : f ≠ g) (hK : kd f g = 0) (hg : (g != (f + 2) % 4) = false) :
    Calls Try.prog 46 #[c.val, .int .i64 f, .int .i64 g] w fun e w' => e = .returned (btw c f g).val ∧ Below w.heap.size w w' := by
  have HNO := Lib.hid (okT_no f g h1 h2 h3 h4 h5)
  have HTR := Lib.hid (trn_hit (kd f g) f g)
  rw [hK] at HNO HTR
  have HB := Lib.hid (show btw c f g = ⟨c.x, c.y, 0, trn 0 f g, 1⟩ from by unfold btw; rw [hK])
  clear hK
  go_enter Try.func46, Try.ntmps46
  go_wp2_with fail
  refine (opposite_any f _ h1 h2).mono ?_
  rintro e w' ⟨rfl, rfl⟩
  go_wp2
  go_loopw [8, 9] (fun _ _ wr => ∃ j : Nat, j ≤ 4 ∧ Hid (∀ i : Nat, i < j → okT 0 i f g = false) ∧ wr.ownsRow (w.heap.size + 1) 78 5 (.slice (some ⟨w.heap.size + 1, 0, none⟩) 1 1) 1 (Pc.cells ⟨0, 0, 0, 0, 0⟩) ∧ wr.ownsRow (w.heap.size + 1) 78 5 (.slice (some ⟨w.heap.size + 1 + 1, 0, none⟩) 1 1) 1 (Pc.cells ⟨c.x, c.y, 0, j, 1⟩) ∧ Below w.heap.size w wr) (fun _ _ wr => 4 - tcOf wr (w.heap.size + 1 + 1))
  case atStart =>
    refine ⟨0, by omega, Lib.hid (fun i hi => by omega), ?_, ?_, (by repeat (first | with_reducible exact Below.refl _ _ | with_reducible assumption | with_reducible apply bl_drewN | with_reducible apply bl_drew | with_reducible apply bl_alloc | (with_reducible refine bl_set ?_ (by first | (simp; done) | (simp; omega)) _) | with_reducible refine bl_trans ?_ (by with_reducible assumption)))⟩
    · exact own_below (own_newAt _ _ _ 5 (w.heap.size + 1) (w.heap.size + 1) (by simp) (Nat.le_refl _) rfl _ rfl) (bl_alloc (Below.refl _ _)) (Nat.le_refl _)
    · exact own_newAt _ _ _ 5 (w.heap.size + 1) (w.heap.size + 1 + 1) (by simp) (by omega) rfl _ rfl
  case round =>
    obtain ⟨j, hj, hno, hz0, hp, hb⟩ := hrel
    by_cases hlt : j < 4
    · have c0 : wr.cell? ⟨w.heap.size + 1 + 1, 0, none⟩ = some (.int .i8 c.x) := by rw [hp.cellAt _ (by omega)]; rfl
      have c1 : wr.cell? ⟨w.heap.size + 1 + 1, 1, none⟩ = some (.int .i8 c.y) := by rw [hp.cellAt _ (by omega)]; rfl
      have c2 : wr.cell? ⟨w.heap.size + 1 + 1, 2, none⟩ = some (.int .i8 0) := by rw [hp.cellAt _ (by omega)]; rfl
      have c3 : wr.cell? ⟨w.heap.size + 1 + 1, 3, none⟩ = some (.int .i8 j) := by rw [hp.cellAt _ (by omega)]; rfl
      have c4 : wr.cell? ⟨w.heap.size + 1 + 1, 4, none⟩ = some (.int .i8 1) := by rw [hp.cellAt _ (by omega)]; rfl
      have HME := Lib.hid (tcOf_eq c3)
      have HH := Lib.hid (falls_any c.x c.y 0 j 1 f (by omega) (by omega) (by omega) (by omega) h1 h2 wr)
      have HOK := Lib.hid (ok_alt 0 j f g)
      go_wp2_with fail
      refine HH.out.mono ?_
      rintro e w1 ⟨rfl, hb1⟩
      have hp3 := own_below hp hb1 (Nat.le_refl _)
      have hz3 := own_below hz0 hb1 (Nat.le_refl _)
      have hb3 := bl_trans hb hb1
      have HP3 := Lib.hid hp3
      have HZ3 := Lib.hid hz3
      clear c0 c1 c2 c3 c4 hp hz0 hb hb1 HH
      obtain ⟨v1, v2⟩ := hitsV_bd 0 j f (by omega) (by omega) (by omega) (by omega) h1 h2
      have hok := HOK.out
      clear HOK
      have gno : okT 0 j f g = false → Hid (∀ i : Nat, i < j + 1 → okT 0 i f g = false) := fun h => Lib.hid (fun i hi => by
        by_cases e : i = j
        · rw [e, h]
        · exact hno.out i (by omega))
      have GNO := Lib.hid gno; clear gno
      have c0 : w1.cell? ⟨w.heap.size + 1 + 1, 0, none⟩ = some (.int .i8 c.x) := by rw [hp3.cellAt _ (by omega)]; rfl
      have c1 : w1.cell? ⟨w.heap.size + 1 + 1, 1, none⟩ = some (.int .i8 c.y) := by rw [hp3.cellAt _ (by omega)]; rfl
      have c2 : w1.cell? ⟨w.heap.size + 1 + 1, 2, none⟩ = some (.int .i8 0) := by rw [hp3.cellAt _ (by omega)]; rfl
      have c3 : w1.cell? ⟨w.heap.size + 1 + 1, 3, none⟩ = some (.int .i8 j) := by rw [hp3.cellAt _ (by omega)]; rfl
      have c4 : w1.cell? ⟨w.heap.size + 1 + 1, 4, none⟩ = some (.int .i8 1) := by rw [hp3.cellAt _ (by omega)]; rfl
      obtain ⟨⟨z0, d0⟩, e0⟩ := own_cell hz3 (j := 0) (by omega)
      obtain ⟨⟨z1, d1⟩, e1⟩ := own_cell hz3 (j := 1) (by omega)
      obtain ⟨⟨z2, d2⟩, e2⟩ := own_cell hz3 (j := 2) (by omega)
      obtain ⟨⟨z3, d3⟩, e3⟩ := own_cell hz3 (j := 3) (by omega)
      obtain ⟨⟨z4, d4⟩, e4⟩ := own_cell hz3 (j := 4) (by omega)
      have f3 := (own_cell hp3 (j := 3) (by omega)).2
      clear hp3 hz3
      generalize hitsV 0 j f = bits at v1 v2 hok ⊢
      rcases dec_cases (0 ≤ bits) with ⟨q1, q1'⟩ | ⟨q1, q1'⟩
      · have hmx0 : 0 ≤ max bits 0 := by omega
        have hmx1 : max bits 0 ≤ 15 := by omega
        generalize max bits 0 = mb at hok hmx0 hmx1 ⊢
        have HS := Lib.hid (hasSide_any mb g w1 h3 h4 hmx0 hmx1)
        have hb0 : 0 ≤ mb / 2 ^ g.toNat := Int.ediv_nonneg (by omega) (Int.le_of_lt (Int.pow_pos (by decide)))
        rcases dec_cases (mb / 2 ^ g.toNat % 2 = 1) with ⟨q2, q2'⟩ | ⟨q2, q2'⟩
        · rw [q1, q2] at hok
          have HT := Lib.hid (HTR.out j hlt hno.out hok.symm)
          have HS2 := HS.out
          rw [q2] at HS2
          have HS2 := Lib.hid HS2
          clear q2' hb0 HS hok q1'
          go_wp2_with fail
          refine HS2.out.mono ?_
          rintro e w' ⟨rfl, rfl⟩
          go_wp2
          have hp4 := own_setCells (Pc.cells ⟨c.x, c.y, 0, j, 1⟩) (A := []) (R := Pc.cells ⟨0, 0, 0, 0, 0⟩) (j := 0) HZ3.out rfl (Nat.le_refl _)
          obtain ⟨cur, hh, hcur⟩ := own_one hp4
          have hbe : Below w.heap.size w (setCells w1 (w.heap.size + 1) 0 (Pc.cells ⟨c.x, c.y, 0, j, 1⟩)) := bl_grown hb3 (grown_setCells _ _ _ _) (by intro k hk; cases hk; omega)
          refine bodyPost_ret (v := .agg cur) (results_cell_row Try.results46 _ _ (w.heap.size + 1) 78 cur (0, 0) _ rfl hh Try.underlying78 rfl (by rw [hcur]; kernel_rfl)) rfl ⟨?_, hbe⟩
          rw [HB.out, HT.out, hcur]
          rfl
        · rw [q1, q2] at hok
          have HG := GNO.out hok.symm
          have HS2 := HS.out
          rw [q2] at HS2
          have HS2 := Lib.hid HS2
          clear q2' hb0 HS hok q1'
          go_wp2_with fail
          refine HS2.out.mono ?_
          rintro e w' ⟨rfl, rfl⟩
          clear c0 c1 c2 c4 d0 d1 d2 d3 d4 e0 e1 e2 e3 e4
          go_wp2
          have hp4 := own_setCells [.int .i8 (j + 1 : Nat)] (A := [.int .i8 c.x, .int .i8 c.y, .int .i8 0]) (R := [.int .i8 j, .int .i8 1]) (j := 3) HP3.out rfl (by simp)
          have hz4 := own_kept HZ3.out (grown_setCells (w.heap.size + 1 + 1) [.int .i8 (j + 1 : Nat)] w1 3) (by intro k hk e; have h1 : some (w.heap.size + 1) = some k := hk; rw [← h1] at e; simp at e)
          have hb4 : Below w.heap.size w (setCells w1 (w.heap.size + 1 + 1) 3 [.int .i8 (j + 1 : Nat)]) := hb3.setCell (by simp; omega) _
          have HME2 := Lib.hid (tcOf_eq (show (setCells w1 (w.heap.size + 1 + 1) 3 [.int .i8 (j + 1 : Nat)]).cell? ⟨w.heap.size + 1 + 1, 3, none⟩ = some (.int .i8 (j + 1 : Nat)) by rw [hp4.cellAt _ (by omega)]; rfl))
          clear c3 f3
          refine ⟨⟨j + 1, by omega, HG, hz4, hp4, hb4⟩, ?_⟩
          rw [HME.out]
          have h9 : tcOf (w1.setCell ⟨w.heap.size + 1 + 1, 3, none⟩ (.int .i8 ((j : Int) + 1))) (w.heap.size + 1 + 1) = j + 1 := HME2.out
          rw [h9]
          simp; omega
      · rw [q1] at hok
        have HG := GNO.out hok.symm
        clear c0 c1 c2 c4 d0 d1 d2 d3 d4 e0 e1 e2 e3 e4 hok
        go_wp2
        have hp4 := own_setCells [.int .i8 (j + 1 : Nat)] (A := [.int .i8 c.x, .int .i8 c.y, .int .i8 0]) (R := [.int .i8 j, .int .i8 1]) (j := 3) HP3.out rfl (by simp)
        have hz4 := own_kept HZ3.out (grown_setCells (w.heap.size + 1 + 1) [.int .i8 (j + 1 : Nat)] w1 3) (by intro k hk e; have h1 : some (w.heap.size + 1) = some k := hk; rw [← h1] at e; simp at e)
        have hb4 : Below w.heap.size w (setCells w1 (w.heap.size + 1 + 1) 3 [.int .i8 (j + 1 : Nat)]) := hb3.setCell (by simp; omega) _
        have HME2 := Lib.hid (tcOf_eq (show (setCells w1 (w.heap.size + 1 + 1) 3 [.int .i8 (j + 1 : Nat)]).cell? ⟨w.heap.size + 1 + 1, 3, none⟩ = some (.int .i8 (j + 1 : Nat)) by rw [hp4.cellAt _ (by omega)]; rfl))
        clear c3 f3
        refine ⟨⟨j + 1, by omega, HG, hz4, hp4, hb4⟩, ?_⟩
        rw [HME.out]
        have h9 : tcOf (w1.setCell ⟨w.heap.size + 1 + 1, 3, none⟩ (.int .i8 ((j : Int) + 1))) (w.heap.size + 1 + 1) = j + 1 := HME2.out
        rw [h9]
        simp; omega
    · exact (HNO.out (fun i hi => hno.out i (by omega))).elim
theorem between1 (c : Ce) (f g : Int) (w : World) (h1 : 0 ≤ f) (h2 : f ≤ 3) (h3 : 0 ≤ g) (h4 : g ≤ 3) (h5 : f ≠ g) (hK : kd f g = 1) (hg : (g != (f + 2) % 4) = true) :
    Calls Try.prog 46 #[c.val, .int .i64 f, .int .i64 g] w fun e w' => e = .returned (btw c f g).val ∧ Below w.heap.size w w' := by
  have HNO := Lib.hid (okT_no f g h1 h2 h3 h4 h5)
  have HTR := Lib.hid (trn_hit (kd f g) f g)
  rw [hK] at HNO HTR
  have HB := Lib.hid (show btw c f g = ⟨c.x, c.y, 1, trn 1 f g, 1⟩ from by unfold btw; rw [hK])
  clear hK
  go_enter Try.func46, Try.ntmps46
  go_wp2_with fail
  refine (opposite_any f _ h1 h2).mono ?_
  rintro e w' ⟨rfl, rfl⟩
  go_wp2
  go_loopw [8, 9] (fun _ _ wr => ∃ j : Nat, j ≤ 4 ∧ Hid (∀ i : Nat, i < j → okT 1 i f g = false) ∧ wr.ownsRow (w.heap.size + 1) 78 5 (.slice (some ⟨w.heap.size + 1, 0, none⟩) 1 1) 1 (Pc.cells ⟨0, 0, 0, 0, 0⟩) ∧ wr.ownsRow (w.heap.size + 1) 78 5 (.slice (some ⟨w.heap.size + 1 + 1, 0, none⟩) 1 1) 1 (Pc.cells ⟨c.x, c.y, 1, j, 1⟩) ∧ Below w.heap.size w wr) (fun _ _ wr => 4 - tcOf wr (w.heap.size + 1 + 1))
  case atStart =>
    refine ⟨0, by omega, Lib.hid (fun i hi => by omega), ?_, ?_, (by repeat (first | with_reducible exact Below.refl _ _ | with_reducible assumption | with_reducible apply bl_drewN | with_reducible apply bl_drew | with_reducible apply bl_alloc | (with_reducible refine bl_set ?_ (by first | (simp; done) | (simp; omega)) _) | with_reducible refine bl_trans ?_ (by with_reducible assumption)))⟩
    · exact own_below (own_newAt _ _ _ 5 (w.heap.size + 1) (w.heap.size + 1) (by simp) (Nat.le_refl _) rfl _ rfl) (bl_alloc (Below.refl _ _)) (Nat.le_refl _)
    · exact own_newAt _ _ _ 5 (w.heap.size + 1) (w.heap.size + 1 + 1) (by simp) (by omega) rfl _ rfl
  case round =>
    obtain ⟨j, hj, hno, hz0, hp, hb⟩ := hrel
    by_cases hlt : j < 4
    · have c0 : wr.cell? ⟨w.heap.size + 1 + 1, 0, none⟩ = some (.int .i8 c.x) := by rw [hp.cellAt _ (by omega)]; rfl
      have c1 : wr.cell? ⟨w.heap.size + 1 + 1, 1, none⟩ = some (.int .i8 c.y) := by rw [hp.cellAt _ (by omega)]; rfl
      have c2 : wr.cell? ⟨w.heap.size + 1 + 1, 2, none⟩ = some (.int .i8 1) := by rw [hp.cellAt _ (by omega)]; rfl
      have c3 : wr.cell? ⟨w.heap.size + 1 + 1, 3, none⟩ = some (.int .i8 j) := by rw [hp.cellAt _ (by omega)]; rfl
      have c4 : wr.cell? ⟨w.heap.size + 1 + 1, 4, none⟩ = some (.int .i8 1) := by rw [hp.cellAt _ (by omega)]; rfl
      have HME := Lib.hid (tcOf_eq c3)
      have HH := Lib.hid (falls_any c.x c.y 1 j 1 f (by omega) (by omega) (by omega) (by omega) h1 h2 wr)
      have HOK := Lib.hid (ok_alt 1 j f g)
      go_wp2_with fail
      refine HH.out.mono ?_
      rintro e w1 ⟨rfl, hb1⟩
      have hp3 := own_below hp hb1 (Nat.le_refl _)
      have hz3 := own_below hz0 hb1 (Nat.le_refl _)
      have hb3 := bl_trans hb hb1
      have HP3 := Lib.hid hp3
      have HZ3 := Lib.hid hz3
      clear c0 c1 c2 c3 c4 hp hz0 hb hb1 HH
      obtain ⟨v1, v2⟩ := hitsV_bd 1 j f (by omega) (by omega) (by omega) (by omega) h1 h2
      have hok := HOK.out
      clear HOK
      have gno : okT 1 j f g = false → Hid (∀ i : Nat, i < j + 1 → okT 1 i f g = false) := fun h => Lib.hid (fun i hi => by
        by_cases e : i = j
        · rw [e, h]
        · exact hno.out i (by omega))
      have GNO := Lib.hid gno; clear gno
      have c0 : w1.cell? ⟨w.heap.size + 1 + 1, 0, none⟩ = some (.int .i8 c.x) := by rw [hp3.cellAt _ (by omega)]; rfl
      have c1 : w1.cell? ⟨w.heap.size + 1 + 1, 1, none⟩ = some (.int .i8 c.y) := by rw [hp3.cellAt _ (by omega)]; rfl
      have c2 : w1.cell? ⟨w.heap.size + 1 + 1, 2, none⟩ = some (.int .i8 1) := by rw [hp3.cellAt _ (by omega)]; rfl
      have c3 : w1.cell? ⟨w.heap.size + 1 + 1, 3, none⟩ = some (.int .i8 j) := by rw [hp3.cellAt _ (by omega)]; rfl
      have c4 : w1.cell? ⟨w.heap.size + 1 + 1, 4, none⟩ = some (.int .i8 1) := by rw [hp3.cellAt _ (by omega)]; rfl
      obtain ⟨⟨z0, d0⟩, e0⟩ := own_cell hz3 (j := 0) (by omega)
      obtain ⟨⟨z1, d1⟩, e1⟩ := own_cell hz3 (j := 1) (by omega)
      obtain ⟨⟨z2, d2⟩, e2⟩ := own_cell hz3 (j := 2) (by omega)
      obtain ⟨⟨z3, d3⟩, e3⟩ := own_cell hz3 (j := 3) (by omega)
      obtain ⟨⟨z4, d4⟩, e4⟩ := own_cell hz3 (j := 4) (by omega)
      have f3 := (own_cell hp3 (j := 3) (by omega)).2
      clear hp3 hz3
      generalize hitsV 1 j f = bits at v1 v2 hok ⊢
      rcases dec_cases (0 ≤ bits) with ⟨q1, q1'⟩ | ⟨q1, q1'⟩
      · have hmx0 : 0 ≤ max bits 0 := by omega
        have hmx1 : max bits 0 ≤ 15 := by omega
        generalize max bits 0 = mb at hok hmx0 hmx1 ⊢
        have HS := Lib.hid (hasSide_any mb g w1 h3 h4 hmx0 hmx1)
        have hb0 : 0 ≤ mb / 2 ^ g.toNat := Int.ediv_nonneg (by omega) (Int.le_of_lt (Int.pow_pos (by decide)))
        rcases dec_cases (mb / 2 ^ g.toNat % 2 = 1) with ⟨q2, q2'⟩ | ⟨q2, q2'⟩
        · rw [q1, q2] at hok
          have HT := Lib.hid (HTR.out j hlt hno.out hok.symm)
          have HS2 := HS.out
          rw [q2] at HS2
          have HS2 := Lib.hid HS2
          clear q2' hb0 HS hok q1'
          go_wp2_with fail
          refine HS2.out.mono ?_
          rintro e w' ⟨rfl, rfl⟩
          go_wp2
          have hp4 := own_setCells (Pc.cells ⟨c.x, c.y, 1, j, 1⟩) (A := []) (R := Pc.cells ⟨0, 0, 0, 0, 0⟩) (j := 0) HZ3.out rfl (Nat.le_refl _)
          obtain ⟨cur, hh, hcur⟩ := own_one hp4
          have hbe : Below w.heap.size w (setCells w1 (w.heap.size + 1) 0 (Pc.cells ⟨c.x, c.y, 1, j, 1⟩)) := bl_grown hb3 (grown_setCells _ _ _ _) (by intro k hk; cases hk; omega)
          refine bodyPost_ret (v := .agg cur) (results_cell_row Try.results46 _ _ (w.heap.size + 1) 78 cur (0, 0) _ rfl hh Try.underlying78 rfl (by rw [hcur]; kernel_rfl)) rfl ⟨?_, hbe⟩
          rw [HB.out, HT.out, hcur]
          rfl
        · rw [q1, q2] at hok
          have HG := GNO.out hok.symm
          have HS2 := HS.out
          rw [q2] at HS2
          have HS2 := Lib.hid HS2
          clear q2' hb0 HS hok q1'
          go_wp2_with fail
          refine HS2.out.mono ?_
          rintro e w' ⟨rfl, rfl⟩
          clear c0 c1 c2 c4 d0 d1 d2 d3 d4 e0 e1 e2 e3 e4
          go_wp2
          have hp4 := own_setCells [.int .i8 (j + 1 : Nat)] (A := [.int .i8 c.x, .int .i8 c.y, .int .i8 1]) (R := [.int .i8 j, .int .i8 1]) (j := 3) HP3.out rfl (by simp)
          have hz4 := own_kept HZ3.out (grown_setCells (w.heap.size + 1 + 1) [.int .i8 (j + 1 : Nat)] w1 3) (by intro k hk e; have h1 : some (w.heap.size + 1) = some k := hk; rw [← h1] at e; simp at e)
          have hb4 : Below w.heap.size w (setCells w1 (w.heap.size + 1 + 1) 3 [.int .i8 (j + 1 : Nat)]) := hb3.setCell (by simp; omega) _
          have HME2 := Lib.hid (tcOf_eq (show (setCells w1 (w.heap.size + 1 + 1) 3 [.int .i8 (j + 1 : Nat)]).cell? ⟨w.heap.size + 1 + 1, 3, none⟩ = some (.int .i8 (j + 1 : Nat)) by rw [hp4.cellAt _ (by omega)]; rfl))
          clear c3 f3
          refine ⟨⟨j + 1, by omega, HG, hz4, hp4, hb4⟩, ?_⟩
          rw [HME.out]
          have h9 : tcOf (w1.setCell ⟨w.heap.size + 1 + 1, 3, none⟩ (.int .i8 ((j : Int) + 1))) (w.heap.size + 1 + 1) = j + 1 := HME2.out
          rw [h9]
          simp; omega
      · rw [q1] at hok
        have HG := GNO.out hok.symm
        clear c0 c1 c2 c4 d0 d1 d2 d3 d4 e0 e1 e2 e3 e4 hok
        go_wp2
        have hp4 := own_setCells [.int .i8 (j + 1 : Nat)] (A := [.int .i8 c.x, .int .i8 c.y, .int .i8 1]) (R := [.int .i8 j, .int .i8 1]) (j := 3) HP3.out rfl (by simp)
        have hz4 := own_kept HZ3.out (grown_setCells (w.heap.size + 1 + 1) [.int .i8 (j + 1 : Nat)] w1 3) (by intro k hk e; have h1 : some (w.heap.size + 1) = some k := hk; rw [← h1] at e; simp at e)
        have hb4 : Below w.heap.size w (setCells w1 (w.heap.size + 1 + 1) 3 [.int .i8 (j + 1 : Nat)]) := hb3.setCell (by simp; omega) _
        have HME2 := Lib.hid (tcOf_eq (show (setCells w1 (w.heap.size + 1 + 1) 3 [.int .i8 (j + 1 : Nat)]).cell? ⟨w.heap.size + 1 + 1, 3, none⟩ = some (.int .i8 (j + 1 : Nat)) by rw [hp4.cellAt _ (by omega)]; rfl))
        clear c3 f3
        refine ⟨⟨j + 1, by omega, HG, hz4, hp4, hb4⟩, ?_⟩
        rw [HME.out]
        have h9 : tcOf (w1.setCell ⟨w.heap.size + 1 + 1, 3, none⟩ (.int .i8 ((j : Int) + 1))) (w.heap.size + 1 + 1) = j + 1 := HME2.out
        rw [h9]
        simp; omega
    · exact (HNO.out (fun i hi => hno.out i (by omega))).elim
theorem between_any (c : Ce) (f g : Int) (w : World) (h1 : 0 ≤ f) (h2 : f ≤ 3) (h3 : 0 ≤ g) (h4 : g ≤ 3) (h5 : f ≠ g) :
    Calls Try.prog 46 #[c.val, .int .i64 f, .int .i64 g] w fun e w' => e = .returned (btw c f g).val ∧ Below w.heap.size w w' := by
  by_cases h : (f + 2) % 4 = g
  · exact between0 c f g w h1 h2 h3 h4 h5 (by unfold kd; rw [if_pos h]) (by simp [h])
  · exact between1 c f g w h1 h2 h3 h4 h5 (by unfold kd; rw [if_neg h]) (by simp; omega)
end Go.Proofs.Ytoldmgpdcenmhaa
