/- Contracts for FreeCells. -/
import Derived.Test.YtdifikijckebkaaDel
namespace Go.Proofs.Ytdifikijckebkaa
open Go.RowKit
set_option linter.unusedVariables false
set_option linter.unusedSimpArgs false
set_option maxHeartbeats 400000

theorem indexFuncCe_any {B : Nat} (K : Nat) (caps : Array Value) (a : Option Addr) (cap : Nat) (ps : List Ce) (w : World) (hps : CesAt B w a ps) (hok : CesOk ps) (hB : B ≤ w.heap.size) (hn : ps.length ≤ 10000000) 
   (eg : ∀ (args : Array Value) (w : World), (callFunc K args).run Try.prog w = .ok (.enter K args) w) (q : Ce → Bool) (hf : ∀ (p : Ce) (w1 : World), p.ok → Below w.heap.size w w1 → Calls Try.prog K (#[p.val] ++ caps) w1 fun e w' => e = .returned (.bool (q p)) ∧ Below w1.heap.size w1 w'):
    Calls Try.prog 63 #[.slice a ps.length cap, .func (.func K) #[] caps] w fun e w' => e = .returned (.int .i64 ((ps.findIdx? q).elim (-1) (fun n => (n : Int)))) ∧ Below w.heap.size w w' := by
  go_enter Try.func63, Try.ntmps63
  go_wp2
  go_loopw [8] (fun i wr => ∃ k : Nat, k ≤ ps.length ∧ i = .int .i64 k ∧ (ps.take k).findIdx? q = none ∧ Below w.heap.size w wr) (fun i _ => ps.length - (intOf i).toNat)
  case atStart => exact ⟨0, by omega, rfl, by simp, Below.refl _ _⟩
  case round =>
    obtain ⟨k, hk, rfl, hfi, hb⟩ := hrel
    have Hfi := Lib.hid hfi; clear hfi
    by_cases hlt : k < ps.length
    · obtain ⟨b, off, rfl, hbl, hat⟩ := ces_get (hps.below hb hB) hlt
      unfold CeAt at hat
      have Hf := Lib.hid hf; clear hf
      go_wp2_with (refine (Hf.out ps[k] _ (hok k hlt) hb).mono ?_; rintro e w' ⟨rfl, hb2⟩)
      · have h1 : q ps[k] = true := by assumption
        go_ret
        refine ⟨?_, (by repeat (first | with_reducible exact Below.refl _ _ | with_reducible assumption | with_reducible apply bl_drewN | with_reducible apply bl_drew | with_reducible apply bl_alloc | (with_reducible refine bl_set ?_ (by first | (simp; done) | (simp; omega)) _) | with_reducible refine bl_trans ?_ (by with_reducible assumption)))⟩
        have h2 : ps.findIdx? q = some k := by
          rw [List.findIdx?_eq_some_iff_getElem]
          refine ⟨hlt, h1, fun j hj => ?_⟩
          have h3 := Hfi.out
          rw [List.findIdx?_eq_none_iff] at h3
          have := h3 ps[j] (by rw [List.mem_take_iff_getElem]; exact ⟨j, by omega, rfl⟩)
          simpa using this
        rw [h2]; rfl
      · have h1 : q ps[k] = false := by assumption
        go_roundw
        case rel => exact ⟨k + 1, by omega, by go_num, by have := Hfi.out; rw [List.take_succ_eq_append_getElem hlt, List.findIdx?_append, this]; simp [h1], (by repeat (first | with_reducible exact Below.refl _ _ | with_reducible assumption | with_reducible apply bl_drewN | with_reducible apply bl_drew | with_reducible apply bl_alloc | (with_reducible refine bl_set ?_ (by first | (simp; done) | (simp; omega)) _) | with_reducible refine bl_trans ?_ (by with_reducible assumption)))⟩
        case measure => simp [intOf]; omega
    · go_wp2
      go_ret
      refine ⟨?_, (by repeat (first | with_reducible exact Below.refl _ _ | with_reducible assumption | with_reducible apply bl_drewN | with_reducible apply bl_drew | with_reducible apply bl_alloc | (with_reducible refine bl_set ?_ (by first | (simp; done) | (simp; omega)) _) | with_reducible refine bl_trans ?_ (by with_reducible assumption)))⟩
      have h2 := Hfi.out
      rw [List.take_of_length_le (by omega)] at h2
      rw [h2]; rfl
theorem zeroCe (w : World) : (zeroValue 41).run Try.prog w = .ok (Ce.val ⟨0, 0⟩) w := by kernel_rfl
theorem Ce.one0 : ∀ u ∈ (Ce.val ⟨0, 0⟩).cells.toList, u.oneCell' = true := by
  intro u hu
  exact Ce.one ⟨0, 0⟩ u hu
set_option maxRecDepth 100000 in
theorem deleteFuncCe_any (K : Nat) (caps : Array Value) (base : Nat) (v : Value) (ps : List Ce) (w : World) (hown : w.ownsRow base 41 2 v ps.length (flat Ce.cells ps)) (hok : CesOk ps) (hn : ps.length ≤ 10000000) (hbw : base ≤ w.heap.size)
   (eg : ∀ (args : Array Value) (w : World), (callFunc K args).run Try.prog w = .ok (.enter K args) w) (q : Ce → Bool) (hf : ∀ (p : Ce) (w1 : World), p.ok → Below base w w1 → Calls Try.prog K (#[p.val] ++ caps) w1 fun e w' => e = .returned (.bool (q p)) ∧ Below w1.heap.size w1 w'):
    Calls Try.prog 49 #[v, .func (.func K) #[] caps] w fun e w' => ∃ v', e = .returned v' ∧ w'.ownsRow base 41 2 v' (ps.filter (fun p => !q p)).length (flat Ce.cells (ps.filter (fun p => !q p))) ∧ Below base w w' := by
  rcases id hown.2 with ⟨rfl, hnil⟩ | ⟨g, cap, cur, rfl, -⟩
  · have hp : ps = [] := List.eq_nil_of_length_eq_zero hnil
    subst hp
    have CI := Lib.hid (indexFuncCe_any K caps none 0 ([] : List Ce) w (fun j hj => by simp [flat] at hj) hok (Nat.le_refl _) (by simp) eg q (fun p w1 hp hb => hf p w1 hp (hb.mono hbw)))
    go_enter Try.func49, Try.ntmps49
    go_wp2_with fail
    refine CI.out.mono ?_
    rintro e w1 ⟨rfl, hb1⟩
    go_wp2
    go_ret
    exact ⟨_, rfl, World.ownsRow_nil w1 base 41 2, hb1.mono hbw⟩
  · have hown0 := hown
    obtain ⟨hl1, hl2⟩ := hown.lt g rfl
    have hsl : CesAt w.heap.size w (some ⟨g, 0, none⟩) ps := by obtain ⟨a', cap', he, h, -⟩ := own_at hown; cases he; exact h
    have CI := Lib.hid (indexFuncCe_any K caps (some ⟨g, 0, none⟩) cap ps w hsl hok (Nat.le_refl _) hn eg q (fun p w1 hp hb => hf p w1 hp (hb.mono (by omega))))
    have Hf := Lib.hid hf; clear hf
    cases hfi : ps.findIdx? q with
    | none =>
      rw [hfi] at CI
      simp only [Option.elim] at CI
      go_enter Try.func49, Try.ntmps49
      go_wp2_with fail
      refine CI.out.mono ?_
      rintro e w1 ⟨rfl, hb1⟩
      go_wp2
      go_ret
      have hall : ps.filter (fun p => !q p) = ps := by
        rw [List.findIdx?_eq_none_iff] at hfi
        rw [List.filter_eq_self]
        intro x hx; simpa using hfi x hx
      refine ⟨_, rfl, ?_, hb1.mono (by omega)⟩
      rw [hall]
      exact own_below hown hb1 (Nat.le_refl _)
    | some k0 =>
      rw [hfi] at CI
      simp only [Option.elim] at CI
      rw [List.findIdx?_eq_some_iff_getElem] at hfi
      obtain ⟨hk0, hq0, hpre⟩ := hfi
      have hstart : (ps.take (k0 + 1)).filter (fun p => !q p) = ps.take k0 := by
        rw [List.take_succ_eq_append_getElem hk0, List.filter_append, List.filter_cons, List.filter_nil, hq0]
        simp only [Bool.not_true, Bool.false_eq_true, if_false, List.append_nil]
        rw [List.filter_eq_self]
        intro x hx
        rw [List.mem_take_iff_getElem] at hx
        obtain ⟨i, hi, rfl⟩ := hx
        simpa using hpre i (by omega)
      have Hst := Lib.hid hstart
      have Hq := Lib.hid hpre
      clear hstart hpre hq0
      go_enter Try.func49, Try.ntmps49
      go_wp2_with fail
      refine CI.out.mono ?_
      rintro e w1 ⟨rfl, hb1⟩
      have hown1 := own_below hown hb1 (Nat.le_refl _)
      have hz1 := hb1.size
      go_wp2
      go_loopw [5, 6, 7] (fun i j _ wr => ∃ j' : Nat, ∃ A M : List Ce, j' ≤ ps.length ∧ j = .int .i64 j' ∧ i = .int .i64 A.length ∧ A = (ps.take j').filter (fun p => !q p) ∧ A.length + M.length = j' ∧ 1 ≤ M.length ∧ wr.ownsRow base 41 2 (Value.slice (some { block := g, off := 0 }) ps.length cap) ps.length (flat Ce.cells (A ++ M ++ ps.drop j')) ∧ Below base w wr ∧ g < wr.heap.size ∧ base ≤ wr.heap.size) (fun _ j _ _ => ps.length - (intOf j).toNat)
      case atStart => exact ⟨k0 + 1, ps.take k0, [ps[k0]], by omega, by go_num, by rw [List.length_take, Nat.min_eq_left (by omega)], Hst.out.symm, by simp; omega, by simp, by rw [List.append_assoc, List.singleton_append, ← List.drop_eq_getElem_cons hk0, List.take_append_drop]; exact hown1, hb1.mono (by omega), by omega, by omega⟩
      case round =>
        clear hown hown0 hown1 hb1 hsl
        obtain ⟨j, A, M, hj, rfl, rfl, hA, hAM, hM, hown, hb, hg, hbz⟩ := hrel
        have HA := Lib.hid hA; clear hA
        by_cases hlt : j < ps.length
        · have hat : CeAt wr g (j * 2) ps[j] := by
            have hL : (A ++ M ++ ps.drop j)[j]? = some ps[j] := by
              rw [List.getElem?_append_right (by simp; omega)]
              simp [hAM, List.getElem?_eq_getElem hlt]
            have hL2 : j < (A ++ M ++ ps.drop j).length := by simp; omega
            have hL3 : (A ++ M ++ ps.drop j)[j] = ps[j] := by
              rw [List.getElem?_eq_getElem hL2] at hL; exact Option.some.inj hL
            have c0 := flat_get Ce.len (A ++ M ++ ps.drop j) j 0 hL2 (by omega)
            have c1 := flat_get Ce.len (A ++ M ++ ps.drop j) j 1 hL2 (by omega)
            rw [hL3] at c0 c1
            refine ⟨?_, ?_⟩
            · rw [hown.cellAt (j * 2) (by omega)]; simpa [Ce.cells] using c0
            · rw [hown.cellAt (j * 2 + 1) (by omega)]; simpa [Ce.cells] using c1
          have hat0 := hat
          unfold CeAt at hat
          go_wp2_with fail
          refine (Hf.out ps[j] _ (hok j hlt) ?_).mono ?_
          · exact (hb.alloc hbz _)
          rintro e w2 ⟨rfl, hb2⟩
          have hown2 := own_below (own_below hown (bl_alloc (o := .cells #[.int .i8 ps[j].x, .int .i8 ps[j].y] 41) (Below.refl _ wr)) (Nat.le_refl _)) hb2 (Nat.le_refl _)
          have hz2 := hb2.size
          simp at hz2
          have hB2 : Below base w w2 := (hb.alloc hbz _).trans (hb2.mono (by simp; omega))
          obtain ⟨hc2, hf2⟩ := bcell hb2
          have hh := heap_alloc_new wr (.cells #[.int .i8 ps[j].x, .int .i8 ps[j].y] 41)
          have x0 : w2.cell? ⟨wr.heap.size, 0, none⟩ = some (.int .i8 ps[j].x) := by rw [hc2 _ _ (by simp), cell_of_row _ _ _ _ _ _ hh]; rfl
          have x1 : w2.cell? ⟨wr.heap.size, 1, none⟩ = some (.int .i8 ps[j].y) := by rw [hc2 _ _ (by simp), cell_of_row _ _ _ _ _ _ hh]; rfl
          clear hh hc2 hf2
          have hne : g ≠ wr.heap.size := by omega
          have hle : A.length < ps.length := by omega
          obtain ⟨⟨v0, c0⟩, f0⟩ := own_cell hown2 (j := A.length * 2) (by omega)
          obtain ⟨⟨v1, c1⟩, f1⟩ := own_cell hown2 (j := A.length * 2 + 1) (by omega)
          go_wp2
          · have h1 : (!q ps[j]) = true := by assumption
            have hown3 := own_setCells (ps[j].cells) (A := flat Ce.cells A) (R := flat Ce.cells (M ++ ps.drop j)) (j := A.length * 2) (by rw [← flat_append, ← List.append_assoc]; exact hown2) (by rw [flat_length Ce.len]) (by rw [flat_length Ce.len]; simp [Ce.cells]; omega)
            cases M with
            | nil => simp at hM
            | cons m M =>
              rw [List.cons_append, flat_cons, List.drop_left' (by rfl), List.drop_eq_getElem_cons hlt] at hown3
              clear c0 c1 f0 f1 hown hown2 hat hat0 x0 x1
              refine ⟨?_, ?measure⟩; (repeat apply Exists.intro); refine ⟨?rel, rfl⟩
              case rel =>
                refine ⟨j + 1, A ++ [ps[j]], M ++ [ps[j]], by omega, by go_num, by simp, ?_, by simp only [List.length_append, List.length_cons, List.length_nil] at hAM ⊢; omega, by simp, ?_, ?_, by simp; omega, by simp; omega⟩
                · rw [List.take_succ_eq_append_getElem hlt, List.filter_append, List.filter_cons, List.filter_nil, h1, ← HA.out]; rfl
                · have e : flat Ce.cells (A ++ [ps[j]] ++ (M ++ [ps[j]]) ++ ps.drop (j + 1)) = flat Ce.cells A ++ ps[j].cells ++ flat Ce.cells (M ++ ps[j] :: ps.drop (j + 1)) := by
                    simp [flat_append, flat_cons, flat_nil]
                  rw [e]; exact hown3
                · exact (hB2.setCell (by simpa using hl1) _).setCell (by simpa using hl1) _
              case measure => simp [intOf]; omega
          · have h1 : (!q ps[j]) = false := by assumption
            clear c0 c1 f0 f1 hown hat hat0 x0 x1
            refine ⟨?_, ?measure⟩; (repeat apply Exists.intro); refine ⟨?rel, rfl⟩
            case rel =>
              refine ⟨j + 1, A, M ++ [ps[j]], by omega, by go_num, rfl, ?_, by simp; omega, by simp, ?_, hB2, by omega, by omega⟩
              · rw [List.take_succ_eq_append_getElem hlt, List.filter_append, List.filter_cons, List.filter_nil, h1, ← HA.out]; simp
              · have e : A ++ (M ++ [ps[j]]) ++ ps.drop (j + 1) = A ++ M ++ ps.drop j := by rw [List.drop_eq_getElem_cons hlt]; simp
                rw [e]; exact hown2
            case measure => simp [intOf]; omega
        · have hjn : j = ps.length := by omega
          subst hjn
          rw [List.drop_length, List.append_nil, flat_append] at hown
          have HA' := HA.out
          rw [List.take_length] at HA'
          have HB := Lib.hid HA'; clear HA'
          have hle : A.length ≤ ps.length := by omega
          have hcap : ps.length ≤ cap := by obtain ⟨a', cap', he, -, h, -⟩ := own_at hown; cases he; exact h
          have hcap2 : A.length ≤ cap := by omega
          obtain ⟨w3, hcl, hown3, hgr⟩ := own_clear (P := Try.prog) (ty := 0) (c := cap - A.length) Try.underlying51 zeroCe (by rfl) Ce.one0 hown (flat_length Ce.len A) hle (by omega)
          have hb3 : Below base w w3 := hb.grown hgr hbz (by intro k hk; cases hk; exact hl1)
          clear hown hb hgr
          go_wp2
          go_ret
          exact ⟨_, rfl, by rw [← HB.out]; exact hown3, hb3⟩
end Go.Proofs.Ytdifikijckebkaa
