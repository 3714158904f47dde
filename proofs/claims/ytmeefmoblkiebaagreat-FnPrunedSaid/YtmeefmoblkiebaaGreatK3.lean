import Derived.Test.YtmeefmoblkiebaaGreatK2
import Derived.Deep.AppendLies
import Derived.Test.YtmeefmoblkiebaaGreatShf
import Derived.Laws.CopyOwn
import Derived.Laws.MakeOwn
import Derived.Deep.RegionLaw
import Derived.Deep.DeepFit
import Derived.Deep.WholeRow
import Derived.Deep.RegionHeld3
/- Contracts: a hit is added to what is pending. -/
namespace Go.Proofs.YtmeefmoblkiebaaGreat
open Go.RowKit
set_option linter.unusedVariables false
set_option linter.unusedSimpArgs false
set_option maxHeartbeats 400000
set_option maxRecDepth 100000
theorem step_update_i {P : Program} {ops : Array Oper} {o : Oper} {a : Act} {w : World} {K : Act → World → Prop} {Q : Exit → Act → World → Prop} {E : Prop}
    (hg : o.guard = none) (m x v : Operand) (t : TypeId) (hop : o.op = Op.mapUpdate t m x v) {k et : TypeId} (h : ITy P k) (ht : P.underlying t = some (.map k et)) (b : Nat) (kv : List (Int × Value))
    (hm : a.eval m = .map (some b)) (hown : IMapAt w b kv) (c : Int) (val : Value) (hx : a.eval x = .int .i64 c) (hv : a.eval v = val)
    (hK : ∀ w', IMapAt w' b (imput c val kv) → w.grownBy w' (some b) → w'.heap.size = w.heap.size → K (a.put o.dst undef) w') :
    if Region.wanted o (yielded ops a.tmps) = true then Oper.wp P o a w K Q else E := by
  have hw : Region.wanted o (yielded ops a.tmps) = true := by simp [Region.wanted, hg]
  rw [if_pos hw]
  obtain ⟨w', hrun, r1, r2, r3⟩ := run_update_i h ht hown c val
  unfold Oper.wp
  simp [execOp, hop, hm, hx, hv, hrun, Result.andThen]
  exact hK w' r1 r2 r3
theorem bin_any {B : Nat} {w : World} {v : Value} {xs : List Int} {g : Nat} (h : OffI B w v xs g) (hn : xs.length ≤ 100000) (hs : xs.Pairwise (fun a b => a < b)) (x : Int) :
    Calls Tryz.prog 149 #[v, .int .i64 x] w fun e w' => e = .returned (.tuple #[.int .i64 (xs.countP (fun y => decide (y < x)) : Nat), .bool (xs.contains x)]) ∧ Below w.heap.size w w' := by
  obtain ⟨-, off, cap, N, f, rfl, hrow, hcap, hc63, hN, hf⟩ := h
  have hC := Any.slices_BinarySearch_int Tryz.laysBin g off xs.length cap xs x w (Nat.le_refl _) (by omega)
    (fun j hj => by rw [hrow.cell (by omega), hf j hj, List.getD_eq_getElem?_getD, List.getElem?_eq_getElem hj]; rfl)
    (by rw [List.take_length]; exact hs.imp (fun h => by omega))
  rw [List.take_length] at hC
  refine Calls.mono hC ?_
  rintro e w' ⟨rfl, q, rfl⟩
  exact ⟨rfl, bl_drewN (Below.refl _ _)⟩
theorem map_drew' {w : World} {m : Nat} {kv : List (Int × Value)} (h : IMapAt w m kv) : IMapAt w.drew m kv := h
theorem run_look {B m b6 b7 : Nat} {T : Int} {w : World} {pend : Int → List Hi} {kv : List (Int × Value)} {Sp : Nat → Prop} (k1 : IMapAt w m kv) (t : Int) (u : Value) (hu : (imget t kv).getD (.slice none 0 0) = u) (w' : World) (hw : w'.heap[m]? = w.heap[m]?) :
    (Instr.lookup 194 (.map (some m)) (.int .i64 t) false).run Tryz.prog w' = .ok u w' := by
  have k1' : IMapAt w' m kv := by
    obtain ⟨es, clock, h1, h2⟩ := k1
    exact ⟨es, clock, by rw [hw]; exact h1, h2⟩
  have hty : ITy Tryz.prog 3 := Tryz.underlying3
  have h1 := run_lookup_i hty Tryz.underlying194 (.slice none 0 0) (fun w => by kernel_rfl) k1' t false
  rw [h1]
  have : ((imfind t kv 0).map (·.2)).getD (.slice none 0 0) = u := hu
  rw [← this]
  rfl
set_option maxHeartbeats 3200000 in
theorem add_any {B m b6 b7 : Nat} {T : Int} {w : World} {pend : Int → List Hi} {ticks : List Int} {Sp St : Nat → Prop} (h : PT B m b6 b7 T w pend ticks Sp St) (x : Hi) (hx : T < x.t) (known : pend x.t = [] ↔ x.t ∉ ticks) (srt : ticks.Pairwise (fun a b => a < b)) (hn : ticks.length ≤ 10000) (hp : (pend x.t).length ≤ 10000) (hB : B ≤ w.heap.size) :
    Calls Tryz.prog 148 #[x.val, .pointer (some ⟨b6, 0, none⟩), .pointer (some ⟨b7, 0, none⟩)] w fun e w' => e = .returned (.tuple #[]) ∧ ∃ Sp' St', PT B m b6 b7 T w' (addP pend x) (addT ticks x.t) Sp' St' ∧ (∀ g, Sp' g ∨ St' g → (Sp g ∨ St g) ∨ w.heap.size ≤ g) ∧ Fr (PN m b7 Sp St) w w' := by
  have hl6 := h.l6
  obtain ⟨tv, gt, t1, t2, t3⟩ := h.tk
  have hl7 : b7 < w.heap.size := (t1.lt _ rfl).2
  obtain ⟨hgt1, hgt2⟩ := h.lS gt (.inr t3)
  have c7 : w.cell? ⟨b7, 0, none⟩ = some tv := by rw [t1.cellAt 0 (by omega)]; rfl
  have HP := Lib.hid h
  have T1 := Lib.hid t1
  have T2 := Lib.hid t2
  obtain ⟨kv, k1, k2, k3⟩ := h.mp
  have hml := imap_lt k1
  have K1 := Lib.hid k1
  have K2 := Lib.hid k2
  have K3 := Lib.hid k3
  have HT3 := Lib.hid t3
  have c6 := h.c6
  have hn7m := h.n7m
  have hn67 := h.n67
  obtain ⟨i0, hi0, hiz0, hiz1, hiz2⟩ := info_parts Tryz.infoHit
  obtain ⟨toff, tcap, htv⟩ : ∃ off cap, tv = .slice (some ⟨gt, off, none⟩) ticks.length cap := by obtain ⟨-, off, cap, N, f, e, -⟩ := t2; exact ⟨off, cap, e⟩
  subst htv
  have hne6 : b6 ≠ w.heap.size := by omega
  have hne7 : b7 ≠ w.heap.size := by omega
  clear h t1 t2 k1 k2 k3 t3
  rcases K2.out x.t hx with ⟨p0, e0⟩ | ⟨p0, g, cap, e0, hs, hown⟩
  · -- a tick that is not known
    have hlk := run_look (B := B) (b6 := b6) (b7 := b7) (T := T) (pend := pend) (Sp := Sp) K1.out x.t (.slice none 0 0) (by rw [e0]; rfl)
    have HLK := Lib.hid hlk
    have hlk1 := hlk (w.alloc (.cells #[.int .i64 x.t, .int .i64 x.p, .int .i64 x.s, .int .i64 x.b] 161)) (Below.heap_alloc w _ m hml)
    clear hlk
    have hnk : x.t ∉ ticks := known.1 p0
    have HSPL := Lib.hid (addT_split ticks x.t srt hnk)
    have hcp := List.countP_le_length (l := ticks) (p := fun y => decide (y < x.t))
    have T2a := Lib.hid (T2.out.below (bl_alloc (o := .cells #[.int .i64 x.t, .int .i64 x.p, .int .i64 x.s, .int .i64 x.b] 161) (Below.refl _ w)) (Nat.le_refl _))
    have HBIN := Lib.hid (bin_any T2a.out (by omega) srt x.t)
    generalize hck : ticks.countP (fun y => decide (y < x.t)) = ck at HSPL hcp HBIN
    clear hck
    have hb1 : Below w.heap.size w (w.alloc (.cells #[.int .i64 x.t, .int .i64 x.p, .int .i64 x.s, .int .i64 x.b] 161)) := bl_alloc (Below.refl _ _)
    go_enter Tryz.func148, Tryz.ntmps148
    go_wp2_with fail
    refine HBIN.out.mono ?_
    rintro e w2 ⟨rfl, hb2⟩
    have hz2 : w.heap.size < w2.heap.size := by have := hb2.size; simp at this; omega
    have hbh := heap_alloc_new w (.cells #[.int .i64 x.t, .int .i64 x.p, .int .i64 x.s, .int .i64 x.b] 161)
    have hbh2 : w2.heap[w.heap.size]? = some (.cells #[.int .i64 x.t, .int .i64 x.p, .int .i64 x.s, .int .i64 x.b] 161 (0, 0)) := by rw [hb2.block _ (by simp)]; exact hbh
    have hb02 : Below w.heap.size w w2 := bl_trans hb1 hb2
    obtain ⟨bh, hbhe⟩ : ∃ bh, bh = w.heap.size := ⟨_, rfl⟩
    have hbh1 : w.heap.size ≤ bh := by omega
    have hbh3 : bh ≤ w.heap.size := by omega
    rw [← hbhe] at hbh2
    have m0 : w2.cell? ⟨bh, 0, none⟩ = some (.int .i64 x.t) := by rw [cell_of_row _ _ _ _ _ _ hbh2]; rfl
    have c72 : w2.cell? ⟨b7, 0, none⟩ = some (.slice (some ⟨gt, toff, none⟩) ticks.length tcap) := by rw [hb02.cell (p := ⟨_, _, none⟩) hl7]; exact c7
    have hb03 : Below w.heap.size w (w2.alloc (.cells #[.int .i64 x.t] 3)) := bl_alloc hb02
    have HINS := Lib.hid (insert_any (B := B) _ ticks gt x.t ck hcp _ (T2.out.below hb03 (Nat.le_refl _)) (by omega) w2.heap.size (heap_alloc_new w2 _) (by omega) (by have := hb03.size; omega))
    rw [← HSPL.out] at HINS
    have hn2 : bh ≠ w2.heap.size := by omega
    have hn3 : b7 ≠ w2.heap.size := by omega
    simp only
    rw [← hbhe]
    clear hbhe hb1 hb2 hbh
    go_wp2_with fail
    refine HINS.out.mono ?_
    rintro e w3 ⟨v', g', rfl, hoff, hgr, hg'⟩
    obtain ⟨noff, ncap, hv'⟩ : ∃ off cap, v' = .slice (some ⟨g', off, none⟩) (addT ticks x.t).length cap := by obtain ⟨-, off, cap, N, f, e, -⟩ := hoff; exact ⟨off, cap, e⟩
    subst hv'
    have hf3 : Fr (fun k => k = b7 ∨ St k) w w3 := (Fr.of_below hb03).trans2 (Fr.of_grown (N := fun k => k = b7 ∨ St k) hgr (fun g e _ => by cases e; exact .inr HT3.out)) (fun _ _ e => e)
    have own7 := own_fr T1.out ((Fr.of_below (N := fun k => k = gt) hb03).trans2 (Fr.of_grown (N := fun k => k = gt) hgr (fun g e _ => by cases e; rfl)) (fun _ _ e => e)) (fun k hk e => by have h9 : some b7 = some k := hk; cases h9; subst e; exact (HP.out.nS b7 (.inr HT3.out)).2.2 rfl)
    have hbh4 : w3.heap[bh]? = some (.cells #[.int .i64 x.t, .int .i64 x.p, .int .i64 x.s, .int .i64 x.b] 161 (0, 0)) := by
      rw [hgr.block bh (by simp; omega) (fun e => by cases e; omega), Below.heap_alloc _ _ _ (by omega)]; exact hbh2
    obtain ⟨⟨vv, cc⟩, ff⟩ := own_cell own7 (j := 0) (by omega)
    have hg'7 : g' ≠ b7 := by
      rcases hg' with rfl | h9
      · exact (HP.out.nS g' (.inr HT3.out)).2.2
      · simp at h9; omega
    have OWN7 := Lib.hid own7
    have HOFF := Lib.hid hoff
    clear own7 hoff m0 c72 hbh2
    go_upto_region 4 with fail
    have st7 := (OWN7.out.stored 0 (.slice (some ⟨g', noff, none⟩) (addT ticks x.t).length ncap)).1
    have gr7 := (OWN7.out.stored 0 (.slice (some ⟨g', noff, none⟩) (addT ticks x.t).length ncap)).2
    have P4 := Lib.hid (HP.out.ticks' (hf3.trans (Fr.of_grown gr7 (fun g e _ => by cases e; exact .inl rfl))) st7 (HOFF.out.kept gr7 (fun e => by cases e; exact hg'7 rfl)) (by
      rcases hg' with rfl | h9
      · exact .inl HT3.out
      · exact .inr (by simp at h9; omega)))
    have hf4 : Fr (fun k => k = b7 ∨ St k) w (w3.setCell ⟨b7, 0, none⟩ (.slice (some ⟨g', noff, none⟩) (addT ticks x.t).length ncap)) := hf3.trans (Fr.of_grown gr7 (fun g e _ => by cases e; exact .inl rfl))
    have hbh5 := gr7.block bh (Array.getElem?_eq_some_iff.1 hbh4).1 (fun e => by cases e; omega)
    rw [hbh4] at hbh5
    obtain ⟨W4, hW4⟩ : ∃ W, W = w3.setCell ⟨b7, 0, none⟩ (.slice (some ⟨g', noff, none⟩) (addT ticks x.t).length ncap) := ⟨_, rfl⟩
    rw [← hW4] at P4 hf4 hbh5 ⊢
    clear hW4 cc ff st7 gr7 hgr hf3
    have hmN : ¬ (m = b7 ∨ St m) := fun e => by
      rcases e with e | e
      · exact HP.out.n7m e.symm
      · exact (HP.out.nS m (.inr e)).1 rfl
    have hm4 : W4.heap[m]? = w.heap[m]? := hf4.block m hml hmN
    have K14 := Lib.hid (imap_fr K1.out hf4 hmN)
    have c64 := P4.out.c6
    have hml4 : m < W4.heap.size := imap_lt K14.out
    have hl64 : b6 < W4.heap.size := P4.out.l6
    have hbl4 : bh < W4.heap.size := (Array.getElem?_eq_some_iff.1 hbh5).1
    have z0 : W4.cell? ⟨bh, 0, none⟩ = some (.int .i64 x.t) := by rw [cell_of_row _ _ _ _ _ _ hbh5]; rfl
    have z1 : W4.cell? ⟨bh, 1, none⟩ = some (.int .i64 x.p) := by rw [cell_of_row _ _ _ _ _ _ hbh5]; rfl
    have z2 : W4.cell? ⟨bh, 2, none⟩ = some (.int .i64 x.s) := by rw [cell_of_row _ _ _ _ _ _ hbh5]; rfl
    have z3 : W4.cell? ⟨bh, 3, none⟩ = some (.int .i64 x.b) := by rw [cell_of_row _ _ _ _ _ _ hbh5]; rfl
    -- REGA
    have K24 := Lib.hid (fun t ht => (K2.out t ht).fr hf4 (fun g hg e => by
      rcases e with e | e
      · exact (HP.out.nS g (.inl hg)).2.2 e
      · exact HP.out.dj g hg e))
    obtain ⟨FN, hFN⟩ : ∃ FN : Nat → Prop, FN = fun k => k = b7 ∨ St k := ⟨_, rfl⟩
    rw [← hFN] at hf4
    have HFN : Hid (∀ k, FN k → PN m b7 Sp St k) := Lib.hid (fun k hk => by
      rw [hFN] at hk
      rcases hk with e | e
      · exact .inr (.inl e)
      · exact .inr (.inr (.inr e)))
    clear hFN hmN hbh5 hbh4
    refine wp_region_T 0 10 (fun w' => w'.cell? ⟨b6, 0, none⟩ = some (.map (some m)) ∧ w'.cell? ⟨bh, 0, none⟩ = some (.int .i64 x.t) ∧ w'.cell? ⟨bh, 1, none⟩ = some (.int .i64 x.p) ∧ w'.cell? ⟨bh, 2, none⟩ = some (.int .i64 x.s) ∧ w'.cell? ⟨bh, 3, none⟩ = some (.int .i64 x.b) ∧ (Instr.lookup 194 (.map (some m)) (.int .i64 x.t) false).run Tryz.prog w' = .ok (.slice none 0 0) w') (by kernel_rfl) ⟨c64, z0, z1, z2, z3, HLK.out _ hm4⟩ (fun hHeld => ?_)
    obtain ⟨Y0, hY0⟩ : ∃ Y, Y = W4.drew := ⟨_, rfl⟩
    have P5 := Lib.hid (P4.out.step (bl_drew (Below.refl _ _)))
    have hf5 : Fr FN w W4.drew := hf4.trans (Fr.of_below (bl_drew (Below.refl _ _)))
    have K15 := Lib.hid (map_drew' K14.out)
    have hm5 : W4.drew.heap[m]? = w.heap[m]? := hm4
    have K25 := Lib.hid (fun t ht => (K24.out t ht).fr (N := fun _ => False) (Fr.of_below (bl_drew (Below.refl _ W4))) (fun _ _ e => e))
    rw [← hY0] at P5 hf5 K15 hHeld hm5 K25 ⊢
    have hml5 : m < Y0.heap.size := imap_lt K15.out
    have hl65 : b6 < Y0.heap.size := P5.out.l6
    have hbl5 : bh < Y0.heap.size := by rw [hY0]; exact hbl4
    have hszw : w.heap.size ≤ Y0.heap.size := hf5.size
    have HS : Hid (∀ Y : World, Y.heap[b6]? = Y0.heap[b6]? → Y.heap[bh]? = Y0.heap[bh]? → Y.heap[m]? = Y0.heap[m]? → Y.cell? ⟨b6, 0, none⟩ = some (.map (some m)) ∧ Y.cell? ⟨bh, 0, none⟩ = some (.int .i64 x.t) ∧ Y.cell? ⟨bh, 1, none⟩ = some (.int .i64 x.p) ∧ Y.cell? ⟨bh, 2, none⟩ = some (.int .i64 x.s) ∧ Y.cell? ⟨bh, 3, none⟩ = some (.int .i64 x.b) ∧ (Instr.lookup 194 (.map (some m)) (.int .i64 x.t) false).run Tryz.prog Y = .ok (.slice none 0 0) Y) := Lib.hid (by
      intro Y e1 e2 e3
      obtain ⟨h1, h2, h3, h4, h5, -⟩ := hHeld
      refine ⟨?_, ?_, ?_, ?_, ?_, HLK.out Y (e3.trans hm5)⟩
      · rw [World.cell?_of_block (a := ⟨b6, 0, none⟩) e1]; exact h1
      · rw [World.cell?_of_block (a := ⟨bh, 0, none⟩) e2]; exact h2
      · rw [World.cell?_of_block (a := ⟨bh, 1, none⟩) e2]; exact h3
      · rw [World.cell?_of_block (a := ⟨bh, 2, none⟩) e2]; exact h4
      · rw [World.cell?_of_block (a := ⟨bh, 3, none⟩) e2]; exact h5)
    clear hY0 c64 z0 z1 z2 z3 hm4 hm5
    (refine' wpAnyT_take 6 0 (oi := ?oi1) (v := ?v1) ?hi1 (by kernel_rfl) (by kernel_rfl) (by kernel_rfl) (by kernel_rfl) (by kernel_rfl) (by kernel_rfl) ?hQ1 ?hy1 (by assumption) ?rest1; (case hi1 => simp only [List.getElem?_toArray, List.getElem?_cons_zero, List.getElem?_cons_succ]; rfl); (case hQ1 => exact fun _ _ _ h => h); (case hy1 => refine Or.inl ⟨by rfl, ?_⟩; intro wz hSw; (try dsimp only at hSw); go_simp; try with_reducible rfl); try simp only [Act.put, List.setIfInBounds_toArray, List.set_cons_zero, List.set_cons_succ])
    (refine' wpAnyT_take 6 1 (oi := ?oi2) (v := ?v2) ?hi2 (by kernel_rfl) (by kernel_rfl) (by kernel_rfl) (by kernel_rfl) (by kernel_rfl) (by kernel_rfl) ?hQ2 ?hy2 (by assumption) ?rest2; (case hi2 => simp only [List.getElem?_toArray, List.getElem?_cons_zero, List.getElem?_cons_succ]; rfl); (case hQ2 => exact fun _ _ _ h => h); (case hy2 => refine Or.inl ⟨by rfl, ?_⟩; intro wz hSw; (try dsimp only at hSw); go_simp; try with_reducible rfl); try simp only [Act.put, List.setIfInBounds_toArray, List.set_cons_zero, List.set_cons_succ])
    (refine' wpAnyT_take 6 2 (oi := ?oi3) (v := ?v3) ?hi3 (by kernel_rfl) (by kernel_rfl) (by kernel_rfl) (by kernel_rfl) (by kernel_rfl) (by kernel_rfl) ?hQ3 ?hy3 (by assumption) ?rest3; (case hi3 => simp only [List.getElem?_toArray, List.getElem?_cons_zero, List.getElem?_cons_succ]; rfl); (case hQ3 => exact fun _ _ _ h => h); (case hy3 => refine Or.inl ⟨by rfl, ?_⟩; intro wz hSw; (try dsimp only at hSw); go_simp; try with_reducible rfl); try simp only [Act.put, List.setIfInBounds_toArray, List.set_cons_zero, List.set_cons_succ])
    (refine' wpAnyT_take 6 3 (oi := ?oi4) (v := ?v4) ?hi4 (by kernel_rfl) (by kernel_rfl) (by kernel_rfl) (by kernel_rfl) (by kernel_rfl) (by kernel_rfl) ?hQ4 ?hy4 (by assumption) ?rest4; (case hi4 => simp only [List.getElem?_toArray, List.getElem?_cons_zero, List.getElem?_cons_succ]; rfl); (case hQ4 => exact fun _ _ _ h => h); (case hy4 => refine Or.inl ⟨by rfl, ?_⟩; intro wz hSw; (try dsimp only at hSw); go_simp; try with_reducible rfl); try simp only [Act.put, List.setIfInBounds_toArray, List.set_cons_zero, List.set_cons_succ])
    (refine' wpAnyT_take 6 4 (oi := ?oi5) (v := ?v5) ?hi5 (by kernel_rfl) (by kernel_rfl) (by kernel_rfl) (by kernel_rfl) (by kernel_rfl) (by kernel_rfl) ?hQ5 ?hy5 (by assumption) ?rest5; (case hi5 => simp only [List.getElem?_toArray, List.getElem?_cons_zero, List.getElem?_cons_succ]; rfl); (case hQ5 => exact fun _ _ _ h => h); (case hy5 => refine Or.inl ⟨by rfl, ?_⟩; intro wz hSw; (try dsimp only at hSw); go_simp; try with_reducible rfl); try simp only [Act.put, List.setIfInBounds_toArray, List.set_cons_zero, List.set_cons_succ])
    (refine' wpAnyT_take 6 5 (oi := ?oi6) (v := ?v6) ?hi6 (by kernel_rfl) (by kernel_rfl) (by kernel_rfl) (by kernel_rfl) (by kernel_rfl) (by kernel_rfl) ?hQ6 ?hy6 (by assumption) ?rest6; (case hi6 => simp only [List.getElem?_toArray, List.getElem?_cons_zero, List.getElem?_cons_succ]; rfl); (case hQ6 => exact fun _ _ _ h => h); (case hy6 => refine Or.inl ⟨by rfl, ?_⟩; intro wz hSw; (try dsimp only at hSw); go_simp; try with_reducible rfl); try simp only [Act.put, List.setIfInBounds_toArray, List.set_cons_zero, List.set_cons_succ])
    (refine' wpAnyT_take 6 6 (oi := ?oi7) (v := ?v7) ?hi7 (by kernel_rfl) (by kernel_rfl) (by kernel_rfl) (by kernel_rfl) (by kernel_rfl) (by kernel_rfl) ?hQ7 ?hy7 (by assumption) ?rest7; (case hi7 => simp only [List.getElem?_toArray, List.getElem?_cons_zero, List.getElem?_cons_succ]; rfl); (case hQ7 => exact fun _ _ _ h => h); (case hy7 => refine Or.inl ⟨by rfl, ?_⟩; intro wz hSw; (try dsimp only at hSw); go_simp; try with_reducible rfl); try simp only [Act.put, List.setIfInBounds_toArray, List.set_cons_zero, List.set_cons_succ])
    (refine' wpAnyT_take 6 7 (oi := ?oi8) (v := ?v8) ?hi8 (by kernel_rfl) (by kernel_rfl) (by kernel_rfl) (by kernel_rfl) (by kernel_rfl) (by kernel_rfl) ?hQ8 ?hy8 (by assumption) ?rest8; (case hi8 => simp only [List.getElem?_toArray, List.getElem?_cons_zero, List.getElem?_cons_succ]; rfl); (case hQ8 => exact fun _ _ _ h => h); (case hy8 => refine Or.inl ⟨by rfl, ?_⟩; intro wz hSw; (try dsimp only at hSw); go_simp; try with_reducible rfl); try simp only [Act.put, List.setIfInBounds_toArray, List.set_cons_zero, List.set_cons_succ])
    clear hHeld
    refine wpAnyT_ready (rs := [8]) (by kernel_rfl) (by simp) ?_
    (refine' AllReadyT.cons (o := ?o17) ?ho17 (fun K hK => ?step17) AllReadyT.nil; (case ho17 => simp only [List.getElem?_toArray, List.getElem?_cons_zero, List.getElem?_cons_succ]; rfl))
    go_simp
    have o1 := World.news_of_block (cs := #[.int .i64 x.t, .int .i64 x.p, .int .i64 x.s, .int .i64 x.b]) (t := 161) (fr := (0, 0)) (heap_alloc_new Y0 (.cells #[.int .i64 x.t, .int .i64 x.p, .int .i64 x.s, .int .i64 x.b] 161))
    have P6 := Lib.hid (P5.out.step (bl_alloc (o := .cells #[.int .i64 x.t, .int .i64 x.p, .int .i64 x.s, .int .i64 x.b] 161) (Below.refl _ Y0)))
    have hf6 : Fr FN w (Y0.alloc (.cells #[.int .i64 x.t, .int .i64 x.p, .int .i64 x.s, .int .i64 x.b] 161)) := hf5.trans (Fr.of_below (bl_alloc (Below.refl _ _)))
    have K16 := Lib.hid (imap_alloc K15.out (.cells #[.int .i64 x.t, .int .i64 x.p, .int .i64 x.s, .int .i64 x.b] 161))
    have K26 := Lib.hid (fun t ht => (K25.out t ht).fr (N := fun _ => False) (Fr.of_below (bl_alloc (o := .cells #[.int .i64 x.t, .int .i64 x.p, .int .i64 x.s, .int .i64 x.b] 161) (Below.refl _ Y0))) (fun _ _ e => e))
    have S1 := HS.out (Y0.alloc (.cells #[.int .i64 x.t, .int .i64 x.p, .int .i64 x.s, .int .i64 x.b] 161)) (Below.heap_alloc _ _ _ hl65) (Below.heap_alloc _ _ _ hbl5) (Below.heap_alloc _ _ _ hml5)
    have q1 := Below.heap_alloc Y0 (.cells #[.int .i64 x.t, .int .i64 x.p, .int .i64 x.s, .int .i64 x.b] 161) b6 hl65
    have q2 := Below.heap_alloc Y0 (.cells #[.int .i64 x.t, .int .i64 x.p, .int .i64 x.s, .int .i64 x.b] 161) bh hbl5
    have q3 := Below.heap_alloc Y0 (.cells #[.int .i64 x.t, .int .i64 x.p, .int .i64 x.s, .int .i64 x.b] 161) m hml5
    have hsz1 : Y0.heap.size < (Y0.alloc (.cells #[.int .i64 x.t, .int .i64 x.p, .int .i64 x.s, .int .i64 x.b] 161)).heap.size := by simp
    obtain ⟨Y1, hY⟩ : ∃ Y, Y = Y0.alloc (.cells #[.int .i64 x.t, .int .i64 x.p, .int .i64 x.s, .int .i64 x.b] 161) := ⟨_, rfl⟩
    rw [← hY] at o1 P6 hf6 K16 K26 S1 q1 q2 q3 hsz1 ⊢
    clear hY
    refine hK.out _ _ (fun _ _ => S1) (fun hHeld => ?_)
    clear hK K S1
    try simp only [Act.put, List.setIfInBounds_toArray, List.set_cons_zero, List.set_cons_succ]
    have hown6 := World.ownsRow_nil Y1 B 161 4
    refine wpAnyT_ready (rs := [9]) (by kernel_rfl) (by simp) ?_
    (refine' AllReadyT.cons (o := ?o18) ?ho18 (fun K hK => ?step18) AllReadyT.nil; (case ho18 => simp only [List.getElem?_toArray, List.getElem?_cons_zero, List.getElem?_cons_succ]; rfl))
    refine step_append_lies _ (by rfl) _ _ _ (by rfl) B 161 i0 _ 4 32 Tryz.underlying105 hi0 hiz0 hiz1 hiz2 rfl (by omega) (.slice none 0 0) 0 [] (by rfl) hown6 ⟨Y0.heap.size, 0, none⟩ 1 1 (Hi.cells x) (by rfl) (by rfl) o1 (Hi.one x) (by omega) (by unfold maxLen; omega) (by omega) (by omega) _ rfl ?_
    intro gN capN Y2 hown hgrow hat hltN
    have hrow : ∀ q, q = b6 ∨ q = bh ∨ q = m → some q ≠ (.slice none 0 0 : Value).ownBlock := by
      intro q _ e; cases e
    have S2 := HS.out Y2 ((hgrow.block b6 (by omega) (hrow b6 (.inl rfl))).trans q1) ((hgrow.block bh (by omega) (hrow bh (.inr (.inl rfl)))).trans q2) ((hgrow.block m (by omega) (hrow m (.inr (.inr rfl)))).trans q3)
    have K17 : IMapAt Y2 m kv := by
      obtain ⟨es, clock, h1, h2⟩ := K16.out
      exact ⟨es, clock, by rw [hgrow.block m (imap_lt K16.out) (hrow m (.inr (.inr rfl)))]; exact h1, h2⟩
    refine hK.out _ _ (fun _ _ => S2) (fun hHeld => ?_)
    clear hK K S2
    try simp only [Act.put, List.setIfInBounds_toArray, List.set_cons_zero, List.set_cons_succ]
    refine wpAnyT_ready (rs := [10]) (by kernel_rfl) (by simp) ?_
    (refine' AllReadyT.cons (o := ?o19) ?ho19 (fun K hK => ?step19) AllReadyT.nil; (case ho19 => simp only [List.getElem?_toArray, List.getElem?_cons_zero, List.getElem?_cons_succ]; rfl))
    refine step_update_i (by rfl) _ _ _ _ (by rfl) (show ITy Tryz.prog 3 from Tryz.underlying3) Tryz.underlying194 m kv (by rfl) K17 x.t (.slice (some ⟨gN, 0, none⟩) (0 + 1) capN) (by rfl) (by rfl) ?_
    intro Y3 m3 g3 s3
    refine hK.out _ _ (fun _ h => absurd h (by decide)) (fun _ => ?_)
    clear hK K hHeld
    try simp only [Act.put, List.setIfInBounds_toArray, List.set_cons_zero, List.set_cons_succ]
    refine wpAnyT_done (by kernel_rfl) ?_ _
    have hff : Fr (fun k => ∃ c, imget x.t kv = some (.slice (some ⟨k, 0, none⟩) (pend x.t).length c)) Y1 Y2 := Fr.of_grown hgrow (fun q e hq => by
      cases e)
    have PF := Lib.hid (P6.out.push K16.out K26.out K3.out x hx (w1 := Y2) (w2 := Y3) (g' := gN) (cap' := capN) (by rw [p0]; exact hown) (by
      rcases hat with h9 | h9
      · cases h9
      · exact .inr (by rw [h9]; exact Nat.le_refl _)) hff (by rw [p0]; exact m3) g3)
    have hfY2 : Fr (PN m b7 Sp St) w Y2 := (hf6.weak (fun k _ e => HFN.out k e)).trans2 (Fr.of_grown (N := PN m b7 Sp St) hgrow (fun q e hq => by
      cases e)) (fun _ _ e => e)
    have hff2 : Fr (PN m b7 Sp St) w Y3 := hfY2.trans2 (Fr.of_grown (N := PN m b7 Sp St) g3 (fun q e hq => by cases e; exact .inl rfl)) (fun _ _ e => e)
    have HFF2 := Lib.hid hff2
    have HGN : Hid (w.heap.size ≤ gN) := Lib.hid (by
      rcases hat with h9 | h9
      · cases h9
      · omega)
    clear hff hff2 hgrow hown hat K17 m3 g3 hfY2
    go_wp2
    go_end0
    exact ⟨rfl, _, _, PF.out, (fun q hq => by
      rcases hq with (hq | rfl) | hq
      · exact .inl (.inl hq)
      · exact .inr HGN.out
      · rcases hg' with h9 | h9
        · exact .inl (.inr (by rw [hq, h9]; exact HT3.out))
        · exact .inr (by rw [hq]; simp at h9; omega)), HFF2.out⟩
  · have hlk := run_look (B := B) (b6 := b6) (b7 := b7) (T := T) (pend := pend) (Sp := Sp) K1.out x.t (.slice (some ⟨g, 0, none⟩) (pend x.t).length cap) (by rw [e0]; rfl)
    have HLK := Lib.hid hlk
    have hlk1 := hlk (w.alloc (.cells #[.int .i64 x.t, .int .i64 x.p, .int .i64 x.s, .int .i64 x.b] 161)) (Below.heap_alloc w _ m hml)
    clear hlk
    have hlen0 : ((pend x.t).length == 0) = false := by simpa using p0
    go_enter Tryz.func148, Tryz.ntmps148
    go_upto_region 4 with fail
    have hbh := heap_alloc_new w (.cells #[.int .i64 x.t, .int .i64 x.p, .int .i64 x.s, .int .i64 x.b] 161)
    have hb1 : Below w.heap.size w (w.alloc (.cells #[.int .i64 x.t, .int .i64 x.p, .int .i64 x.s, .int .i64 x.b] 161)) := bl_alloc (Below.refl _ _)
    obtain ⟨W4, hW4⟩ : ∃ W, W = w.alloc (.cells #[.int .i64 x.t, .int .i64 x.p, .int .i64 x.s, .int .i64 x.b] 161) := ⟨_, rfl⟩
    rw [← hW4] at hbh hb1 hlk1 ⊢
    clear hW4
    obtain ⟨bh, hbhe⟩ : ∃ bh, bh = w.heap.size := ⟨_, rfl⟩
    have hbh1 : w.heap.size ≤ bh := by omega
    have hbh3 : bh ≤ w.heap.size := by omega
    rw [← hbhe] at hbh ⊢
    clear hbhe
    have hf4 : Fr (fun _ => False) w W4 := Fr.of_below hb1
    have P4 := Lib.hid (HP.out.step hb1)
    have hm4 : W4.heap[m]? = w.heap[m]? := hf4.block m hml (fun e => e)
    have K14 := Lib.hid (imap_fr K1.out hf4 (fun e => e))
    have c64 := P4.out.c6
    have hml4 : m < W4.heap.size := imap_lt K14.out
    have hl64 : b6 < W4.heap.size := P4.out.l6
    have hbl4 : bh < W4.heap.size := (Array.getElem?_eq_some_iff.1 hbh).1
    have z0 : W4.cell? ⟨bh, 0, none⟩ = some (.int .i64 x.t) := by rw [cell_of_row _ _ _ _ _ _ hbh]; rfl
    have z1 : W4.cell? ⟨bh, 1, none⟩ = some (.int .i64 x.p) := by rw [cell_of_row _ _ _ _ _ _ hbh]; rfl
    have z2 : W4.cell? ⟨bh, 2, none⟩ = some (.int .i64 x.s) := by rw [cell_of_row _ _ _ _ _ _ hbh]; rfl
    have z3 : W4.cell? ⟨bh, 3, none⟩ = some (.int .i64 x.b) := by rw [cell_of_row _ _ _ _ _ _ hbh]; rfl
    have K24 := Lib.hid (fun t ht => (K2.out t ht).fr hf4 (fun g hg e => e))
    have hown0 := hown
    obtain ⟨FN, hFN⟩ : ∃ FN : Nat → Prop, FN = fun _ => False := ⟨_, rfl⟩
    have HFN : Hid (∀ k, FN k → PN m b7 Sp St k) := Lib.hid (fun k hk => by rw [hFN] at hk; exact hk.elim)
    rw [← hFN] at hf4
    have HOWN0 := Lib.hid hown0
    clear hbh hlk1 hown hown0 c7

    refine wp_region_T 0 10 (fun w' => w'.cell? ⟨b6, 0, none⟩ = some (.map (some m)) ∧ w'.cell? ⟨bh, 0, none⟩ = some (.int .i64 x.t) ∧ w'.cell? ⟨bh, 1, none⟩ = some (.int .i64 x.p) ∧ w'.cell? ⟨bh, 2, none⟩ = some (.int .i64 x.s) ∧ w'.cell? ⟨bh, 3, none⟩ = some (.int .i64 x.b) ∧ (Instr.lookup 194 (.map (some m)) (.int .i64 x.t) false).run Tryz.prog w' = .ok (.slice (some ⟨g, 0, none⟩) (pend x.t).length cap) w') (by kernel_rfl) ⟨c64, z0, z1, z2, z3, HLK.out _ hm4⟩ (fun hHeld => ?_)
    obtain ⟨Y0, hY0⟩ : ∃ Y, Y = W4.drew := ⟨_, rfl⟩
    have P5 := Lib.hid (P4.out.step (bl_drew (Below.refl _ _)))
    have hf5 : Fr FN w W4.drew := hf4.trans (Fr.of_below (bl_drew (Below.refl _ _)))
    have K15 := Lib.hid (map_drew' K14.out)
    have hm5 : W4.drew.heap[m]? = w.heap[m]? := hm4
    have K25 := Lib.hid (fun t ht => (K24.out t ht).fr (N := fun _ => False) (Fr.of_below (bl_drew (Below.refl _ W4))) (fun _ _ e => e))
    rw [← hY0] at P5 hf5 K15 hHeld hm5 K25 ⊢
    have hml5 : m < Y0.heap.size := imap_lt K15.out
    have hl65 : b6 < Y0.heap.size := P5.out.l6
    have hbl5 : bh < Y0.heap.size := by rw [hY0]; exact hbl4
    have hszw : w.heap.size ≤ Y0.heap.size := hf5.size
    have HS : Hid (∀ Y : World, Y.heap[b6]? = Y0.heap[b6]? → Y.heap[bh]? = Y0.heap[bh]? → Y.heap[m]? = Y0.heap[m]? → Y.cell? ⟨b6, 0, none⟩ = some (.map (some m)) ∧ Y.cell? ⟨bh, 0, none⟩ = some (.int .i64 x.t) ∧ Y.cell? ⟨bh, 1, none⟩ = some (.int .i64 x.p) ∧ Y.cell? ⟨bh, 2, none⟩ = some (.int .i64 x.s) ∧ Y.cell? ⟨bh, 3, none⟩ = some (.int .i64 x.b) ∧ (Instr.lookup 194 (.map (some m)) (.int .i64 x.t) false).run Tryz.prog Y = .ok (.slice (some ⟨g, 0, none⟩) (pend x.t).length cap) Y) := Lib.hid (by
      intro Y e1 e2 e3
      obtain ⟨h1, h2, h3, h4, h5, -⟩ := hHeld
      refine ⟨?_, ?_, ?_, ?_, ?_, HLK.out Y (e3.trans hm5)⟩
      · rw [World.cell?_of_block (a := ⟨b6, 0, none⟩) e1]; exact h1
      · rw [World.cell?_of_block (a := ⟨bh, 0, none⟩) e2]; exact h2
      · rw [World.cell?_of_block (a := ⟨bh, 1, none⟩) e2]; exact h3
      · rw [World.cell?_of_block (a := ⟨bh, 2, none⟩) e2]; exact h4
      · rw [World.cell?_of_block (a := ⟨bh, 3, none⟩) e2]; exact h5)
    clear hY0 c64 z0 z1 z2 z3 hm4 hm5
    (refine' wpAnyT_take 6 0 (oi := ?oi9) (v := ?v9) ?hi9 (by kernel_rfl) (by kernel_rfl) (by kernel_rfl) (by kernel_rfl) (by kernel_rfl) (by kernel_rfl) ?hQ9 ?hy9 (by assumption) ?rest9; (case hi9 => simp only [List.getElem?_toArray, List.getElem?_cons_zero, List.getElem?_cons_succ]; rfl); (case hQ9 => exact fun _ _ _ h => h); (case hy9 => refine Or.inl ⟨by rfl, ?_⟩; intro wz hSw; (try dsimp only at hSw); go_simp; try with_reducible rfl); try simp only [Act.put, List.setIfInBounds_toArray, List.set_cons_zero, List.set_cons_succ])
    (refine' wpAnyT_take 6 1 (oi := ?oi10) (v := ?v10) ?hi10 (by kernel_rfl) (by kernel_rfl) (by kernel_rfl) (by kernel_rfl) (by kernel_rfl) (by kernel_rfl) ?hQ10 ?hy10 (by assumption) ?rest10; (case hi10 => simp only [List.getElem?_toArray, List.getElem?_cons_zero, List.getElem?_cons_succ]; rfl); (case hQ10 => exact fun _ _ _ h => h); (case hy10 => refine Or.inl ⟨by rfl, ?_⟩; intro wz hSw; (try dsimp only at hSw); go_simp; try with_reducible rfl); try simp only [Act.put, List.setIfInBounds_toArray, List.set_cons_zero, List.set_cons_succ])
    (refine' wpAnyT_take 6 2 (oi := ?oi11) (v := ?v11) ?hi11 (by kernel_rfl) (by kernel_rfl) (by kernel_rfl) (by kernel_rfl) (by kernel_rfl) (by kernel_rfl) ?hQ11 ?hy11 (by assumption) ?rest11; (case hi11 => simp only [List.getElem?_toArray, List.getElem?_cons_zero, List.getElem?_cons_succ]; rfl); (case hQ11 => exact fun _ _ _ h => h); (case hy11 => refine Or.inl ⟨by rfl, ?_⟩; intro wz hSw; (try dsimp only at hSw); go_simp; try with_reducible rfl); try simp only [Act.put, List.setIfInBounds_toArray, List.set_cons_zero, List.set_cons_succ])
    (refine' wpAnyT_take 6 3 (oi := ?oi12) (v := ?v12) ?hi12 (by kernel_rfl) (by kernel_rfl) (by kernel_rfl) (by kernel_rfl) (by kernel_rfl) (by kernel_rfl) ?hQ12 ?hy12 (by assumption) ?rest12; (case hi12 => simp only [List.getElem?_toArray, List.getElem?_cons_zero, List.getElem?_cons_succ]; rfl); (case hQ12 => exact fun _ _ _ h => h); (case hy12 => refine Or.inl ⟨by rfl, ?_⟩; intro wz hSw; (try dsimp only at hSw); go_simp; try with_reducible rfl); try simp only [Act.put, List.setIfInBounds_toArray, List.set_cons_zero, List.set_cons_succ])
    (refine' wpAnyT_take 6 4 (oi := ?oi13) (v := ?v13) ?hi13 (by kernel_rfl) (by kernel_rfl) (by kernel_rfl) (by kernel_rfl) (by kernel_rfl) (by kernel_rfl) ?hQ13 ?hy13 (by assumption) ?rest13; (case hi13 => simp only [List.getElem?_toArray, List.getElem?_cons_zero, List.getElem?_cons_succ]; rfl); (case hQ13 => exact fun _ _ _ h => h); (case hy13 => refine Or.inl ⟨by rfl, ?_⟩; intro wz hSw; (try dsimp only at hSw); go_simp; try with_reducible rfl); try simp only [Act.put, List.setIfInBounds_toArray, List.set_cons_zero, List.set_cons_succ])
    (refine' wpAnyT_take 6 5 (oi := ?oi14) (v := ?v14) ?hi14 (by kernel_rfl) (by kernel_rfl) (by kernel_rfl) (by kernel_rfl) (by kernel_rfl) (by kernel_rfl) ?hQ14 ?hy14 (by assumption) ?rest14; (case hi14 => simp only [List.getElem?_toArray, List.getElem?_cons_zero, List.getElem?_cons_succ]; rfl); (case hQ14 => exact fun _ _ _ h => h); (case hy14 => refine Or.inl ⟨by rfl, ?_⟩; intro wz hSw; (try dsimp only at hSw); go_simp; try with_reducible rfl); try simp only [Act.put, List.setIfInBounds_toArray, List.set_cons_zero, List.set_cons_succ])
    (refine' wpAnyT_take 6 6 (oi := ?oi15) (v := ?v15) ?hi15 (by kernel_rfl) (by kernel_rfl) (by kernel_rfl) (by kernel_rfl) (by kernel_rfl) (by kernel_rfl) ?hQ15 ?hy15 (by assumption) ?rest15; (case hi15 => simp only [List.getElem?_toArray, List.getElem?_cons_zero, List.getElem?_cons_succ]; rfl); (case hQ15 => exact fun _ _ _ h => h); (case hy15 => refine Or.inl ⟨by rfl, ?_⟩; intro wz hSw; (try dsimp only at hSw); go_simp; try with_reducible rfl); try simp only [Act.put, List.setIfInBounds_toArray, List.set_cons_zero, List.set_cons_succ])
    (refine' wpAnyT_take 6 7 (oi := ?oi16) (v := ?v16) ?hi16 (by kernel_rfl) (by kernel_rfl) (by kernel_rfl) (by kernel_rfl) (by kernel_rfl) (by kernel_rfl) ?hQ16 ?hy16 (by assumption) ?rest16; (case hi16 => simp only [List.getElem?_toArray, List.getElem?_cons_zero, List.getElem?_cons_succ]; rfl); (case hQ16 => exact fun _ _ _ h => h); (case hy16 => refine Or.inl ⟨by rfl, ?_⟩; intro wz hSw; (try dsimp only at hSw); go_simp; try with_reducible rfl); try simp only [Act.put, List.setIfInBounds_toArray, List.set_cons_zero, List.set_cons_succ])
    clear hHeld
    refine wpAnyT_ready (rs := [8]) (by kernel_rfl) (by simp) ?_
    (refine' AllReadyT.cons (o := ?o20) ?ho20 (fun K hK => ?step20) AllReadyT.nil; (case ho20 => simp only [List.getElem?_toArray, List.getElem?_cons_zero, List.getElem?_cons_succ]; rfl))
    go_simp
    have o1 := World.news_of_block (cs := #[.int .i64 x.t, .int .i64 x.p, .int .i64 x.s, .int .i64 x.b]) (t := 161) (fr := (0, 0)) (heap_alloc_new Y0 (.cells #[.int .i64 x.t, .int .i64 x.p, .int .i64 x.s, .int .i64 x.b] 161))
    have P6 := Lib.hid (P5.out.step (bl_alloc (o := .cells #[.int .i64 x.t, .int .i64 x.p, .int .i64 x.s, .int .i64 x.b] 161) (Below.refl _ Y0)))
    have hf6 : Fr FN w (Y0.alloc (.cells #[.int .i64 x.t, .int .i64 x.p, .int .i64 x.s, .int .i64 x.b] 161)) := hf5.trans (Fr.of_below (bl_alloc (Below.refl _ _)))
    have K16 := Lib.hid (imap_alloc K15.out (.cells #[.int .i64 x.t, .int .i64 x.p, .int .i64 x.s, .int .i64 x.b] 161))
    have K26 := Lib.hid (fun t ht => (K25.out t ht).fr (N := fun _ => False) (Fr.of_below (bl_alloc (o := .cells #[.int .i64 x.t, .int .i64 x.p, .int .i64 x.s, .int .i64 x.b] 161) (Below.refl _ Y0))) (fun _ _ e => e))
    have S1 := HS.out (Y0.alloc (.cells #[.int .i64 x.t, .int .i64 x.p, .int .i64 x.s, .int .i64 x.b] 161)) (Below.heap_alloc _ _ _ hl65) (Below.heap_alloc _ _ _ hbl5) (Below.heap_alloc _ _ _ hml5)
    have q1 := Below.heap_alloc Y0 (.cells #[.int .i64 x.t, .int .i64 x.p, .int .i64 x.s, .int .i64 x.b] 161) b6 hl65
    have q2 := Below.heap_alloc Y0 (.cells #[.int .i64 x.t, .int .i64 x.p, .int .i64 x.s, .int .i64 x.b] 161) bh hbl5
    have q3 := Below.heap_alloc Y0 (.cells #[.int .i64 x.t, .int .i64 x.p, .int .i64 x.s, .int .i64 x.b] 161) m hml5
    have hsz1 : Y0.heap.size < (Y0.alloc (.cells #[.int .i64 x.t, .int .i64 x.p, .int .i64 x.s, .int .i64 x.b] 161)).heap.size := by simp
    obtain ⟨Y1, hY⟩ : ∃ Y, Y = Y0.alloc (.cells #[.int .i64 x.t, .int .i64 x.p, .int .i64 x.s, .int .i64 x.b] 161) := ⟨_, rfl⟩
    rw [← hY] at o1 P6 hf6 K16 K26 S1 q1 q2 q3 hsz1 ⊢
    clear hY
    refine hK.out _ _ (fun _ _ => S1) (fun hHeld => ?_)
    clear hK K S1
    try simp only [Act.put, List.setIfInBounds_toArray, List.set_cons_zero, List.set_cons_succ]
    have hown6 := own_fr HOWN0.out hf6 (fun k hk e => by rw [hFN] at e; exact e)
    clear hFN
    refine wpAnyT_ready (rs := [9]) (by kernel_rfl) (by simp) ?_
    (refine' AllReadyT.cons (o := ?o21) ?ho21 (fun K hK => ?step21) AllReadyT.nil; (case ho21 => simp only [List.getElem?_toArray, List.getElem?_cons_zero, List.getElem?_cons_succ]; rfl))
    refine step_append_lies _ (by rfl) _ _ _ (by rfl) B 161 i0 _ 4 32 Tryz.underlying105 hi0 hiz0 hiz1 hiz2 rfl (by omega) (.slice (some ⟨g, 0, none⟩) (pend x.t).length cap) (pend x.t).length (flat Hi.cells (pend x.t)) (by rfl) hown6 ⟨Y0.heap.size, 0, none⟩ 1 1 (Hi.cells x) (by rfl) (by rfl) o1 (Hi.one x) (by omega) (by unfold maxLen; omega) (by omega) (by omega) _ rfl ?_
    intro gN capN Y2 hown hgrow hat hltN
    have hrow : ∀ q, q = b6 ∨ q = bh ∨ q = m → some q ≠ (.slice (some ⟨g, 0, none⟩) (pend x.t).length cap : Value).ownBlock := by
      intro q hq e
      have h9 : some q = some g := e
      cases h9
      rcases hq with h8 | h8 | h8
      · exact (HP.out.nS _ (.inl hs)).2.1 h8
      · have := (HP.out.lS _ (.inl hs)).2; omega
      · exact (HP.out.nS _ (.inl hs)).1 h8
    have S2 := HS.out Y2 ((hgrow.block b6 (by omega) (hrow b6 (.inl rfl))).trans q1) ((hgrow.block bh (by omega) (hrow bh (.inr (.inl rfl)))).trans q2) ((hgrow.block m (by omega) (hrow m (.inr (.inr rfl)))).trans q3)
    have K17 : IMapAt Y2 m kv := by
      obtain ⟨es, clock, h1, h2⟩ := K16.out
      exact ⟨es, clock, by rw [hgrow.block m (imap_lt K16.out) (hrow m (.inr (.inr rfl)))]; exact h1, h2⟩
    refine hK.out _ _ (fun _ _ => S2) (fun hHeld => ?_)
    clear hK K S2
    try simp only [Act.put, List.setIfInBounds_toArray, List.set_cons_zero, List.set_cons_succ]
    refine wpAnyT_ready (rs := [10]) (by kernel_rfl) (by simp) ?_
    (refine' AllReadyT.cons (o := ?o22) ?ho22 (fun K hK => ?step22) AllReadyT.nil; (case ho22 => simp only [List.getElem?_toArray, List.getElem?_cons_zero, List.getElem?_cons_succ]; rfl))
    refine step_update_i (by rfl) _ _ _ _ (by rfl) (show ITy Tryz.prog 3 from Tryz.underlying3) Tryz.underlying194 m kv (by rfl) K17 x.t (.slice (some ⟨gN, 0, none⟩) ((pend x.t).length + 1) capN) (by rfl) (by rfl) ?_
    intro Y3 m3 g3 s3
    refine hK.out _ _ (fun _ h => absurd h (by decide)) (fun _ => ?_)
    clear hK K hHeld
    try simp only [Act.put, List.setIfInBounds_toArray, List.set_cons_zero, List.set_cons_succ]
    refine wpAnyT_done (by kernel_rfl) ?_ _
    have hff : Fr (fun k => ∃ c, imget x.t kv = some (.slice (some ⟨k, 0, none⟩) (pend x.t).length c)) Y1 Y2 := Fr.of_grown hgrow (fun q e hq => by
      have h9 : some g = some q := e
      cases h9
      exact ⟨cap, e0⟩)
    have PF := Lib.hid (P6.out.push K16.out K26.out K3.out x hx (w1 := Y2) (w2 := Y3) (g' := gN) (cap' := capN) (by rw [flat_append]; exact hown) (by
      rcases hat with h9 | h9
      · have h8 : some g = some gN := h9
        cases h8
        exact .inl ⟨cap, e0⟩
      · exact .inr (by rw [h9]; exact Nat.le_refl _)) hff (by exact m3) g3)
    have hfY2 : Fr (PN m b7 Sp St) w Y2 := (hf6.weak (fun k _ e => HFN.out k e)).trans2 (Fr.of_grown (N := PN m b7 Sp St) hgrow (fun q e hq => by
      have h9 : some g = some q := e
      cases h9
      exact .inr (.inr (.inl hs)))) (fun _ _ e => e)
    have hff2 : Fr (PN m b7 Sp St) w Y3 := hfY2.trans2 (Fr.of_grown (N := PN m b7 Sp St) g3 (fun q e hq => by cases e; exact .inl rfl)) (fun _ _ e => e)
    have HFF2 := Lib.hid hff2
    have HGN : Hid (Sp gN ∨ w.heap.size ≤ gN) := Lib.hid (by
      rcases hat with h9 | h9
      · have h8 : some g = some gN := h9
        cases h8
        exact .inl hs
      · exact .inr (by omega))
    clear hff hff2 hgrow hown hat K17 m3 g3 hfY2
    go_wp2
    go_end0
    have hkn : addT ticks x.t = ticks := by
      unfold addT
      rw [if_pos]
      by_cases h9 : x.t ∈ ticks
      · exact h9
      · exact absurd (known.2 h9) p0
    exact ⟨rfl, _, _, by rw [hkn]; exact PF.out, (fun q hq => by
      rcases hq with (hq | rfl) | hq
      · exact .inl (.inl hq)
      · rcases HGN.out with h9 | h9
        · exact .inl (.inl h9)
        · exact .inr h9
      · exact .inl (.inr hq)), HFF2.out⟩
end Go.Proofs.YtmeefmoblkiebaaGreat
/- Contracts: the hits of a tick are sorted. -/
namespace Go.Proofs.YtmeefmoblkiebaaGreat
open Go.RowKit Go.Sort Go.Shelf
set_option linter.unusedVariables false
set_option linter.unusedSimpArgs false
set_option maxHeartbeats 400000
set_option maxRecDepth 100000
theorem swo_ho : SWO (ltOf hoV) where
  irrefl x := by unfold ltOf; rw [decide_eq_false_iff_not, hoV_lt]; omega
  trans x y z h1 h2 := by unfold ltOf at *; rw [decide_eq_true_eq, hoV_lt] at *; omega
  ntrans x y z h1 h2 := by unfold ltOf at *; rw [decide_eq_false_iff_not, hoV_lt] at *; omega
theorem flatK_hi (d : List Hi) : (flatK Hi.cells 4 d.toArray).toList = flat Hi.cells d := by
  apply List.ext_getElem (by rw [flat_length Hi.len, Array.length_toList, size_flatK, List.size_toArray])
  intro t h1 h2
  have hl : t < d.length * 4 := by rw [flat_length Hi.len] at h2; exact h2
  have e1 := get_flatK Hi.cells 4 d.toArray t (by simpa using hl)
  have e2 := flat_get Hi.len d (t / 4) (t % 4) (by omega) (by omega)
  rw [show t / 4 * 4 + t % 4 = t by omega, List.getElem?_eq_getElem h2] at e2
  have h3 : t < (flatK Hi.cells 4 d.toArray).size := by simpa using hl
  rw [getElem!_pos _ t h3] at e1
  rw [Array.getElem_toList, e1]
  have h4 : t / 4 < d.toArray.size := by simp; omega
  rw [getElem!_pos d.toArray _ h4]
  have h5 : t % 4 < (Hi.cells d.toArray[t / 4]).length := by rw [Hi.len]; omega
  rw [getElem!_pos (Hi.cells d.toArray[t / 4]) (t % 4) h5]
  have e3 : (Hi.cells d.toArray[t / 4])[t % 4]? = some (Hi.cells d.toArray[t / 4])[t % 4] := List.getElem?_eq_getElem h5
  have e4 : some (flat Hi.cells d)[t] = (Hi.cells d[t / 4])[t % 4]? := e2
  rw [List.getElem_toArray] at e3
  rw [e3] at e4
  exact (Option.some.inj e4).symm
theorem heap_sortedK {w : World} {g n : Nat} {os : Array Obj} {cur : Array Value} {e : TypeId} {fr : Nat × Nat} (d : Array Hi) (hb : w.heap[g]? = some (.cells cur e fr)) :
    (sortWorldK Hi.cells 4 w g 0 n d os).heap[g]? = some (.cells (putCells id 0 (flatK Hi.cells 4 d) cur) e fr) := by
  have hg : g < w.heap.size := (Array.getElem?_eq_some_iff.1 hb).1
  unfold sortWorldK
  rw [heap_grow_old _ _ (by simpa [putRowK, putRow, mapBlock, Sort.ahead] using hg)]
  simp [putRowK, putRow, mapBlock, Sort.ahead, Array.getElem?_modify, hb, onCells]
theorem grownBy_sortedK {w : World} {g n : Nat} {os : Array Obj} (d : Array Hi) : w.grownBy (sortWorldK Hi.cells 4 w g 0 n d os) (some g) := by
  refine ⟨rfl, rfl, rfl, by simp [sortWorldK, grow, putRowK, putRow, mapBlock, Sort.ahead], fun k hk hne => ?_⟩
  unfold sortWorldK
  rw [heap_grow_old _ _ (by simpa [putRowK, putRow, mapBlock, Sort.ahead] using hk)]
  have : g ≠ k := fun e => hne (by rw [e])
  simp [putRowK, putRow, mapBlock, Sort.ahead, Array.getElem?_modify, this]
theorem take_putCellsK (cur : Array Value) (ts : Array Value) (h : ts.size ≤ cur.size) : (putCells id 0 ts cur).toList.take ts.size = ts.toList := by
  apply List.ext_getElem?
  intro j
  by_cases hj : j < ts.size
  · rw [List.getElem?_take_of_lt hj, Array.getElem?_toList]
    simp [putCells, hj, show j < cur.size by omega]
  · rw [List.getElem?_take_eq_none (by omega), List.getElem?_eq_none (by simp; omega)]
theorem holdsK_own {B : Nat} {w : World} {g cap : Nat} (d : List Hi) {cur : Array Value} (hb : w.heap[g]? = some (.cells cur 161 (0, 0))) (ht : cur.toList.take (d.length * 4) = flat Hi.cells d) : HoldsK Hi.cells 4 w g 0 d.toArray := by
  intro j hj
  have hj' : j < d.length * 4 := by simpa using hj
  refine ⟨?_, by simp [World.frozen?, hb]⟩
  rw [← flatK_hi] at ht
  have h1 : (cur.toList.take (d.length * 4))[j]? = (flatK Hi.cells 4 d.toArray).toList[j]? := by rw [ht]
  rw [List.getElem?_take_of_lt hj'] at h1
  simp only [World.cell?, hb, Nat.zero_add]
  simp only [Option.isSome_none, Bool.false_eq_true, if_false]
  rw [← Array.getElem?_toList, h1, Array.getElem?_toList, getElem!_pos _ j hj]
  exact Array.getElem?_eq_getElem hj
theorem eg_hitOrderS (args : Array Value) (w : World) : (callFunc 152 args).run Tryz.prog w = .ok (.enter 152 args) w := by kernel_rfl
theorem sort_any {B : Nat} {w : World} {g cap : Nat} (d : List Hi) (h : w.ownsRow B 161 4 (.slice (some ⟨g, 0, none⟩) d.length cap) d.length (flat Hi.cells d)) (hn : d.length ≤ 100000) :
    Calls Tryz.prog 151 #[.slice (some ⟨g, 0, none⟩) d.length cap, (.func (.func 152) #[] #[])] w fun e w' => e = .returned (.tuple #[]) ∧ ∃ d' : List Hi, d'.Perm d ∧ d'.Pairwise (fun a b => 0 ≤ hoV b a) ∧ w'.ownsRow B 161 4 (.slice (some ⟨g, 0, none⟩) d.length cap) d'.length (flat Hi.cells d') ∧ Fr (fun k => k = g) w w' := by
  have hl := h.1
  rcases h.2 with ⟨e, -⟩ | ⟨g', cap', cur, e, hB, hg, h1, h2, h3, h4⟩
  · cases e
  cases e
  have hC := AnyQ.slices_SortFunc Tryz.laysSort 4 Tryz.isAgg161 Tryz.sizeOf161 Hi.cells Hi.len Hi.one hoV swo_ho 152 #[] g 0 cap d.toArray w eg_hitOrderS
    (fun m os dk hs x y => by
      refine (hitOrder_any x y _).mono ?_
      rintro e w' ⟨rfl, rfl⟩
      exact ⟨rfl, 1, _, by rw [alloc_eq_grow, alloc_eq_grow, alloc_eq_grow, grow_grow, grow_grow]; rfl⟩)
    (holdsK_own (B := B) (cap := cap) d hg h4) (Array.getElem?_eq_some_iff.1 hg).1 (by simp; omega)
  simp only [List.size_toArray] at hC
  refine Calls.mono hC ?_
  rintro e w' ⟨rfl, d', n, os, hp, hs, rfl⟩
  obtain ⟨hp1, -, hp3⟩ := hp
  simp only [List.size_toArray] at hp1
  have hd : d'.extract 0 d.length = d' := by rw [← hp1]; simp
  have hd2 : d.toArray.extract 0 d.length = d.toArray := by simp
  rw [hd, hd2] at hp3
  have hfs : (flatK Hi.cells 4 d').size = d.length * 4 := by rw [size_flatK, hp1]
  refine ⟨rfl, d'.toList, hp3, ?_, ?_, Fr.of_grown (grownBy_sortedK d') (fun k e _ => by cases e; rfl)⟩
  · rw [List.pairwise_iff_getElem]
    intro i j hi hj hij
    have h9 := hs i j (Nat.zero_le _) hij (by rw [← hp1]; simpa using hj)
    rw [getElem!_pos d' j (by simpa using hj), getElem!_pos d' i (by simpa using hi)] at h9
    unfold ltOf at h9
    rw [decide_eq_false_iff_not] at h9
    rw [Array.getElem_toList, Array.getElem_toList]
    omega
  · have e1 : (flatK Hi.cells 4 d').toList = flat Hi.cells d'.toList := by rw [← flatK_hi]
    have e2 : d'.toList.length = d.length := by simpa using hp1
    refine ⟨by rw [flat_length Hi.len], .inr ⟨g, cap, _, by rw [e2], hB, heap_sortedK d' hg, by rw [e2]; exact h1, h2, by simp [putCells, h3], ?_⟩⟩
    rw [e2, ← hfs, ← e1]
    exact take_putCellsK cur _ (by rw [hfs, h3]; omega)
end Go.Proofs.YtmeefmoblkiebaaGreat
/- The run of a board (the program): what is pending and what has fallen, together. -/
namespace Go.Proofs.YtmeefmoblkiebaaGreat
open Go.RowKit
set_option linter.unusedVariables false
set_option linter.unusedSimpArgs false
set_option maxHeartbeats 400000
set_option maxRecDepth 100000
theorem rising_len (b : Int) : ∀ (l : List Int) (a : Int), l.Pairwise (fun x y => x < y) → (∀ t, t ∈ l → a < t ∧ t ≤ b) → (l.length : Int) ≤ max (b - a) 0 := by
  intro l
  induction l with
  | nil => intro a _ _; simp only [List.length_nil]; omega
  | cons x l ih =>
    intro a hp h
    rw [List.pairwise_cons] at hp
    have h1 := ih x hp.2 (fun t ht => ⟨hp.1 t ht, (h t (List.mem_cons_of_mem _ ht)).2⟩)
    have h2 := h x List.mem_cons_self
    rw [List.length_cons]
    push_cast
    omega
structure RM (ps : List Pc) (pl : List Pu) (B m b6 b7 : Nat) (K : List Nat) (w : World) (T : Int) (out : List Fa) (now : List Hi) (ex : Nat → Ht → Prop) (c : Int) (pend : Int → List Hi) (ticks : List Int) (Sp St : Nat → Prop) : Prop where
  ri : RI ps pl T out pend ticks now ex
  pt : PT B m b6 b7 T w pend ticks Sp St
  k : ∀ k, k ∈ K → ¬ PN m b7 Sp St k ∧ k ≠ b6 ∧ k < w.heap.size
  len : ∀ t, ((pend t).length : Int) ≤ c
def RX (ps : List Pc) (pl : List Pu) (B m b6 b7 : Nat) (K : List Nat) (w : World) (T : Int) (out : List Fa) (now : List Hi) (ex : Nat → Ht → Prop) (c : Int) : Prop :=
  ∃ pend ticks Sp St, RM ps pl B m b6 b7 K w T out now ex c pend ticks Sp St
def noEx (_ : Nat) (_ : Ht) : Prop := False
section
variable {ps : List Pc} {pl : List Pu} {B m b6 b7 : Nat} {K : List Nat} {w w' : World} {T : Int} {out : List Fa} {now : List Hi} {ex : Nat → Ht → Prop} {c : Int} {pend : Int → List Hi} {ticks : List Int} {Sp St : Nat → Prop}
theorem RM.fr {N : Nat → Prop} (h : RM ps pl B m b6 b7 K w T out now ex c pend ticks Sp St) (hf : Fr N w w') (hN : ∀ k, N k → k ∈ K) : RM ps pl B m b6 b7 K w' T out now ex c pend ticks Sp St :=
  ⟨h.ri, h.pt.fr hf (fun k hk _ => ⟨(h.k k (hN k hk)).1, (h.k k (hN k hk)).2.1⟩), fun k hk => ⟨(h.k k hk).1, (h.k k hk).2.1, Nat.lt_of_lt_of_le (h.k k hk).2.2 hf.size⟩, h.len⟩
theorem RX.fr {N : Nat → Prop} (h : RX ps pl B m b6 b7 K w T out now ex c) (hf : Fr N w w') (hN : ∀ k, N k → k ∈ K) : RX ps pl B m b6 b7 K w' T out now ex c := by
  obtain ⟨pend, ticks, Sp, St, h⟩ := h
  exact ⟨pend, ticks, Sp, St, h.fr hf hN⟩
theorem RX.step (h : RX ps pl B m b6 b7 K w T out now ex c) (hb : Below w.heap.size w w') : RX ps pl B m b6 b7 K w' T out now ex c :=
  h.fr (N := fun _ => False) (Fr.of_below hb) (fun k hk => hk.elim)
theorem RX.map {out' : List Fa} {now' : List Hi} {ex' : Nat → Ht → Prop} (h : RX ps pl B m b6 b7 K w T out now ex c) (f : ∀ pend ticks, RI ps pl T out pend ticks now ex → RI ps pl T out' pend ticks now' ex') : RX ps pl B m b6 b7 K w T out' now' ex' c := by
  obtain ⟨pend, ticks, Sp, St, h⟩ := h
  exact ⟨pend, ticks, Sp, St, f _ _ h.ri, h.pt, h.k, h.len⟩
theorem RX.more {c' : Int} (h : RX ps pl B m b6 b7 K w T out now ex c) (hc : c ≤ c') : RX ps pl B m b6 b7 K w T out now ex c' := by
  obtain ⟨pend, ticks, Sp, St, h⟩ := h
  exact ⟨pend, ticks, Sp, St, h.ri, h.pt, h.k, fun t => Int.le_trans (h.len t) hc⟩
theorem RX.less {K' : List Nat} (h : RX ps pl B m b6 b7 K w T out now ex c) (hK : ∀ k, k ∈ K' → k ∈ K) : RX ps pl B m b6 b7 K' w T out now ex c := by
  obtain ⟨pend, ticks, Sp, St, h⟩ := h
  exact ⟨pend, ticks, Sp, St, h.ri, h.pt, fun k hk => h.k k (hK k hk), h.len⟩
/-- A new block is named too. -/
theorem RX.grow (h : RX ps pl B m b6 b7 K w T out now ex c) (hb : Below w.heap.size w w') (q : Nat) (hq : q = w.heap.size) (hl : w.heap.size < w'.heap.size) : RX ps pl B m b6 b7 (q :: K) w' T out now ex c := by
  have h1 := h.step hb
  obtain ⟨pend, ticks, Sp, St, h⟩ := h
  have h2 := h.fr (N := fun _ => False) (Fr.of_below hb) (fun k hk => hk.elim)
  refine ⟨pend, ticks, Sp, St, h2.ri, h2.pt, fun k hk => ?_, h2.len⟩
  rcases List.mem_cons.1 hk with e | hk
  · obtain ⟨kv, k1, -, -⟩ := h.pt.mp
    obtain ⟨tv, gt, t1, -, -⟩ := h.pt.tk
    have e1 := imap_lt k1
    have e2 := h.pt.l6
    have e3 : b7 < w.heap.size := (t1.lt _ rfl).2
    refine ⟨?_, by omega, by omega⟩
    rintro (e | e | e | e)
    · omega
    · omega
    · have := (h.pt.lS k (.inl e)).2; omega
    · have := (h.pt.lS k (.inr e)).2; omega
  · exact h2.k k hk
theorem RX.ri (h : RX ps pl B m b6 b7 K w T out now ex c) : ∃ pend ticks, RI ps pl T out pend ticks now ex := by
  obtain ⟨pend, ticks, Sp, St, h⟩ := h
  exact ⟨_, _, h.ri⟩
theorem RM.addc {pl' : List Pu} {ex' : Nat → Ht → Prop} (h : RM ps pl B m b6 b7 K w T out now ex c pend ticks Sp St) (x : Hi) (hx : T < x.t) (hri : RI ps pl' T out (addP pend x) (addT ticks x.t) now ex') (hps : ps.length ≤ 200) (hT : -1 ≤ T) (hc : c ≤ 9000) (hB : B ≤ w.heap.size) :
    Calls Tryz.prog 148 #[x.val, .pointer (some ⟨b6, 0, none⟩), .pointer (some ⟨b7, 0, none⟩)] w fun e w' => e = .returned (.tuple #[]) ∧ RX ps pl' B m b6 b7 K w' T out now ex' (c + 1) ∧ Fr (fun k => B ≤ k ∧ k ∉ K) w w' := by
  have h1 : ticks.length ≤ 10000 := by
    have h2 := rising_len (1000 + 9 * nF out) ticks T h.ri.srt (fun t ht => ⟨h.ri.gt t ht, h.ri.top.2 t ht⟩)
    have h3 := nF_le out
    have h4 := nF_nonneg out
    rw [h.ri.lo] at h3
    omega
  have h2 : (pend x.t).length ≤ 10000 := by have := h.len x.t; omega
  refine (add_any h.pt x hx (h.ri.known x.t hx) h.ri.srt h1 h2 hB).mono ?_
  rintro e w' ⟨rfl, Sp', St', hP, hnm, hf⟩
  refine ⟨rfl, ⟨_, _, Sp', St', hri, hP, fun k hk => ?_, fun t => ?_⟩, hf.weak (fun k hk hp => ?_)⟩
  · obtain ⟨k1, k2, k3⟩ := h.k k hk
    refine ⟨?_, k2, Nat.lt_of_lt_of_le k3 hf.size⟩
    rintro (e | e | e | e)
    · exact k1 (.inl e)
    · exact k1 (.inr (.inl e))
    · rcases hnm k (.inl e) with h9 | h9
      · exact k1 (.inr (.inr h9))
      · omega
    · rcases hnm k (.inr e) with h9 | h9
      · exact k1 (.inr (.inr h9))
      · omega
  · have := h.len t
    unfold addP
    split
    · rw [List.length_append]; simp only [List.length_cons, List.length_nil]; push_cast; omega
    · omega
  · refine ⟨?_, fun hk2 => (h.k k hk2).1 hp⟩
    have hl := h.pt.lB
    rcases hp with e | e | e | e
    · omega
    · omega
    · exact (h.pt.lS k (.inl e)).1
    · exact (h.pt.lS k (.inr e)).1
/-- A push more. -/
theorem RX.push (G : (ps.map Pc.at_).Nodup) (h : RX ps pl B m b6 b7 K w (-1) (List.replicate ps.length (faOf none)) [] noEx c) (p : Pu) (hp : 0 ≤ p.t ∧ p.t ≤ 1000) (hs : 0 ≤ p.s ∧ p.s ≤ 3) (k : Nat) (hk : k < ps.length) (hf : fnd ⟨p.x, p.y⟩ ps = (k : Int)) (x : Hi) (hx : x = ⟨p.t, k, p.s, -1⟩) (hps : ps.length ≤ 200) (hc : c ≤ 9000) (hB : B ≤ w.heap.size) :
    Calls Tryz.prog 148 #[x.val, .pointer (some ⟨b6, 0, none⟩), .pointer (some ⟨b7, 0, none⟩)] w fun e w' => e = .returned (.tuple #[]) ∧ RX ps (pl ++ [p]) B m b6 b7 K w' (-1) (List.replicate ps.length (faOf none)) [] noEx (c + 1) ∧ Fr (fun k => B ≤ k ∧ k ∉ K) w w' := by
  obtain ⟨pend, ticks, Sp, St, h⟩ := h
  exact h.addc x (by rw [hx]; show (-1 : Int) < p.t; omega) (h.ri.push G p hp hs k hk hf x hx) hps (by omega) hc hB
def sideEx (ps : List Pc) (a : Nat) (f : Fa) (s : Nat) (i : Nat) (m : Ht) : Prop := ∃ s', s ≤ s' ∧ s' < 4 ∧ newC ps a f s' i m
theorem RX.side {a s k : Nat} {f : Fa} (G : Good ps pl) (h : RX ps pl B m b6 b7 K w T out now (sideEx ps a f s) c) (hs : s < 4) (ha : a < ps.length) (hk : k < ps.length) (hoa : out.getD a default = f) (hft : f.t = T) (hT : 0 ≤ T)
    (htop : T + 9 ≤ 1000 + 9 * nF out)
    (hbit : max (hitsV (ps.getD a default).k (ps.getD a default).t f.f) 0 / 2 ^ s % 2 = 1) (hf : fnd (nxt (ps.getD a default).at_ (s : Int)) ps = (k : Int)) (x : Hi) (hx : x = ⟨f.t + (ps.getD a default).d, k, ((s : Int) + 2) % 4, a⟩) (hps : ps.length ≤ 200) (hc : c ≤ 9000) (hB : B ≤ w.heap.size) :
    Calls Tryz.prog 148 #[x.val, .pointer (some ⟨b6, 0, none⟩), .pointer (some ⟨b7, 0, none⟩)] w fun e w' => e = .returned (.tuple #[]) ∧ RX ps pl B m b6 b7 K w' T out now (sideEx ps a f (s + 1)) (c + 1) ∧ Fr (fun k => B ≤ k ∧ k ∉ K) w w' := by
  obtain ⟨pend, ticks, Sp, St, h⟩ := h
  have hd1 := G.d1 a ha
  exact h.addc x (by rw [hx]; show T < f.t + _; omega) (h.ri.sideYes G hs ha hk hoa hft hT htop hbit hf x hx) hps (by omega) hc hB
theorem RM.head (h : RM ps pl B m b6 b7 K w T out now ex c pend ticks Sp St) : ∃ gt off cap, w.cell? ⟨b7, 0, none⟩ = some (.slice (some ⟨gt, off, none⟩) ticks.length cap) ∧ b7 < w.heap.size := by
  obtain ⟨tv, gt, t1, t2, t3⟩ := h.pt.tk
  obtain ⟨-, off, cap, N, f, rfl, -⟩ := t2
  exact ⟨gt, off, cap, by rw [t1.cellAt 0 (by omega)]; rfl, (t1.lt _ rfl).2⟩
/-- The next tick is taken. -/
theorem RM.take {t : Int} {rest : List Int} (h : RM ps pl B m b6 b7 K w T out [] noEx c pend (t :: rest) Sp St) : ∃ gt off cap gn capn,
    w.cell? ⟨b7, 0, none⟩ = some (.slice (some ⟨gt, off, none⟩) (rest.length + 1) (cap + 1)) ∧ w.cell? ⟨gt, off, none⟩ = some (.int .i64 t) ∧ rest.length ≤ cap ∧ cap < 9223372036854775807 ∧
    w.cell? ⟨b6, 0, none⟩ = some (.map (some m)) ∧ (∀ w' : World, w'.heap[m]? = w.heap[m]? → (Instr.lookup 194 (.map (some m)) (.int .i64 t) false).run Tryz.prog w' = .ok (.slice (some ⟨gn, 0, none⟩) (pend t).length capn) w') ∧
    (b6 < w.heap.size ∧ b7 < w.heap.size ∧ gt < w.heap.size ∧ gn < w.heap.size ∧ gn ∉ K ∧ gn ≠ b7 ∧ B ≤ gn) ∧ T < t ∧
    ∀ (off' : Nat) (w1 : World), (off' = off + 1 ∨ (cap = 0 ∧ off' = off)) → Below w.heap.size w w1 →
      (w1.cell? ⟨b7, 0, none⟩).isSome ∧ w1.frozen? ⟨b7, 0, none⟩ = false ∧
      w1.grownBy (w1.setCell ⟨b7, 0, none⟩ (.slice (some ⟨gt, off', none⟩) rest.length cap)) (some b7) ∧
      (w1.setCell ⟨b7, 0, none⟩ (.slice (some ⟨gt, off', none⟩) rest.length cap)).ownsRow B 161 4 (.slice (some ⟨gn, 0, none⟩) (pend t).length capn) (pend t).length (flat Hi.cells (pend t)) ∧
      ∀ (w3 : World) (d' : List Hi), Fr (fun k => k = gn) (w1.setCell ⟨b7, 0, none⟩ (.slice (some ⟨gt, off', none⟩) rest.length cap)) w3 → d'.Perm (pend t) → d'.Pairwise (fun a b => 0 ≤ hoV b a) → RX ps pl B m b6 b7 (gn :: K) w3 t out d' noEx c := by
  have hTt := h.ri.gt t List.mem_cons_self
  obtain ⟨tv, gt, t1, t2, t3⟩ := h.pt.tk
  obtain ⟨off, cap, rfl, hc1, hc2, hc3⟩ := t2.head
  obtain ⟨kv, k1, k2, k3⟩ := h.pt.mp
  have hpn := h.ri.pne t List.mem_cons_self
  rcases k2 t hTt with ⟨e, -⟩ | ⟨-, gn, capn, e0, hs, hown⟩
  · exact absurd e hpn
  have hgn := h.pt.nS gn (.inl hs)
  have hgl := h.pt.lS gn (.inl hs)
  have hgt : gn ≠ gt := fun e => by rw [e] at hs; exact h.pt.dj gt hs t3
  refine ⟨gt, off, cap, gn, capn, by rw [t1.cellAt 0 (by omega)]; rfl, hc1, hc2, hc3, h.pt.c6, run_look (B := B) (b6 := b6) (b7 := b7) (T := T) (pend := pend) (Sp := Sp) k1 t _ (by rw [e0]; rfl), ⟨h.pt.l6, (t1.lt _ rfl).2, t2.lt, hgl.2, fun hk => (h.k gn hk).1 (.inr (.inr (.inl hs))), hgn.2.2, hgl.1⟩, hTt, ?_⟩
  intro off' w1 hoff hb
  have P1 : PT B m b6 b7 t w pend (t :: rest) (fun k => Sp k ∧ k ≠ gn) St := by
    refine ⟨h.pt.n67, h.pt.n6m, h.pt.n7m, h.pt.l6, h.pt.lB, fun g hg => h.pt.nS g (hg.imp (fun a => a.1) id), fun g hg => h.pt.dj g hg.1, fun g hg => h.pt.lS g (hg.imp (fun a => a.1) id), h.pt.c6, ⟨kv, k1, fun t' ht' => ?_, fun t1 t2 g c c' h1 h2 => k3 t1 t2 g c c' (by omega) (by omega)⟩, ⟨_, gt, t1, t2, t3⟩⟩
    rcases k2 t' (by omega) with h9 | ⟨h9, g, c', e', hs', ho'⟩
    · exact .inl h9
    · refine .inr ⟨h9, g, c', e', ⟨hs', fun e9 => ?_⟩, ho'⟩
      subst e9
      have := k3 t t' g capn c' hTt (by omega) e0 e'
      omega
  have P2 := P1.step hb
  have u1 := own_fr t1 (Fr.of_below (N := fun _ => False) hb) (fun _ _ e => e)
  have st := u1.stored 0 (.slice (some ⟨gt, off', none⟩) rest.length cap)
  obtain ⟨⟨vv, cc⟩, ff⟩ := own_cell u1 (j := 0) (by omega)
  have hgt7 : gt ≠ b7 := (h.pt.nS gt (.inr t3)).2.2
  have u2 : OffI B w1 (.slice (some ⟨gt, off', none⟩) rest.length cap) rest gt := by
    have := off_fr t2 (Fr.of_below (N := fun _ => False) hb) (fun e => e)
    have h8 := this.tail
    rcases hoff with e | ⟨e1, e2⟩
    · rw [e]; exact h8.1
    · rw [e2]; exact h8.2 e1
  have g7 : w1.grownBy (w1.setCell ⟨b7, 0, none⟩ (.slice (some ⟨gt, off', none⟩) rest.length cap)) (some b7) := st.2
  have P3 := P2.ticks' (Fr.of_grown g7 (fun g e _ => by cases e; exact .inl rfl)) st.1 (u2.kept g7 (fun e => by cases e; exact hgt7 rfl)) (.inl t3)
  refine ⟨by rw [cc]; rfl, ff, g7, own_fr hown ((Fr.of_below (N := fun k => k = b7) hb).trans2 (Fr.of_grown (N := fun k => k = b7) g7 (fun g e _ => by cases e; rfl)) (fun _ _ e => e)) (fun k hk e => by have h9 : some gn = some k := hk; cases h9; exact hgn.2.2 e), ?_⟩
  intro w3 d' hf hperm hsort
  have hsz : w.heap.size ≤ w3.heap.size := Nat.le_trans hb.size (Nat.le_trans g7.size hf.size)
  have hnot : ∀ k, ¬ PN m b7 Sp St k → ¬ PN m b7 (fun k => Sp k ∧ k ≠ gn) (fun k => k = gt) k := by
    rintro k hk (e | e | e | e)
    · exact hk (.inl e)
    · exact hk (.inr (.inl e))
    · exact hk (.inr (.inr (.inl e.1)))
    · exact hk (.inr (.inr (.inr (by rw [e]; exact t3))))
  have hgnN : ¬ PN m b7 (fun k => Sp k ∧ k ≠ gn) (fun k => k = gt) gn := by
    rintro (e | e | e | e)
    · exact hgn.1 e
    · exact hgn.2.2 e
    · exact e.2 rfl
    · exact hgt e
  refine ⟨pend, rest, _, _, h.ri.take (fun x => hperm.mem_iff) hsort, P3.fr hf (fun k hk _ => by subst hk; exact ⟨hgnN, hgn.2.1⟩), fun k hk => ?_, h.len⟩
  rcases List.mem_cons.1 hk with rfl | hk
  · exact ⟨hgnN, hgn.2.1, by omega⟩
  · obtain ⟨k1, k2, k3⟩ := h.k k hk
    exact ⟨hnot k k1, k2, by omega⟩
/-- The start. -/
theorem RX.start (ps : List Pc) (W W' : World) (hB : B ≤ W.heap.size) (hW : W' = ((((W.alloc (.map #[] 0)).alloc (.cells #[.map (some W.heap.size)] 194)).alloc (.cells #[] 3)).alloc (.cells #[.slice (some ⟨W.heap.size + 2, 0, none⟩) 0 0] 106))) (hK : ∀ k, k ∈ K → k < W.heap.size) :
    RX ps [] B W.heap.size (W.heap.size + 1) (W.heap.size + 3) K W' (-1) (List.replicate ps.length (faOf none)) [] noEx 0 := by
  subst hW
  refine ⟨fun _ => [], [], fun _ => False, fun k => k = W.heap.size + 2, RI.start ps, ?_, ?_, fun t => by simp⟩
  · refine ⟨by omega, by omega, by omega, by simp, ⟨by omega, by omega, by omega⟩, ?_, fun g hg => hg.elim, ?_, ?_, ⟨[], ?_, fun t ht => .inl ⟨rfl, rfl⟩, ?_⟩, ⟨.slice (some ⟨W.heap.size + 2, 0, none⟩) 0 0, W.heap.size + 2, ?_, ?_, rfl⟩⟩
    · rintro g (e | e)
      · exact e.elim
      · subst e; omega
    · rintro g (e | e)
      · exact e.elim
      · subst e; simp; omega
    · have h1 := heap_alloc_new (W.alloc (.map #[] 0)) (.cells #[.map (some W.heap.size)] 194)
      simp only [World.size_alloc] at h1
      have h2 : ((((W.alloc (.map #[] 0)).alloc (.cells #[.map (some W.heap.size)] 194)).alloc (.cells #[] 3)).alloc (.cells #[.slice (some ⟨W.heap.size + 2, 0, none⟩) 0 0] 106)).heap[W.heap.size + 1]? = some (.cells #[.map (some W.heap.size)] 194 (0, 0)) := by rw [Below.heap_alloc _ _ _ (by simp), Below.heap_alloc _ _ _ (by simp)]; exact h1
      rw [cell_of_row _ _ _ _ _ _ h2]
      rfl
    · exact imap_alloc (imap_alloc (imap_alloc (imap_new W) _) _) _
    · intro t t' g c c' _ _ e; rw [imget_nil] at e; cases e
    · exact own_newAt (((W.alloc (.map #[] 0)).alloc (.cells #[.map (some W.heap.size)] 194)).alloc (.cells #[] 3)) #[.slice (some ⟨W.heap.size + 2, 0, none⟩) 0 0] 106 1 B (W.heap.size + 3) (by simp) (by omega) rfl _ rfl
    · have h2 := OffI.new (B := B) ((W.alloc (.map #[] 0)).alloc (.cells #[.map (some W.heap.size)] 194)) (by simp; omega)
      simp only [World.size_alloc] at h2
      exact h2.below (bl_alloc (Below.refl _ _)) (Nat.le_refl _)
  · intro k hk
    have := hK k hk
    refine ⟨?_, by omega, by simp; omega⟩
    rintro (e | e | e | e)
    · omega
    · omega
    · exact e.elim
    · omega
end
end Go.Proofs.YtmeefmoblkiebaaGreat
/- Contracts: slices.Repeat of one fall. -/
namespace Go.Proofs.YtmeefmoblkiebaaGreat
open Go.RowKit
set_option linter.unusedVariables false
set_option linter.unusedSimpArgs false
set_option maxHeartbeats 400000
set_option maxRecDepth 100000
theorem run_copy_k {P : Program} (w : World) (dT sT ty elem : TypeId) (i : TypeInfo) (g o dLen dCap : Nat) (a : Addr) (sLen sCap : Nat) (cur : Array Value) (t : TypeId) (cs : List Value)
    (hu : P.underlying dT = some (.slice elem)) (hi : P.info? elem = some i)
    (hg : w.heap[g]? = some (.cells cur t (0, 0))) (hn : cs.length = Nat.min sLen dLen * i.size)
    (hsrc : ∀ j v, cs[j]? = some v → w.cell? (a.add j) = some v) (hfit : o + cs.length ≤ cur.size) (h1 : ∀ v ∈ cs, v.oneCell' = true) :
    (Builtin.copy_ #[dT, sT] ty #[.slice (some ⟨g, o, none⟩) dLen dCap, .slice (some a) sLen sCap]).run P w =
      .ok (goInt (Nat.min sLen dLen)) (w.setRow g (cur.toList.take o ++ cs ++ cur.toList.drop (o + cs.length)).toArray) := by
  have hl := run_loadCells_list (P := P) w a cs hsrc
  have hst := run_storeCells_at P g o t cs 0 cur w hg (by simpa using hfit) h1
  simp [Builtin.copy_, run_underlying hu, Builtin.lenOf, Builtin.firstCells, sizeOf, typeInfo, hi, ← hn, hl, hst]
theorem grown_setRow (w : World) (g : Nat) (cs : Array Value) : w.grownBy (w.setRow g cs) (some g) :=
  ⟨rfl, rfl, rfl, by simp [World.setRow], fun k hk hne => setRow_other w g k cs (fun e => hne (by rw [e]))⟩
/-- The row while it is filled. -/
def repL (n j : Nat) : List Fa := List.replicate j (faOf none) ++ List.replicate (n - j) ⟨0, 0, 0⟩
theorem repL_copy (n j m : Nat) (hm : j + m ≤ n) : (flat Fa.cells (repL n j)).take (j * 3) ++ flat Fa.cells (List.replicate m (faOf none)) ++ (flat Fa.cells (repL n j)).drop (j * 3 + (flat Fa.cells (List.replicate m (faOf none))).length) = flat Fa.cells (repL n (j + m)) := by
  unfold repL
  rw [flat_append, flat_append]
  have e1 : (flat Fa.cells (List.replicate j (faOf none))).length = j * 3 := by rw [flat_length Fa.len, List.length_replicate]
  have e2 : (flat Fa.cells (List.replicate m (faOf none))).length = m * 3 := by rw [flat_length Fa.len, List.length_replicate]
  rw [e2, List.take_left' e1, ← e1, List.drop_append, ]
  have e3 : flat Fa.cells (List.replicate (n - j) (⟨0, 0, 0⟩ : Fa)) = flat Fa.cells (List.replicate m (⟨0, 0, 0⟩ : Fa)) ++ flat Fa.cells (List.replicate (n - (j + m)) (⟨0, 0, 0⟩ : Fa)) := by
    rw [← flat_append, List.replicate_append_replicate]; congr 2; omega
  have e4 : (flat Fa.cells (List.replicate m (⟨0, 0, 0⟩ : Fa))).length = m * 3 := by rw [flat_length Fa.len, List.length_replicate]
  rw [List.drop_of_length_le (by omega), List.nil_append, show (flat Fa.cells (List.replicate j (faOf none))).length + m * 3 - (flat Fa.cells (List.replicate j (faOf none))).length = m * 3 by omega, e3, List.drop_left' e4]
  rw [← List.replicate_append_replicate, flat_append]
theorem mul_any (n : Nat) (hn : n ≤ 100000) (w : World) : Calls Tryz.prog 178 #[.int .u64 1, .int .u64 (n : Int)] w fun e w' => e = .returned (.tuple #[.int .u64 0, .int .u64 (n : Int)]) ∧ w' = w := by
  have h := Any.bits_Mul Tryz.laysMul 1 n (by omega) (by omega) w
  refine Calls.mono h ?_
  rintro e w' ⟨rfl, rfl⟩
  refine ⟨?_, rfl⟩
  rw [Nat.one_mul, Nat.div_eq_of_lt (by omega), Nat.mod_eq_of_lt (by omega)]
  rfl
set_option maxHeartbeats 1600000 in
theorem repeat_any (w : World) (vb : Nat) (n : Nat) (hn : n ≤ 10000) (hvb : w.heap[vb]? = some (.cells #[.int .i64 (-1), .int .i8 0, .int .i64 (-1)] 43 (0, 0))) :
    Calls Tryz.prog 146 #[.slice (some ⟨vb, 0, none⟩) 1 1, .int .i64 (n : Int)] w fun e w' => ∃ g, e = .returned (.slice (some ⟨g, 0, none⟩) n n) ∧ w'.ownsRow w.heap.size 43 3 (.slice (some ⟨g, 0, none⟩) n n) n (flat Fa.cells (List.replicate n (faOf none))) ∧ Below w.heap.size w w' := by
  have HM := Lib.hid (mul_any n (by omega))
  obtain ⟨i0, hi0, hz0, hz1, hz2⟩ := info_parts Tryz.infoFall
  have hmkF : ∀ w : World, (Instr.makeSlice 31 (.int .i64 (n : Int)) (.int .i64 (n : Int))).run Tryz.prog w = .ok (.slice (some ⟨w.heap.size, 0, none⟩) n n) (w.alloc (.cells (madeCells (Value.agg #[.int .i64 0, .int .i8 0, .int .i64 0]).cells (n * 3)) 43)) := by
    intro w
    have h := run_make (P := Tryz.prog) w 31 43 i0 _ Tryz.underlying31 hi0 hz0 .i64 .i64 n n (by omega) (by omega) (by rw [hz2]; omega) (by omega)
    rw [hz1] at h
    simpa using h
  obtain ⟨AF, hAF⟩ : ∃ A : Array Value, A = madeCells (Value.agg #[.int .i64 0, .int .i8 0, .int .i64 0]).cells (n * 3) := ⟨_, rfl⟩
  have HAFl := Lib.hid (show AF.toList = flat Fa.cells (repL n 0) by rw [hAF, madeCells_fall]; unfold repL; simp)
  rw [← hAF] at hmkF
  clear hAF
  have s1 : IntKind.u64.wrap (n : Int) = n := by simp [IntKind.wrap, IntKind.bits, IntKind.signed]; omega
  have s2 : IntKind.i64.wrap (n : Int) = n := by rw [IntKind.wrap_i64]; omega
  go_enter Tryz.func146, Tryz.ntmps146
  go_wp2_with fail
  refine (HM.out _).mono ?_
  rintro e w' ⟨rfl, rfl⟩
  have hh := heap_alloc_new w' (.cells AF 43)
  have hgl : w'.heap.size < (w'.alloc (.cells AF 43)).heap.size := by simp
  have hvb2 : (w'.alloc (.cells AF 43)).heap[vb]? = some (.cells #[.int .i64 (-1), .int .i8 0, .int .i64 (-1)] 43 (0, 0)) := by rw [Below.heap_alloc _ _ _ (Array.getElem?_eq_some_iff.1 hvb).1]; exact hvb
  have hb0 : Below w'.heap.size w' (w'.alloc (.cells AF 43)) := bl_alloc (Below.refl _ _)
  have hAsz : AF.size = n * 3 := by
    have h9 := congrArg List.length HAFl.out
    rw [flat_length Fa.len, Array.length_toList] at h9
    unfold repL at h9
    simpa using h9
  have hsrc0 : ∀ j v, (flat Fa.cells (List.replicate (Nat.min 1 n) (faOf none)))[j]? = some v → (w'.alloc (.cells AF 43)).cell? ((⟨vb, 0, none⟩ : Addr).add j) = some v := by
    intro j v hj
    rw [Addr.add_lit]
    by_cases h0 : n = 0
    · subst h0; simp [flat] at hj
    · have e1 : Nat.min 1 n = 1 := Nat.min_eq_left (by omega)
      rw [e1] at hj
      have hj3 : j < 3 := by have := (List.getElem?_eq_some_iff.1 hj).1; simpa [flat, Fa.cells] using this
      rw [cell_of_row _ _ _ _ _ _ hvb2]
      have : j = 0 ∨ j = 1 ∨ j = 2 := by omega
      rcases this with rfl | rfl | rfl <;> simpa [flat, Fa.cells, faOf] using hj
  have HC0 := Lib.hid (repL_copy n 0 (Nat.min 1 n) (by have h9 : Nat.min 1 n ≤ n := Nat.min_le_right 1 n; omega))
  obtain ⟨g, hge⟩ : ∃ g, g = w'.heap.size := ⟨_, rfl⟩
  have hle1 : w'.heap.size ≤ g := by omega
  rw [← hge] at hh hgl
  have hmin : Nat.min 1 n ≤ n ∧ Nat.min 1 n ≤ 1 ∧ (n = 0 ∨ Nat.min 1 n = 1) := ⟨Nat.min_le_right 1 n, Nat.min_le_left 1 n, by
    by_cases h0 : n = 0
    · exact .inl h0
    · exact .inr (Nat.min_eq_left (by omega))⟩
  obtain ⟨hm1, hm2, hm3⟩ := hmin
  obtain ⟨W, hW⟩ : ∃ W, W = w'.alloc (.cells AF 43) := ⟨_, rfl⟩
  rw [← hW] at hh hgl hvb2 hb0 hsrc0
  have HMK : Hid (∀ W', W' = w' → (Instr.makeSlice 31 (.int .i64 (n : Int)) (.int .i64 (n : Int))).run Tryz.prog W' = .ok (.slice (some ⟨g, 0, none⟩) n n) W) := Lib.hid (fun W' e => by rw [e, hW, hge]; exact hmkF w')
  have hmk2 := HMK.out w' rfl
  clear hmkF hW hge
  obtain ⟨mn, hmn⟩ : ∃ mn, mn = Nat.min 1 n := ⟨_, rfl⟩
  rw [← hmn] at hsrc0 HC0 hm1 hm2 hm3
  have HMN := Lib.hid hmn
  have hcp0 := run_copy_k (P := Tryz.prog) W 31 31 3 43 i0 g 0 n n ⟨vb, 0, none⟩ 1 1 AF 43 (flat Fa.cells (List.replicate mn (faOf none))) Tryz.underlying31 hi0 hh (by rw [flat_length Fa.len, List.length_replicate, hz1, HMN.out]) hsrc0 (by rw [flat_length Fa.len, List.length_replicate]; omega) (one_cells Fa.one _)
  have hg3 := setRow_heap W g AF (AF.toList.take 0 ++ flat Fa.cells (List.replicate mn (faOf none)) ++ AF.toList.drop (0 + (flat Fa.cells (List.replicate mn (faOf none))).length)).toArray 43 (0, 0) hh
  have hgr3 := grown_setRow W g (AF.toList.take 0 ++ flat Fa.cells (List.replicate mn (faOf none)) ++ AF.toList.drop (0 + (flat Fa.cells (List.replicate mn (faOf none))).length)).toArray
  rw [HAFl.out] at hcp0 hg3 hgr3
  have hc00 := HC0.out
  rw [show (0 : Nat) * 3 = 0 from rfl] at hc00
  rw [hc00, Nat.zero_add] at hcp0 hg3 hgr3
  obtain ⟨W3, hW3⟩ : ∃ W3, W3 = W.setRow g (flat Fa.cells (repL n mn)).toArray := ⟨_, rfl⟩
  rw [← hW3] at hcp0 hg3 hgr3
  have hb3 : Below w'.heap.size w' W3 := hb0.grown hgr3 (by have := hb0.size; omega) (fun q hq => by cases hq; exact hle1)
  rw [← HMN.out] at hcp0
  clear hW3 hc00 hsrc0 hvb2 hgr3 hb0
  go_wp2
  clear hcp0
  go_loopw [8] (fun ix wr => ∃ j : Nat, j ≤ n ∧ (n = 0 ∨ 1 ≤ j) ∧ ix = .int .i64 j ∧ wr.heap[g]? = some (.cells (flat Fa.cells (repL n j)).toArray 43 (0, 0)) ∧ Below w'.heap.size w' wr) (fun ix _ => n - (intOf ix).toNat)
  case atStart => exact ⟨mn, hm1, by omega, by rw [HMN.out], hg3, hb3⟩
  case round =>
    clear hg3 hb3 hh hgl
    obtain ⟨j, hj, hj1, rfl, hg3, hb3⟩ := hrel
    by_cases hlt : j < n
    · obtain ⟨q, hq⟩ : ∃ q, q = Nat.min j (n - j) := ⟨_, rfl⟩
      have hq1 : q ≤ j ∧ q ≤ n - j ∧ 1 ≤ q := by
        have h1 : Nat.min j (n - j) ≤ j := Nat.min_le_left _ _
        have h2 : Nat.min j (n - j) ≤ n - j := Nat.min_le_right _ _
        have h3 : Nat.min j (n - j) = j ∨ Nat.min j (n - j) = n - j := by
          rcases Nat.le_total j (n - j) with h | h
          · exact .inl (Nat.min_eq_left h)
          · exact .inr (Nat.min_eq_right h)
        omega
      obtain ⟨hqj, hqn, hq0⟩ := hq1
      have hCC := repL_copy n j q (by omega)
      have hgw : g < wr.heap.size := (Array.getElem?_eq_some_iff.1 hg3).1
      have hsrc : ∀ k v, (flat Fa.cells (List.replicate q (faOf none)))[k]? = some v → wr.cell? ((⟨g, 0, none⟩ : Addr).add k) = some v := by
        intro k v hk
        rw [Addr.add_lit, Nat.zero_add, cell_of_row _ _ _ _ _ _ hg3, List.getElem?_toArray]
        have hkl : k < (flat Fa.cells (List.replicate q (faOf none))).length := (List.getElem?_eq_some_iff.1 hk).1
        unfold repL
        have e9 : List.replicate j (faOf none) = List.replicate q (faOf none) ++ List.replicate (j - q) (faOf none) := by rw [List.replicate_append_replicate]; congr 1; omega
        rw [e9, List.append_assoc, flat_append, List.getElem?_append_left hkl]
        exact hk
      have hcs : (flat Fa.cells (List.replicate q (faOf none))).length = q * 3 := by rw [flat_length Fa.len, List.length_replicate]
      have hcurl : (flat Fa.cells (repL n j)).length = n * 3 := by rw [flat_length Fa.len]; unfold repL; simp; omega
      have hcp := run_copy_k (P := Tryz.prog) wr.drew 31 31 3 43 i0 g (j * 3) (n - j) (n - j) ⟨g, 0, none⟩ j n (flat Fa.cells (repL n j)).toArray 43 (flat Fa.cells (List.replicate q (faOf none))) Tryz.underlying31 hi0 hg3 (by rw [hcs, hz1, hq]) hsrc (by simp only [List.size_toArray]; omega) (one_cells Fa.one _)
      have hg4 := setRow_heap wr.drew g (flat Fa.cells (repL n j)).toArray (((flat Fa.cells (repL n j)).toArray.toList.take (j * 3) ++ flat Fa.cells (List.replicate q (faOf none)) ++ (flat Fa.cells (repL n j)).toArray.toList.drop (j * 3 + (flat Fa.cells (List.replicate q (faOf none))).length)).toArray) 43 (0, 0) hg3
      have hgr4 := grown_setRow wr.drew g (((flat Fa.cells (repL n j)).toArray.toList.take (j * 3) ++ flat Fa.cells (List.replicate q (faOf none)) ++ (flat Fa.cells (repL n j)).toArray.toList.drop (j * 3 + (flat Fa.cells (List.replicate q (faOf none))).length)).toArray)
      simp only [List.toList_toArray] at hcp hg4 hgr4
      rw [hCC] at hcp hg4 hgr4
      rw [← hq] at hcp
      obtain ⟨W4, hW4⟩ : ∃ W4, W4 = wr.drew.setRow g (flat Fa.cells (repL n (j + q))).toArray := ⟨_, rfl⟩
      rw [← hW4] at hcp hg4 hgr4
      have hb4 : Below w'.heap.size w' W4 := (bl_drew hb3).grown hgr4 (by have := hb3.size; show w'.heap.size ≤ wr.heap.size; omega) (fun q hq => by cases hq; exact hle1)
      have s3 : IntKind.i64.wrap ((j : Int) + (q : Int)) = (j : Int) + q := by rw [IntKind.wrap_i64]; omega
      have hjn : ¬ (n = j) := by omega
      have hjn2 : ¬ (j = n) := by omega
      clear hCC hsrc hcs hcurl hgr4 hW4 hq
      go_wp2
      go_region
      go_roundw
      case rel => exact ⟨_, _, _, _, _, _, _, _, _, _, _, _, _, _, ⟨j + q, by omega, by omega, by push_cast; rfl, hg4, hb4⟩, rfl⟩
      case measure => simp [intOf]; omega
    · have hjn : j = n := by omega
      subst hjn
      go_wp2
      go_ret
      refine ⟨g, rfl, ?_, hb3⟩
      have hrr : repL j j = List.replicate j (faOf none) := by unfold repL; simp
      rw [hrr] at hg3
      exact ⟨by rw [flat_length Fa.len, List.length_replicate], .inr ⟨g, j, _, rfl, hle1, hg3, Nat.le_refl _, by unfold maxLen; omega, by simp only [List.size_toArray]; rw [flat_length Fa.len, List.length_replicate], by rw [List.toList_toArray]; exact List.take_of_length_le (by rw [flat_length Fa.len, List.length_replicate]; omega)⟩⟩
end Go.Proofs.YtmeefmoblkiebaaGreat
/- Contracts: the least hit of a list. -/
namespace Go.Proofs.YtmeefmoblkiebaaGreat
open Go.RowKit
set_option linter.unusedVariables false
set_option linter.unusedSimpArgs false
set_option maxHeartbeats 400000
set_option maxRecDepth 100000
end Go.Proofs.YtmeefmoblkiebaaGreat
/- Contracts: which pushes and falls are valid (the program). -/
namespace Go.Proofs.YtmeefmoblkiebaaGreat
open Go.RowKit
set_option linter.unusedVariables false
set_option linter.unusedSimpArgs false
set_option maxHeartbeats 400000
set_option maxRecDepth 100000
end Go.Proofs.YtmeefmoblkiebaaGreat
/- Contracts: the hits of pushes. -/
namespace Go.Proofs.YtmeefmoblkiebaaGreat
open Go.RowKit
set_option linter.unusedVariables false
set_option linter.unusedSimpArgs false
set_option maxHeartbeats 400000
set_option maxRecDepth 100000
def hitOf (l : Bd) (p : Pu) : Hi := ⟨p.t, fnd ⟨p.x, p.y⟩ l.ps, p.s, -1⟩
end Go.Proofs.YtmeefmoblkiebaaGreat
/- A board that is ready to be run: plain words. -/
namespace Go.Proofs.YtmeefmoblkiebaaGreat
open Go.RowKit
set_option linter.unusedVariables false
set_option linter.unusedSimpArgs false
set_option maxHeartbeats 400000
set_option maxRecDepth 100000
theorem fnd_lo (c : Ce) (ps : List Pc) : fnd c ps = -1 ∨ (0 ≤ fnd c ps ∧ fnd c ps < ps.length) := by
  unfold fnd
  cases hf : ps.findIdx? (fun p => decide (p.at_ = c)) with
  | none => left; rfl
  | some k =>
    rw [List.findIdx?_eq_some_iff_getElem] at hf
    obtain ⟨g1, -, -⟩ := hf
    right
    simp only [Option.elim]
    omega
theorem fnd_snoc (c : Ce) (ps : List Pc) (p : Pc) : fnd c (ps ++ [p]) = if 0 ≤ fnd c ps then fnd c ps else if p.at_ = c then (ps.length : Int) else -1 := by
  unfold fnd
  rw [List.findIdx?_append]
  cases hf : ps.findIdx? (fun p => decide (p.at_ = c)) with
  | none =>
    by_cases h : p.at_ = c
    · simp [h]
    · simp [h]
  | some k => simp
theorem fnd_mem (c : Ce) (ps : List Pc) (h : 0 ≤ fnd c ps) : c ∈ ps.map Pc.at_ := by
  unfold fnd at h
  cases hf : ps.findIdx? (fun p => decide (p.at_ = c)) with
  | none => rw [hf] at h; simp at h
  | some k =>
    rw [List.findIdx?_eq_some_iff_getElem] at hf
    obtain ⟨g1, g2, -⟩ := hf
    exact List.mem_map.2 ⟨ps[k], List.getElem_mem g1, by simpa using g2⟩
/-- A map from cells to the places of pieces. -/
def PlaceOk (ps : List Pc) (kv : List (Ce × Value)) : Prop := ∀ c, mget c kv = if 0 ≤ fnd c ps then some (.int .i64 (fnd c ps)) else none
theorem placeOk_nil : PlaceOk [] [] := by intro c; rfl
theorem placeOk_succ (ps : List Pc) (hnd : (ps.map Pc.at_).Nodup) (k : Nat) (h : k < ps.length) (kv : List (Ce × Value)) (h0 : PlaceOk (ps.take k) kv) : PlaceOk (ps.take (k + 1)) (mput ps[k].at_ (.int .i64 k) kv) := by
  intro d
  rw [mget_put, List.take_succ_eq_append_getElem h, fnd_snoc, h0 d]
  have hl : (ps.take k).length = k := by rw [List.length_take, Nat.min_eq_left (by omega)]
  rw [hl]
  by_cases hd : d = ps[k].at_
  · subst hd
    have hno : ¬ 0 ≤ fnd ps[k].at_ (ps.take k) := by
      intro h1
      have h2 := fnd_mem _ _ h1
      have e : ps.map Pc.at_ = (ps.take k).map Pc.at_ ++ (ps.drop k).map Pc.at_ := by rw [← List.map_append, List.take_append_drop]
      rw [e, List.nodup_append] at hnd
      exact hnd.2.2 _ h2 _ (List.mem_map.2 ⟨ps[k], by rw [List.drop_eq_getElem_cons h]; exact List.mem_cons_self, rfl⟩) rfl
    rw [if_pos rfl, if_neg hno, if_pos rfl, if_pos (by omega)]
  · rw [if_neg hd]
    by_cases h1 : 0 ≤ fnd d (ps.take k)
    · simp only [if_pos h1]
    · have e2 : ¬ ps[k].at_ = d := fun e => hd e.symm
      simp only [if_neg h1, if_neg e2]
      rfl
/-- The bits of the sides from which a piece can fall, of the first m sides. -/
def canTo (p : Pc) (m : Nat) : Int := (List.range m).foldl (fun (n : Int) (s : Nat) => if 0 ≤ hitsV p.k p.t s then bits .or .u8 n (orL [(s : Int)]) else n) 0
theorem canTo_succ (p : Pc) (m : Nat) : canTo p (m + 1) = if 0 ≤ hitsV p.k p.t m then bits .or .u8 (canTo p m) (orL [(m : Int)]) else canTo p m := by
  unfold canTo
  rw [List.range_succ, List.foldl_append]
  rfl
def orB (b0 b1 b2 b3 : Bool) : Int :=
  let n0 : Int := if b0 then bits .or .u8 0 (orL [0]) else 0
  let n1 : Int := if b1 then bits .or .u8 n0 (orL [1]) else n0
  let n2 : Int := if b2 then bits .or .u8 n1 (orL [2]) else n1
  if b3 then bits .or .u8 n2 (orL [3]) else n2
theorem canTo_orB (p : Pc) : canTo p 4 = orB (decide (0 ≤ hitsV p.k p.t 0)) (decide (0 ≤ hitsV p.k p.t 1)) (decide (0 ≤ hitsV p.k p.t 2)) (decide (0 ≤ hitsV p.k p.t 3)) := by
  rw [canTo_succ, canTo_succ, canTo_succ, canTo_succ]
  unfold orB
  simp only [decide_eq_true_eq]
  rfl
theorem orB_bits : ∀ b0 b1 b2 b3 : Bool, 0 ≤ orB b0 b1 b2 b3 ∧ orB b0 b1 b2 b3 ≤ 15 ∧ decide (orB b0 b1 b2 b3 / 2 ^ 0 % 2 = 1) = b0 ∧ decide (orB b0 b1 b2 b3 / 2 ^ 1 % 2 = 1) = b1 ∧ decide (orB b0 b1 b2 b3 / 2 ^ 2 % 2 = 1) = b2 ∧ decide (orB b0 b1 b2 b3 / 2 ^ 3 % 2 = 1) = b3 := by decide +kernel
def canV (p : Pc) : Int := canTo p 4
theorem canV_bd (p : Pc) : 0 ≤ canV p ∧ canV p ≤ 15 := by
  unfold canV
  rw [canTo_orB]
  exact ⟨(orB_bits _ _ _ _).1, (orB_bits _ _ _ _).2.1⟩
theorem canV_has (p : Pc) (s : Int) (h1 : 0 ≤ s) (h2 : s ≤ 3) : decide (canV p / 2 ^ s.toNat % 2 = 1) = decide (0 ≤ hitsV p.k p.t s) := by
  unfold canV
  rw [canTo_orB]
  obtain ⟨-, -, e0, e1, e2, e3⟩ := orB_bits (decide (0 ≤ hitsV p.k p.t 0)) (decide (0 ≤ hitsV p.k p.t 1)) (decide (0 ≤ hitsV p.k p.t 2)) (decide (0 ≤ hitsV p.k p.t 3))
  have hs : s = 0 ∨ s = 1 ∨ s = 2 ∨ s = 3 := by omega
  rcases hs with rfl | rfl | rfl | rfl
  · exact e0
  · exact e1
  · exact e2
  · exact e3
theorem hits_le : ∀ k : Fin 6, ∀ t : Fin 4, ∀ s : Fin 4, hitsV ((k : Nat) : Int) ((t : Nat) : Int) ((s : Nat) : Int) ≤ 15 := by decide +kernel
theorem hitsV_le (k t s : Int) (h1 : 0 ≤ k) (h2 : k ≤ 5) (h3 : 0 ≤ t) (h4 : t ≤ 3) (h5 : 0 ≤ s) (h6 : s ≤ 3) : hitsV k t s ≤ 15 := by
  have := hits_le ⟨k.toNat, by omega⟩ ⟨t.toNat, by omega⟩ ⟨s.toNat, by omega⟩
  simpa [Int.toNat_of_nonneg h1, Int.toNat_of_nonneg h3, Int.toNat_of_nonneg h5] using this
def hv0 (p : Pc) (s : Int) : Int := max (hitsV p.k p.t s) 0
/-- The rows of a stage. -/
def canC (p : Pc) : List Value := [.int .u8 (canV p)]
def hitC (p : Pc) : List Value := [.int .u8 (hv0 p 0), .int .u8 (hv0 p 1), .int .u8 (hv0 p 2), .int .u8 (hv0 p 3)]
def besV (ps : List Pc) (p : Pc) (s : Int) : Int := fnd (nxt p.at_ s) ps
def besC (ps : List Pc) (p : Pc) : List Value := [.int .i64 (besV ps p 0), .int .i64 (besV ps p 1), .int .i64 (besV ps p 2), .int .i64 (besV ps p 3)]
theorem canC_len (p : Pc) : (canC p).length = 1 := rfl
theorem hitC_len (p : Pc) : (hitC p).length = 4 := rfl
theorem besC_len (ps : List Pc) (p : Pc) : (besC ps p).length = 4 := rfl
theorem hitC_one (p : Pc) : ∀ u ∈ hitC p, u.oneCell' = true := by
  intro u hu
  simp only [hitC, List.mem_cons, List.not_mem_nil, or_false] at hu
  rcases hu with rfl | rfl | rfl | rfl <;> rfl
theorem besC_one (ps : List Pc) (p : Pc) : ∀ u ∈ besC ps p, u.oneCell' = true := by
  intro u hu
  simp only [besC, List.mem_cons, List.not_mem_nil, or_false] at hu
  rcases hu with rfl | rfl | rfl | rfl <;> rfl
/-- The first m of a row of four. -/
def hitTo (p : Pc) (m : Nat) : List Value := ((hitC p).take m) ++ List.replicate (4 - m) (.int .u8 0)
def besTo (ps : List Pc) (p : Pc) (m : Nat) : List Value := ((besC ps p).take m) ++ List.replicate (4 - m) (.int .i64 0)
theorem hitTo_all (p : Pc) : hitTo p 4 = hitC p := rfl
theorem besTo_all (ps : List Pc) (p : Pc) : besTo ps p 4 = besC ps p := rfl
theorem hitTo_set (p : Pc) (m : Nat) (h : m < 4) : (hitTo p m).set m (.int .u8 (hv0 p m)) = hitTo p (m + 1) := by
  have : m = 0 ∨ m = 1 ∨ m = 2 ∨ m = 3 := by omega
  rcases this with rfl | rfl | rfl | rfl <;> rfl
theorem besTo_set (ps : List Pc) (p : Pc) (m : Nat) (h : m < 4) : (besTo ps p m).set m (.int .i64 (besV ps p m)) = besTo ps p (m + 1) := by
  have : m = 0 ∨ m = 1 ∨ m = 2 ∨ m = 3 := by omega
  rcases this with rfl | rfl | rfl | rfl <;> rfl
/-- A stage in memory. -/
def StAt (w : World) (g : Nat) (l : Bd) : Prop :=
  g < w.heap.size ∧ ∃ v0 v1 v2 v3, (w.cell? ⟨g, 0, none⟩ = some v0 ∧ w.cell? ⟨g, 1, none⟩ = some v1 ∧ w.cell? ⟨g, 2, none⟩ = some v2 ∧ w.cell? ⟨g, 3, none⟩ = some v3) ∧
    PV w v0 l.ps ∧ SV canC w v1 l.ps ∧ SV hitC w v2 l.ps ∧ SV (besC l.ps) w v3 l.ps
theorem StAt.step {w w' : World} {g : Nat} {l : Bd} (h : StAt w g l) (hb : Below w.heap.size w w') : StAt w' g l := by
  obtain ⟨h1, v0, v1, v2, v3, ⟨c0, c1, c2, c3⟩, p0, p1, p2, p3⟩ := h
  refine ⟨Nat.lt_of_lt_of_le h1 hb.size, v0, v1, v2, v3, ⟨?_, ?_, ?_, ?_⟩, p0.step hb, p1.step hb, p2.step hb, p3.step hb⟩
  · rw [hb.cell (p := ⟨g, _, none⟩) h1]; exact c0
  · rw [hb.cell (p := ⟨g, _, none⟩) h1]; exact c1
  · rw [hb.cell (p := ⟨g, _, none⟩) h1]; exact c2
  · rw [hb.cell (p := ⟨g, _, none⟩) h1]; exact c3
end Go.Proofs.YtmeefmoblkiebaaGreat
/- What holds of the world while a stage's three rows are appended to. -/
namespace Go.Proofs.YtmeefmoblkiebaaGreat
open Go.RowKit
set_option linter.unusedVariables false
set_option linter.unusedSimpArgs false
set_option maxHeartbeats 400000
set_option maxRecDepth 100000
structure Cst where
  w : World
  kv : List (Ce × Value)
  sv : Value
  v1 : Value
  v2 : Value
  v3 : Value
  b8 : Nat
  a0 : Value
  a1 : Value
  a2 : Value
  a3 : Value
  e0 : Value
  e1 : Value
  e2 : Value
  e3 : Value
structure R3 (K : Cst) (Y : World) (Ls : List (Nat × Array Value × TypeId)) (x1 x2 x3 : Value) (n1 n2 n3 : Nat) (c1 c2 c3 : List Value) : Prop where
  st : Y.ownsRow K.w.heap.size 183 4 (.slice (some ⟨K.w.heap.size, 0, none⟩) 1 1) 1 [K.sv, K.v1, K.v2, K.v3]
  r1 : Y.ownsRow (K.w.heap.size + 2) 185 1 x1 n1 c1
  r2 : Y.ownsRow (K.w.heap.size + 2) 186 4 x2 n2 c2
  r3 : Y.ownsRow (K.w.heap.size + 2) 187 4 x3 n3 c3
  d12 : ∀ q, x1.ownBlock = some q → x2.ownBlock ≠ some q
  d13 : ∀ q, x1.ownBlock = some q → x3.ownBlock ≠ some q
  d23 : ∀ q, x2.ownBlock = some q → x3.ownBlock ≠ some q
  mp : MapAt Y (K.w.heap.size + 1) K.kv
  bw : Below K.w.heap.size K.w Y
  o10 : Y.ownsRow (K.b8 + 1) 186 4 (.slice (some ⟨K.b8 + 1, 0, none⟩) 1 1) 1 [K.a0, K.a1, K.a2, K.a3]
  o11 : Y.ownsRow (K.b8 + 1) 187 4 (.slice (some ⟨K.b8 + 1 + 1, 0, none⟩) 1 1) 1 [K.e0, K.e1, K.e2, K.e3]
  lits : ∀ p ∈ Ls, K.b8 + 1 + 1 < p.1 ∧ Y.heap[p.1]? = some (.cells p.2.1 p.2.2 (0, 0))
theorem R3.step {K : Cst} {Y Y' : World} {Ls : List (Nat × Array Value × TypeId)} {x1 x2 x3 : Value} {n1 n2 n3 : Nat} {c1 c2 c3 : List Value} (h : R3 K Y Ls x1 x2 x3 n1 n2 n3 c1 c2 c3) (hb : Below Y.heap.size Y Y') : R3 K Y' Ls x1 x2 x3 n1 n2 n3 c1 c2 c3 where
  st := own_below h.st hb (Nat.le_refl _)
  r1 := own_below h.r1 hb (Nat.le_refl _)
  r2 := own_below h.r2 hb (Nat.le_refl _)
  r3 := own_below h.r3 hb (Nat.le_refl _)
  d12 := h.d12
  d13 := h.d13
  d23 := h.d23
  mp := map_below h.mp hb (map_lt h.mp)
  bw := bl_trans h.bw hb
  o10 := own_below h.o10 hb (Nat.le_refl _)
  o11 := own_below h.o11 hb (Nat.le_refl _)
  lits := fun p hp => ⟨(h.lits p hp).1, by rw [hb.block p.1 (Array.getElem?_eq_some_iff.1 (h.lits p hp).2).1]; exact (h.lits p hp).2⟩
theorem R3.lit {K : Cst} {Y : World} {Ls : List (Nat × Array Value × TypeId)} {x1 x2 x3 : Value} {n1 n2 n3 : Nat} {c1 c2 c3 : List Value} (h : R3 K Y Ls x1 x2 x3 n1 n2 n3 c1 c2 c3) (cs : Array Value) (T : TypeId) : R3 K (Y.alloc (.cells cs T)) ((Y.heap.size, cs, T) :: Ls) x1 x2 x3 n1 n2 n3 c1 c2 c3 :=
  { h.step (bl_alloc (o := .cells cs T) (Below.refl _ Y)) with
    lits := by
      intro p hp
      rcases List.mem_cons.1 hp with rfl | hp
      · exact ⟨(h.o11.lt _ rfl).2, heap_alloc_new Y _⟩
      · exact (h.step (bl_alloc (o := .cells cs T) (Below.refl _ Y))).lits p hp }
theorem R3.forget {K : Cst} {Y : World} {Ls : List (Nat × Array Value × TypeId)} {x1 x2 x3 : Value} {n1 n2 n3 : Nat} {c1 c2 c3 : List Value} (h : R3 K Y Ls x1 x2 x3 n1 n2 n3 c1 c2 c3) : R3 K Y [] x1 x2 x3 n1 n2 n3 c1 c2 c3 :=
  { h with lits := fun p hp => by cases hp }
/-- The cells that the loads read. -/
theorem R3.S {K : Cst} {Y : World} {Ls : List (Nat × Array Value × TypeId)} {x1 x2 x3 : Value} {n1 n2 n3 : Nat} {c1 c2 c3 : List Value} (h : R3 K Y Ls x1 x2 x3 n1 n2 n3 c1 c2 c3) :
    Y.cell? ⟨K.w.heap.size, 1, none⟩ = some K.v1 ∧ Y.cell? ⟨K.w.heap.size, 2, none⟩ = some K.v2 ∧ Y.cell? ⟨K.w.heap.size, 3, none⟩ = some K.v3 ∧
    Y.cell? ⟨K.b8 + 1, 0, none⟩ = some K.a0 ∧ Y.cell? ⟨K.b8 + 1, 1, none⟩ = some K.a1 ∧ Y.cell? ⟨K.b8 + 1, 2, none⟩ = some K.a2 ∧ Y.cell? ⟨K.b8 + 1, 3, none⟩ = some K.a3 ∧
    Y.cell? ⟨K.b8 + 1 + 1, 0, none⟩ = some K.e0 ∧ Y.cell? ⟨K.b8 + 1 + 1, 1, none⟩ = some K.e1 ∧ Y.cell? ⟨K.b8 + 1 + 1, 2, none⟩ = some K.e2 ∧ Y.cell? ⟨K.b8 + 1 + 1, 3, none⟩ = some K.e3 := by
  refine ⟨?_, ?_, ?_, ?_, ?_, ?_, ?_, ?_, ?_, ?_, ?_⟩
  · rw [h.st.cellAt _ (by omega)]; rfl
  · rw [h.st.cellAt _ (by omega)]; rfl
  · rw [h.st.cellAt _ (by omega)]; rfl
  · rw [h.o10.cellAt _ (by omega)]; rfl
  · rw [h.o10.cellAt _ (by omega)]; rfl
  · rw [h.o10.cellAt _ (by omega)]; rfl
  · rw [h.o10.cellAt _ (by omega)]; rfl
  · rw [h.o11.cellAt _ (by omega)]; rfl
  · rw [h.o11.cellAt _ (by omega)]; rfl
  · rw [h.o11.cellAt _ (by omega)]; rfl
  · rw [h.o11.cellAt _ (by omega)]; rfl
theorem R3.app1 {K : Cst} {Y Y' : World} {Ls : List (Nat × Array Value × TypeId)} {x1 x2 x3 : Value} {n1 n2 n3 : Nat} {c1 c2 c3 : List Value} (h : R3 K Y Ls x1 x2 x3 n1 n2 n3 c1 c2 c3) (hlo : ∀ q, x1.ownBlock = some q → q < K.b8) {g cap : Nat} {c' : List Value}
    (hown : Y'.ownsRow (K.w.heap.size + 2) 185 1 (.slice (some ⟨g, 0, none⟩) (n1 + 1) cap) (n1 + 1) c') (hg : Y.grownBy Y' x1.ownBlock) (hat : x1.ownBlock = some g ∨ g = Y.heap.size) : R3 K Y' Ls (.slice (some ⟨g, 0, none⟩) (n1 + 1) cap) x2 x3 (n1 + 1) n2 n3 c' c2 c3 where
  st := own_kept h.st hg (fun q hq e => by have h9 : some K.w.heap.size = some q := hq; cases h9; have := (h.r1.lt _ (by first | exact e | exact e.symm)).1; omega)
  r1 := hown
  r2 := own_kept h.r2 hg (fun q hq e => by first | exact h.d12 q e hq | exact h.d12 q e.symm hq)
  r3 := own_kept h.r3 hg (fun q hq e => by first | exact h.d13 q e hq | exact h.d13 q e.symm hq)
  d12 := fun q hq e => by
    have h9 : some g = some q := hq
    cases h9
    rcases hat with h1 | h1
    · exact h.d12 g h1 e
    · have := (h.r2.lt g e).2; omega
  d13 := fun q hq e => by
    have h9 : some g = some q := hq
    cases h9
    rcases hat with h1 | h1
    · exact h.d13 g h1 e
    · have := (h.r3.lt g e).2; omega
  d23 := h.d23
  mp := by
    obtain ⟨es, clock, m1, m2⟩ := h.mp
    exact ⟨es, clock, by rw [hg.block _ (map_lt h.mp) (fun e => by have := (h.r1.lt _ e.symm).1; omega)]; exact m1, m2⟩
  bw := bl_grown h.bw hg (fun q hq => by have := (h.r1.lt q hq).1; omega)
  o10 := own_kept h.o10 hg (fun q hq e => by have h9 : some (K.b8 + 1) = some q := hq; cases h9; have := hlo _ (by first | exact e | exact e.symm); omega)
  o11 := own_kept h.o11 hg (fun q hq e => by have h9 : some (K.b8 + 1 + 1) = some q := hq; cases h9; have := hlo _ (by first | exact e | exact e.symm); omega)
  lits := fun p hp => ⟨(h.lits p hp).1, by rw [hg.block p.1 (Array.getElem?_eq_some_iff.1 (h.lits p hp).2).1 (fun e => by have := hlo _ e.symm; have := (h.lits p hp).1; omega)]; exact (h.lits p hp).2⟩
theorem R3.app2 {K : Cst} {Y Y' : World} {Ls : List (Nat × Array Value × TypeId)} {x1 x2 x3 : Value} {n1 n2 n3 : Nat} {c1 c2 c3 : List Value} (h : R3 K Y Ls x1 x2 x3 n1 n2 n3 c1 c2 c3) (hlo : ∀ q, x2.ownBlock = some q → q < K.b8) {g cap : Nat} {c' : List Value}
    (hown : Y'.ownsRow (K.w.heap.size + 2) 186 4 (.slice (some ⟨g, 0, none⟩) (n2 + 1) cap) (n2 + 1) c') (hg : Y.grownBy Y' x2.ownBlock) (hat : x2.ownBlock = some g ∨ g = Y.heap.size) : R3 K Y' Ls x1 (.slice (some ⟨g, 0, none⟩) (n2 + 1) cap) x3 n1 (n2 + 1) n3 c1 c' c3 where
  st := own_kept h.st hg (fun q hq e => by have h9 : some K.w.heap.size = some q := hq; cases h9; have := (h.r2.lt _ (by first | exact e | exact e.symm)).1; omega)
  r1 := own_kept h.r1 hg (fun q hq e => by first | exact h.d12 q hq e | exact h.d12 q hq e.symm)
  r2 := hown
  r3 := own_kept h.r3 hg (fun q hq e => by first | exact h.d23 q e hq | exact h.d23 q e.symm hq)
  d12 := fun q hq e => by
    have h9 : some g = some q := e
    cases h9
    rcases hat with h1 | h1
    · exact h.d12 g hq h1
    · have := (h.r1.lt g hq).2; omega
  d13 := h.d13
  d23 := fun q hq e => by
    have h9 : some g = some q := hq
    cases h9
    rcases hat with h1 | h1
    · exact h.d23 g h1 e
    · have := (h.r3.lt g e).2; omega
  mp := by
    obtain ⟨es, clock, m1, m2⟩ := h.mp
    exact ⟨es, clock, by rw [hg.block _ (map_lt h.mp) (fun e => by have := (h.r2.lt _ e.symm).1; omega)]; exact m1, m2⟩
  bw := bl_grown h.bw hg (fun q hq => by have := (h.r2.lt q hq).1; omega)
  o10 := own_kept h.o10 hg (fun q hq e => by have h9 : some (K.b8 + 1) = some q := hq; cases h9; have := hlo _ (by first | exact e | exact e.symm); omega)
  o11 := own_kept h.o11 hg (fun q hq e => by have h9 : some (K.b8 + 1 + 1) = some q := hq; cases h9; have := hlo _ (by first | exact e | exact e.symm); omega)
  lits := fun p hp => ⟨(h.lits p hp).1, by rw [hg.block p.1 (Array.getElem?_eq_some_iff.1 (h.lits p hp).2).1 (fun e => by have := hlo _ e.symm; have := (h.lits p hp).1; omega)]; exact (h.lits p hp).2⟩
theorem R3.app3 {K : Cst} {Y Y' : World} {Ls : List (Nat × Array Value × TypeId)} {x1 x2 x3 : Value} {n1 n2 n3 : Nat} {c1 c2 c3 : List Value} (h : R3 K Y Ls x1 x2 x3 n1 n2 n3 c1 c2 c3) (hlo : ∀ q, x3.ownBlock = some q → q < K.b8) {g cap : Nat} {c' : List Value}
    (hown : Y'.ownsRow (K.w.heap.size + 2) 187 4 (.slice (some ⟨g, 0, none⟩) (n3 + 1) cap) (n3 + 1) c') (hg : Y.grownBy Y' x3.ownBlock) (hat : x3.ownBlock = some g ∨ g = Y.heap.size) : R3 K Y' Ls x1 x2 (.slice (some ⟨g, 0, none⟩) (n3 + 1) cap) n1 n2 (n3 + 1) c1 c2 c' where
  st := own_kept h.st hg (fun q hq e => by have h9 : some K.w.heap.size = some q := hq; cases h9; have := (h.r3.lt _ (by first | exact e | exact e.symm)).1; omega)
  r1 := own_kept h.r1 hg (fun q hq e => by first | exact h.d13 q hq e | exact h.d13 q hq e.symm)
  r2 := own_kept h.r2 hg (fun q hq e => by first | exact h.d23 q hq e | exact h.d23 q hq e.symm)
  r3 := hown
  d12 := h.d12
  d13 := fun q hq e => by
    have h9 : some g = some q := e
    cases h9
    rcases hat with h1 | h1
    · exact h.d13 g hq h1
    · have := (h.r1.lt g hq).2; omega
  d23 := fun q hq e => by
    have h9 : some g = some q := e
    cases h9
    rcases hat with h1 | h1
    · exact h.d23 g hq h1
    · have := (h.r2.lt g hq).2; omega
  mp := by
    obtain ⟨es, clock, m1, m2⟩ := h.mp
    exact ⟨es, clock, by rw [hg.block _ (map_lt h.mp) (fun e => by have := (h.r3.lt _ e.symm).1; omega)]; exact m1, m2⟩
  bw := bl_grown h.bw hg (fun q hq => by have := (h.r3.lt q hq).1; omega)
  o10 := own_kept h.o10 hg (fun q hq e => by have h9 : some (K.b8 + 1) = some q := hq; cases h9; have := hlo _ (by first | exact e | exact e.symm); omega)
  o11 := own_kept h.o11 hg (fun q hq e => by have h9 : some (K.b8 + 1 + 1) = some q := hq; cases h9; have := hlo _ (by first | exact e | exact e.symm); omega)
  lits := fun p hp => ⟨(h.lits p hp).1, by rw [hg.block p.1 (Array.getElem?_eq_some_iff.1 (h.lits p hp).2).1 (fun e => by have := hlo _ e.symm; have := (h.lits p hp).1; omega)]; exact (h.lits p hp).2⟩
theorem Tryz.infoSides : (Tryz.prog.info? 185).map (fun i => (i.zero, i.size, i.bytes)) = some (some (.int .u8 0), 1, 1) := by kernel_rfl
theorem Tryz.info4Sides : (Tryz.prog.info? 186).map (fun i => (i.zero, i.size, i.bytes)) = some (some (.agg #[.int .u8 0, .int .u8 0, .int .u8 0, .int .u8 0]), 4, 4) := by kernel_rfl
theorem Tryz.info4Int : (Tryz.prog.info? 187).map (fun i => (i.zero, i.size, i.bytes)) = some (some (.agg #[.int .i64 0, .int .i64 0, .int .i64 0, .int .i64 0]), 4, 32) := by kernel_rfl
theorem R3.done {K : Cst} {Y : World} {Ls : List (Nat × Array Value × TypeId)} {x1 x2 x3 : Value} {n1 n2 n3 : Nat} {c1 c2 c3 : List Value} (h : R3 K Y Ls x1 x2 x3 n1 n2 n3 c1 c2 c3) :
    (setCells Y K.w.heap.size 1 [x1, x2, x3]).ownsRow K.w.heap.size 183 4 (.slice (some ⟨K.w.heap.size, 0, none⟩) 1 1) 1 [K.sv, x1, x2, x3] ∧
    (setCells Y K.w.heap.size 1 [x1, x2, x3]).ownsRow (K.w.heap.size + 2) 185 1 x1 n1 c1 ∧ (setCells Y K.w.heap.size 1 [x1, x2, x3]).ownsRow (K.w.heap.size + 2) 186 4 x2 n2 c2 ∧ (setCells Y K.w.heap.size 1 [x1, x2, x3]).ownsRow (K.w.heap.size + 2) 187 4 x3 n3 c3 ∧
    MapAt (setCells Y K.w.heap.size 1 [x1, x2, x3]) (K.w.heap.size + 1) K.kv ∧ (∀ q, x1.ownBlock = some q → x2.ownBlock ≠ some q ∧ x3.ownBlock ≠ some q) ∧ (∀ q, x2.ownBlock = some q → x3.ownBlock ≠ some q) ∧ K.w.heap.size + 1 < (setCells Y K.w.heap.size 1 [x1, x2, x3]).heap.size ∧ Below K.w.heap.size K.w (setCells Y K.w.heap.size 1 [x1, x2, x3]) := by
  have hs := own_setCells [x1, x2, x3] (A := [K.sv]) (R := [K.v1, K.v2, K.v3]) (j := 1) h.st rfl (Nat.le_refl _)
  have hg := grown_setCells K.w.heap.size [x1, x2, x3] Y 1
  have hk : ∀ v : Value, (∀ q, v.ownBlock = some q → K.w.heap.size + 2 ≤ q) → ∀ q, v.ownBlock = some q → some q ≠ some K.w.heap.size := fun v hv q hq e => by cases e; have := hv _ hq; omega
  have hb := bl_grown h.bw hg (fun q hq => by cases hq; exact Nat.le_refl _)
  have hm := map_lt h.mp
  refine ⟨hs, own_kept h.r1 hg (hk x1 fun q hq => (h.r1.lt q hq).1), own_kept h.r2 hg (hk x2 fun q hq => (h.r2.lt q hq).1), own_kept h.r3 hg (hk x3 fun q hq => (h.r3.lt q hq).1), ?_, fun q hq => ⟨h.d12 q hq, h.d13 q hq⟩, h.d23, ?_, hb⟩
  · obtain ⟨es, clock, m1, m2⟩ := h.mp
    exact ⟨es, clock, by rw [hg.block _ hm (fun e => by simp at e)]; exact m1, m2⟩
  · exact Nat.lt_of_lt_of_le hm hg.size
end Go.Proofs.YtmeefmoblkiebaaGreat
